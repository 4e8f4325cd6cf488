/- Walks: the document's number, tag, lengthy, content: what a reader's state says of them. -/
import Derived.Test.YtldfbjcicbfidaaR8
import Derived.Test.YtldfbjcicbfidaaSkB
import Derived.Test.YtldfbjcicbfidaaV18
set_option linter.unusedVariables false
set_option linter.unusedSimpArgs false
namespace Go.Proofs.Ytldfbjcicbfidaa
open Go.Sk
set_option maxRecDepth 100000
attribute [local irreducible] Cs Own Ex Pu Yld RT LJ QJ AtQ CT Rd QSp Sp FinQ Then LoopQ CutQ DT TakeQ EffQ
attribute [local irreducible] Wr Lo Df Lft
variable {B : World} {R : List HP}
theorem number_fn {n c at_ en : Nat} {a : Option Addr} {bs : List Int} (hR : Rd B R a n c 1 (ints .u8 bs)) (hb : Bytes bs) (h1 : at_ ≤ en) (h2 : en ≤ n) (h3 : n ≤ 140737488355328) :
    Sp B Try.prog 134 [sl8 a n c, .int .i64 at_, .int .i64 en] R [] (fun v H' => v = .tuple #[.int .u64 (RS.varint bs ⟨at_, en, 0, 0⟩).1, .int .i64 (RS.varint bs ⟨at_, en, 0, 0⟩).2.at_, .int .i64 (RS.varint bs ⟨at_, en, 0, 0⟩).2.e] ∧ H' = []) := by
  refine Sp.body Try.func134 rfl Try.ntmps134 (by simp) ?_
  simp only [argE, List.cons_append, List.nil_append, Nat.zero_add, Nat.reduceAdd]
  repeat' (first|((first|refine vc_id ?_|(refine RT.id ?_;refine RT.c T ?_));(conv=>whnf);first|refine RT.id ?_|(refine⟨fun hc=>?_,fun hc=>?_⟩<;>first|(exfalso;omega)|skip)|(apply num_k;omega;omega)|(apply num_m;intro r hr)|(intro r hr))|(refine RT.id ?_;first|refine RT.nil ?_|(apply RT.ld T;exact rfl;(focus ((repeat constructor);done));iterate 4 exact rfl)|(apply RT.st T;(iterate 3 exact rfl);(focus ((repeat constructor);done));(focus repeat constructor);iterate 2 exact rfl)|((first|apply RT.box|apply RT.alloc T);(iterate 4 exact rfl);intro b)|((first|apply RT.pnil T|apply RT.pnnil T);iterate 6 exact rfl)|(refine RT.isPush ?_;refine RT.pushI T rfl rfl rfl (fun a' c'=>by ((repeat constructor);done)) (by omega) (by omega) rfl rfl rfl rfl (fun a' c' b' c1' hac=>?_))|refine RT.build T rfl rfl rfl rfl rfl ?_|(apply RT.lens T;iterate 4 exact rfl))|(refine AtQ.id_ ?_;first|refine nx ?_|refine A0 ?_|refine A9 ?_|refine AtQ.in_ne rfl ?_)|(refine CT.id_ ?_;first|refine nx ?_|refine CT.region ?_|refine CT.quiet mixed (by kernel_rfl) ?_|refine CT.cond_t rfl ?_|refine CT.cond_f rfl ?_))
  have hlen := hR.len
  rw [ints_len] at hlen
  have hgo : ∀ V, V = RS.varint bs ⟨at_, en, 0, 0⟩ → V = match vr (RS.seg bs ⟨at_, en, 0, 0⟩) 0 0 with
    | .ok v k => (v, ⟨at_ + k, en, 0, 0⟩) | .short => (0, ⟨at_, en, 10, at_⟩) | .long => (0, ⟨at_, en, 11, at_⟩) := fun V h => by subst h; rfl
  generalize RS.varint bs ⟨at_, en, 0, 0⟩ = V at *
  have hgo := hgo V rfl
  generalize hL : RS.seg bs ⟨at_, en, 0, 0⟩ = L at hgo
  have hL : (bs.drop at_).take (en - at_) = L := hL
  have hlong : ∀ l i v, ¬ i < 10 → vr l i v = .long := fun l i v h => by cases l <;> (simp only [vr]; rw [if_neg h])
  have hLl : L.length = en - at_ := by rw [← hL]; simp; omega
  refine CT.loop (α := Nat × Int) (fun x => [(0, sl8 a n c), (1, .int .i64 at_), (2, .int .i64 en), (9, .int .u64 x.2), (10, .int .i64 x.1)])
    (fun x => Pu (x.1 ≤ 10 ∧ 0 ≤ x.2 ∧ x.2 < 2 ^ (7 * x.1) ∧ x.1 ≤ en - at_ ∧ vr L 0 0 = vr (L.drop x.1) x.1 x.2) :: R)
    (fun x => 10 - x.1) (0, 0) ⟨rfl, rfl, rfl, rfl, rfl, trivial⟩ (fun w h => h.pu_in ⟨by omega, by omega, by decide, by omega, rfl⟩) (fun x => CT.pu fun hx => ?_)
  obtain ⟨i, v⟩ := x
  obtain ⟨hi, hv0, hv1, hil, hvr⟩ := hx
  simp only at hi hv0 hv1 hil hvr ⊢
  repeat' (first|((first|refine vc_id ?_|(refine RT.id ?_;refine RT.c T ?_));(conv=>whnf);first|refine RT.id ?_|(refine⟨fun hc=>?_,fun hc=>?_⟩<;>first|(exfalso;omega)|skip)|(apply num_k;omega;omega)|(apply num_m;intro r hr)|(intro r hr))|(refine RT.id ?_;first|refine RT.nil ?_|(apply RT.ld T;exact rfl;(focus ((repeat constructor);done));iterate 4 exact rfl)|(apply RT.st T;(iterate 3 exact rfl);(focus ((repeat constructor);done));(focus repeat constructor);iterate 2 exact rfl)|((first|apply RT.box|apply RT.alloc T);(iterate 4 exact rfl);intro b)|((first|apply RT.pnil T|apply RT.pnnil T);iterate 6 exact rfl)|(refine RT.isPush ?_;refine RT.pushI T rfl rfl rfl (fun a' c'=>by ((repeat constructor);done)) (by omega) (by omega) rfl rfl rfl rfl (fun a' c' b' c1' hac=>?_))|refine RT.build T rfl rfl rfl rfl rfl ?_|(apply RT.lens T;iterate 4 exact rfl))|(refine AtQ.id_ ?_;first|refine nx ?_|refine A0 ?_|refine A9 ?_|refine AtQ.in_ne rfl ?_)|(refine CT.id_ ?_;first|refine nx ?_|refine CT.region ?_|refine CT.quiet mixed (by kernel_rfl) ?_|refine CT.cond_t rfl ?_|refine CT.cond_f rfl ?_))
  · have hnil : L.drop i = [] := List.drop_eq_nil_of_le (by omega)
    have hv : vr L 0 0 = .short := by rw [hvr, hnil]; simp only [vr]; rw [if_pos (by omega)]
    rw [hv] at hgo
    subst hgo
    exact AtQ.f3 (HH := []) Try.results134 rfl rfl rfl rfl rfl rfl (fun w h => h)
  · apply RT.ix T (j := at_ + i); exact rfl; exact rfl; exact rfl; exact hR; omega; omega; omega; exact rfl; exact rfl
    apply RT.ldi T; exact rfl; exact hR; omega; exact rfl; exact rfl; exact rfl
    have hxb := hb.get (at_ + i)
    have hdrop : L.drop i = bs.getD (at_ + i) 0 :: L.drop (i + 1) := by
      rw [List.drop_eq_getElem_cons (by omega : i < L.length)]
      subst hL
      simp [List.getElem_take, List.getElem_drop, List.getElem?_eq_getElem (show at_ + i < bs.length by omega)]
    generalize bs.getD (at_ + i) 0 = x at *
    have hxb2 := hxb
    obtain ⟨hx0, hx1⟩ := hxb2
    have hgo2 : ¬ (i = 9 ∧ 1 < x) → x < 128 ∨ i ≠ 9 := by omega
    repeat' (first|((first|refine vc_id ?_|(refine RT.id ?_;refine RT.c T ?_));(conv=>whnf);first|refine RT.id ?_|(refine⟨fun hc=>?_,fun hc=>?_⟩<;>first|(exfalso;omega)|skip)|(apply num_k;omega;omega)|(apply num_m;intro r hr)|(intro r hr))|(refine RT.id ?_;first|refine RT.nil ?_|(apply RT.ld T;exact rfl;(focus ((repeat constructor);done));iterate 4 exact rfl)|(apply RT.st T;(iterate 3 exact rfl);(focus ((repeat constructor);done));(focus repeat constructor);iterate 2 exact rfl)|((first|apply RT.box|apply RT.alloc T);(iterate 4 exact rfl);intro b)|((first|apply RT.pnil T|apply RT.pnnil T);iterate 6 exact rfl)|(refine RT.isPush ?_;refine RT.pushI T rfl rfl rfl (fun a' c'=>by ((repeat constructor);done)) (by omega) (by omega) rfl rfl rfl rfl (fun a' c' b' c1' hac=>?_))|refine RT.build T rfl rfl rfl rfl rfl ?_|(apply RT.lens T;iterate 4 exact rfl))|(refine AtQ.id_ ?_;first|refine nx ?_|refine A0 ?_|refine A9 ?_|refine AtQ.in_ne rfl ?_)|(refine CT.id_ ?_;first|refine nx ?_|refine CT.region ?_|refine CT.quiet mixed (by kernel_rfl) ?_|refine CT.cond_t rfl ?_|refine CT.cond_f rfl ?_))
    · have hv : vr L 0 0 = .long := by rw [hvr, hdrop]; simp only [vr]; rw [if_pos (by omega), if_pos (by omega)]
      rw [hv] at hgo
      subst hgo
      exact AtQ.f3 (HH := []) Try.results134 rfl rfl rfl rfl rfl rfl (fun w h => h)
    all_goals
      have hi9 : i ≤ 9 := by omega
      have h9 : i = 9 → x ≤ 1 := by omega
      have hlt := part_lt hxb hi9 h9 hv1
      have hst := step7 (x := x) hv1
      have hge : 0 ≤ x % 128 * 2 ^ (7 * i) := Int.mul_nonneg (by omega) (Int.le_of_lt (Int.pow_pos (by decide)))
      refine RT.rem rfl rfl (by omega) (r := x % 128) (Int.tmod_eq_emod_of_nonneg hx0) rfl rfl ?_
      repeat' (first|((first|refine vc_id ?_|(refine RT.id ?_;refine RT.c T ?_));(conv=>whnf);first|refine RT.id ?_|(refine⟨fun hc=>?_,fun hc=>?_⟩<;>first|(exfalso;omega)|skip)|(apply num_k;omega;omega)|(apply num_m;intro r hr)|(intro r hr))|(refine RT.id ?_;first|refine RT.nil ?_|(apply RT.ld T;exact rfl;(focus ((repeat constructor);done));iterate 4 exact rfl)|(apply RT.st T;(iterate 3 exact rfl);(focus ((repeat constructor);done));(focus repeat constructor);iterate 2 exact rfl)|((first|apply RT.box|apply RT.alloc T);(iterate 4 exact rfl);intro b)|((first|apply RT.pnil T|apply RT.pnnil T);iterate 6 exact rfl)|(refine RT.isPush ?_;refine RT.pushI T rfl rfl rfl (fun a' c'=>by ((repeat constructor);done)) (by omega) (by omega) rfl rfl rfl rfl (fun a' c' b' c1' hac=>?_))|refine RT.build T rfl rfl rfl rfl rfl ?_|(apply RT.lens T;iterate 4 exact rfl))|(refine AtQ.id_ ?_;first|refine nx ?_|refine A0 ?_|refine A9 ?_|refine AtQ.in_ne rfl ?_)|(refine CT.id_ ?_;first|refine nx ?_|refine CT.region ?_|refine CT.quiet mixed (by kernel_rfl) ?_|refine CT.cond_t rfl ?_|refine CT.cond_f rfl ?_))
      refine RT.ar rfl rfl (y_shl rfl rfl (by omega) (shl7 hxb hi9 h9)) rfl rfl ?_
      generalize hw : x % 128 * 2 ^ (7 * i) = x' at *
      repeat' (first|((first|refine vc_id ?_|(refine RT.id ?_;refine RT.c T ?_));(conv=>whnf);first|refine RT.id ?_|(refine⟨fun hc=>?_,fun hc=>?_⟩<;>first|(exfalso;omega)|skip)|(apply num_k;omega;omega)|(apply num_m;intro r hr)|(intro r hr))|(refine RT.id ?_;first|refine RT.nil ?_|(apply RT.ld T;exact rfl;(focus ((repeat constructor);done));iterate 4 exact rfl)|(apply RT.st T;(iterate 3 exact rfl);(focus ((repeat constructor);done));(focus repeat constructor);iterate 2 exact rfl)|((first|apply RT.box|apply RT.alloc T);(iterate 4 exact rfl);intro b)|((first|apply RT.pnil T|apply RT.pnnil T);iterate 6 exact rfl)|(refine RT.isPush ?_;refine RT.pushI T rfl rfl rfl (fun a' c'=>by ((repeat constructor);done)) (by omega) (by omega) rfl rfl rfl rfl (fun a' c' b' c1' hac=>?_))|refine RT.build T rfl rfl rfl rfl rfl ?_|(apply RT.lens T;iterate 4 exact rfl))|(refine AtQ.id_ ?_;first|refine nx ?_|refine A0 ?_|refine A9 ?_|refine AtQ.in_ne rfl ?_)|(refine CT.id_ ?_;first|refine nx ?_|refine CT.region ?_|refine CT.quiet mixed (by kernel_rfl) ?_|refine CT.cond_t rfl ?_|refine CT.cond_f rfl ?_))
      all_goals first
        | (have hv : vr L 0 0 = .ok (v + x') (i + 1) := by rw [hvr, hdrop]; simp only [vr]; rw [if_pos (by omega), if_neg (by omega), if_pos (by omega), hw]
           rw [hv] at hgo
           subst hgo
           exact AtQ.f3 (HH := []) Try.results134 rfl rfl rfl rfl rfl rfl (fun w h => h))
        | (have hv : vr L 0 0 = vr (L.drop (i + 1)) (i + 1) (v + x') := by rw [hvr, hdrop]; simp only [vr]; rw [if_pos (by omega), if_neg (by omega), if_neg (by omega), hw]
           refine AtQ.loop (i + 1, v + x') ⟨rfl, rfl, rfl, rfl, rfl, trivial⟩ (fun w h => h.pu_in ⟨by omega, by omega, hst, by omega, hv⟩) (by simp only; omega))
  · have hv : vr L 0 0 = .long := by rw [hvr]; exact hlong _ _ _ (by omega)
    rw [hv] at hgo
    subst hgo
    exact AtQ.f3 (HH := []) Try.results134 rfl rfl rfl rfl rfl rfl (fun w h => h)
end Go.Proofs.Ytldfbjcicbfidaa
