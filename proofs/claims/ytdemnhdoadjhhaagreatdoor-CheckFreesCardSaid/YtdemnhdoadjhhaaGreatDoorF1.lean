/- Walks: numbers that a field may have; the first span that holds a number. -/
import Derived.Test.YtdemnhdoadjhhaaGreatDoorTab
import Derived.Test.YtdemnhdoadjhhaaGreatDoorSkB
import Derived.Test.YtdemnhdoadjhhaaGreatDoorP1
set_option linter.unusedVariables false
set_option linter.unusedSimpArgs false
namespace Go.Proofs.YtdemnhdoadjhhaaGreatDoor
open Go.Sk
set_option maxRecDepth 100000
attribute [local irreducible] Cs Own Ex Pu Yld RT LJ QJ AtQ CT Rd QSp Sp FinQ Then LoopQ CutQ DT TakeQ EffQ
variable {B : World} {R : List HP}
theorem may_fn {n : Int} : Sp B Tryz.prog 82 [.int .i32 n] R [] (fun v H' => v = .bool (mayB n) ∧ H' = []) := by
  refine Sp.body Tryz.func82 rfl Tryz.ntmps82 (by simp) ?_
  simp only [argE, List.cons_append, List.nil_append, Nat.zero_add, Nat.reduceAdd]
  repeat' (first|((first|refine vc_id ?_|(refine RT.id ?_;refine RT.c T ?_));(conv=>whnf);first|refine RT.id ?_|(refine⟨fun hc=>?_,fun hc=>?_⟩<;>first|(exfalso;omega)|skip)|(apply num_k;omega;omega)|(apply num_m;intro r hr)|(intro r hr))|(refine RT.id ?_;first|refine RT.nil ?_|(apply RT.ld T;exact rfl;(focus ((repeat constructor);done));iterate 4 exact rfl)|(apply RT.st T;(iterate 3 exact rfl);(focus ((repeat constructor);done));(focus repeat constructor);iterate 2 exact rfl)|((first|apply RT.box|apply RT.alloc T);(iterate 4 exact rfl);intro b)|((first|apply RT.pnil T|apply RT.pnnil T);iterate 6 exact rfl)|(refine RT.isPush ?_;refine RT.pushI T rfl rfl rfl (fun a' c'=>by ((repeat constructor);done)) (by omega) (by omega) rfl rfl rfl rfl (fun a' c' b' c1' hac=>?_))|refine RT.build T rfl rfl rfl rfl rfl ?_|(apply RT.lens T;iterate 4 exact rfl))|(refine AtQ.id_ ?_;first|refine nx ?_|refine A0 ?_|refine A9 ?_|refine AtQ.in_ne rfl ?_)|(refine CT.id_ ?_;first|refine nx ?_|refine CT.region ?_|refine CT.quiet mixed (by kernel_rfl) ?_|refine CT.cond_t rfl ?_|refine CT.cond_f rfl ?_))
  all_goals (refine AtQ.f1 Tryz.results82 rfl ?_ (fun _ h => h); congr 1; unfold mayB; symm)
  all_goals first | (refine decide_eq_true ?_; omega) | (refine decide_eq_false ?_; omega)
theorem free1_fn {s : SpanT} {x : Int} {b : Nat} : Sp B Tryz.prog 81 [.agg s.cells.toArray, .pointer (some ⟨b, 0, none⟩)] R [Cs b 21 [.int .i32 x]] (fun v H' => v = .bool (inS s x) ∧ H' = [Cs b 21 [.int .i32 x]]) := by
  refine Sp.body Tryz.func81 rfl Tryz.ntmps81 (by simp) ?_
  simp only [argE, List.cons_append, List.nil_append, Nat.zero_add, Nat.reduceAdd]
  repeat' (first|((first|refine vc_id ?_|(refine RT.id ?_;refine RT.c T ?_));(conv=>whnf);first|refine RT.id ?_|(refine⟨fun hc=>?_,fun hc=>?_⟩<;>first|(exfalso;omega)|skip)|(apply num_k;omega;omega)|(apply num_m;intro r hr)|(intro r hr))|(refine RT.id ?_;first|refine RT.nil ?_|(apply RT.ld T;exact rfl;(focus ((repeat constructor);done));iterate 4 exact rfl)|(apply RT.st T;(iterate 3 exact rfl);(focus ((repeat constructor);done));(focus repeat constructor);iterate 2 exact rfl)|((first|apply RT.box|apply RT.alloc T);(iterate 4 exact rfl);intro b)|((first|apply RT.pnil T|apply RT.pnnil T);iterate 6 exact rfl)|(refine RT.isPush ?_;refine RT.pushI T rfl rfl rfl (fun a' c'=>by ((repeat constructor);done)) (by omega) (by omega) rfl rfl rfl rfl (fun a' c' b' c1' hac=>?_))|refine RT.build T rfl rfl rfl rfl rfl ?_|(apply RT.lens T;iterate 4 exact rfl))|(refine AtQ.id_ ?_;first|refine nx ?_|refine A0 ?_|refine A9 ?_|refine AtQ.in_ne rfl ?_)|(refine CT.id_ ?_;first|refine nx ?_|refine CT.region ?_|refine CT.quiet mixed (by kernel_rfl) ?_|refine CT.cond_t rfl ?_|refine CT.cond_f rfl ?_))
  all_goals (refine AtQ.f1 Tryz.results81 rfl ?_ (fun _ h => h.tail); congr 1; unfold inS; symm)
  all_goals first | (refine decide_eq_true ?_; omega) | (refine decide_eq_false ?_; omega)
set_option maxHeartbeats 1000000 in
theorem index_fn {a : Option Addr} {k c b : Nat} {x : Int} {l : List SpanT} (hl : l.length = k) (hk : k ≤ 140737488355328) (hR : ∀ H, Rd B (H ++ Cs b 21 [.int .i32 x] :: R) a k c 2 (l.flatMap SpanT.cells)) :
    Sp B Tryz.prog 80 [.slice a k c, .func (.func 81) #[] #[.pointer (some ⟨b, 0, none⟩)]] R [Cs b 21 [.int .i32 x]]
      (fun v H' => v = .int .i64 (ixf x l 0) ∧ H' = [Cs b 21 [.int .i32 x]]) := by
  refine Sp.body Tryz.func80 rfl Tryz.ntmps80 (by simp) ?_
  simp only [argE, List.cons_append, List.nil_append, Nat.zero_add, Nat.reduceAdd]
  repeat' (first|((first|refine vc_id ?_|(refine RT.id ?_;refine RT.c T ?_));(conv=>whnf);first|refine RT.id ?_|(refine⟨fun hc=>?_,fun hc=>?_⟩<;>first|(exfalso;omega)|skip)|(apply num_k;omega;omega)|(apply num_m;intro r hr)|(intro r hr))|(refine RT.id ?_;first|refine RT.nil ?_|(apply RT.ld T;exact rfl;(focus ((repeat constructor);done));iterate 4 exact rfl)|(apply RT.st T;(iterate 3 exact rfl);(focus ((repeat constructor);done));(focus repeat constructor);iterate 2 exact rfl)|((first|apply RT.box|apply RT.alloc T);(iterate 4 exact rfl);intro b)|((first|apply RT.pnil T|apply RT.pnnil T);iterate 6 exact rfl)|(refine RT.isPush ?_;refine RT.pushI T rfl rfl rfl (fun a' c'=>by ((repeat constructor);done)) (by omega) (by omega) rfl rfl rfl rfl (fun a' c' b' c1' hac=>?_))|refine RT.build T rfl rfl rfl rfl rfl ?_|(apply RT.lens T;iterate 4 exact rfl))|(refine AtQ.id_ ?_;first|refine nx ?_|refine A0 ?_|refine A9 ?_|refine AtQ.in_ne rfl ?_)|(refine CT.id_ ?_;first|refine nx ?_|refine CT.region ?_|refine CT.quiet mixed (by kernel_rfl) ?_|refine CT.cond_t rfl ?_|refine CT.cond_f rfl ?_))
  refine CT.loop (α := Nat) (fun i => [(0, .slice a k c), (1, .func (.func 81) #[] #[.pointer (some ⟨b, 0, none⟩)]), (7, .int .i64 k), (8, .int .i64 i)]) (fun i => Pu (i ≤ k ∧ ixf x l 0 = ixf x (l.drop i) i) :: Cs b 21 [.int .i32 x] :: R) (fun i => k - i) 0
    ⟨rfl, rfl, rfl, rfl, trivial⟩ (fun w h => Sat.pu_in ⟨Nat.zero_le _, rfl⟩ h) (fun i => ?_)
  refine CT.pu fun ⟨hi, hix⟩ => ?_
  repeat' (first|((first|refine vc_id ?_|(refine RT.id ?_;refine RT.c T ?_));(conv=>whnf);first|refine RT.id ?_|(refine⟨fun hc=>?_,fun hc=>?_⟩<;>first|(exfalso;omega)|skip)|(apply num_k;omega;omega)|(apply num_m;intro r hr)|(intro r hr))|(refine RT.id ?_;first|refine RT.nil ?_|(apply RT.ld T;exact rfl;(focus ((repeat constructor);done));iterate 4 exact rfl)|(apply RT.st T;(iterate 3 exact rfl);(focus ((repeat constructor);done));(focus repeat constructor);iterate 2 exact rfl)|((first|apply RT.box|apply RT.alloc T);(iterate 4 exact rfl);intro b)|((first|apply RT.pnil T|apply RT.pnnil T);iterate 6 exact rfl)|(refine RT.isPush ?_;refine RT.pushI T rfl rfl rfl (fun a' c'=>by ((repeat constructor);done)) (by omega) (by omega) rfl rfl rfl rfl (fun a' c' b' c1' hac=>?_))|refine RT.build T rfl rfl rfl rfl rfl ?_|(apply RT.lens T;iterate 4 exact rfl))|(refine AtQ.id_ ?_;first|refine nx ?_|refine A0 ?_|refine A9 ?_|refine AtQ.in_ne rfl ?_)|(refine CT.id_ ?_;first|refine nx ?_|refine CT.region ?_|refine CT.quiet mixed (by kernel_rfl) ?_|refine CT.cond_t rfl ?_|refine CT.cond_f rfl ?_))
  · refine RT.ix T (j := i * 2) rfl rfl rfl (by exact hR []) (by omega) (by omega) (by omega) rfl rfl ?_
    have hil : i < l.length := by omega
    refine RT.ldra T rfl (by exact hR []) (l := l[i].cells) (flat_sub (f := SpanT.cells) (z := 2) (fun _ => rfl) l i _ (List.getElem?_eq_getElem hil)) rfl rfl rfl rfl ?_
    refine RT.callC T (caps := [.pointer (some ⟨b, 0, none⟩)]) rfl rfl (by (repeat (first|exact Fr.nil|(apply Fr.cons;focus ((repeat constructor);done))))) (free1_fn (s := l[i]) (x := x) (b := b)) rfl rfl rfl ?_
    rintro _ _ ⟨rfl, rfl⟩
    rw [ixf_drop hil] at hix
    cases hin : inS l[i] x with
    | true =>
      rw [hin, if_pos rfl] at hix
      repeat' (first|((first|refine vc_id ?_|(refine RT.id ?_;refine RT.c T ?_));(conv=>whnf);first|refine RT.id ?_|(refine⟨fun hc=>?_,fun hc=>?_⟩<;>first|(exfalso;omega)|skip)|(apply num_k;omega;omega)|(apply num_m;intro r hr)|(intro r hr))|(refine RT.id ?_;first|refine RT.nil ?_|(apply RT.ld T;exact rfl;(focus ((repeat constructor);done));iterate 4 exact rfl)|(apply RT.st T;(iterate 3 exact rfl);(focus ((repeat constructor);done));(focus repeat constructor);iterate 2 exact rfl)|((first|apply RT.box|apply RT.alloc T);(iterate 4 exact rfl);intro b)|((first|apply RT.pnil T|apply RT.pnnil T);iterate 6 exact rfl)|(refine RT.isPush ?_;refine RT.pushI T rfl rfl rfl (fun a' c'=>by ((repeat constructor);done)) (by omega) (by omega) rfl rfl rfl rfl (fun a' c' b' c1' hac=>?_))|refine RT.build T rfl rfl rfl rfl rfl ?_|(apply RT.lens T;iterate 4 exact rfl))|(refine AtQ.id_ ?_;first|refine nx ?_|refine A0 ?_|refine A9 ?_|refine AtQ.in_ne rfl ?_)|(refine CT.id_ ?_;first|refine nx ?_|refine CT.region ?_|refine CT.quiet mixed (by kernel_rfl) ?_|refine CT.cond_t rfl ?_|refine CT.cond_f rfl ?_))
      exact AtQ.f1 Tryz.results80 rfl (by rw [hix]) (fun _ h => h)
    | false =>
      rw [hin, if_neg (by decide)] at hix
      repeat' (first|((first|refine vc_id ?_|(refine RT.id ?_;refine RT.c T ?_));(conv=>whnf);first|refine RT.id ?_|(refine⟨fun hc=>?_,fun hc=>?_⟩<;>first|(exfalso;omega)|skip)|(apply num_k;omega;omega)|(apply num_m;intro r hr)|(intro r hr))|(refine RT.id ?_;first|refine RT.nil ?_|(apply RT.ld T;exact rfl;(focus ((repeat constructor);done));iterate 4 exact rfl)|(apply RT.st T;(iterate 3 exact rfl);(focus ((repeat constructor);done));(focus repeat constructor);iterate 2 exact rfl)|((first|apply RT.box|apply RT.alloc T);(iterate 4 exact rfl);intro b)|((first|apply RT.pnil T|apply RT.pnnil T);iterate 6 exact rfl)|(refine RT.isPush ?_;refine RT.pushI T rfl rfl rfl (fun a' c'=>by ((repeat constructor);done)) (by omega) (by omega) rfl rfl rfl rfl (fun a' c' b' c1' hac=>?_))|refine RT.build T rfl rfl rfl rfl rfl ?_|(apply RT.lens T;iterate 4 exact rfl))|(refine AtQ.id_ ?_;first|refine nx ?_|refine A0 ?_|refine A9 ?_|refine AtQ.in_ne rfl ?_)|(refine CT.id_ ?_;first|refine nx ?_|refine CT.region ?_|refine CT.quiet mixed (by kernel_rfl) ?_|refine CT.cond_t rfl ?_|refine CT.cond_f rfl ?_))
      exact AtQ.loop (i + 1) ⟨rfl, rfl, rfl, rfl, trivial⟩ (fun w h => Sat.pu_in ⟨by omega, hix⟩ h) (by omega)
  · refine AtQ.f1 Tryz.results80 rfl ?_ (fun _ h => h)
    rw [hix, List.drop_of_length_le (by omega)]
    rfl
end Go.Proofs.YtdemnhdoadjhhaaGreatDoor
