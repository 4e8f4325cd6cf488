/- Walks: the document's tag, lengthy, content. -/
import Derived.Test.YtldfbjcicbfidaaR18
import Derived.Test.YtldfbjcicbfidaaV19
set_option linter.unusedVariables false
set_option linter.unusedSimpArgs false
namespace Go.Proofs.Ytldfbjcicbfidaa
open Go.Sk
set_option maxRecDepth 100000
attribute [local irreducible] Cs Own Ex Pu Yld RT LJ QJ AtQ CT Rd QSp Sp FinQ Then LoopQ CutQ DT TakeQ EffQ
attribute [local irreducible] Wr Lo Df Lft
variable {B : World} {R : List HP}
set_option maxHeartbeats 1000000 in
theorem dtag_fn {n c at_ en : Nat} {a : Option Addr} {bs : List Int} (hR : Rd B R a n c 1 (ints .u8 bs)) (hb : Bytes bs) (h1 : at_ ≤ en) (h2 : en ≤ n) (h3 : n ≤ 140737488355328) :
    Sp B Try.prog 116 [sl8 a n c, .int .i64 at_, .int .i64 en] R [] (fun v H' => v = .tuple #[.int .i32 (RS.tag bs ⟨at_, en, 0, 0⟩).1.1, .int .u8 (RS.tag bs ⟨at_, en, 0, 0⟩).1.2, .int .i64 (RS.tag bs ⟨at_, en, 0, 0⟩).2.at_, .int .i64 (RS.tag bs ⟨at_, en, 0, 0⟩).2.e] ∧ H' = []) := by
  obtain ⟨q1, q2, q3, q4, q5, q6⟩ := RS.varint_spec (s := ⟨at_, en, 0, 0⟩) ⟨h1, h2, Nat.zero_le _⟩ hR.lenI hb
  refine Sp.body Try.func116 rfl Try.ntmps116 (by simp) ?_
  simp only [argE, List.cons_append, List.nil_append, Nat.zero_add, Nat.reduceAdd]
  repeat' (first|((first|refine vc_id ?_|(refine RT.id ?_;refine RT.c T ?_));(conv=>whnf);first|refine RT.id ?_|(refine⟨fun hc=>?_,fun hc=>?_⟩<;>first|(exfalso;omega)|skip)|(apply num_k;omega;omega)|(apply num_m;intro r hr)|(intro r hr))|(refine RT.id ?_;first|refine RT.nil ?_|(apply RT.ld T;exact rfl;(focus ((repeat constructor);done));iterate 4 exact rfl)|(apply RT.st T;(iterate 3 exact rfl);(focus ((repeat constructor);done));(focus repeat constructor);iterate 2 exact rfl)|((first|apply RT.box|apply RT.alloc T);(iterate 4 exact rfl);intro b)|((first|apply RT.pnil T|apply RT.pnnil T);iterate 6 exact rfl)|(refine RT.isPush ?_;refine RT.pushI T rfl rfl rfl (fun a' c'=>by ((repeat constructor);done)) (by omega) (by omega) rfl rfl rfl rfl (fun a' c' b' c1' hac=>?_))|refine RT.build T rfl rfl rfl rfl rfl ?_|(apply RT.lens T;iterate 4 exact rfl))|(refine AtQ.id_ ?_;first|refine nx ?_|refine A0 ?_|refine A9 ?_|refine AtQ.in_ne rfl ?_)|(refine CT.id_ ?_;first|refine nx ?_|refine CT.region ?_|refine CT.quiet mixed (by kernel_rfl) ?_|refine CT.cond_t rfl ?_|refine CT.cond_f rfl ?_))
  (refine RT.call T rfl (by (repeat (first|exact Fr.nil|(apply Fr.cons;focus ((repeat constructor);done))))) (number_fn hR hb h1 h2 h3) rfl rfl rfl ?_; rintro _ _ ⟨rfl, rfl⟩; try simp only [List.cons_append, List.nil_append])
  unfold RS.tag
  generalize RS.varint bs ⟨at_, en, 0, 0⟩ = q at *
  obtain ⟨v, t⟩ := q
  obtain ⟨q40, q41⟩ := q4
  dsimp only at q1 q2 q3 q40 q41 q5 q6 ⊢
  repeat' (first|((first|refine vc_id ?_|(refine RT.id ?_;refine RT.c T ?_));(conv=>whnf);first|refine RT.id ?_|(refine⟨fun hc=>?_,fun hc=>?_⟩<;>first|(exfalso;omega)|skip)|(apply num_k;omega;omega)|(apply num_m;intro r hr)|(intro r hr))|(refine RT.id ?_;first|refine RT.nil ?_|(apply RT.ld T;exact rfl;(focus ((repeat constructor);done));iterate 4 exact rfl)|(apply RT.st T;(iterate 3 exact rfl);(focus ((repeat constructor);done));(focus repeat constructor);iterate 2 exact rfl)|((first|apply RT.box|apply RT.alloc T);(iterate 4 exact rfl);intro b)|((first|apply RT.pnil T|apply RT.pnnil T);iterate 6 exact rfl)|(refine RT.isPush ?_;refine RT.pushI T rfl rfl rfl (fun a' c'=>by ((repeat constructor);done)) (by omega) (by omega) rfl rfl rfl rfl (fun a' c' b' c1' hac=>?_))|refine RT.build T rfl rfl rfl rfl rfl ?_|(apply RT.lens T;iterate 4 exact rfl))|(refine AtQ.id_ ?_;first|refine nx ?_|refine A0 ?_|refine A9 ?_|refine AtQ.in_ne rfl ?_)|(refine CT.id_ ?_;first|refine nx ?_|refine CT.region ?_|refine CT.quiet mixed (by kernel_rfl) ?_|refine CT.cond_t rfl ?_|refine CT.cond_f rfl ?_))
  · rw [if_pos (by assumption), if_pos (by omega)]
    exact AtQ.fin4 (H' := []) Try.results116 rfl rfl rfl rfl ⟨rfl, rfl⟩ (fun _ h => h)
  · rw [if_pos (by assumption), if_pos (by omega)]
    exact AtQ.fin4 (H' := []) Try.results116 rfl rfl rfl rfl ⟨rfl, rfl⟩ (fun _ h => h)
  · refine RT.rem rfl rfl (by omega) (r := v % 8) (Int.tmod_eq_emod_of_nonneg q40) rfl rfl ?_
    repeat' (first|((first|refine vc_id ?_|(refine RT.id ?_;refine RT.c T ?_));(conv=>whnf);first|refine RT.id ?_|(refine⟨fun hc=>?_,fun hc=>?_⟩<;>first|(exfalso;omega)|skip)|(apply num_k;omega;omega)|(apply num_m;intro r hr)|(intro r hr))|(refine RT.id ?_;first|refine RT.nil ?_|(apply RT.ld T;exact rfl;(focus ((repeat constructor);done));iterate 4 exact rfl)|(apply RT.st T;(iterate 3 exact rfl);(focus ((repeat constructor);done));(focus repeat constructor);iterate 2 exact rfl)|((first|apply RT.box|apply RT.alloc T);(iterate 4 exact rfl);intro b)|((first|apply RT.pnil T|apply RT.pnnil T);iterate 6 exact rfl)|(refine RT.isPush ?_;refine RT.pushI T rfl rfl rfl (fun a' c'=>by ((repeat constructor);done)) (by omega) (by omega) rfl rfl rfl rfl (fun a' c' b' c1' hac=>?_))|refine RT.build T rfl rfl rfl rfl rfl ?_|(apply RT.lens T;iterate 4 exact rfl))|(refine AtQ.id_ ?_;first|refine nx ?_|refine A0 ?_|refine A9 ?_|refine AtQ.in_ne rfl ?_)|(refine CT.id_ ?_;first|refine nx ?_|refine CT.region ?_|refine CT.quiet mixed (by kernel_rfl) ?_|refine CT.cond_t rfl ?_|refine CT.cond_f rfl ?_))
    · rw [if_pos (by assumption), if_pos (by omega)]
      exact AtQ.fin4 (H' := []) Try.results116 rfl rfl rfl rfl ⟨rfl, rfl⟩ (fun _ h => h)
    · refine RT.quo rfl rfl (by omega) (r := v / 8) (by rw [Int.tdiv_eq_ediv_of_nonneg q40]; exact wr_u64 (by omega) (by omega)) rfl rfl ?_
      repeat' (first|((first|refine vc_id ?_|(refine RT.id ?_;refine RT.c T ?_));(conv=>whnf);first|refine RT.id ?_|(refine⟨fun hc=>?_,fun hc=>?_⟩<;>first|(exfalso;omega)|skip)|(apply num_k;omega;omega)|(apply num_m;intro r hr)|(intro r hr))|(refine RT.id ?_;first|refine RT.nil ?_|(apply RT.ld T;exact rfl;(focus ((repeat constructor);done));iterate 4 exact rfl)|(apply RT.st T;(iterate 3 exact rfl);(focus ((repeat constructor);done));(focus repeat constructor);iterate 2 exact rfl)|((first|apply RT.box|apply RT.alloc T);(iterate 4 exact rfl);intro b)|((first|apply RT.pnil T|apply RT.pnnil T);iterate 6 exact rfl)|(refine RT.isPush ?_;refine RT.pushI T rfl rfl rfl (fun a' c'=>by ((repeat constructor);done)) (by omega) (by omega) rfl rfl rfl rfl (fun a' c' b' c1' hac=>?_))|refine RT.build T rfl rfl rfl rfl rfl ?_|(apply RT.lens T;iterate 4 exact rfl))|(refine AtQ.id_ ?_;first|refine nx ?_|refine A0 ?_|refine A9 ?_|refine AtQ.in_ne rfl ?_)|(refine CT.id_ ?_;first|refine nx ?_|refine CT.region ?_|refine CT.quiet mixed (by kernel_rfl) ?_|refine CT.cond_t rfl ?_|refine CT.cond_f rfl ?_))
      refine RT.rem rfl rfl (by omega) (r := v % 8) (Int.tmod_eq_emod_of_nonneg q40) rfl rfl ?_
      repeat' (first|((first|refine vc_id ?_|(refine RT.id ?_;refine RT.c T ?_));(conv=>whnf);first|refine RT.id ?_|(refine⟨fun hc=>?_,fun hc=>?_⟩<;>first|(exfalso;omega)|skip)|(apply num_k;omega;omega)|(apply num_m;intro r hr)|(intro r hr))|(refine RT.id ?_;first|refine RT.nil ?_|(apply RT.ld T;exact rfl;(focus ((repeat constructor);done));iterate 4 exact rfl)|(apply RT.st T;(iterate 3 exact rfl);(focus ((repeat constructor);done));(focus repeat constructor);iterate 2 exact rfl)|((first|apply RT.box|apply RT.alloc T);(iterate 4 exact rfl);intro b)|((first|apply RT.pnil T|apply RT.pnnil T);iterate 6 exact rfl)|(refine RT.isPush ?_;refine RT.pushI T rfl rfl rfl (fun a' c'=>by ((repeat constructor);done)) (by omega) (by omega) rfl rfl rfl rfl (fun a' c' b' c1' hac=>?_))|refine RT.build T rfl rfl rfl rfl rfl ?_|(apply RT.lens T;iterate 4 exact rfl))|(refine AtQ.id_ ?_;first|refine nx ?_|refine A0 ?_|refine A9 ?_|refine AtQ.in_ne rfl ?_)|(refine CT.id_ ?_;first|refine nx ?_|refine CT.region ?_|refine CT.quiet mixed (by kernel_rfl) ?_|refine CT.cond_t rfl ?_|refine CT.cond_f rfl ?_))
      rw [if_pos (by assumption), if_neg (by omega)]
      have he : t.e = 0 := by assumption
      rw [he]
      exact AtQ.fin4 (H' := []) Try.results116 rfl rfl rfl rfl ⟨rfl, rfl⟩ (fun _ h => h)
  · rw [if_neg (by assumption)]
    rw [(q5 (by assumption)).1]
    exact AtQ.fin4 (H' := []) Try.results116 rfl rfl rfl rfl ⟨rfl, rfl⟩ (fun _ h => h)
/-- Bytes with their length at a place: where they begin and end, or the place twice; the error. -/
def lenR (bs : List Int) (at_ en : Nat) : Int × Int × Int := match (RS.span bs ⟨at_, en, 0, 0⟩).1 with
  | some (i, j) => (i, j, 0)
  | none => (at_, at_, (RS.span bs ⟨at_, en, 0, 0⟩).2.e)
set_option maxHeartbeats 1000000 in
theorem lengthy_fn {n c at_ en : Nat} {a : Option Addr} {bs : List Int} (hR : Rd B R a n c 1 (ints .u8 bs)) (hb : Bytes bs) (h1 : at_ ≤ en) (h2 : en ≤ n) (h3 : n ≤ 140737488355328) :
    Sp B Try.prog 136 [sl8 a n c, .int .i64 at_, .int .i64 en] R [] (fun v H' => v = .tuple #[.int .i64 (lenR bs at_ en).1, .int .i64 (lenR bs at_ en).2.1, .int .i64 (lenR bs at_ en).2.2] ∧ H' = []) := by
  obtain ⟨q1, q2, q3, q4, q5, q6⟩ := RS.varint_spec (s := ⟨at_, en, 0, 0⟩) ⟨h1, h2, Nat.zero_le _⟩ hR.lenI hb
  refine Sp.body Try.func136 rfl Try.ntmps136 (by simp) ?_
  simp only [argE, List.cons_append, List.nil_append, Nat.zero_add, Nat.reduceAdd]
  repeat' (first|((first|refine vc_id ?_|(refine RT.id ?_;refine RT.c T ?_));(conv=>whnf);first|refine RT.id ?_|(refine⟨fun hc=>?_,fun hc=>?_⟩<;>first|(exfalso;omega)|skip)|(apply num_k;omega;omega)|(apply num_m;intro r hr)|(intro r hr))|(refine RT.id ?_;first|refine RT.nil ?_|(apply RT.ld T;exact rfl;(focus ((repeat constructor);done));iterate 4 exact rfl)|(apply RT.st T;(iterate 3 exact rfl);(focus ((repeat constructor);done));(focus repeat constructor);iterate 2 exact rfl)|((first|apply RT.box|apply RT.alloc T);(iterate 4 exact rfl);intro b)|((first|apply RT.pnil T|apply RT.pnnil T);iterate 6 exact rfl)|(refine RT.isPush ?_;refine RT.pushI T rfl rfl rfl (fun a' c'=>by ((repeat constructor);done)) (by omega) (by omega) rfl rfl rfl rfl (fun a' c' b' c1' hac=>?_))|refine RT.build T rfl rfl rfl rfl rfl ?_|(apply RT.lens T;iterate 4 exact rfl))|(refine AtQ.id_ ?_;first|refine nx ?_|refine A0 ?_|refine A9 ?_|refine AtQ.in_ne rfl ?_)|(refine CT.id_ ?_;first|refine nx ?_|refine CT.region ?_|refine CT.quiet mixed (by kernel_rfl) ?_|refine CT.cond_t rfl ?_|refine CT.cond_f rfl ?_))
  (refine RT.call T rfl (by (repeat (first|exact Fr.nil|(apply Fr.cons;focus ((repeat constructor);done))))) (number_fn hR hb h1 h2 h3) rfl rfl rfl ?_; rintro _ _ ⟨rfl, rfl⟩; try simp only [List.cons_append, List.nil_append])
  have hgo : lenR bs at_ en = match (RS.span bs ⟨at_, en, 0, 0⟩).1 with
    | some (i, j) => ((i : Int), (j : Int), (0 : Int))
    | none => ((at_ : Int), (at_ : Int), (RS.span bs ⟨at_, en, 0, 0⟩).2.e) := rfl
  unfold RS.span at hgo
  generalize RS.varint bs ⟨at_, en, 0, 0⟩ = q at *
  obtain ⟨v, t⟩ := q
  obtain ⟨q40, q41⟩ := q4
  obtain ⟨q11, q12, q13⟩ := q1
  dsimp only at q11 q12 q13 q2 q3 q40 q41 q5 q6 hgo ⊢
  generalize lenR bs at_ en = L at *
  repeat' (first|((first|refine vc_id ?_|(refine RT.id ?_;refine RT.c T ?_));(conv=>whnf);first|refine RT.id ?_|(refine⟨fun hc=>?_,fun hc=>?_⟩<;>first|(exfalso;omega)|skip)|(apply num_k;omega;omega)|(apply num_m;intro r hr)|(intro r hr))|(refine RT.id ?_;first|refine RT.nil ?_|(apply RT.ld T;exact rfl;(focus ((repeat constructor);done));iterate 4 exact rfl)|(apply RT.st T;(iterate 3 exact rfl);(focus ((repeat constructor);done));(focus repeat constructor);iterate 2 exact rfl)|((first|apply RT.box|apply RT.alloc T);(iterate 4 exact rfl);intro b)|((first|apply RT.pnil T|apply RT.pnnil T);iterate 6 exact rfl)|(refine RT.isPush ?_;refine RT.pushI T rfl rfl rfl (fun a' c'=>by ((repeat constructor);done)) (by omega) (by omega) rfl rfl rfl rfl (fun a' c' b' c1' hac=>?_))|refine RT.build T rfl rfl rfl rfl rfl ?_|(apply RT.lens T;iterate 4 exact rfl))|(refine AtQ.id_ ?_;first|refine nx ?_|refine A0 ?_|refine A9 ?_|refine AtQ.in_ne rfl ?_)|(refine CT.id_ ?_;first|refine nx ?_|refine CT.region ?_|refine CT.quiet mixed (by kernel_rfl) ?_|refine CT.cond_t rfl ?_|refine CT.cond_f rfl ?_))
  · rw [if_pos (by assumption), if_pos (by omega)] at hgo
    simp only at hgo
    subst hgo
    exact AtQ.f3 (HH := []) Try.results136 rfl rfl rfl rfl rfl rfl (fun w h => h)
  · rw [if_pos (by assumption), if_neg (by omega)] at hgo
    simp only at hgo
    subst hgo
    obtain ⟨k, rfl⟩ := Int.eq_ofNat_of_zero_le q40
    exact AtQ.f3 (HH := []) Try.results136 rfl rfl rfl rfl (by simp) rfl (fun w h => h)
  · rw [if_neg (by assumption)] at hgo
    simp only at hgo
    subst hgo
    exact AtQ.f3 (HH := []) Try.results136 rfl rfl rfl rfl rfl rfl (fun w h => h)
theorem RS.varint_wh {bs : List Int} {s : RS} (he : s.e = 0) (h : (s.varint bs).2.e ≠ 0) : (s.varint bs).2.wh = s.at_ ∧ (s.varint bs).2.at_ = s.at_ := by
  unfold RS.varint at h ⊢
  rw [if_pos he] at h ⊢
  split <;> simp_all
theorem RS.tag_wh {bs : List Int} {s : RS} (he : s.e = 0) (h : (s.tag bs).2.e ≠ 0) : (s.tag bs).2.wh = s.at_ ∧ (s.tag bs).2.at_ = s.at_ := by
  unfold RS.tag at h ⊢
  split
  · rename_i h1
    rw [if_pos h1] at h
    split
    · exact ⟨rfl, rfl⟩
    · rename_i h2
      rw [if_neg h2] at h
      exact absurd h1 h
  · rename_i h1; exact RS.varint_wh he h1
theorem RS.span_wh {bs : List Int} {s : RS} (he : s.e = 0) (h : (s.span bs).2.e ≠ 0) : (s.span bs).2.wh = s.at_ ∧ (s.span bs).2.at_ = s.at_ ∧ (s.span bs).1 = none := by
  unfold RS.span at h ⊢
  split
  · rename_i h1
    rw [if_pos h1] at h
    split
    · exact ⟨rfl, rfl, rfl⟩
    · rename_i h2
      rw [if_neg h2] at h
      exact absurd h1 h
  · rename_i h1; exact ⟨(RS.varint_wh he h1).1, (RS.varint_wh he h1).2, rfl⟩
theorem RS.span_ok {bs : List Int} {s : RS} (h : (s.span bs).2.e = 0) : ∃ i j, (s.span bs).1 = some (i, j) ∧ (s.span bs).2.at_ = j := by
  unfold RS.span at h ⊢
  split
  · rename_i h1
    rw [if_pos h1] at h
    split
    · rename_i h2
      rw [if_pos h2] at h
      exact absurd h (by simp)
    · exact ⟨_, _, rfl, rfl⟩
  · rename_i h1; rw [if_neg h1] at h; exact absurd h h1
theorem lenR_eq {bs : List Int} {at_ en : Nat} : ((lenR bs at_ en).2.2 = (RS.span bs ⟨at_, en, 0, 0⟩).2.e) ∧ (lenR bs at_ en).2.1 = (RS.span bs ⟨at_, en, 0, 0⟩).2.at_ := by
  unfold lenR
  by_cases h : (RS.span bs ⟨at_, en, 0, 0⟩).2.e = 0
  · obtain ⟨i, j, h1, h2⟩ := RS.span_ok h
    rw [h1, h2, h]
    exact ⟨rfl, rfl⟩
  · obtain ⟨h1, h2, h3⟩ := RS.span_wh rfl h
    rw [h3, h2]
    exact ⟨rfl, rfl⟩
/-- What the document's content answers: the end, the place behind, the error. -/
def conQ (bs : List Int) (f : Nat) (num k d : Int) (s : RS) : Int × Int × Int :=
  if (s.con bs f num k d).e = 0 then (if k = 3 then (grp bs f num d (s.dep d)).1 else ((s.con bs f num k d).at_ : Int), ((s.con bs f num k d).at_ : Int), 0) else ((s.at_ : Int), (s.at_ : Int), (s.con bs f num k d).e)
def DConOk (B : World) (R : List HP) (a : Option Addr) (n c : Nat) (bs : List Int) (f : Nat) : Prop := ∀ (at_ en : Nat) (num k d : Int), at_ ≤ en → en ≤ n → en - at_ < f → -2147483648 ≤ num → num ≤ 2147483647 → 0 ≤ k → k ≤ 5 → k ≠ 4 → -9223372036854775808 ≤ d → d ≤ 9223372036854775807 →
  Sp B Try.prog 117 [sl8 a n c, .int .i64 at_, .int .i64 en, .int .i32 num, .int .u8 k, .int .i64 d] R [] (fun u H' => ∃ sp : Int, u = .tuple #[.int .i64 (conQ bs f num k d ⟨at_, en, 0, 0⟩).1, .int .i64 (conQ bs f num k d ⟨at_, en, 0, 0⟩).2.1, .int .i64 (conQ bs f num k d ⟨at_, en, 0, 0⟩).2.2, .int .i64 sp] ∧ ((RS.con bs f num k d ⟨at_, en, 0, 0⟩).e ≠ 0 → sp = (RS.con bs f num k d ⟨at_, en, 0, 0⟩).wh) ∧ H' = [])
theorem conQ_simple {bs : List Int} {f : Nat} {num k d : Int} {s t : RS} (hk : k ≠ 3) (ht : s.simple bs k = t) (hw : t.e ≠ 0 → t.at_ = s.at_) : s.con bs f num k d = t ∧ conQ bs f num k d s = ((t.at_ : Int), (t.at_ : Int), t.e) := by
  have e1 : s.con bs f num k d = t := by unfold RS.con; rw [if_neg hk, ht]
  refine ⟨e1, ?_⟩
  unfold conQ
  rw [e1, if_neg hk]
  split
  · rename_i h; rw [h]
  · rename_i h; rw [hw h]
set_option maxHeartbeats 4000000 in
theorem dcon_fn {n c : Nat} {a : Option Addr} {bs : List Int} (hR : Rd B R a n c 1 (ints .u8 bs)) (hb : Bytes bs) (h3 : n ≤ 140737488355328) (f : Nat) : DConOk B R a n c bs f := by
  induction f using Nat.strongRecOn with
  | _ f ih =>
  intro at_ en num k d h1 h2 hf hn0 hn1 hk0 hk1 hk4 hd0 hd1
  have hl := hR.lenI
  refine Sp.body Try.func117 rfl Try.ntmps117 (by simp) ?_
  simp only [argE, List.cons_append, List.nil_append, Nat.zero_add, Nat.reduceAdd]
  repeat' (first|((first|refine vc_id ?_|(refine RT.id ?_;refine RT.c T ?_));(conv=>whnf);first|refine RT.id ?_|(refine⟨fun hc=>?_,fun hc=>?_⟩<;>first|(exfalso;omega)|skip)|(apply num_k;omega;omega)|(apply num_m;intro r hr)|(intro r hr))|(refine RT.id ?_;first|refine RT.nil ?_|(apply RT.ld T;exact rfl;(focus ((repeat constructor);done));iterate 4 exact rfl)|(apply RT.st T;(iterate 3 exact rfl);(focus ((repeat constructor);done));(focus repeat constructor);iterate 2 exact rfl)|((first|apply RT.box|apply RT.alloc T);(iterate 4 exact rfl);intro b)|((first|apply RT.pnil T|apply RT.pnnil T);iterate 6 exact rfl)|(refine RT.isPush ?_;refine RT.pushI T rfl rfl rfl (fun a' c'=>by ((repeat constructor);done)) (by omega) (by omega) rfl rfl rfl rfl (fun a' c' b' c1' hac=>?_))|refine RT.build T rfl rfl rfl rfl rfl ?_|(apply RT.lens T;iterate 4 exact rfl))|(refine AtQ.id_ ?_;first|refine nx ?_|refine A0 ?_|refine A9 ?_|refine AtQ.in_ne rfl ?_)|(refine CT.id_ ?_;first|refine nx ?_|refine CT.region ?_|refine CT.quiet mixed (by kernel_rfl) ?_|refine CT.cond_t rfl ?_|refine CT.cond_f rfl ?_))
  · (refine RT.call T rfl (by (repeat (first|exact Fr.nil|(apply Fr.cons;focus ((repeat constructor);done))))) (number_fn hR hb h1 h2 h3) rfl rfl rfl ?_; rintro _ _ ⟨rfl, rfl⟩; try simp only [List.cons_append, List.nil_append])
    have hw := RS.varint_wh (bs := bs) (s := ⟨at_, en, 0, 0⟩) rfl
    obtain ⟨e1, e2⟩ := conQ_simple (bs := bs) (f := f) (num := num) (d := d) (k := k) (s := ⟨at_, en, 0, 0⟩) (t := (RS.varint bs ⟨at_, en, 0, 0⟩).2) (by omega) (by unfold RS.simple; rw [if_pos (by omega)]) (fun h => (hw h).2)
    rw [e1, e2]
    repeat' (first|((first|refine vc_id ?_|(refine RT.id ?_;refine RT.c T ?_));(conv=>whnf);first|refine RT.id ?_|(refine⟨fun hc=>?_,fun hc=>?_⟩<;>first|(exfalso;omega)|skip)|(apply num_k;omega;omega)|(apply num_m;intro r hr)|(intro r hr))|(refine RT.id ?_;first|refine RT.nil ?_|(apply RT.ld T;exact rfl;(focus ((repeat constructor);done));iterate 4 exact rfl)|(apply RT.st T;(iterate 3 exact rfl);(focus ((repeat constructor);done));(focus repeat constructor);iterate 2 exact rfl)|((first|apply RT.box|apply RT.alloc T);(iterate 4 exact rfl);intro b)|((first|apply RT.pnil T|apply RT.pnnil T);iterate 6 exact rfl)|(refine RT.isPush ?_;refine RT.pushI T rfl rfl rfl (fun a' c'=>by ((repeat constructor);done)) (by omega) (by omega) rfl rfl rfl rfl (fun a' c' b' c1' hac=>?_))|refine RT.build T rfl rfl rfl rfl rfl ?_|(apply RT.lens T;iterate 4 exact rfl))|(refine AtQ.id_ ?_;first|refine nx ?_|refine A0 ?_|refine A9 ?_|refine AtQ.in_ne rfl ?_)|(refine CT.id_ ?_;first|refine nx ?_|refine CT.region ?_|refine CT.quiet mixed (by kernel_rfl) ?_|refine CT.cond_t rfl ?_|refine CT.cond_f rfl ?_))
    exact AtQ.fin4 (H' := []) Try.results117 rfl rfl rfl rfl ⟨_, rfl, fun h => (hw h).1.symm ▸ rfl, rfl⟩ (fun _ h => h)
  · have hx : RS.fixed 8 bs ⟨at_, en, 0, 0⟩ = (0, ⟨at_, en, 10, at_⟩) := by unfold RS.fixed; rw [if_pos rfl, if_pos (by simp only; omega)]; rfl
    obtain ⟨e1, e2⟩ := conQ_simple (f := f) (num := num) (d := d) (k := k) (s := ⟨at_, en, 0, 0⟩) (t := ⟨at_, en, 10, at_⟩) (by omega) (by unfold RS.simple; rw [if_neg (by omega), if_pos (by omega), hx]) (fun _ => rfl)
    rw [e1, e2]
    exact AtQ.fin4 (H' := []) Try.results117 rfl rfl rfl rfl ⟨_, rfl, fun _ => rfl, rfl⟩ (fun _ h => h)
  · obtain ⟨lv, hx⟩ : ∃ lv, RS.fixed 8 bs ⟨at_, en, 0, 0⟩ = (lv, ⟨at_ + 8, en, 0, 0⟩) := ⟨_, by unfold RS.fixed; rw [if_pos rfl, if_neg (by simp only; omega)]⟩
    obtain ⟨e1, e2⟩ := conQ_simple (f := f) (num := num) (d := d) (k := k) (s := ⟨at_, en, 0, 0⟩) (t := ⟨at_ + 8, en, 0, 0⟩) (by omega) (by unfold RS.simple; rw [if_neg (by omega), if_pos (by omega), hx]) (fun h => absurd rfl h)
    rw [e1, e2]
    exact AtQ.fin4 (H' := []) Try.results117 rfl rfl rfl rfl ⟨_, rfl, fun h => absurd rfl h, rfl⟩ (fun _ h => h)
  · have hx : RS.fixed 4 bs ⟨at_, en, 0, 0⟩ = (0, ⟨at_, en, 10, at_⟩) := by unfold RS.fixed; rw [if_pos rfl, if_pos (by simp only; omega)]; rfl
    obtain ⟨e1, e2⟩ := conQ_simple (f := f) (num := num) (d := d) (k := k) (s := ⟨at_, en, 0, 0⟩) (t := ⟨at_, en, 10, at_⟩) (by omega) (by unfold RS.simple; rw [if_neg (by omega), if_neg (by omega), if_neg (by omega), if_pos (by omega), hx]) (fun _ => rfl)
    rw [e1, e2]
    exact AtQ.fin4 (H' := []) Try.results117 rfl rfl rfl rfl ⟨_, rfl, fun _ => rfl, rfl⟩ (fun _ h => h)
  · obtain ⟨lv, hx⟩ : ∃ lv, RS.fixed 4 bs ⟨at_, en, 0, 0⟩ = (lv, ⟨at_ + 4, en, 0, 0⟩) := ⟨_, by unfold RS.fixed; rw [if_pos rfl, if_neg (by simp only; omega)]⟩
    obtain ⟨e1, e2⟩ := conQ_simple (f := f) (num := num) (d := d) (k := k) (s := ⟨at_, en, 0, 0⟩) (t := ⟨at_ + 4, en, 0, 0⟩) (by omega) (by unfold RS.simple; rw [if_neg (by omega), if_neg (by omega), if_neg (by omega), if_pos (by omega), hx]) (fun h => absurd rfl h)
    rw [e1, e2]
    exact AtQ.fin4 (H' := []) Try.results117 rfl rfl rfl rfl ⟨_, rfl, fun h => absurd rfl h, rfl⟩ (fun _ h => h)
  · (refine RT.call T rfl (by (repeat (first|exact Fr.nil|(apply Fr.cons;focus ((repeat constructor);done))))) (lengthy_fn hR hb h1 h2 h3) rfl rfl rfl ?_; rintro _ _ ⟨rfl, rfl⟩; try simp only [List.cons_append, List.nil_append])
    have hw := RS.span_wh (bs := bs) (s := ⟨at_, en, 0, 0⟩) rfl
    obtain ⟨l1, l2⟩ := lenR_eq (bs := bs) (at_ := at_) (en := en)
    obtain ⟨e1, e2⟩ := conQ_simple (bs := bs) (f := f) (num := num) (d := d) (k := k) (s := ⟨at_, en, 0, 0⟩) (t := (RS.span bs ⟨at_, en, 0, 0⟩).2) (by omega) (by unfold RS.simple; rw [if_neg (by omega), if_neg (by omega), if_pos (by omega)]) (fun h => (hw h).2.1)
    rw [e1, e2, l1, l2]
    repeat' (first|((first|refine vc_id ?_|(refine RT.id ?_;refine RT.c T ?_));(conv=>whnf);first|refine RT.id ?_|(refine⟨fun hc=>?_,fun hc=>?_⟩<;>first|(exfalso;omega)|skip)|(apply num_k;omega;omega)|(apply num_m;intro r hr)|(intro r hr))|(refine RT.id ?_;first|refine RT.nil ?_|(apply RT.ld T;exact rfl;(focus ((repeat constructor);done));iterate 4 exact rfl)|(apply RT.st T;(iterate 3 exact rfl);(focus ((repeat constructor);done));(focus repeat constructor);iterate 2 exact rfl)|((first|apply RT.box|apply RT.alloc T);(iterate 4 exact rfl);intro b)|((first|apply RT.pnil T|apply RT.pnnil T);iterate 6 exact rfl)|(refine RT.isPush ?_;refine RT.pushI T rfl rfl rfl (fun a' c'=>by ((repeat constructor);done)) (by omega) (by omega) rfl rfl rfl rfl (fun a' c' b' c1' hac=>?_))|refine RT.build T rfl rfl rfl rfl rfl ?_|(apply RT.lens T;iterate 4 exact rfl))|(refine AtQ.id_ ?_;first|refine nx ?_|refine A0 ?_|refine A9 ?_|refine AtQ.in_ne rfl ?_)|(refine CT.id_ ?_;first|refine nx ?_|refine CT.region ?_|refine CT.quiet mixed (by kernel_rfl) ?_|refine CT.cond_t rfl ?_|refine CT.cond_f rfl ?_))
    exact AtQ.fin4 (H' := []) Try.results117 rfl rfl rfl rfl ⟨_, rfl, fun h => (hw h).1.symm ▸ rfl, rfl⟩ (fun _ h => h)
  · have hk3 : k = 3 := by omega
    have hx : RS.dep d ⟨at_, en, 0, 0⟩ = ⟨at_, en, 14, at_⟩ := by unfold RS.dep; rw [if_pos (by omega)]; rfl
    have e1 : RS.con bs f num k d ⟨at_, en, 0, 0⟩ = ⟨at_, en, 14, at_⟩ := by unfold RS.con; rw [if_pos hk3, hx, grp_bad (by simp)]
    have e2 : conQ bs f num k d ⟨at_, en, 0, 0⟩ = ((at_ : Int), (at_ : Int), 14) := by unfold conQ; rw [e1]; rfl
    rw [e1, e2]
    exact AtQ.fin4 (H' := []) Try.results117 rfl rfl rfl rfl ⟨_, rfl, fun _ => rfl, rfl⟩ (fun _ h => h)
  · have hk3 : k = 3 := by omega
    have hx : RS.dep d ⟨at_, en, 0, 0⟩ = ⟨at_, en, 0, 0⟩ := RS.dep_to (by omega)
    have e1 : RS.con bs f num k d ⟨at_, en, 0, 0⟩ = (grp bs f num d ⟨at_, en, 0, 0⟩).2 := by unfold RS.con; rw [if_pos hk3, hx]
    have e2 : conQ bs f num k d ⟨at_, en, 0, 0⟩ = if (grp bs f num d ⟨at_, en, 0, 0⟩).2.e = 0 then ((grp bs f num d ⟨at_, en, 0, 0⟩).1, ((grp bs f num d ⟨at_, en, 0, 0⟩).2.at_ : Int), 0) else ((at_ : Int), (at_ : Int), (grp bs f num d ⟨at_, en, 0, 0⟩).2.e) := by
      unfold conQ; rw [e1, if_pos hk3, hx]
    rw [e1, e2]
    clear e1 e2 hx
    refine CT.loop (α := Nat × Nat) (fun x => [(0, sl8 a n c), (1, .int .i64 at_), (2, .int .i64 en), (3, .int .i32 num), (5, .int .i64 d), (22, .int .i64 x.2)]) (fun x => Pu (x.1 ≤ f ∧ x.2 ≤ en ∧ en - x.2 < x.1 ∧ grp bs x.1 num d ⟨x.2, en, 0, 0⟩ = grp bs f num d ⟨at_, en, 0, 0⟩) :: R) (fun x => x.1) (f, at_) ⟨rfl, rfl, rfl, rfl, rfl, rfl, trivial⟩
      (fun w h => Sat.pu_in ⟨Nat.le_refl _, h1, hf, rfl⟩ h) (fun x => CT.pu fun hx => ?_)
    obtain ⟨g, p⟩ := x
    obtain ⟨x1, x2, x3, x4⟩ := hx
    dsimp only at x1 x2 x3 x4 ⊢
    rw [← x4]
    obtain ⟨g, rfl⟩ : ∃ g', g = g' + 1 := ⟨g - 1, by omega⟩
    have hok : RS.ok n ⟨p, en, 0, 0⟩ := ⟨x2, h2, Nat.zero_le _⟩
    repeat' (first|((first|refine vc_id ?_|(refine RT.id ?_;refine RT.c T ?_));(conv=>whnf);first|refine RT.id ?_|(refine⟨fun hc=>?_,fun hc=>?_⟩<;>first|(exfalso;omega)|skip)|(apply num_k;omega;omega)|(apply num_m;intro r hr)|(intro r hr))|(refine RT.id ?_;first|refine RT.nil ?_|(apply RT.ld T;exact rfl;(focus ((repeat constructor);done));iterate 4 exact rfl)|(apply RT.st T;(iterate 3 exact rfl);(focus ((repeat constructor);done));(focus repeat constructor);iterate 2 exact rfl)|((first|apply RT.box|apply RT.alloc T);(iterate 4 exact rfl);intro b)|((first|apply RT.pnil T|apply RT.pnnil T);iterate 6 exact rfl)|(refine RT.isPush ?_;refine RT.pushI T rfl rfl rfl (fun a' c'=>by ((repeat constructor);done)) (by omega) (by omega) rfl rfl rfl rfl (fun a' c' b' c1' hac=>?_))|refine RT.build T rfl rfl rfl rfl rfl ?_|(apply RT.lens T;iterate 4 exact rfl))|(refine AtQ.id_ ?_;first|refine nx ?_|refine A0 ?_|refine A9 ?_|refine AtQ.in_ne rfl ?_)|(refine CT.id_ ?_;first|refine nx ?_|refine CT.region ?_|refine CT.quiet mixed (by kernel_rfl) ?_|refine CT.cond_t rfl ?_|refine CT.cond_f rfl ?_))
    (refine RT.call T rfl (by (repeat (first|exact Fr.nil|(apply Fr.cons;focus ((repeat constructor);done))))) (dtag_fn hR hb x2 h2 h3) rfl rfl rfl ?_; rintro _ _ ⟨rfl, rfl⟩; try simp only [List.cons_append, List.nil_append])
    obtain ⟨ton, tat⟩ := RS.tag_on hok hl hb
    have htr := RS.tag_range hb hok hl
    have ht5 := RS.tag_k5 (bs := bs) (s := ⟨p, en, 0, 0⟩)
    have hgr := grp_succ (bs := bs) (f := g) (num := num) (d := d) (s := ⟨p, en, 0, 0⟩) rfl
    have htw := RS.tag_wh (bs := bs) (s := ⟨p, en, 0, 0⟩) rfl
    have htz := RS.tag_kp (bs := bs) (s := ⟨p, en, 0, 0⟩)
    generalize RS.tag bs ⟨p, en, 0, 0⟩ = tt at *
    obtain ⟨⟨tn, tk⟩, t1⟩ := tt
    dsimp only at ton tat hgr htr htw htz ht5 ⊢
    obtain ⟨r1, r2, r3, r4⟩ := htr
    generalize grp bs (g + 1) num d ⟨p, en, 0, 0⟩ = G at *
    by_cases te : t1.e = 0
    · have tat := tat te
      have htq := htz.eq te
      have ten := ton.2.1
      have tok := ton.1
      have tle := tok.1
      dsimp only at ten
      rw [if_pos te] at hgr
      by_cases k4 : tk = 4
      · rw [if_pos k4] at hgr
        by_cases kn : tn = num
        · rw [if_pos kn] at hgr
          subst hgr
          simp only [if_pos te]
          repeat' (first|((first|refine vc_id ?_|(refine RT.id ?_;refine RT.c T ?_));(conv=>whnf);first|refine RT.id ?_|(refine⟨fun hc=>?_,fun hc=>?_⟩<;>first|(exfalso;omega)|skip)|(apply num_k;omega;omega)|(apply num_m;intro r hr)|(intro r hr))|(refine RT.id ?_;first|refine RT.nil ?_|(apply RT.ld T;exact rfl;(focus ((repeat constructor);done));iterate 4 exact rfl)|(apply RT.st T;(iterate 3 exact rfl);(focus ((repeat constructor);done));(focus repeat constructor);iterate 2 exact rfl)|((first|apply RT.box|apply RT.alloc T);(iterate 4 exact rfl);intro b)|((first|apply RT.pnil T|apply RT.pnnil T);iterate 6 exact rfl)|(refine RT.isPush ?_;refine RT.pushI T rfl rfl rfl (fun a' c'=>by ((repeat constructor);done)) (by omega) (by omega) rfl rfl rfl rfl (fun a' c' b' c1' hac=>?_))|refine RT.build T rfl rfl rfl rfl rfl ?_|(apply RT.lens T;iterate 4 exact rfl))|(refine AtQ.id_ ?_;first|refine nx ?_|refine A0 ?_|refine A9 ?_|refine AtQ.in_ne rfl ?_)|(refine CT.id_ ?_;first|refine nx ?_|refine CT.region ?_|refine CT.quiet mixed (by kernel_rfl) ?_|refine CT.cond_t rfl ?_|refine CT.cond_f rfl ?_))
          exact AtQ.fin4 (H' := []) Try.results117 rfl rfl rfl rfl ⟨_, rfl, fun h => absurd te h, rfl⟩ (fun _ h => h)
        · rw [if_neg kn] at hgr
          have hge : G.2.e = 13 ∧ G.2.wh = p := by subst hgr; unfold RS.wrong; rw [if_pos te]; exact ⟨rfl, rfl⟩
          rw [if_neg (by omega), hge.1, hge.2]
          repeat' (first|((first|refine vc_id ?_|(refine RT.id ?_;refine RT.c T ?_));(conv=>whnf);first|refine RT.id ?_|(refine⟨fun hc=>?_,fun hc=>?_⟩<;>first|(exfalso;omega)|skip)|(apply num_k;omega;omega)|(apply num_m;intro r hr)|(intro r hr))|(refine RT.id ?_;first|refine RT.nil ?_|(apply RT.ld T;exact rfl;(focus ((repeat constructor);done));iterate 4 exact rfl)|(apply RT.st T;(iterate 3 exact rfl);(focus ((repeat constructor);done));(focus repeat constructor);iterate 2 exact rfl)|((first|apply RT.box|apply RT.alloc T);(iterate 4 exact rfl);intro b)|((first|apply RT.pnil T|apply RT.pnnil T);iterate 6 exact rfl)|(refine RT.isPush ?_;refine RT.pushI T rfl rfl rfl (fun a' c'=>by ((repeat constructor);done)) (by omega) (by omega) rfl rfl rfl rfl (fun a' c' b' c1' hac=>?_))|refine RT.build T rfl rfl rfl rfl rfl ?_|(apply RT.lens T;iterate 4 exact rfl))|(refine AtQ.id_ ?_;first|refine nx ?_|refine A0 ?_|refine A9 ?_|refine AtQ.in_ne rfl ?_)|(refine CT.id_ ?_;first|refine nx ?_|refine CT.region ?_|refine CT.quiet mixed (by kernel_rfl) ?_|refine CT.cond_t rfl ?_|refine CT.cond_f rfl ?_))
          exact AtQ.fin4 (H' := []) Try.results117 rfl rfl rfl rfl ⟨_, rfl, fun _ => rfl, rfl⟩ (fun _ h => h)
      · rw [if_neg k4] at hgr
        have hco := RS.con_on (f := g) (num := tn) (k := tk) (d := d - 1) tok hl hb
        have hck := RS.con_kp (bs := bs) (s := ⟨t1.at_, en, 0, 0⟩) (f := g) (num := tn) (k := tk) (d := d - 1)
        have hcg : RS.con bs g tn tk (d - 1) t1 = (if tk = 3 then (grp bs g tn (d - 1) (RS.dep (d - 1) t1)).2 else RS.simple bs tk t1) := rfl
        rw [← hcg] at hgr
        clear hcg
        rw [te]
        rw [htq] at hgr hco
        try dsimp only at hgr hco
        repeat' (first|((first|refine vc_id ?_|(refine RT.id ?_;refine RT.c T ?_));(conv=>whnf);first|refine RT.id ?_|(refine⟨fun hc=>?_,fun hc=>?_⟩<;>first|(exfalso;omega)|skip)|(apply num_k;omega;omega)|(apply num_m;intro r hr)|(intro r hr))|(refine RT.id ?_;first|refine RT.nil ?_|(apply RT.ld T;exact rfl;(focus ((repeat constructor);done));iterate 4 exact rfl)|(apply RT.st T;(iterate 3 exact rfl);(focus ((repeat constructor);done));(focus repeat constructor);iterate 2 exact rfl)|((first|apply RT.box|apply RT.alloc T);(iterate 4 exact rfl);intro b)|((first|apply RT.pnil T|apply RT.pnnil T);iterate 6 exact rfl)|(refine RT.isPush ?_;refine RT.pushI T rfl rfl rfl (fun a' c'=>by ((repeat constructor);done)) (by omega) (by omega) rfl rfl rfl rfl (fun a' c' b' c1' hac=>?_))|refine RT.build T rfl rfl rfl rfl rfl ?_|(apply RT.lens T;iterate 4 exact rfl))|(refine AtQ.id_ ?_;first|refine nx ?_|refine A0 ?_|refine A9 ?_|refine AtQ.in_ne rfl ?_)|(refine CT.id_ ?_;first|refine nx ?_|refine CT.region ?_|refine CT.quiet mixed (by kernel_rfl) ?_|refine CT.cond_t rfl ?_|refine CT.cond_f rfl ?_))
        refine RT.call T rfl (by (repeat (first|exact Fr.nil|(apply Fr.cons;focus ((repeat constructor);done))))) (ih g (by omega) t1.at_ en tn tk (d - 1) (by omega) h2 (by omega) (by omega) (by omega) r3 (by omega) k4 (by omega) (by omega)) rfl rfl rfl ?_
        rintro _ _ ⟨sp, rfl, hsp, rfl⟩
        simp only [List.nil_append]
        unfold conQ
        generalize RS.con bs g tn tk (d - 1) ⟨t1.at_, en, 0, 0⟩ = t2 at *
        by_cases t2e : t2.e = 0
        · simp only [if_pos t2e]
          have htq2 := hck.eq t2e
          obtain ⟨⟨u1, u2, u3⟩, u4, u5, u6⟩ := hco
          dsimp only at u4 u5
          repeat' (first|((first|refine vc_id ?_|(refine RT.id ?_;refine RT.c T ?_));(conv=>whnf);first|refine RT.id ?_|(refine⟨fun hc=>?_,fun hc=>?_⟩<;>first|(exfalso;omega)|skip)|(apply num_k;omega;omega)|(apply num_m;intro r hr)|(intro r hr))|(refine RT.id ?_;first|refine RT.nil ?_|(apply RT.ld T;exact rfl;(focus ((repeat constructor);done));iterate 4 exact rfl)|(apply RT.st T;(iterate 3 exact rfl);(focus ((repeat constructor);done));(focus repeat constructor);iterate 2 exact rfl)|((first|apply RT.box|apply RT.alloc T);(iterate 4 exact rfl);intro b)|((first|apply RT.pnil T|apply RT.pnnil T);iterate 6 exact rfl)|(refine RT.isPush ?_;refine RT.pushI T rfl rfl rfl (fun a' c'=>by ((repeat constructor);done)) (by omega) (by omega) rfl rfl rfl rfl (fun a' c' b' c1' hac=>?_))|refine RT.build T rfl rfl rfl rfl rfl ?_|(apply RT.lens T;iterate 4 exact rfl))|(refine AtQ.id_ ?_;first|refine nx ?_|refine A0 ?_|refine A9 ?_|refine AtQ.in_ne rfl ?_)|(refine CT.id_ ?_;first|refine nx ?_|refine CT.region ?_|refine CT.quiet mixed (by kernel_rfl) ?_|refine CT.cond_t rfl ?_|refine CT.cond_f rfl ?_))
          exact AtQ.loop (g, t2.at_) ⟨rfl, rfl, rfl, rfl, rfl, rfl, trivial⟩ (fun w h => Sat.pu_in ⟨by simp only; omega, by simp only; omega, by simp only; omega, by simp only; rw [← htq2, ← hgr]⟩ h) (by simp only; omega)
        · simp only [if_neg t2e]
          rw [grp_bad t2e] at hgr
          subst hgr
          simp only [if_neg t2e]
          repeat' (first|((first|refine vc_id ?_|(refine RT.id ?_;refine RT.c T ?_));(conv=>whnf);first|refine RT.id ?_|(refine⟨fun hc=>?_,fun hc=>?_⟩<;>first|(exfalso;omega)|skip)|(apply num_k;omega;omega)|(apply num_m;intro r hr)|(intro r hr))|(refine RT.id ?_;first|refine RT.nil ?_|(apply RT.ld T;exact rfl;(focus ((repeat constructor);done));iterate 4 exact rfl)|(apply RT.st T;(iterate 3 exact rfl);(focus ((repeat constructor);done));(focus repeat constructor);iterate 2 exact rfl)|((first|apply RT.box|apply RT.alloc T);(iterate 4 exact rfl);intro b)|((first|apply RT.pnil T|apply RT.pnnil T);iterate 6 exact rfl)|(refine RT.isPush ?_;refine RT.pushI T rfl rfl rfl (fun a' c'=>by ((repeat constructor);done)) (by omega) (by omega) rfl rfl rfl rfl (fun a' c' b' c1' hac=>?_))|refine RT.build T rfl rfl rfl rfl rfl ?_|(apply RT.lens T;iterate 4 exact rfl))|(refine AtQ.id_ ?_;first|refine nx ?_|refine A0 ?_|refine A9 ?_|refine AtQ.in_ne rfl ?_)|(refine CT.id_ ?_;first|refine nx ?_|refine CT.region ?_|refine CT.quiet mixed (by kernel_rfl) ?_|refine CT.cond_t rfl ?_|refine CT.cond_f rfl ?_))
          exact AtQ.fin4 (H' := []) Try.results117 rfl rfl rfl rfl ⟨_, rfl, hsp, rfl⟩ (fun _ h => h)
    · rw [if_neg te] at hgr
      subst hgr
      simp only [if_neg te]
      repeat' (first|((first|refine vc_id ?_|(refine RT.id ?_;refine RT.c T ?_));(conv=>whnf);first|refine RT.id ?_|(refine⟨fun hc=>?_,fun hc=>?_⟩<;>first|(exfalso;omega)|skip)|(apply num_k;omega;omega)|(apply num_m;intro r hr)|(intro r hr))|(refine RT.id ?_;first|refine RT.nil ?_|(apply RT.ld T;exact rfl;(focus ((repeat constructor);done));iterate 4 exact rfl)|(apply RT.st T;(iterate 3 exact rfl);(focus ((repeat constructor);done));(focus repeat constructor);iterate 2 exact rfl)|((first|apply RT.box|apply RT.alloc T);(iterate 4 exact rfl);intro b)|((first|apply RT.pnil T|apply RT.pnnil T);iterate 6 exact rfl)|(refine RT.isPush ?_;refine RT.pushI T rfl rfl rfl (fun a' c'=>by ((repeat constructor);done)) (by omega) (by omega) rfl rfl rfl rfl (fun a' c' b' c1' hac=>?_))|refine RT.build T rfl rfl rfl rfl rfl ?_|(apply RT.lens T;iterate 4 exact rfl))|(refine AtQ.id_ ?_;first|refine nx ?_|refine A0 ?_|refine A9 ?_|refine AtQ.in_ne rfl ?_)|(refine CT.id_ ?_;first|refine nx ?_|refine CT.region ?_|refine CT.quiet mixed (by kernel_rfl) ?_|refine CT.cond_t rfl ?_|refine CT.cond_f rfl ?_))
      exact AtQ.fin4 (H' := []) Try.results117 rfl rfl rfl rfl ⟨_, rfl, fun h => (htw h).1.symm ▸ rfl, rfl⟩ (fun _ h => h)
end Go.Proofs.Ytldfbjcicbfidaa
