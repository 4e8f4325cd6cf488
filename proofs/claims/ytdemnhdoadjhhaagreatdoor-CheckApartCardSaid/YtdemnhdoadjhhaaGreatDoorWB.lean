/- Merged: Z5, Z6, H2, H3, G1, G2, G3, P3, G4, H4, H5, Y2, Z7, Y3, Z8, Y4, Z9, P20, P22. -/
import Derived.Test.YtdemnhdoadjhhaaGreatDoorWA
import Derived.Test.YtdemnhdoadjhhaaGreatDoorSkB
import Derived.Lib.Bytealg
import Derived.Test.YtdemnhdoadjhhaaGreatDoorTb
import Derived.Test.YtdemnhdoadjhhaaGreatDoorSkA
set_option linter.unusedVariables false
set_option linter.unusedSimpArgs false
section
namespace Go.Proofs.YtdemnhdoadjhhaaGreatDoor
open Go.Sk
set_option maxRecDepth 100000
theorem half {s r : Int} (h0 : 2 * r ≤ s) (h1 : s ≤ 2 * r + 1) : Int.fdiv s (2 ^ (min (Int.toNat 1) (IntKind.bits .u64))) = r := by
 show Int.fdiv s 2 = r
 rw [Int.fdiv_eq_ediv_of_nonneg _ (by decide)]
 omega
attribute [local irreducible] Cs Own Ex Pu Yld RT LJ QJ AtQ CT Rd QSp Sp FinQ Then LoopQ CutQ DT TakeQ EffQ
variable {B : World}
set_option maxHeartbeats 20000000 in
theorem merge_fn (dd : Nat) : ∀ {R : List HP} {a : Option Addr} {c N m : Nat} {A X Y C D : List SymT} {p q : Int}, X.length + Y.length ≤ dd → D = A ++ X ++ Y ++ C → D.length = N → N ≤ c → N ≤ 1073741824 → p = A.length → A.length + X.length = m → q = m + Y.length →
  0 < X.length → 0 < Y.length → (∀ s ∈ X, s.Ok) → (∀ s ∈ Y, s.Ok) → Srt befB X → Srt befB Y →
  Sp B Tryz.prog 129 [.slice a N c, .int .i64 p, .int .i64 m, .int .i64 q, cF] R [sO a c N D] (fun v H' => v = .tuple #[] ∧ ∃ Z, Z.Perm (X ++ Y) ∧ Srt befB Z ∧ H' = [sO a c N (A ++ Z ++ C)]) := by
 induction dd using Nat.strongRecOn with | ind dd ih => ?_
 intro R a c N m A X Y C D p q hdd hD hN hNc hb hp hm hq hx0 hy0 hokX hokY hsX hsY
 have hNl : A.length + X.length + Y.length + C.length = N := by rw [← hN, hD]; simp only [List.length_append]
 subst hp hq
 refine Sp.body Tryz.func129 rfl Tryz.ntmps129 (by simp) ?_
 simp only [argE, List.cons_append, List.nil_append, Nat.zero_add, Nat.reduceAdd]
 repeat' (first|(refine gv ?_;first|refine RT.id ?_|(refine⟨fun hc=>?_,fun hc=>?_⟩<;>first|(exfalso;omega)|skip)|refine gk ?_|refine num_m fun r hr=>?_|intro r hr)|refine gs ?_|(refine gb ?_;intro b)|refine gn ?_|(refine RT.isPush ?_;refine gp ?_;intro a' c' b' c1' hac)|(refine CT.id_ ?_;first|refine nx ?_|fail))
 first | (refine CT.region ?_) | (refine CT.quiet mixed (by kernel_rfl) ?_)
 repeat' (first|(refine gv ?_;first|refine RT.id ?_|(refine⟨fun hc=>?_,fun hc=>?_⟩<;>first|(exfalso;omega)|skip)|refine gk ?_|refine num_m fun r hr=>?_|intro r hr)|refine gs ?_|(refine gb ?_;intro b)|refine gn ?_|(refine RT.isPush ?_;refine gp ?_;intro a' c' b' c1' hac)|(refine CT.id_ ?_;first|refine nx ?_|fail))
 ·-- one ahead
  obtain ⟨x, rfl⟩ : ∃ x, X = [x] := by
   cases X with
   | nil => simp at hx0
   | cons x X => exact ⟨x, by rw [List.eq_nil_of_length_eq_zero (l := X) (by simp only [List.length_cons] at *; omega)]⟩
  simp only [List.length_singleton] at hm hNl hdd
  have hxok := hokX x (by simp)
  have gx : D[A.length]? = some x := by rw [hD, List.append_assoc, List.append_assoc]; exact get_at rfl
  have gy : ∀ w, w < Y.length → D[m + w]? = Y[w]? := fun w hw => by rw [hD]; exact at_mid (by simp only [List.length_append, List.length_singleton]; omega) hw
  clear ih hc
  repeat' (first|(refine gv ?_;first|refine RT.id ?_|(refine⟨fun hc=>?_,fun hc=>?_⟩<;>first|(exfalso;omega)|skip)|refine gk ?_|refine num_m fun r hr=>?_|intro r hr)|refine gs ?_|(refine gb ?_;intro b)|refine gn ?_|(refine RT.isPush ?_;refine gp ?_;intro a' c' b' c1' hac)|(refine CT.id_ ?_;first|refine CT.seqN 3 rfl ?_|refine CT.blockN 3 rfl ?_|refine CT.region ?_|refine CT.quiet mixed (by kernel_rfl) ?_|refine CT.cond_t rfl ?_|refine CT.cond_f rfl ?_|refine CT.skip ?_|refine CT.ret ?_|refine CT.exit ?_))
  refine CT.seq ?_
  refine CT.block ?_
  refine CT.loop (α := Nat × Nat) (fun s => [(0, .slice a N c), (1, .int .i64 A.length), (2, .int .i64 m), (4, cF), (10, .int .i64 (m + s.1)), (11, .int .i64 (m + s.2))])
   (fun s => Pu (s.1 ≤ s.2 ∧ s.2 ≤ Y.length ∧ (∀ y ∈ Y.take s.1, befB x y = false) ∧ (∀ y ∈ Y.drop s.2, befB y x = false)) :: sO a c N D :: R) (fun s => s.2 - s.1) (0, Y.length)
   ⟨rfl, rfl, rfl, rfl, congrArg (fun z : Int => some (Value.int IntKind.i64 z)) (by dsimp only; omega), rfl, trivial⟩
   (fun w h => Sat.pu_in ⟨Nat.zero_le _, Nat.le_refl _, fun y hy => by simp at hy, fun y hy => by simp at hy⟩ h) (fun s => CT.pu fun hh => ?_)
  obtain ⟨u, v⟩ := s
  obtain ⟨h1, h2, h3, h4⟩ := hh
  dsimp only at h1 h2 h3 h4 ⊢
  repeat' (first|(refine gv ?_;first|refine RT.id ?_|(refine⟨fun hc=>?_,fun hc=>?_⟩<;>first|(exfalso;omega)|skip)|refine gk ?_|refine num_m fun r hr=>?_|intro r hr)|refine gs ?_|(refine gb ?_;intro b)|refine gn ?_|(refine RT.isPush ?_;refine gp ?_;intro a' c' b' c1' hac)|(refine CT.id_ ?_;first|refine CT.seqN 5 rfl ?_|refine CT.blockN 5 rfl ?_|refine CT.region ?_|refine CT.quiet mixed (by kernel_rfl) ?_|refine CT.cond_t rfl ?_|refine CT.cond_f rfl ?_|refine CT.skip ?_|refine CT.ret ?_|refine CT.exit ?_))
  ·have huv : u < v := by omega
   obtain ⟨w, hw⟩ : ∃ w, w = (2 * m + u + v) / 2 - m := ⟨_, rfl⟩
   have hw1 : u ≤ w ∧ w < v ∧ 2 * (m + w) ≤ m + u + (m + v) ∧ m + u + (m + v) ≤ 2 * (m + w) + 1 := by omega
   obtain ⟨y, gw⟩ : ∃ y, Y[w]? = some y := ⟨_, List.getElem?_eq_getElem (by omega)⟩
   have hyok := hokY y (List.mem_of_getElem? gw)
   have gd := (gy w (by omega)).trans gw
   refine RT.shr rfl rfl (by omega) (r := (m : Int) + w) (half (by omega) (by omega)) rfl rfl ?_
   clear hw
   repeat' (first|(refine gv ?_;first|refine RT.id ?_|(refine⟨fun hc=>?_,fun hc=>?_⟩<;>first|(exfalso;omega)|skip)|refine gk ?_|refine num_m fun r hr=>?_|intro r hr)|refine gs ?_|(refine gb ?_;intro b)|refine gn ?_|(refine RT.isPush ?_;refine gp ?_;intro a' c' b' c1' hac)|(refine CT.id_ ?_;first|refine CT.seqN 5 rfl ?_|refine CT.blockN 5 rfl ?_|refine CT.region ?_|refine CT.quiet mixed (by kernel_rfl) ?_|refine CT.cond_t rfl ?_|refine CT.cond_f rfl ?_|refine CT.skip ?_|refine CT.ret ?_|refine CT.exit ?_))
   refine CT.seq ?_
   refine CT.tail 9 mixed (by kernel_rfl) ?_
   dsimp only [List.take_succ_cons, List.take_zero]
   repeat' (first|(refine gv ?_;first|refine RT.id ?_|(refine⟨fun hc=>?_,fun hc=>?_⟩<;>first|(exfalso;omega)|skip)|refine gk ?_|refine num_m fun r hr=>?_|intro r hr)|refine gs ?_|(refine gb ?_;intro b)|refine gn ?_|(refine RT.isPush ?_;refine gp ?_;intro a' c' b' c1' hac)|refine gc ?_|fail)
   refine RT.ix T (j := (m + w) * 3) rfl rfl rfl (sO_rd (by ((repeat constructor);done)) hN hNc) (by omega) (by omega) (by omega) rfl rfl ?_
   refine RT.ldra T rfl (sO_rd (by ((repeat constructor);done)) hN hNc) (l := y.cells) (flat_sub (f := SymT.cells) (z := 3) (fun _ => rfl) D _ _ gd) rfl rfl rfl rfl ?_
   repeat' (first|(refine gv ?_;first|refine RT.id ?_|(refine⟨fun hc=>?_,fun hc=>?_⟩<;>first|(exfalso;omega)|skip)|refine gk ?_|refine num_m fun r hr=>?_|intro r hr)|refine gs ?_|(refine gb ?_;intro b)|refine gn ?_|(refine RT.isPush ?_;refine gp ?_;intro a' c' b' c1' hac)|refine gc ?_|fail)
   refine RT.ix T (j := A.length * 3) rfl rfl rfl (sO_rd (by ((repeat constructor);done)) hN hNc) (by omega) (by omega) (by omega) rfl rfl ?_
   refine RT.ldra T rfl (sO_rd (by ((repeat constructor);done)) hN hNc) (l := x.cells) (flat_sub (f := SymT.cells) (z := 3) (fun _ => rfl) D _ _ gx) rfl rfl rfl rfl ?_
   repeat' (first|(refine gv ?_;first|refine RT.id ?_|(refine⟨fun hc=>?_,fun hc=>?_⟩<;>first|(exfalso;omega)|skip)|refine gk ?_|refine num_m fun r hr=>?_|intro r hr)|refine gs ?_|(refine gb ?_;intro b)|refine gn ?_|(refine RT.isPush ?_;refine gp ?_;intro a' c' b' c1' hac)|refine gc ?_|fail)
   refine AtQ.tail ?_
   refine RT.callV T rfl rfl (by (repeat (first|exact Fr.nil|(apply Fr.cons;focus ((repeat constructor);done))))) (cmp_fn hyok hxok) rfl rfl rfl ?_
   rintro _ _ ⟨rfl, rfl⟩
   simp only [List.nil_append]
   repeat' (first|(refine gv ?_;first|refine RT.id ?_|(refine⟨fun hc=>?_,fun hc=>?_⟩<;>first|(exfalso;omega)|skip)|refine gk ?_|refine num_m fun r hr=>?_|intro r hr)|refine gs ?_|(refine gb ?_;intro b)|refine gn ?_|(refine RT.isPush ?_;refine gp ?_;intro a' c' b' c1' hac)|refine gc ?_|fail)
   ·have hlt := (cmpV_lt y x).1 (by omega)
    exact AtQ.loop (w + 1, v) ⟨rfl, rfl, rfl, rfl, congrArg (fun z : Int => some (Value.int IntKind.i64 z)) (by dsimp only; omega), rfl, trivial⟩ (fun _ h => Sat.pu_in ⟨by dsimp only; omega, by dsimp only; omega, front_ok bef_wk hsY gw (bef_wk.asy hlt), h4⟩ h) (by dsimp only; omega)
   ·have hge := cmpV_f (s := y) (t := x) (by omega)
    exact AtQ.loop (u, w) ⟨rfl, rfl, rfl, rfl, rfl, rfl, trivial⟩ (fun _ h => Sat.pu_in ⟨by dsimp only; omega, by dsimp only; omega, h3, back_ok bef_wk hsY gw hge⟩ h) (by dsimp only; omega)
  ·obtain rfl : u = v := by omega
   clear gy h1
   refine CT.loop (α := Nat) (fun t => [(0, .slice a N c), (10, .int .i64 (m + u)), (13, .int .i64 (A.length + t))])
    (fun t => Pu (t ≤ u) :: sO a c N (A ++ Y.take t ++ x :: (Y.drop t ++ C)) :: R) (fun t => u - t) 0
    ⟨rfl, rfl, congrArg (fun z : Int => some (Value.int IntKind.i64 z)) (by omega), trivial⟩ (fun _ h => Sat.pu_in (Nat.zero_le _) (by rw [hD] at h; simpa using h)) (fun t => CT.pu fun ht => ?_)
   have hNN : (A ++ Y.take t ++ x :: (Y.drop t ++ C)).length = N := by simp only [List.length_append, List.length_cons, List.length_take, List.length_drop]; omega
   have hl0 : (A ++ Y.take t).length = A.length + t := by rw [List.length_append, List.length_take]; omega
   repeat' (first|(refine gv ?_;first|refine RT.id ?_|(refine⟨fun hc=>?_,fun hc=>?_⟩<;>first|(exfalso;omega)|skip)|refine gk ?_|refine num_m fun r hr=>?_|intro r hr)|refine gs ?_|(refine gb ?_;intro b)|refine gn ?_|(refine RT.isPush ?_;refine gp ?_;intro a' c' b' c1' hac)|(refine CT.id_ ?_;first|refine nx ?_|refine CT.region ?_|refine CT.cond_t rfl ?_|refine CT.cond_f rfl ?_))
   ·obtain ⟨z, hz⟩ : ∃ z, Y[t]? = some z := ⟨_, List.getElem?_eq_getElem (by omega)⟩
    obtain ⟨e2, e1⟩ := ins_step (A := A) (C := C) (x := x) hz
    have hdz : Y.drop t = z :: Y.drop (t + 1) := by
     obtain ⟨hj, e⟩ := List.getElem?_eq_some_iff.1 hz
     rw [List.drop_eq_getElem_cons hj, e]
    have es := swap_two' (x := x) (y := z) (Q := []) (R := Y.drop (t + 1) ++ C) hl0 (j := A.length + (t + 1)) (by rw [hl0]; simp only [List.length_nil]; omega)
    have g1 := get_at (x := x) (R := [] ++ z :: (Y.drop (t + 1) ++ C)) hl0
    have g2 := get_at2 (x := x) (y := z) (Q := []) (R := Y.drop (t + 1) ++ C) (j := A.length + (t + 1)) (show (A ++ Y.take t).length + 1 + ([] : List SymT).length = A.length + (t + 1) by rw [hl0]; simp only [List.length_nil]; omega)
    rw [← e1] at es g1 g2
    rw [← e2] at es
    clear e1 e2 hdz
    generalize hDi : A ++ Y.take t ++ x :: (Y.drop t ++ C) = Di at *
    ((refine CT.drawn [sO a c N (Di)] 15 mixed ?_); (refine DT.mv 2 rfl rfl rfl (by kernel_rfl) (by kernel_rfl) (by kernel_rfl) rfl (Clos.ofB (by kernel_rfl)) (fun w h => Sat.ones (by (repeat (first|exact Fr.nil|(apply Fr.cons;focus ((repeat constructor);done))))) h) ?_); (refine DT.mv 3 rfl rfl rfl (by kernel_rfl) (by kernel_rfl) (by kernel_rfl) rfl (Clos.ofB (by kernel_rfl)) (fun w h => Sat.ones (by (repeat (first|exact Fr.nil|(apply Fr.cons;focus ((repeat constructor);done))))) h) ?_); (refine DT.add 4 rfl rfl rfl (wr_i64 (by omega) (by omega)) rfl (by kernel_rfl) (by kernel_rfl) (by kernel_rfl) rfl (Clos.ofB (by kernel_rfl)) (fun w h => Sat.ones (by (repeat (first|exact Fr.nil|(apply Fr.cons;focus ((repeat constructor);done))))) h) ?_); (refine DT.takes (k := 3) [0, 1, 5, 6, 7, 8, 9, 10, 11, 12, 13, 14] [15] (fun w h => Sat.ones (by (repeat (first|exact Fr.nil|(apply Fr.cons;focus ((repeat constructor);done))))) h) (by kernel_rfl) (by kernel_rfl) (by kernel_rfl) rfl (Clos.ofB (by kernel_rfl)) ?_); (repeat' (first|(refine gv ?_;first|refine RT.id ?_|(refine⟨fun hc=>?_,fun hc=>?_⟩<;>first|(exfalso;omega)|skip)|refine gk ?_|refine num_m fun r hr=>?_|intro r hr)|refine gs ?_|(refine gb ?_;intro b)|refine gn ?_|(refine RT.isPush ?_;refine gp ?_;intro a' c' b' c1' hac)|refine gc ?_|fail)); (refine RT.ix T (j := (A.length + (t + 1)) * 3) rfl rfl rfl (sO_rd (by ((repeat constructor);done)) hNN hNc) (by omega) (by omega) (by omega) rfl rfl ?_); (refine RT.ldra T rfl (sO_rd (by ((repeat constructor);done)) hNN hNc) (l := SymT.cells z) (flat_sub (f := SymT.cells) (z := 3) (fun _ => rfl) Di _ _ g2) rfl rfl rfl rfl ?_); (repeat' (first|(refine gv ?_;first|refine RT.id ?_|(refine⟨fun hc=>?_,fun hc=>?_⟩<;>first|(exfalso;omega)|skip)|refine gk ?_|refine num_m fun r hr=>?_|intro r hr)|refine gs ?_|(refine gb ?_;intro b)|refine gn ?_|(refine RT.isPush ?_;refine gp ?_;intro a' c' b' c1' hac)|refine gc ?_|fail)); (refine RT.ix T (j := (A.length + t) * 3) rfl rfl rfl (sO_rd (by ((repeat constructor);done)) hNN hNc) (by omega) (by omega) (by omega) rfl rfl ?_); (refine RT.ldra T rfl (sO_rd (by ((repeat constructor);done)) hNN hNc) (l := SymT.cells x) (flat_sub (f := SymT.cells) (z := 3) (fun _ => rfl) Di _ _ g1) rfl rfl rfl rfl ?_); (repeat' (first|(refine gv ?_;first|refine RT.id ?_|(refine⟨fun hc=>?_,fun hc=>?_⟩<;>first|(exfalso;omega)|skip)|refine gk ?_|refine num_m fun r hr=>?_|intro r hr)|refine gs ?_|(refine gb ?_;intro b)|refine gn ?_|(refine RT.isPush ?_;refine gp ?_;intro a' c' b' c1' hac)|refine gc ?_|fail)); (refine RT.ix T (j := (A.length + t) * 3) rfl rfl rfl (sO_rd (by ((repeat constructor);done)) hNN hNc) (by omega) (by omega) (by omega) rfl rfl ?_); (repeat' (first|(refine gv ?_;first|refine RT.id ?_|(refine⟨fun hc=>?_,fun hc=>?_⟩<;>first|(exfalso;omega)|skip)|refine gk ?_|refine num_m fun r hr=>?_|intro r hr)|refine gs ?_|(refine gb ?_;intro b)|refine gn ?_|(refine RT.isPush ?_;refine gp ?_;intro a' c' b' c1' hac)|refine gc ?_|fail)); (refine AtQ.take ?_); (refine DT.eff 15 rfl (by kernel_rfl) ?_); (refine RT.stoA T (v := SymT.cells z) rfl rfl rfl (by ((repeat constructor);done)) (by rw [flat_len sym_len, hNN, sym_len]; omega) (by rw [sym_len]; decide) rfl rfl rfl ?_); (rw [sym_len, flat_set sym_len _ (by rw [hNN]; omega)]); (refine RT.nil ?_; refine AtQ.eff' (by kernel_rfl) ?_); (refine DT.eff 16 rfl (by kernel_rfl) ?_); (refine RT.ix T (j := (A.length + (t + 1)) * 3) rfl rfl rfl (sO_rd (by ((repeat constructor);done)) (by rw [List.length_set, hNN]) hNc) (by omega) (by omega) (by omega) rfl rfl ?_); (refine RT.nil ?_; refine AtQ.eff' (by kernel_rfl) ?_); (refine DT.eff 17 rfl (by kernel_rfl) ?_); (refine RT.stoA T (v := SymT.cells x) rfl rfl rfl (by ((repeat constructor);done)) (by rw [flat_len sym_len, List.length_set, hNN, sym_len]; omega) (by rw [sym_len]; decide) rfl rfl rfl ?_); (rw [sym_len, flat_set sym_len _ (by rw [List.length_set, hNN]; omega), es]); (refine RT.nil ?_; refine AtQ.eff' (by kernel_rfl) ?_); (refine DT.done (by kernel_rfl) ?_))
    repeat' (first|(refine gv ?_;first|refine RT.id ?_|(refine⟨fun hc=>?_,fun hc=>?_⟩<;>first|(exfalso;omega)|skip)|refine gk ?_|refine num_m fun r hr=>?_|intro r hr)|refine gs ?_|(refine gb ?_;intro b)|refine gn ?_|(refine RT.isPush ?_;refine gp ?_;intro a' c' b' c1' hac)|refine gc ?_|fail)
    exact AtQ.loop (t + 1) ⟨rfl, rfl, congrArg (fun z : Int => some (Value.int IntKind.i64 z)) (by omega), trivial⟩ (fun _ h => Sat.pu_in (by omega) h) (by omega)
   ·obtain rfl : t = u := by omega
    exact AtQ.fin0 Tryz.results129 (H' := [sO a c N (A ++ (Y.take t ++ x :: Y.drop t) ++ C)])
     ⟨rfl, Y.take t ++ x :: Y.drop t, by
      refine List.perm_middle.trans ?_
      rw [List.take_append_drop]
      exact List.Perm.refl _, ins_ok bef_wk (by rw [List.take_append_drop]; exact hsY) h3 h4, rfl⟩ (fun _ h => by simpa only [List.append_assoc, List.cons_append, List.nil_append] using h) _ (by first | exact .inl rfl | exact .inr rfl)
 refine CT.cond_f rfl ?_
 repeat' (first|(refine gv ?_;first|refine RT.id ?_|(refine⟨fun hc=>?_,fun hc=>?_⟩<;>first|(exfalso;omega)|skip)|refine gk ?_|refine num_m fun r hr=>?_|intro r hr)|refine gs ?_|(refine gb ?_;intro b)|refine gn ?_|(refine RT.isPush ?_;refine gp ?_;intro a' c' b' c1' hac)|(refine CT.id_ ?_;first|refine nx ?_|fail))
 first | (refine CT.region ?_) | (refine CT.quiet mixed (by kernel_rfl) ?_)
 repeat' (first|(refine gv ?_;first|refine RT.id ?_|(refine⟨fun hc=>?_,fun hc=>?_⟩<;>first|(exfalso;omega)|skip)|refine gk ?_|refine num_m fun r hr=>?_|intro r hr)|refine gs ?_|(refine gb ?_;intro b)|refine gn ?_|(refine RT.isPush ?_;refine gp ?_;intro a' c' b' c1' hac)|(refine CT.id_ ?_;first|refine nx ?_|fail))
 ·-- one behind
  obtain ⟨y, rfl⟩ : ∃ y, Y = [y] := by
   cases Y with
   | nil => simp at hy0
   | cons y Y => exact ⟨y, by rw [List.eq_nil_of_length_eq_zero (l := Y) (by simp only [List.length_cons] at *; omega)]⟩
  simp only [List.length_singleton] at hNl hdd
  have hyok := hokY y (by simp)
  have gy : D[m]? = some y := by rw [hD, List.append_assoc]; exact get_at (by rw [List.length_append]; exact hm)
  have gx : ∀ w, w < X.length → D[A.length + w]? = X[w]? := fun w hw => by rw [hD, List.append_assoc]; exact at_mid rfl hw
  clear ih
  repeat' (first|(refine gv ?_;first|refine RT.id ?_|(refine⟨fun hc=>?_,fun hc=>?_⟩<;>first|(exfalso;omega)|skip)|refine gk ?_|refine num_m fun r hr=>?_|intro r hr)|refine gs ?_|(refine gb ?_;intro b)|refine gn ?_|(refine RT.isPush ?_;refine gp ?_;intro a' c' b' c1' hac)|(refine CT.id_ ?_;first|refine CT.seqN 15 rfl ?_|refine CT.blockN 15 rfl ?_|refine CT.region ?_|refine CT.quiet mixed (by kernel_rfl) ?_|refine CT.cond_t rfl ?_|refine CT.cond_f rfl ?_|refine CT.skip ?_|refine CT.ret ?_|refine CT.exit ?_))
  refine CT.seq ?_
  refine CT.block ?_
  refine CT.loop (α := Nat × Nat) (fun s => [(0, .slice a N c), (1, .int .i64 A.length), (2, .int .i64 m), (4, cF), (14, .int .i64 (A.length + s.1)), (15, .int .i64 (A.length + s.2))])
   (fun s => Pu (s.1 ≤ s.2 ∧ s.2 ≤ X.length ∧ (∀ z ∈ X.take s.1, befB y z = false) ∧ (∀ z ∈ X.drop s.2, befB z y = false)) :: sO a c N D :: R) (fun s => s.2 - s.1) (0, X.length)
   ⟨rfl, rfl, rfl, rfl, congrArg (fun z : Int => some (Value.int IntKind.i64 z)) (by dsimp only; omega), congrArg (fun z : Int => some (Value.int IntKind.i64 z)) (by dsimp only; omega), trivial⟩
   (fun w h => Sat.pu_in ⟨Nat.zero_le _, Nat.le_refl _, fun y hy => by simp at hy, fun y hy => by simp at hy⟩ h) (fun s => CT.pu fun hh => ?_)
  obtain ⟨u, v⟩ := s
  obtain ⟨h1, h2, h3, h4⟩ := hh
  dsimp only at h1 h2 h3 h4 ⊢
  repeat' (first|(refine gv ?_;first|refine RT.id ?_|(refine⟨fun hc=>?_,fun hc=>?_⟩<;>first|(exfalso;omega)|skip)|refine gk ?_|refine num_m fun r hr=>?_|intro r hr)|refine gs ?_|(refine gb ?_;intro b)|refine gn ?_|(refine RT.isPush ?_;refine gp ?_;intro a' c' b' c1' hac)|(refine CT.id_ ?_;first|refine CT.seqN 17 rfl ?_|refine CT.blockN 17 rfl ?_|refine CT.region ?_|refine CT.quiet mixed (by kernel_rfl) ?_|refine CT.cond_t rfl ?_|refine CT.cond_f rfl ?_|refine CT.skip ?_|refine CT.ret ?_|refine CT.exit ?_))
  ·have huv : u < v := by omega
   obtain ⟨w, hw⟩ : ∃ w, w = (2 * A.length + u + v) / 2 - A.length := ⟨_, rfl⟩
   have hw1 : u ≤ w ∧ w < v ∧ 2 * (A.length + w) ≤ A.length + u + (A.length + v) ∧ A.length + u + (A.length + v) ≤ 2 * (A.length + w) + 1 := by omega
   obtain ⟨x, gw⟩ : ∃ x, X[w]? = some x := ⟨_, List.getElem?_eq_getElem (by omega)⟩
   have hxok := hokX x (List.mem_of_getElem? gw)
   have gd := (gx w (by omega)).trans gw
   refine RT.shr rfl rfl (by omega) (r := (A.length : Int) + w) (half (by omega) (by omega)) rfl rfl ?_
   clear hw
   repeat' (first|(refine gv ?_;first|refine RT.id ?_|(refine⟨fun hc=>?_,fun hc=>?_⟩<;>first|(exfalso;omega)|skip)|refine gk ?_|refine num_m fun r hr=>?_|intro r hr)|refine gs ?_|(refine gb ?_;intro b)|refine gn ?_|(refine RT.isPush ?_;refine gp ?_;intro a' c' b' c1' hac)|(refine CT.id_ ?_;first|refine CT.seqN 17 rfl ?_|refine CT.blockN 17 rfl ?_|refine CT.region ?_|refine CT.quiet mixed (by kernel_rfl) ?_|refine CT.cond_t rfl ?_|refine CT.cond_f rfl ?_|refine CT.skip ?_|refine CT.ret ?_|refine CT.exit ?_))
   refine CT.seq ?_
   refine CT.tail 9 mixed (by kernel_rfl) ?_
   dsimp only [List.take_succ_cons, List.take_zero]
   repeat' (first|(refine gv ?_;first|refine RT.id ?_|(refine⟨fun hc=>?_,fun hc=>?_⟩<;>first|(exfalso;omega)|skip)|refine gk ?_|refine num_m fun r hr=>?_|intro r hr)|refine gs ?_|(refine gb ?_;intro b)|refine gn ?_|(refine RT.isPush ?_;refine gp ?_;intro a' c' b' c1' hac)|refine gc ?_|fail)
   refine RT.ix T (j := m * 3) rfl rfl rfl (sO_rd (by ((repeat constructor);done)) hN hNc) (by omega) (by omega) (by omega) rfl rfl ?_
   refine RT.ldra T rfl (sO_rd (by ((repeat constructor);done)) hN hNc) (l := y.cells) (flat_sub (f := SymT.cells) (z := 3) (fun _ => rfl) D _ _ gy) rfl rfl rfl rfl ?_
   repeat' (first|(refine gv ?_;first|refine RT.id ?_|(refine⟨fun hc=>?_,fun hc=>?_⟩<;>first|(exfalso;omega)|skip)|refine gk ?_|refine num_m fun r hr=>?_|intro r hr)|refine gs ?_|(refine gb ?_;intro b)|refine gn ?_|(refine RT.isPush ?_;refine gp ?_;intro a' c' b' c1' hac)|refine gc ?_|fail)
   refine RT.ix T (j := (A.length + w) * 3) rfl rfl rfl (sO_rd (by ((repeat constructor);done)) hN hNc) (by omega) (by omega) (by omega) rfl rfl ?_
   refine RT.ldra T rfl (sO_rd (by ((repeat constructor);done)) hN hNc) (l := x.cells) (flat_sub (f := SymT.cells) (z := 3) (fun _ => rfl) D _ _ gd) rfl rfl rfl rfl ?_
   repeat' (first|(refine gv ?_;first|refine RT.id ?_|(refine⟨fun hc=>?_,fun hc=>?_⟩<;>first|(exfalso;omega)|skip)|refine gk ?_|refine num_m fun r hr=>?_|intro r hr)|refine gs ?_|(refine gb ?_;intro b)|refine gn ?_|(refine RT.isPush ?_;refine gp ?_;intro a' c' b' c1' hac)|refine gc ?_|fail)
   refine AtQ.tail ?_
   refine RT.callV T rfl rfl (by (repeat (first|exact Fr.nil|(apply Fr.cons;focus ((repeat constructor);done))))) (cmp_fn hyok hxok) rfl rfl rfl ?_
   rintro _ _ ⟨rfl, rfl⟩
   simp only [List.nil_append]
   repeat' (first|(refine gv ?_;first|refine RT.id ?_|(refine⟨fun hc=>?_,fun hc=>?_⟩<;>first|(exfalso;omega)|skip)|refine gk ?_|refine num_m fun r hr=>?_|intro r hr)|refine gs ?_|(refine gb ?_;intro b)|refine gn ?_|(refine RT.isPush ?_;refine gp ?_;intro a' c' b' c1' hac)|refine gc ?_|fail)
   ·have hlt := (cmpV_lt y x).1 (by omega)
    exact AtQ.loop (u, w) ⟨rfl, rfl, rfl, rfl, rfl, rfl, trivial⟩ (fun _ h => Sat.pu_in ⟨by dsimp only; omega, by dsimp only; omega, h3, back_ok bef_wk hsX gw (bef_wk.asy hlt)⟩ h) (by dsimp only; omega)
   ·have hge := cmpV_f (s := y) (t := x) (by omega)
    exact AtQ.loop (w + 1, v) ⟨rfl, rfl, rfl, rfl, congrArg (fun z : Int => some (Value.int IntKind.i64 z)) (by dsimp only; omega), rfl, trivial⟩ (fun _ h => Sat.pu_in ⟨by dsimp only; omega, by dsimp only; omega, front_ok bef_wk hsX gw hge, h4⟩ h) (by dsimp only; omega)
  ·obtain rfl : u = v := by omega
   clear gx h1
   refine CT.loop (α := Nat) (fun t => [(0, .slice a N c), (14, .int .i64 (A.length + u)), (17, .int .i64 (A.length + t))])
    (fun t => Pu (u ≤ t ∧ t ≤ X.length) :: sO a c N (A ++ X.take t ++ y :: (X.drop t ++ C)) :: R) (fun t => t) X.length
    ⟨rfl, rfl, congrArg (fun z : Int => some (Value.int IntKind.i64 z)) (by omega), trivial⟩ (fun _ h => Sat.pu_in ⟨h2, Nat.le_refl _⟩ (by rw [hD] at h; simpa using h)) (fun t => CT.pu fun ⟨ht, ht2⟩ => ?_)
   have hNN : (A ++ X.take t ++ y :: (X.drop t ++ C)).length = N := by simp only [List.length_append, List.length_cons, List.length_take, List.length_drop]; omega
   have hlt : (A ++ X.take t).length = A.length + t := by rw [List.length_append, List.length_take]; omega
   have gyt := get_at (x := y) (R := X.drop t ++ C) hlt
   repeat' (first|(refine gv ?_;first|refine RT.id ?_|(refine⟨fun hc=>?_,fun hc=>?_⟩<;>first|(exfalso;omega)|skip)|refine gk ?_|refine num_m fun r hr=>?_|intro r hr)|refine gs ?_|(refine gb ?_;intro b)|refine gn ?_|(refine RT.isPush ?_;refine gp ?_;intro a' c' b' c1' hac)|(refine CT.id_ ?_;first|refine nx ?_|refine CT.region ?_|refine CT.cond_t rfl ?_|refine CT.cond_f rfl ?_))
   ·obtain ⟨k, rfl⟩ : ∃ k', t = k' + 1 := ⟨t - 1, by omega⟩
    obtain ⟨z, hz⟩ : ∃ z, X[k]? = some z := ⟨_, List.getElem?_eq_getElem (by omega)⟩
    obtain ⟨e1, e2⟩ := ins_step (A := A) (C := C) (x := y) hz
    have hl0 : (A ++ X.take k).length = A.length + k := by rw [List.length_append, List.length_take]; omega
    have gz := get_at (x := z) (R := [] ++ y :: (X.drop (k + 1) ++ C)) hl0
    have es := swap_two (x := z) (y := y) (Q := []) (R := X.drop (k + 1) ++ C) hl0 (j := A.length + (k + 1)) (by rw [hl0]; simp only [List.length_nil]; omega)
    rw [← e1] at gz es
    rw [← e2] at es
    clear e1 e2
    generalize hDi : A ++ X.take (k + 1) ++ y :: (X.drop (k + 1) ++ C) = Di at *
    ((refine CT.drawn [sO a c N (Di)] 15 mixed ?_); (refine DT.mv 2 rfl rfl rfl (by kernel_rfl) (by kernel_rfl) (by kernel_rfl) rfl (Clos.ofB (by kernel_rfl)) (fun w h => Sat.ones (by (repeat (first|exact Fr.nil|(apply Fr.cons;focus ((repeat constructor);done))))) h) ?_); (refine DT.mv 3 rfl rfl rfl (by kernel_rfl) (by kernel_rfl) (by kernel_rfl) rfl (Clos.ofB (by kernel_rfl)) (fun w h => Sat.ones (by (repeat (first|exact Fr.nil|(apply Fr.cons;focus ((repeat constructor);done))))) h) ?_); (refine DT.sub 4 rfl rfl rfl (wr_i64 (by omega) (by omega)) rfl (by kernel_rfl) (by kernel_rfl) (by kernel_rfl) rfl (Clos.ofB (by kernel_rfl)) (fun w h => Sat.ones (by (repeat (first|exact Fr.nil|(apply Fr.cons;focus ((repeat constructor);done))))) h) ?_); (refine DT.takes (k := 3) [0, 1, 5, 6, 7, 8, 9, 10, 11, 12, 13, 14] [15] (fun w h => Sat.ones (by (repeat (first|exact Fr.nil|(apply Fr.cons;focus ((repeat constructor);done))))) h) (by kernel_rfl) (by kernel_rfl) (by kernel_rfl) rfl (Clos.ofB (by kernel_rfl)) ?_); (repeat' (first|(refine gv ?_;first|refine RT.id ?_|(refine⟨fun hc=>?_,fun hc=>?_⟩<;>first|(exfalso;omega)|skip)|refine gk ?_|refine num_m fun r hr=>?_|intro r hr)|refine gs ?_|(refine gb ?_;intro b)|refine gn ?_|(refine RT.isPush ?_;refine gp ?_;intro a' c' b' c1' hac)|refine gc ?_|fail)); (refine RT.ix T (j := (A.length + k) * 3) rfl rfl rfl (sO_rd (by ((repeat constructor);done)) hNN hNc) (by omega) (by omega) (by omega) rfl rfl ?_); (refine RT.ldra T rfl (sO_rd (by ((repeat constructor);done)) hNN hNc) (l := SymT.cells z) (flat_sub (f := SymT.cells) (z := 3) (fun _ => rfl) Di _ _ gz) rfl rfl rfl rfl ?_); (repeat' (first|(refine gv ?_;first|refine RT.id ?_|(refine⟨fun hc=>?_,fun hc=>?_⟩<;>first|(exfalso;omega)|skip)|refine gk ?_|refine num_m fun r hr=>?_|intro r hr)|refine gs ?_|(refine gb ?_;intro b)|refine gn ?_|(refine RT.isPush ?_;refine gp ?_;intro a' c' b' c1' hac)|refine gc ?_|fail)); (refine RT.ix T (j := (A.length + (k + 1)) * 3) rfl rfl rfl (sO_rd (by ((repeat constructor);done)) hNN hNc) (by omega) (by omega) (by omega) rfl rfl ?_); (refine RT.ldra T rfl (sO_rd (by ((repeat constructor);done)) hNN hNc) (l := SymT.cells y) (flat_sub (f := SymT.cells) (z := 3) (fun _ => rfl) Di _ _ gyt) rfl rfl rfl rfl ?_); (repeat' (first|(refine gv ?_;first|refine RT.id ?_|(refine⟨fun hc=>?_,fun hc=>?_⟩<;>first|(exfalso;omega)|skip)|refine gk ?_|refine num_m fun r hr=>?_|intro r hr)|refine gs ?_|(refine gb ?_;intro b)|refine gn ?_|(refine RT.isPush ?_;refine gp ?_;intro a' c' b' c1' hac)|refine gc ?_|fail)); (refine RT.ix T (j := (A.length + (k + 1)) * 3) rfl rfl rfl (sO_rd (by ((repeat constructor);done)) hNN hNc) (by omega) (by omega) (by omega) rfl rfl ?_); (repeat' (first|(refine gv ?_;first|refine RT.id ?_|(refine⟨fun hc=>?_,fun hc=>?_⟩<;>first|(exfalso;omega)|skip)|refine gk ?_|refine num_m fun r hr=>?_|intro r hr)|refine gs ?_|(refine gb ?_;intro b)|refine gn ?_|(refine RT.isPush ?_;refine gp ?_;intro a' c' b' c1' hac)|refine gc ?_|fail)); (refine AtQ.take ?_); (refine DT.eff 15 rfl (by kernel_rfl) ?_); (refine RT.stoA T (v := SymT.cells z) rfl rfl rfl (by ((repeat constructor);done)) (by rw [flat_len sym_len, hNN, sym_len]; omega) (by rw [sym_len]; decide) rfl rfl rfl ?_); (rw [sym_len, flat_set sym_len _ (by rw [hNN]; omega)]); (refine RT.nil ?_; refine AtQ.eff' (by kernel_rfl) ?_); (refine DT.eff 16 rfl (by kernel_rfl) ?_); (refine RT.ix T (j := (A.length + k) * 3) rfl rfl rfl (sO_rd (by ((repeat constructor);done)) (by rw [List.length_set, hNN]) hNc) (by omega) (by omega) (by omega) rfl rfl ?_); (refine RT.nil ?_; refine AtQ.eff' (by kernel_rfl) ?_); (refine DT.eff 17 rfl (by kernel_rfl) ?_); (refine RT.stoA T (v := SymT.cells y) rfl rfl rfl (by ((repeat constructor);done)) (by rw [flat_len sym_len, List.length_set, hNN, sym_len]; omega) (by rw [sym_len]; decide) rfl rfl rfl ?_); (rw [sym_len, flat_set sym_len _ (by rw [List.length_set, hNN]; omega), es]); (refine RT.nil ?_; refine AtQ.eff' (by kernel_rfl) ?_); (refine DT.done (by kernel_rfl) ?_))
    repeat' (first|(refine gv ?_;first|refine RT.id ?_|(refine⟨fun hc=>?_,fun hc=>?_⟩<;>first|(exfalso;omega)|skip)|refine gk ?_|refine num_m fun r hr=>?_|intro r hr)|refine gs ?_|(refine gb ?_;intro b)|refine gn ?_|(refine RT.isPush ?_;refine gp ?_;intro a' c' b' c1' hac)|refine gc ?_|fail)
    exact AtQ.loop k ⟨rfl, rfl, congrArg (fun z : Int => some (Value.int IntKind.i64 z)) (by omega), trivial⟩ (fun _ h => Sat.pu_in ⟨by omega, by omega⟩ h) (by omega)
   ·obtain rfl : t = u := by omega
    exact AtQ.fin0 Tryz.results129 (H' := [sO a c N (A ++ (X.take t ++ y :: X.drop t) ++ C)])
     ⟨rfl, X.take t ++ y :: X.drop t, by
      refine List.perm_middle.trans ?_
      rw [List.take_append_drop]
      exact List.perm_append_comm (l₁ := [y]) (l₂ := X), ins_ok bef_wk (by rw [List.take_append_drop]; exact hsX) h3 h4, rfl⟩ (fun _ h => by simpa only [List.append_assoc, List.cons_append, List.nil_append] using h) _ (by first | exact .inl rfl | exact .inr rfl)
 refine CT.cond_f rfl ?_
 have hX2 : 2 ≤ X.length := by omega
 have hY2 : 2 ≤ Y.length := by omega
 obtain ⟨md, hmd⟩ : ∃ md : Nat, md = (A.length + (m + Y.length)) / 2 := ⟨_, rfl⟩
 have hmd1 : 2 * md ≤ A.length + (m + Y.length) ∧ A.length + (m + Y.length) ≤ 2 * md + 1 := by omega
 clear hmd
 repeat' (first|(refine gv ?_;first|refine RT.id ?_|(refine⟨fun hc=>?_,fun hc=>?_⟩<;>first|(exfalso;omega)|skip)|refine gk ?_|refine num_m fun r hr=>?_|intro r hr)|refine gs ?_|(refine gb ?_;intro b)|refine gn ?_|(refine RT.isPush ?_;refine gp ?_;intro a' c' b' c1' hac)|(refine CT.id_ ?_;first|refine CT.seqN 27 rfl ?_|refine CT.blockN 27 rfl ?_|refine CT.region ?_|refine CT.quiet mixed (by kernel_rfl) ?_|refine CT.cond_t rfl ?_|refine CT.cond_f rfl ?_|refine CT.skip ?_|refine CT.ret ?_|refine CT.exit ?_))
 refine RT.shr rfl rfl (by omega) (r := (md : Int)) (half (by omega) (by omega)) rfl rfl ?_
 repeat' (first|(refine gv ?_;first|refine RT.id ?_|(refine⟨fun hc=>?_,fun hc=>?_⟩<;>first|(exfalso;omega)|skip)|refine gk ?_|refine num_m fun r hr=>?_|intro r hr)|refine gs ?_|(refine gb ?_;intro b)|refine gn ?_|(refine RT.isPush ?_;refine gp ?_;intro a' c' b' c1' hac)|(refine CT.id_ ?_;first|refine CT.seqN 27 rfl ?_|refine CT.blockN 27 rfl ?_|refine CT.region ?_|refine CT.quiet mixed (by kernel_rfl) ?_|refine CT.cond_t rfl ?_|refine CT.cond_f rfl ?_|refine CT.skip ?_|refine CT.ret ?_|refine CT.exit ?_))
 have gx : ∀ i, A.length ≤ i → i < m → ∃ x, D[i]? = some x ∧ x.Ok := fun i h1 h2 => by
  obtain ⟨x, hx⟩ : ∃ x, X[i - A.length]? = some x := ⟨_, List.getElem?_eq_getElem (by omega)⟩
  exact ⟨x, by rw [hD, List.append_assoc, at_mid (i := i - A.length) (by omega) (by omega)]; exact hx, hokX x (List.mem_of_getElem? hx)⟩
 have gy : ∀ i, m ≤ i → i < m + Y.length → ∃ y, D[i]? = some y ∧ y.Ok := fun i h1 h2 => by
  obtain ⟨y, hy⟩ : ∃ y, Y[i - m]? = some y := ⟨_, List.getElem?_eq_getElem (by omega)⟩
  exact ⟨y, by rw [hD, at_mid (i := i - m) (by rw [List.length_append]; omega) (by omega)]; exact hy, hokY y (List.mem_of_getElem? hy)⟩
 refine CT.seq ?_
 refine CT.cut (α := Nat × Nat) (fun s => [(0, .slice a N c), (1, .int .i64 A.length), (2, .int .i64 m), (3, .int .i64 (m + Y.length)), (4, cF), (18, .int .i64 md), (19, .int .i64 (md + m)), (20, .int .i64 s.1), (21, .int .i64 s.2)])
  (fun s => Pu (A.length ≤ s.1 ∧ s.1 ≤ s.2 ∧ s.2 ≤ m ∧ s.2 ≤ md ∧ md + m ≤ s.1 + (m + Y.length) ∧ (s.1 = A.length ∨ md + m = s.1 + (m + Y.length)) ∧ (s.2 = m ∨ s.2 = md)) :: sO a c N D :: R) ?_ (fun s => ?_)
 ·repeat' (first|(refine gv ?_;first|refine RT.id ?_|(refine⟨fun hc=>?_,fun hc=>?_⟩<;>first|(exfalso;omega)|skip)|refine gk ?_|refine num_m fun r hr=>?_|intro r hr)|refine gs ?_|(refine gb ?_;intro b)|refine gn ?_|(refine RT.isPush ?_;refine gp ?_;intro a' c' b' c1' hac)|refine gc ?_|fail)
  ·exact AtQ.cut (md + m - (m + Y.length), md) ⟨rfl, rfl, rfl, rfl, rfl, rfl, rfl, congrArg (fun z : Int => some (Value.int IntKind.i64 z)) (by dsimp only; omega), rfl, trivial⟩ (fun _ h => Sat.pu_in (by dsimp only; omega) h)
  ·exact AtQ.cut (A.length, m) ⟨rfl, rfl, rfl, rfl, rfl, rfl, rfl, rfl, rfl, trivial⟩ (fun _ h => Sat.pu_in (by dsimp only; omega) h)
 refine A0 ?_
 obtain ⟨lo, hi⟩ := s
 refine CT.pu fun hh => ?_
 obtain ⟨f1, f2, f3, f4, f5, f6, f7⟩ := hh
 dsimp only at f1 f2 f3 f4 f5 f6 f7 ⊢
 repeat' (first|(refine gv ?_;first|refine RT.id ?_|(refine⟨fun hc=>?_,fun hc=>?_⟩<;>first|(exfalso;omega)|skip)|refine gk ?_|refine num_m fun r hr=>?_|intro r hr)|refine gs ?_|(refine gb ?_;intro b)|refine gn ?_|(refine RT.isPush ?_;refine gp ?_;intro a' c' b' c1' hac)|(refine CT.id_ ?_;first|refine CT.seqN 33 rfl ?_|refine CT.blockN 33 rfl ?_|refine CT.region ?_|refine CT.quiet mixed (by kernel_rfl) ?_|refine CT.cond_t rfl ?_|refine CT.cond_f rfl ?_|refine CT.skip ?_|refine CT.ret ?_|refine CT.exit ?_))
 refine CT.seq ?_
 refine CT.cut (α := Nat) (fun s => [(0, .slice a N c), (1, .int .i64 A.length), (2, .int .i64 m), (3, .int .i64 (m + Y.length)), (4, cF), (18, .int .i64 md), (19, .int .i64 (md + m)), (20, .int .i64 s)])
  (fun s => Pu (lo ≤ s ∧ s ≤ hi ∧ (s = lo ∨ ∃ x y, D[s - 1]? = some x ∧ D[md + m - s]? = some y ∧ befB y x = false) ∧ (s = hi ∨ ∃ x y, D[s]? = some x ∧ D[md + m - s - 1]? = some y ∧ befB y x = true)) :: sO a c N D :: R) ?_ (fun s => ?_)
 rotate_left
 ·refine A0 ?_
  refine CT.pu fun hh => ?_
  obtain ⟨h1, h3, h4, h5⟩ := hh
  obtain ⟨X1, X2, rfl, hx1⟩ := split_len (l := X) (k := s - A.length) (by omega)
  obtain ⟨Y1, Y2, rfl, hy1⟩ := split_len (l := Y) (k := md - s) (by omega)
  simp only [List.length_append] at hdd hm hNl hX2 hY2 hmd1 f5 f6 hx1 hy1 ⊢
  have hes : md + m - s = A.length + (X1.length + X2.length) + Y1.length := by omega
  rw [hes] at h4 h5
  obtain ⟨c1, c2⟩ := cut_ok bef_wk (s := s) (lo := lo) (hi := hi) hD hsX hsY (by omega) (fun e => f6.elim (fun h => .inl (List.eq_nil_of_length_eq_zero (by omega))) (fun h => .inr (List.eq_nil_of_length_eq_zero (by omega))))
   (fun e => f7.elim (fun h => .inl (List.eq_nil_of_length_eq_zero (by omega))) (fun h => .inr (List.eq_nil_of_length_eq_zero (by omega)))) h4 h5
  clear h4 h5 f6 f7 gx gy
  have ih1 := @ih (X1.length + Y1.length) (by omega)
  have ih2 := @ih (X2.length + Y2.length) (by omega)
  have oX1 : ∀ z ∈ X1, z.Ok := fun z hz => hokX z (List.mem_append_left _ hz)
  have oX2 : ∀ z ∈ X2, z.Ok := fun z hz => hokX z (List.mem_append_right _ hz)
  have oY1 : ∀ z ∈ Y1, z.Ok := fun z hz => hokY z (List.mem_append_left _ hz)
  have oY2 : ∀ z ∈ Y2, z.Ok := fun z hz => hokY z (List.mem_append_right _ hz)
  have sX1 := (srt_app.1 hsX).1
  have sX2 := (srt_app.1 hsX).2.1
  have sY1 := (srt_app.1 hsY).1
  have sY2 := (srt_app.1 hsY).2.1
  repeat' (first|(refine gv ?_;first|refine RT.id ?_|(refine⟨fun hc=>?_,fun hc=>?_⟩<;>first|(exfalso;omega)|skip)|refine gk ?_|refine num_m fun r hr=>?_|intro r hr)|refine gs ?_|(refine gb ?_;intro b)|refine gn ?_|(refine RT.isPush ?_;refine gp ?_;intro a' c' b' c1' hac)|(refine CT.id_ ?_;first|refine CT.seqN 39 rfl ?_|refine CT.blockN 39 rfl ?_|refine CT.region ?_|refine CT.quiet mixed (by kernel_rfl) ?_|refine CT.cond_t rfl ?_|refine CT.cond_f rfl ?_|refine CT.skip ?_|refine CT.ret ?_|refine CT.exit ?_))
  refine CT.seq ?_
  refine CT.cut (α := Unit) (fun _ => [(0, .slice a N c), (1, .int .i64 A.length), (3, .int .i64 (m + (Y1.length + Y2.length))), (4, cF), (18, .int .i64 md), (20, .int .i64 s), (24, .int .i64 ((md + m - s : Nat) : Int))])
   (fun _ => sO a c N (A ++ (X1 ++ Y1) ++ (X2 ++ Y2) ++ C) :: R) ?_ (fun _ => ?_)
  ·repeat' (first|(refine gv ?_;first|refine RT.id ?_|(refine⟨fun hc=>?_,fun hc=>?_⟩<;>first|(exfalso;omega)|skip)|refine gk ?_|refine num_m fun r hr=>?_|intro r hr)|refine gs ?_|(refine gb ?_;intro b)|refine gn ?_|(refine RT.isPush ?_;refine gp ?_;intro a' c' b' c1' hac)|refine gc ?_|fail)
   ·refine RT.call T rfl (by (repeat (first|exact Fr.nil|(apply Fr.cons;focus ((repeat constructor);done))))) (rotate_fn (A := A ++ X1) (X := X2) (Y := Y1) (C := Y2 ++ C) (m := m) (D' := A ++ (X1 ++ Y1) ++ (X2 ++ Y2) ++ C) (by rw [hD]; simp only [List.append_assoc]) (by simp only [List.append_assoc]) hN hNc hb (by simp only [List.length_append]; omega) (by simp only [List.length_append]; omega) (by omega) (by omega) (by omega)) rfl rfl rfl ?_
    rintro _ _ ⟨rfl, rfl⟩
    simp only [List.cons_append, List.nil_append]
    repeat' (first|(refine gv ?_;first|refine RT.id ?_|(refine⟨fun hc=>?_,fun hc=>?_⟩<;>first|(exfalso;omega)|skip)|refine gk ?_|refine num_m fun r hr=>?_|intro r hr)|refine gs ?_|(refine gb ?_;intro b)|refine gn ?_|(refine RT.isPush ?_;refine gp ?_;intro a' c' b' c1' hac)|refine gc ?_|fail)
    exact AtQ.cut () ⟨rfl, rfl, rfl, rfl, rfl, rfl, congrArg (fun z : Int => some (Value.int IntKind.i64 z)) (by omega), trivial⟩ (fun _ h => h)
   ·obtain rfl : Y1 = [] := List.eq_nil_of_length_eq_zero (by omega)
    exact AtQ.cut () ⟨rfl, rfl, rfl, rfl, rfl, rfl, congrArg (fun z : Int => some (Value.int IntKind.i64 z)) (by omega), trivial⟩ (fun _ h => by rw [hD] at h; simpa only [List.append_assoc, List.nil_append] using h)
   ·obtain rfl : X2 = [] := List.eq_nil_of_length_eq_zero (by omega)
    exact AtQ.cut () ⟨rfl, rfl, rfl, rfl, rfl, rfl, congrArg (fun z : Int => some (Value.int IntKind.i64 z)) (by omega), trivial⟩ (fun _ h => by rw [hD] at h; simpa only [List.append_assoc, List.nil_append] using h)
  refine A0 ?_
  have hD1 : (A ++ (X1 ++ Y1) ++ (X2 ++ Y2) ++ C).length = N := by simp only [List.length_append]; omega
  repeat' (first|(refine gv ?_;first|refine RT.id ?_|(refine⟨fun hc=>?_,fun hc=>?_⟩<;>first|(exfalso;omega)|skip)|refine gk ?_|refine num_m fun r hr=>?_|intro r hr)|refine gs ?_|(refine gb ?_;intro b)|refine gn ?_|(refine RT.isPush ?_;refine gp ?_;intro a' c' b' c1' hac)|(refine CT.id_ ?_;first|refine CT.seqN 41 rfl ?_|refine CT.blockN 41 rfl ?_|refine CT.region ?_|refine CT.quiet mixed (by kernel_rfl) ?_|refine CT.cond_t rfl ?_|refine CT.cond_f rfl ?_|refine CT.skip ?_|refine CT.ret ?_|refine CT.exit ?_))
  refine CT.seq ?_
  refine CT.cut (α := List SymT) (fun _ => [(0, .slice a N c), (3, .int .i64 (m + (Y1.length + Y2.length))), (4, cF), (18, .int .i64 md), (24, .int .i64 ((md + m - s : Nat) : Int))])
   (fun Z1 => Pu (Z1.Perm (X1 ++ Y1) ∧ Srt befB Z1) :: sO a c N (A ++ Z1 ++ (X2 ++ Y2) ++ C) :: R) ?_ (fun Z1 => ?_)
  ·repeat' (first|(refine gv ?_;first|refine RT.id ?_|(refine⟨fun hc=>?_,fun hc=>?_⟩<;>first|(exfalso;omega)|skip)|refine gk ?_|refine num_m fun r hr=>?_|intro r hr)|refine gs ?_|(refine gb ?_;intro b)|refine gn ?_|(refine RT.isPush ?_;refine gp ?_;intro a' c' b' c1' hac)|refine gc ?_|fail)
   ·refine RT.call T rfl (by (repeat (first|exact Fr.nil|(apply Fr.cons;focus ((repeat constructor);done))))) (ih1 (A := A) (X := X1) (Y := Y1) (C := X2 ++ Y2 ++ C) (m := s) (Nat.le_refl _) (by simp only [List.append_assoc]) hD1 hNc hb rfl (by omega) (by omega) (by omega) (by omega) oX1 oY1 sX1 sY1) rfl rfl rfl ?_
    rintro _ _ ⟨rfl, Z1, hz1, hz2, rfl⟩
    simp only [List.cons_append, List.nil_append]
    repeat' (first|(refine gv ?_;first|refine RT.id ?_|(refine⟨fun hc=>?_,fun hc=>?_⟩<;>first|(exfalso;omega)|skip)|refine gk ?_|refine num_m fun r hr=>?_|intro r hr)|refine gs ?_|(refine gb ?_;intro b)|refine gn ?_|(refine RT.isPush ?_;refine gp ?_;intro a' c' b' c1' hac)|refine gc ?_|fail)
    exact AtQ.cut Z1 ⟨rfl, rfl, rfl, rfl, rfl, trivial⟩ (fun _ h => Sat.pu_in ⟨hz1, hz2⟩ (by simpa only [List.append_assoc] using h))
   ·obtain rfl : Y1 = [] := List.eq_nil_of_length_eq_zero (by omega)
    exact AtQ.cut X1 ⟨rfl, rfl, rfl, rfl, rfl, trivial⟩ (fun _ h => Sat.pu_in ⟨by rw [List.append_nil], sX1⟩ (by rw [List.append_nil] at h; exact h))
   ·obtain rfl : X1 = [] := List.eq_nil_of_length_eq_zero (by omega)
    exact AtQ.cut Y1 ⟨rfl, rfl, rfl, rfl, rfl, trivial⟩ (fun _ h => Sat.pu_in ⟨by rw [List.nil_append], sY1⟩ (by rw [List.nil_append] at h; exact h))
  refine A0 ?_
  refine CT.pu fun ⟨hz1, hz2⟩ => ?_
  have hzl : Z1.length = X1.length + Y1.length := by rw [hz1.length_eq, List.length_append]
  have hD2 : (A ++ Z1 ++ (X2 ++ Y2) ++ C).length = N := by simp only [List.length_append]; omega
  clear hD1 hD hN
  repeat' (first|(refine gv ?_;first|refine RT.id ?_|(refine⟨fun hc=>?_,fun hc=>?_⟩<;>first|(exfalso;omega)|skip)|refine gk ?_|refine num_m fun r hr=>?_|intro r hr)|refine gs ?_|(refine gb ?_;intro b)|refine gn ?_|(refine RT.isPush ?_;refine gp ?_;intro a' c' b' c1' hac)|refine gc ?_|fail)
  ·refine RT.call T rfl (by (repeat (first|exact Fr.nil|(apply Fr.cons;focus ((repeat constructor);done))))) (ih2 (A := A ++ Z1) (X := X2) (Y := Y2) (C := C) (m := md + m - s) (Nat.le_refl _) (by simp only [List.append_assoc]) hD2 hNc hb (by simp only [List.length_append]; omega) (by simp only [List.length_append]; omega) (by omega) (by omega) (by omega) oX2 oY2 sX2 sY2) rfl rfl rfl ?_
   rintro _ _ ⟨rfl, Z2, hz3, hz4, rfl⟩
   simp only [List.cons_append, List.nil_append]
   obtain ⟨k1, k2⟩ := merge_ok bef_wk hsX hsY c1 c2 hz1 hz2 hz3 hz4
   repeat' (first|(refine gv ?_;first|refine RT.id ?_|(refine⟨fun hc=>?_,fun hc=>?_⟩<;>first|(exfalso;omega)|skip)|refine gk ?_|refine num_m fun r hr=>?_|intro r hr)|refine gs ?_|(refine gb ?_;intro b)|refine gn ?_|(refine RT.isPush ?_;refine gp ?_;intro a' c' b' c1' hac)|refine gc ?_|fail)
   exact AtQ.fin0 Tryz.results129 (H' := [sO a c N (A ++ (Z1 ++ Z2) ++ C)]) ⟨rfl, Z1 ++ Z2, k1, k2, rfl⟩ (fun _ h => by simpa only [List.append_assoc, List.nil_append, List.cons_append] using h) _ (by first | exact .inl rfl | exact .inr rfl)
  ·obtain rfl : Y2 = [] := List.eq_nil_of_length_eq_zero (by omega)
   obtain ⟨k1, k2⟩ := merge_ok bef_wk hsX hsY c1 c2 hz1 hz2 (Z2 := X2) (by rw [List.append_nil]) sX2
   exact AtQ.fin0 Tryz.results129 (H' := [sO a c N (A ++ (Z1 ++ X2) ++ C)]) ⟨rfl, Z1 ++ X2, k1, k2, rfl⟩ (fun _ h => by simpa only [List.append_assoc, List.nil_append, List.cons_append] using h) _ (by first | exact .inl rfl | exact .inr rfl)
  ·obtain rfl : X2 = [] := List.eq_nil_of_length_eq_zero (by omega)
   obtain ⟨k1, k2⟩ := merge_ok bef_wk hsX hsY c1 c2 hz1 hz2 (Z2 := Y2) (by rw [List.nil_append]) sY2
   exact AtQ.fin0 Tryz.results129 (H' := [sO a c N (A ++ (Z1 ++ Y2) ++ C)]) ⟨rfl, Z1 ++ Y2, k1, k2, rfl⟩ (fun _ h => by simpa only [List.append_assoc, List.nil_append, List.cons_append] using h) _ (by first | exact .inl rfl | exact .inr rfl)
 refine CT.block ?_
 refine CT.loop (α := Nat × Nat) (fun s => [(0, .slice a N c), (1, .int .i64 A.length), (2, .int .i64 m), (3, .int .i64 (m + Y.length)), (4, cF), (18, .int .i64 md), (19, .int .i64 (md + m)), (20, .int .i64 s.1), (21, .int .i64 s.2), (22, .int .i64 (md + m - 1))])
  (fun s => Pu (lo ≤ s.1 ∧ s.1 ≤ s.2 ∧ s.2 ≤ hi ∧ (s.1 = lo ∨ ∃ x y, D[s.1 - 1]? = some x ∧ D[md + m - s.1]? = some y ∧ befB y x = false) ∧ (s.2 = hi ∨ ∃ x y, D[s.2]? = some x ∧ D[md + m - s.2 - 1]? = some y ∧ befB y x = true)) :: sO a c N D :: R) (fun s => s.2 - s.1) (lo, hi)
  ⟨rfl, rfl, rfl, rfl, rfl, rfl, rfl, rfl, rfl, rfl, trivial⟩ (fun _ h => Sat.pu_in ⟨Nat.le_refl _, f2, Nat.le_refl _, .inl rfl, .inl rfl⟩ h) (fun s => CT.pu fun hh => ?_)
 obtain ⟨s, r⟩ := s
 obtain ⟨h1, h2, h3, h4, h5⟩ := hh
 dsimp only at h1 h2 h3 h4 h5 ⊢
 repeat' (first|(refine gv ?_;first|refine RT.id ?_|(refine⟨fun hc=>?_,fun hc=>?_⟩<;>first|(exfalso;omega)|skip)|refine gk ?_|refine num_m fun r hr=>?_|intro r hr)|refine gs ?_|(refine gb ?_;intro b)|refine gn ?_|(refine RT.isPush ?_;refine gp ?_;intro a' c' b' c1' hac)|(refine CT.id_ ?_;first|refine CT.seqN 35 rfl ?_|refine CT.blockN 35 rfl ?_|refine CT.region ?_|refine CT.quiet mixed (by kernel_rfl) ?_|refine CT.cond_t rfl ?_|refine CT.cond_f rfl ?_|refine CT.skip ?_|refine CT.ret ?_|refine CT.exit ?_))
 ·have hsr : s < r := by omega
  obtain ⟨w, hw⟩ : ∃ w, w = (s + r) / 2 := ⟨_, rfl⟩
  have hw1 : s ≤ w ∧ w < r ∧ 2 * w ≤ s + r ∧ s + r ≤ 2 * w + 1 := by omega
  obtain ⟨x, g1, hxok⟩ := gx w (by omega) (by omega)
  obtain ⟨y, g2, hyok⟩ := gy (md + m - w - 1) (by omega) (by omega)
  refine RT.shr rfl rfl (by omega) (r := (w : Int)) (half (by omega) (by omega)) rfl rfl ?_
  clear hw
  repeat' (first|(refine gv ?_;first|refine RT.id ?_|(refine⟨fun hc=>?_,fun hc=>?_⟩<;>first|(exfalso;omega)|skip)|refine gk ?_|refine num_m fun r hr=>?_|intro r hr)|refine gs ?_|(refine gb ?_;intro b)|refine gn ?_|(refine RT.isPush ?_;refine gp ?_;intro a' c' b' c1' hac)|(refine CT.id_ ?_;first|refine CT.seqN 35 rfl ?_|refine CT.blockN 35 rfl ?_|refine CT.region ?_|refine CT.quiet mixed (by kernel_rfl) ?_|refine CT.cond_t rfl ?_|refine CT.cond_f rfl ?_|refine CT.skip ?_|refine CT.ret ?_|refine CT.exit ?_))
  refine CT.seq ?_
  refine CT.tail 11 mixed (by kernel_rfl) ?_
  dsimp only [List.take_succ_cons, List.take_zero]
  repeat' (first|(refine gv ?_;first|refine RT.id ?_|(refine⟨fun hc=>?_,fun hc=>?_⟩<;>first|(exfalso;omega)|skip)|refine gk ?_|refine num_m fun r hr=>?_|intro r hr)|refine gs ?_|(refine gb ?_;intro b)|refine gn ?_|(refine RT.isPush ?_;refine gp ?_;intro a' c' b' c1' hac)|refine gc ?_|fail)
  refine RT.ix T (j := (md + m - w - 1) * 3) rfl rfl rfl (sO_rd (by ((repeat constructor);done)) hN hNc) (by omega) (by omega) (by omega) rfl rfl ?_
  refine RT.ldra T rfl (sO_rd (by ((repeat constructor);done)) hN hNc) (l := y.cells) (flat_sub (f := SymT.cells) (z := 3) (fun _ => rfl) D _ _ g2) rfl rfl rfl rfl ?_
  repeat' (first|(refine gv ?_;first|refine RT.id ?_|(refine⟨fun hc=>?_,fun hc=>?_⟩<;>first|(exfalso;omega)|skip)|refine gk ?_|refine num_m fun r hr=>?_|intro r hr)|refine gs ?_|(refine gb ?_;intro b)|refine gn ?_|(refine RT.isPush ?_;refine gp ?_;intro a' c' b' c1' hac)|refine gc ?_|fail)
  refine RT.ix T (j := w * 3) rfl rfl rfl (sO_rd (by ((repeat constructor);done)) hN hNc) (by omega) (by omega) (by omega) rfl rfl ?_
  refine RT.ldra T rfl (sO_rd (by ((repeat constructor);done)) hN hNc) (l := x.cells) (flat_sub (f := SymT.cells) (z := 3) (fun _ => rfl) D _ _ g1) rfl rfl rfl rfl ?_
  repeat' (first|(refine gv ?_;first|refine RT.id ?_|(refine⟨fun hc=>?_,fun hc=>?_⟩<;>first|(exfalso;omega)|skip)|refine gk ?_|refine num_m fun r hr=>?_|intro r hr)|refine gs ?_|(refine gb ?_;intro b)|refine gn ?_|(refine RT.isPush ?_;refine gp ?_;intro a' c' b' c1' hac)|refine gc ?_|fail)
  refine AtQ.tail ?_
  refine RT.callV T rfl rfl (by (repeat (first|exact Fr.nil|(apply Fr.cons;focus ((repeat constructor);done))))) (cmp_fn hyok hxok) rfl rfl rfl ?_
  rintro _ _ ⟨rfl, rfl⟩
  simp only [List.nil_append]
  repeat' (first|(refine gv ?_;first|refine RT.id ?_|(refine⟨fun hc=>?_,fun hc=>?_⟩<;>first|(exfalso;omega)|skip)|refine gk ?_|refine num_m fun r hr=>?_|intro r hr)|refine gs ?_|(refine gb ?_;intro b)|refine gn ?_|(refine RT.isPush ?_;refine gp ?_;intro a' c' b' c1' hac)|refine gc ?_|fail)
  ·have hlt := (cmpV_lt y x).1 (by omega)
   exact AtQ.loop (s, w) ⟨rfl, rfl, rfl, rfl, rfl, rfl, rfl, rfl, rfl, rfl, trivial⟩ (fun _ h => Sat.pu_in ⟨h1, by dsimp only; omega, by dsimp only; omega, h4, .inr ⟨x, y, g1, g2, hlt⟩⟩ h) (by dsimp only; omega)
  ·have hge := cmpV_f (s := y) (t := x) (by omega)
   exact AtQ.loop (w + 1, r) ⟨rfl, rfl, rfl, rfl, rfl, rfl, rfl, congrArg (fun z : Int => some (Value.int IntKind.i64 z)) (by dsimp only; omega), rfl, rfl, trivial⟩ (fun _ h => Sat.pu_in ⟨by dsimp only; omega, by dsimp only; omega, h3, .inr ⟨x, y, by dsimp only; rw [Nat.add_sub_cancel]; exact g1, by dsimp only; rw [show md + m - (w + 1) = md + m - w - 1 by omega]; exact g2, hge⟩, h5⟩ h) (by dsimp only; omega)
 ·obtain rfl : s = r := by omega
  exact AtQ.cut s ⟨rfl, rfl, rfl, rfl, rfl, rfl, rfl, rfl, trivial⟩ (fun _ h => Sat.pu_in ⟨h1, h3, h4, h5⟩ h)
end Go.Proofs.YtdemnhdoadjhhaaGreatDoor
end
section
namespace Go.Proofs.YtdemnhdoadjhhaaGreatDoor
open Go.Sk
set_option maxRecDepth 100000
attribute [local irreducible] Cs Own Ex Pu Yld RT LJ QJ AtQ CT Rd QSp Sp FinQ Then LoopQ CutQ DT TakeQ EffQ
variable {B : World} {R : List HP}
theorem merge_fn' {a : Option Addr} {c N : Nat} {A X Y C D : List SymT} {p q mi : Int} (hD : D = A ++ X ++ Y ++ C) (hN : D.length = N) (hNc : N ≤ c) (hb : N ≤ 1073741824) (hp : p = A.length) (hm : mi = A.length + X.length) (hq : q = A.length + X.length + Y.length)
  (hx0 : 0 < X.length) (hy0 : 0 < Y.length) (hokX : ∀ s ∈ X, s.Ok) (hokY : ∀ s ∈ Y, s.Ok) (hsX : Srt befB X) (hsY : Srt befB Y) :
  Sp B Tryz.prog 129 [.slice a N c, .int .i64 p, .int .i64 mi, .int .i64 q, cF] R [sO a c N D] (fun v H' => v = .tuple #[] ∧ ∃ Z, Z.Perm (X ++ Y) ∧ Srt befB Z ∧ H' = [sO a c N (A ++ Z ++ C)]) := by
 obtain rfl : mi = ((A.length + X.length : Nat) : Int) := by omega
 exact merge_fn _ (Nat.le_refl _) hD hN hNc hb hp rfl (by omega) hx0 hy0 hokX hokY hsX hsY
set_option maxHeartbeats 8000000 in
theorem stable_fn {a : Option Addr} {c N : Nat} {D : List SymT} (hN : D.length = N) (hNc : N ≤ c) (hb : N ≤ 268435456) (hok : ∀ s ∈ D, s.Ok) :
  Sp B Tryz.prog 95 [.slice a N c, .int .i64 N, cF] R [sO a c N D] (fun v H' => v = .tuple #[] ∧ ∃ D', D'.Perm D ∧ Srt befB D' ∧ H' = [sO a c N D']) := by
 refine Sp.body Tryz.func95 rfl Tryz.ntmps95 (by simp) ?_
 simp only [argE, List.cons_append, List.nil_append, Nat.zero_add, Nat.reduceAdd]
 repeat' (first|(refine gv ?_;first|refine RT.id ?_|(refine⟨fun hc=>?_,fun hc=>?_⟩<;>first|(exfalso;omega)|skip)|refine gk ?_|refine num_m fun r hr=>?_|intro r hr)|refine gs ?_|(refine gb ?_;intro b)|refine gn ?_|(refine RT.isPush ?_;refine gp ?_;intro a' c' b' c1' hac)|refine gc ?_|fail)
 refine CT.loop (α := List SymT × List SymT) (fun s => [(0, .slice a N c), (1, .int .i64 N), (2, cF), (6, .int .i64 20), (7, .int .i64 s.1.length), (8, .int .i64 (s.1.length + 20))])
  (fun s => Pu (Ful befB 20 s.1 ∧ (s.1 ++ s.2).Perm D) :: sO a c N (s.1 ++ s.2) :: R) (fun s => s.2.length) ([], D)
  ⟨rfl, rfl, rfl, rfl, rfl, rfl, trivial⟩ (fun _ h => Sat.pu_in ⟨.nil, List.Perm.refl _⟩ h) (fun s => CT.pu fun hh => ?_)
 obtain ⟨L, K⟩ := s
 obtain ⟨h1, h2⟩ := hh
 dsimp only at h1 h2 ⊢
 have hl : L.length + K.length = N := by rw [← hN, ← h2.length_eq, List.length_append]
 have ho : ∀ s ∈ L ++ K, s.Ok := fun s hs => hok s (h2.mem_iff.1 hs)
 repeat' (first|(refine gv ?_;first|refine RT.id ?_|(refine⟨fun hc=>?_,fun hc=>?_⟩<;>first|(exfalso;omega)|skip)|refine gk ?_|refine num_m fun r hr=>?_|intro r hr)|refine gs ?_|(refine gb ?_;intro b)|refine gn ?_|(refine RT.isPush ?_;refine gp ?_;intro a' c' b' c1' hac)|refine gc ?_|fail)
 ·obtain ⟨X, K', rfl, hx⟩ := split_len (l := K) (k := 20) (by omega)
  rw [List.length_append] at hl
  refine RT.call T rfl (by (repeat (first|exact Fr.nil|(apply Fr.cons;focus ((repeat constructor);done))))) (ins_fn (A := L) (X := X) (C := K') (by simp only [List.append_assoc]) (by simp only [List.length_append]; omega) hNc (by omega) rfl (by omega) (fun s hs => ho s (by simp [hs]))) rfl rfl rfl ?_
  rintro _ _ ⟨rfl, X', p1, p2, rfl⟩
  simp only [List.cons_append, List.nil_append]
  have hxl : X'.length = 20 := by rw [p1.length_eq, hx]
  repeat' (first|(refine gv ?_;first|refine RT.id ?_|(refine⟨fun hc=>?_,fun hc=>?_⟩<;>first|(exfalso;omega)|skip)|refine gk ?_|refine num_m fun r hr=>?_|intro r hr)|refine gs ?_|(refine gb ?_;intro b)|refine gn ?_|(refine RT.isPush ?_;refine gp ?_;intro a' c' b' c1' hac)|refine gc ?_|fail)
  refine AtQ.loop (L ++ X', K') ⟨rfl, rfl, rfl, rfl, congrArg (fun z : Int => some (Value.int IntKind.i64 z)) (by simp only [List.length_append]; omega), congrArg (fun z : Int => some (Value.int IntKind.i64 z)) (by simp only [List.length_append]; omega), trivial⟩
   (fun _ h => Sat.pu_in ⟨h1.snoc p2 hxl, ?_⟩ h) (by simp only [List.length_append]; omega)
  rw [List.append_assoc]
  exact ((p1.append_right K').append_left L).trans h2
 refine RT.call T rfl (by (repeat (first|exact Fr.nil|(apply Fr.cons;focus ((repeat constructor);done))))) (ins_fn (A := L) (X := K) (C := []) (by simp only [List.append_nil]) (by simp only [List.length_append]; omega) hNc (by omega) rfl (by omega) (fun s hs => ho s (by simp [hs]))) rfl rfl rfl ?_
 rintro _ _ ⟨rfl, K', p1, p2, rfl⟩
 have hkl : K'.length = K.length := p1.length_eq
 have b0 : Blk befB 20 (L ++ K') := h1.blk (.last p2 (by omega))
 have q0 : (L ++ K').Perm D := (p1.append_left L).trans h2
 simp only [List.cons_append, List.nil_append, List.append_nil]
 clear hl ho h1 h2 hkl
 generalize L ++ K' = D1 at b0 q0 ⊢
 repeat' (first|(refine gv ?_;first|refine RT.id ?_|(refine⟨fun hc=>?_,fun hc=>?_⟩<;>first|(exfalso;omega)|skip)|refine gk ?_|refine num_m fun r hr=>?_|intro r hr)|refine gs ?_|(refine gb ?_;intro b)|refine gn ?_|(refine RT.isPush ?_;refine gp ?_;intro a' c' b' c1' hac)|refine gc ?_|fail)
 refine CT.loop (α := Nat × List SymT) (fun s => [(0, .slice a N c), (1, .int .i64 N), (2, cF), (6, .int .i64 s.1)])
  (fun s => Pu (20 ≤ s.1 ∧ Blk befB s.1 s.2 ∧ s.2.Perm D) :: sO a c N s.2 :: R) (fun s => N - s.1) (20, D1)
  ⟨rfl, rfl, rfl, rfl, trivial⟩ (fun _ h => Sat.pu_in ⟨Nat.le_refl _, b0, q0⟩ h) (fun s => CT.pu fun hh => ?_)
 obtain ⟨bs, L0⟩ := s
 obtain ⟨g0, g1, g2⟩ := hh
 dsimp only at g0 g1 g2 ⊢
 have g3 : L0.length = N := by rw [g2.length_eq, hN]
 clear b0 q0
 repeat' (first|(refine gv ?_;first|refine RT.id ?_|(refine⟨fun hc=>?_,fun hc=>?_⟩<;>first|(exfalso;omega)|skip)|refine gk ?_|refine num_m fun r hr=>?_|intro r hr)|refine gs ?_|(refine gb ?_;intro b)|refine gn ?_|(refine RT.isPush ?_;refine gp ?_;intro a' c' b' c1' hac)|refine gc ?_|fail)
 ·refine CT.loop (α := List SymT × List SymT) (fun s => [(0, .slice a N c), (1, .int .i64 N), (2, cF), (6, .int .i64 bs), (7, .int .i64 s.1.length), (8, .int .i64 (s.1.length + 2 * bs))])
   (fun s => Pu (Ful befB (2 * bs) s.1 ∧ Blk befB bs s.2 ∧ (s.1 ++ s.2).Perm D) :: sO a c N (s.1 ++ s.2) :: R) (fun s => s.2.length) ([], L0)
   ⟨rfl, rfl, rfl, rfl, rfl, congrArg (fun z : Int => some (Value.int IntKind.i64 z)) (by simp only [List.length_nil]; omega), trivial⟩ (fun _ h => Sat.pu_in ⟨.nil, g1, g2⟩ h) (fun s => CT.pu fun hh => ?_)
  obtain ⟨L, K⟩ := s
  obtain ⟨h1, h3, h2⟩ := hh
  dsimp only at h1 h2 h3 ⊢
  have hl : L.length + K.length = N := by rw [← hN, ← h2.length_eq, List.length_append]
  have ho : ∀ s ∈ L ++ K, s.Ok := fun s hs => hok s (h2.mem_iff.1 hs)
  clear g1 g2 g3
  repeat' (first|(refine gv ?_;first|refine RT.id ?_|(refine⟨fun hc=>?_,fun hc=>?_⟩<;>first|(exfalso;omega)|skip)|refine gk ?_|refine num_m fun r hr=>?_|intro r hr)|refine gs ?_|(refine gb ?_;intro b)|refine gn ?_|(refine RT.isPush ?_;refine gp ?_;intro a' c' b' c1' hac)|refine gc ?_|fail)
  ·obtain ⟨X, Y, K', rfl, x1, x2, x3, x4, x5⟩ := h3.two (by omega) (by omega)
   simp only [List.length_append] at hl
   refine RT.call T rfl (by (repeat (first|exact Fr.nil|(apply Fr.cons;focus ((repeat constructor);done))))) (merge_fn' (A := L) (X := X) (Y := Y) (C := K') (by simp only [List.append_assoc]) (by simp only [List.length_append]; omega) hNc (by omega) rfl (by omega) (by omega) (by omega) (by omega) (fun s hs => ho s (by simp [hs])) (fun s hs => ho s (by simp [hs])) x1 x2) rfl rfl rfl ?_
   rintro _ _ ⟨rfl, Z, p1, p2, rfl⟩
   simp only [List.cons_append, List.nil_append]
   have hzl : Z.length = 2 * bs := by rw [p1.length_eq, List.length_append]; omega
   repeat' (first|(refine gv ?_;first|refine RT.id ?_|(refine⟨fun hc=>?_,fun hc=>?_⟩<;>first|(exfalso;omega)|skip)|refine gk ?_|refine num_m fun r hr=>?_|intro r hr)|refine gs ?_|(refine gb ?_;intro b)|refine gn ?_|(refine RT.isPush ?_;refine gp ?_;intro a' c' b' c1' hac)|refine gc ?_|fail)
   refine AtQ.loop (L ++ Z, K') ⟨rfl, rfl, rfl, rfl, congrArg (fun z : Int => some (Value.int IntKind.i64 z)) (by simp only [List.length_append]; omega), congrArg (fun z : Int => some (Value.int IntKind.i64 z)) (by simp only [List.length_append]; omega), trivial⟩
    (fun _ h => Sat.pu_in ⟨h1.snoc p2 hzl, x5, ?_⟩ h) (by simp only [List.length_append]; omega)
   rw [List.append_assoc]
   exact ((p1.append_right K').append_left L).trans h2
  ·obtain ⟨X, Y, rfl, x1, x2, x3⟩ := h3.more (by omega) (by omega) (by omega)
   simp only [List.length_append] at hl
   refine RT.call T rfl (by (repeat (first|exact Fr.nil|(apply Fr.cons;focus ((repeat constructor);done))))) (merge_fn' (A := L) (X := X) (Y := Y) (C := []) (by simp only [List.append_assoc, List.append_nil]) (by simp only [List.length_append]; omega) hNc (by omega) rfl (by omega) (by omega) (by omega) (by omega) (fun s hs => ho s (by simp [hs])) (fun s hs => ho s (by simp [hs])) x1 x2) rfl rfl rfl ?_
   rintro _ _ ⟨rfl, Z, p1, p2, rfl⟩
   simp only [List.cons_append, List.nil_append, List.append_nil]
   have hzl : Z.length = X.length + Y.length := by rw [p1.length_eq, List.length_append]
   repeat' (first|(refine gv ?_;first|refine RT.id ?_|(refine⟨fun hc=>?_,fun hc=>?_⟩<;>first|(exfalso;omega)|skip)|refine gk ?_|refine num_m fun r hr=>?_|intro r hr)|refine gs ?_|(refine gb ?_;intro b)|refine gn ?_|(refine RT.isPush ?_;refine gp ?_;intro a' c' b' c1' hac)|refine gc ?_|fail)
   exact AtQ.loop (2 * bs, L ++ Z) ⟨rfl, rfl, rfl, congrArg (fun z : Int => some (Value.int IntKind.i64 z)) (by dsimp only; omega), trivial⟩
    (fun _ h => Sat.pu_in ⟨by dsimp only; omega, h1.blk (.last p2 (by omega)), (p1.append_left L).trans h2⟩ h) (by dsimp only; omega)
  ·exact AtQ.loop (2 * bs, L ++ K) ⟨rfl, rfl, rfl, congrArg (fun z : Int => some (Value.int IntKind.i64 z)) (by dsimp only; omega), trivial⟩
    (fun _ h => Sat.pu_in ⟨by dsimp only; omega, h1.blk (.last (h3.one (by omega)) (by omega)), h2⟩ h) (by dsimp only; omega)
 ·exact AtQ.fin0 Tryz.results95 (H' := [sO a c N L0]) ⟨rfl, L0, g2, g1.one (by omega), rfl⟩ (fun _ h => h) _ (by first | exact .inl rfl | exact .inr rfl)
theorem sort_fn {a : Option Addr} {c N : Nat} {D : List SymT} (hN : D.length = N) (hNc : N ≤ c) (hb : N ≤ 268435456) (hok : ∀ s ∈ D, s.Ok) :
  Sp B Tryz.prog 41 [.slice a N c, cF] R [sO a c N D] (fun v H' => v = .tuple #[] ∧ ∃ D', D'.Perm D ∧ Srt befB D' ∧ H' = [sO a c N D']) := by
 refine Sp.body Tryz.func41 rfl Tryz.ntmps41 (by simp) ?_
 simp only [argE, List.cons_append, List.nil_append, Nat.zero_add, Nat.reduceAdd]
 repeat' (first|(refine gv ?_;first|refine RT.id ?_|(refine⟨fun hc=>?_,fun hc=>?_⟩<;>first|(exfalso;omega)|skip)|refine gk ?_|refine num_m fun r hr=>?_|intro r hr)|refine gs ?_|(refine gb ?_;intro b)|refine gn ?_|(refine RT.isPush ?_;refine gp ?_;intro a' c' b' c1' hac)|refine gc ?_|fail)
 refine RT.call T rfl (by (repeat (first|exact Fr.nil|(apply Fr.cons;focus ((repeat constructor);done))))) (stable_fn hN hNc hb hok) rfl rfl rfl ?_
 rintro _ _ ⟨rfl, D', p1, p2, rfl⟩
 simp only [List.cons_append, List.nil_append]
 repeat' (first|(refine gv ?_;first|refine RT.id ?_|(refine⟨fun hc=>?_,fun hc=>?_⟩<;>first|(exfalso;omega)|skip)|refine gk ?_|refine num_m fun r hr=>?_|intro r hr)|refine gs ?_|(refine gb ?_;intro b)|refine gn ?_|(refine RT.isPush ?_;refine gp ?_;intro a' c' b' c1' hac)|refine gc ?_|fail)
 exact AtQ.fin0 Tryz.results41 (H' := [sO a c N D']) ⟨rfl, D', p1, p2, rfl⟩ (fun _ h => h) _ (by first | exact .inl rfl | exact .inr rfl)
end Go.Proofs.YtdemnhdoadjhhaaGreatDoor
end
section
namespace Go.Proofs.YtdemnhdoadjhhaaGreatDoor
open Go.Sk
set_option maxRecDepth 100000
theorem frS : ∀ {Ps R : List HP}, Fr (Ps ++ R) Ps R
 | [], _ => .nil
 | _ :: _, _ => .cons .h frS
/-- The first place at which p holds; -1. -/
def ixp {α : Type} (p : α → Bool) : List α → Nat → Int
 | [], _ => -1
 | s :: l, i => if p s = true then (i : Int) else ixp p l (i + 1)
theorem ixp_drop {α : Type} {p : α → Bool} {l : List α} {i : Nat} (h : i < l.length) : ixp p (l.drop i) i = if p l[i] = true then (i : Int) else ixp p (l.drop (i + 1)) (i + 1) := by
 rw [List.drop_eq_getElem_cons h]
 rfl
theorem ixp_any {α : Type} {p : α → Bool} : ∀ {l : List α} {i : Nat}, decide (0 ≤ ixp p l i) = l.any p
 | [], _ => rfl
 | s :: l, i => by
  unfold ixp
  rw [List.any_cons]
  cases h : p s
  ·rw [if_neg (by decide), ixp_any]; rfl
  ·rw [if_pos rfl]; simp
attribute [local irreducible] Cs Own Ex Pu Yld RT LJ QJ AtQ CT Rd QSp Sp FinQ Then LoopQ CutQ DT TakeQ EffQ
variable {B : World} {R : List HP}
set_option maxHeartbeats 1000000 in
theorem indexS_fn {a : Option Addr} {k c : Nat} {l : List SpanT} {p : SpanT → Bool} {f : FuncId} {bb : Bool} {caps : List Value} {Pre : List HP} (hl : l.length = k) (hk : k ≤ 140737488355328) (hR : Rd B (Pre ++ R) a k c 2 (l.flatMap SpanT.cells)) (hfn : al T.funs f = some bb)
  (hf : ∀ s ∈ l, Sp B Tryz.prog f ([.agg s.cells.toArray] ++ caps) R Pre (fun v H' => v = .bool (p s) ∧ H' = Pre)) :
  Sp B Tryz.prog 80 [.slice a k c, .func (.func f) #[] caps.toArray] R Pre (fun v H' => v = .int .i64 (ixp p l 0) ∧ H' = Pre) := by
 refine Sp.body Tryz.func80 rfl Tryz.ntmps80 (by simp) ?_
 simp only [argE, List.cons_append, List.nil_append, Nat.zero_add, Nat.reduceAdd]
 repeat' (first|(refine gv ?_;first|refine RT.id ?_|(refine⟨fun hc=>?_,fun hc=>?_⟩<;>first|(exfalso;omega)|skip)|refine gk ?_|refine num_m fun r hr=>?_|intro r hr)|refine gs ?_|(refine gb ?_;intro b)|refine gn ?_|(refine RT.isPush ?_;refine gp ?_;intro a' c' b' c1' hac)|refine gc ?_|fail)
 refine CT.loop (α := Nat) (fun i => [(0, .slice a k c), (1, .func (.func f) #[] caps.toArray), (7, .int .i64 k), (8, .int .i64 i)]) (fun i => Pu (i ≤ k ∧ ixp p l 0 = ixp p (l.drop i) i) :: (Pre ++ R)) (fun i => k - i) 0
  ⟨rfl, rfl, rfl, rfl, trivial⟩ (fun w h => Sat.pu_in ⟨Nat.zero_le _, rfl⟩ h) (fun i => ?_)
 refine CT.pu fun ⟨hi, hix⟩ => ?_
 repeat' (first|(refine gv ?_;first|refine RT.id ?_|(refine⟨fun hc=>?_,fun hc=>?_⟩<;>first|(exfalso;omega)|skip)|refine gk ?_|refine num_m fun r hr=>?_|intro r hr)|refine gs ?_|(refine gb ?_;intro b)|refine gn ?_|(refine RT.isPush ?_;refine gp ?_;intro a' c' b' c1' hac)|refine gc ?_|fail)
 ·refine RT.ix T (j := i * 2) rfl rfl rfl hR (by omega) (by omega) (by omega) rfl rfl ?_
  have hil : i < l.length := by omega
  refine RT.ldra T rfl hR (l := l[i].cells) (flat_sub (f := SpanT.cells) (z := 2) (fun _ => rfl) l i _ (List.getElem?_eq_getElem hil)) rfl rfl rfl rfl ?_
  refine RT.callC T (caps := caps) rfl rfl frS (hf l[i] (List.getElem_mem hil)) hfn rfl rfl ?_
  rintro _ _ ⟨rfl, rfl⟩
  rw [ixp_drop hil] at hix
  cases hin : p l[i] with
  | true =>
   rw [hin, if_pos rfl] at hix
   repeat' (first|(refine gv ?_;first|refine RT.id ?_|(refine⟨fun hc=>?_,fun hc=>?_⟩<;>first|(exfalso;omega)|skip)|refine gk ?_|refine num_m fun r hr=>?_|intro r hr)|refine gs ?_|(refine gb ?_;intro b)|refine gn ?_|(refine RT.isPush ?_;refine gp ?_;intro a' c' b' c1' hac)|refine gc ?_|fail)
   exact AtQ.f1 Tryz.results80 rfl (by rw [hix]) (fun _ h => h)
  | false =>
   rw [hin, if_neg (by decide)] at hix
   repeat' (first|(refine gv ?_;first|refine RT.id ?_|(refine⟨fun hc=>?_,fun hc=>?_⟩<;>first|(exfalso;omega)|skip)|refine gk ?_|refine num_m fun r hr=>?_|intro r hr)|refine gs ?_|(refine gb ?_;intro b)|refine gn ?_|(refine RT.isPush ?_;refine gp ?_;intro a' c' b' c1' hac)|refine gc ?_|fail)
   exact AtQ.loop (i + 1) ⟨rfl, rfl, rfl, rfl, trivial⟩ (fun w h => Sat.pu_in ⟨by omega, hix⟩ h) (by omega)
 ·refine AtQ.f1 Tryz.results80 rfl ?_ (fun _ h => h)
  rw [hix, List.drop_of_length_le (by omega)]
  rfl
theorem contfS_fn {a : Option Addr} {k c : Nat} {l : List SpanT} {p : SpanT → Bool} {f : FuncId} {bb : Bool} {caps : List Value} {Pre : List HP} (hl : l.length = k) (hk : k ≤ 140737488355328) (hR : Rd B (Pre ++ R) a k c 2 (l.flatMap SpanT.cells)) (hfn : al T.funs f = some bb)
  (hf : ∀ s ∈ l, Sp B Tryz.prog f ([.agg s.cells.toArray] ++ caps) R Pre (fun v H' => v = .bool (p s) ∧ H' = Pre)) :
  Sp B Tryz.prog 152 [.slice a k c, .func (.func f) #[] caps.toArray] R Pre (fun v H' => v = .bool (l.any p) ∧ H' = Pre) := by
 refine Sp.body Tryz.func152 rfl Tryz.ntmps152 (by simp) ?_
 simp only [argE, List.cons_append, List.nil_append, Nat.zero_add, Nat.reduceAdd]
 repeat' (first|(refine gv ?_;first|refine RT.id ?_|(refine⟨fun hc=>?_,fun hc=>?_⟩<;>first|(exfalso;omega)|skip)|refine gk ?_|refine num_m fun r hr=>?_|intro r hr)|refine gs ?_|(refine gb ?_;intro b)|refine gn ?_|(refine RT.isPush ?_;refine gp ?_;intro a' c' b' c1' hac)|refine gc ?_|fail)
 refine RT.call T rfl frS (indexS_fn hl hk hR hfn hf) rfl rfl rfl ?_
 rintro _ _ ⟨rfl, rfl⟩
 have hlt := ixp_any (p := p) (l := l) (i := 0)
 repeat' (first|(refine gv ?_;first|refine RT.id ?_|(refine⟨fun hc=>?_,fun hc=>?_⟩<;>first|(exfalso;omega)|skip)|refine gk ?_|refine num_m fun r hr=>?_|intro r hr)|refine gs ?_|(refine gb ?_;intro b)|refine gn ?_|(refine RT.isPush ?_;refine gp ?_;intro a' c' b' c1' hac)|refine gc ?_|fail)
 all_goals (refine AtQ.f1 Tryz.results152 rfl ?_ (fun _ h => h); rw [← hlt]; congr 1; symm; first | (refine decide_eq_true ?_; omega) | (refine decide_eq_false ?_; omega))
set_option maxHeartbeats 1000000 in
theorem indexF_fn {a : Option Addr} {k c : Nat} {l : List FieldT} {p : FieldT → Bool} {f : FuncId} {bb : Bool} {caps : List Value} {Pre : List HP} (hl : l.length = k) (hk : k ≤ 140737488355328) (hR : Rd B (Pre ++ R) a k c 9 (l.flatMap FieldT.cells)) (hfn : al T.funs f = some bb)
  (hf : ∀ s ∈ l, Sp B Tryz.prog f ([.agg s.cells.toArray] ++ caps) R Pre (fun v H' => v = .bool (p s) ∧ H' = Pre)) :
  Sp B Tryz.prog 150 [.slice a k c, .func (.func f) #[] caps.toArray] R Pre (fun v H' => v = .int .i64 (ixp p l 0) ∧ H' = Pre) := by
 refine Sp.body Tryz.func150 rfl Tryz.ntmps150 (by simp) ?_
 simp only [argE, List.cons_append, List.nil_append, Nat.zero_add, Nat.reduceAdd]
 repeat' (first|(refine gv ?_;first|refine RT.id ?_|(refine⟨fun hc=>?_,fun hc=>?_⟩<;>first|(exfalso;omega)|skip)|refine gk ?_|refine num_m fun r hr=>?_|intro r hr)|refine gs ?_|(refine gb ?_;intro b)|refine gn ?_|(refine RT.isPush ?_;refine gp ?_;intro a' c' b' c1' hac)|refine gc ?_|fail)
 refine CT.loop (α := Nat) (fun i => [(0, .slice a k c), (1, .func (.func f) #[] caps.toArray), (7, .int .i64 k), (8, .int .i64 i)]) (fun i => Pu (i ≤ k ∧ ixp p l 0 = ixp p (l.drop i) i) :: (Pre ++ R)) (fun i => k - i) 0
  ⟨rfl, rfl, rfl, rfl, trivial⟩ (fun w h => Sat.pu_in ⟨Nat.zero_le _, rfl⟩ h) (fun i => ?_)
 refine CT.pu fun ⟨hi, hix⟩ => ?_
 repeat' (first|(refine gv ?_;first|refine RT.id ?_|(refine⟨fun hc=>?_,fun hc=>?_⟩<;>first|(exfalso;omega)|skip)|refine gk ?_|refine num_m fun r hr=>?_|intro r hr)|refine gs ?_|(refine gb ?_;intro b)|refine gn ?_|(refine RT.isPush ?_;refine gp ?_;intro a' c' b' c1' hac)|refine gc ?_|fail)
 ·refine RT.ix T (j := i * 9) rfl rfl rfl hR (by omega) (by omega) (by omega) rfl rfl ?_
  have hil : i < l.length := by omega
  refine RT.ldra T rfl hR (l := l[i].cells) (flat_sub (f := FieldT.cells) (z := 9) (fun _ => rfl) l i _ (List.getElem?_eq_getElem hil)) rfl rfl rfl rfl ?_
  refine RT.callC T (caps := caps) rfl rfl frS (hf l[i] (List.getElem_mem hil)) hfn rfl rfl ?_
  rintro _ _ ⟨rfl, rfl⟩
  rw [ixp_drop hil] at hix
  cases hin : p l[i] with
  | true =>
   rw [hin, if_pos rfl] at hix
   repeat' (first|(refine gv ?_;first|refine RT.id ?_|(refine⟨fun hc=>?_,fun hc=>?_⟩<;>first|(exfalso;omega)|skip)|refine gk ?_|refine num_m fun r hr=>?_|intro r hr)|refine gs ?_|(refine gb ?_;intro b)|refine gn ?_|(refine RT.isPush ?_;refine gp ?_;intro a' c' b' c1' hac)|refine gc ?_|fail)
   exact AtQ.f1 Tryz.results150 rfl (by rw [hix]) (fun _ h => h)
  | false =>
   rw [hin, if_neg (by decide)] at hix
   repeat' (first|(refine gv ?_;first|refine RT.id ?_|(refine⟨fun hc=>?_,fun hc=>?_⟩<;>first|(exfalso;omega)|skip)|refine gk ?_|refine num_m fun r hr=>?_|intro r hr)|refine gs ?_|(refine gb ?_;intro b)|refine gn ?_|(refine RT.isPush ?_;refine gp ?_;intro a' c' b' c1' hac)|refine gc ?_|fail)
   exact AtQ.loop (i + 1) ⟨rfl, rfl, rfl, rfl, trivial⟩ (fun w h => Sat.pu_in ⟨by omega, hix⟩ h) (by omega)
 ·refine AtQ.f1 Tryz.results150 rfl ?_ (fun _ h => h)
  rw [hix, List.drop_of_length_le (by omega)]
  rfl
theorem contfF_fn {a : Option Addr} {k c : Nat} {l : List FieldT} {p : FieldT → Bool} {f : FuncId} {bb : Bool} {caps : List Value} {Pre : List HP} (hl : l.length = k) (hk : k ≤ 140737488355328) (hR : Rd B (Pre ++ R) a k c 9 (l.flatMap FieldT.cells)) (hfn : al T.funs f = some bb)
  (hf : ∀ s ∈ l, Sp B Tryz.prog f ([.agg s.cells.toArray] ++ caps) R Pre (fun v H' => v = .bool (p s) ∧ H' = Pre)) :
  Sp B Tryz.prog 119 [.slice a k c, .func (.func f) #[] caps.toArray] R Pre (fun v H' => v = .bool (l.any p) ∧ H' = Pre) := by
 refine Sp.body Tryz.func119 rfl Tryz.ntmps119 (by simp) ?_
 simp only [argE, List.cons_append, List.nil_append, Nat.zero_add, Nat.reduceAdd]
 repeat' (first|(refine gv ?_;first|refine RT.id ?_|(refine⟨fun hc=>?_,fun hc=>?_⟩<;>first|(exfalso;omega)|skip)|refine gk ?_|refine num_m fun r hr=>?_|intro r hr)|refine gs ?_|(refine gb ?_;intro b)|refine gn ?_|(refine RT.isPush ?_;refine gp ?_;intro a' c' b' c1' hac)|refine gc ?_|fail)
 refine RT.call T rfl frS (indexF_fn hl hk hR hfn hf) rfl rfl rfl ?_
 rintro _ _ ⟨rfl, rfl⟩
 have hlt := ixp_any (p := p) (l := l) (i := 0)
 repeat' (first|(refine gv ?_;first|refine RT.id ?_|(refine⟨fun hc=>?_,fun hc=>?_⟩<;>first|(exfalso;omega)|skip)|refine gk ?_|refine num_m fun r hr=>?_|intro r hr)|refine gs ?_|(refine gb ?_;intro b)|refine gn ?_|(refine RT.isPush ?_;refine gp ?_;intro a' c' b' c1' hac)|refine gc ?_|fail)
 all_goals (refine AtQ.f1 Tryz.results119 rfl ?_ (fun _ h => h); rw [← hlt]; congr 1; symm; first | (refine decide_eq_true ?_; omega) | (refine decide_eq_false ?_; omega))
set_option maxHeartbeats 1000000 in
theorem indexV_fn {a : Option Addr} {k c : Nat} {l : List EValT} {p : EValT → Bool} {f : FuncId} {bb : Bool} {caps : List Value} {Pre : List HP} (hl : l.length = k) (hk : k ≤ 140737488355328) (hR : Rd B (Pre ++ R) a k c 2 (l.flatMap EValT.cells)) (hfn : al T.funs f = some bb)
  (hf : ∀ s ∈ l, Sp B Tryz.prog f ([.agg s.cells.toArray] ++ caps) R Pre (fun v H' => v = .bool (p s) ∧ H' = Pre)) :
  Sp B Tryz.prog 154 [.slice a k c, .func (.func f) #[] caps.toArray] R Pre (fun v H' => v = .int .i64 (ixp p l 0) ∧ H' = Pre) := by
 refine Sp.body Tryz.func154 rfl Tryz.ntmps154 (by simp) ?_
 simp only [argE, List.cons_append, List.nil_append, Nat.zero_add, Nat.reduceAdd]
 repeat' (first|(refine gv ?_;first|refine RT.id ?_|(refine⟨fun hc=>?_,fun hc=>?_⟩<;>first|(exfalso;omega)|skip)|refine gk ?_|refine num_m fun r hr=>?_|intro r hr)|refine gs ?_|(refine gb ?_;intro b)|refine gn ?_|(refine RT.isPush ?_;refine gp ?_;intro a' c' b' c1' hac)|refine gc ?_|fail)
 refine CT.loop (α := Nat) (fun i => [(0, .slice a k c), (1, .func (.func f) #[] caps.toArray), (7, .int .i64 k), (8, .int .i64 i)]) (fun i => Pu (i ≤ k ∧ ixp p l 0 = ixp p (l.drop i) i) :: (Pre ++ R)) (fun i => k - i) 0
  ⟨rfl, rfl, rfl, rfl, trivial⟩ (fun w h => Sat.pu_in ⟨Nat.zero_le _, rfl⟩ h) (fun i => ?_)
 refine CT.pu fun ⟨hi, hix⟩ => ?_
 repeat' (first|(refine gv ?_;first|refine RT.id ?_|(refine⟨fun hc=>?_,fun hc=>?_⟩<;>first|(exfalso;omega)|skip)|refine gk ?_|refine num_m fun r hr=>?_|intro r hr)|refine gs ?_|(refine gb ?_;intro b)|refine gn ?_|(refine RT.isPush ?_;refine gp ?_;intro a' c' b' c1' hac)|refine gc ?_|fail)
 ·refine RT.ix T (j := i * 2) rfl rfl rfl hR (by omega) (by omega) (by omega) rfl rfl ?_
  have hil : i < l.length := by omega
  refine RT.ldra T rfl hR (l := l[i].cells) (flat_sub (f := EValT.cells) (z := 2) (fun _ => rfl) l i _ (List.getElem?_eq_getElem hil)) rfl rfl rfl rfl ?_
  refine RT.callC T (caps := caps) rfl rfl frS (hf l[i] (List.getElem_mem hil)) hfn rfl rfl ?_
  rintro _ _ ⟨rfl, rfl⟩
  rw [ixp_drop hil] at hix
  cases hin : p l[i] with
  | true =>
   rw [hin, if_pos rfl] at hix
   repeat' (first|(refine gv ?_;first|refine RT.id ?_|(refine⟨fun hc=>?_,fun hc=>?_⟩<;>first|(exfalso;omega)|skip)|refine gk ?_|refine num_m fun r hr=>?_|intro r hr)|refine gs ?_|(refine gb ?_;intro b)|refine gn ?_|(refine RT.isPush ?_;refine gp ?_;intro a' c' b' c1' hac)|refine gc ?_|fail)
   exact AtQ.f1 Tryz.results154 rfl (by rw [hix]) (fun _ h => h)
  | false =>
   rw [hin, if_neg (by decide)] at hix
   repeat' (first|(refine gv ?_;first|refine RT.id ?_|(refine⟨fun hc=>?_,fun hc=>?_⟩<;>first|(exfalso;omega)|skip)|refine gk ?_|refine num_m fun r hr=>?_|intro r hr)|refine gs ?_|(refine gb ?_;intro b)|refine gn ?_|(refine RT.isPush ?_;refine gp ?_;intro a' c' b' c1' hac)|refine gc ?_|fail)
   exact AtQ.loop (i + 1) ⟨rfl, rfl, rfl, rfl, trivial⟩ (fun w h => Sat.pu_in ⟨by omega, hix⟩ h) (by omega)
 ·refine AtQ.f1 Tryz.results154 rfl ?_ (fun _ h => h)
  rw [hix, List.drop_of_length_le (by omega)]
  rfl
theorem contfV_fn {a : Option Addr} {k c : Nat} {l : List EValT} {p : EValT → Bool} {f : FuncId} {bb : Bool} {caps : List Value} {Pre : List HP} (hl : l.length = k) (hk : k ≤ 140737488355328) (hR : Rd B (Pre ++ R) a k c 2 (l.flatMap EValT.cells)) (hfn : al T.funs f = some bb)
  (hf : ∀ s ∈ l, Sp B Tryz.prog f ([.agg s.cells.toArray] ++ caps) R Pre (fun v H' => v = .bool (p s) ∧ H' = Pre)) :
  Sp B Tryz.prog 123 [.slice a k c, .func (.func f) #[] caps.toArray] R Pre (fun v H' => v = .bool (l.any p) ∧ H' = Pre) := by
 refine Sp.body Tryz.func123 rfl Tryz.ntmps123 (by simp) ?_
 simp only [argE, List.cons_append, List.nil_append, Nat.zero_add, Nat.reduceAdd]
 repeat' (first|(refine gv ?_;first|refine RT.id ?_|(refine⟨fun hc=>?_,fun hc=>?_⟩<;>first|(exfalso;omega)|skip)|refine gk ?_|refine num_m fun r hr=>?_|intro r hr)|refine gs ?_|(refine gb ?_;intro b)|refine gn ?_|(refine RT.isPush ?_;refine gp ?_;intro a' c' b' c1' hac)|refine gc ?_|fail)
 refine RT.call T rfl frS (indexV_fn hl hk hR hfn hf) rfl rfl rfl ?_
 rintro _ _ ⟨rfl, rfl⟩
 have hlt := ixp_any (p := p) (l := l) (i := 0)
 repeat' (first|(refine gv ?_;first|refine RT.id ?_|(refine⟨fun hc=>?_,fun hc=>?_⟩<;>first|(exfalso;omega)|skip)|refine gk ?_|refine num_m fun r hr=>?_|intro r hr)|refine gs ?_|(refine gb ?_;intro b)|refine gn ?_|(refine RT.isPush ?_;refine gp ?_;intro a' c' b' c1' hac)|refine gc ?_|fail)
 all_goals (refine AtQ.f1 Tryz.results123 rfl ?_ (fun _ h => h); rw [← hlt]; congr 1; symm; first | (refine decide_eq_true ?_; omega) | (refine decide_eq_false ?_; omega))
theorem within1_fn {s : SpanT} {x : Int} {b : Nat} : Sp B Tryz.prog 153 ([.agg s.cells.toArray] ++ [.pointer (some ⟨b, 0, none⟩)]) R [Cs b 21 [.int .i32 x]] (fun v H' => v = .bool (inS s x) ∧ H' = [Cs b 21 [.int .i32 x]]) := by
 refine Sp.body Tryz.func153 rfl Tryz.ntmps153 (by simp) ?_
 simp only [argE, List.cons_append, List.nil_append, Nat.zero_add, Nat.reduceAdd]
 repeat' (first|(refine gv ?_;first|refine RT.id ?_|(refine⟨fun hc=>?_,fun hc=>?_⟩<;>first|(exfalso;omega)|skip)|refine gk ?_|refine num_m fun r hr=>?_|intro r hr)|refine gs ?_|(refine gb ?_;intro b)|refine gn ?_|(refine RT.isPush ?_;refine gp ?_;intro a' c' b' c1' hac)|refine gc ?_|fail)
 all_goals (refine AtQ.f1 Tryz.results153 rfl ?_ (fun _ h => h.tail); congr 1; unfold inS; symm)
 all_goals first | (refine decide_eq_true ?_; omega) | (refine decide_eq_false ?_; omega)
theorem within_fn {r : Rw SpanT} {x : Int} (hR : Rd B R r.a r.l.length r.c 2 (r.l.flatMap SpanT.cells)) (hk : r.l.length ≤ 140737488355328) : Sp B Tryz.prog 122 [r.v, .int .i32 x] R [] (fun v H' => v = .bool (anyS r.l x) ∧ H' = []) := by
 obtain ⟨a, c, l⟩ := r
 refine Sp.body Tryz.func122 rfl Tryz.ntmps122 (by simp) ?_
 simp only [argE, List.cons_append, List.nil_append, Nat.zero_add, Nat.reduceAdd]
 repeat' (first|(refine gv ?_;first|refine RT.id ?_|(refine⟨fun hc=>?_,fun hc=>?_⟩<;>first|(exfalso;omega)|skip)|refine gk ?_|refine num_m fun r hr=>?_|intro r hr)|refine gs ?_|(refine gb ?_;intro b)|refine gn ?_|(refine RT.isPush ?_;refine gp ?_;intro a' c' b' c1' hac)|refine gc ?_|fail)
 refine RT.mkF rfl rfl rfl ?_
 repeat' (first|(refine gv ?_;first|refine RT.id ?_|(refine⟨fun hc=>?_,fun hc=>?_⟩<;>first|(exfalso;omega)|skip)|refine gk ?_|refine num_m fun r hr=>?_|intro r hr)|refine gs ?_|(refine gb ?_;intro b)|refine gn ?_|(refine RT.isPush ?_;refine gp ?_;intro a' c' b' c1' hac)|refine gc ?_|fail)
 refine RT.call T rfl (by (repeat (first|exact Fr.nil|(apply Fr.cons;focus ((repeat constructor);done))))) (contfS_fn (B := B) (R := R) (p := fun s => inS s x) (f := 153) (caps := [.pointer (some ⟨b, 0, none⟩)]) (Pre := [Cs b 21 [.int .i32 x]]) rfl hk (Rd.cons hR) rfl (fun s _ => within1_fn)) rfl rfl rfl ?_
 rintro _ _ ⟨rfl, rfl⟩
 repeat' (first|(refine gv ?_;first|refine RT.id ?_|(refine⟨fun hc=>?_,fun hc=>?_⟩<;>first|(exfalso;omega)|skip)|refine gk ?_|refine num_m fun r hr=>?_|intro r hr)|refine gs ?_|(refine gb ?_;intro b)|refine gn ?_|(refine RT.isPush ?_;refine gp ?_;intro a' c' b' c1' hac)|refine gc ?_|fail)
 exact AtQ.f1 Tryz.results122 rfl rfl (fun _ h => h.tail)
theorem message1_fn {f : FieldT} {i : Nat} {b : Nat} (hi : i ≤ 140737488355328) : Sp B Tryz.prog 120 ([.agg f.cells.toArray] ++ [.pointer (some ⟨b, 0, none⟩)]) R [Cs b 3 [.int .i64 i]] (fun v H' => v = .bool (decide (f.oneof = (i : Int) + 1)) ∧ H' = [Cs b 3 [.int .i64 i]]) := by
 refine Sp.body Tryz.func120 rfl Tryz.ntmps120 (by simp) ?_
 simp only [argE, List.cons_append, List.nil_append, Nat.zero_add, Nat.reduceAdd]
 repeat' (first|(refine gv ?_;first|refine RT.id ?_|(refine⟨fun hc=>?_,fun hc=>?_⟩<;>first|(exfalso;omega)|skip)|refine gk ?_|refine num_m fun r hr=>?_|intro r hr)|refine gs ?_|(refine gb ?_;intro b)|refine gn ?_|(refine RT.isPush ?_;refine gp ?_;intro a' c' b' c1' hac)|refine gc ?_|fail)
 all_goals (refine AtQ.f1 Tryz.results120 rfl ?_ (fun _ h => h.tail); first | rfl | (congr 1; symm; first | (refine decide_eq_true ?_; omega) | (refine decide_eq_false ?_; omega)))
theorem field1_fn {f g : FieldT} {b : Nat} : Sp B Tryz.prog 141 ([.agg g.cells.toArray] ++ [.pointer (some ⟨b, 0, none⟩)]) R [Cs b 87 f.cells] (fun v H' => v = .bool (decide (g.num = f.num)) ∧ H' = [Cs b 87 f.cells]) := by
 refine Sp.body Tryz.func141 rfl Tryz.ntmps141 (by simp) ?_
 simp only [argE, List.cons_append, List.nil_append, Nat.zero_add, Nat.reduceAdd]
 repeat' (first|(refine gv ?_;first|refine RT.id ?_|(refine⟨fun hc=>?_,fun hc=>?_⟩<;>first|(exfalso;omega)|skip)|refine gk ?_|refine num_m fun r hr=>?_|intro r hr)|refine gs ?_|(refine gb ?_;intro b)|refine gn ?_|(refine RT.isPush ?_;refine gp ?_;intro a' c' b' c1' hac)|refine gc ?_|fail)
 all_goals (refine AtQ.f1 Tryz.results141 rfl ?_ (fun _ h => h.tail); first | rfl | (congr 1; symm; first | (refine decide_eq_true ?_; omega) | (refine decide_eq_false ?_; omega)))
theorem enum1_fn {f g : EValT} {b : Nat} : Sp B Tryz.prog 124 ([.agg g.cells.toArray] ++ [.pointer (some ⟨b, 0, none⟩)]) R [Cs b 111 f.cells] (fun v H' => v = .bool (decide (g.num = f.num)) ∧ H' = [Cs b 111 f.cells]) := by
 refine Sp.body Tryz.func124 rfl Tryz.ntmps124 (by simp) ?_
 simp only [argE, List.cons_append, List.nil_append, Nat.zero_add, Nat.reduceAdd]
 repeat' (first|(refine gv ?_;first|refine RT.id ?_|(refine⟨fun hc=>?_,fun hc=>?_⟩<;>first|(exfalso;omega)|skip)|refine gk ?_|refine num_m fun r hr=>?_|intro r hr)|refine gs ?_|(refine gb ?_;intro b)|refine gn ?_|(refine RT.isPush ?_;refine gp ?_;intro a' c' b' c1' hac)|refine gc ?_|fail)
 all_goals (refine AtQ.f1 Tryz.results124 rfl ?_ (fun _ h => h.tail); first | rfl | (congr 1; symm; first | (refine decide_eq_true ?_; omega) | (refine decide_eq_false ?_; omega)))
set_option maxHeartbeats 1000000 in
theorem indexT_fn {a : Option Addr} {k c : Nat} {l : List Txt} {x : Txt} (hl : l.length = k) (hk : k ≤ 140737488355328) (hR : Rd B R a k c 1 (l.map vS)) (hb : ∀ t ∈ l, Byt t) (hx : Byt x) :
  Sp B Tryz.prog 151 [.slice a k c, vS x] R [] (fun v H' => v = .int .i64 (ixp (fun t => decide (t = x)) l 0) ∧ H' = []) := by
 refine Sp.body Tryz.func151 rfl Tryz.ntmps151 (by simp) ?_
 simp only [argE, List.cons_append, List.nil_append, Nat.zero_add, Nat.reduceAdd]
 repeat' (first|(refine gv ?_;first|refine RT.id ?_|(refine⟨fun hc=>?_,fun hc=>?_⟩<;>first|(exfalso;omega)|skip)|refine gk ?_|refine num_m fun r hr=>?_|intro r hr)|refine gs ?_|(refine gb ?_;intro b)|refine gn ?_|(refine RT.isPush ?_;refine gp ?_;intro a' c' b' c1' hac)|refine gc ?_|fail)
 refine CT.loop (α := Nat) (fun i => [(0, .slice a k c), (1, vS x), (7, .int .i64 k), (8, .int .i64 i)]) (fun i => Pu (i ≤ k ∧ ixp (fun t => decide (t = x)) l 0 = ixp (fun t => decide (t = x)) (l.drop i) i) :: R) (fun i => k - i) 0
  ⟨rfl, rfl, rfl, rfl, trivial⟩ (fun w h => Sat.pu_in ⟨Nat.zero_le _, rfl⟩ h) (fun i => ?_)
 refine CT.pu fun ⟨hi, hix⟩ => ?_
 repeat' (first|(refine gv ?_;first|refine RT.id ?_|(refine⟨fun hc=>?_,fun hc=>?_⟩<;>first|(exfalso;omega)|skip)|refine gk ?_|refine num_m fun r hr=>?_|intro r hr)|refine gs ?_|(refine gb ?_;intro b)|refine gn ?_|(refine RT.isPush ?_;refine gp ?_;intro a' c' b' c1' hac)|refine gc ?_|fail)
 ·have hil : i < l.length := by omega
  refine RT.ix T (j := i) rfl rfl rfl hR (by omega) (by omega) (by omega) rfl rfl ?_
  refine RT.ldr T rfl hR (u := vS l[i]) (by rw [List.getElem?_map, List.getElem?_eq_getElem hil]; rfl) rfl rfl rfl ?_
  rw [ixp_drop hil] at hix
  refine RT.eqs (l := x) (l' := l[i]) rfl rfl hx (hb _ (List.getElem_mem hil)) rfl rfl (fun h => ?_) (fun h => ?_)
  ·rw [if_pos (decide_eq_true h.symm)] at hix
   repeat' (first|(refine gv ?_;first|refine RT.id ?_|(refine⟨fun hc=>?_,fun hc=>?_⟩<;>first|(exfalso;omega)|skip)|refine gk ?_|refine num_m fun r hr=>?_|intro r hr)|refine gs ?_|(refine gb ?_;intro b)|refine gn ?_|(refine RT.isPush ?_;refine gp ?_;intro a' c' b' c1' hac)|refine gc ?_|fail)
   exact AtQ.f1 Tryz.results151 rfl (by rw [hix]) (fun _ h => h)
  ·rw [if_neg (by simp only [decide_eq_true_eq]; exact fun e => h e.symm)] at hix
   repeat' (first|(refine gv ?_;first|refine RT.id ?_|(refine⟨fun hc=>?_,fun hc=>?_⟩<;>first|(exfalso;omega)|skip)|refine gk ?_|refine num_m fun r hr=>?_|intro r hr)|refine gs ?_|(refine gb ?_;intro b)|refine gn ?_|(refine RT.isPush ?_;refine gp ?_;intro a' c' b' c1' hac)|refine gc ?_|fail)
   exact AtQ.loop (i + 1) ⟨rfl, rfl, rfl, rfl, trivial⟩ (fun w h => Sat.pu_in ⟨by omega, hix⟩ h) (by omega)
 ·refine AtQ.f1 Tryz.results151 rfl ?_ (fun _ h => h)
  rw [hix, List.drop_of_length_le (by omega)]
  rfl
theorem any_mem {l : List Txt} {x : Txt} : l.any (fun t => decide (t = x)) = decide (x ∈ l) := by
 rw [Bool.eq_iff_iff]
 simp
theorem contT_fn {a : Option Addr} {k c : Nat} {l : List Txt} {x : Txt} (hl : l.length = k) (hk : k ≤ 140737488355328) (hR : Rd B R a k c 1 (l.map vS)) (hb : ∀ t ∈ l, Byt t) (hx : Byt x) :
  Sp B Tryz.prog 121 [.slice a k c, vS x] R [] (fun v H' => v = .bool (decide (x ∈ l)) ∧ H' = []) := by
 refine Sp.body Tryz.func121 rfl Tryz.ntmps121 (by simp) ?_
 simp only [argE, List.cons_append, List.nil_append, Nat.zero_add, Nat.reduceAdd]
 repeat' (first|(refine gv ?_;first|refine RT.id ?_|(refine⟨fun hc=>?_,fun hc=>?_⟩<;>first|(exfalso;omega)|skip)|refine gk ?_|refine num_m fun r hr=>?_|intro r hr)|refine gs ?_|(refine gb ?_;intro b)|refine gn ?_|(refine RT.isPush ?_;refine gp ?_;intro a' c' b' c1' hac)|refine gc ?_|fail)
 (refine RT.call T rfl fR_ (indexT_fn hl hk hR hb hx) rfl rfl rfl ?_; rintro _ _ ⟨rfl, rfl⟩; try simp only [List.cons_append, List.nil_append])
 have hlt := ixp_any (p := fun t => decide (t = x)) (l := l) (i := 0)
 rw [any_mem] at hlt
 repeat' (first|(refine gv ?_;first|refine RT.id ?_|(refine⟨fun hc=>?_,fun hc=>?_⟩<;>first|(exfalso;omega)|skip)|refine gk ?_|refine num_m fun r hr=>?_|intro r hr)|refine gs ?_|(refine gb ?_;intro b)|refine gn ?_|(refine RT.isPush ?_;refine gp ?_;intro a' c' b' c1' hac)|refine gc ?_|fail)
 all_goals (refine AtQ.f1 Tryz.results121 rfl ?_ (fun _ h => h); rw [← hlt]; congr 1; symm; first | (refine decide_eq_true ?_; omega) | (refine decide_eq_false ?_; omega))
end Go.Proofs.YtdemnhdoadjhhaaGreatDoor
end
section
namespace Go.Proofs.YtdemnhdoadjhhaaGreatDoor
open Go.Sk
set_option maxRecDepth 100000
/-- That some byte is among them. -/
theorem idx_mem {l : List Int} (hb : Byt l) {c : Int} (hc : 0 ≤ c ∧ c ≤ 255) : decide (0 ≤ Lib.indexByte (str l).data.toList c.toNat.toUInt8) = decide (c ∈ l) := by
 have key : ∀ (m : List Int), Byt m → (0 ≤ Lib.indexByte ((str m).data.toList) c.toNat.toUInt8 ↔ c ∈ m) := by
  intro m
  induction m with
  | nil => intro _; simp [str, Lib.indexByte]
  | cons x m ih =>
   intro hm
   have hx := hm x (by simp)
   unfold isB at hx
   have ihm := ih (fun y hy => hm y (by simp [hy]))
   have hge := Lib.indexByte_ge ((str m).data.toList) c.toNat.toUInt8
   have hcons : (str (x :: m)).data.toList = x.toNat.toUInt8 :: (str m).data.toList := by rw [str_list, str_list]; rfl
   rw [hcons, Lib.indexByte]
   have heq : (x.toNat.toUInt8 == c.toNat.toUInt8) = decide (x = c) := by
    rw [Bool.eq_iff_iff, beq_iff_eq, decide_eq_true_eq]
    constructor
    ·intro h
     have := congrArg UInt8.toNat h
     simp at this
     omega
    ·rintro rfl; rfl
   rw [heq]
   by_cases h : x = c
   ·rw [decide_eq_true h]; simp [h]
   ·rw [decide_eq_false h]
    simp only [List.mem_cons]
    rw [if_neg (by decide)]
    constructor
    ·intro h2
     right
     apply ihm.1
     split at h2
     ·omega
     ·rename_i hne
      rw [beq_iff_eq] at hne
      omega
    ·rintro (h2 | h2)
     ·exact absurd h2.symm h
     ·have := ihm.2 h2
      rw [if_neg (by rw [beq_iff_eq]; omega)]
      omega
 rw [Bool.eq_iff_iff, decide_eq_true_eq, decide_eq_true_eq]
 exact key l hb
attribute [local irreducible] Cs Own Ex Pu Yld RT LJ QJ AtQ CT Rd QSp Sp FinQ Then LoopQ CutQ DT TakeQ EffQ
variable {B : World} {R : List HP}
section
variable {n : Fm} {m : Bool} {l0 rest : List Oper} {E : Env} {H : List HP} {Q : Exit → Act → World → Prop} {d : Nat} {ty : TypeId} {pos : String} {af : Array Edge} {g : Option (Nat × Bool)} {x y : Operand} {ats : Array TypeId}
theorem RT.ibyte {s : ByteArray} {c : Int} (hx : ev E x = some (.string s)) (hy : ev E y = some (.int .u8 c)) (hw : wt l0 E g = some true) (hd : Nat.blt d n = true)
  (kk : RT B Tryz.prog n m l0 rest ((d, .int .i64 (Lib.indexByte s.data.toList c.toNat.toUInt8)) :: E) H Q) :
  RT B Tryz.prog n m l0 (⟨some d, .call { callee := .value (.func 182), args := #[x, y], argTypes := ats }, ty, pos, af, g⟩ :: rest) E H Q :=
 RT.y hw (by simpa [Nat.blt_eq] using hd) (y_run fun o aa w ho _ hA _ => by
  have hcall : (callFunc 182 #[.string s, .int .u8 c]).run Tryz.prog w = .ok (.value (.int .i64 (Lib.indexByte s.data.toList c.toNat.toUInt8))) w := by
   rw [run_callFunc_extern Tryz.func182 (by kernel_rfl) (by kernel_rfl) (by kernel_rfl) (e := Extern.BytealgIndexByte.indexByte) (by kernel_rfl), Lib.run_indexByteString]
   rfl
  unfold execOp
  simp only [ho, resolve, Sem.run_bind, List.map_toArray, List.map_cons, List.map_nil, hA.ev hx, hA.ev hy, Sem.run_pure, Result.andThen_ok]
  simp only [Act.eval, Deferred.ofValue, invoke]
  simpa using hcall) kk
end
theorem ibyte_fn {l : List Int} {c : Int} : Sp B Tryz.prog 177 [vS l, .int .u8 c] R [] (fun v H' => v = .int .i64 (Lib.indexByte (str l).data.toList c.toNat.toUInt8) ∧ H' = []) := by
 refine Sp.body Tryz.func177 rfl Tryz.ntmps177 (by simp) ?_
 simp only [argE, List.cons_append, List.nil_append, Nat.zero_add, Nat.reduceAdd]
 repeat' (first|(refine gv ?_;first|refine RT.id ?_|(refine⟨fun hc=>?_,fun hc=>?_⟩<;>first|(exfalso;omega)|skip)|refine gk ?_|refine num_m fun r hr=>?_|intro r hr)|refine gs ?_|(refine gb ?_;intro b)|refine gn ?_|(refine RT.isPush ?_;refine gp ?_;intro a' c' b' c1' hac)|refine gc ?_|fail)
 refine RT.ibyte rfl rfl rfl rfl ?_
 repeat' (first|(refine gv ?_;first|refine RT.id ?_|(refine⟨fun hc=>?_,fun hc=>?_⟩<;>first|(exfalso;omega)|skip)|refine gk ?_|refine num_m fun r hr=>?_|intro r hr)|refine gs ?_|(refine gb ?_;intro b)|refine gn ?_|(refine RT.isPush ?_;refine gp ?_;intro a' c' b' c1' hac)|refine gc ?_|fail)
 exact AtQ.f1 Tryz.results177 rfl rfl (fun _ h => h)
theorem sindex_fn {l sep : List Int} (hsep : sep = [64]) (hb : Byt l) : Sp B Tryz.prog 172 [vS l, vS sep] R [] (fun v H' => v = .int .i64 (Lib.indexByte (str l).data.toList 64) ∧ H' = []) := by
 refine Sp.body Tryz.func172 rfl Tryz.ntmps172 (by simp) ?_
 simp only [argE, List.cons_append, List.nil_append, Nat.zero_add, Nat.reduceAdd]
 have hsl : sep.length = 1 := by rw [hsep]; rfl
 have hsb : Byt sep := by rw [hsep]; exact Byt.one (by unfold isB; decide)
 repeat' (first|(refine gv ?_;first|refine RT.id ?_|(refine⟨fun hc=>?_,fun hc=>?_⟩<;>first|(exfalso;omega)|skip)|refine gk ?_|refine num_m fun r hr=>?_|intro r hr)|refine gs ?_|(refine gb ?_;intro b)|refine gn ?_|(refine RT.isPush ?_;refine gp ?_;intro a' c' b' c1' hac)|refine gc ?_|fail)
 refine RT.eqs (l := sep) (l' := l) rfl rfl hsb hb rfl rfl (fun h => ?_) (fun h => ?_)
 ·repeat' (first|(refine gv ?_;first|refine RT.id ?_|(refine⟨fun hc=>?_,fun hc=>?_⟩<;>first|(exfalso;omega)|skip)|refine gk ?_|refine num_m fun r hr=>?_|intro r hr)|refine gs ?_|(refine gb ?_;intro b)|refine gn ?_|(refine RT.isPush ?_;refine gp ?_;intro a' c' b' c1' hac)|refine gc ?_|fail)
  exact AtQ.f1 Tryz.results172 rfl (by rw [← h, hsep]; rfl) (fun _ h => h)
 ·repeat' (first|(refine gv ?_;first|refine RT.id ?_|(refine⟨fun hc=>?_,fun hc=>?_⟩<;>first|(exfalso;omega)|skip)|refine gk ?_|refine num_m fun r hr=>?_|intro r hr)|refine gs ?_|(refine gb ?_;intro b)|refine gn ?_|(refine RT.isPush ?_;refine gp ?_;intro a' c' b' c1' hac)|refine gc ?_|fail)
  (refine RT.ixs T (j := 0) rfl rfl (by omega) (by omega) (by assumption) rfl rfl rfl ?_)
  have h0 : sep.getD 0 0 = 64 := by rw [hsep]; rfl
  rw [h0]
  (refine RT.call T rfl fR_ (ibyte_fn (l := l) (c := 64)) rfl rfl rfl ?_; rintro _ _ ⟨rfl, rfl⟩; try simp only [List.cons_append, List.nil_append])
  repeat' (first|(refine gv ?_;first|refine RT.id ?_|(refine⟨fun hc=>?_,fun hc=>?_⟩<;>first|(exfalso;omega)|skip)|refine gk ?_|refine num_m fun r hr=>?_|intro r hr)|refine gs ?_|(refine gb ?_;intro b)|refine gn ?_|(refine RT.isPush ?_;refine gp ?_;intro a' c' b' c1' hac)|refine gc ?_|fail)
  exact AtQ.f1 Tryz.results172 rfl rfl (fun _ h => h)
theorem contains_fn {l : List Int} (hb : Byt l) : Sp B Tryz.prog 148 [vS l, vS [64]] R [] (fun v H' => v = .bool (decide ((64 : Int) ∈ l)) ∧ H' = []) := by
 have hsx : ∀ R, Sp B Tryz.prog 162 [vS l, vS [64]] R [] (fun v H' => v = .int .i64 (Lib.indexByte (str l).data.toList 64) ∧ H' = []) := fun R => by
  refine Sp.body Tryz.func162 rfl Tryz.ntmps162 (by simp) ?_
  simp only [argE, List.cons_append, List.nil_append, Nat.zero_add, Nat.reduceAdd]
  repeat' (first|(refine gv ?_;first|refine RT.id ?_|(refine⟨fun hc=>?_,fun hc=>?_⟩<;>first|(exfalso;omega)|skip)|refine gk ?_|refine num_m fun r hr=>?_|intro r hr)|refine gs ?_|(refine gb ?_;intro b)|refine gn ?_|(refine RT.isPush ?_;refine gp ?_;intro a' c' b' c1' hac)|refine gc ?_|fail)
  (refine RT.call T rfl fR_ (sindex_fn (l := l) (sep := [64]) rfl hb) rfl rfl rfl ?_; rintro _ _ ⟨rfl, rfl⟩; try simp only [List.cons_append, List.nil_append])
  repeat' (first|(refine gv ?_;first|refine RT.id ?_|(refine⟨fun hc=>?_,fun hc=>?_⟩<;>first|(exfalso;omega)|skip)|refine gk ?_|refine num_m fun r hr=>?_|intro r hr)|refine gs ?_|(refine gb ?_;intro b)|refine gn ?_|(refine RT.isPush ?_;refine gp ?_;intro a' c' b' c1' hac)|refine gc ?_|fail)
  exact AtQ.f1 Tryz.results162 rfl rfl (fun _ h => h)
 refine Sp.body Tryz.func148 rfl Tryz.ntmps148 (by simp) ?_
 simp only [argE, List.cons_append, List.nil_append, Nat.zero_add, Nat.reduceAdd]
 repeat' (first|(refine gv ?_;first|refine RT.id ?_|(refine⟨fun hc=>?_,fun hc=>?_⟩<;>first|(exfalso;omega)|skip)|refine gk ?_|refine num_m fun r hr=>?_|intro r hr)|refine gs ?_|(refine gb ?_;intro b)|refine gn ?_|(refine RT.isPush ?_;refine gp ?_;intro a' c' b' c1' hac)|refine gc ?_|fail)
 (refine RT.call T rfl fR_ (hsx _) rfl rfl rfl ?_; rintro _ _ ⟨rfl, rfl⟩; try simp only [List.cons_append, List.nil_append])
 have hm := idx_mem hb (c := 64) (by decide)
 rw [show (64 : Int).toNat.toUInt8 = 64 from rfl] at hm
 generalize Lib.indexByte (str l).data.toList 64 = q at *
 repeat' (first|(refine gv ?_;first|refine RT.id ?_|(refine⟨fun hc=>?_,fun hc=>?_⟩<;>first|(exfalso;omega)|skip)|refine gk ?_|refine num_m fun r hr=>?_|intro r hr)|refine gs ?_|(refine gb ?_;intro b)|refine gn ?_|(refine RT.isPush ?_;refine gp ?_;intro a' c' b' c1' hac)|refine gc ?_|fail)
 all_goals (refine AtQ.f1 Tryz.results148 rfl ?_ (fun _ h => h); rw [← hm]; congr 1; symm; first | (refine decide_eq_true ?_; omega) | (refine decide_eq_false ?_; omega))
theorem json_fn {f : FieldT} (hb : Byt f.js) (hn : Byt f.nm) (hl : f.nm.length ≤ 16777216) : Sp B Tryz.prog 149 [.agg f.cells.toArray] R [] (fun v H' => v = vS (jsonL f) ∧ H' = []) := by
 refine Sp.body Tryz.func149 rfl Tryz.ntmps149 (by simp) ?_
 simp only [argE, List.cons_append, List.nil_append, Nat.zero_add, Nat.reduceAdd]
 repeat' (first|(refine gv ?_;first|refine RT.id ?_|(refine⟨fun hc=>?_,fun hc=>?_⟩<;>first|(exfalso;omega)|skip)|refine gk ?_|refine num_m fun r hr=>?_|intro r hr)|refine gs ?_|(refine gb ?_;intro b)|refine gn ?_|(refine RT.isPush ?_;refine gp ?_;intro a' c' b' c1' hac)|refine gc ?_|fail)
 refine RT.nes (l := f.js) (l' := []) rfl rfl hb Byt.nil rfl rfl (fun he => ?_) (fun he => ?_)
 ·repeat' (first|(refine gv ?_;first|refine RT.id ?_|(refine⟨fun hc=>?_,fun hc=>?_⟩<;>first|(exfalso;omega)|skip)|refine gk ?_|refine num_m fun r hr=>?_|intro r hr)|refine gs ?_|(refine gb ?_;intro b)|refine gn ?_|(refine RT.isPush ?_;refine gp ?_;intro a' c' b' c1' hac)|refine gc ?_|fail)
  (refine RT.call T rfl fR_ (camel_fn (l := f.nm) hn (by omega)) rfl rfl rfl ?_; rintro _ _ ⟨rfl, rfl⟩; try simp only [List.cons_append, List.nil_append])
  repeat' (first|(refine gv ?_;first|refine RT.id ?_|(refine⟨fun hc=>?_,fun hc=>?_⟩<;>first|(exfalso;omega)|skip)|refine gk ?_|refine num_m fun r hr=>?_|intro r hr)|refine gs ?_|(refine gb ?_;intro b)|refine gn ?_|(refine RT.isPush ?_;refine gp ?_;intro a' c' b' c1' hac)|refine gc ?_|fail)
  exact AtQ.f1 Tryz.results149 rfl (by unfold jsonL; rw [if_pos he]) (fun _ h => h.tail)
 ·repeat' (first|(refine gv ?_;first|refine RT.id ?_|(refine⟨fun hc=>?_,fun hc=>?_⟩<;>first|(exfalso;omega)|skip)|refine gk ?_|refine num_m fun r hr=>?_|intro r hr)|refine gs ?_|(refine gb ?_;intro b)|refine gn ?_|(refine RT.isPush ?_;refine gp ?_;intro a' c' b' c1' hac)|refine gc ?_|fail)
  exact AtQ.f1 Tryz.results149 rfl (by unfold jsonL; rw [if_neg he]) (fun _ h => h.tail)
/-! ### references -/
theorem hasp_fn {l sep : List Int} (hsep : sep = [46]) (hb : Byt l) (hl : l.length ≤ 140737488355328) : Sp B Tryz.prog 181 [vS l, vS sep] R [] (fun v H' => v = .bool (decide (l.getD 0 0 = 46)) ∧ H' = []) := by
 refine Sp.body Tryz.func181 rfl Tryz.ntmps181 (by simp) ?_
 simp only [argE, List.cons_append, List.nil_append, Nat.zero_add, Nat.reduceAdd]
 have hsl : sep.length = 1 := by rw [hsep]; rfl
 have hsb : Byt sep := by rw [hsep]; exact Byt.one (by unfold isB; decide)
 repeat' (first|(refine gv ?_;first|refine RT.id ?_|(refine⟨fun hc=>?_,fun hc=>?_⟩<;>first|(exfalso;omega)|skip)|refine gk ?_|refine num_m fun r hr=>?_|intro r hr)|refine gs ?_|(refine gb ?_;intro b)|refine gn ?_|(refine RT.isPush ?_;refine gp ?_;intro a' c' b' c1' hac)|refine gc ?_|fail)
 ·refine RT.slsH T (j := 1) rfl rfl (by omega) (by omega) rfl rfl rfl ?_
  repeat' (first|(refine gv ?_;first|refine RT.id ?_|(refine⟨fun hc=>?_,fun hc=>?_⟩<;>first|(exfalso;omega)|skip)|refine gk ?_|refine num_m fun r hr=>?_|intro r hr)|refine gs ?_|(refine gb ?_;intro b)|refine gn ?_|(refine RT.isPush ?_;refine gp ?_;intro a' c' b' c1' hac)|refine gc ?_|fail)
  cases l with
  | nil => exfalso; simp only [List.length_nil] at *; omega
  | cons x m =>
   refine RT.eqs (l := [x]) (l' := sep) rfl rfl (hb.take 1) hsb rfl rfl (fun h => ?_) (fun h => ?_)
   ·repeat' (first|(refine gv ?_;first|refine RT.id ?_|(refine⟨fun hc=>?_,fun hc=>?_⟩<;>first|(exfalso;omega)|skip)|refine gk ?_|refine num_m fun r hr=>?_|intro r hr)|refine gs ?_|(refine gb ?_;intro b)|refine gn ?_|(refine RT.isPush ?_;refine gp ?_;intro a' c' b' c1' hac)|refine gc ?_|fail)
    exact AtQ.f1 Tryz.results181 rfl (by rw [hsep] at h; simp at h; subst h; rfl) (fun _ h => h)
   ·repeat' (first|(refine gv ?_;first|refine RT.id ?_|(refine⟨fun hc=>?_,fun hc=>?_⟩<;>first|(exfalso;omega)|skip)|refine gk ?_|refine num_m fun r hr=>?_|intro r hr)|refine gs ?_|(refine gb ?_;intro b)|refine gn ?_|(refine RT.isPush ?_;refine gp ?_;intro a' c' b' c1' hac)|refine gc ?_|fail)
    exact AtQ.f1 Tryz.results181 rfl (by rw [hsep] at h; simp at h; congr 1; symm; simpa using h) (fun _ h => h)
 ·have : l = [] := List.eq_nil_of_length_eq_zero (by omega)
  subst this
  exact AtQ.f1 Tryz.results181 rfl rfl (fun _ h => h)
theorem cutp_fn {l sep : List Int} (hsep : sep = [46]) (hb : Byt l) (hl : l.length ≤ 140737488355328) : Sp B Tryz.prog 173 [vS l, vS sep] R [] (fun v H' => v = .tuple #[vS (if l.getD 0 0 = 46 then l.drop 1 else l), .bool (decide (l.getD 0 0 = 46))] ∧ H' = []) := by
 refine Sp.body Tryz.func173 rfl Tryz.ntmps173 (by simp) ?_
 simp only [argE, List.cons_append, List.nil_append, Nat.zero_add, Nat.reduceAdd]
 have hsl : sep.length = 1 := by rw [hsep]; rfl
 repeat' (first|(refine gv ?_;first|refine RT.id ?_|(refine⟨fun hc=>?_,fun hc=>?_⟩<;>first|(exfalso;omega)|skip)|refine gk ?_|refine num_m fun r hr=>?_|intro r hr)|refine gs ?_|(refine gb ?_;intro b)|refine gn ?_|(refine RT.isPush ?_;refine gp ?_;intro a' c' b' c1' hac)|refine gc ?_|fail)
 (refine RT.call T rfl fR_ (hasp_fn hsep hb hl) rfl rfl rfl ?_; rintro _ _ ⟨rfl, rfl⟩; try simp only [List.cons_append, List.nil_append])
 by_cases h : l.getD 0 0 = 46
 ·rw [decide_eq_true h]
  have h0 : 1 ≤ l.length := by
   cases l with
   | nil => simp at h
   | cons x m => simp
  repeat' (first|(refine gv ?_;first|refine RT.id ?_|(refine⟨fun hc=>?_,fun hc=>?_⟩<;>first|(exfalso;omega)|skip)|refine gk ?_|refine num_m fun r hr=>?_|intro r hr)|refine gs ?_|(refine gb ?_;intro b)|refine gn ?_|(refine RT.isPush ?_;refine gp ?_;intro a' c' b' c1' hac)|refine gc ?_|fail)
  refine RT.slsL T (j := 1) rfl rfl (by omega) (by omega) rfl rfl rfl ?_
  repeat' (first|(refine gv ?_;first|refine RT.id ?_|(refine⟨fun hc=>?_,fun hc=>?_⟩<;>first|(exfalso;omega)|skip)|refine gk ?_|refine num_m fun r hr=>?_|intro r hr)|refine gs ?_|(refine gb ?_;intro b)|refine gn ?_|(refine RT.isPush ?_;refine gp ?_;intro a' c' b' c1' hac)|refine gc ?_|fail)
  exact AtQ.f2 Tryz.results173 rfl rfl (by rw [if_pos h]) rfl (fun _ h => h)
 ·rw [decide_eq_false h]
  repeat' (first|(refine gv ?_;first|refine RT.id ?_|(refine⟨fun hc=>?_,fun hc=>?_⟩<;>first|(exfalso;omega)|skip)|refine gk ?_|refine num_m fun r hr=>?_|intro r hr)|refine gs ?_|(refine gb ?_;intro b)|refine gn ?_|(refine RT.isPush ?_;refine gp ?_;intro a' c' b' c1' hac)|refine gc ?_|fail)
  exact AtQ.f2 Tryz.results173 rfl rfl (by rw [if_neg h]) rfl (fun _ h => h)
theorem cutprefix_fn {l : List Int} (hb : Byt l) (hl : l.length ≤ 140737488355328) : Sp B Tryz.prog 163 [vS l, vS [46]] R [] (fun v H' => v = .tuple #[vS (if l.getD 0 0 = 46 then l.drop 1 else l), .bool (decide (l.getD 0 0 = 46))] ∧ H' = []) := by
 refine Sp.body Tryz.func163 rfl Tryz.ntmps163 (by simp) ?_
 simp only [argE, List.cons_append, List.nil_append, Nat.zero_add, Nat.reduceAdd]
 repeat' (first|(refine gv ?_;first|refine RT.id ?_|(refine⟨fun hc=>?_,fun hc=>?_⟩<;>first|(exfalso;omega)|skip)|refine gk ?_|refine num_m fun r hr=>?_|intro r hr)|refine gs ?_|(refine gb ?_;intro b)|refine gn ?_|(refine RT.isPush ?_;refine gp ?_;intro a' c' b' c1' hac)|refine gc ?_|fail)
 (refine RT.call T rfl fR_ (cutp_fn (sep := [46]) rfl hb hl) rfl rfl rfl ?_; rintro _ _ ⟨rfl, rfl⟩; try simp only [List.cons_append, List.nil_append])
 repeat' (first|(refine gv ?_;first|refine RT.id ?_|(refine⟨fun hc=>?_,fun hc=>?_⟩<;>first|(exfalso;omega)|skip)|refine gk ?_|refine num_m fun r hr=>?_|intro r hr)|refine gs ?_|(refine gb ?_;intro b)|refine gn ?_|(refine RT.isPush ?_;refine gp ?_;intro a' c' b' c1' hac)|refine gc ?_|fail)
 exact AtQ.f2 Tryz.results163 rfl rfl rfl rfl (fun _ h => h)
theorem ref_fn {l : List Int} {m : Int} (hM : B.cell? ⟨0, 0, none⟩ = some (.int .i64 m)) (hb : Byt l) (hl : l.length ≤ 16777216) : Sp B Tryz.prog 144 [vS l] R [] (fun v H' => v = .bool (refB l) ∧ H' = []) := by
 refine Sp.body Tryz.func144 rfl Tryz.ntmps144 (by simp) ?_
 simp only [argE, List.cons_append, List.nil_append, Nat.zero_add, Nat.reduceAdd]
 repeat' (first|(refine gv ?_;first|refine RT.id ?_|(refine⟨fun hc=>?_,fun hc=>?_⟩<;>first|(exfalso;omega)|skip)|refine gk ?_|refine num_m fun r hr=>?_|intro r hr)|refine gs ?_|(refine gb ?_;intro b)|refine gn ?_|(refine RT.isPush ?_;refine gp ?_;intro a' c' b' c1' hac)|refine gc ?_|fail)
 (refine RT.call T rfl fR_ (cutprefix_fn hb (by omega)) rfl rfl rfl ?_; rintro _ _ ⟨rfl, rfl⟩; try simp only [List.cons_append, List.nil_append])
 by_cases h : l.getD 0 0 = 46
 ·rw [decide_eq_true h, if_pos h]
  have hd : (l.drop 1).length ≤ l.length := by rw [List.length_drop]; omega
  repeat' (first|(refine gv ?_;first|refine RT.id ?_|(refine⟨fun hc=>?_,fun hc=>?_⟩<;>first|(exfalso;omega)|skip)|refine gk ?_|refine num_m fun r hr=>?_|intro r hr)|refine gs ?_|(refine gb ?_;intro b)|refine gn ?_|(refine RT.isPush ?_;refine gp ?_;intro a' c' b' c1' hac)|refine gc ?_|fail)
  (refine RT.call T rfl fR_ (full_fn hM (hb.drop 1) (by omega)) rfl rfl rfl ?_; rintro _ _ ⟨rfl, rfl⟩; try simp only [List.cons_append, List.nil_append])
  cases hf : fullB (l.drop 1)
  ·repeat' (first|(refine gv ?_;first|refine RT.id ?_|(refine⟨fun hc=>?_,fun hc=>?_⟩<;>first|(exfalso;omega)|skip)|refine gk ?_|refine num_m fun r hr=>?_|intro r hr)|refine gs ?_|(refine gb ?_;intro b)|refine gn ?_|(refine RT.isPush ?_;refine gp ?_;intro a' c' b' c1' hac)|refine gc ?_|fail)
   exact AtQ.f1 Tryz.results144 rfl (by unfold refB; rw [if_pos h, hf]; rfl) (fun _ h => h)
  ·repeat' (first|(refine gv ?_;first|refine RT.id ?_|(refine⟨fun hc=>?_,fun hc=>?_⟩<;>first|(exfalso;omega)|skip)|refine gk ?_|refine num_m fun r hr=>?_|intro r hr)|refine gs ?_|(refine gb ?_;intro b)|refine gn ?_|(refine RT.isPush ?_;refine gp ?_;intro a' c' b' c1' hac)|refine gc ?_|fail)
   all_goals (refine AtQ.f1 Tryz.results144 rfl ?_ (fun _ h => h); unfold refB; rw [if_pos h, hf, Bool.true_and]; congr 1; symm; first | (refine decide_eq_true ?_; omega) | (refine decide_eq_false ?_; omega))
 ·rw [decide_eq_false h, if_neg h]
  repeat' (first|(refine gv ?_;first|refine RT.id ?_|(refine⟨fun hc=>?_,fun hc=>?_⟩<;>first|(exfalso;omega)|skip)|refine gk ?_|refine num_m fun r hr=>?_|intro r hr)|refine gs ?_|(refine gb ?_;intro b)|refine gn ?_|(refine RT.isPush ?_;refine gp ?_;intro a' c' b' c1' hac)|refine gc ?_|fail)
  (refine RT.call T rfl fR_ (full_fn hM hb (by omega)) rfl rfl rfl ?_; rintro _ _ ⟨rfl, rfl⟩; try simp only [List.cons_append, List.nil_append])
  repeat' (first|(refine gv ?_;first|refine RT.id ?_|(refine⟨fun hc=>?_,fun hc=>?_⟩<;>first|(exfalso;omega)|skip)|refine gk ?_|refine num_m fun r hr=>?_|intro r hr)|refine gs ?_|(refine gb ?_;intro b)|refine gn ?_|(refine RT.isPush ?_;refine gp ?_;intro a' c' b' c1' hac)|refine gc ?_|fail)
  exact AtQ.f1 Tryz.results144 rfl (by unfold refB; rw [if_neg h]) (fun _ h => h)
end Go.Proofs.YtdemnhdoadjhhaaGreatDoor
end
section
namespace Go.Proofs.YtdemnhdoadjhhaaGreatDoor
open Go.Sk
set_option maxRecDepth 100000
attribute [local irreducible] Cs Own Ex Pu Yld RT LJ QJ AtQ CT Rd QSp Sp FinQ Then LoopQ CutQ DT TakeQ EffQ
variable {B : World} {R : List HP}
theorem map_get {l : List Txt} {j : Nat} (h : j < l.length) : (l.map vS)[j]? = some (vS l[j]) := by rw [List.getElem?_map, List.getElem?_eq_getElem h]; rfl
/-- What a weight says of a row of k. -/
def Wt (k : Nat) (n w : Int) : Prop := n ≤ w ∧ w ≤ max n 4503599627370496 ∧ (w ≤ 16777216 → n + 8 * k ≤ w)
/-- Short texts. -/
def SmT (l : List Txt) : Prop := ∀ t ∈ l, t.length ≤ 16777216
theorem sm_take {α : Type} {P : α → Prop} {l : List α} {i : Nat} {x : α} (hx : l[i]? = some x) (h : ∀ y ∈ l.take i, P y) (h2 : P x) : ∀ y ∈ l.take (i + 1), P y := fun y hy => by
 rw [List.take_add_one, hx, List.mem_append] at hy
 rcases hy with hy | hy
 ·exact h y hy
 ·simp only [Option.toList_some, List.mem_singleton] at hy
  subst hy
  exact h2
set_option maxHeartbeats 4000000 in
theorem tweight_fn {r : Rw Txt} {n : Int} (hR : Rd B R r.a r.l.length r.c 1 (r.l.map vS)) (hk : r.l.length ≤ 140737488355328) (hok : ∀ t ∈ r.l, OkT t) (h0 : 0 ≤ n) (h1 : n ≤ 4503599627370496) :
  Sp B Tryz.prog 87 [r.v, .int .i64 n] R [] (fun v H' => (∃ w, v = .int .i64 w ∧ Wt r.l.length n w ∧ (w ≤ 16777216 → SmT r.l)) ∧ H' = []) := by
 obtain ⟨a, c, l⟩ := r
 simp only [Rw.v] at *
 refine Sp.body Tryz.func87 rfl Tryz.ntmps87 (by simp) ?_
 simp only [argE, List.cons_append, List.nil_append, Nat.zero_add, Nat.reduceAdd]
 repeat' (first|(refine gv ?_;first|refine RT.id ?_|(refine⟨fun hc=>?_,fun hc=>?_⟩<;>first|(exfalso;omega)|skip)|refine gk ?_|refine num_m fun r hr=>?_|intro r hr)|refine gs ?_|(refine gb ?_;intro b)|refine gn ?_|(refine RT.isPush ?_;refine gp ?_;intro a' c' b' c1' hac)|refine gc ?_|fail)
 refine CT.loop (α := Nat × Int) (fun s => [(0, .slice a l.length c), (1, .int .i64 s.2), (5, .int .i64 s.1)]) (fun s => Pu (s.1 ≤ l.length ∧ n + 8 * s.1 ≤ s.2 ∧ s.2 ≤ max n 4503599627370496 ∧ (s.2 ≤ 16777216 → SmT (l.take s.1))) :: R) (fun s => l.length - s.1) (0, n)
  ⟨rfl, rfl, rfl, trivial⟩ (fun w h => Sat.pu_in ⟨Nat.zero_le _, by dsimp only; omega, by dsimp only; omega, fun _ e he => by simp at he⟩ h) (fun ⟨i, q⟩ => CT.pu fun ⟨hi, hq1, hq2, hq3⟩ => ?_)
 dsimp only at hi hq1 hq2 hq3 ⊢
 repeat' (first|(refine gv ?_;first|refine RT.id ?_|(refine⟨fun hc=>?_,fun hc=>?_⟩<;>first|(exfalso;omega)|skip)|refine gk ?_|refine num_m fun r hr=>?_|intro r hr)|refine gs ?_|(refine gb ?_;intro b)|refine gn ?_|(refine RT.isPush ?_;refine gp ?_;intro a' c' b' c1' hac)|refine gc ?_|fail)
 ·have hil : i < l.length := by omega
  have hto := (hok l[i] (List.getElem_mem hil)).2
  refine RT.ix T (j := i) rfl rfl rfl (by exact hR) (by omega) (by omega) (by omega) rfl rfl ?_
  refine RT.ldr T rfl (by exact hR) (map_get hil) rfl rfl rfl ?_
  repeat' (first|(refine gv ?_;first|refine RT.id ?_|(refine⟨fun hc=>?_,fun hc=>?_⟩<;>first|(exfalso;omega)|skip)|refine gk ?_|refine num_m fun r hr=>?_|intro r hr)|refine gs ?_|(refine gb ?_;intro b)|refine gn ?_|(refine RT.isPush ?_;refine gp ?_;intro a' c' b' c1' hac)|refine gc ?_|fail)
  exact AtQ.loop (i + 1, q + 8 + (l[i].length : Int)) ⟨rfl, rfl, rfl, trivial⟩ (fun w h => Sat.pu_in ⟨by omega, by dsimp only; omega, by dsimp only; omega, fun hw => by dsimp only at hw; exact sm_take (List.getElem?_eq_getElem hil) (hq3 (by omega)) (by omega)⟩ h) (by dsimp only; omega)
 ·exact AtQ.fin1 Tryz.results87 rfl ⟨⟨q, rfl, by unfold Wt; omega, fun h => by omega⟩, rfl⟩ (fun w h => h)
 ·exact AtQ.fin1 Tryz.results87 rfl ⟨⟨q, rfl, by unfold Wt; omega, fun h e he => hq3 h e (by rw [List.take_of_length_le (by omega)]; exact he)⟩, rfl⟩ (fun w h => h)
end Go.Proofs.YtdemnhdoadjhhaaGreatDoor
end
section
namespace Go.Proofs.YtdemnhdoadjhhaaGreatDoor
open Go.Sk
set_option maxRecDepth 100000
attribute [local irreducible] Cs Own Ex Pu Yld RT LJ QJ AtQ CT Rd QSp Sp FinQ Then LoopQ CutQ DT TakeQ EffQ
variable {B : World} {R : List HP}
def ESm (e : EnumT) : Prop := e.vals.l.length ≤ 2097152 ∧ e.res.l.length ≤ 2097152 ∧ e.names.l.length ≤ 2097152
/-- Its names are short. -/
def ENm (e : EnumT) : Prop := e.nm.length ≤ 16777216 ∧ (∀ v ∈ e.vals.l, v.nm.length ≤ 16777216) ∧ SmT e.names.l
/-- How many symbols it has. -/
def cntE (e : EnumT) : Nat := 1 + e.vals.l.length
theorem cb_take {α : Type} {f : α → Nat} {l : List α} {i : Nat} {x : α} {n q w : Int} (hx : l[i]? = some x) (h : n + ((l.take i).map f).sum ≤ q) (h2 : q + f x ≤ w) : n + ((l.take (i + 1)).map f).sum ≤ w := by
 rw [List.take_add_one, hx, List.map_append, List.sum_append]
 simp only [Option.toList_some, List.map_cons, List.map_nil, List.sum_cons, List.sum_nil]
 omega
set_option maxHeartbeats 8000000 in
theorem eweight_fn {r : Rw EnumT} {ah n : Int} (hR : Rd B R r.a r.l.length r.c 5 (r.l.flatMap EnumT.cells)) (hk : r.l.length ≤ 140737488355328) (hin : ∀ e ∈ r.l, e.In (Rd B R)) (hok : ∀ e ∈ r.l, e.Ok) (h0 : 0 ≤ n) (h1 : n ≤ 4503599627370496) (a0 : 0 ≤ ah) (a1 : n ≤ 16777216 → ah ≤ 281474976710656) :
  Sp B Tryz.prog 32 [r.v, .int .i64 ah, .int .i64 n] R [] (fun v H' => (∃ w, v = .int .i64 w ∧ Wt r.l.length n w ∧ (w ≤ 16777216 → (∀ e ∈ r.l, ESm e ∧ ENm e) ∧ n + (r.l.map cntE).sum ≤ w)) ∧ H' = []) := by
 obtain ⟨a, c, l⟩ := r
 simp only [Rw.v] at *
 refine Sp.body Tryz.func32 rfl Tryz.ntmps32 (by simp) ?_
 simp only [argE, List.cons_append, List.nil_append, Nat.zero_add, Nat.reduceAdd]
 repeat' (first|(refine gv ?_;first|refine RT.id ?_|(refine⟨fun hc=>?_,fun hc=>?_⟩<;>first|(exfalso;omega)|skip)|refine gk ?_|refine num_m fun r hr=>?_|intro r hr)|refine gs ?_|(refine gb ?_;intro b)|refine gn ?_|(refine RT.isPush ?_;refine gp ?_;intro a' c' b' c1' hac)|refine gc ?_|fail)
 refine CT.loop (α := Nat × Int) (fun s => [(0, .slice a l.length c), (1, .int .i64 ah), (2, .int .i64 s.2), (7, .int .i64 s.1)]) (fun s => Pu (s.1 ≤ l.length ∧ n + 8 * s.1 ≤ s.2 ∧ s.2 ≤ max n 4503599627370496 ∧ (s.2 ≤ 16777216 → (∀ e ∈ l.take s.1, ESm e ∧ ENm e) ∧ n + ((l.take s.1).map cntE).sum ≤ s.2)) :: R) (fun s => l.length - s.1) (0, n)
  ⟨rfl, rfl, rfl, rfl, trivial⟩ (fun w h => Sat.pu_in ⟨Nat.zero_le _, by dsimp only; omega, by dsimp only; omega, fun _ => ⟨fun e he => by simp at he, by simp⟩⟩ h) (fun ⟨i, q⟩ => CT.pu fun ⟨hi, hq1, hq2, hq3⟩ => ?_)
 dsimp only at hi hq1 hq2 hq3 ⊢
 repeat' (first|(refine gv ?_;first|refine RT.id ?_|(refine⟨fun hc=>?_,fun hc=>?_⟩<;>first|(exfalso;omega)|skip)|refine gk ?_|refine num_m fun r hr=>?_|intro r hr)|refine gs ?_|(refine gb ?_;intro b)|refine gn ?_|(refine RT.isPush ?_;refine gp ?_;intro a' c' b' c1' hac)|refine gc ?_|fail)
 ·have hil : i < l.length := by omega
  have hgi := List.getElem?_eq_getElem hil
  revert hgi
  generalize l[i] = e
  intro hgi
  have hme := List.mem_of_getElem? hgi
  obtain ⟨en1, ⟨en2, _⟩, en3, ⟨en4, _⟩, en5, ⟨en6, _⟩, en7⟩ := hok e hme
  obtain ⟨ei1, ei2, ei3⟩ := hin e hme
  have ah1 := a1 (by omega)
  have en1 := en1.2
  have h5 := hq3 (by omega)
  refine RT.ix T (j := i * 5) rfl rfl rfl (by exact hR) (by omega) (by omega) (by omega) rfl rfl ?_
  refine RT.faA T rfl rfl rfl rfl ?_
  refine RT.ldr (u := vS e.nm) T rfl (by exact hR) (by rw [flat_get (f := EnumT.cells) (z := 5) (fun _ => rfl) hgi (by decide)]; rfl) rfl rfl rfl ?_
  repeat' (first|(refine gv ?_;first|refine RT.id ?_|(refine⟨fun hc=>?_,fun hc=>?_⟩<;>first|(exfalso;omega)|skip)|refine gk ?_|refine num_m fun r hr=>?_|intro r hr)|refine gs ?_|(refine gb ?_;intro b)|refine gn ?_|(refine RT.isPush ?_;refine gp ?_;intro a' c' b' c1' hac)|refine gc ?_|fail)
  refine RT.ix T (j := i * 5) rfl rfl rfl (by exact hR) (by omega) (by omega) (by omega) rfl rfl ?_
  refine RT.faA T rfl rfl rfl rfl ?_
  refine RT.ldr (u := e.res.v) T rfl (by exact hR) (by rw [flat_get (f := EnumT.cells) (z := 5) (fun _ => rfl) hgi (by decide)]; rfl) rfl rfl rfl ?_
  repeat' (first|(refine gv ?_;first|refine RT.id ?_|(refine⟨fun hc=>?_,fun hc=>?_⟩<;>first|(exfalso;omega)|skip)|refine gk ?_|refine num_m fun r hr=>?_|intro r hr)|refine gs ?_|(refine gb ?_;intro b)|refine gn ?_|(refine RT.isPush ?_;refine gp ?_;intro a' c' b' c1' hac)|refine gc ?_|fail)
  obtain ⟨q0, hq0⟩ : ∃ q0, q0 = q + 80 + ah + (e.nm.length : Int) + 8 * (e.res.l.length : Int) := ⟨_, rfl⟩
  rw [← hq0]
  refine CT.loop (α := Nat × Int) (fun s => [(0, .slice a l.length c), (1, .int .i64 ah), (2, .int .i64 s.2), (7, .int .i64 i), (8, .int .i64 s.1)]) (fun s => Pu (s.1 ≤ e.vals.l.length ∧ q0 + 8 * s.1 ≤ s.2 ∧ s.2 ≤ 4503599627370496 ∧ (s.2 ≤ 16777216 → ∀ v ∈ e.vals.l.take s.1, v.nm.length ≤ 16777216)) :: R) (fun s => e.vals.l.length - s.1) (0, q0)
   ⟨rfl, rfl, rfl, rfl, rfl, trivial⟩ (fun w h => Sat.pu_in ⟨Nat.zero_le _, by dsimp only; omega, by dsimp only; omega, fun _ e he => by simp at he⟩ h) (fun ⟨k, p⟩ => CT.pu fun ⟨hk1, hp1, hp2, hp3⟩ => ?_)
  dsimp only at hk1 hp1 hp2 hp3 ⊢
  repeat' (first|(refine gv ?_;first|refine RT.id ?_|(refine⟨fun hc=>?_,fun hc=>?_⟩<;>first|(exfalso;omega)|skip)|refine gk ?_|refine num_m fun r hr=>?_|intro r hr)|refine gs ?_|(refine gb ?_;intro b)|refine gn ?_|(refine RT.isPush ?_;refine gp ?_;intro a' c' b' c1' hac)|refine gc ?_|fail)
  refine RT.ix T (j := i * 5) rfl rfl rfl (by exact hR) (by omega) (by omega) (by omega) rfl rfl ?_
  refine RT.faA T rfl rfl rfl rfl ?_
  refine RT.ldr (u := e.vals.v) T rfl (by exact hR) (by rw [flat_get (f := EnumT.cells) (z := 5) (fun _ => rfl) hgi (by decide)]; rfl) rfl rfl rfl ?_
  repeat' (first|(refine gv ?_;first|refine RT.id ?_|(refine⟨fun hc=>?_,fun hc=>?_⟩<;>first|(exfalso;omega)|skip)|refine gk ?_|refine num_m fun r hr=>?_|intro r hr)|refine gs ?_|(refine gb ?_;intro b)|refine gn ?_|(refine RT.isPush ?_;refine gp ?_;intro a' c' b' c1' hac)|refine gc ?_|fail)
  ·have hkl : k < e.vals.l.length := by omega
   have hgk := List.getElem?_eq_getElem hkl
   revert hgk
   generalize e.vals.l[k] = ev
   intro hgk
   have hv := (en3 ev (List.mem_of_getElem? hgk)).1.2
   refine RT.ix T (j := i * 5) rfl rfl rfl (by exact hR) (by omega) (by omega) (by omega) rfl rfl ?_
   refine RT.faA T rfl rfl rfl rfl ?_
   refine RT.ldr (u := e.vals.v) T rfl (by exact hR) (by rw [flat_get (f := EnumT.cells) (z := 5) (fun _ => rfl) hgi (by decide)]; rfl) rfl rfl rfl ?_
   repeat' (first|(refine gv ?_;first|refine RT.id ?_|(refine⟨fun hc=>?_,fun hc=>?_⟩<;>first|(exfalso;omega)|skip)|refine gk ?_|refine num_m fun r hr=>?_|intro r hr)|refine gs ?_|(refine gb ?_;intro b)|refine gn ?_|(refine RT.isPush ?_;refine gp ?_;intro a' c' b' c1' hac)|refine gc ?_|fail)
   refine RT.ix T (j := k * 2) rfl rfl rfl (by exact ei1) (by omega) (by omega) (by omega) rfl rfl ?_
   refine RT.faA T rfl rfl rfl rfl ?_
   refine RT.ldr (u := vS ev.nm) T rfl (by exact ei1) (by rw [flat_get (f := EValT.cells) (z := 2) (fun _ => rfl) hgk (by decide)]; rfl) rfl rfl rfl ?_
   repeat' (first|(refine gv ?_;first|refine RT.id ?_|(refine⟨fun hc=>?_,fun hc=>?_⟩<;>first|(exfalso;omega)|skip)|refine gk ?_|refine num_m fun r hr=>?_|intro r hr)|refine gs ?_|(refine gb ?_;intro b)|refine gn ?_|(refine RT.isPush ?_;refine gp ?_;intro a' c' b' c1' hac)|refine gc ?_|fail)
   exact AtQ.loop (k + 1, p + 80 + ah + (ev.nm.length : Int)) ⟨rfl, rfl, rfl, rfl, rfl, trivial⟩ (fun w h => Sat.pu_in ⟨by omega, by dsimp only; omega, by dsimp only; omega, fun hw => by dsimp only at hw; exact sm_take hgk (hp3 (by omega)) (by omega)⟩ h) (by dsimp only; omega)
  all_goals
   have hend : p ≤ 16777216 → k = e.vals.l.length := fun h => by omega
   refine RT.ix T (j := i * 5) rfl rfl rfl (by exact hR) (by omega) (by omega) (by omega) rfl rfl ?_
   refine RT.faA T rfl rfl rfl rfl ?_
   refine RT.ldr (u := e.names.v) T rfl (by exact hR) (by rw [flat_get (f := EnumT.cells) (z := 5) (fun _ => rfl) hgi (by decide)]; rfl) rfl rfl rfl ?_
   repeat' (first|(refine gv ?_;first|refine RT.id ?_|(refine⟨fun hc=>?_,fun hc=>?_⟩<;>first|(exfalso;omega)|skip)|refine gk ?_|refine num_m fun r hr=>?_|intro r hr)|refine gs ?_|(refine gb ?_;intro b)|refine gn ?_|(refine RT.isPush ?_;refine gp ?_;intro a' c' b' c1' hac)|refine gc ?_|fail)
   refine RT.call T rfl (by (repeat (first|exact Fr.nil|(apply Fr.cons;focus ((repeat constructor);done))))) (tweight_fn (r := e.names) (n := p) ei3 en6 en7 (by omega) (by omega)) rfl rfl rfl ?_
   rintro _ _ ⟨⟨w, rfl, ⟨hw1, hw2, hw3⟩, hw4⟩, rfl⟩
   try simp only [List.cons_append, List.nil_append]
   repeat' (first|(refine gv ?_;first|refine RT.id ?_|(refine⟨fun hc=>?_,fun hc=>?_⟩<;>first|(exfalso;omega)|skip)|refine gk ?_|refine num_m fun r hr=>?_|intro r hr)|refine gs ?_|(refine gb ?_;intro b)|refine gn ?_|(refine RT.isPush ?_;refine gp ?_;intro a' c' b' c1' hac)|refine gc ?_|fail)
   exact AtQ.loop (i + 1, w) ⟨rfl, rfl, rfl, rfl, trivial⟩ (fun _ h => Sat.pu_in ⟨by omega, by dsimp only; omega, by dsimp only; omega, fun hw => by
    dsimp only at hw ⊢
    have hke := hend (by omega)
    have hw5 := hw3 hw
    have hp5 := hp3 (by omega)
    rw [List.take_of_length_le (by omega)] at hp5
    exact ⟨sm_take hgi h5.1 ⟨by unfold ESm; omega, by omega, hp5, hw4 hw⟩, cb_take hgi h5.2 (by unfold cntE; omega)⟩⟩ h) (by dsimp only; omega)
 ·exact AtQ.fin1 Tryz.results32 rfl ⟨⟨q, rfl, by unfold Wt; omega, fun h => by omega⟩, rfl⟩ (fun w h => h)
 ·exact AtQ.fin1 Tryz.results32 rfl ⟨⟨q, rfl, by unfold Wt; omega, fun h => by have h6 := hq3 h; rw [List.take_of_length_le (by omega)] at h6; exact h6⟩, rfl⟩ (fun w h => h)
end Go.Proofs.YtdemnhdoadjhhaaGreatDoor
end
section
namespace Go.Sk
open Go.Proofs.YtdemnhdoadjhhaaGreatDoor
/-- Short names. -/
def FNm (f : FieldT) : Prop := f.nm.length ≤ 16777216 ∧ f.ty.length ≤ 16777216 ∧ f.js.length ≤ 16777216
mutual
/-- Its rows are short, and those of all that it holds. -/
def MsgT.Sm : MsgT → Prop
 | .mk _ fields oneofs _ _ msgs enums res names => fields.l.length ≤ 2097152 ∧ oneofs.l.length ≤ 2097152 ∧ res.l.length ≤ 2097152 ∧ names.l.length ≤ 2097152 ∧ enums.l.length ≤ 2097152 ∧ (∀ e ∈ enums.l, ESm e) ∧ msgs.length ≤ 2097152 ∧ MsgT.SmL msgs
def MsgT.SmL : List MsgT → Prop
 | [] => True
 | m :: l => MsgT.Sm m ∧ MsgT.SmL l
end
mutual
/-- Its names are short, and those of all that it holds. -/
def MsgT.Nm : MsgT → Prop
 | .mk nm fields oneofs _ _ msgs enums res names => nm.length ≤ 16777216 ∧ (∀ f ∈ fields.l, FNm f) ∧ SmT oneofs.l ∧ SmT names.l ∧ (∀ e ∈ enums.l, ENm e) ∧ MsgT.NmL msgs
def MsgT.NmL : List MsgT → Prop
 | [] => True
 | m :: l => MsgT.Nm m ∧ MsgT.NmL l
end
mutual
/-- Its full names are short: so many bytes stand ahead. -/
def MsgT.Ful : MsgT → Int → Prop
 | .mk nm _ _ _ _ msgs _ _ _, ah => ah + nm.length + 1 ≤ 16777216 ∧ MsgT.FulL msgs (ah + nm.length + 1)
def MsgT.FulL : List MsgT → Int → Prop
 | [], _ => True
 | m :: l, ah => MsgT.Ful m ah ∧ MsgT.FulL l ah
end
theorem MsgT.fulL_of {ah : Int} : ∀ {l : List MsgT}, (∀ m ∈ l, MsgT.Ful m ah) → MsgT.FulL l ah
 | [], _ => by unfold MsgT.FulL; trivial
 | x :: l, h => by unfold MsgT.FulL; exact ⟨h x List.mem_cons_self, MsgT.fulL_of fun m hm => h m (List.mem_cons_of_mem _ hm)⟩
theorem MsgT.fulL_mem {ah : Int} : ∀ {l : List MsgT} {m : MsgT}, MsgT.FulL l ah → m ∈ l → MsgT.Ful m ah
 | [], _, _, h => by cases h
 | x :: l, m, hl, h => by
  unfold MsgT.FulL at hl
  rcases List.mem_cons.1 h with rfl | h
  ·exact hl.1
  ·exact MsgT.fulL_mem hl.2 h
mutual
/-- How many symbols it has. -/
def cntM : MsgT → Nat
 | .mk _ fields oneofs _ _ msgs enums _ _ => 1 + fields.l.length + oneofs.l.length + cntMs msgs + (enums.l.map cntE).sum
def cntMs : List MsgT → Nat
 | [] => 0
 | m :: l => cntM m + cntMs l
end
theorem cntMs_eq : ∀ l : List MsgT, cntMs l = (l.map cntM).sum
 | [] => by unfold cntMs; rfl
 | m :: l => by unfold cntMs; rw [List.map_cons, List.sum_cons, cntMs_eq l]
theorem MsgT.nmL_of : ∀ {l : List MsgT}, (∀ m ∈ l, MsgT.Nm m) → MsgT.NmL l
 | [], _ => by unfold MsgT.NmL; trivial
 | x :: l, h => by unfold MsgT.NmL; exact ⟨h x List.mem_cons_self, MsgT.nmL_of fun m hm => h m (List.mem_cons_of_mem _ hm)⟩
theorem MsgT.nmL_mem : ∀ {l : List MsgT} {m : MsgT}, MsgT.NmL l → m ∈ l → MsgT.Nm m
 | [], _, _, h => by cases h
 | x :: l, m, hl, h => by
  unfold MsgT.NmL at hl
  rcases List.mem_cons.1 h with rfl | h
  ·exact hl.1
  ·exact MsgT.nmL_mem hl.2 h
theorem MsgT.smL_of : ∀ {l : List MsgT}, (∀ m ∈ l, MsgT.Sm m) → MsgT.SmL l
 | [], _ => by unfold MsgT.SmL; trivial
 | x :: l, h => by unfold MsgT.SmL; exact ⟨h x List.mem_cons_self, MsgT.smL_of fun m hm => h m (List.mem_cons_of_mem _ hm)⟩
end Go.Sk
namespace Go.Proofs.YtdemnhdoadjhhaaGreatDoor
open Go.Sk
set_option maxRecDepth 100000
attribute [local irreducible] Cs Own Ex Pu Yld RT LJ QJ AtQ CT Rd QSp Sp FinQ Then LoopQ CutQ DT TakeQ EffQ
variable {B : World} {R : List HP}
/-- (Not to be seen through.) -/
def LeB (x y : Int) : Prop := x ≤ y
def Imp (p q : Prop) : Prop := p → q
set_option maxHeartbeats 16000000 in
theorem mweight_fn (d : Nat) : ∀ {a : Option Addr} {c : Nat} {l : List MsgT} {ah n : Int}, MsgT.deepL l ≤ d → Rd B R a l.length c 7 (l.flatMap MsgT.cells) → l.length ≤ 140737488355328 → MsgT.InL (Rd B R) l → MsgT.OkL l → 0 ≤ n → n ≤ 4503599627370496 → 0 ≤ ah → (n ≤ 16777216 → ah ≤ 281474976710656) →
  Sp B Tryz.prog 31 [.slice a l.length c, .int .i64 ah, .int .i64 n] R [] (fun v H' => (∃ w, v = .int .i64 w ∧ Wt l.length n w ∧ (w ≤ 16777216 → (MsgT.SmL l ∧ MsgT.NmL l ∧ MsgT.FulL l ah) ∧ n + cntMs l ≤ w)) ∧ H' = []) := by
 induction d using Nat.strongRecOn with
 | _ d ih =>
 intro a c l ah n hd hR hk hin hok h0 h1 a0 a1
 refine Sp.body Tryz.func31 rfl Tryz.ntmps31 (by simp) ?_
 simp only [argE, List.cons_append, List.nil_append, Nat.zero_add, Nat.reduceAdd]
 repeat' (first|(refine gv ?_;first|refine RT.id ?_|(refine⟨fun hc=>?_,fun hc=>?_⟩<;>first|(exfalso;omega)|skip)|refine gk ?_|refine num_m fun r hr=>?_|intro r hr)|refine gs ?_|(refine gb ?_;intro b)|refine gn ?_|(refine RT.isPush ?_;refine gp ?_;intro a' c' b' c1' hac)|refine gc ?_|fail)
 refine CT.loop (α := Nat × Int) (fun s => [(0, .slice a l.length c), (1, .int .i64 ah), (2, .int .i64 s.2), (7, .int .i64 s.1)]) (fun s => Pu (s.1 ≤ l.length ∧ n + 8 * s.1 ≤ s.2 ∧ s.2 ≤ max n 4503599627370496 ∧ (s.2 ≤ 16777216 → (∀ e ∈ l.take s.1, MsgT.Sm e ∧ MsgT.Nm e ∧ MsgT.Ful e ah) ∧ n + ((l.take s.1).map cntM).sum ≤ s.2)) :: R) (fun s => l.length - s.1) (0, n)
  ⟨rfl, rfl, rfl, rfl, trivial⟩ (fun w h => Sat.pu_in ⟨Nat.zero_le _, by dsimp only; omega, by dsimp only; omega, fun _ => ⟨fun e he => by simp at he, by simp⟩⟩ h) (fun ⟨i, q⟩ => CT.pu fun ⟨hi, hq1, hq2, hq3⟩ => ?_)
 dsimp only at hi hq1 hq2 hq3 ⊢
 repeat' (first|(refine gv ?_;first|refine RT.id ?_|(refine⟨fun hc=>?_,fun hc=>?_⟩<;>first|(exfalso;omega)|skip)|refine gk ?_|refine num_m fun r hr=>?_|intro r hr)|refine gs ?_|(refine gb ?_;intro b)|refine gn ?_|(refine RT.isPush ?_;refine gp ?_;intro a' c' b' c1' hac)|refine gc ?_|fail)
 ·have hil : i < l.length := by omega
  have hgi := List.getElem?_eq_getElem hil
  revert hgi
  generalize l[i] = m
  intro hgi
  have hme := List.mem_of_getElem? hgi
  have hmo := MsgT.okL_mem hok hme
  have hmi := MsgT.inL_mem hin hme
  have hmd := Nat.le_trans (MsgT.deep_mem hme) hd
  obtain ⟨nm, fields, oneofs, ma, mc, msgs, enums, res, names⟩ := m
  unfold MsgT.Ok at hmo
  unfold MsgT.In at hmi
  unfold MsgT.deep at hmd
  obtain ⟨⟨_, en1⟩, ⟨⟨ef1, _⟩, ef2⟩, ⟨⟨eo1, _⟩, eo2⟩, ⟨em1, _⟩, ⟨⟨ee1, _⟩, ee2⟩, ⟨⟨er1, _⟩, er2⟩, ⟨⟨et1, _⟩, et2⟩, em2⟩ := hmo
  obtain ⟨if1, io1, im1, ie1, ie2, ir1, it1, im2⟩ := hmi
  dsimp only at em1
  have ah1 := a1 (by omega)
  clear a1
  have h5 := hq3 (by omega)
  refine RT.ix T (j := i * 7) rfl rfl rfl (by exact hR) (by omega) (by omega) (by omega) rfl rfl ?_
  refine RT.faA T rfl rfl rfl rfl ?_
  refine RT.ldr (u := vS nm) T rfl (by exact hR) (by rw [flat_get (f := MsgT.cells) (z := 7) (fun _ => rfl) hgi (by decide)]; rfl) rfl rfl rfl ?_
  repeat' (first|(refine gv ?_;first|refine RT.id ?_|(refine⟨fun hc=>?_,fun hc=>?_⟩<;>first|(exfalso;omega)|skip)|refine gk ?_|refine num_m fun r hr=>?_|intro r hr)|refine gs ?_|(refine gb ?_;intro b)|refine gn ?_|(refine RT.isPush ?_;refine gp ?_;intro a' c' b' c1' hac)|refine gc ?_|fail)
  obtain ⟨full, hfull⟩ : ∃ full, full = ah + (nm.length : Int) + 1 := ⟨_, rfl⟩
  rw [← hfull]
  refine RT.ix T (j := i * 7) rfl rfl rfl (by exact hR) (by omega) (by omega) (by omega) rfl rfl ?_
  refine RT.faA T rfl rfl rfl rfl ?_
  refine RT.ldr (u := res.v) T rfl (by exact hR) (by rw [flat_get (f := MsgT.cells) (z := 7) (fun _ => rfl) hgi (by decide)]; rfl) rfl rfl rfl ?_
  repeat' (first|(refine gv ?_;first|refine RT.id ?_|(refine⟨fun hc=>?_,fun hc=>?_⟩<;>first|(exfalso;omega)|skip)|refine gk ?_|refine num_m fun r hr=>?_|intro r hr)|refine gs ?_|(refine gb ?_;intro b)|refine gn ?_|(refine RT.isPush ?_;refine gp ?_;intro a' c' b' c1' hac)|refine gc ?_|fail)
  obtain ⟨q0, hq0⟩ : ∃ q0, q0 = q + 200 + full + 8 * (res.l.length : Int) := ⟨_, rfl⟩
  rw [← hq0]
  refine CT.loop (α := Nat × Int) (fun s => [(0, .slice a l.length c), (1, .int .i64 ah), (2, .int .i64 s.2), (7, .int .i64 i), (8, .int .i64 full), (9, .int .i64 s.1)]) (fun s => Pu (s.1 ≤ fields.l.length ∧ q0 + 8 * s.1 ≤ s.2 ∧ s.2 ≤ 4503599627370496 ∧ (s.2 ≤ 16777216 → ∀ f ∈ fields.l.take s.1, FNm f)) :: R) (fun s => fields.l.length - s.1) (0, q0)
   ⟨rfl, rfl, rfl, rfl, rfl, rfl, trivial⟩ (fun w h => Sat.pu_in ⟨Nat.zero_le _, by dsimp only; omega, by dsimp only; omega, fun _ e he => by simp at he⟩ h) (fun ⟨k, p⟩ => CT.pu fun ⟨hk1, hp1, hp2, hp3⟩ => ?_)
  dsimp only at hk1 hp1 hp2 hp3 ⊢
  repeat' (first|(refine gv ?_;first|refine RT.id ?_|(refine⟨fun hc=>?_,fun hc=>?_⟩<;>first|(exfalso;omega)|skip)|refine gk ?_|refine num_m fun r hr=>?_|intro r hr)|refine gs ?_|(refine gb ?_;intro b)|refine gn ?_|(refine RT.isPush ?_;refine gp ?_;intro a' c' b' c1' hac)|refine gc ?_|fail)
  refine RT.ix T (j := i * 7) rfl rfl rfl (by exact hR) (by omega) (by omega) (by omega) rfl rfl ?_
  refine RT.faA T rfl rfl rfl rfl ?_
  refine RT.ldr (u := fields.v) T rfl (by exact hR) (by rw [flat_get (f := MsgT.cells) (z := 7) (fun _ => rfl) hgi (by decide)]; rfl) rfl rfl rfl ?_
  repeat' (first|(refine gv ?_;first|refine RT.id ?_|(refine⟨fun hc=>?_,fun hc=>?_⟩<;>first|(exfalso;omega)|skip)|refine gk ?_|refine num_m fun r hr=>?_|intro r hr)|refine gs ?_|(refine gb ?_;intro b)|refine gn ?_|(refine RT.isPush ?_;refine gp ?_;intro a' c' b' c1' hac)|refine gc ?_|fail)
  ·have hkl : k < fields.l.length := by omega
   have hgk := List.getElem?_eq_getElem hkl
   revert hgk
   generalize fields.l[k] = fd
   intro hgk
   obtain ⟨⟨_, fo1⟩, _, _, _, ⟨_, fo2⟩, _, _, _, ⟨_, fo3⟩⟩ := ef2 fd (List.mem_of_getElem? hgk)
   refine RT.ix T (j := i * 7) rfl rfl rfl (by exact hR) (by omega) (by omega) (by omega) rfl rfl ?_
   refine RT.faA T rfl rfl rfl rfl ?_
   refine RT.ldr (u := fields.v) T rfl (by exact hR) (by rw [flat_get (f := MsgT.cells) (z := 7) (fun _ => rfl) hgi (by decide)]; rfl) rfl rfl rfl ?_
   repeat' (first|(refine gv ?_;first|refine RT.id ?_|(refine⟨fun hc=>?_,fun hc=>?_⟩<;>first|(exfalso;omega)|skip)|refine gk ?_|refine num_m fun r hr=>?_|intro r hr)|refine gs ?_|(refine gb ?_;intro b)|refine gn ?_|(refine RT.isPush ?_;refine gp ?_;intro a' c' b' c1' hac)|refine gc ?_|fail)
   refine RT.ix T (j := k * 9) rfl rfl rfl (by exact if1) (by omega) (by omega) (by omega) rfl rfl ?_
   refine RT.ldra T rfl (by exact if1) (l := fd.cells) (flat_sub (f := FieldT.cells) (z := 9) (fun _ => rfl) fields.l k _ hgk) rfl rfl rfl rfl ?_
   repeat' (first|(refine gv ?_;first|refine RT.id ?_|(refine⟨fun hc=>?_,fun hc=>?_⟩<;>first|(exfalso;omega)|skip)|refine gk ?_|refine num_m fun r hr=>?_|intro r hr)|refine gs ?_|(refine gb ?_;intro b)|refine gn ?_|(refine RT.isPush ?_;refine gp ?_;intro a' c' b' c1' hac)|refine gt ?_|refine gc ?_|fail)
   exact AtQ.loop (k + 1, p + 120 + full + (fd.nm.length : Int) + (fd.ty.length : Int) + (fd.js.length : Int)) ⟨rfl, rfl, rfl, rfl, rfl, rfl, trivial⟩ (fun w h => Sat.pu_in ⟨by omega, by dsimp only; omega, by dsimp only; omega, fun hw => by dsimp only at hw; exact sm_take hgk (hp3 (by omega)) (by unfold FNm; omega)⟩ h.tail) (by dsimp only; omega)
  all_goals
   have hend : Imp (p ≤ 16777216) (k = fields.l.length) := fun h => by omega
   refine CT.loop (α := Nat × Int) (fun s => [(0, .slice a l.length c), (1, .int .i64 ah), (2, .int .i64 s.2), (7, .int .i64 i), (8, .int .i64 full), (11, .int .i64 s.1)]) (fun s => Pu (s.1 ≤ oneofs.l.length ∧ LeB (p + 8 * s.1) s.2 ∧ 0 ≤ s.2 ∧ s.2 ≤ 4503599627370496 ∧ (s.2 ≤ 16777216 → SmT (oneofs.l.take s.1))) :: R) (fun s => oneofs.l.length - s.1) (0, p)
    ⟨rfl, rfl, rfl, rfl, rfl, rfl, trivial⟩ (fun w h => Sat.pu_in ⟨Nat.zero_le _, by unfold LeB; dsimp only; omega, by dsimp only; omega, by dsimp only; omega, fun _ e he => by simp at he⟩ h) (fun ⟨j, o⟩ => CT.pu fun ⟨hj1, ho1, ho0, ho2, ho3⟩ => ?_)
   dsimp only at hj1 ho1 ho0 ho2 ho3 ⊢
   repeat' (first|(refine gv ?_;first|refine RT.id ?_|(refine⟨fun hc=>?_,fun hc=>?_⟩<;>first|(exfalso;omega)|skip)|refine gk ?_|refine num_m fun r hr=>?_|intro r hr)|refine gs ?_|(refine gb ?_;intro b)|refine gn ?_|(refine RT.isPush ?_;refine gp ?_;intro a' c' b' c1' hac)|refine gc ?_|fail)
   refine RT.ix T (j := i * 7) rfl rfl rfl (by exact hR) (by omega) (by omega) (by omega) rfl rfl ?_
   refine RT.faA T rfl rfl rfl rfl ?_
   refine RT.ldr (u := oneofs.v) T rfl (by exact hR) (by rw [flat_get (f := MsgT.cells) (z := 7) (fun _ => rfl) hgi (by decide)]; rfl) rfl rfl rfl ?_
   repeat' (first|(refine gv ?_;first|refine RT.id ?_|(refine⟨fun hc=>?_,fun hc=>?_⟩<;>first|(exfalso;omega)|skip)|refine gk ?_|refine num_m fun r hr=>?_|intro r hr)|refine gs ?_|(refine gb ?_;intro b)|refine gn ?_|(refine RT.isPush ?_;refine gp ?_;intro a' c' b' c1' hac)|refine gc ?_|fail)
   ·have hjl : j < oneofs.l.length := by omega
    have hto := (eo2 oneofs.l[j] (List.getElem_mem hjl)).2
    refine RT.ix T (j := i * 7) rfl rfl rfl (by exact hR) (by omega) (by omega) (by omega) rfl rfl ?_
    refine RT.faA T rfl rfl rfl rfl ?_
    refine RT.ldr (u := oneofs.v) T rfl (by exact hR) (by rw [flat_get (f := MsgT.cells) (z := 7) (fun _ => rfl) hgi (by decide)]; rfl) rfl rfl rfl ?_
    repeat' (first|(refine gv ?_;first|refine RT.id ?_|(refine⟨fun hc=>?_,fun hc=>?_⟩<;>first|(exfalso;omega)|skip)|refine gk ?_|refine num_m fun r hr=>?_|intro r hr)|refine gs ?_|(refine gb ?_;intro b)|refine gn ?_|(refine RT.isPush ?_;refine gp ?_;intro a' c' b' c1' hac)|refine gc ?_|fail)
    refine RT.ix T (j := j) rfl rfl rfl (by exact io1) (by omega) (by omega) (by omega) rfl rfl ?_
    refine RT.ldr T rfl (by exact io1) (map_get hjl) rfl rfl rfl ?_
    repeat' (first|(refine gv ?_;first|refine RT.id ?_|(refine⟨fun hc=>?_,fun hc=>?_⟩<;>first|(exfalso;omega)|skip)|refine gk ?_|refine num_m fun r hr=>?_|intro r hr)|refine gs ?_|(refine gb ?_;intro b)|refine gn ?_|(refine RT.isPush ?_;refine gp ?_;intro a' c' b' c1' hac)|refine gc ?_|fail)
    exact AtQ.loop (j + 1, o + 80 + full + (oneofs.l[j].length : Int)) ⟨rfl, rfl, rfl, rfl, rfl, rfl, trivial⟩ (fun w h => Sat.pu_in ⟨by omega, by unfold LeB at *; dsimp only; omega, by dsimp only; omega, by dsimp only; omega, fun hw => by unfold LeB at *; dsimp only at hw; exact sm_take (List.getElem?_eq_getElem hjl) (ho3 (by omega)) (by omega)⟩ h) (by dsimp only; omega)
   all_goals
    unfold LeB at ho1
    have hend2 : Imp (o ≤ 16777216) (j = oneofs.l.length) := fun h => by omega
    refine RT.ix T (j := i * 7) rfl rfl rfl (by exact hR) (by omega) (by omega) (by omega) rfl rfl ?_
    refine RT.faA T rfl rfl rfl rfl ?_
    refine RT.ldr (u := names.v) T rfl (by exact hR) (by rw [flat_get (f := MsgT.cells) (z := 7) (fun _ => rfl) hgi (by decide)]; rfl) rfl rfl rfl ?_
    repeat' (first|(refine gv ?_;first|refine RT.id ?_|(refine⟨fun hc=>?_,fun hc=>?_⟩<;>first|(exfalso;omega)|skip)|refine gk ?_|refine num_m fun r hr=>?_|intro r hr)|refine gs ?_|(refine gb ?_;intro b)|refine gn ?_|(refine RT.isPush ?_;refine gp ?_;intro a' c' b' c1' hac)|refine gc ?_|fail)
    refine RT.call T rfl (by (repeat (first|exact Fr.nil|(apply Fr.cons;focus ((repeat constructor);done))))) (tweight_fn (r := names) (n := o) it1 et1 et2 (by omega) (by omega)) rfl rfl rfl ?_
    rintro _ _ ⟨⟨w1, rfl, ⟨hw1, hw2, hw3⟩, hw4⟩, rfl⟩
    try simp only [List.cons_append, List.nil_append]
    repeat' (first|(refine gv ?_;first|refine RT.id ?_|(refine⟨fun hc=>?_,fun hc=>?_⟩<;>first|(exfalso;omega)|skip)|refine gk ?_|refine num_m fun r hr=>?_|intro r hr)|refine gs ?_|(refine gb ?_;intro b)|refine gn ?_|(refine RT.isPush ?_;refine gp ?_;intro a' c' b' c1' hac)|refine gc ?_|fail)
    refine RT.ix T (j := i * 7) rfl rfl rfl (by exact hR) (by omega) (by omega) (by omega) rfl rfl ?_
    refine RT.faA T rfl rfl rfl rfl ?_
    refine RT.ldr (u := enums.v) T rfl (by exact hR) (by rw [flat_get (f := MsgT.cells) (z := 7) (fun _ => rfl) hgi (by decide)]; rfl) rfl rfl rfl ?_
    repeat' (first|(refine gv ?_;first|refine RT.id ?_|(refine⟨fun hc=>?_,fun hc=>?_⟩<;>first|(exfalso;omega)|skip)|refine gk ?_|refine num_m fun r hr=>?_|intro r hr)|refine gs ?_|(refine gb ?_;intro b)|refine gn ?_|(refine RT.isPush ?_;refine gp ?_;intro a' c' b' c1' hac)|refine gc ?_|fail)
    refine RT.call T rfl (by (repeat (first|exact Fr.nil|(apply Fr.cons;focus ((repeat constructor);done))))) (eweight_fn (r := enums) (ah := full) (n := w1) ie1 ee1 ie2 ee2 (by omega) (by omega) (by omega) (fun h => by omega)) rfl rfl rfl ?_
    rintro _ _ ⟨⟨w2, rfl, ⟨hx1, hx2, hx3⟩, hx4⟩, rfl⟩
    try simp only [List.cons_append, List.nil_append]
    repeat' (first|(refine gv ?_;first|refine RT.id ?_|(refine⟨fun hc=>?_,fun hc=>?_⟩<;>first|(exfalso;omega)|skip)|refine gk ?_|refine num_m fun r hr=>?_|intro r hr)|refine gs ?_|(refine gb ?_;intro b)|refine gn ?_|(refine RT.isPush ?_;refine gp ?_;intro a' c' b' c1' hac)|refine gc ?_|fail)
    refine RT.ix T (j := i * 7) rfl rfl rfl (by exact hR) (by omega) (by omega) (by omega) rfl rfl ?_
    refine RT.faA T rfl rfl rfl rfl ?_
    refine RT.ldr (u := .slice ma msgs.length mc) T rfl (by exact hR) (by rw [flat_get (f := MsgT.cells) (z := 7) (fun _ => rfl) hgi (by decide)]; rfl) rfl rfl rfl ?_
    repeat' (first|(refine gv ?_;first|refine RT.id ?_|(refine⟨fun hc=>?_,fun hc=>?_⟩<;>first|(exfalso;omega)|skip)|refine gk ?_|refine num_m fun r hr=>?_|intro r hr)|refine gs ?_|(refine gb ?_;intro b)|refine gn ?_|(refine RT.isPush ?_;refine gp ?_;intro a' c' b' c1' hac)|refine gc ?_|fail)
    refine RT.call T rfl (by (repeat (first|exact Fr.nil|(apply Fr.cons;focus ((repeat constructor);done))))) (ih (MsgT.deepL msgs) (by omega) (Nat.le_refl _) im1 em1 im2 em2 (by omega) (by omega) (by omega) (fun h => by omega)) rfl rfl rfl ?_
    rintro _ _ ⟨⟨w3, rfl, ⟨hy1, hy2, hy3⟩, hy4⟩, rfl⟩
    try simp only [List.cons_append, List.nil_append]
    repeat' (first|(refine gv ?_;first|refine RT.id ?_|(refine⟨fun hc=>?_,fun hc=>?_⟩<;>first|(exfalso;omega)|skip)|refine gk ?_|refine num_m fun r hr=>?_|intro r hr)|refine gs ?_|(refine gb ?_;intro b)|refine gn ?_|(refine RT.isPush ?_;refine gp ?_;intro a' c' b' c1' hac)|refine gc ?_|fail)
    exact AtQ.loop (i + 1, w3) ⟨rfl, rfl, rfl, rfl, trivial⟩ (fun _ h => Sat.pu_in ⟨by omega, by dsimp only; omega, by dsimp only; omega, fun hw => by
     have hw : w3 ≤ 16777216 := hw
     have a1 := hend (by omega)
     have a2 := hend2 (by omega)
     have a3 := hw3 (by omega)
     have a4 := hx3 (by omega)
     have a5 := hy3 (by omega)
     have b1 := hp3 (by omega)
     rw [List.take_of_length_le (by omega)] at b1
     have b2 := ho3 (by omega)
     rw [List.take_of_length_le (by omega)] at b2
     obtain ⟨b3, c3⟩ := hx4 (by omega)
     obtain ⟨b4, c4⟩ := hy4 (by omega)
     have b5 := hw4 (by omega)
     refine ⟨sm_take hgi h5.1 ?_, cb_take hgi h5.2 (by unfold cntM; dsimp only; omega)⟩
     unfold MsgT.Sm MsgT.Nm MsgT.Ful
     exact ⟨⟨by omega, by omega, by omega, by omega, by omega, fun e he => (b3 e he).1, by omega, b4.1⟩, ⟨by omega, b1, b2, b5, fun e he => (b3 e he).2, b4.2.1⟩, by omega, by rw [← hfull]; exact b4.2.2⟩⟩ h) (by dsimp only; omega)
 ·exact AtQ.fin1 Tryz.results31 rfl ⟨⟨q, rfl, by unfold Wt; omega, fun h => by omega⟩, rfl⟩ (fun w h => h)
 ·exact AtQ.fin1 Tryz.results31 rfl ⟨⟨q, rfl, by unfold Wt; omega, fun h => by have h6 := hq3 h; rw [List.take_of_length_le (by omega)] at h6; exact ⟨⟨MsgT.smL_of fun e he => (h6.1 e he).1, MsgT.nmL_of fun e he => (h6.1 e he).2.1, MsgT.fulL_of fun e he => (h6.1 e he).2.2⟩, by rw [cntMs_eq]; exact h6.2⟩⟩, rfl⟩ (fun w h => h)
 --@
end Go.Proofs.YtdemnhdoadjhhaaGreatDoor
end
section
namespace Go.Sk
section
variable {X Y : Option Addr → Nat → Nat → Nat → List Value → Prop}
theorem EnumT.In.mono (h : ∀ a k c z xs, X a k c z xs → Y a k c z xs) {e : EnumT} (hi : e.In X) : e.In Y := ⟨h _ _ _ _ _ hi.1, h _ _ _ _ _ hi.2.1, h _ _ _ _ _ hi.2.2⟩
mutual
theorem MsgT.In.mono (h : ∀ a k c z xs, X a k c z xs → Y a k c z xs) : ∀ {m : MsgT}, MsgT.In X m → MsgT.In Y m
 | .mk nm fields oneofs ma mc msgs enums res names, hi => by
  unfold MsgT.In at hi ⊢
  obtain ⟨h1, h2, h3, h4, h5, h6, h7, h8⟩ := hi
  exact ⟨h _ _ _ _ _ h1, h _ _ _ _ _ h2, h _ _ _ _ _ h3, h _ _ _ _ _ h4, fun e he => (h5 e he).mono h, h _ _ _ _ _ h6, h _ _ _ _ _ h7, MsgT.InL.mono h h8⟩
theorem MsgT.InL.mono (h : ∀ a k c z xs, X a k c z xs → Y a k c z xs) : ∀ {l : List MsgT}, MsgT.InL X l → MsgT.InL Y l
 | [], _ => by unfold MsgT.InL; trivial
 | m :: l, hi => by
  unfold MsgT.InL at hi ⊢
  exact ⟨MsgT.In.mono h hi.1, MsgT.InL.mono h hi.2⟩
end
theorem FileT.In.mono (h : ∀ a k c z xs, X a k c z xs → Y a k c z xs) {f : FileT} (hi : f.In X) : f.In Y :=
 ⟨h _ _ _ _ _ hi.imps, h _ _ _ _ _ hi.msgs, fun m hm => MsgT.In.mono h (hi.sub m hm), h _ _ _ _ _ hi.enums, fun e he => (hi.esub e he).mono h⟩
end
end Go.Sk
end
section
namespace Go.Proofs.YtdemnhdoadjhhaaGreatDoor
open Go.Sk
set_option maxRecDepth 100000
attribute [local irreducible] Cs Own Ex Pu Yld RT LJ QJ AtQ CT Rd QSp Sp FinQ Then LoopQ CutQ DT TakeQ EffQ
variable {B : World} {R : List HP}
structure FSm (f : FileT) : Prop where
 imps : f.imps.l.length ≤ 2097152
 msgs : f.msgs.length ≤ 2097152
 sub : MsgT.SmL f.msgs
 enums : f.enums.l.length ≤ 2097152
 esub : ∀ e ∈ f.enums.l, ESm e
 nms : MsgT.NmL f.msgs
 pk : f.pack.length ≤ 16777216
 enm : ∀ e ∈ f.enums.l, ENm e
 ful : MsgT.FulL f.msgs (f.pack.length + 1)
 cnt : cntMs f.msgs + (f.enums.l.map cntE).sum ≤ 16777216
/-- Its names are short. -/
structure FNs (f : FileT) : Prop where
 nms : MsgT.NmL f.msgs
 pk : f.pack.length ≤ 16777216
 enm : ∀ e ∈ f.enums.l, ENm e
theorem FSm.ns {f : FileT} (h : FSm f) : FNs f := ⟨h.nms, h.pk, h.enm⟩
theorem weight_fn {f : FileT} (hi : f.In (Rd B R)) (ho : f.Ok) :
  Sp B Tryz.prog 9 [.agg f.cells.toArray] R [] (fun v H' => (∃ w, v = .int .i64 w ∧ 0 ≤ w ∧ (w ≤ 16777216 → FSm f)) ∧ H' = []) := by
 obtain ⟨⟨_, hp1⟩, ⟨_, hp2⟩, ⟨⟨hi1, _⟩, hi2⟩, ⟨⟨hm1, _⟩, hm2⟩, ⟨⟨he1, _⟩, he2⟩⟩ := ho
 dsimp only at hm1
 refine Sp.body Tryz.func9 rfl Tryz.ntmps9 (by simp) ?_
 simp only [argE, List.cons_append, List.nil_append, Nat.zero_add, Nat.reduceAdd]
 repeat' (first|(refine gv ?_;first|refine RT.id ?_|(refine⟨fun hc=>?_,fun hc=>?_⟩<;>first|(exfalso;omega)|skip)|refine gk ?_|refine num_m fun r hr=>?_|intro r hr)|refine gs ?_|(refine gb ?_;intro b)|refine gn ?_|(refine RT.isPush ?_;refine gp ?_;intro a' c' b' c1' hac)|refine gc ?_|fail)
 have him := FileT.In.mono (Y := Rd B (Cs b 26 f.cells :: R)) (fun a k c z xs h => Rd.cons h) hi
 obtain ⟨q0, hq0⟩ : ∃ q0, q0 = 100 + (f.path.length : Int) + (f.pack.length : Int) := ⟨_, rfl⟩
 rw [← hq0]
 refine CT.loop (α := Nat × Int) (fun s => [(1, .pointer (some ⟨b, 0, none⟩)), (3, .int .i64 s.2), (4, .int .i64 s.1)]) (fun s => Pu (s.1 ≤ f.imps.l.length ∧ q0 + 8 * s.1 ≤ s.2 ∧ s.2 ≤ 4503599627370496) :: Cs b 26 f.cells :: R) (fun s => f.imps.l.length - s.1) (0, q0)
  ⟨rfl, rfl, rfl, trivial⟩ (fun w h => Sat.pu_in ⟨Nat.zero_le _, by dsimp only; omega, by dsimp only; omega⟩ h) (fun ⟨i, q⟩ => CT.pu fun ⟨hi1, hq1, hq2⟩ => ?_)
 dsimp only at hi1 hq1 hq2 ⊢
 repeat' (first|(refine gv ?_;first|refine RT.id ?_|(refine⟨fun hc=>?_,fun hc=>?_⟩<;>first|(exfalso;omega)|skip)|refine gk ?_|refine num_m fun r hr=>?_|intro r hr)|refine gs ?_|(refine gb ?_;intro b)|refine gn ?_|(refine RT.isPush ?_;refine gp ?_;intro a' c' b' c1' hac)|refine gc ?_|fail)
 ·have hil : i < f.imps.l.length := by omega
  have hgi := List.getElem?_eq_getElem hil
  revert hgi
  generalize f.imps.l[i] = im
  intro hgi
  have hto := (hi2 im (List.mem_of_getElem? hgi)).2
  refine RT.ix T (j := i * 2) rfl rfl rfl (by exact him.imps) (by omega) (by omega) (by omega) rfl rfl ?_
  refine RT.faA T rfl rfl rfl rfl ?_
  refine RT.ldr (u := vS im.path) T rfl (by exact him.imps) (by rw [flat_get (f := ImpT.cells) (z := 2) (fun _ => rfl) hgi (by decide)]; rfl) rfl rfl rfl ?_
  repeat' (first|(refine gv ?_;first|refine RT.id ?_|(refine⟨fun hc=>?_,fun hc=>?_⟩<;>first|(exfalso;omega)|skip)|refine gk ?_|refine num_m fun r hr=>?_|intro r hr)|refine gs ?_|(refine gb ?_;intro b)|refine gn ?_|(refine RT.isPush ?_;refine gp ?_;intro a' c' b' c1' hac)|refine gc ?_|fail)
  exact AtQ.loop (i + 1, q + 20 + (im.path.length : Int)) ⟨rfl, rfl, rfl, trivial⟩ (fun w h => Sat.pu_in ⟨by omega, by dsimp only; omega, by dsimp only; omega⟩ h) (by dsimp only; omega)
 all_goals
  have hend : q ≤ 16777216 → i = f.imps.l.length := fun h => by omega
  refine RT.call T rfl (by (repeat (first|exact Fr.nil|(apply Fr.cons;focus ((repeat constructor);done))))) (mweight_fn (R := Cs b 26 f.cells :: R) (ah := (f.pack.length : Int) + 1) (n := q) _ (Nat.le_refl _) him.msgs hm1 (MsgT.inL_of him.sub) (MsgT.okL_of hm2) (by omega) (by omega) (by omega) (fun h => by omega)) rfl rfl rfl ?_
  rintro _ _ ⟨⟨w2, rfl, ⟨hx1, hx2, hx3⟩, hx4⟩, rfl⟩
  try simp only [List.cons_append, List.nil_append]
  repeat' (first|(refine gv ?_;first|refine RT.id ?_|(refine⟨fun hc=>?_,fun hc=>?_⟩<;>first|(exfalso;omega)|skip)|refine gk ?_|refine num_m fun r hr=>?_|intro r hr)|refine gs ?_|(refine gb ?_;intro b)|refine gn ?_|(refine RT.isPush ?_;refine gp ?_;intro a' c' b' c1' hac)|refine gc ?_|fail)
  refine RT.call T rfl (by (repeat (first|exact Fr.nil|(apply Fr.cons;focus ((repeat constructor);done))))) (eweight_fn (R := Cs b 26 f.cells :: R) (r := f.enums) (ah := (f.pack.length : Int) + 1) (n := w2) him.enums he1 him.esub he2 (by omega) (by omega) (by omega) (fun h => by omega)) rfl rfl rfl ?_
  rintro _ _ ⟨⟨w3, rfl, ⟨hy1, hy2, hy3⟩, hy4⟩, rfl⟩
  try simp only [List.cons_append, List.nil_append]
  repeat' (first|(refine gv ?_;first|refine RT.id ?_|(refine⟨fun hc=>?_,fun hc=>?_⟩<;>first|(exfalso;omega)|skip)|refine gk ?_|refine num_m fun r hr=>?_|intro r hr)|refine gs ?_|(refine gb ?_;intro b)|refine gn ?_|(refine RT.isPush ?_;refine gp ?_;intro a' c' b' c1' hac)|refine gc ?_|fail)
  exact AtQ.fin1 Tryz.results9 rfl ⟨⟨w3, rfl, by omega, fun h => by
   have a1 := hend (by omega)
   have a3 := hx3 (by omega)
   have a4 := hy3 (by omega)
   obtain ⟨a5, a6⟩ := hx4 (by omega)
   obtain ⟨a7, a8⟩ := hy4 (by omega)
   exact ⟨by omega, by omega, a5.1, by omega, fun e he => (a7 e he).1, a5.2.1, by omega, fun e he => (a7 e he).2, a5.2.2, by omega⟩⟩, rfl⟩ (fun w h => h.tail)
end Go.Proofs.YtdemnhdoadjhhaaGreatDoor
end
section
namespace Go.Proofs.YtdemnhdoadjhhaaGreatDoor
open Go.Sk
set_option maxRecDepth 100000
theorem Rd.pre {B : World} {H : List HP} {a : Option Addr} {k c sz j : Nat} {xs : List Value} (h : Rd B H a k c sz xs) (hj : j ≤ k) : Rd B H a j c sz (xs.take (j * sz)) := by
 have := Rd.sub (i := 0) (j := j) h (Nat.zero_le _) hj
 rw [asub_z] at this
 simpa using this
theorem flat_take {α : Type} {f : α → List Value} {z : Nat} (hz : ∀ x, (f x).length = z) {l : List α} {i : Nat} (h : i ≤ l.length) : (l.flatMap f).take (i * z) = (l.take i).flatMap f := by
 have h1 : l.flatMap f = (l.take i).flatMap f ++ (l.drop i).flatMap f := by rw [← List.flatMap_append, List.take_append_drop]
 have h2 : ((l.take i).flatMap f).length = i * z := by rw [flat_len hz, List.length_take, Nat.min_eq_left h]
 rw [h1, ← h2, List.take_left']
 rfl
theorem Rd.flatPre {B : World} {H : List HP} {α : Type} {f : α → List Value} {a : Option Addr} {k c sz j : Nat} {l : List α} (hz : ∀ x, (f x).length = sz) (h : Rd B H a k c sz (l.flatMap f)) (hk : l.length = k) (hj : j ≤ k) : Rd B H a j c sz ((l.take j).flatMap f) := by
 have := Rd.pre h hj
 rwa [flat_take hz (by omega)] at this
/-- Names that are given, as a map that counts. -/
def gvl (g : List Txt) : List (Value × Value) := g.map fun x => (vS x, .int .i64 1)
theorem gv_in {g : List Txt} {x : Txt} (h : x ∈ g) : ∃ i : Nat, (gvl g)[i]? = some (vS x, Value.int .i64 1) := by
 obtain ⟨i, hi, rfl⟩ := List.getElem_of_mem h
 exact ⟨i, by unfold gvl; rw [List.getElem?_map, List.getElem?_eq_getElem hi]; rfl⟩
theorem vS_inj {x y : Txt} (hx : Byt x) (hy : Byt y) (h : vS x = vS y) : x = y := by
 injection h with h
 exact (str_inj hx hy).1 h
theorem gv_no {g : List Txt} {x : Txt} (hg : ∀ y ∈ g, Byt y) (hx : Byt x) (h : x ∉ g) : MGet (gvl g) (vS x) none := fun y hy => by
 unfold gvl at hy
 obtain ⟨z, hz, rfl⟩ := List.mem_map.1 hy
 intro e
 exact h (vS_inj (hg z hz) hx e ▸ hz)
theorem gv_push {g : List Txt} {x : Txt} : gvl g ++ [(vS x, .int .i64 1)] = gvl (g ++ [x]) := by simp [gvl]
/-- The reader and its map. -/
abbrev rdr (br bm : Nat) : HP := Cs br 104 [.map (some bm)]
abbrev giv (bm : Nat) (g : List Txt) : HP := Mp .string bm (gvl g)
abbrev BL (l : List Txt) : Prop := ∀ y ∈ l, Byt y
theorem BL.push {l : List Txt} {x : Txt} (h : BL l) (hx : Byt x) : BL (l ++ [x]) := fun y hy => by
 rcases List.mem_append.1 hy with hy | hy
 ·exact h y hy
 ·rw [List.mem_singleton.1 hy]; exact hx
theorem b2 {x y : Txt} (hx : Byt x) (hy : Byt y) : ∀ l ∈ [x, y], Byt l := fun l hl => by
 rcases List.mem_cons.1 hl with rfl | hl
 ·exact hx
 ·rw [List.mem_singleton.1 hl]; exact hy
theorem j2_byt {x y : Txt} (hx : Byt x) (hy : Byt y) : Byt (joinL [x, y]) := joinS_byt (filt_mem (b2 hx hy))
theorem s2 (x y : Txt) : sumL [x, y] = x.length + y.length := by simp [sumL]
theorem j2_len {x y : Txt} : (joinL [x, y]).length ≤ x.length + y.length + 2 := by
 have h1 := joinS_len (filt [x, y])
 obtain ⟨h2, h3⟩ := filt_sum [x, y]
 rw [h2, s2] at h1
 unfold joinL
 simp only [List.length_cons, List.length_nil] at h3
 omega
/-- It goes on with more names given, or is given up. -/
abbrev PostR (r : Rs) (ps : List HP) (bm : Nat) : Value → List HP → Prop := fun _ H' => ∃ g, r = .ok g ∧ BL g ∧ H' = ps ++ [giv bm g]
abbrev PPR (r : Rs) : Value → List HP → Prop := fun v H' => ∃ e t, r = .error (e, t) ∧ v = wv e t ∧ H' = []
abbrev PostO (r : Option Flt) : Value → List HP → Prop := fun _ H' => r = none ∧ H' = []
abbrev PPO (r : Option Flt) : Value → List HP → Prop := fun v H' => ∃ e t, r = some (e, t) ∧ v = wv e t ∧ H' = []
attribute [local irreducible] Cs Own Ex Pu Yld RT LJ QJ AtQ CT Rd QSp Sp FinQ Then LoopQ CutQ DT TakeQ EffQ
variable {B : World} {R : List HP}
set_option maxHeartbeats 1000000 in
theorem give_fn {br bm : Nat} {g : List Txt} {nm full : Txt} (hg : BL g) (hn : Byt nm) (hf : Byt full) (hnl : nm.length ≤ 16777216) (hfl : full.length ≤ 140737488355327) :
  SpP B Tryz.prog 115 [ptr br, vS nm, vS full] R [rdr br bm, giv bm g] (PostR (giveR nm full g) [rdr br bm] bm) (PPR (giveR nm full g)) := by
 refine SpP.body Tryz.func115 rfl Tryz.ntmps115 (by simp) ?_
 simp only [argE, List.cons_append, List.nil_append, Nat.zero_add, Nat.reduceAdd]
 repeat' (first|(refine gv ?_;first|refine RT.id ?_|(refine⟨fun hc=>?_,fun hc=>?_⟩<;>first|(exfalso;omega)|skip)|refine gk ?_|refine num_m fun r hr=>?_|intro r hr)|refine gs ?_|(refine gb ?_;intro b)|refine gn ?_|(refine RT.isPush ?_;refine gp ?_;intro a' c' b' c1' hac)|refine gc ?_|fail)
 (refine RT.call T rfl fR_ (ident_fn hn (by omega)) rfl rfl rfl ?_; rintro _ _ ⟨rfl, rfl⟩; try simp only [List.cons_append, List.nil_append])
 cases hi : identB nm
 ·repeat' (first|(refine gv ?_;first|refine RT.id ?_|(refine⟨fun hc=>?_,fun hc=>?_⟩<;>first|(exfalso;omega)|skip)|refine gk ?_|refine num_m fun r hr=>?_|intro r hr)|refine gs ?_|(refine gb ?_;intro b)|refine gn ?_|(refine RT.isPush ?_;refine gp ?_;intro a' c' b' c1' hac)|refine gc ?_|fail)
  (refine RT.callP T rfl fR_ (must_fn (p := false) (e := 60) (t := full)) rfl rfl rfl (fun v H1 hp => ?_) (fun v H1 hp => ?_))
  ·obtain ⟨_, rfl, rfl⟩ := hp
   ((repeat refine nx ?_); exact AtQ.finP (H' := []) ⟨60, full, by unfold giveR; rw [hi]; rfl, rfl, rfl⟩ dR_)
  ·cases hp.1
 ·repeat' (first|(refine gv ?_;first|refine RT.id ?_|(refine⟨fun hc=>?_,fun hc=>?_⟩<;>first|(exfalso;omega)|skip)|refine gk ?_|refine num_m fun r hr=>?_|intro r hr)|refine gs ?_|(refine gb ?_;intro b)|refine gn ?_|(refine RT.isPush ?_;refine gp ?_;intro a' c' b' c1' hac)|refine gc ?_|fail)
  ·(refine RT.callP T rfl fR_ (must_fn (p := true) (e := 60) (t := full)) rfl rfl rfl (fun v H1 hp => ?_) (fun v H1 hp => ?_))
   ·cases hp.1
   ·obtain ⟨_, rfl⟩ := hp
    have hG : giveR nm full g = must (decide (full ∉ g)) 61 full (.ok (g ++ [full])) := by
     unfold giveR
     rw [must_t (by rw [hi, decide_eq_true (by omega)]; rfl)]
    simp only [List.cons_append, List.nil_append]
    repeat' (first|(refine gv ?_;first|refine RT.id ?_|(refine⟨fun hc=>?_,fun hc=>?_⟩<;>first|(exfalso;omega)|skip)|refine gk ?_|refine num_m fun r hr=>?_|intro r hr)|refine gs ?_|(refine gb ?_;intro b)|refine gn ?_|(refine RT.isPush ?_;refine gp ?_;intro a' c' b' c1' hac)|refine gc ?_|fail)
    by_cases hm : full ∈ g
    ·obtain ⟨i, hgi⟩ := gv_in hm
     refine RT.lookup (dk := .string) (r := some (.int .i64 1)) T rfl rfl (by ((repeat constructor);done)) trivial ⟨i, hgi⟩ Tryz.underlying102 Tryz.underlying9 rfl rfl rfl ?_
     dsimp only [Option.getD]
     repeat' (first|(refine gv ?_;first|refine RT.id ?_|(refine⟨fun hc=>?_,fun hc=>?_⟩<;>first|(exfalso;omega)|skip)|refine gk ?_|refine num_m fun r hr=>?_|intro r hr)|refine gs ?_|(refine gb ?_;intro b)|refine gn ?_|(refine RT.isPush ?_;refine gp ?_;intro a' c' b' c1' hac)|refine gc ?_|fail)
     refine RT.mapSet (dk := .string) (l := gvl g) rfl rfl rfl (by ((repeat constructor);done)) trivial hgi Tryz.underlying102 Tryz.underlying9 rfl ?_
     repeat' (first|(refine gv ?_;first|refine RT.id ?_|(refine⟨fun hc=>?_,fun hc=>?_⟩<;>first|(exfalso;omega)|skip)|refine gk ?_|refine num_m fun r hr=>?_|intro r hr)|refine gs ?_|(refine gb ?_;intro b)|refine gn ?_|(refine RT.isPush ?_;refine gp ?_;intro a' c' b' c1' hac)|refine gc ?_|fail)
     refine RT.lookup (dk := .string) (r := some (.int .i64 2)) T rfl rfl (by ((repeat constructor);done)) trivial ⟨i, by rw [List.getElem?_set_self (List.getElem?_eq_some_iff.1 hgi).1]; rfl⟩ Tryz.underlying102 Tryz.underlying9 rfl rfl rfl ?_
     dsimp only [Option.getD]
     repeat' (first|(refine gv ?_;first|refine RT.id ?_|(refine⟨fun hc=>?_,fun hc=>?_⟩<;>first|(exfalso;omega)|skip)|refine gk ?_|refine num_m fun r hr=>?_|intro r hr)|refine gs ?_|(refine gb ?_;intro b)|refine gn ?_|(refine RT.isPush ?_;refine gp ?_;intro a' c' b' c1' hac)|refine gc ?_|fail)
     (refine RT.callP T rfl fR_ (must_fn (p := false) (e := 61) (t := full)) rfl rfl rfl (fun v H1 hp => ?_) (fun v H1 hp => ?_))
     ·obtain ⟨_, rfl, rfl⟩ := hp
      ((repeat refine nx ?_); exact AtQ.finP (H' := []) ⟨61, full, by rw [hG]; exact must_f (decide_eq_false (fun h => h hm)), rfl, rfl⟩ dR_)
     ·cases hp.1
    ·refine RT.lookup (dk := .string) (r := none) T rfl rfl (by ((repeat constructor);done)) trivial (gv_no hg hf hm) Tryz.underlying102 Tryz.underlying9 rfl rfl rfl ?_
     dsimp only [Option.getD]
     repeat' (first|(refine gv ?_;first|refine RT.id ?_|(refine⟨fun hc=>?_,fun hc=>?_⟩<;>first|(exfalso;omega)|skip)|refine gk ?_|refine num_m fun r hr=>?_|intro r hr)|refine gs ?_|(refine gb ?_;intro b)|refine gn ?_|(refine RT.isPush ?_;refine gp ?_;intro a' c' b' c1' hac)|refine gc ?_|fail)
     refine RT.mapNew (dk := .string) (l := gvl g) rfl rfl rfl (by ((repeat constructor);done)) trivial (gv_no hg hf hm) Tryz.underlying102 Tryz.underlying9 rfl ?_
     rw [show (0 : Int) + 1 = 1 from rfl, gv_push]
     obtain ⟨i, hgi⟩ := gv_in (g := g ++ [full]) (x := full) (by simp)
     repeat' (first|(refine gv ?_;first|refine RT.id ?_|(refine⟨fun hc=>?_,fun hc=>?_⟩<;>first|(exfalso;omega)|skip)|refine gk ?_|refine num_m fun r hr=>?_|intro r hr)|refine gs ?_|(refine gb ?_;intro b)|refine gn ?_|(refine RT.isPush ?_;refine gp ?_;intro a' c' b' c1' hac)|refine gc ?_|fail)
     refine RT.lookup (dk := .string) (r := some (.int .i64 1)) T rfl rfl (by ((repeat constructor);done)) trivial ⟨i, hgi⟩ Tryz.underlying102 Tryz.underlying9 rfl rfl rfl ?_
     dsimp only [Option.getD]
     repeat' (first|(refine gv ?_;first|refine RT.id ?_|(refine⟨fun hc=>?_,fun hc=>?_⟩<;>first|(exfalso;omega)|skip)|refine gk ?_|refine num_m fun r hr=>?_|intro r hr)|refine gs ?_|(refine gb ?_;intro b)|refine gn ?_|(refine RT.isPush ?_;refine gp ?_;intro a' c' b' c1' hac)|refine gc ?_|fail)
     (refine RT.callP T rfl fR_ (must_fn (p := true) (e := 61) (t := full)) rfl rfl rfl (fun v H1 hp => ?_) (fun v H1 hp => ?_))
     ·cases hp.1
     ·obtain ⟨_, rfl⟩ := hp
      repeat' (first|(refine gv ?_;first|refine RT.id ?_|(refine⟨fun hc=>?_,fun hc=>?_⟩<;>first|(exfalso;omega)|skip)|refine gk ?_|refine num_m fun r hr=>?_|intro r hr)|refine gs ?_|(refine gb ?_;intro b)|refine gn ?_|(refine RT.isPush ?_;refine gp ?_;intro a' c' b' c1' hac)|refine gc ?_|fail)
      exact AtQ.ofFinN (AtQ.fin0 Tryz.results115 (H' := [rdr br bm, giv bm (g ++ [full])]) ⟨g ++ [full], by rw [hG]; exact must_t (decide_eq_true hm), hg.push hf, rfl⟩ (fun w h => h) _ (.inl rfl))
  ·(refine RT.callP T rfl fR_ (must_fn (p := false) (e := 60) (t := full)) rfl rfl rfl (fun v H1 hp => ?_) (fun v H1 hp => ?_))
   ·obtain ⟨_, rfl, rfl⟩ := hp
    ((repeat refine nx ?_); exact AtQ.finP (H' := []) ⟨60, full, by unfold giveR; exact must_f (by rw [decide_eq_false (by omega)]; simp), rfl, rfl⟩ dR_)
   ·cases hp.1
set_option maxHeartbeats 1000000 in
theorem spans_fn {r : Rw SpanT} {lo hi : Int} {t : Txt} (hR : Rd B R r.a r.l.length r.c 2 (r.l.flatMap SpanT.cells)) (hk : r.l.length ≤ 140737488355328) :
  SpP B Tryz.prog 116 [r.v, .int .i32 lo, .int .i32 hi, vS t] R [] (PostO (spansF lo hi t [] r.l)) (PPO (spansF lo hi t [] r.l)) := by
 obtain ⟨a, c, l⟩ := r
 simp only [Rw.v] at *
 refine SpP.body Tryz.func116 rfl Tryz.ntmps116 (by simp) ?_
 simp only [argE, List.cons_append, List.nil_append, Nat.zero_add, Nat.reduceAdd]
 repeat' (first|(refine gv ?_;first|refine RT.id ?_|(refine⟨fun hc=>?_,fun hc=>?_⟩<;>first|(exfalso;omega)|skip)|refine gk ?_|refine num_m fun r hr=>?_|intro r hr)|refine gs ?_|(refine gb ?_;intro b)|refine gn ?_|(refine RT.isPush ?_;refine gp ?_;intro a' c' b' c1' hac)|refine gc ?_|fail)
 refine CT.loop (α := Nat) (fun i => [(0, .slice a l.length c), (1, .int .i32 lo), (2, .int .i32 hi), (3, vS t), (12, .slice a l.length c), (13, .int .i64 l.length), (14, .int .i64 i)]) (fun i => Pu (i ≤ l.length ∧ spansF lo hi t [] l = spansF lo hi t (l.take i) (l.drop i)) :: R) (fun i => l.length - i) 0
  ⟨rfl, rfl, rfl, rfl, rfl, rfl, rfl, trivial⟩ (fun w h => Sat.pu_in ⟨Nat.zero_le _, rfl⟩ h) (fun i => CT.pu fun ⟨hil, hF⟩ => ?_)
 repeat' (first|(refine gv ?_;first|refine RT.id ?_|(refine⟨fun hc=>?_,fun hc=>?_⟩<;>first|(exfalso;omega)|skip)|refine gk ?_|refine num_m fun r hr=>?_|intro r hr)|refine gs ?_|(refine gb ?_;intro b)|refine gn ?_|(refine RT.isPush ?_;refine gp ?_;intro a' c' b' c1' hac)|refine gc ?_|fail)
 ·have hi' : i < l.length := by omega
  rw [List.drop_eq_getElem_cons hi', spansF] at hF
  have hgi := List.getElem?_eq_getElem hi'
  have htk : l.take i ++ [l[i]] = l.take (i + 1) := by rw [List.take_add_one, hgi]; rfl
  rw [htk] at hF
  revert hF hgi htk
  generalize l[i] = s
  intro hF hgi htk
  refine RT.ix T (j := i * 2) rfl rfl rfl (by exact hR) (by omega) (by omega) (by omega) rfl rfl ?_
  refine RT.ldra T rfl (by exact hR) (l := s.cells) (flat_sub (f := SpanT.cells) (z := 2) (fun _ => rfl) l i _ hgi) rfl rfl rfl rfl ?_
  repeat' (first|(refine gv ?_;first|refine RT.id ?_|(refine⟨fun hc=>?_,fun hc=>?_⟩<;>first|(exfalso;omega)|skip)|refine gk ?_|refine num_m fun r hr=>?_|intro r hr)|refine gs ?_|(refine gb ?_;intro b)|refine gn ?_|(refine RT.isPush ?_;refine gp ?_;intro a' c' b' c1' hac)|refine gt ?_|refine gc ?_|fail)
  ·(refine RT.callP T rfl fR_ (must_fn (p := true) (e := 63) (t := t)) rfl rfl rfl (fun v H1 hp => ?_) (fun v H1 hp => ?_))
   ·cases hp.1
   obtain ⟨_, rfl⟩ := hp
   repeat' (first|(refine gv ?_;first|refine RT.id ?_|(refine⟨fun hc=>?_,fun hc=>?_⟩<;>first|(exfalso;omega)|skip)|refine gk ?_|refine num_m fun r hr=>?_|intro r hr)|refine gs ?_|(refine gb ?_;intro b)|refine gn ?_|(refine RT.isPush ?_;refine gp ?_;intro a' c' b' c1' hac)|refine gc ?_|fail)
   refine RT.slhi T (j := i) rfl rfl rfl (by have := Rd.le hR; omega) rfl rfl rfl ?_
   rw [asub_z]
   have hA := Rd.flatPre (f := SpanT.cells) (j := i) (fun _ => rfl) hR rfl hil
   have hAl : (l.take i).length = i := by rw [List.length_take]; omega
   generalize l.take i = ah at *
   simp only [List.nil_append]
   repeat' (first|(refine gv ?_;first|refine RT.id ?_|(refine⟨fun hc=>?_,fun hc=>?_⟩<;>first|(exfalso;omega)|skip)|refine gk ?_|refine num_m fun r hr=>?_|intro r hr)|refine gs ?_|(refine gb ?_;intro b)|refine gn ?_|(refine RT.isPush ?_;refine gp ?_;intro a' c' b' c1' hac)|refine gc ?_|fail)
   refine CT.loop (α := Nat) (fun k => [(0, .slice a l.length c), (1, .int .i32 lo), (2, .int .i32 hi), (3, vS t), (9, .pointer (some ⟨b, 0, none⟩)), (12, .slice a l.length c), (13, .int .i64 l.length), (14, .int .i64 i), (40, .slice a i c), (41, .int .i64 i), (42, .int .i64 k)])
    (fun k => Pu (k ≤ i ∧ ∀ o ∈ ah.take k, s.t < o.f ∨ o.t < s.f) :: Cs b 158 s.cells :: R) (fun k => i - k) 0
    ⟨rfl, rfl, rfl, rfl, rfl, rfl, rfl, rfl, rfl, rfl, rfl, trivial⟩ (fun w h => Sat.pu_in ⟨Nat.zero_le _, fun o ho => by simp at ho⟩ h) (fun k => CT.pu fun ⟨hki, hko⟩ => ?_)
   repeat' (first|(refine gv ?_;first|refine RT.id ?_|(refine⟨fun hc=>?_,fun hc=>?_⟩<;>first|(exfalso;omega)|skip)|refine gk ?_|refine num_m fun r hr=>?_|intro r hr)|refine gs ?_|(refine gb ?_;intro b)|refine gn ?_|(refine RT.isPush ?_;refine gp ?_;intro a' c' b' c1' hac)|refine gc ?_|fail)
   ·have hka : k < ah.length := by omega
    have hgk := List.getElem?_eq_getElem hka
    revert hgk
    generalize ah[k] = o
    intro hgk
    refine RT.ix T (j := k * 2) rfl rfl rfl (by exact Rd.cons hA) (by omega) (by omega) (by omega) rfl rfl ?_
    refine RT.ldra T rfl (by exact Rd.cons hA) (l := o.cells) (flat_sub (f := SpanT.cells) (z := 2) (fun _ => rfl) ah k _ hgk) rfl rfl rfl rfl ?_
    repeat' (first|(refine gv ?_;first|refine RT.id ?_|(refine⟨fun hc=>?_,fun hc=>?_⟩<;>first|(exfalso;omega)|skip)|refine gk ?_|refine num_m fun r hr=>?_|intro r hr)|refine gs ?_|(refine gb ?_;intro b)|refine gn ?_|(refine RT.isPush ?_;refine gp ?_;intro a' c' b' c1' hac)|refine gt ?_|refine gc ?_|fail)
    ·(refine RT.callP T rfl fR_ (must_fn (p := true) (e := 63) (t := t)) rfl rfl rfl (fun v H1 hp => ?_) (fun v H1 hp => ?_))
     ·cases hp.1
     ·obtain ⟨_, rfl⟩ := hp
      repeat' (first|(refine gv ?_;first|refine RT.id ?_|(refine⟨fun hc=>?_,fun hc=>?_⟩<;>first|(exfalso;omega)|skip)|refine gk ?_|refine num_m fun r hr=>?_|intro r hr)|refine gs ?_|(refine gb ?_;intro b)|refine gn ?_|(refine RT.isPush ?_;refine gp ?_;intro a' c' b' c1' hac)|refine gc ?_|fail)
      exact AtQ.loop (k + 1) ⟨rfl, rfl, rfl, rfl, rfl, rfl, rfl, rfl, rfl, rfl, rfl, trivial⟩ (fun w h => Sat.pu_in ⟨by omega, sm_take hgk hko (by omega)⟩ h.tail) (by omega)
    ·(refine RT.callP T rfl fR_ (must_fn (p := true) (e := 63) (t := t)) rfl rfl rfl (fun v H1 hp => ?_) (fun v H1 hp => ?_))
     ·cases hp.1
     ·obtain ⟨_, rfl⟩ := hp
      repeat' (first|(refine gv ?_;first|refine RT.id ?_|(refine⟨fun hc=>?_,fun hc=>?_⟩<;>first|(exfalso;omega)|skip)|refine gk ?_|refine num_m fun r hr=>?_|intro r hr)|refine gs ?_|(refine gb ?_;intro b)|refine gn ?_|(refine RT.isPush ?_;refine gp ?_;intro a' c' b' c1' hac)|refine gc ?_|fail)
      exact AtQ.loop (k + 1) ⟨rfl, rfl, rfl, rfl, rfl, rfl, rfl, rfl, rfl, rfl, rfl, trivial⟩ (fun w h => Sat.pu_in ⟨by omega, sm_take hgk hko (by omega)⟩ h.tail) (by omega)
    ·(refine RT.callP T rfl fR_ (must_fn (p := false) (e := 63) (t := t)) rfl rfl rfl (fun v H1 hp => ?_) (fun v H1 hp => ?_))
     ·obtain ⟨_, rfl, rfl⟩ := hp
      ((repeat refine nx ?_); exact AtQ.finP (H' := []) ⟨63, t, by rw [hF, if_neg (by rintro ⟨h1, h2, h3, h4⟩; have := h4 o (List.mem_of_getElem? hgk); omega)], rfl, rfl⟩ dR_)
     ·cases hp.1
   ·have hke : k = i := by omega
    subst hke
    rw [List.take_of_length_le (by omega)] at hko
    rw [if_pos ⟨by omega, by omega, by omega, hko⟩] at hF
    exact AtQ.loop (k + 1) ⟨rfl, rfl, rfl, rfl, rfl, rfl, rfl, trivial⟩ (fun w h => Sat.pu_in ⟨by omega, hF⟩ h.tail) (by omega)
  all_goals
   (refine RT.callP T rfl fR_ (must_fn (p := false) (e := 63) (t := t)) rfl rfl rfl (fun v H1 hp => ?_) (fun v H1 hp => ?_))
   ·obtain ⟨_, rfl, rfl⟩ := hp
    ((repeat refine nx ?_); exact AtQ.finP (H' := []) ⟨63, t, by rw [hF, if_neg (by rintro ⟨h1, h2, h3, _⟩; omega)], rfl, rfl⟩ dR_)
   ·cases hp.1
 ·refine AtQ.ofFinN (AtQ.fin0 Tryz.results116 (H' := []) ⟨?_, rfl⟩ (fun w h => h) _ (.inl rfl))
  rw [hF, List.drop_of_length_le (by omega)]
  cases l.take i <;> rfl
end Go.Proofs.YtdemnhdoadjhhaaGreatDoor
end
section
namespace Go.Proofs.YtdemnhdoadjhhaaGreatDoor
open Go.Sk
set_option maxRecDepth 100000
/-- Texts that can be read, are bytes and short. -/
structure TxR (B : World) (R : List HP) (r : Rw Txt) : Prop where
 rd : Rd B R r.a r.l.length r.c 1 (r.l.map vS)
 len : r.l.length ≤ 140737488355328
 byt : BL r.l
 sm : SmT r.l
theorem s2l {x y : Txt} (h1 : x.length ≤ 16777216) (h2 : y.length ≤ 16777216) : sumL [x, y] + [x, y].length ≤ 1000000000000 := by
 rw [s2]
 simp only [List.length_cons, List.length_nil]
 omega
theorem map_take {l : List Txt} {j : Nat} : (l.map vS).take (j * 1) = (l.take j).map vS := by rw [Nat.mul_one, List.map_take]
theorem Rd.txtPre {B : World} {H : List HP} {a : Option Addr} {k c j : Nat} {l : List Txt} (h : Rd B H a k c 1 (l.map vS)) (hj : j ≤ k) : Rd B H a j c 1 ((l.take j).map vS) := by
 have := Rd.pre h hj
 rwa [map_take] at this
attribute [local irreducible] Cs Own Ex Pu Yld RT LJ QJ AtQ CT Rd QSp Sp FinQ Then LoopQ CutQ DT TakeQ EffQ
variable {B : World} {R : List HP}
set_option maxHeartbeats 1000000 in
theorem reserved_fn {r : Rw Txt} {sc : Txt} (hr : TxR B R r) (hs : Byt sc) (hsl : sc.length ≤ 16777216) :
  SpP B Tryz.prog 117 [r.v, vS sc] R [] (PostO (namesF sc [] r.l)) (PPO (namesF sc [] r.l)) := by
 obtain ⟨a, c, l⟩ := r
 obtain ⟨hR, hk, hb, hsm⟩ := hr
 simp only [Rw.v] at *
 refine SpP.body Tryz.func117 rfl Tryz.ntmps117 (by simp) ?_
 simp only [argE, List.cons_append, List.nil_append, Nat.zero_add, Nat.reduceAdd]
 repeat' (first|(refine gv ?_;first|refine RT.id ?_|(refine⟨fun hc=>?_,fun hc=>?_⟩<;>first|(exfalso;omega)|skip)|refine gk ?_|refine num_m fun r hr=>?_|intro r hr)|refine gs ?_|(refine gb ?_;intro b)|refine gn ?_|(refine RT.isPush ?_;refine gp ?_;intro a' c' b' c1' hac)|refine gc ?_|fail)
 refine CT.loop (α := Nat) (fun i => [(0, .slice a l.length c), (1, vS sc), (7, .slice a l.length c), (8, .int .i64 l.length), (9, .int .i64 i)]) (fun i => Pu (i ≤ l.length ∧ namesF sc [] l = namesF sc (l.take i) (l.drop i)) :: R) (fun i => l.length - i) 0
  ⟨rfl, rfl, rfl, rfl, rfl, trivial⟩ (fun w h => Sat.pu_in ⟨Nat.zero_le _, rfl⟩ h) (fun i => CT.pu fun ⟨hil, hF⟩ => ?_)
 repeat' (first|(refine gv ?_;first|refine RT.id ?_|(refine⟨fun hc=>?_,fun hc=>?_⟩<;>first|(exfalso;omega)|skip)|refine gk ?_|refine num_m fun r hr=>?_|intro r hr)|refine gs ?_|(refine gb ?_;intro b)|refine gn ?_|(refine RT.isPush ?_;refine gp ?_;intro a' c' b' c1' hac)|refine gc ?_|fail)
 ·have hi' : i < l.length := by omega
  have hgi := List.getElem?_eq_getElem hi'
  rw [List.drop_eq_getElem_cons hi', namesF] at hF
  have htk : l.take i ++ [l[i]] = l.take (i + 1) := by rw [List.take_add_one, hgi]; rfl
  rw [htk] at hF
  have hbn := hb _ (List.getElem_mem hi')
  have hsn := hsm _ (List.getElem_mem hi')
  revert hF hgi htk hbn hsn
  generalize l[i] = n
  intro hF hgi htk hbn hsn
  refine RT.ix T (j := i) rfl rfl rfl (by exact hR) (by omega) (by omega) (by omega) rfl rfl ?_
  refine RT.ldr T rfl (by exact hR) (u := vS n) (by rw [List.getElem?_map, hgi]; rfl) rfl rfl rfl ?_
  repeat' (first|(refine gv ?_;first|refine RT.id ?_|(refine⟨fun hc=>?_,fun hc=>?_⟩<;>first|(exfalso;omega)|skip)|refine gk ?_|refine num_m fun r hr=>?_|intro r hr)|refine gs ?_|(refine gb ?_;intro b)|refine gn ?_|(refine RT.isPush ?_;refine gp ?_;intro a' c' b' c1' hac)|refine gc ?_|fail)
  (refine RT.bs T (l := strs [sc,  n]) rfl rfl rfl rfl rfl rfl rfl (fun a9 c9 h9 => ?_); (refine RT.call T rfl fR_ (join_fn (ls := [sc,  n]) (Own.rd (by ((repeat constructor);done)) rfl h9) rfl (b2  hs  hbn) ( s2l hsl hsn)) rfl rfl rfl ?_; rintro _ _ ⟨rfl, rfl⟩; try simp only [List.cons_append, List.nil_append]); refine RT.weak (fun w h => h.tail) ?_)
  repeat' (first|(refine gv ?_;first|refine RT.id ?_|(refine⟨fun hc=>?_,fun hc=>?_⟩<;>first|(exfalso;omega)|skip)|refine gk ?_|refine num_m fun r hr=>?_|intro r hr)|refine gs ?_|(refine gb ?_;intro b)|refine gn ?_|(refine RT.isPush ?_;refine gp ?_;intro a' c' b' c1' hac)|refine gc ?_|fail)
  (refine RT.call T rfl fR_ (ident_fn hbn (by omega)) rfl rfl rfl ?_; rintro _ _ ⟨rfl, rfl⟩; try simp only [List.cons_append, List.nil_append])
  repeat' (first|(refine gv ?_;first|refine RT.id ?_|(refine⟨fun hc=>?_,fun hc=>?_⟩<;>first|(exfalso;omega)|skip)|refine gk ?_|refine num_m fun r hr=>?_|intro r hr)|refine gs ?_|(refine gb ?_;intro b)|refine gn ?_|(refine RT.isPush ?_;refine gp ?_;intro a' c' b' c1' hac)|refine gc ?_|fail)
  cases hid : identB n
  ·rw [hid, if_neg (by decide)] at hF
   (refine RT.callP T rfl fR_ (must_fn (p := false) (e := 60) (t := joinL [sc, n])) rfl rfl rfl (fun v H1 hp => ?_) (fun v H1 hp => ?_))
   ·obtain ⟨_, rfl, rfl⟩ := hp
    ((repeat refine nx ?_); exact AtQ.finP (H' := []) ⟨60, joinL [sc, n], hF, rfl, rfl⟩ dR_)
   ·cases hp.1
  ·rw [hid, if_pos rfl] at hF
   (refine RT.callP T rfl fR_ (must_fn (p := true) (e := 60) (t := joinL [sc, n])) rfl rfl rfl (fun v H1 hp => ?_) (fun v H1 hp => ?_))
   ·cases hp.1
   ·obtain ⟨_, rfl⟩ := hp
    repeat' (first|(refine gv ?_;first|refine RT.id ?_|(refine⟨fun hc=>?_,fun hc=>?_⟩<;>first|(exfalso;omega)|skip)|refine gk ?_|refine num_m fun r hr=>?_|intro r hr)|refine gs ?_|(refine gb ?_;intro b)|refine gn ?_|(refine RT.isPush ?_;refine gp ?_;intro a' c' b' c1' hac)|refine gc ?_|fail)
    refine RT.slhi T (j := i) rfl rfl rfl (by have := Rd.le hR; omega) rfl rfl rfl ?_
    rw [asub_z]
    have hA := Rd.txtPre (j := i) hR hil
    have hAl : (l.take i).length = i := by rw [List.length_take]; omega
    have hAb : BL (l.take i) := fun t ht => hb t (List.mem_of_mem_take ht)
    simp only [List.nil_append]
    repeat' (first|(refine gv ?_;first|refine RT.id ?_|(refine⟨fun hc=>?_,fun hc=>?_⟩<;>first|(exfalso;omega)|skip)|refine gk ?_|refine num_m fun r hr=>?_|intro r hr)|refine gs ?_|(refine gb ?_;intro b)|refine gn ?_|(refine RT.isPush ?_;refine gp ?_;intro a' c' b' c1' hac)|refine gc ?_|fail)
    (refine RT.call T rfl fR_ (contT_fn hAl (by omega) hA hAb hbn) rfl rfl rfl ?_; rintro _ _ ⟨rfl, rfl⟩; try simp only [List.cons_append, List.nil_append])
    by_cases hm : n ∈ l.take i
    ·rw [decide_eq_true hm]
     rw [if_pos hm] at hF
     repeat' (first|(refine gv ?_;first|refine RT.id ?_|(refine⟨fun hc=>?_,fun hc=>?_⟩<;>first|(exfalso;omega)|skip)|refine gk ?_|refine num_m fun r hr=>?_|intro r hr)|refine gs ?_|(refine gb ?_;intro b)|refine gn ?_|(refine RT.isPush ?_;refine gp ?_;intro a' c' b' c1' hac)|refine gc ?_|fail)
     (refine RT.callP T rfl fR_ (must_fn (p := false) (e := 61) (t := joinL [sc, n])) rfl rfl rfl (fun v H1 hp => ?_) (fun v H1 hp => ?_))
     ·obtain ⟨_, rfl, rfl⟩ := hp
      ((repeat refine nx ?_); exact AtQ.finP (H' := []) ⟨61, joinL [sc, n], hF, rfl, rfl⟩ dR_)
     ·cases hp.1
    ·rw [decide_eq_false hm]
     rw [if_neg hm] at hF
     repeat' (first|(refine gv ?_;first|refine RT.id ?_|(refine⟨fun hc=>?_,fun hc=>?_⟩<;>first|(exfalso;omega)|skip)|refine gk ?_|refine num_m fun r hr=>?_|intro r hr)|refine gs ?_|(refine gb ?_;intro b)|refine gn ?_|(refine RT.isPush ?_;refine gp ?_;intro a' c' b' c1' hac)|refine gc ?_|fail)
     (refine RT.callP T rfl fR_ (must_fn (p := true) (e := 61) (t := joinL [sc, n])) rfl rfl rfl (fun v H1 hp => ?_) (fun v H1 hp => ?_))
     ·cases hp.1
     ·obtain ⟨_, rfl⟩ := hp
      repeat' (first|(refine gv ?_;first|refine RT.id ?_|(refine⟨fun hc=>?_,fun hc=>?_⟩<;>first|(exfalso;omega)|skip)|refine gk ?_|refine num_m fun r hr=>?_|intro r hr)|refine gs ?_|(refine gb ?_;intro b)|refine gn ?_|(refine RT.isPush ?_;refine gp ?_;intro a' c' b' c1' hac)|refine gc ?_|fail)
      exact AtQ.loop (i + 1) ⟨rfl, rfl, rfl, rfl, rfl, trivial⟩ (fun w h => Sat.pu_in ⟨by omega, hF⟩ h) (by omega)
 ·refine AtQ.ofFinN (AtQ.fin0 Tryz.results117 (H' := []) ⟨?_, rfl⟩ (fun w h => h) _ (.inl rfl))
  rw [hF, List.drop_of_length_le (by omega)]
  cases l.take i <;> rfl
end Go.Proofs.YtdemnhdoadjhhaaGreatDoor
end
section
namespace Go.Proofs.YtdemnhdoadjhhaaGreatDoor
open Go.Sk
set_option maxRecDepth 100000
attribute [local irreducible] Cs Own Ex Pu Yld RT LJ QJ AtQ CT Rd QSp Sp FinQ Then LoopQ CutQ DT TakeQ EffQ
variable {B : World} {R : List HP}
theorem symE_len (fl sc : Txt) (e : EnumT) : (symE fl sc e).length = cntE e := by unfold symE cntE; simp; omega
theorem symEs_len (fl sc : Txt) (l : List EnumT) : (l.flatMap (symE fl sc)).length = (l.map cntE).sum := by
 induction l with
 | nil => rfl
 | cons e l ih => rw [List.flatMap_cons, List.length_append, ih, symE_len, List.map_cons, List.sum_cons]
mutual
theorem symM_len (fl : Txt) : ∀ (m : MsgT) (sc : Txt), (symM fl m sc).length = cntM m
 | .mk nm fields oneofs ma mc msgs enums res names, sc => by
  unfold symM cntM
  simp only [List.length_cons, List.length_append, List.length_map, symMs_len fl msgs, symEs_len]
  omega
theorem symMs_len (fl : Txt) : ∀ (l : List MsgT) (sc : Txt), (symMs fl l sc).length = cntMs l
 | [], sc => by unfold symMs cntMs; rfl
 | m :: l, sc => by unfold symMs cntMs; rw [List.length_append, symM_len fl m, symMs_len fl l]
end
theorem len_snoc {α : Type} {l : List α} {x : α} {i : Nat} (h : l[i]? = some x) : l.take i ++ [x] = l.take (i + 1) := by rw [List.take_add_one, h]; rfl
theorem map_snoc {α β : Type} {f : α → β} {l : List α} {x : α} {i : Nat} (h : l[i]? = some x) : (l.take i).map f ++ [f x] = (l.take (i + 1)).map f := by rw [List.take_add_one, h]; simp
set_option maxHeartbeats 4000000 in
theorem senum_fn {xb : Nat} {fl : Txt} {a : Option Addr} {c : Nat} {l : List SymT} {e : EnumT} {sc : Txt} (hin : e.In (Rd B R)) (hok : e.Ok) (hnm : ENm e) (hs : Byt sc) (hsl : sc.length ≤ 16777216) (hl : l.length + cntE e ≤ 1073741824) :
  Sp B Tryz.prog 55 [ptr xb, .agg e.cells.toArray, vS sc] R (lst xb fl a c l) (fun v H' => v = .tuple #[] ∧ ∃ a' c', H' = lst xb fl a' c' (l ++ symE fl sc e)) := by
 obtain ⟨nm, ⟨va, vc, vl⟩, ali, ⟨ra, rc, rl⟩, ⟨na, nc, nl⟩⟩ := e
 obtain ⟨hv, _, _⟩ := hin
 obtain ⟨⟨ho1, _⟩, ⟨ho2, _⟩, ho3, _, _, _, _⟩ := hok
 obtain ⟨hm1, hm2, _⟩ := hnm
 unfold cntE at hl
 dsimp only at hv ho1 ho2 ho3 hm1 hm2 hl
 unfold symE
 dsimp only [EnumT.cells, Rw.v]
 refine Sp.body Tryz.func55 rfl Tryz.ntmps55 (by simp) ?_
 simp only [argE, List.cons_append, List.nil_append, Nat.zero_add, Nat.reduceAdd]
 repeat' (first|(refine gv ?_;first|refine RT.id ?_|(refine⟨fun hc=>?_,fun hc=>?_⟩<;>first|(exfalso;omega)|skip)|refine gk ?_|refine num_m fun r hr=>?_|intro r hr)|refine gs ?_|(refine gb ?_;intro b)|refine gn ?_|(refine RT.isPush ?_;refine gp ?_;intro a' c' b' c1' hac)|refine gc ?_|fail)
 revert b
 intro eb
 (refine RT.bs T (l := strs [sc,  nm]) rfl rfl rfl rfl rfl rfl rfl (fun a9 c9 h9 => ?_); (refine RT.call T rfl fR_ (rjoin_fn (ls := [sc,  nm]) (Own.rd (by ((repeat constructor);done)) rfl h9) rfl (b2  hs  ho1) ( s2l hsl hm1)) rfl rfl rfl ?_; rintro _ _ ⟨rfl, rfl⟩; try simp only [List.cons_append, List.nil_append]); refine RT.weak (fun w h => h.tail) ?_)
 repeat' (first|(refine gv ?_;first|refine RT.id ?_|(refine⟨fun hc=>?_,fun hc=>?_⟩<;>first|(exfalso;omega)|skip)|refine gk ?_|refine num_m fun r hr=>?_|intro r hr)|refine gs ?_|(refine gb ?_;intro b)|refine gn ?_|(refine RT.isPush ?_;refine gp ?_;intro a' c' b' c1' hac)|refine gc ?_|fail)
 have hjl := @j2_len sc nm
 refine RT.call T rfl (by (repeat (first|exact Fr.nil|(apply Fr.cons;focus ((repeat constructor);done))))) (put_fn (b := xb) (fl := fl) (s := joinL [sc, nm]) (k := 2) (a := a) (c := c) (l := l) (by omega)) rfl rfl rfl ?_
 rintro _ _ ⟨rfl, a1, c1, rfl⟩
 simp only [List.cons_append, List.nil_append]
 repeat' (first|(refine gv ?_;first|refine RT.id ?_|(refine⟨fun hc=>?_,fun hc=>?_⟩<;>first|(exfalso;omega)|skip)|refine gk ?_|refine num_m fun r hr=>?_|intro r hr)|refine gs ?_|(refine gb ?_;intro b)|refine gn ?_|(refine RT.isPush ?_;refine gp ?_;intro a' c' b' c1' hac)|refine gc ?_|fail)
 obtain ⟨es, hes⟩ : ∃ es, es = [vS nm, Value.slice va vl.length vc, Value.bool ali, Value.slice ra rl.length rc, Value.slice na nl.length nc] := ⟨_, rfl⟩
 rw [← hes]
 refine CT.loop (α := Nat × Option Addr × Nat) (fun s => [(0, ptr xb), (2, vS sc), (4, .pointer (some ⟨eb, 0, none⟩)), (7, .int .i64 s.1)])
  (fun s => Pu (s.1 ≤ vl.length) :: (lst xb fl s.2.1 s.2.2 (l ++ [⟨joinL [sc, nm], 2, fl⟩] ++ (vl.take s.1).map (fun v => ⟨joinL [sc, v.nm], 3, fl⟩)) ++ Cs eb 109 es :: R)) (fun s => vl.length - s.1) (0, a1, c1)
  ⟨rfl, rfl, rfl, rfl, trivial⟩ (fun w h => Sat.pu_in (Nat.zero_le _) (by dsimp only; rw [List.take_zero, List.map_nil, List.append_nil]; exact h)) (fun ⟨i, a2, c2⟩ => CT.pu fun hil => ?_)
 dsimp only at hil ⊢
 subst hes
 simp only [List.cons_append, List.nil_append]
 repeat' (first|(refine gv ?_;first|refine RT.id ?_|(refine⟨fun hc=>?_,fun hc=>?_⟩<;>first|(exfalso;omega)|skip)|refine gk ?_|refine num_m fun r hr=>?_|intro r hr)|refine gs ?_|(refine gb ?_;intro b)|refine gn ?_|(refine RT.isPush ?_;refine gp ?_;intro a' c' b' c1' hac)|refine gc ?_|fail)
 ·have hi' : i < vl.length := by omega
  have hgi := List.getElem?_eq_getElem hi'
  revert hgi
  generalize vl[i] = ev
  intro hgi
  have hme := List.mem_of_getElem? hgi
  have hvb := (ho3 ev hme).1.1
  have hvs := hm2 ev hme
  refine RT.ix T (j := i * 2) rfl rfl rfl (by repeat (first | exact (hv) | apply Rd.cons)) (by omega) (by omega) (by omega) rfl rfl ?_
  refine RT.faA T rfl rfl rfl rfl ?_
  refine RT.ldr (u := vS ev.nm) T rfl (by repeat (first | exact (hv) | apply Rd.cons)) (by rw [flat_get (f := EValT.cells) (z := 2) (fun _ => rfl) hgi (by decide)]; rfl) rfl rfl rfl ?_
  (refine RT.bs T (l := strs [sc,  ev.nm]) rfl rfl rfl rfl rfl rfl rfl (fun a9 c9 h9 => ?_); (refine RT.call T rfl fR_ (rjoin_fn (ls := [sc,  ev.nm]) (Own.rd (by ((repeat constructor);done)) rfl h9) rfl (b2  hs  hvb) ( s2l hsl hvs)) rfl rfl rfl ?_; rintro _ _ ⟨rfl, rfl⟩; try simp only [List.cons_append, List.nil_append]); refine RT.weak (fun w h => h.tail) ?_)
  repeat' (first|(refine gv ?_;first|refine RT.id ?_|(refine⟨fun hc=>?_,fun hc=>?_⟩<;>first|(exfalso;omega)|skip)|refine gk ?_|refine num_m fun r hr=>?_|intro r hr)|refine gs ?_|(refine gb ?_;intro b)|refine gn ?_|(refine RT.isPush ?_;refine gp ?_;intro a' c' b' c1' hac)|refine gc ?_|fail)
  refine RT.call T rfl (by (repeat (first|exact Fr.nil|(apply Fr.cons;focus ((repeat constructor);done))))) (put_fn (b := xb) (fl := fl) (s := joinL [sc, ev.nm]) (k := 3) (by simp; omega)) rfl rfl rfl ?_
  rintro _ _ ⟨rfl, a3, c3, rfl⟩
  simp only [List.cons_append, List.nil_append]
  repeat' (first|(refine gv ?_;first|refine RT.id ?_|(refine⟨fun hc=>?_,fun hc=>?_⟩<;>first|(exfalso;omega)|skip)|refine gk ?_|refine num_m fun r hr=>?_|intro r hr)|refine gs ?_|(refine gb ?_;intro b)|refine gn ?_|(refine RT.isPush ?_;refine gp ?_;intro a' c' b' c1' hac)|refine gc ?_|fail)
  refine AtQ.loop (i + 1, a3, c3) ⟨rfl, rfl, rfl, rfl, trivial⟩ (fun w h => Sat.pu_in (by dsimp only; omega) ?_) (by dsimp only; omega)
  dsimp only
  rw [← map_snoc hgi, ← List.append_assoc]
  exact h
 ·refine AtQ.fin0 Tryz.results55 (H' := lst xb fl a2 c2 (l ++ (⟨joinL [sc, nm], 2, fl⟩ :: vl.map (fun v => ⟨joinL [sc, v.nm], 3, fl⟩)))) ⟨rfl, a2, c2, rfl⟩ (fun w h => ?_) _ (by first | exact .inl rfl | exact .inr rfl)
  rw [List.take_of_length_le (by omega), List.append_assoc] at h
  exact h.frd (Ps := [_, _]) (Qs := [_]) (by (repeat (first|exact Fr.nil|(apply Fr.cons;focus ((repeat constructor);done)))))
end Go.Proofs.YtdemnhdoadjhhaaGreatDoor
end
section
namespace Go.Proofs.YtdemnhdoadjhhaaGreatDoor
open Go.Sk
set_option maxRecDepth 100000
abbrev cPut (lb fb : Nat) : Value := .func (.func 37) #[] #[ptr lb, ptr fb]
abbrev cEnum (pb : Nat) : Value := .func (.func 39) #[] #[ptr pb]
abbrev cMsg (pb mb eb : Nat) : Value := .func (.func 40) #[] #[ptr pb, ptr mb, ptr eb]
/-- The symbols that are come to: the variable, its row, the file. -/
abbrev syl (lb fb : Nat) (fcl : List Value) (a : Option Addr) (c : Nat) (l : List SymT) : List HP :=
 [Cs lb 35 [.slice a l.length c], Own a c 79 3 l.length (l.flatMap SymT.cells), Cs fb 26 fcl]
attribute [local irreducible] Cs Own Ex Pu Yld RT LJ QJ AtQ CT Rd QSp Sp FinQ Then LoopQ CutQ DT TakeQ EffQ
variable {B : World} {R : List HP}
set_option maxHeartbeats 2000000 in
theorem cput_fn {lb fb : Nat} {path sc nm : Txt} {v1 v2 v3 v4 : Value} {k : Int} {a : Option Addr} {c : Nat} {l : List SymT} (hs : Byt sc) (hn : Byt nm) (h1 : sc.length ≤ 16777216) (h2 : nm.length ≤ 16777216) (hl : l.length ≤ 1073741824) :
  Sp B Tryz.prog 37 [vS sc, vS nm, .int .u8 k, ptr lb, ptr fb] R (syl lb fb [vS path, v1, v2, v3, v4] a c l) (fun v H' => v = vS (joinL [sc, nm]) ∧ ∃ a' c', H' = syl lb fb [vS path, v1, v2, v3, v4] a' c' (l ++ [⟨joinL [sc, nm], k, path⟩])) := by
 refine Sp.body Tryz.func37 rfl Tryz.ntmps37 (by simp) ?_
 simp only [argE, List.cons_append, List.nil_append, Nat.zero_add, Nat.reduceAdd]
 repeat' (first|(refine gv ?_;first|refine RT.id ?_|(refine⟨fun hc=>?_,fun hc=>?_⟩<;>first|(exfalso;omega)|skip)|refine gk ?_|refine num_m fun r hr=>?_|intro r hr)|refine gs ?_|(refine gb ?_;intro b)|refine gn ?_|(refine RT.isPush ?_;refine gp ?_;intro a' c' b' c1' hac)|refine gc ?_|fail)
 (refine RT.bs T (l := strs [sc,  nm]) rfl rfl rfl rfl rfl rfl rfl (fun a9 c9 h9 => ?_); (refine RT.call T rfl fR_ (join_fn (ls := [sc,  nm]) (Own.rd (by ((repeat constructor);done)) rfl h9) rfl (b2  hs  hn) ( s2l h1 h2)) rfl rfl rfl ?_; rintro _ _ ⟨rfl, rfl⟩; try simp only [List.cons_append, List.nil_append]); refine RT.weak (fun w h => h.tail) ?_)
 repeat' (first|(refine gv ?_;first|refine RT.id ?_|(refine⟨fun hc=>?_,fun hc=>?_⟩<;>first|(exfalso;omega)|skip)|refine gk ?_|refine num_m fun r hr=>?_|intro r hr)|refine gs ?_|(refine gb ?_;intro b)|refine gn ?_|(refine RT.isPush ?_;refine gp ?_;intro a' c' b' c1' hac)|refine gc ?_|fail)
 generalize joinL [sc, nm] = full at *
 refine RT.bsA T (l := [vS full, .int .u8 k, vS path]) rfl rfl rfl rfl rfl rfl rfl rfl (fun b' => ?_)
 refine RT.app T (xs := l.flatMap SymT.cells) (ys := (⟨full, k, path⟩ : SymT).cells) rfl rfl rfl (fun a' c' => by ((repeat constructor);done)) (Own.rd (by ((repeat constructor);done)) rfl (Nat.le_refl _)) (one_sym _) (by omega) (by omega) rfl rfl rfl rfl (fun a' c' hac => ?_)
 repeat' (first|(refine gv ?_;first|refine RT.id ?_|(refine⟨fun hc=>?_,fun hc=>?_⟩<;>first|(exfalso;omega)|skip)|refine gk ?_|refine num_m fun r hr=>?_|intro r hr)|refine gs ?_|(refine gb ?_;intro b)|refine gn ?_|(refine RT.isPush ?_;refine gp ?_;intro a' c' b' c1' hac)|refine gc ?_|fail)
 refine AtQ.fin1 Tryz.results37 (H' := syl lb fb [vS path, v1, v2, v3, v4] a' c' (l ++ [⟨full, k, path⟩])) rfl ⟨rfl, a', c', rfl⟩ (fun w h => ?_)
 unfold syl
 rw [List.length_append, List.length_singleton, List.flatMap_append, List.flatMap_singleton]
 exact h.frd (Ps := [_, _, _]) (Qs := [_]) (by (repeat (first|exact Fr.nil|(apply Fr.cons;focus ((repeat constructor);done)))))
set_option maxHeartbeats 4000000 in
theorem cenum_fn {pb lb fb : Nat} {path sc : Txt} {v1 v2 v3 v4 : Value} {a : Option Addr} {c : Nat} {l : List SymT} {e : EnumT} (hin : e.In (Rd B R)) (hok : e.Ok) (hnm : ENm e) (hs : Byt sc) (hsl : sc.length ≤ 16777216) (hl : l.length + cntE e ≤ 1073741824) :
  Sp B Tryz.prog 39 [.agg e.cells.toArray, vS sc, ptr pb] R (Cs pb 106 [cPut lb fb] :: syl lb fb [vS path, v1, v2, v3, v4] a c l)
   (fun v H' => v = .tuple #[] ∧ ∃ a' c', H' = Cs pb 106 [cPut lb fb] :: syl lb fb [vS path, v1, v2, v3, v4] a' c' (l ++ symE path sc e)) := by
 obtain ⟨nm, ⟨va, vc, vl⟩, ali, ⟨ra, rc, rl⟩, ⟨na, nc, nl⟩⟩ := e
 obtain ⟨hv, _, _⟩ := hin
 obtain ⟨⟨ho1, _⟩, ⟨ho2, _⟩, ho3, _, _, _, _⟩ := hok
 obtain ⟨hm1, hm2, _⟩ := hnm
 unfold cntE at hl
 dsimp only at hv ho1 ho2 ho3 hm1 hm2 hl
 unfold symE
 dsimp only [EnumT.cells, Rw.v]
 refine Sp.body Tryz.func39 rfl Tryz.ntmps39 (by simp) ?_
 simp only [argE, List.cons_append, List.nil_append, Nat.zero_add, Nat.reduceAdd]
 repeat' (first|(refine gv ?_;first|refine RT.id ?_|(refine⟨fun hc=>?_,fun hc=>?_⟩<;>first|(exfalso;omega)|skip)|refine gk ?_|refine num_m fun r hr=>?_|intro r hr)|refine gs ?_|(refine gb ?_;intro b)|refine gn ?_|(refine RT.isPush ?_;refine gp ?_;intro a' c' b' c1' hac)|refine gc ?_|fail)
 revert b
 intro eb
 refine RT.callC T (caps := [ptr lb, ptr fb]) rfl rfl (by (repeat (first|exact Fr.nil|(apply Fr.cons;focus ((repeat constructor);done))))) (cput_fn (lb := lb) (fb := fb) (path := path) (v1 := v1) (v2 := v2) (v3 := v3) (v4 := v4) (a := a) (c := c) (l := l) (k := 2) hs ho1 hsl hm1 (by omega)) rfl rfl rfl ?_
 rintro _ _ ⟨rfl, a1, c1, rfl⟩
 simp only [List.cons_append, List.nil_append]
 repeat' (first|(refine gv ?_;first|refine RT.id ?_|(refine⟨fun hc=>?_,fun hc=>?_⟩<;>first|(exfalso;omega)|skip)|refine gk ?_|refine num_m fun r hr=>?_|intro r hr)|refine gs ?_|(refine gb ?_;intro b)|refine gn ?_|(refine RT.isPush ?_;refine gp ?_;intro a' c' b' c1' hac)|refine gc ?_|fail)
 obtain ⟨es, hes⟩ : ∃ es, es = [vS nm, Value.slice va vl.length vc, Value.bool ali, Value.slice ra rl.length rc, Value.slice na nl.length nc] := ⟨_, rfl⟩
 rw [← hes]
 refine CT.loop (α := Nat × Option Addr × Nat) (fun s => [(1, vS sc), (2, ptr pb), (13, .slice va vl.length vc), (14, .int .i64 vl.length), (15, .int .i64 s.1)])
  (fun s => Pu (s.1 ≤ vl.length) :: Cs pb 106 [cPut lb fb] :: (syl lb fb [vS path, v1, v2, v3, v4] s.2.1 s.2.2 (l ++ [⟨joinL [sc, nm], 2, path⟩] ++ (vl.take s.1).map (fun v => ⟨joinL [sc, v.nm], 3, path⟩)) ++ Cs eb 109 es :: R)) (fun s => vl.length - s.1) (0, a1, c1)
  ⟨rfl, rfl, rfl, rfl, rfl, trivial⟩ (fun w h => Sat.pu_in (Nat.zero_le _) (by dsimp only; rw [List.take_zero, List.map_nil, List.append_nil]; exact h.frd (Ps := [_, _, _, _, _]) (Qs := []) (by (repeat (first|exact Fr.nil|(apply Fr.cons;focus ((repeat constructor);done))))))) (fun ⟨i, a2, c2⟩ => CT.pu fun hil => ?_)
 dsimp only at hil ⊢
 simp only [List.cons_append, List.nil_append]
 repeat' (first|(refine gv ?_;first|refine RT.id ?_|(refine⟨fun hc=>?_,fun hc=>?_⟩<;>first|(exfalso;omega)|skip)|refine gk ?_|refine num_m fun r hr=>?_|intro r hr)|refine gs ?_|(refine gb ?_;intro b)|refine gn ?_|(refine RT.isPush ?_;refine gp ?_;intro a' c' b' c1' hac)|refine gc ?_|fail)
 ·have hi' : i < vl.length := by omega
  have hgi := List.getElem?_eq_getElem hi'
  revert hgi
  generalize vl[i] = ev
  intro hgi
  have hme := List.mem_of_getElem? hgi
  have hvb := (ho3 ev hme).1.1
  have hvs := hm2 ev hme
  refine RT.ix T (j := i * 2) rfl rfl rfl (by repeat (first | exact (hv) | apply Rd.cons)) (by omega) (by omega) (by omega) rfl rfl ?_
  refine RT.ldra T rfl (by repeat (first | exact (hv) | apply Rd.cons)) (l := ev.cells) (flat_sub (f := EValT.cells) (z := 2) (fun _ => rfl) vl i _ hgi) rfl rfl rfl rfl ?_
  dsimp only [EValT.cells]
  repeat' (first|(refine gv ?_;first|refine RT.id ?_|(refine⟨fun hc=>?_,fun hc=>?_⟩<;>first|(exfalso;omega)|skip)|refine gk ?_|refine num_m fun r hr=>?_|intro r hr)|refine gs ?_|(refine gb ?_;intro b)|refine gn ?_|(refine RT.isPush ?_;refine gp ?_;intro a' c' b' c1' hac)|refine gt ?_|refine gc ?_|fail)
  refine RT.callC T (caps := [ptr lb, ptr fb]) rfl rfl (by (repeat (first|exact Fr.nil|(apply Fr.cons;focus ((repeat constructor);done))))) (cput_fn (lb := lb) (fb := fb) (path := path) (v1 := v1) (v2 := v2) (v3 := v3) (v4 := v4) (k := 3) hs hvb hsl hvs (by simp; omega)) rfl rfl rfl ?_
  rintro _ _ ⟨rfl, a3, c3, rfl⟩
  simp only [List.cons_append, List.nil_append]
  repeat' (first|(refine gv ?_;first|refine RT.id ?_|(refine⟨fun hc=>?_,fun hc=>?_⟩<;>first|(exfalso;omega)|skip)|refine gk ?_|refine num_m fun r hr=>?_|intro r hr)|refine gs ?_|(refine gb ?_;intro b)|refine gn ?_|(refine RT.isPush ?_;refine gp ?_;intro a' c' b' c1' hac)|refine gc ?_|fail)
  refine AtQ.loop (i + 1, a3, c3) ⟨rfl, rfl, rfl, rfl, rfl, trivial⟩ (fun w h => Sat.pu_in (by dsimp only; omega) ?_) (by dsimp only; omega)
  dsimp only
  rw [← map_snoc hgi, ← List.append_assoc]
  exact h.frd (Ps := [_, _, _, _, _]) (Qs := [_]) (by (repeat (first|exact Fr.nil|(apply Fr.cons;focus ((repeat constructor);done)))))
 ·refine AtQ.fin0 Tryz.results39 (H' := Cs pb 106 [cPut lb fb] :: syl lb fb [vS path, v1, v2, v3, v4] a2 c2 (l ++ (⟨joinL [sc, nm], 2, path⟩ :: vl.map (fun v => ⟨joinL [sc, v.nm], 3, path⟩)))) ⟨rfl, a2, c2, rfl⟩ (fun w h => ?_) _ (by first | exact .inl rfl | exact .inr rfl)
  rw [List.take_of_length_le (by omega), List.append_assoc] at h
  exact h.frd (Ps := [_, _, _, _]) (Qs := [_]) (by (repeat (first|exact Fr.nil|(apply Fr.cons;focus ((repeat constructor);done)))))
end Go.Proofs.YtdemnhdoadjhhaaGreatDoor
end
section
namespace Go.Proofs.YtdemnhdoadjhhaaGreatDoor
open Go.Sk
set_option maxRecDepth 100000
theorem sum_snoc {α : Type} {f : α → Nat} {l : List α} {i : Nat} {x : α} (h : l[i]? = some x) : ((l.take i).map f).sum + f x ≤ (l.map f).sum := by
 have h2 : l = l.take i ++ x :: l.drop (i + 1) := by
  obtain ⟨hi, rfl⟩ := List.getElem?_eq_some_iff.1 h
  rw [← List.drop_eq_getElem_cons hi, List.take_append_drop]
 have h3 := congrArg (fun l => (l.map f).sum) h2
 simp only [List.map_append, List.map_cons, List.sum_append, List.sum_cons] at h3
 omega
theorem symMs_app (fl sc : Txt) : ∀ a b : List MsgT, symMs fl (a ++ b) sc = symMs fl a sc ++ symMs fl b sc
 | [], b => by rw [List.nil_append, show symMs fl [] sc = [] by rw [symMs], List.nil_append]
 | m :: a, b => by rw [List.cons_append, symMs, symMs, symMs_app fl sc a b, List.append_assoc]
theorem symMs_snoc {fl sc : Txt} {l : List MsgT} {x : MsgT} {i : Nat} (h : l[i]? = some x) : symMs fl (l.take i) sc ++ symM fl x sc = symMs fl (l.take (i + 1)) sc := by
 rw [List.take_add_one, h, symMs_app]
 congr 1
 show _ = symMs fl [x] sc
 rw [symMs, symMs, List.append_nil]
theorem flat_snoc {α β : Type} {f : α → List β} {l : List α} {x : α} {i : Nat} (h : l[i]? = some x) : (l.take i).flatMap f ++ f x = (l.take (i + 1)).flatMap f := by rw [List.take_add_one, h]; simp
theorem j2_len' {x y : Txt} : (joinL [x, y]).length ≤ x.length + y.length + 1 := by
 rw [J_def]
 split
 ·omega
 ·split
  ·omega
  ·rw [List.length_append, List.length_cons]; omega
theorem symM_eq (fl nm : Txt) (fields : Rw FieldT) (oneofs : Rw Txt) (ma : Option Addr) (mc : Nat) (msgs : List MsgT) (enums : Rw EnumT) (res : Rw SpanT) (names : Rw Txt) (sc full : Txt) (hf : full = joinL [sc, nm]) (l : List SymT) :
  l ++ symM fl (.mk nm fields oneofs ma mc msgs enums res names) sc = l ++ [⟨full, 1, fl⟩] ++ fields.l.map (fun f => ⟨joinL [full, f.nm], 4, fl⟩) ++ oneofs.l.map (fun o => ⟨joinL [full, o], 5, fl⟩) ++ symMs fl msgs full ++ enums.l.flatMap (symE fl full) := by
 subst hf
 unfold symM
 simp only [List.append_assoc, List.cons_append, List.nil_append]
attribute [local irreducible] Cs Own Ex Pu Yld RT LJ QJ AtQ CT Rd QSp Sp FinQ Then LoopQ CutQ DT TakeQ EffQ
variable {B : World}
set_option maxHeartbeats 8000000 in
theorem smsg_fn (d : Nat) : ∀ {R : List HP} {xb : Nat} {fl : Txt} {a : Option Addr} {c : Nat} {l : List SymT} {m : MsgT} {sc : Txt} {ah : Int}, m.deep ≤ d → m.In (Rd B R) → m.Ok → m.Nm → m.Ful ah → Byt sc → (sc.length : Int) ≤ ah → l.length + cntM m ≤ 1073741824 →
  Sp B Tryz.prog 54 [ptr xb, .agg m.cells.toArray, vS sc] R (lst xb fl a c l) (fun v H' => v = .tuple #[] ∧ ∃ a' c', H' = lst xb fl a' c' (l ++ symM fl m sc)) := by
 induction d using Nat.strongRecOn with
 | _ d ih =>
 intro R xb fl a c l m sc ah hd hin hok hnm hful hs hsa hl
 obtain ⟨nm, ⟨fa, fc, fs⟩, ⟨oa, oc, os⟩, ma, mc, msgs, ⟨ea, ec, es⟩, ⟨ra, rc, rs⟩, ⟨na, nc, ns⟩⟩ := m
 unfold MsgT.In at hin
 unfold MsgT.Ok at hok
 unfold MsgT.Nm at hnm
 unfold MsgT.deep at hd
 unfold MsgT.Ful at hful
 unfold cntM at hl
 obtain ⟨rf, ro, rm, re, re2, _, _, rm2⟩ := hin
 obtain ⟨⟨ho1, _⟩, ⟨⟨lf, _⟩, of_⟩, ⟨⟨lo, _⟩, oo⟩, ⟨lm, _⟩, ⟨⟨le, _⟩, oe⟩, _, _, om⟩ := hok
 obtain ⟨hm1, hmf, hmo, _, hme, hmm⟩ := hnm
 obtain ⟨hf1, hf2⟩ := hful
 dsimp only at rf ro rm re re2 lf of_ lo oo lm le oe hmf hmo hme hl
 dsimp only [MsgT.cells, Rw.v, MsgT.nm, MsgT.fields, MsgT.oneofs, MsgT.ma, MsgT.mc, MsgT.msgs, MsgT.enums, MsgT.res, MsgT.names]
 refine Sp.body Tryz.func54 rfl Tryz.ntmps54 (by simp) ?_
 simp only [argE, List.cons_append, List.nil_append, Nat.zero_add, Nat.reduceAdd]
 repeat' (first|(refine gv ?_;first|refine RT.id ?_|(refine⟨fun hc=>?_,fun hc=>?_⟩<;>first|(exfalso;omega)|skip)|refine gk ?_|refine num_m fun r hr=>?_|intro r hr)|refine gs ?_|(refine gb ?_;intro b)|refine gn ?_|(refine RT.isPush ?_;refine gp ?_;intro a' c' b' c1' hac)|refine gc ?_|fail)
 revert b
 intro mb
 (refine RT.bs T (l := strs [sc,  nm]) rfl rfl rfl rfl rfl rfl rfl (fun a9 c9 h9 => ?_); (refine RT.call T rfl fR_ (rjoin_fn (ls := [sc,  nm]) (Own.rd (by ((repeat constructor);done)) rfl h9) rfl (b2  hs  ho1) ( s2l (by omega) hm1)) rfl rfl rfl ?_; rintro _ _ ⟨rfl, rfl⟩; try simp only [List.cons_append, List.nil_append]); refine RT.weak (fun w h => h.tail) ?_)
 repeat' (first|(refine gv ?_;first|refine RT.id ?_|(refine⟨fun hc=>?_,fun hc=>?_⟩<;>first|(exfalso;omega)|skip)|refine gk ?_|refine num_m fun r hr=>?_|intro r hr)|refine gs ?_|(refine gb ?_;intro b)|refine gn ?_|(refine RT.isPush ?_;refine gp ?_;intro a' c' b' c1' hac)|refine gc ?_|fail)
 have hjl := @j2_len' sc nm
 have hjb := j2_byt hs ho1
 have hsy := symM_eq fl nm ⟨fa, fc, fs⟩ ⟨oa, oc, os⟩ ma mc msgs ⟨ea, ec, es⟩ ⟨ra, rc, rs⟩ ⟨na, nc, ns⟩ sc _ rfl l
 rw [hsy]
 clear hsy
 dsimp only
 generalize joinL [sc, nm] = full at *
 have hfl : full.length ≤ 16777216 := by omega
 refine RT.call T rfl (by (repeat (first|exact Fr.nil|(apply Fr.cons;focus ((repeat constructor);done))))) (put_fn (b := xb) (fl := fl) (s := full) (k := 1) (a := a) (c := c) (l := l) (by omega)) rfl rfl rfl ?_
 rintro _ _ ⟨rfl, a1, c1, rfl⟩
 simp only [List.cons_append, List.nil_append]
 repeat' (first|(refine gv ?_;first|refine RT.id ?_|(refine⟨fun hc=>?_,fun hc=>?_⟩<;>first|(exfalso;omega)|skip)|refine gk ?_|refine num_m fun r hr=>?_|intro r hr)|refine gs ?_|(refine gb ?_;intro b)|refine gn ?_|(refine RT.isPush ?_;refine gp ?_;intro a' c' b' c1' hac)|refine gc ?_|fail)
 obtain ⟨mcl, hmcl⟩ : ∃ mcl, mcl = [vS nm, Value.slice fa fs.length fc, Value.slice oa os.length oc, Value.slice ma msgs.length mc, Value.slice ea es.length ec, Value.slice ra rs.length rc, Value.slice na ns.length nc] := ⟨_, rfl⟩
 rw [← hmcl]
 generalize hL1 : l ++ [⟨full, 1, fl⟩] = L1
 have hl1 : L1.length = l.length + 1 := by rw [← hL1]; simp
 refine CT.loop (α := Nat × Option Addr × Nat) (fun s => [(0, ptr xb), (4, .pointer (some ⟨mb, 0, none⟩)), (6, vS full), (7, .int .i64 s.1)])
  (fun s => Pu (s.1 ≤ fs.length) :: (lst xb fl s.2.1 s.2.2 (L1 ++ (fs.take s.1).map (fun f => ⟨joinL [full, f.nm], 4, fl⟩)) ++ Cs mb 72 mcl :: R)) (fun s => fs.length - s.1) (0, a1, c1)
  ⟨rfl, rfl, rfl, rfl, trivial⟩ (fun w h => Sat.pu_in (Nat.zero_le _) (by dsimp only; rw [List.take_zero, List.map_nil, List.append_nil]; exact h)) (fun ⟨i, a2, c2⟩ => CT.pu fun hil => ?_)
 dsimp only at hil ⊢
 subst hmcl
 simp only [List.cons_append, List.nil_append]
 repeat' (first|(refine gv ?_;first|refine RT.id ?_|(refine⟨fun hc=>?_,fun hc=>?_⟩<;>first|(exfalso;omega)|skip)|refine gk ?_|refine num_m fun r hr=>?_|intro r hr)|refine gs ?_|(refine gb ?_;intro b)|refine gn ?_|(refine RT.isPush ?_;refine gp ?_;intro a' c' b' c1' hac)|refine gc ?_|fail)
 ·have hi' : i < fs.length := by omega
  have hgi := List.getElem?_eq_getElem hi'
  revert hgi
  generalize fs[i] = f2
  intro hgi
  have hme2 := List.mem_of_getElem? hgi
  have hvb := (of_ f2 hme2).1.1
  have hvs := (hmf f2 hme2).1
  refine RT.ix T (j := i * 9) rfl rfl rfl (by repeat (first | exact (rf) | apply Rd.cons)) (by omega) (by omega) (by omega) rfl rfl ?_
  refine RT.faA T rfl rfl rfl rfl ?_
  refine RT.ldr (u := vS f2.nm) T rfl (by repeat (first | exact (rf) | apply Rd.cons)) (by rw [flat_get (f := FieldT.cells) (z := 9) (fun _ => rfl) hgi (by decide)]; rfl) rfl rfl rfl ?_
  (refine RT.bs T (l := strs [full,  f2.nm]) rfl rfl rfl rfl rfl rfl rfl (fun a9 c9 h9 => ?_); (refine RT.call T rfl fR_ (rjoin_fn (ls := [full,  f2.nm]) (Own.rd (by ((repeat constructor);done)) rfl h9) rfl (b2  hjb  hvb) ( s2l hfl hvs)) rfl rfl rfl ?_; rintro _ _ ⟨rfl, rfl⟩; try simp only [List.cons_append, List.nil_append]); refine RT.weak (fun w h => h.tail) ?_)
  repeat' (first|(refine gv ?_;first|refine RT.id ?_|(refine⟨fun hc=>?_,fun hc=>?_⟩<;>first|(exfalso;omega)|skip)|refine gk ?_|refine num_m fun r hr=>?_|intro r hr)|refine gs ?_|(refine gb ?_;intro b)|refine gn ?_|(refine RT.isPush ?_;refine gp ?_;intro a' c' b' c1' hac)|refine gc ?_|fail)
  refine RT.call T rfl (by (repeat (first|exact Fr.nil|(apply Fr.cons;focus ((repeat constructor);done))))) (put_fn (b := xb) (fl := fl) (s := joinL [full, f2.nm]) (k := 4) (by simp; omega)) rfl rfl rfl ?_
  rintro _ _ ⟨rfl, a3, c3, rfl⟩
  simp only [List.cons_append, List.nil_append]
  repeat' (first|(refine gv ?_;first|refine RT.id ?_|(refine⟨fun hc=>?_,fun hc=>?_⟩<;>first|(exfalso;omega)|skip)|refine gk ?_|refine num_m fun r hr=>?_|intro r hr)|refine gs ?_|(refine gb ?_;intro b)|refine gn ?_|(refine RT.isPush ?_;refine gp ?_;intro a' c' b' c1' hac)|refine gc ?_|fail)
  refine AtQ.loop (i + 1, a3, c3) ⟨rfl, rfl, rfl, rfl, trivial⟩ (fun w h => Sat.pu_in (by dsimp only; omega) ?_) (by dsimp only; omega)
  dsimp only
  rw [← map_snoc hgi, ← List.append_assoc]
  exact h
 rw [List.take_of_length_le (by omega)]
 clear hil rf
 generalize hL2 : L1 ++ List.map (fun f : FieldT => (⟨joinL [full, f.nm], 4, fl⟩ : SymT)) fs = L2
 have hl2 : L2.length = l.length + 1 + fs.length := by rw [← hL2]; simp; omega
 obtain ⟨mcl, hmcl⟩ : ∃ mcl, mcl = [vS nm, Value.slice fa fs.length fc, Value.slice oa os.length oc, Value.slice ma msgs.length mc, Value.slice ea es.length ec, Value.slice ra rs.length rc, Value.slice na ns.length nc] := ⟨_, rfl⟩
 rw [← hmcl]
 refine CT.loop (α := Nat × Option Addr × Nat) (fun s => [(0, ptr xb), (4, .pointer (some ⟨mb, 0, none⟩)), (6, vS full), (9, .int .i64 s.1)])
  (fun s => Pu (s.1 ≤ os.length) :: (lst xb fl s.2.1 s.2.2 (L2 ++ (os.take s.1).map (fun o => ⟨joinL [full, o], 5, fl⟩)) ++ Cs mb 72 mcl :: R)) (fun s => os.length - s.1) (0, a2, c2)
  ⟨rfl, rfl, rfl, rfl, trivial⟩ (fun w h => Sat.pu_in (Nat.zero_le _) (by dsimp only; rw [List.take_zero, List.map_nil, List.append_nil]; exact h)) (fun ⟨i, a2, c2⟩ => CT.pu fun hil => ?_)
 dsimp only at hil ⊢
 subst hmcl
 simp only [List.cons_append, List.nil_append]
 repeat' (first|(refine gv ?_;first|refine RT.id ?_|(refine⟨fun hc=>?_,fun hc=>?_⟩<;>first|(exfalso;omega)|skip)|refine gk ?_|refine num_m fun r hr=>?_|intro r hr)|refine gs ?_|(refine gb ?_;intro b)|refine gn ?_|(refine RT.isPush ?_;refine gp ?_;intro a' c' b' c1' hac)|refine gc ?_|fail)
 ·have hi' : i < os.length := by omega
  have hgi := List.getElem?_eq_getElem hi'
  revert hgi
  generalize os[i] = o2
  intro hgi
  have hme2 := List.mem_of_getElem? hgi
  have hvb := (oo o2 hme2).1
  have hvs := hmo o2 hme2
  refine RT.ix T (j := i) rfl rfl rfl (by repeat (first | exact (ro) | apply Rd.cons)) (by omega) (by omega) (by omega) rfl rfl ?_
  refine RT.ldr T rfl (by repeat (first | exact (ro) | apply Rd.cons)) (by rw [List.getElem?_map, hgi]; rfl) rfl rfl rfl ?_
  (refine RT.bs T (l := strs [full,  o2]) rfl rfl rfl rfl rfl rfl rfl (fun a9 c9 h9 => ?_); (refine RT.call T rfl fR_ (rjoin_fn (ls := [full,  o2]) (Own.rd (by ((repeat constructor);done)) rfl h9) rfl (b2  hjb  hvb) ( s2l hfl hvs)) rfl rfl rfl ?_; rintro _ _ ⟨rfl, rfl⟩; try simp only [List.cons_append, List.nil_append]); refine RT.weak (fun w h => h.tail) ?_)
  repeat' (first|(refine gv ?_;first|refine RT.id ?_|(refine⟨fun hc=>?_,fun hc=>?_⟩<;>first|(exfalso;omega)|skip)|refine gk ?_|refine num_m fun r hr=>?_|intro r hr)|refine gs ?_|(refine gb ?_;intro b)|refine gn ?_|(refine RT.isPush ?_;refine gp ?_;intro a' c' b' c1' hac)|refine gc ?_|fail)
  refine RT.call T rfl (by (repeat (first|exact Fr.nil|(apply Fr.cons;focus ((repeat constructor);done))))) (put_fn (b := xb) (fl := fl) (s := joinL [full, o2]) (k := 5) (by simp; omega)) rfl rfl rfl ?_
  rintro _ _ ⟨rfl, a3, c3, rfl⟩
  simp only [List.cons_append, List.nil_append]
  repeat' (first|(refine gv ?_;first|refine RT.id ?_|(refine⟨fun hc=>?_,fun hc=>?_⟩<;>first|(exfalso;omega)|skip)|refine gk ?_|refine num_m fun r hr=>?_|intro r hr)|refine gs ?_|(refine gb ?_;intro b)|refine gn ?_|(refine RT.isPush ?_;refine gp ?_;intro a' c' b' c1' hac)|refine gc ?_|fail)
  refine AtQ.loop (i + 1, a3, c3) ⟨rfl, rfl, rfl, rfl, trivial⟩ (fun w h => Sat.pu_in (by dsimp only; omega) ?_) (by dsimp only; omega)
  dsimp only
  rw [← map_snoc hgi, ← List.append_assoc]
  exact h
 rw [List.take_of_length_le (by omega)]
 clear hil ro
 generalize hL3 : L2 ++ List.map (fun o : Txt => (⟨joinL [full, o], 5, fl⟩ : SymT)) os = L3
 have hl3 : L3.length = l.length + 1 + fs.length + os.length := by rw [← hL3]; simp; omega
 obtain ⟨mcl, hmcl⟩ : ∃ mcl, mcl = [vS nm, Value.slice fa fs.length fc, Value.slice oa os.length oc, Value.slice ma msgs.length mc, Value.slice ea es.length ec, Value.slice ra rs.length rc, Value.slice na ns.length nc] := ⟨_, rfl⟩
 rw [← hmcl]
 refine CT.loop (α := Nat × Option Addr × Nat) (fun s => [(0, ptr xb), (4, .pointer (some ⟨mb, 0, none⟩)), (6, vS full), (11, .int .i64 s.1)])
  (fun s => Pu (s.1 ≤ msgs.length) :: (lst xb fl s.2.1 s.2.2 (L3 ++ symMs fl (msgs.take s.1) full) ++ Cs mb 72 mcl :: R)) (fun s => msgs.length - s.1) (0, a2, c2)
  ⟨rfl, rfl, rfl, rfl, trivial⟩ (fun w h => Sat.pu_in (Nat.zero_le _) (by dsimp only; rw [List.take_zero, symMs, List.append_nil]; exact h)) (fun ⟨i, a2, c2⟩ => CT.pu fun hil => ?_)
 dsimp only at hil ⊢
 subst hmcl
 simp only [List.cons_append, List.nil_append]
 repeat' (first|(refine gv ?_;first|refine RT.id ?_|(refine⟨fun hc=>?_,fun hc=>?_⟩<;>first|(exfalso;omega)|skip)|refine gk ?_|refine num_m fun r hr=>?_|intro r hr)|refine gs ?_|(refine gb ?_;intro b)|refine gn ?_|(refine RT.isPush ?_;refine gp ?_;intro a' c' b' c1' hac)|refine gc ?_|fail)
 ·have hi' : i < msgs.length := by omega
  have hgi := List.getElem?_eq_getElem hi'
  revert hgi
  generalize msgs[i] = m2
  intro hgi
  have hme2 := List.mem_of_getElem? hgi
  have hmd := MsgT.deep_mem hme2
  have hcn := sum_snoc (f := cntM) hgi
  rw [← cntMs_eq, ← cntMs_eq] at hcn
  refine RT.ix T (j := i * 7) rfl rfl rfl (by repeat (first | exact (rm) | apply Rd.cons)) (by omega) (by omega) (by omega) rfl rfl ?_
  refine RT.ldra T rfl (by repeat (first | exact (rm) | apply Rd.cons)) (l := m2.cells) (flat_sub (f := MsgT.cells) (z := 7) (fun _ => rfl) msgs i _ hgi) rfl rfl rfl rfl ?_
  repeat' (first|(refine gv ?_;first|refine RT.id ?_|(refine⟨fun hc=>?_,fun hc=>?_⟩<;>first|(exfalso;omega)|skip)|refine gk ?_|refine num_m fun r hr=>?_|intro r hr)|refine gs ?_|(refine gb ?_;intro b)|refine gn ?_|(refine RT.isPush ?_;refine gp ?_;intro a' c' b' c1' hac)|refine gt ?_|refine gc ?_|fail)
  refine RT.call T rfl (by (repeat (first|exact Fr.nil|(apply Fr.cons;focus ((repeat constructor);done))))) (@ih m2.deep (by omega) _ xb fl a2 c2 (L3 ++ symMs fl (msgs.take i) full) m2 full _ (Nat.le_refl _) (MsgT.In.mono (fun _ _ _ _ _ h => (by repeat (first | exact (h) | apply Rd.cons))) (MsgT.inL_mem rm2 hme2)) (MsgT.okL_mem om hme2) (MsgT.nmL_mem hmm hme2) (MsgT.fulL_mem hf2 hme2) hjb (by omega) (by rw [List.length_append, symMs_len]; omega)) rfl rfl rfl ?_
  rintro _ _ ⟨rfl, a3, c3, rfl⟩
  simp only [List.cons_append, List.nil_append]
  repeat' (first|(refine gv ?_;first|refine RT.id ?_|(refine⟨fun hc=>?_,fun hc=>?_⟩<;>first|(exfalso;omega)|skip)|refine gk ?_|refine num_m fun r hr=>?_|intro r hr)|refine gs ?_|(refine gb ?_;intro b)|refine gn ?_|(refine RT.isPush ?_;refine gp ?_;intro a' c' b' c1' hac)|refine gc ?_|fail)
  refine AtQ.loop (i + 1, a3, c3) ⟨rfl, rfl, rfl, rfl, trivial⟩ (fun w h => Sat.pu_in (by dsimp only; omega) ?_) (by dsimp only; omega)
  dsimp only
  rw [← symMs_snoc hgi, ← List.append_assoc]
  exact h
 rw [List.take_of_length_le (by omega)]
 clear hil rm
 generalize hL4 : L3 ++ symMs fl msgs full = L4
 have hl4 : L4.length = l.length + 1 + fs.length + os.length + cntMs msgs := by rw [← hL4, List.length_append, symMs_len]; omega
 obtain ⟨mcl, hmcl⟩ : ∃ mcl, mcl = [vS nm, Value.slice fa fs.length fc, Value.slice oa os.length oc, Value.slice ma msgs.length mc, Value.slice ea es.length ec, Value.slice ra rs.length rc, Value.slice na ns.length nc] := ⟨_, rfl⟩
 rw [← hmcl]
 refine CT.loop (α := Nat × Option Addr × Nat) (fun s => [(0, ptr xb), (4, .pointer (some ⟨mb, 0, none⟩)), (6, vS full), (12, .int .i64 s.1)])
  (fun s => Pu (s.1 ≤ es.length) :: (lst xb fl s.2.1 s.2.2 (L4 ++ (es.take s.1).flatMap (symE fl full)) ++ Cs mb 72 mcl :: R)) (fun s => es.length - s.1) (0, a2, c2)
  ⟨rfl, rfl, rfl, rfl, trivial⟩ (fun w h => Sat.pu_in (Nat.zero_le _) (by dsimp only; rw [List.take_zero, List.flatMap_nil, List.append_nil]; exact h)) (fun ⟨i, a2, c2⟩ => CT.pu fun hil => ?_)
 dsimp only at hil ⊢
 subst hmcl
 simp only [List.cons_append, List.nil_append]
 repeat' (first|(refine gv ?_;first|refine RT.id ?_|(refine⟨fun hc=>?_,fun hc=>?_⟩<;>first|(exfalso;omega)|skip)|refine gk ?_|refine num_m fun r hr=>?_|intro r hr)|refine gs ?_|(refine gb ?_;intro b)|refine gn ?_|(refine RT.isPush ?_;refine gp ?_;intro a' c' b' c1' hac)|refine gc ?_|fail)
 ·have hi' : i < es.length := by omega
  have hgi := List.getElem?_eq_getElem hi'
  revert hgi
  generalize es[i] = e2
  intro hgi
  have hme2 := List.mem_of_getElem? hgi
  have hcn := sum_snoc (f := cntE) hgi
  refine RT.ix T (j := i * 5) rfl rfl rfl (by repeat (first | exact (re) | apply Rd.cons)) (by omega) (by omega) (by omega) rfl rfl ?_
  refine RT.ldra T rfl (by repeat (first | exact (re) | apply Rd.cons)) (l := e2.cells) (flat_sub (f := EnumT.cells) (z := 5) (fun _ => rfl) es i _ hgi) rfl rfl rfl rfl ?_
  repeat' (first|(refine gv ?_;first|refine RT.id ?_|(refine⟨fun hc=>?_,fun hc=>?_⟩<;>first|(exfalso;omega)|skip)|refine gk ?_|refine num_m fun r hr=>?_|intro r hr)|refine gs ?_|(refine gb ?_;intro b)|refine gn ?_|(refine RT.isPush ?_;refine gp ?_;intro a' c' b' c1' hac)|refine gt ?_|refine gc ?_|fail)
  refine RT.call T rfl (by (repeat (first|exact Fr.nil|(apply Fr.cons;focus ((repeat constructor);done))))) (senum_fn (xb := xb) (fl := fl) (a := a2) (c := c2) (l := L4 ++ (es.take i).flatMap (symE fl full)) (e := e2) (sc := full) (EnumT.In.mono (fun _ _ _ _ _ h => (by repeat (first | exact (h) | apply Rd.cons))) (re2 e2 hme2)) (oe e2 hme2) (hme e2 hme2) hjb hfl (by rw [List.length_append, symEs_len]; omega)) rfl rfl rfl ?_
  rintro _ _ ⟨rfl, a3, c3, rfl⟩
  simp only [List.cons_append, List.nil_append]
  repeat' (first|(refine gv ?_;first|refine RT.id ?_|(refine⟨fun hc=>?_,fun hc=>?_⟩<;>first|(exfalso;omega)|skip)|refine gk ?_|refine num_m fun r hr=>?_|intro r hr)|refine gs ?_|(refine gb ?_;intro b)|refine gn ?_|(refine RT.isPush ?_;refine gp ?_;intro a' c' b' c1' hac)|refine gc ?_|fail)
  refine AtQ.loop (i + 1, a3, c3) ⟨rfl, rfl, rfl, rfl, trivial⟩ (fun w h => Sat.pu_in (by dsimp only; omega) ?_) (by dsimp only; omega)
  dsimp only
  rw [← flat_snoc hgi, ← List.append_assoc]
  exact h
 rw [List.take_of_length_le (by omega)]
 refine AtQ.fin0 Tryz.results54 (H' := lst xb fl a2 c2 (L4 ++ es.flatMap (symE fl full))) ⟨rfl, a2, c2, rfl⟩ (fun w h => ?_) _ (by first | exact .inl rfl | exact .inr rfl)
 exact h.frd (Ps := [_, _]) (Qs := [_]) (by (repeat (first|exact Fr.nil|(apply Fr.cons;focus ((repeat constructor);done)))))
end Go.Proofs.YtdemnhdoadjhhaaGreatDoor
end
section
namespace Go.Proofs.YtdemnhdoadjhhaaGreatDoor
open Go.Sk
set_option maxRecDepth 100000
/-- What the functions of Symbols hold on to. -/
abbrev clo (pb mb eb lb fb : Nat) (fcl : List Value) (a : Option Addr) (c : Nat) (l : List SymT) : List HP :=
 Cs pb 106 [cPut lb fb] :: Cs mb 113 [cMsg pb mb eb] :: Cs eb 112 [cEnum pb] :: syl lb fb fcl a c l
attribute [local irreducible] Cs Own Ex Pu Yld RT LJ QJ AtQ CT Rd QSp Sp FinQ Then LoopQ CutQ DT TakeQ EffQ
variable {B : World}
set_option maxHeartbeats 16000000 in
theorem cmsg_fn (d : Nat) : ∀ {R : List HP} {pb mb eb lb fb : Nat} {path : Txt} {v1 v2 v3 v4 : Value} {a : Option Addr} {c : Nat} {l : List SymT} {m : MsgT} {sc : Txt} {ah : Int}, m.deep ≤ d → m.In (Rd B R) → m.Ok → m.Nm → m.Ful ah → Byt sc → (sc.length : Int) ≤ ah → l.length + cntM m ≤ 1073741824 →
  Sp B Tryz.prog 40 [.agg m.cells.toArray, vS sc, ptr pb, ptr mb, ptr eb] R (clo pb mb eb lb fb [vS path, v1, v2, v3, v4] a c l) (fun v H' => v = .tuple #[] ∧ ∃ a' c', H' = clo pb mb eb lb fb [vS path, v1, v2, v3, v4] a' c' (l ++ symM path m sc)) := by
 induction d using Nat.strongRecOn with
 | _ d ih =>
 intro R pb mb eb lb fb path v1 v2 v3 v4 a c l m sc ah hd hin hok hnm hful hs hsa hl
 obtain ⟨nm, ⟨fa, fc, fs⟩, ⟨oa, oc, os⟩, ma, mc, msgs, ⟨ea, ec, es⟩, ⟨ra, rc, rs⟩, ⟨na, nc, ns⟩⟩ := m
 unfold MsgT.In at hin
 unfold MsgT.Ok at hok
 unfold MsgT.Nm at hnm
 unfold MsgT.deep at hd
 unfold MsgT.Ful at hful
 unfold cntM at hl
 obtain ⟨rf, ro, rm, re, re2, _, _, rm2⟩ := hin
 obtain ⟨⟨ho1, _⟩, ⟨⟨lf, _⟩, of_⟩, ⟨⟨lo, _⟩, oo⟩, ⟨lm, _⟩, ⟨⟨le, _⟩, oe⟩, _, _, om⟩ := hok
 obtain ⟨hm1, hmf, hmo, _, hme, hmm⟩ := hnm
 obtain ⟨hf1, hf2⟩ := hful
 dsimp only at rf ro rm re re2 lf of_ lo oo lm le oe hmf hmo hme hl
 dsimp only [MsgT.cells, Rw.v, MsgT.nm, MsgT.fields, MsgT.oneofs, MsgT.ma, MsgT.mc, MsgT.msgs, MsgT.enums, MsgT.res, MsgT.names]
 refine Sp.body Tryz.func40 rfl Tryz.ntmps40 (by simp) ?_
 simp only [argE, List.cons_append, List.nil_append, Nat.zero_add, Nat.reduceAdd]
 repeat' (first|(refine gv ?_;first|refine RT.id ?_|(refine⟨fun hc=>?_,fun hc=>?_⟩<;>first|(exfalso;omega)|skip)|refine gk ?_|refine num_m fun r hr=>?_|intro r hr)|refine gs ?_|(refine gb ?_;intro b)|refine gn ?_|(refine RT.isPush ?_;refine gp ?_;intro a' c' b' c1' hac)|refine gc ?_|fail)
 revert b
 intro b5
 have hjl := @j2_len' sc nm
 have hjb := j2_byt hs ho1
 refine RT.callC T (caps := [ptr lb, ptr fb]) rfl rfl (by (repeat (first|exact Fr.nil|(apply Fr.cons;focus ((repeat constructor);done))))) (cput_fn (lb := lb) (fb := fb) (path := path) (v1 := v1) (v2 := v2) (v3 := v3) (v4 := v4) (a := a) (c := c) (l := l) (k := 1) hs ho1 (by omega) hm1 (by omega)) rfl rfl rfl ?_
 rintro _ _ ⟨rfl, a1, c1, rfl⟩
 simp only [List.cons_append, List.nil_append]
 have hsy := symM_eq path nm ⟨fa, fc, fs⟩ ⟨oa, oc, os⟩ ma mc msgs ⟨ea, ec, es⟩ ⟨ra, rc, rs⟩ ⟨na, nc, ns⟩ sc _ rfl l
 rw [hsy]
 clear hsy
 dsimp only
 generalize joinL [sc, nm] = full at *
 have hfl : full.length ≤ 16777216 := by omega
 repeat' (first|(refine gv ?_;first|refine RT.id ?_|(refine⟨fun hc=>?_,fun hc=>?_⟩<;>first|(exfalso;omega)|skip)|refine gk ?_|refine num_m fun r hr=>?_|intro r hr)|refine gs ?_|(refine gb ?_;intro b)|refine gn ?_|(refine RT.isPush ?_;refine gp ?_;intro a' c' b' c1' hac)|refine gc ?_|fail)
 obtain ⟨mcl, hmcl⟩ : ∃ mcl, mcl = [vS nm, Value.slice fa fs.length fc, Value.slice oa os.length oc, Value.slice ma msgs.length mc, Value.slice ea es.length ec, Value.slice ra rs.length rc, Value.slice na ns.length nc] := ⟨_, rfl⟩
 rw [← hmcl]
 generalize hL1 : l ++ [⟨full, 1, path⟩] = L1
 have hl1 : L1.length = l.length + 1 := by rw [← hL1]; simp
 refine CT.loop (α := Nat × Option Addr × Nat) (fun s => [(2, ptr pb), (3, ptr mb), (4, ptr eb), (5, .pointer (some ⟨b5, 0, none⟩)), (7, vS full), (22, .slice fa fs.length fc), (23, .int .i64 fs.length), (24, .int .i64 s.1)])
  (fun s => Pu (s.1 ≤ fs.length) :: (clo pb mb eb lb fb [vS path, v1, v2, v3, v4] s.2.1 s.2.2 (L1 ++ (fs.take s.1).map (fun f => ⟨joinL [full, f.nm], 4, path⟩)) ++ Cs b5 72 mcl :: R)) (fun s => fs.length - s.1) (0, a1, c1)
  ⟨rfl, rfl, rfl, rfl, rfl, rfl, rfl, rfl, trivial⟩ (fun w h => Sat.pu_in (Nat.zero_le _) (by dsimp only; rw [List.take_zero, List.map_nil, List.append_nil]; exact h.frd (Ps := [_, _, _, _, _, _, _]) (Qs := []) (by (repeat (first|exact Fr.nil|(apply Fr.cons;focus ((repeat constructor);done))))))) (fun ⟨i, a2, c2⟩ => CT.pu fun hil => ?_)
 dsimp only at hil ⊢
 simp only [List.cons_append, List.nil_append]
 repeat' (first|(refine gv ?_;first|refine RT.id ?_|(refine⟨fun hc=>?_,fun hc=>?_⟩<;>first|(exfalso;omega)|skip)|refine gk ?_|refine num_m fun r hr=>?_|intro r hr)|refine gs ?_|(refine gb ?_;intro b)|refine gn ?_|(refine RT.isPush ?_;refine gp ?_;intro a' c' b' c1' hac)|refine gc ?_|fail)
 ·have hi' : i < fs.length := by omega
  have hgi := List.getElem?_eq_getElem hi'
  revert hgi
  generalize fs[i] = f2
  intro hgi
  have hme2 := List.mem_of_getElem? hgi
  have hvb := (of_ f2 hme2).1.1
  have hvs := (hmf f2 hme2).1
  refine RT.ix T (j := i * 9) rfl rfl rfl (by repeat (first | exact (rf) | apply Rd.cons)) (by omega) (by omega) (by omega) rfl rfl ?_
  refine RT.ldra T rfl (by repeat (first | exact (rf) | apply Rd.cons)) (l := f2.cells) (flat_sub (f := FieldT.cells) (z := 9) (fun _ => rfl) fs i _ hgi) rfl rfl rfl rfl ?_
  dsimp only [FieldT.cells]
  repeat' (first|(refine gv ?_;first|refine RT.id ?_|(refine⟨fun hc=>?_,fun hc=>?_⟩<;>first|(exfalso;omega)|skip)|refine gk ?_|refine num_m fun r hr=>?_|intro r hr)|refine gs ?_|(refine gb ?_;intro b)|refine gn ?_|(refine RT.isPush ?_;refine gp ?_;intro a' c' b' c1' hac)|refine gt ?_|refine gc ?_|fail)
  refine RT.callC T (caps := [ptr lb, ptr fb]) rfl rfl (by (repeat (first|exact Fr.nil|(apply Fr.cons;focus ((repeat constructor);done))))) (cput_fn (lb := lb) (fb := fb) (path := path) (v1 := v1) (v2 := v2) (v3 := v3) (v4 := v4) (k := 4) hjb hvb hfl hvs (by simp; omega)) rfl rfl rfl ?_
  rintro _ _ ⟨rfl, a3, c3, rfl⟩
  simp only [List.cons_append, List.nil_append]
  repeat' (first|(refine gv ?_;first|refine RT.id ?_|(refine⟨fun hc=>?_,fun hc=>?_⟩<;>first|(exfalso;omega)|skip)|refine gk ?_|refine num_m fun r hr=>?_|intro r hr)|refine gs ?_|(refine gb ?_;intro b)|refine gn ?_|(refine RT.isPush ?_;refine gp ?_;intro a' c' b' c1' hac)|refine gc ?_|fail)
  refine AtQ.loop (i + 1, a3, c3) ⟨rfl, rfl, rfl, rfl, rfl, rfl, rfl, rfl, trivial⟩ (fun w h => Sat.pu_in (by dsimp only; omega) ?_) (by dsimp only; omega)
  dsimp only
  rw [← map_snoc hgi, ← List.append_assoc]
  exact h.frd (Ps := [_, _, _, _, _, _, _]) (Qs := [_]) (by (repeat (first|exact Fr.nil|(apply Fr.cons;focus ((repeat constructor);done)))))
 rw [List.take_of_length_le (by omega)]
 clear hil rf
 generalize hL2 : L1 ++ List.map (fun f : FieldT => (⟨joinL [full, f.nm], 4, path⟩ : SymT)) fs = L2
 have hl2 : L2.length = l.length + 1 + fs.length := by rw [← hL2]; simp; omega
 subst hmcl
 repeat' (first|(refine gv ?_;first|refine RT.id ?_|(refine⟨fun hc=>?_,fun hc=>?_⟩<;>first|(exfalso;omega)|skip)|refine gk ?_|refine num_m fun r hr=>?_|intro r hr)|refine gs ?_|(refine gb ?_;intro b)|refine gn ?_|(refine RT.isPush ?_;refine gp ?_;intro a' c' b' c1' hac)|refine gc ?_|fail)
 obtain ⟨mcl, hmcl⟩ : ∃ mcl, mcl = [vS nm, Value.slice fa fs.length fc, Value.slice oa os.length oc, Value.slice ma msgs.length mc, Value.slice ea es.length ec, Value.slice ra rs.length rc, Value.slice na ns.length nc] := ⟨_, rfl⟩
 rw [← hmcl]
 refine CT.loop (α := Nat × Option Addr × Nat) (fun s => [(2, ptr pb), (3, ptr mb), (4, ptr eb), (5, .pointer (some ⟨b5, 0, none⟩)), (7, vS full), (35, .slice oa os.length oc), (36, .int .i64 os.length), (37, .int .i64 s.1)])
  (fun s => Pu (s.1 ≤ os.length) :: (clo pb mb eb lb fb [vS path, v1, v2, v3, v4] s.2.1 s.2.2 (L2 ++ (os.take s.1).map (fun o => ⟨joinL [full, o], 5, path⟩)) ++ Cs b5 72 mcl :: R)) (fun s => os.length - s.1) (0, a2, c2)
  ⟨rfl, rfl, rfl, rfl, rfl, rfl, rfl, rfl, trivial⟩ (fun w h => Sat.pu_in (Nat.zero_le _) (by dsimp only; rw [List.take_zero, List.map_nil, List.append_nil]; exact h)) (fun ⟨i, a2, c2⟩ => CT.pu fun hil => ?_)
 dsimp only at hil ⊢
 simp only [List.cons_append, List.nil_append]
 repeat' (first|(refine gv ?_;first|refine RT.id ?_|(refine⟨fun hc=>?_,fun hc=>?_⟩<;>first|(exfalso;omega)|skip)|refine gk ?_|refine num_m fun r hr=>?_|intro r hr)|refine gs ?_|(refine gb ?_;intro b)|refine gn ?_|(refine RT.isPush ?_;refine gp ?_;intro a' c' b' c1' hac)|refine gc ?_|fail)
 ·have hi' : i < os.length := by omega
  have hgi := List.getElem?_eq_getElem hi'
  revert hgi
  generalize os[i] = o2
  intro hgi
  have hme2 := List.mem_of_getElem? hgi
  have hvb := (oo o2 hme2).1
  have hvs := hmo o2 hme2
  refine RT.ix T (j := i) rfl rfl rfl (by repeat (first | exact (ro) | apply Rd.cons)) (by omega) (by omega) (by omega) rfl rfl ?_
  refine RT.ldr T rfl (by repeat (first | exact (ro) | apply Rd.cons)) (by rw [List.getElem?_map, hgi]; rfl) rfl rfl rfl ?_
  repeat' (first|(refine gv ?_;first|refine RT.id ?_|(refine⟨fun hc=>?_,fun hc=>?_⟩<;>first|(exfalso;omega)|skip)|refine gk ?_|refine num_m fun r hr=>?_|intro r hr)|refine gs ?_|(refine gb ?_;intro b)|refine gn ?_|(refine RT.isPush ?_;refine gp ?_;intro a' c' b' c1' hac)|refine gc ?_|fail)
  refine RT.callC T (caps := [ptr lb, ptr fb]) rfl rfl (by (repeat (first|exact Fr.nil|(apply Fr.cons;focus ((repeat constructor);done))))) (cput_fn (lb := lb) (fb := fb) (path := path) (v1 := v1) (v2 := v2) (v3 := v3) (v4 := v4) (k := 5) hjb hvb hfl hvs (by simp; omega)) rfl rfl rfl ?_
  rintro _ _ ⟨rfl, a3, c3, rfl⟩
  simp only [List.cons_append, List.nil_append]
  repeat' (first|(refine gv ?_;first|refine RT.id ?_|(refine⟨fun hc=>?_,fun hc=>?_⟩<;>first|(exfalso;omega)|skip)|refine gk ?_|refine num_m fun r hr=>?_|intro r hr)|refine gs ?_|(refine gb ?_;intro b)|refine gn ?_|(refine RT.isPush ?_;refine gp ?_;intro a' c' b' c1' hac)|refine gc ?_|fail)
  refine AtQ.loop (i + 1, a3, c3) ⟨rfl, rfl, rfl, rfl, rfl, rfl, rfl, rfl, trivial⟩ (fun w h => Sat.pu_in (by dsimp only; omega) ?_) (by dsimp only; omega)
  dsimp only
  rw [← map_snoc hgi, ← List.append_assoc]
  exact h.frd (Ps := [_, _, _, _, _, _, _]) (Qs := []) (by (repeat (first|exact Fr.nil|(apply Fr.cons;focus ((repeat constructor);done)))))
 rw [List.take_of_length_le (by omega)]
 clear hil ro
 generalize hL3 : L2 ++ List.map (fun o : Txt => (⟨joinL [full, o], 5, path⟩ : SymT)) os = L3
 have hl3 : L3.length = l.length + 1 + fs.length + os.length := by rw [← hL3]; simp; omega
 subst hmcl
 repeat' (first|(refine gv ?_;first|refine RT.id ?_|(refine⟨fun hc=>?_,fun hc=>?_⟩<;>first|(exfalso;omega)|skip)|refine gk ?_|refine num_m fun r hr=>?_|intro r hr)|refine gs ?_|(refine gb ?_;intro b)|refine gn ?_|(refine RT.isPush ?_;refine gp ?_;intro a' c' b' c1' hac)|refine gc ?_|fail)
 obtain ⟨mcl, hmcl⟩ : ∃ mcl, mcl = [vS nm, Value.slice fa fs.length fc, Value.slice oa os.length oc, Value.slice ma msgs.length mc, Value.slice ea es.length ec, Value.slice ra rs.length rc, Value.slice na ns.length nc] := ⟨_, rfl⟩
 rw [← hmcl]
 refine CT.loop (α := Nat × Option Addr × Nat) (fun s => [(2, ptr pb), (3, ptr mb), (4, ptr eb), (5, .pointer (some ⟨b5, 0, none⟩)), (7, vS full), (47, .slice ma msgs.length mc), (48, .int .i64 msgs.length), (49, .int .i64 s.1)])
  (fun s => Pu (s.1 ≤ msgs.length) :: (clo pb mb eb lb fb [vS path, v1, v2, v3, v4] s.2.1 s.2.2 (L3 ++ symMs path (msgs.take s.1) full) ++ Cs b5 72 mcl :: R)) (fun s => msgs.length - s.1) (0, a2, c2)
  ⟨rfl, rfl, rfl, rfl, rfl, rfl, rfl, rfl, trivial⟩ (fun w h => Sat.pu_in (Nat.zero_le _) (by dsimp only; rw [List.take_zero, symMs, List.append_nil]; exact h)) (fun ⟨i, a2, c2⟩ => CT.pu fun hil => ?_)
 dsimp only at hil ⊢
 simp only [List.cons_append, List.nil_append]
 repeat' (first|(refine gv ?_;first|refine RT.id ?_|(refine⟨fun hc=>?_,fun hc=>?_⟩<;>first|(exfalso;omega)|skip)|refine gk ?_|refine num_m fun r hr=>?_|intro r hr)|refine gs ?_|(refine gb ?_;intro b)|refine gn ?_|(refine RT.isPush ?_;refine gp ?_;intro a' c' b' c1' hac)|refine gc ?_|fail)
 ·have hi' : i < msgs.length := by omega
  have hgi := List.getElem?_eq_getElem hi'
  revert hgi
  generalize msgs[i] = m2
  intro hgi
  have hme2 := List.mem_of_getElem? hgi
  have hmd := MsgT.deep_mem hme2
  have hcn := sum_snoc (f := cntM) hgi
  rw [← cntMs_eq, ← cntMs_eq] at hcn
  refine RT.ix T (j := i * 7) rfl rfl rfl (by repeat (first | exact (rm) | apply Rd.cons)) (by omega) (by omega) (by omega) rfl rfl ?_
  refine RT.ldra T rfl (by repeat (first | exact (rm) | apply Rd.cons)) (l := m2.cells) (flat_sub (f := MsgT.cells) (z := 7) (fun _ => rfl) msgs i _ hgi) rfl rfl rfl rfl ?_
  repeat' (first|(refine gv ?_;first|refine RT.id ?_|(refine⟨fun hc=>?_,fun hc=>?_⟩<;>first|(exfalso;omega)|skip)|refine gk ?_|refine num_m fun r hr=>?_|intro r hr)|refine gs ?_|(refine gb ?_;intro b)|refine gn ?_|(refine RT.isPush ?_;refine gp ?_;intro a' c' b' c1' hac)|refine gt ?_|refine gc ?_|fail)
  refine RT.callC T (caps := [ptr pb, ptr mb, ptr eb]) rfl rfl (by (repeat (first|exact Fr.nil|(apply Fr.cons;focus ((repeat constructor);done))))) (@ih m2.deep (by omega) _ pb mb eb lb fb path v1 v2 v3 v4 a2 c2 (L3 ++ symMs path (msgs.take i) full) m2 full _ (Nat.le_refl _) (MsgT.In.mono (fun _ _ _ _ _ h => (by repeat (first | exact (h) | apply Rd.cons))) (MsgT.inL_mem rm2 hme2)) (MsgT.okL_mem om hme2) (MsgT.nmL_mem hmm hme2) (MsgT.fulL_mem hf2 hme2) hjb (by omega) (by rw [List.length_append, symMs_len]; omega)) rfl rfl rfl ?_
  rintro _ _ ⟨rfl, a3, c3, rfl⟩
  simp only [List.cons_append, List.nil_append]
  repeat' (first|(refine gv ?_;first|refine RT.id ?_|(refine⟨fun hc=>?_,fun hc=>?_⟩<;>first|(exfalso;omega)|skip)|refine gk ?_|refine num_m fun r hr=>?_|intro r hr)|refine gs ?_|(refine gb ?_;intro b)|refine gn ?_|(refine RT.isPush ?_;refine gp ?_;intro a' c' b' c1' hac)|refine gc ?_|fail)
  refine AtQ.loop (i + 1, a3, c3) ⟨rfl, rfl, rfl, rfl, rfl, rfl, rfl, rfl, trivial⟩ (fun w h => Sat.pu_in (by dsimp only; omega) ?_) (by dsimp only; omega)
  dsimp only
  rw [← symMs_snoc hgi, ← List.append_assoc]
  exact h.frd (Ps := [_, _, _, _, _, _, _]) (Qs := [_]) (by (repeat (first|exact Fr.nil|(apply Fr.cons;focus ((repeat constructor);done)))))
 rw [List.take_of_length_le (by omega)]
 clear hil rm
 generalize hL4 : L3 ++ symMs path msgs full = L4
 have hl4 : L4.length = l.length + 1 + fs.length + os.length + cntMs msgs := by rw [← hL4, List.length_append, symMs_len]; omega
 subst hmcl
 repeat' (first|(refine gv ?_;first|refine RT.id ?_|(refine⟨fun hc=>?_,fun hc=>?_⟩<;>first|(exfalso;omega)|skip)|refine gk ?_|refine num_m fun r hr=>?_|intro r hr)|refine gs ?_|(refine gb ?_;intro b)|refine gn ?_|(refine RT.isPush ?_;refine gp ?_;intro a' c' b' c1' hac)|refine gc ?_|fail)
 obtain ⟨mcl, hmcl⟩ : ∃ mcl, mcl = [vS nm, Value.slice fa fs.length fc, Value.slice oa os.length oc, Value.slice ma msgs.length mc, Value.slice ea es.length ec, Value.slice ra rs.length rc, Value.slice na ns.length nc] := ⟨_, rfl⟩
 rw [← hmcl]
 refine CT.loop (α := Nat × Option Addr × Nat) (fun s => [(2, ptr pb), (3, ptr mb), (4, ptr eb), (5, .pointer (some ⟨b5, 0, none⟩)), (7, vS full), (59, .slice ea es.length ec), (60, .int .i64 es.length), (61, .int .i64 s.1)])
  (fun s => Pu (s.1 ≤ es.length) :: (clo pb mb eb lb fb [vS path, v1, v2, v3, v4] s.2.1 s.2.2 (L4 ++ (es.take s.1).flatMap (symE path full)) ++ Cs b5 72 mcl :: R)) (fun s => es.length - s.1) (0, a2, c2)
  ⟨rfl, rfl, rfl, rfl, rfl, rfl, rfl, rfl, trivial⟩ (fun w h => Sat.pu_in (Nat.zero_le _) (by dsimp only; rw [List.take_zero, List.flatMap_nil, List.append_nil]; exact h)) (fun ⟨i, a2, c2⟩ => CT.pu fun hil => ?_)
 dsimp only at hil ⊢
 simp only [List.cons_append, List.nil_append]
 repeat' (first|(refine gv ?_;first|refine RT.id ?_|(refine⟨fun hc=>?_,fun hc=>?_⟩<;>first|(exfalso;omega)|skip)|refine gk ?_|refine num_m fun r hr=>?_|intro r hr)|refine gs ?_|(refine gb ?_;intro b)|refine gn ?_|(refine RT.isPush ?_;refine gp ?_;intro a' c' b' c1' hac)|refine gc ?_|fail)
 ·have hi' : i < es.length := by omega
  have hgi := List.getElem?_eq_getElem hi'
  revert hgi
  generalize es[i] = e2
  intro hgi
  have hme2 := List.mem_of_getElem? hgi
  have hcn := sum_snoc (f := cntE) hgi
  refine RT.ix T (j := i * 5) rfl rfl rfl (by repeat (first | exact (re) | apply Rd.cons)) (by omega) (by omega) (by omega) rfl rfl ?_
  refine RT.ldra T rfl (by repeat (first | exact (re) | apply Rd.cons)) (l := e2.cells) (flat_sub (f := EnumT.cells) (z := 5) (fun _ => rfl) es i _ hgi) rfl rfl rfl rfl ?_
  repeat' (first|(refine gv ?_;first|refine RT.id ?_|(refine⟨fun hc=>?_,fun hc=>?_⟩<;>first|(exfalso;omega)|skip)|refine gk ?_|refine num_m fun r hr=>?_|intro r hr)|refine gs ?_|(refine gb ?_;intro b)|refine gn ?_|(refine RT.isPush ?_;refine gp ?_;intro a' c' b' c1' hac)|refine gt ?_|refine gc ?_|fail)
  refine RT.callC T (caps := [ptr pb]) rfl rfl (by (repeat (first|exact Fr.nil|(apply Fr.cons;focus ((repeat constructor);done))))) (cenum_fn (pb := pb) (lb := lb) (fb := fb) (path := path) (v1 := v1) (v2 := v2) (v3 := v3) (v4 := v4) (a := a2) (c := c2) (l := L4 ++ (es.take i).flatMap (symE path full)) (e := e2) (sc := full) (EnumT.In.mono (fun _ _ _ _ _ h => (by repeat (first | exact (h) | apply Rd.cons))) (re2 e2 hme2)) (oe e2 hme2) (hme e2 hme2) hjb hfl (by rw [List.length_append, symEs_len]; omega)) rfl rfl rfl ?_
  rintro _ _ ⟨rfl, a3, c3, rfl⟩
  simp only [List.cons_append, List.nil_append]
  repeat' (first|(refine gv ?_;first|refine RT.id ?_|(refine⟨fun hc=>?_,fun hc=>?_⟩<;>first|(exfalso;omega)|skip)|refine gk ?_|refine num_m fun r hr=>?_|intro r hr)|refine gs ?_|(refine gb ?_;intro b)|refine gn ?_|(refine RT.isPush ?_;refine gp ?_;intro a' c' b' c1' hac)|refine gc ?_|fail)
  refine AtQ.loop (i + 1, a3, c3) ⟨rfl, rfl, rfl, rfl, rfl, rfl, rfl, rfl, trivial⟩ (fun w h => Sat.pu_in (by dsimp only; omega) ?_) (by dsimp only; omega)
  dsimp only
  rw [← flat_snoc hgi, ← List.append_assoc]
  exact h.frd (Ps := [_, _, _, _, _, _, _]) (Qs := [_]) (by (repeat (first|exact Fr.nil|(apply Fr.cons;focus ((repeat constructor);done)))))
 rw [List.take_of_length_le (by omega)]
 refine AtQ.fin0 Tryz.results40 (H' := clo pb mb eb lb fb [vS path, v1, v2, v3, v4] a2 c2 (L4 ++ es.flatMap (symE path full))) ⟨rfl, a2, c2, rfl⟩ (fun w h => ?_) _ (by first | exact .inl rfl | exact .inr rfl)
 exact h.frd (Ps := [_, _, _, _, _, _]) (Qs := [_]) (by (repeat (first|exact Fr.nil|(apply Fr.cons;focus ((repeat constructor);done)))))
end Go.Proofs.YtdemnhdoadjhhaaGreatDoor
end
section
namespace Go.Proofs.YtdemnhdoadjhhaaGreatDoor
open Go.Sk
set_option maxRecDepth 100000
theorem symE_ok {fl sc : Txt} {e : EnumT} (hf : Byt fl) (hs : Byt sc) (ho : e.Ok) : ∀ s ∈ symE fl sc e, s.Ok := fun s h => by
 unfold symE at h
 rcases List.mem_cons.1 h with rfl | h
 ·exact ⟨j2_byt hs ho.1.1, by unfold U8; dsimp only; omega, hf⟩
 ·obtain ⟨v, hv, rfl⟩ := List.mem_map.1 h
  exact ⟨j2_byt hs (ho.2.2.1 v hv).1.1, by unfold U8; dsimp only; omega, hf⟩
theorem symEs_ok {fl sc : Txt} {l : List EnumT} (hf : Byt fl) (hs : Byt sc) (ho : ∀ e ∈ l, e.Ok) : ∀ s ∈ l.flatMap (symE fl sc), s.Ok := fun s h => by
 obtain ⟨e, he, h⟩ := List.mem_flatMap.1 h
 exact symE_ok hf hs (ho e he) s h
mutual
theorem symM_ok {fl : Txt} (hf : Byt fl) : ∀ {m : MsgT} {sc : Txt}, Byt sc → m.Ok → ∀ s ∈ symM fl m sc, s.Ok
 | .mk nm fields oneofs ma mc msgs enums res names, sc, hs, ho => fun s h => by
  unfold MsgT.Ok at ho
  obtain ⟨⟨o1, _⟩, ⟨_, o2⟩, ⟨_, o3⟩, _, ⟨_, o4⟩, _, _, o5⟩ := ho
  have hb := j2_byt hs o1
  unfold symM at h
  rcases List.mem_cons.1 h with rfl | h
  ·exact ⟨hb, by unfold U8; dsimp only; omega, hf⟩
  rcases List.mem_append.1 h with h | h
  ·obtain ⟨v, hv, rfl⟩ := List.mem_map.1 h
   exact ⟨j2_byt hb (o2 v hv).1.1, by unfold U8; dsimp only; omega, hf⟩
  rcases List.mem_append.1 h with h | h
  ·obtain ⟨v, hv, rfl⟩ := List.mem_map.1 h
   exact ⟨j2_byt hb (o3 v hv).1, by unfold U8; dsimp only; omega, hf⟩
  rcases List.mem_append.1 h with h | h
  ·exact symMs_ok hf hb o5 s h
  ·exact symEs_ok hf hb o4 s h
theorem symMs_ok {fl : Txt} (hf : Byt fl) : ∀ {l : List MsgT} {sc : Txt}, Byt sc → MsgT.OkL l → ∀ s ∈ symMs fl l sc, s.Ok
 | [], sc, hs, ho => fun s h => by unfold symMs at h; cases h
 | m :: l, sc, hs, ho => fun s h => by
  unfold symMs at h
  unfold MsgT.OkL at ho
  rcases List.mem_append.1 h with h | h
  ·exact symM_ok hf hs ho.1 s h
  ·exact symMs_ok hf hs ho.2 s h
end
theorem symF_ok {f : FileT} (ho : f.Ok) : ∀ s ∈ symF f, s.Ok := fun s h => by
 unfold symF at h
 rcases List.mem_append.1 h with h | h
 ·exact symMs_ok ho.path.1 ho.pack.1 (MsgT.okL_of ho.msgs.2) s h
 ·exact symEs_ok ho.path.1 ho.pack.1 ho.enums.2 s h
theorem symF_len (f : FileT) : (symF f).length = cntMs f.msgs + (f.enums.l.map cntE).sum := by unfold symF; rw [List.length_append, symMs_len, symEs_len]
/-! ### putting one in -/
theorem shift_start {out : List SymT} {y : SymT} : out ++ [y] = out.take out.length ++ y :: out.drop out.length := by simp
theorem shift_len {out : List SymT} {y : SymT} {k : Nat} (h : k ≤ out.length) : (out.take k ++ y :: out.drop k).length = out.length + 1 := by
 simp only [List.length_append, List.length_cons, List.length_take, List.length_drop]; omega
theorem shift_set {out : List SymT} {y z : SymT} {k : Nat} (h : k ≤ out.length) : (out.take k ++ y :: out.drop k).set k z = out.take k ++ z :: out.drop k := by
 have h1 : (out.take k).length = k := by rw [List.length_take]; omega
 rw [List.set_append, if_neg (by omega), h1, Nat.sub_self, List.set_cons_zero]
theorem shift_get {out : List SymT} {y : SymT} {k : Nat} (h : k < out.length) : (out.take (k + 1) ++ y :: out.drop (k + 1))[k]? = some out[k] := by
 rw [List.getElem?_append_left (by simp; omega), List.getElem?_take_of_lt (by omega), List.getElem?_eq_getElem h]
theorem shift_down {out : List SymT} {y : SymT} {k : Nat} (h : k < out.length) : (out.take (k + 1) ++ y :: out.drop (k + 1)).set (k + 1) out[k] = out.take k ++ out[k] :: out.drop k := by
 rw [shift_set (by omega), List.drop_eq_getElem_cons h, List.take_add_one, List.getElem?_eq_getElem h]
 simp only [Option.toList_some, List.append_assoc, List.cons_append, List.nil_append]
theorem shift_perm {out L : List SymT} {x : SymT} {k i : Nat} (hp : out.Perm (L.take i)) (hx : L[i]? = some x) : (out.take k ++ x :: out.drop k).Perm (L.take (i + 1)) := by
 rw [← len_snoc hx]
 refine List.perm_middle.trans ?_
 rw [List.take_append_drop]
 exact (List.Perm.cons x hp).trans (List.perm_append_comm (l₁ := [x]))
attribute [local irreducible] Cs Own Ex Pu Yld RT LJ QJ AtQ CT Rd QSp Sp FinQ Then LoopQ CutQ DT TakeQ EffQ
variable {B : World} {R : List HP}
set_option maxHeartbeats 8000000 in
theorem rsymbols_fn {f : FileT} (hin : f.In (Rd B R)) (hok : f.Ok) (hsm : FSm f) :
  Sp B Tryz.prog 16 [.agg f.cells.toArray] R [] (fun v H' => ∃ (a : Option Addr) (c : Nat) (l : List SymT), v = .slice a l.length c ∧ l.length ≤ c ∧ l.Perm (symF f) ∧ H' = [Own a c 79 3 l.length (l.flatMap SymT.cells)]) := by
 have hsok := symF_ok hok
 have hsl := symF_len f
 obtain ⟨path, pack, ⟨ia, ic, il⟩, ma, mc, msgs, ⟨ea, ec, es⟩⟩ := f
 obtain ⟨_, rm, rm2, re, re2⟩ := hin
 obtain ⟨⟨pb, _⟩, ⟨kb, _⟩, _, ⟨⟨lm, _⟩, om⟩, ⟨⟨le, _⟩, oe⟩⟩ := hok
 obtain ⟨s1, s2, s3, s4, s5, hnm, hpk, hen, hful, hcnt⟩ := hsm
 dsimp only at rm rm2 re re2 pb kb lm om le oe s1 s2 s4 hnm hpk hen hful hcnt hsl
 generalize hL : symF ⟨path, pack, ⟨ia, ic, il⟩, ma, mc, msgs, ⟨ea, ec, es⟩⟩ = L at *
 unfold symF at hL
 dsimp only at hL
 dsimp only [FileT.cells, Rw.v]
 refine Sp.body Tryz.func16 rfl Tryz.ntmps16 (by simp) ?_
 simp only [argE, List.cons_append, List.nil_append, Nat.zero_add, Nat.reduceAdd]
 repeat' (first|(refine gv ?_;first|refine RT.id ?_|(refine⟨fun hc=>?_,fun hc=>?_⟩<;>first|(exfalso;omega)|skip)|refine gk ?_|refine num_m fun r hr=>?_|intro r hr)|refine gs ?_|(refine gb ?_;intro b)|refine gn ?_|(refine RT.isPush ?_;refine gp ?_;intro a' c' b' c1' hac)|refine gc ?_|fail)
 revert b
 intro xb
 revert b
 intro fb
 obtain ⟨fcl, hfcl⟩ : ∃ fcl, fcl = [vS path, vS pack, Value.slice ia il.length ic, Value.slice ma msgs.length mc, Value.slice ea es.length ec] := ⟨_, rfl⟩
 rw [← hfcl]
 refine CT.weak (fun w h => Sat.nilOwn (e := 79) (sz := 3) h) ?_
 refine CT.loop (α := Nat × Option Addr × Nat) (fun s => [(1, .pointer (some ⟨fb, 0, none⟩)), (3, ptr xb), (4, .int .i64 s.1)])
  (fun s => Pu (s.1 ≤ msgs.length) :: (lst xb path s.2.1 s.2.2 (symMs path (msgs.take s.1) pack) ++ Cs fb 26 fcl :: R)) (fun s => msgs.length - s.1) (0, none, 0)
  ⟨rfl, rfl, rfl, trivial⟩ (fun w h => Sat.pu_in (Nat.zero_le _) (by dsimp only; rw [List.take_zero, symMs]; exact h.frd (Ps := [_, _, _]) (Qs := []) (by (repeat (first|exact Fr.nil|(apply Fr.cons;focus ((repeat constructor);done))))))) (fun ⟨i, a2, c2⟩ => CT.pu fun hil => ?_)
 dsimp only at hil ⊢
 subst hfcl
 simp only [List.cons_append, List.nil_append]
 repeat' (first|(refine gv ?_;first|refine RT.id ?_|(refine⟨fun hc=>?_,fun hc=>?_⟩<;>first|(exfalso;omega)|skip)|refine gk ?_|refine num_m fun r hr=>?_|intro r hr)|refine gs ?_|(refine gb ?_;intro b)|refine gn ?_|(refine RT.isPush ?_;refine gp ?_;intro a' c' b' c1' hac)|(refine CT.id_ ?_;first|refine nx ?_|refine CT.region ?_|refine CT.cond_t rfl ?_|refine CT.cond_f rfl ?_))
 ·have hi' : i < msgs.length := by omega
  have hgi := List.getElem?_eq_getElem hi'
  revert hgi
  generalize msgs[i] = m2
  intro hgi
  have hme2 := List.mem_of_getElem? hgi
  have hcn := sum_snoc (f := cntM) hgi
  rw [← cntMs_eq, ← cntMs_eq] at hcn
  refine CT.tail 8 mixed (by kernel_rfl) ?_
  dsimp only [List.take_succ_cons, List.take_zero]
  repeat' (first|(refine gv ?_;first|refine RT.id ?_|(refine⟨fun hc=>?_,fun hc=>?_⟩<;>first|(exfalso;omega)|skip)|refine gk ?_|refine num_m fun r hr=>?_|intro r hr)|refine gs ?_|(refine gb ?_;intro b)|refine gn ?_|(refine RT.isPush ?_;refine gp ?_;intro a' c' b' c1' hac)|refine gc ?_|fail)
  refine RT.ix T (j := i * 7) rfl rfl rfl (by repeat (first | exact (rm) | apply Rd.cons)) (by omega) (by omega) (by omega) rfl rfl ?_
  refine RT.ldra T rfl (by repeat (first | exact (rm) | apply Rd.cons)) (l := m2.cells) (flat_sub (f := MsgT.cells) (z := 7) (fun _ => rfl) msgs i _ hgi) rfl rfl rfl rfl ?_
  repeat' (first|(refine gv ?_;first|refine RT.id ?_|(refine⟨fun hc=>?_,fun hc=>?_⟩<;>first|(exfalso;omega)|skip)|refine gk ?_|refine num_m fun r hr=>?_|intro r hr)|refine gs ?_|(refine gb ?_;intro b)|refine gn ?_|(refine RT.isPush ?_;refine gp ?_;intro a' c' b' c1' hac)|refine gc ?_|fail)
  refine AtQ.tail ?_
  refine RT.call T rfl (by (repeat (first|exact Fr.nil|(apply Fr.cons;focus ((repeat constructor);done))))) (smsg_fn m2.deep (xb := xb) (fl := path) (a := a2) (c := c2) (l := symMs path (msgs.take i) pack) (m := m2) (sc := pack) (Nat.le_refl _) (MsgT.In.mono (fun _ _ _ _ _ h => (by repeat (first | exact (h) | apply Rd.cons))) (rm2 m2 hme2)) (om m2 hme2) (MsgT.nmL_mem hnm hme2) (MsgT.fulL_mem hful hme2) kb (by omega) (by rw [symMs_len]; omega)) rfl rfl rfl ?_
  rintro _ _ ⟨rfl, a3, c3, rfl⟩
  simp only [List.cons_append, List.nil_append]
  repeat' (first|(refine gv ?_;first|refine RT.id ?_|(refine⟨fun hc=>?_,fun hc=>?_⟩<;>first|(exfalso;omega)|skip)|refine gk ?_|refine num_m fun r hr=>?_|intro r hr)|refine gs ?_|(refine gb ?_;intro b)|refine gn ?_|(refine RT.isPush ?_;refine gp ?_;intro a' c' b' c1' hac)|refine gc ?_|fail)
  refine AtQ.loop (i + 1, a3, c3) ⟨rfl, rfl, rfl, trivial⟩ (fun w h => Sat.pu_in (by dsimp only; omega) ?_) (by dsimp only; omega)
  dsimp only
  rw [← symMs_snoc hgi]
  exact h
 rw [List.take_of_length_le (by omega)]
 clear hil rm rm2
 generalize hL3 : symMs path msgs pack = L3 at *
 have hl3 : L3.length = cntMs msgs := by rw [← hL3, symMs_len]
 obtain ⟨fcl, hfcl⟩ : ∃ fcl, fcl = [vS path, vS pack, Value.slice ia il.length ic, Value.slice ma msgs.length mc, Value.slice ea es.length ec] := ⟨_, rfl⟩
 rw [← hfcl]
 refine CT.loop (α := Nat × Option Addr × Nat) (fun s => [(1, .pointer (some ⟨fb, 0, none⟩)), (3, ptr xb), (5, .int .i64 s.1)])
  (fun s => Pu (s.1 ≤ es.length) :: (lst xb path s.2.1 s.2.2 (L3 ++ (es.take s.1).flatMap (symE path pack)) ++ Cs fb 26 fcl :: R)) (fun s => es.length - s.1) (0, a2, c2)
  ⟨rfl, rfl, rfl, trivial⟩ (fun w h => Sat.pu_in (Nat.zero_le _) (by dsimp only; rw [List.take_zero, List.flatMap_nil, List.append_nil]; exact h)) (fun ⟨i, a2, c2⟩ => CT.pu fun hil => ?_)
 dsimp only at hil ⊢
 subst hfcl
 simp only [List.cons_append, List.nil_append]
 repeat' (first|(refine gv ?_;first|refine RT.id ?_|(refine⟨fun hc=>?_,fun hc=>?_⟩<;>first|(exfalso;omega)|skip)|refine gk ?_|refine num_m fun r hr=>?_|intro r hr)|refine gs ?_|(refine gb ?_;intro b)|refine gn ?_|(refine RT.isPush ?_;refine gp ?_;intro a' c' b' c1' hac)|(refine CT.id_ ?_;first|refine nx ?_|refine CT.region ?_|refine CT.cond_t rfl ?_|refine CT.cond_f rfl ?_))
 ·have hi' : i < es.length := by omega
  have hgi := List.getElem?_eq_getElem hi'
  revert hgi
  generalize es[i] = e2
  intro hgi
  have hme2 := List.mem_of_getElem? hgi
  have hcn := sum_snoc (f := cntE) hgi
  refine CT.tail 8 mixed (by kernel_rfl) ?_
  dsimp only [List.take_succ_cons, List.take_zero]
  repeat' (first|(refine gv ?_;first|refine RT.id ?_|(refine⟨fun hc=>?_,fun hc=>?_⟩<;>first|(exfalso;omega)|skip)|refine gk ?_|refine num_m fun r hr=>?_|intro r hr)|refine gs ?_|(refine gb ?_;intro b)|refine gn ?_|(refine RT.isPush ?_;refine gp ?_;intro a' c' b' c1' hac)|refine gc ?_|fail)
  refine RT.ix T (j := i * 5) rfl rfl rfl (by repeat (first | exact (re) | apply Rd.cons)) (by omega) (by omega) (by omega) rfl rfl ?_
  refine RT.ldra T rfl (by repeat (first | exact (re) | apply Rd.cons)) (l := e2.cells) (flat_sub (f := EnumT.cells) (z := 5) (fun _ => rfl) es i _ hgi) rfl rfl rfl rfl ?_
  repeat' (first|(refine gv ?_;first|refine RT.id ?_|(refine⟨fun hc=>?_,fun hc=>?_⟩<;>first|(exfalso;omega)|skip)|refine gk ?_|refine num_m fun r hr=>?_|intro r hr)|refine gs ?_|(refine gb ?_;intro b)|refine gn ?_|(refine RT.isPush ?_;refine gp ?_;intro a' c' b' c1' hac)|refine gc ?_|fail)
  refine AtQ.tail ?_
  refine RT.call T rfl (by (repeat (first|exact Fr.nil|(apply Fr.cons;focus ((repeat constructor);done))))) (senum_fn (xb := xb) (fl := path) (a := a2) (c := c2) (l := L3 ++ (es.take i).flatMap (symE path pack)) (e := e2) (sc := pack) (EnumT.In.mono (fun _ _ _ _ _ h => (by repeat (first | exact (h) | apply Rd.cons))) (re2 e2 hme2)) (oe e2 hme2) (hen e2 hme2) kb hpk (by rw [List.length_append, symEs_len]; omega)) rfl rfl rfl ?_
  rintro _ _ ⟨rfl, a3, c3, rfl⟩
  simp only [List.cons_append, List.nil_append]
  repeat' (first|(refine gv ?_;first|refine RT.id ?_|(refine⟨fun hc=>?_,fun hc=>?_⟩<;>first|(exfalso;omega)|skip)|refine gk ?_|refine num_m fun r hr=>?_|intro r hr)|refine gs ?_|(refine gb ?_;intro b)|refine gn ?_|(refine RT.isPush ?_;refine gp ?_;intro a' c' b' c1' hac)|refine gc ?_|fail)
  refine AtQ.loop (i + 1, a3, c3) ⟨rfl, rfl, rfl, trivial⟩ (fun w h => Sat.pu_in (by dsimp only; omega) ?_) (by dsimp only; omega)
  dsimp only
  rw [← flat_snoc hgi, ← List.append_assoc]
  exact h
 rw [List.take_of_length_le (by omega), hL]
 clear hil re re2 hL hnm hpk hen hful
 generalize hfcl : [vS path, vS pack, Value.slice ia il.length ic, Value.slice ma msgs.length mc, Value.slice ea es.length ec] = fcl
 clear hfcl
 refine CT.fact (p := L.length ≤ c2) (fun w h => (Own.facts h (by ((repeat constructor);done))).2.1) fun hLc => ?_
 refine CT.weak (fun w h => Sat.nilOwn (e := 79) (sz := 3) h) ?_
 refine CT.loop (α := Nat × List SymT × Option Addr × Nat) (fun s => [(3, ptr xb), (6, .slice s.2.2.1 s.2.1.length s.2.2.2), (7, .int .i64 s.1)])
  (fun s => Pu (s.1 ≤ L.length ∧ s.2.1.Perm (L.take s.1) ∧ s.2.1.length ≤ s.2.2.2) :: Own s.2.2.1 s.2.2.2 79 3 s.2.1.length (s.2.1.flatMap SymT.cells) :: (lst xb path a2 c2 L ++ Cs fb 26 fcl :: R)) (fun s => L.length - s.1) (0, [], none, 0)
  ⟨rfl, rfl, rfl, trivial⟩ (fun w h => Sat.pu_in ⟨Nat.zero_le _, List.Perm.refl _, Nat.le_refl _⟩ h) (fun ⟨i, out, ao, co⟩ => CT.pu fun ⟨hil, hpo, hoc⟩ => ?_)
 dsimp only at hil hpo hoc ⊢
 simp only [List.cons_append, List.nil_append]
 have hol : out.length = i := by rw [hpo.length_eq, List.length_take]; omega
 have hsl2 : L.length ≤ 16777216 := by omega
 clear hsl hcnt
 repeat' (first|(refine gv ?_;first|refine RT.id ?_|(refine⟨fun hc=>?_,fun hc=>?_⟩<;>first|(exfalso;omega)|skip)|refine gk ?_|refine num_m fun r hr=>?_|intro r hr)|refine gs ?_|(refine gb ?_;intro b)|refine gn ?_|(refine RT.isPush ?_;refine gp ?_;intro a' c' b' c1' hac)|(refine CT.id_ ?_;first|refine CT.seqN 15 rfl ?_|refine CT.blockN 15 rfl ?_|refine CT.region ?_|refine CT.quiet mixed (by kernel_rfl) ?_|refine CT.cond_t rfl ?_|refine CT.cond_f rfl ?_|refine CT.skip ?_|refine CT.ret ?_|refine CT.exit ?_))
 ·have hi' : i < L.length := by omega
  have hgi := List.getElem?_eq_getElem hi'
  revert hgi
  generalize L[i] = x
  intro hgi
  have hxok := hsok x (List.mem_of_getElem? hgi)
  refine CT.seq ?_
  refine CT.cut (α := Nat) (fun q => [(3, ptr xb), (6, .slice ao out.length co), (7, .int .i64 i), (8, .int .i64 q)])
   (fun q => Pu (q ≤ out.length) :: Own ao co 79 3 out.length (out.flatMap SymT.cells) :: Cs xb 130 [.slice a2 L.length c2, vS path] :: Own a2 c2 79 3 L.length (L.flatMap SymT.cells) :: Cs fb 26 fcl :: R) ?_ (fun q => ?_)
  ·refine nx ?_
   refine CT.loop (α := Nat) (fun q => [(3, ptr xb), (6, .slice ao out.length co), (7, .int .i64 i), (8, .int .i64 q)])
    (fun q => Pu (q ≤ out.length) :: Own ao co 79 3 out.length (out.flatMap SymT.cells) :: Cs xb 130 [.slice a2 L.length c2, vS path] :: Own a2 c2 79 3 L.length (L.flatMap SymT.cells) :: Cs fb 26 fcl :: R) (fun q => q) out.length
    ⟨rfl, rfl, rfl, rfl, trivial⟩ (fun w h => Sat.pu_in (Nat.le_refl _) h) (fun q => CT.pu fun hq => ?_)
   repeat' (first|(refine gv ?_;first|refine RT.id ?_|(refine⟨fun hc=>?_,fun hc=>?_⟩<;>first|(exfalso;omega)|skip)|refine gk ?_|refine num_m fun r hr=>?_|intro r hr)|refine gs ?_|(refine gb ?_;intro b)|refine gn ?_|(refine RT.isPush ?_;refine gp ?_;intro a' c' b' c1' hac)|(refine CT.id_ ?_;first|refine nx ?_|refine CT.region ?_|refine CT.cond_t rfl ?_|refine CT.cond_f rfl ?_))
   refine CT.tail 15 mixed (by kernel_rfl) ?_
   dsimp only [List.take_succ_cons, List.take_zero]
   repeat' (first|(refine gv ?_;first|refine RT.id ?_|(refine⟨fun hc=>?_,fun hc=>?_⟩<;>first|(exfalso;omega)|skip)|refine gk ?_|refine num_m fun r hr=>?_|intro r hr)|refine gs ?_|(refine gb ?_;intro b)|refine gn ?_|(refine RT.isPush ?_;refine gp ?_;intro a' c' b' c1' hac)|refine gc ?_|fail)
   ·refine RT.ix T (j := i * 3) rfl rfl rfl (own_rd (by ((repeat constructor);done)) hLc) (by omega) (by omega) (by omega) rfl rfl ?_
    refine RT.ldra T rfl (own_rd (by ((repeat constructor);done)) hLc) (l := x.cells) (flat_sub (f := SymT.cells) (z := 3) (fun _ => rfl) L i _ hgi) rfl rfl rfl rfl ?_
    repeat' (first|(refine gv ?_;first|refine RT.id ?_|(refine⟨fun hc=>?_,fun hc=>?_⟩<;>first|(exfalso;omega)|skip)|refine gk ?_|refine num_m fun r hr=>?_|intro r hr)|refine gs ?_|(refine gb ?_;intro b)|refine gn ?_|(refine RT.isPush ?_;refine gp ?_;intro a' c' b' c1' hac)|refine gc ?_|fail)
    have hq' : q - 1 < out.length := by omega
    have hgq := List.getElem?_eq_getElem hq'
    have hyok := hsok out[q - 1] (List.mem_of_mem_take (hpo.mem_iff.1 (List.getElem_mem hq')))
    revert hgq hyok
    generalize out[q - 1] = y
    intro hgq hyok
    refine RT.ix T (j := (q - 1) * 3) rfl rfl rfl (own_rd (by ((repeat constructor);done)) hoc) (by omega) (by omega) (by omega) rfl rfl ?_
    refine RT.ldra T rfl (own_rd (by ((repeat constructor);done)) hoc) (l := y.cells) (flat_sub (f := SymT.cells) (z := 3) (fun _ => rfl) out (q - 1) _ hgq) rfl rfl rfl rfl ?_
    repeat' (first|(refine gv ?_;first|refine RT.id ?_|(refine⟨fun hc=>?_,fun hc=>?_⟩<;>first|(exfalso;omega)|skip)|refine gk ?_|refine num_m fun r hr=>?_|intro r hr)|refine gs ?_|(refine gb ?_;intro b)|refine gn ?_|(refine RT.isPush ?_;refine gp ?_;intro a' c' b' c1' hac)|refine gc ?_|fail)
    refine AtQ.tail ?_
    refine RT.call T rfl (by (repeat (first|exact Fr.nil|(apply Fr.cons;focus ((repeat constructor);done))))) (before_fn hxok hyok) rfl rfl rfl ?_
    rintro _ _ ⟨rfl, rfl⟩
    simp only [List.nil_append]
    cases befB x y
    ·repeat' (first|(refine gv ?_;first|refine RT.id ?_|(refine⟨fun hc=>?_,fun hc=>?_⟩<;>first|(exfalso;omega)|skip)|refine gk ?_|refine num_m fun r hr=>?_|intro r hr)|refine gs ?_|(refine gb ?_;intro b)|refine gn ?_|(refine RT.isPush ?_;refine gp ?_;intro a' c' b' c1' hac)|refine gc ?_|fail)
     exact AtQ.cut q ⟨rfl, rfl, rfl, rfl, trivial⟩ (fun w h => Sat.pu_in hq h)
    ·repeat' (first|(refine gv ?_;first|refine RT.id ?_|(refine⟨fun hc=>?_,fun hc=>?_⟩<;>first|(exfalso;omega)|skip)|refine gk ?_|refine num_m fun r hr=>?_|intro r hr)|refine gs ?_|(refine gb ?_;intro b)|refine gn ?_|(refine RT.isPush ?_;refine gp ?_;intro a' c' b' c1' hac)|refine gc ?_|fail)
     exact AtQ.loop (q - 1) ⟨rfl, rfl, rfl, congrArg (fun z : Int => some (Value.int IntKind.i64 z)) (by omega), trivial⟩ (fun w h => Sat.pu_in (by omega) h) (by omega)
   ·refine AtQ.tail ?_
    repeat' (first|(refine gv ?_;first|refine RT.id ?_|(refine⟨fun hc=>?_,fun hc=>?_⟩<;>first|(exfalso;omega)|skip)|refine gk ?_|refine num_m fun r hr=>?_|intro r hr)|refine gs ?_|(refine gb ?_;intro b)|refine gn ?_|(refine RT.isPush ?_;refine gp ?_;intro a' c' b' c1' hac)|refine gc ?_|fail)
    exact AtQ.cut q ⟨rfl, rfl, rfl, rfl, trivial⟩ (fun w h => Sat.pu_in hq h)
  refine A0 ?_
  refine CT.pu fun hq => ?_
  repeat' (first|(refine gv ?_;first|refine RT.id ?_|(refine⟨fun hc=>?_,fun hc=>?_⟩<;>first|(exfalso;omega)|skip)|refine gk ?_|refine num_m fun r hr=>?_|intro r hr)|refine gs ?_|(refine gb ?_;intro b)|refine gn ?_|(refine RT.isPush ?_;refine gp ?_;intro a' c' b' c1' hac)|refine gc ?_|fail)
  refine RT.bsA T (l := (⟨[], 0, []⟩ : SymT).cells) rfl rfl rfl rfl rfl rfl rfl rfl (fun b' => ?_)
  refine RT.app T (xs := out.flatMap SymT.cells) (ys := (⟨[], 0, []⟩ : SymT).cells) rfl rfl rfl (fun a' c' => by ((repeat constructor);done)) (Own.rd (by ((repeat constructor);done)) rfl (Nat.le_refl _)) (one_sym _) (by omega) (by omega) rfl rfl rfl rfl (fun a1 c1 hac => ?_)
  have hst : out.flatMap SymT.cells ++ (⟨[], 0, []⟩ : SymT).cells = (out.take out.length ++ ⟨[], 0, []⟩ :: out.drop out.length).flatMap SymT.cells := by rw [← shift_start]; simp
  rw [hst]
  repeat' (first|(refine gv ?_;first|refine RT.id ?_|(refine⟨fun hc=>?_,fun hc=>?_⟩<;>first|(exfalso;omega)|skip)|refine gk ?_|refine num_m fun r hr=>?_|intro r hr)|refine gs ?_|(refine gb ?_;intro b)|refine gn ?_|(refine RT.isPush ?_;refine gp ?_;intro a' c' b' c1' hac)|refine gc ?_|fail)
  refine CT.loop (α := Nat × SymT) (fun s => [(3, ptr xb), (6, .slice a1 (out.length + 1) c1), (7, .int .i64 i), (8, .int .i64 q), (9, .int .i64 s.1)])
   (fun s => Pu (q ≤ s.1 ∧ s.1 ≤ out.length) :: Own a1 c1 79 3 (out.length + 1) ((out.take s.1 ++ s.2 :: out.drop s.1).flatMap SymT.cells) :: Cs xb 130 [.slice a2 L.length c2, vS path] :: Own a2 c2 79 3 L.length (L.flatMap SymT.cells) :: Cs fb 26 fcl :: R) (fun s => s.1) (out.length, ⟨[], 0, []⟩)
   ⟨rfl, rfl, rfl, rfl, congrArg (fun z : Int => some (Value.int IntKind.i64 z)) (by dsimp only; omega), trivial⟩ (fun w h => Sat.pu_in ⟨hq, Nat.le_refl _⟩ h.tail) (fun ⟨k, y⟩ => CT.pu fun ⟨hk1, hk2⟩ => ?_)
  dsimp only at hk1 hk2 ⊢
  repeat' (first|(refine gv ?_;first|refine RT.id ?_|(refine⟨fun hc=>?_,fun hc=>?_⟩<;>first|(exfalso;omega)|skip)|refine gk ?_|refine num_m fun r hr=>?_|intro r hr)|refine gs ?_|(refine gb ?_;intro b)|refine gn ?_|(refine RT.isPush ?_;refine gp ?_;intro a' c' b' c1' hac)|refine gc ?_|fail)
  ·obtain ⟨k, rfl⟩ : ∃ k', k = k' + 1 := ⟨k - 1, by omega⟩
   have hk' : k < out.length := by omega
   have hus := shift_len (out := out) (y := y) (k := k + 1) (by omega)
   have hgk := shift_get (y := y) hk'
   have hdn := shift_down (y := y) hk'
   refine RT.ix T (j := k * 3) rfl rfl rfl (Own.rd (by ((repeat constructor);done)) (by rw [flat_len sym_len, hus]) hac) (by omega) (by omega) (by omega) rfl rfl ?_
   refine RT.ldra T rfl (Own.rd (by ((repeat constructor);done)) (by rw [flat_len sym_len, hus]) hac) (l := out[k].cells) (flat_sub (f := SymT.cells) (z := 3) (fun _ => rfl) _ k _ hgk) rfl rfl rfl rfl ?_
   refine RT.ix T (j := (k + 1) * 3) rfl rfl rfl (Own.rd (by ((repeat constructor);done)) (by rw [flat_len sym_len, hus]) hac) (by omega) (by omega) (by omega) rfl rfl ?_
   refine RT.stoA T (v := out[k].cells) rfl rfl rfl (by ((repeat constructor);done)) (by rw [flat_len sym_len, hus, sym_len]; omega) (by rw [sym_len]; decide) rfl rfl rfl ?_
   rw [sym_len, flat_set sym_len _ (by rw [hus]; omega), hdn]
   repeat' (first|(refine gv ?_;first|refine RT.id ?_|(refine⟨fun hc=>?_,fun hc=>?_⟩<;>first|(exfalso;omega)|skip)|refine gk ?_|refine num_m fun r hr=>?_|intro r hr)|refine gs ?_|(refine gb ?_;intro b)|refine gn ?_|(refine RT.isPush ?_;refine gp ?_;intro a' c' b' c1' hac)|refine gc ?_|fail)
   exact AtQ.loop (k, out[k]) ⟨rfl, rfl, rfl, rfl, congrArg (fun z : Int => some (Value.int IntKind.i64 z)) (by dsimp only; omega), trivial⟩ (fun w h => Sat.pu_in ⟨by dsimp only; omega, by dsimp only; omega⟩ h) (by dsimp only; omega)
  ·obtain rfl : k = q := by omega
   have hus := shift_len (out := out) (y := y) (k := k) (by omega)
   refine RT.ix T (j := i * 3) rfl rfl rfl (own_rd (by ((repeat constructor);done)) hLc) (by omega) (by omega) (by omega) rfl rfl ?_
   refine RT.ldra T rfl (own_rd (by ((repeat constructor);done)) hLc) (l := x.cells) (flat_sub (f := SymT.cells) (z := 3) (fun _ => rfl) L i _ hgi) rfl rfl rfl rfl ?_
   refine RT.ix T (j := k * 3) rfl rfl rfl (Own.rd (by ((repeat constructor);done)) (by rw [flat_len sym_len, hus]) hac) (by omega) (by omega) (by omega) rfl rfl ?_
   refine RT.stoA T (v := x.cells) rfl rfl rfl (by ((repeat constructor);done)) (by rw [flat_len sym_len, hus, sym_len]; omega) (by rw [sym_len]; decide) rfl rfl rfl ?_
   rw [sym_len, flat_set sym_len _ (by rw [hus]; omega), shift_set (by omega)]
   repeat' (first|(refine gv ?_;first|refine RT.id ?_|(refine⟨fun hc=>?_,fun hc=>?_⟩<;>first|(exfalso;omega)|skip)|refine gk ?_|refine num_m fun r hr=>?_|intro r hr)|refine gs ?_|(refine gb ?_;intro b)|refine gn ?_|(refine RT.isPush ?_;refine gp ?_;intro a' c' b' c1' hac)|refine gc ?_|fail)
   have hus2 := shift_len (out := out) (y := x) (k := k) (by omega)
   refine AtQ.loop (i + 1, out.take k ++ x :: out.drop k, a1, c1) ⟨rfl, by dsimp only; rw [hus2]; rfl, rfl, trivial⟩ (fun w h => Sat.pu_in ⟨by dsimp only; omega, shift_perm hpo hgi, by dsimp only; omega⟩ (by dsimp only; rw [hus2]; exact h)) (by dsimp only; omega)
 ·rw [List.take_of_length_le (by omega)] at hpo
  exact AtQ.fin1 (H' := [Own ao co 79 3 out.length (out.flatMap SymT.cells)]) Tryz.results16 rfl ⟨ao, co, out, rfl, hoc, hpo, rfl⟩ (fun w h => h.frd (Ps := [_]) (Qs := [_, _, _]) (by (repeat (first|exact Fr.nil|(apply Fr.cons;focus ((repeat constructor);done))))))
end Go.Proofs.YtdemnhdoadjhhaaGreatDoor
end
section
namespace Go.Proofs.YtdemnhdoadjhhaaGreatDoor
open Go.Sk
set_option maxRecDepth 100000
attribute [local irreducible] Cs Own Ex Pu Yld RT LJ QJ AtQ CT Rd QSp Sp FinQ Then LoopQ CutQ DT TakeQ EffQ
variable {B : World} {R : List HP}
set_option maxHeartbeats 8000000 in
theorem symbols_fn {f : FileT} (hin : f.In (Rd B R)) (hok : f.Ok) (hsm : FSm f) :
  Sp B Tryz.prog 12 [.agg f.cells.toArray] R [] (fun v H' => ∃ (a : Option Addr) (c : Nat) (l : List SymT), v = .slice a l.length c ∧ l.length ≤ c ∧ l.Perm (symF f) ∧ Srt befB l ∧ H' = [Own a c 79 3 l.length (l.flatMap SymT.cells)]) := by
 have hsok := symF_ok hok
 have hsl := symF_len f
 obtain ⟨path, pack, ⟨ia, ic, il⟩, ma, mc, msgs, ⟨ea, ec, es⟩⟩ := f
 obtain ⟨_, rm, rm2, re, re2⟩ := hin
 obtain ⟨⟨pb, _⟩, ⟨kb, _⟩, _, ⟨⟨lm, _⟩, om⟩, ⟨⟨le, _⟩, oe⟩⟩ := hok
 obtain ⟨s1, s2, s3, s4, s5, hnm, hpk, hen, hful, hcnt⟩ := hsm
 dsimp only at rm rm2 re re2 pb kb lm om le oe s1 s2 s4 hnm hpk hen hful hcnt hsl
 generalize hL : symF ⟨path, pack, ⟨ia, ic, il⟩, ma, mc, msgs, ⟨ea, ec, es⟩⟩ = L at *
 unfold symF at hL
 dsimp only at hL
 dsimp only [FileT.cells, Rw.v]
 refine Sp.body Tryz.func12 rfl Tryz.ntmps12 (by simp) ?_
 simp only [argE, List.cons_append, List.nil_append, Nat.zero_add, Nat.reduceAdd]
 repeat' (first|(refine gv ?_;first|refine RT.id ?_|(refine⟨fun hc=>?_,fun hc=>?_⟩<;>first|(exfalso;omega)|skip)|refine gk ?_|refine num_m fun r hr=>?_|intro r hr)|refine gs ?_|(refine gb ?_;intro b)|refine gn ?_|(refine RT.isPush ?_;refine gp ?_;intro a' c' b' c1' hac)|refine gc ?_|fail)
 rename_i fb0
 revert b
 intro lb
 revert fb0
 intro fb
 refine RT.mkF rfl rfl rfl ?_
 repeat' (first|(refine gv ?_;first|refine RT.id ?_|(refine⟨fun hc=>?_,fun hc=>?_⟩<;>first|(exfalso;omega)|skip)|refine gk ?_|refine num_m fun r hr=>?_|intro r hr)|refine gs ?_|(refine gb ?_;intro b)|refine gn ?_|(refine RT.isPush ?_;refine gp ?_;intro a' c' b' c1' hac)|refine gc ?_|fail)
 revert b
 intro cb
 refine RT.mkF rfl rfl rfl ?_
 repeat' (first|(refine gv ?_;first|refine RT.id ?_|(refine⟨fun hc=>?_,fun hc=>?_⟩<;>first|(exfalso;omega)|skip)|refine gk ?_|refine num_m fun r hr=>?_|intro r hr)|refine gs ?_|(refine gb ?_;intro b)|refine gn ?_|(refine RT.isPush ?_;refine gp ?_;intro a' c' b' c1' hac)|refine gc ?_|fail)
 rename_i eb0
 revert b
 intro mb
 revert eb0
 intro eb
 refine RT.mkF rfl rfl rfl ?_
 repeat' (first|(refine gv ?_;first|refine RT.id ?_|(refine⟨fun hc=>?_,fun hc=>?_⟩<;>first|(exfalso;omega)|skip)|refine gk ?_|refine num_m fun r hr=>?_|intro r hr)|refine gs ?_|(refine gb ?_;intro b)|refine gn ?_|(refine RT.isPush ?_;refine gp ?_;intro a' c' b' c1' hac)|refine gc ?_|fail)
 refine CT.weak (fun w h => Sat.nilOwn (e := 79) (sz := 3) h) ?_
 refine CT.loop (α := Nat × Option Addr × Nat) (fun s => [(1, .pointer (some ⟨fb, 0, none⟩)), (3, ptr lb), (5, ptr eb), (6, ptr mb), (15, .slice ma msgs.length mc), (16, .int .i64 msgs.length), (17, .int .i64 s.1)])
  (fun s => Pu (s.1 ≤ msgs.length) :: (clo cb mb eb lb fb [vS path, vS pack, Value.slice ia il.length ic, Value.slice ma msgs.length mc, Value.slice ea es.length ec] s.2.1 s.2.2 (symMs path (msgs.take s.1) pack) ++ R)) (fun s => msgs.length - s.1) (0, none, 0)
  ⟨rfl, rfl, rfl, rfl, rfl, rfl, rfl, trivial⟩ (fun w h => Sat.pu_in (Nat.zero_le _) (by dsimp only; rw [List.take_zero, symMs]; exact h.frd (Ps := [_, _, _, _, _, _]) (Qs := []) (by (repeat (first|exact Fr.nil|(apply Fr.cons;focus ((repeat constructor);done))))))) (fun ⟨i, a2, c2⟩ => CT.pu fun hil => ?_)
 dsimp only at hil ⊢
 simp only [List.cons_append, List.nil_append]
 repeat' (first|(refine gv ?_;first|refine RT.id ?_|(refine⟨fun hc=>?_,fun hc=>?_⟩<;>first|(exfalso;omega)|skip)|refine gk ?_|refine num_m fun r hr=>?_|intro r hr)|refine gs ?_|(refine gb ?_;intro b)|refine gn ?_|(refine RT.isPush ?_;refine gp ?_;intro a' c' b' c1' hac)|refine gc ?_|fail)
 ·have hi' : i < msgs.length := by omega
  have hgi := List.getElem?_eq_getElem hi'
  revert hgi
  generalize msgs[i] = m2
  intro hgi
  have hme2 := List.mem_of_getElem? hgi
  have hcn := sum_snoc (f := cntM) hgi
  rw [← cntMs_eq, ← cntMs_eq] at hcn
  refine RT.ix T (j := i * 7) rfl rfl rfl (by repeat (first | exact (rm) | apply Rd.cons)) (by omega) (by omega) (by omega) rfl rfl ?_
  refine RT.ldra T rfl (by repeat (first | exact (rm) | apply Rd.cons)) (l := m2.cells) (flat_sub (f := MsgT.cells) (z := 7) (fun _ => rfl) msgs i _ hgi) rfl rfl rfl rfl ?_
  repeat' (first|(refine gv ?_;first|refine RT.id ?_|(refine⟨fun hc=>?_,fun hc=>?_⟩<;>first|(exfalso;omega)|skip)|refine gk ?_|refine num_m fun r hr=>?_|intro r hr)|refine gs ?_|(refine gb ?_;intro b)|refine gn ?_|(refine RT.isPush ?_;refine gp ?_;intro a' c' b' c1' hac)|refine gt ?_|refine gc ?_|fail)
  refine RT.callC T (caps := [ptr cb, ptr mb, ptr eb]) rfl rfl (by (repeat (first|exact Fr.nil|(apply Fr.cons;focus ((repeat constructor);done))))) (cmsg_fn m2.deep (pb := cb) (mb := mb) (eb := eb) (lb := lb) (fb := fb) (path := path) (a := a2) (c := c2) (l := symMs path (msgs.take i) pack) (m := m2) (sc := pack) (Nat.le_refl _) (MsgT.In.mono (fun _ _ _ _ _ h => (by repeat (first | exact (h) | apply Rd.cons))) (rm2 m2 hme2)) (om m2 hme2) (MsgT.nmL_mem hnm hme2) (MsgT.fulL_mem hful hme2) kb (by omega) (by rw [symMs_len]; omega)) rfl rfl rfl ?_
  rintro _ _ ⟨rfl, a3, c3, rfl⟩
  simp only [List.cons_append, List.nil_append]
  repeat' (first|(refine gv ?_;first|refine RT.id ?_|(refine⟨fun hc=>?_,fun hc=>?_⟩<;>first|(exfalso;omega)|skip)|refine gk ?_|refine num_m fun r hr=>?_|intro r hr)|refine gs ?_|(refine gb ?_;intro b)|refine gn ?_|(refine RT.isPush ?_;refine gp ?_;intro a' c' b' c1' hac)|refine gc ?_|fail)
  refine AtQ.loop (i + 1, a3, c3) ⟨rfl, rfl, rfl, rfl, rfl, rfl, rfl, trivial⟩ (fun w h => Sat.pu_in (by dsimp only; omega) ?_) (by dsimp only; omega)
  dsimp only
  rw [← symMs_snoc hgi]
  exact h.frd (Ps := [_, _, _, _, _, _]) (Qs := [_]) (by (repeat (first|exact Fr.nil|(apply Fr.cons;focus ((repeat constructor);done)))))
 rw [List.take_of_length_le (by omega)]
 clear hil rm rm2
 generalize hL3 : symMs path msgs pack = L3 at *
 have hl3 : L3.length = cntMs msgs := by rw [← hL3, symMs_len]
 refine CT.loop (α := Nat × Option Addr × Nat) (fun s => [(1, .pointer (some ⟨fb, 0, none⟩)), (3, ptr lb), (5, ptr eb), (28, .slice ea es.length ec), (29, .int .i64 es.length), (30, .int .i64 s.1)])
  (fun s => Pu (s.1 ≤ es.length) :: (clo cb mb eb lb fb [vS path, vS pack, Value.slice ia il.length ic, Value.slice ma msgs.length mc, Value.slice ea es.length ec] s.2.1 s.2.2 (L3 ++ (es.take s.1).flatMap (symE path pack)) ++ R)) (fun s => es.length - s.1) (0, a2, c2)
  ⟨rfl, rfl, rfl, rfl, rfl, rfl, trivial⟩ (fun w h => Sat.pu_in (Nat.zero_le _) (by dsimp only; rw [List.take_zero, List.flatMap_nil, List.append_nil]; exact h)) (fun ⟨i, a2, c2⟩ => CT.pu fun hil => ?_)
 dsimp only at hil ⊢
 simp only [List.cons_append, List.nil_append]
 repeat' (first|(refine gv ?_;first|refine RT.id ?_|(refine⟨fun hc=>?_,fun hc=>?_⟩<;>first|(exfalso;omega)|skip)|refine gk ?_|refine num_m fun r hr=>?_|intro r hr)|refine gs ?_|(refine gb ?_;intro b)|refine gn ?_|(refine RT.isPush ?_;refine gp ?_;intro a' c' b' c1' hac)|refine gc ?_|fail)
 ·have hi' : i < es.length := by omega
  have hgi := List.getElem?_eq_getElem hi'
  revert hgi
  generalize es[i] = e2
  intro hgi
  have hme2 := List.mem_of_getElem? hgi
  have hcn := sum_snoc (f := cntE) hgi
  refine RT.ix T (j := i * 5) rfl rfl rfl (by repeat (first | exact (re) | apply Rd.cons)) (by omega) (by omega) (by omega) rfl rfl ?_
  refine RT.ldra T rfl (by repeat (first | exact (re) | apply Rd.cons)) (l := e2.cells) (flat_sub (f := EnumT.cells) (z := 5) (fun _ => rfl) es i _ hgi) rfl rfl rfl rfl ?_
  repeat' (first|(refine gv ?_;first|refine RT.id ?_|(refine⟨fun hc=>?_,fun hc=>?_⟩<;>first|(exfalso;omega)|skip)|refine gk ?_|refine num_m fun r hr=>?_|intro r hr)|refine gs ?_|(refine gb ?_;intro b)|refine gn ?_|(refine RT.isPush ?_;refine gp ?_;intro a' c' b' c1' hac)|refine gt ?_|refine gc ?_|fail)
  refine RT.callC T (caps := [ptr cb]) rfl rfl (by (repeat (first|exact Fr.nil|(apply Fr.cons;focus ((repeat constructor);done))))) (cenum_fn (pb := cb) (lb := lb) (fb := fb) (path := path) (a := a2) (c := c2) (l := L3 ++ (es.take i).flatMap (symE path pack)) (e := e2) (sc := pack) (EnumT.In.mono (fun _ _ _ _ _ h => (by repeat (first | exact (h) | apply Rd.cons))) (re2 e2 hme2)) (oe e2 hme2) (hen e2 hme2) kb hpk (by rw [List.length_append, symEs_len]; omega)) rfl rfl rfl ?_
  rintro _ _ ⟨rfl, a3, c3, rfl⟩
  simp only [List.cons_append, List.nil_append]
  repeat' (first|(refine gv ?_;first|refine RT.id ?_|(refine⟨fun hc=>?_,fun hc=>?_⟩<;>first|(exfalso;omega)|skip)|refine gk ?_|refine num_m fun r hr=>?_|intro r hr)|refine gs ?_|(refine gb ?_;intro b)|refine gn ?_|(refine RT.isPush ?_;refine gp ?_;intro a' c' b' c1' hac)|refine gc ?_|fail)
  refine AtQ.loop (i + 1, a3, c3) ⟨rfl, rfl, rfl, rfl, rfl, rfl, trivial⟩ (fun w h => Sat.pu_in (by dsimp only; omega) ?_) (by dsimp only; omega)
  dsimp only
  rw [← flat_snoc hgi, ← List.append_assoc]
  exact h.frd (Ps := [_, _, _, _, _, _]) (Qs := [_]) (by (repeat (first|exact Fr.nil|(apply Fr.cons;focus ((repeat constructor);done)))))
 rw [List.take_of_length_le (by omega), hL]
 refine RT.fact (p := L.length ≤ c2) (fun w h => (Own.facts h (by ((repeat constructor);done))).2.1) fun hLc => ?_
 refine RT.call T rfl (by (repeat (first|exact Fr.nil|(apply Fr.cons;focus ((repeat constructor);done))))) (sort_fn (a := a2) (c := c2) (N := L.length) (D := L) rfl hLc (by omega) hsok) rfl rfl rfl ?_
 rintro _ _ ⟨rfl, D', p1, p2, rfl⟩
 simp only [List.cons_append, List.nil_append]
 repeat' (first|(refine gv ?_;first|refine RT.id ?_|(refine⟨fun hc=>?_,fun hc=>?_⟩<;>first|(exfalso;omega)|skip)|refine gk ?_|refine num_m fun r hr=>?_|intro r hr)|refine gs ?_|(refine gb ?_;intro b)|refine gn ?_|(refine RT.isPush ?_;refine gp ?_;intro a' c' b' c1' hac)|refine gc ?_|fail)
 refine AtQ.fin1 Tryz.results12 (H' := [Own a2 c2 79 3 D'.length (D'.flatMap SymT.cells)]) rfl ⟨a2, c2, D', by rw [p1.length_eq], by rw [p1.length_eq]; exact hLc, p1, p2, rfl⟩ (fun w h => ?_)
 rw [p1.length_eq]
 exact h.frd (Ps := [_]) (Qs := [_, _, _, _, _]) (by (repeat (first|exact Fr.nil|(apply Fr.cons;focus ((repeat constructor);done)))))
end Go.Proofs.YtdemnhdoadjhhaaGreatDoor
end
section
namespace Go.Proofs.YtdemnhdoadjhhaaGreatDoor
open Go.Sk
/-! ### errors are not nought -/
def NZ (r : Rs) : Prop := ∀ e t, r = .error (e, t) → e ≠ 0
def NZo (r : Option Flt) : Prop := ∀ e t, r = some (e, t) → e ≠ 0
theorem NZ.ok {g : List Txt} : NZ (.ok g) := fun e t h => by cases h
theorem NZ.must {p : Bool} {e : Int} {t : Txt} {k : Rs} (he : e ≠ 0) (h : NZ k) : NZ (must p e t k) := fun e' t' h' => by
 unfold Go.Proofs.YtdemnhdoadjhhaaGreatDoor.must at h'
 split at h'
 ·exact h e' t' h'
 ·cases h'; exact he
theorem NZ.bnd {r : Rs} {k : List Txt → Rs} (h : NZ r) (hk : ∀ g, NZ (k g)) : NZ (bnd r k) := fun e t h' => by
 cases r with
 | ok g => exact hk g e t h'
 | error x => cases h'; exact h e t rfl
theorem NZ.opt {o : Option Flt} {k : Rs} (h : NZo o) (hk : NZ k) : NZ (opt o k) := fun e t h' => by
 cases o with
 | none => exact hk e t h'
 | some x => cases h'; exact h e t rfl
theorem nz_give {nm full : Txt} {g : List Txt} : NZ (giveR nm full g) := NZ.must (by decide) (NZ.must (by decide) NZ.ok)
theorem nz_spans {lo hi : Int} {t : Txt} : ∀ {l ah : List SpanT}, NZo (spansF lo hi t ah l)
 | [], ah => fun e t h => by cases ah <;> cases h
 | s :: l, ah => fun e t' h => by
  unfold spansF at h
  split at h
  ·exact nz_spans e t' h
  ·cases h; decide
theorem nz_names {sc : Txt} : ∀ {l ah : List Txt}, NZo (namesF sc ah l)
 | [], ah => fun e t h => by cases ah <;> cases h
 | s :: l, ah => fun e t' h => by
  unfold namesF at h
  split at h
  ·split at h
   ·cases h; decide
   ·exact nz_names e t' h
  ·cases h; decide
theorem nz_imps : ∀ {l : List ImpT} {ah : List Txt}, NZo (impsF ah l)
 | [], ah => fun e t h => by cases ah <;> cases h
 | s :: l, ah => fun e t' h => by
  unfold impsF at h
  split at h
  ·split at h
   ·cases h; decide
   ·exact nz_imps e t' h
  ·cases h; decide
theorem nz_field {names : List Txt} {res : List SpanT} {no : Nat} {full : Txt} {ah : List FieldT} {f : FieldT} {g : List Txt} : NZ (fieldR names res no full ah f g) := by
 unfold fieldR fieldR7 fieldR8 fieldR11 fieldR14 fieldR15 fieldR16 fieldR17
 refine NZ.bnd nz_give fun g => ?_
 repeat (first | exact NZ.ok | refine NZ.must (by decide) ?_)
theorem nz_fields {names : List Txt} {res : List SpanT} {no : Nat} {full : Txt} : ∀ {l ah : List FieldT} {g : List Txt}, NZ (fieldsR names res no full ah l g)
 | [], ah, g => by cases ah <;> exact NZ.ok
 | f :: l, ah, g => by unfold fieldsR; exact NZ.bnd nz_field fun g => nz_fields
theorem nz_oneofs {fields : List FieldT} {full : Txt} : ∀ {l : List Txt} {i : Nat} {g : List Txt}, NZ (oneofsR fields full i l g)
 | [], i, g => NZ.ok
 | o :: l, i, g => by unfold oneofsR; exact NZ.bnd nz_give fun g => NZ.must (by decide) nz_oneofs
theorem nz_vals {names : List Txt} {res : List SpanT} {ali : Bool} {sc : Txt} : ∀ {l ah : List EValT} {g : List Txt}, NZ (valsR names res ali sc ah l g)
 | [], ah, g => by cases ah <;> exact NZ.ok
 | v :: l, ah, g => by unfold valsR; exact NZ.bnd nz_give fun g => NZ.must (by decide) (NZ.must (by decide) nz_vals)
theorem nz_enum {e : EnumT} {sc : Txt} {g : List Txt} : NZ (enumR e sc g) := by
 unfold enumR
 exact NZ.bnd nz_give fun g => NZ.must (by decide) (NZ.must (by decide) (NZ.opt nz_spans (NZ.opt nz_names nz_vals)))
theorem nz_enums {sc : Txt} : ∀ {l : List EnumT} {g : List Txt}, NZ (enumsR sc l g)
 | [], g => NZ.ok
 | e :: l, g => by unfold enumsR; exact NZ.bnd nz_enum fun g => nz_enums
mutual
theorem nz_msg : ∀ {m : MsgT} {sc : Txt} {deep : Nat} {g : List Txt}, NZ (msgR m sc deep g)
 | .mk nm fields oneofs ma mc msgs enums res names, sc, deep, g => by
  unfold msgR
  exact NZ.bnd nz_give fun g => NZ.must (by decide) (NZ.opt nz_spans (NZ.opt nz_names (NZ.bnd nz_fields fun g => NZ.bnd nz_oneofs fun g => NZ.bnd nz_msgs fun g => nz_enums)))
theorem nz_msgs : ∀ {l : List MsgT} {sc : Txt} {deep : Nat} {g : List Txt}, NZ (msgsR l sc deep g)
 | [], sc, deep, g => by unfold msgsR; exact NZ.ok
 | m :: l, sc, deep, g => by unfold msgsR; exact NZ.bnd nz_msg fun g => nz_msgs
end
theorem nz_file {f : FileT} : NZ (fileR f) := by
 unfold fileR
 exact NZ.must (by decide) (NZ.must (by decide) (NZ.must (by decide) (NZ.opt nz_imps (NZ.bnd nz_msgs fun g => nz_enums))))
/-! ### more names given -/
/-- What is right with some names given is right with more, or gives a name twice. -/
def Sim (F : List Txt → Rs) : Prop := ∀ g' g, (∀ x ∈ g', x ∈ g) → ∀ h', F g' = .ok h' → (∃ h, F g = .ok h ∧ ∀ x ∈ h', x ∈ h) ∨ ∃ t, F g = .error (61, t)
theorem Sim.ok : Sim .ok := fun g' g hs h' h => by cases h; exact .inl ⟨g, rfl, hs⟩
theorem Sim.must {p : Bool} {e : Int} {t : Txt} {K : List Txt → Rs} (hK : Sim K) : Sim (fun g => must p e t (K g)) := fun g' g hs h' h => by
 cases p
 ·cases h
 ·exact hK g' g hs h' h
theorem Sim.opt {o : Option Flt} {K : List Txt → Rs} (hK : Sim K) : Sim (fun g => opt o (K g)) := fun g' g hs h' h => by
 cases o with
 | none => exact hK g' g hs h' h
 | some x => cases h
theorem Sim.bnd {F K : List Txt → Rs} (hF : Sim F) (hK : Sim K) : Sim (fun g => bnd (F g) K) := fun g' g hs h' h => by
 dsimp only at h ⊢
 cases hf : F g' with
 | error x => rw [hf] at h; cases h
 | ok g2' =>
  rw [hf] at h
  rcases hF g' g hs g2' hf with ⟨g2, h2, hs2⟩ | ⟨t, h2⟩
  ·rw [h2]
   exact hK g2' g2 hs2 h' h
  ·rw [h2]
   exact .inr ⟨t, rfl⟩
/-! ### CheckFirst -/
section
variable {path pack : Txt} {imps : Rw ImpT} {ma : Option Addr} {mc : Nat} {msgs : List MsgT} {enums en2 en3 : Rw EnumT} {more : List EnumT}
end
end Go.Proofs.YtdemnhdoadjhhaaGreatDoor
end
section
namespace Go.Proofs.YtdemnhdoadjhhaaGreatDoor
open Go.Sk
theorem give_ok {nm full : Txt} {g g' : List Txt} (h : giveR nm full g = .ok g') : identB nm = true ∧ full.length ≤ 255 ∧ full ∉ g ∧ g' = g ++ [full] := by
 unfold giveR must at h
 split at h
 ·rename_i h1
  rw [Bool.and_eq_true, decide_eq_true_eq] at h1
  split at h
  ·rename_i h2
   cases h
   exact ⟨h1.1, h1.2, of_decide_eq_true h2, rfl⟩
  ·cases h
 ·cases h
theorem give_to {nm full : Txt} {g : List Txt} (h1 : identB nm = true) (h2 : full.length ≤ 255) (h3 : full ∉ g) : giveR nm full g = .ok (g ++ [full]) := by
 unfold giveR
 rw [must_t (by rw [h1, decide_eq_true h2]; rfl), must_t (decide_eq_true h3)]
/-- What is given stays, is one of N, and nothing hangs on t. -/
def EG (t : Txt) (N : Txt → Prop) (F : List Txt → Rs) : Prop := ∀ g h, F g = .ok h → (∀ y ∈ g, y ∈ h) ∧ (∀ y ∈ h, y ∈ g ∨ N y) ∧ (t ∉ h → ∀ g2 : List Txt, (∀ y, y ∈ g2 ↔ y ∈ g ∨ y = t) → ∃ h2, F g2 = .ok h2 ∧ ∀ y, y ∈ h2 ↔ y ∈ h ∨ y = t)
section
variable {t : Txt} {N : Txt → Prop}
theorem EG.ok : EG t N .ok := fun g h e => by cases e; exact ⟨fun y h => h, fun y h => .inl h, fun _ g2 h2 => ⟨g2, rfl, h2⟩⟩
theorem EG.must {b : Bool} {e : Int} {t' : Txt} {K : List Txt → Rs} (h : EG t N K) : EG t N (fun g => must b e t' (K g)) := fun g h' eq => by
 cases b
 ·cases eq
 ·exact h g h' eq
theorem EG.opt {o : Option Flt} {K : List Txt → Rs} (h : EG t N K) : EG t N (fun g => opt o (K g)) := fun g h' eq => by
 cases o with
 | none => exact h g h' eq
 | some x => cases eq
theorem EG.bnd {F K : List Txt → Rs} (hF : EG t N F) (hK : EG t N K) : EG t N (fun g => bnd (F g) K) := fun g h eq => by
 dsimp only at eq
 cases e1 : F g with
 | error x => rw [e1] at eq; cases eq
 | ok g1 =>
  rw [e1, bnd_ok] at eq
  obtain ⟨a1, a2, a3⟩ := hF g g1 e1
  obtain ⟨b1, b2, b3⟩ := hK g1 h eq
  refine ⟨fun y hy => b1 y (a1 y hy), fun y hy => (b2 y hy).elim (fun hy => a2 y hy) .inr, fun ht g2 hg2 => ?_⟩
  obtain ⟨h2, e2, c2⟩ := a3 (fun hh => ht (b1 t hh)) g2 hg2
  obtain ⟨h3, e3, c3⟩ := b3 ht h2 c2
  exact ⟨h3, by dsimp only; rw [e2, bnd_ok, e3], c3⟩
theorem eg_give {nm full : Txt} (hN : N full) : EG t N (giveR nm full) := fun g h e => by
 obtain ⟨h1, h2, h3, rfl⟩ := give_ok e
 refine ⟨fun y hy => List.mem_append_left _ hy, fun y hy => (List.mem_append.1 hy).elim .inl fun hy => .inr (by rw [List.mem_singleton.1 hy]; exact hN), fun ht g2 hg2 => ?_⟩
 have hne : full ≠ t := fun e => ht (by rw [← e]; simp)
 refine ⟨g2 ++ [full], give_to h1 h2 (fun hh => ?_), fun y => ?_⟩
 ·rcases (hg2 full).1 hh with hh | hh
  ·exact h3 hh
  ·exact hne hh
 ·simp only [List.mem_append, List.mem_singleton, hg2]
  constructor
  ·rintro ((h | h) | h)
   ·exact .inl (.inl h)
   ·exact .inr h
   ·exact .inl (.inr h)
  ·rintro ((h | h) | h)
   ·exact .inl (.inl h)
   ·exact .inr h
   ·exact .inl (.inr h)
theorem eg_field {names : List Txt} {res : List SpanT} {no : Nat} {full : Txt} {ah : List FieldT} {f : FieldT} (h : N (joinL [full, f.nm])) : EG t N (fieldR names res no full ah f) := by
 unfold fieldR fieldR7 fieldR8 fieldR11 fieldR14 fieldR15 fieldR16 fieldR17
 refine EG.bnd (eg_give h) ?_
 repeat (first | exact EG.ok | refine EG.must ?_)
theorem eg_fields {names : List Txt} {res : List SpanT} {no : Nat} {full : Txt} : ∀ {l ah : List FieldT}, (∀ f ∈ l, N (joinL [full, f.nm])) → EG t N (fieldsR names res no full ah l)
 | [], ah, _ => by cases ah <;> exact EG.ok
 | f :: l, ah, h => by
  have e : fieldsR names res no full ah (f :: l) = fun g => bnd (fieldR names res no full ah f g) (fieldsR names res no full (ah ++ [f]) l) := by funext g; rw [fieldsR]
  rw [e]
  exact EG.bnd (eg_field (h f List.mem_cons_self)) (eg_fields fun x hx => h x (List.mem_cons_of_mem _ hx))
theorem eg_oneofs {fields : List FieldT} {full : Txt} : ∀ {l : List Txt} {i : Nat}, (∀ o ∈ l, N (joinL [full, o])) → EG t N (oneofsR fields full i l)
 | [], i, _ => EG.ok
 | o :: l, i, h => by
  have e : oneofsR fields full i (o :: l) = fun g => bnd (giveR o (joinL [full, o]) g) fun g => Go.Proofs.YtdemnhdoadjhhaaGreatDoor.must (decide (∃ f ∈ fields, f.oneof = (i : Int) + 1)) 64 (joinL [full, o]) (oneofsR fields full (i + 1) l g) := by funext g; rw [oneofsR]
  rw [e]
  exact EG.bnd (eg_give (h o List.mem_cons_self)) (EG.must (eg_oneofs fun x hx => h x (List.mem_cons_of_mem _ hx)))
theorem eg_vals {names : List Txt} {res : List SpanT} {ali : Bool} {sc : Txt} : ∀ {l ah : List EValT}, (∀ v ∈ l, N (joinL [sc, v.nm])) → EG t N (valsR names res ali sc ah l)
 | [], ah, _ => by cases ah <;> exact EG.ok
 | v :: l, ah, h => by
  have e : valsR names res ali sc ah (v :: l) = fun g => bnd (giveR v.nm (joinL [sc, v.nm]) g) fun g => Go.Proofs.YtdemnhdoadjhhaaGreatDoor.must (decide (v.nm ∉ names) && !anyS res v.num) 63 (joinL [sc, v.nm]) (Go.Proofs.YtdemnhdoadjhhaaGreatDoor.must (ali || decide (∀ o ∈ ah, o.num ≠ v.num)) 66 (joinL [sc, v.nm]) (valsR names res ali sc (ah ++ [v]) l g)) := by funext g; rw [valsR]
  rw [e]
  exact EG.bnd (eg_give (h v List.mem_cons_self)) (EG.must (EG.must (eg_vals fun x hx => h x (List.mem_cons_of_mem _ hx))))
theorem eg_enum {e : EnumT} {sc fl : Txt} (h : ∀ s ∈ symE fl sc e, N s.full) : EG t N (enumR e sc) := by
 unfold enumR
 refine EG.bnd (eg_give (h _ List.mem_cons_self)) (EG.must (EG.must (EG.opt (EG.opt (eg_vals fun v hv => ?_)))))
 exact h _ (List.mem_cons_of_mem _ (List.mem_map.2 ⟨v, hv, rfl⟩))
theorem eg_enums {sc fl : Txt} : ∀ {l : List EnumT}, (∀ s ∈ l.flatMap (symE fl sc), N s.full) → EG t N (enumsR sc l)
 | [], _ => EG.ok
 | e :: l, h => by
  have ee : enumsR sc (e :: l) = fun g => bnd (enumR e sc g) (enumsR sc l) := by funext g; rw [enumsR]
  rw [ee]
  rw [List.flatMap_cons] at h
  exact EG.bnd (eg_enum (fun s hs => h s (List.mem_append_left _ hs))) (eg_enums (fun s hs => h s (List.mem_append_right _ hs)))
mutual
theorem eg_msg {fl : Txt} : ∀ {m : MsgT} {sc : Txt} {deep : Nat}, (∀ s ∈ symM fl m sc, N s.full) → EG t N (msgR m sc deep)
 | .mk nm fields oneofs ma mc msgs enums res names, sc, deep, h => by
  have ee : msgR (.mk nm fields oneofs ma mc msgs enums res names) sc deep = fun g =>
   bnd (giveR nm (joinL [sc, nm]) g) fun g =>
   Go.Proofs.YtdemnhdoadjhhaaGreatDoor.must (decide (deep < 16) && decide (fields.l.length ≤ 1000)) 68 (joinL [sc, nm]) <|
   Go.Proofs.YtdemnhdoadjhhaaGreatDoor.opt (spansF 1 536870911 (joinL [sc, nm]) [] res.l) <|
   Go.Proofs.YtdemnhdoadjhhaaGreatDoor.opt (namesF (joinL [sc, nm]) [] names.l) <|
   bnd (fieldsR names.l res.l oneofs.l.length (joinL [sc, nm]) [] fields.l g) fun g =>
   bnd (oneofsR fields.l (joinL [sc, nm]) 0 oneofs.l g) fun g =>
   bnd (msgsR msgs (joinL [sc, nm]) (deep + 1) g) fun g =>
   enumsR (joinL [sc, nm]) enums.l g := by funext g; rw [msgR]
  rw [ee]
  unfold symM at h
  refine EG.bnd (eg_give (h _ List.mem_cons_self)) (EG.must (EG.opt (EG.opt (EG.bnd (eg_fields fun f hf => ?_) (EG.bnd (eg_oneofs fun o ho => ?_) (EG.bnd (eg_msgs (fl := fl) (fun s hs => ?_)) (eg_enums (fl := fl) (fun s hs => ?_))))))))
  ·exact h _ (List.mem_cons_of_mem _ (List.mem_append_left _ (List.mem_map.2 ⟨f, hf, rfl⟩)))
  ·exact h _ (List.mem_cons_of_mem _ (List.mem_append_right _ (List.mem_append_left _ (List.mem_map.2 ⟨o, ho, rfl⟩))))
  ·exact h _ (List.mem_cons_of_mem _ (List.mem_append_right _ (List.mem_append_right _ (List.mem_append_left _ hs))))
  ·exact h _ (List.mem_cons_of_mem _ (List.mem_append_right _ (List.mem_append_right _ (List.mem_append_right _ hs))))
theorem eg_msgs {fl : Txt} : ∀ {l : List MsgT} {sc : Txt} {deep : Nat}, (∀ s ∈ symMs fl l sc, N s.full) → EG t N (msgsR l sc deep)
 | [], sc, deep, _ => by
  have ee : msgsR [] sc deep = .ok := by funext g; rw [msgsR]
  rw [ee]; exact EG.ok
 | m :: l, sc, deep, h => by
  have ee : msgsR (m :: l) sc deep = fun g => bnd (msgR m sc deep g) fun g => msgsR l sc deep g := by funext g; rw [msgsR]
  rw [ee]
  unfold symMs at h
  exact EG.bnd (eg_msg (fun s hs => h s (List.mem_append_left _ hs))) (eg_msgs (fun s hs => h s (List.mem_append_right _ hs)))
end
end
/-! ### the fields of the first message, taken out -/
/-! ### CheckRoom -/
/-- A field of an int32. -/
structure NewF (x : FieldT) : Prop where
 card : x.card = 1
 kind : x.kind = 5
 ty : x.ty = []
 key : x.key = 0
 oneof : x.oneof = 0
 packed : x.packed = 0
 js : x.js = []
/-! ### which numbers are told -/
end Go.Proofs.YtdemnhdoadjhhaaGreatDoor
end
