/- Merged: B22, Pb2, Pb5, A4, A5, A6, A7, A8, P23, P24, Y9, Z1, Z2, Z3, Z4, P26, Z5, Z6, Z7, Z8. -/
import Derived.Test.YtdemnhdoadjhhaaGreatDoorWB
import Derived.Test.YtdemnhdoadjhhaaGreatDoorWA
import Derived.Lib.TrimUEq
import Derived.Test.YtdemnhdoadjhhaaGreatDoorSkB
import Derived.Test.YtdemnhdoadjhhaaGreatDoorSkA
set_option linter.unusedVariables false
set_option linter.unusedSimpArgs false
section
namespace Go.Proofs.YtdemnhdoadjhhaaGreatDoor
open Go.Sk
set_option maxRecDepth 100000
/-- What the plain law of sizes says of a text. -/
def SizeLaw (l : List Int) : Prop := ∀ p, p < l.length → (((Utf8.decode (str l) p).1 = 65533 ∧ (Utf8.decode (str l) p).2 = 1) → sizeL l p = 0) ∧ (¬ ((Utf8.decode (str l) p).1 = 65533 ∧ (Utf8.decode (str l) p).2 = 1) → sizeL l p = (Utf8.decode (str l) p).2 ∧ p + (Utf8.decode (str l) p).2 ≤ l.length)
attribute [local irreducible] Cs Own Ex Pu Yld RT LJ QJ AtQ CT Rd QSp Sp FinQ Then LoopQ CutQ DT TakeQ EffQ
attribute [local irreducible] Bd
variable {B : World} {R : List HP}
set_option maxHeartbeats 1000000 in
theorem rgood_fn {l : List Int} (hz : SizeLaw l) (hb : Byt l) (hl : l.length ≤ 140737488355328) : Sp B Tryz.prog 159 [.string (str l)] R [] (fun v H' => v = .int .i64 (goodL l) ∧ H' = []) := by
 refine Sp.body Tryz.func159 rfl Tryz.ntmps159 (by simp) ?_
 simp only [argE, List.cons_append, List.nil_append, Nat.zero_add, Nat.reduceAdd]
 try refine gL ?_
 refine CT.loop (α := Nat) (fun p => [(0, .string (str l)), (3, .int .i64 p)]) (fun p => Pu (GooI l p ∧ p ≤ l.length) :: R) (fun p => l.length - p) 0 ⟨rfl, rfl, trivial⟩
  (fun w h => Sat.pu_in ⟨GooI.z l, Nat.zero_le _⟩ h) (fun p => CT.pu fun ⟨hp, hpl⟩ => ?_)
 have hdp := dec_pos (str l) p
 repeat' (first|refine gL ?_|(refine gv ?_;(refine⟨fun hc=>?_,fun hc=>?_⟩<;>first|(exfalso;omega)|skip))|fail)
 ·obtain ⟨z1, z2⟩ := hz p (by omega)
  (refine RT.call T rfl fR_ (size_fn hb (by omega) hl) rfl rfl rfl ?_; rintro _ _ ⟨rfl, rfl⟩; try simp only [List.cons_append, List.nil_append])
  by_cases hbad : (Utf8.decode (str l) p).1 = 65533 ∧ (Utf8.decode (str l) p).2 = 1
  ·rw [z1 hbad]
   repeat' (first|refine gL ?_|(refine gv ?_;(refine⟨fun hc=>?_,fun hc=>?_⟩<;>first|(exfalso;omega)|skip))|fail)
   exact AtQ.f1 Tryz.results159 rfl (by rw [hp.bad (by omega) hbad]) (fun w h => h)
  ·obtain ⟨z3, z4⟩ := z2 hbad
   rw [z3]
   repeat' (first|refine gL ?_|(refine gv ?_;first|(refine⟨fun hc=>?_,fun hc=>?_⟩<;>first|(exfalso;omega)|skip)|refine gk ?_)|fail)
   exact AtQ.loop (p + (Utf8.decode (str l) p).2) ⟨rfl, rfl, trivial⟩ (fun w h => Sat.pu_in ⟨hp.go (by omega) hbad, z4⟩ h) (by omega)
 ·exact AtQ.f1 Tryz.results159 rfl (by rw [hp.end_ (by omega)]) (fun w h => h)
end Go.Proofs.YtdemnhdoadjhhaaGreatDoor
end
section
namespace Go.Proofs.YtdemnhdoadjhhaaGreatDoor
open Go.Sk Go.Lib
set_option maxRecDepth 100000
def BadN (x : Nat × Nat) : Prop := x.1 = 65533 ∧ x.2 = 1
instance (x : Nat × Nat) : Decidable (BadN x) := inferInstanceAs (Decidable (_ ∧ _))
abbrev D (m : List UInt8) : Nat × Nat := decodeL m
def gd : Nat → List UInt8 → Option Nat
 | 0, _ => none
 | f + 1, m => if m = [] then none else if BadN (D m) then some 0 else (gd f (m.drop (D m).2)).map (· + (D m).2)
end Go.Proofs.YtdemnhdoadjhhaaGreatDoor
end
section
namespace Go.Proofs.YtdemnhdoadjhhaaGreatDoor
open Go.Sk Go.Lib
set_option maxRecDepth 100000
theorem dec_at (l : List Int) (hb : Byt l) (p : Nat) (hp : p < l.length) : ∃ b0 b1 b2 b3 : Nat, Utf8.decode (str l) p = decodeN (l.length - p) b0 b1 b2 b3 ∧ (b0 : Int) = l.getD p 0 ∧ (p + 1 < l.length → (b1 : Int) = l.getD (p + 1) 0) ∧ (p + 2 < l.length → (b2 : Int) = l.getD (p + 2) 0) ∧ (p + 3 < l.length → (b3 : Int) = l.getD (p + 3) 0) := by
 have hg : ∀ j, j < l.length → ((((str l).data.toList.getD j 0).toNat : Nat) : Int) = l.getD j 0 := fun j hj => by
  rw [str_list]
  have : (l.map b8).getD j 0 = b8 (l.getD j 0) := by simp [List.getD_eq_getElem?_getD, hj]
  rw [this, b8_nat (hb.get hj)]
 refine ⟨_, _, _, _, ?_, hg p hp, hg (p + 1), hg (p + 2), hg (p + 3)⟩
 rw [decode_N, str_list, List.length_map]
def decBad (x : Nat × Nat) : Prop := x.1 = 65533 ∧ x.2 = 1
theorem size1 {l : List Int} {p b0 b1 b2 b3 : Nat} (hp : p < l.length) (e0 : (b0 : Int) = l.getD p 0) (e1 : p + 1 < l.length → (b1 : Int) = l.getD (p + 1) 0) (h0 : 194 ≤ b0) (h1 : b0 ≤ 223) :
  (decBad (decodeN (l.length - p) b0 b1 b2 b3) → sizeL l p = 0) ∧ (¬ decBad (decodeN (l.length - p) b0 b1 b2 b3) → sizeL l p = (decodeN (l.length - p) b0 b1 b2 b3).2 ∧ p + (decodeN (l.length - p) b0 b1 b2 b3).2 ≤ l.length) := by
 have hr : restL (l.getD p 0) = (1, 128, 191) := by unfold restL; rw [if_neg (by omega), if_pos (by omega)]
 by_cases hroom : p + 1 < l.length
 ·have e1' := e1 hroom
  by_cases hc : 128 ≤ b1 ∧ b1 ≤ 191
  ·have hd : decodeN (l.length - p) b0 b1 b2 b3 = (b0 % 32 * 64 + b1 % 64, 2) := by
    unfold decodeN
    rw [if_neg (by omega), if_pos (by omega), if_pos (by omega)]
   have hz : sizeL l p = 2 := by
    rw [sizeL_ok (by rw [hr]; simp only; omega) (by
     rw [hr]
     intro i h1 h2
     simp only at h2
     obtain rfl : i = 1 := by omega
     unfold contP
     simp only [if_true]
     omega), hr]
    rfl
   rw [hd, hz]
   refine ⟨fun h => ?_, fun _ => ⟨rfl, by simp only; omega⟩⟩
   unfold decBad at h
   simp at h
  ·have hd : decodeN (l.length - p) b0 b1 b2 b3 = (65533, 1) := by
    unfold decodeN
    rw [if_neg (by omega), if_neg (by omega), if_neg (by omega), if_neg (by omega)]
   have hz : sizeL l p = 0 := sizeL_bad (i := 1) (Nat.le_refl _) (by rw [hr]; simp) (by rw [hr]; unfold contP; simp only [if_true]; omega)
   rw [hd, hz]
   exact ⟨fun _ => rfl, fun h => absurd ⟨rfl, rfl⟩ h⟩
 ·have hd : decodeN (l.length - p) b0 b1 b2 b3 = (65533, 1) := by
   unfold decodeN
   rw [if_neg (by omega), if_neg (by omega), if_neg (by omega), if_neg (by omega)]
  have hz : sizeL l p = 0 := sizeL_0 (.inr (by rw [hr]; simp only; omega))
  rw [hd, hz]
  exact ⟨fun _ => rfl, fun h => absurd ⟨rfl, rfl⟩ h⟩
set_option maxHeartbeats 2000000 in
theorem size2 {l : List Int} {p b0 b1 b2 b3 : Nat} {lo hi : Int} (hp : p < l.length) (e1 : p + 1 < l.length → (b1 : Int) = l.getD (p + 1) 0) (e2 : p + 2 < l.length → (b2 : Int) = l.getD (p + 2) 0) (hr : restL (l.getD p 0) = (2, lo, hi))
  (h : (b0 = 224 ∧ lo = 160 ∧ hi = 191) ∨ (b0 = 237 ∧ lo = 128 ∧ hi = 159) ∨ (225 ≤ b0 ∧ b0 ≤ 239 ∧ b0 ≠ 237 ∧ lo = 128 ∧ hi = 191)) :
  (decBad (decodeN (l.length - p) b0 b1 b2 b3) → sizeL l p = 0) ∧ (¬ decBad (decodeN (l.length - p) b0 b1 b2 b3) → sizeL l p = (decodeN (l.length - p) b0 b1 b2 b3).2 ∧ p + (decodeN (l.length - p) b0 b1 b2 b3).2 ≤ l.length) := by
 by_cases hroom : p + 2 < l.length
 ·have e1' := e1 (by omega)
  have e2' := e2 hroom
  by_cases hc : (lo ≤ b1 ∧ (b1 : Int) ≤ hi) ∧ (128 ≤ b2 ∧ b2 ≤ 191)
  ·have hd : decodeN (l.length - p) b0 b1 b2 b3 = (b0 % 16 * 4096 + b1 % 64 * 64 + b2 % 64, 3) := by
    unfold decodeN
    rw [if_neg (by omega), if_neg (by omega), if_pos (by omega), if_pos (by omega)]
   have hz : sizeL l p = 3 := by
    rw [sizeL_ok (by rw [hr]; simp only; omega) (by
     rw [hr]
     intro i h1 h2
     simp only at h2
     have h12 : i = 1 ∨ i = 2 := by omega
     rcases h12 with rfl | rfl
     ·unfold contP
      simp only [if_true]
      omega
     ·unfold contP
      simp only [show ¬ (2 = 1) by decide, if_false]
      omega), hr]
    rfl
   rw [hd, hz]
   refine ⟨fun h => ?_, fun _ => ⟨rfl, by simp only; omega⟩⟩
   unfold decBad at h
   simp at h
  ·have hd : decodeN (l.length - p) b0 b1 b2 b3 = (65533, 1) := by
    unfold decodeN
    rw [if_neg (by omega), if_neg (by omega)]
    split
    ·rw [if_neg (by omega)]
    ·rw [if_neg (by omega)]
   have hz : sizeL l p = 0 := by
    by_cases hc1 : lo ≤ b1 ∧ (b1 : Int) ≤ hi
    ·refine sizeL_bad (i := 2) (by decide) (by rw [hr]; simp) (by rw [hr]; unfold contP; simp only [show ¬ (2 = 1) by decide, if_false]; omega)
    ·refine sizeL_bad (i := 1) (Nat.le_refl _) (by rw [hr]; simp) (by rw [hr]; unfold contP; simp only [if_true]; omega)
   rw [hd, hz]
   exact ⟨fun _ => rfl, fun h => absurd ⟨rfl, rfl⟩ h⟩
 ·have hd : decodeN (l.length - p) b0 b1 b2 b3 = (65533, 1) := by
   unfold decodeN
   rw [if_neg (by omega), if_neg (by omega), if_neg (by omega), if_neg (by omega)]
  have hz : sizeL l p = 0 := sizeL_0 (.inr (by rw [hr]; simp only; omega))
  rw [hd, hz]
  exact ⟨fun _ => rfl, fun h => absurd ⟨rfl, rfl⟩ h⟩
set_option maxHeartbeats 2000000 in
theorem size3 {l : List Int} {p b0 b1 b2 b3 : Nat} {lo hi : Int} (hp : p < l.length) (e1 : p + 1 < l.length → (b1 : Int) = l.getD (p + 1) 0) (e2 : p + 2 < l.length → (b2 : Int) = l.getD (p + 2) 0) (e3 : p + 3 < l.length → (b3 : Int) = l.getD (p + 3) 0) (hr : restL (l.getD p 0) = (3, lo, hi))
  (h : (b0 = 240 ∧ lo = 144 ∧ hi = 191) ∨ (b0 = 244 ∧ lo = 128 ∧ hi = 143) ∨ (241 ≤ b0 ∧ b0 ≤ 243 ∧ lo = 128 ∧ hi = 191)) :
  (decBad (decodeN (l.length - p) b0 b1 b2 b3) → sizeL l p = 0) ∧ (¬ decBad (decodeN (l.length - p) b0 b1 b2 b3) → sizeL l p = (decodeN (l.length - p) b0 b1 b2 b3).2 ∧ p + (decodeN (l.length - p) b0 b1 b2 b3).2 ≤ l.length) := by
 by_cases hroom : p + 3 < l.length
 ·have e1' := e1 (by omega)
  have e2' := e2 (by omega)
  have e3' := e3 hroom
  by_cases hc : (lo ≤ b1 ∧ (b1 : Int) ≤ hi) ∧ (128 ≤ b2 ∧ b2 ≤ 191) ∧ (128 ≤ b3 ∧ b3 ≤ 191)
  ·have hd : decodeN (l.length - p) b0 b1 b2 b3 = (b0 % 8 * 262144 + b1 % 64 * 4096 + b2 % 64 * 64 + b3 % 64, 4) := by
    unfold decodeN
    rw [if_neg (by omega), if_neg (by omega), if_neg (by omega), if_pos (by omega), if_pos (by omega)]
   have hz : sizeL l p = 4 := by
    rw [sizeL_ok (by rw [hr]; simp only; omega) (by
     rw [hr]
     intro i h1 h2
     simp only at h2
     have h12 : i = 1 ∨ i = 2 ∨ i = 3 := by omega
     rcases h12 with rfl | rfl | rfl
     ·unfold contP
      simp only [if_true]
      omega
     ·unfold contP
      simp only [show ¬ (2 = 1) by decide, if_false]
      omega
     ·unfold contP
      simp only [show ¬ (3 = 1) by decide, if_false]
      omega), hr]
    rfl
   rw [hd, hz]
   refine ⟨fun h => ?_, fun _ => ⟨rfl, by simp only; omega⟩⟩
   unfold decBad at h
   simp at h
  ·have hd : decodeN (l.length - p) b0 b1 b2 b3 = (65533, 1) := by
    unfold decodeN
    rw [if_neg (by omega), if_neg (by omega), if_neg (by omega)]
    split
    ·rw [if_neg (by omega)]
    ·rfl
   have hz : sizeL l p = 0 := by
    by_cases hc1 : lo ≤ b1 ∧ (b1 : Int) ≤ hi
    ·by_cases hc2 : 128 ≤ b2 ∧ b2 ≤ 191
     ·refine sizeL_bad (i := 3) (by decide) (by rw [hr]; simp) (by rw [hr]; unfold contP; simp only [show ¬ (3 = 1) by decide, if_false]; omega)
     ·refine sizeL_bad (i := 2) (by decide) (by rw [hr]; simp) (by rw [hr]; unfold contP; simp only [show ¬ (2 = 1) by decide, if_false]; omega)
    ·refine sizeL_bad (i := 1) (Nat.le_refl _) (by rw [hr]; simp) (by rw [hr]; unfold contP; simp only [if_true]; omega)
   rw [hd, hz]
   exact ⟨fun _ => rfl, fun h => absurd ⟨rfl, rfl⟩ h⟩
 ·have hd : decodeN (l.length - p) b0 b1 b2 b3 = (65533, 1) := by
   unfold decodeN
   rw [if_neg (by omega), if_neg (by omega), if_neg (by omega), if_neg (by omega)]
  have hz : sizeL l p = 0 := sizeL_0 (.inr (by rw [hr]; simp only; omega))
  rw [hd, hz]
  exact ⟨fun _ => rfl, fun h => absurd ⟨rfl, rfl⟩ h⟩
theorem size_law {l : List Int} (hb : Byt l) : SizeLaw l := by
 intro p hp
 obtain ⟨b0, b1, b2, b3, hd, e0, e1, e2, e3⟩ := dec_at l hb p hp
 obtain ⟨c0, c1⟩ := hb.get hp
 rw [hd]
 by_cases h1 : b0 < 128
 ·have hr : restL (l.getD p 0) = (0, 0, 0) := by unfold restL; rw [if_pos (by omega)]
  have hx : decodeN (l.length - p) b0 b1 b2 b3 = (b0, 1) := by unfold decodeN; rw [if_pos h1]
  have hz : sizeL l p = 1 := by
   rw [sizeL_ok (by rw [hr]; simp only; omega) (by rw [hr]; intro i h1 h2; simp only at h2; omega), hr]
   rfl
  rw [hx, hz]
  exact ⟨fun h => by simp only at h; omega, fun _ => ⟨rfl, by simp only; omega⟩⟩
 ·by_cases h2 : 194 ≤ b0 ∧ b0 ≤ 223
  ·exact size1 hp e0 e1 h2.1 h2.2
  ·by_cases h3 : 224 ≤ b0 ∧ b0 ≤ 239
   ·by_cases h4 : b0 = 224
    ·exact size2 (lo := 160) (hi := 191) hp e1 e2 (by unfold restL; rw [if_neg (by omega), if_neg (by omega), if_pos (by omega)]) (by omega)
    ·by_cases h5 : b0 = 237
     ·exact size2 (lo := 128) (hi := 159) hp e1 e2 (by unfold restL; rw [if_neg (by omega), if_neg (by omega), if_neg (by omega), if_pos (by omega)]) (by omega)
     ·exact size2 (lo := 128) (hi := 191) hp e1 e2 (by unfold restL; rw [if_neg (by omega), if_neg (by omega), if_neg (by omega), if_neg (by omega), if_pos (by omega)]) (by omega)
   ·by_cases h6 : 240 ≤ b0 ∧ b0 ≤ 244
    ·by_cases h7 : b0 = 240
     ·exact size3 (lo := 144) (hi := 191) hp e1 e2 e3 (by unfold restL; rw [if_neg (by omega), if_neg (by omega), if_neg (by omega), if_neg (by omega), if_neg (by omega), if_pos (by omega)]) (by omega)
     ·by_cases h8 : b0 = 244
      ·exact size3 (lo := 128) (hi := 143) hp e1 e2 e3 (by unfold restL; rw [if_neg (by omega), if_neg (by omega), if_neg (by omega), if_neg (by omega), if_neg (by omega), if_neg (by omega), if_neg (by omega), if_pos (by omega)]) (by omega)
      ·exact size3 (lo := 128) (hi := 191) hp e1 e2 e3 (by unfold restL; rw [if_neg (by omega), if_neg (by omega), if_neg (by omega), if_neg (by omega), if_neg (by omega), if_neg (by omega), if_pos (by omega)]) (by omega)
    ·have hr : restL (l.getD p 0) = (-1, 0, 0) := by unfold restL; rw [if_neg (by omega), if_neg (by omega), if_neg (by omega), if_neg (by omega), if_neg (by omega), if_neg (by omega), if_neg (by omega), if_neg (by omega)]
     have hz : sizeL l p = 0 := sizeL_0 (.inl (by rw [hr]; simp))
     have hx : decodeN (l.length - p) b0 b1 b2 b3 = (65533, 1) := by
      unfold decodeN
      rw [if_neg h1]
      split
      ·rw [if_neg (by omega)]
      ·split
       ·exfalso; omega
       ·split
        ·rw [if_neg (by omega)]
        ·rfl
     rw [hx, hz]
     exact ⟨fun _ => rfl, fun h => absurd ⟨rfl, rfl⟩ h⟩
end Go.Proofs.YtdemnhdoadjhhaaGreatDoor
end
section
namespace Go.Proofs.YtdemnhdoadjhhaaGreatDoor
open Go.Sk
set_option maxRecDepth 100000
theorem must_and {p q : Bool} {err : Int} {tx : Txt} {g : List Txt} : bnd (must p err tx (.ok g)) (fun g => must q err tx (.ok g)) = must (p && q) err tx (.ok g) := by cases p <;> rfl
theorem step_and {r : Rs} {p q : Bool} {err : Int} {tx : Txt} : bnd (bnd r fun g => must p err tx (.ok g)) (fun g => must q err tx (.ok g)) = bnd r fun g => must (p && q) err tx (.ok g) := by
 rw [bnd_bnd]
 congr 1
 funext g
 exact must_and
theorem all_snoc {P : FieldT → Prop} {l : List FieldT} {x : FieldT} {k : Nat} [Decidable (∀ o ∈ l.take (k + 1), P o)] [Decidable (∀ o ∈ l.take k, P o)] [Decidable (P x)] (hx : l[k]? = some x) : decide (∀ o ∈ l.take (k + 1), P o) = (decide (∀ o ∈ l.take k, P o) && decide (P x)) := by
 rw [← Bool.decide_and]
 refine decide_eq_decide.2 ⟨fun h => ⟨fun o ho => h o ?_, h x ?_⟩, fun h o ho => ?_⟩
 ·rw [← len_snoc hx]; exact List.mem_append_left _ ho
 ·rw [← len_snoc hx]; simp
 ·rw [← len_snoc hx] at ho
  rcases List.mem_append.1 ho with ho | ho
  ·exact h.1 o ho
  ·rw [List.mem_singleton.1 ho]; exact h.2
theorem at_snoc {l : Txt} {x : Int} {k : Nat} (hx : l[k]? = some x) : decide ((64 : Int) ∉ l.take (k + 1)) = (decide ((64 : Int) ∉ l.take k) && decide (x ≠ 64)) := by
 rw [← Bool.decide_and, ← len_snoc hx]
 refine decide_eq_decide.2 ?_
 simp only [List.mem_append, List.mem_singleton, not_or, ne_eq]
 exact ⟨fun h => ⟨h.1, fun e => h.2 e.symm⟩, fun h => ⟨h.1, fun e => h.2 e.symm⟩⟩
attribute [local irreducible] Cs Own Ex Pu Yld RT LJ QJ AtQ CT Rd QSp Sp FinQ Then LoopQ CutQ DT TakeQ EffQ
variable {B : World} {R : List HP}
set_option maxHeartbeats 16000000 in
theorem wjson_fn {wb : Nat} {e : Int} {t tx : Txt} {a : Option Addr} {c : Nat} {g : List Txt} {r : Rs} {v0 v2 v3 v4 v5 v6 : Value} {fa : Option Addr} {fc i : Nat} {fs : List FieldT} {f : FieldT} (hr : WS r e t g) (rf : Rd B R fa fs.length fc 9 (fs.flatMap FieldT.cells)) (hl : fs.length ≤ 1000000000) (hf : fs[i]? = some f) (hok : ∀ x ∈ fs, x.Ok) (hnm : ∀ x ∈ fs, FNm x) :
  Sp B Tryz.prog 136 [ptr wb, .agg #[v0, .slice fa fs.length fc, v2, v3, v4, v5, v6], vS tx, .int .i64 i] R (wk wb e t a c g)
   (fun v H' => v = .tuple #[] ∧ ∃ e' t', H' = wk wb e' t' a c g ∧ WS (bnd r fun g => fieldR16 (fs.take i) f tx g) e' t' g) := by
 have hil : i < fs.length := (List.getElem?_eq_some_iff.1 hf).1
 have hfm := List.mem_of_getElem? hf
 obtain ⟨f1, f2, f3, f4, f5, f6, f7, f8, f9⟩ := hok f hfm
 obtain ⟨n1, n2, n3⟩ := hnm f hfm
 have hfg := flat_sub (f := FieldT.cells) (z := 9) (fun _ => rfl) fs i _ hf
 unfold fieldR16 fieldR17
 have hjb : Byt (jsonL f) := by
  unfold jsonL
  split
  ·exact camelF_byt f1.1
  ·exact f9.1
 have hrj := fun (R : List HP) => rjson_fn (B := B) (R := R) (x := f) f1.1 (by omega) f9.1
 obtain ⟨nm, num, card, kind, ty, key, oneof, packed, js⟩ := f
 dsimp only [FieldT.cells] at *
 refine Sp.body Tryz.func136 rfl Tryz.ntmps136 (by simp) ?_
 simp only [argE, List.cons_append, List.nil_append, Nat.zero_add, Nat.reduceAdd]
 repeat' (first|refine gL ?_|(refine gb ?_;intro b)|fail)
 revert b
 intro b5
 refine RT.ix T (j := i * 9) rfl rfl rfl (rD (rf)) (by omega) (by omega) (by omega) rfl rfl ?_
 refine RT.ldra T rfl (rD (rf)) (l := [vS nm, .int .i32 num, .int .u8 card, .int .u8 kind, vS ty, .int .u8 key, .int .i64 oneof, .int .u8 packed, vS js]) hfg rfl rfl rfl rfl ?_
 repeat' (first|(refine gb ?_;intro b)|fail)
 revert b
 intro b8
 refine gt ?_
 try refine gR ?_
 refine CT.cut (α := Unit) (fun _ => [(0, ptr wb), (2, vS tx), (3, .int .i64 i), (5, .pointer (some ⟨b5, 0, none⟩)), (8, .pointer (some ⟨b8, 0, none⟩)), (9, .bool (!(decide (goodL js < 0) && decide (js.length ≤ 255))))]) (fun _ => wk wb e t a c g ++ (Cs b8 87 [vS nm, .int .i32 num, .int .u8 card, .int .u8 kind, vS ty, .int .u8 key, .int .i64 oneof, .int .u8 packed, vS js] :: Cs b5 72 [v0, .slice fa fs.length fc, v2, v3, v4, v5, v6] :: R)) ?_ (fun _ => ?_)
 ·try refine gL ?_
  refine RT.call T rfl fR_ (rgood_fn (size_law f9.1) f9.1 f9.2) rfl rfl rfl ?_
  rintro _ _ ⟨rfl, rfl⟩
  simp only [List.nil_append]
  repeat' (first|refine gL ?_|(refine gv ?_;(refine⟨fun hc=>?_,fun hc=>?_⟩<;>first|(exfalso;omega)|skip))|fail)
  ·exact AtQ.cut () ⟨rfl, rfl, rfl, rfl, rfl, congrArg (fun z => some (Value.bool z)) (by rw [decide_eq_false (p := goodL js < 0) (by omega)]; rfl), trivial⟩ (fun _ h => h.frd (Ps := [_, _, _, _]) (Qs := []) fR_)
  ·exact AtQ.cut () ⟨rfl, rfl, rfl, rfl, rfl, congrArg (fun z => some (Value.bool z)) (by rw [decide_eq_false (p := js.length ≤ 255) (by omega), Bool.and_false]; rfl), trivial⟩ (fun _ h => h.frd (Ps := [_, _, _, _]) (Qs := []) fR_)
  ·exact AtQ.cut () ⟨rfl, rfl, rfl, rfl, rfl, congrArg (fun z => some (Value.bool z)) (by rw [decide_eq_true (p := js.length ≤ 255) (by omega), decide_eq_true (p := goodL js < 0) (by omega)]; rfl), trivial⟩ (fun _ h => h.frd (Ps := [_, _, _, _]) (Qs := []) fR_)
 refine A0 ?_
 simp only [List.cons_append, List.nil_append]
 repeat' (first|refine gS ?_|(refine CT.id_ ?_;first|refine CT.seqN 4 rfl ?_|refine CT.region ?_)|fail)
 refine CT.cut (α := Unit) (fun _ => [(0, ptr wb), (2, vS tx), (3, .int .i64 i), (5, .pointer (some ⟨b5, 0, none⟩)), (8, .pointer (some ⟨b8, 0, none⟩)), (9, .bool (!(decide (goodL js < 0) && decide (js.length ≤ 255) && decide ((64 : Int) ∉ js))))]) (fun _ => wk wb e t a c g ++ (Cs b8 87 [vS nm, .int .i32 num, .int .u8 card, .int .u8 kind, vS ty, .int .u8 key, .int .i64 oneof, .int .u8 packed, vS js] :: Cs b5 72 [v0, .slice fa fs.length fc, v2, v3, v4, v5, v6] :: R)) ?_ (fun _ => ?_)
 ·refine CT.block ?_
  refine CT.loop (α := Nat) (fun k => [(0, ptr wb), (2, vS tx), (3, .int .i64 i), (5, .pointer (some ⟨b5, 0, none⟩)), (8, .pointer (some ⟨b8, 0, none⟩)), (9, .bool (!((decide (goodL js < 0) && decide (js.length ≤ 255)) && decide ((64 : Int) ∉ js.take k)))), (10, .int .i64 k)]) (fun k => Pu (k ≤ js.length) :: (wk wb e t a c g ++ (Cs b8 87 [vS nm, .int .i32 num, .int .u8 card, .int .u8 kind, vS ty, .int .u8 key, .int .i64 oneof, .int .u8 packed, vS js] :: Cs b5 72 [v0, .slice fa fs.length fc, v2, v3, v4, v5, v6] :: R))) (fun k => js.length - k) 0
   ⟨rfl, rfl, rfl, rfl, rfl, congrArg (fun z => some (Value.bool z)) (by simp), rfl, trivial⟩ (fun _ h => Sat.pu_in (Nat.zero_le _) h) (fun k => CT.pu fun hk => ?_)
  simp only [List.cons_append, List.nil_append]
  repeat' (first|refine gL ?_|(refine gv ?_;(refine⟨fun hc=>?_,fun hc=>?_⟩<;>first|(exfalso;omega)|skip))|fail)
  ·obtain ⟨x, hx⟩ : ∃ x, js[k]? = some x := ⟨_, List.getElem?_eq_getElem (by omega)⟩
   have hgd : js.getD k 0 = x := by rw [List.getD_eq_getElem?_getD, hx]; rfl
   have hsn : ((decide (goodL js < 0) && decide (js.length ≤ 255)) && decide ((64 : Int) ∉ js.take (k + 1))) = (((decide (goodL js < 0) && decide (js.length ≤ 255)) && decide ((64 : Int) ∉ js.take k)) && decide (x ≠ 64)) := by rw [at_snoc hx]; simp only [Bool.and_assoc]
   have hby := f9.1
   cases hpk : ((decide (goodL js < 0) && decide (js.length ≤ 255)) && decide ((64 : Int) ∉ js.take k))
   ·rw [hpk, Bool.false_and] at hsn
    repeat' (first|refine gL ?_|(refine gv ?_;refine gk ?_)|fail)
    exact AtQ.loop (k + 1) ⟨rfl, rfl, rfl, rfl, rfl, congrArg (fun z => some (Value.bool z)) (by rw [hsn]; rfl), rfl, trivial⟩ (fun _ h => Sat.pu_in (by omega) h) (by omega)
   ·rw [hpk, Bool.true_and] at hsn
    try refine gL ?_
    (refine RT.ixs T (j := k) rfl rfl (by omega) (by omega) (by assumption) rfl rfl rfl ?_)
    rw [hgd]
    repeat' (first|refine gL ?_|(refine gv ?_;first|(refine⟨fun hc=>?_,fun hc=>?_⟩<;>first|(exfalso;omega)|skip)|refine gk ?_)|fail)
    ·exact AtQ.loop (k + 1) ⟨rfl, rfl, rfl, rfl, rfl, congrArg (fun z => some (Value.bool z)) (by rw [hsn, decide_eq_false (by omega)]; rfl), rfl, trivial⟩ (fun _ h => Sat.pu_in (by omega) h) (by omega)
    ·exact AtQ.loop (k + 1) ⟨rfl, rfl, rfl, rfl, rfl, congrArg (fun z => some (Value.bool z)) (by rw [hsn, decide_eq_true (by omega)]; rfl), rfl, trivial⟩ (fun _ h => Sat.pu_in (by omega) h) (by omega)
  ·exact AtQ.cut () ⟨rfl, rfl, rfl, rfl, rfl, congrArg (fun z => some (Value.bool z)) (by rw [List.take_of_length_le (by omega)]), trivial⟩ (fun _ h => h)
 refine A0 ?_
 simp only [List.cons_append, List.nil_append]
 try refine gL ?_
 refine CT.cut (α := Int × Txt) (fun s => [(0, ptr wb), (2, vS tx), (3, .int .i64 i), (5, .pointer (some ⟨b5, 0, none⟩)), (8, .pointer (some ⟨b8, 0, none⟩))]) (fun s => Pu (WS (bnd r fun g => must (decide (goodL js < 0) && decide (js.length ≤ 255) && decide ((64 : Int) ∉ js)) 60 tx (.ok g)) s.1 s.2 g) :: (wk wb s.1 s.2 a c g ++ (Cs b8 87 [vS nm, .int .i32 num, .int .u8 card, .int .u8 kind, vS ty, .int .u8 key, .int .i64 oneof, .int .u8 packed, vS js] :: Cs b5 72 [v0, .slice fa fs.length fc, v2, v3, v4, v5, v6] :: R))) ?_ (fun s => ?_)
 ·cases hcc : decide (goodL js < 0) && decide (js.length ≤ 255) && decide ((64 : Int) ∉ js)
  ·try refine gL ?_
   refine RT.call T rfl fR_ (wrong_fn (wb := wb) (err := 60) (tx := tx) (a := a) (c := c) (g := g) hr (by decide)) rfl rfl rfl ?_
   rintro _ _ ⟨rfl, e9, t9, rfl, h9⟩
   simp only [List.cons_append, List.nil_append]
   try refine gL ?_
   exact AtQ.cut (e9, t9) ⟨rfl, rfl, rfl, rfl, rfl, trivial⟩ (fun _ h => Sat.pu_in (by dsimp only; exact h9.mf (p := fun _ => false) hr rfl) h)
  ·try refine gL ?_
   exact AtQ.cut (_, _) ⟨rfl, rfl, rfl, rfl, rfl, trivial⟩ (fun _ h => Sat.pu_in (by dsimp only; exact hr.mt (p := fun _ => true) rfl) h)
 obtain ⟨e9, t9⟩ := s
 refine A0 ?_
 refine CT.pu fun h1 => ?_
 dsimp only at h1 ⊢
 simp only [List.cons_append, List.nil_append]

 generalize hr1 : (bnd r fun g => must (decide (goodL js < 0) && decide (js.length ≤ 255) && decide ((64 : Int) ∉ js)) 60 tx (.ok g)) = r1 at h1
 try refine gM ?_
 refine RT.call T rfl fR_ (hrj _) rfl rfl rfl ?_
 rintro _ _ ⟨rfl, rfl⟩
 simp only [List.nil_append]
 try refine gL ?_
 refine CT.loop (α := Nat × Int × Txt) (fun s => [(0, ptr wb), (2, vS tx), (3, .int .i64 i), (5, .pointer (some ⟨b5, 0, none⟩)), (8, .pointer (some ⟨b8, 0, none⟩)), (11, vS (jsonL (⟨nm, num, card, kind, ty, key, oneof, packed, js⟩ : FieldT))), (12, .int .i64 s.1)]) (fun s => Pu (s.1 ≤ i ∧ WS (bnd r1 fun g => must (decide (∀ o ∈ fs.take s.1, jsonL o ≠ jsonL (⟨nm, num, card, kind, ty, key, oneof, packed, js⟩ : FieldT) ∧ jsonL o ≠ nm ∧ o.nm ≠ jsonL (⟨nm, num, card, kind, ty, key, oneof, packed, js⟩ : FieldT))) 61 tx (.ok g)) s.2.1 s.2.2 g) :: (wk wb s.2.1 s.2.2 a c g ++ (Cs b8 87 [vS nm, .int .i32 num, .int .u8 card, .int .u8 kind, vS ty, .int .u8 key, .int .i64 oneof, .int .u8 packed, vS js] :: Cs b5 72 [v0, .slice fa fs.length fc, v2, v3, v4, v5, v6] :: R))) (fun s => i - s.1) (0, e9, t9)
  ⟨rfl, rfl, rfl, rfl, rfl, rfl, rfl, trivial⟩ (fun _ h => Sat.pu_in ⟨Nat.zero_le _, by dsimp only; rw [List.take_zero]; exact h1.mt (p := fun _ => decide (∀ o ∈ [], jsonL o ≠ jsonL (⟨nm, num, card, kind, ty, key, oneof, packed, js⟩ : FieldT) ∧ jsonL o ≠ nm ∧ o.nm ≠ jsonL (⟨nm, num, card, kind, ty, key, oneof, packed, js⟩ : FieldT))) (by simp)⟩ h) (fun s => CT.pu fun hh => ?_)
 clear h1
 obtain ⟨k, e2, t2⟩ := s
 obtain ⟨hk, h2⟩ := hh
 dsimp only at hk h2 ⊢
 simp only [List.cons_append, List.nil_append]
 repeat' (first|refine gL ?_|(refine gv ?_;(refine⟨fun hc=>?_,fun hc=>?_⟩<;>first|(exfalso;omega)|skip))|fail)
 ·obtain ⟨x, hx⟩ : ∃ x, fs[k]? = some x := ⟨_, List.getElem?_eq_getElem (by omega)⟩
  have hxm := List.mem_of_getElem? hx
  obtain ⟨x1, _, _, _, _, _, _, _, x9⟩ := hok x hxm
  have xn1 := (hnm x hxm).1
  have hxj : Byt (jsonL x) := by
   unfold jsonL
   split
   ·exact camelF_byt x1.1
   ·exact x9.1
  have kst : ∀ {q : Bool} {ah : List FieldT}, ah = fs.take (k + 1) → decide (jsonL x ≠ jsonL (⟨nm, num, card, kind, ty, key, oneof, packed, js⟩ : FieldT) ∧ jsonL x ≠ nm ∧ x.nm ≠ jsonL (⟨nm, num, card, kind, ty, key, oneof, packed, js⟩ : FieldT)) = q → bnd (bnd r1 fun g => must (decide (∀ o ∈ fs.take k, jsonL o ≠ jsonL (⟨nm, num, card, kind, ty, key, oneof, packed, js⟩ : FieldT) ∧ jsonL o ≠ nm ∧ o.nm ≠ jsonL (⟨nm, num, card, kind, ty, key, oneof, packed, js⟩ : FieldT))) 61 tx (.ok g)) (fun g => must q 61 tx (.ok g)) = bnd r1 fun g => must (decide (∀ o ∈ ah, jsonL o ≠ jsonL (⟨nm, num, card, kind, ty, key, oneof, packed, js⟩ : FieldT) ∧ jsonL o ≠ nm ∧ o.nm ≠ jsonL (⟨nm, num, card, kind, ty, key, oneof, packed, js⟩ : FieldT))) 61 tx (.ok g) := fun hah hq => by
   subst hah
   rw [step_and, ← hq, all_snoc hx]
  refine RT.ix T (j := k * 9) rfl rfl rfl (rD (rf)) (by omega) (by omega) (by omega) rfl rfl ?_
  refine RT.ldra T rfl (rD (rf)) (l := x.cells) (flat_sub (f := FieldT.cells) (z := 9) (fun _ => rfl) fs k _ hx) rfl rfl rfl rfl ?_
  (refine RT.call T rfl fR_ (rjson_fn (x := x) x1.1 (by omega) x9.1) rfl rfl rfl ?_; rintro _ _ ⟨rfl, rfl⟩; try simp only [List.cons_append, List.nil_append])
  try refine gL ?_
  refine RT.eqs (l := jsonL x) (l' := jsonL (⟨nm, num, card, kind, ty, key, oneof, packed, js⟩ : FieldT)) rfl rfl hxj hjb rfl rfl (fun he => ?_) (fun he => ?_)
  ·replace kst := kst rfl (decide_eq_false (fun h => h.1 he))
   try refine gL ?_
   refine RT.call T rfl fR_ (wrong_fn (wb := wb) (err := 61) (tx := tx) (a := a) (c := c) (g := g) h2 (by decide)) rfl rfl rfl ?_
   rintro _ _ ⟨rfl, e3, t3, rfl, h3⟩
   simp only [List.cons_append, List.nil_append]
   repeat' (first|refine gL ?_|(refine gv ?_;refine gk ?_)|fail)
   exact AtQ.loop (k + 1, e3, t3) ⟨rfl, rfl, rfl, rfl, rfl, rfl, rfl, trivial⟩ (fun _ h => Sat.pu_in ⟨by dsimp only; omega, by dsimp only; rw [← kst]; exact h3.mf (p := fun _ => false) h2 rfl⟩ h) (by dsimp only; omega)
  try refine gL ?_
  refine RT.eqs (l := jsonL x) (l' := nm) rfl rfl hxj f1.1 rfl rfl (fun he2 => ?_) (fun he2 => ?_)
  ·replace kst := kst rfl (decide_eq_false (fun h => h.2.1 he2))
   try refine gL ?_
   refine RT.call T rfl fR_ (wrong_fn (wb := wb) (err := 61) (tx := tx) (a := a) (c := c) (g := g) h2 (by decide)) rfl rfl rfl ?_
   rintro _ _ ⟨rfl, e3, t3, rfl, h3⟩
   simp only [List.cons_append, List.nil_append]
   repeat' (first|refine gL ?_|(refine gv ?_;refine gk ?_)|fail)
   exact AtQ.loop (k + 1, e3, t3) ⟨rfl, rfl, rfl, rfl, rfl, rfl, rfl, trivial⟩ (fun _ h => Sat.pu_in ⟨by dsimp only; omega, by dsimp only; rw [← kst]; exact h3.mf (p := fun _ => false) h2 rfl⟩ h) (by dsimp only; omega)
  try refine gL ?_
  refine RT.ix T (j := k * 9) rfl rfl rfl (rD (rf)) (by omega) (by omega) (by omega) rfl rfl ?_
  refine RT.faA T rfl rfl rfl rfl ?_
  refine RT.ldr (u := vS x.nm) T rfl (rD (rf)) (by rw [flat_get (f := FieldT.cells) (z := 9) (fun _ => rfl) hx (by decide)]; rfl) rfl rfl rfl ?_
  try refine gL ?_
  refine RT.eqs (l := x.nm) (l' := jsonL (⟨nm, num, card, kind, ty, key, oneof, packed, js⟩ : FieldT)) rfl rfl x1.1 hjb rfl rfl (fun he3 => ?_) (fun he3 => ?_)
  ·replace kst := kst rfl (decide_eq_false (fun h => h.2.2 he3))
   try refine gL ?_
   refine RT.call T rfl fR_ (wrong_fn (wb := wb) (err := 61) (tx := tx) (a := a) (c := c) (g := g) h2 (by decide)) rfl rfl rfl ?_
   rintro _ _ ⟨rfl, e3, t3, rfl, h3⟩
   simp only [List.cons_append, List.nil_append]
   repeat' (first|refine gL ?_|(refine gv ?_;refine gk ?_)|fail)
   exact AtQ.loop (k + 1, e3, t3) ⟨rfl, rfl, rfl, rfl, rfl, rfl, rfl, trivial⟩ (fun _ h => Sat.pu_in ⟨by dsimp only; omega, by dsimp only; rw [← kst]; exact h3.mf (p := fun _ => false) h2 rfl⟩ h) (by dsimp only; omega)
  replace kst := kst rfl (decide_eq_true ⟨he, he2, he3⟩)
  repeat' (first|refine gL ?_|(refine gv ?_;refine gk ?_)|fail)
  exact AtQ.loop (k + 1, e2, t2) ⟨rfl, rfl, rfl, rfl, rfl, rfl, rfl, trivial⟩ (fun _ h => Sat.pu_in ⟨by dsimp only; omega, by dsimp only; rw [← kst]; exact h2.mt (p := fun _ => true) rfl⟩ h) (by dsimp only; omega)
 ·obtain rfl : k = i := by omega
  refine AtQ.fin0 Tryz.results136 (H' := wk wb e2 t2 a c g) ⟨rfl, e2, t2, rfl, ?_⟩ (fun _ h => h.frd (Ps := [_, _]) (Qs := [_, _]) fR_) _ (by first | exact .inl rfl | exact .inr rfl)
  rw [← hr1, bnd_bnd] at h2
  simp only [bnd_must, bnd_ok] at h2
  exact h2
end Go.Proofs.YtdemnhdoadjhhaaGreatDoor
end
section
namespace Go.Sk
theorem RT.not {B : World} {P : Program} {n : Fm} {m : Bool} {l0 rest : List Oper} {E : Env} {H : List HP} {Q : Exit → Act → World → Prop} {d : Nat} {ty t' : TypeId} {pos : String} {af : Array Edge} {g : Option (Nat × Bool)} {x : Operand} {b : Bool} (hx : ev E x = some (.bool b)) (hw : wt l0 E g = some true) (hd : Nat.blt d n = true)
  (k : RT B P n m l0 rest ((d, .bool (!b)) :: E) H Q) : RT B P n m l0 (⟨some d, .unOp .not t' x, ty, pos, af, g⟩ :: rest) E H Q :=
 RT.y hw (by simpa [Nat.blt_eq] using hd) (y_not hx rfl) k
theorem RT.mvb {B : World} {P : Program} {n : Fm} {m : Bool} {l0 rest : List Oper} {E : Env} {H : List HP} {Q : Exit → Act → World → Prop} {d : Nat} {ty : TypeId} {pos : String} {af : Array Edge} {g : Option (Nat × Bool)} {x : Operand} {v : Value} (hx : ev E x = some v) (hw : wt l0 E g = some true) (hd : Nat.blt d n = true)
  (k : RT B P n m l0 rest ((d, v) :: E) H Q) : RT B P n m l0 (⟨some d, .move x, ty, pos, af, g⟩ :: rest) E H Q :=
 RT.y hw (by simpa [Nat.blt_eq] using hd) (y_move hx) k
end Go.Sk
namespace Go.Proofs.YtdemnhdoadjhhaaGreatDoor
open Go.Sk
set_option maxRecDepth 100000
theorem must_two {p q : Bool} {err : Int} {tx : Txt} {k : Rs} : must p err tx (must q err tx k) = must (p && q) err tx k := by cases p <;> rfl
attribute [local irreducible] Cs Own Ex Pu Yld RT LJ QJ AtQ CT Rd QSp Sp FinQ Then LoopQ CutQ DT TakeQ EffQ
variable {B : World} {R : List HP}
set_option maxHeartbeats 32000000 in
theorem wfield_fn {wb : Nat} {e : Int} {t full : Txt} {a : Option Addr} {c : Nat} {g : List Txt} {r : Rs} {v0 v3 v4 : Value} {fa oa ra na : Option Addr} {fc oc rc nc no i : Nat} {fs : List FieldT} {rs : List SpanT} {ns : List Txt} {f : FieldT}
  (hr : WS r e t g) (hb : BL g) (hg : g.length ≤ 1000000000) (rf : Rd B R fa fs.length fc 9 (fs.flatMap FieldT.cells)) (rr : Rd B R ra rs.length rc 2 (rs.flatMap SpanT.cells)) (rn : Rd B R na ns.length nc 1 (ns.map vS)) (hl : fs.length ≤ 1000000000) (hrl : rs.length ≤ 1000000000) (hnl : ns.length ≤ 1000000000)
  (hf : fs[i]? = some f) (hok : ∀ x ∈ fs, x.Ok) (hnm : ∀ x ∈ fs, FNm x) (hnb : BL ns) (hs : Byt full) (hsl : full.length ≤ 16777216) :
  Sp B Tryz.prog 104 [ptr wb, .agg #[v0, .slice fa fs.length fc, .slice oa no oc, v3, v4, .slice ra rs.length rc, .slice na ns.length nc], vS full, .int .i64 i] R (wk wb e t a c g)
   (fun v H' => v = .tuple #[] ∧ ∃ e' t' a' c', H' = wk wb e' t' a' c' (g ++ [joinL [full, f.nm]]) ∧ WS (bnd r (fieldR ns rs no full (fs.take i) f)) e' t' (g ++ [joinL [full, f.nm]])) := by
 have hil : i < fs.length := (List.getElem?_eq_some_iff.1 hf).1
 have hfm := List.mem_of_getElem? hf
 have hfok := hok f hfm
 have hkd := fun (R : List HP) => wkind_fn (B := B) (R := R) hfok
 obtain ⟨f1, f2, f3, f4, f5, f6, f7, f8, f9⟩ := hfok
 obtain ⟨n1, n2, n3⟩ := hnm f hfm
 have hfg := flat_sub (f := FieldT.cells) (z := 9) (fun _ => rfl) fs i _ hf
 unfold fieldR fieldR7 fieldR8 fieldR11 fieldR14 fieldR15
 have hjs := fun (R : List HP) {e : Int} {t tx : Txt} {a : Option Addr} {c : Nat} {g : List Txt} {r : Rs} (hr : WS r e t g) (rf : Rd B R fa fs.length fc 9 (fs.flatMap FieldT.cells)) => wjson_fn (wb := wb) (tx := tx) (a := a) (c := c) (v0 := v0) (v2 := .slice oa no oc) (v3 := v3) (v4 := v4) (v5 := .slice ra rs.length rc) (v6 := .slice na ns.length nc) hr rf hl hf hok hnm
 obtain ⟨nm, num, card, kind, ty, key, oneof, packed, js⟩ := f
 dsimp only [FieldT.cells] at *
 refine Sp.body Tryz.func104 rfl Tryz.ntmps104 (by simp) ?_
 simp only [argE, List.cons_append, List.nil_append, Nat.zero_add, Nat.reduceAdd]
 repeat' (first|refine gL ?_|(refine gb ?_;intro b)|fail)
 revert b
 intro b5
 refine RT.ix T (j := i * 9) rfl rfl rfl (rD (rf)) (by omega) (by omega) (by omega) rfl rfl ?_
 refine RT.ldra T rfl (rD (rf)) (l := [vS nm, .int .i32 num, .int .u8 card, .int .u8 kind, vS ty, .int .u8 key, .int .i64 oneof, .int .u8 packed, vS js]) hfg rfl rfl rfl rfl ?_
 repeat' (first|refine gM ?_|(refine gb ?_;intro b)|fail)
 revert b
 intro b8
 have hjl := @j2_len full nm
 have hjb := j2_byt hs f1.1
 (refine RT.bs T (l := strs [full,  nm]) rfl rfl rfl rfl rfl rfl rfl (fun a9 c9 h9 => ?_); (refine RT.call T rfl fR_ (rjoin_fn (ls := [full,  nm]) (Own.rd (by ((repeat constructor);done)) rfl h9) rfl (b2  hs  f1.1) ( s2l hsl n1)) rfl rfl rfl ?_; rintro _ _ ⟨rfl, rfl⟩; try simp only [List.cons_append, List.nil_append]); refine RT.weak (fun w h => h.tail) ?_)
 generalize joinL [full, nm] = J at *
 try refine gL ?_
 refine RT.call T rfl fR_ (wgive_fn (wb := wb) (a := a) (c := c) (full := J) (nm := nm) hr hb (by omega) f1.1 hjb n1 (by omega)) rfl rfl rfl ?_
 rintro _ _ ⟨rfl, e9, t9, a1, c1, rfl, h1⟩
 simp only [List.cons_append, List.nil_append]
 generalize g ++ [J] = g1 at *
 generalize hr1 : (bnd r (giveR nm J)) = r1 at h1
 try refine gL ?_
 refine RT.call T rfl fR_ (has_fn (l := ns) (s := nm) (k := ns.length) (rD (rn)) rfl (by omega) hnb f1.1) rfl rfl rfl ?_
 rintro _ _ ⟨rfl, rfl⟩
 simp only [List.nil_append]
 rw [show decide (nm ∈ ns) = !decide (nm ∉ ns) by rw [decide_not, Bool.not_not]]
 try refine gL ?_
 refine CT.cut (α := Int × Txt) (fun s => [(0, ptr wb), (3, .int .i64 i), (5, .pointer (some ⟨b5, 0, none⟩)), (8, .pointer (some ⟨b8, 0, none⟩)), (9, vS J)]) (fun s => Pu (WS (bnd r1 fun g => must (decide (nm ∉ ns)) 63 J (.ok g)) s.1 s.2 g1) :: (wk wb s.1 s.2 a1 c1 g1 ++ (Cs b8 87 [vS nm, .int .i32 num, .int .u8 card, .int .u8 kind, vS ty, .int .u8 key, .int .i64 oneof, .int .u8 packed, vS js] :: Cs b5 72 [v0, .slice fa fs.length fc, .slice oa no oc, v3, v4, .slice ra rs.length rc, .slice na ns.length nc] :: R))) ?_ (fun s => ?_)
 ·cases hcc : decide (nm ∉ ns)
  ·try refine gL ?_
   refine RT.call T rfl fR_ (wrong_fn (wb := wb) (err := 63) (tx := J) (a := a1) (c := c1) (g := g1) h1 (by decide)) rfl rfl rfl ?_
   rintro _ _ ⟨rfl, e9, t9, rfl, h9⟩
   simp only [List.cons_append, List.nil_append]
   try refine gL ?_
   exact AtQ.cut (e9, t9) ⟨rfl, rfl, rfl, rfl, rfl, trivial⟩ (fun _ h => Sat.pu_in (by dsimp only; exact h9.mf (p := fun _ => false) h1 rfl) h)
  ·try refine gL ?_
   exact AtQ.cut (_, _) ⟨rfl, rfl, rfl, rfl, rfl, trivial⟩ (fun _ h => Sat.pu_in (by dsimp only; exact h1.mt (p := fun _ => true) rfl) h)
 obtain ⟨e9, t9⟩ := s
 refine A0 ?_
 refine CT.pu fun h2 => ?_
 dsimp only at h2 ⊢
 simp only [List.cons_append, List.nil_append]
 generalize hr2 : (bnd r1 fun g => must (decide (nm ∉ ns)) 63 J (.ok g)) = r2 at h2
 clear h1
 try refine gL ?_
 (refine RT.call T rfl fR_ (wmay_fn (x := num)) rfl rfl rfl ?_; rintro _ _ ⟨rfl, rfl⟩; try simp only [List.cons_append, List.nil_append])
 repeat' (first|refine gS ?_|(refine CT.id_ ?_;first|refine CT.seqN 9 rfl ?_|refine CT.region ?_)|fail)
 refine CT.cut (α := Unit) (fun _ => [(0, ptr wb), (3, .int .i64 i), (5, .pointer (some ⟨b5, 0, none⟩)), (8, .pointer (some ⟨b8, 0, none⟩)), (9, vS J), (11, .bool (mayB num && decide (∀ o ∈ fs.take i, o.num ≠ num)))]) (fun _ => wk wb e9 t9 a1 c1 g1 ++ (Cs b8 87 [vS nm, .int .i32 num, .int .u8 card, .int .u8 kind, vS ty, .int .u8 key, .int .i64 oneof, .int .u8 packed, vS js] :: Cs b5 72 [v0, .slice fa fs.length fc, .slice oa no oc, v3, v4, .slice ra rs.length rc, .slice na ns.length nc] :: R)) ?_ (fun _ => ?_)
 ·refine CT.block ?_
  refine CT.loop (α := Nat) (fun k => [(0, ptr wb), (3, .int .i64 i), (5, .pointer (some ⟨b5, 0, none⟩)), (8, .pointer (some ⟨b8, 0, none⟩)), (9, vS J), (11, .bool (mayB num && decide (∀ o ∈ fs.take k, o.num ≠ num))), (12, .int .i64 k)]) (fun k => Pu (k ≤ i) :: (wk wb e9 t9 a1 c1 g1 ++ (Cs b8 87 [vS nm, .int .i32 num, .int .u8 card, .int .u8 kind, vS ty, .int .u8 key, .int .i64 oneof, .int .u8 packed, vS js] :: Cs b5 72 [v0, .slice fa fs.length fc, .slice oa no oc, v3, v4, .slice ra rs.length rc, .slice na ns.length nc] :: R))) (fun k => i - k) 0
   ⟨rfl, rfl, rfl, rfl, rfl, congrArg (fun z => some (Value.bool z)) (by simp), rfl, trivial⟩ (fun _ h => Sat.pu_in (Nat.zero_le _) h) (fun k => CT.pu fun hk => ?_)
  simp only [List.cons_append, List.nil_append]
  repeat' (first|refine gL ?_|(refine gv ?_;(refine⟨fun hc=>?_,fun hc=>?_⟩<;>first|(exfalso;omega)|skip))|fail)
  ·obtain ⟨x, hx⟩ : ∃ x, fs[k]? = some x := ⟨_, List.getElem?_eq_getElem (by omega)⟩
   have hsn : ∀ {ah : List FieldT}, ah = fs.take (k + 1) → (mayB num && decide (∀ o ∈ ah, o.num ≠ num)) = ((mayB num && decide (∀ o ∈ fs.take k, o.num ≠ num)) && decide (x.num ≠ num)) := fun hah => by
    subst hah
    rw [all_snoc hx]
    simp only [Bool.and_assoc]
   cases hpk : (mayB num && decide (∀ o ∈ fs.take k, o.num ≠ num))
   ·rw [hpk] at hsn
    repeat' (first|refine gL ?_|(refine gv ?_;refine gk ?_)|fail)
    exact AtQ.loop (k + 1) ⟨rfl, rfl, rfl, rfl, rfl, congrArg (fun z => some (Value.bool z)) (by rw [hsn rfl]; rfl), rfl, trivial⟩ (fun _ h => Sat.pu_in (by omega) h) (by omega)
   ·rw [hpk] at hsn
    try refine gL ?_
    ((refine RT.ix T (j := (k) * 9) rfl rfl rfl (rD (rf)) (by omega) (by omega) (by omega) rfl rfl ?_); (refine RT.faA T rfl rfl rfl rfl ?_); (refine RT.ldr (u := .int .i32 x.num) T rfl (rD (rf)) (by rw [flat_get (f := FieldT.cells) (z := 9) (fun _ => rfl) hx (by decide)]; rfl) rfl rfl rfl ?_))
    repeat' (first|refine gL ?_|(refine gv ?_;first|(refine⟨fun hc=>?_,fun hc=>?_⟩<;>first|(exfalso;omega)|skip)|refine gk ?_)|fail)
    ·exact AtQ.loop (k + 1) ⟨rfl, rfl, rfl, rfl, rfl, congrArg (fun z => some (Value.bool z)) (by rw [hsn rfl, decide_eq_false (by omega)]; rfl), rfl, trivial⟩ (fun _ h => Sat.pu_in (by omega) h) (by omega)
    ·exact AtQ.loop (k + 1) ⟨rfl, rfl, rfl, rfl, rfl, congrArg (fun z => some (Value.bool z)) (by rw [hsn rfl, decide_eq_true (by omega)]; rfl), rfl, trivial⟩ (fun _ h => Sat.pu_in (by omega) h) (by omega)
  ·obtain rfl : k = i := by omega
   exact AtQ.cut () ⟨rfl, rfl, rfl, rfl, rfl, rfl, trivial⟩ (fun _ h => h)
 refine A0 ?_
 simp only [List.cons_append, List.nil_append]
 try refine gL ?_
 refine RT.mvb rfl rfl rfl ?_
 refine RT.not rfl rfl rfl ?_
 try refine gL ?_
 refine CT.cut (α := Int × Txt) (fun s => [(0, ptr wb), (3, .int .i64 i), (5, .pointer (some ⟨b5, 0, none⟩)), (8, .pointer (some ⟨b8, 0, none⟩)), (9, vS J)]) (fun s => Pu (WS (bnd r2 fun g => must (mayB num && decide (∀ o ∈ fs.take i, o.num ≠ num)) 62 J (.ok g)) s.1 s.2 g1) :: (wk wb s.1 s.2 a1 c1 g1 ++ (Cs b8 87 [vS nm, .int .i32 num, .int .u8 card, .int .u8 kind, vS ty, .int .u8 key, .int .i64 oneof, .int .u8 packed, vS js] :: Cs b5 72 [v0, .slice fa fs.length fc, .slice oa no oc, v3, v4, .slice ra rs.length rc, .slice na ns.length nc] :: R))) ?_ (fun s => ?_)
 ·cases hcc : mayB num && decide (∀ o ∈ fs.take i, o.num ≠ num)
  ·try refine gL ?_
   refine RT.call T rfl fR_ (wrong_fn (wb := wb) (err := 62) (tx := J) (a := a1) (c := c1) (g := g1) h2 (by decide)) rfl rfl rfl ?_
   rintro _ _ ⟨rfl, e9, t9, rfl, h9⟩
   simp only [List.cons_append, List.nil_append]
   try refine gL ?_
   exact AtQ.cut (e9, t9) ⟨rfl, rfl, rfl, rfl, rfl, trivial⟩ (fun _ h => Sat.pu_in (by dsimp only; exact h9.mf (p := fun _ => false) h2 rfl) h)
  ·try refine gL ?_
   exact AtQ.cut (_, _) ⟨rfl, rfl, rfl, rfl, rfl, trivial⟩ (fun _ h => Sat.pu_in (by dsimp only; exact h2.mt (p := fun _ => true) rfl) h)
 obtain ⟨e9, t9⟩ := s
 refine A0 ?_
 refine CT.pu fun h3 => ?_
 dsimp only at h3 ⊢
 simp only [List.cons_append, List.nil_append]
 generalize hr3 : (bnd r2 fun g => must (mayB num && decide (∀ o ∈ fs.take i, o.num ≠ num)) 62 J (.ok g)) = r3 at h3
 clear h2
 try refine gL ?_
 refine RT.call T rfl fR_ (wamong_fn (l := rs) (x := num) (rD (rr)) hrl) rfl rfl rfl ?_
 rintro _ _ ⟨rfl, rfl⟩
 simp only [List.nil_append]
 rw [show anyS rs num = !(!anyS rs num) from (Bool.not_not _).symm]
 try refine gL ?_
 refine CT.cut (α := Int × Txt) (fun s => [(0, ptr wb), (3, .int .i64 i), (5, .pointer (some ⟨b5, 0, none⟩)), (8, .pointer (some ⟨b8, 0, none⟩)), (9, vS J)]) (fun s => Pu (WS (bnd r3 fun g => must (!anyS rs num) 63 J (.ok g)) s.1 s.2 g1) :: (wk wb s.1 s.2 a1 c1 g1 ++ (Cs b8 87 [vS nm, .int .i32 num, .int .u8 card, .int .u8 kind, vS ty, .int .u8 key, .int .i64 oneof, .int .u8 packed, vS js] :: Cs b5 72 [v0, .slice fa fs.length fc, .slice oa no oc, v3, v4, .slice ra rs.length rc, .slice na ns.length nc] :: R))) ?_ (fun s => ?_)
 ·cases hcc : !anyS rs num
  ·try refine gL ?_
   refine RT.call T rfl fR_ (wrong_fn (wb := wb) (err := 63) (tx := J) (a := a1) (c := c1) (g := g1) h3 (by decide)) rfl rfl rfl ?_
   rintro _ _ ⟨rfl, e9, t9, rfl, h9⟩
   simp only [List.cons_append, List.nil_append]
   try refine gL ?_
   exact AtQ.cut (e9, t9) ⟨rfl, rfl, rfl, rfl, rfl, trivial⟩ (fun _ h => Sat.pu_in (by dsimp only; exact h9.mf (p := fun _ => false) h3 rfl) h)
  ·try refine gL ?_
   exact AtQ.cut (_, _) ⟨rfl, rfl, rfl, rfl, rfl, trivial⟩ (fun _ h => Sat.pu_in (by dsimp only; exact h3.mt (p := fun _ => true) rfl) h)
 obtain ⟨e9, t9⟩ := s
 refine A0 ?_
 refine CT.pu fun h4 => ?_
 dsimp only at h4 ⊢
 simp only [List.cons_append, List.nil_append]
 generalize hr4 : (bnd r3 fun g => must (!anyS rs num) 63 J (.ok g)) = r4 at h4
 clear h3
 try refine gM ?_
 refine RT.call T rfl fR_ (hkd _) rfl rfl rfl ?_
 rintro _ _ ⟨rfl, rfl⟩
 simp only [List.nil_append]
 try refine gL ?_
 refine RT.mvb rfl rfl rfl ?_
 refine RT.not rfl rfl rfl ?_
 try refine gL ?_
 refine CT.cut (α := Int × Txt) (fun s => [(0, ptr wb), (3, .int .i64 i), (5, .pointer (some ⟨b5, 0, none⟩)), (8, .pointer (some ⟨b8, 0, none⟩)), (9, vS J)]) (fun s => Pu (WS (bnd r4 fun g => must (kindF (⟨nm, num, card, kind, ty, key, oneof, packed, js⟩ : FieldT)) 69 J (.ok g)) s.1 s.2 g1) :: (wk wb s.1 s.2 a1 c1 g1 ++ (Cs b8 87 [vS nm, .int .i32 num, .int .u8 card, .int .u8 kind, vS ty, .int .u8 key, .int .i64 oneof, .int .u8 packed, vS js] :: Cs b5 72 [v0, .slice fa fs.length fc, .slice oa no oc, v3, v4, .slice ra rs.length rc, .slice na ns.length nc] :: R))) ?_ (fun s => ?_)
 ·cases hcc : kindF (⟨nm, num, card, kind, ty, key, oneof, packed, js⟩ : FieldT)
  ·try refine gL ?_
   refine RT.call T rfl fR_ (wrong_fn (wb := wb) (err := 69) (tx := J) (a := a1) (c := c1) (g := g1) h4 (by decide)) rfl rfl rfl ?_
   rintro _ _ ⟨rfl, e9, t9, rfl, h9⟩
   simp only [List.cons_append, List.nil_append]
   try refine gL ?_
   exact AtQ.cut (e9, t9) ⟨rfl, rfl, rfl, rfl, rfl, trivial⟩ (fun _ h => Sat.pu_in (by dsimp only; exact h9.mf (p := fun _ => false) h4 rfl) h)
  ·try refine gL ?_
   exact AtQ.cut (_, _) ⟨rfl, rfl, rfl, rfl, rfl, trivial⟩ (fun _ h => Sat.pu_in (by dsimp only; exact h4.mt (p := fun _ => true) rfl) h)
 obtain ⟨e9, t9⟩ := s
 refine A0 ?_
 refine CT.pu fun h5 => ?_
 dsimp only at h5 ⊢
 simp only [List.cons_append, List.nil_append]
 generalize hr5 : (bnd r4 fun g => must (kindF (⟨nm, num, card, kind, ty, key, oneof, packed, js⟩ : FieldT)) 69 J (.ok g)) = r5 at h5
 clear h4
 try refine gL ?_
 (refine RT.call T rfl fR_ (wkeyed_fn f6) rfl rfl rfl ?_; rintro _ _ ⟨rfl, rfl⟩; try simp only [List.cons_append, List.nil_append])
 try refine gR ?_
 refine CT.cut (α := Unit) (fun _ => [(0, ptr wb), (3, .int .i64 i), (5, .pointer (some ⟨b5, 0, none⟩)), (8, .pointer (some ⟨b8, 0, none⟩)), (9, vS J), (101, .bool (!(if card = 4 then keyB key else decide (key = 0))))]) (fun _ => wk wb e9 t9 a1 c1 g1 ++ (Cs b8 87 [vS nm, .int .i32 num, .int .u8 card, .int .u8 kind, vS ty, .int .u8 key, .int .i64 oneof, .int .u8 packed, vS js] :: Cs b5 72 [v0, .slice fa fs.length fc, .slice oa no oc, v3, v4, .slice ra rs.length rc, .slice na ns.length nc] :: R)) ?_ (fun _ => ?_)
 ·cases hkb : keyB key
  all_goals repeat' (first|refine gL ?_|(refine gv ?_;(refine⟨fun hc=>?_,fun hc=>?_⟩<;>first|(exfalso;omega)|skip))|fail)
  all_goals exact AtQ.cut () ⟨rfl, rfl, rfl, rfl, rfl, congrArg (fun z => some (Value.bool z)) (by first | (rw [if_pos (by omega)]; rfl) | (rw [if_neg (by omega), decide_eq_true (by omega)]; rfl) | (rw [if_neg (by omega), decide_eq_false (by omega)]; rfl)), trivial⟩ (fun _ h => h)
 refine A0 ?_
 simp only [List.cons_append, List.nil_append]
 skip
 refine CT.cut (α := Int × Txt) (fun s => [(0, ptr wb), (3, .int .i64 i), (5, .pointer (some ⟨b5, 0, none⟩)), (8, .pointer (some ⟨b8, 0, none⟩)), (9, vS J)]) (fun s => Pu (WS (bnd r5 fun g => must (if card = 4 then keyB key else decide (key = 0)) 65 J (.ok g)) s.1 s.2 g1) :: (wk wb s.1 s.2 a1 c1 g1 ++ (Cs b8 87 [vS nm, .int .i32 num, .int .u8 card, .int .u8 kind, vS ty, .int .u8 key, .int .i64 oneof, .int .u8 packed, vS js] :: Cs b5 72 [v0, .slice fa fs.length fc, .slice oa no oc, v3, v4, .slice ra rs.length rc, .slice na ns.length nc] :: R))) ?_ (fun s => ?_)
 ·cases hcc : if card = 4 then keyB key else decide (key = 0)
  ·try refine gL ?_
   refine RT.call T rfl fR_ (wrong_fn (wb := wb) (err := 65) (tx := J) (a := a1) (c := c1) (g := g1) h5 (by decide)) rfl rfl rfl ?_
   rintro _ _ ⟨rfl, e9, t9, rfl, h9⟩
   simp only [List.cons_append, List.nil_append]
   try refine gL ?_
   exact AtQ.cut (e9, t9) ⟨rfl, rfl, rfl, rfl, rfl, trivial⟩ (fun _ h => Sat.pu_in (by dsimp only; exact h9.mf (p := fun _ => false) h5 rfl) h)
  ·try refine gL ?_
   exact AtQ.cut (_, _) ⟨rfl, rfl, rfl, rfl, rfl, trivial⟩ (fun _ h => Sat.pu_in (by dsimp only; exact h5.mt (p := fun _ => true) rfl) h)
 obtain ⟨e9, t9⟩ := s
 refine A0 ?_
 refine CT.pu fun h6 => ?_
 dsimp only at h6 ⊢
 simp only [List.cons_append, List.nil_append]
 generalize hr6 : (bnd r5 fun g => must (if card = 4 then keyB key else decide (key = 0)) 65 J (.ok g)) = r6 at h6
 clear h5
 (repeat refine CT.seq ?_)
 refine CT.cut (α := Unit) (fun _ => [(0, ptr wb), (3, .int .i64 i), (5, .pointer (some ⟨b5, 0, none⟩)), (8, .pointer (some ⟨b8, 0, none⟩)), (9, vS J), (125, .bool (!(decide (0 ≤ oneof ∧ oneof ≤ (no : Int)) && decide (oneof = 0 ∨ card = 1))))]) (fun _ => wk wb e9 t9 a1 c1 g1 ++ (Cs b8 87 [vS nm, .int .i32 num, .int .u8 card, .int .u8 kind, vS ty, .int .u8 key, .int .i64 oneof, .int .u8 packed, vS js] :: Cs b5 72 [v0, .slice fa fs.length fc, .slice oa no oc, v3, v4, .slice ra rs.length rc, .slice na ns.length nc] :: R)) ?_ (fun _ => ?_)
 ·repeat' (first|refine gL ?_|(refine gv ?_;(refine⟨fun hc=>?_,fun hc=>?_⟩<;>first|(exfalso;omega)|skip))|fail)
  all_goals exact AtQ.cut () ⟨rfl, rfl, rfl, rfl, rfl, congrArg (fun z => some (Value.bool z)) (by rw [← Bool.decide_and]; first | (rw [decide_eq_true (by omega)]; rfl) | (rw [decide_eq_false (by omega)]; rfl)), trivial⟩ (fun _ h => h)
 refine A0 ?_
 simp only [List.cons_append, List.nil_append]
 skip
 refine CT.cut (α := Int × Txt) (fun s => [(0, ptr wb), (3, .int .i64 i), (5, .pointer (some ⟨b5, 0, none⟩)), (8, .pointer (some ⟨b8, 0, none⟩)), (9, vS J)]) (fun s => Pu (WS (bnd r6 fun g => must (decide (0 ≤ oneof ∧ oneof ≤ (no : Int)) && decide (oneof = 0 ∨ card = 1)) 64 J (.ok g)) s.1 s.2 g1) :: (wk wb s.1 s.2 a1 c1 g1 ++ (Cs b8 87 [vS nm, .int .i32 num, .int .u8 card, .int .u8 kind, vS ty, .int .u8 key, .int .i64 oneof, .int .u8 packed, vS js] :: Cs b5 72 [v0, .slice fa fs.length fc, .slice oa no oc, v3, v4, .slice ra rs.length rc, .slice na ns.length nc] :: R))) ?_ (fun s => ?_)
 ·cases hcc : decide (0 ≤ oneof ∧ oneof ≤ (no : Int)) && decide (oneof = 0 ∨ card = 1)
  ·try refine gL ?_
   refine RT.call T rfl fR_ (wrong_fn (wb := wb) (err := 64) (tx := J) (a := a1) (c := c1) (g := g1) h6 (by decide)) rfl rfl rfl ?_
   rintro _ _ ⟨rfl, e9, t9, rfl, h9⟩
   simp only [List.cons_append, List.nil_append]
   try refine gL ?_
   exact AtQ.cut (e9, t9) ⟨rfl, rfl, rfl, rfl, rfl, trivial⟩ (fun _ h => Sat.pu_in (by dsimp only; exact h9.mf (p := fun _ => false) h6 rfl) h)
  ·try refine gL ?_
   exact AtQ.cut (_, _) ⟨rfl, rfl, rfl, rfl, rfl, trivial⟩ (fun _ h => Sat.pu_in (by dsimp only; exact h6.mt (p := fun _ => true) rfl) h)
 obtain ⟨e9, t9⟩ := s
 refine A0 ?_
 refine CT.pu fun h7 => ?_
 dsimp only at h7 ⊢
 simp only [List.cons_append, List.nil_append]
 generalize hr7 : (bnd r6 fun g => must (decide (0 ≤ oneof ∧ oneof ≤ (no : Int)) && decide (oneof = 0 ∨ card = 1)) 64 J (.ok g)) = r7 at h7
 clear h6
 try refine gL ?_
 (refine RT.call T rfl fR_ (wpacks_fn (x := kind)) rfl rfl rfl ?_; rintro _ _ ⟨rfl, rfl⟩; try simp only [List.cons_append, List.nil_append])
 try refine gR ?_
 refine CT.cut (α := Unit) (fun _ => [(0, ptr wb), (3, .int .i64 i), (5, .pointer (some ⟨b5, 0, none⟩)), (8, .pointer (some ⟨b8, 0, none⟩)), (9, vS J), (148, .bool (!(decide (packed ≤ 2) && (decide (packed = 0) || decide (card = 3) && packsB kind))))]) (fun _ => wk wb e9 t9 a1 c1 g1 ++ (Cs b8 87 [vS nm, .int .i32 num, .int .u8 card, .int .u8 kind, vS ty, .int .u8 key, .int .i64 oneof, .int .u8 packed, vS js] :: Cs b5 72 [v0, .slice fa fs.length fc, .slice oa no oc, v3, v4, .slice ra rs.length rc, .slice na ns.length nc] :: R)) ?_ (fun _ => ?_)
 ·cases hpb : packsB kind
  all_goals repeat' (first|refine gL ?_|(refine gv ?_;(refine⟨fun hc=>?_,fun hc=>?_⟩<;>first|(exfalso;omega)|skip))|fail)
  all_goals exact AtQ.cut () ⟨rfl, rfl, rfl, rfl, rfl, congrArg (fun z => some (Value.bool z)) (by first | (rw [decide_eq_true (p := packed ≤ 2) (by omega), decide_eq_true (p := packed = 0) (by omega)]; rfl) | (rw [decide_eq_false (p := packed ≤ 2) (by omega)]; rfl) | (rw [decide_eq_true (p := packed ≤ 2) (by omega), decide_eq_false (p := packed = 0) (by omega), decide_eq_true (p := card = 3) (by omega)]; rfl) | (rw [decide_eq_true (p := packed ≤ 2) (by omega), decide_eq_false (p := packed = 0) (by omega), decide_eq_false (p := card = 3) (by omega)]; rfl)), trivial⟩ (fun _ h => h)
 refine A0 ?_
 simp only [List.cons_append, List.nil_append]
 skip
 refine CT.cut (α := Int × Txt) (fun s => [(0, ptr wb), (3, .int .i64 i), (5, .pointer (some ⟨b5, 0, none⟩)), (8, .pointer (some ⟨b8, 0, none⟩)), (9, vS J)]) (fun s => Pu (WS (bnd r7 fun g => must (decide (packed ≤ 2) && (decide (packed = 0) || decide (card = 3) && packsB kind)) 67 J (.ok g)) s.1 s.2 g1) :: (wk wb s.1 s.2 a1 c1 g1 ++ (Cs b8 87 [vS nm, .int .i32 num, .int .u8 card, .int .u8 kind, vS ty, .int .u8 key, .int .i64 oneof, .int .u8 packed, vS js] :: Cs b5 72 [v0, .slice fa fs.length fc, .slice oa no oc, v3, v4, .slice ra rs.length rc, .slice na ns.length nc] :: R))) ?_ (fun s => ?_)
 ·cases hcc : decide (packed ≤ 2) && (decide (packed = 0) || decide (card = 3) && packsB kind)
  ·try refine gL ?_
   refine RT.call T rfl fR_ (wrong_fn (wb := wb) (err := 67) (tx := J) (a := a1) (c := c1) (g := g1) h7 (by decide)) rfl rfl rfl ?_
   rintro _ _ ⟨rfl, e9, t9, rfl, h9⟩
   simp only [List.cons_append, List.nil_append]
   try refine gL ?_
   exact AtQ.cut (e9, t9) ⟨rfl, rfl, rfl, rfl, rfl, trivial⟩ (fun _ h => Sat.pu_in (by dsimp only; exact h9.mf (p := fun _ => false) h7 rfl) h)
  ·try refine gL ?_
   exact AtQ.cut (_, _) ⟨rfl, rfl, rfl, rfl, rfl, trivial⟩ (fun _ h => Sat.pu_in (by dsimp only; exact h7.mt (p := fun _ => true) rfl) h)
 obtain ⟨e9, t9⟩ := s
 refine A0 ?_
 refine CT.pu fun h8 => ?_
 dsimp only at h8 ⊢
 simp only [List.cons_append, List.nil_append]
 generalize hr8 : (bnd r7 fun g => must (decide (packed ≤ 2) && (decide (packed = 0) || decide (card = 3) && packsB kind)) 67 J (.ok g)) = r8 at h8
 clear h7
 try refine gM ?_
 refine RT.call T rfl fR_ (hjs _ (tx := J) (a := a1) (c := c1) h8 (rD (rf))) rfl rfl rfl ?_
 rintro _ _ ⟨rfl, e8, t8, rfl, h9⟩
 simp only [List.cons_append, List.nil_append]
 try refine gL ?_
 refine AtQ.fin0 Tryz.results104 (H' := wk wb e8 t8 a1 c1 g1) ⟨rfl, e8, t8, a1, c1, rfl, ?_⟩ (fun _ h => h.frd (Ps := [_, _]) (Qs := [_, _]) fR_) _ (by first | exact .inl rfl | exact .inr rfl)
 rw [← hr8, ← hr7, ← hr6, ← hr5, ← hr4, ← hr3, ← hr2, ← hr1] at h9
 unfold kindF kindA at h9
 simp only [bnd_bnd, bnd_must, bnd_ok, must_two, Bool.not_not] at h9 ⊢
 exact h9
end Go.Proofs.YtdemnhdoadjhhaaGreatDoor
end
section
namespace Go.Sk
theorem AtQ.pu {B : World} {n : Fm} {E : Env} {H : List HP} {Q : Exit → Act → World → Prop} {ex : Exit} {p : Prop} (h : p → AtQ B n E H Q ex) : AtQ B n E (Pu p :: H) Q ex := fun a w hA hS => h hS.pu_out a w hA hS.tail
end Go.Sk
namespace Go.Proofs.YtdemnhdoadjhhaaGreatDoor
open Go.Sk
set_option maxRecDepth 100000
noncomputable def valR (names : List Txt) (res : List SpanT) (ali : Bool) (sc : Txt) (ah : List EValT) (v : EValT) (g : List Txt) : Rs := bnd (giveR v.nm (joinL [sc, v.nm]) g) fun g => must (decide (v.nm ∉ names) && !anyS res v.num) 63 (joinL [sc, v.nm]) <| must (ali || decide (∀ o ∈ ah, o.num ≠ v.num)) 66 (joinL [sc, v.nm]) (.ok g)
theorem vals_app {names : List Txt} {res : List SpanT} {ali : Bool} {sc : Txt} : ∀ {l k ah : List EValT} {g : List Txt}, valsR names res ali sc ah (l ++ k) g = bnd (valsR names res ali sc ah l g) (valsR names res ali sc (ah ++ l) k)
 | [], k, ah, g => by
  have e : valsR names res ali sc ah [] g = .ok g := by cases ah <;> rfl
  rw [List.nil_append, List.append_nil, e, bnd_ok]
 | v :: l, k, ah, g => by
  rw [List.cons_append, valsR, valsR, bnd_bnd]
  congr 1
  funext g
  rw [bnd_must, bnd_must, vals_app, List.append_assoc]
  rfl
theorem val_snoc {l : List EValT} {x : EValT} {k : Nat} {n : Int} [Decidable (∀ o ∈ l.take (k + 1), o.num ≠ n)] [Decidable (∀ o ∈ l.take k, o.num ≠ n)] (hx : l[k]? = some x) : decide (∀ o ∈ l.take (k + 1), o.num ≠ n) = (decide (∀ o ∈ l.take k, o.num ≠ n) && decide (x.num ≠ n)) := by
 rw [← Bool.decide_and]
 refine decide_eq_decide.2 ⟨fun h => ⟨fun o ho => h o ?_, h x ?_⟩, fun h o ho => ?_⟩
 ·rw [← len_snoc hx]; exact List.mem_append_left _ ho
 ·rw [← len_snoc hx]; simp
 ·rw [← len_snoc hx] at ho
  rcases List.mem_append.1 ho with ho | ho
  ·exact h.1 o ho
  ·rw [List.mem_singleton.1 ho]; exact h.2
attribute [local irreducible] Cs Own Ex Pu Yld RT LJ QJ AtQ CT Rd QSp Sp FinQ Then LoopQ CutQ DT TakeQ EffQ
variable {B : World} {R : List HP}
set_option maxHeartbeats 8000000 in
theorem woneof_fn {wb : Nat} {e : Int} {t full : Txt} {a : Option Addr} {c : Nat} {g : List Txt} {r : Rs} {v0 v3 v4 v5 v6 : Value} {fa oa : Option Addr} {fc oc i : Nat} {fs : List FieldT} {os : List Txt} {n : Txt}
  (hr : WS r e t g) (hb : BL g) (hg : g.length ≤ 1000000000) (rf : Rd B R fa fs.length fc 9 (fs.flatMap FieldT.cells)) (ro : Rd B R oa os.length oc 1 (os.map vS)) (hl : fs.length ≤ 1000000000) (hol : os.length ≤ 1000000000)
  (hn : os[i]? = some n) (hnb : Byt n) (hnl : n.length ≤ 16777216) (hs : Byt full) (hsl : full.length ≤ 16777216) :
  Sp B Tryz.prog 105 [ptr wb, .agg #[v0, .slice fa fs.length fc, .slice oa os.length oc, v3, v4, v5, v6], vS full, .int .i64 i] R (wk wb e t a c g)
   (fun v H' => v = .tuple #[] ∧ ∃ e' t' a' c', H' = wk wb e' t' a' c' (g ++ [joinL [full, n]]) ∧ WS (bnd r fun g => bnd (giveR n (joinL [full, n]) g) fun g => must (decide (∃ f ∈ fs, f.oneof = (i : Int) + 1)) 64 (joinL [full, n]) (.ok g)) e' t' (g ++ [joinL [full, n]])) := by
 have hil : i < os.length := (List.getElem?_eq_some_iff.1 hn).1
 have hld : (os.map vS)[i]? = some (vS n) := by rw [List.getElem?_map, hn]; rfl
 refine Sp.body Tryz.func105 rfl Tryz.ntmps105 (by simp) ?_
 simp only [argE, List.cons_append, List.nil_append, Nat.zero_add, Nat.reduceAdd]
 repeat' (first|refine gL ?_|(refine gb ?_;intro b)|fail)
 revert b
 intro b5
 refine RT.ix T (j := i) rfl rfl rfl (rD (ro)) (by omega) (by omega) (by omega) rfl rfl ?_
 refine RT.ldr (u := vS n) T rfl (rD (ro)) hld rfl rfl rfl ?_
 have hjl := @j2_len full n
 have hjb := j2_byt hs hnb
 (refine RT.bs T (l := strs [full,  n]) rfl rfl rfl rfl rfl rfl rfl (fun a9 c9 h9 => ?_); (refine RT.call T rfl fR_ (rjoin_fn (ls := [full,  n]) (Own.rd (by ((repeat constructor);done)) rfl h9) rfl (b2  hs  hnb) ( s2l hsl hnl)) rfl rfl rfl ?_; rintro _ _ ⟨rfl, rfl⟩; try simp only [List.cons_append, List.nil_append]); refine RT.weak (fun w h => h.tail) ?_)
 generalize joinL [full, n] = J at *
 try refine gL ?_
 refine RT.ix T (j := i) rfl rfl rfl (rD (ro)) (by omega) (by omega) (by omega) rfl rfl ?_
 refine RT.ldr (u := vS n) T rfl (rD (ro)) hld rfl rfl rfl ?_
 refine RT.call T rfl fR_ (wgive_fn (wb := wb) (a := a) (c := c) (full := J) (nm := n) hr hb (by omega) hnb hjb hnl (by omega)) rfl rfl rfl ?_
 rintro _ _ ⟨rfl, e9, t9, a1, c1, rfl, h1⟩
 simp only [List.cons_append, List.nil_append]
 generalize g ++ [J] = g1 at *
 have hfin : ∀ {e' : Int} {t' : Txt}, WS (bnd (bnd r (giveR n J)) fun g => must (decide (∃ f ∈ fs, f.oneof = (i : Int) + 1)) 64 J (.ok g)) e' t' g1 → WS (bnd r fun g => bnd (giveR n J g) fun g => must (decide (∃ f ∈ fs, f.oneof = (i : Int) + 1)) 64 J (.ok g)) e' t' g1 := fun h => by rwa [bnd_bnd] at h
 try refine gL ?_
 refine CT.loop (α := Nat) (fun k => [(0, ptr wb), (3, .int .i64 i), (5, .pointer (some ⟨b5, 0, none⟩)), (8, vS J), (9, .int .i64 k)]) (fun k => Pu (k ≤ fs.length ∧ ∀ f ∈ fs.take k, f.oneof ≠ (i : Int) + 1) :: (wk wb e9 t9 a1 c1 g1 ++ (Cs b5 72 [v0, .slice fa fs.length fc, .slice oa os.length oc, v3, v4, v5, v6] :: R))) (fun k => fs.length - k) 0
  ⟨rfl, rfl, rfl, rfl, rfl, trivial⟩ (fun _ h => Sat.pu_in ⟨Nat.zero_le _, by simp⟩ h) (fun k => CT.pu fun ⟨hk, hno⟩ => ?_)
 simp only [List.cons_append, List.nil_append]
 repeat' (first|refine gL ?_|(refine gv ?_;(refine⟨fun hc=>?_,fun hc=>?_⟩<;>first|(exfalso;omega)|skip))|fail)
 ·obtain ⟨x, hx⟩ : ∃ x, fs[k]? = some x := ⟨_, List.getElem?_eq_getElem (by omega)⟩
  have hxm := List.mem_of_getElem? hx
  ((refine RT.ix T (j := (k) * 9) rfl rfl rfl (rD (rf)) (by omega) (by omega) (by omega) rfl rfl ?_); (refine RT.faA T rfl rfl rfl rfl ?_); (refine RT.ldr (u := .int .i64 x.oneof) T rfl (rD (rf)) (by rw [flat_get (f := FieldT.cells) (z := 9) (fun _ => rfl) hx (by decide)]; rfl) rfl rfl rfl ?_))
  repeat' (first|refine gL ?_|(refine gv ?_;first|(refine⟨fun hc=>?_,fun hc=>?_⟩<;>first|(exfalso;omega)|skip)|refine gk ?_)|fail)
  ·refine AtQ.fin0 Tryz.results105 (H' := wk wb e9 t9 a1 c1 g1) ⟨rfl, e9, t9, a1, c1, rfl, hfin (h1.mt (p := fun _ => decide (∃ f ∈ fs, f.oneof = (i : Int) + 1)) (decide_eq_true ⟨x, hxm, by omega⟩))⟩ (fun _ h => h.frd (Ps := [_, _]) (Qs := [_]) fR_) _ (by first | exact .inl rfl | exact .inr rfl)
  ·exact AtQ.loop (k + 1) ⟨rfl, rfl, rfl, rfl, rfl, trivial⟩ (fun _ h => Sat.pu_in ⟨by omega, fun f hf => by
    rw [← len_snoc hx] at hf
    rcases List.mem_append.1 hf with hf | hf
    ·exact hno f hf
    ·rw [List.mem_singleton.1 hf]; omega⟩ h) (by omega)
 ·rw [List.take_of_length_le (by omega)] at hno
  refine RT.call T rfl fR_ (wrong_fn (wb := wb) (err := 64) (tx := J) (a := a1) (c := c1) (g := g1) h1 (by decide)) rfl rfl rfl ?_
  rintro _ _ ⟨rfl, e8, t8, rfl, h8⟩
  simp only [List.cons_append, List.nil_append]
  try refine gL ?_
  exact AtQ.fin0 Tryz.results105 (H' := wk wb e8 t8 a1 c1 g1) ⟨rfl, e8, t8, a1, c1, rfl, hfin (h8.mf (p := fun _ => decide (∃ f ∈ fs, f.oneof = (i : Int) + 1)) h1 (decide_eq_false (fun ⟨f, hf, he⟩ => hno f hf he)))⟩ (fun _ h => h.frd (Ps := [_, _]) (Qs := [_]) fR_) _ (by first | exact .inl rfl | exact .inr rfl)
set_option maxHeartbeats 32000000 in
theorem wenum_fn {wb : Nat} {e : Int} {t sc : Txt} {a : Option Addr} {c : Nat} {g : List Txt} {r : Rs} {en : EnumT} (hr : WS r e t g) (hb : BL g) (hg : g.length + cntE en ≤ 1000000000) (hin : en.In (Rd B R)) (hok : en.Ok) (hsm : ESm en) (hnm : ENm en) (hs : Byt sc) (hsl : sc.length ≤ 16777216) :
  Sp B Tryz.prog 53 [ptr wb, .agg en.cells.toArray, vS sc] R (wk wb e t a c g)
   (fun v H' => v = .tuple #[] ∧ ∃ e' t' a' c' g', H' = wk wb e' t' a' c' g' ∧ g'.length ≤ g.length + cntE en ∧ BL g' ∧ WS (bnd r (enumR en sc)) e' t' g') := by
 obtain ⟨nm, ⟨va, vc, vl⟩, ali, ⟨ra, rc, rl⟩, ⟨na, nc, nl⟩⟩ := en
 obtain ⟨rv, rr, rn⟩ := hin
 obtain ⟨⟨ho1, _⟩, _, ho3, _, _, _, ho7⟩ := hok
 obtain ⟨s1, s2, s3⟩ := hsm
 obtain ⟨m1, m2, m3⟩ := hnm
 unfold cntE at *
 dsimp only at *
 unfold enumR
 dsimp only [EnumT.cells, Rw.v]
 have hnb : BL nl := fun y hy => (ho7 y hy).1
 refine Sp.body Tryz.func53 rfl Tryz.ntmps53 (by simp) ?_
 simp only [argE, List.cons_append, List.nil_append, Nat.zero_add, Nat.reduceAdd]
 repeat' (first|refine gL ?_|(refine gb ?_;intro b)|fail)
 revert b
 intro b4
 have hjl := @j2_len sc nm
 have hjb := j2_byt hs ho1
 (refine RT.bs T (l := strs [sc,  nm]) rfl rfl rfl rfl rfl rfl rfl (fun a9 c9 h9 => ?_); (refine RT.call T rfl fR_ (rjoin_fn (ls := [sc,  nm]) (Own.rd (by ((repeat constructor);done)) rfl h9) rfl (b2  hs  ho1) ( s2l hsl m1)) rfl rfl rfl ?_; rintro _ _ ⟨rfl, rfl⟩; try simp only [List.cons_append, List.nil_append]); refine RT.weak (fun w h => h.tail) ?_)
 generalize joinL [sc, nm] = J at *
 try refine gL ?_
 refine RT.call T rfl fR_ (wgive_fn (wb := wb) (a := a) (c := c) (full := J) (nm := nm) hr hb (by omega) ho1 hjb m1 (by omega)) rfl rfl rfl ?_
 rintro _ _ ⟨rfl, e9, t9, a1, c1, rfl, h1⟩
 simp only [List.cons_append, List.nil_append]
 have hg1 : (g ++ [J]).length = g.length + 1 := by simp
 have hb1 : BL (g ++ [J]) := fun y hy => (List.mem_append.1 hy).elim (hb y) (fun h => by rw [List.mem_singleton.1 h]; exact hjb)
 generalize g ++ [J] = g1 at *
 generalize hr1 : (bnd r (giveR nm J)) = r1 at h1
 try refine gR ?_
 refine CT.cut (α := Unit) (fun _ => [(0, ptr wb), (2, vS sc), (4, .pointer (some ⟨b4, 0, none⟩)), (6, vS J), (26, .bool (!decide (vl.length ≤ 1000)))]) (fun _ => wk wb e9 t9 a1 c1 g1 ++ (Cs b4 109 [vS nm, .slice va vl.length vc, .bool ali, .slice ra rl.length rc, .slice na nl.length nc] :: R)) ?_ (fun _ => ?_)
 ·repeat' (first|refine gL ?_|(refine gv ?_;(refine⟨fun hc=>?_,fun hc=>?_⟩<;>first|(exfalso;omega)|skip))|fail)
  ·exact AtQ.cut () ⟨rfl, rfl, rfl, rfl, congrArg (fun z => some (Value.bool z)) (by rw [decide_eq_false (by omega)]; rfl), trivial⟩ (fun _ h => h)
  ·exact AtQ.cut () ⟨rfl, rfl, rfl, rfl, congrArg (fun z => some (Value.bool z)) (by rw [decide_eq_true (by omega)]; rfl), trivial⟩ (fun _ h => h)
 refine A0 ?_
 simp only [List.cons_append, List.nil_append]
 skip
 refine CT.cut (α := Int × Txt) (fun s => [(0, ptr wb), (2, vS sc), (4, .pointer (some ⟨b4, 0, none⟩)), (6, vS J)]) (fun s => Pu (WS (bnd r1 fun g => must (decide (vl.length ≤ 1000)) 68 J (.ok g)) s.1 s.2 g1) :: (wk wb s.1 s.2 a1 c1 g1 ++ (Cs b4 109 [vS nm, .slice va vl.length vc, .bool ali, .slice ra rl.length rc, .slice na nl.length nc] :: R))) ?_ (fun s => ?_)
 ·cases hcc : decide (vl.length ≤ 1000)
  ·try refine gL ?_
   refine RT.call T rfl fR_ (wrong_fn (wb := wb) (err := 68) (tx := J) (a := a1) (c := c1) (g := g1) h1 (by decide)) rfl rfl rfl ?_
   rintro _ _ ⟨rfl, e9, t9, rfl, h9⟩
   simp only [List.cons_append, List.nil_append]
   try refine gL ?_
   exact AtQ.cut (e9, t9) ⟨rfl, rfl, rfl, rfl, trivial⟩ (fun _ h => Sat.pu_in (by dsimp only; exact h9.mf (p := fun _ => false) h1 rfl) h)
  ·try refine gL ?_
   exact AtQ.cut (_, _) ⟨rfl, rfl, rfl, rfl, trivial⟩ (fun _ h => Sat.pu_in (by dsimp only; exact h1.mt (p := fun _ => true) rfl) h)
 obtain ⟨e9, t9⟩ := s
 refine A0 ?_
 refine CT.pu fun h2 => ?_
 dsimp only at h2 ⊢
 simp only [List.cons_append, List.nil_append]
 generalize hr2 : (bnd r1 fun g => must (decide (vl.length ≤ 1000)) 68 J (.ok g)) = r2 at h2
 clear h1
 (repeat refine CT.seq ?_)

 refine CT.cut (α := Unit) (fun _ => [(0, ptr wb), (2, vS sc), (4, .pointer (some ⟨b4, 0, none⟩)), (6, vS J), (41, .bool (!decide (∃ v, vl[0]? = some v ∧ v.num = 0)))]) (fun _ => wk wb e9 t9 a1 c1 g1 ++ (Cs b4 109 [vS nm, .slice va vl.length vc, .bool ali, .slice ra rl.length rc, .slice na nl.length nc] :: R)) ?_ (fun _ => ?_)
 ·repeat' (first|refine gL ?_|(refine gv ?_;(refine⟨fun hc=>?_,fun hc=>?_⟩<;>first|(exfalso;omega)|skip))|fail)
  ·have hv0 : vl = [] := List.eq_nil_of_length_eq_zero (by omega)
   exact AtQ.cut () ⟨rfl, rfl, rfl, rfl, congrArg (fun z => some (Value.bool z)) (by rw [hv0, decide_eq_false (by simp)]; rfl), trivial⟩ (fun _ h => h)
  obtain ⟨x, hx⟩ : ∃ x, vl[0]? = some x := ⟨_, List.getElem?_eq_getElem (by omega)⟩
  ((refine RT.ix T (j := (0) * 2) rfl rfl rfl (rD (rv)) (by omega) (by omega) (by omega) rfl rfl ?_); (refine RT.faA T rfl rfl rfl rfl ?_); (refine RT.ldr (u := .int .i32 x.num) T rfl (rD (rv)) (by rw [flat_get (f := EValT.cells) (z := 2) (fun _ => rfl) hx (by decide)]; rfl) rfl rfl rfl ?_))
  repeat' (first|refine gL ?_|(refine gv ?_;(refine⟨fun hc=>?_,fun hc=>?_⟩<;>first|(exfalso;omega)|skip))|fail)
  ·exact AtQ.cut () ⟨rfl, rfl, rfl, rfl, congrArg (fun z => some (Value.bool z)) (by rw [decide_eq_true ⟨x, hx, by omega⟩]; rfl), trivial⟩ (fun _ h => h)
  ·exact AtQ.cut () ⟨rfl, rfl, rfl, rfl, congrArg (fun z => some (Value.bool z)) (by rw [decide_eq_false (fun ⟨v, h1, h2⟩ => by rw [hx] at h1; cases h1; omega)]; rfl), trivial⟩ (fun _ h => h)
 refine A0 ?_
 simp only [List.cons_append, List.nil_append]
 skip
 refine CT.cut (α := Int × Txt) (fun s => [(0, ptr wb), (2, vS sc), (4, .pointer (some ⟨b4, 0, none⟩)), (6, vS J)]) (fun s => Pu (WS (bnd r2 fun g => must (decide (∃ v, vl[0]? = some v ∧ v.num = 0)) 66 J (.ok g)) s.1 s.2 g1) :: (wk wb s.1 s.2 a1 c1 g1 ++ (Cs b4 109 [vS nm, .slice va vl.length vc, .bool ali, .slice ra rl.length rc, .slice na nl.length nc] :: R))) ?_ (fun s => ?_)
 ·cases hcc : decide (∃ v, vl[0]? = some v ∧ v.num = 0)
  ·try refine gL ?_
   refine RT.call T rfl fR_ (wrong_fn (wb := wb) (err := 66) (tx := J) (a := a1) (c := c1) (g := g1) h2 (by decide)) rfl rfl rfl ?_
   rintro _ _ ⟨rfl, e9, t9, rfl, h9⟩
   simp only [List.cons_append, List.nil_append]
   try refine gL ?_
   exact AtQ.cut (e9, t9) ⟨rfl, rfl, rfl, rfl, trivial⟩ (fun _ h => Sat.pu_in (by dsimp only; exact h9.mf (p := fun _ => false) h2 rfl) h)
  ·try refine gL ?_
   exact AtQ.cut (_, _) ⟨rfl, rfl, rfl, rfl, trivial⟩ (fun _ h => Sat.pu_in (by dsimp only; exact h2.mt (p := fun _ => true) rfl) h)
 obtain ⟨e9, t9⟩ := s
 refine A0 ?_
 refine CT.pu fun h3 => ?_
 dsimp only at h3 ⊢
 simp only [List.cons_append, List.nil_append]
 generalize hr3 : (bnd r2 fun g => must (decide (∃ v, vl[0]? = some v ∧ v.num = 0)) 66 J (.ok g)) = r3 at h3
 clear h2
 try refine gL ?_
 refine RT.call T rfl fR_ (over_fn (wb := wb) (a := a1) (c := c1) (g := g1)) rfl rfl rfl ?_
 rintro _ _ ⟨rfl, rfl⟩
 simp only [List.cons_append, List.nil_append]
 have hall : ∀ {e' : Int} {t' : Txt} {g' : List Txt}, WS (bnd (bnd (bnd r3 fun g => opt (spansF (-2147483648) 2147483647 J [] rl) (.ok g)) fun g => opt (namesF sc [] nl) (.ok g)) (valsR nl rl ali sc [] vl)) e' t' g' → WS (bnd r fun g => bnd (giveR nm J g) fun g => must (decide (vl.length ≤ 1000)) 68 J <| must (decide (∃ v, vl[0]? = some v ∧ v.num = 0)) 66 J <| opt (spansF (-2147483648) 2147483647 J [] rl) <| opt (namesF sc [] nl) <| valsR nl rl ali sc [] vl g) e' t' g' := fun h => by
  rw [← hr3, ← hr2, ← hr1] at h
  simp only [bnd_bnd, bnd_must, bnd_opt, bnd_ok] at h
  exact h
 by_cases he : e9 = 0
 rotate_left
 ·rw [decide_eq_true he]
  try refine gL ?_
  exact AtQ.fin0 Tryz.results53 (H' := wk wb e9 t9 a1 c1 g1) ⟨rfl, e9, t9, a1, c1, g1, rfl, by omega, hb1, hall (by rw [h3.over he, h3.over he, h3.over he]; exact h3)⟩ (fun _ h => h.frd (Ps := [_, _]) (Qs := [_]) fR_) _ (by first | exact .inl rfl | exact .inr rfl)
 rw [decide_eq_false (fun h => h he)]
 try refine gL ?_
 refine RT.call T rfl fR_ (wspans_fn (wb := wb) (tx := J) (a := a1) (c := c1) h3 (rD (rr)) (by omega)) rfl rfl rfl ?_
 rintro _ _ ⟨rfl, e8, t8, rfl, h4⟩
 simp only [List.cons_append, List.nil_append]
 generalize (bnd r3 fun g => opt (spansF (-2147483648) 2147483647 J [] rl) (.ok g)) = r4 at h4 hall
 try refine gL ?_
 refine RT.call T rfl fR_ (wnames_fn (wb := wb) (sc := sc) (a := a1) (c := c1) h4 (rD (rn)) (by omega) hs hsl hnb m3) rfl rfl rfl ?_
 rintro _ _ ⟨rfl, e7, t7, rfl, h5⟩
 simp only [List.cons_append, List.nil_append]
 generalize (bnd r4 fun g => opt (namesF sc [] nl) (.ok g)) = r5 at h5 hall
 clear h3 h4 he
 try refine gL ?_
 refine CT.loop (α := Nat × Int × Txt × Option Addr × Nat × List Txt) (fun s => [(0, ptr wb), (2, vS sc), (4, .pointer (some ⟨b4, 0, none⟩)), (7, .int .i64 s.1)])
  (fun s => Pu (s.1 ≤ vl.length ∧ BL s.2.2.2.2.2 ∧ s.2.2.2.2.2.length ≤ g.length + 1 + s.1 ∧ WS (bnd r5 (valsR nl rl ali sc [] (vl.take s.1))) s.2.1 s.2.2.1 s.2.2.2.2.2) :: (wk wb s.2.1 s.2.2.1 s.2.2.2.1 s.2.2.2.2.1 s.2.2.2.2.2 ++ (Cs b4 109 [vS nm, .slice va vl.length vc, .bool ali, .slice ra rl.length rc, .slice na nl.length nc] :: R))) (fun s => vl.length - s.1) (0, e7, t7, a1, c1, g1)
  ⟨rfl, rfl, rfl, rfl, trivial⟩ (fun _ h => Sat.pu_in ⟨Nat.zero_le _, hb1, by dsimp only; omega, by dsimp only; rw [List.take_zero]; cases r5 <;> exact h5⟩ h) (fun s => CT.pu fun hh => ?_)
 obtain ⟨i, e1, t1, a2, c2, g2⟩ := s
 obtain ⟨hi, hb2, hgl, h6⟩ := hh
 dsimp only at hi hb2 hgl h6 ⊢
 simp only [List.cons_append, List.nil_append]
 clear h5 hb1
 repeat' (first|refine gL ?_|(refine gv ?_;(refine⟨fun hc=>?_,fun hc=>?_⟩<;>first|(exfalso;omega)|skip))|fail)
 rotate_left
 ·refine AtQ.fin0 Tryz.results53 (H' := wk wb e1 t1 a2 c2 g2) ⟨rfl, e1, t1, a2, c2, g2, rfl, by omega, hb2, hall (by rw [List.take_of_length_le (by omega)] at h6; exact h6)⟩ (fun _ h => h.frd (Ps := [_, _]) (Qs := [_]) fR_) _ (by first | exact .inl rfl | exact .inr rfl)
 refine RT.call T rfl fR_ (over_fn (wb := wb) (a := a2) (c := c2) (g := g2)) rfl rfl rfl ?_
 rintro _ _ ⟨rfl, rfl⟩
 simp only [List.cons_append, List.nil_append]
 by_cases he : e1 = 0
 rotate_left
 ·rw [decide_eq_true he]
  have hov : bnd r5 (valsR nl rl ali sc [] vl) = bnd r5 (valsR nl rl ali sc [] (vl.take i)) := by
   have ev : valsR nl rl ali sc [] vl = fun g => bnd (valsR nl rl ali sc [] (vl.take i) g) (valsR nl rl ali sc ([] ++ vl.take i) (vl.drop i)) := by funext g; rw [← vals_app, List.take_append_drop]
   rw [ev, ← bnd_bnd, h6.over he]
  try refine gL ?_
  exact AtQ.fin0 Tryz.results53 (H' := wk wb e1 t1 a2 c2 g2) ⟨rfl, e1, t1, a2, c2, g2, rfl, by omega, hb2, hall (by rw [hov]; exact h6)⟩ (fun _ h => h.frd (Ps := [_, _]) (Qs := [_]) fR_) _ (by first | exact .inl rfl | exact .inr rfl)
 rw [decide_eq_false (fun h => h he)]
 obtain ⟨ev, hev⟩ : ∃ ev, vl[i]? = some ev := ⟨_, List.getElem?_eq_getElem (by omega)⟩
 have hevm := List.mem_of_getElem? hev
 obtain ⟨⟨q1, q2⟩, q3⟩ := ho3 ev hevm
 have q4 := m2 ev hevm
 have hstep : bnd r5 (valsR nl rl ali sc [] (vl.take (i + 1))) = bnd (bnd r5 (valsR nl rl ali sc [] (vl.take i))) (valR nl rl ali sc (vl.take i) ev) := by
  rw [bnd_bnd, ← len_snoc hev]
  congr 1
  funext g
  rw [vals_app, List.nil_append]
  congr 1
 unfold valR at hstep
 generalize (bnd r5 (valsR nl rl ali sc [] (vl.take i))) = r6 at h6 hstep
 have hfg := flat_sub (f := EValT.cells) (z := 2) (fun _ => rfl) vl i _ hev
 obtain ⟨vn, vm⟩ := ev
 dsimp only [EValT.cells] at *
 try refine gL ?_
 refine RT.ix T (j := i * 2) rfl rfl rfl (rD (rv)) (by omega) (by omega) (by omega) rfl rfl ?_
 refine RT.ldra T rfl (rD (rv)) (l := [vS vn, .int .i32 vm]) hfg rfl rfl rfl rfl ?_
 repeat' (first|refine gM ?_|(refine gb ?_;intro b)|fail)
 revert b
 intro b8
 have hkl := @j2_len sc vn
 have hkb := j2_byt hs q1
 (refine RT.bs T (l := strs [sc,  vn]) rfl rfl rfl rfl rfl rfl rfl (fun a9 c9 h9 => ?_); (refine RT.call T rfl fR_ (rjoin_fn (ls := [sc,  vn]) (Own.rd (by ((repeat constructor);done)) rfl h9) rfl (b2  hs  q1) ( s2l hsl q4)) rfl rfl rfl ?_; rintro _ _ ⟨rfl, rfl⟩; try simp only [List.cons_append, List.nil_append]); refine RT.weak (fun w h => h.tail) ?_)
 generalize joinL [sc, vn] = K at *
 try refine gL ?_
 refine RT.call T rfl fR_ (wgive_fn (wb := wb) (a := a2) (c := c2) (full := K) (nm := vn) h6 hb2 (by omega) q1 hkb q4 (by omega)) rfl rfl rfl ?_
 rintro _ _ ⟨rfl, e9, t9, a3, c3, rfl, h7⟩
 simp only [List.cons_append, List.nil_append]
 have hb3 : BL (g2 ++ [K]) := fun y hy => (List.mem_append.1 hy).elim (hb2 y) (fun h => by rw [List.mem_singleton.1 h]; exact hkb)
 have hgl3 : (g2 ++ [K]).length ≤ g.length + 1 + (i + 1) := by rw [List.length_append, List.length_singleton]; omega
 generalize g2 ++ [K] = g3 at *
 generalize hr7 : bnd r6 (giveR vn K) = r7 at h7
 clear h6 hb2 hgl he
 try refine gL ?_
 refine RT.call T rfl fR_ (has_fn (l := nl) (s := vn) (k := nl.length) (rD (rn)) rfl (by omega) hnb q1) rfl rfl rfl ?_
 rintro _ _ ⟨rfl, rfl⟩
 simp only [List.nil_append]
 try refine gL ?_
 refine RT.call T rfl fR_ (wamong_fn (l := rl) (x := vm) (rD (rr)) (by omega)) rfl rfl rfl ?_
 rintro _ _ ⟨rfl, rfl⟩
 simp only [List.nil_append]
 try refine gR ?_
 refine CT.cut (α := Unit) (fun _ => [(0, ptr wb), (2, vS sc), (4, .pointer (some ⟨b4, 0, none⟩)), (7, .int .i64 i), (8, .pointer (some ⟨b8, 0, none⟩)), (9, vS K), (97, .bool (!(decide (vn ∉ nl) && !anyS rl vm)))]) (fun _ => wk wb e9 t9 a3 c3 g3 ++ (Cs b8 111 [vS vn, .int .i32 vm] :: Cs b4 109 [vS nm, .slice va vl.length vc, .bool ali, .slice ra rl.length rc, .slice na nl.length nc] :: R)) ?_ (fun _ => ?_)
 ·rw [decide_not]
  cases hca : decide (vn ∈ nl)
  all_goals cases hcb : anyS rl vm
  all_goals try refine gL ?_
  all_goals exact AtQ.cut () ⟨rfl, rfl, rfl, rfl, rfl, rfl, rfl, trivial⟩ (fun _ h => h)
 refine A0 ?_
 simp only [List.cons_append, List.nil_append]
 skip
 refine CT.cut (α := Int × Txt) (fun s => [(0, ptr wb), (2, vS sc), (4, .pointer (some ⟨b4, 0, none⟩)), (7, .int .i64 i), (8, .pointer (some ⟨b8, 0, none⟩)), (9, vS K)]) (fun s => Pu (WS (bnd r7 fun g => must (decide (vn ∉ nl) && !anyS rl vm) 63 K (.ok g)) s.1 s.2 g3) :: (wk wb s.1 s.2 a3 c3 g3 ++ (Cs b8 111 [vS vn, .int .i32 vm] :: Cs b4 109 [vS nm, .slice va vl.length vc, .bool ali, .slice ra rl.length rc, .slice na nl.length nc] :: R))) ?_ (fun s => ?_)
 ·cases hcc : decide (vn ∉ nl) && !anyS rl vm
  ·try refine gL ?_
   refine RT.call T rfl fR_ (wrong_fn (wb := wb) (err := 63) (tx := K) (a := a3) (c := c3) (g := g3) h7 (by decide)) rfl rfl rfl ?_
   rintro _ _ ⟨rfl, e9, t9, rfl, h9⟩
   simp only [List.cons_append, List.nil_append]
   try refine gL ?_
   exact AtQ.cut (e9, t9) ⟨rfl, rfl, rfl, rfl, rfl, rfl, trivial⟩ (fun _ h => Sat.pu_in (by dsimp only; exact h9.mf (p := fun _ => false) h7 rfl) h)
  ·try refine gL ?_
   exact AtQ.cut (_, _) ⟨rfl, rfl, rfl, rfl, rfl, rfl, trivial⟩ (fun _ h => Sat.pu_in (by dsimp only; exact h7.mt (p := fun _ => true) rfl) h)
 obtain ⟨e9, t9⟩ := s
 refine A0 ?_
 refine CT.pu fun h8 => ?_
 dsimp only at h8 ⊢
 simp only [List.cons_append, List.nil_append]
 generalize hr8 : (bnd r7 fun g => must (decide (vn ∉ nl) && !anyS rl vm) 63 K (.ok g)) = r8 at h8
 clear h7
 repeat' (first|refine gS ?_|(refine CT.id_ ?_;first|refine CT.seqN 21 rfl ?_|refine CT.region ?_)|fail)
 refine CT.cut (α := Int × Txt) (fun _ => [(0, ptr wb), (2, vS sc), (4, .pointer (some ⟨b4, 0, none⟩)), (7, .int .i64 i)]) (fun s => Pu (WS (bnd r8 fun g => must (ali || decide (∀ o ∈ vl.take i, o.num ≠ vm)) 66 K (.ok g)) s.1 s.2 g3) :: (wk wb s.1 s.2 a3 c3 g3 ++ (Cs b8 111 [vS vn, .int .i32 vm] :: Cs b4 109 [vS nm, .slice va vl.length vc, .bool ali, .slice ra rl.length rc, .slice na nl.length nc] :: R))) ?_ (fun s => ?_)
 ·refine CT.block ?_
  cases hali : ali
  ·refine CT.loop (α := Nat × Int × Txt) (fun s => [(0, ptr wb), (2, vS sc), (4, .pointer (some ⟨b4, 0, none⟩)), (7, .int .i64 i), (8, .pointer (some ⟨b8, 0, none⟩)), (9, vS K), (12, .int .i64 s.1)]) (fun s => Pu (s.1 ≤ i ∧ WS (bnd r8 fun g => must (false || decide (∀ o ∈ vl.take s.1, o.num ≠ vm)) 66 K (.ok g)) s.2.1 s.2.2 g3) :: (wk wb s.2.1 s.2.2 a3 c3 g3 ++ (Cs b8 111 [vS vn, .int .i32 vm] :: Cs b4 109 [vS nm, .slice va vl.length vc, .bool false, .slice ra rl.length rc, .slice na nl.length nc] :: R))) (fun s => i - s.1) (0, e9, t9)
    ⟨rfl, rfl, rfl, rfl, rfl, rfl, rfl, trivial⟩ (fun _ h => Sat.pu_in ⟨Nat.zero_le _, by dsimp only; rw [List.take_zero]; exact h8.mt (p := fun _ => false || decide (∀ o ∈ ([] : List EValT), o.num ≠ vm)) (by simp)⟩ h) (fun s => CT.pu fun hh => ?_)
   obtain ⟨k, e2, t2⟩ := s
   obtain ⟨hk, h9⟩ := hh
   dsimp only at hk h9 ⊢
   simp only [List.cons_append, List.nil_append]
   repeat' (first|refine gL ?_|(refine gv ?_;(refine⟨fun hc=>?_,fun hc=>?_⟩<;>first|(exfalso;omega)|skip))|fail)
   ·obtain ⟨x, hx⟩ : ∃ x, vl[k]? = some x := ⟨_, List.getElem?_eq_getElem (by omega)⟩
    have kst : ∀ {q : Bool} {ah : List EValT}, ah = vl.take (k + 1) → decide (x.num ≠ vm) = q → bnd (bnd r8 fun g => must (false || decide (∀ o ∈ vl.take k, o.num ≠ vm)) 66 K (.ok g)) (fun g => must q 66 K (.ok g)) = bnd r8 fun g => must (false || decide (∀ o ∈ ah, o.num ≠ vm)) 66 K (.ok g) := fun hah hq => by
     subst hah
     rw [step_and, ← hq, val_snoc hx]
     rfl
    ((refine RT.ix T (j := (k) * 2) rfl rfl rfl (rD (rv)) (by omega) (by omega) (by omega) rfl rfl ?_); (refine RT.faA T rfl rfl rfl rfl ?_); (refine RT.ldr (u := .int .i32 x.num) T rfl (rD (rv)) (by rw [flat_get (f := EValT.cells) (z := 2) (fun _ => rfl) hx (by decide)]; rfl) rfl rfl rfl ?_))
    repeat' (first|refine gL ?_|(refine gv ?_;first|(refine⟨fun hc=>?_,fun hc=>?_⟩<;>first|(exfalso;omega)|skip)|refine gk ?_)|fail)
    ·replace kst := kst rfl (decide_eq_false (by omega))
     refine RT.call T rfl fR_ (wrong_fn (wb := wb) (err := 66) (tx := K) (a := a3) (c := c3) (g := g3) h9 (by decide)) rfl rfl rfl ?_
     rintro _ _ ⟨rfl, e3, t3, rfl, h10⟩
     simp only [List.cons_append, List.nil_append]
     repeat' (first|refine gL ?_|(refine gv ?_;refine gk ?_)|fail)
     exact AtQ.loop (k + 1, e3, t3) ⟨rfl, rfl, rfl, rfl, rfl, rfl, rfl, trivial⟩ (fun _ h => Sat.pu_in ⟨by dsimp only; omega, by dsimp only; rw [← kst]; exact h10.mf (p := fun _ => false) h9 rfl⟩ h) (by dsimp only; omega)
    ·replace kst := kst rfl (decide_eq_true (by omega))
     exact AtQ.loop (k + 1, e2, t2) ⟨rfl, rfl, rfl, rfl, rfl, rfl, rfl, trivial⟩ (fun _ h => Sat.pu_in ⟨by dsimp only; omega, by dsimp only; rw [← kst]; exact h9.mt (p := fun _ => true) rfl⟩ h) (by dsimp only; omega)
   ·obtain rfl : k = i := by omega
    exact AtQ.cut (e2, t2) ⟨rfl, rfl, rfl, rfl, trivial⟩ (fun _ h => Sat.pu_in (by dsimp only; exact h9) h)
  ·repeat' (first|refine gS ?_|(refine gv ?_;(refine⟨fun hc=>?_,fun hc=>?_⟩<;>first|(exfalso;omega)|skip))|(refine CT.id_ ?_;refine CT.loop0 ?_)|refine gc ?_|fail)
   all_goals exact AtQ.cut (e9, t9) ⟨rfl, rfl, rfl, rfl, trivial⟩ (fun _ h => Sat.pu_in (by dsimp only; exact h8.mt (p := fun _ => true) rfl) h)
 obtain ⟨e9, t9⟩ := s
 refine AtQ.pu fun h9 => ?_
 dsimp only at h9 ⊢
 simp only [List.cons_append, List.nil_append]
 rw [← hr8, ← hr7] at h9
 repeat' (first|refine gL ?_|(refine gv ?_;refine gk ?_)|fail)
 exact AtQ.loop (i + 1, e9, t9, a3, c3, g3) ⟨rfl, rfl, rfl, rfl, trivial⟩ (fun _ h => Sat.pu_in ⟨by dsimp only; omega, hb3, by dsimp only; omega, by
  dsimp only
  rw [hstep]
  simp only [bnd_bnd, bnd_must, bnd_ok] at h9 ⊢
  exact h9⟩ (by dsimp only; exact h.frd (Ps := [_, _, _]) (Qs := [_]) fR_)) (by dsimp only; omega)
end Go.Proofs.YtdemnhdoadjhhaaGreatDoor
end
section
namespace Go.Proofs.YtdemnhdoadjhhaaGreatDoor
open Go.Sk
set_option maxRecDepth 100000
theorem bnd_id {r : Rs} : bnd r .ok = r := by cases r <;> rfl
theorem fields_one {ns : List Txt} {rs : List SpanT} {no : Nat} {J : Txt} {ah : List FieldT} {f : FieldT} {g : List Txt} : fieldsR ns rs no J ah [f] g = fieldR ns rs no J ah f g := by
 rw [fieldsR]
 have e : fieldsR ns rs no J (ah ++ [f]) [] = .ok := by funext g; cases ah <;> rfl
 rw [e, bnd_id]
theorem ones_app {fs : List FieldT} {J : Txt} : ∀ {a b : List Txt} {j : Nat} {g : List Txt}, oneofsR fs J j (a ++ b) g = bnd (oneofsR fs J j a g) (oneofsR fs J (j + a.length) b)
 | [], b, j, g => rfl
 | o :: a, b, j, g => by
  rw [List.cons_append, oneofsR, oneofsR, bnd_bnd]
  congr 1
  funext g
  rw [bnd_must, ones_app]
  rw [show j + (o :: a).length = j + 1 + a.length by simp; omega]
theorem ones_one {fs : List FieldT} {J o : Txt} {i : Nat} {g : List Txt} : oneofsR fs J i [o] g = bnd (giveR o (joinL [J, o]) g) fun g => must (decide (∃ f ∈ fs, f.oneof = (i : Int) + 1)) 64 (joinL [J, o]) (.ok g) := rfl
theorem msgsR_nil {sc : Txt} {d : Nat} : msgsR [] sc d = .ok := by funext g; rw [msgsR]
theorem msgsR_cons {m : MsgT} {l : List MsgT} {sc : Txt} {d : Nat} {g : List Txt} : msgsR (m :: l) sc d g = bnd (msgR m sc d g) fun g => msgsR l sc d g := by rw [msgsR]
theorem msgs_app {sc : Txt} {d : Nat} : ∀ {a b : List MsgT} {g : List Txt}, msgsR (a ++ b) sc d g = bnd (msgsR a sc d g) (msgsR b sc d)
 | [], b, g => by rw [List.nil_append, msgsR_nil]; rfl
 | m :: a, b, g => by
  rw [List.cons_append, msgsR_cons, msgsR_cons, bnd_bnd]
  congr 1
  funext g
  rw [msgs_app]
theorem msgs_one {sc : Txt} {d : Nat} {m : MsgT} {g : List Txt} : msgsR [m] sc d g = msgR m sc d g := by
 rw [msgsR_cons, msgsR_nil, bnd_id]
theorem enums_ap2 {sc : Txt} : ∀ {a b : List EnumT} {g : List Txt}, enumsR sc (a ++ b) g = bnd (enumsR sc a g) (enumsR sc b)
 | [], b, g => rfl
 | m :: a, b, g => by
  rw [List.cons_append, enumsR, enumsR, bnd_bnd]
  congr 1
  funext g
  rw [enums_ap2]
theorem enums_one {sc : Txt} {m : EnumT} {g : List Txt} : enumsR sc [m] g = enumR m sc g := by
 rw [enumsR]
 have e : enumsR sc [] = .ok := rfl
 rw [e, bnd_id]
theorem sum_take {α : Type} {f : α → Nat} {l : List α} {i : Nat} : ((l.take i).map f).sum ≤ (l.map f).sum := by
 have h : ((l.take i ++ l.drop i).map f).sum = (l.map f).sum := by rw [List.take_append_drop]
 rw [List.map_append, List.sum_append] at h
 omega
theorem sum_one {α : Type} {f : α → Nat} {l : List α} {i : Nat} {x : α} (hx : l[i]? = some x) : ((l.take (i + 1)).map f).sum = ((l.take i).map f).sum + f x := by
 rw [List.take_add_one, hx]
 simp
theorem WS.must0 {r : Rs} {p : Bool} {err e : Int} {tx t : Txt} {g : List Txt} (h : WS (bnd r fun g => must p err tx (.ok g)) e t g) (he : e = 0) (hk : err ≠ 0) : p = true := by
 cases p with
 | true => rfl
 | false =>
  cases r with
  | error x => exact absurd (h.2.1.symm.trans he) h.1
  | ok g' => exact absurd (h.2.1.symm.trans he) hk
attribute [local irreducible] Cs Own Ex Pu Yld RT LJ QJ AtQ CT Rd QSp Sp FinQ Then LoopQ CutQ DT TakeQ EffQ
variable {B : World}
set_option maxHeartbeats 32000000 in
theorem wmsg_fn (d : Nat) : ∀ {R : List HP} {wb : Nat} {e : Int} {t : Txt} {a : Option Addr} {c : Nat} {g : List Txt} {r : Rs} {m : MsgT} {sc : Txt} {ah : Int} {deep : Nat}, m.deep ≤ d → WS r e t g → BL g → g.length + cntM m ≤ 1000000000 → m.In (Rd B R) → m.Ok → m.Sm → m.Nm → m.Ful ah → Byt sc → (sc.length : Int) ≤ ah → deep ≤ 16 →
  Sp B Tryz.prog 52 [ptr wb, .agg m.cells.toArray, vS sc, .int .i64 deep] R (wk wb e t a c g)
   (fun v H' => v = .tuple #[] ∧ ∃ e' t' a' c' g', H' = wk wb e' t' a' c' g' ∧ g'.length ≤ g.length + cntM m ∧ BL g' ∧ WS (bnd r (msgR m sc deep)) e' t' g') := by
 induction d using Nat.strongRecOn with | ind d ih => ?_
 intro R wb e t a c g r m sc ah deep hd hr hb hg hin hok hsm hnm hful hs hsa hdp
 obtain ⟨nm, ⟨fa, fc, fs⟩, ⟨oa, oc, os⟩, ma, mc, msgs, ⟨ea, ec, es⟩, ⟨ra, rc, rs⟩, ⟨na, nc, ns⟩⟩ := m
 unfold MsgT.In at hin
 unfold MsgT.Ok at hok
 unfold MsgT.Sm at hsm
 unfold MsgT.Nm at hnm
 unfold MsgT.deep at hd
 unfold MsgT.Ful at hful
 unfold cntM at hg ⊢
 obtain ⟨rf, ro, rm, re, re2, rr, rn, rm2⟩ := hin
 obtain ⟨⟨ho1, _⟩, ⟨_, of_⟩, ⟨_, oo⟩, _, ⟨_, oe⟩, _, ⟨_, on⟩, om⟩ := hok
 obtain ⟨s1, s2, s3, s4, s5, se, s6, sm⟩ := hsm
 obtain ⟨hm1, hmf, hmo, hmn, hme, hmm⟩ := hnm
 obtain ⟨hf1, hf2⟩ := hful
 dsimp only at rf ro rm re re2 rr rn of_ oo oe on s1 s2 s3 s4 s5 se s6 hmf hmo hmn hme hg ⊢
 have hnb : BL ns := fun y hy => (on y hy).1
 have hjl := @j2_len' sc nm
 have hjb := j2_byt hs ho1
 have hmr : ∀ g, msgR (.mk nm ⟨fa, fc, fs⟩ ⟨oa, oc, os⟩ ma mc msgs ⟨ea, ec, es⟩ ⟨ra, rc, rs⟩ ⟨na, nc, ns⟩) sc deep g = bnd (giveR nm (joinL [sc, nm]) g) fun g =>
   Go.Proofs.YtdemnhdoadjhhaaGreatDoor.must (decide (deep < 16) && decide (fs.length ≤ 1000)) 68 (joinL [sc, nm]) <| opt (spansF 1 536870911 (joinL [sc, nm]) [] rs) <| opt (namesF (joinL [sc, nm]) [] ns) <|
   bnd (fieldsR ns rs os.length (joinL [sc, nm]) [] fs g) fun g => bnd (oneofsR fs (joinL [sc, nm]) 0 os g) fun g => bnd (msgsR msgs (joinL [sc, nm]) (deep + 1) g) fun g => enumsR (joinL [sc, nm]) es g := fun g => by rw [msgR]
 have hall : ∀ {e' : Int} {t' : Txt} {g' : List Txt}, WS (bnd (bnd (bnd (bnd (bnd (bnd (bnd (bnd r (giveR nm (joinL [sc, nm]))) fun g => must (decide (deep < 16) && decide (fs.length ≤ 1000)) 68 (joinL [sc, nm]) (.ok g)) fun g => opt (spansF 1 536870911 (joinL [sc, nm]) [] rs) (.ok g)) fun g => opt (namesF (joinL [sc, nm]) [] ns) (.ok g)) (fieldsR ns rs os.length (joinL [sc, nm]) [] fs)) (oneofsR fs (joinL [sc, nm]) 0 os)) (msgsR msgs (joinL [sc, nm]) (deep + 1))) (enumsR (joinL [sc, nm]) es)) e' t' g' →
   WS (bnd r (msgR (.mk nm ⟨fa, fc, fs⟩ ⟨oa, oc, os⟩ ma mc msgs ⟨ea, ec, es⟩ ⟨ra, rc, rs⟩ ⟨na, nc, ns⟩) sc deep)) e' t' g' := fun h => by
  have e : msgR (.mk nm ⟨fa, fc, fs⟩ ⟨oa, oc, os⟩ ma mc msgs ⟨ea, ec, es⟩ ⟨ra, rc, rs⟩ ⟨na, nc, ns⟩) sc deep = _ := funext hmr
  rw [e]
  simp only [bnd_bnd, bnd_must, bnd_opt, bnd_ok] at h
  exact h
 clear hmr
 generalize bnd r (msgR (.mk nm ⟨fa, fc, fs⟩ ⟨oa, oc, os⟩ ma mc msgs ⟨ea, ec, es⟩ ⟨ra, rc, rs⟩ ⟨na, nc, ns⟩) sc deep) = rend at hall ⊢
 dsimp only [MsgT.cells, Rw.v, MsgT.nm, MsgT.fields, MsgT.oneofs, MsgT.ma, MsgT.mc, MsgT.msgs, MsgT.enums, MsgT.res, MsgT.names]
 refine Sp.body Tryz.func52 rfl Tryz.ntmps52 (by simp) ?_
 simp only [argE, List.cons_append, List.nil_append, Nat.zero_add, Nat.reduceAdd]
 repeat' (first|refine gL ?_|(refine gb ?_;intro b)|fail)
 revert b
 intro b5
 (refine RT.bs T (l := strs [sc,  nm]) rfl rfl rfl rfl rfl rfl rfl (fun a9 c9 h9 => ?_); (refine RT.call T rfl fR_ (rjoin_fn (ls := [sc,  nm]) (Own.rd (by ((repeat constructor);done)) rfl h9) rfl (b2  hs  ho1) ( s2l (by omega) hm1)) rfl rfl rfl ?_; rintro _ _ ⟨rfl, rfl⟩; try simp only [List.cons_append, List.nil_append]); refine RT.weak (fun w h => h.tail) ?_)
 generalize joinL [sc, nm] = J at *
 try refine gL ?_
 refine RT.call T rfl fR_ (wgive_fn (wb := wb) (a := a) (c := c) (full := J) (nm := nm) hr hb (by omega) ho1 hjb hm1 (by omega)) rfl rfl rfl ?_
 rintro _ _ ⟨rfl, e9, t9, a1, c1, rfl, h1⟩
 simp only [List.cons_append, List.nil_append]
 have hg1 : (g ++ [J]).length = g.length + 1 := by simp
 have hb1 : BL (g ++ [J]) := fun y hy => (List.mem_append.1 hy).elim (hb y) (fun h => by rw [List.mem_singleton.1 h]; exact hjb)
 generalize g ++ [J] = g1 at *
 generalize (bnd r (giveR nm J)) = r1 at h1 hall
 try refine gR ?_
 refine CT.cut (α := Unit) (fun _ => [(0, ptr wb), (3, .int .i64 deep), (5, .pointer (some ⟨b5, 0, none⟩)), (8, vS J), (30, .bool (!(decide (deep < 16) && decide (fs.length ≤ 1000))))]) (fun _ => wk wb e9 t9 a1 c1 g1 ++ (Cs b5 72 [vS nm, .slice fa fs.length fc, .slice oa os.length oc, .slice ma msgs.length mc, .slice ea es.length ec, .slice ra rs.length rc, .slice na ns.length nc] :: R)) ?_ (fun _ => ?_)
 ·repeat' (first|refine gL ?_|(refine gv ?_;(refine⟨fun hc=>?_,fun hc=>?_⟩<;>first|(exfalso;omega)|skip))|fail)
  all_goals exact AtQ.cut () ⟨rfl, rfl, rfl, rfl, congrArg (fun z => some (Value.bool z)) (by rw [← Bool.decide_and]; first | (rw [decide_eq_true (by omega)]; rfl) | (rw [decide_eq_false (by omega)]; rfl)), trivial⟩ (fun _ h => h)
 refine A0 ?_
 simp only [List.cons_append, List.nil_append]
 skip
 refine CT.cut (α := Int × Txt) (fun s => [(0, ptr wb), (3, .int .i64 deep), (5, .pointer (some ⟨b5, 0, none⟩)), (8, vS J)]) (fun s => Pu (WS (bnd r1 fun g => must (decide (deep < 16) && decide (fs.length ≤ 1000)) 68 J (.ok g)) s.1 s.2 g1) :: (wk wb s.1 s.2 a1 c1 g1 ++ (Cs b5 72 [vS nm, .slice fa fs.length fc, .slice oa os.length oc, .slice ma msgs.length mc, .slice ea es.length ec, .slice ra rs.length rc, .slice na ns.length nc] :: R))) ?_ (fun s => ?_)
 ·cases hcc : decide (deep < 16) && decide (fs.length ≤ 1000)
  ·try refine gL ?_
   refine RT.call T rfl fR_ (wrong_fn (wb := wb) (err := 68) (tx := J) (a := a1) (c := c1) (g := g1) h1 (by decide)) rfl rfl rfl ?_
   rintro _ _ ⟨rfl, e9, t9, rfl, h9⟩
   simp only [List.cons_append, List.nil_append]
   try refine gL ?_
   exact AtQ.cut (e9, t9) ⟨rfl, rfl, rfl, rfl, trivial⟩ (fun _ h => Sat.pu_in (by dsimp only; exact h9.mf (p := fun _ => false) h1 rfl) h)
  ·try refine gL ?_
   exact AtQ.cut (_, _) ⟨rfl, rfl, rfl, rfl, trivial⟩ (fun _ h => Sat.pu_in (by dsimp only; exact h1.mt (p := fun _ => true) rfl) h)
 obtain ⟨e9, t9⟩ := s
 refine A0 ?_
 refine CT.pu fun h3 => ?_
 dsimp only at h3 ⊢
 simp only [List.cons_append, List.nil_append]
 have hp68 := fun (he : e9 = 0) => h3.must0 he (by decide)
 generalize (bnd r1 fun g => must (decide (deep < 16) && decide (fs.length ≤ 1000)) 68 J (.ok g)) = r3 at h3 hall
 clear h1
 try refine gL ?_
 refine RT.call T rfl fR_ (over_fn (wb := wb) (a := a1) (c := c1) (g := g1)) rfl rfl rfl ?_
 rintro _ _ ⟨rfl, rfl⟩
 simp only [List.cons_append, List.nil_append]
 by_cases he : e9 = 0
 rotate_left
 ·rw [decide_eq_true he]
  try refine gL ?_
  exact AtQ.fin0 Tryz.results52 (H' := wk wb e9 t9 a1 c1 g1) ⟨rfl, e9, t9, a1, c1, g1, rfl, by omega, hb1, hall (by rw [h3.over he, h3.over he, h3.over he, h3.over he, h3.over he, h3.over he]; exact h3)⟩ (fun _ h => h.frd (Ps := [_, _]) (Qs := [_]) fR_) _ (by first | exact .inl rfl | exact .inr rfl)
 rw [decide_eq_false (fun h => h he)]
 have hd16 : deep < 16 := by
  have h := hp68 he
  rw [← Bool.decide_and] at h
  exact (of_decide_eq_true h).1
 clear hp68
 try refine gL ?_
 refine RT.call T rfl fR_ (wspans_fn (wb := wb) (tx := J) (a := a1) (c := c1) h3 (rD (rr)) (by omega)) rfl rfl rfl ?_
 rintro _ _ ⟨rfl, e8, t8, rfl, h4⟩
 simp only [List.cons_append, List.nil_append]
 generalize (bnd r3 fun g => opt (spansF 1 536870911 J [] rs) (.ok g)) = r4 at h4 hall
 try refine gL ?_
 refine RT.call T rfl fR_ (wnames_fn (wb := wb) (sc := J) (a := a1) (c := c1) h4 (rD (rn)) (by omega) hjb (by omega) hnb hmn) rfl rfl rfl ?_
 rintro _ _ ⟨rfl, e7, t7, rfl, h5⟩
 simp only [List.cons_append, List.nil_append]
 generalize (bnd r4 fun g => opt (namesF J [] ns) (.ok g)) = r5 at h5 hall
 clear h3 h4 he
 repeat' (first|refine gS ?_|(refine CT.id_ ?_;first|refine CT.seqN 9 rfl ?_|refine CT.region ?_)|fail)
 refine CT.cut (α := Int × Txt × Option Addr × Nat × List Txt) (fun _ => [(0, ptr wb), (3, .int .i64 deep), (5, .pointer (some ⟨b5, 0, none⟩)), (8, vS J)]) (fun s => Pu (BL s.2.2.2.2 ∧ s.2.2.2.2.length ≤ g.length + 1 + fs.length ∧ WS (bnd r5 (fieldsR ns rs os.length J [] fs)) s.1 s.2.1 s.2.2.2.2) :: (wk wb s.1 s.2.1 s.2.2.1 s.2.2.2.1 s.2.2.2.2 ++ (Cs b5 72 [vS nm, .slice fa fs.length fc, .slice oa os.length oc, .slice ma msgs.length mc, .slice ea es.length ec, .slice ra rs.length rc, .slice na ns.length nc] :: R))) ?_ (fun s => ?_)
 ·refine CT.block ?_
  refine CT.loop (α := Nat × Int × Txt × Option Addr × Nat × List Txt) (fun s => [(0, ptr wb), (3, .int .i64 deep), (5, .pointer (some ⟨b5, 0, none⟩)), (8, vS J), (9, .int .i64 s.1)])
   (fun s => Pu (s.1 ≤ fs.length ∧ BL s.2.2.2.2.2 ∧ s.2.2.2.2.2.length ≤ g.length + 1 + (fs.take s.1).length ∧ WS (bnd r5 (fieldsR ns rs os.length J [] (fs.take s.1))) s.2.1 s.2.2.1 s.2.2.2.2.2) :: (wk wb s.2.1 s.2.2.1 s.2.2.2.1 s.2.2.2.2.1 s.2.2.2.2.2 ++ (Cs b5 72 [vS nm, .slice fa fs.length fc, .slice oa os.length oc, .slice ma msgs.length mc, .slice ea es.length ec, .slice ra rs.length rc, .slice na ns.length nc] :: R))) (fun s => fs.length - s.1) (0, _, _, _, _, _)
   ⟨rfl, rfl, rfl, rfl, rfl, trivial⟩ (fun _ h => Sat.pu_in ⟨Nat.zero_le _, hb1, by dsimp only; rw [List.take_zero]; exact (by simp; omega), by dsimp only; rw [List.take_zero]; skip; cases r5 <;> exact h5⟩ h) (fun s => CT.pu fun hh => ?_)
  obtain ⟨i, e1, t1, a2, c2, g2⟩ := s
  obtain ⟨hi, hb2, hgl2, h6⟩ := hh
  dsimp only at hi hb2 hgl2 h6 ⊢
  simp only [List.cons_append, List.nil_append]
  repeat' (first|refine gL ?_|(refine gv ?_;(refine⟨fun hc=>?_,fun hc=>?_⟩<;>first|(exfalso;omega)|skip))|fail)
  rotate_left
  ·exact AtQ.cut (e1, t1, a2, c2, g2) ⟨rfl, rfl, rfl, rfl, trivial⟩ (fun _ h => Sat.pu_in ⟨hb2, by rw [List.take_of_length_le (by omega)] at hgl2; exact hgl2, by rw [List.take_of_length_le (by omega)] at h6; exact h6⟩ h)
  refine RT.call T rfl fR_ (over_fn (wb := wb) (a := a2) (c := c2) (g := g2)) rfl rfl rfl ?_
  rintro _ _ ⟨rfl, rfl⟩
  simp only [List.cons_append, List.nil_append]
  have hsp : fs = fs.take i ++ fs.drop i := (List.take_append_drop i fs).symm
  by_cases he : e1 = 0
  rotate_left
  ·rw [decide_eq_true he]
   have hov : bnd r5 (fieldsR ns rs os.length J [] fs) = bnd r5 (fieldsR ns rs os.length J [] (fs.take i)) := by
    have ev : fieldsR ns rs os.length J [] fs = fun g => bnd (fieldsR ns rs os.length J [] (fs.take i) g) (fieldsR ns rs os.length J ([] ++ fs.take i) (fs.drop i)) := by funext g; rw [← fields_app, List.take_append_drop]
    rw [ev, ← bnd_bnd, h6.over he]
   have hcn : (fs.take i).length ≤ fs.length := by
    rw [List.length_take]; omega
   try refine gL ?_
   exact AtQ.cut (e1, t1, a2, c2, g2) ⟨rfl, rfl, rfl, rfl, trivial⟩ (fun _ h => Sat.pu_in ⟨hb2, by dsimp only; omega, by dsimp only; rw [hov]; exact h6⟩ h)
  rw [decide_eq_false (fun h => h he)]
  obtain ⟨x, hx⟩ : ∃ x, fs[i]? = some x := ⟨_, List.getElem?_eq_getElem (by omega)⟩
  have hxm := List.mem_of_getElem? hx
  have hstep : bnd r5 (fieldsR ns rs os.length J [] (fs.take (i + 1))) = bnd (bnd r5 (fieldsR ns rs os.length J [] (fs.take i))) (fieldR ns rs os.length J (fs.take i) x) := by
   rw [bnd_bnd, ← len_snoc hx]
   congr 1
   funext g
   rw [fields_app, List.nil_append]
   congr 1
   funext g
   exact fields_one
  have hcn : (fs.take (i + 1)).length = (fs.take i).length + 1 ∧ (fs.take (i + 1)).length ≤ fs.length := by
   rw [List.length_take, List.length_take]; omega
  generalize (bnd r5 (fieldsR ns rs os.length J [] (fs.take i))) = r6 at h6 hstep
  try refine gM ?_
  refine RT.call T rfl fR_ (wfield_fn (wb := wb) (a := a2) (c := c2) (full := J) (no := os.length) (f := x) h6 hb2 (by omega) (rD (rf)) (rD (rr)) (rD (rn)) (by omega) (by omega) (by omega) hx of_ hmf hnb hjb (by omega)) rfl rfl rfl ?_
  rintro _ _ ⟨rfl, e9, t9, a3, c3, rfl, h7⟩
  simp only [List.cons_append, List.nil_append]
  have hb3 : BL (g2 ++ [joinL [J, x.nm]]) := fun y hy => (List.mem_append.1 hy).elim (hb2 y) (fun h => by rw [List.mem_singleton.1 h]; exact j2_byt hjb (of_ x hxm).1.1)
  have hg3 : (g2 ++ [joinL [J, x.nm]]).length = g2.length + 1 := by simp
  generalize g2 ++ [joinL [J, x.nm]] = g3 at *
  repeat' (first|refine gL ?_|(refine gv ?_;refine gk ?_)|fail)
  exact AtQ.loop (i + 1, e9, t9, a3, c3, g3) ⟨rfl, rfl, rfl, rfl, rfl, trivial⟩ (fun _ h => Sat.pu_in ⟨by dsimp only; omega, hb3, by dsimp only; omega, by dsimp only; rw [hstep]; exact h7⟩ h) (by dsimp only; omega)
 obtain ⟨e9, t9, a9, c9, g9⟩ := s
 refine A0 ?_
 refine CT.pu fun hh => ?_
 obtain ⟨hbA, hglA, hA⟩ := hh
 dsimp only at hbA hglA hA ⊢
 simp only [List.cons_append, List.nil_append]
 generalize (bnd r5 (fieldsR ns rs os.length J [] fs)) = r6 at hA hall
 clear h5
 repeat' (first|refine gS ?_|(refine CT.id_ ?_;first|refine CT.seqN 13 rfl ?_|refine CT.region ?_)|fail)
 refine CT.cut (α := Int × Txt × Option Addr × Nat × List Txt) (fun _ => [(0, ptr wb), (3, .int .i64 deep), (5, .pointer (some ⟨b5, 0, none⟩)), (8, vS J)]) (fun s => Pu (BL s.2.2.2.2 ∧ s.2.2.2.2.length ≤ g.length + 1 + fs.length + os.length ∧ WS (bnd r6 (oneofsR fs J 0 os)) s.1 s.2.1 s.2.2.2.2) :: (wk wb s.1 s.2.1 s.2.2.1 s.2.2.2.1 s.2.2.2.2 ++ (Cs b5 72 [vS nm, .slice fa fs.length fc, .slice oa os.length oc, .slice ma msgs.length mc, .slice ea es.length ec, .slice ra rs.length rc, .slice na ns.length nc] :: R))) ?_ (fun s => ?_)
 ·refine CT.block ?_
  refine CT.loop (α := Nat × Int × Txt × Option Addr × Nat × List Txt) (fun s => [(0, ptr wb), (3, .int .i64 deep), (5, .pointer (some ⟨b5, 0, none⟩)), (8, vS J), (10, .int .i64 s.1)])
   (fun s => Pu (s.1 ≤ os.length ∧ BL s.2.2.2.2.2 ∧ s.2.2.2.2.2.length ≤ g.length + 1 + fs.length + (os.take s.1).length ∧ WS (bnd r6 (oneofsR fs J 0 (os.take s.1))) s.2.1 s.2.2.1 s.2.2.2.2.2) :: (wk wb s.2.1 s.2.2.1 s.2.2.2.1 s.2.2.2.2.1 s.2.2.2.2.2 ++ (Cs b5 72 [vS nm, .slice fa fs.length fc, .slice oa os.length oc, .slice ma msgs.length mc, .slice ea es.length ec, .slice ra rs.length rc, .slice na ns.length nc] :: R))) (fun s => os.length - s.1) (0, _, _, _, _, _)
   ⟨rfl, rfl, rfl, rfl, rfl, trivial⟩ (fun _ h => Sat.pu_in ⟨Nat.zero_le _, hbA, by dsimp only; rw [List.take_zero]; exact (by simp; omega), by dsimp only; rw [List.take_zero]; skip; cases r6 <;> exact hA⟩ h) (fun s => CT.pu fun hh => ?_)
  obtain ⟨i, e1, t1, a2, c2, g2⟩ := s
  obtain ⟨hi, hb2, hgl2, h6⟩ := hh
  dsimp only at hi hb2 hgl2 h6 ⊢
  simp only [List.cons_append, List.nil_append]
  repeat' (first|refine gL ?_|(refine gv ?_;(refine⟨fun hc=>?_,fun hc=>?_⟩<;>first|(exfalso;omega)|skip))|fail)
  rotate_left
  ·exact AtQ.cut (e1, t1, a2, c2, g2) ⟨rfl, rfl, rfl, rfl, trivial⟩ (fun _ h => Sat.pu_in ⟨hb2, by rw [List.take_of_length_le (by omega)] at hgl2; exact hgl2, by rw [List.take_of_length_le (by omega)] at h6; exact h6⟩ h)
  refine RT.call T rfl fR_ (over_fn (wb := wb) (a := a2) (c := c2) (g := g2)) rfl rfl rfl ?_
  rintro _ _ ⟨rfl, rfl⟩
  simp only [List.cons_append, List.nil_append]
  have hsp : os = os.take i ++ os.drop i := (List.take_append_drop i os).symm
  by_cases he : e1 = 0
  rotate_left
  ·rw [decide_eq_true he]
   have hov : bnd r6 (oneofsR fs J 0 os) = bnd r6 (oneofsR fs J 0 (os.take i)) := by
    have ev : oneofsR fs J 0 os = fun g => bnd (oneofsR fs J 0 (os.take i) g) (oneofsR fs J (0 + (os.take i).length) (os.drop i)) := by funext g; rw [← ones_app, List.take_append_drop]
    rw [ev, ← bnd_bnd, h6.over he]
   have hcn : (os.take i).length ≤ os.length := by
    rw [List.length_take]; omega
   try refine gL ?_
   exact AtQ.cut (e1, t1, a2, c2, g2) ⟨rfl, rfl, rfl, rfl, trivial⟩ (fun _ h => Sat.pu_in ⟨hb2, by dsimp only; omega, by dsimp only; rw [hov]; exact h6⟩ h)
  rw [decide_eq_false (fun h => h he)]
  obtain ⟨x, hx⟩ : ∃ x, os[i]? = some x := ⟨_, List.getElem?_eq_getElem (by omega)⟩
  have hxm := List.mem_of_getElem? hx
  have hstep : bnd r6 (oneofsR fs J 0 (os.take (i + 1))) = bnd (bnd r6 (oneofsR fs J 0 (os.take i))) (fun g => bnd (giveR x (joinL [J, x]) g) fun g => must (decide (∃ f ∈ fs, f.oneof = (i : Int) + 1)) 64 (joinL [J, x]) (.ok g)) := by
   rw [bnd_bnd, ← len_snoc hx]
   congr 1
   funext g
   rw [ones_app]
   congr 1
   funext g
   rw [List.length_take, show 0 + min i os.length = i by omega]
   exact ones_one
  have hcn : (os.take (i + 1)).length = (os.take i).length + 1 ∧ (os.take (i + 1)).length ≤ os.length := by
   rw [List.length_take, List.length_take]; omega
  generalize (bnd r6 (oneofsR fs J 0 (os.take i))) = r66 at h6 hstep
  try refine gM ?_
  refine RT.call T rfl fR_ (woneof_fn (wb := wb) (a := a2) (c := c2) (full := J) (n := x) h6 hb2 (by omega) (rD (rf)) (rD (ro)) (by omega) (by omega) hx (oo x hxm).1 (hmo x hxm) hjb (by omega)) rfl rfl rfl ?_
  rintro _ _ ⟨rfl, e9, t9, a3, c3, rfl, h7⟩
  simp only [List.cons_append, List.nil_append]
  have hb3 : BL (g2 ++ [joinL [J, x]]) := fun y hy => (List.mem_append.1 hy).elim (hb2 y) (fun h => by rw [List.mem_singleton.1 h]; exact j2_byt hjb (oo x hxm).1)
  have hg3 : (g2 ++ [joinL [J, x]]).length = g2.length + 1 := by simp
  generalize g2 ++ [joinL [J, x]] = g3 at *
  repeat' (first|refine gL ?_|(refine gv ?_;refine gk ?_)|fail)
  exact AtQ.loop (i + 1, e9, t9, a3, c3, g3) ⟨rfl, rfl, rfl, rfl, rfl, trivial⟩ (fun _ h => Sat.pu_in ⟨by dsimp only; omega, hb3, by dsimp only; omega, by dsimp only; rw [hstep]; exact h7⟩ h) (by dsimp only; omega)
 obtain ⟨e9, t9, a9, c9, g9⟩ := s
 refine A0 ?_
 refine CT.pu fun hh => ?_
 obtain ⟨hbB, hglB, hB⟩ := hh
 dsimp only at hbB hglB hB ⊢
 simp only [List.cons_append, List.nil_append]
 generalize (bnd r6 (oneofsR fs J 0 os)) = r7 at hB hall
 clear hA
 repeat' (first|refine gS ?_|(refine CT.id_ ?_;first|refine CT.seqN 17 rfl ?_|refine CT.region ?_)|fail)
 refine CT.cut (α := Int × Txt × Option Addr × Nat × List Txt) (fun _ => [(0, ptr wb), (3, .int .i64 deep), (5, .pointer (some ⟨b5, 0, none⟩)), (8, vS J)]) (fun s => Pu (BL s.2.2.2.2 ∧ s.2.2.2.2.length ≤ g.length + 1 + fs.length + os.length + cntMs msgs ∧ WS (bnd r7 (msgsR msgs J (deep + 1))) s.1 s.2.1 s.2.2.2.2) :: (wk wb s.1 s.2.1 s.2.2.1 s.2.2.2.1 s.2.2.2.2 ++ (Cs b5 72 [vS nm, .slice fa fs.length fc, .slice oa os.length oc, .slice ma msgs.length mc, .slice ea es.length ec, .slice ra rs.length rc, .slice na ns.length nc] :: R))) ?_ (fun s => ?_)
 ·refine CT.block ?_
  refine CT.loop (α := Nat × Int × Txt × Option Addr × Nat × List Txt) (fun s => [(0, ptr wb), (3, .int .i64 deep), (5, .pointer (some ⟨b5, 0, none⟩)), (8, vS J), (11, .int .i64 s.1)])
   (fun s => Pu (s.1 ≤ msgs.length ∧ BL s.2.2.2.2.2 ∧ s.2.2.2.2.2.length ≤ g.length + 1 + fs.length + os.length + cntMs (msgs.take s.1) ∧ WS (bnd r7 (msgsR (msgs.take s.1) J (deep + 1))) s.2.1 s.2.2.1 s.2.2.2.2.2) :: (wk wb s.2.1 s.2.2.1 s.2.2.2.1 s.2.2.2.2.1 s.2.2.2.2.2 ++ (Cs b5 72 [vS nm, .slice fa fs.length fc, .slice oa os.length oc, .slice ma msgs.length mc, .slice ea es.length ec, .slice ra rs.length rc, .slice na ns.length nc] :: R))) (fun s => msgs.length - s.1) (0, _, _, _, _, _)
   ⟨rfl, rfl, rfl, rfl, rfl, trivial⟩ (fun _ h => Sat.pu_in ⟨Nat.zero_le _, hbB, by dsimp only; rw [List.take_zero]; unfold cntMs; omega, by dsimp only; rw [List.take_zero]; rw [msgsR_nil]; cases r7 <;> exact hB⟩ h) (fun s => CT.pu fun hh => ?_)
  obtain ⟨i, e1, t1, a2, c2, g2⟩ := s
  obtain ⟨hi, hb2, hgl2, h6⟩ := hh
  dsimp only at hi hb2 hgl2 h6 ⊢
  simp only [List.cons_append, List.nil_append]
  repeat' (first|refine gL ?_|(refine gv ?_;(refine⟨fun hc=>?_,fun hc=>?_⟩<;>first|(exfalso;omega)|skip))|fail)
  rotate_left
  ·exact AtQ.cut (e1, t1, a2, c2, g2) ⟨rfl, rfl, rfl, rfl, trivial⟩ (fun _ h => Sat.pu_in ⟨hb2, by rw [List.take_of_length_le (by omega)] at hgl2; exact hgl2, by rw [List.take_of_length_le (by omega)] at h6; exact h6⟩ h)
  refine RT.call T rfl fR_ (over_fn (wb := wb) (a := a2) (c := c2) (g := g2)) rfl rfl rfl ?_
  rintro _ _ ⟨rfl, rfl⟩
  simp only [List.cons_append, List.nil_append]
  have hsp : msgs = msgs.take i ++ msgs.drop i := (List.take_append_drop i msgs).symm
  by_cases he : e1 = 0
  rotate_left
  ·rw [decide_eq_true he]
   have hov : bnd r7 (msgsR msgs J (deep + 1)) = bnd r7 (msgsR (msgs.take i) J (deep + 1)) := by
    have ev : msgsR msgs J (deep + 1) = fun g => bnd (msgsR (msgs.take i) J (deep + 1) g) (msgsR (msgs.drop i) J (deep + 1)) := by funext g; rw [← msgs_app, List.take_append_drop]
    rw [ev, ← bnd_bnd, h6.over he]
   have hcn : cntMs (msgs.take i) ≤ cntMs msgs := by
    rw [cntMs_eq, cntMs_eq]; exact sum_take
   try refine gL ?_
   exact AtQ.cut (e1, t1, a2, c2, g2) ⟨rfl, rfl, rfl, rfl, trivial⟩ (fun _ h => Sat.pu_in ⟨hb2, by dsimp only; omega, by dsimp only; rw [hov]; exact h6⟩ h)
  rw [decide_eq_false (fun h => h he)]
  obtain ⟨x, hx⟩ : ∃ x, msgs[i]? = some x := ⟨_, List.getElem?_eq_getElem (by omega)⟩
  have hxm := List.mem_of_getElem? hx
  have hstep : bnd r7 (msgsR (msgs.take (i + 1)) J (deep + 1)) = bnd (bnd r7 (msgsR (msgs.take i) J (deep + 1))) (msgR x J (deep + 1)) := by
   rw [bnd_bnd, ← len_snoc hx]
   congr 1
   funext g
   rw [msgs_app]
   congr 1
   funext g
   exact msgs_one
  have hcn : cntMs (msgs.take (i + 1)) = cntMs (msgs.take i) + cntM x ∧ cntMs (msgs.take (i + 1)) ≤ cntMs msgs := by
   rw [cntMs_eq, cntMs_eq, cntMs_eq]; exact ⟨sum_one hx, sum_take⟩
  generalize (bnd r7 (msgsR (msgs.take i) J (deep + 1))) = r66 at h6 hstep
  have hmd := MsgT.deep_mem hxm
  try refine gL ?_
  refine RT.ix T (j := i * 7) rfl rfl rfl (rD (rm)) (by omega) (by omega) (by omega) rfl rfl ?_
  refine RT.ldra T rfl (rD (rm)) (l := x.cells) (flat_sub (f := MsgT.cells) (z := 7) (fun _ => rfl) msgs i _ hx) rfl rfl rfl rfl ?_
  repeat' (first|refine gL ?_|(refine gv ?_;refine gk ?_)|fail)
  refine RT.call T rfl fR_ (@ih x.deep (by omega) _ wb e1 t1 a2 c2 g2 r66 x J _ (deep + 1) (Nat.le_refl _) h6 hb2 (by omega) (MsgT.In.mono (fun _ _ _ _ _ h => (rD (h))) (MsgT.inL_mem rm2 hxm)) (MsgT.okL_mem om hxm) (MsgT.smL_mem sm hxm) (MsgT.nmL_mem hmm hxm) (MsgT.fulL_mem hf2 hxm) hjb (by omega) (by omega)) rfl rfl rfl ?_
  rintro _ _ ⟨rfl, e9, t9, a3, c3, g3, rfl, hg3, hb3, h7⟩
  simp only [List.cons_append, List.nil_append]
  repeat' (first|refine gL ?_|(refine gv ?_;refine gk ?_)|fail)
  exact AtQ.loop (i + 1, e9, t9, a3, c3, g3) ⟨rfl, rfl, rfl, rfl, rfl, trivial⟩ (fun _ h => Sat.pu_in ⟨by dsimp only; omega, hb3, by dsimp only; omega, by dsimp only; rw [hstep]; exact h7⟩ h) (by dsimp only; omega)
 obtain ⟨e9, t9, a9, c9, g9⟩ := s
 refine A0 ?_
 refine CT.pu fun hh => ?_
 obtain ⟨hbC, hglC, hC⟩ := hh
 dsimp only at hbC hglC hC ⊢
 simp only [List.cons_append, List.nil_append]
 generalize (bnd r7 (msgsR msgs J (deep + 1))) = r8 at hC hall
 clear hB
 repeat' (first|refine gS ?_|(refine CT.id_ ?_;first|refine CT.seqN 21 rfl ?_|refine CT.region ?_)|fail)
 refine CT.cut (α := Int × Txt × Option Addr × Nat × List Txt) (fun _ => [(0, ptr wb), (3, .int .i64 deep), (5, .pointer (some ⟨b5, 0, none⟩)), (8, vS J)]) (fun s => Pu (BL s.2.2.2.2 ∧ s.2.2.2.2.length ≤ g.length + 1 + fs.length + os.length + cntMs msgs + (es.map cntE).sum ∧ WS (bnd r8 (enumsR J es)) s.1 s.2.1 s.2.2.2.2) :: (wk wb s.1 s.2.1 s.2.2.1 s.2.2.2.1 s.2.2.2.2 ++ (Cs b5 72 [vS nm, .slice fa fs.length fc, .slice oa os.length oc, .slice ma msgs.length mc, .slice ea es.length ec, .slice ra rs.length rc, .slice na ns.length nc] :: R))) ?_ (fun s => ?_)
 ·refine CT.block ?_
  refine CT.loop (α := Nat × Int × Txt × Option Addr × Nat × List Txt) (fun s => [(0, ptr wb), (3, .int .i64 deep), (5, .pointer (some ⟨b5, 0, none⟩)), (8, vS J), (12, .int .i64 s.1)])
   (fun s => Pu (s.1 ≤ es.length ∧ BL s.2.2.2.2.2 ∧ s.2.2.2.2.2.length ≤ g.length + 1 + fs.length + os.length + cntMs msgs + ((es.take s.1).map cntE).sum ∧ WS (bnd r8 (enumsR J (es.take s.1))) s.2.1 s.2.2.1 s.2.2.2.2.2) :: (wk wb s.2.1 s.2.2.1 s.2.2.2.1 s.2.2.2.2.1 s.2.2.2.2.2 ++ (Cs b5 72 [vS nm, .slice fa fs.length fc, .slice oa os.length oc, .slice ma msgs.length mc, .slice ea es.length ec, .slice ra rs.length rc, .slice na ns.length nc] :: R))) (fun s => es.length - s.1) (0, _, _, _, _, _)
   ⟨rfl, rfl, rfl, rfl, rfl, trivial⟩ (fun _ h => Sat.pu_in ⟨Nat.zero_le _, hbC, by dsimp only; rw [List.take_zero]; simp; omega, by dsimp only; rw [List.take_zero]; skip; cases r8 <;> exact hC⟩ h) (fun s => CT.pu fun hh => ?_)
  obtain ⟨i, e1, t1, a2, c2, g2⟩ := s
  obtain ⟨hi, hb2, hgl2, h6⟩ := hh
  dsimp only at hi hb2 hgl2 h6 ⊢
  simp only [List.cons_append, List.nil_append]
  repeat' (first|refine gL ?_|(refine gv ?_;(refine⟨fun hc=>?_,fun hc=>?_⟩<;>first|(exfalso;omega)|skip))|fail)
  rotate_left
  ·exact AtQ.cut (e1, t1, a2, c2, g2) ⟨rfl, rfl, rfl, rfl, trivial⟩ (fun _ h => Sat.pu_in ⟨hb2, by rw [List.take_of_length_le (by omega)] at hgl2; exact hgl2, by rw [List.take_of_length_le (by omega)] at h6; exact h6⟩ h)
  refine RT.call T rfl fR_ (over_fn (wb := wb) (a := a2) (c := c2) (g := g2)) rfl rfl rfl ?_
  rintro _ _ ⟨rfl, rfl⟩
  simp only [List.cons_append, List.nil_append]
  have hsp : es = es.take i ++ es.drop i := (List.take_append_drop i es).symm
  by_cases he : e1 = 0
  rotate_left
  ·rw [decide_eq_true he]
   have hov : bnd r8 (enumsR J es) = bnd r8 (enumsR J (es.take i)) := by
    have ev : enumsR J es = fun g => bnd (enumsR J (es.take i) g) (enumsR J (es.drop i)) := by funext g; rw [← enums_ap2, List.take_append_drop]
    rw [ev, ← bnd_bnd, h6.over he]
   have hcn : ((es.take i).map cntE).sum ≤ (es.map cntE).sum := by
    exact sum_take
   try refine gL ?_
   exact AtQ.cut (e1, t1, a2, c2, g2) ⟨rfl, rfl, rfl, rfl, trivial⟩ (fun _ h => Sat.pu_in ⟨hb2, by dsimp only; omega, by dsimp only; rw [hov]; exact h6⟩ h)
  rw [decide_eq_false (fun h => h he)]
  obtain ⟨x, hx⟩ : ∃ x, es[i]? = some x := ⟨_, List.getElem?_eq_getElem (by omega)⟩
  have hxm := List.mem_of_getElem? hx
  have hstep : bnd r8 (enumsR J (es.take (i + 1))) = bnd (bnd r8 (enumsR J (es.take i))) (enumR x J) := by
   rw [bnd_bnd, ← len_snoc hx]
   congr 1
   funext g
   rw [enums_ap2]
   congr 1
   funext g
   exact enums_one
  have hcn : ((es.take (i + 1)).map cntE).sum = ((es.take i).map cntE).sum + cntE x ∧ ((es.take (i + 1)).map cntE).sum ≤ (es.map cntE).sum := by
   exact ⟨sum_one hx, sum_take⟩
  generalize (bnd r8 (enumsR J (es.take i))) = r66 at h6 hstep
  try refine gL ?_
  refine RT.ix T (j := i * 5) rfl rfl rfl (rD (re)) (by omega) (by omega) (by omega) rfl rfl ?_
  refine RT.ldra T rfl (rD (re)) (l := x.cells) (flat_sub (f := EnumT.cells) (z := 5) (fun _ => rfl) es i _ hx) rfl rfl rfl rfl ?_
  try refine gL ?_
  refine RT.call T rfl fR_ (wenum_fn (wb := wb) (a := a2) (c := c2) (sc := J) (en := x) h6 hb2 (by omega) (EnumT.In.mono (fun _ _ _ _ _ h => (rD (h))) (re2 x hxm)) (oe x hxm) (se x hxm) (hme x hxm) hjb (by omega)) rfl rfl rfl ?_
  rintro _ _ ⟨rfl, e9, t9, a3, c3, g3, rfl, hg3, hb3, h7⟩
  simp only [List.cons_append, List.nil_append]
  repeat' (first|refine gL ?_|(refine gv ?_;refine gk ?_)|fail)
  exact AtQ.loop (i + 1, e9, t9, a3, c3, g3) ⟨rfl, rfl, rfl, rfl, rfl, trivial⟩ (fun _ h => Sat.pu_in ⟨by dsimp only; omega, hb3, by dsimp only; omega, by dsimp only; rw [hstep]; exact h7⟩ h) (by dsimp only; omega)
 obtain ⟨e9, t9, a9, c9, g9⟩ := s
 skip
 refine AtQ.pu fun hh => ?_
 obtain ⟨hbD, hglD, hD⟩ := hh
 dsimp only at hbD hglD hD ⊢
 simp only [List.cons_append, List.nil_append]
 exact AtQ.fin0 Tryz.results52 (H' := wk wb e9 t9 a9 c9 g9) ⟨rfl, e9, t9, a9, c9, g9, rfl, by omega, hbD, hall hD⟩ (fun _ h => h.frd (Ps := [_, _]) (Qs := [_]) fR_) _ (by first | exact .inl rfl | exact .inr rfl)
end Go.Proofs.YtdemnhdoadjhhaaGreatDoor
end
section
namespace Go.Proofs.YtdemnhdoadjhhaaGreatDoor
open Go.Sk
set_option maxRecDepth 100000
theorem impsF_app : ∀ {ah : List Txt} {l b : List ImpT} {g : List Txt}, opt (impsF ah (l ++ b)) (.ok g : Rs) = bnd (opt (impsF ah l) (.ok g)) fun g => opt (impsF (ah ++ l.map ImpT.path) b) (.ok g)
 | ah, [], b, g => by simp [impsF, opt, bnd]
 | ah, i :: l, b, g => by
  rw [List.cons_append, impsF, impsF]
  by_cases h1 : pathB i.path = true
  ·rw [if_pos h1, if_pos h1]
   by_cases h2 : i.path ∈ ah
   ·rw [if_pos h2, if_pos h2]
    rfl
   ·rw [if_neg h2, if_neg h2, impsF_app]
    simp
  ·rw [if_neg h1, if_neg h1]
   rfl
theorem impsF_step {l : List ImpT} {x : ImpT} {g : List Txt} : opt (impsF [] (l ++ [x])) (.ok g : Rs) = bnd (opt (impsF [] l) (.ok g)) fun g => bnd (must (pathB x.path) 60 x.path (.ok g)) fun g => must (decide (x.path ∉ l.map ImpT.path)) 61 x.path (.ok g) := by
 rw [impsF_app]
 congr 1
 funext g
 rw [List.nil_append, impsF, impsF]
 cases h1 : pathB x.path
 ·rw [if_neg (by decide)]
  rfl
 ·rw [if_pos rfl]
  by_cases h2 : x.path ∈ l.map ImpT.path
  ·rw [if_pos h2, decide_eq_false (fun h => h h2)]
   rfl
  ·rw [if_neg h2, decide_eq_true h2]
   rfl
theorem WS.opt0 {r : Rs} {e : Int} {t : Txt} {g : List Txt} (h : WS r e t g) : WS (bnd r fun g => opt (impsF [] []) (.ok g)) e t g := by
 cases r <;> exact h
theorem WS.chk {f : FileT} {e : Int} {t : Txt} {g : List Txt} (h : WS (fileR f) e t g) : (checkL f).1 = e ∧ (checkL f).2 = t := by
 unfold checkL
 revert h
 cases fileR f with
 | error x => exact fun h => ⟨h.2.1.symm, h.2.2.symm⟩
 | ok g' => exact fun h => ⟨h.1.symm, h.2.1.symm⟩
attribute [local irreducible] Cs Own Ex Pu Yld RT LJ QJ AtQ CT Rd QSp Sp FinQ Then LoopQ CutQ DT TakeQ EffQ
variable {B : World} {R : List HP}
set_option maxHeartbeats 32000000 in
theorem rcheck_fn {f : FileT} (hin : f.In (Rd B R)) (hok : f.Ok) (hsm : FSm f) :
  Sp B Tryz.prog 15 [.agg f.cells.toArray] R [] (fun v H' => v = .agg #[.int .i64 (checkL f).1, vS (checkL f).2] ∧ H' = []) := by
 have hall : ∀ {e' : Int} {t' : Txt} {g' : List Txt}, WS (bnd (bnd (bnd (bnd (bnd (bnd (.ok []) fun g => must (pathB f.path) 60 f.path (.ok g)) fun g => must (decide (f.pack = []) || fullB f.pack) 60 f.pack (.ok g)) fun g => must (decide (f.imps.l.length ≤ 256)) 68 f.path (.ok g)) fun g => opt (impsF [] f.imps.l) (.ok g)) (msgsR f.msgs f.pack 0)) (enumsR f.pack f.enums.l)) e' t' g' → (checkL f).1 = e' ∧ (checkL f).2 = t' := fun h => by
  simp only [bnd_bnd, bnd_must, bnd_opt, bnd_ok] at h
  exact WS.chk (f := f) h
 generalize checkL f = cl at hall ⊢
 obtain ⟨path, pack, ⟨ia, ic, il⟩, ma, mc, msgs, ⟨ea, ec, el⟩⟩ := f
 obtain ⟨ri, rm, rm2, re, re2⟩ := hin
 obtain ⟨⟨pb, pl⟩, ⟨kb, _⟩, ⟨⟨li, _⟩, oi⟩, ⟨⟨lm, _⟩, om⟩, ⟨⟨le, _⟩, oe⟩⟩ := hok
 obtain ⟨s1, s2, sm, s3, se, nms, pk, enm, ful, cnt⟩ := hsm
 dsimp only at ri rm rm2 re re2 pb pl kb li oi lm om le oe s1 s2 sm s3 se nms pk enm ful cnt hall
 dsimp only [FileT.cells, Rw.v]
 obtain ⟨g, hg0⟩ : ∃ g : List Txt, g = [] := ⟨_, rfl⟩
 have h0 : WS (.ok []) 0 [] g := by rw [hg0]; exact WS.start
 have hb : BL g := fun y hy => by rw [hg0] at hy; cases hy
 have hgl : g.length = 0 := by rw [hg0]; rfl
 obtain ⟨a, ha⟩ : ∃ a : Option Addr, a = none := ⟨_, rfl⟩
 obtain ⟨c, hc⟩ : ∃ c : Nat, c = 0 := ⟨_, rfl⟩
 refine Sp.bodyM Tryz.func15 rfl Tryz.ntmps15 (by simp) ?_
 simp only [argE, List.cons_append, List.nil_append, Nat.zero_add, Nat.reduceAdd]
 repeat' (first|refine gL ?_|(refine gb ?_;intro b)|fail)
 revert b
 intro wb
 revert b
 intro cb
 revert b
 intro fb
 refine RT.weak (fun w h => Sat.nilOwn (e := 9) (sz := 1) h) ?_
 refine RT.weak (H' := wk wb 0 [] a c g ++ (Cs cb 33 [.int .i64 0, .string ByteArray.empty] :: Cs fb 26 [vS path, vS pack, .slice ia il.length ic, .slice ma msgs.length mc, .slice ea el.length ec] :: R)) (fun w h => by subst hg0 ha hc; exact h.frd (Ps := [Cs wb 125 _, Own none 0 9 1 0 [], Cs cb 33 _, Cs fb 26 _]) (Qs := []) fR_) ?_
 clear ha hc hg0
 simp only [List.cons_append, List.nil_append]
 skip
 (refine RT.call T rfl fR_ (rpath_fn pb pl) rfl rfl rfl ?_; rintro _ _ ⟨rfl, rfl⟩; try simp only [List.cons_append, List.nil_append])
 try refine gL ?_
 refine RT.mvb rfl rfl rfl ?_
 refine RT.not rfl rfl rfl ?_
 try refine gL ?_
 refine CT.cut (α := Int × Txt) (fun s => [(1, .pointer (some ⟨fb, 0, none⟩)), (2, .pointer (some ⟨cb, 0, none⟩)), (3, ptr wb)]) (fun s => Pu (WS (bnd (.ok []) fun g => must (pathB path) 60 path (.ok g)) s.1 s.2 g) :: (wk wb s.1 s.2 a c g ++ (Cs cb 33 [.int .i64 0, .string ByteArray.empty] :: Cs fb 26 [vS path, vS pack, .slice ia il.length ic, .slice ma msgs.length mc, .slice ea el.length ec] :: R))) ?_ (fun s => ?_)
 ·cases hcc : pathB path
  ·try refine gL ?_
   refine RT.call T rfl fR_ (wrong_fn (wb := wb) (err := 60) (tx := path) (a := a) (c := c) (g := g) h0 (by decide)) rfl rfl rfl ?_
   rintro _ _ ⟨rfl, e9, t9, rfl, h9⟩
   simp only [List.cons_append, List.nil_append]
   try refine gL ?_
   exact AtQ.cut (e9, t9) ⟨rfl, rfl, rfl, trivial⟩ (fun _ h => Sat.pu_in (by dsimp only; exact h9.mf (p := fun _ => false) h0 rfl) h)
  ·try refine gL ?_
   exact AtQ.cut (_, _) ⟨rfl, rfl, rfl, trivial⟩ (fun _ h => Sat.pu_in (by dsimp only; exact h0.mt (p := fun _ => true) rfl) h)
 obtain ⟨e9, t9⟩ := s
 refine A0 ?_
 refine CT.pu fun h1 => ?_
 dsimp only at h1 ⊢
 simp only [List.cons_append, List.nil_append]
 generalize (bnd (.ok []) fun g => must (pathB path) 60 path (.ok g)) = r1 at h1 hall
 clear h0
 try refine gR ?_
 refine CT.cut (α := Unit) (fun _ => [(1, .pointer (some ⟨fb, 0, none⟩)), (2, .pointer (some ⟨cb, 0, none⟩)), (3, ptr wb), (4, .bool (decide (pack = []) || fullB pack))]) (fun _ => wk wb e9 t9 a c g ++ (Cs cb 33 [.int .i64 0, .string ByteArray.empty] :: Cs fb 26 [vS path, vS pack, .slice ia il.length ic, .slice ma msgs.length mc, .slice ea el.length ec] :: R)) ?_ (fun _ => ?_)
 ·try refine gL ?_
  refine RT.eqs (l := pack) (l' := []) rfl rfl kb Byt.nil rfl rfl (fun he => ?_) (fun he => ?_)
  ·try refine gL ?_
   exact AtQ.cut () ⟨rfl, rfl, rfl, congrArg (fun z => some (Value.bool z)) (by rw [decide_eq_true he]; rfl), trivial⟩ (fun _ h => h)
  ·try refine gL ?_
   (refine RT.call T rfl fR_ (rfull_fn (l := pack) kb (by omega)) rfl rfl rfl ?_; rintro _ _ ⟨rfl, rfl⟩; try simp only [List.cons_append, List.nil_append])
   try refine gL ?_
   exact AtQ.cut () ⟨rfl, rfl, rfl, congrArg (fun z => some (Value.bool z)) (by rw [decide_eq_false he]; rfl), trivial⟩ (fun _ h => h)
 refine A0 ?_
 simp only [List.cons_append, List.nil_append]
 try refine gL ?_
 refine RT.mvb rfl rfl rfl ?_
 refine RT.not rfl rfl rfl ?_
 try refine gL ?_
 refine CT.cut (α := Int × Txt) (fun s => [(1, .pointer (some ⟨fb, 0, none⟩)), (2, .pointer (some ⟨cb, 0, none⟩)), (3, ptr wb)]) (fun s => Pu (WS (bnd r1 fun g => must (decide (pack = []) || fullB pack) 60 pack (.ok g)) s.1 s.2 g) :: (wk wb s.1 s.2 a c g ++ (Cs cb 33 [.int .i64 0, .string ByteArray.empty] :: Cs fb 26 [vS path, vS pack, .slice ia il.length ic, .slice ma msgs.length mc, .slice ea el.length ec] :: R))) ?_ (fun s => ?_)
 ·cases hcc : decide (pack = []) || fullB pack
  ·try refine gL ?_
   refine RT.call T rfl fR_ (wrong_fn (wb := wb) (err := 60) (tx := pack) (a := a) (c := c) (g := g) h1 (by decide)) rfl rfl rfl ?_
   rintro _ _ ⟨rfl, e9, t9, rfl, h9⟩
   simp only [List.cons_append, List.nil_append]
   try refine gL ?_
   exact AtQ.cut (e9, t9) ⟨rfl, rfl, rfl, trivial⟩ (fun _ h => Sat.pu_in (by dsimp only; exact h9.mf (p := fun _ => false) h1 rfl) h)
  ·try refine gL ?_
   exact AtQ.cut (_, _) ⟨rfl, rfl, rfl, trivial⟩ (fun _ h => Sat.pu_in (by dsimp only; exact h1.mt (p := fun _ => true) rfl) h)
 obtain ⟨e9, t9⟩ := s
 refine A0 ?_
 refine CT.pu fun h2 => ?_
 dsimp only at h2 ⊢
 simp only [List.cons_append, List.nil_append]
 generalize (bnd r1 fun g => must (decide (pack = []) || fullB pack) 60 pack (.ok g)) = r2 at h2 hall
 clear h1
 try refine gR ?_
 refine CT.cut (α := Unit) (fun _ => [(1, .pointer (some ⟨fb, 0, none⟩)), (2, .pointer (some ⟨cb, 0, none⟩)), (3, ptr wb), (38, .bool (!(decide (il.length ≤ 256))))]) (fun _ => wk wb e9 t9 a c g ++ (Cs cb 33 [.int .i64 0, .string ByteArray.empty] :: Cs fb 26 [vS path, vS pack, .slice ia il.length ic, .slice ma msgs.length mc, .slice ea el.length ec] :: R)) ?_ (fun _ => ?_)
 ·repeat' (first|refine gL ?_|(refine gv ?_;(refine⟨fun hc=>?_,fun hc=>?_⟩<;>first|(exfalso;omega)|skip))|fail)
  all_goals exact AtQ.cut () ⟨rfl, rfl, rfl, congrArg (fun z => some (Value.bool z)) (by first | (rw [decide_eq_true (by omega)]; rfl) | (rw [decide_eq_false (by omega)]; rfl)), trivial⟩ (fun _ h => h)
 refine A0 ?_
 simp only [List.cons_append, List.nil_append]
 skip
 refine CT.cut (α := Int × Txt) (fun s => [(1, .pointer (some ⟨fb, 0, none⟩)), (2, .pointer (some ⟨cb, 0, none⟩)), (3, ptr wb)]) (fun s => Pu (WS (bnd r2 fun g => must (decide (il.length ≤ 256)) 68 path (.ok g)) s.1 s.2 g) :: (wk wb s.1 s.2 a c g ++ (Cs cb 33 [.int .i64 0, .string ByteArray.empty] :: Cs fb 26 [vS path, vS pack, .slice ia il.length ic, .slice ma msgs.length mc, .slice ea el.length ec] :: R))) ?_ (fun s => ?_)
 ·cases hcc : decide (il.length ≤ 256)
  ·try refine gL ?_
   refine RT.call T rfl fR_ (wrong_fn (wb := wb) (err := 68) (tx := path) (a := a) (c := c) (g := g) h2 (by decide)) rfl rfl rfl ?_
   rintro _ _ ⟨rfl, e9, t9, rfl, h9⟩
   simp only [List.cons_append, List.nil_append]
   try refine gL ?_
   exact AtQ.cut (e9, t9) ⟨rfl, rfl, rfl, trivial⟩ (fun _ h => Sat.pu_in (by dsimp only; exact h9.mf (p := fun _ => false) h2 rfl) h)
  ·try refine gL ?_
   exact AtQ.cut (_, _) ⟨rfl, rfl, rfl, trivial⟩ (fun _ h => Sat.pu_in (by dsimp only; exact h2.mt (p := fun _ => true) rfl) h)
 obtain ⟨e9, t9⟩ := s
 refine A0 ?_
 refine CT.pu fun h3 => ?_
 dsimp only at h3 ⊢
 simp only [List.cons_append, List.nil_append]
 generalize (bnd r2 fun g => must (decide (il.length ≤ 256)) 68 path (.ok g)) = r3 at h3 hall
 clear h2
 repeat' (first|refine gS ?_|(refine CT.id_ ?_;first|refine CT.seqN 11 rfl ?_|refine CT.region ?_)|fail)
 refine CT.cut (α := Int × Txt) (fun _ => [(1, .pointer (some ⟨fb, 0, none⟩)), (2, .pointer (some ⟨cb, 0, none⟩)), (3, ptr wb)]) (fun s => Pu (WS (bnd r3 fun g => opt (impsF [] il) (.ok g)) s.1 s.2 g) :: (wk wb s.1 s.2 a c g ++ (Cs cb 33 [.int .i64 0, .string ByteArray.empty] :: Cs fb 26 [vS path, vS pack, .slice ia il.length ic, .slice ma msgs.length mc, .slice ea el.length ec] :: R))) ?_ (fun s => ?_)
 ·refine CT.block ?_
  refine CT.loop (α := Nat × Int × Txt) (fun s => [(1, .pointer (some ⟨fb, 0, none⟩)), (2, .pointer (some ⟨cb, 0, none⟩)), (3, ptr wb), (5, .int .i64 s.1)])
   (fun s => Pu (s.1 ≤ il.length ∧ WS (bnd r3 fun g => opt (impsF [] (il.take s.1)) (.ok g)) s.2.1 s.2.2 g) :: (wk wb s.2.1 s.2.2 a c g ++ (Cs cb 33 [.int .i64 0, .string ByteArray.empty] :: Cs fb 26 [vS path, vS pack, .slice ia il.length ic, .slice ma msgs.length mc, .slice ea el.length ec] :: R))) (fun s => il.length - s.1) (0, _, _)
   ⟨rfl, rfl, rfl, rfl, trivial⟩ (fun _ h => Sat.pu_in ⟨Nat.zero_le _, by dsimp only; rw [List.take_zero]; exact h3.opt0⟩ h) (fun s => CT.pu fun hh => ?_)
  obtain ⟨i, e1, t1⟩ := s
  obtain ⟨hi, h6⟩ := hh
  dsimp only at hi h6 ⊢
  simp only [List.cons_append, List.nil_append]
  repeat' (first|refine gL ?_|(refine gv ?_;(refine⟨fun hc=>?_,fun hc=>?_⟩<;>first|(exfalso;omega)|skip))|fail)
  rotate_left
  ·exact AtQ.cut (e1, t1) ⟨rfl, rfl, rfl, trivial⟩ (fun _ h => Sat.pu_in (by rw [List.take_of_length_le (by omega)] at h6; exact h6) h)
  refine RT.call T rfl fR_ (over_fn (wb := wb) (a := a) (c := c) (g := g)) rfl rfl rfl ?_
  rintro _ _ ⟨rfl, rfl⟩
  simp only [List.cons_append, List.nil_append]
  by_cases he : e1 = 0
  rotate_left
  ·rw [decide_eq_true he]
   have hov : bnd r3 (fun g => opt (impsF [] il) (.ok g)) = bnd r3 (fun g => opt (impsF [] (il.take i)) (.ok g)) := by
    have ev : (fun g : List Txt => opt (impsF [] il) (Except.ok g : Rs)) = fun g => bnd (opt (impsF [] (il.take i)) (.ok g)) (fun g => opt (impsF ([] ++ (il.take i).map ImpT.path) (il.drop i)) (.ok g)) := by funext g; rw [← impsF_app, List.take_append_drop]
    rw [ev, ← bnd_bnd, h6.over he]
   try refine gL ?_
   exact AtQ.cut (e1, t1) ⟨rfl, rfl, rfl, trivial⟩ (fun _ h => Sat.pu_in (by dsimp only; rw [hov]; exact h6) h)
  rw [decide_eq_false (fun h => h he)]
  obtain ⟨x, hx⟩ : ∃ x, il[i]? = some x := ⟨_, List.getElem?_eq_getElem (by omega)⟩
  have hxm := List.mem_of_getElem? hx
  have hxo := oi x hxm
  have key : bnd r3 (fun g => opt (impsF [] (il.take (i + 1))) (.ok g)) = bnd (bnd (bnd r3 (fun g => opt (impsF [] (il.take i)) (.ok g))) (fun g => must (pathB x.path) 60 x.path (.ok g))) (fun g => must (decide (x.path ∉ (il.take i).map ImpT.path)) 61 x.path (.ok g)) := by
   rw [bnd_bnd, bnd_bnd, ← len_snoc hx]
   congr 1
   funext g
   rw [impsF_step]
  generalize (bnd r3 (fun g => opt (impsF [] (il.take i)) (.ok g))) = r6 at h6 key
  try refine gL ?_
  ((refine RT.ix T (j := (i) * 2) rfl rfl rfl (rD (ri)) (by omega) (by omega) (by omega) rfl rfl ?_); (refine RT.faA T rfl rfl rfl rfl ?_); (refine RT.ldr (u := vS x.path) T rfl (rD (ri)) (by rw [flat_get (f := ImpT.cells) (z := 2) (fun _ => rfl) hx (by decide)]; rfl) rfl rfl rfl ?_))
  try refine gL ?_
  (refine RT.call T rfl fR_ (rpath_fn hxo.1 hxo.2) rfl rfl rfl ?_; rintro _ _ ⟨rfl, rfl⟩; try simp only [List.cons_append, List.nil_append])
  try refine gL ?_
  refine RT.mvb rfl rfl rfl ?_
  refine RT.not rfl rfl rfl ?_
  try refine gL ?_
  refine CT.cut (α := Int × Txt) (fun _ => [(1, .pointer (some ⟨fb, 0, none⟩)), (2, .pointer (some ⟨cb, 0, none⟩)), (3, ptr wb), (5, .int .i64 i), (6, vS x.path)]) (fun s => Pu (WS (bnd r6 fun g => must (pathB x.path) 60 x.path (.ok g)) s.1 s.2 g) :: (wk wb s.1 s.2 a c g ++ (Cs cb 33 [.int .i64 0, .string ByteArray.empty] :: Cs fb 26 [vS path, vS pack, .slice ia il.length ic, .slice ma msgs.length mc, .slice ea el.length ec] :: R))) ?_ (fun s => ?_)
  ·cases hcc : pathB x.path
   ·try refine gL ?_
    refine RT.call T rfl fR_ (wrong_fn (wb := wb) (err := 60) (tx := x.path) (a := a) (c := c) (g := g) h6 (by decide)) rfl rfl rfl ?_
    rintro _ _ ⟨rfl, e9, t9, rfl, h9⟩
    simp only [List.cons_append, List.nil_append]
    try refine gL ?_
    exact AtQ.cut (e9, t9) ⟨rfl, rfl, rfl, rfl, rfl, trivial⟩ (fun _ h => Sat.pu_in (by dsimp only; exact h9.mf (p := fun _ => false) h6 rfl) h)
   ·try refine gL ?_
    exact AtQ.cut (_, _) ⟨rfl, rfl, rfl, rfl, rfl, trivial⟩ (fun _ h => Sat.pu_in (by dsimp only; exact h6.mt (p := fun _ => true) rfl) h)
  obtain ⟨e9, t9⟩ := s
  refine A0 ?_
  refine CT.pu fun h7 => ?_
  dsimp only at h7 ⊢
  simp only [List.cons_append, List.nil_append]
  generalize (bnd r6 fun g => must (pathB x.path) 60 x.path (.ok g)) = r7 at h7 key
  clear h6
  try refine gL ?_
  refine CT.loop (α := Nat × Int × Txt) (fun s => [(1, .pointer (some ⟨fb, 0, none⟩)), (2, .pointer (some ⟨cb, 0, none⟩)), (3, ptr wb), (5, .int .i64 i), (6, vS x.path), (7, .int .i64 s.1)])
   (fun s => Pu (s.1 ≤ i ∧ WS (bnd r7 fun g => must (decide (x.path ∉ (il.take s.1).map ImpT.path)) 61 x.path (.ok g)) s.2.1 s.2.2 g) :: (wk wb s.2.1 s.2.2 a c g ++ (Cs cb 33 [.int .i64 0, .string ByteArray.empty] :: Cs fb 26 [vS path, vS pack, .slice ia il.length ic, .slice ma msgs.length mc, .slice ea el.length ec] :: R))) (fun s => i - s.1) (0, _, _)
   ⟨rfl, rfl, rfl, rfl, rfl, rfl, trivial⟩ (fun _ h => Sat.pu_in ⟨Nat.zero_le _, by dsimp only; rw [List.take_zero]; exact h7.mt (p := fun _ => decide (x.path ∉ ([] : List ImpT).map ImpT.path)) (by simp)⟩ h) (fun s => CT.pu fun hh => ?_)
  obtain ⟨k, e2, t2⟩ := s
  obtain ⟨hk, h8⟩ := hh
  dsimp only at hk h8 ⊢
  simp only [List.cons_append, List.nil_append]
  repeat' (first|refine gL ?_|(refine gv ?_;first|(refine⟨fun hc=>?_,fun hc=>?_⟩<;>first|(exfalso;omega)|skip)|refine gk ?_)|fail)
  ·obtain ⟨y, hy⟩ : ∃ y, il[k]? = some y := ⟨_, List.getElem?_eq_getElem (by omega)⟩
   have hyo := oi y (List.mem_of_getElem? hy)
   have kst : ∀ {q : Bool} {ah : List ImpT}, ah = il.take (k + 1) → decide (y.path ≠ x.path) = q → bnd (bnd r7 fun g => must (decide (x.path ∉ (il.take k).map ImpT.path)) 61 x.path (.ok g)) (fun g => must q 61 x.path (.ok g)) = bnd r7 fun g => must (decide (x.path ∉ ah.map ImpT.path)) 61 x.path (.ok g) := fun hah hq => by
    subst hah
    rw [step_and, ← hq, ← len_snoc hy]
    congr 1
    funext g
    congr 1
    rw [← Bool.decide_and]
    refine decide_eq_decide.2 ?_
    simp only [List.map_append, List.mem_append, List.map_cons, List.map_nil, List.mem_singleton, not_or, ne_eq]
    exact ⟨fun h => ⟨h.1, fun e => h.2 e.symm⟩, fun h => ⟨h.1, fun e => h.2 e.symm⟩⟩
   ((refine RT.ix T (j := (k) * 2) rfl rfl rfl (rD (ri)) (by omega) (by omega) (by omega) rfl rfl ?_); (refine RT.faA T rfl rfl rfl rfl ?_); (refine RT.ldr (u := vS y.path) T rfl (rD (ri)) (by rw [flat_get (f := ImpT.cells) (z := 2) (fun _ => rfl) hy (by decide)]; rfl) rfl rfl rfl ?_))
   try refine gL ?_
   refine RT.eqs (l := y.path) (l' := x.path) rfl rfl hyo.1 hxo.1 rfl rfl (fun he => ?_) (fun he => ?_)
   ·replace kst := kst rfl (decide_eq_false (fun h => h he))
    try refine gL ?_
    refine RT.call T rfl fR_ (wrong_fn (wb := wb) (err := 61) (tx := x.path) (a := a) (c := c) (g := g) h8 (by decide)) rfl rfl rfl ?_
    rintro _ _ ⟨rfl, e3, t3, rfl, h9⟩
    simp only [List.cons_append, List.nil_append]
    repeat' (first|refine gL ?_|(refine gv ?_;refine gk ?_)|fail)
    exact AtQ.loop (k + 1, e3, t3) ⟨rfl, rfl, rfl, rfl, rfl, rfl, trivial⟩ (fun _ h => Sat.pu_in ⟨by dsimp only; omega, by dsimp only; rw [← kst]; exact h9.mf (p := fun _ => false) h8 rfl⟩ h) (by dsimp only; omega)
   replace kst := kst rfl (decide_eq_true he)
   repeat' (first|refine gL ?_|(refine gv ?_;refine gk ?_)|fail)
   exact AtQ.loop (k + 1, e2, t2) ⟨rfl, rfl, rfl, rfl, rfl, rfl, trivial⟩ (fun _ h => Sat.pu_in ⟨by dsimp only; omega, by dsimp only; rw [← kst]; exact h8.mt (p := fun _ => true) rfl⟩ h) (by dsimp only; omega)
  ·obtain rfl : k = i := by omega
   rw [← key] at h8
   skip
   exact AtQ.loop (k + 1, e2, t2) ⟨rfl, rfl, rfl, rfl, trivial⟩ (fun _ h => Sat.pu_in ⟨by dsimp only; omega, h8⟩ h) (by dsimp only; omega)
 obtain ⟨e9, t9⟩ := s
 refine A0 ?_
 refine CT.pu fun h5 => ?_
 dsimp only at h5 ⊢
 simp only [List.cons_append, List.nil_append]
 generalize (bnd r3 fun g => opt (impsF [] il) (.ok g)) = r4 at h5 hall
 clear h3
 repeat' (first|refine gS ?_|(refine CT.id_ ?_;first|refine CT.seqN 23 rfl ?_|refine CT.region ?_)|fail)
 refine CT.cut (α := Int × Txt × Option Addr × Nat × List Txt) (fun _ => [(1, .pointer (some ⟨fb, 0, none⟩)), (2, .pointer (some ⟨cb, 0, none⟩)), (3, ptr wb)]) (fun s => Pu (BL s.2.2.2.2 ∧ s.2.2.2.2.length ≤ g.length + 0 + cntMs msgs ∧ WS (bnd r4 (msgsR msgs pack 0)) s.1 s.2.1 s.2.2.2.2) :: (wk wb s.1 s.2.1 s.2.2.1 s.2.2.2.1 s.2.2.2.2 ++ (Cs cb 33 [.int .i64 0, .string ByteArray.empty] :: Cs fb 26 [vS path, vS pack, .slice ia il.length ic, .slice ma msgs.length mc, .slice ea el.length ec] :: R))) ?_ (fun s => ?_)
 ·refine CT.block ?_
  refine CT.loop (α := Nat × Int × Txt × Option Addr × Nat × List Txt) (fun s => [(1, .pointer (some ⟨fb, 0, none⟩)), (2, .pointer (some ⟨cb, 0, none⟩)), (3, ptr wb), (8, .int .i64 s.1)])
   (fun s => Pu (s.1 ≤ msgs.length ∧ BL s.2.2.2.2.2 ∧ s.2.2.2.2.2.length ≤ g.length + 0 + cntMs (msgs.take s.1) ∧ WS (bnd r4 (msgsR (msgs.take s.1) pack 0)) s.2.1 s.2.2.1 s.2.2.2.2.2) :: (wk wb s.2.1 s.2.2.1 s.2.2.2.1 s.2.2.2.2.1 s.2.2.2.2.2 ++ (Cs cb 33 [.int .i64 0, .string ByteArray.empty] :: Cs fb 26 [vS path, vS pack, .slice ia il.length ic, .slice ma msgs.length mc, .slice ea el.length ec] :: R))) (fun s => msgs.length - s.1) (0, _, _, _, _, _)
   ⟨rfl, rfl, rfl, rfl, trivial⟩ (fun _ h => Sat.pu_in ⟨Nat.zero_le _, hb, by dsimp only; rw [List.take_zero]; unfold cntMs; omega, by dsimp only; rw [List.take_zero]; rw [msgsR_nil]; cases r4 <;> exact h5⟩ h) (fun s => CT.pu fun hh => ?_)
  obtain ⟨i, e1, t1, a2, c2, g2⟩ := s
  obtain ⟨hi, hb2, hgl2, h6⟩ := hh
  dsimp only at hi hb2 hgl2 h6 ⊢
  simp only [List.cons_append, List.nil_append]
  repeat' (first|refine gL ?_|(refine gv ?_;(refine⟨fun hc=>?_,fun hc=>?_⟩<;>first|(exfalso;omega)|skip))|fail)
  rotate_left
  ·exact AtQ.cut (e1, t1, a2, c2, g2) ⟨rfl, rfl, rfl, trivial⟩ (fun _ h => Sat.pu_in ⟨hb2, by rw [List.take_of_length_le (by omega)] at hgl2; exact hgl2, by rw [List.take_of_length_le (by omega)] at h6; exact h6⟩ h)
  refine RT.call T rfl fR_ (over_fn (wb := wb) (a := a2) (c := c2) (g := g2)) rfl rfl rfl ?_
  rintro _ _ ⟨rfl, rfl⟩
  simp only [List.cons_append, List.nil_append]
  have hsp : msgs = msgs.take i ++ msgs.drop i := (List.take_append_drop i msgs).symm
  by_cases he : e1 = 0
  rotate_left
  ·rw [decide_eq_true he]
   have hov : bnd r4 (msgsR msgs pack 0) = bnd r4 (msgsR (msgs.take i) pack 0) := by
    have ev : msgsR msgs pack 0 = fun g => bnd (msgsR (msgs.take i) pack 0 g) (msgsR (msgs.drop i) pack 0) := by funext g; rw [← msgs_app, List.take_append_drop]
    rw [ev, ← bnd_bnd, h6.over he]
   have hcn : cntMs (msgs.take i) ≤ cntMs msgs := by
    rw [cntMs_eq, cntMs_eq]; exact sum_take
   try refine gL ?_
   exact AtQ.cut (e1, t1, a2, c2, g2) ⟨rfl, rfl, rfl, trivial⟩ (fun _ h => Sat.pu_in ⟨hb2, by dsimp only; omega, by dsimp only; rw [hov]; exact h6⟩ h)
  rw [decide_eq_false (fun h => h he)]
  obtain ⟨x, hx⟩ : ∃ x, msgs[i]? = some x := ⟨_, List.getElem?_eq_getElem (by omega)⟩
  have hxm := List.mem_of_getElem? hx
  have hstep : bnd r4 (msgsR (msgs.take (i + 1)) pack 0) = bnd (bnd r4 (msgsR (msgs.take i) pack 0)) (msgR x pack 0) := by
   rw [bnd_bnd, ← len_snoc hx]
   congr 1
   funext g
   rw [msgs_app]
   congr 1
   funext g
   exact msgs_one
  have hcn : cntMs (msgs.take (i + 1)) = cntMs (msgs.take i) + cntM x ∧ cntMs (msgs.take (i + 1)) ≤ cntMs msgs := by
   rw [cntMs_eq, cntMs_eq, cntMs_eq]; exact ⟨sum_one hx, sum_take⟩
  generalize (bnd r4 (msgsR (msgs.take i) pack 0)) = r66 at h6 hstep
  try refine gQ ?_
  refine CT.tail 8 mixed (by kernel_rfl) ?_
  dsimp only [List.take_succ_cons, List.take_zero]
  try refine gL ?_
  refine RT.ix T (j := i * 7) rfl rfl rfl (rD (rm)) (by omega) (by omega) (by omega) rfl rfl ?_
  refine RT.ldra T rfl (rD (rm)) (l := x.cells) (flat_sub (f := MsgT.cells) (z := 7) (fun _ => rfl) msgs i _ hx) rfl rfl rfl rfl ?_
  try refine gL ?_
  refine AtQ.tail ?_
  refine RT.call T rfl fR_ (@wmsg_fn _ x.deep _ wb e1 t1 a2 c2 g2 r66 x pack _ 0 (Nat.le_refl _) h6 hb2 (by omega) (MsgT.In.mono (fun _ _ _ _ _ h => (rD (h))) (rm2 x hxm)) (om x hxm) (MsgT.smL_mem sm hxm) (MsgT.nmL_mem nms hxm) (MsgT.fulL_mem ful hxm) kb (by omega) (by omega)) rfl rfl rfl ?_
  rintro _ _ ⟨rfl, e9, t9, a3, c3, g3, rfl, hg3, hb3, h7⟩
  simp only [List.cons_append, List.nil_append]
  repeat' (first|refine gL ?_|(refine gv ?_;refine gk ?_)|fail)
  exact AtQ.loop (i + 1, e9, t9, a3, c3, g3) ⟨rfl, rfl, rfl, rfl, trivial⟩ (fun _ h => Sat.pu_in ⟨by dsimp only; omega, hb3, by dsimp only; omega, by dsimp only; rw [hstep]; exact h7⟩ h) (by dsimp only; omega)
 obtain ⟨e9, t9, a9, c9, g9⟩ := s
 refine A0 ?_
 refine CT.pu fun hh => ?_
 obtain ⟨hbC, hglC, hC⟩ := hh
 dsimp only at hbC hglC hC ⊢
 simp only [List.cons_append, List.nil_append]
 generalize (bnd r4 (msgsR msgs pack 0)) = r5 at hC hall
 clear h5
 repeat' (first|refine gS ?_|(refine CT.id_ ?_;first|refine CT.seqN 27 rfl ?_|refine CT.region ?_)|fail)
 refine CT.cut (α := Int × Txt × Option Addr × Nat × List Txt) (fun _ => [(1, .pointer (some ⟨fb, 0, none⟩)), (2, .pointer (some ⟨cb, 0, none⟩)), (3, ptr wb)]) (fun s => Pu (BL s.2.2.2.2 ∧ s.2.2.2.2.length ≤ g.length + 0 + cntMs msgs + (el.map cntE).sum ∧ WS (bnd r5 (enumsR pack el)) s.1 s.2.1 s.2.2.2.2) :: (wk wb s.1 s.2.1 s.2.2.1 s.2.2.2.1 s.2.2.2.2 ++ (Cs cb 33 [.int .i64 0, .string ByteArray.empty] :: Cs fb 26 [vS path, vS pack, .slice ia il.length ic, .slice ma msgs.length mc, .slice ea el.length ec] :: R))) ?_ (fun s => ?_)
 ·refine CT.block ?_
  refine CT.loop (α := Nat × Int × Txt × Option Addr × Nat × List Txt) (fun s => [(1, .pointer (some ⟨fb, 0, none⟩)), (2, .pointer (some ⟨cb, 0, none⟩)), (3, ptr wb), (9, .int .i64 s.1)])
   (fun s => Pu (s.1 ≤ el.length ∧ BL s.2.2.2.2.2 ∧ s.2.2.2.2.2.length ≤ g.length + 0 + cntMs msgs + ((el.take s.1).map cntE).sum ∧ WS (bnd r5 (enumsR pack (el.take s.1))) s.2.1 s.2.2.1 s.2.2.2.2.2) :: (wk wb s.2.1 s.2.2.1 s.2.2.2.1 s.2.2.2.2.1 s.2.2.2.2.2 ++ (Cs cb 33 [.int .i64 0, .string ByteArray.empty] :: Cs fb 26 [vS path, vS pack, .slice ia il.length ic, .slice ma msgs.length mc, .slice ea el.length ec] :: R))) (fun s => el.length - s.1) (0, _, _, _, _, _)
   ⟨rfl, rfl, rfl, rfl, trivial⟩ (fun _ h => Sat.pu_in ⟨Nat.zero_le _, hbC, by dsimp only; rw [List.take_zero]; simp; omega, by dsimp only; rw [List.take_zero]; skip; cases r5 <;> exact hC⟩ h) (fun s => CT.pu fun hh => ?_)
  obtain ⟨i, e1, t1, a2, c2, g2⟩ := s
  obtain ⟨hi, hb2, hgl2, h6⟩ := hh
  dsimp only at hi hb2 hgl2 h6 ⊢
  simp only [List.cons_append, List.nil_append]
  repeat' (first|refine gL ?_|(refine gv ?_;(refine⟨fun hc=>?_,fun hc=>?_⟩<;>first|(exfalso;omega)|skip))|fail)
  rotate_left
  ·exact AtQ.cut (e1, t1, a2, c2, g2) ⟨rfl, rfl, rfl, trivial⟩ (fun _ h => Sat.pu_in ⟨hb2, by rw [List.take_of_length_le (by omega)] at hgl2; exact hgl2, by rw [List.take_of_length_le (by omega)] at h6; exact h6⟩ h)
  refine RT.call T rfl fR_ (over_fn (wb := wb) (a := a2) (c := c2) (g := g2)) rfl rfl rfl ?_
  rintro _ _ ⟨rfl, rfl⟩
  simp only [List.cons_append, List.nil_append]
  have hsp : el = el.take i ++ el.drop i := (List.take_append_drop i el).symm
  by_cases he : e1 = 0
  rotate_left
  ·rw [decide_eq_true he]
   have hov : bnd r5 (enumsR pack el) = bnd r5 (enumsR pack (el.take i)) := by
    have ev : enumsR pack el = fun g => bnd (enumsR pack (el.take i) g) (enumsR pack (el.drop i)) := by funext g; rw [← enums_ap2, List.take_append_drop]
    rw [ev, ← bnd_bnd, h6.over he]
   have hcn : ((el.take i).map cntE).sum ≤ (el.map cntE).sum := by
    exact sum_take
   try refine gL ?_
   exact AtQ.cut (e1, t1, a2, c2, g2) ⟨rfl, rfl, rfl, trivial⟩ (fun _ h => Sat.pu_in ⟨hb2, by dsimp only; omega, by dsimp only; rw [hov]; exact h6⟩ h)
  rw [decide_eq_false (fun h => h he)]
  obtain ⟨x, hx⟩ : ∃ x, el[i]? = some x := ⟨_, List.getElem?_eq_getElem (by omega)⟩
  have hxm := List.mem_of_getElem? hx
  have hstep : bnd r5 (enumsR pack (el.take (i + 1))) = bnd (bnd r5 (enumsR pack (el.take i))) (enumR x pack) := by
   rw [bnd_bnd, ← len_snoc hx]
   congr 1
   funext g
   rw [enums_ap2]
   congr 1
   funext g
   exact enums_one
  have hcn : ((el.take (i + 1)).map cntE).sum = ((el.take i).map cntE).sum + cntE x ∧ ((el.take (i + 1)).map cntE).sum ≤ (el.map cntE).sum := by
   exact ⟨sum_one hx, sum_take⟩
  generalize (bnd r5 (enumsR pack (el.take i))) = r66 at h6 hstep
  try refine gQ ?_
  refine CT.tail 8 mixed (by kernel_rfl) ?_
  dsimp only [List.take_succ_cons, List.take_zero]
  try refine gL ?_
  refine RT.ix T (j := i * 5) rfl rfl rfl (rD (re)) (by omega) (by omega) (by omega) rfl rfl ?_
  refine RT.ldra T rfl (rD (re)) (l := x.cells) (flat_sub (f := EnumT.cells) (z := 5) (fun _ => rfl) el i _ hx) rfl rfl rfl rfl ?_
  try refine gL ?_
  refine AtQ.tail ?_
  refine RT.call T rfl fR_ (wenum_fn (wb := wb) (a := a2) (c := c2) (sc := pack) (en := x) h6 hb2 (by omega) (EnumT.In.mono (fun _ _ _ _ _ h => (rD (h))) (re2 x hxm)) (oe x hxm) (se x hxm) (enm x hxm) kb (by omega)) rfl rfl rfl ?_
  rintro _ _ ⟨rfl, e9, t9, a3, c3, g3, rfl, hg3, hb3, h7⟩
  simp only [List.cons_append, List.nil_append]
  repeat' (first|refine gL ?_|(refine gv ?_;refine gk ?_)|fail)
  exact AtQ.loop (i + 1, e9, t9, a3, c3, g3) ⟨rfl, rfl, rfl, rfl, trivial⟩ (fun _ h => Sat.pu_in ⟨by dsimp only; omega, hb3, by dsimp only; omega, by dsimp only; rw [hstep]; exact h7⟩ h) (by dsimp only; omega)
 obtain ⟨e9, t9, a9, c9, g9⟩ := s
 refine A0 ?_
 refine CT.pu fun hh => ?_
 obtain ⟨hbD, hglD, hD⟩ := hh
 dsimp only at hbD hglD hD ⊢
 simp only [List.cons_append, List.nil_append]
 try refine gL ?_
 refine RT.ldpart (off := 0) (v := [.int .i64 e9, vS t9]) T rfl sE_ rfl rfl rfl rfl rfl ?_
 try refine gM ?_
 obtain ⟨q1, q2⟩ := hall hD
 refine AtQ.finA (l := [.int .i64 e9, vS t9]) (H' := []) T Tryz.results15 rfl rfl rfl sE_ ⟨by rw [q1, q2], rfl⟩ dR_ (by first | exact .inl rfl | exact .inr rfl)
end Go.Proofs.YtdemnhdoadjhhaaGreatDoor
end
section
namespace Go.Proofs.YtdemnhdoadjhhaaGreatDoor
open Go.Sk
section
variable {α : Type} {lt : α → α → Bool}
/-- An order in one row, equals allowed. -/
structure Wk (lt : α → α → Bool) : Prop where
 asy : ∀ {x y}, lt x y = true → lt y x = false
 tr : ∀ {x y z}, lt y x = false → lt z y = false → lt z x = false
def Srt (lt : α → α → Bool) (l : List α) : Prop := l.Pairwise (fun x y => lt y x = false)
theorem Srt.nil : Srt lt [] := List.Pairwise.nil
theorem Srt.one {x : α} : Srt lt [x] := List.pairwise_singleton _ _
theorem srt_app {a b : List α} : Srt lt (a ++ b) ↔ Srt lt a ∧ Srt lt b ∧ ∀ x ∈ a, ∀ y ∈ b, lt y x = false := List.pairwise_append
/-- The pieces of l, one behind the other: A so long, .. -/
theorem swap_two {P Q R : List α} {x y : α} {i j : Nat} (hi : P.length = i) (hj : P.length + 1 + Q.length = j) :
  ((P ++ x :: (Q ++ y :: R)).set j x).set i y = P ++ y :: (Q ++ x :: R) := by
 subst hi hj
 rw [List.set_append_right _ _ (by omega), List.set_append_right _ _ (by omega)]
 rw [show P.length + 1 + Q.length - P.length = Q.length + 1 by omega, Nat.sub_self, List.set_cons_succ, List.set_cons_zero, List.set_append_right _ _ (by omega), Nat.sub_self, List.set_cons_zero]
theorem swap_two' {P Q R : List α} {x y : α} {i j : Nat} (hi : P.length = i) (hj : P.length + 1 + Q.length = j) :
  ((P ++ x :: (Q ++ y :: R)).set i y).set j x = P ++ y :: (Q ++ x :: R) := by
 rw [List.set_comm _ _ (by omega)]
 exact swap_two hi hj
theorem get_at {P R : List α} {x : α} {i : Nat} (hi : P.length = i) : (P ++ x :: R)[i]? = some x := by
 subst hi
 rw [List.getElem?_append_right (by omega), Nat.sub_self]
 rfl
theorem get_at2 {P Q R : List α} {x y : α} {j : Nat} (hj : P.length + 1 + Q.length = j) : (P ++ x :: (Q ++ y :: R))[j]? = some y := by
 have e : P ++ x :: (Q ++ y :: R) = (P ++ x :: Q) ++ y :: R := by simp
 rw [e]
 exact get_at (by simp; omega)
/-! ### one put into a sorted row -/
theorem ins_ok (hw : Wk lt) {S1 S2 : List α} {x : α} (hs : Srt lt (S1 ++ S2)) (h1 : ∀ z ∈ S1, lt x z = false) (h2 : ∀ z ∈ S2, lt z x = false) : Srt lt (S1 ++ x :: S2) := by
 obtain ⟨a, b, c⟩ := srt_app.1 hs
 refine srt_app.2 ⟨a, List.pairwise_cons.2 ⟨h2, b⟩, fun z hz y hy => ?_⟩
 rcases List.mem_cons.1 hy with rfl | hy
 ·exact h1 z hz
 ·exact c z hz y hy
theorem srt_last (hw : Wk lt) {S : List α} {z x : α} (hs : Srt lt (S ++ [z])) (h : lt x z = false) : ∀ y ∈ S ++ [z], lt x y = false := fun y hy => by
 rcases List.mem_append.1 hy with hy | hy
 ·exact hw.tr ((srt_app.1 hs).2.2 y hy z (by simp)) h
 ·rw [List.mem_singleton.1 hy]; exact h
theorem srt_head (hw : Wk lt) {S : List α} {z x : α} (hs : Srt lt (z :: S)) (h : lt z x = false) : ∀ y ∈ z :: S, lt y x = false := fun y hy => by
 rcases List.mem_cons.1 hy with rfl | hy
 ·exact h
 ·exact hw.tr h ((List.pairwise_cons.1 hs).1 y hy)
/-! ### two sorted rows cut and put together -/
theorem merge_ok (hw : Wk lt) {X1 X2 Y1 Y2 Z1 Z2 : List α} (hx : Srt lt (X1 ++ X2)) (hy : Srt lt (Y1 ++ Y2)) (h1 : ∀ x ∈ X1, ∀ y ∈ Y2, lt y x = false) (h2 : ∀ y ∈ Y1, ∀ x ∈ X2, lt x y = false)
  (p1 : Z1.Perm (X1 ++ Y1)) (s1 : Srt lt Z1) (p2 : Z2.Perm (X2 ++ Y2)) (s2 : Srt lt Z2) : (Z1 ++ Z2).Perm (X1 ++ X2 ++ (Y1 ++ Y2)) ∧ Srt lt (Z1 ++ Z2) := by
 constructor
 ·refine (p1.append p2).trans ?_
  have e : (X1 ++ Y1 ++ (X2 ++ Y2)).Perm (X1 ++ X2 ++ (Y1 ++ Y2)) := by
   rw [List.append_assoc, List.append_assoc]
   refine List.Perm.append_left X1 ?_
   rw [← List.append_assoc, ← List.append_assoc]
   exact List.Perm.append_right Y2 List.perm_append_comm
  exact e
 ·refine srt_app.2 ⟨s1, s2, fun z hz w hw' => ?_⟩
  have hz' := p1.mem_iff.1 hz
  have hw2 := p2.mem_iff.1 hw'
  rcases List.mem_append.1 hz' with hz' | hz' <;> rcases List.mem_append.1 hw2 with hw2 | hw2
  ·exact (srt_app.1 hx).2.2 z hz' w hw2
  ·exact h1 z hz' w hw2
  ·exact h2 z hz' w hw2
  ·exact (srt_app.1 hy).2.2 z hz' w hw2
/-! ### rows of sorted blocks -/
inductive Blk (lt : α → α → Bool) (b : Nat) : List α → Prop
 | last {X : List α} : Srt lt X → X.length ≤ b → Blk lt b X
 | cons {X L : List α} : Srt lt X → X.length = b → Blk lt b L → Blk lt b (X ++ L)
inductive Ful (lt : α → α → Bool) (b : Nat) : List α → Prop
 | nil : Ful lt b []
 | snoc {L X : List α} : Ful lt b L → Srt lt X → X.length = b → Ful lt b (L ++ X)
theorem Ful.blk {b : Nat} {L : List α} (h : Ful lt b L) : ∀ {K : List α}, Blk lt b K → Blk lt b (L ++ K) := by
 induction h with
 | nil => intro K hK; exact hK
 | snoc _ h2 h3 ih => intro K hK; rw [List.append_assoc]; exact ih (.cons h2 h3 hK)
theorem Blk.two {b : Nat} {L : List α} (h : Blk lt b L) (hb : 0 < b) (hl : 2 * b ≤ L.length) : ∃ X Y K, L = X ++ Y ++ K ∧ Srt lt X ∧ Srt lt Y ∧ X.length = b ∧ Y.length = b ∧ Blk lt b K := by
 cases h with
 | last _ h2 => omega
 | cons h1 h2 h3 =>
  rename_i X L
  rw [List.length_append] at hl
  cases h3 with
  | last h4 h5 => exact ⟨X, L, [], by simp, h1, h4, h2, by omega, .last Srt.nil (Nat.zero_le _)⟩
  | cons h4 h5 h6 => rename_i Y K; exact ⟨X, Y, K, by simp, h1, h4, h2, h5, h6⟩
theorem Blk.more {b : Nat} {L : List α} (h : Blk lt b L) (hb : 0 < b) (h1 : b < L.length) (h2 : L.length < 2 * b) : ∃ X Y, L = X ++ Y ∧ Srt lt X ∧ Srt lt Y ∧ X.length = b := by
 cases h with
 | last _ h2 => omega
 | cons h3 h4 h5 =>
  rename_i X L
  rw [List.length_append] at h1 h2
  cases h5 with
  | last h6 h7 => exact ⟨X, L, rfl, h3, h6, h4⟩
  | cons h6 h7 h8 => rw [List.length_append] at h2; omega
theorem Blk.one {b : Nat} {L : List α} (h : Blk lt b L) (h1 : L.length ≤ b) : Srt lt L := by
 cases h with
 | last h2 _ => exact h2
 | cons h3 h4 h5 =>
  rename_i X L
  rw [List.length_append] at h1
  have : L = [] := List.eq_nil_of_length_eq_zero (by omega)
  subst this
  rw [List.append_nil]
  exact h3
/-! ### sorted in one way -/
theorem srt_eq {a b : List α} (hu : ∀ x y, x ∈ a → y ∈ b → lt x y = false → lt y x = false → x = y) (hp : a.Perm b) (h1 : Srt lt a) (h2 : Srt lt b) : a = b :=
 List.Perm.eq_of_pairwise (fun x y hx hy h3 h4 => hu x y hx hy h4 h3) h1 h2 hp
end
end Go.Proofs.YtdemnhdoadjhhaaGreatDoor
end
section
namespace Go.Proofs.YtdemnhdoadjhhaaGreatDoor
open Go.Sk
theorem bef_t {s t : SymT} : befB s t = true ↔ ltL s.full t.full = true ∨ s.full = t.full ∧ s.sort < t.sort := by
 unfold befB
 by_cases h : s.full = t.full
 ·rw [if_pos h, h, ltL_irr]; simp
 ·rw [if_neg h]; simp [h]
theorem bef_f {s t : SymT} : befB s t = false ↔ ltL s.full t.full = false ∧ (s.full = t.full → t.sort ≤ s.sort) := by
 rw [Bool.eq_false_iff, ne_eq, bef_t]
 constructor
 ·intro h
  exact ⟨Bool.eq_false_iff.2 fun h' => h (.inl h'), fun he => by
   by_cases h2 : s.sort < t.sort
   ·exact absurd (.inr ⟨he, h2⟩) h
   ·omega⟩
 ·rintro ⟨h1, h2⟩ (h | ⟨h, h3⟩)
  ·rw [h1] at h; cases h
  ·have := h2 h; omega
theorem bef_wk : Wk befB where
 asy := fun {x y} h => by
  rw [bef_t] at h
  rw [bef_f]
  rcases h with h | ⟨h1, h2⟩
  ·exact ⟨ltL_asy h, fun e => by rw [e, ltL_irr] at h; cases h⟩
  ·exact ⟨by rw [h1, ltL_irr], fun _ => by omega⟩
 tr := fun {x y z} h1 h2 => by
  rw [bef_f] at h1 h2 ⊢
  obtain ⟨a1, a2⟩ := h1
  obtain ⟨b1, b2⟩ := h2
  by_cases e1 : y.full = x.full
  ·by_cases e2 : z.full = y.full
   ·exact ⟨by rw [e2, e1, ltL_irr], fun _ => by have := a2 e1; have := b2 e2; omega⟩
   ·exact ⟨by rw [← e1]; exact b1, fun e => absurd (e.trans e1.symm) e2⟩
  ·have c1 : ltL x.full y.full = true := by
    cases hh : ltL x.full y.full with
    | true => rfl
    | false => exact absurd (ltL_tot a1 hh) e1
   by_cases e2 : z.full = y.full
   ·exact ⟨by rw [e2]; exact a1, fun e => absurd (e2.symm.trans e) e1⟩
   ·have c2 : ltL y.full z.full = true := by
     cases hh : ltL y.full z.full with
     | true => rfl
     | false => exact absurd (ltL_tot b1 hh) e2
    have c3 := ltL_tr c1 c2
    exact ⟨ltL_asy c3, fun e => by rw [e, ltL_irr] at c3; cases c3⟩
theorem bef_uniq {s t : SymT} (h1 : befB s t = false) (h2 : befB t s = false) (hf : s.file = t.file) : s = t := by
 rw [bef_f] at h1 h2
 obtain ⟨a, b, c⟩ := s
 obtain ⟨a', b', c'⟩ := t
 dsimp only at *
 have e := ltL_tot h1.1 h2.1
 have e1 := h1.2 e
 have e2 := h2.2 e.symm
 have e3 : b = b' := by omega
 rw [e, e3, hf]
end Go.Proofs.YtdemnhdoadjhhaaGreatDoor
end
section
namespace Go.Proofs.YtdemnhdoadjhhaaGreatDoor
open Go.Sk
set_option maxRecDepth 100000
theorem ins_at {out : List SymT} {x : SymT} {q : Nat} (hs : Srt befB out) (hq : q ≤ out.length) (h2 : ∀ z ∈ out.drop q, befB x z = true) (h1 : q = 0 ∨ ∃ y, q ≠ 0 ∧ out[q - 1]? = some y ∧ befB x y = false) : Srt befB (out.take q ++ x :: out.drop q) := by
 refine ins_ok bef_wk (by rw [List.take_append_drop]; exact hs) (fun z hz => ?_) (fun z hz => bef_wk.asy (h2 z hz))
 rcases h1 with rfl | ⟨y, h0, hy, hb⟩
 ·simp at hz
 ·obtain ⟨k, rfl⟩ : ∃ k, q = k + 1 := ⟨q - 1, by omega⟩
  rw [Nat.add_sub_cancel] at hy
  rw [← List.take_append_drop (k + 1) out] at hs
  have hs1 := (srt_app.1 hs).1
  rw [← len_snoc hy] at hs1 hz
  exact srt_last bef_wk hs1 hb z hz
theorem drop_bef {out : List SymT} {x y : SymT} {q : Nat} (h0 : q ≠ 0) (hy : out[q - 1]? = some y) (hb : befB x y = true) (h : ∀ z ∈ out.drop q, befB x z = true) : ∀ z ∈ out.drop (q - 1), befB x z = true := fun z hz => by
 obtain ⟨k, rfl⟩ : ∃ k, q = k + 1 := ⟨q - 1, by omega⟩
 rw [Nat.add_sub_cancel] at hy hz
 have hz2 : z ∈ y :: out.drop (k + 1) := by
  have e : out.drop k = y :: out.drop (k + 1) := by
   obtain ⟨hk, rfl⟩ := List.getElem?_eq_some_iff.1 hy
   exact List.drop_eq_getElem_cons hk
  rw [← e]; exact hz
 rcases List.mem_cons.1 hz2 with rfl | hz
 ·exact hb
 ·exact h z hz
attribute [local irreducible] Cs Own Ex Pu Yld RT LJ QJ AtQ CT Rd QSp Sp FinQ Then LoopQ CutQ DT TakeQ EffQ
variable {B : World} {R : List HP}
set_option maxHeartbeats 8000000 in
theorem rsymbolsS_fn {f : FileT} (hin : f.In (Rd B R)) (hok : f.Ok) (hsm : FSm f) :
  Sp B Tryz.prog 16 [.agg f.cells.toArray] R [] (fun v H' => ∃ (a : Option Addr) (c : Nat) (l : List SymT), v = .slice a l.length c ∧ l.length ≤ c ∧ l.Perm (symF f) ∧ Srt befB l ∧ H' = [Own a c 79 3 l.length (l.flatMap SymT.cells)]) := by
 have hsok := symF_ok hok
 have hsl := symF_len f
 obtain ⟨path, pack, ⟨ia, ic, il⟩, ma, mc, msgs, ⟨ea, ec, es⟩⟩ := f
 obtain ⟨_, rm, rm2, re, re2⟩ := hin
 obtain ⟨⟨pb, _⟩, ⟨kb, _⟩, _, ⟨⟨lm, _⟩, om⟩, ⟨⟨le, _⟩, oe⟩⟩ := hok
 obtain ⟨s1, s2, s3, s4, s5, hnm, hpk, hen, hful, hcnt⟩ := hsm
 dsimp only at rm rm2 re re2 pb kb lm om le oe s1 s2 s4 hnm hpk hen hful hcnt hsl
 generalize hL : symF ⟨path, pack, ⟨ia, ic, il⟩, ma, mc, msgs, ⟨ea, ec, es⟩⟩ = L at *
 unfold symF at hL
 dsimp only at hL
 dsimp only [FileT.cells, Rw.v]
 refine Sp.body Tryz.func16 rfl Tryz.ntmps16 (by simp) ?_
 simp only [argE, List.cons_append, List.nil_append, Nat.zero_add, Nat.reduceAdd]
 repeat' (first|refine gL ?_|(refine gb ?_;intro b)|fail)
 revert b
 intro xb
 revert b
 intro fb
 obtain ⟨fcl, hfcl⟩ : ∃ fcl, fcl = [vS path, vS pack, Value.slice ia il.length ic, Value.slice ma msgs.length mc, Value.slice ea es.length ec] := ⟨_, rfl⟩
 rw [← hfcl]
 refine CT.weak (fun w h => Sat.nilOwn (e := 79) (sz := 3) h) ?_
 refine CT.loop (α := Nat × Option Addr × Nat) (fun s => [(1, .pointer (some ⟨fb, 0, none⟩)), (3, ptr xb), (4, .int .i64 s.1)])
  (fun s => Pu (s.1 ≤ msgs.length) :: (lst xb path s.2.1 s.2.2 (symMs path (msgs.take s.1) pack) ++ Cs fb 26 fcl :: R)) (fun s => msgs.length - s.1) (0, none, 0)
  ⟨rfl, rfl, rfl, trivial⟩ (fun w h => Sat.pu_in (Nat.zero_le _) (by dsimp only; rw [List.take_zero, symMs]; exact h.frd (Ps := [_, _, _]) (Qs := []) fR_)) (fun ⟨i, a2, c2⟩ => CT.pu fun hil => ?_)
 dsimp only at hil ⊢
 subst hfcl
 simp only [List.cons_append, List.nil_append]
 repeat' (first|refine gQ ?_|(refine gv ?_;(refine⟨fun hc=>?_,fun hc=>?_⟩<;>first|(exfalso;omega)|skip))|fail)
 ·have hi' : i < msgs.length := by omega
  have hgi := List.getElem?_eq_getElem hi'
  revert hgi
  generalize msgs[i] = m2
  intro hgi
  have hme2 := List.mem_of_getElem? hgi
  have hcn := sum_snoc (f := cntM) hgi
  rw [← cntMs_eq, ← cntMs_eq] at hcn
  refine CT.tail 8 mixed (by kernel_rfl) ?_
  dsimp only [List.take_succ_cons, List.take_zero]
  try refine gL ?_
  refine RT.ix T (j := i * 7) rfl rfl rfl (rD (rm)) (by omega) (by omega) (by omega) rfl rfl ?_
  refine RT.ldra T rfl (rD (rm)) (l := m2.cells) (flat_sub (f := MsgT.cells) (z := 7) (fun _ => rfl) msgs i _ hgi) rfl rfl rfl rfl ?_
  try refine gL ?_
  refine AtQ.tail ?_
  refine RT.call T rfl fR_ (smsg_fn m2.deep (xb := xb) (fl := path) (a := a2) (c := c2) (l := symMs path (msgs.take i) pack) (m := m2) (sc := pack) (Nat.le_refl _) (MsgT.In.mono (fun _ _ _ _ _ h => (rD (h))) (rm2 m2 hme2)) (om m2 hme2) (MsgT.nmL_mem hnm hme2) (MsgT.fulL_mem hful hme2) kb (by omega) (by rw [symMs_len]; omega)) rfl rfl rfl ?_
  rintro _ _ ⟨rfl, a3, c3, rfl⟩
  simp only [List.cons_append, List.nil_append]
  repeat' (first|refine gL ?_|(refine gv ?_;refine gk ?_)|fail)
  refine AtQ.loop (i + 1, a3, c3) ⟨rfl, rfl, rfl, trivial⟩ (fun w h => Sat.pu_in (by dsimp only; omega) ?_) (by dsimp only; omega)
  dsimp only
  rw [← symMs_snoc hgi]
  exact h
 rw [List.take_of_length_le (by omega)]
 clear hil rm rm2
 generalize hL3 : symMs path msgs pack = L3 at *
 have hl3 : L3.length = cntMs msgs := by rw [← hL3, symMs_len]
 obtain ⟨fcl, hfcl⟩ : ∃ fcl, fcl = [vS path, vS pack, Value.slice ia il.length ic, Value.slice ma msgs.length mc, Value.slice ea es.length ec] := ⟨_, rfl⟩
 rw [← hfcl]
 refine CT.loop (α := Nat × Option Addr × Nat) (fun s => [(1, .pointer (some ⟨fb, 0, none⟩)), (3, ptr xb), (5, .int .i64 s.1)])
  (fun s => Pu (s.1 ≤ es.length) :: (lst xb path s.2.1 s.2.2 (L3 ++ (es.take s.1).flatMap (symE path pack)) ++ Cs fb 26 fcl :: R)) (fun s => es.length - s.1) (0, a2, c2)
  ⟨rfl, rfl, rfl, trivial⟩ (fun w h => Sat.pu_in (Nat.zero_le _) (by dsimp only; rw [List.take_zero, List.flatMap_nil, List.append_nil]; exact h)) (fun ⟨i, a2, c2⟩ => CT.pu fun hil => ?_)
 dsimp only at hil ⊢
 subst hfcl
 simp only [List.cons_append, List.nil_append]
 repeat' (first|refine gQ ?_|(refine gv ?_;(refine⟨fun hc=>?_,fun hc=>?_⟩<;>first|(exfalso;omega)|skip))|fail)
 ·have hi' : i < es.length := by omega
  have hgi := List.getElem?_eq_getElem hi'
  revert hgi
  generalize es[i] = e2
  intro hgi
  have hme2 := List.mem_of_getElem? hgi
  have hcn := sum_snoc (f := cntE) hgi
  refine CT.tail 8 mixed (by kernel_rfl) ?_
  dsimp only [List.take_succ_cons, List.take_zero]
  try refine gL ?_
  refine RT.ix T (j := i * 5) rfl rfl rfl (rD (re)) (by omega) (by omega) (by omega) rfl rfl ?_
  refine RT.ldra T rfl (rD (re)) (l := e2.cells) (flat_sub (f := EnumT.cells) (z := 5) (fun _ => rfl) es i _ hgi) rfl rfl rfl rfl ?_
  try refine gL ?_
  refine AtQ.tail ?_
  refine RT.call T rfl fR_ (senum_fn (xb := xb) (fl := path) (a := a2) (c := c2) (l := L3 ++ (es.take i).flatMap (symE path pack)) (e := e2) (sc := pack) (EnumT.In.mono (fun _ _ _ _ _ h => (rD (h))) (re2 e2 hme2)) (oe e2 hme2) (hen e2 hme2) kb hpk (by rw [List.length_append, symEs_len]; omega)) rfl rfl rfl ?_
  rintro _ _ ⟨rfl, a3, c3, rfl⟩
  simp only [List.cons_append, List.nil_append]
  repeat' (first|refine gL ?_|(refine gv ?_;refine gk ?_)|fail)
  refine AtQ.loop (i + 1, a3, c3) ⟨rfl, rfl, rfl, trivial⟩ (fun w h => Sat.pu_in (by dsimp only; omega) ?_) (by dsimp only; omega)
  dsimp only
  rw [← flat_snoc hgi, ← List.append_assoc]
  exact h
 rw [List.take_of_length_le (by omega), hL]
 clear hil re re2 hL hnm hpk hen hful
 generalize hfcl : [vS path, vS pack, Value.slice ia il.length ic, Value.slice ma msgs.length mc, Value.slice ea es.length ec] = fcl
 clear hfcl
 refine CT.fact (p := L.length ≤ c2) (fun w h => (Own.facts h sE_).2.1) fun hLc => ?_
 refine CT.weak (fun w h => Sat.nilOwn (e := 79) (sz := 3) h) ?_
 refine CT.loop (α := Nat × List SymT × Option Addr × Nat) (fun s => [(3, ptr xb), (6, .slice s.2.2.1 s.2.1.length s.2.2.2), (7, .int .i64 s.1)])
  (fun s => Pu (s.1 ≤ L.length ∧ s.2.1.Perm (L.take s.1) ∧ Srt befB s.2.1 ∧ s.2.1.length ≤ s.2.2.2) :: Own s.2.2.1 s.2.2.2 79 3 s.2.1.length (s.2.1.flatMap SymT.cells) :: (lst xb path a2 c2 L ++ Cs fb 26 fcl :: R)) (fun s => L.length - s.1) (0, [], none, 0)
  ⟨rfl, rfl, rfl, trivial⟩ (fun w h => Sat.pu_in ⟨Nat.zero_le _, List.Perm.refl _, Srt.nil, Nat.le_refl _⟩ h) (fun ⟨i, out, ao, co⟩ => CT.pu fun ⟨hil, hpo, hso, hoc⟩ => ?_)
 dsimp only at hil hpo hso hoc ⊢
 simp only [List.cons_append, List.nil_append]
 have hol : out.length = i := by rw [hpo.length_eq, List.length_take]; omega
 have hsl2 : L.length ≤ 16777216 := by omega
 clear hsl hcnt
 repeat' (first|refine gS ?_|(refine gv ?_;(refine⟨fun hc=>?_,fun hc=>?_⟩<;>first|(exfalso;omega)|skip))|(refine CT.id_ ?_;first|refine CT.seqN 15 rfl ?_|refine CT.blockN 15 rfl ?_|refine CT.region ?_|refine CT.cond_t rfl ?_|refine CT.cond_f rfl ?_|refine CT.skip ?_|refine CT.ret ?_|refine CT.exit ?_)|fail)
 ·have hi' : i < L.length := by omega
  have hgi := List.getElem?_eq_getElem hi'
  revert hgi
  generalize L[i] = x
  intro hgi
  have hxok := hsok x (List.mem_of_getElem? hgi)
  refine CT.seq ?_
  refine CT.cut (α := Nat) (fun q => [(3, ptr xb), (6, .slice ao out.length co), (7, .int .i64 i), (8, .int .i64 q)])
   (fun q => Pu (q ≤ out.length ∧ Srt befB (out.take q ++ x :: out.drop q)) :: Own ao co 79 3 out.length (out.flatMap SymT.cells) :: Cs xb 130 [.slice a2 L.length c2, vS path] :: Own a2 c2 79 3 L.length (L.flatMap SymT.cells) :: Cs fb 26 fcl :: R) ?_ (fun q => ?_)
  ·refine nx ?_
   refine CT.loop (α := Nat) (fun q => [(3, ptr xb), (6, .slice ao out.length co), (7, .int .i64 i), (8, .int .i64 q)])
    (fun q => Pu (q ≤ out.length ∧ ∀ z ∈ out.drop q, befB x z = true) :: Own ao co 79 3 out.length (out.flatMap SymT.cells) :: Cs xb 130 [.slice a2 L.length c2, vS path] :: Own a2 c2 79 3 L.length (L.flatMap SymT.cells) :: Cs fb 26 fcl :: R) (fun q => q) out.length
    ⟨rfl, rfl, rfl, rfl, trivial⟩ (fun w h => Sat.pu_in ⟨Nat.le_refl _, by simp⟩ h) (fun q => CT.pu fun ⟨hq, hbf⟩ => ?_)
   try refine gQ ?_
   refine CT.tail 15 mixed (by kernel_rfl) ?_
   dsimp only [List.take_succ_cons, List.take_zero]
   repeat' (first|refine gL ?_|(refine gv ?_;(refine⟨fun hc=>?_,fun hc=>?_⟩<;>first|(exfalso;omega)|skip))|fail)
   ·refine RT.ix T (j := i * 3) rfl rfl rfl (own_rd sE_ hLc) (by omega) (by omega) (by omega) rfl rfl ?_
    refine RT.ldra T rfl (own_rd sE_ hLc) (l := x.cells) (flat_sub (f := SymT.cells) (z := 3) (fun _ => rfl) L i _ hgi) rfl rfl rfl rfl ?_
    repeat' (first|refine gL ?_|(refine gv ?_;refine gk ?_)|fail)
    have hq' : q - 1 < out.length := by omega
    have hgq := List.getElem?_eq_getElem hq'
    have hyok := hsok out[q - 1] (List.mem_of_mem_take (hpo.mem_iff.1 (List.getElem_mem hq')))
    revert hgq hyok
    generalize out[q - 1] = y
    intro hgq hyok
    refine RT.ix T (j := (q - 1) * 3) rfl rfl rfl (own_rd sE_ hoc) (by omega) (by omega) (by omega) rfl rfl ?_
    refine RT.ldra T rfl (own_rd sE_ hoc) (l := y.cells) (flat_sub (f := SymT.cells) (z := 3) (fun _ => rfl) out (q - 1) _ hgq) rfl rfl rfl rfl ?_
    try refine gL ?_
    refine AtQ.tail ?_
    refine RT.call T rfl fR_ (before_fn hxok hyok) rfl rfl rfl ?_
    rintro _ _ ⟨rfl, rfl⟩
    simp only [List.nil_append]
    cases hbx : befB x y
    ·try refine gL ?_
     exact AtQ.cut q ⟨rfl, rfl, rfl, rfl, trivial⟩ (fun w h => Sat.pu_in ⟨hq, ins_at hso hq hbf (.inr ⟨y, by omega, hgq, hbx⟩)⟩ h)
    ·repeat' (first|refine gL ?_|(refine gv ?_;refine gk ?_)|fail)
     exact AtQ.loop (q - 1) ⟨rfl, rfl, rfl, congrArg (fun z : Int => some (Value.int IntKind.i64 z)) (by omega), trivial⟩ (fun w h => Sat.pu_in ⟨by omega, drop_bef (by omega) hgq hbx hbf⟩ h) (by omega)
   ·refine AtQ.tail ?_
    try refine gL ?_
    exact AtQ.cut q ⟨rfl, rfl, rfl, rfl, trivial⟩ (fun w h => Sat.pu_in ⟨hq, ins_at hso hq hbf (.inl (by omega))⟩ h)
  refine A0 ?_
  refine CT.pu fun ⟨hq, hsq⟩ => ?_
  try refine gL ?_
  refine RT.bsA T (l := (⟨[], 0, []⟩ : SymT).cells) rfl rfl rfl rfl rfl rfl rfl rfl (fun b' => ?_)
  refine RT.app T (xs := out.flatMap SymT.cells) (ys := (⟨[], 0, []⟩ : SymT).cells) rfl rfl rfl (fun a' c' => by ((repeat constructor);done)) (Own.rd sE_ rfl (Nat.le_refl _)) (one_sym _) (by omega) (by omega) rfl rfl rfl rfl (fun a1 c1 hac => ?_)
  have hst : out.flatMap SymT.cells ++ (⟨[], 0, []⟩ : SymT).cells = (out.take out.length ++ ⟨[], 0, []⟩ :: out.drop out.length).flatMap SymT.cells := by rw [← shift_start]; simp
  rw [hst]
  repeat' (first|refine gL ?_|(refine gv ?_;refine gk ?_)|fail)
  refine CT.loop (α := Nat × SymT) (fun s => [(3, ptr xb), (6, .slice a1 (out.length + 1) c1), (7, .int .i64 i), (8, .int .i64 q), (9, .int .i64 s.1)])
   (fun s => Pu (q ≤ s.1 ∧ s.1 ≤ out.length) :: Own a1 c1 79 3 (out.length + 1) ((out.take s.1 ++ s.2 :: out.drop s.1).flatMap SymT.cells) :: Cs xb 130 [.slice a2 L.length c2, vS path] :: Own a2 c2 79 3 L.length (L.flatMap SymT.cells) :: Cs fb 26 fcl :: R) (fun s => s.1) (out.length, ⟨[], 0, []⟩)
   ⟨rfl, rfl, rfl, rfl, congrArg (fun z : Int => some (Value.int IntKind.i64 z)) (by dsimp only; omega), trivial⟩ (fun w h => Sat.pu_in ⟨hq, Nat.le_refl _⟩ h.tail) (fun ⟨k, y⟩ => CT.pu fun ⟨hk1, hk2⟩ => ?_)
  dsimp only at hk1 hk2 ⊢
  repeat' (first|refine gL ?_|(refine gv ?_;first|(refine⟨fun hc=>?_,fun hc=>?_⟩<;>first|(exfalso;omega)|skip)|refine gk ?_)|fail)
  ·obtain ⟨k, rfl⟩ : ∃ k', k = k' + 1 := ⟨k - 1, by omega⟩
   have hk' : k < out.length := by omega
   have hus := shift_len (out := out) (y := y) (k := k + 1) (by omega)
   have hgk := shift_get (y := y) hk'
   have hdn := shift_down (y := y) hk'
   refine RT.ix T (j := k * 3) rfl rfl rfl (Own.rd sE_ (by rw [flat_len sym_len, hus]) hac) (by omega) (by omega) (by omega) rfl rfl ?_
   refine RT.ldra T rfl (Own.rd sE_ (by rw [flat_len sym_len, hus]) hac) (l := out[k].cells) (flat_sub (f := SymT.cells) (z := 3) (fun _ => rfl) _ k _ hgk) rfl rfl rfl rfl ?_
   refine RT.ix T (j := (k + 1) * 3) rfl rfl rfl (Own.rd sE_ (by rw [flat_len sym_len, hus]) hac) (by omega) (by omega) (by omega) rfl rfl ?_
   refine RT.stoA T (v := out[k].cells) rfl rfl rfl (by ((repeat constructor);done)) (by rw [flat_len sym_len, hus, sym_len]; omega) (by rw [sym_len]; decide) rfl rfl rfl ?_
   rw [sym_len, flat_set sym_len _ (by rw [hus]; omega), hdn]
   repeat' (first|refine gL ?_|(refine gv ?_;refine gk ?_)|fail)
   exact AtQ.loop (k, out[k]) ⟨rfl, rfl, rfl, rfl, congrArg (fun z : Int => some (Value.int IntKind.i64 z)) (by dsimp only; omega), trivial⟩ (fun w h => Sat.pu_in ⟨by dsimp only; omega, by dsimp only; omega⟩ h) (by dsimp only; omega)
  ·obtain rfl : k = q := by omega
   have hus := shift_len (out := out) (y := y) (k := k) (by omega)
   refine RT.ix T (j := i * 3) rfl rfl rfl (own_rd sE_ hLc) (by omega) (by omega) (by omega) rfl rfl ?_
   refine RT.ldra T rfl (own_rd sE_ hLc) (l := x.cells) (flat_sub (f := SymT.cells) (z := 3) (fun _ => rfl) L i _ hgi) rfl rfl rfl rfl ?_
   refine RT.ix T (j := k * 3) rfl rfl rfl (Own.rd sE_ (by rw [flat_len sym_len, hus]) hac) (by omega) (by omega) (by omega) rfl rfl ?_
   refine RT.stoA T (v := x.cells) rfl rfl rfl (by ((repeat constructor);done)) (by rw [flat_len sym_len, hus, sym_len]; omega) (by rw [sym_len]; decide) rfl rfl rfl ?_
   rw [sym_len, flat_set sym_len _ (by rw [hus]; omega), shift_set (by omega)]
   repeat' (first|refine gL ?_|(refine gv ?_;refine gk ?_)|fail)
   have hus2 := shift_len (out := out) (y := x) (k := k) (by omega)
   refine AtQ.loop (i + 1, out.take k ++ x :: out.drop k, a1, c1) ⟨rfl, by dsimp only; rw [hus2]; rfl, rfl, trivial⟩ (fun w h => Sat.pu_in ⟨by dsimp only; omega, shift_perm hpo hgi, hsq, by dsimp only; omega⟩ (by dsimp only; rw [hus2]; exact h)) (by dsimp only; omega)
 ·rw [List.take_of_length_le (by omega)] at hpo
  exact AtQ.fin1 (H' := [Own ao co 79 3 out.length (out.flatMap SymT.cells)]) Tryz.results16 rfl ⟨ao, co, out, rfl, hoc, hpo, hso, rfl⟩ (fun w h => h.frd (Ps := [_]) (Qs := [_, _, _]) fR_)
end Go.Proofs.YtdemnhdoadjhhaaGreatDoor
end
section
namespace Go.Proofs.YtdemnhdoadjhhaaGreatDoor
open Go.Sk
set_option maxRecDepth 100000
def cmpT (x y : Txt) : Int := if ltL x y = true then -1 else if ltL y x = true then 1 else 0
def cmpI (x y : Int) : Int := if x < y then -1 else if y < x then 1 else 0
def cmpV (s t : SymT) : Int := if cmpT s.full t.full ≠ 0 then cmpT s.full t.full else cmpI s.sort t.sort
theorem cmpV_lt (s t : SymT) : cmpV s t < 0 ↔ befB s t = true := by
 rw [bef_t]
 unfold cmpV cmpT cmpI
 cases h1 : ltL s.full t.full with
 | true => simp
 | false =>
  cases h2 : ltL t.full s.full with
  | true =>
   have hne : s.full ≠ t.full := fun e => by rw [e, ltL_irr] at h2; cases h2
   simp [hne]
  | false =>
   have he := ltL_tot h1 h2
   simp only [he, Bool.false_eq_true, if_false, ne_eq, not_true, true_and, false_or]
   split
   ·simp [*]
   ·split <;> constructor <;> intro h <;> omega
theorem cmpV_f {s t : SymT} (h : ¬ cmpV s t < 0) : befB s t = false := by
 rw [cmpV_lt] at h
 exact Bool.eq_false_iff.2 h
attribute [local irreducible] Cs Own Ex Pu Yld RT LJ QJ AtQ CT Rd QSp Sp FinQ Then LoopQ CutQ DT TakeQ EffQ
variable {B : World} {R : List HP}
theorem nanT_fn {l : Txt} (hb : Byt l) : Sp B Tryz.prog 96 [vS l] R [] (fun v H' => v = .bool false ∧ H' = []) := by
 refine Sp.body Tryz.func96 rfl Tryz.ntmps96 (by simp) ?_
 simp only [argE, List.cons_append, List.nil_append, Nat.zero_add, Nat.reduceAdd]
 try refine gL ?_
 refine RT.nes (l := l) (l' := l) rfl rfl hb hb rfl rfl (fun he => ?_) (fun he => absurd rfl he)
 try refine gL ?_
 exact AtQ.f1 Tryz.results96 rfl rfl (fun w h => h)
theorem nanS_fn {x : Int} : Sp B Tryz.prog 97 [.int .u8 x] R [] (fun v H' => v = .bool false ∧ H' = []) := by
 refine Sp.body Tryz.func97 rfl Tryz.ntmps97 (by simp) ?_
 simp only [argE, List.cons_append, List.nil_append, Nat.zero_add, Nat.reduceAdd]
 repeat' (first|refine gL ?_|(refine gv ?_;(refine⟨fun hc=>?_,fun hc=>?_⟩<;>first|(exfalso;omega)|skip))|fail)
 exact AtQ.f1 Tryz.results97 rfl rfl (fun w h => h)
theorem cmpT_fn {x y : Txt} (hx : Byt x) (hy : Byt y) : Sp B Tryz.prog 44 [vS x, vS y] R [] (fun v H' => v = .int .i64 (cmpT x y) ∧ H' = []) := by
 refine Sp.body Tryz.func44 rfl Tryz.ntmps44 (by simp) ?_
 simp only [argE, List.cons_append, List.nil_append, Nat.zero_add, Nat.reduceAdd]
 unfold cmpT
 try refine gL ?_
 (refine RT.call T rfl fR_ (nanT_fn hx) rfl rfl rfl ?_; rintro _ _ ⟨rfl, rfl⟩; try simp only [List.cons_append, List.nil_append])
 try refine gL ?_
 (refine RT.call T rfl fR_ (nanT_fn hy) rfl rfl rfl ?_; rintro _ _ ⟨rfl, rfl⟩; try simp only [List.cons_append, List.nil_append])
 try refine gL ?_
 refine RT.lts (l := x) (l' := y) rfl rfl hx hy rfl rfl ?_
 cases h1 : ltL x y
 ·try refine gL ?_
  refine RT.gts (l := x) (l' := y) rfl rfl hx hy rfl rfl ?_
  cases h2 : ltL y x
  ·try refine gL ?_
   exact AtQ.f1 Tryz.results44 rfl rfl (fun w h => h)
  ·try refine gL ?_
   exact AtQ.f1 Tryz.results44 rfl rfl (fun w h => h)
 ·try refine gL ?_
  exact AtQ.f1 Tryz.results44 rfl rfl (fun w h => h)
theorem cmpI_fn {x y : Int} : Sp B Tryz.prog 45 [.int .u8 x, .int .u8 y] R [] (fun v H' => v = .int .i64 (cmpI x y) ∧ H' = []) := by
 refine Sp.body Tryz.func45 rfl Tryz.ntmps45 (by simp) ?_
 simp only [argE, List.cons_append, List.nil_append, Nat.zero_add, Nat.reduceAdd]
 unfold cmpI
 try refine gL ?_
 (refine RT.call T rfl fR_ (nanS_fn) rfl rfl rfl ?_; rintro _ _ ⟨rfl, rfl⟩; try simp only [List.cons_append, List.nil_append])
 try refine gL ?_
 (refine RT.call T rfl fR_ (nanS_fn) rfl rfl rfl ?_; rintro _ _ ⟨rfl, rfl⟩; try simp only [List.cons_append, List.nil_append])
 repeat' (first|refine gL ?_|(refine gv ?_;(refine⟨fun hc=>?_,fun hc=>?_⟩<;>first|(exfalso;omega)|skip))|fail)
 ·exact AtQ.f1 Tryz.results45 rfl (by rw [if_pos (by omega)]) (fun w h => h)
 ·exact AtQ.f1 Tryz.results45 rfl (by rw [if_neg (by omega), if_pos (by omega)]) (fun w h => h)
 ·exact AtQ.f1 Tryz.results45 rfl (by rw [if_neg (by omega), if_neg (by omega)]) (fun w h => h)
theorem or_fn {a : Option Addr} {c : Nat} {p q : Int} (hr : Rd B R a 2 c 1 (ints .i64 [p, q])) : Sp B Tryz.prog 43 [.slice a 2 c] R [] (fun v H' => v = .int .i64 (if p ≠ 0 then p else q) ∧ H' = []) := by
 refine Sp.body Tryz.func43 rfl Tryz.ntmps43 (by simp) ?_
 simp only [argE, List.cons_append, List.nil_append, Nat.zero_add, Nat.reduceAdd]
 try refine gL ?_
 refine CT.loop (α := Nat) (fun i => [(3, .int .i64 0), (6, .slice a 2 c), (7, .int .i64 2), (8, .int .i64 i)]) (fun i => Pu (i ≤ 2 ∧ (1 ≤ i → p = 0) ∧ (2 ≤ i → q = 0)) :: R) (fun i => 2 - i) 0 ⟨rfl, rfl, rfl, rfl, trivial⟩
  (fun w h => Sat.pu_in ⟨by omega, by omega, by omega⟩ h) (fun i => CT.pu fun ⟨h1, h2, h3⟩ => ?_)
 repeat' (first|refine gL ?_|(refine gv ?_;(refine⟨fun hc=>?_,fun hc=>?_⟩<;>first|(exfalso;omega)|skip))|fail)
 ·have hi : i = 0 ∨ i = 1 := by omega
  refine RT.ix T (j := i) rfl rfl rfl (rD (hr)) (by omega) (by omega) (by omega) rfl rfl ?_
  refine RT.ldi T (l := [p, q]) rfl (rD (hr)) (by simp; omega) rfl rfl rfl ?_
  rcases hi with rfl | rfl
  ·rw [show List.getD [p, q] 0 0 = p from rfl]
   repeat' (first|refine gL ?_|(refine gv ?_;first|(refine⟨fun hc=>?_,fun hc=>?_⟩<;>first|(exfalso;omega)|skip)|refine gk ?_)|fail)
   ·exact AtQ.loop 1 ⟨rfl, rfl, rfl, rfl, trivial⟩ (fun w h => Sat.pu_in ⟨by omega, by omega, by omega⟩ h) (by omega)
   ·exact AtQ.f1 Tryz.results43 rfl (by rw [if_pos (by omega)]) (fun w h => h)
  ·rw [show List.getD [p, q] 1 0 = q from rfl]
   repeat' (first|refine gL ?_|(refine gv ?_;first|(refine⟨fun hc=>?_,fun hc=>?_⟩<;>first|(exfalso;omega)|skip)|refine gk ?_)|fail)
   ·exact AtQ.loop 2 ⟨rfl, rfl, rfl, rfl, trivial⟩ (fun w h => Sat.pu_in ⟨by omega, by omega, by omega⟩ h) (by omega)
   ·exact AtQ.f1 Tryz.results43 rfl (by rw [if_neg (by omega)]) (fun w h => h)
 ·exact AtQ.f1 Tryz.results43 rfl (by rw [if_neg (by omega), h3 (by omega)]) (fun w h => h)
theorem cmp_fn {s t : SymT} (hs : s.Ok) (ht : t.Ok) : Sp B Tryz.prog 42 [.agg s.cells.toArray, .agg t.cells.toArray] R [] (fun v H' => v = .int .i64 (cmpV s t) ∧ H' = []) := by
 obtain ⟨sf, sk, sl⟩ := s
 obtain ⟨tf, tk, tl⟩ := t
 obtain ⟨s1, s2, s3⟩ := hs
 obtain ⟨t1, t2, t3⟩ := ht
 dsimp only [SymT.cells] at *
 unfold cmpV
 dsimp only
 refine Sp.body Tryz.func42 rfl Tryz.ntmps42 (by simp) ?_
 simp only [argE, List.cons_append, List.nil_append, Nat.zero_add, Nat.reduceAdd]
 repeat' (first|refine gQ ?_|(refine gb ?_;intro b)|fail)
 rename_i b1
 revert b1 b
 intro b1 b2
 refine CT.drawn [Cs b1 79 [vS sf, .int .u8 sk, vS sl], Cs b2 79 [vS tf, .int .u8 tk, vS tl]] 12 mixed ?_
 (refine DT.takes (k := 5) [0, 1, 2, 3, 5, 6, 7, 8] [4, 9, 10, 11, 12] (fun w h => Sat.ones (by (repeat (first|exact Fr.nil|(apply Fr.cons;focus ((repeat constructor);done))))) h) (by kernel_rfl) (by kernel_rfl) (by kernel_rfl) rfl (Clos.ofB (by kernel_rfl)) ?_)
 try refine gL ?_
 refine AtQ.take ?_
 (refine DT.eff 4 rfl (by kernel_rfl) ?_)
 (refine RT.call T rfl fR_ (cmpT_fn s1 t1) rfl rfl rfl ?_; rintro _ _ ⟨rfl, rfl⟩; try simp only [List.cons_append, List.nil_append])
 (refine RT.nil ?_; refine AtQ.eff (fun w h => Sat.ones fR_ h) ?_)
 (refine DT.eff 9 rfl (by kernel_rfl) ?_)
 (refine RT.call T rfl fR_ (cmpI_fn (x := sk) (y := tk)) rfl rfl rfl ?_; rintro _ _ ⟨rfl, rfl⟩; try simp only [List.cons_append, List.nil_append])
 (refine RT.nil ?_; refine AtQ.eff (fun w h => Sat.ones fR_ h) ?_)
 (refine DT.eff 10 rfl (by kernel_rfl) ?_)
 refine RT.bs T (l := [.int .i64 (cmpT sf tf), .int .i64 (cmpI sk tk)]) rfl rfl rfl rfl rfl rfl rfl (fun a9 c9 h9 => ?_)
 (refine RT.nil ?_; refine AtQ.eff (fun w h => Sat.ones fR_ h) ?_)
 (refine DT.eff 11 rfl (by kernel_rfl) ?_)
 (refine RT.call T rfl fR_ (or_fn (a := a9) (c := c9) (p := cmpT sf tf) (q := cmpI sk tk) (Own.rd sE_ rfl h9)) rfl rfl rfl ?_; rintro _ _ ⟨rfl, rfl⟩; try simp only [List.cons_append, List.nil_append])
 (refine RT.nil ?_; refine AtQ.eff (fun w h => Sat.ones fR_ h) ?_)
 (refine DT.eff 12 rfl (by kernel_rfl) ?_)
 try refine gL ?_
 refine AtQ.eff' (by kernel_rfl) ?_
 (refine DT.done (by kernel_rfl) ?_)
 try refine gL ?_
 exact AtQ.f1 (HH := []) Tryz.results42 rfl rfl dR_
end Go.Proofs.YtdemnhdoadjhhaaGreatDoor
end
section
namespace Go.Proofs.YtdemnhdoadjhhaaGreatDoor
open Go.Sk
set_option maxRecDepth 100000
abbrev sO (a : Option Addr) (c N : Nat) (l : List SymT) : HP := Own a c 79 3 N (l.flatMap SymT.cells)
theorem sO_rd {B : World} {H R : List HP} {a : Option Addr} {c N : Nat} {l : List SymT} (hs : Sel H (sO a c N l) R) (hN : l.length = N) (hNc : N ≤ c) : Rd B H a N c 3 (l.flatMap SymT.cells) := Own.rd hs (by rw [flat_len sym_len, hN]) hNc
theorem swap_round {A X M Y C : List SymT} {i : Nat} {x y : SymT} (hx : X[i]? = some x) (hy : Y[i]? = some y) :
  A ++ Y.take i ++ X.drop i ++ M ++ X.take i ++ Y.drop i ++ C = (A ++ Y.take i) ++ x :: ((X.drop (i + 1) ++ M ++ X.take i) ++ y :: (Y.drop (i + 1) ++ C)) ∧
  A ++ Y.take (i + 1) ++ X.drop (i + 1) ++ M ++ X.take (i + 1) ++ Y.drop (i + 1) ++ C = (A ++ Y.take i) ++ y :: ((X.drop (i + 1) ++ M ++ X.take i) ++ x :: (Y.drop (i + 1) ++ C)) := by
 obtain ⟨hi, ex⟩ := List.getElem?_eq_some_iff.1 hx
 obtain ⟨hj, ey⟩ := List.getElem?_eq_some_iff.1 hy
 rw [List.drop_eq_getElem_cons hi, List.drop_eq_getElem_cons hj, ex, ey, List.take_add_one, List.take_add_one, hx, hy]
 simp
attribute [local irreducible] Cs Own Ex Pu Yld RT LJ QJ AtQ CT Rd QSp Sp FinQ Then LoopQ CutQ DT TakeQ EffQ
variable {B : World} {R : List HP}
set_option maxHeartbeats 4000000 in
theorem swap_fn {a : Option Addr} {c N : Nat} {A X M Y C D D' : List SymT} {p q k : Int} {f : Value} (hD : D = A ++ X ++ M ++ Y ++ C) (hD' : D' = A ++ Y ++ M ++ X ++ C) (hN : D.length = N) (hNc : N ≤ c) (hb : N ≤ 1073741824)
  (hp : p = A.length) (hq : q = A.length + X.length + M.length) (hk : k = X.length) (hxy : X.length = Y.length) :
  Sp B Tryz.prog 168 [.slice a N c, .int .i64 p, .int .i64 q, .int .i64 k, f] R [sO a c N D] (fun v H' => v = .tuple #[] ∧ H' = [sO a c N D']) := by
 have hNl : A.length + X.length + M.length + Y.length + C.length = N := by rw [← hN, hD]; simp only [List.length_append]
 refine Sp.body Tryz.func168 rfl Tryz.ntmps168 (by simp) ?_
 simp only [argE, List.cons_append, List.nil_append, Nat.zero_add, Nat.reduceAdd]
 subst hp hq hk
 try refine gL ?_
 refine CT.loop (α := Nat) (fun i => [(0, .slice a N c), (1, .int .i64 A.length), (2, .int .i64 (A.length + X.length + M.length)), (3, .int .i64 X.length), (10, .int .i64 i)])
  (fun i => Pu (i ≤ X.length) :: sO a c N (A ++ Y.take i ++ X.drop i ++ M ++ X.take i ++ Y.drop i ++ C) :: R) (fun i => X.length - i) 0
  ⟨rfl, rfl, rfl, rfl, rfl, trivial⟩ (fun w h => Sat.pu_in (Nat.zero_le _) (by simpa [hD] using h)) (fun i => CT.pu fun hi => ?_)
 repeat' (first|refine gQ ?_|(refine gv ?_;(refine⟨fun hc=>?_,fun hc=>?_⟩<;>first|(exfalso;omega)|skip))|fail)
 ·have hi' : i < X.length := by omega
  obtain ⟨x, hx⟩ : ∃ x, X[i]? = some x := ⟨_, List.getElem?_eq_getElem hi'⟩
  obtain ⟨y, hy⟩ : ∃ y, Y[i]? = some y := ⟨_, List.getElem?_eq_getElem (by omega)⟩
  obtain ⟨e1, e2⟩ := swap_round (A := A) (M := M) (C := C) hx hy
  have hl1 : (A ++ Y.take i).length = A.length + i := by rw [List.length_append, List.length_take]; omega
  have hl2 : (A ++ Y.take i).length + 1 + (X.drop (i + 1) ++ M ++ X.take i).length = A.length + X.length + M.length + i := by
   rw [hl1]; simp only [List.length_append, List.length_drop, List.length_take]; omega
  have g1 := get_at (x := x) (R := (X.drop (i + 1) ++ M ++ X.take i) ++ y :: (Y.drop (i + 1) ++ C)) hl1
  have g2 := get_at2 (x := x) (y := y) (R := Y.drop (i + 1) ++ C) hl2
  have es := swap_two' (x := x) (y := y) (R := Y.drop (i + 1) ++ C) hl1 hl2
  have hNN : (A ++ Y.take i ++ X.drop i ++ M ++ X.take i ++ Y.drop i ++ C).length = N := by simp only [List.length_append, List.length_drop, List.length_take]; omega
  rw [← e1] at g1 g2 es
  rw [← e2] at es
  clear e1 e2 hl1 hl2
  generalize hDi : A ++ Y.take i ++ X.drop i ++ M ++ X.take i ++ Y.drop i ++ C = Di at *
  refine CT.drawn [sO a c N Di] 21 mixed ?_
  refine DT.mv 4 rfl rfl rfl (by kernel_rfl) (by kernel_rfl) (by kernel_rfl) rfl (Clos.ofB (by kernel_rfl)) (fun w h => Sat.ones fR_ h) ?_
  refine DT.mv 5 rfl rfl rfl (by kernel_rfl) (by kernel_rfl) (by kernel_rfl) rfl (Clos.ofB (by kernel_rfl)) (fun w h => Sat.ones fR_ h) ?_
  refine DT.mv 6 rfl rfl rfl (by kernel_rfl) (by kernel_rfl) (by kernel_rfl) rfl (Clos.ofB (by kernel_rfl)) (fun w h => Sat.ones fR_ h) ?_
  refine DT.add 7 rfl rfl rfl (wr_i64 (by omega) (by omega)) rfl (by kernel_rfl) (by kernel_rfl) (by kernel_rfl) rfl (Clos.ofB (by kernel_rfl)) (fun w h => Sat.ones fR_ h) ?_
  (refine DT.takes (k := 3) [0, 1, 2, 3, 8, 9, 10, 11, 12, 13, 14, 15, 16, 17, 18, 19, 20] [21] (fun w h => Sat.ones (by (repeat (first|exact Fr.nil|(apply Fr.cons;focus ((repeat constructor);done))))) h) (by kernel_rfl) (by kernel_rfl) (by kernel_rfl) rfl (Clos.ofB (by kernel_rfl)) ?_)
  repeat' (first|refine gL ?_|(refine gv ?_;refine gk ?_)|fail)
  refine RT.ix T (j := (A.length + X.length + M.length + i) * 3) rfl rfl rfl (sO_rd sE_ hNN hNc) (by omega) (by omega) (by omega) rfl rfl ?_
  refine RT.ldra T rfl (sO_rd sE_ hNN hNc) (l := y.cells) (flat_sub (f := SymT.cells) (z := 3) (fun _ => rfl) Di _ _ g2) rfl rfl rfl rfl ?_
  repeat' (first|refine gL ?_|(refine gv ?_;refine gk ?_)|fail)
  refine RT.ix T (j := (A.length + i) * 3) rfl rfl rfl (sO_rd sE_ hNN hNc) (by omega) (by omega) (by omega) rfl rfl ?_
  refine RT.ldra T rfl (sO_rd sE_ hNN hNc) (l := x.cells) (flat_sub (f := SymT.cells) (z := 3) (fun _ => rfl) Di _ _ g1) rfl rfl rfl rfl ?_
  skip
  refine RT.ix T (j := (A.length + i) * 3) rfl rfl rfl (sO_rd sE_ hNN hNc) (by omega) (by omega) (by omega) rfl rfl ?_
  try refine gL ?_
  refine AtQ.take ?_
  (refine DT.eff 21 rfl (by kernel_rfl) ?_)
  refine RT.stoA T (v := y.cells) rfl rfl rfl (by ((repeat constructor);done)) (by rw [flat_len sym_len, hNN, sym_len]; omega) (by rw [sym_len]; decide) rfl rfl rfl ?_
  rw [sym_len, flat_set sym_len _ (by rw [hNN]; omega)]
  (refine RT.nil ?_; refine AtQ.eff' (by kernel_rfl) ?_)
  (refine DT.eff 22 rfl (by kernel_rfl) ?_)
  refine RT.ix T (j := (A.length + X.length + M.length + i) * 3) rfl rfl rfl (sO_rd sE_ (by rw [List.length_set, hNN]) hNc) (by omega) (by omega) (by omega) rfl rfl ?_
  (refine RT.nil ?_; refine AtQ.eff' (by kernel_rfl) ?_)
  (refine DT.eff 23 rfl (by kernel_rfl) ?_)
  refine RT.stoA T (v := x.cells) rfl rfl rfl (by ((repeat constructor);done)) (by rw [flat_len sym_len, List.length_set, hNN, sym_len]; omega) (by rw [sym_len]; decide) rfl rfl rfl ?_
  rw [sym_len, flat_set sym_len _ (by rw [List.length_set, hNN]; omega), es]
  (refine RT.nil ?_; refine AtQ.eff' (by kernel_rfl) ?_)
  (refine DT.done (by kernel_rfl) ?_)
  repeat' (first|refine gL ?_|(refine gv ?_;refine gk ?_)|fail)
  exact AtQ.loop (i + 1) ⟨rfl, rfl, rfl, rfl, rfl, trivial⟩ (fun w h => Sat.pu_in (by omega) h) (by omega)
 ·have hie : i = X.length := by omega
  subst hie
  refine AtQ.fin0 Tryz.results168 (H' := [sO a c N D']) ⟨rfl, rfl⟩ (fun w h => ?_) _ (by first | exact .inl rfl | exact .inr rfl)
  rw [List.take_of_length_le (by omega : Y.length ≤ X.length), List.drop_of_length_le (by omega : Y.length ≤ X.length), List.take_of_length_le (Nat.le_refl _), List.drop_of_length_le (Nat.le_refl _), List.append_nil, List.append_nil] at h
  rw [hD']
  exact h
end Go.Proofs.YtdemnhdoadjhhaaGreatDoor
end
section
namespace Go.Proofs.YtdemnhdoadjhhaaGreatDoor
open Go.Sk
set_option maxRecDepth 100000
theorem split_len {l : List SymT} {k : Nat} (h : k ≤ l.length) : ∃ a b, l = a ++ b ∧ a.length = k := ⟨l.take k, l.drop k, (List.take_append_drop _ _).symm, by rw [List.length_take]; omega⟩
abbrev cF : Value := .func (.func 42) #[] #[]
attribute [local irreducible] Cs Own Ex Pu Yld RT LJ QJ AtQ CT Rd QSp Sp FinQ Then LoopQ CutQ DT TakeQ EffQ
variable {B : World} {R : List HP}
set_option maxHeartbeats 4000000 in
theorem rotate_fn {a : Option Addr} {c N m : Nat} {A X Y C D D' : List SymT} {p q : Int} {f : Value} (hD : D = A ++ X ++ Y ++ C) (hD' : D' = A ++ Y ++ X ++ C) (hN : D.length = N) (hNc : N ≤ c) (hb : N ≤ 1073741824)
  (hm : A.length + X.length = m) (hp : p = A.length) (hq : q = m + Y.length) (hx : 0 < X.length) (hy : 0 < Y.length) :
  Sp B Tryz.prog 157 [.slice a N c, .int .i64 p, .int .i64 m, .int .i64 q, f] R [sO a c N D] (fun v H' => v = .tuple #[] ∧ H' = [sO a c N D']) := by
 have hNl : A.length + X.length + Y.length + C.length = N := by rw [← hN, hD]; simp only [List.length_append]
 refine Sp.body Tryz.func157 rfl Tryz.ntmps157 (by simp) ?_
 simp only [argE, List.cons_append, List.nil_append, Nat.zero_add, Nat.reduceAdd]
 subst hp hq
 repeat' (first|refine gL ?_|(refine gv ?_;refine gk ?_)|fail)
 refine CT.loop (α := List SymT × List SymT × List SymT × List SymT) (fun s => [(0, .slice a N c), (2, .int .i64 m), (4, f), (10, .int .i64 s.2.1.length), (11, .int .i64 s.2.2.1.length)])
  (fun s => Pu (s.1.length + s.2.1.length = m ∧ D' = s.1 ++ s.2.2.1 ++ s.2.1 ++ s.2.2.2 ∧ 0 < s.2.1.length ∧ 0 < s.2.2.1.length ∧ s.1.length + s.2.1.length + s.2.2.1.length + s.2.2.2.length = N) :: sO a c N (s.1 ++ s.2.1 ++ s.2.2.1 ++ s.2.2.2) :: R) (fun s => s.2.1.length + s.2.2.1.length) (A, X, Y, C)
  ⟨rfl, rfl, rfl, congrArg (fun z : Int => some (Value.int IntKind.i64 z)) (by dsimp only; omega), congrArg (fun z : Int => some (Value.int IntKind.i64 z)) (by dsimp only; omega), trivial⟩
  (fun w h => Sat.pu_in ⟨hm, hD', hx, hy, hNl⟩ (by rw [← hD]; exact h)) (fun s => CT.pu fun hh => ?_)
 obtain ⟨P, X', Y', S⟩ := s
 obtain ⟨h1, h2, h3, h4, h5⟩ := hh
 dsimp only at h1 h2 h3 h4 h5 ⊢
 clear hm hD hD' hx hy hNl hN
 subst h2
 repeat' (first|refine gL ?_|(refine gv ?_;first|(refine⟨fun hc=>?_,fun hc=>?_⟩<;>first|(exfalso;omega)|skip)|refine gk ?_)|fail)
 ·refine RT.call T rfl fR_ (swap_fn (A := P) (X := X') (M := []) (Y := Y') (C := S) (D' := P ++ Y' ++ X' ++ S) (by simp only [List.append_nil]) (by simp only [List.append_nil]) (by simp only [List.length_append]; omega) hNc hb (by omega) (by simp only [List.length_nil]; omega) (by omega) (by omega)) rfl rfl rfl ?_
  rintro _ _ ⟨rfl, rfl⟩
  simp only [List.cons_append, List.nil_append]
  try refine gL ?_
  exact AtQ.fin0 Tryz.results157 (H' := [sO a c N (P ++ Y' ++ X' ++ S)]) ⟨rfl, rfl⟩ (fun w h => h) _ (by first | exact .inl rfl | exact .inr rfl)
 ·rename_i hc0
  obtain ⟨X1, X2, rfl, hx1⟩ := split_len (l := X') (k := Y'.length) (by omega)
  simp only [List.length_append] at h1 h3 h4 h5 hc0 hc ⊢
  refine RT.call T rfl fR_ (swap_fn (A := P) (X := X1) (M := X2) (Y := Y') (C := S) (D' := P ++ Y' ++ X2 ++ X1 ++ S) (by simp only [List.append_assoc]) rfl (by simp only [List.length_append]; omega) hNc hb (by omega) (by omega) (by omega) (by omega)) rfl rfl rfl ?_
  rintro _ _ ⟨rfl, rfl⟩
  simp only [List.cons_append, List.nil_append]
  repeat' (first|refine gL ?_|(refine gv ?_;refine gk ?_)|fail)
  exact AtQ.loop (P ++ Y', X2, X1, S) ⟨rfl, rfl, rfl, congrArg (fun z : Int => some (Value.int IntKind.i64 z)) (by dsimp only; omega), congrArg (fun z : Int => some (Value.int IntKind.i64 z)) (by dsimp only; omega), trivial⟩
   (fun w h => Sat.pu_in ⟨by simp only [List.length_append]; omega, by simp only [List.append_assoc], by dsimp only; omega, by dsimp only; omega, by simp only [List.length_append]; omega⟩ h) (by simp only [List.length_append]; omega)
 ·rename_i hc0
  obtain ⟨Y1, Y2, rfl, hy1⟩ := split_len (l := Y') (k := Y'.length - X'.length) (by omega)
  simp only [List.length_append] at h1 h3 h4 h5 hc0 hc hy1 ⊢
  refine RT.call T rfl fR_ (swap_fn (A := P) (X := X') (M := Y1) (Y := Y2) (C := S) (D' := P ++ Y2 ++ Y1 ++ X' ++ S) (by simp only [List.append_assoc]) rfl (by simp only [List.length_append]; omega) hNc hb (by omega) (by omega) (by omega) (by omega)) rfl rfl rfl ?_
  rintro _ _ ⟨rfl, rfl⟩
  simp only [List.cons_append, List.nil_append]
  repeat' (first|refine gL ?_|(refine gv ?_;refine gk ?_)|fail)
  exact AtQ.loop (P, Y2, Y1, X' ++ S) ⟨rfl, rfl, rfl, congrArg (fun z : Int => some (Value.int IntKind.i64 z)) (by dsimp only; omega), congrArg (fun z : Int => some (Value.int IntKind.i64 z)) (by dsimp only; omega), trivial⟩
   (fun w h => Sat.pu_in ⟨by dsimp only; omega, by simp only [List.append_assoc], by dsimp only; omega, by dsimp only; omega, by simp only [List.length_append]; omega⟩ (by simpa only [List.append_assoc] using h)) (by simp only [List.length_append]; omega)
end Go.Proofs.YtdemnhdoadjhhaaGreatDoor
end
section
namespace Go.Proofs.YtdemnhdoadjhhaaGreatDoor
open Go.Sk
set_option maxRecDepth 100000
theorem ins_step {A S C : List SymT} {x z : SymT} {k : Nat} (hz : S[k]? = some z) :
  A ++ S.take (k + 1) ++ x :: (S.drop (k + 1) ++ C) = (A ++ S.take k) ++ z :: ([] ++ x :: (S.drop (k + 1) ++ C)) ∧
  A ++ S.take k ++ x :: (S.drop k ++ C) = (A ++ S.take k) ++ x :: ([] ++ z :: (S.drop (k + 1) ++ C)) := by
 obtain ⟨hi, e⟩ := List.getElem?_eq_some_iff.1 hz
 rw [List.take_add_one, hz, List.drop_eq_getElem_cons hi, e]
 simp
attribute [local irreducible] Cs Own Ex Pu Yld RT LJ QJ AtQ CT Rd QSp Sp FinQ Then LoopQ CutQ DT TakeQ EffQ
variable {B : World} {R : List HP}
set_option maxHeartbeats 8000000 in
theorem ins_fn {a : Option Addr} {c N : Nat} {A X C D : List SymT} {p q : Int} (hD : D = A ++ X ++ C) (hN : D.length = N) (hNc : N ≤ c) (hb : N ≤ 1073741824) (hp : p = A.length) (hq : q = A.length + X.length) (hok : ∀ s ∈ X, s.Ok) :
  Sp B Tryz.prog 128 [.slice a N c, .int .i64 p, .int .i64 q, cF] R [sO a c N D] (fun v H' => v = .tuple #[] ∧ ∃ X', X'.Perm X ∧ Srt befB X' ∧ H' = [sO a c N (A ++ X' ++ C)]) := by
 have hNl : A.length + X.length + C.length = N := by rw [← hN, hD]; simp only [List.length_append]
 subst hp hq
 refine Sp.body Tryz.func128 rfl Tryz.ntmps128 (by simp) ?_
 simp only [argE, List.cons_append, List.nil_append, Nat.zero_add, Nat.reduceAdd]
 cases X with
 | nil =>
  simp only [List.length_nil] at hNl ⊢
  repeat' (first|refine gS ?_|(refine gv ?_;first|(refine⟨fun hc=>?_,fun hc=>?_⟩<;>first|(exfalso;omega)|skip)|refine gk ?_)|(refine CT.id_ ?_;refine CT.loop0 ?_)|refine gc ?_|fail)
  exact AtQ.fin0 Tryz.results128 (H' := [sO a c N (A ++ [] ++ C)]) ⟨rfl, [], List.Perm.refl _, Srt.nil, rfl⟩ (fun w h => by rw [← hD]; exact h) _ (by first | exact .inl rfl | exact .inr rfl)
 | cons x0 X0 =>
 generalize hX : x0 :: X0 = X at *
 have hX1 : 1 ≤ X.length := by rw [← hX]; simp
 have hX0 : X = [x0] ++ X.drop 1 := by rw [← hX]; rfl
 repeat' (first|refine gL ?_|(refine gv ?_;refine gk ?_)|fail)
 refine CT.loop (α := List SymT) (fun s => [(0, .slice a N c), (1, .int .i64 A.length), (2, .int .i64 (A.length + X.length)), (3, cF), (8, .int .i64 (A.length + s.length))])
  (fun s => Pu (s.length ≤ X.length ∧ s.Perm (X.take s.length) ∧ Srt befB s) :: sO a c N (A ++ s ++ (X.drop s.length ++ C)) :: R) (fun s => X.length - s.length) [x0]
  ⟨rfl, rfl, rfl, rfl, rfl, trivial⟩
  (fun w h => Sat.pu_in ⟨hX1, by rw [← hX]; exact List.Perm.refl _, Srt.one⟩ (by
   have e : A ++ [x0] ++ (X.drop [x0].length ++ C) = D := by rw [hD]; conv => { rhs; rw [hX0] }; simp
   rw [e]; exact h)) (fun s => CT.pu fun ⟨h1, h2, h3⟩ => ?_)
 clear hX hX0 hD hN
 repeat' (first|refine gS ?_|(refine gv ?_;(refine⟨fun hc=>?_,fun hc=>?_⟩<;>first|(exfalso;omega)|skip))|(refine CT.id_ ?_;first|refine CT.seqN 4 rfl ?_|refine CT.blockN 4 rfl ?_|refine CT.region ?_|refine CT.cond_t rfl ?_|refine CT.cond_f rfl ?_|refine CT.skip ?_|refine CT.exit ?_)|fail)
 ·have hi : s.length < X.length := by omega
  obtain ⟨x, hx⟩ : ∃ x, X[s.length]? = some x := ⟨_, List.getElem?_eq_getElem hi⟩
  have hxd : X.drop s.length = x :: X.drop (s.length + 1) := by
   obtain ⟨hj, e⟩ := List.getElem?_eq_some_iff.1 hx
   rw [List.drop_eq_getElem_cons hj, e]
  have hxok := hok x (List.mem_of_getElem? hx)
  have hsok : ∀ z ∈ s, z.Ok := fun z hz => hok z (List.mem_of_mem_take (h2.mem_iff.1 hz))
  have hdl : (X.drop (s.length + 1)).length = X.length - (s.length + 1) := List.length_drop
  have hpm : ∀ k, (s.take k ++ x :: s.drop k).Perm (X.take (s.length + 1)) := fun k => by
   have e : X.take (s.length + 1) = X.take s.length ++ [x] := by rw [List.take_add_one, hx]; rfl
   rw [e]
   refine List.perm_middle.trans ?_
   rw [List.take_append_drop]
   exact (List.Perm.cons x h2).trans (List.perm_append_comm (l₁ := [x]) (l₂ := X.take s.length))
  rw [hxd]
  generalize hC : X.drop (s.length + 1) ++ C = C'
  have hCl : C'.length = X.length - (s.length + 1) + C.length := by rw [← hC, List.length_append, hdl]
  refine CT.block ?_
  refine CT.loop (α := Nat) (fun k => [(0, .slice a N c), (1, .int .i64 A.length), (2, .int .i64 (A.length + X.length)), (3, cF), (8, .int .i64 (A.length + s.length)), (9, .int .i64 (A.length + k))])
   (fun k => Pu (k ≤ s.length ∧ ∀ z ∈ s.drop k, befB x z = true) :: sO a c N (A ++ s.take k ++ x :: (s.drop k ++ C')) :: R) (fun k => k) s.length
   ⟨rfl, rfl, rfl, rfl, rfl, rfl, trivial⟩ (fun w h => Sat.pu_in ⟨Nat.le_refl _, by simp⟩ (by rw [← hC]; simpa using h)) (fun k => CT.pu fun ⟨hk, hkx⟩ => ?_)
  have hNN : (A ++ s.take k ++ x :: (s.drop k ++ C')).length = N := by simp only [List.length_append, List.length_cons, List.length_take, List.length_drop]; omega
  have hlt : (A ++ s.take k).length = A.length + k := by rw [List.length_append, List.length_take]; omega
  have gx := get_at (x := x) (R := s.drop k ++ C') hlt
  try refine gQ ?_
  refine CT.tail 14 mixed (by kernel_rfl) ?_
  dsimp only [List.take_succ_cons, List.take_zero]
  repeat' (first|refine gL ?_|(refine gv ?_;(refine⟨fun hc=>?_,fun hc=>?_⟩<;>first|(exfalso;omega)|skip))|fail)
  ·obtain ⟨k, rfl⟩ : ∃ k', k = k' + 1 := ⟨k - 1, by omega⟩
   obtain ⟨z, hz⟩ : ∃ z, s[k]? = some z := ⟨_, List.getElem?_eq_getElem (by omega)⟩
   have hzok := hsok z (List.mem_of_getElem? hz)
   obtain ⟨e1, e2⟩ := ins_step (A := A) (C := C') (x := x) hz
   have hl0 : (A ++ s.take k).length = A.length + k := by rw [List.length_append, List.length_take]; omega
   have gz := get_at (x := z) (R := [] ++ x :: (s.drop (k + 1) ++ C')) hl0
   have es := swap_two (x := z) (y := x) (Q := []) (R := s.drop (k + 1) ++ C') hl0 (j := A.length + (k + 1)) (by rw [hl0]; simp only [List.length_nil]; omega)
   rw [← e1] at gz es
   rw [← e2] at es
   generalize hDi : A ++ s.take (k + 1) ++ x :: (s.drop (k + 1) ++ C') = Di at *
   refine RT.ix T (j := (A.length + (k + 1)) * 3) rfl rfl rfl (sO_rd sE_ hNN hNc) (by omega) (by omega) (by omega) rfl rfl ?_
   refine RT.ldra T rfl (sO_rd sE_ hNN hNc) (l := x.cells) (flat_sub (f := SymT.cells) (z := 3) (fun _ => rfl) Di _ _ gx) rfl rfl rfl rfl ?_
   repeat' (first|refine gL ?_|(refine gv ?_;refine gk ?_)|fail)
   refine RT.ix T (j := (A.length + k) * 3) rfl rfl rfl (sO_rd sE_ hNN hNc) (by omega) (by omega) (by omega) rfl rfl ?_
   refine RT.ldra T rfl (sO_rd sE_ hNN hNc) (l := z.cells) (flat_sub (f := SymT.cells) (z := 3) (fun _ => rfl) Di _ _ gz) rfl rfl rfl rfl ?_
   try refine gL ?_
   refine AtQ.tail ?_
   refine RT.callV T rfl rfl fR_ (cmp_fn hxok hzok) rfl rfl rfl ?_
   rintro _ _ ⟨rfl, rfl⟩
   simp only [List.nil_append]
   repeat' (first|refine gQ ?_|(refine gv ?_;first|(refine⟨fun hc=>?_,fun hc=>?_⟩<;>first|(exfalso;omega)|skip)|refine gk ?_)|fail)
   ·((refine CT.drawn [sO a c N (Di)] 15 mixed ?_); (refine DT.mv 2 rfl rfl rfl (by kernel_rfl) (by kernel_rfl) (by kernel_rfl) rfl (Clos.ofB (by kernel_rfl)) (fun w h => Sat.ones (by (repeat (first|exact Fr.nil|(apply Fr.cons;focus ((repeat constructor);done))))) h) ?_); (refine DT.mv 3 rfl rfl rfl (by kernel_rfl) (by kernel_rfl) (by kernel_rfl) rfl (Clos.ofB (by kernel_rfl)) (fun w h => Sat.ones (by (repeat (first|exact Fr.nil|(apply Fr.cons;focus ((repeat constructor);done))))) h) ?_); (refine DT.sub 4 rfl rfl rfl (wr_i64 (by omega) (by omega)) rfl (by kernel_rfl) (by kernel_rfl) (by kernel_rfl) rfl (Clos.ofB (by kernel_rfl)) (fun w h => Sat.ones (by (repeat (first|exact Fr.nil|(apply Fr.cons;focus ((repeat constructor);done))))) h) ?_); (refine DT.takes (k := 3) [0, 1, 5, 6, 7, 8, 9, 10, 11, 12, 13, 14] [15] (fun w h => Sat.ones (by (repeat (first|exact Fr.nil|(apply Fr.cons;focus ((repeat constructor);done))))) h) (by kernel_rfl) (by kernel_rfl) (by kernel_rfl) rfl (Clos.ofB (by kernel_rfl)) ?_); (repeat' (first|refine gL ?_|(refine gv ?_;refine gk ?_)|fail)); (refine RT.ix T (j := (A.length + k) * 3) rfl rfl rfl (sO_rd (by ((repeat constructor);done)) hNN hNc) (by omega) (by omega) (by omega) rfl rfl ?_); (refine RT.ldra T rfl (sO_rd (by ((repeat constructor);done)) hNN hNc) (l := SymT.cells z) (flat_sub (f := SymT.cells) (z := 3) (fun _ => rfl) Di _ _ gz) rfl rfl rfl rfl ?_); (try refine gL ?_); (refine RT.ix T (j := (A.length + (k + 1)) * 3) rfl rfl rfl (sO_rd (by ((repeat constructor);done)) hNN hNc) (by omega) (by omega) (by omega) rfl rfl ?_); (refine RT.ldra T rfl (sO_rd (by ((repeat constructor);done)) hNN hNc) (l := SymT.cells x) (flat_sub (f := SymT.cells) (z := 3) (fun _ => rfl) Di _ _ gx) rfl rfl rfl rfl ?_); (skip); (refine RT.ix T (j := (A.length + (k + 1)) * 3) rfl rfl rfl (sO_rd (by ((repeat constructor);done)) hNN hNc) (by omega) (by omega) (by omega) rfl rfl ?_); (try refine gL ?_); (refine AtQ.take ?_); (refine DT.eff 15 rfl (by kernel_rfl) ?_); (refine RT.stoA T (v := SymT.cells z) rfl rfl rfl (by ((repeat constructor);done)) (by rw [flat_len sym_len, hNN, sym_len]; omega) (by rw [sym_len]; decide) rfl rfl rfl ?_); (rw [sym_len, flat_set sym_len _ (by rw [hNN]; omega)]); (refine RT.nil ?_; refine AtQ.eff' (by kernel_rfl) ?_); (refine DT.eff 16 rfl (by kernel_rfl) ?_); (refine RT.ix T (j := (A.length + k) * 3) rfl rfl rfl (sO_rd (by ((repeat constructor);done)) (by rw [List.length_set, hNN]) hNc) (by omega) (by omega) (by omega) rfl rfl ?_); (refine RT.nil ?_; refine AtQ.eff' (by kernel_rfl) ?_); (refine DT.eff 17 rfl (by kernel_rfl) ?_); (refine RT.stoA T (v := SymT.cells x) rfl rfl rfl (by ((repeat constructor);done)) (by rw [flat_len sym_len, List.length_set, hNN, sym_len]; omega) (by rw [sym_len]; decide) rfl rfl rfl ?_); (rw [sym_len, flat_set sym_len _ (by rw [List.length_set, hNN]; omega), es]); (refine RT.nil ?_; refine AtQ.eff' (by kernel_rfl) ?_); (refine DT.done (by kernel_rfl) ?_))
    repeat' (first|refine gL ?_|(refine gv ?_;refine gk ?_)|fail)
    exact AtQ.loop k ⟨rfl, rfl, rfl, rfl, rfl, congrArg (fun z : Int => some (Value.int IntKind.i64 z)) (by omega), trivial⟩ (fun w h => Sat.pu_in ⟨by omega, fun y hy => by
     have hdk : s.drop k = z :: s.drop (k + 1) := by
      obtain ⟨hj, e⟩ := List.getElem?_eq_some_iff.1 hz
      rw [List.drop_eq_getElem_cons hj, e]
     rw [hdk] at hy
     rcases List.mem_cons.1 hy with rfl | hy
     ·rw [← cmpV_lt]; omega
     ·exact hkx y hy⟩ h) (by omega)
   ·have hlast : ∀ y ∈ s.take (k + 1), befB x y = false := by
     have e : s.take (k + 1) = s.take k ++ [z] := by rw [List.take_add_one, hz]; rfl
     have hst : Srt befB (s.take (k + 1) ++ s.drop (k + 1)) := by rw [List.take_append_drop]; exact h3
     have hs1 := (srt_app.1 hst).1
     rw [e] at hs1 ⊢
     exact srt_last bef_wk hs1 (cmpV_f (by omega))
    skip
    have hlS : (s.take (k + 1) ++ x :: s.drop (k + 1)).length = s.length + 1 := by rw [(hpm (k + 1)).length_eq, List.length_take]; omega
    exact AtQ.loop (s.take (k + 1) ++ x :: s.drop (k + 1)) ⟨rfl, rfl, rfl, rfl, congrArg (fun z : Int => some (Value.int IntKind.i64 z)) (by rw [hlS]; omega), trivial⟩
     (fun w h => Sat.pu_in ⟨by omega, by rw [hlS]; exact hpm (k + 1), ins_ok bef_wk (by rw [List.take_append_drop]; exact h3) hlast (fun y hy => bef_wk.asy (hkx y hy))⟩ (by rw [hlS, hC]; rw [← hDi] at h; simpa only [List.append_assoc, List.cons_append] using h)) (by rw [hlS]; omega)
  ·obtain rfl : k = 0 := by omega
   skip
   refine AtQ.tail ?_
   repeat' (first|refine gL ?_|(refine gv ?_;refine gk ?_)|fail)
   have hlS : (s.take 0 ++ x :: s.drop 0).length = s.length + 1 := by rw [(hpm 0).length_eq, List.length_take]; omega
   exact AtQ.loop (s.take 0 ++ x :: s.drop 0) ⟨rfl, rfl, rfl, rfl, congrArg (fun z : Int => some (Value.int IntKind.i64 z)) (by rw [hlS]; omega), trivial⟩
    (fun w h => Sat.pu_in ⟨by omega, by rw [hlS]; exact hpm 0, ins_ok bef_wk (by rw [List.take_append_drop]; exact h3) (fun y hy => by simp at hy) (fun y hy => bef_wk.asy (hkx y hy))⟩ (by rw [hlS, hC]; simpa only [List.append_assoc, List.cons_append] using h)) (by rw [hlS]; omega)
 ·have hle : s.length = X.length := by omega
  rw [hle, List.take_length] at h2
  exact AtQ.fin0 Tryz.results128 (H' := [sO a c N (A ++ s ++ C)]) ⟨rfl, s, h2, h3, rfl⟩ (fun w h => by rw [hle, List.drop_length, List.nil_append] at h; exact h) _ (by first | exact .inl rfl | exact .inr rfl)
end Go.Proofs.YtdemnhdoadjhhaaGreatDoor
end
section
namespace Go.Proofs.YtdemnhdoadjhhaaGreatDoor
open Go.Sk
section
variable {α : Type} {lt : α → α → Bool}
theorem le_all (hw : Wk lt) {P Q : List α} {x y : α} (hP : Srt lt (P ++ [x])) (hQ : Srt lt (y :: Q)) (h : lt y x = false) : ∀ u ∈ P ++ [x], ∀ v ∈ y :: Q, lt v u = false := fun u hu v hv =>
 srt_head hw hQ (srt_last hw hP h u hu) v hv
theorem last_of {l : List α} {x : α} (h : l[l.length - 1]? = some x) : ∃ P, l = P ++ [x] := by
 rw [← List.getLast?_eq_getElem?] at h
 obtain ⟨P, e⟩ := List.getLast?_eq_some_iff.1 h
 exact ⟨P, e⟩
theorem head_of {l : List α} {x : α} (h : l[0]? = some x) : ∃ Q, l = x :: Q := by
 cases l with
 | nil => cases h
 | cons y l => simp at h; subst h; exact ⟨l, rfl⟩
theorem at_mid {P L S : List α} {i j : Nat} (hj : P.length + i = j) (h : i < L.length) : (P ++ L ++ S)[j]? = L[i]? := by
 subst hj
 rw [List.append_assoc, List.getElem?_append_right (by omega), Nat.add_sub_cancel_left, List.getElem?_append_left h]
theorem front_ok (hw : Wk lt) {Y : List α} {w : Nat} {x y : α} (hY : Srt lt Y) (hy : Y[w]? = some y) (h : lt x y = false) : ∀ z ∈ Y.take (w + 1), lt x z = false := by
 have e : Y.take (w + 1) = Y.take w ++ [y] := by rw [List.take_add_one, hy]; rfl
 have hs : Srt lt (Y.take (w + 1) ++ Y.drop (w + 1)) := by rw [List.take_append_drop]; exact hY
 have h1 := (srt_app.1 hs).1
 rw [e] at h1 ⊢
 exact srt_last hw h1 h
theorem back_ok (hw : Wk lt) {Y : List α} {w : Nat} {x y : α} (hY : Srt lt Y) (hy : Y[w]? = some y) (h : lt y x = false) : ∀ z ∈ Y.drop w, lt z x = false := by
 have e : Y.drop w = y :: Y.drop (w + 1) := by
  obtain ⟨hj, e⟩ := List.getElem?_eq_some_iff.1 hy
  rw [List.drop_eq_getElem_cons hj, e]
 have hs : Srt lt (Y.take w ++ Y.drop w) := by rw [List.take_append_drop]; exact hY
 have h1 := (srt_app.1 hs).2.1
 rw [e] at h1 ⊢
 exact srt_head hw h1 h
/-- All of the first one's front are at most all of the second one's end. -/
theorem cross (hw : Wk lt) {X1 X2 Y1 Y2 : List α} {x y : α} (hX : Srt lt (X1 ++ X2)) (hY : Srt lt (Y1 ++ Y2)) (hx : X1[X1.length - 1]? = some x) (hy : Y2[0]? = some y) (h : lt y x = false) : ∀ u ∈ X1, ∀ v ∈ Y2, lt v u = false := by
 obtain ⟨P, rfl⟩ := last_of hx
 obtain ⟨Q, rfl⟩ := head_of hy
 exact le_all hw (srt_app.1 hX).1 (srt_app.1 hY).2.1 h
theorem cross' (hw : Wk lt) {X1 X2 Y1 Y2 : List α} {x y : α} (hX : Srt lt (X1 ++ X2)) (hY : Srt lt (Y1 ++ Y2)) (hx : X2[0]? = some x) (hy : Y1[Y1.length - 1]? = some y) (h : lt y x = true) : ∀ v ∈ Y1, ∀ u ∈ X2, lt u v = false := by
 obtain ⟨Q, rfl⟩ := head_of hx
 obtain ⟨P, rfl⟩ := last_of hy
 exact le_all hw (srt_app.1 hY).1 (srt_app.1 hX).2.1 (hw.asy h)
/-- Where the search among two sorted rows ends, they are cut so that the fronts stand ahead of the ends. -/
theorem cut_ok (hw : Wk lt) {A X1 X2 Y1 Y2 C D : List α} {s lo hi : Nat} (hD : D = A ++ (X1 ++ X2) ++ (Y1 ++ Y2) ++ C) (hX : Srt lt (X1 ++ X2)) (hY : Srt lt (Y1 ++ Y2)) (hs : A.length + X1.length = s)
  (hlo : s = lo → X1 = [] ∨ Y2 = []) (hhi : s = hi → X2 = [] ∨ Y1 = [])
  (h1 : s = lo ∨ ∃ x y, D[s - 1]? = some x ∧ D[A.length + (X1.length + X2.length) + Y1.length]? = some y ∧ lt y x = false)
  (h2 : s = hi ∨ ∃ x y, D[s]? = some x ∧ D[A.length + (X1.length + X2.length) + Y1.length - 1]? = some y ∧ lt y x = true) :
  (∀ x ∈ X1, ∀ y ∈ Y2, lt y x = false) ∧ (∀ y ∈ Y1, ∀ x ∈ X2, lt x y = false) := by
 constructor
 ·intro u hu v hv
  have n1 : X1 ≠ [] := fun e => by rw [e] at hu; cases hu
  have n2 : Y2 ≠ [] := fun e => by rw [e] at hv; cases hv
  rcases h1 with h1 | ⟨x, y, hx, hy, h⟩
  ·rcases hlo h1 with e | e
   ·exact absurd e n1
   ·exact absurd e n2
  have l1 := List.length_pos_iff.2 n1
  have l2 := List.length_pos_iff.2 n2
  have e1 : D = A ++ X1 ++ (X2 ++ (Y1 ++ Y2) ++ C) := by rw [hD]; simp only [List.append_assoc]
  have e2 : D = (A ++ (X1 ++ X2) ++ Y1) ++ Y2 ++ C := by rw [hD]; simp only [List.append_assoc]
  rw [e1, at_mid (i := X1.length - 1) (by omega) (by omega)] at hx
  rw [e2, at_mid (i := 0) (by simp only [List.length_append]; omega) (by omega)] at hy
  exact cross hw hX hY hx hy h u hu v hv
 ·intro v hv u hu
  have n1 : X2 ≠ [] := fun e => by rw [e] at hu; cases hu
  have n2 : Y1 ≠ [] := fun e => by rw [e] at hv; cases hv
  rcases h2 with h2 | ⟨x, y, hx, hy, h⟩
  ·rcases hhi h2 with e | e
   ·exact absurd e n1
   ·exact absurd e n2
  have l1 := List.length_pos_iff.2 n1
  have l2 := List.length_pos_iff.2 n2
  have e1 : D = (A ++ X1) ++ X2 ++ ((Y1 ++ Y2) ++ C) := by rw [hD]; simp only [List.append_assoc]
  have e2 : D = (A ++ (X1 ++ X2)) ++ Y1 ++ (Y2 ++ C) := by rw [hD]; simp only [List.append_assoc]
  rw [e1, at_mid (i := 0) (by simp only [List.length_append]; omega) (by omega)] at hx
  rw [e2, at_mid (i := Y1.length - 1) (by simp only [List.length_append]; omega) (by omega)] at hy
  exact cross' hw hX hY hx hy h v hv u hu
end
end Go.Proofs.YtdemnhdoadjhhaaGreatDoor
end
section
namespace Go.Proofs.YtdemnhdoadjhhaaGreatDoor
open Go.Sk
set_option maxRecDepth 100000
theorem half {s r : Int} (h0 : 2 * r ≤ s) (h1 : s ≤ 2 * r + 1) : Int.fdiv s (2 ^ (min (Int.toNat 1) (IntKind.bits .u64))) = r := by
 show Int.fdiv s 2 = r
 rw [Int.fdiv_eq_ediv_of_nonneg _ (by decide)]
 omega
attribute [local irreducible] Cs Own Ex Pu Yld RT LJ QJ AtQ CT Rd QSp Sp FinQ Then LoopQ CutQ DT TakeQ EffQ
variable {B : World}
set_option maxHeartbeats 20000000 in
theorem merge_fn (dd : Nat) : ∀ {R : List HP} {a : Option Addr} {c N m : Nat} {A X Y C D : List SymT} {p q : Int}, X.length + Y.length ≤ dd → D = A ++ X ++ Y ++ C → D.length = N → N ≤ c → N ≤ 1073741824 → p = A.length → A.length + X.length = m → q = m + Y.length →
  0 < X.length → 0 < Y.length → (∀ s ∈ X, s.Ok) → (∀ s ∈ Y, s.Ok) → Srt befB X → Srt befB Y →
  Sp B Tryz.prog 129 [.slice a N c, .int .i64 p, .int .i64 m, .int .i64 q, cF] R [sO a c N D] (fun v H' => v = .tuple #[] ∧ ∃ Z, Z.Perm (X ++ Y) ∧ Srt befB Z ∧ H' = [sO a c N (A ++ Z ++ C)]) := by
 induction dd using Nat.strongRecOn with | ind dd ih => ?_
 intro R a c N m A X Y C D p q hdd hD hN hNc hb hp hm hq hx0 hy0 hokX hokY hsX hsY
 have hNl : A.length + X.length + Y.length + C.length = N := by rw [← hN, hD]; simp only [List.length_append]
 subst hp hq
 refine Sp.body Tryz.func129 rfl Tryz.ntmps129 (by simp) ?_
 simp only [argE, List.cons_append, List.nil_append, Nat.zero_add, Nat.reduceAdd]
 repeat' (first|(refine CT.id_ ?_;refine nx ?_)|fail)
 first | (refine CT.region ?_) | (refine CT.quiet mixed (by kernel_rfl) ?_)
 repeat' (first|refine gS ?_|(refine gv ?_;first|(refine⟨fun hc=>?_,fun hc=>?_⟩<;>first|(exfalso;omega)|skip)|refine gk ?_)|fail)
 ·-- one ahead
  obtain ⟨x, rfl⟩ : ∃ x, X = [x] := by
   cases X with
   | nil => simp at hx0
   | cons x X => exact ⟨x, by rw [List.eq_nil_of_length_eq_zero (l := X) (by simp only [List.length_cons] at *; omega)]⟩
  simp only [List.length_singleton] at hm hNl hdd
  have hxok := hokX x (by simp)
  have gx : D[A.length]? = some x := by rw [hD, List.append_assoc, List.append_assoc]; exact get_at rfl
  have gy : ∀ w, w < Y.length → D[m + w]? = Y[w]? := fun w hw => by rw [hD]; exact at_mid (by simp only [List.length_append, List.length_singleton]; omega) hw
  clear ih hc
  repeat' (first|refine gS ?_|(refine CT.id_ ?_;first|refine CT.seqN 3 rfl ?_|refine CT.region ?_|refine CT.cond_t rfl ?_)|fail)
  refine CT.seq ?_
  refine CT.block ?_
  refine CT.loop (α := Nat × Nat) (fun s => [(0, .slice a N c), (1, .int .i64 A.length), (2, .int .i64 m), (4, cF), (10, .int .i64 (m + s.1)), (11, .int .i64 (m + s.2))])
   (fun s => Pu (s.1 ≤ s.2 ∧ s.2 ≤ Y.length ∧ (∀ y ∈ Y.take s.1, befB x y = false) ∧ (∀ y ∈ Y.drop s.2, befB y x = false)) :: sO a c N D :: R) (fun s => s.2 - s.1) (0, Y.length)
   ⟨rfl, rfl, rfl, rfl, congrArg (fun z : Int => some (Value.int IntKind.i64 z)) (by dsimp only; omega), rfl, trivial⟩
   (fun w h => Sat.pu_in ⟨Nat.zero_le _, Nat.le_refl _, fun y hy => by simp at hy, fun y hy => by simp at hy⟩ h) (fun s => CT.pu fun hh => ?_)
  obtain ⟨u, v⟩ := s
  obtain ⟨h1, h2, h3, h4⟩ := hh
  dsimp only at h1 h2 h3 h4 ⊢
  repeat' (first|refine gS ?_|(refine gv ?_;first|(refine⟨fun hc=>?_,fun hc=>?_⟩<;>first|(exfalso;omega)|skip)|refine gk ?_)|(refine CT.id_ ?_;first|refine CT.seqN 5 rfl ?_|refine CT.blockN 5 rfl ?_|refine CT.region ?_|refine CT.cond_t rfl ?_|refine CT.cond_f rfl ?_|refine CT.skip ?_|refine CT.exit ?_)|fail)
  ·have huv : u < v := by omega
   obtain ⟨w, hw⟩ : ∃ w, w = (2 * m + u + v) / 2 - m := ⟨_, rfl⟩
   have hw1 : u ≤ w ∧ w < v ∧ 2 * (m + w) ≤ m + u + (m + v) ∧ m + u + (m + v) ≤ 2 * (m + w) + 1 := by omega
   obtain ⟨y, gw⟩ : ∃ y, Y[w]? = some y := ⟨_, List.getElem?_eq_getElem (by omega)⟩
   have hyok := hokY y (List.mem_of_getElem? gw)
   have gd := (gy w (by omega)).trans gw
   refine RT.shr rfl rfl (by omega) (r := (m : Int) + w) (half (by omega) (by omega)) rfl rfl ?_
   clear hw
   repeat' (first|refine gS ?_|(refine gv ?_;refine gk ?_)|fail)
   refine CT.seq ?_
   refine CT.tail 9 mixed (by kernel_rfl) ?_
   dsimp only [List.take_succ_cons, List.take_zero]
   try refine gL ?_
   refine RT.ix T (j := (m + w) * 3) rfl rfl rfl (sO_rd sE_ hN hNc) (by omega) (by omega) (by omega) rfl rfl ?_
   refine RT.ldra T rfl (sO_rd sE_ hN hNc) (l := y.cells) (flat_sub (f := SymT.cells) (z := 3) (fun _ => rfl) D _ _ gd) rfl rfl rfl rfl ?_
   try refine gL ?_
   refine RT.ix T (j := A.length * 3) rfl rfl rfl (sO_rd sE_ hN hNc) (by omega) (by omega) (by omega) rfl rfl ?_
   refine RT.ldra T rfl (sO_rd sE_ hN hNc) (l := x.cells) (flat_sub (f := SymT.cells) (z := 3) (fun _ => rfl) D _ _ gx) rfl rfl rfl rfl ?_
   try refine gL ?_
   refine AtQ.tail ?_
   refine RT.callV T rfl rfl fR_ (cmp_fn hyok hxok) rfl rfl rfl ?_
   rintro _ _ ⟨rfl, rfl⟩
   simp only [List.nil_append]
   repeat' (first|refine gL ?_|(refine gv ?_;first|(refine⟨fun hc=>?_,fun hc=>?_⟩<;>first|(exfalso;omega)|skip)|refine gk ?_)|fail)
   ·have hlt := (cmpV_lt y x).1 (by omega)
    exact AtQ.loop (w + 1, v) ⟨rfl, rfl, rfl, rfl, congrArg (fun z : Int => some (Value.int IntKind.i64 z)) (by dsimp only; omega), rfl, trivial⟩ (fun _ h => Sat.pu_in ⟨by dsimp only; omega, by dsimp only; omega, front_ok bef_wk hsY gw (bef_wk.asy hlt), h4⟩ h) (by dsimp only; omega)
   ·have hge := cmpV_f (s := y) (t := x) (by omega)
    exact AtQ.loop (u, w) ⟨rfl, rfl, rfl, rfl, rfl, rfl, trivial⟩ (fun _ h => Sat.pu_in ⟨by dsimp only; omega, by dsimp only; omega, h3, back_ok bef_wk hsY gw hge⟩ h) (by dsimp only; omega)
  ·obtain rfl : u = v := by omega
   clear gy h1
   refine CT.loop (α := Nat) (fun t => [(0, .slice a N c), (10, .int .i64 (m + u)), (13, .int .i64 (A.length + t))])
    (fun t => Pu (t ≤ u) :: sO a c N (A ++ Y.take t ++ x :: (Y.drop t ++ C)) :: R) (fun t => u - t) 0
    ⟨rfl, rfl, congrArg (fun z : Int => some (Value.int IntKind.i64 z)) (by omega), trivial⟩ (fun _ h => Sat.pu_in (Nat.zero_le _) (by rw [hD] at h; simpa using h)) (fun t => CT.pu fun ht => ?_)
   have hNN : (A ++ Y.take t ++ x :: (Y.drop t ++ C)).length = N := by simp only [List.length_append, List.length_cons, List.length_take, List.length_drop]; omega
   have hl0 : (A ++ Y.take t).length = A.length + t := by rw [List.length_append, List.length_take]; omega
   repeat' (first|refine gQ ?_|(refine gv ?_;first|(refine⟨fun hc=>?_,fun hc=>?_⟩<;>first|(exfalso;omega)|skip)|refine gk ?_)|fail)
   ·obtain ⟨z, hz⟩ : ∃ z, Y[t]? = some z := ⟨_, List.getElem?_eq_getElem (by omega)⟩
    obtain ⟨e2, e1⟩ := ins_step (A := A) (C := C) (x := x) hz
    have hdz : Y.drop t = z :: Y.drop (t + 1) := by
     obtain ⟨hj, e⟩ := List.getElem?_eq_some_iff.1 hz
     rw [List.drop_eq_getElem_cons hj, e]
    have es := swap_two' (x := x) (y := z) (Q := []) (R := Y.drop (t + 1) ++ C) hl0 (j := A.length + (t + 1)) (by rw [hl0]; simp only [List.length_nil]; omega)
    have g1 := get_at (x := x) (R := [] ++ z :: (Y.drop (t + 1) ++ C)) hl0
    have g2 := get_at2 (x := x) (y := z) (Q := []) (R := Y.drop (t + 1) ++ C) (j := A.length + (t + 1)) (show (A ++ Y.take t).length + 1 + ([] : List SymT).length = A.length + (t + 1) by rw [hl0]; simp only [List.length_nil]; omega)
    rw [← e1] at es g1 g2
    rw [← e2] at es
    clear e1 e2 hdz
    generalize hDi : A ++ Y.take t ++ x :: (Y.drop t ++ C) = Di at *
    ((refine CT.drawn [sO a c N (Di)] 15 mixed ?_); (refine DT.mv 2 rfl rfl rfl (by kernel_rfl) (by kernel_rfl) (by kernel_rfl) rfl (Clos.ofB (by kernel_rfl)) (fun w h => Sat.ones (by (repeat (first|exact Fr.nil|(apply Fr.cons;focus ((repeat constructor);done))))) h) ?_); (refine DT.mv 3 rfl rfl rfl (by kernel_rfl) (by kernel_rfl) (by kernel_rfl) rfl (Clos.ofB (by kernel_rfl)) (fun w h => Sat.ones (by (repeat (first|exact Fr.nil|(apply Fr.cons;focus ((repeat constructor);done))))) h) ?_); (refine DT.add 4 rfl rfl rfl (wr_i64 (by omega) (by omega)) rfl (by kernel_rfl) (by kernel_rfl) (by kernel_rfl) rfl (Clos.ofB (by kernel_rfl)) (fun w h => Sat.ones (by (repeat (first|exact Fr.nil|(apply Fr.cons;focus ((repeat constructor);done))))) h) ?_); (refine DT.takes (k := 3) [0, 1, 5, 6, 7, 8, 9, 10, 11, 12, 13, 14] [15] (fun w h => Sat.ones (by (repeat (first|exact Fr.nil|(apply Fr.cons;focus ((repeat constructor);done))))) h) (by kernel_rfl) (by kernel_rfl) (by kernel_rfl) rfl (Clos.ofB (by kernel_rfl)) ?_); (repeat' (first|refine gL ?_|(refine gv ?_;refine gk ?_)|fail)); (refine RT.ix T (j := (A.length + (t + 1)) * 3) rfl rfl rfl (sO_rd (by ((repeat constructor);done)) hNN hNc) (by omega) (by omega) (by omega) rfl rfl ?_); (refine RT.ldra T rfl (sO_rd (by ((repeat constructor);done)) hNN hNc) (l := SymT.cells z) (flat_sub (f := SymT.cells) (z := 3) (fun _ => rfl) Di _ _ g2) rfl rfl rfl rfl ?_); (try refine gL ?_); (refine RT.ix T (j := (A.length + t) * 3) rfl rfl rfl (sO_rd (by ((repeat constructor);done)) hNN hNc) (by omega) (by omega) (by omega) rfl rfl ?_); (refine RT.ldra T rfl (sO_rd (by ((repeat constructor);done)) hNN hNc) (l := SymT.cells x) (flat_sub (f := SymT.cells) (z := 3) (fun _ => rfl) Di _ _ g1) rfl rfl rfl rfl ?_); (skip); (refine RT.ix T (j := (A.length + t) * 3) rfl rfl rfl (sO_rd (by ((repeat constructor);done)) hNN hNc) (by omega) (by omega) (by omega) rfl rfl ?_); (try refine gL ?_); (refine AtQ.take ?_); (refine DT.eff 15 rfl (by kernel_rfl) ?_); (refine RT.stoA T (v := SymT.cells z) rfl rfl rfl (by ((repeat constructor);done)) (by rw [flat_len sym_len, hNN, sym_len]; omega) (by rw [sym_len]; decide) rfl rfl rfl ?_); (rw [sym_len, flat_set sym_len _ (by rw [hNN]; omega)]); (refine RT.nil ?_; refine AtQ.eff' (by kernel_rfl) ?_); (refine DT.eff 16 rfl (by kernel_rfl) ?_); (refine RT.ix T (j := (A.length + (t + 1)) * 3) rfl rfl rfl (sO_rd (by ((repeat constructor);done)) (by rw [List.length_set, hNN]) hNc) (by omega) (by omega) (by omega) rfl rfl ?_); (refine RT.nil ?_; refine AtQ.eff' (by kernel_rfl) ?_); (refine DT.eff 17 rfl (by kernel_rfl) ?_); (refine RT.stoA T (v := SymT.cells x) rfl rfl rfl (by ((repeat constructor);done)) (by rw [flat_len sym_len, List.length_set, hNN, sym_len]; omega) (by rw [sym_len]; decide) rfl rfl rfl ?_); (rw [sym_len, flat_set sym_len _ (by rw [List.length_set, hNN]; omega), es]); (refine RT.nil ?_; refine AtQ.eff' (by kernel_rfl) ?_); (refine DT.done (by kernel_rfl) ?_))
    repeat' (first|refine gL ?_|(refine gv ?_;refine gk ?_)|fail)
    exact AtQ.loop (t + 1) ⟨rfl, rfl, congrArg (fun z : Int => some (Value.int IntKind.i64 z)) (by omega), trivial⟩ (fun _ h => Sat.pu_in (by omega) h) (by omega)
   ·obtain rfl : t = u := by omega
    exact AtQ.fin0 Tryz.results129 (H' := [sO a c N (A ++ (Y.take t ++ x :: Y.drop t) ++ C)])
     ⟨rfl, Y.take t ++ x :: Y.drop t, by
      refine List.perm_middle.trans ?_
      rw [List.take_append_drop]
      exact List.Perm.refl _, ins_ok bef_wk (by rw [List.take_append_drop]; exact hsY) h3 h4, rfl⟩ (fun _ h => by simpa only [List.append_assoc, List.cons_append, List.nil_append] using h) _ (by first | exact .inl rfl | exact .inr rfl)
 refine CT.cond_f rfl ?_
 repeat' (first|refine gS ?_|(refine CT.id_ ?_;refine nx ?_)|fail)
 first | (refine CT.region ?_) | (refine CT.quiet mixed (by kernel_rfl) ?_)
 repeat' (first|refine gS ?_|(refine gv ?_;first|(refine⟨fun hc=>?_,fun hc=>?_⟩<;>first|(exfalso;omega)|skip)|refine gk ?_)|fail)
 ·-- one behind
  obtain ⟨y, rfl⟩ : ∃ y, Y = [y] := by
   cases Y with
   | nil => simp at hy0
   | cons y Y => exact ⟨y, by rw [List.eq_nil_of_length_eq_zero (l := Y) (by simp only [List.length_cons] at *; omega)]⟩
  simp only [List.length_singleton] at hNl hdd
  have hyok := hokY y (by simp)
  have gy : D[m]? = some y := by rw [hD, List.append_assoc]; exact get_at (by rw [List.length_append]; exact hm)
  have gx : ∀ w, w < X.length → D[A.length + w]? = X[w]? := fun w hw => by rw [hD, List.append_assoc]; exact at_mid rfl hw
  clear ih
  repeat' (first|refine gS ?_|(refine CT.id_ ?_;first|refine CT.seqN 15 rfl ?_|refine CT.region ?_|refine CT.cond_t rfl ?_)|fail)
  refine CT.seq ?_
  refine CT.block ?_
  refine CT.loop (α := Nat × Nat) (fun s => [(0, .slice a N c), (1, .int .i64 A.length), (2, .int .i64 m), (4, cF), (14, .int .i64 (A.length + s.1)), (15, .int .i64 (A.length + s.2))])
   (fun s => Pu (s.1 ≤ s.2 ∧ s.2 ≤ X.length ∧ (∀ z ∈ X.take s.1, befB y z = false) ∧ (∀ z ∈ X.drop s.2, befB z y = false)) :: sO a c N D :: R) (fun s => s.2 - s.1) (0, X.length)
   ⟨rfl, rfl, rfl, rfl, congrArg (fun z : Int => some (Value.int IntKind.i64 z)) (by dsimp only; omega), congrArg (fun z : Int => some (Value.int IntKind.i64 z)) (by dsimp only; omega), trivial⟩
   (fun w h => Sat.pu_in ⟨Nat.zero_le _, Nat.le_refl _, fun y hy => by simp at hy, fun y hy => by simp at hy⟩ h) (fun s => CT.pu fun hh => ?_)
  obtain ⟨u, v⟩ := s
  obtain ⟨h1, h2, h3, h4⟩ := hh
  dsimp only at h1 h2 h3 h4 ⊢
  repeat' (first|refine gS ?_|(refine gv ?_;first|(refine⟨fun hc=>?_,fun hc=>?_⟩<;>first|(exfalso;omega)|skip)|refine gk ?_)|(refine CT.id_ ?_;first|refine CT.seqN 17 rfl ?_|refine CT.blockN 17 rfl ?_|refine CT.region ?_|refine CT.cond_t rfl ?_|refine CT.cond_f rfl ?_|refine CT.skip ?_|refine CT.exit ?_)|fail)
  ·have huv : u < v := by omega
   obtain ⟨w, hw⟩ : ∃ w, w = (2 * A.length + u + v) / 2 - A.length := ⟨_, rfl⟩
   have hw1 : u ≤ w ∧ w < v ∧ 2 * (A.length + w) ≤ A.length + u + (A.length + v) ∧ A.length + u + (A.length + v) ≤ 2 * (A.length + w) + 1 := by omega
   obtain ⟨x, gw⟩ : ∃ x, X[w]? = some x := ⟨_, List.getElem?_eq_getElem (by omega)⟩
   have hxok := hokX x (List.mem_of_getElem? gw)
   have gd := (gx w (by omega)).trans gw
   refine RT.shr rfl rfl (by omega) (r := (A.length : Int) + w) (half (by omega) (by omega)) rfl rfl ?_
   clear hw
   repeat' (first|refine gS ?_|(refine gv ?_;refine gk ?_)|fail)
   refine CT.seq ?_
   refine CT.tail 9 mixed (by kernel_rfl) ?_
   dsimp only [List.take_succ_cons, List.take_zero]
   try refine gL ?_
   refine RT.ix T (j := m * 3) rfl rfl rfl (sO_rd sE_ hN hNc) (by omega) (by omega) (by omega) rfl rfl ?_
   refine RT.ldra T rfl (sO_rd sE_ hN hNc) (l := y.cells) (flat_sub (f := SymT.cells) (z := 3) (fun _ => rfl) D _ _ gy) rfl rfl rfl rfl ?_
   try refine gL ?_
   refine RT.ix T (j := (A.length + w) * 3) rfl rfl rfl (sO_rd sE_ hN hNc) (by omega) (by omega) (by omega) rfl rfl ?_
   refine RT.ldra T rfl (sO_rd sE_ hN hNc) (l := x.cells) (flat_sub (f := SymT.cells) (z := 3) (fun _ => rfl) D _ _ gd) rfl rfl rfl rfl ?_
   try refine gL ?_
   refine AtQ.tail ?_
   refine RT.callV T rfl rfl fR_ (cmp_fn hyok hxok) rfl rfl rfl ?_
   rintro _ _ ⟨rfl, rfl⟩
   simp only [List.nil_append]
   repeat' (first|refine gL ?_|(refine gv ?_;first|(refine⟨fun hc=>?_,fun hc=>?_⟩<;>first|(exfalso;omega)|skip)|refine gk ?_)|fail)
   ·have hlt := (cmpV_lt y x).1 (by omega)
    exact AtQ.loop (u, w) ⟨rfl, rfl, rfl, rfl, rfl, rfl, trivial⟩ (fun _ h => Sat.pu_in ⟨by dsimp only; omega, by dsimp only; omega, h3, back_ok bef_wk hsX gw (bef_wk.asy hlt)⟩ h) (by dsimp only; omega)
   ·have hge := cmpV_f (s := y) (t := x) (by omega)
    exact AtQ.loop (w + 1, v) ⟨rfl, rfl, rfl, rfl, congrArg (fun z : Int => some (Value.int IntKind.i64 z)) (by dsimp only; omega), rfl, trivial⟩ (fun _ h => Sat.pu_in ⟨by dsimp only; omega, by dsimp only; omega, front_ok bef_wk hsX gw hge, h4⟩ h) (by dsimp only; omega)
  ·obtain rfl : u = v := by omega
   clear gx h1
   refine CT.loop (α := Nat) (fun t => [(0, .slice a N c), (14, .int .i64 (A.length + u)), (17, .int .i64 (A.length + t))])
    (fun t => Pu (u ≤ t ∧ t ≤ X.length) :: sO a c N (A ++ X.take t ++ y :: (X.drop t ++ C)) :: R) (fun t => t) X.length
    ⟨rfl, rfl, congrArg (fun z : Int => some (Value.int IntKind.i64 z)) (by omega), trivial⟩ (fun _ h => Sat.pu_in ⟨h2, Nat.le_refl _⟩ (by rw [hD] at h; simpa using h)) (fun t => CT.pu fun ⟨ht, ht2⟩ => ?_)
   have hNN : (A ++ X.take t ++ y :: (X.drop t ++ C)).length = N := by simp only [List.length_append, List.length_cons, List.length_take, List.length_drop]; omega
   have hlt : (A ++ X.take t).length = A.length + t := by rw [List.length_append, List.length_take]; omega
   have gyt := get_at (x := y) (R := X.drop t ++ C) hlt
   repeat' (first|refine gQ ?_|(refine gv ?_;(refine⟨fun hc=>?_,fun hc=>?_⟩<;>first|(exfalso;omega)|skip))|fail)
   ·obtain ⟨k, rfl⟩ : ∃ k', t = k' + 1 := ⟨t - 1, by omega⟩
    obtain ⟨z, hz⟩ : ∃ z, X[k]? = some z := ⟨_, List.getElem?_eq_getElem (by omega)⟩
    obtain ⟨e1, e2⟩ := ins_step (A := A) (C := C) (x := y) hz
    have hl0 : (A ++ X.take k).length = A.length + k := by rw [List.length_append, List.length_take]; omega
    have gz := get_at (x := z) (R := [] ++ y :: (X.drop (k + 1) ++ C)) hl0
    have es := swap_two (x := z) (y := y) (Q := []) (R := X.drop (k + 1) ++ C) hl0 (j := A.length + (k + 1)) (by rw [hl0]; simp only [List.length_nil]; omega)
    rw [← e1] at gz es
    rw [← e2] at es
    clear e1 e2
    generalize hDi : A ++ X.take (k + 1) ++ y :: (X.drop (k + 1) ++ C) = Di at *
    ((refine CT.drawn [sO a c N (Di)] 15 mixed ?_); (refine DT.mv 2 rfl rfl rfl (by kernel_rfl) (by kernel_rfl) (by kernel_rfl) rfl (Clos.ofB (by kernel_rfl)) (fun w h => Sat.ones (by (repeat (first|exact Fr.nil|(apply Fr.cons;focus ((repeat constructor);done))))) h) ?_); (refine DT.mv 3 rfl rfl rfl (by kernel_rfl) (by kernel_rfl) (by kernel_rfl) rfl (Clos.ofB (by kernel_rfl)) (fun w h => Sat.ones (by (repeat (first|exact Fr.nil|(apply Fr.cons;focus ((repeat constructor);done))))) h) ?_); (refine DT.sub 4 rfl rfl rfl (wr_i64 (by omega) (by omega)) rfl (by kernel_rfl) (by kernel_rfl) (by kernel_rfl) rfl (Clos.ofB (by kernel_rfl)) (fun w h => Sat.ones (by (repeat (first|exact Fr.nil|(apply Fr.cons;focus ((repeat constructor);done))))) h) ?_); (refine DT.takes (k := 3) [0, 1, 5, 6, 7, 8, 9, 10, 11, 12, 13, 14] [15] (fun w h => Sat.ones (by (repeat (first|exact Fr.nil|(apply Fr.cons;focus ((repeat constructor);done))))) h) (by kernel_rfl) (by kernel_rfl) (by kernel_rfl) rfl (Clos.ofB (by kernel_rfl)) ?_); (repeat' (first|refine gL ?_|(refine gv ?_;refine gk ?_)|fail)); (refine RT.ix T (j := (A.length + k) * 3) rfl rfl rfl (sO_rd (by ((repeat constructor);done)) hNN hNc) (by omega) (by omega) (by omega) rfl rfl ?_); (refine RT.ldra T rfl (sO_rd (by ((repeat constructor);done)) hNN hNc) (l := SymT.cells z) (flat_sub (f := SymT.cells) (z := 3) (fun _ => rfl) Di _ _ gz) rfl rfl rfl rfl ?_); (try refine gL ?_); (refine RT.ix T (j := (A.length + (k + 1)) * 3) rfl rfl rfl (sO_rd (by ((repeat constructor);done)) hNN hNc) (by omega) (by omega) (by omega) rfl rfl ?_); (refine RT.ldra T rfl (sO_rd (by ((repeat constructor);done)) hNN hNc) (l := SymT.cells y) (flat_sub (f := SymT.cells) (z := 3) (fun _ => rfl) Di _ _ gyt) rfl rfl rfl rfl ?_); (skip); (refine RT.ix T (j := (A.length + (k + 1)) * 3) rfl rfl rfl (sO_rd (by ((repeat constructor);done)) hNN hNc) (by omega) (by omega) (by omega) rfl rfl ?_); (try refine gL ?_); (refine AtQ.take ?_); (refine DT.eff 15 rfl (by kernel_rfl) ?_); (refine RT.stoA T (v := SymT.cells z) rfl rfl rfl (by ((repeat constructor);done)) (by rw [flat_len sym_len, hNN, sym_len]; omega) (by rw [sym_len]; decide) rfl rfl rfl ?_); (rw [sym_len, flat_set sym_len _ (by rw [hNN]; omega)]); (refine RT.nil ?_; refine AtQ.eff' (by kernel_rfl) ?_); (refine DT.eff 16 rfl (by kernel_rfl) ?_); (refine RT.ix T (j := (A.length + k) * 3) rfl rfl rfl (sO_rd (by ((repeat constructor);done)) (by rw [List.length_set, hNN]) hNc) (by omega) (by omega) (by omega) rfl rfl ?_); (refine RT.nil ?_; refine AtQ.eff' (by kernel_rfl) ?_); (refine DT.eff 17 rfl (by kernel_rfl) ?_); (refine RT.stoA T (v := SymT.cells y) rfl rfl rfl (by ((repeat constructor);done)) (by rw [flat_len sym_len, List.length_set, hNN, sym_len]; omega) (by rw [sym_len]; decide) rfl rfl rfl ?_); (rw [sym_len, flat_set sym_len _ (by rw [List.length_set, hNN]; omega), es]); (refine RT.nil ?_; refine AtQ.eff' (by kernel_rfl) ?_); (refine DT.done (by kernel_rfl) ?_))
    repeat' (first|refine gL ?_|(refine gv ?_;refine gk ?_)|fail)
    exact AtQ.loop k ⟨rfl, rfl, congrArg (fun z : Int => some (Value.int IntKind.i64 z)) (by omega), trivial⟩ (fun _ h => Sat.pu_in ⟨by omega, by omega⟩ h) (by omega)
   ·obtain rfl : t = u := by omega
    exact AtQ.fin0 Tryz.results129 (H' := [sO a c N (A ++ (X.take t ++ y :: X.drop t) ++ C)])
     ⟨rfl, X.take t ++ y :: X.drop t, by
      refine List.perm_middle.trans ?_
      rw [List.take_append_drop]
      exact List.perm_append_comm (l₁ := [y]) (l₂ := X), ins_ok bef_wk (by rw [List.take_append_drop]; exact hsX) h3 h4, rfl⟩ (fun _ h => by simpa only [List.append_assoc, List.cons_append, List.nil_append] using h) _ (by first | exact .inl rfl | exact .inr rfl)
 refine CT.cond_f rfl ?_
 have hX2 : 2 ≤ X.length := by omega
 have hY2 : 2 ≤ Y.length := by omega
 obtain ⟨md, hmd⟩ : ∃ md : Nat, md = (A.length + (m + Y.length)) / 2 := ⟨_, rfl⟩
 have hmd1 : 2 * md ≤ A.length + (m + Y.length) ∧ A.length + (m + Y.length) ≤ 2 * md + 1 := by omega
 clear hmd
 repeat' (first|refine gS ?_|(refine gv ?_;refine gk ?_)|(refine CT.id_ ?_;first|refine CT.seqN 27 rfl ?_|refine CT.region ?_|refine CT.skip ?_)|fail)
 refine RT.shr rfl rfl (by omega) (r := (md : Int)) (half (by omega) (by omega)) rfl rfl ?_
 repeat' (first|refine gS ?_|(refine gv ?_;refine gk ?_)|(refine CT.id_ ?_;first|refine CT.seqN 27 rfl ?_|refine CT.region ?_)|fail)
 have gx : ∀ i, A.length ≤ i → i < m → ∃ x, D[i]? = some x ∧ x.Ok := fun i h1 h2 => by
  obtain ⟨x, hx⟩ : ∃ x, X[i - A.length]? = some x := ⟨_, List.getElem?_eq_getElem (by omega)⟩
  exact ⟨x, by rw [hD, List.append_assoc, at_mid (i := i - A.length) (by omega) (by omega)]; exact hx, hokX x (List.mem_of_getElem? hx)⟩
 have gy : ∀ i, m ≤ i → i < m + Y.length → ∃ y, D[i]? = some y ∧ y.Ok := fun i h1 h2 => by
  obtain ⟨y, hy⟩ : ∃ y, Y[i - m]? = some y := ⟨_, List.getElem?_eq_getElem (by omega)⟩
  exact ⟨y, by rw [hD, at_mid (i := i - m) (by rw [List.length_append]; omega) (by omega)]; exact hy, hokY y (List.mem_of_getElem? hy)⟩
 refine CT.seq ?_
 refine CT.cut (α := Nat × Nat) (fun s => [(0, .slice a N c), (1, .int .i64 A.length), (2, .int .i64 m), (3, .int .i64 (m + Y.length)), (4, cF), (18, .int .i64 md), (19, .int .i64 (md + m)), (20, .int .i64 s.1), (21, .int .i64 s.2)])
  (fun s => Pu (A.length ≤ s.1 ∧ s.1 ≤ s.2 ∧ s.2 ≤ m ∧ s.2 ≤ md ∧ md + m ≤ s.1 + (m + Y.length) ∧ (s.1 = A.length ∨ md + m = s.1 + (m + Y.length)) ∧ (s.2 = m ∨ s.2 = md)) :: sO a c N D :: R) ?_ (fun s => ?_)
 ·repeat' (first|refine gL ?_|(refine gv ?_;first|(refine⟨fun hc=>?_,fun hc=>?_⟩<;>first|(exfalso;omega)|skip)|refine gk ?_)|fail)
  ·exact AtQ.cut (md + m - (m + Y.length), md) ⟨rfl, rfl, rfl, rfl, rfl, rfl, rfl, congrArg (fun z : Int => some (Value.int IntKind.i64 z)) (by dsimp only; omega), rfl, trivial⟩ (fun _ h => Sat.pu_in (by dsimp only; omega) h)
  ·exact AtQ.cut (A.length, m) ⟨rfl, rfl, rfl, rfl, rfl, rfl, rfl, rfl, rfl, trivial⟩ (fun _ h => Sat.pu_in (by dsimp only; omega) h)
 refine A0 ?_
 obtain ⟨lo, hi⟩ := s
 refine CT.pu fun hh => ?_
 obtain ⟨f1, f2, f3, f4, f5, f6, f7⟩ := hh
 dsimp only at f1 f2 f3 f4 f5 f6 f7 ⊢
 repeat' (first|refine gS ?_|(refine gv ?_;refine gk ?_)|(refine CT.id_ ?_;first|refine CT.seqN 33 rfl ?_|refine CT.region ?_)|fail)
 refine CT.seq ?_
 refine CT.cut (α := Nat) (fun s => [(0, .slice a N c), (1, .int .i64 A.length), (2, .int .i64 m), (3, .int .i64 (m + Y.length)), (4, cF), (18, .int .i64 md), (19, .int .i64 (md + m)), (20, .int .i64 s)])
  (fun s => Pu (lo ≤ s ∧ s ≤ hi ∧ (s = lo ∨ ∃ x y, D[s - 1]? = some x ∧ D[md + m - s]? = some y ∧ befB y x = false) ∧ (s = hi ∨ ∃ x y, D[s]? = some x ∧ D[md + m - s - 1]? = some y ∧ befB y x = true)) :: sO a c N D :: R) ?_ (fun s => ?_)
 rotate_left
 ·refine A0 ?_
  refine CT.pu fun hh => ?_
  obtain ⟨h1, h3, h4, h5⟩ := hh
  obtain ⟨X1, X2, rfl, hx1⟩ := split_len (l := X) (k := s - A.length) (by omega)
  obtain ⟨Y1, Y2, rfl, hy1⟩ := split_len (l := Y) (k := md - s) (by omega)
  simp only [List.length_append] at hdd hm hNl hX2 hY2 hmd1 f5 f6 hx1 hy1 ⊢
  have hes : md + m - s = A.length + (X1.length + X2.length) + Y1.length := by omega
  rw [hes] at h4 h5
  obtain ⟨c1, c2⟩ := cut_ok bef_wk (s := s) (lo := lo) (hi := hi) hD hsX hsY (by omega) (fun e => f6.elim (fun h => .inl (List.eq_nil_of_length_eq_zero (by omega))) (fun h => .inr (List.eq_nil_of_length_eq_zero (by omega))))
   (fun e => f7.elim (fun h => .inl (List.eq_nil_of_length_eq_zero (by omega))) (fun h => .inr (List.eq_nil_of_length_eq_zero (by omega)))) h4 h5
  clear h4 h5 f6 f7 gx gy
  have ih1 := @ih (X1.length + Y1.length) (by omega)
  have ih2 := @ih (X2.length + Y2.length) (by omega)
  have oX1 : ∀ z ∈ X1, z.Ok := fun z hz => hokX z (List.mem_append_left _ hz)
  have oX2 : ∀ z ∈ X2, z.Ok := fun z hz => hokX z (List.mem_append_right _ hz)
  have oY1 : ∀ z ∈ Y1, z.Ok := fun z hz => hokY z (List.mem_append_left _ hz)
  have oY2 : ∀ z ∈ Y2, z.Ok := fun z hz => hokY z (List.mem_append_right _ hz)
  have sX1 := (srt_app.1 hsX).1
  have sX2 := (srt_app.1 hsX).2.1
  have sY1 := (srt_app.1 hsY).1
  have sY2 := (srt_app.1 hsY).2.1
  repeat' (first|refine gS ?_|(refine gv ?_;refine gk ?_)|(refine CT.id_ ?_;first|refine CT.seqN 39 rfl ?_|refine CT.region ?_)|fail)
  refine CT.seq ?_
  refine CT.cut (α := Unit) (fun _ => [(0, .slice a N c), (1, .int .i64 A.length), (3, .int .i64 (m + (Y1.length + Y2.length))), (4, cF), (18, .int .i64 md), (20, .int .i64 s), (24, .int .i64 ((md + m - s : Nat) : Int))])
   (fun _ => sO a c N (A ++ (X1 ++ Y1) ++ (X2 ++ Y2) ++ C) :: R) ?_ (fun _ => ?_)
  ·repeat' (first|refine gL ?_|(refine gv ?_;(refine⟨fun hc=>?_,fun hc=>?_⟩<;>first|(exfalso;omega)|skip))|fail)
   ·refine RT.call T rfl fR_ (rotate_fn (A := A ++ X1) (X := X2) (Y := Y1) (C := Y2 ++ C) (m := m) (D' := A ++ (X1 ++ Y1) ++ (X2 ++ Y2) ++ C) (by rw [hD]; simp only [List.append_assoc]) (by simp only [List.append_assoc]) hN hNc hb (by simp only [List.length_append]; omega) (by simp only [List.length_append]; omega) (by omega) (by omega) (by omega)) rfl rfl rfl ?_
    rintro _ _ ⟨rfl, rfl⟩
    simp only [List.cons_append, List.nil_append]
    try refine gL ?_
    exact AtQ.cut () ⟨rfl, rfl, rfl, rfl, rfl, rfl, congrArg (fun z : Int => some (Value.int IntKind.i64 z)) (by omega), trivial⟩ (fun _ h => h)
   ·obtain rfl : Y1 = [] := List.eq_nil_of_length_eq_zero (by omega)
    exact AtQ.cut () ⟨rfl, rfl, rfl, rfl, rfl, rfl, congrArg (fun z : Int => some (Value.int IntKind.i64 z)) (by omega), trivial⟩ (fun _ h => by rw [hD] at h; simpa only [List.append_assoc, List.nil_append] using h)
   ·obtain rfl : X2 = [] := List.eq_nil_of_length_eq_zero (by omega)
    exact AtQ.cut () ⟨rfl, rfl, rfl, rfl, rfl, rfl, congrArg (fun z : Int => some (Value.int IntKind.i64 z)) (by omega), trivial⟩ (fun _ h => by rw [hD] at h; simpa only [List.append_assoc, List.nil_append] using h)
  refine A0 ?_
  have hD1 : (A ++ (X1 ++ Y1) ++ (X2 ++ Y2) ++ C).length = N := by simp only [List.length_append]; omega
  skip
  refine CT.seq ?_
  refine CT.cut (α := List SymT) (fun _ => [(0, .slice a N c), (3, .int .i64 (m + (Y1.length + Y2.length))), (4, cF), (18, .int .i64 md), (24, .int .i64 ((md + m - s : Nat) : Int))])
   (fun Z1 => Pu (Z1.Perm (X1 ++ Y1) ∧ Srt befB Z1) :: sO a c N (A ++ Z1 ++ (X2 ++ Y2) ++ C) :: R) ?_ (fun Z1 => ?_)
  ·repeat' (first|refine gL ?_|(refine gv ?_;(refine⟨fun hc=>?_,fun hc=>?_⟩<;>first|(exfalso;omega)|skip))|fail)
   ·refine RT.call T rfl fR_ (ih1 (A := A) (X := X1) (Y := Y1) (C := X2 ++ Y2 ++ C) (m := s) (Nat.le_refl _) (by simp only [List.append_assoc]) hD1 hNc hb rfl (by omega) (by omega) (by omega) (by omega) oX1 oY1 sX1 sY1) rfl rfl rfl ?_
    rintro _ _ ⟨rfl, Z1, hz1, hz2, rfl⟩
    simp only [List.cons_append, List.nil_append]
    try refine gL ?_
    exact AtQ.cut Z1 ⟨rfl, rfl, rfl, rfl, rfl, trivial⟩ (fun _ h => Sat.pu_in ⟨hz1, hz2⟩ (by simpa only [List.append_assoc] using h))
   ·obtain rfl : Y1 = [] := List.eq_nil_of_length_eq_zero (by omega)
    exact AtQ.cut X1 ⟨rfl, rfl, rfl, rfl, rfl, trivial⟩ (fun _ h => Sat.pu_in ⟨by rw [List.append_nil], sX1⟩ (by rw [List.append_nil] at h; exact h))
   ·obtain rfl : X1 = [] := List.eq_nil_of_length_eq_zero (by omega)
    exact AtQ.cut Y1 ⟨rfl, rfl, rfl, rfl, rfl, trivial⟩ (fun _ h => Sat.pu_in ⟨by rw [List.nil_append], sY1⟩ (by rw [List.nil_append] at h; exact h))
  refine A0 ?_
  refine CT.pu fun ⟨hz1, hz2⟩ => ?_
  have hzl : Z1.length = X1.length + Y1.length := by rw [hz1.length_eq, List.length_append]
  have hD2 : (A ++ Z1 ++ (X2 ++ Y2) ++ C).length = N := by simp only [List.length_append]; omega
  clear hD1 hD hN
  repeat' (first|refine gL ?_|(refine gv ?_;(refine⟨fun hc=>?_,fun hc=>?_⟩<;>first|(exfalso;omega)|skip))|fail)
  ·refine RT.call T rfl fR_ (ih2 (A := A ++ Z1) (X := X2) (Y := Y2) (C := C) (m := md + m - s) (Nat.le_refl _) (by simp only [List.append_assoc]) hD2 hNc hb (by simp only [List.length_append]; omega) (by simp only [List.length_append]; omega) (by omega) (by omega) (by omega) oX2 oY2 sX2 sY2) rfl rfl rfl ?_
   rintro _ _ ⟨rfl, Z2, hz3, hz4, rfl⟩
   simp only [List.cons_append, List.nil_append]
   obtain ⟨k1, k2⟩ := merge_ok bef_wk hsX hsY c1 c2 hz1 hz2 hz3 hz4
   try refine gL ?_
   exact AtQ.fin0 Tryz.results129 (H' := [sO a c N (A ++ (Z1 ++ Z2) ++ C)]) ⟨rfl, Z1 ++ Z2, k1, k2, rfl⟩ (fun _ h => by simpa only [List.append_assoc, List.nil_append, List.cons_append] using h) _ (by first | exact .inl rfl | exact .inr rfl)
  ·obtain rfl : Y2 = [] := List.eq_nil_of_length_eq_zero (by omega)
   obtain ⟨k1, k2⟩ := merge_ok bef_wk hsX hsY c1 c2 hz1 hz2 (Z2 := X2) (by rw [List.append_nil]) sX2
   exact AtQ.fin0 Tryz.results129 (H' := [sO a c N (A ++ (Z1 ++ X2) ++ C)]) ⟨rfl, Z1 ++ X2, k1, k2, rfl⟩ (fun _ h => by simpa only [List.append_assoc, List.nil_append, List.cons_append] using h) _ (by first | exact .inl rfl | exact .inr rfl)
  ·obtain rfl : X2 = [] := List.eq_nil_of_length_eq_zero (by omega)
   obtain ⟨k1, k2⟩ := merge_ok bef_wk hsX hsY c1 c2 hz1 hz2 (Z2 := Y2) (by rw [List.nil_append]) sY2
   exact AtQ.fin0 Tryz.results129 (H' := [sO a c N (A ++ (Z1 ++ Y2) ++ C)]) ⟨rfl, Z1 ++ Y2, k1, k2, rfl⟩ (fun _ h => by simpa only [List.append_assoc, List.nil_append, List.cons_append] using h) _ (by first | exact .inl rfl | exact .inr rfl)
 refine CT.block ?_
 refine CT.loop (α := Nat × Nat) (fun s => [(0, .slice a N c), (1, .int .i64 A.length), (2, .int .i64 m), (3, .int .i64 (m + Y.length)), (4, cF), (18, .int .i64 md), (19, .int .i64 (md + m)), (20, .int .i64 s.1), (21, .int .i64 s.2), (22, .int .i64 (md + m - 1))])
  (fun s => Pu (lo ≤ s.1 ∧ s.1 ≤ s.2 ∧ s.2 ≤ hi ∧ (s.1 = lo ∨ ∃ x y, D[s.1 - 1]? = some x ∧ D[md + m - s.1]? = some y ∧ befB y x = false) ∧ (s.2 = hi ∨ ∃ x y, D[s.2]? = some x ∧ D[md + m - s.2 - 1]? = some y ∧ befB y x = true)) :: sO a c N D :: R) (fun s => s.2 - s.1) (lo, hi)
  ⟨rfl, rfl, rfl, rfl, rfl, rfl, rfl, rfl, rfl, rfl, trivial⟩ (fun _ h => Sat.pu_in ⟨Nat.le_refl _, f2, Nat.le_refl _, .inl rfl, .inl rfl⟩ h) (fun s => CT.pu fun hh => ?_)
 obtain ⟨s, r⟩ := s
 obtain ⟨h1, h2, h3, h4, h5⟩ := hh
 dsimp only at h1 h2 h3 h4 h5 ⊢
 repeat' (first|refine gS ?_|(refine gv ?_;first|(refine⟨fun hc=>?_,fun hc=>?_⟩<;>first|(exfalso;omega)|skip)|refine gk ?_)|(refine CT.id_ ?_;first|refine CT.seqN 35 rfl ?_|refine CT.blockN 35 rfl ?_|refine CT.region ?_|refine CT.cond_t rfl ?_|refine CT.cond_f rfl ?_|refine CT.skip ?_|refine CT.exit ?_)|fail)
 ·have hsr : s < r := by omega
  obtain ⟨w, hw⟩ : ∃ w, w = (s + r) / 2 := ⟨_, rfl⟩
  have hw1 : s ≤ w ∧ w < r ∧ 2 * w ≤ s + r ∧ s + r ≤ 2 * w + 1 := by omega
  obtain ⟨x, g1, hxok⟩ := gx w (by omega) (by omega)
  obtain ⟨y, g2, hyok⟩ := gy (md + m - w - 1) (by omega) (by omega)
  refine RT.shr rfl rfl (by omega) (r := (w : Int)) (half (by omega) (by omega)) rfl rfl ?_
  clear hw
  repeat' (first|refine gS ?_|(refine gv ?_;refine gk ?_)|fail)
  refine CT.seq ?_
  refine CT.tail 11 mixed (by kernel_rfl) ?_
  dsimp only [List.take_succ_cons, List.take_zero]
  repeat' (first|refine gL ?_|(refine gv ?_;refine gk ?_)|fail)
  refine RT.ix T (j := (md + m - w - 1) * 3) rfl rfl rfl (sO_rd sE_ hN hNc) (by omega) (by omega) (by omega) rfl rfl ?_
  refine RT.ldra T rfl (sO_rd sE_ hN hNc) (l := y.cells) (flat_sub (f := SymT.cells) (z := 3) (fun _ => rfl) D _ _ g2) rfl rfl rfl rfl ?_
  try refine gL ?_
  refine RT.ix T (j := w * 3) rfl rfl rfl (sO_rd sE_ hN hNc) (by omega) (by omega) (by omega) rfl rfl ?_
  refine RT.ldra T rfl (sO_rd sE_ hN hNc) (l := x.cells) (flat_sub (f := SymT.cells) (z := 3) (fun _ => rfl) D _ _ g1) rfl rfl rfl rfl ?_
  try refine gL ?_
  refine AtQ.tail ?_
  refine RT.callV T rfl rfl fR_ (cmp_fn hyok hxok) rfl rfl rfl ?_
  rintro _ _ ⟨rfl, rfl⟩
  simp only [List.nil_append]
  repeat' (first|refine gL ?_|(refine gv ?_;first|(refine⟨fun hc=>?_,fun hc=>?_⟩<;>first|(exfalso;omega)|skip)|refine gk ?_)|fail)
  ·have hlt := (cmpV_lt y x).1 (by omega)
   exact AtQ.loop (s, w) ⟨rfl, rfl, rfl, rfl, rfl, rfl, rfl, rfl, rfl, rfl, trivial⟩ (fun _ h => Sat.pu_in ⟨h1, by dsimp only; omega, by dsimp only; omega, h4, .inr ⟨x, y, g1, g2, hlt⟩⟩ h) (by dsimp only; omega)
  ·have hge := cmpV_f (s := y) (t := x) (by omega)
   exact AtQ.loop (w + 1, r) ⟨rfl, rfl, rfl, rfl, rfl, rfl, rfl, congrArg (fun z : Int => some (Value.int IntKind.i64 z)) (by dsimp only; omega), rfl, rfl, trivial⟩ (fun _ h => Sat.pu_in ⟨by dsimp only; omega, by dsimp only; omega, h3, .inr ⟨x, y, by dsimp only; rw [Nat.add_sub_cancel]; exact g1, by dsimp only; rw [show md + m - (w + 1) = md + m - w - 1 by omega]; exact g2, hge⟩, h5⟩ h) (by dsimp only; omega)
 ·obtain rfl : s = r := by omega
  exact AtQ.cut s ⟨rfl, rfl, rfl, rfl, rfl, rfl, rfl, rfl, trivial⟩ (fun _ h => Sat.pu_in ⟨h1, h3, h4, h5⟩ h)
end Go.Proofs.YtdemnhdoadjhhaaGreatDoor
end
section
namespace Go.Proofs.YtdemnhdoadjhhaaGreatDoor
open Go.Sk
set_option maxRecDepth 100000
attribute [local irreducible] Cs Own Ex Pu Yld RT LJ QJ AtQ CT Rd QSp Sp FinQ Then LoopQ CutQ DT TakeQ EffQ
variable {B : World} {R : List HP}
theorem merge_fn' {a : Option Addr} {c N : Nat} {A X Y C D : List SymT} {p q mi : Int} (hD : D = A ++ X ++ Y ++ C) (hN : D.length = N) (hNc : N ≤ c) (hb : N ≤ 1073741824) (hp : p = A.length) (hm : mi = A.length + X.length) (hq : q = A.length + X.length + Y.length)
  (hx0 : 0 < X.length) (hy0 : 0 < Y.length) (hokX : ∀ s ∈ X, s.Ok) (hokY : ∀ s ∈ Y, s.Ok) (hsX : Srt befB X) (hsY : Srt befB Y) :
  Sp B Tryz.prog 129 [.slice a N c, .int .i64 p, .int .i64 mi, .int .i64 q, cF] R [sO a c N D] (fun v H' => v = .tuple #[] ∧ ∃ Z, Z.Perm (X ++ Y) ∧ Srt befB Z ∧ H' = [sO a c N (A ++ Z ++ C)]) := by
 obtain rfl : mi = ((A.length + X.length : Nat) : Int) := by omega
 exact merge_fn _ (Nat.le_refl _) hD hN hNc hb hp rfl (by omega) hx0 hy0 hokX hokY hsX hsY
set_option maxHeartbeats 8000000 in
theorem stable_fn {a : Option Addr} {c N : Nat} {D : List SymT} (hN : D.length = N) (hNc : N ≤ c) (hb : N ≤ 268435456) (hok : ∀ s ∈ D, s.Ok) :
  Sp B Tryz.prog 95 [.slice a N c, .int .i64 N, cF] R [sO a c N D] (fun v H' => v = .tuple #[] ∧ ∃ D', D'.Perm D ∧ Srt befB D' ∧ H' = [sO a c N D']) := by
 refine Sp.body Tryz.func95 rfl Tryz.ntmps95 (by simp) ?_
 simp only [argE, List.cons_append, List.nil_append, Nat.zero_add, Nat.reduceAdd]
 try refine gL ?_
 refine CT.loop (α := List SymT × List SymT) (fun s => [(0, .slice a N c), (1, .int .i64 N), (2, cF), (6, .int .i64 20), (7, .int .i64 s.1.length), (8, .int .i64 (s.1.length + 20))])
  (fun s => Pu (Ful befB 20 s.1 ∧ (s.1 ++ s.2).Perm D) :: sO a c N (s.1 ++ s.2) :: R) (fun s => s.2.length) ([], D)
  ⟨rfl, rfl, rfl, rfl, rfl, rfl, trivial⟩ (fun _ h => Sat.pu_in ⟨.nil, List.Perm.refl _⟩ h) (fun s => CT.pu fun hh => ?_)
 obtain ⟨L, K⟩ := s
 obtain ⟨h1, h2⟩ := hh
 dsimp only at h1 h2 ⊢
 have hl : L.length + K.length = N := by rw [← hN, ← h2.length_eq, List.length_append]
 have ho : ∀ s ∈ L ++ K, s.Ok := fun s hs => hok s (h2.mem_iff.1 hs)
 repeat' (first|refine gL ?_|(refine gv ?_;(refine⟨fun hc=>?_,fun hc=>?_⟩<;>first|(exfalso;omega)|skip))|fail)
 ·obtain ⟨X, K', rfl, hx⟩ := split_len (l := K) (k := 20) (by omega)
  rw [List.length_append] at hl
  refine RT.call T rfl fR_ (ins_fn (A := L) (X := X) (C := K') (by simp only [List.append_assoc]) (by simp only [List.length_append]; omega) hNc (by omega) rfl (by omega) (fun s hs => ho s (by simp [hs]))) rfl rfl rfl ?_
  rintro _ _ ⟨rfl, X', p1, p2, rfl⟩
  simp only [List.cons_append, List.nil_append]
  have hxl : X'.length = 20 := by rw [p1.length_eq, hx]
  repeat' (first|refine gL ?_|(refine gv ?_;refine gk ?_)|fail)
  refine AtQ.loop (L ++ X', K') ⟨rfl, rfl, rfl, rfl, congrArg (fun z : Int => some (Value.int IntKind.i64 z)) (by simp only [List.length_append]; omega), congrArg (fun z : Int => some (Value.int IntKind.i64 z)) (by simp only [List.length_append]; omega), trivial⟩
   (fun _ h => Sat.pu_in ⟨h1.snoc p2 hxl, ?_⟩ h) (by simp only [List.length_append]; omega)
  rw [List.append_assoc]
  exact ((p1.append_right K').append_left L).trans h2
 refine RT.call T rfl fR_ (ins_fn (A := L) (X := K) (C := []) (by simp only [List.append_nil]) (by simp only [List.length_append]; omega) hNc (by omega) rfl (by omega) (fun s hs => ho s (by simp [hs]))) rfl rfl rfl ?_
 rintro _ _ ⟨rfl, K', p1, p2, rfl⟩
 have hkl : K'.length = K.length := p1.length_eq
 have b0 : Blk befB 20 (L ++ K') := h1.blk (.last p2 (by omega))
 have q0 : (L ++ K').Perm D := (p1.append_left L).trans h2
 simp only [List.cons_append, List.nil_append, List.append_nil]
 clear hl ho h1 h2 hkl
 generalize L ++ K' = D1 at b0 q0 ⊢
 try refine gL ?_
 refine CT.loop (α := Nat × List SymT) (fun s => [(0, .slice a N c), (1, .int .i64 N), (2, cF), (6, .int .i64 s.1)])
  (fun s => Pu (20 ≤ s.1 ∧ Blk befB s.1 s.2 ∧ s.2.Perm D) :: sO a c N s.2 :: R) (fun s => N - s.1) (20, D1)
  ⟨rfl, rfl, rfl, rfl, trivial⟩ (fun _ h => Sat.pu_in ⟨Nat.le_refl _, b0, q0⟩ h) (fun s => CT.pu fun hh => ?_)
 obtain ⟨bs, L0⟩ := s
 obtain ⟨g0, g1, g2⟩ := hh
 dsimp only at g0 g1 g2 ⊢
 have g3 : L0.length = N := by rw [g2.length_eq, hN]
 clear b0 q0
 repeat' (first|refine gL ?_|(refine gv ?_;first|(refine⟨fun hc=>?_,fun hc=>?_⟩<;>first|(exfalso;omega)|skip)|refine gk ?_)|fail)
 ·refine CT.loop (α := List SymT × List SymT) (fun s => [(0, .slice a N c), (1, .int .i64 N), (2, cF), (6, .int .i64 bs), (7, .int .i64 s.1.length), (8, .int .i64 (s.1.length + 2 * bs))])
   (fun s => Pu (Ful befB (2 * bs) s.1 ∧ Blk befB bs s.2 ∧ (s.1 ++ s.2).Perm D) :: sO a c N (s.1 ++ s.2) :: R) (fun s => s.2.length) ([], L0)
   ⟨rfl, rfl, rfl, rfl, rfl, congrArg (fun z : Int => some (Value.int IntKind.i64 z)) (by simp only [List.length_nil]; omega), trivial⟩ (fun _ h => Sat.pu_in ⟨.nil, g1, g2⟩ h) (fun s => CT.pu fun hh => ?_)
  obtain ⟨L, K⟩ := s
  obtain ⟨h1, h3, h2⟩ := hh
  dsimp only at h1 h2 h3 ⊢
  have hl : L.length + K.length = N := by rw [← hN, ← h2.length_eq, List.length_append]
  have ho : ∀ s ∈ L ++ K, s.Ok := fun s hs => hok s (h2.mem_iff.1 hs)
  clear g1 g2 g3
  repeat' (first|refine gL ?_|(refine gv ?_;first|(refine⟨fun hc=>?_,fun hc=>?_⟩<;>first|(exfalso;omega)|skip)|refine gk ?_)|fail)
  ·obtain ⟨X, Y, K', rfl, x1, x2, x3, x4, x5⟩ := h3.two (by omega) (by omega)
   simp only [List.length_append] at hl
   refine RT.call T rfl fR_ (merge_fn' (A := L) (X := X) (Y := Y) (C := K') (by simp only [List.append_assoc]) (by simp only [List.length_append]; omega) hNc (by omega) rfl (by omega) (by omega) (by omega) (by omega) (fun s hs => ho s (by simp [hs])) (fun s hs => ho s (by simp [hs])) x1 x2) rfl rfl rfl ?_
   rintro _ _ ⟨rfl, Z, p1, p2, rfl⟩
   simp only [List.cons_append, List.nil_append]
   have hzl : Z.length = 2 * bs := by rw [p1.length_eq, List.length_append]; omega
   repeat' (first|refine gL ?_|(refine gv ?_;refine gk ?_)|fail)
   refine AtQ.loop (L ++ Z, K') ⟨rfl, rfl, rfl, rfl, congrArg (fun z : Int => some (Value.int IntKind.i64 z)) (by simp only [List.length_append]; omega), congrArg (fun z : Int => some (Value.int IntKind.i64 z)) (by simp only [List.length_append]; omega), trivial⟩
    (fun _ h => Sat.pu_in ⟨h1.snoc p2 hzl, x5, ?_⟩ h) (by simp only [List.length_append]; omega)
   rw [List.append_assoc]
   exact ((p1.append_right K').append_left L).trans h2
  ·obtain ⟨X, Y, rfl, x1, x2, x3⟩ := h3.more (by omega) (by omega) (by omega)
   simp only [List.length_append] at hl
   refine RT.call T rfl fR_ (merge_fn' (A := L) (X := X) (Y := Y) (C := []) (by simp only [List.append_assoc, List.append_nil]) (by simp only [List.length_append]; omega) hNc (by omega) rfl (by omega) (by omega) (by omega) (by omega) (fun s hs => ho s (by simp [hs])) (fun s hs => ho s (by simp [hs])) x1 x2) rfl rfl rfl ?_
   rintro _ _ ⟨rfl, Z, p1, p2, rfl⟩
   simp only [List.cons_append, List.nil_append, List.append_nil]
   have hzl : Z.length = X.length + Y.length := by rw [p1.length_eq, List.length_append]
   repeat' (first|refine gL ?_|(refine gv ?_;refine gk ?_)|fail)
   exact AtQ.loop (2 * bs, L ++ Z) ⟨rfl, rfl, rfl, congrArg (fun z : Int => some (Value.int IntKind.i64 z)) (by dsimp only; omega), trivial⟩
    (fun _ h => Sat.pu_in ⟨by dsimp only; omega, h1.blk (.last p2 (by omega)), (p1.append_left L).trans h2⟩ h) (by dsimp only; omega)
  ·exact AtQ.loop (2 * bs, L ++ K) ⟨rfl, rfl, rfl, congrArg (fun z : Int => some (Value.int IntKind.i64 z)) (by dsimp only; omega), trivial⟩
    (fun _ h => Sat.pu_in ⟨by dsimp only; omega, h1.blk (.last (h3.one (by omega)) (by omega)), h2⟩ h) (by dsimp only; omega)
 ·exact AtQ.fin0 Tryz.results95 (H' := [sO a c N L0]) ⟨rfl, L0, g2, g1.one (by omega), rfl⟩ (fun _ h => h) _ (by first | exact .inl rfl | exact .inr rfl)
theorem sort_fn {a : Option Addr} {c N : Nat} {D : List SymT} (hN : D.length = N) (hNc : N ≤ c) (hb : N ≤ 268435456) (hok : ∀ s ∈ D, s.Ok) :
  Sp B Tryz.prog 41 [.slice a N c, cF] R [sO a c N D] (fun v H' => v = .tuple #[] ∧ ∃ D', D'.Perm D ∧ Srt befB D' ∧ H' = [sO a c N D']) := by
 refine Sp.body Tryz.func41 rfl Tryz.ntmps41 (by simp) ?_
 simp only [argE, List.cons_append, List.nil_append, Nat.zero_add, Nat.reduceAdd]
 try refine gL ?_
 refine RT.call T rfl fR_ (stable_fn hN hNc hb hok) rfl rfl rfl ?_
 rintro _ _ ⟨rfl, D', p1, p2, rfl⟩
 simp only [List.cons_append, List.nil_append]
 try refine gL ?_
 exact AtQ.fin0 Tryz.results41 (H' := [sO a c N D']) ⟨rfl, D', p1, p2, rfl⟩ (fun _ h => h) _ (by first | exact .inl rfl | exact .inr rfl)
end Go.Proofs.YtdemnhdoadjhhaaGreatDoor
end
section
namespace Go.Proofs.YtdemnhdoadjhhaaGreatDoor
open Go.Sk
set_option maxRecDepth 100000
abbrev cPut (lb fb : Nat) : Value := .func (.func 37) #[] #[ptr lb, ptr fb]
abbrev cEnum (pb : Nat) : Value := .func (.func 39) #[] #[ptr pb]
abbrev cMsg (pb mb eb : Nat) : Value := .func (.func 40) #[] #[ptr pb, ptr mb, ptr eb]
/-- The symbols that are come to: the variable, its row, the file. -/
abbrev syl (lb fb : Nat) (fcl : List Value) (a : Option Addr) (c : Nat) (l : List SymT) : List HP :=
 [Cs lb 35 [.slice a l.length c], Own a c 79 3 l.length (l.flatMap SymT.cells), Cs fb 26 fcl]
attribute [local irreducible] Cs Own Ex Pu Yld RT LJ QJ AtQ CT Rd QSp Sp FinQ Then LoopQ CutQ DT TakeQ EffQ
variable {B : World} {R : List HP}
set_option maxHeartbeats 2000000 in
theorem cput_fn {lb fb : Nat} {path sc nm : Txt} {v1 v2 v3 v4 : Value} {k : Int} {a : Option Addr} {c : Nat} {l : List SymT} (hs : Byt sc) (hn : Byt nm) (h1 : sc.length ≤ 16777216) (h2 : nm.length ≤ 16777216) (hl : l.length ≤ 1073741824) :
  Sp B Tryz.prog 37 [vS sc, vS nm, .int .u8 k, ptr lb, ptr fb] R (syl lb fb [vS path, v1, v2, v3, v4] a c l) (fun v H' => v = vS (joinL [sc, nm]) ∧ ∃ a' c', H' = syl lb fb [vS path, v1, v2, v3, v4] a' c' (l ++ [⟨joinL [sc, nm], k, path⟩])) := by
 refine Sp.body Tryz.func37 rfl Tryz.ntmps37 (by simp) ?_
 simp only [argE, List.cons_append, List.nil_append, Nat.zero_add, Nat.reduceAdd]
 try refine gL ?_
 (refine RT.bs T (l := strs [sc,  nm]) rfl rfl rfl rfl rfl rfl rfl (fun a9 c9 h9 => ?_); (refine RT.call T rfl fR_ (join_fn (ls := [sc,  nm]) (Own.rd (by ((repeat constructor);done)) rfl h9) rfl (b2  hs  hn) ( s2l h1 h2)) rfl rfl rfl ?_; rintro _ _ ⟨rfl, rfl⟩; try simp only [List.cons_append, List.nil_append]); refine RT.weak (fun w h => h.tail) ?_)
 try refine gL ?_
 generalize joinL [sc, nm] = full at *
 refine RT.bsA T (l := [vS full, .int .u8 k, vS path]) rfl rfl rfl rfl rfl rfl rfl rfl (fun b' => ?_)
 refine RT.app T (xs := l.flatMap SymT.cells) (ys := (⟨full, k, path⟩ : SymT).cells) rfl rfl rfl (fun a' c' => by ((repeat constructor);done)) (Own.rd sE_ rfl (Nat.le_refl _)) (one_sym _) (by omega) (by omega) rfl rfl rfl rfl (fun a' c' hac => ?_)
 try refine gL ?_
 refine AtQ.fin1 Tryz.results37 (H' := syl lb fb [vS path, v1, v2, v3, v4] a' c' (l ++ [⟨full, k, path⟩])) rfl ⟨rfl, a', c', rfl⟩ (fun w h => ?_)
 unfold syl
 rw [List.length_append, List.length_singleton, List.flatMap_append, List.flatMap_singleton]
 exact h.frd (Ps := [_, _, _]) (Qs := [_]) fR_
set_option maxHeartbeats 4000000 in
theorem cenum_fn {pb lb fb : Nat} {path sc : Txt} {v1 v2 v3 v4 : Value} {a : Option Addr} {c : Nat} {l : List SymT} {e : EnumT} (hin : e.In (Rd B R)) (hok : e.Ok) (hnm : ENm e) (hs : Byt sc) (hsl : sc.length ≤ 16777216) (hl : l.length + cntE e ≤ 1073741824) :
  Sp B Tryz.prog 39 [.agg e.cells.toArray, vS sc, ptr pb] R (Cs pb 106 [cPut lb fb] :: syl lb fb [vS path, v1, v2, v3, v4] a c l)
   (fun v H' => v = .tuple #[] ∧ ∃ a' c', H' = Cs pb 106 [cPut lb fb] :: syl lb fb [vS path, v1, v2, v3, v4] a' c' (l ++ symE path sc e)) := by
 obtain ⟨nm, ⟨va, vc, vl⟩, ali, ⟨ra, rc, rl⟩, ⟨na, nc, nl⟩⟩ := e
 obtain ⟨hv, _, _⟩ := hin
 obtain ⟨⟨ho1, _⟩, ⟨ho2, _⟩, ho3, _, _, _, _⟩ := hok
 obtain ⟨hm1, hm2, _⟩ := hnm
 unfold cntE at hl
 dsimp only at hv ho1 ho2 ho3 hm1 hm2 hl
 unfold symE
 dsimp only [EnumT.cells, Rw.v]
 refine Sp.body Tryz.func39 rfl Tryz.ntmps39 (by simp) ?_
 simp only [argE, List.cons_append, List.nil_append, Nat.zero_add, Nat.reduceAdd]
 repeat' (first|refine gL ?_|(refine gb ?_;intro b)|fail)
 revert b
 intro eb
 refine RT.callC T (caps := [ptr lb, ptr fb]) rfl rfl fR_ (cput_fn (lb := lb) (fb := fb) (path := path) (v1 := v1) (v2 := v2) (v3 := v3) (v4 := v4) (a := a) (c := c) (l := l) (k := 2) hs ho1 hsl hm1 (by omega)) rfl rfl rfl ?_
 rintro _ _ ⟨rfl, a1, c1, rfl⟩
 simp only [List.cons_append, List.nil_append]
 try refine gL ?_
 obtain ⟨es, hes⟩ : ∃ es, es = [vS nm, Value.slice va vl.length vc, Value.bool ali, Value.slice ra rl.length rc, Value.slice na nl.length nc] := ⟨_, rfl⟩
 rw [← hes]
 refine CT.loop (α := Nat × Option Addr × Nat) (fun s => [(1, vS sc), (2, ptr pb), (13, .slice va vl.length vc), (14, .int .i64 vl.length), (15, .int .i64 s.1)])
  (fun s => Pu (s.1 ≤ vl.length) :: Cs pb 106 [cPut lb fb] :: (syl lb fb [vS path, v1, v2, v3, v4] s.2.1 s.2.2 (l ++ [⟨joinL [sc, nm], 2, path⟩] ++ (vl.take s.1).map (fun v => ⟨joinL [sc, v.nm], 3, path⟩)) ++ Cs eb 109 es :: R)) (fun s => vl.length - s.1) (0, a1, c1)
  ⟨rfl, rfl, rfl, rfl, rfl, trivial⟩ (fun w h => Sat.pu_in (Nat.zero_le _) (by dsimp only; rw [List.take_zero, List.map_nil, List.append_nil]; exact h.frd (Ps := [_, _, _, _, _]) (Qs := []) fR_)) (fun ⟨i, a2, c2⟩ => CT.pu fun hil => ?_)
 dsimp only at hil ⊢
 simp only [List.cons_append, List.nil_append]
 repeat' (first|refine gL ?_|(refine gv ?_;(refine⟨fun hc=>?_,fun hc=>?_⟩<;>first|(exfalso;omega)|skip))|fail)
 ·have hi' : i < vl.length := by omega
  have hgi := List.getElem?_eq_getElem hi'
  revert hgi
  generalize vl[i] = ev
  intro hgi
  have hme := List.mem_of_getElem? hgi
  have hvb := (ho3 ev hme).1.1
  have hvs := hm2 ev hme
  refine RT.ix T (j := i * 2) rfl rfl rfl (rD (hv)) (by omega) (by omega) (by omega) rfl rfl ?_
  refine RT.ldra T rfl (rD (hv)) (l := ev.cells) (flat_sub (f := EValT.cells) (z := 2) (fun _ => rfl) vl i _ hgi) rfl rfl rfl rfl ?_
  dsimp only [EValT.cells]
  repeat' (first|refine gM ?_|(refine gb ?_;intro b)|fail)
  refine RT.callC T (caps := [ptr lb, ptr fb]) rfl rfl fR_ (cput_fn (lb := lb) (fb := fb) (path := path) (v1 := v1) (v2 := v2) (v3 := v3) (v4 := v4) (k := 3) hs hvb hsl hvs (by simp; omega)) rfl rfl rfl ?_
  rintro _ _ ⟨rfl, a3, c3, rfl⟩
  simp only [List.cons_append, List.nil_append]
  repeat' (first|refine gL ?_|(refine gv ?_;refine gk ?_)|fail)
  refine AtQ.loop (i + 1, a3, c3) ⟨rfl, rfl, rfl, rfl, rfl, trivial⟩ (fun w h => Sat.pu_in (by dsimp only; omega) ?_) (by dsimp only; omega)
  dsimp only
  rw [← map_snoc hgi, ← List.append_assoc]
  exact h.frd (Ps := [_, _, _, _, _]) (Qs := [_]) fR_
 ·refine AtQ.fin0 Tryz.results39 (H' := Cs pb 106 [cPut lb fb] :: syl lb fb [vS path, v1, v2, v3, v4] a2 c2 (l ++ (⟨joinL [sc, nm], 2, path⟩ :: vl.map (fun v => ⟨joinL [sc, v.nm], 3, path⟩)))) ⟨rfl, a2, c2, rfl⟩ (fun w h => ?_) _ (by first | exact .inl rfl | exact .inr rfl)
  rw [List.take_of_length_le (by omega), List.append_assoc] at h
  exact h.frd (Ps := [_, _, _, _]) (Qs := [_]) fR_
end Go.Proofs.YtdemnhdoadjhhaaGreatDoor
end
section
namespace Go.Proofs.YtdemnhdoadjhhaaGreatDoor
open Go.Sk
set_option maxRecDepth 100000
/-- What the functions of Symbols hold on to. -/
abbrev clo (pb mb eb lb fb : Nat) (fcl : List Value) (a : Option Addr) (c : Nat) (l : List SymT) : List HP :=
 Cs pb 106 [cPut lb fb] :: Cs mb 113 [cMsg pb mb eb] :: Cs eb 112 [cEnum pb] :: syl lb fb fcl a c l
attribute [local irreducible] Cs Own Ex Pu Yld RT LJ QJ AtQ CT Rd QSp Sp FinQ Then LoopQ CutQ DT TakeQ EffQ
variable {B : World}
set_option maxHeartbeats 16000000 in
theorem cmsg_fn (d : Nat) : ∀ {R : List HP} {pb mb eb lb fb : Nat} {path : Txt} {v1 v2 v3 v4 : Value} {a : Option Addr} {c : Nat} {l : List SymT} {m : MsgT} {sc : Txt} {ah : Int}, m.deep ≤ d → m.In (Rd B R) → m.Ok → m.Nm → m.Ful ah → Byt sc → (sc.length : Int) ≤ ah → l.length + cntM m ≤ 1073741824 →
  Sp B Tryz.prog 40 [.agg m.cells.toArray, vS sc, ptr pb, ptr mb, ptr eb] R (clo pb mb eb lb fb [vS path, v1, v2, v3, v4] a c l) (fun v H' => v = .tuple #[] ∧ ∃ a' c', H' = clo pb mb eb lb fb [vS path, v1, v2, v3, v4] a' c' (l ++ symM path m sc)) := by
 induction d using Nat.strongRecOn with
 | _ d ih =>
 intro R pb mb eb lb fb path v1 v2 v3 v4 a c l m sc ah hd hin hok hnm hful hs hsa hl
 obtain ⟨nm, ⟨fa, fc, fs⟩, ⟨oa, oc, os⟩, ma, mc, msgs, ⟨ea, ec, es⟩, ⟨ra, rc, rs⟩, ⟨na, nc, ns⟩⟩ := m
 unfold MsgT.In at hin
 unfold MsgT.Ok at hok
 unfold MsgT.Nm at hnm
 unfold MsgT.deep at hd
 unfold MsgT.Ful at hful
 unfold cntM at hl
 obtain ⟨rf, ro, rm, re, re2, _, _, rm2⟩ := hin
 obtain ⟨⟨ho1, _⟩, ⟨⟨lf, _⟩, of_⟩, ⟨⟨lo, _⟩, oo⟩, ⟨lm, _⟩, ⟨⟨le, _⟩, oe⟩, _, _, om⟩ := hok
 obtain ⟨hm1, hmf, hmo, _, hme, hmm⟩ := hnm
 obtain ⟨hf1, hf2⟩ := hful
 dsimp only at rf ro rm re re2 lf of_ lo oo lm le oe hmf hmo hme hl
 dsimp only [MsgT.cells, Rw.v, MsgT.nm, MsgT.fields, MsgT.oneofs, MsgT.ma, MsgT.mc, MsgT.msgs, MsgT.enums, MsgT.res, MsgT.names]
 refine Sp.body Tryz.func40 rfl Tryz.ntmps40 (by simp) ?_
 simp only [argE, List.cons_append, List.nil_append, Nat.zero_add, Nat.reduceAdd]
 repeat' (first|refine gL ?_|(refine gb ?_;intro b)|fail)
 revert b
 intro b5
 have hjl := @j2_len' sc nm
 have hjb := j2_byt hs ho1
 refine RT.callC T (caps := [ptr lb, ptr fb]) rfl rfl fR_ (cput_fn (lb := lb) (fb := fb) (path := path) (v1 := v1) (v2 := v2) (v3 := v3) (v4 := v4) (a := a) (c := c) (l := l) (k := 1) hs ho1 (by omega) hm1 (by omega)) rfl rfl rfl ?_
 rintro _ _ ⟨rfl, a1, c1, rfl⟩
 simp only [List.cons_append, List.nil_append]
 have hsy := symM_eq path nm ⟨fa, fc, fs⟩ ⟨oa, oc, os⟩ ma mc msgs ⟨ea, ec, es⟩ ⟨ra, rc, rs⟩ ⟨na, nc, ns⟩ sc _ rfl l
 rw [hsy]
 clear hsy
 dsimp only
 generalize joinL [sc, nm] = full at *
 have hfl : full.length ≤ 16777216 := by omega
 try refine gL ?_
 obtain ⟨mcl, hmcl⟩ : ∃ mcl, mcl = [vS nm, Value.slice fa fs.length fc, Value.slice oa os.length oc, Value.slice ma msgs.length mc, Value.slice ea es.length ec, Value.slice ra rs.length rc, Value.slice na ns.length nc] := ⟨_, rfl⟩
 rw [← hmcl]
 generalize hL1 : l ++ [⟨full, 1, path⟩] = L1
 have hl1 : L1.length = l.length + 1 := by rw [← hL1]; simp
 refine CT.loop (α := Nat × Option Addr × Nat) (fun s => [(2, ptr pb), (3, ptr mb), (4, ptr eb), (5, .pointer (some ⟨b5, 0, none⟩)), (7, vS full), (22, .slice fa fs.length fc), (23, .int .i64 fs.length), (24, .int .i64 s.1)])
  (fun s => Pu (s.1 ≤ fs.length) :: (clo pb mb eb lb fb [vS path, v1, v2, v3, v4] s.2.1 s.2.2 (L1 ++ (fs.take s.1).map (fun f => ⟨joinL [full, f.nm], 4, path⟩)) ++ Cs b5 72 mcl :: R)) (fun s => fs.length - s.1) (0, a1, c1)
  ⟨rfl, rfl, rfl, rfl, rfl, rfl, rfl, rfl, trivial⟩ (fun w h => Sat.pu_in (Nat.zero_le _) (by dsimp only; rw [List.take_zero, List.map_nil, List.append_nil]; exact h.frd (Ps := [_, _, _, _, _, _, _]) (Qs := []) fR_)) (fun ⟨i, a2, c2⟩ => CT.pu fun hil => ?_)
 dsimp only at hil ⊢
 simp only [List.cons_append, List.nil_append]
 repeat' (first|refine gL ?_|(refine gv ?_;(refine⟨fun hc=>?_,fun hc=>?_⟩<;>first|(exfalso;omega)|skip))|fail)
 ·have hi' : i < fs.length := by omega
  have hgi := List.getElem?_eq_getElem hi'
  revert hgi
  generalize fs[i] = f2
  intro hgi
  have hme2 := List.mem_of_getElem? hgi
  have hvb := (of_ f2 hme2).1.1
  have hvs := (hmf f2 hme2).1
  refine RT.ix T (j := i * 9) rfl rfl rfl (rD (rf)) (by omega) (by omega) (by omega) rfl rfl ?_
  refine RT.ldra T rfl (rD (rf)) (l := f2.cells) (flat_sub (f := FieldT.cells) (z := 9) (fun _ => rfl) fs i _ hgi) rfl rfl rfl rfl ?_
  dsimp only [FieldT.cells]
  repeat' (first|refine gM ?_|(refine gb ?_;intro b)|fail)
  refine RT.callC T (caps := [ptr lb, ptr fb]) rfl rfl fR_ (cput_fn (lb := lb) (fb := fb) (path := path) (v1 := v1) (v2 := v2) (v3 := v3) (v4 := v4) (k := 4) hjb hvb hfl hvs (by simp; omega)) rfl rfl rfl ?_
  rintro _ _ ⟨rfl, a3, c3, rfl⟩
  simp only [List.cons_append, List.nil_append]
  repeat' (first|refine gL ?_|(refine gv ?_;refine gk ?_)|fail)
  refine AtQ.loop (i + 1, a3, c3) ⟨rfl, rfl, rfl, rfl, rfl, rfl, rfl, rfl, trivial⟩ (fun w h => Sat.pu_in (by dsimp only; omega) ?_) (by dsimp only; omega)
  dsimp only
  rw [← map_snoc hgi, ← List.append_assoc]
  exact h.frd (Ps := [_, _, _, _, _, _, _]) (Qs := [_]) fR_
 rw [List.take_of_length_le (by omega)]
 clear hil rf
 generalize hL2 : L1 ++ List.map (fun f : FieldT => (⟨joinL [full, f.nm], 4, path⟩ : SymT)) fs = L2
 have hl2 : L2.length = l.length + 1 + fs.length := by rw [← hL2]; simp; omega
 subst hmcl
 try refine gL ?_
 obtain ⟨mcl, hmcl⟩ : ∃ mcl, mcl = [vS nm, Value.slice fa fs.length fc, Value.slice oa os.length oc, Value.slice ma msgs.length mc, Value.slice ea es.length ec, Value.slice ra rs.length rc, Value.slice na ns.length nc] := ⟨_, rfl⟩
 rw [← hmcl]
 refine CT.loop (α := Nat × Option Addr × Nat) (fun s => [(2, ptr pb), (3, ptr mb), (4, ptr eb), (5, .pointer (some ⟨b5, 0, none⟩)), (7, vS full), (35, .slice oa os.length oc), (36, .int .i64 os.length), (37, .int .i64 s.1)])
  (fun s => Pu (s.1 ≤ os.length) :: (clo pb mb eb lb fb [vS path, v1, v2, v3, v4] s.2.1 s.2.2 (L2 ++ (os.take s.1).map (fun o => ⟨joinL [full, o], 5, path⟩)) ++ Cs b5 72 mcl :: R)) (fun s => os.length - s.1) (0, a2, c2)
  ⟨rfl, rfl, rfl, rfl, rfl, rfl, rfl, rfl, trivial⟩ (fun w h => Sat.pu_in (Nat.zero_le _) (by dsimp only; rw [List.take_zero, List.map_nil, List.append_nil]; exact h)) (fun ⟨i, a2, c2⟩ => CT.pu fun hil => ?_)
 dsimp only at hil ⊢
 simp only [List.cons_append, List.nil_append]
 repeat' (first|refine gL ?_|(refine gv ?_;(refine⟨fun hc=>?_,fun hc=>?_⟩<;>first|(exfalso;omega)|skip))|fail)
 ·have hi' : i < os.length := by omega
  have hgi := List.getElem?_eq_getElem hi'
  revert hgi
  generalize os[i] = o2
  intro hgi
  have hme2 := List.mem_of_getElem? hgi
  have hvb := (oo o2 hme2).1
  have hvs := hmo o2 hme2
  refine RT.ix T (j := i) rfl rfl rfl (rD (ro)) (by omega) (by omega) (by omega) rfl rfl ?_
  refine RT.ldr T rfl (rD (ro)) (by rw [List.getElem?_map, hgi]; rfl) rfl rfl rfl ?_
  try refine gL ?_
  refine RT.callC T (caps := [ptr lb, ptr fb]) rfl rfl fR_ (cput_fn (lb := lb) (fb := fb) (path := path) (v1 := v1) (v2 := v2) (v3 := v3) (v4 := v4) (k := 5) hjb hvb hfl hvs (by simp; omega)) rfl rfl rfl ?_
  rintro _ _ ⟨rfl, a3, c3, rfl⟩
  simp only [List.cons_append, List.nil_append]
  repeat' (first|refine gL ?_|(refine gv ?_;refine gk ?_)|fail)
  refine AtQ.loop (i + 1, a3, c3) ⟨rfl, rfl, rfl, rfl, rfl, rfl, rfl, rfl, trivial⟩ (fun w h => Sat.pu_in (by dsimp only; omega) ?_) (by dsimp only; omega)
  dsimp only
  rw [← map_snoc hgi, ← List.append_assoc]
  exact h.frd (Ps := [_, _, _, _, _, _, _]) (Qs := []) fR_
 rw [List.take_of_length_le (by omega)]
 clear hil ro
 generalize hL3 : L2 ++ List.map (fun o : Txt => (⟨joinL [full, o], 5, path⟩ : SymT)) os = L3
 have hl3 : L3.length = l.length + 1 + fs.length + os.length := by rw [← hL3]; simp; omega
 subst hmcl
 try refine gL ?_
 obtain ⟨mcl, hmcl⟩ : ∃ mcl, mcl = [vS nm, Value.slice fa fs.length fc, Value.slice oa os.length oc, Value.slice ma msgs.length mc, Value.slice ea es.length ec, Value.slice ra rs.length rc, Value.slice na ns.length nc] := ⟨_, rfl⟩
 rw [← hmcl]
 refine CT.loop (α := Nat × Option Addr × Nat) (fun s => [(2, ptr pb), (3, ptr mb), (4, ptr eb), (5, .pointer (some ⟨b5, 0, none⟩)), (7, vS full), (47, .slice ma msgs.length mc), (48, .int .i64 msgs.length), (49, .int .i64 s.1)])
  (fun s => Pu (s.1 ≤ msgs.length) :: (clo pb mb eb lb fb [vS path, v1, v2, v3, v4] s.2.1 s.2.2 (L3 ++ symMs path (msgs.take s.1) full) ++ Cs b5 72 mcl :: R)) (fun s => msgs.length - s.1) (0, a2, c2)
  ⟨rfl, rfl, rfl, rfl, rfl, rfl, rfl, rfl, trivial⟩ (fun w h => Sat.pu_in (Nat.zero_le _) (by dsimp only; rw [List.take_zero, symMs, List.append_nil]; exact h)) (fun ⟨i, a2, c2⟩ => CT.pu fun hil => ?_)
 dsimp only at hil ⊢
 simp only [List.cons_append, List.nil_append]
 repeat' (first|refine gL ?_|(refine gv ?_;(refine⟨fun hc=>?_,fun hc=>?_⟩<;>first|(exfalso;omega)|skip))|fail)
 ·have hi' : i < msgs.length := by omega
  have hgi := List.getElem?_eq_getElem hi'
  revert hgi
  generalize msgs[i] = m2
  intro hgi
  have hme2 := List.mem_of_getElem? hgi
  have hmd := MsgT.deep_mem hme2
  have hcn := sum_snoc (f := cntM) hgi
  rw [← cntMs_eq, ← cntMs_eq] at hcn
  refine RT.ix T (j := i * 7) rfl rfl rfl (rD (rm)) (by omega) (by omega) (by omega) rfl rfl ?_
  refine RT.ldra T rfl (rD (rm)) (l := m2.cells) (flat_sub (f := MsgT.cells) (z := 7) (fun _ => rfl) msgs i _ hgi) rfl rfl rfl rfl ?_
  repeat' (first|refine gM ?_|(refine gb ?_;intro b)|fail)
  refine RT.callC T (caps := [ptr pb, ptr mb, ptr eb]) rfl rfl fR_ (@ih m2.deep (by omega) _ pb mb eb lb fb path v1 v2 v3 v4 a2 c2 (L3 ++ symMs path (msgs.take i) full) m2 full _ (Nat.le_refl _) (MsgT.In.mono (fun _ _ _ _ _ h => (rD (h))) (MsgT.inL_mem rm2 hme2)) (MsgT.okL_mem om hme2) (MsgT.nmL_mem hmm hme2) (MsgT.fulL_mem hf2 hme2) hjb (by omega) (by rw [List.length_append, symMs_len]; omega)) rfl rfl rfl ?_
  rintro _ _ ⟨rfl, a3, c3, rfl⟩
  simp only [List.cons_append, List.nil_append]
  repeat' (first|refine gL ?_|(refine gv ?_;refine gk ?_)|fail)
  refine AtQ.loop (i + 1, a3, c3) ⟨rfl, rfl, rfl, rfl, rfl, rfl, rfl, rfl, trivial⟩ (fun w h => Sat.pu_in (by dsimp only; omega) ?_) (by dsimp only; omega)
  dsimp only
  rw [← symMs_snoc hgi, ← List.append_assoc]
  exact h.frd (Ps := [_, _, _, _, _, _, _]) (Qs := [_]) fR_
 rw [List.take_of_length_le (by omega)]
 clear hil rm
 generalize hL4 : L3 ++ symMs path msgs full = L4
 have hl4 : L4.length = l.length + 1 + fs.length + os.length + cntMs msgs := by rw [← hL4, List.length_append, symMs_len]; omega
 subst hmcl
 try refine gL ?_
 obtain ⟨mcl, hmcl⟩ : ∃ mcl, mcl = [vS nm, Value.slice fa fs.length fc, Value.slice oa os.length oc, Value.slice ma msgs.length mc, Value.slice ea es.length ec, Value.slice ra rs.length rc, Value.slice na ns.length nc] := ⟨_, rfl⟩
 rw [← hmcl]
 refine CT.loop (α := Nat × Option Addr × Nat) (fun s => [(2, ptr pb), (3, ptr mb), (4, ptr eb), (5, .pointer (some ⟨b5, 0, none⟩)), (7, vS full), (59, .slice ea es.length ec), (60, .int .i64 es.length), (61, .int .i64 s.1)])
  (fun s => Pu (s.1 ≤ es.length) :: (clo pb mb eb lb fb [vS path, v1, v2, v3, v4] s.2.1 s.2.2 (L4 ++ (es.take s.1).flatMap (symE path full)) ++ Cs b5 72 mcl :: R)) (fun s => es.length - s.1) (0, a2, c2)
  ⟨rfl, rfl, rfl, rfl, rfl, rfl, rfl, rfl, trivial⟩ (fun w h => Sat.pu_in (Nat.zero_le _) (by dsimp only; rw [List.take_zero, List.flatMap_nil, List.append_nil]; exact h)) (fun ⟨i, a2, c2⟩ => CT.pu fun hil => ?_)
 dsimp only at hil ⊢
 simp only [List.cons_append, List.nil_append]
 repeat' (first|refine gL ?_|(refine gv ?_;(refine⟨fun hc=>?_,fun hc=>?_⟩<;>first|(exfalso;omega)|skip))|fail)
 ·have hi' : i < es.length := by omega
  have hgi := List.getElem?_eq_getElem hi'
  revert hgi
  generalize es[i] = e2
  intro hgi
  have hme2 := List.mem_of_getElem? hgi
  have hcn := sum_snoc (f := cntE) hgi
  refine RT.ix T (j := i * 5) rfl rfl rfl (rD (re)) (by omega) (by omega) (by omega) rfl rfl ?_
  refine RT.ldra T rfl (rD (re)) (l := e2.cells) (flat_sub (f := EnumT.cells) (z := 5) (fun _ => rfl) es i _ hgi) rfl rfl rfl rfl ?_
  repeat' (first|refine gM ?_|(refine gb ?_;intro b)|fail)
  refine RT.callC T (caps := [ptr pb]) rfl rfl fR_ (cenum_fn (pb := pb) (lb := lb) (fb := fb) (path := path) (v1 := v1) (v2 := v2) (v3 := v3) (v4 := v4) (a := a2) (c := c2) (l := L4 ++ (es.take i).flatMap (symE path full)) (e := e2) (sc := full) (EnumT.In.mono (fun _ _ _ _ _ h => (rD (h))) (re2 e2 hme2)) (oe e2 hme2) (hme e2 hme2) hjb hfl (by rw [List.length_append, symEs_len]; omega)) rfl rfl rfl ?_
  rintro _ _ ⟨rfl, a3, c3, rfl⟩
  simp only [List.cons_append, List.nil_append]
  repeat' (first|refine gL ?_|(refine gv ?_;refine gk ?_)|fail)
  refine AtQ.loop (i + 1, a3, c3) ⟨rfl, rfl, rfl, rfl, rfl, rfl, rfl, rfl, trivial⟩ (fun w h => Sat.pu_in (by dsimp only; omega) ?_) (by dsimp only; omega)
  dsimp only
  rw [← flat_snoc hgi, ← List.append_assoc]
  exact h.frd (Ps := [_, _, _, _, _, _, _]) (Qs := [_]) fR_
 rw [List.take_of_length_le (by omega)]
 refine AtQ.fin0 Tryz.results40 (H' := clo pb mb eb lb fb [vS path, v1, v2, v3, v4] a2 c2 (L4 ++ es.flatMap (symE path full))) ⟨rfl, a2, c2, rfl⟩ (fun w h => ?_) _ (by first | exact .inl rfl | exact .inr rfl)
 exact h.frd (Ps := [_, _, _, _, _, _]) (Qs := [_]) fR_
end Go.Proofs.YtdemnhdoadjhhaaGreatDoor
end
