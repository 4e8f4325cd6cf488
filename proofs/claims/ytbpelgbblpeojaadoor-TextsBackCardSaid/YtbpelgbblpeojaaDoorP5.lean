/- Plain law: the document's sizes are the decoder's. -/
import Derived.Test.YtbpelgbblpeojaaDoorB22
import Derived.Test.YtbpelgbblpeojaaDoorP2
set_option linter.unusedVariables false
set_option linter.unusedSimpArgs false
namespace Go.Proofs.YtbpelgbblpeojaaDoor
open Go.Sk Go.Lib
set_option maxRecDepth 100000
theorem dec_at (l : List Int) (hb : Byt l) (p : Nat) (hp : p < l.length) : ∃ b0 b1 b2 b3 : Nat, Utf8.decode (str l) p = decodeN (l.length - p) b0 b1 b2 b3 ∧ (b0 : Int) = l.getD p 0 ∧ (p + 1 < l.length → (b1 : Int) = l.getD (p + 1) 0) ∧ (p + 2 < l.length → (b2 : Int) = l.getD (p + 2) 0) ∧ (p + 3 < l.length → (b3 : Int) = l.getD (p + 3) 0) := by
  have hg : ∀ j, j < l.length → ((((str l).data.toList.getD j 0).toNat : Nat) : Int) = l.getD j 0 := fun j hj => by
    rw [str_list]
    have : (l.map b8).getD j 0 = b8 (l.getD j 0) := by simp [List.getD_eq_getElem?_getD, hj]
    rw [this, b8_nat (hb.get hj)]
  refine ⟨_, _, _, _, ?_, hg p hp, hg (p + 1), hg (p + 2), hg (p + 3)⟩
  rw [decode_N, str_list, List.length_map]
def decBad (x : Nat × Nat) : Prop := x.1 = 65533 ∧ x.2 = 1
theorem size1 {l : List Int} {p b0 b1 b2 b3 : Nat} (hp : p < l.length) (e0 : (b0 : Int) = l.getD p 0) (e1 : p + 1 < l.length → (b1 : Int) = l.getD (p + 1) 0) (h0 : 194 ≤ b0) (h1 : b0 ≤ 223) :
    (decBad (decodeN (l.length - p) b0 b1 b2 b3) → sizeL l p = 0) ∧ (¬ decBad (decodeN (l.length - p) b0 b1 b2 b3) → sizeL l p = (decodeN (l.length - p) b0 b1 b2 b3).2 ∧ p + (decodeN (l.length - p) b0 b1 b2 b3).2 ≤ l.length) := by
  have hr : restL (l.getD p 0) = (1, 128, 191) := by unfold restL; rw [if_neg (by omega), if_pos (by omega)]
  by_cases hroom : p + 1 < l.length
  · have e1' := e1 hroom
    by_cases hc : 128 ≤ b1 ∧ b1 ≤ 191
    · have hd : decodeN (l.length - p) b0 b1 b2 b3 = (b0 % 32 * 64 + b1 % 64, 2) := by
        unfold decodeN
        rw [if_neg (by omega), if_pos (by omega), if_pos (by omega)]
      have hz : sizeL l p = 2 := by
        rw [sizeL_ok (by rw [hr]; simp only; omega) (by
          rw [hr]
          intro i h1 h2
          simp only at h2
          obtain rfl : i = 1 := by omega
          unfold contP
          simp only [if_true]
          omega), hr]
        rfl
      rw [hd, hz]
      refine ⟨fun h => ?_, fun _ => ⟨rfl, by simp only; omega⟩⟩
      unfold decBad at h
      simp at h
    · have hd : decodeN (l.length - p) b0 b1 b2 b3 = (65533, 1) := by
        unfold decodeN
        rw [if_neg (by omega), if_neg (by omega), if_neg (by omega), if_neg (by omega)]
      have hz : sizeL l p = 0 := sizeL_bad (i := 1) (Nat.le_refl _) (by rw [hr]; simp) (by rw [hr]; unfold contP; simp only [if_true]; omega)
      rw [hd, hz]
      exact ⟨fun _ => rfl, fun h => absurd ⟨rfl, rfl⟩ h⟩
  · have hd : decodeN (l.length - p) b0 b1 b2 b3 = (65533, 1) := by
      unfold decodeN
      rw [if_neg (by omega), if_neg (by omega), if_neg (by omega), if_neg (by omega)]
    have hz : sizeL l p = 0 := sizeL_0 (.inr (by rw [hr]; simp only; omega))
    rw [hd, hz]
    exact ⟨fun _ => rfl, fun h => absurd ⟨rfl, rfl⟩ h⟩
set_option maxHeartbeats 2000000 in
theorem size2 {l : List Int} {p b0 b1 b2 b3 : Nat} {lo hi : Int} (hp : p < l.length) (e1 : p + 1 < l.length → (b1 : Int) = l.getD (p + 1) 0) (e2 : p + 2 < l.length → (b2 : Int) = l.getD (p + 2) 0) (hr : restL (l.getD p 0) = (2, lo, hi))
    (h : (b0 = 224 ∧ lo = 160 ∧ hi = 191) ∨ (b0 = 237 ∧ lo = 128 ∧ hi = 159) ∨ (225 ≤ b0 ∧ b0 ≤ 239 ∧ b0 ≠ 237 ∧ lo = 128 ∧ hi = 191)) :
    (decBad (decodeN (l.length - p) b0 b1 b2 b3) → sizeL l p = 0) ∧ (¬ decBad (decodeN (l.length - p) b0 b1 b2 b3) → sizeL l p = (decodeN (l.length - p) b0 b1 b2 b3).2 ∧ p + (decodeN (l.length - p) b0 b1 b2 b3).2 ≤ l.length) := by
  by_cases hroom : p + 2 < l.length
  · have e1' := e1 (by omega)
    have e2' := e2 hroom
    by_cases hc : (lo ≤ b1 ∧ (b1 : Int) ≤ hi) ∧ (128 ≤ b2 ∧ b2 ≤ 191)
    · have hd : decodeN (l.length - p) b0 b1 b2 b3 = (b0 % 16 * 4096 + b1 % 64 * 64 + b2 % 64, 3) := by
        unfold decodeN
        rw [if_neg (by omega), if_neg (by omega), if_pos (by omega), if_pos (by omega)]
      have hz : sizeL l p = 3 := by
        rw [sizeL_ok (by rw [hr]; simp only; omega) (by
          rw [hr]
          intro i h1 h2
          simp only at h2
          have h12 : i = 1 ∨ i = 2 := by omega
          rcases h12 with rfl | rfl
          · unfold contP
            simp only [if_true]
            omega
          · unfold contP
            simp only [show ¬ (2 = 1) by decide, if_false]
            omega), hr]
        rfl
      rw [hd, hz]
      refine ⟨fun h => ?_, fun _ => ⟨rfl, by simp only; omega⟩⟩
      unfold decBad at h
      simp at h
    · have hd : decodeN (l.length - p) b0 b1 b2 b3 = (65533, 1) := by
        unfold decodeN
        rw [if_neg (by omega), if_neg (by omega)]
        split
        · rw [if_neg (by omega)]
        · rw [if_neg (by omega)]
      have hz : sizeL l p = 0 := by
        by_cases hc1 : lo ≤ b1 ∧ (b1 : Int) ≤ hi
        · refine sizeL_bad (i := 2) (by decide) (by rw [hr]; simp) (by rw [hr]; unfold contP; simp only [show ¬ (2 = 1) by decide, if_false]; omega)
        · refine sizeL_bad (i := 1) (Nat.le_refl _) (by rw [hr]; simp) (by rw [hr]; unfold contP; simp only [if_true]; omega)
      rw [hd, hz]
      exact ⟨fun _ => rfl, fun h => absurd ⟨rfl, rfl⟩ h⟩
  · have hd : decodeN (l.length - p) b0 b1 b2 b3 = (65533, 1) := by
      unfold decodeN
      rw [if_neg (by omega), if_neg (by omega), if_neg (by omega), if_neg (by omega)]
    have hz : sizeL l p = 0 := sizeL_0 (.inr (by rw [hr]; simp only; omega))
    rw [hd, hz]
    exact ⟨fun _ => rfl, fun h => absurd ⟨rfl, rfl⟩ h⟩
set_option maxHeartbeats 2000000 in
theorem size3 {l : List Int} {p b0 b1 b2 b3 : Nat} {lo hi : Int} (hp : p < l.length) (e1 : p + 1 < l.length → (b1 : Int) = l.getD (p + 1) 0) (e2 : p + 2 < l.length → (b2 : Int) = l.getD (p + 2) 0) (e3 : p + 3 < l.length → (b3 : Int) = l.getD (p + 3) 0) (hr : restL (l.getD p 0) = (3, lo, hi))
    (h : (b0 = 240 ∧ lo = 144 ∧ hi = 191) ∨ (b0 = 244 ∧ lo = 128 ∧ hi = 143) ∨ (241 ≤ b0 ∧ b0 ≤ 243 ∧ lo = 128 ∧ hi = 191)) :
    (decBad (decodeN (l.length - p) b0 b1 b2 b3) → sizeL l p = 0) ∧ (¬ decBad (decodeN (l.length - p) b0 b1 b2 b3) → sizeL l p = (decodeN (l.length - p) b0 b1 b2 b3).2 ∧ p + (decodeN (l.length - p) b0 b1 b2 b3).2 ≤ l.length) := by
  by_cases hroom : p + 3 < l.length
  · have e1' := e1 (by omega)
    have e2' := e2 (by omega)
    have e3' := e3 hroom
    by_cases hc : (lo ≤ b1 ∧ (b1 : Int) ≤ hi) ∧ (128 ≤ b2 ∧ b2 ≤ 191) ∧ (128 ≤ b3 ∧ b3 ≤ 191)
    · have hd : decodeN (l.length - p) b0 b1 b2 b3 = (b0 % 8 * 262144 + b1 % 64 * 4096 + b2 % 64 * 64 + b3 % 64, 4) := by
        unfold decodeN
        rw [if_neg (by omega), if_neg (by omega), if_neg (by omega), if_pos (by omega), if_pos (by omega)]
      have hz : sizeL l p = 4 := by
        rw [sizeL_ok (by rw [hr]; simp only; omega) (by
          rw [hr]
          intro i h1 h2
          simp only at h2
          have h12 : i = 1 ∨ i = 2 ∨ i = 3 := by omega
          rcases h12 with rfl | rfl | rfl
          · unfold contP
            simp only [if_true]
            omega
          · unfold contP
            simp only [show ¬ (2 = 1) by decide, if_false]
            omega
          · unfold contP
            simp only [show ¬ (3 = 1) by decide, if_false]
            omega), hr]
        rfl
      rw [hd, hz]
      refine ⟨fun h => ?_, fun _ => ⟨rfl, by simp only; omega⟩⟩
      unfold decBad at h
      simp at h
    · have hd : decodeN (l.length - p) b0 b1 b2 b3 = (65533, 1) := by
        unfold decodeN
        rw [if_neg (by omega), if_neg (by omega), if_neg (by omega)]
        split
        · rw [if_neg (by omega)]
        · rfl
      have hz : sizeL l p = 0 := by
        by_cases hc1 : lo ≤ b1 ∧ (b1 : Int) ≤ hi
        · by_cases hc2 : 128 ≤ b2 ∧ b2 ≤ 191
          · refine sizeL_bad (i := 3) (by decide) (by rw [hr]; simp) (by rw [hr]; unfold contP; simp only [show ¬ (3 = 1) by decide, if_false]; omega)
          · refine sizeL_bad (i := 2) (by decide) (by rw [hr]; simp) (by rw [hr]; unfold contP; simp only [show ¬ (2 = 1) by decide, if_false]; omega)
        · refine sizeL_bad (i := 1) (Nat.le_refl _) (by rw [hr]; simp) (by rw [hr]; unfold contP; simp only [if_true]; omega)
      rw [hd, hz]
      exact ⟨fun _ => rfl, fun h => absurd ⟨rfl, rfl⟩ h⟩
  · have hd : decodeN (l.length - p) b0 b1 b2 b3 = (65533, 1) := by
      unfold decodeN
      rw [if_neg (by omega), if_neg (by omega), if_neg (by omega), if_neg (by omega)]
    have hz : sizeL l p = 0 := sizeL_0 (.inr (by rw [hr]; simp only; omega))
    rw [hd, hz]
    exact ⟨fun _ => rfl, fun h => absurd ⟨rfl, rfl⟩ h⟩
theorem size_law {l : List Int} (hb : Byt l) : SizeLaw l := by
  intro p hp
  obtain ⟨b0, b1, b2, b3, hd, e0, e1, e2, e3⟩ := dec_at l hb p hp
  obtain ⟨c0, c1⟩ := hb.get hp
  rw [hd]
  by_cases h1 : b0 < 128
  · have hr : restL (l.getD p 0) = (0, 0, 0) := by unfold restL; rw [if_pos (by omega)]
    have hx : decodeN (l.length - p) b0 b1 b2 b3 = (b0, 1) := by unfold decodeN; rw [if_pos h1]
    have hz : sizeL l p = 1 := by
      rw [sizeL_ok (by rw [hr]; simp only; omega) (by rw [hr]; intro i h1 h2; simp only at h2; omega), hr]
      rfl
    rw [hx, hz]
    exact ⟨fun h => by simp only at h; omega, fun _ => ⟨rfl, by simp only; omega⟩⟩
  · by_cases h2 : 194 ≤ b0 ∧ b0 ≤ 223
    · exact size1 hp e0 e1 h2.1 h2.2
    · by_cases h3 : 224 ≤ b0 ∧ b0 ≤ 239
      · by_cases h4 : b0 = 224
        · exact size2 (lo := 160) (hi := 191) hp e1 e2 (by unfold restL; rw [if_neg (by omega), if_neg (by omega), if_pos (by omega)]) (by omega)
        · by_cases h5 : b0 = 237
          · exact size2 (lo := 128) (hi := 159) hp e1 e2 (by unfold restL; rw [if_neg (by omega), if_neg (by omega), if_neg (by omega), if_pos (by omega)]) (by omega)
          · exact size2 (lo := 128) (hi := 191) hp e1 e2 (by unfold restL; rw [if_neg (by omega), if_neg (by omega), if_neg (by omega), if_neg (by omega), if_pos (by omega)]) (by omega)
      · by_cases h6 : 240 ≤ b0 ∧ b0 ≤ 244
        · by_cases h7 : b0 = 240
          · exact size3 (lo := 144) (hi := 191) hp e1 e2 e3 (by unfold restL; rw [if_neg (by omega), if_neg (by omega), if_neg (by omega), if_neg (by omega), if_neg (by omega), if_pos (by omega)]) (by omega)
          · by_cases h8 : b0 = 244
            · exact size3 (lo := 128) (hi := 143) hp e1 e2 e3 (by unfold restL; rw [if_neg (by omega), if_neg (by omega), if_neg (by omega), if_neg (by omega), if_neg (by omega), if_neg (by omega), if_neg (by omega), if_pos (by omega)]) (by omega)
            · exact size3 (lo := 128) (hi := 191) hp e1 e2 e3 (by unfold restL; rw [if_neg (by omega), if_neg (by omega), if_neg (by omega), if_neg (by omega), if_neg (by omega), if_neg (by omega), if_pos (by omega)]) (by omega)
        · have hr : restL (l.getD p 0) = (-1, 0, 0) := by unfold restL; rw [if_neg (by omega), if_neg (by omega), if_neg (by omega), if_neg (by omega), if_neg (by omega), if_neg (by omega), if_neg (by omega), if_neg (by omega)]
          have hz : sizeL l p = 0 := sizeL_0 (.inl (by rw [hr]; simp))
          have hx : decodeN (l.length - p) b0 b1 b2 b3 = (65533, 1) := by
            unfold decodeN
            rw [if_neg h1]
            split
            · rw [if_neg (by omega)]
            · split
              · exfalso; omega
              · split
                · rw [if_neg (by omega)]
                · rfl
          rw [hx, hz]
          exact ⟨fun _ => rfl, fun h => absurd ⟨rfl, rfl⟩ h⟩
end Go.Proofs.YtbpelgbblpeojaaDoor
