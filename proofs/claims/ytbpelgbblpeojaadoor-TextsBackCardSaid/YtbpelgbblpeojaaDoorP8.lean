/- Plain law: a character that is decoded, encoded again. -/
import Derived.Test.YtbpelgbblpeojaaDoorB36
set_option linter.unusedVariables false
set_option linter.unusedSimpArgs false
namespace Go.Proofs.YtbpelgbblpeojaaDoor
open Go.Sk Go.Lib
set_option maxRecDepth 100000
theorem dropg {l : List Int} {p : Nat} (h : p < l.length) : l.drop p = l.getD p 0 :: l.drop (p + 1) := by
  rw [List.drop_eq_getElem_cons h, List.getD_eq_getElem?_getD, List.getElem?_eq_getElem h]; rfl
theorem cut1 {l : List Int} {p : Nat} (h : p + 0 < l.length) : (l.drop p).take (p + 1 - p) = [l.getD p 0] := by
  rw [show p + 1 - p = 1 by omega, dropg (by omega)]; rfl
theorem cut2 {l : List Int} {p : Nat} (h : p + 1 < l.length) : (l.drop p).take (p + 2 - p) = [l.getD p 0, l.getD (p + 1) 0] := by
  rw [show p + 2 - p = 2 by omega, dropg (by omega), dropg (p := p + 1) (by omega)]; rfl
theorem cut3 {l : List Int} {p : Nat} (h : p + 2 < l.length) : (l.drop p).take (p + 3 - p) = [l.getD p 0, l.getD (p + 1) 0, l.getD (p + 2) 0] := by
  rw [show p + 3 - p = 3 by omega, dropg (by omega), dropg (p := p + 1) (by omega), dropg (p := p + 1 + 1) (by omega)]; rfl
theorem cut4 {l : List Int} {p : Nat} (h : p + 3 < l.length) : (l.drop p).take (p + 4 - p) = [l.getD p 0, l.getD (p + 1) 0, l.getD (p + 2) 0, l.getD (p + 3) 0] := by
  rw [show p + 4 - p = 4 by omega, dropg (by omega), dropg (p := p + 1) (by omega), dropg (p := p + 1 + 1) (by omega), dropg (p := p + 1 + 1 + 1) (by omega)]; rfl
theorem val_of {n : Int} (h : (0 ≤ n ∧ n < 55296) ∨ (57344 ≤ n ∧ n ≤ 1114111)) : validR n := h
def DecC (l : List Int) (p : Nat) (x : Nat × Nat) : Prop := validR (x.1 : Int) ∧ (¬ (x.1 = 65533 ∧ x.2 = 1) → chrL (x.1 : Int) = (l.drop p).take (p + x.2 - p) ∧ (((x.1 : Int) = l.getD p 0 ∧ l.getD p 0 < 128 ∧ x.2 = 1) ∨ (128 ≤ l.getD p 0 ∧ 128 ≤ (x.1 : Int))))
theorem decC_bad {l : List Int} {p : Nat} : DecC l p (65533, 1) := ⟨val_of (by decide), fun h => absurd ⟨rfl, rfl⟩ h⟩
theorem dec_chr0 {l : List Int} (hb : Byt l) {p : Nat} (hp : p < l.length) : DecC l p (Utf8.decode (str l) p) := by
  obtain ⟨b0, b1, b2, b3, hd, e0, e1, e2, e3⟩ := dec_at l hb p hp
  obtain ⟨c0, c1⟩ := hb.get hp
  rw [hd]
  unfold decodeN
  by_cases h1 : b0 < 128
  · rw [if_pos h1]
    have hv : validR (b0 : Int) := val_of (by omega)
    refine ⟨hv, fun _ => ⟨?_, .inl ⟨e0, by omega, rfl⟩⟩⟩
    dsimp only
    rw [cut1 hp]
    unfold chrL
    rw [if_pos hv, if_pos (by omega), e0]
  rw [if_neg h1]
  by_cases h2 : b0 / 32 = 6 ∧ (1 < l.length - p ∧ b1 / 64 = 2)
  · rw [if_pos h2]
    by_cases h3 : b0 % 32 * 64 + b1 % 64 ≥ 128
    · rw [if_pos h3]
      have e1' := e1 (by omega)
      generalize hx : b0 % 32 * 64 + b1 % 64 = x at *
      have hv : validR (x : Int) := val_of (by omega)
      refine ⟨hv, fun _ => ⟨?_, .inr ⟨by omega, by show 128 ≤ (x : Int); omega⟩⟩⟩
      dsimp only
      rw [cut2 (by omega)]
      unfold chrL
      rw [if_pos hv, if_neg (by omega), if_pos (by omega)]
      simp only [List.cons.injEq, and_true]
      refine ⟨?_, ?_⟩ <;> omega
    · rw [if_neg h3]
      exact decC_bad
  rw [if_neg h2]
  clear h2
  by_cases h2 : b0 / 16 = 14 ∧ (1 < l.length - p ∧ b1 / 64 = 2) ∧ (2 < l.length - p ∧ b2 / 64 = 2)
  · rw [if_pos h2]
    generalize hx : b0 % 16 * 4096 + b1 % 64 * 64 + b2 % 64 = x at *
    by_cases h3 : x ≥ 2048 ∧ (x < 55296 ∨ (57344 ≤ x ∧ x ≤ 1114111))
    · rw [if_pos h3]
      have e1' := e1 (by omega)
      have e2' := e2 (by omega)
      have hv : validR (x : Int) := val_of (by omega)
      refine ⟨hv, fun _ => ⟨?_, .inr ⟨by omega, by show 128 ≤ (x : Int); omega⟩⟩⟩
      dsimp only
      rw [cut3 (by omega)]
      unfold chrL
      rw [if_pos hv, if_neg (by omega), if_neg (by omega), if_pos (by omega)]
      simp only [List.cons.injEq, and_true]
      refine ⟨?_, ?_, ?_⟩ <;> omega
    · rw [if_neg h3]
      exact decC_bad
  rw [if_neg h2]
  clear h2
  by_cases h2 : b0 / 8 = 30 ∧ (1 < l.length - p ∧ b1 / 64 = 2) ∧ (2 < l.length - p ∧ b2 / 64 = 2) ∧ (3 < l.length - p ∧ b3 / 64 = 2)
  · rw [if_pos h2]
    generalize hx : b0 % 8 * 262144 + b1 % 64 * 4096 + b2 % 64 * 64 + b3 % 64 = x at *
    by_cases h3 : x ≥ 65536 ∧ (x < 55296 ∨ (57344 ≤ x ∧ x ≤ 1114111))
    · rw [if_pos h3]
      have e1' := e1 (by omega)
      have e2' := e2 (by omega)
      have e3' := e3 (by omega)
      have hv : validR (x : Int) := val_of (by omega)
      refine ⟨hv, fun _ => ⟨?_, .inr ⟨by omega, by show 128 ≤ (x : Int); omega⟩⟩⟩
      dsimp only
      rw [cut4 (by omega)]
      unfold chrL
      rw [if_pos hv, if_neg (by omega), if_neg (by omega), if_neg (by omega)]
      simp only [List.cons.injEq, and_true]
      refine ⟨?_, ?_, ?_, ?_⟩ <;> omega
    · rw [if_neg h3]
      exact decC_bad
  rw [if_neg h2]
  exact decC_bad
end Go.Proofs.YtbpelgbblpeojaaDoor
