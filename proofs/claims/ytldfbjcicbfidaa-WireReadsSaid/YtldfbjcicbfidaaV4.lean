/- Plain: padded varints, and what they read as. -/
import Derived.Test.YtldfbjcicbfidaaR5
set_option linter.unusedVariables false
set_option linter.unusedSimpArgs false
namespace Go.Proofs.Ytldfbjcicbfidaa
open Go.Sk
set_option maxRecDepth 100000
theorem enc_hi {v : Int} (h : V64 v) (hb : 9223372036854775808 ≤ v) : (enc v).length = 10 := by
  obtain ⟨a, b, c, d⟩ := enc_len h
  generalize (enc v).length = k at *
  have hk : 9 < k := by
    have : (2 : Int) ^ 63 < 2 ^ (7 * k) := by rw [← pow128]; exact Int.lt_of_le_of_lt (by omega) c
    have := pow2_lt this
    omega
  omega
def hi (v : Int) : Int := if v < 9223372036854775808 then v + 9223372036854775808 else v
theorem hi_ok {v : Int} (h : V64 v) : V64 (hi v) ∧ 9223372036854775808 ≤ hi v := by
  obtain ⟨h0, h1⟩ := h
  unfold hi
  split
  · exact ⟨⟨by omega, by omega⟩, by omega⟩
  · exact ⟨⟨h0, h1⟩, by omega⟩
theorem or63 {v : Int} (h : V64 v) : IntKind.u64.wrap ((BitVec.ofInt IntKind.u64.bits v ||| BitVec.ofInt IntKind.u64.bits 9223372036854775808).toNat : Int) = hi v := by
  obtain ⟨h0, h1⟩ := h
  unfold hi
  split
  · exact or_add (k := .u64) (y := 1) (s := 63) h0 (by omega) (by decide) (by decide) (by simp only [IntKind.bits]; omega) rfl
  · obtain ⟨a, rfl⟩ : ∃ a : Nat, v = a + 9223372036854775808 := ⟨(v - 9223372036854775808).toNat, by omega⟩
    have ha : a < 2 ^ 63 := by omega
    have e1 : (a : Int) + 9223372036854775808 = ((a + 1 * 2 ^ 63 : Nat) : Int) := by omega
    have e2 : (9223372036854775808 : Int) = ((2 ^ 63 : Nat) : Int) := by omega
    have h4 : IntKind.u64.bits = 64 := rfl
    rw [e1, BitVec.toNat_or, h4, e2, BitVec.toNat_ofInt, BitVec.toNat_ofInt]
    have m1 : (((a + 1 * 2 ^ 63 : Nat) : Int) % ((2 ^ 64 : Nat) : Int)).toNat = a + 1 * 2 ^ 63 := by
      rw [← Int.natCast_emod, Int.toNat_natCast, Nat.mod_eq_of_lt (by omega)]
    have m2 : (((2 ^ 63 : Nat) : Int) % ((2 ^ 64 : Nat) : Int)).toNat = 1 * 2 ^ 63 := by decide
    rw [m1, m2, ← or_disj ha, Nat.or_assoc, Nat.or_self, or_disj ha]
    exact wr_u64 (by omega) (by omega)
/-- A padded varint's bytes but the last say that there is more. -/
theorem padL_more {l : List Int} {x : Int} {j : Nat} (hm : more l) (hx0 : 0 ≤ x) (hx1 : x < 128) : ∃ m y, padL l x j = m ++ [y] ∧ more m ∧ m.length = l.length + j ∧ 0 ≤ y ∧ y < 128 ∧ val 0 (m ++ [y]) = val 0 (l ++ [x]) ∧ (j ≠ 0 → y = 0) ∧ (j = 0 → y = x) := by
  unfold padL
  split
  · rename_i h
    subst h
    exact ⟨l, x, rfl, hm, by omega, hx0, hx1, rfl, fun h => absurd rfl h, fun _ => rfl⟩
  · rename_i h
    refine ⟨l ++ (x + 128) :: List.replicate (j - 1) 128, 0, by simp, more_append hm ⟨by omega, by omega, more_reps _⟩, by simp; omega, by omega, by omega, ?_, fun _ => rfl, fun h' => absurd h' h⟩
    rw [List.append_assoc, List.cons_append, val_append, val_append]
    simp only [val]
    rw [val_reps, show (x + 128) % 128 = x by omega, Int.emod_eq_of_lt hx0 hx1]
/-- What the padded varint reads as. -/
theorem padL_read {v : Int} {l : List Int} {x : Int} {j : Nat} (hm : more l) (hl : l.length + j ≤ 9) (hx0 : 0 ≤ x) (hx1 : x < 128) (hv : val 0 (l ++ [x]) = v) (h9 : l.length = 9 → x ≤ 1) :
    vr (padL l x j) 0 0 = .ok v (l.length + 1 + j) ∧ vr ((padL l x j).take (l.length + j)) 0 0 = .short := by
  obtain ⟨m, y, hpq, hq, hql, hy0, hy1, hqv, hyj, hyx⟩ := padL_more (j := j) hm hx0 hx1
  rw [hpq]
  refine ⟨?_, ?_⟩
  · have := vr_more m 0 0 y [] hq (by omega) hy0 hy1 (fun h => by
      rcases Nat.eq_zero_or_pos j with e | e
      · rw [hyx e]; exact h9 (by omega)
      · rw [hyj (by omega)]; omega)
    rw [this, hqv, hv]
    congr 1
    · omega
    · omega
  · rw [← hql, show (m ++ [y]).take m.length = m by simp]
    exact vr_more_short m 0 0 hq (by omega)
/-- Ten bytes with too much in the last are too long. -/
theorem padL_long {v : Int} (hv : V64 v) (hb : 9223372036854775808 ≤ v) {l : List Int} {x : Int} (he : enc v = l ++ [x]) {k : Int} (hk : 1 < k) (hm : more l) :
    l.length = 9 ∧ vr ((padL l x 0).set 9 k) 0 0 = .long := by
  have h10 := enc_hi hv hb
  rw [he, List.length_append, List.length_singleton] at h10
  have h9 : l.length = 9 := by omega
  refine ⟨h9, ?_⟩
  unfold padL
  rw [if_pos rfl, ← h9, List.set_append_right _ _ (by omega), Nat.sub_self]
  exact vr_more_long l 0 0 k [] hm (by omega) hk
theorem padL_bytes {l : List Int} {x : Int} {j : Nat} (hm : more l) (hx0 : 0 ≤ x) (hx1 : x < 128) : Bytes (padL l x j) := by
  have hl : ∀ {l : List Int}, more l → Bytes l := by
    intro l
    induction l with
    | nil => intro _ x hx; cases hx
    | cons c l ih =>
      intro h x hx
      rcases List.mem_cons.1 hx with rfl | hx
      · exact ⟨by have := h.1; omega, h.2.1⟩
      · exact ih h.2.2 x hx
  obtain ⟨m, y, hpq, hq, hql, hy0, hy1, _⟩ := padL_more (j := j) hm hx0 hx1
  rw [hpq]
  intro z hz
  rcases List.mem_append.1 hz with h | h
  · exact hl hq z h
  · simp only [List.mem_singleton] at h; subst h; exact ⟨hy0, by omega⟩
theorem Bytes.set {l : List Int} (h : Bytes l) {i : Nat} {x : Int} (hx : isByte x) : Bytes (l.set i x) := fun z hz => by
  rcases List.mem_or_eq_of_mem_set hz with h' | rfl
  · exact h z h'
  · exact hx
end Go.Proofs.Ytldfbjcicbfidaa
