/- Plain: the size of a varint out of its bits; the writer as data. -/
import Derived.Test.YtldfbjcicbfidaaV2
set_option linter.unusedVariables false
set_option linter.unusedSimpArgs false
namespace Go.Sk
theorem or1_nat (v : Nat) : v ||| 1 = v / 2 * 2 + 1 := by
  have h1 : v / 2 * 2 + 1 = 1 ||| (v / 2 * 2 ^ 1) := by rw [or_disj (by decide)]; omega
  rw [h1]
  rcases Nat.mod_two_eq_zero_or_one v with h | h
  · rw [Nat.or_comm]; congr 1; omega
  · have h2 : v = 1 ||| (v / 2 * 2 ^ 1) := by rw [or_disj (by decide)]; omega
    have h3 : (1 ||| (v / 2 * 2 ^ 1)) ||| 1 = 1 ||| (v / 2 * 2 ^ 1) := by
      rw [Nat.or_comm, ← Nat.or_assoc, Nat.or_self]
    rw [← h2] at h3
    rw [← h2, h3]
theorem or1 {v : Int} (h : V64 v) : IntKind.u64.wrap ((BitVec.ofInt IntKind.u64.bits v ||| BitVec.ofInt IntKind.u64.bits 1).toNat : Int) = v / 2 * 2 + 1 := by
  obtain ⟨h0, h1⟩ := h
  obtain ⟨a, rfl⟩ := Int.eq_ofNat_of_zero_le h0
  have ha : a < 2 ^ 64 := by omega
  rw [BitVec.toNat_or, BitVec.toNat_ofInt, BitVec.toNat_ofInt]
  have m1 : ((a : Int) % ((2 ^ IntKind.u64.bits : Nat) : Int)).toNat = a := by
    simp only [IntKind.bits]; rw [← Int.natCast_emod, Int.toNat_natCast, Nat.mod_eq_of_lt ha]
  have m2 : ((1 : Int) % ((2 ^ IntKind.u64.bits : Nat) : Int)).toNat = 1 := by decide
  rw [m1, m2, or1_nat]
  rw [wr_u64 (by omega) (by omega)]
  simp
theorem pow2_lt {a b : Nat} (h : (2 : Int) ^ a < 2 ^ b) : a < b := by
  have h' : ((2 ^ a : Nat) : Int) < ((2 ^ b : Nat) : Int) := by simpa using h
  have h2 : 2 ^ a < 2 ^ b := Int.ofNat_lt.1 h'
  exact (Nat.pow_lt_pow_iff_right (by decide : 1 < 2)).1 h2
theorem pow128 (k : Nat) : (128 : Int) ^ k = 2 ^ (7 * k) := by rw [Int.pow_mul]; rfl
theorem size_of {v : Int} (hv : V64 v) {l : Nat} (h1 : 1 ≤ l) (h2 : 2 ^ (l - 1) ≤ v / 2 * 2 + 1) (h3 : v / 2 * 2 + 1 < 2 ^ l) : (l + 6) / 7 = (enc v).length := by
  obtain ⟨a, b, c, d⟩ := enc_len hv
  generalize (enc v).length = k at *
  obtain ⟨j, rfl⟩ : ∃ j, k = j + 1 := ⟨k - 1, by omega⟩
  have h0 := hv.1
  have e1 : (128 : Int) ^ (j + 1) = 2 * (64 * 128 ^ j) := by rw [Int.pow_succ]; omega
  have hlt : v / 2 * 2 + 1 < 128 ^ (j + 1) := by omega
  have hge : (128 : Int) ^ j ≤ v / 2 * 2 + 1 := by
    rcases d with d | d
    · have : j = 0 := by omega
      subst this; simp; omega
    · rw [Nat.add_sub_cancel] at d; omega
  have u1 : l - 1 < 7 * (j + 1) := pow2_lt (Int.lt_of_le_of_lt h2 (by rw [← pow128]; exact hlt))
  have u2 : 7 * j < l := pow2_lt (Int.lt_of_le_of_lt (by rw [← pow128]; exact hge) h3)
  omega
/-- The writer as data. -/
structure WS where
  b : List Int
  limit : Int
  op : List Int
  e : Int
def WS.ok (S : WS) : Prop := 0 ≤ S.limit ∧ S.limit ≤ 16777216 ∧ (S.b.length : Int) ≤ S.limit
def WS.room (S : WS) (n : Int) : WS := if S.e = 0 ∧ S.limit - S.b.length < n then { S with e := 15 } else S
def WS.put (S : WS) (l : List Int) : WS := if S.e = 0 then (if S.limit - S.b.length < l.length then { S with e := 15 } else { S with b := S.b ++ l }) else S
theorem WS.put_ok {S : WS} (h : S.ok) (l : List Int) : (S.put l).ok := by
  unfold WS.put
  split
  · split
    · exact h
    · exact ⟨h.1, h.2.1, by simp only [List.length_append]; omega⟩
  · exact h
end Go.Sk
