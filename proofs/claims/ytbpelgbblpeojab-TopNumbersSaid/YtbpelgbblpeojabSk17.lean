/- Bits: masks, sums without carry, shifts. Plain theorems, no condition. -/
import Derived.Test.YtbpelgbblpeojabSk16
set_option linter.unusedVariables false
set_option linter.unusedSimpArgs false
namespace Go.Sk
theorem bv_nat {w n : Nat} (h : n < 2 ^ w) : (BitVec.ofInt w (n : Int)).toNat = n := by
  rw [BitVec.ofInt_natCast, BitVec.toNat_ofNat, Nat.mod_eq_of_lt h]
theorem and_nat {w : Nat} {c m : Int} {j : Nat} (h0 : 0 ≤ c) (h1 : c < 2 ^ w) (hm : m = 2 ^ j - 1) (hj : j ≤ w) : ((BitVec.ofInt w c &&& BitVec.ofInt w m).toNat : Int) = c % 2 ^ j := by
  obtain ⟨n, rfl⟩ := Int.eq_ofNat_of_zero_le h0
  have hp : 0 < 2 ^ j := Nat.two_pow_pos j
  have hm' : m = ((2 ^ j - 1 : Nat) : Int) := by rw [hm, Int.natCast_sub hp]; simp
  have hle : 2 ^ j ≤ 2 ^ w := Nat.pow_le_pow_right (by decide) hj
  have hn : n < 2 ^ w := by
    have : ((n : Nat) : Int) < ((2 ^ w : Nat) : Int) := by simpa using h1
    omega
  rw [hm', BitVec.toNat_and, bv_nat hn, bv_nat (by omega), Nat.and_two_pow_sub_one_eq_mod]
  simp
theorem or_nat {w : Nat} {a b : Int} {j : Nat} (h0 : 0 ≤ a) (h1 : 0 ≤ b) (h2 : b < 2 ^ j) (h3 : a * 2 ^ j + b < 2 ^ w) : ((BitVec.ofInt w (a * 2 ^ j) ||| BitVec.ofInt w b).toNat : Int) = a * 2 ^ j + b := by
  obtain ⟨m, rfl⟩ := Int.eq_ofNat_of_zero_le h0
  obtain ⟨n, rfl⟩ := Int.eq_ofNat_of_zero_le h1
  have e : (m : Int) * 2 ^ j = ((2 ^ j * m : Nat) : Int) := by rw [Nat.mul_comm]; simp
  rw [e] at h3 ⊢
  have h2' : n < 2 ^ j := by
    have : ((n : Nat) : Int) < ((2 ^ j : Nat) : Int) := by simpa using h2
    omega
  have h3' : 2 ^ j * m + n < 2 ^ w := by
    have : ((2 ^ j * m + n : Nat) : Int) < ((2 ^ w : Nat) : Int) := by simpa using h3
    omega
  rw [BitVec.toNat_or, bv_nat (by omega), bv_nat (by omega), ← Nat.two_pow_add_eq_or_of_lt h2']
  simp
theorem emod_le_pow {c : Int} (j : Nat) (h0 : 0 ≤ c) : c % 2 ^ j ≤ c := by
  obtain ⟨n, rfl⟩ := Int.eq_ofNat_of_zero_le h0
  have e : (n : Int) % 2 ^ j = ((n % 2 ^ j : Nat) : Int) := by simp
  rw [e]
  have := Nat.mod_le n (2 ^ j)
  omega
theorem and_u8 {c m : Int} (j : Nat) (h0 : 0 ≤ c) (h1 : c < 256) (hm : m = 2 ^ j - 1) (hj : j ≤ 8) {r : Int} (hr : c % 2 ^ j = r) : IntKind.u8.wrap (((BitVec.ofInt IntKind.u8.bits c &&& BitVec.ofInt IntKind.u8.bits m).toNat : Nat) : Int) = r := by
  have h : ((BitVec.ofInt 8 c &&& BitVec.ofInt 8 m).toNat : Int) = c % 2 ^ j := and_nat h0 (by simpa using h1) hm hj
  show IntKind.u8.wrap (((BitVec.ofInt 8 c &&& BitVec.ofInt 8 m).toNat : Nat) : Int) = r
  rw [h, hr]
  have h2 : 0 ≤ c % 2 ^ j := Int.emod_nonneg _ (by have := Int.pow_pos (n := 2) (m := j) (by decide); omega)
  have h3 : c % 2 ^ j ≤ c := emod_le_pow j h0
  exact wr_u8 (by omega) (by omega)
theorem and_i64 {c m : Int} (j : Nat) (h0 : 0 ≤ c) (h1 : c < 9223372036854775808) (hm : m = 2 ^ j - 1) (hj : j ≤ 63) {r : Int} (hr : c % 2 ^ j = r) : IntKind.i64.wrap (((BitVec.ofInt IntKind.i64.bits c &&& BitVec.ofInt IntKind.i64.bits m).toNat : Nat) : Int) = r := by
  have h : ((BitVec.ofInt 64 c &&& BitVec.ofInt 64 m).toNat : Int) = c % 2 ^ j := and_nat h0 (by omega) hm (by omega)
  show IntKind.i64.wrap (((BitVec.ofInt 64 c &&& BitVec.ofInt 64 m).toNat : Nat) : Int) = r
  rw [h, hr]
  have h2 : 0 ≤ c % 2 ^ j := Int.emod_nonneg _ (by have := Int.pow_pos (n := 2) (m := j) (by decide); omega)
  have h3 : c % 2 ^ j ≤ c := emod_le_pow j h0
  exact wr_i64 (by omega) (by omega)
theorem or_i64 {a b : Int} (j : Nat) (h0 : 0 ≤ a) (h1 : 0 ≤ b) (h2 : b < 2 ^ j) (h3 : a * 2 ^ j + b < 9223372036854775808) {x r : Int} (hx : x = a * 2 ^ j) (hr : a * 2 ^ j + b = r) : IntKind.i64.wrap (((BitVec.ofInt IntKind.i64.bits x ||| BitVec.ofInt IntKind.i64.bits b).toNat : Nat) : Int) = r := by
  subst hx
  have h : ((BitVec.ofInt 64 (a * 2 ^ j) ||| BitVec.ofInt 64 b).toNat : Int) = a * 2 ^ j + b := or_nat h0 h1 h2 (by omega)
  show IntKind.i64.wrap (((BitVec.ofInt 64 (a * 2 ^ j) ||| BitVec.ofInt 64 b).toNat : Nat) : Int) = r
  rw [h, hr]
  have : 0 ≤ a * 2 ^ j := Int.mul_nonneg h0 (Int.le_of_lt (Int.pow_pos (by decide)))
  exact wr_i64 (by omega) (by omega)
theorem shr_of {v j p : Int} {k : IntKind} (h : (2 : Int) ^ (min j.toNat k.bits) = p) (hp : 0 ≤ p) {r : Int} (hr : v / p = r) : v.fdiv (2 ^ (min j.toNat k.bits)) = r := by
  rw [h, Int.fdiv_eq_ediv_of_nonneg _ hp, hr]
end Go.Sk
