/- Plain: tags as numbers; wraps. -/
import Derived.Test.YtldfbjcicbfidaaV3
set_option linter.unusedVariables false
set_option linter.unusedSimpArgs false
namespace Go.Sk
theorem wrap64 (x : Int) : V64 (IntKind.u64.wrap x) := by
  unfold V64 IntKind.wrap
  simp only [IntKind.signed, IntKind.bits, Bool.false_and]
  have h : (0 : Int) < 2 ^ 64 := by decide
  have h1 := Int.emod_nonneg x (Int.ne_of_gt h)
  have h2 := Int.emod_lt_of_pos x h
  simp only [Bool.false_eq_true, if_false]
  constructor
  · omega
  · have : (2 : Int) ^ 64 = 18446744073709551616 := by decide
    omega
theorem or_tag {n k : Int} (h0 : 0 ≤ n) (h1 : n < 4294967296) (hk0 : 0 ≤ k) (hk1 : k < 8) :
    IntKind.u64.wrap ((BitVec.ofInt IntKind.u64.bits (n * 8) ||| BitVec.ofInt IntKind.u64.bits k).toNat : Int) = n * 8 + k := by
  rw [BitVec.or_comm]
  have := or_add (k := .u64) (v := k) (x := n * 8) (y := n) (s := 3) hk0 (by omega) h0 (by omega) (by simp only [IntKind.bits]; omega) rfl
  rw [this]
  omega
theorem shl3 {n : Int} (h0 : 0 ≤ n) (h1 : n < 4294967296) : IntKind.u64.wrap (n * 2 ^ (min (3 : Int).toNat IntKind.u64.bits)) = n * 8 := by
  rw [show min (3 : Int).toNat IntKind.u64.bits = 3 by decide, show (2 : Int) ^ 3 = 8 by decide]
  exact wr_u64 (by omega) (by omega)
end Go.Sk
