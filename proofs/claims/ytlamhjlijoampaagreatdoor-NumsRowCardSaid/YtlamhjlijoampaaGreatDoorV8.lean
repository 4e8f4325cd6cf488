/- Plain: signed numbers as unsigned ones. -/
import Derived.Test.YtlamhjlijoampaaGreatDoorSkB
import Derived.Laws.BitsLemmas
import Derived.Laws.Bits64
set_option linter.unusedVariables false
set_option linter.unusedSimpArgs false
namespace Go.Sk
def V64 (v : Int) : Prop := 0 ≤ v ∧ v < 18446744073709551616
def zig (n : Int) : Int := if 0 ≤ n then 2 * n else -2 * n - 1
def unzig (v : Int) : Int := if v % 2 = 0 then v / 2 else -(v / 2) - 1
def I64 (n : Int) : Prop := -9223372036854775808 ≤ n ∧ n ≤ 9223372036854775807
theorem zig_ok {n : Int} (h : I64 n) : V64 (zig n) := by
  obtain ⟨h0, h1⟩ := h
  unfold zig V64
  split <;> constructor <;> omega
theorem unzig_ok {v : Int} (h : V64 v) : I64 (unzig v) := by
  obtain ⟨h0, h1⟩ := h
  unfold unzig I64
  split <;> constructor <;> omega
theorem unzig_zig (n : Int) : unzig (zig n) = n := by
  unfold zig unzig
  split
  · rw [if_pos (by omega)]; omega
  · rw [if_neg (by omega)]; omega
theorem zig_unzig {v : Int} (h : 0 ≤ v) : zig (unzig v) = v := by
  unfold zig unzig
  split
  · rw [if_pos (by omega)]; omega
  · rw [if_neg (by omega)]; omega
theorem toNat_ofInt64 {x : Int} (h : V64 x) : (BitVec.ofInt 64 x).toNat = x.toNat := by
  obtain ⟨h0, h1⟩ := h
  rw [BitVec.toNat_ofInt]
  congr 1
  exact Int.emod_eq_of_lt h0 (by simpa using h1)
theorem xor0 {x : Int} (h : V64 x) : IntKind.u64.wrap ((BitVec.ofInt IntKind.u64.bits x ^^^ BitVec.ofInt IntKind.u64.bits 0).toNat : Int) = x := by
  show IntKind.u64.wrap ((BitVec.ofInt 64 x ^^^ BitVec.ofInt 64 0).toNat : Int) = x
  rw [show (BitVec.ofInt 64 0) = 0#64 by decide, BitVec.xor_zero, toNat_ofInt64 h]
  obtain ⟨h0, h1⟩ := h
  rw [Int.toNat_of_nonneg h0]
  exact wr_u64 h0 (by omega)
theorem xorm {x : Int} (h : V64 x) : IntKind.u64.wrap ((BitVec.ofInt IntKind.u64.bits x ^^^ BitVec.ofInt IntKind.u64.bits 18446744073709551615).toNat : Int) = 18446744073709551615 - x := by
  show IntKind.u64.wrap ((BitVec.ofInt 64 x ^^^ BitVec.ofInt 64 18446744073709551615).toNat : Int) = _
  rw [show (BitVec.ofInt 64 18446744073709551615) = BitVec.allOnes 64 by decide, BitVec.xor_allOnes, BitVec.toNat_not, toNat_ofInt64 h]
  obtain ⟨h0, h1⟩ := h
  have e : ((2 ^ 64 - 1 - x.toNat : Nat) : Int) = 18446744073709551615 - x := by omega
  rw [e]
  exact wr_u64 (by omega) (by omega)
theorem xor0i {x : Int} (h0 : 0 ≤ x) (h1 : x ≤ 9223372036854775807) : IntKind.i64.wrap ((BitVec.ofInt IntKind.i64.bits x ^^^ BitVec.ofInt IntKind.i64.bits 0).toNat : Int) = x := by
  show IntKind.i64.wrap ((BitVec.ofInt 64 x ^^^ BitVec.ofInt 64 0).toNat : Int) = x
  rw [show (BitVec.ofInt 64 0) = 0#64 by decide, BitVec.xor_zero, toNat_ofInt64 ⟨h0, by omega⟩, Int.toNat_of_nonneg h0]
  exact wr_i64 (by omega) (by omega)
theorem xormi {x : Int} (h0 : 0 ≤ x) (h1 : x ≤ 9223372036854775807) : IntKind.i64.wrap ((BitVec.ofInt IntKind.i64.bits x ^^^ BitVec.ofInt IntKind.i64.bits (-1)).toNat : Int) = -x - 1 := by
  show IntKind.i64.wrap ((BitVec.ofInt 64 x ^^^ BitVec.ofInt 64 (-1)).toNat : Int) = _
  rw [show (BitVec.ofInt 64 (-1)) = BitVec.allOnes 64 by decide, BitVec.xor_allOnes, BitVec.toNat_not, toNat_ofInt64 ⟨h0, by omega⟩]
  have e : ((2 ^ 64 - 1 - x.toNat : Nat) : Int) = 18446744073709551615 - x := by omega
  rw [e]
  rw [IntKind.wrap_i64]
  omega
theorem shl1 {n : Int} : n * 2 ^ (min (1 : Int).toNat IntKind.i64.bits) = n * 2 := by
  rw [show min (1 : Int).toNat IntKind.i64.bits = 1 by decide]; omega
theorem wrap_shl1 {n : Int} : IntKind.u64.wrap (IntKind.i64.wrap (n * 2)) = (n * 2) % 18446744073709551616 := by
  rw [IntKind.wrap_i64, IntKind.wrap_u64]
  omega
theorem shr63 {n : Int} (h : I64 n) : n.fdiv (2 ^ (min (63 : Int).toNat IntKind.i64.bits)) = if 0 ≤ n then 0 else -1 := by
  obtain ⟨h0, h1⟩ := h
  rw [show min (63 : Int).toNat IntKind.i64.bits = 63 by decide, show (2 : Int) ^ 63 = 9223372036854775808 by decide, Int.fdiv_eq_ediv_of_nonneg _ (by decide)]
  split <;> omega
theorem shr1 {v : Int} : v.fdiv (2 ^ (min (1 : Int).toNat IntKind.u64.bits)) = v / 2 := by
  rw [show min (1 : Int).toNat IntKind.u64.bits = 1 by decide, show (2 : Int) ^ 1 = 2 by decide, Int.fdiv_eq_ediv_of_nonneg _ (by decide)]
theorem and1 {v : Int} (h : V64 v) : IntKind.u64.wrap ((BitVec.ofInt IntKind.u64.bits v &&& BitVec.ofInt IntKind.u64.bits 1).toNat : Int) = v % 2 := by
  have h' : ((BitVec.ofInt 64 v &&& BitVec.ofInt 64 1).toNat : Int) = v % 2 ^ 1 := and_nat h.1 (by have := h.2; simpa using this) (by decide) (by decide)
  show IntKind.u64.wrap ((BitVec.ofInt 64 v &&& BitVec.ofInt 64 1).toNat : Int) = _
  rw [h']
  exact wr_u64 (by omega) (by omega)
end Go.Sk
