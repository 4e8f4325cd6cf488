/- Small facts on numbers that wrap. Plain theorems. -/
import Derived.Test.YtlamhjlijoampaaGreatDoorSk4
set_option linter.unusedVariables false
set_option linter.unusedSimpArgs false
namespace Go.Sk
theorem wr_i64 {x : Int} (a : -9223372036854775808 ≤ x) (b : x ≤ 9223372036854775807) : IntKind.i64.wrap x = x := by
  simp only [IntKind.wrap, IntKind.bits, IntKind.signed, Bool.true_and, decide_eq_true_eq, ge_iff_le]
  split <;> omega
theorem wr_i32 {x : Int} (a : -2147483648 ≤ x) (b : x ≤ 2147483647) : IntKind.i32.wrap x = x := by
  simp only [IntKind.wrap, IntKind.bits, IntKind.signed, Bool.true_and, decide_eq_true_eq, ge_iff_le]
  split <;> omega
theorem wr_u64 {x : Int} (a : 0 ≤ x) (b : x ≤ 18446744073709551615) : IntKind.u64.wrap x = x := by
  simp only [IntKind.wrap, IntKind.bits, IntKind.signed, Bool.false_and]
  simp; omega
theorem wr_u32 {x : Int} (a : 0 ≤ x) (b : x ≤ 4294967295) : IntKind.u32.wrap x = x := by
  simp only [IntKind.wrap, IntKind.bits, IntKind.signed, Bool.false_and]
  simp; omega
theorem wr_u8 {x : Int} (a : 0 ≤ x) (b : x ≤ 255) : IntKind.u8.wrap x = x := by
  simp only [IntKind.wrap, IntKind.bits, IntKind.signed, Bool.false_and]
  simp; omega
theorem wr_u8m (x : Int) : IntKind.u8.wrap x = x % 256 := by simp [IntKind.wrap, IntKind.bits, IntKind.signed]
theorem wr_u32m (x : Int) : IntKind.u32.wrap x = x % 4294967296 := by simp [IntKind.wrap, IntKind.bits, IntKind.signed]
theorem wr_u64m (x : Int) : IntKind.u64.wrap x = x % 18446744073709551616 := by simp [IntKind.wrap, IntKind.bits, IntKind.signed]
end Go.Sk
namespace Go.Sk
theorem num_i64 {K : Int → Prop} {e : Int} (h0 : -9223372036854775808 ≤ e) (h1 : e ≤ 9223372036854775807) (k : K e) : ∀ r, IntKind.i64.wrap e = r → K r := fun r hr => by rw [wr_i64 h0 h1] at hr; exact hr ▸ k
theorem num_i32 {K : Int → Prop} {e : Int} (h0 : -2147483648 ≤ e) (h1 : e ≤ 2147483647) (k : K e) : ∀ r, IntKind.i32.wrap e = r → K r := fun r hr => by rw [wr_i32 h0 h1] at hr; exact hr ▸ k
theorem num_u64 {K : Int → Prop} {e : Int} (h0 : 0 ≤ e) (h1 : e ≤ 18446744073709551615) (k : K e) : ∀ r, IntKind.u64.wrap e = r → K r := fun r hr => by rw [wr_u64 h0 h1] at hr; exact hr ▸ k
theorem num_u32 {K : Int → Prop} {e : Int} (h0 : 0 ≤ e) (h1 : e ≤ 4294967295) (k : K e) : ∀ r, IntKind.u32.wrap e = r → K r := fun r hr => by rw [wr_u32 h0 h1] at hr; exact hr ▸ k
theorem num_u8 {K : Int → Prop} {e : Int} (h0 : 0 ≤ e) (h1 : e ≤ 255) (k : K e) : ∀ r, IntKind.u8.wrap e = r → K r := fun r hr => by rw [wr_u8 h0 h1] at hr; exact hr ▸ k
theorem num_u64m {K : Int → Prop} {e : Int} (k : ∀ r, e % 18446744073709551616 = r → K r) : ∀ r, IntKind.u64.wrap e = r → K r := fun r hr => k r (by rw [← wr_u64m]; exact hr)
theorem num_u32m {K : Int → Prop} {e : Int} (k : ∀ r, e % 4294967296 = r → K r) : ∀ r, IntKind.u32.wrap e = r → K r := fun r hr => k r (by rw [← wr_u32m]; exact hr)
theorem num_u8m {K : Int → Prop} {e : Int} (k : ∀ r, e % 256 = r → K r) : ∀ r, IntKind.u8.wrap e = r → K r := fun r hr => k r (by rw [← wr_u8m]; exact hr)
end Go.Sk
namespace Go.Sk
theorem dec_t {p : Prop} [Decidable p] (h : p) : Value.bool true = Value.bool (decide p) := by rw [decide_eq_true h]
theorem dec_f {p : Prop} [Decidable p] (h : ¬ p) : Value.bool false = Value.bool (decide p) := by rw [decide_eq_false h]
/-- Numbers of this kind that are in its range stay as they are. -/
class KR (k : IntKind) (lo hi : outParam Int) : Prop where
  ok : ∀ {e : Int}, lo ≤ e → e ≤ hi → k.wrap e = e
instance : KR .i64 (-9223372036854775808) 9223372036854775807 := ⟨wr_i64⟩
instance : KR .u64 0 18446744073709551615 := ⟨wr_u64⟩
instance : KR .u8 0 255 := ⟨wr_u8⟩
instance : KR .i32 (-2147483648) 2147483647 := ⟨wr_i32⟩
instance : KR .u32 0 4294967295 := ⟨wr_u32⟩
theorem num_k {k : IntKind} {lo hi : Int} [h : KR k lo hi] {K : Int → Prop} {e : Int} (h0 : lo ≤ e) (h1 : e ≤ hi) (kk : K e) : ∀ r, k.wrap e = r → K r := fun r hr => by rw [h.ok h0 h1] at hr; exact hr ▸ kk
class KM (k : IntKind) (m : outParam Int) : Prop where
  ok : ∀ {e : Int}, k.wrap e = e % m
instance : KM .u64 18446744073709551616 := ⟨wr_u64m _⟩
instance : KM .u8 256 := ⟨wr_u8m _⟩
instance : KM .u32 4294967296 := ⟨wr_u32m _⟩
theorem num_m {k : IntKind} {m : Int} [h : KM k m] {K : Int → Prop} {e : Int} (kk : ∀ r, e % m = r → K r) : ∀ r, k.wrap e = r → K r := fun r hr => kk r (by rw [← h.ok]; exact hr)
end Go.Sk
