/- Plain: varints as lists of numbers. -/
import Derived.Test.YtldfbjcicbfidaaSkA
set_option linter.unusedVariables false
set_option linter.unusedSimpArgs false
namespace Go.Sk
/-- What reading a varint comes to. -/
inductive VR where
  | ok (v : Int) (k : Nat)
  | short
  | long
/-- From the i-th byte on, what stands ahead being v. -/
def vr : List Int → Nat → Int → VR
  | [], i, _ => if i < 10 then .short else .long
  | c :: l, i, v => if i < 10 then (if i = 9 ∧ 1 < c then .long else if c < 128 then .ok (v + c % 128 * 2 ^ (7 * i)) (i + 1) else vr l (i + 1) (v + c % 128 * 2 ^ (7 * i))) else .long
def isByte (x : Int) : Prop := 0 ≤ x ∧ x < 256
def Bytes (l : List Int) : Prop := ∀ x ∈ l, isByte x
theorem Bytes.get {l : List Int} (h : Bytes l) (i : Nat) : isByte (l.getD i 0) := by
  by_cases hi : i < l.length
  · simp only [List.getD_eq_getElem?_getD, List.getElem?_eq_getElem hi, Option.getD_some]
    exact h _ (List.getElem_mem hi)
  · simp only [List.getD_eq_getElem?_getD, List.getElem?_eq_none (Nat.le_of_not_lt hi), Option.getD_none]
    exact ⟨by omega, by omega⟩
theorem Bytes.drop {l : List Int} (h : Bytes l) (i : Nat) : Bytes (l.drop i) := fun x hx => h x (List.mem_of_mem_drop hx)
theorem Bytes.take {l : List Int} (h : Bytes l) (i : Nat) : Bytes (l.take i) := fun x hx => h x (List.mem_of_mem_take hx)
theorem vr_le : ∀ (l : List Int) (i : Nat) (v : Int) (r : Int) (k : Nat), vr l i v = .ok r k → k ≤ i + l.length ∧ i < k
  | [], i, v, r, k, h => by simp only [vr] at h; split at h <;> cases h
  | c :: l, i, v, r, k, h => by
    simp only [vr] at h
    split at h
    · split at h
      · cases h
      · split at h
        · cases h; simp only [List.length_cons]; omega
        · have := vr_le l (i + 1) _ r k h; simp only [List.length_cons]; omega
    · cases h

/-! ### bits -/
theorem or_disj {x y : Nat} {s : Nat} (h : x < 2 ^ s) : x ||| (y * 2 ^ s) = x + y * 2 ^ s := by
  rw [Nat.mul_comm, Nat.or_comm, ← Nat.two_pow_add_eq_or_of_lt h, Nat.add_comm]
theorem or_add {k : IntKind} {v x y : Int} {s : Nat} (hv : 0 ≤ v) (hv2 : v < 2 ^ s) (hy : 0 ≤ y) (hx : x = y * 2 ^ s) (hb : v + x < 2 ^ k.bits) (hs : k.signed = false) :
    k.wrap ((BitVec.ofInt k.bits v ||| BitVec.ofInt k.bits x).toNat : Int) = v + x := by
  subst hx
  obtain ⟨a, rfl⟩ := Int.eq_ofNat_of_zero_le hv
  obtain ⟨b, rfl⟩ := Int.eq_ofNat_of_zero_le hy
  have e1 : ((b : Int) * 2 ^ s) = ((b * 2 ^ s : Nat) : Int) := by simp
  have ha2 : a < 2 ^ s := by
    have : ((a : Nat) : Int) < ((2 ^ s : Nat) : Int) := by simpa using hv2
    omega
  have hb2 : a + b * 2 ^ s < 2 ^ k.bits := by
    have : ((a + b * 2 ^ s : Nat) : Int) < ((2 ^ k.bits : Nat) : Int) := by simpa using hb
    omega
  rw [e1, BitVec.toNat_or, BitVec.toNat_ofInt, BitVec.toNat_ofInt]
  have m1 : ((a : Int) % ((2 ^ k.bits : Nat) : Int)).toNat = a := by
    rw [← Int.natCast_emod, Int.toNat_natCast, Nat.mod_eq_of_lt (by omega)]
  have m2 : (((b * 2 ^ s : Nat) : Int) % ((2 ^ k.bits : Nat) : Int)).toNat = b * 2 ^ s := by
    rw [← Int.natCast_emod, Int.toNat_natCast, Nat.mod_eq_of_lt (by omega)]
  rw [m1, m2, or_disj ha2]
  simp only [IntKind.wrap, hs, Bool.false_and]
  have : (((a + b * 2 ^ s : Nat) : Int) % (2 ^ k.bits : Int)) = ((a + b * 2 ^ s : Nat) : Int) := by
    rw [show ((2 : Int) ^ k.bits) = ((2 ^ k.bits : Nat) : Int) by simp, ← Int.natCast_emod, Nat.mod_eq_of_lt hb2]
  simp only [this]
  simp
theorem and_mask {k : IntKind} {x : Int} {s : Nat} (hx : 0 ≤ x) (hb : x < 2 ^ k.bits) (hs : k.signed = false) (hk : s ≤ k.bits) :
    k.wrap ((BitVec.ofInt k.bits x &&& BitVec.ofInt k.bits (2 ^ s - 1)).toNat : Int) = x % 2 ^ s := by
  obtain ⟨a, rfl⟩ := Int.eq_ofNat_of_zero_le hx
  have hp : 0 < 2 ^ s := Nat.pow_pos (by omega)
  have e1 : ((2 : Int) ^ s - 1) = ((2 ^ s - 1 : Nat) : Int) := by
    rw [Int.ofNat_sub (by omega)]; simp
  have ha : a < 2 ^ k.bits := by
    have : ((a : Nat) : Int) < ((2 ^ k.bits : Nat) : Int) := by simpa using hb
    omega
  have hle : 2 ^ s ≤ 2 ^ k.bits := Nat.pow_le_pow_right (by omega) hk
  rw [e1, BitVec.toNat_and, BitVec.toNat_ofInt, BitVec.toNat_ofInt]
  have m1 : ((a : Int) % ((2 ^ k.bits : Nat) : Int)).toNat = a := by
    rw [← Int.natCast_emod, Int.toNat_natCast, Nat.mod_eq_of_lt ha]
  have m2 : (((2 ^ s - 1 : Nat) : Int) % ((2 ^ k.bits : Nat) : Int)).toNat = 2 ^ s - 1 := by
    rw [← Int.natCast_emod, Int.toNat_natCast, Nat.mod_eq_of_lt (by omega)]
  rw [m1, m2, Nat.and_two_pow_sub_one_eq_mod]
  simp only [IntKind.wrap, hs, Bool.false_and]
  have hlt : a % 2 ^ s < 2 ^ k.bits := Nat.lt_of_lt_of_le (Nat.mod_lt _ hp) hle
  have : (((a % 2 ^ s : Nat) : Int) % (2 ^ k.bits : Int)) = ((a % 2 ^ s : Nat) : Int) := by
    rw [show ((2 : Int) ^ k.bits) = ((2 ^ k.bits : Nat) : Int) by simp, ← Int.natCast_emod, Nat.mod_eq_of_lt hlt]
  simp only [this]
  simp
theorem and127 {x : Int} (h : isByte x) : IntKind.u8.wrap ((BitVec.ofInt IntKind.u8.bits x &&& BitVec.ofInt IntKind.u8.bits 127).toNat : Int) = x % 128 :=
  and_mask (k := .u8) (s := 7) h.1 (by simp only [IntKind.bits]; exact h.2) rfl (by decide)
theorem or128 {x : Int} (h : isByte x) : IntKind.u8.wrap ((BitVec.ofInt IntKind.u8.bits x ||| BitVec.ofInt IntKind.u8.bits 128).toNat : Int) = x % 128 + 128 := by
  have hall : ∀ n : Nat, n < 256 → IntKind.u8.wrap ((BitVec.ofInt IntKind.u8.bits (n : Int) ||| BitVec.ofInt IntKind.u8.bits 128).toNat : Int) = (n : Int) % 128 + 128 := by decide +kernel
  obtain ⟨n, rfl⟩ := Int.eq_ofNat_of_zero_le h.1
  exact hall n (by have := h.2; omega)
theorem shr7 {v : Int} : v.fdiv (2 ^ (min (7 : Int).toNat IntKind.u64.bits)) = v / 128 := by
  rw [show min (7 : Int).toNat IntKind.u64.bits = 7 by decide, show (2 : Int) ^ 7 = 128 by decide, Int.fdiv_eq_ediv_of_nonneg _ (by decide)]
theorem pow7 {i : Nat} (h : i ≤ 9) : i = 0 ∨ i = 1 ∨ i = 2 ∨ i = 3 ∨ i = 4 ∨ i = 5 ∨ i = 6 ∨ i = 7 ∨ i = 8 ∨ i = 9 := by omega
theorem part_lt {x : Int} {i : Nat} (h : isByte x) (hi : i ≤ 9) (h9 : i = 9 → x ≤ 1) {v : Int} (hv : v < 2 ^ (7 * i)) : v + x % 128 * 2 ^ (7 * i) < 18446744073709551616 := by
  obtain ⟨h0, h1⟩ := h
  rcases pow7 hi with rfl | rfl | rfl | rfl | rfl | rfl | rfl | rfl | rfl | rfl
  all_goals (try have := h9 rfl); simp at hv ⊢; omega
theorem shl7 {x : Int} {i : Nat} (h : isByte x) (hi : i ≤ 9) (h9 : i = 9 → x ≤ 1) : IntKind.u64.wrap (x % 128 * 2 ^ (min ((7 * (i : Int)).toNat) IntKind.u64.bits)) = x % 128 * 2 ^ (7 * i) := by
  have h2 : min ((7 * (i : Int)).toNat) IntKind.u64.bits = 7 * i := by simp only [IntKind.bits]; omega
  rw [h2]
  have h3 := part_lt h hi h9 (v := 0) (Int.pow_pos (by decide))
  have h4 : 0 ≤ x % 128 * 2 ^ (7 * i) := Int.mul_nonneg (by omega) (Int.le_of_lt (Int.pow_pos (by decide)))
  exact wr_u64 h4 (by omega)
theorem or7 {x v : Int} {i : Nat} (h : isByte x) (hi : i ≤ 9) (h9 : i = 9 → x ≤ 1) (h0 : 0 ≤ v) (hv : v < 2 ^ (7 * i)) :
    IntKind.u64.wrap ((BitVec.ofInt IntKind.u64.bits v ||| BitVec.ofInt IntKind.u64.bits (x % 128 * 2 ^ (7 * i))).toNat : Int) = v + x % 128 * 2 ^ (7 * i) :=
  or_add (k := .u64) (y := x % 128) (s := 7 * i) h0 hv (by omega) rfl (by simp only [IntKind.bits]; exact part_lt h hi h9 hv) rfl
theorem step7 {x v : Int} {i : Nat} (hv : v < 2 ^ (7 * i)) : v + x % 128 * 2 ^ (7 * i) < 2 ^ (7 * (i + 1)) := by
  rw [show 7 * (i + 1) = 7 * i + 7 by omega, Int.pow_add]
  have hp : (0 : Int) ≤ 2 ^ (7 * i) := Int.le_of_lt (Int.pow_pos (by decide))
  generalize (2 : Int) ^ (7 * i) = p at *
  have h1 : x % 128 ≤ 127 := by omega
  have h2 : x % 128 * p ≤ 127 * p := Int.mul_le_mul_of_nonneg_right h1 hp
  omega
end Go.Sk
