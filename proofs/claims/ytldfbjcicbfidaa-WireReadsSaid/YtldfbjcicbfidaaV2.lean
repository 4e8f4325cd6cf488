/- Plain: the shortest varint, how long it is, and that it reads back. -/
import Derived.Test.YtldfbjcicbfidaaV1
set_option linter.unusedVariables false
set_option linter.unusedSimpArgs false
namespace Go.Sk
/-- The shortest varint, at most so many bytes and one. -/
def encF : Nat → Int → List Int
  | 0, v => [v]
  | f + 1, v => if v < 128 then [v] else (v % 128 + 128) :: encF f (v / 128)
def enc (v : Int) : List Int := encF 9 v
theorem encF_len : ∀ (f : Nat) (v : Int), 0 ≤ v → v < 128 ^ (f + 1) → 1 ≤ (encF f v).length ∧ (encF f v).length ≤ f + 1 ∧ v < 128 ^ (encF f v).length ∧ ((encF f v).length = 1 ∨ 128 ^ ((encF f v).length - 1) ≤ v)
  | 0, v, h0, h1 => by simp only [encF, List.length_singleton]; exact ⟨by omega, by omega, by simpa using h1, .inl trivial⟩
  | f + 1, v, h0, h1 => by
    simp only [encF]
    split
    · rename_i h; simp only [List.length_singleton]; exact ⟨by omega, by omega, by omega, .inl trivial⟩
    · rename_i h
      have hp : (128 : Int) ^ (f + 1 + 1) = 128 ^ (f + 1) * 128 := by rw [Int.pow_succ]
      obtain ⟨a, b, c, d⟩ := encF_len f (v / 128) (by omega) (by omega)
      simp only [List.length_cons]
      refine ⟨by omega, by omega, ?_, .inr ?_⟩
      · rw [Int.pow_succ]; omega
      · rw [Nat.add_sub_cancel]
        rcases d with d | d
        · rw [d]; simp; omega
        · obtain ⟨k, hk⟩ : ∃ k, (encF f (v / 128)).length = k + 1 := ⟨_, (Nat.succ_pred_eq_of_pos a).symm⟩
          rw [hk] at d ⊢
          rw [Nat.add_sub_cancel] at d
          rw [Int.pow_succ]; omega
def V64 (v : Int) : Prop := 0 ≤ v ∧ v < 18446744073709551616
theorem V64.lt {v : Int} (h : V64 v) : v < 128 ^ 10 := by have := h.2; omega
theorem enc_len {v : Int} (h : V64 v) : 1 ≤ (enc v).length ∧ (enc v).length ≤ 10 ∧ v < 128 ^ (enc v).length ∧ ((enc v).length = 1 ∨ 128 ^ ((enc v).length - 1) ≤ v) := encF_len 9 v h.1 h.lt
theorem encF_bytes : ∀ (f : Nat) (v : Int), 0 ≤ v → v < 128 ^ (f + 1) → Bytes (encF f v)
  | 0, v, h0, h1 => fun x hx => by simp only [encF, List.mem_singleton] at hx; subst hx; exact ⟨h0, by simp at h1; omega⟩
  | f + 1, v, h0, h1 => fun x hx => by
    simp only [encF] at hx
    split at hx
    · simp only [List.mem_singleton] at hx; subst hx; exact ⟨h0, by omega⟩
    · rcases List.mem_cons.1 hx with rfl | hx
      · exact ⟨by omega, by omega⟩
      · have hp : (128 : Int) ^ (f + 1 + 1) = 128 ^ (f + 1) * 128 := by rw [Int.pow_succ]
        exact encF_bytes f (v / 128) (by omega) (by omega) x hx
theorem enc_bytes {v : Int} (h : V64 v) : Bytes (enc v) := encF_bytes 9 v h.1 h.lt
/-- The last byte is 0 in the number 0 alone. -/
theorem encF_last : ∀ (f : Nat) (v : Int), 0 ≤ v → v < 128 ^ (f + 1) → ∃ l x, encF f v = l ++ [x] ∧ 0 ≤ x ∧ x < 128 ∧ (l ≠ [] → x ≠ 0)
  | 0, v, h0, h1 => ⟨[], v, rfl, h0, by simpa using h1, fun h => absurd rfl h⟩
  | f + 1, v, h0, h1 => by
    simp only [encF]
    split
    · rename_i h; exact ⟨[], v, rfl, h0, h, fun h => absurd rfl h⟩
    · have hp : (128 : Int) ^ (f + 1 + 1) = 128 ^ (f + 1) * 128 := by rw [Int.pow_succ]
      obtain ⟨l, x, e, a, b, c⟩ := encF_last f (v / 128) (by omega) (by omega)
      refine ⟨(v % 128 + 128) :: l, x, by rw [e]; rfl, a, b, fun _ => ?_⟩
      cases l with
      | cons y l => exact c (by simp)
      | nil =>
        have hx : encF f (v / 128) = [x] := e
        cases f with
        | zero => simp only [encF, List.cons.injEq, and_true] at hx; omega
        | succ f =>
          simp only [encF] at hx
          split at hx
          · simp only [List.cons.injEq, and_true] at hx; omega
          · rename_i h2
            simp only [List.cons.injEq] at hx
            omega
/-- How a varint that has been read goes on: all its bytes but the last say that there is more. -/
def more : List Int → Prop
  | [] => True
  | c :: l => 128 ≤ c ∧ c < 256 ∧ more l
def val : Nat → List Int → Int
  | _, [] => 0
  | i, c :: l => c % 128 * 2 ^ (7 * i) + val (i + 1) l
theorem more_snoc : ∀ {l : List Int} {c : Int}, more l → 128 ≤ c → c < 256 → more (l ++ [c])
  | [], _, _, h0, h1 => ⟨h0, h1, trivial⟩
  | _ :: _, _, h, h0, h1 => ⟨h.1, h.2.1, more_snoc h.2.2 h0 h1⟩
theorem more_reps : ∀ (j : Nat), more (List.replicate j 128)
  | 0 => trivial
  | j + 1 => ⟨by decide, by decide, more_reps j⟩
theorem more_append : ∀ {l r : List Int}, more l → more r → more (l ++ r)
  | [], _, _, h => h
  | _ :: _, _, h, h' => ⟨h.1, h.2.1, more_append h.2.2 h'⟩
theorem val_append : ∀ (l r : List Int) (i : Nat), val i (l ++ r) = val i l + val (i + l.length) r
  | [], r, i => by simp [val]
  | c :: l, r, i => by
    simp only [List.cons_append, val, List.length_cons]
    rw [val_append l r (i + 1), show i + 1 + l.length = i + (l.length + 1) by omega]
    omega
theorem val_reps : ∀ (j i : Nat), val i (List.replicate j 128 ++ [0]) = 0
  | 0, i => by simp [val]
  | j + 1, i => by simp only [List.replicate_succ, List.cons_append, val]; rw [val_reps j (i + 1)]; simp
theorem vr_more : ∀ (l : List Int) (i : Nat) (v x : Int) (r : List Int), more l → i + l.length ≤ 9 → 0 ≤ x → x < 128 → (i + l.length = 9 → x ≤ 1) → vr (l ++ x :: r) i v = .ok (v + val i (l ++ [x])) (i + l.length + 1)
  | [], i, v, x, r, _, hi, h0, h1, h9 => by
    simp only [List.nil_append, vr, val, List.length_nil, Nat.add_zero] at *
    rw [if_pos (by omega), if_neg (by omega), if_pos h1]
    simp
  | c :: l, i, v, x, r, hm, hi, h0, h1, h9 => by
    simp only [List.length_cons] at hi h9
    simp only [List.cons_append, vr, val, List.length_cons]
    rw [if_pos (by omega), if_neg (by omega), if_neg (by have := hm.1; omega), vr_more l (i + 1) _ x r hm.2.2 (by omega) h0 h1 (fun h => h9 (by omega))]
    congr 1
    · omega
    · omega
theorem vr_more_short : ∀ (l : List Int) (i : Nat) (v : Int), more l → i + l.length ≤ 9 → vr l i v = .short
  | [], i, v, _, hi => by simp only [vr, List.length_nil] at *; rw [if_pos (by omega)]
  | c :: l, i, v, hm, hi => by
    simp only [List.length_cons] at hi
    simp only [vr]
    rw [if_pos (by omega), if_neg (by omega), if_neg (by have := hm.1; omega)]
    exact vr_more_short l (i + 1) _ hm.2.2 (by omega)
theorem vr_more_long : ∀ (l : List Int) (i : Nat) (v x : Int) (r : List Int), more l → i + l.length = 9 → 1 < x → vr (l ++ x :: r) i v = .long
  | [], i, v, x, r, _, hi, h1 => by
    simp only [List.nil_append, vr, List.length_nil, Nat.add_zero] at *
    rw [if_pos (by omega), if_pos ⟨hi, h1⟩]
  | c :: l, i, v, x, r, hm, hi, h1 => by
    simp only [List.length_cons] at hi
    simp only [List.cons_append, vr]
    rw [if_pos (by omega), if_neg (by omega), if_neg (by have := hm.1; omega)]
    exact vr_more_long l (i + 1) _ x r hm.2.2 (by omega) h1
theorem encF_val : ∀ (f i : Nat) (v : Int), 0 ≤ v → v < 128 ^ (f + 1) → ∃ l x, encF f v = l ++ [x] ∧ more l ∧ 0 ≤ x ∧ x < 128 ∧ val i (l ++ [x]) = v * 2 ^ (7 * i) ∧ (l.length = f → x * 128 ^ f ≤ v)
  | 0, i, v, h0, h1 => ⟨[], v, rfl, trivial, h0, by simpa using h1, by simp only [List.nil_append, val]; rw [Int.emod_eq_of_lt h0 (by simpa using h1)]; omega, fun _ => by simp⟩
  | f + 1, i, v, h0, h1 => by
    simp only [encF]
    split
    · rename_i h
      exact ⟨[], v, rfl, trivial, h0, h, by simp only [List.nil_append, val]; rw [Int.emod_eq_of_lt h0 h]; omega, fun h => by simp at h⟩
    · have hp : (128 : Int) ^ (f + 1 + 1) = 128 ^ (f + 1) * 128 := by rw [Int.pow_succ]
      obtain ⟨l, x, e, hm, a, b, hv, hb⟩ := encF_val f (i + 1) (v / 128) (by omega) (by omega)
      refine ⟨(v % 128 + 128) :: l, x, by rw [e]; rfl, ⟨by omega, by omega, hm⟩, a, b, ?_, fun hl => ?_⟩
      · simp only [List.cons_append, val]
        rw [hv, show 7 * (i + 1) = 7 * i + 7 by omega, Int.pow_add, show ((v % 128 + 128) % 128) = v % 128 by omega]
        generalize (2 : Int) ^ (7 * i) = p
        rw [show (2 : Int) ^ 7 = 128 by decide, Int.mul_comm p 128, ← Int.mul_assoc, ← Int.add_mul]
        congr 1
        omega
      · simp only [List.length_cons, Nat.add_right_cancel_iff] at hl
        have := hb hl
        rw [Int.pow_succ, ← Int.mul_assoc]
        omega
theorem enc_val {v : Int} (h : V64 v) : ∃ l x, enc v = l ++ [x] ∧ more l ∧ l.length ≤ 9 ∧ 0 ≤ x ∧ x < 128 ∧ val 0 (l ++ [x]) = v ∧ (l.length = 9 → x ≤ 1) ∧ (l ≠ [] → x ≠ 0) := by
  obtain ⟨l, x, e, hm, a, b, hv, hb⟩ := encF_val 9 0 v h.1 h.lt
  have hl := (enc_len h).2.1
  have e' : enc v = l ++ [x] := e
  rw [e'] at hl
  simp only [List.length_append, List.length_singleton] at hl
  refine ⟨l, x, e, hm, by omega, a, b, by simpa using hv, fun h9 => ?_, ?_⟩
  · have := hb h9
    have := h.2
    omega
  · obtain ⟨l2, x2, e2, _, _, h2⟩ := encF_last 9 v h.1 h.lt
    rw [e] at e2
    obtain ⟨h3, h4⟩ := List.append_inj' e2 rfl
    simp only [List.cons.injEq, and_true] at h4
    subst h3 h4
    exact h2
end Go.Sk
