/- Plain: what a reader does, as functions of its state. -/
import Derived.Test.YtldfbjcicbfidaaV2
set_option linter.unusedVariables false
set_option linter.unusedSimpArgs false
namespace Go.Sk
/-- A reader: where it stands, where it ends, its error, and that one's place. -/
structure RS where
  at_ : Nat
  en : Nat
  e : Int
  wh : Nat
def RS.ok (n : Nat) (s : RS) : Prop := s.at_ ≤ s.en ∧ s.en ≤ n ∧ s.wh ≤ n
def RS.seg (bs : List Int) (s : RS) : List Int := (bs.drop s.at_).take (s.en - s.at_)
def RS.wrong (e : Int) (at_ : Nat) (s : RS) : RS := if s.e = 0 then { s with e := e, wh := at_ } else s
def RS.varint (bs : List Int) (s : RS) : Int × RS :=
  if s.e = 0 then match vr (s.seg bs) 0 0 with
    | .ok v k => (v, { s with at_ := s.at_ + k })
    | .short => (0, { s with e := 10, wh := s.at_ })
    | .long => (0, { s with e := 11, wh := s.at_ })
  else (0, s)
def RS.tag (bs : List Int) (s : RS) : (Int × Int) × RS :=
  if (s.varint bs).2.e = 0 then
    (if 4294967295 < (s.varint bs).1 ∨ (s.varint bs).1 / 8 = 0 ∨ 5 < (s.varint bs).1 % 8 then ((0, 0), { (s.varint bs).2 with at_ := s.at_, e := 12, wh := s.at_ })
      else (((s.varint bs).1 / 8, (s.varint bs).1 % 8), (s.varint bs).2))
  else ((0, 0), (s.varint bs).2)
/-- Bytes with their length: where they begin and end, if they are there. -/
def RS.span (bs : List Int) (s : RS) : Option (Nat × Nat) × RS :=
  if (s.varint bs).2.e = 0 then
    (if ((s.varint bs).2.en : Int) - (s.varint bs).2.at_ < (s.varint bs).1 then (none, { (s.varint bs).2 with at_ := s.at_, e := 10, wh := s.at_ })
      else (some ((s.varint bs).2.at_, (s.varint bs).2.at_ + (s.varint bs).1.toNat), { (s.varint bs).2 with at_ := (s.varint bs).2.at_ + (s.varint bs).1.toNat }))
  else (none, (s.varint bs).2)
def RS.none_ (s : RS) : RS := ⟨s.wh, s.wh, s.e, s.wh⟩
def RS.end_ (s : RS) : RS := if s.at_ < s.en then s.wrong 16 s.at_ else s
def RS.part (bs : List Int) (s : RS) : RS × RS := match (s.span bs).1 with
  | some (i, j) => (⟨i, j, 0, 0⟩, (s.span bs).2)
  | none => ((s.span bs).2.none_, (s.span bs).2)
theorem RS.seg_len {bs : List Int} {n : Nat} {s : RS} (h : s.ok n) (hb : bs.length = n) : (s.seg bs).length = s.en - s.at_ := by
  obtain ⟨h1, h2, h3⟩ := h
  unfold RS.seg
  rw [List.length_take, List.length_drop]
  omega
theorem vr_val : ∀ (l : List Int) (i : Nat) (v r : Int) (k : Nat), Bytes l → 0 ≤ v → v < 2 ^ (7 * i) → i ≤ 10 → vr l i v = .ok r k → 0 ≤ r ∧ r < 18446744073709551616
  | [], i, v, r, k, _, _, _, _, h => by simp only [vr] at h; split at h <;> cases h
  | c :: l, i, v, r, k, hb, h0, hv, hi, h => by
    have hc : isByte c := hb c (by simp)
    simp only [vr] at h
    split at h
    · rename_i h10
      split at h
      · cases h
      · rename_i h9
        have h9' : i = 9 → c ≤ 1 := fun e => by omega
        have hp := part_lt hc (by omega) h9' hv
        have hp0 : 0 ≤ c % 128 * 2 ^ (7 * i) := Int.mul_nonneg (by omega) (Int.le_of_lt (Int.pow_pos (by decide)))
        split at h
        · cases h
          exact ⟨by omega, hp⟩
        · exact vr_val l (i + 1) _ r k (fun x hx => hb x (by simp [hx])) (by omega) (step7 hv) (by omega) h
    · cases h
theorem V64.zero : V64 0 := ⟨by decide, by decide⟩
theorem RS.varint_spec {bs : List Int} {n : Nat} {s : RS} (h : s.ok n) (hb : bs.length = n) (hby : Bytes bs) : (s.varint bs).2.ok n ∧ (s.varint bs).2.en = s.en ∧ s.at_ ≤ (s.varint bs).2.at_ ∧ V64 (s.varint bs).1 ∧ ((s.varint bs).2.e ≠ 0 → (s.varint bs).2.at_ = s.at_ ∧ (s.varint bs).1 = 0) ∧ ((s.varint bs).2.e = 0 → s.e = 0 ∧ s.at_ < (s.varint bs).2.at_) := by
  have hl := RS.seg_len h hb
  obtain ⟨h1, h2, h3⟩ := h
  unfold RS.varint
  split
  · rename_i he
    split
    · rename_i v k hv
      have hle := vr_le _ _ _ _ _ hv
      have hval := vr_val _ _ _ _ _ ((hby.drop _).take _) (by omega) (by simp) (by omega) hv
      rw [hl] at hle
      exact ⟨⟨by simp only; omega, h2, h3⟩, rfl, by simp only; omega, hval, fun hn => absurd he hn, fun _ => ⟨he, by simp only; omega⟩⟩
    · exact ⟨⟨h1, h2, by simp only; omega⟩, rfl, Nat.le_refl _, V64.zero, fun _ => ⟨rfl, rfl⟩, fun hn => by simp at hn⟩
    · exact ⟨⟨h1, h2, by simp only; omega⟩, rfl, Nat.le_refl _, V64.zero, fun _ => ⟨rfl, rfl⟩, fun hn => by simp at hn⟩
  · rename_i he
    exact ⟨⟨h1, h2, h3⟩, rfl, Nat.le_refl _, V64.zero, fun _ => ⟨rfl, rfl⟩, fun hn => absurd hn he⟩
end Go.Sk
