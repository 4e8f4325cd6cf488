/- Plain: groups and contents, as functions of a reader's state. -/
import Derived.Test.YtldfbjcicbfidaaV9
set_option linter.unusedVariables false
set_option linter.unusedSimpArgs false
namespace Go.Sk
def RS.dep (d : Int) (s : RS) : RS := if d < 1 then s.wrong 14 s.at_ else s
/-- The content of a field that is no group. -/
def RS.simple (bs : List Int) (k : Int) (s : RS) : RS :=
  if k = 0 then (s.varint bs).2 else if k = 1 then (s.fixed 8 bs).2 else if k = 2 then (s.span bs).2 else if k = 5 then (s.fixed 4 bs).2 else s
/-- Up to the end that matches, of number num, at depth d ≥ 1 (f: more than so many bytes are left). -/
def grp (bs : List Int) : Nat → Int → Int → RS → Int × RS
  | 0, _, _, s => (0, s)
  | f + 1, num, d, s =>
    if s.e = 0 then
      (if (s.tag bs).2.e = 0 then
        (if (s.tag bs).1.2 = 4 then (if (s.tag bs).1.1 = num then ((s.at_ : Int), (s.tag bs).2) else (0, (s.tag bs).2.wrong 13 s.at_))
        else grp bs f num d (if (s.tag bs).1.2 = 3 then (grp bs f (s.tag bs).1.1 (d - 1) ((s.tag bs).2.dep (d - 1))).2 else (s.tag bs).2.simple bs (s.tag bs).1.2))
      else (0, (s.tag bs).2))
    else (0, s)
theorem grp_succ {bs : List Int} {f : Nat} {num d : Int} {s : RS} (he : s.e = 0) : grp bs (f + 1) num d s =
    (if (s.tag bs).2.e = 0 then
        (if (s.tag bs).1.2 = 4 then (if (s.tag bs).1.1 = num then ((s.at_ : Int), (s.tag bs).2) else (0, (s.tag bs).2.wrong 13 s.at_))
        else grp bs f num d (if (s.tag bs).1.2 = 3 then (grp bs f (s.tag bs).1.1 (d - 1) ((s.tag bs).2.dep (d - 1))).2 else (s.tag bs).2.simple bs (s.tag bs).1.2))
      else (0, (s.tag bs).2)) := by
  rw [grp]
  rw [if_pos he]
theorem grp_bad {bs : List Int} {f : Nat} {num d : Int} {s : RS} (he : s.e ≠ 0) : grp bs f num d s = (0, s) := by
  cases f with
  | zero => rfl
  | succ f => rw [grp]; rw [if_neg he]
def RS.con (bs : List Int) (f : Nat) (num k d : Int) (s : RS) : RS := if k = 3 then (grp bs f num d (s.dep d)).2 else s.simple bs k
/-- It goes on, or stands, and stays within. -/
def RS.on (n : Nat) (s t : RS) : Prop := t.ok n ∧ t.en = s.en ∧ s.at_ ≤ t.at_ ∧ (t.e = 0 → s.e = 0)
theorem RS.on.refl {n : Nat} {s : RS} (h : s.ok n) : RS.on n s s := ⟨h, rfl, Nat.le_refl _, id⟩
theorem RS.on.trans {n : Nat} {s t u : RS} (h : RS.on n s t) (h' : RS.on n t u) : RS.on n s u :=
  ⟨h'.1, h'.2.1.trans h.2.1, Nat.le_trans h.2.2.1 h'.2.2.1, fun e => h.2.2.2 (h'.2.2.2 e)⟩
theorem RS.wrong_on {n : Nat} {s : RS} {e : Int} {a : Nat} (h : s.ok n) (ha : a ≤ n) (he : e ≠ 0) : RS.on n s (s.wrong e a) := by
  unfold RS.wrong
  split
  · exact ⟨⟨h.1, h.2.1, ha⟩, rfl, Nat.le_refl _, fun h => absurd h he⟩
  · exact RS.on.refl h
theorem RS.varint_on {bs : List Int} {n : Nat} {s : RS} (h : s.ok n) (hb : bs.length = n) (hby : Bytes bs) : RS.on n s (s.varint bs).2 := by
  obtain ⟨a, b, c, d, e, f⟩ := RS.varint_spec h hb hby
  exact ⟨a, b, c, fun h => (f h).1⟩
theorem RS.fixed_on {bs : List Int} {n w : Nat} {s : RS} (h : s.ok n) : RS.on n s (s.fixed w bs).2 := by
  unfold RS.fixed
  split
  · split
    · exact RS.wrong_on h (by have := h.1; have := h.2.1; omega) (by decide)
    · obtain ⟨h1, h2, h3⟩ := h
      exact ⟨⟨by simp only; omega, h2, h3⟩, rfl, by simp only; omega, id⟩
  · exact RS.on.refl h
theorem RS.span_on {bs : List Int} {n : Nat} {s : RS} (h : s.ok n) (hb : bs.length = n) (hby : Bytes bs) : RS.on n s (s.span bs).2 := by
  obtain ⟨a, b, c, d, e, f⟩ := RS.varint_spec h hb hby
  have hv := RS.varint_on h hb hby
  unfold RS.span
  split
  · rename_i he
    split
    · exact ⟨⟨by simp only; rw [b]; exact h.1, a.2.1, by simp only; have := h.1; have := h.2.1; omega⟩, b, Nat.le_refl _, fun h => by simp at h⟩
    · refine ⟨⟨?_, a.2.1, a.2.2⟩, b, by simp only; omega, fun _ => (f he).1⟩
      have := a.1
      have := d.1
      simp only
      omega
  · exact hv
theorem RS.tag_on {bs : List Int} {n : Nat} {s : RS} (h : s.ok n) (hb : bs.length = n) (hby : Bytes bs) : RS.on n s (s.tag bs).2 ∧ ((s.tag bs).2.e = 0 → s.at_ < (s.tag bs).2.at_) := by
  obtain ⟨a, b, c, d, e, f⟩ := RS.varint_spec h hb hby
  have hv := RS.varint_on h hb hby
  unfold RS.tag
  split
  · rename_i he
    split
    · exact ⟨⟨⟨by simp only; rw [b]; exact h.1, a.2.1, by simp only; have := h.1; have := h.2.1; omega⟩, b, Nat.le_refl _, fun h => by simp at h⟩, fun h => by simp at h⟩
    · exact ⟨hv, fun _ => (f he).2⟩
  · rename_i he
    exact ⟨hv, fun h => absurd h he⟩
theorem RS.simple_on {bs : List Int} {n : Nat} {s : RS} {k : Int} (h : s.ok n) (hb : bs.length = n) (hby : Bytes bs) : RS.on n s (s.simple bs k) := by
  unfold RS.simple
  split
  · exact RS.varint_on h hb hby
  · split
    · exact RS.fixed_on h
    · split
      · exact RS.span_on h hb hby
      · split
        · exact RS.fixed_on h
        · exact RS.on.refl h
theorem RS.dep_on {n : Nat} {s : RS} {d : Int} (h : s.ok n) : RS.on n s (s.dep d) := by
  unfold RS.dep
  split
  · exact RS.wrong_on h (by have := h.1; have := h.2.1; omega) (by decide)
  · exact RS.on.refl h
theorem grp_on {bs : List Int} {n : Nat} (hb : bs.length = n) (hby : Bytes bs) : ∀ (f : Nat) (num d : Int) (s : RS), s.ok n → RS.on n s (grp bs f num d s).2
  | 0, _, _, s, h => RS.on.refl h
  | f + 1, num, d, s, h => by
    have ht := (RS.tag_on h hb hby).1
    unfold grp
    split
    · split
      · split
        · split
          · exact ht
          · exact ht.trans (RS.wrong_on ht.1 (by have := h.1; have := h.2.1; omega) (by decide))
        · refine ht.trans ?_
          split
          · have h1 := RS.dep_on (d := d - 1) ht.1
            have h2 := grp_on hb hby f (s.tag bs).1.1 (d - 1) _ h1.1
            exact (h1.trans h2).trans (grp_on hb hby f num d _ h2.1)
          · have h1 := RS.simple_on (k := (s.tag bs).1.2) ht.1 hb hby
            exact h1.trans (grp_on hb hby f num d _ h1.1)
      · exact ht
    · exact RS.on.refl h
theorem RS.con_on {bs : List Int} {n f : Nat} {s : RS} {num k d : Int} (h : s.ok n) (hb : bs.length = n) (hby : Bytes bs) : RS.on n s (s.con bs f num k d) := by
  unfold RS.con
  split
  · exact (RS.dep_on h).trans (grp_on hb hby f num d _ (RS.dep_on h).1)
  · exact RS.simple_on h hb hby
theorem RS.tag_range {bs : List Int} {n : Nat} {s : RS} (hby : Bytes bs) (h : s.ok n) (hb : bs.length = n) : 0 ≤ (s.tag bs).1.1 ∧ (s.tag bs).1.1 ≤ 536870911 ∧ 0 ≤ (s.tag bs).1.2 ∧ (s.tag bs).1.2 ≤ 7 := by
  obtain ⟨_, _, _, d, _, _⟩ := RS.varint_spec h hb hby
  obtain ⟨d0, d1⟩ := d
  unfold RS.tag
  split
  · split
    · simp only; exact ⟨by omega, by omega, by omega, by omega⟩
    · simp only
      exact ⟨by omega, by omega, by omega, by omega⟩
  · simp only; exact ⟨by omega, by omega, by omega, by omega⟩
end Go.Sk
