/- Plain: Skip, Group and Check as functions of a reader's state; and what they say of the grammar. -/
import Derived.Test.YtldfbjcicbfidaaV15
set_option linter.unusedVariables false
set_option linter.unusedSimpArgs false
namespace Go.Sk
def RS.bad1 (m k : Int) (s : RS) : RS := if m < 1 ∨ 536870911 < m ∨ 5 < k then s.wrong 1 s.at_ else if k = 4 then s.wrong 13 s.at_ else s
def RS.skip1 (bs : List Int) (m k d : Int) (s : RS) : RS := if (s.bad1 m k).e = 0 then (s.bad1 m k).con bs (s.en - s.at_ + 1) m k d else s.bad1 m k
def RS.skip (bs : List Int) (m k d : Int) (s : RS) : List Int × RS :=
  if (s.skip1 bs m k d).e = 0 then ((bs.drop s.at_).take ((s.skip1 bs m k d).at_ - s.at_), s.skip1 bs m k d) else ([], { s.skip1 bs m k d with at_ := s.at_ })
def RS.bad2 (m : Int) (s : RS) : RS := if m < 1 ∨ 536870911 < m then s.wrong 1 s.at_ else s
def RS.group (bs : List Int) (m d : Int) (s : RS) : RS × RS :=
  if (s.bad2 m).e = 0 then
    (if (grp bs (s.en - s.at_ + 1) m d ((s.bad2 m).dep d)).2.e = 0 then (⟨s.at_, (grp bs (s.en - s.at_ + 1) m d ((s.bad2 m).dep d)).1.toNat, 0, 0⟩, (grp bs (s.en - s.at_ + 1) m d ((s.bad2 m).dep d)).2)
      else (RS.none_ { (grp bs (s.en - s.at_ + 1) m d ((s.bad2 m).dep d)).2 with at_ := s.at_ }, { (grp bs (s.en - s.at_ + 1) m d ((s.bad2 m).dep d)).2 with at_ := s.at_ }))
  else ((s.bad2 m).none_, s.bad2 m)
def chk (bs : List Int) : Nat → Int → RS → Int × Int
  | 0, _, s => (s.e, if s.e = 0 then 0 else (s.wh : Int))
  | f + 1, d, s =>
    if s.e = 0 ∧ s.at_ < s.en then
      (if (s.tag bs).2.e = 0 ∧ (s.tag bs).1.2 = 4 then (13, s.at_) else chk bs f d ((s.tag bs).2.skip bs (s.tag bs).1.1 (s.tag bs).1.2 d).2)
    else (s.e, if s.e = 0 then 0 else (s.wh : Int))
theorem chk_end {bs : List Int} {f : Nat} {d : Int} {s : RS} (h : ¬ (s.e = 0 ∧ s.at_ < s.en)) : chk bs f d s = (s.e, if s.e = 0 then 0 else (s.wh : Int)) := by
  cases f with
  | zero => rfl
  | succ f => rw [chk, if_neg h]
theorem chk_succ {bs : List Int} {f : Nat} {d : Int} {s : RS} (h : s.e = 0 ∧ s.at_ < s.en) : chk bs (f + 1) d s = (if (s.tag bs).2.e = 0 ∧ (s.tag bs).1.2 = 4 then (13, (s.at_ : Int)) else chk bs f d ((s.tag bs).2.skip bs (s.tag bs).1.1 (s.tag bs).1.2 d).2) := by
  rw [chk, if_pos h]
theorem RS.wrong_bad {s : RS} {e : Int} {a : Nat} (h : s.e ≠ 0) : s.wrong e a = s := by unfold RS.wrong; rw [if_neg h]
theorem RS.wrong_ok {n : Nat} {s : RS} {e : Int} {a : Nat} (h : s.ok n) (ha : a ≤ n) : (s.wrong e a).ok n ∧ (s.wrong e a).en = s.en ∧ (s.wrong e a).at_ = s.at_ := by
  unfold RS.wrong
  split
  · exact ⟨⟨h.1, h.2.1, ha⟩, rfl, rfl⟩
  · exact ⟨h, rfl, rfl⟩
theorem RS.bad1_ok {n : Nat} {s : RS} {m k : Int} (h : s.ok n) : (s.bad1 m k).ok n ∧ (s.bad1 m k).en = s.en ∧ (s.bad1 m k).at_ = s.at_ := by
  have := h.1
  have := h.2.1
  unfold RS.bad1
  split
  · exact RS.wrong_ok h (by omega)
  · split
    · exact RS.wrong_ok h (by omega)
    · exact ⟨h, rfl, rfl⟩
theorem RS.bad1_good {s : RS} {m k : Int} (h : (s.bad1 m k).e = 0) : s.bad1 m k = s ∧ 1 ≤ m ∧ m ≤ 536870911 ∧ k ≤ 5 ∧ k ≠ 4 := by
  unfold RS.bad1 at *
  split at h
  · exact absurd h (RS.wrong_e (by decide))
  · rename_i h1
    rw [if_neg h1]
    split at h
    · exact absurd h (RS.wrong_e (by decide))
    · rename_i h2
      rw [if_neg h2]
      exact ⟨rfl, by omega, by omega, by omega, h2⟩
theorem RS.bad1_pass {s : RS} {m k : Int} (h1 : 1 ≤ m) (h2 : m ≤ 536870911) (h3 : k ≤ 5) (h4 : k ≠ 4) : s.bad1 m k = s := by
  unfold RS.bad1
  rw [if_neg (by omega), if_neg h4]
theorem RS.skip_bad {bs : List Int} {m k d : Int} {s : RS} (h : s.e ≠ 0) : s.skip bs m k d = ([], s) := by
  have h1 : s.bad1 m k = s := by
    unfold RS.bad1
    split
    · exact RS.wrong_bad h
    · split
      · exact RS.wrong_bad h
      · rfl
  have h2 : s.skip1 bs m k d = s := by
    unfold RS.skip1
    rw [h1, if_neg h]
  unfold RS.skip
  rw [h2, if_neg h]
theorem RS.skip_to {bs y c : List Int} {n : Nat} {s : RS} {m k d : Int} (he : s.e = 0) (hs : s.ok n) (hb : bs.length = n) (hc : Con m k d c) (h1 : 1 ≤ m) (h2 : m ≤ 536870911) (h3 : k ≤ 5) (h4 : k ≠ 4) (h : s.seg bs = c ++ y) : s.skip bs m k d = (c, s.mv c.length) := by
  have hl := (RS.mv_ok hs hb h).2
  have e1 : s.skip1 bs m k d = s.mv c.length := by
    unfold RS.skip1
    rw [RS.bad1_pass h1 h2 h3 h4, if_pos he, RS.con_to he hs hb hc h (by omega)]
  unfold RS.skip
  rw [e1, RS.mv_e, if_pos he]
  congr 1
  rw [RS.mv_at, Nat.add_sub_cancel_left]
  have h5 : (bs.drop s.at_).take c.length = (s.seg bs).take c.length := by
    unfold RS.seg
    rw [List.take_take, Nat.min_eq_left (by omega)]
  rw [h5, h, List.take_left]
theorem RS.skip_of {bs : List Int} {n : Nat} {s : RS} {m k d : Int} (hs : s.ok n) (hb : bs.length = n) (hby : Bytes bs) (h0 : 0 ≤ k) (h : (s.skip bs m k d).2.e = 0) :
    s.e = 0 ∧ 1 ≤ m ∧ m ≤ 536870911 ∧ k ≤ 5 ∧ k ≠ 4 ∧ ∃ c y, s.seg bs = c ++ y ∧ Con m k d c ∧ s.skip bs m k d = (c, s.mv c.length) := by
  have he : s.e = 0 := by
    by_cases he : s.e = 0
    · exact he
    · rw [RS.skip_bad he] at h; exact h
  have e1 : (s.skip1 bs m k d).e = 0 := by
    unfold RS.skip at h
    split at h
    · exact h
    · exact h
  have e1' := e1
  unfold RS.skip1 at e1
  split at e1
  · rename_i hb1
    obtain ⟨q0, q1, q2, q3, q4⟩ := RS.bad1_good hb1
    rw [q0] at e1
    obtain ⟨c, r, a1, a2, a3⟩ := RS.con_of hb hby hs (by omega) ⟨q4, h0, q3⟩ he e1
    exact ⟨he, q1, q2, q3, q4, c, r, a1, a2, RS.skip_to he hs hb a2 q1 q2 q3 q4 a1⟩
  · rename_i hb1; exact absurd e1 hb1
theorem RS.skip1_ok {bs : List Int} {n : Nat} {s : RS} {m k d : Int} (hs : s.ok n) (hb : bs.length = n) (hby : Bytes bs) : (s.skip1 bs m k d).ok n ∧ (s.skip1 bs m k d).en = s.en ∧ s.at_ ≤ (s.skip1 bs m k d).at_ := by
  obtain ⟨a, b, c⟩ := RS.bad1_ok (m := m) (k := k) hs
  unfold RS.skip1
  split
  · have h := RS.con_on (f := s.en - s.at_ + 1) (num := m) (k := k) (d := d) a hb hby
    exact ⟨h.1, h.2.1.trans b, by have := h.2.2.1; omega⟩
  · exact ⟨a, b, by omega⟩
theorem RS.skip_ok {bs : List Int} {n : Nat} {s : RS} {m k d : Int} (hs : s.ok n) (hb : bs.length = n) (hby : Bytes bs) : (s.skip bs m k d).2.ok n ∧ (s.skip bs m k d).2.en = s.en ∧ s.at_ ≤ (s.skip bs m k d).2.at_ := by
  obtain ⟨a, b, c⟩ := RS.skip1_ok (m := m) (k := k) (d := d) hs hb hby
  unfold RS.skip
  split
  · exact ⟨a, b, c⟩
  · refine ⟨⟨?_, a.2.1, a.2.2⟩, b, Nat.le_refl _⟩
    simp only
    rw [b]
    exact hs.1
theorem chk_to {bs : List Int} {n : Nat} (hb : bs.length = n) : ∀ (f : Nat) (d : Int) (s : RS) (x : List Int), s.e = 0 → s.ok n → Fls d x → s.seg bs = x → x.length ≤ f → chk bs f d s = (0, 0)
  | f, d, s, x, he, hs, hx, h, hf => by
    have hl := RS.seg_len hs hb
    rw [h] at hl
    have hs1 := hs.1
    cases hx with
    | nil =>
      rw [chk_end (by simp only [List.length_nil] at hl; omega), if_pos he, he]
    | @cons m k _ t c r ht hk hc hr =>
      have htp := ht.1.pos
      simp only [List.length_append] at hl hf
      obtain ⟨g, rfl⟩ : ∃ g, f = g + 1 := ⟨f - 1, by omega⟩
      rw [chk_succ ⟨he, by omega⟩, RS.tag_to he ht h]
      simp only
      rw [if_neg (by intro hh; exact hk hh.2)]
      have ok1 := (RS.mv_ok hs hb h).1
      have sg1 := RS.seg_mv h
      rw [RS.skip_to (y := r) (by exact he) ok1 hb hc ht.2.1 ht.2.2.1 ht.2.2.2.2 hk sg1]
      have ok2 := (RS.mv_ok ok1 hb sg1).1
      have sg2 := RS.seg_mv sg1
      exact chk_to hb g d _ r he ok2 hr sg2 (by omega)
theorem chk_of {bs : List Int} {n : Nat} (hb : bs.length = n) (hby : Bytes bs) : ∀ (f : Nat) (d : Int) (s : RS), s.e = 0 → s.ok n → s.en - s.at_ < f → (chk bs f d s).1 = 0 → Fls d (s.seg bs)
  | 0, d, s, _, _, hf, _ => by omega
  | f + 1, d, s, he, hs, hf, h => by
    have hl := RS.seg_len hs hb
    by_cases hlt : s.at_ < s.en
    · rw [chk_succ ⟨he, hlt⟩] at h
      split at h
      · simp at h
      · rename_i h1
        have hsk : ((s.tag bs).2.skip bs (s.tag bs).1.1 (s.tag bs).1.2 d).2.e = 0 := by
          by_cases h2 : ((s.tag bs).2.skip bs (s.tag bs).1.1 (s.tag bs).1.2 d).2.e = 0
          · exact h2
          · rw [chk_end (fun hh => h2 hh.1)] at h; exact h
        have ht0 : (s.tag bs).2.e = 0 := by
          by_cases h2 : (s.tag bs).2.e = 0
          · exact h2
          · rw [RS.skip_bad h2] at hsk; exact hsk
        obtain ⟨t, y, m, k, _, hseg, ht, htag⟩ := RS.tag_of hby hs hb ht0
        rw [htag] at hsk h h1
        simp only at hsk h h1
        have htp := ht.1.pos
        have ok1 := (RS.mv_ok hs hb hseg).1
        have hen := (RS.mv_ok hs hb hseg).2
        have sg1 := RS.seg_mv hseg
        obtain ⟨_, q1, q2, q3, q4, c, r, a1, a2, a3⟩ := RS.skip_of ok1 hb hby ht.2.2.2.1 hsk
        rw [a3] at h
        have ok2 := (RS.mv_ok ok1 hb a1).1
        have sg2 := RS.seg_mv a1
        have ih := chk_of hb hby f d ((s.mv t.length).mv c.length) he ok2 (by simp only [RS.mv_en, RS.mv_at]; omega) h
        rw [sg2] at ih
        rw [hseg]
        rw [sg1] at a1
        rw [a1]
        exact .cons ht q4 a2 ih
    · have : s.seg bs = [] := List.eq_nil_of_length_eq_zero (by omega)
      rw [this]
      exact .nil
theorem grp_nn {bs : List Int} : ∀ (f : Nat) (m d : Int) (s : RS), 0 ≤ (grp bs f m d s).1
  | 0, _, _, _ => Int.le_refl _
  | f + 1, m, d, s => by
    unfold grp
    split
    · split
      · split
        · split
          · simp only; omega
          · exact Int.le_refl _
        · exact grp_nn f m d _
      · exact Int.le_refl _
    · exact Int.le_refl _
theorem RS.bad2_ok {n : Nat} {s : RS} {m : Int} (h : s.ok n) : (s.bad2 m).ok n ∧ (s.bad2 m).en = s.en ∧ (s.bad2 m).at_ = s.at_ := by
  have := h.1
  have := h.2.1
  unfold RS.bad2
  split
  · exact RS.wrong_ok h (by omega)
  · exact ⟨h, rfl, rfl⟩
theorem RS.group_to {bs x e y : List Int} {n : Nat} {s : RS} {m d : Int} (he : s.e = 0) (hs : s.ok n) (hb : bs.length = n) (hd : 1 ≤ d) (hx : Fls (d - 1) x) (hte : Tg e m 4) (h : s.seg bs = x ++ (e ++ y)) :
    s.group bs m d = (⟨s.at_, s.at_ + x.length, 0, 0⟩, s.mv (x.length + e.length)) := by
  have hl := RS.seg_len hs hb
  rw [h] at hl
  simp only [List.length_append] at hl
  have hb2 : s.bad2 m = s := by
    unfold RS.bad2
    rw [if_neg (by have := hte.2.1; have := hte.2.2.1; omega)]
  unfold RS.group
  rw [hb2, if_pos he, RS.dep_to hd, grp_to hb _ m d s x e y hd he hs hx hte h (by omega)]
  simp only
  rw [RS.mv_e, if_pos he, Int.toNat_natCast]
/-- Of bytes from the front. -/
def chk0 (l : List Int) (d : Int) : Int × Int := chk l (l.length + 1) d ⟨0, l.length, 0, 0⟩
theorem seg0 (l : List Int) : RS.seg l ⟨0, l.length, 0, 0⟩ = l := by unfold RS.seg; simp
theorem ok0 (l : List Int) : RS.ok l.length ⟨0, l.length, 0, 0⟩ := ⟨Nat.zero_le _, Nat.le_refl _, Nat.zero_le _⟩
theorem chk0_to {l : List Int} {d : Int} (h : Fls d l) : chk0 l d = (0, 0) := chk_to rfl _ d _ l rfl (ok0 l) h (seg0 l) (by omega)
theorem chk0_of {l : List Int} {d : Int} (hby : Bytes l) (h : (chk0 l d).1 = 0) : Fls d l := by
  have := chk_of rfl hby _ d ⟨0, l.length, 0, 0⟩ rfl (ok0 l) (by simp only; omega) h
  rwa [seg0] at this
end Go.Sk
