/- Plain: a whole field as a function of a reader's state; the row of all fields; of bytes that are fields it holds each. -/
import Derived.Test.YtldfbjcicbfidaaV16
import Derived.Test.YtldfbjcicbfidaaV17
set_option linter.unusedVariables false
set_option linter.unusedSimpArgs false
namespace Go.Sk
set_option maxRecDepth 100000
/-- All that a reader has left, if it is not wrong. -/
def RS.rest (bs : List Int) (s : RS) : List Int := if s.e = 0 then s.seg bs else []
/-- A field's content: its bits, its bytes, what is left. -/
def RS.fval (bs : List Int) (m k d : Int) (t : RS) : (Int × List Int) × RS :=
  if k = 0 then (((t.varint bs).1, []), (t.varint bs).2)
  else if k = 1 then (((t.fixed 8 bs).1, []), (t.fixed 8 bs).2)
  else if k = 5 then (((t.fixed 4 bs).1, []), (t.fixed 4 bs).2)
  else if k = 2 then ((0, (t.bytes bs).1), (t.bytes bs).2)
  else if k = 3 then ((0, (t.group bs m d).1.rest bs), (t.group bs m d).2)
  else ((0, []), t.wrong 13 t.at_)
/-- A field: number, kind, place, bits, bytes. -/
structure RW where
  m : Int
  k : Int
  at_ : Nat
  v : Int
  dt : List Int
def RS.fld (bs : List Int) (d : Int) (s : RS) : RW × RS :=
  (⟨(s.tag bs).1.1, (s.tag bs).1.2, s.at_, ((s.tag bs).2.fval bs (s.tag bs).1.1 (s.tag bs).1.2 d).1.1, ((s.tag bs).2.fval bs (s.tag bs).1.1 (s.tag bs).1.2 d).1.2⟩,
    ((s.tag bs).2.fval bs (s.tag bs).1.1 (s.tag bs).1.2 d).2)
/-- The fields, up to the first that is none. -/
def flds (bs : List Int) (d : Int) : Nat → RS → List RW
  | 0, _ => []
  | f + 1, s => if s.e = 0 ∧ s.at_ < s.en then (if (s.fld bs d).2.e = 0 then (s.fld bs d).1 :: flds bs d f (s.fld bs d).2 else []) else []
def fldsL (l : List Int) (d : Int) : List RW := flds l d (l.length + 1) ⟨0, l.length, 0, 0⟩
theorem flds_go {bs : List Int} {d : Int} {f : Nat} {s : RS} (h : s.e = 0 ∧ s.at_ < s.en) (h2 : (s.fld bs d).2.e = 0) : flds bs d (f + 1) s = (s.fld bs d).1 :: flds bs d f (s.fld bs d).2 := by
  rw [flds, if_pos h, if_pos h2]
theorem flds_bad {bs : List Int} {d : Int} {f : Nat} {s : RS} (h2 : (s.fld bs d).2.e ≠ 0) : flds bs d f s = [] := by
  cases f with
  | zero => rfl
  | succ f => rw [flds]; split <;> simp [h2]
theorem flds_end {bs : List Int} {d : Int} {f : Nat} {s : RS} (h : ¬ (s.e = 0 ∧ s.at_ < s.en)) : flds bs d f s = [] := by
  cases f with
  | zero => rfl
  | succ f => rw [flds, if_neg h]
section
variable {bs : List Int} {n : Nat} {s : RS}
theorem RS.fixed_lt {w : Nat} (hby : Bytes bs) : 0 ≤ (s.fixed w bs).1 ∧ (s.fixed w bs).1 < 256 ^ w := by
  have h0 : (0 : Int) < 256 ^ w := Int.pow_pos (by decide)
  unfold RS.fixed
  split
  · split
    · exact ⟨Int.le_refl _, h0⟩
    · obtain ⟨a, b⟩ := lev_lt ((hby.drop s.at_).take w)
      have := pow256_le (a := ((bs.drop s.at_).take w).length) (b := w) (by rw [List.length_take]; omega)
      exact ⟨a, Int.lt_of_lt_of_le b this⟩
  · exact ⟨Int.le_refl _, h0⟩
theorem RS.bytes_on (h : s.ok n) (hb : bs.length = n) (hby : Bytes bs) : RS.on n s (s.bytes bs).2 := by
  have := RS.span_on h hb hby
  unfold RS.bytes
  split <;> exact this
theorem RS.bytes_len (h : s.ok n) (hb : bs.length = n) (hby : Bytes bs) : (s.bytes bs).1.length ≤ n := by
  unfold RS.bytes
  split
  · rename_i i j hij
    have := RS.span_in h hb hby i j hij
    simp only [List.length_take, List.length_drop]; omega
  · simp
theorem RS.rest_len (hs : s.en ≤ n) : (s.rest bs).length ≤ n := by
  unfold RS.rest
  split
  · unfold RS.seg; simp only [List.length_take, List.length_drop]; omega
  · simp
theorem RS.fval_on {m k d : Int} (h : s.ok n) (hb : bs.length = n) (hby : Bytes bs) (hg : RS.on n s (s.group bs m d).2) : RS.on n s (s.fval bs m k d).2 := by
  unfold RS.fval
  split
  · exact RS.varint_on h hb hby
  split
  · exact RS.fixed_on h
  split
  · exact RS.fixed_on h
  split
  · exact RS.bytes_on h hb hby
  split
  · exact hg
  · exact RS.wrong_on h (by have := h.1; have := h.2.1; omega) (by decide)
theorem RS.group_on {m d : Int} (h : s.ok n) (hb : bs.length = n) (hby : Bytes bs) : RS.on n s (s.group bs m d).2 := by
  have h0 : RS.on n s (s.bad2 m) := by
    unfold RS.bad2
    split
    · exact RS.wrong_on h (by have := h.1; have := h.2.1; omega) (by decide)
    · exact RS.on.refl h
  unfold RS.group
  split
  · have h1 := (h0.trans (RS.dep_on (d := d) h0.1)).trans (grp_on hb hby (s.en - s.at_ + 1) m d _ (RS.dep_on (d := d) h0.1).1)
    split
    · exact h1
    · exact ⟨⟨by have := h1.2.1; have := h.1; simp only; omega, h1.1.2.1, h1.1.2.2⟩, h1.2.1, Nat.le_refl _, h1.2.2.2⟩
  · exact h0
theorem grp_le (hb : bs.length = n) (hby : Bytes bs) : ∀ (f : Nat) (m d : Int) (s : RS), s.ok n → s.e = 0 → 0 < f → (grp bs f m d s).2.e = 0 → s.en - s.at_ < f → (s.at_ : Int) ≤ (grp bs f m d s).1 ∧ (grp bs f m d s).1 ≤ n
  | 0, _, _, _, _, _, h, _, _ => by omega
  | f + 1, m, d, s, hs, he, _, h, hf => by
    obtain ⟨ton, tat⟩ := RS.tag_on hs hb hby
    have hs1 := hs.1
    have hs2 := hs.2.1
    rw [grp_succ he] at h ⊢
    split
    · rename_i h1
      rw [if_pos h1] at h
      have tat := tat h1
      have t2 := ton.2.1
      split
      · rename_i h2
        rw [if_pos h2] at h
        split
        · simp only; omega
        · rename_i h3
          rw [if_neg h3] at h
          exact absurd h (RS.wrong_e (by decide))
      · rename_i h2
        rw [if_neg h2] at h
        generalize hs3 : (if (s.tag bs).1.2 = 3 then (grp bs f (s.tag bs).1.1 (d - 1) ((s.tag bs).2.dep (d - 1))).2 else (s.tag bs).2.simple bs (s.tag bs).1.2) = s3 at h ⊢
        have hon : RS.on n (s.tag bs).2 s3 := by
          rw [← hs3]
          split
          · exact (RS.dep_on ton.1).trans (grp_on hb hby f _ _ _ (RS.dep_on (d := d - 1) ton.1).1)
          · exact RS.simple_on ton.1 hb hby
        have he3 : s3.e = 0 := by
          by_cases h5 : s3.e = 0
          · exact h5
          · rw [grp_bad h5] at h; exact absurd h h5
        have := hon.1.1
        have := hon.2.1
        have := hon.2.2.1
        obtain ⟨g1, g2⟩ := grp_le hb hby f m d s3 hon.1 he3 (by omega) h (by omega)
        exact ⟨by omega, g2⟩
    · rename_i h1
      rw [if_neg h1] at h
      exact absurd h h1
/-- The reader of a group's inside lies within. -/
theorem RS.group_in {m d : Int} (h : s.ok n) (hb : bs.length = n) (hby : Bytes bs) : (s.group bs m d).1.ok n := by
  have h0 : RS.on n s (s.bad2 m) := by
    unfold RS.bad2
    split
    · exact RS.wrong_on h (by have := h.1; have := h.2.1; omega) (by decide)
    · exact RS.on.refl h
  unfold RS.group
  split
  · rename_i hb2
    have hd := RS.dep_on (d := d) h0.1
    have h1 := (grp_on hb hby (s.en - s.at_ + 1) m d _ hd.1)
    have h2 := grp_le hb hby (s.en - s.at_ + 1) m d _ hd.1
    split
    · rename_i h3
      have hde : ((s.bad2 m).dep d).e = 0 := h1.2.2.2 h3
      have e1 : (s.bad2 m).dep d = s := by
        have e2 : (s.bad2 m) = s := by
          unfold RS.bad2 at hb2 ⊢
          split at hb2
          · exact absurd hb2 (RS.wrong_e (by decide))
          · rename_i h6; rw [if_neg h6]
        rw [e2] at hde ⊢
        unfold RS.dep at hde ⊢
        split at hde
        · exact absurd hde (RS.wrong_e (by decide))
        · rename_i h6; rw [if_neg h6]
      rw [e1] at h2 h3 hde ⊢
      obtain ⟨g1, g2⟩ := h2 hde (by omega) h3 (by omega)
      exact ⟨by simp only; omega, by simp only; omega, Nat.zero_le _⟩
    · exact ⟨Nat.le_refl _, h1.1.2.2, h1.1.2.2⟩
  · exact ⟨Nat.le_refl _, h0.1.2.2, h0.1.2.2⟩
theorem RS.fval_on' {m k d : Int} (h : s.ok n) (hb : bs.length = n) (hby : Bytes bs) : RS.on n s (s.fval bs m k d).2 := RS.fval_on h hb hby (RS.group_on h hb hby)
theorem RS.fld_on {d : Int} (h : s.ok n) (hb : bs.length = n) (hby : Bytes bs) : RS.on n s (s.fld bs d).2 ∧ ((s.fld bs d).2.e = 0 → s.at_ < (s.fld bs d).2.at_) := by
  obtain ⟨ton, tat⟩ := RS.tag_on h hb hby
  have h1 := RS.fval_on' (m := (s.tag bs).1.1) (k := (s.tag bs).1.2) (d := d) ton.1 hb hby
  exact ⟨ton.trans h1, fun he => by have := tat (h1.2.2.2 he); have := h1.2.2.1; show _ < ((s.tag bs).2.fval bs (s.tag bs).1.1 (s.tag bs).1.2 d).2.at_; omega⟩
/-- A content of its grammar is read whole. -/
theorem RS.fval_to {m k d : Int} {c y : List Int} (he : s.e = 0) (hs : s.ok n) (hb : bs.length = n) (hc : Con m k d c) (h : s.seg bs = c ++ y) : (s.fval bs m k d).2 = s.mv c.length := by
  unfold RS.fval
  cases hc with
  | vi hv => rw [if_pos rfl, RS.varint_to he hv h]
  | f8 hl => rw [if_neg (by decide), if_pos rfl, RS.fixed_to he hs hb hl h, hl]
  | by_ hv =>
    rw [if_neg (by decide), if_neg (by decide), if_neg (by decide), if_pos rfl]
    unfold RS.bytes
    rw [RS.span_to he hs hb hv (by rw [← List.append_assoc]; exact h), List.length_append]
  | gr h1 h2 h3 =>
    rw [if_neg (by decide), if_neg (by decide), if_neg (by decide), if_neg (by decide), if_pos rfl]
    rw [RS.group_to he hs hb h1 h2 h3 (by rw [← List.append_assoc]; exact h), List.length_append]
  | f4 hl => rw [if_neg (by decide), if_neg (by decide), if_pos rfl, RS.fixed_to he hs hb hl h, hl]
end
/-- Of bytes that are m fields there are m. -/
theorem flds_N {bs : List Int} {n : Nat} (hb : bs.length = n) {d : Int} {x : List Int} {m : Nat} (h : FlsN d x m) : ∀ (f : Nat) (s : RS), s.e = 0 → s.ok n → s.seg bs = x → x.length < f → (flds bs d f s).length = m := by
  induction h with
  | nil =>
    intro f s he hs hx hf
    have := RS.seg_len hs hb
    rw [hx] at this
    rw [flds_end (by simp at this; omega)]
    rfl
  | @cons num k d t c r m ht hk hc hr ih =>
    intro f s he hs hx hf
    have hl := RS.seg_len hs hb
    rw [hx] at hl
    have htp := ht.1.pos
    simp only [List.length_append] at hl hf
    obtain ⟨f, rfl⟩ : ∃ g, f = g + 1 := ⟨f - 1, by omega⟩
    have e1 : s.tag bs = ((num, k), s.mv t.length) := RS.tag_to he ht hx
    have ok1 := (RS.mv_ok hs hb hx).1
    have sg1 := RS.seg_mv hx
    have e2 : (s.fld bs d).2 = (s.mv t.length).mv c.length := by
      unfold RS.fld
      rw [e1]
      exact RS.fval_to he ok1 hb hc sg1
    have ok2 := (RS.mv_ok ok1 hb sg1).1
    rw [flds_go ⟨he, by omega⟩ (by rw [e2]; exact he), e2, List.length_cons, ih f ((s.mv t.length).mv c.length) he ok2 (RS.seg_mv sg1) (by omega)]
/-- Places rise. -/
def Up : Nat → List RW → Prop
  | _, [] => True
  | lo, x :: r => lo ≤ x.at_ ∧ Up x.at_ r
theorem Up.mono : ∀ {r : List RW} {a b : Nat}, Up b r → a ≤ b → Up a r
  | [], _, _, _, _ => trivial
  | _ :: _, _, _, h, hab => ⟨Nat.le_trans hab h.1, h.2⟩
theorem flds_up {bs : List Int} {n : Nat} (hb : bs.length = n) (hby : Bytes bs) {d : Int} : ∀ (f : Nat) (s : RS), s.ok n → Up s.at_ (flds bs d f s)
  | 0, _, _ => trivial
  | f + 1, s, hs => by
    rw [flds]
    split
    · split
      · have h1 := (RS.fld_on (d := d) hs hb hby).1
        exact ⟨Nat.le_refl _, (flds_up hb hby f _ h1.1).mono h1.2.2.1⟩
      · trivial
    · trivial
theorem Up.get : ∀ {l : List RW} {a : Nat} {i : Nat}, Up a l → (h : i < l.length) → (i = 0 → a ≤ l[i].at_) ∧ ∀ h2 : i + 1 < l.length, l[i].at_ ≤ l[i + 1].at_
  | x :: r, a, 0, h, _ => ⟨fun _ => h.1, fun h2 => by
    cases r with
    | nil => simp at h2
    | cons y r => exact h.2.1⟩
  | x :: r, a, i + 1, h, hi => ⟨fun h0 => by omega, fun h2 => by
    have := (Up.get (l := r) (i := i) h.2 (by simpa using hi)).2 (by simpa using h2)
    simpa using this⟩
theorem fldsL_N {l : List Int} {d : Int} {m : Nat} (h : FlsN d l m) : (fldsL l d).length = m := flds_N rfl h _ _ rfl (ok0 l) (seg0 l) (by omega)
theorem fldsL_up {l : List Int} {d : Int} (hby : Bytes l) : Up 0 (fldsL l d) := flds_up rfl hby _ ⟨0, l.length, 0, 0⟩ (ok0 l)
theorem FlsN.le {d : Int} {x : List Int} {m : Nat} (h : FlsN d x m) : m ≤ x.length := by
  induction h with
  | nil => exact Nat.le_refl _
  | cons ht _ _ _ ih => have := ht.1.pos; simp only [List.length_append]; omega
theorem Bytes.cat {l l' : List Int} (h : Bytes l) (h' : Bytes l') : Bytes (l ++ l') := fun x hx => by
  rcases List.mem_append.1 hx with hx | hx
  · exact h x hx
  · exact h' x hx
/-- The place of the field ahead. -/
def pv (W : List RW) : Nat → Nat
  | 0 => 0
  | i + 1 => match W[i]? with
    | some x => x.at_
    | none => 0
theorem pv_le {W : List RW} (h : Up 0 W) {i : Nat} {x : RW} (hx : W[i]? = some x) : pv W i ≤ x.at_ ∧ pv W (i + 1) = x.at_ := by
  obtain ⟨hi, rfl⟩ := List.getElem?_eq_some_iff.1 hx
  refine ⟨?_, by simp only [pv, hx]⟩
  cases i with
  | zero => exact Nat.zero_le _
  | succ i =>
    have h1 : i < W.length := by omega
    simp only [pv, List.getElem?_eq_getElem h1]
    exact (Up.get h h1).2 hi
end Go.Sk
