/- Plain: a field's value and its content. -/
import Derived.Test.YtldfbjcicbfidaaV19
set_option linter.unusedVariables false
set_option linter.unusedSimpArgs false
namespace Go.Sk
set_option maxRecDepth 100000
/-- A fact that arithmetic does not look into. -/
def Hid (p : Prop) : Prop := p
section
variable {bs : List Int} {n : Nat} {s : RS}
/-- A reader of the first so many bytes of what another one has ahead. -/
theorem seg_cut {x y : List Int} (hs : s.ok n) (hb : bs.length = n) (h : s.seg bs = x ++ y) : RS.seg bs ⟨s.at_, s.at_ + x.length, 0, 0⟩ = x ∧ RS.ok n ⟨s.at_, s.at_ + x.length, 0, 0⟩ := by
  have h1 := RS.seg_len hs hb
  have h2 := hs.2.1
  have h3 := hs.1
  rw [h, List.length_append] at h1
  refine ⟨?_, by show s.at_ ≤ s.at_ + x.length; omega, by show s.at_ + x.length ≤ n; omega, Nat.zero_le _⟩
  unfold RS.seg at h ⊢
  simp only [Nat.add_sub_cancel_left]
  have h4 : (((bs.drop s.at_).take (s.en - s.at_)).take x.length) = x := by rw [h, List.take_left]
  rw [List.take_take, Nat.min_eq_left (by omega)] at h4
  exact h4
theorem fval_con {f : Nat} {m k d : Int} (he : s.e = 0) (hs : s.ok n) (hb : bs.length = n) (hby : Bytes bs) (hm : 1 ≤ m ∧ m ≤ 536870911) (hk : 0 ≤ k ∧ k ≤ 5 ∧ k ≠ 4) (hf : f = s.en - s.at_ + 1) :
    ((s.con bs f m k d).e ≠ 0 → (s.fval bs m k d).2.e ≠ 0) ∧ ((s.con bs f m k d).e = 0 → (s.fval bs m k d).2 = s.con bs f m k d ∧ s.at_ ≤ (s.con bs f m k d).at_ ∧
      ((k = 0 → (s.fval bs m k d).1 = ((RS.varint bs ⟨s.at_, (s.con bs f m k d).at_, 0, 0⟩).1, [])) ∧ (k = 1 → (s.fval bs m k d).1 = ((RS.fixed 8 bs ⟨s.at_, (s.con bs f m k d).at_, 0, 0⟩).1, [])) ∧ (k = 5 → (s.fval bs m k d).1 = ((RS.fixed 4 bs ⟨s.at_, (s.con bs f m k d).at_, 0, 0⟩).1, [])) ∧
        (k = 2 → (s.fval bs m k d).1 = (0, (RS.bytes bs ⟨s.at_, (s.con bs f m k d).at_, 0, 0⟩).1)) ∧ (k = 3 → (s.fval bs m k d).1 = (0, RS.rest bs ⟨s.at_, (grp bs f m d (s.dep d)).1.toNat, 0, 0⟩) ∧ (s.at_ : Int) ≤ (grp bs f m d (s.dep d)).1 ∧ (grp bs f m d (s.dep d)).1 ≤ n))) := by
  subst hf
  have hb2 : s.bad2 m = s := by unfold RS.bad2; rw [if_neg (by omega)]
  constructor
  · intro h
    unfold RS.con RS.simple at h
    unfold RS.fval
    split
    · rename_i hk0; rw [if_neg (by omega), if_pos hk0] at h; exact h
    split
    · rename_i h0 hk0; rw [if_neg (by omega), if_neg (by omega), if_pos hk0] at h; exact h
    split
    · rename_i h0 h1 hk0; rw [if_neg (by omega), if_neg (by omega), if_neg (by omega), if_neg (by omega), if_pos hk0] at h; exact h
    split
    · rename_i h0 h1 h2 hk0
      rw [if_neg (by omega), if_neg (by omega), if_neg (by omega), if_pos hk0] at h
      unfold RS.bytes
      split <;> exact h
    split
    · rename_i h0 h1 h2 h3 hk0
      rw [if_pos hk0] at h
      unfold RS.group
      rw [hb2, if_pos he, if_neg h]
      exact h
    · omega
  · intro h
    obtain ⟨c, r, h1, h2, h3⟩ := RS.con_of hb hby hs (Nat.lt_succ_self _) ⟨hk.2.2, hk.1, hk.2.1⟩ he h
    obtain ⟨g1, g2⟩ := seg_cut hs hb h1
    have hst := RS.fval_to he hs hb h2 h1
    rw [h3]
    refine ⟨hst, Nat.le_add_right _ _, ?_⟩
    rw [RS.mv_at]
    have g1' : RS.seg bs ⟨s.at_, s.at_ + c.length, 0, 0⟩ = c ++ [] := by rw [List.append_nil]; exact g1
    unfold RS.fval
    cases h2 with
    | vi hv =>
      refine ⟨fun _ => ?_, fun h => by omega, fun h => by omega, fun h => by omega, fun h => by omega⟩
      rw [if_pos rfl, RS.varint_to he hv h1, RS.varint_to rfl hv g1']
    | f8 hl =>
      refine ⟨fun h => by omega, fun _ => ?_, fun h => by omega, fun h => by omega, fun h => by omega⟩
      rw [if_neg (by decide), if_pos rfl, RS.fixed_to he hs hb hl h1, RS.fixed_to rfl g2 hb hl g1']
    | @by_ _ _ x z hv =>
      refine ⟨fun h => by omega, fun h => by omega, fun h => by omega, fun _ => ?_, fun h => by omega⟩
      rw [if_neg (by decide), if_neg (by decide), if_neg (by decide), if_pos rfl]
      rw [List.append_assoc] at h1 g1'
      unfold RS.bytes
      rw [RS.span_to he hs hb hv h1, RS.span_to rfl g2 hb hv g1']
    | @gr _ _ x e hd hx hte =>
      refine ⟨fun h => by omega, fun h => by omega, fun h => by omega, fun h => by omega, fun _ => ?_⟩
      rw [if_neg (by decide), if_neg (by decide), if_neg (by decide), if_neg (by decide), if_pos rfl]
      rw [List.append_assoc] at h1
      have hl := RS.seg_len hs hb
      rw [h1] at hl
      simp only [List.length_append] at hl
      have := hs.1
      have := hs.2.1
      rw [RS.group_to he hs hb hd hx hte h1, RS.dep_to hd, grp_to hb _ m d s x e r hd he hs hx hte h1 (by omega)]
      exact ⟨rfl, by simp only; omega, by simp only; omega⟩
    | f4 hl =>
      refine ⟨fun h => by omega, fun h => by omega, fun _ => ?_, fun h => by omega, fun h => by omega⟩
      rw [if_neg (by decide), if_neg (by decide), if_pos rfl, RS.fixed_to he hs hb hl h1, RS.fixed_to rfl g2 hb hl g1']
end
theorem fval_dt {bs : List Int} {n : Nat} {s : RS} {m k d : Int} (hs : s.ok n) (hb : bs.length = n) (hby : Bytes bs) : (s.fval bs m k d).1.2.length ≤ n := by
  unfold RS.fval
  split
  · exact Nat.zero_le _
  split
  · exact Nat.zero_le _
  split
  · exact Nat.zero_le _
  split
  · exact RS.bytes_len hs hb hby
  split
  · exact RS.rest_len (RS.group_in hs hb hby).2.1
  · exact Nat.zero_le _
theorem flds_dt {bs : List Int} {n : Nat} (hb : bs.length = n) (hby : Bytes bs) {d : Int} : ∀ (f : Nat) (s : RS), s.ok n → ∀ x ∈ flds bs d f s, x.dt.length ≤ n
  | 0, _, _, x, h => by simp [flds] at h
  | f + 1, s, hs, x, h => by
    rw [flds] at h
    split at h
    · split at h
      · rcases List.mem_cons.1 h with rfl | h
        · exact fval_dt (RS.tag_on hs hb hby).1.1 hb hby
        · exact flds_dt hb hby f _ (RS.fld_on (d := d) hs hb hby).1.1 x h
      · simp at h
    · simp at h
theorem fldsL_dt {l : List Int} {d : Int} (hby : Bytes l) : ∀ x ∈ fldsL l d, x.dt.length ≤ l.length := flds_dt rfl hby _ ⟨0, l.length, 0, 0⟩ (ok0 l)
theorem flds_le {bs : List Int} {n : Nat} (hb : bs.length = n) (hby : Bytes bs) {d : Int} : ∀ (f : Nat) (s : RS), s.ok n → (flds bs d f s).length ≤ s.en - s.at_
  | 0, _, _ => by simp [flds]
  | f + 1, s, hs => by
    rw [flds]
    split
    · split
      · rename_i h1 h2
        obtain ⟨h3, h4⟩ := RS.fld_on (d := d) hs hb hby
        have := flds_le hb hby (d := d) f _ h3.1
        have := h4 h2
        have := h3.2.1
        have := h3.1.1
        simp only [List.length_cons]; omega
      · simp
    · simp
theorem fldsL_le {l : List Int} {d : Int} (hby : Bytes l) : (fldsL l d).length ≤ l.length := flds_le rfl hby _ ⟨0, l.length, 0, 0⟩ (ok0 l)
end Go.Sk
