/- Plain: a reader that is not wrong has not turned the place of an error. -/
import Derived.Test.YtldfbjcicbfidaaV18
set_option linter.unusedVariables false
set_option linter.unusedSimpArgs false
namespace Go.Sk
def RS.kp (s t : RS) : Prop := t.e = 0 → t.wh = s.wh ∧ s.e = 0 ∧ t.en = s.en
theorem RS.kp.refl (s : RS) : RS.kp s s := fun h => ⟨rfl, h, rfl⟩
theorem RS.kp.trans {s t u : RS} (h : RS.kp s t) (h' : RS.kp t u) : RS.kp s u := fun he =>
  let ⟨a, b, c⟩ := h' he
  let ⟨a', b', c'⟩ := h b
  ⟨a.trans a', b', c.trans c'⟩
variable {bs : List Int} {s : RS}
theorem RS.wrong_kp {e : Int} {a : Nat} (he : e ≠ 0) : RS.kp s (s.wrong e a) := fun h => absurd h (RS.wrong_e he)
theorem RS.varint_kp : RS.kp s (s.varint bs).2 := by
  intro h
  unfold RS.varint at h ⊢
  split
  · rename_i h0
    rw [if_pos h0] at h
    split
    · exact ⟨rfl, h0, rfl⟩
    · rename_i h1; rw [h1] at h; exact absurd h (by simp)
    · rename_i h1; rw [h1] at h; exact absurd h (by simp)
  · rename_i h0; rw [if_neg h0] at h; exact absurd h h0
theorem RS.fixed_kp {w : Nat} : RS.kp s (s.fixed w bs).2 := by
  intro h
  unfold RS.fixed at h ⊢
  split
  · rename_i h0
    rw [if_pos h0] at h
    split
    · rename_i h1; rw [if_pos h1] at h; exact absurd h (RS.wrong_e (by decide))
    · exact ⟨rfl, h0, rfl⟩
  · rename_i h0; rw [if_neg h0] at h; exact absurd h h0
theorem RS.tag_kp : RS.kp s (s.tag bs).2 := by
  intro h
  have hv := RS.varint_kp (bs := bs) (s := s)
  unfold RS.tag at h ⊢
  split
  · rename_i h1
    rw [if_pos h1] at h
    split
    · rename_i h2; rw [if_pos h2] at h; exact absurd h (by simp)
    · exact hv h1
  · rename_i h1; rw [if_neg h1] at h; exact absurd h h1
theorem RS.tag_k5 : (s.tag bs).1.2 ≤ 5 := by
  unfold RS.tag
  split
  · split
    · simp
    · rename_i h; simp only; omega
  · simp
theorem RS.span_kp : RS.kp s (s.span bs).2 := by
  intro h
  have hv := RS.varint_kp (bs := bs) (s := s)
  unfold RS.span at h ⊢
  split
  · rename_i h1
    rw [if_pos h1] at h
    split
    · rename_i h2; rw [if_pos h2] at h; exact absurd h (by simp)
    · exact hv h1
  · rename_i h1; rw [if_neg h1] at h; exact absurd h h1
theorem RS.simple_kp {k : Int} : RS.kp s (s.simple bs k) := by
  unfold RS.simple
  split
  · exact RS.varint_kp
  split
  · exact RS.fixed_kp
  split
  · exact RS.span_kp
  split
  · exact RS.fixed_kp
  · exact RS.kp.refl s
theorem RS.dep_kp {d : Int} : RS.kp s (s.dep d) := by
  unfold RS.dep
  split
  · exact RS.wrong_kp (by decide)
  · exact RS.kp.refl s
theorem grp_kp : ∀ (f : Nat) (num d : Int) (s : RS), RS.kp s (grp bs f num d s).2
  | 0, _, _, s => RS.kp.refl s
  | f + 1, num, d, s => by
    by_cases he : s.e = 0
    · rw [grp_succ he]
      split
      · split
        · split
          · exact RS.tag_kp
          · exact RS.tag_kp.trans (RS.wrong_kp (by decide))
        · refine (RS.tag_kp (bs := bs)).trans (RS.kp.trans ?_ (grp_kp f num d _))
          split
          · exact RS.dep_kp.trans (grp_kp f _ _ _)
          · exact RS.simple_kp
      · exact RS.tag_kp
    · rw [grp_bad he]; exact RS.kp.refl s
theorem RS.con_kp {f : Nat} {num k d : Int} : RS.kp s (s.con bs f num k d) := by
  unfold RS.con
  split
  · exact RS.dep_kp.trans (grp_kp f _ _ _)
  · exact RS.simple_kp
/-- So it is known by its place alone. -/
theorem RS.kp.eq {at_ en : Nat} {t : RS} (h : RS.kp ⟨at_, en, 0, 0⟩ t) (he : t.e = 0) : t = ⟨t.at_, en, 0, 0⟩ := by
  obtain ⟨h1, _, h3⟩ := h he
  cases t
  simp_all
end Go.Sk
