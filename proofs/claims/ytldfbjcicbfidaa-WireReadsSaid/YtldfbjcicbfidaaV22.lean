/- Plain: what each call of a reader leaves as it was. -/
import Derived.Test.YtldfbjcicbfidaaV19
set_option linter.unusedVariables false
set_option linter.unusedSimpArgs false
namespace Go.Sk
variable {bs : List Int} {s : RS} {n : Nat}
/-- What must hold of a reader's new state. -/
def RS.nx (n : Nat) (s t : RS) : Prop := t.ok n ∧ (t.e = 0 → t.wh = 0 ∧ s.e = 0)
theorem RS.nx.of {t : RS} (h : t.ok n) (hk : RS.kp s t) (hz : s.e = 0 → s.wh = 0) : RS.nx n s t := ⟨h, fun he => let ⟨a, b, _⟩ := hk he; ⟨a.trans (hz b), b⟩⟩
theorem RS.nx.trans {t u : RS} (h : RS.nx n s t) (h' : RS.nx n t u) : RS.nx n s u := ⟨h'.1, fun he => ⟨(h'.2 he).1, (h.2 (h'.2 he).2).2⟩⟩
theorem RS.bytes_2 : (s.bytes bs).2 = (s.span bs).2 := by unfold RS.bytes; split <;> rfl
theorem RS.part_2 : (s.part bs).2 = (s.span bs).2 := by unfold RS.part; split <;> rfl
theorem RS.part_nx (hs : s.ok n) (hl : bs.length = n) (hb : Bytes bs) : (s.part bs).1.ok n ∧ ((s.part bs).1.e = 0 → (s.part bs).1.wh = 0 ∧ s.e = 0) := by
  have h1 := RS.span_in hs hl hb
  have h2 := (RS.span_on hs hl hb).1
  have h3 := RS.span_kp (bs := bs) (s := s)
  have h4 : (s.span bs).2.e = 0 → (s.span bs).1 ≠ none := fun h => by
    have hv := RS.varint_kp (bs := bs) (s := s)
    unfold RS.span at h ⊢
    split
    · rename_i h1
      rw [if_pos h1] at h
      split
      · rename_i h2; rw [if_pos h2] at h; exact absurd h (by simp)
      · simp
    · rename_i h1; rw [if_neg h1] at h; exact absurd h h1
  have h5 : (s.span bs).1 ≠ none → s.e = 0 := fun h => by
    refine (RS.varint_kp (bs := bs) (s := s) ?_).2.1
    unfold RS.span at h
    split at h
    · assumption
    · exact absurd rfl h
  unfold RS.part
  split
  · rename_i i j hij
    have := h1 i j hij
    exact ⟨⟨this.1, this.2, Nat.zero_le _⟩, fun _ => ⟨rfl, h5 (by rw [hij]; simp)⟩⟩
  · rename_i hn
    refine ⟨⟨Nat.le_refl _, h2.2.2, h2.2.2⟩, fun h => ?_⟩
    exact absurd hn (h4 h)
theorem RS.bad2_kp {m : Int} : RS.kp s (s.bad2 m) := by
  unfold RS.bad2
  split
  · exact RS.wrong_kp (by decide)
  · exact RS.kp.refl s
theorem RS.bad1_kp {m k : Int} : RS.kp s (s.bad1 m k) := by
  unfold RS.bad1
  split
  · exact RS.wrong_kp (by decide)
  split
  · exact RS.wrong_kp (by decide)
  · exact RS.kp.refl s
theorem RS.group_kp {m d : Int} : RS.kp s (s.group bs m d).2 := by
  have h1 := RS.bad2_kp (s := s) (m := m)
  have h2 := (RS.dep_kp (s := s.bad2 m) (d := d)).trans (grp_kp (bs := bs) (s.en - s.at_ + 1) m d ((s.bad2 m).dep d))
  unfold RS.group
  split
  · split
    · exact h1.trans h2
    · rename_i h; exact fun he => absurd he h
  · exact h1
theorem RS.group_1 {m d : Int} (h : (s.group bs m d).1.e = 0) : (s.group bs m d).1.wh = 0 ∧ s.e = 0 := by
  have h1 := RS.bad2_kp (s := s) (m := m)
  unfold RS.group at h ⊢
  split
  · rename_i hb
    rw [if_pos hb] at h
    split
    · exact ⟨rfl, (h1 hb).2.1⟩
    · rename_i h2; rw [if_neg h2] at h; exact absurd h h2
  · rename_i hb; rw [if_neg hb] at h; exact absurd h hb
theorem RS.skip_kp {m k d : Int} : RS.kp s (s.skip bs m k d).2 := by
  have h1 := RS.bad1_kp (s := s) (m := m) (k := k)
  have h2 : RS.kp s (s.skip1 bs m k d) := by
    unfold RS.skip1
    split
    · exact h1.trans RS.con_kp
    · exact h1
  unfold RS.skip
  split
  · exact h2
  · rename_i h; exact fun he => absurd he h
theorem RS.skip_len {m k d : Int} : (s.skip bs m k d).1.length ≤ bs.length := by
  unfold RS.skip
  split
  · simp only [List.length_take, List.length_drop]; omega
  · simp
theorem RS.wr_nx {e : Int} (hs : s.ok n) (hz : s.e = 0 → s.wh = 0) : RS.nx n s (if e = 0 then s else s.wrong e s.at_) := by
  have h1 := hs.1
  have h2 := hs.2.1
  split
  · exact RS.nx.of hs (RS.kp.refl s) hz
  · rename_i h
    exact RS.nx.of (RS.wrong_ok hs (by omega)).1 (RS.wrong_kp h) hz
theorem RS.bytes_bad (h : s.e ≠ 0) : s.bytes bs = ([], s) := by
  have h0 : s.varint bs = (0, s) := by unfold RS.varint; rw [if_neg h]
  have h1 : s.span bs = (none, s) := by unfold RS.span; rw [h0, if_neg h]
  unfold RS.bytes
  rw [h1]
theorem RS.nx.hw {t : RS} (h : RS.nx n s t) : (if t.e = 0 then (0 : Int) else (t.wh : Int)) = (t.wh : Int) := by
  split
  · rename_i h0; rw [(h.2 h0).1]; rfl
  · rfl
theorem RS.end_nx (hs : s.ok n) (hz : s.e = 0 → s.wh = 0) : RS.nx n s s.end_ := by
  have h1 := hs.1
  have h2 := hs.2.1
  unfold RS.end_
  split
  · exact RS.nx.of (RS.wrong_ok hs (by omega)).1 (RS.wrong_kp (by decide)) hz
  · exact RS.nx.of hs (RS.kp.refl s) hz
end Go.Sk
