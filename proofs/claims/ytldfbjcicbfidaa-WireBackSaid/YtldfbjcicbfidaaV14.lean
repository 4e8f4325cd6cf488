/- Plain: what a writer holds while a script runs over it. -/
import Derived.Test.YtldfbjcicbfidaaR14
set_option linter.unusedVariables false
set_option linter.unusedSimpArgs false
namespace Go.Proofs.Ytldfbjcicbfidaa
open Go.Sk
structure WInv (S : WS) (m : Nat) (l : List SO) (opn : List Int) : Prop where
  ok : S.ok
  opl : S.op.length ≤ m
  op : ∀ x ∈ S.op, 0 ≤ x ∧ x ≤ S.b.length
  by_ : Bytes S.b
  st : (S.e = 0 ∧ opn = S.op ∧ St l S.b S.op) ∨ S.e = 15
theorem Bytes.app {l l' : List Int} (h : Bytes l) (h' : Bytes l') : Bytes (l ++ l') := fun x hx => by
  rcases List.mem_append.1 hx with hx | hx
  · exact h x hx
  · exact h' x hx
theorem SO.bytes_by {o : SO} (hg : o.good) : Bytes o.bytes := by
  unfold SO.bytes
  split
  · exact enc_bytes hg.1
  · split
    · exact lo_bytes _ _
    · split
      · exact lo_bytes _ _
      · split
        · rename_i h
          have := hg.2.1 h
          exact enc_bytes ⟨by omega, by omega⟩
        · have h1 := hg.2.2.2.2
          exact Bytes.app (enc_bytes ⟨by omega, by omega⟩) hg.2.2.2.1
theorem WInv.mono {S : WS} {m m' : Nat} {l : List SO} {opn : List Int} (h : WInv S m l opn) (hm : m ≤ m') : WInv S m' l opn := ⟨h.ok, Nat.le_trans h.opl hm, h.op, h.by_, h.st⟩
theorem WInv.new : WInv ⟨[], 16777216, [], 0⟩ 0 [] [] := ⟨⟨by decide, by decide, by decide⟩, Nat.le_refl _, fun x hx => by simp at hx, fun x hx => by simp at hx, .inl ⟨rfl, rfl, .base .nil⟩⟩
theorem WInv.put {S : WS} {m : Nat} {l : List SO} {opn : List Int} {o : SO} (h : WInv S m l opn) (hs : o.simple) (hg : o.good) : WInv (S.put o.bytes) m (l ++ [o]) opn := by
  obtain ⟨h1, h2, h3, h4, h5⟩ := h
  have hok := WS.put_ok h1 o.bytes
  unfold WS.put at *
  split at hok
  · rename_i he
    rw [if_pos he]
    split at hok
    · rename_i hr
      rw [if_pos hr]
      exact ⟨hok, h2, h3, h4, .inr rfl⟩
    · rename_i hr
      rw [if_neg hr]
      refine ⟨hok, h2, fun x hx => ?_, Bytes.app h4 (SO.bytes_by hg), ?_⟩
      · have := h3 x hx
        simp only [List.length_append]
        omega
      · rcases h5 with ⟨_, e2, e3⟩ | e
        · exact .inl ⟨he, e2, e3.item hs hg⟩
        · omega
  · rename_i he
    rw [if_neg he]
    refine ⟨h1, h2, h3, h4, ?_⟩
    rcases h5 with ⟨e1, _⟩ | e
    · exact absurd e1 he
    · exact .inr e
theorem WInv.skip {S : WS} {m : Nat} {l l' : List SO} {opn opn' : List Int} (h : WInv S m l opn) (he : S.e ≠ 0) : WInv S m l' opn' := by
  obtain ⟨h1, h2, h3, h4, h5⟩ := h
  refine ⟨h1, h2, h3, h4, ?_⟩
  rcases h5 with ⟨e1, _⟩ | e
  · exact absurd e1 he
  · exact .inr e
theorem WInv.push {S : WS} {m : Nat} {l : List SO} {opn : List Int} {o : SO} (h : WInv S m l opn) (hk : o.kind = 7) : WInv (wsOpen S) (m + 1) (l ++ [o]) (opn ++ [if S.e = 0 then (S.b.length : Int) else 0]) := by
  unfold wsOpen
  by_cases he : S.e = 0
  · rw [if_pos he, if_pos he]
    obtain ⟨h1, h2, h3, h4, h5⟩ := h
    refine ⟨h1, by simp; omega, fun x hx => ?_, h4, ?_⟩
    · rcases List.mem_append.1 hx with hx | hx
      · exact h3 x hx
      · simp only [List.mem_singleton] at hx
        subst hx
        simp only
        omega
    · rcases h5 with ⟨_, e2, e3⟩ | e
      · subst e2
        exact .inl ⟨he, rfl, e3.push hk⟩
      · omega
  · rw [if_neg he]
    exact (h.skip he).mono (by omega)
theorem WInv.shut {S : WS} {m : Nat} {l : List SO} {opn : List Int} {o : SO} {x : Int} (h : WInv S m l (opn ++ [x])) (hk : o.kind = 8) : WInv (wsShut x S) m (l ++ [o]) opn := by
  by_cases he : S.e = 0
  · have h' := h
    obtain ⟨h1, h2, h3, h4, h5⟩ := h
    rcases h5 with ⟨_, e2, e3⟩ | e
    · rw [← e2] at e3
      obtain ⟨p, rfl, hp, hst⟩ := e3.shut hk
      have hl : S.op.getLast? = some (p : Int) := by rw [← e2]; simp
      unfold wsShut
      rw [if_neg (by simp [he]), if_pos hl]
      by_cases hr : S.limit - (S.b.length : Int) < (enc ((S.b.length : Int) - p)).length
      · rw [if_pos hr]
        exact ⟨h1, h2, h3, h4, .inr rfl⟩
      · rw [if_neg hr]
        simp only [Int.toNat_natCast]
        have hd : S.op.dropLast = opn := by rw [← e2]; simp
        have hb := h1.2.2
        have hlen : (S.b.take p ++ enc ((S.b.length : Int) - p) ++ S.b.drop p).length = S.b.length + (enc ((S.b.length : Int) - p)).length := by simp; omega
        refine ⟨⟨h1.1, h1.2.1, by simp only; rw [hlen]; omega⟩, ?_, fun y hy => ?_, ?_, .inl ⟨he, hd.symm, by simp only; rw [hd]; exact hst⟩⟩
        · simp only [hd]; rw [← e2, List.length_append] at h2; omega
        · simp only [hd] at hy
          have := h3 y (by rw [← e2]; simp [hy])
          simp only
          rw [hlen]
          omega
        · have hlim := h1.2.1
          exact Bytes.app (Bytes.app (h4.take _) (enc_bytes ⟨by omega, by omega⟩)) (h4.drop _)
    · omega
  · unfold wsShut
    rw [if_pos he]
    exact h.skip he
end Go.Proofs.Ytldfbjcicbfidaa
