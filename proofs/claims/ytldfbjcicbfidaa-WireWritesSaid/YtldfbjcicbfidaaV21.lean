/- Plain: what stays true of a writer. -/
import Derived.Test.YtldfbjcicbfidaaR7
set_option linter.unusedVariables false
set_option linter.unusedSimpArgs false
namespace Go.Proofs.Ytldfbjcicbfidaa
open Go.Sk
/-- The writer holds together; at most j parts are open. -/
def WK (S : WS) (j : Nat) : Prop := S.ok ∧ S.op.length ≤ j ∧ ∀ x ∈ S.op, 0 ≤ x ∧ x ≤ S.b.length
theorem WK.mono {S : WS} {j j' : Nat} (h : WK S j) (hj : j ≤ j') : WK S j' := ⟨h.1, Nat.le_trans h.2.1 hj, h.2.2⟩
theorem WK.err {S : WS} {j : Nat} (h : WK S j) (e : Int) : WK { S with e := e } j := ⟨h.1, h.2.1, h.2.2⟩
theorem WK.put {S : WS} {j : Nat} (h : WK S j) (l : List Int) : WK (S.put l) j := by
  have hok := WS.put_ok h.1 l
  unfold WS.put at *
  split
  · split
    · exact h.err 15
    · rename_i h1 h2
      rw [if_pos h1, if_neg h2] at hok
      refine ⟨hok, h.2.1, fun x hx => ?_⟩
      have := h.2.2 x hx
      simp only [List.length_append]
      omega
  · exact h
theorem WK.tag {S : WS} {j : Nat} (h : WK S j) (n k : Int) : WK (wsTag n k S) j := by
  unfold wsTag
  split
  · exact h.err 12
  · exact h.put _
theorem WK.opn {S : WS} {j : Nat} (h : WK S j) : WK (wsOpen S) (j + 1) := by
  unfold wsOpen
  split
  · refine ⟨h.1, by have := h.2.1; simp; omega, fun x hx => ?_⟩
    rcases List.mem_append.1 hx with hx | hx
    · exact h.2.2 x hx
    · simp only [List.mem_singleton] at hx
      subst hx
      simp only
      omega
  · exact h.mono (Nat.le_succ j)
theorem WK.shut {S : WS} {j : Nat} (h : WK S j) (x : Int) : WK (wsShut x S) j := by
  unfold wsShut
  split
  · exact h
  · split
    · rename_i h1 h2
      split
      · exact h.err 15
      · rename_i h3
        obtain ⟨⟨k0, k1, k2⟩, o1, o2⟩ := h
        have hx := o2 x (List.mem_of_getLast? h2)
        have hlen : (S.b.take x.toNat ++ enc ((S.b.length : Int) - x) ++ S.b.drop x.toNat).length = S.b.length + (enc ((S.b.length : Int) - x)).length := by simp; omega
        refine ⟨⟨k0, k1, by simp only; rw [hlen]; omega⟩, by simp only [List.length_dropLast]; omega, fun y hy => ?_⟩
        have := o2 y (List.dropLast_subset _ hy)
        simp only
        rw [hlen]
        omega
    · exact h.err 1
end Go.Proofs.Ytldfbjcicbfidaa
