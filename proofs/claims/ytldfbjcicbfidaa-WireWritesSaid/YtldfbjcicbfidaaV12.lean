/- Plain: where a reader's bytes with their length lie. -/
import Derived.Test.YtldfbjcicbfidaaV11
set_option linter.unusedVariables false
set_option linter.unusedSimpArgs false
namespace Go.Sk
theorem RS.span_in {bs : List Int} {n : Nat} {s : RS} (h : s.ok n) (hb : bs.length = n) (hby : Bytes bs) : ∀ i j, (s.span bs).1 = some (i, j) → i ≤ j ∧ j ≤ n := by
  intro i j hij
  obtain ⟨a, b, c, d, e, f⟩ := RS.varint_spec h hb hby
  have hd := d.1
  have h2 := a.2.1
  unfold RS.span at hij
  split at hij
  · split at hij
    · cases hij
    · simp only [Option.some.injEq, Prod.mk.injEq] at hij
      omega
  · cases hij
/-- The bytes with their length that a reader has ahead. -/
def RS.bytes (bs : List Int) (s : RS) : List Int × RS := match (s.span bs).1 with
  | some (i, j) => ((bs.drop i).take (j - i), (s.span bs).2)
  | none => ([], (s.span bs).2)
end Go.Sk
