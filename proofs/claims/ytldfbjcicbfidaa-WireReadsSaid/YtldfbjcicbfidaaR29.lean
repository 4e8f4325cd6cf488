/- Walks: the book of unknown rows. -/
import Derived.Test.YtldfbjcicbfidaaR23
set_option linter.unusedVariables false
set_option linter.unusedSimpArgs false
namespace Go.Proofs.Ytldfbjcicbfidaa
open Go.Sk
set_option maxRecDepth 100000
section
variable {B : World} {R : List HP}
/-- The book: it holds m rows, whichever. -/
def BkS (p m : Nat) : HP := Ex fun es : List EB => [Pu (es.length = m ∧ ∀ e ∈ es, e.n ≤ 1000000000000), BkB p es]
theorem bookS_fn {p n c m : Nat} {a : Option Addr} {l : List Int} (hk : m ≤ 1000000000000) (hn : n ≤ 1000000000000) :
    Sp B Try.prog 55 [ptr p, .slice a n c] R [own8 a c l n, BkS p m] (fun v H' => v = .tuple #[] ∧ H' = [BkS p (m + 1)]) := by
  intro w h
  have h1 : Sat B (BkS p m :: own8 a c l n :: R) w := h.frd (Ps := [_, _]) (Qs := []) (by (repeat (first|exact Fr.nil|(apply Fr.cons;focus ((repeat constructor);done)))))
  obtain ⟨es, h2⟩ := Sat.ex_out h1
  have h3 : Sat B (Pu (es.length = m ∧ ∀ e ∈ es, e.n ≤ 1000000000000) :: BkB p es :: own8 a c l n :: R) w := h2
  obtain ⟨e1, e2⟩ := h3.pu_out
  refine (bookBytes_fn (p := p) (l := l) (es := es) (by omega) w (h3.tail.frd (Ps := [own8 a c l n, BkB p es]) (Qs := []) (by (repeat (first|exact Fr.nil|(apply Fr.cons;focus ((repeat constructor);done))))))).mono ?_
  rintro e w' ⟨v, H', rfl, ⟨rfl, rfl⟩, h4⟩
  refine ⟨_, _, rfl, ⟨rfl, rfl⟩, ?_⟩
  refine Sat.ex_in (es ++ [⟨a, n, c, l⟩]) (Sat.pu_in ⟨by simp [e1], fun e he => ?_⟩ h4)
  rcases List.mem_append.1 he with he | he
  · exact e2 e he
  · simp only [List.mem_singleton] at he
    subst he
    exact hn
theorem ownS_fn {p m : Nat} (hk : m ≤ 1000000000000) : Sp B Try.prog 32 [ptr p] R [BkS p m] (fun v H' => v = .bool true ∧ H' = []) := by
  intro w h
  obtain ⟨es, h2⟩ := Sat.ex_out h
  have h3 : Sat B (Pu (es.length = m ∧ ∀ e ∈ es, e.n ≤ 1000000000000) :: BkB p es :: R) w := h2
  obtain ⟨e1, e2⟩ := h3.pu_out
  exact own_fn (p := p) (es := es) (by omega) e2 w h3.tail
theorem newBook {p : Nat} {w : World} {H : List HP} (h : Sat B (Cs p 73 (List.replicate 23 (.slice none 0 0)) :: H) w) : Sat B (BkS p 0 :: H) w :=
  Sat.ex_in [] (Sat.pu_in ⟨rfl, fun e he => by simp at he⟩ (Sat.ex_in (none, 0) ((Sat.nilOwn (e := 28) (sz := 1) (Bag.nil_ h)).frd (Ps := [_, _, _]) (Qs := []) (by (repeat (first|exact Fr.nil|(apply Fr.cons;focus ((repeat constructor);done))))))))
end
end Go.Proofs.Ytldfbjcicbfidaa
