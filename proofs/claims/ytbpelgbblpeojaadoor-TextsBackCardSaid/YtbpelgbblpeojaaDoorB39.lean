/- Words of JSONQuote. -/
import Derived.Test.YtbpelgbblpeojaaDoorB36
import Derived.Test.YtbpelgbblpeojaaDoorD1
set_option linter.unusedVariables false
set_option linter.unusedSimpArgs false
namespace Go.Proofs.YtbpelgbblpeojaaDoor
open Go.Sk
set_option maxRecDepth 100000
def jsh (c : Int) : Int := if c = 8 then 98 else if c = 12 then 102 else shV c
def hx16 : List Int := [48, 49, 50, 51, 52, 53, 54, 55, 56, 57, 97, 98, 99, 100, 101, 102]
def hexD (n : Int) : Int := hx16.getD n.toNat 0
theorem hx16_byt : Byt hx16 := by decide
theorem hexD_byt {n : Int} (h0 : 0 ≤ n) (h1 : n < 16) : isB (hexD n) := hx16_byt.get (i := n.toNat) (by show n.toNat < 16; omega)
def jqC (l : List Int) (i : Nat) : List Int := if BadA l i then [239, 191, 189] else if jsh (l.getD i 0) ≠ 0 then [92, jsh (l.getD i 0)] else if l.getD i 0 < 32 ∨ l.getD i 0 = 127 then [92, 117, 48, 48, hexD (l.getD i 0 / 16), hexD (l.getD i 0 % 16)] else cutA l i
def jqF (l : List Int) : Nat → Nat → List Int → List Int
  | 0, _, acc => acc ++ [34]
  | f + 1, i, acc => if i < l.length then jqF l f (i + (Utf8.decode (str l) i).2) (acc ++ jqC l i) else acc ++ [34]
def jquoteL (l : List Int) : List Int := jqF l l.length 0 [34]
theorem jsh_b (c : Int) : 0 ≤ jsh c ∧ jsh c < 256 := by unfold jsh shV; repeat' split; all_goals omega
theorem jqC_ok {l : List Int} (hb : Byt l) {i : Nat} (hi : i < l.length) : (jqC l i).length ≤ 6 * (Utf8.decode (str l) i).2 ∧ Byt (jqC l i) := by
  have hp := dec_pos (str l) i
  have hc := cutA_len l i
  obtain ⟨c0, c1⟩ := hb.get hi
  obtain ⟨s0, s1⟩ := jsh_b (l.getD i 0)
  unfold jqC
  split
  · exact ⟨by simp only [List.length_cons, List.length_nil]; omega, by decide⟩
  · split
    · exact ⟨by simp only [List.length_cons, List.length_nil]; omega, Byt.cons ⟨by omega, by omega⟩ (Byt.one ⟨s0, s1⟩)⟩
    · split
      · exact ⟨by simp only [List.length_cons, List.length_nil]; omega, Byt.cons (by decide) (Byt.cons (by decide) (Byt.cons (by decide) (Byt.cons (by decide) (Byt.cons (hexD_byt (by omega) (by omega)) (Byt.one (hexD_byt (by omega) (by omega)))))))⟩
      · exact ⟨by omega, cutA_byt hb i⟩
def JqI (l : List Int) (i : Nat) (acc : List Int) : Prop := ∃ f, jqF l f i acc = jquoteL l ∧ l.length ≤ i + f ∧ i ≤ l.length ∧ Byt acc ∧ acc.length ≤ 6 * i + 1
theorem JqI.z {l : List Int} : JqI l 0 [34] := ⟨_, rfl, by omega, Nat.zero_le _, by decide, by simp⟩
theorem JqI.end_ {l : List Int} {i : Nat} {acc : List Int} (h : JqI l i acc) (hi : ¬ i < l.length) : jquoteL l = acc ++ [34] := by
  obtain ⟨f, h1, _⟩ := h
  rw [← h1]
  cases f with
  | zero => rfl
  | succ f => rw [jqF, if_neg hi]
theorem JqI.go {l : List Int} (hb : Byt l) {i : Nat} {acc : List Int} (h : JqI l i acc) (hi : i < l.length) : JqI l (i + (Utf8.decode (str l) i).2) (acc ++ jqC l i) := by
  obtain ⟨f, h1, h2, h3, h4, h5⟩ := h
  obtain ⟨q1, q2⟩ := jqC_ok hb hi
  have hp := dec_pos (str l) i
  have hle : i + (Utf8.decode (str l) i).2 ≤ l.length := by
    by_cases hbd : BadA l i
    · rw [hbd.2]; omega
    · exact ((size_law hb i hi).2 hbd).2
  cases f with
  | zero => omega
  | succ f =>
    rw [jqF, if_pos hi] at h1
    exact ⟨f, h1, by omega, hle, h4.app q2, by rw [List.length_append]; omega⟩
end Go.Proofs.YtbpelgbblpeojaaDoor
