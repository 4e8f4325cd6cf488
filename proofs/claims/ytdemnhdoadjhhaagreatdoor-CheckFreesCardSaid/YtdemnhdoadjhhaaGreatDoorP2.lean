/- Plain: the next number that may be free. -/
import Derived.Test.YtdemnhdoadjhhaaGreatDoorP1
set_option linter.unusedVariables false
set_option linter.unusedSimpArgs false
namespace Go.Sk
section
variable {res : List SpanT} {nums : List Int} {k i nx : Nat}
theorem good_span {s : SpanT} {x : Int} (hs : s ∈ res) (h : inS s x = true) : good res nums x = false := by
  unfold good
  have : (res.any fun s => inS s x) = true := List.any_eq_true.2 ⟨s, hs, h⟩
  rw [this]
  simp
theorem good_may {x : Int} (h : mayB x = false) : good res nums x = false := by
  unfold good
  rw [h]
  rfl
theorem good_num {x : Int} (h : x ∈ nums) : good res nums x = false := by
  unfold good
  rw [decide_eq_true h]
  simp
structure NxA (res : List SpanT) (nums : List Int) (k i nx : Nat) : Prop where
  lo : k ≤ nx
  hi : nx ≤ 2147483648
  no : ∀ x : Nat, k ≤ x → x < nx → good res nums (x : Int) = false
  eq : nx = k → mayB (k : Int) = true ∧ ∀ s ∈ res.take i, inS s (k : Int) = false
theorem NxA.far (h1 : 19000 ≤ k) (h2 : k ≤ 19999) : NxA res nums k 0 20000 :=
  ⟨by omega, by omega, fun x h3 h4 => good_may (by unfold mayB; refine decide_eq_false ?_; omega), fun h => by omega⟩
theorem NxA.near (h0 : 1 ≤ k) (h1 : k ≤ 536870911) (h2 : ¬ (19000 ≤ k ∧ k ≤ 19999)) : NxA res nums k 0 k :=
  ⟨Nat.le_refl _, by omega, fun x h3 h4 => by omega, fun _ => ⟨by unfold mayB; refine decide_eq_true ?_; omega, fun s hs => by simp at hs⟩⟩
theorem NxA.hit {s : SpanT} (h : NxA res nums k i nx) (hs : res[i]? = some s) (h1 : s.f ≤ k) (h2 : (k : Int) ≤ s.t) (h3 : s.t ≤ 2147483647) {nx' : Nat} (hn : (nx' : Int) = if (nx : Int) < s.t + 1 then s.t + 1 else nx) : NxA res nums k (i + 1) nx' := by
  have := h.lo
  have hi := h.hi
  have e : (nx' : Int) = max (nx : Int) (s.t + 1) := by rw [hn]; split <;> omega
  refine ⟨by omega, by omega, fun x h4 h5 => ?_, fun h4 => by omega⟩
  by_cases hx : x < nx
  · exact h.no x h4 hx
  · exact good_span (List.mem_of_getElem? hs) (by unfold inS; refine decide_eq_true ?_; omega)
theorem NxA.miss {s : SpanT} (h : NxA res nums k i nx) (hs : res[i]? = some s) (h1 : ¬ (s.f ≤ k ∧ (k : Int) ≤ s.t)) : NxA res nums k (i + 1) nx :=
  ⟨h.lo, h.hi, h.no, fun e => ⟨(h.eq e).1, fun y hy => by
    rw [List.take_add_one, hs, List.mem_append] at hy
    rcases hy with hy | hy
    · exact (h.eq e).2 y hy
    · simp only [Option.toList_some, List.mem_singleton] at hy
      subst hy
      unfold inS
      exact decide_eq_false h1⟩⟩
structure NxB (res : List SpanT) (nums : List Int) (k i nx : Nat) : Prop where
  lo : k ≤ nx
  hi : nx ≤ 2147483648
  no : ∀ x : Nat, k ≤ x → x < nx → good res nums (x : Int) = false
  eq : nx = k → mayB (k : Int) = true ∧ (∀ s ∈ res, inS s (k : Int) = false) ∧ ∀ y ∈ nums.take i, y ≠ k
theorem NxA.to (h : NxA res nums k i nx) (hi : res.length ≤ i) : NxB res nums k 0 nx :=
  ⟨h.lo, h.hi, h.no, fun e => ⟨(h.eq e).1, fun s hs => (h.eq e).2 s (by rw [List.take_of_length_le hi]; exact hs), fun y hy => by simp at hy⟩⟩
theorem NxB.hit (h : NxB res nums k i nx) (hk : k ≤ 536870911) (hs : nums[i]? = some (k : Int)) {nx' : Nat} (hn : (nx' : Int) = if (nx : Int) < (k : Int) + 1 then (k : Int) + 1 else nx) : NxB res nums k (i + 1) nx' := by
  have := h.lo
  have hi := h.hi
  have e : (nx' : Int) = max (nx : Int) ((k : Int) + 1) := by rw [hn]; split <;> omega
  refine ⟨by omega, by omega, fun x h4 h5 => ?_, fun h4 => by omega⟩
  by_cases hx : x < nx
  · exact h.no x h4 hx
  · have : x = k := by omega
    subst this
    exact good_num (List.mem_of_getElem? hs)
theorem NxB.miss {x : Int} (h : NxB res nums k i nx) (hs : nums[i]? = some x) (h1 : x ≠ k) : NxB res nums k (i + 1) nx :=
  ⟨h.lo, h.hi, h.no, fun e => ⟨(h.eq e).1, (h.eq e).2.1, fun y hy => by
    rw [List.take_add_one, hs, List.mem_append] at hy
    rcases hy with hy | hy
    · exact (h.eq e).2.2 y hy
    · simp only [Option.toList_some, List.mem_singleton] at hy
      subst hy
      exact h1⟩⟩
theorem NxB.skip (h : NxB res nums k i nx) : goods res nums nx = goods res nums k := goods_jump h.lo h.no
theorem NxB.take (h : NxB res nums k i nx) (hi : nums.length ≤ i) (e : nx = k) : goods res nums (k + 1) = goods res nums k ++ [(k : Int)] := by
  obtain ⟨h1, h2, h3⟩ := h.eq e
  rw [List.take_of_length_le hi] at h3
  rw [goods_succ]
  have : good res nums (k : Int) = true := by
    unfold good
    have h4 : (res.any fun s => inS s (k : Int)) = false := by
      rw [List.any_eq_false]
      intro s hs
      rw [h2 s hs]
      decide
    rw [h1, h4, decide_eq_false fun hm => h3 _ hm rfl]
    rfl
  rw [if_pos this]
end
end Go.Sk
