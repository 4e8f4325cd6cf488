/- Plain: the numbers that a field may have. -/
import Derived.Test.YtdemnhdoadjhhaaGreatDoorD1
set_option linter.unusedVariables false
set_option linter.unusedSimpArgs false
namespace Go.Sk
def mayB (n : Int) : Bool := decide (1 ≤ n ∧ n ≤ 536870911 ∧ (n < 19000 ∨ 19999 < n))
def inS (s : SpanT) (x : Int) : Bool := decide (s.f ≤ x ∧ x ≤ s.t)
/-- The first span that holds a number: its place, from i on; -1. -/
def ixf (x : Int) : List SpanT → Nat → Int
  | [], _ => -1
  | s :: l, i => if inS s x = true then (i : Int) else ixf x l (i + 1)
theorem ixf_drop {x : Int} {l : List SpanT} {i : Nat} (h : i < l.length) : ixf x (l.drop i) i = if inS l[i] x = true then (i : Int) else ixf x (l.drop (i + 1)) (i + 1) := by
  rw [List.drop_eq_getElem_cons h]
  rfl
theorem ixf_none {x : Int} : ∀ {l : List SpanT} {i : Nat}, ixf x l i < 0 → l.any (fun s => inS s x) = false
  | [], _, _ => rfl
  | s :: l, i, h => by
    unfold ixf at h
    split at h
    · omega
    · rename_i hs
      rw [List.any_cons, ixf_none h]
      simpa using hs
theorem ixf_some {x : Int} : ∀ {l : List SpanT} {i : Nat}, 0 ≤ ixf x l i → ∃ (j : Nat) (s : SpanT), l[j]? = some s ∧ ixf x l i = ((i + j : Nat) : Int) ∧ inS s x = true
  | [], _, h => by unfold ixf at h; omega
  | s :: l, i, h => by
    unfold ixf at h ⊢
    split at h
    · rename_i hs
      exact ⟨0, s, rfl, by rw [if_pos hs]; rfl, hs⟩
    · rename_i hs
      obtain ⟨j, s', h1, h2, h3⟩ := ixf_some h
      exact ⟨j + 1, s', by simpa using h1, by rw [if_neg hs, h2]; congr 1; omega, h3⟩
/-- May a field more have it? -/
def good (res : List SpanT) (nums : List Int) (x : Int) : Bool := mayB x && !(res.any fun s => inS s x) && !(decide (x ∈ nums))
def goods (res : List SpanT) (nums : List Int) (k : Nat) : List Int := ((List.range k).map Int.ofNat).filter (good res nums)
section
variable {res : List SpanT} {nums : List Int} {k t : Nat}
theorem goods_succ : goods res nums (k + 1) = goods res nums k ++ if good res nums (k : Int) = true then [(k : Int)] else [] := by
  unfold goods
  rw [List.range_succ, List.map_append, List.filter_append]
  congr 1
  simp only [List.map_cons, List.map_nil, List.filter_cons, List.filter_nil]
  rfl
theorem goods_pre (h : k ≤ t) : ∃ m, goods res nums t = goods res nums k ++ m := by
  induction t with
  | zero => rw [Nat.le_zero.1 h]; exact ⟨[], by simp⟩
  | succ t ih =>
    rcases Nat.lt_or_ge t k with hlt | hge
    · rw [show k = t + 1 by omega]; exact ⟨[], by simp⟩
    · obtain ⟨m, hm⟩ := ih hge
      exact ⟨_, by rw [goods_succ, hm, List.append_assoc]⟩
theorem goods_jump (h : k ≤ t) (hg : ∀ x : Nat, k ≤ x → x < t → good res nums (x : Int) = false) : goods res nums t = goods res nums k := by
  induction t with
  | zero => rw [Nat.le_zero.1 h]
  | succ t ih =>
    rcases Nat.lt_or_ge t k with hlt | hge
    · rw [show k = t + 1 by omega]
    · rw [goods_succ, ih hge fun x h1 h2 => hg x h1 (by omega), hg t hge (by omega)]
      simp
theorem good_big {x : Int} (h : 536870912 ≤ x) : good res nums x = false := by
  unfold good mayB
  rw [show decide (1 ≤ x ∧ x ≤ 536870911 ∧ (x < 19000 ∨ 19999 < x)) = false from by refine decide_eq_false ?_; omega]
  rfl
theorem goods_end (h : 536870912 ≤ k) : goods res nums k = goods res nums 536870912 := goods_jump h fun x h1 _ => good_big (by omega)
/-- In a span that holds the number nothing is free from it on. -/
theorem goods_span {s : SpanT} (hs : s ∈ res) (h : inS s (k : Int) = true) (ht : (t : Int) = s.t) : goods res nums (t + 1) = goods res nums k := by
  unfold inS at h
  have h' := of_decide_eq_true h
  refine goods_jump (by omega) fun x h1 h2 => ?_
  unfold good
  have : (res.any fun s => inS s (x : Int)) = true := List.any_eq_true.2 ⟨s, hs, by unfold inS; refine decide_eq_true ?_; omega⟩
  rw [this]
  simp
theorem goods_one : goods res nums 1 = [] := by
  rw [show (1 : Nat) = 0 + 1 from rfl, goods_succ]
  rfl
/-- So many. -/
def many (n : Int) : Nat := (min (max n 0) 1000).toNat
/-- The least numbers that a field could have. -/
def freeL (res : List SpanT) (nums : List Int) (n : Int) : List Int := (goods res nums 536870912).take (many n)
theorem free_stop {n : Int} (hk : 536870912 ≤ k ∨ many n ≤ (goods res nums k).length) (hl : (goods res nums k).length ≤ many n) : goods res nums k = freeL res nums n := by
  unfold freeL
  rcases hk with hk | hk
  · rw [← goods_end hk, List.take_of_length_le hl]
  · rcases Nat.lt_or_ge k 536870912 with h | h
    · obtain ⟨m, hm⟩ := goods_pre (res := res) (nums := nums) (Nat.le_of_lt h)
      rw [hm, List.take_left' (by omega)]
    · rw [← goods_end h, List.take_of_length_le hl]
end
end Go.Sk
