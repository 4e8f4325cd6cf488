/- Arguments that hold memory, as slices that are only read. Plain theorems, no condition. -/
import Derived.Test.YtdemnhdoadjhhaaGreatDoorK2
set_option linter.unusedVariables false
set_option linter.unusedSimpArgs false
namespace Go.Sk
open Go.ChangeShapes Go.WideShapes Go.ChangeAt Go.RowKit
section
variable {H : Type} {enc : TypeId × Value → H} {P : Program} {W : World} {sp : Nat → Bool}
theorem Sat.cellOld {w : World} {Hs : List HP} (h : Sat W Hs w) {a : Addr} {v : Value} (hc : W.cell? a = some v) : w.cell? a = some v := by
  have hb : a.block < W.heap.size := World.block_lt_of_cell? W a hc
  unfold World.cell? at hc ⊢
  rw [h.base _ hb]
  exact hc
theorem getElem?_flat {z : Nat} : ∀ (es : List (List Value)), (∀ c ∈ es, c.length = z) → ∀ (j : Nat) (u : Value), es.flatten[j]? = some u → ∃ i c r, es[i]? = some c ∧ r < z ∧ j = i * z + r ∧ c[r]? = some u
  | [], _, j, u, h => by simp at h
  | c :: es, hz, j, u, h => by
    have hcz := hz c (by simp)
    rw [List.flatten_cons] at h
    by_cases hj : j < c.length
    · rw [List.getElem?_append_left hj] at h
      exact ⟨0, c, j, rfl, by omega, by omega, h⟩
    · rw [List.getElem?_append_right (by omega)] at h
      obtain ⟨i, c', r, h1, h2, h3, h4⟩ := getElem?_flat es (fun c hc => hz c (by simp [hc])) _ u h
      refine ⟨i + 1, c', r, by simpa using h1, h2, ?_, h4⟩
      rw [Nat.add_mul, Nat.one_mul]
      omega
/-- A slice argument: its elements' cells, each read as the element's type. -/
theorem read_slice {t e : TypeId} {cs : List Value} {x : DataW H × List MemPlace} {fuel : Nat} (ht : P.underlying t = some (.slice e)) (hz : 0 < P.cellsOf e) (h : DataW.trod enc P W 0 sp true fuel t cs = some x) :
    ∃ (a : Option Addr) (n c : Nat) (es : List (List Value)), cs = [.slice a n c] ∧ n ≤ c ∧ c ≤ maxLen ∧ es.length = n ∧ (∀ ce ∈ es, ce.length = P.cellsOf e ∧ ∃ m y, DataW.trod enc P W 0 sp true m e ce = some y) ∧ ∀ Hs, Rd W Hs a n c (P.cellsOf e) es.flatten := by
  rcases DataW.trod_slice ht h with ⟨rfl, _⟩ | ⟨a, n, c, elems, rest, m, _, rfl, _, _, hnc, hcm, hel, hget, _, _⟩
  · exact ⟨none, 0, 0, [], rfl, Nat.le_refl _, Nat.zero_le _, rfl, fun _ h => absurd h (by simp), fun _ => Rd.none_⟩
  · have hcells : ∀ i, i < n → ∃ ce, W.cells? 0 (a.add (i * P.cellsOf e)) (P.cellsOf e) = some ce ∧ ∃ y, DataW.trod enc P W 0 sp true m e ce = some y := fun i hi => by
      have h1 := hget i hi
      rw [List.getElem?_eq_getElem (by omega), Option.bind_eq_some_iff] at h1
      obtain ⟨ce, h2, h3⟩ := h1
      exact ⟨ce, h2, _, h3⟩
    let f : Nat → List Value := fun i => (W.cells? 0 (a.add (i * P.cellsOf e)) (P.cellsOf e)).getD []
    have hf : ∀ i, i < n → W.cells? 0 (a.add (i * P.cellsOf e)) (P.cellsOf e) = some (f i) ∧ ∃ y, DataW.trod enc P W 0 sp true m e (f i) = some y := fun i hi => by
      obtain ⟨ce, h1, h2⟩ := hcells i hi
      simp only [f, h1, Option.getD_some]
      exact ⟨trivial, h2⟩
    have hlen : ∀ ce ∈ (List.range n).map f, ce.length = P.cellsOf e := fun ce hce => by
      obtain ⟨i, hi, rfl⟩ := List.mem_map.1 hce
      exact (World.cells?_some (hf i (List.mem_range.1 hi)).1).2.1
    refine ⟨some a, n, c, (List.range n).map f, rfl, hnc, hcm, by simp, fun ce hce => ⟨hlen ce hce, ?_⟩, fun Hs => ⟨?_, hnc, fun w hS => ⟨fun _ => rfl, fun j u hj => ?_⟩⟩⟩
    · obtain ⟨i, hi, rfl⟩ := List.mem_map.1 hce
      exact ⟨m, (hf i (List.mem_range.1 hi)).2⟩
    · rw [List.length_flatten, List.map_map]
      have : (List.range n).map (List.length ∘ f) = List.replicate n (P.cellsOf e) := by
        apply List.ext_getElem
        · simp
        · intro i h1 h2
          simp only [List.getElem_map, List.getElem_range, Function.comp, List.getElem_replicate]
          exact hlen _ (List.mem_map.2 ⟨i, List.mem_range.2 (by simpa using h1), rfl⟩)
      rw [this, List.sum_replicate_nat]
    · obtain ⟨i, ce, r, h1, h2, h3, h4⟩ := getElem?_flat _ hlen j u hj
      have hi : i < n := by have := (List.getElem?_eq_some_iff.1 h1).1; simpa using this
      have hce : ce = f i := by
        rw [List.getElem?_map, List.getElem?_range hi] at h1
        simpa using h1.symm
      subst hce
      have hcell := (World.cells?_some (hf i hi).1).2.2 r h2
      rw [h4] at hcell
      rw [adr, Option.getD_some, h3]
      refine hS.cellOld ?_
      rw [addr_addadd] at hcell
      exact hcell
/-- A list of integers. -/
theorem read_ints {t e : TypeId} {k : IntKind} {cs : List Value} {x : DataW H × List MemPlace} {fuel : Nat} (ht : P.underlying t = some (.slice e)) (he : P.underlying e = some (.int k)) (hz : P.cellsOf e = 1) (h : DataW.trod enc P W 0 sp true fuel t cs = some x) :
    ∃ (a : Option Addr) (n c : Nat) (l : List Int), cs = [.slice a n c] ∧ n ≤ c ∧ c ≤ maxLen ∧ l.length = n ∧ (∀ y ∈ l, (Lit.int k y).wf = true) ∧ ∀ Hs, Rd W Hs a n c 1 (ints k l) := by
  obtain ⟨a, n, c, es, h1, h2, h3, h4, h5, h6⟩ := read_slice ht (by omega) h
  have hl : ∃ l : List Int, es.flatten = ints k l ∧ l.length = es.length ∧ ∀ y ∈ l, (Lit.int k y).wf = true := by
    clear h1 h4 h6
    induction es with
    | nil => exact ⟨[], rfl, rfl, fun _ h => absurd h (by simp)⟩
    | cons ce es ih =>
      obtain ⟨l, e1, e2, e3⟩ := ih (fun c hc => h5 c (by simp [hc]))
      obtain ⟨_, m, y, hy⟩ := h5 ce (by simp)
      obtain ⟨q, rfl, _, hq⟩ := DataW.trod_int he hy
      refine ⟨q :: l, ?_, by simp [e2], fun y hy => ?_⟩
      · rw [List.flatten_cons, e1]; rfl
      · rcases List.mem_cons.1 hy with rfl | hy
        · exact hq
        · exact e3 y hy
  obtain ⟨l, e1, e2, e3⟩ := hl
  refine ⟨a, n, c, l, h1, h2, h3, by omega, e3, fun Hs => ?_⟩
  have := h6 Hs
  rw [hz, e1] at this
  exact this
end
end Go.Sk
