/- The library's two tables of utf8 in the reckoning. Plain theorems, no condition. -/
import Derived.Test.YtlamhjlijoampaaGreatDoorXs21
import Derived.Lib.LaidU8
set_option linter.unusedVariables false
set_option linter.unusedSimpArgs false
namespace Go.Xs
open Go.RowKit

theorem cell_kept {B w : World} {a : Addr} {v : Value} (hw : ∀ (b : Nat) (o : Obj), B.heap[b]? = some o → w.heap[b]? = some o) (h : B.cell? a = some v) : w.cell? a = some v := by
  unfold World.cell? at h ⊢
  cases hb : B.heap[a.block]? with
  | none => simp [hb] at h
  | some o =>
    rw [hw _ _ hb]
    rw [hb] at h
    exact h
def tabU (a b g : Nat) : Option (List Value) := bif Nat.beq g a then some (Lib.firstTab.map fun z => Value.int .u8 z) else bif Nat.beq g b then some ((List.range 16).flatMap fun i => [Value.int .u8 (Lib.accLo i), Value.int .u8 (Lib.accHi i)]) else none
theorem acc_get {α : Type} (f g : Nat → α) : ∀ (n k j : Nat) (v : α), (((List.range' k n).flatMap fun i => [f i, g i])[j]? = some v) → ∃ i, i < n ∧ ((j = 2 * i ∧ v = f (k + i)) ∨ (j = 2 * i + 1 ∧ v = g (k + i)))
  | 0, k, j, v, h => by simp at h
  | n + 1, k, j, v, h => by
    rw [List.range'_succ, List.flatMap_cons] at h
    match j, h with
    | 0, h => simp only [List.cons_append, List.getElem?_cons_zero, Option.some.injEq] at h; exact ⟨0, by omega, .inl ⟨rfl, by simp [h]⟩⟩
    | 1, h => simp only [List.cons_append, List.getElem?_cons_succ, List.getElem?_cons_zero, Option.some.injEq] at h; exact ⟨0, by omega, .inr ⟨rfl, by simp [h]⟩⟩
    | j + 2, h =>
      simp only [List.cons_append, List.nil_append, List.getElem?_cons_succ] at h
      obtain ⟨i, h1, h2⟩ := acc_get f g n (k + 1) j v h
      refine ⟨i + 1, by omega, ?_⟩
      rcases h2 with ⟨rfl, h2⟩ | ⟨rfl, h2⟩
      · exact .inl ⟨by omega, by rw [h2]; congr 1; omega⟩
      · exact .inr ⟨by omega, by rw [h2]; congr 1; omega⟩
theorem tabU_ok {a b : Nat} {B : World} (hT : Lib.Utf8Tabs a b B) {g : Nat} {l : List Value} (hl : tabU a b g = some l) {j : Nat} {v : Value} (hj : l[j]? = some v) : wfv 0 v = true ∧ B.cell? ⟨g, j, none⟩ = some v := by
  unfold tabU at hl
  cases h1 : Nat.beq g a with
  | true =>
    rw [h1] at hl
    rw [Nat.beq_eq] at h1
    subst h1
    simp only [cond_true, Option.some.injEq] at hl
    subst hl
    unfold Lib.firstTab at hj
    rw [List.getElem?_map, List.getElem?_map] at hj
    by_cases hlt : j < 256
    · rw [List.getElem?_range hlt] at hj
      simp only [Option.map_some, Option.some.injEq] at hj
      subst hj
      exact ⟨rfl, hT.1 j hlt⟩
    · rw [List.getElem?_eq_none (by simp; omega)] at hj
      cases hj
  | false =>
    rw [h1] at hl
    cases h2 : Nat.beq g b with
    | false => rw [h2] at hl; cases hl
    | true =>
      rw [h2] at hl
      rw [Nat.beq_eq] at h2
      subst h2
      simp only [cond_false, cond_true, Option.some.injEq] at hl
      subst hl
      rw [List.range_eq_range'] at hj
      obtain ⟨i, hi, h3⟩ := acc_get _ _ 16 0 j v hj
      rcases h3 with ⟨rfl, h4⟩ | ⟨rfl, h4⟩
      · rw [Nat.zero_add] at h4; subst h4; exact ⟨rfl, (hT.2 i hi).1⟩
      · rw [Nat.zero_add] at h4; subst h4; exact ⟨rfl, (hT.2 i hi).2⟩
/-- The functions of a program. -/
def fnsOf (P : Program) (g : Nat) : Option Func := match P.funcs[g]? with
  | some fn => bif fn.body.isSome then some fn else none
  | none => none
theorem fnsOf_ok {P : Program} (hn : P.funcs.toList.all (fun fn => !(fn.name == "runtime.NumGoroutine")) = true) {g : Nat} {fn : Func} (h : fnsOf P g = some fn) : P.funcs[g]? = some fn ∧ fn.body.isSome = true ∧ (fn.name == "runtime.NumGoroutine") = false := by
  unfold fnsOf at h
  split at h
  · rename_i fn' hg
    cases hb : fn'.body.isSome with
    | false => rw [hb] at h; cases h
    | true =>
      rw [hb] at h
      cases h
      refine ⟨hg, hb, ?_⟩
      have := List.all_eq_true.1 hn fn (by rw [Array.mem_toList_iff]; exact Array.mem_of_getElem? hg)
      simpa using this
  · cases h
end Go.Xs
