/- Plain laws: Camel and Snake. -/
import Derived.Test.YtbpelgbblpeojaaDoorB14
set_option linter.unusedVariables false
set_option linter.unusedSimpArgs false
namespace Go.Proofs.YtbpelgbblpeojaaDoor
open Go.Sk
set_option maxRecDepth 100000
theorem snake_camel (l : List Int) : ((snakeL l).2 = true → camelL (snakeL l).1 = l) ∧ ((snakeL l).2 = false → (snakeL l).1 = []) := by
  unfold snakeL
  split
  · rename_i h
    exact ⟨fun _ => h, fun h => (by cases h)⟩
  · exact ⟨fun h => (by cases h), fun _ => rfl⟩
theorem camelF_no : ∀ (l : List Int) (b : Bool) (x : Int), x ∈ camelF b l → x ≠ 95
  | [], b, x, h => by simp [camelF] at h
  | c :: r, b, x, h => by
    unfold camelF at h
    split at h
    · exact camelF_no r true x h
    · rename_i hc
      rcases List.mem_cons.1 h with rfl | h
      · split
        · omega
        · exact hc
      · exact camelF_no r false x h
theorem camel_no {l : List Int} {i : Nat} (h : i < (camelL l).length) : (camelL l).getD i 0 ≠ 95 := by
  refine camelF_no l false _ ?_
  rw [List.getD_eq_getElem?_getD, List.getElem?_eq_getElem h]
  exact List.getElem_mem h
/-- Whether a capital comes next. -/
def stF : Bool → List Int → Bool
  | b, [] => b
  | _, c :: r => stF (decide (c = 95)) r
theorem camelF_app : ∀ (l t : List Int) (b : Bool), camelF b (l ++ t) = camelF b l ++ camelF (stF b l) t
  | [], t, b => by simp [camelF, stF]
  | c :: r, t, b => by
    simp only [List.cons_append, camelF, stF]
    split
    · rename_i hc
      rw [camelF_app r t true, decide_eq_true hc]
    · rename_i hc
      rw [camelF_app r t false, decide_eq_false hc]
      rfl
theorem stF_app : ∀ (l t : List Int) (b : Bool), stF b (l ++ t) = stF (stF b l) t
  | [], t, b => rfl
  | c :: r, t, b => by simp only [List.cons_append, stF]; exact stF_app r t _
/-- A name that comes back. -/
def Back (l : List Int) : Prop := stF false l = false ∧ snakeB (camelL l) = l ∧ Byt l
theorem snakeB_app (a b : List Int) : snakeB (a ++ b) = snakeB a ++ snakeB b := by simp [snakeB]
theorem Back.n : Back [110] := ⟨rfl, by decide, by decide⟩
theorem snakeB_small {x : Int} (h : ¬ (65 ≤ x ∧ x ≤ 90)) : snakeB [x] = [x] := by simp [snakeB, snakeC, h]
theorem Back.one {l : List Int} {x : Int} (h : Back l) (hx : 97 ≤ x ∧ x ≤ 122) : Back (l ++ [x]) := by
  obtain ⟨h1, h2, h3⟩ := h
  have hne : ¬ x = 95 := by omega
  refine ⟨by rw [stF_app]; simp [stF, hne], ?_, h3.app (Byt.one ⟨by omega, by omega⟩)⟩
  unfold camelL at *
  rw [camelF_app, snakeB_app, h2, h1]
  simp only [camelF, if_neg hne]
  rw [if_neg (by simp), snakeB_small (by omega)]
theorem Back.two {l : List Int} {x : Int} (h : Back l) (hx : 97 ≤ x ∧ x ≤ 122) : Back (l ++ [95, x]) := by
  obtain ⟨h1, h2, h3⟩ := h
  have hne : ¬ x = 95 := by omega
  refine ⟨by rw [stF_app]; simp [stF, hne], ?_, h3.app (Byt.cons ⟨by decide, by decide⟩ (Byt.one ⟨by omega, by omega⟩))⟩
  unfold camelL at *
  rw [camelF_app, snakeB_app, h2, h1]
  simp only [camelF, if_neg hne, if_true]
  rw [if_pos ⟨trivial, hx⟩]
  have : snakeB [x - 32] = [95, x] := by
    simp only [snakeB, snakeC, List.flatMap_cons, List.flatMap_nil, List.append_nil]
    rw [if_pos ⟨by omega, by omega⟩]
    congr 2
    omega
  rw [this]
theorem Back.dig {l : List Int} {x d : Int} (h : Back l) (hx : 97 ≤ x ∧ x ≤ 122) (hd : 48 ≤ d ∧ d ≤ 57) : Back (l ++ [x, d]) := by
  have h' := h.one hx
  obtain ⟨h1, h2, h3⟩ := h'
  have e : l ++ [x, d] = l ++ [x] ++ [d] := by simp
  have hne : ¬ d = 95 := by omega
  rw [e]
  refine ⟨by rw [stF_app]; simp [stF, hne], ?_, h3.app (Byt.one ⟨by omega, by omega⟩)⟩
  unfold camelL at *
  rw [camelF_app, snakeB_app, h2, h1]
  simp only [camelF, if_neg hne]
  rw [if_neg (by simp), snakeB_small (by omega)]
theorem Back.back {l : List Int} (h : Back l) : snakeL (camelL l) = (l, true) := by
  unfold snakeL
  rw [h.2.1, if_pos rfl]
end Go.Proofs.YtbpelgbblpeojaaDoor
