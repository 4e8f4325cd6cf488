/- Plain laws: a text cut at its last dot; joined again; scopes of a full name. -/
import Derived.Test.YtbpelgbblpeojaaDoorB26
import Derived.Test.YtbpelgbblpeojaaDoorB17
set_option linter.unusedVariables false
set_option linter.unusedSimpArgs false
namespace Go.Proofs.YtbpelgbblpeojaaDoor
open Go.Sk
set_option maxRecDepth 100000
def noDot (l : List Int) : Prop := ∀ x ∈ l, x ≠ 46
theorem lix_spec (l : List Int) (c : Int) : ∀ k, (lix l c k = -1 ∧ ∀ j, j < k → l.getD j 0 ≠ c) ∨ ∃ i, i < k ∧ lix l c k = i ∧ l.getD i 0 = c ∧ ∀ j, i < j → j < k → l.getD j 0 ≠ c
  | 0 => .inl ⟨rfl, fun j hj => absurd hj (by omega)⟩
  | k + 1 => by
    unfold lix
    by_cases h : l.getD k 0 = c
    · rw [if_pos h]
      exact .inr ⟨k, by omega, rfl, h, fun j h1 h2 => absurd h2 (by omega)⟩
    · rw [if_neg h]
      rcases lix_spec l c k with ⟨h1, h2⟩ | ⟨i, h1, h2, h3, h4⟩
      · refine .inl ⟨h1, fun j hj => ?_⟩
        by_cases e : j = k
        · rw [e]; exact h
        · exact h2 j (by omega)
      · refine .inr ⟨i, by omega, h2, h3, fun j hj hk => ?_⟩
        by_cases e : j = k
        · rw [e]; exact h
        · exact h4 j hj (by omega)
theorem getD_in {l : List Int} {x : Int} (h : x ∈ l) : ∃ j, j < l.length ∧ l.getD j 0 = x := by
  obtain ⟨j, hj, e⟩ := List.mem_iff_getElem.1 h
  exact ⟨j, hj, by rw [List.getD_eq_getElem?_getD, List.getElem?_eq_getElem hj]; exact e⟩
theorem split_cases (s : List Int) : (noDot s ∧ splitL s = ([], s)) ∨ ∃ a b, s = a ++ 46 :: b ∧ noDot b ∧ splitL s = (a, b) := by
  rcases lix_spec s 46 s.length with ⟨h1, h2⟩ | ⟨i, h1, h2, h3, h4⟩
  · refine .inl ⟨fun x hx => ?_, ?_⟩
    · obtain ⟨j, hj, e⟩ := getD_in hx
      rw [← e]
      exact h2 j hj
    · unfold splitL
      rw [h1, if_pos (by omega)]
  · refine .inr ⟨s.take i, s.drop (i + 1), ?_, fun x hx => ?_, ?_⟩
    · have : s.drop i = 46 :: s.drop (i + 1) := by
        rw [List.drop_eq_getElem_cons h1]
        congr 1
        rw [← h3, List.getD_eq_getElem?_getD, List.getElem?_eq_getElem h1]
        rfl
      rw [← this, List.take_append_drop]
    · obtain ⟨j, hj, e⟩ := getD_in hx
      rw [List.length_drop] at hj
      rw [← e]
      have : (s.drop (i + 1)).getD j 0 = s.getD (i + 1 + j) 0 := by simp [List.getD_eq_getElem?_getD]
      rw [this]
      exact h4 _ (by omega) (by omega)
    · unfold splitL
      rw [h2, if_neg (by omega), Int.toNat_natCast]
theorem split_noDot (s : List Int) : noDot (splitL s).2 := by
  rcases split_cases s with ⟨h1, h2⟩ | ⟨a, b, _, h2, h3⟩
  · rw [h2]; exact h1
  · rw [h3]; exact h2
theorem joinL2 (a b : List Int) : joinL [a, b] = if a = [] then b else if b = [] then a else a ++ 46 :: b := by
  unfold joinL filt
  by_cases ha : a = []
  · by_cases hb : b = []
    · subst ha hb; rfl
    · subst ha
      simp [hb, joinS, dotted]
  · by_cases hb : b = []
    · subst hb
      simp [ha, joinS, dotted]
    · simp [ha, hb, joinS, dotted]
theorem join_split {s : List Int} (h : s ≠ [] → s.getD 0 0 ≠ 46 ∧ s.getD (s.length - 1) 0 ≠ 46) : joinL [(splitL s).1, (splitL s).2] = s := by
  rcases split_cases s with ⟨_, h2⟩ | ⟨a, b, rfl, _, h3⟩
  · rw [h2, joinL2, if_pos rfl]
  · obtain ⟨h1, h2⟩ := h (by simp)
    rw [h3, joinL2]
    have ha : a ≠ [] := fun e => h1 (by rw [e]; rfl)
    have hb : b ≠ [] := fun e => h2 (by rw [e]; simp)
    rw [if_neg ha, if_neg hb]
theorem partsF_app : ∀ (a b cur : List Int), partsF (a ++ 46 :: b) cur = partsF a cur ++ partsF b []
  | [], b, cur => by simp [partsF]
  | c :: r, b, cur => by
    rw [List.cons_append, partsF_cons, partsF_cons]
    split
    · rw [partsF_app r b, List.cons_append]
    · rw [partsF_app r b]
theorem partsF_no : ∀ (b cur : List Int), noDot b → partsF b cur = [cur ++ b]
  | [], cur, _ => by simp [partsF]
  | c :: r, cur, h => by
    rw [partsF_cons, if_neg (h c (by simp)), partsF_no r _ (fun x hx => h x (by simp [hx]))]
    simp
theorem parts_all {l : List Int} : (∀ j, j < (partsL l).length → identP ((partsL l).getD j [])) ↔ ∀ p ∈ partsL l, identP p := by
  constructor
  · intro h p hp
    obtain ⟨j, hj, e⟩ := List.mem_iff_getElem.1 hp
    have := h j hj
    rw [List.getD_eq_getElem?_getD, List.getElem?_eq_getElem hj] at this
    rw [← e]; exact this
  · intro h j hj
    rw [List.getD_eq_getElem?_getD, List.getElem?_eq_getElem hj]
    exact h _ (List.getElem_mem hj)
theorem ident_ne {l : List Int} (h : identP l) : l ≠ [] := fun e => by
  have := h.1
  rw [e] at this
  simp at this
theorem full_split {s : List Int} (h : fullP s) : identP (splitL s).2 ∧ ((splitL s).1 = [] ∨ fullP (splitL s).1) ∧ joinL [(splitL s).1, (splitL s).2] = s ∧ s ≠ [] := by
  obtain ⟨h1, h2⟩ := h
  rw [parts_all] at h2
  rcases split_cases s with ⟨hn, e⟩ | ⟨a, b, rfl, hb, e⟩
  · have hp : partsL s = [s] := by unfold partsL; rw [partsF_no _ _ hn]; rfl
    rw [hp] at h2
    have hi := h2 s (by simp)
    rw [e]
    exact ⟨hi, .inl rfl, by rw [joinL2, if_pos rfl], ident_ne hi⟩
  · have hp : partsL (a ++ 46 :: b) = partsL a ++ [b] := by unfold partsL; rw [partsF_app, partsF_no b _ hb]; rfl
    rw [hp] at h2
    have hib := h2 b (by simp)
    have hia : ∀ p ∈ partsL a, identP p := fun p hp => h2 p (by simp [hp])
    have ha : a ≠ [] := fun e => by
      have := ident_ne (hia [] (by rw [e]; simp [partsL, partsF]))
      exact this rfl
    rw [e]
    refine ⟨hib, .inr ⟨by rw [List.length_append] at h1; simp only; omega, parts_all.2 hia⟩, ?_, by simp⟩
    rw [joinL2, if_neg ha, if_neg (ident_ne hib)]
def dotsC : List Int → Nat
  | [] => 0
  | x :: r => (if x = 46 then 1 else 0) + dotsC r
theorem dotsC_app : ∀ (a b : List Int), dotsC (a ++ b) = dotsC a + dotsC b
  | [], b => by simp [dotsC]
  | x :: r, b => by
    rw [List.cons_append, dotsC, dotsC, dotsC_app r b]
    omega
theorem dotsC_no : ∀ {l : List Int}, noDot l → dotsC l = 0
  | [], _ => rfl
  | x :: r, h => by
    rw [dotsC, if_neg (h x (by simp)), dotsC_no (fun y hy => h y (by simp [hy]))]
theorem dotsC_succ {l : List Int} {i : Nat} (h : i < l.length) : dotsC (l.take (i + 1)) = dotsC (l.take i) + if l.getD i 0 = 46 then 1 else 0 := by
  rw [getD_succ (d := 0) h, dotsC_app]
  simp [dotsC]
theorem dotsC_le (l : List Int) (i : Nat) : dotsC (l.take i) ≤ i := by
  have : ∀ m : List Int, dotsC m ≤ m.length := fun m => by
    induction m with
    | nil => exact Nat.le_refl _
    | cons x r ih => rw [dotsC, List.length_cons]; split <;> omega
  have h1 := this (l.take i)
  rw [List.length_take] at h1
  omega
theorem scopesF_nil (f : Nat) : scopesF f [] = [[]] := by cases f <;> simp [scopesF]
theorem scopes_count : ∀ (f : Nat) (s : List Int), s.length ≤ f → fullP s → (scopesF f s).length = dotsC s + 2
  | 0, s, h, hf => by
    have := (full_split hf).2.2.2
    exact absurd (List.eq_nil_of_length_eq_zero (by omega)) this
  | f + 1, s, h, hf => by
    obtain ⟨_, h2, _, hne⟩ := full_split hf
    have hlt := splitL_lt hne
    rw [scopesF, if_neg hne, List.length_cons]
    rcases split_cases s with ⟨hn, e⟩ | ⟨a, b, rfl, hb, e⟩
    · rw [e, scopesF_nil, dotsC_no hn]
      rfl
    · rw [e] at h2 hlt ⊢
      rcases h2 with h2 | h2
      · exfalso
        simp only at h2
        subst h2
        have := hf.2
        rw [parts_all] at this
        exact ident_ne (this [] (by simp [partsL, partsF])) rfl
      · rw [scopes_count f a (by simp only at hlt; omega) h2, dotsC_app, dotsC, if_pos rfl, dotsC_no hb]
end Go.Proofs.YtbpelgbblpeojaaDoor
