/- Plain law: a literal of sources comes back, whatever stands behind. -/
import Derived.Test.YtbpelgbblpeojaaDoorB30
set_option linter.unusedVariables false
set_option linter.unusedSimpArgs false
namespace Go.Proofs.YtbpelgbblpeojaaDoor
open Go.Sk
set_option maxRecDepth 100000
theorem at_drop {l : List Int} {i : Nat} {a : Int} {r : List Int} (h : l.drop i = a :: r) : i < l.length ∧ l.getD i 0 = a ∧ l.drop (i + 1) = r := by
  have hl : i < l.length := by
    rcases Nat.lt_or_ge i l.length with h1 | h1
    · exact h1
    · rw [List.drop_of_length_le h1] at h; cases h
  rw [List.drop_eq_getElem_cons hl] at h
  injection h with h1 h2
  refine ⟨hl, ?_, h2⟩
  rw [List.getD_eq_getElem?_getD, List.getElem?_eq_getElem hl]
  exact h1
theorem esc1 {x c : Int} {r : List Int} (h : plV x = c) (h0 : 0 ≤ c) : escL (x :: r) = some ([c], 1) := by
  rw [escL, if_pos (by omega), h]
theorem octV_at {x : Int} (h0 : 0 ≤ x) (h1 : x < 8) : octV (48 + x) = x := by unfold octV; rw [if_pos (by omega)]; omega
theorem esc3 {c : Int} {r : List Int} (h : isB c) : escL ((48 + c / 64) :: (48 + c / 8 % 8) :: (48 + c % 8) :: r) = some ([c], 3) := by
  obtain ⟨h0, h1⟩ := h
  have e1 := octV_at (x := c / 64) (by omega) (by omega)
  have e2 := octV_at (x := c / 8 % 8) (by omega) (by omega)
  have e3 := octV_at (x := c % 8) (by omega) (by omega)
  have hp : ¬ 0 ≤ plV (48 + c / 64) := by unfold plV; repeat' split; all_goals omega
  have hk : ocnt ((48 + c / 64) :: (48 + c / 8 % 8) :: (48 + c % 8) :: r) 3 = 3 := by
    rw [ocnt_cons, if_pos (by omega), ocnt_cons, if_pos (by omega), ocnt_cons, if_pos (by omega)]
    have : ocnt r 0 = 0 := by cases r <;> rfl
    omega
  have hv : oval ((48 + c / 64) :: (48 + c / 8 % 8) :: (48 + c % 8) :: r) 3 0 = c := by
    simp only [oval, e1, e2, e3]
    omega
  rw [escL, if_neg hp, hk, if_pos (by decide), hv, if_pos (by omega)]
theorem unq_go {behind : List Int} : ∀ (s : List Int), Byt s → ∀ (l : List Int) (i : Nat) (acc : List Int), Byt l → l.getD 0 0 = 34 → l.drop i = s.flatMap quoteC ++ 34 :: behind → UnqI l i acc →
    unqR l = (acc ++ s, i + (s.flatMap quoteC).length + 1, 0)
  | [], _, l, i, acc, hl, hq, hd, hi => by
    obtain ⟨h1, h2, h3⟩ := at_drop hd
    rw [hi.q h1 (by rw [h2, hq]), List.append_nil]
    rfl
  | c :: s, hs, l, i, acc, hl, hq, hd, hi => by
    have hc := hs c (by simp)
    obtain ⟨c0, c1⟩ := id hc
    have hs2 : Byt s := fun x hx => hs x (by simp [hx])
    rw [List.flatMap_cons, List.append_assoc] at hd
    generalize hg : s.flatMap quoteC ++ 34 :: behind = g at *
    have short : ∀ x, quoteC c = [92, x] → plV x = c → unqR l = (acc ++ c :: s, i + ((c :: s).flatMap quoteC).length + 1, 0) := fun x e hp => by
      rw [e] at hd
      obtain ⟨h1, h2, h3⟩ := at_drop (r := x :: g) hd
      have := hi.esc hl h1 (by rw [h2, hq]; decide) (by rw [h2]; decide) h2 (by rw [h3]; exact esc1 hp c0)
      have hdd : l.drop (i + (1 + 1)) = g := by
        obtain ⟨_, _, h4⟩ := at_drop h3
        exact h4
      have hx := unq_go s hs2 l (i + (1 + 1)) (acc ++ [c]) hl hq (by rw [hdd, hg]) this
      rw [hx, List.append_assoc, List.flatMap_cons, List.length_append, e]
      simp only [List.length_cons, List.length_nil, List.cons_append, List.nil_append]
      congr 2
      omega
    by_cases k1 : c = 10
    · exact short 110 (by unfold quoteC; rw [if_pos k1]) (by rw [k1]; decide)
    by_cases k2 : c = 13
    · exact short 114 (by unfold quoteC; rw [if_neg k1, if_pos k2]) (by rw [k2]; decide)
    by_cases k3 : c = 9
    · exact short 116 (by unfold quoteC; rw [if_neg k1, if_neg k2, if_pos k3]) (by rw [k3]; decide)
    by_cases k4 : c = 34 ∨ c = 92
    · exact short c (by unfold quoteC; rw [if_neg k1, if_neg k2, if_neg k3, if_pos k4]) (by rcases k4 with k | k <;> rw [k] <;> decide)
    by_cases k5 : 32 ≤ c ∧ c ≤ 126
    · have e : quoteC c = [c] := by unfold quoteC; rw [if_neg k1, if_neg k2, if_neg k3, if_neg k4, if_pos k5]
      rw [e] at hd
      obtain ⟨h1, h2, h3⟩ := at_drop (r := g) hd
      have := hi.go hl h1 (by rw [h2, hq]; omega) (by rw [h2]; omega) (by rw [h2]; omega)
      rw [h2] at this
      have hx := unq_go s hs2 l (i + 1) (acc ++ [c]) hl hq (by rw [h3, hg]) this
      rw [hx, List.append_assoc, List.flatMap_cons, List.length_append, e]
      simp only [List.length_cons, List.length_nil, List.cons_append, List.nil_append]
      congr 2
      omega
    · have e : quoteC c = [92, 48 + c / 64, 48 + c / 8 % 8, 48 + c % 8] := by unfold quoteC; rw [if_neg k1, if_neg k2, if_neg k3, if_neg k4, if_neg k5]
      rw [e] at hd
      obtain ⟨h1, h2, h3⟩ := at_drop (r := (48 + c / 64) :: (48 + c / 8 % 8) :: (48 + c % 8) :: g) hd
      have := hi.esc hl h1 (by rw [h2, hq]; decide) (by rw [h2]; decide) h2 (by rw [h3]; exact esc3 hc)
      have hdd : l.drop (i + (3 + 1)) = g := by
        obtain ⟨_, _, h4⟩ := at_drop h3
        obtain ⟨_, _, h5⟩ := at_drop h4
        obtain ⟨_, _, h6⟩ := at_drop h5
        exact h6
      have hx := unq_go s hs2 l (i + (3 + 1)) (acc ++ [c]) hl hq (by rw [hdd, hg]) this
      rw [hx, List.append_assoc, List.flatMap_cons, List.length_append, e]
      simp only [List.length_cons, List.length_nil, List.cons_append, List.nil_append]
      congr 2
      omega
theorem quoteL_byt {s : List Int} (hs : Byt s) : Byt (quoteL s) := by
  have : Byt (s.flatMap quoteC) := by
    intro x hx
    obtain ⟨c, hc, hx⟩ := List.mem_flatMap.1 hx
    exact quoteC_byt (hs c hc) x hx
  exact (Byt.cons (by decide) this).app (by decide)
theorem unq_back {s behind : List Int} (hs : Byt s) (hb : Byt behind) : unqL (quoteL s ++ behind) = (s, (quoteL s).length, 0) := by
  have e : quoteL s ++ behind = 34 :: (s.flatMap quoteC ++ 34 :: behind) := by unfold quoteL; simp
  have hl : Byt (quoteL s ++ behind) := (quoteL_byt hs).app hb
  rw [e] at hl ⊢
  rw [unqL, if_neg (by rintro (h | h); · cases h
                       · exact h.1 rfl)]
  rw [unq_go s hs _ 1 [] hl rfl rfl (UnqI.z (by simp))]
  unfold quoteL
  simp only [List.nil_append, List.length_append, List.length_cons, List.length_nil]
  congr 2
  omega
theorem quoteL_see {s : List Int} (hs : Byt s) : ∀ x ∈ quoteL s, 32 ≤ x ∧ x ≤ 126 := by
  have hc : ∀ c, isB c → ∀ x ∈ quoteC c, 32 ≤ x ∧ x ≤ 126 := by
    intro c ⟨h0, h1⟩ x hx
    unfold quoteC at hx
    repeat' split at hx
    all_goals simp only [List.mem_cons, List.not_mem_nil, or_false] at hx
    all_goals omega
  intro x hx
  unfold quoteL at hx
  rw [List.mem_append, List.mem_cons] at hx
  rcases hx with (rfl | hx) | hx
  · decide
  · obtain ⟨c, h1, h2⟩ := List.mem_flatMap.1 hx
    exact hc c (hs c h1) x h2
  · simp only [List.mem_cons, List.not_mem_nil, or_false] at hx
    omega
end Go.Proofs.YtbpelgbblpeojaaDoor
