/- Plain laws: the parts of a text, by dots, and the library's Split. -/
import Derived.Test.YtbpelgbblpeojaaDoorB6
import Derived.Lib.Split
import Derived.Lib.CountLaws
import Derived.Lib.IndexBytes
set_option linter.unusedVariables false
set_option linter.unusedSimpArgs false
namespace Go.Proofs.YtbpelgbblpeojaaDoor
open Go.Sk
set_option maxRecDepth 100000
def partsF : List Int → List Int → List (List Int)
  | [], cur => [cur]
  | c :: r, cur => if c = 46 then cur :: partsF r [] else partsF r (cur ++ [c])
def partsL (l : List Int) : List (List Int) := partsF l []
def firstI : List Int → Option Nat
  | [] => none
  | c :: r => if c = 46 then some 0 else (firstI r).map (· + 1)
theorem partsF_cons (c : Int) (r cur : List Int) : partsF (c :: r) cur = if c = 46 then cur :: partsF r [] else partsF r (cur ++ [c]) := rfl
theorem firstI_cons (c : Int) (r : List Int) : firstI (c :: r) = if c = 46 then some 0 else (firstI r).map (· + 1) := rfl
theorem firstI_lt : ∀ (l : List Int) (i : Nat), firstI l = some i → i < l.length
  | [], i, h => by cases h
  | c :: r, i, h => by
    unfold firstI at h
    split at h
    · cases h; simp
    · obtain ⟨j, hj, rfl⟩ := Option.map_eq_some_iff.1 h
      have := firstI_lt r j hj
      simp; omega
theorem parts_first : ∀ (l cur : List Int), partsF l cur = match firstI l with | none => [cur ++ l] | some i => (cur ++ l.take i) :: partsF (l.drop (i + 1)) []
  | [], cur => by simp [partsF, firstI]
  | c :: r, cur => by
    rw [partsF_cons, firstI_cons]
    split
    · simp
    · rw [parts_first r (cur ++ [c])]
      cases firstI r with
      | none => simp
      | some i => simp
theorem index_first : ∀ (l : List Int), Byt l → Lib.indexByte (l.map b8) 46 = match firstI l with | none => -1 | some i => (i : Int)
  | [], _ => rfl
  | c :: r, h => by
    have hc := h c (by simp)
    have hr : Byt r := fun x hx => h x (by simp [hx])
    have ih := index_first r hr
    have he : (b8 c == 46) = decide (c = 46) := by
      by_cases h46 : c = 46
      · subst h46; rfl
      · rw [decide_eq_false h46]
        simp only [beq_eq_false_iff_ne, ne_eq]
        intro e
        have := b8_nat hc
        rw [e] at this
        apply h46
        rw [← this]
        rfl
    simp only [List.map_cons, Lib.indexByte, he, ih, firstI]
    by_cases h46 : c = 46
    · simp [h46]
    · simp only [h46, decide_false, if_false]
      cases firstI r with
      | none => simp
      | some i =>
        have hne : ((i : Int) == -1) = false := beq_eq_false_iff_ne.2 (by omega)
        simp [hne]
abbrev dot : ByteArray := ⟨#[46]⟩
theorem indexB_first {l : List Int} (h : Byt l) : Lib.indexB (str l) dot = match firstI l with | none => -1 | some i => (i : Int) := by
  have e : Lib.indexB (str l) dot = Lib.index (str l).data.toList [46] := rfl
  rw [e, Lib.index_one, str_list]
  exact index_first l h
theorem split_parts : ∀ (n : Nat) (l : List Int), l.length ≤ n → Byt l → Lib.splitB dot 0 (Lib.countB (str l) dot) (str l) = (partsL l).map str ∧ Lib.countB (str l) dot + 1 = (partsL l).length
  | n, l, hn, hb => by
    have hi := indexB_first hb
    unfold partsL
    rw [parts_first l []]
    cases hf : firstI l with
    | none =>
      rw [hf] at hi
      rw [Lib.countB_miss _ _ hi, Lib.splitB_zero]
      exact ⟨rfl, rfl⟩
    | some i =>
      rw [hf] at hi
      have hlt := firstI_lt l i hf
      have hrest : (str l).extract (i + dot.size) (str l).size = str (l.drop (i + 1)) := by
        rw [str_sub, str_size]
        rw [List.take_of_length_le (by rw [List.length_drop]; exact Nat.le_refl _)]
        rfl
      rw [Lib.countB_hit _ _ i (by decide) hi, hrest, Nat.add_comm 1, Lib.splitB_hit _ _ _ _ i hi, hrest]
      match n, hn with
      | 0, hn => omega
      | n + 1, hn =>
        obtain ⟨e1, e2⟩ := split_parts n (l.drop (i + 1)) (by rw [List.length_drop]; omega) (hb.drop _)
        rw [e1]
        have e3 : (str l).extract 0 (i + 0) = str (l.take i) := by rw [str_sub]; simp
        rw [e3]
        unfold partsL at *
        simp only [List.map_cons, List.nil_append, List.length_cons]
        exact ⟨trivial, by omega⟩
theorem partsF_byt : ∀ (l cur : List Int), Byt l → Byt cur → ∀ p ∈ partsF l cur, Byt p
  | [], cur, _, hc, p, hp => by simp [partsF] at hp; rw [hp]; exact hc
  | c :: r, cur, hl, hc, p, hp => by
    have h1 := hl c (by simp)
    have hr : Byt r := fun x hx => hl x (by simp [hx])
    unfold partsF at hp
    split at hp
    · rcases List.mem_cons.1 hp with rfl | hp
      · exact hc
      · exact partsF_byt r [] hr Byt.nil p hp
    · exact partsF_byt r (cur ++ [c]) hr (hc.app (Byt.one h1)) p hp
theorem partsF_len : ∀ (l cur : List Int), (partsF l cur).length ≤ l.length + 1 ∧ ∀ p ∈ partsF l cur, p.length ≤ cur.length + l.length
  | [], cur => by simp [partsF]
  | c :: r, cur => by
    unfold partsF
    split
    · obtain ⟨h1, h2⟩ := partsF_len r []
      refine ⟨by simp; omega, fun p hp => ?_⟩
      rcases List.mem_cons.1 hp with rfl | hp
      · simp
      · have := h2 p hp; simp at this ⊢; omega
    · obtain ⟨h1, h2⟩ := partsF_len r (cur ++ [c])
      refine ⟨by simp; omega, fun p hp => ?_⟩
      have := h2 p hp
      simp at this ⊢
      omega
end Go.Proofs.YtbpelgbblpeojaaDoor
