/- Plain laws: what is good and what is not, joined and cut. -/
import Derived.Test.YtbpelgbblpeojaaDoorB8
import Derived.Lib.TrimUEq
set_option linter.unusedVariables false
set_option linter.unusedSimpArgs false
namespace Go.Proofs.YtbpelgbblpeojaaDoor
open Go.Sk Go.Lib
set_option maxRecDepth 100000
def BadN (x : Nat × Nat) : Prop := x.1 = 65533 ∧ x.2 = 1
instance (x : Nat × Nat) : Decidable (BadN x) := inferInstanceAs (Decidable (_ ∧ _))
theorem decN_width (n b0 b1 b2 b3 : Nat) (h : 1 ≤ n) : 1 ≤ (decodeN n b0 b1 b2 b3).2 ∧ (decodeN n b0 b1 b2 b3).2 ≤ n ∧ (decodeN n b0 b1 b2 b3).2 ≤ 4 := by
  unfold decodeN
  repeat' split
  all_goals simp only
  all_goals omega
set_option maxHeartbeats 4000000 in
theorem decN_ext {n n' b0 b1 b2 b3 c1 c2 c3 : Nat} (hn : 1 ≤ n) (hnn : n ≤ n') (h1 : 1 < n → c1 = b1) (h2 : 2 < n → c2 = b2) (h3 : 3 < n → c3 = b3) (hv : ¬ BadN (decodeN n b0 b1 b2 b3)) :
    decodeN n' b0 c1 c2 c3 = decodeN n b0 b1 b2 b3 := by
  by_cases g1 : 1 < n
  · obtain rfl := h1 g1
    by_cases g2 : 2 < n
    · obtain rfl := h2 g2
      by_cases g3 : 3 < n
      · obtain rfl := h3 g3
        unfold decodeN
        simp only [g1, g2, g3, show 1 < n' by omega, show 2 < n' by omega, show 3 < n' by omega]
      · unfold decodeN BadN at *
        simp only [g1, g2, g3, show 1 < n' by omega, show 2 < n' by omega, true_and, false_and, and_false, if_false] at hv ⊢
        repeat' split at hv
        all_goals first | (exfalso; exact hv ⟨rfl, rfl⟩) | skip
        all_goals simp_all
    · unfold decodeN BadN at *
      simp only [g1, g2, show 1 < n' by omega, true_and, false_and, and_false, if_false] at hv ⊢
      repeat' split at hv
      all_goals first | (exfalso; exact hv ⟨rfl, rfl⟩) | skip
      all_goals simp_all
  · unfold decodeN BadN at *
    simp only [g1, false_and, and_false, if_false] at hv ⊢
    split at hv
    · simp_all
    · exfalso; exact hv ⟨rfl, rfl⟩
theorem decN_four {n n' b0 b1 b2 b3 : Nat} (h : 4 ≤ n) (h' : 4 ≤ n') : decodeN n' b0 b1 b2 b3 = decodeN n b0 b1 b2 b3 := by
  unfold decodeN
  simp only [show 1 < n by omega, show 2 < n by omega, show 3 < n by omega, show 1 < n' by omega, show 2 < n' by omega, show 3 < n' by omega]
set_option maxHeartbeats 4000000 in
theorem decN_pre {n n' b0 b1 b2 b3 c1 c2 c3 : Nat} (hn : 1 ≤ n') (hnn : n' ≤ n) (h1 : 1 < n' → c1 = b1) (h2 : 2 < n' → c2 = b2) (h3 : 3 < n' → c3 = b3) (hv : ¬ BadN (decodeN n b0 b1 b2 b3)) (hw : (decodeN n b0 b1 b2 b3).2 ≤ n') :
    decodeN n' b0 c1 c2 c3 = decodeN n b0 b1 b2 b3 := by
  by_cases g1 : 1 < n'
  · obtain rfl := h1 g1
    by_cases g2 : 2 < n'
    · obtain rfl := h2 g2
      by_cases g3 : 3 < n'
      · obtain rfl := h3 g3
        unfold decodeN
        simp only [g1, g2, g3, show 1 < n by omega, show 2 < n by omega, show 3 < n by omega]
      · unfold decodeN BadN at *
        simp only [g1, g2, g3, show 1 < n by omega, show 2 < n by omega, true_and, false_and, and_false, if_false] at hv hw ⊢
        repeat' split at hv
        all_goals first | (exfalso; exact hv ⟨rfl, rfl⟩) | skip
        all_goals simp_all
        all_goals (try omega)
    · unfold decodeN BadN at *
      simp only [g1, g2, show 1 < n by omega, true_and, false_and, and_false, if_false] at hv hw ⊢
      repeat' split at hv
      all_goals first | (exfalso; exact hv ⟨rfl, rfl⟩) | skip
      all_goals simp_all
      all_goals (try omega)
  · unfold decodeN BadN at *
    simp only [g1, false_and, and_false, if_false] at hv hw ⊢
    repeat' split at hv
    all_goals first | (exfalso; exact hv ⟨rfl, rfl⟩) | skip
    all_goals simp_all
    all_goals (try omega)
abbrev D (m : List UInt8) : Nat × Nat := decodeL m
theorem D_width {m : List UInt8} (h : m ≠ []) : 1 ≤ (D m).2 ∧ (D m).2 ≤ m.length ∧ (D m).2 ≤ 4 := by
  have : 1 ≤ m.length := List.length_pos_iff.2 h
  unfold D
  rw [decodeL_N]
  exact decN_width _ _ _ _ _ this
theorem getD_app {m t : List UInt8} {i : Nat} (h : i < m.length) : (m ++ t).getD i 0 = m.getD i 0 := by
  simp [List.getD_eq_getElem?_getD, List.getElem?_append_left h]
theorem D_ext {m t : List UInt8} (h : m ≠ []) (hv : ¬ BadN (D m)) : D (m ++ t) = D m := by
  have h1 : 1 ≤ m.length := List.length_pos_iff.2 h
  unfold D at *
  rw [decodeL_N] at hv
  rw [decodeL_N, decodeL_N m, getD_app h1]
  exact decN_ext h1 (by simp) (fun g => by rw [getD_app g]) (fun g => by rw [getD_app g]) (fun g => by rw [getD_app g]) hv
theorem D_four {m t : List UInt8} (h : 4 ≤ m.length) : D (m ++ t) = D m := by
  unfold D
  rw [decodeL_N, decodeL_N m, getD_app (by omega), getD_app (by omega), getD_app (by omega), getD_app (by omega)]
  exact decN_four h (by rw [List.length_append]; omega)
theorem getD_take {m : List UInt8} {i k : Nat} (h : i < k) : (m.take k).getD i 0 = m.getD i 0 := by
  simp [List.getD_eq_getElem?_getD, List.getElem?_take_of_lt h]
theorem D_pre {m : List UInt8} {k : Nat} (hk : 1 ≤ k) (hkm : k ≤ m.length) (hv : ¬ BadN (D m)) (hw : (D m).2 ≤ k) : D (m.take k) = D m := by
  have hl : (m.take k).length = k := by rw [List.length_take]; omega
  unfold D at *
  rw [decodeL_N] at hv hw
  rw [decodeL_N, decodeL_N m, hl, getD_take (by omega)]
  exact decN_pre hk hkm (fun g => by rw [getD_take g]) (fun g => by rw [getD_take g]) (fun g => by rw [getD_take g]) hv hw
theorem D_bad_pre {m : List UInt8} {k : Nat} (hk : 1 ≤ k) (hkm : k ≤ m.length) (hb : BadN (D m) ∨ k < (D m).2) : BadN (D (m.take k)) := by
  have hl : (m.take k).length = k := by rw [List.length_take]; omega
  have hne : m.take k ≠ [] := by intro h; rw [h] at hl; simp at hl; omega
  by_cases h : BadN (D (m.take k))
  · exact h
  · exfalso
    have := D_ext (t := m.drop k) hne h
    rw [List.take_append_drop] at this
    rcases hb with hb | hb
    · exact h (this ▸ hb)
    · have hw := (D_width hne).2.1
      rw [hl, ← this] at hw
      omega
def gd : Nat → List UInt8 → Option Nat
  | 0, _ => none
  | f + 1, m => if m = [] then none else if BadN (D m) then some 0 else (gd f (m.drop (D m).2)).map (· + (D m).2)
theorem gd_nil : ∀ f, gd f [] = none
  | 0 => rfl
  | f + 1 => by simp [gd]
theorem gd_fuel : ∀ (f f' : Nat) (m : List UInt8), m.length ≤ f → m.length ≤ f' → gd f m = gd f' m
  | 0, f', m, h, _ => by
    obtain rfl : m = [] := List.eq_nil_of_length_eq_zero (by omega)
    rw [gd_nil, gd_nil]
  | f + 1, 0, m, _, h => by
    obtain rfl : m = [] := List.eq_nil_of_length_eq_zero (by omega)
    rw [gd_nil, gd_nil]
  | f + 1, f' + 1, m, h, h' => by
    unfold gd
    by_cases hm : m = []
    · rw [if_pos hm, if_pos hm]
    · rw [if_neg hm, if_neg hm]
      have hw := D_width hm
      rw [gd_fuel f f' (m.drop (D m).2) (by rw [List.length_drop]; omega) (by rw [List.length_drop]; omega)]
def G (m : List UInt8) : Option Nat := gd m.length m
theorem G_nil : G [] = none := rfl
theorem G_step {m : List UInt8} (hm : m ≠ []) : G m = if BadN (D m) then some 0 else (G (m.drop (D m).2)).map (· + (D m).2) := by
  have hw := D_width hm
  obtain ⟨f, hf⟩ : ∃ f, m.length = f + 1 := ⟨m.length - 1, by omega⟩
  unfold G
  rw [hf, gd, if_neg hm, gd_fuel f (m.drop (D m).2).length _ (by rw [List.length_drop]; omega) (Nat.le_refl _)]
theorem drop_app {m t : List UInt8} {w : Nat} (h : w ≤ m.length) : (m ++ t).drop w = m.drop w ++ t := by
  rw [List.drop_append_of_le_length h]
theorem G_join (t : List UInt8) : ∀ (n : Nat) (m : List UInt8), m.length ≤ n →
    (G m = none → G (m ++ t) = (G t).map (· + m.length)) ∧ (∀ a, G m = some a → a < m.length ∧ (4 ≤ m.length - a → G (m ++ t) = some a))
  | 0, m, h => by
    obtain rfl : m = [] := List.eq_nil_of_length_eq_zero (by omega)
    refine ⟨fun _ => ?_, fun a ha => by rw [G_nil] at ha; cases ha⟩
    cases hg : G t <;> simp [hg]
  | n + 1, m, h => by
    by_cases hm : m = []
    · subst hm
      refine ⟨fun _ => ?_, fun a ha => by rw [G_nil] at ha; cases ha⟩
      cases hg : G t <;> simp [hg]
    · have hw := D_width hm
      have hmt : m ++ t ≠ [] := by simp [hm]
      obtain ⟨i1, i2⟩ := G_join t n (m.drop (D m).2) (by rw [List.length_drop]; omega)
      by_cases hb : BadN (D m)
      · have e : G m = some 0 := by rw [G_step hm, if_pos hb]
        refine ⟨fun h0 => (by rw [e] at h0; cases h0), fun a ha => ?_⟩
        rw [e] at ha
        cases ha
        refine ⟨by omega, fun h4 => ?_⟩
        rw [G_step hmt, if_pos (by rw [D_four (by omega)]; exact hb)]
      · have e : G m = (G (m.drop (D m).2)).map (· + (D m).2) := by rw [G_step hm, if_neg hb]
        have e2 : G (m ++ t) = (G (m.drop (D m).2 ++ t)).map (· + (D m).2) := by
          rw [G_step hmt, D_ext hm hb, if_neg hb, drop_app hw.2.1]
        refine ⟨fun h0 => ?_, fun a ha => ?_⟩
        · rw [e, Option.map_eq_none_iff] at h0
          rw [e2, i1 h0, Option.map_map, List.length_drop]
          congr 1
          funext x
          simp only [Function.comp]
          omega
        · rw [e, Option.map_eq_some_iff] at ha
          obtain ⟨a', ha', rfl⟩ := ha
          obtain ⟨j1, j2⟩ := i2 a' ha'
          rw [List.length_drop] at j1 j2
          exact ⟨by omega, fun h4 => by rw [e2, j2 (by omega)]; rfl⟩
theorem G_cut : ∀ (n : Nat) (m : List UInt8) (k : Nat), m.length ≤ n → k ≤ m.length →
    (G m = none → G (m.take k) = none ∨ ∃ d, G (m.take k) = some d ∧ d < k ∧ k < d + 4) ∧
    (∀ a, G m = some a → (G (m.take k) = none ∧ k ≤ a + 3) ∨ (G (m.take k) = some a ∧ a < k) ∨ ∃ d, G (m.take k) = some d ∧ d < a ∧ k < d + 4)
  | 0, m, k, h, hk => by
    obtain rfl : m = [] := List.eq_nil_of_length_eq_zero (by omega)
    refine ⟨fun _ => .inl (by simp [G_nil]), fun a ha => by rw [G_nil] at ha; cases ha⟩
  | n + 1, m, k, h, hk => by
    by_cases hk0 : k = 0
    · subst hk0
      refine ⟨fun _ => .inl rfl, fun a ha => .inl ⟨rfl, by omega⟩⟩
    · have hm : m ≠ [] := by intro h0; rw [h0] at hk; simp at hk; omega
      have hw := D_width hm
      have hl : (m.take k).length = k := by rw [List.length_take]; omega
      have hmk : m.take k ≠ [] := by intro h0; rw [h0] at hl; simp at hl; omega
      by_cases hb : BadN (D m)
      · have e : G m = some 0 := by rw [G_step hm, if_pos hb]
        have e2 : G (m.take k) = some 0 := by rw [G_step hmk, if_pos (D_bad_pre (by omega) hk (.inl hb))]
        refine ⟨fun h0 => (by rw [e] at h0; cases h0), fun a ha => ?_⟩
        rw [e] at ha
        cases ha
        exact .inr (.inl ⟨e2, by omega⟩)
      · have e : G m = (G (m.drop (D m).2)).map (· + (D m).2) := by rw [G_step hm, if_neg hb]
        by_cases hwk : (D m).2 ≤ k
        · have e2 : G (m.take k) = (G ((m.drop (D m).2).take (k - (D m).2))).map (· + (D m).2) := by
            rw [G_step hmk, D_pre (by omega) hk hb hwk, if_neg hb, List.drop_take]
          obtain ⟨i1, i2⟩ := G_cut n (m.drop (D m).2) (k - (D m).2) (by rw [List.length_drop]; omega) (by rw [List.length_drop]; omega)
          refine ⟨fun h0 => ?_, fun a ha => ?_⟩
          · rw [e, Option.map_eq_none_iff] at h0
            rcases i1 h0 with h1 | ⟨d, h1, h2, h3⟩
            · exact .inl (by rw [e2, h1]; rfl)
            · exact .inr ⟨d + (D m).2, by rw [e2, h1]; rfl, by omega, by omega⟩
          · rw [e, Option.map_eq_some_iff] at ha
            obtain ⟨a', ha', rfl⟩ := ha
            rcases i2 a' ha' with ⟨h1, h2⟩ | ⟨h1, h2⟩ | ⟨d, h1, h2, h3⟩
            · exact .inl ⟨by rw [e2, h1]; rfl, by omega⟩
            · exact .inr (.inl ⟨by rw [e2, h1]; rfl, by omega⟩)
            · exact .inr (.inr ⟨d + (D m).2, by rw [e2, h1]; rfl, by omega, by omega⟩)
        · have e2 : G (m.take k) = some 0 := by rw [G_step hmk, if_pos (D_bad_pre (by omega) hk (.inr (by omega)))]
          refine ⟨fun _ => .inr ⟨0, e2, by omega, by omega⟩, fun a ha => ?_⟩
          rw [e, Option.map_eq_some_iff] at ha
          obtain ⟨a', ha', rfl⟩ := ha
          exact .inr (.inr ⟨0, e2, by omega, by omega⟩)
def toI : Option Nat → Int
  | none => -1
  | some a => a
theorem goodF_gd (l : List Int) : ∀ (f p : Nat), goodF l f p = match gd f ((l.map b8).drop p) with | none => -1 | some a => ((p + a : Nat) : Int)
  | 0, p => rfl
  | f + 1, p => by
    unfold goodF gd
    by_cases hp : p < l.length
    · have hne : (l.map b8).drop p ≠ [] := by intro h; have := List.drop_eq_nil_iff.1 h; rw [List.length_map] at this; omega
      have hd : Utf8.decode (str l) p = D ((l.map b8).drop p) := by rw [← decodeL_drop (str l) p, str_list]
      rw [if_pos hp, if_neg hne, hd]
      by_cases hb : BadN (D ((l.map b8).drop p))
      · rw [if_pos (show _ ∧ _ from hb), if_pos hb]; simp
      · rw [if_neg (show ¬ (_ ∧ _) from hb), if_neg hb, goodF_gd l f _, List.drop_drop]
        cases gd f ((l.map b8).drop (p + (D ((l.map b8).drop p)).2)) with
        | none => rfl
        | some a => simp only [Option.map_some]; congr 1; omega
    · have he : (l.map b8).drop p = [] := List.drop_of_length_le (by rw [List.length_map]; omega)
      rw [if_neg hp, if_pos he]
theorem good_G (l : List Int) : goodL l = toI (G (l.map b8)) := by
  unfold goodL G
  rw [goodF_gd, List.drop_zero, List.length_map]
  cases gd l.length (l.map b8) with
  | none => rfl
  | some a => simp [toI]
theorem toI_none {o : Option Nat} (h : toI o = -1) : o = none := by
  cases o with
  | none => rfl
  | some a => simp [toI] at h <;> omega
theorem toI_some {o : Option Nat} (h : toI o ≠ -1) : ∃ a, o = some a ∧ toI o = a := by
  cases o with
  | none => exact absurd rfl h
  | some a => exact ⟨a, rfl, rfl⟩
theorem good_ge (l : List Int) : -1 ≤ goodL l ∧ goodL l ≤ l.length := by
  rw [good_G]
  cases h : G (l.map b8) with
  | none => simp [toI] <;> omega
  | some a =>
    have := ((G_join [] _ (l.map b8) (Nat.le_refl _)).2 a h).1
    rw [List.length_map] at this
    simp [toI]
    omega
theorem good_join (s t : List Int) : (goodL s = -1 → (goodL t = -1 → goodL (s ++ t) = -1) ∧ (0 ≤ goodL t → goodL (s ++ t) = s.length + goodL t)) ∧ (0 ≤ goodL s → 4 ≤ s.length - goodL s → goodL (s ++ t) = goodL s) := by
  obtain ⟨h1, h2⟩ := G_join (t.map b8) _ (s.map b8) (Nat.le_refl _)
  rw [good_G s, good_G t, good_G (s ++ t), List.map_append]
  rw [List.length_map] at h1 h2
  refine ⟨fun ha => ?_, fun ha h4 => ?_⟩
  · have := h1 (toI_none ha)
    rw [this]
    refine ⟨fun hb => by rw [toI_none hb]; rfl, fun hb => ?_⟩
    obtain ⟨b, e1, e2⟩ := toI_some (o := G (t.map b8)) (by omega)
    rw [e1]
    simp [toI]
    omega
  · obtain ⟨a, e1, e2⟩ := toI_some (o := G (s.map b8)) (by omega)
    have := (h2 a e1).2 (by omega)
    rw [this, e2]
    rfl
theorem good_cut (s : List Int) (k : Nat) (hk : k ≤ s.length) : (goodL s = -1 → goodL (s.take k) = -1 ∨ (0 ≤ goodL (s.take k) ∧ goodL (s.take k) < k ∧ k < goodL (s.take k) + 4)) ∧
    (0 ≤ goodL s → (goodL (s.take k) = -1 ∧ k ≤ goodL s + 3) ∨ (goodL (s.take k) = goodL s ∧ goodL s < k) ∨ (0 ≤ goodL (s.take k) ∧ goodL (s.take k) < goodL s ∧ k < goodL (s.take k) + 4)) := by
  obtain ⟨h1, h2⟩ := G_cut _ (s.map b8) k (Nat.le_refl _) (by rw [List.length_map]; exact hk)
  rw [good_G s, good_G (s.take k), List.map_take]
  refine ⟨fun ha => ?_, fun ha => ?_⟩
  · rcases h1 (toI_none ha) with h | ⟨d, h, h3, h4⟩
    · exact .inl (by rw [h]; rfl)
    · refine .inr ?_
      rw [h]
      simp only [toI]
      omega
  · obtain ⟨a, e1, e2⟩ := toI_some (o := G (s.map b8)) (by omega)
    rw [e2]
    rcases h2 a e1 with ⟨h, h3⟩ | ⟨h, h3⟩ | ⟨d, h, h3, h4⟩
    · exact .inl ⟨by rw [h]; rfl, by omega⟩
    · exact .inr (.inl ⟨by rw [h]; rfl, by omega⟩)
    · refine .inr (.inr ?_)
      rw [h]
      simp only [toI]
      omega
end Go.Proofs.YtbpelgbblpeojaaDoor
