/- Plain law: what JSONQuote writes is good; what comes back is the text where it is good; how long base64 is. -/
import Derived.Test.YtbpelgbblpeojaaDoorP10
import Derived.Test.YtbpelgbblpeojaaDoorP7
set_option linter.unusedVariables false
set_option linter.unusedSimpArgs false
namespace Go.Proofs.YtbpelgbblpeojaaDoor
open Go.Sk Go.Lib
set_option maxRecDepth 100000
theorem goodF_end (l : List Int) (f p : Nat) (h : ¬ p < l.length) : goodF l f p = -1 := by
  cases f with
  | zero => rfl
  | succ f => rw [goodF, if_neg h]
theorem good_one {c : Int} (h0 : 0 ≤ c) (h1 : c < 128) : goodL [c] = -1 := by
  have hb : Byt [c] := Byt.one ⟨h0, by omega⟩
  obtain ⟨b0, b1, b2, b3, hd, e0, _⟩ := dec_at [c] hb 0 (by simp)
  have e0 : (b0 : Int) = c := e0
  have hx : Utf8.decode (str [c]) 0 = (b0, 1) := by rw [hd]; unfold decodeN; rw [if_pos (by omega)]
  show goodF [c] 1 0 = -1
  rw [goodF, hx, if_pos (by simp), if_neg (by simp only; omega), goodF_end _ _ _ (by simp)]
theorem good_app {s t : List Int} (h1 : goodL s = -1) (h2 : goodL t = -1) : goodL (s ++ t) = -1 := ((good_join s t).1 h1).1 h2
theorem good_ascii : ∀ (l : List Int), (∀ x ∈ l, 0 ≤ x ∧ x < 128) → goodL l = -1
  | [], _ => rfl
  | c :: r, h => good_app (s := [c]) (good_one (h c (by simp)).1 (h c (by simp)).2) (good_ascii r (fun x hx => h x (by simp [hx])))
theorem good_fffd : goodL [239, 191, 189] = -1 := by decide +kernel
theorem good_cutA {s : List Int} (hs : Byt s) {i : Nat} (hi : i < s.length) (hn : ¬ BadA s i) : goodL (cutA s i) = -1 := by
  have hz := ((size_law hs i hi).2 hn).2
  have hp := dec_pos (str s) i
  have hcl : (cutA s i).length = (Utf8.decode (str s) i).2 := by unfold cutA; rw [List.length_take, List.length_drop]; omega
  have hd := dec_same (l := cutA s i) (g := []) (j := 0) hs hi hn (by simp)
  unfold goodL
  rw [hcl]
  obtain ⟨k, hk⟩ : ∃ k, (Utf8.decode (str s) i).2 = k + 1 := ⟨(Utf8.decode (str s) i).2 - 1, by omega⟩
  rw [hk, goodF, hd, if_pos (by omega), if_neg (show ¬ ((Utf8.decode (str s) i).1 = 65533 ∧ (Utf8.decode (str s) i).2 = 1) from hn), goodF_end _ _ _ (by omega)]
theorem hexD_asc {x : Int} (h0 : 0 ≤ x) (h1 : x < 16) : 0 ≤ hexD x ∧ hexD x < 128 := by
  have : ∀ n : Fin 16, 0 ≤ hexD (n.1 : Nat) ∧ hexD (n.1 : Nat) < 128 := by decide
  have := this ⟨x.toNat, by omega⟩
  simp only [show ((x.toNat : Nat) : Int) = x by omega] at this
  exact this
theorem jsh_asc {c : Int} (h : jsh c ≠ 0) : 0 ≤ jsh c ∧ jsh c < 128 := by
  unfold jsh shV at *
  repeat' split at h
  all_goals omega
theorem good_jqC {s : List Int} (hs : Byt s) {i : Nat} (hi : i < s.length) : goodL (jqC s i) = -1 := by
  obtain ⟨c0, c1⟩ := hs.get hi
  unfold jqC
  split
  · exact good_fffd
  · rename_i hb
    split
    · rename_i hj
      have := jsh_asc hj
      refine good_ascii _ (fun x hx => ?_)
      simp only [List.mem_cons, List.not_mem_nil, or_false] at hx
      rcases hx with rfl | rfl
      · decide
      · exact this
    · split
      · have h1 := hexD_asc (x := s.getD i 0 / 16) (by omega) (by omega)
        have h2 := hexD_asc (x := s.getD i 0 % 16) (by omega) (by omega)
        refine good_ascii _ (fun x hx => ?_)
        simp only [List.mem_cons, List.not_mem_nil, or_false] at hx
        rcases hx with rfl | rfl | rfl | rfl | rfl | rfl
        · decide
        · decide
        · decide
        · decide
        · exact h1
        · exact h2
      · exact good_cutA hs hi hb
theorem good_jqB {s : List Int} (hs : Byt s) : ∀ (f i : Nat), goodL (jqB s f i) = -1
  | 0, _ => rfl
  | f + 1, i => by
    rw [jqB]
    split
    · rename_i h
      exact good_app (good_jqC hs h) (good_jqB hs f _)
    · rfl
theorem good_jquote {s : List Int} (hs : Byt s) : goodL (jquoteL s) = -1 := by
  rw [jquote_eq]
  have h34 : goodL [34] = -1 := good_one (by decide) (by decide)
  exact good_app (good_app (s := [34]) h34 (good_jqB hs _ _)) h34
theorem fix_law {s : List Int} (hs : Byt s) : ∀ (f i : Nat), s.length ≤ i + f → i ≤ s.length →
    (goodF s f i = -1 → fixB s f i = s.drop i) ∧ s.length - i ≤ (fixB s f i).length ∧ (goodF s f i ≠ -1 → s.length - i < (fixB s f i).length)
  | 0, i, hf, hi => by
    have : i = s.length := by omega
    subst this
    simp [goodF, fixB]
  | f + 1, i, hf, hi => by
    by_cases hil : ¬ i < s.length
    · rw [goodF, fixB, if_neg hil, if_neg hil]
      have : i = s.length := by omega
      subst this
      simp
    have hil : i < s.length := by omega
    have hp := dec_pos (str s) i
    rw [goodF, fixB, if_pos hil, if_pos hil]
    by_cases hb : BadA s i
    · have hb1 : (Utf8.decode (str s) i).2 = 1 := hb.2
      obtain ⟨_, i2, _⟩ := fix_law hs f (i + (Utf8.decode (str s) i).2) (by omega) (by omega)
      rw [hb1] at i2 ⊢
      rw [if_pos ⟨hb.1, rfl⟩]
      have e2 : fixC s i = [239, 191, 189] := by unfold fixC; rw [if_pos hb]
      rw [e2, List.length_append]
      simp only [List.length_cons, List.length_nil]
      exact ⟨fun h => by omega, by omega, fun _ => by omega⟩
    · have hz := ((size_law hs i hil).2 hb).2
      obtain ⟨i1, i2, i3⟩ := fix_law hs f (i + (Utf8.decode (str s) i).2) (by omega) hz
      rw [if_neg (show ¬ ((Utf8.decode (str s) i).1 = 65533 ∧ (Utf8.decode (str s) i).2 = 1) from hb)]
      have e2 : fixC s i = cutA s i := by unfold fixC; rw [if_neg hb]
      have hcl : (cutA s i).length = (Utf8.decode (str s) i).2 := by unfold cutA; rw [List.length_take, List.length_drop]; omega
      have hcut : cutA s i = (s.drop i).take (Utf8.decode (str s) i).2 := by unfold cutA; rw [show i + (Utf8.decode (str s) i).2 - i = (Utf8.decode (str s) i).2 by omega]
      rw [e2, List.length_append, hcl]
      refine ⟨fun h => ?_, by omega, fun h => by have := i3 h; omega⟩
      rw [i1 h, hcut, ← List.drop_drop, List.take_append_drop]
theorem fix_iff {s : List Int} (hs : Byt s) : fixB s s.length 0 = s ↔ goodL s = -1 := by
  obtain ⟨h1, h2, h3⟩ := fix_law hs s.length 0 (by omega) (Nat.zero_le _)
  constructor
  · intro h
    rcases Classical.em (goodL s = -1) with hg | hg
    · exact hg
    · have := h3 hg
      rw [h] at this
      omega
  · intro h
    exact h1 h
theorem vls_n : ∀ l : List Int, (vls l).length = l.length / 3 * 4 + (if l.length % 3 = 0 then 0 else l.length % 3 + 1)
  | [] => by simp [vls]
  | [_] => by simp [vls]
  | [_, _] => by simp [vls]
  | a :: b :: c :: r => by
    have := vls_n r
    simp only [vls, List.length_cons]
    rw [this]
    split <;> split <;> omega
theorem b64_back {l : List Int} (hb : Byt l) : unb64L (base64L l) = (l, 0) ∧ (base64L l).length = (l.length + 2) / 3 * 4 := by
  obtain ⟨f1, f2, f3, f4, f5, f6, f7⟩ := dgL_facts hb
  refine ⟨?_, ?_⟩
  · rw [base_pad]
    exact back_any hb f1 f3 (.inr rfl)
  · rw [base_pad, List.length_append]
    have hn := vls_n l
    unfold padL padN
    rw [List.length_replicate, f5, hn]
    split <;> omega
end Go.Proofs.YtbpelgbblpeojaaDoor
