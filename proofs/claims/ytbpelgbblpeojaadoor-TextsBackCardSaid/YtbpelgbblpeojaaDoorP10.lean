/- Plain law: a text of JSON comes back, whatever stands behind. -/
import Derived.Test.YtbpelgbblpeojaaDoorP9
import Derived.Test.YtbpelgbblpeojaaDoorP8
import Derived.Test.YtbpelgbblpeojaaDoorB39
set_option linter.unusedVariables false
set_option linter.unusedSimpArgs false
namespace Go.Proofs.YtbpelgbblpeojaaDoor
open Go.Sk Go.Lib
set_option maxRecDepth 100000
theorem dec_D (l : List Int) (p : Nat) : Utf8.decode (str l) p = D ((l.map b8).drop p) := by rw [← decodeL_drop (str l) p, str_list]
theorem dec_fffd {l g : List Int} {j : Nat} (hd : l.drop j = 239 :: 191 :: 189 :: g) : Utf8.decode (str l) j = (65533, 3) := by
  have h0 : D [239, 191, 189] = (65533, 3) := by decide
  have e : (l.map b8).drop j = [239, 191, 189] ++ g.map b8 := by rw [← List.map_drop, hd]; rfl
  rw [dec_D, e, D_ext (by simp) (by rw [h0]; unfold BadN; decide), h0]
theorem dec_same {s l g : List Int} {i j : Nat} (hs : Byt s) (hi : i < s.length) (hn : ¬ BadA s i) (hd : l.drop j = cutA s i ++ g) : Utf8.decode (str l) j = Utf8.decode (str s) i := by
  have hz := ((size_law hs i hi).2 hn).2
  have hp := dec_pos (str s) i
  have hn2 : ¬ BadN (Utf8.decode (str s) i) := hn
  have hcut : cutA s i = (s.drop i).take (Utf8.decode (str s) i).2 := by unfold cutA; rw [show i + (Utf8.decode (str s) i).2 - i = (Utf8.decode (str s) i).2 by omega]
  rw [dec_D s i] at hn2
  have e : (l.map b8).drop j = ((s.map b8).drop i).take (Utf8.decode (str s) i).2 ++ g.map b8 := by rw [← List.map_drop, hd, hcut, List.map_append, List.map_take, List.map_drop]
  have hlen : (Utf8.decode (str s) i).2 ≤ ((s.map b8).drop i).length := by rw [List.length_drop, List.length_map]; omega
  have hpre : D (((s.map b8).drop i).take (Utf8.decode (str s) i).2) = D ((s.map b8).drop i) := D_pre hp hlen hn2 (by rw [← dec_D]; exact Nat.le_refl _)
  have hne : ((s.map b8).drop i).take (Utf8.decode (str s) i).2 ≠ [] := by
    intro h
    have := congrArg List.length h
    rw [List.length_take, List.length_nil] at this
    omega
  rw [dec_D l j, e, D_ext hne (by rw [hpre]; exact hn2), hpre, dec_D]
def jqB (s : List Int) : Nat → Nat → List Int
  | 0, _ => []
  | f + 1, i => if i < s.length then jqC s i ++ jqB s f (i + (Utf8.decode (str s) i).2) else []
/-- What comes back: what does not go on is U+FFFD. -/
def fixC (s : List Int) (i : Nat) : List Int := if BadA s i then [239, 191, 189] else cutA s i
def fixB (s : List Int) : Nat → Nat → List Int
  | 0, _ => []
  | f + 1, i => if i < s.length then fixC s i ++ fixB s f (i + (Utf8.decode (str s) i).2) else []
theorem jqF_eq (s : List Int) : ∀ (f i : Nat) (acc : List Int), jqF s f i acc = acc ++ jqB s f i ++ [34]
  | 0, i, acc => by simp [jqF, jqB]
  | f + 1, i, acc => by
    rw [jqF, jqB]
    split
    · rw [jqF_eq s f, List.append_assoc acc]
    · simp
theorem jquote_eq (s : List Int) : jquoteL s = 34 :: jqB s s.length 0 ++ [34] := by
  unfold jquoteL
  rw [jqF_eq]
  rfl
theorem cutA_ascii {s : List Int} {i : Nat} (hs : Byt s) (hi : i < s.length) (hn : ¬ BadA s i) (hc : s.getD i 0 < 128) : cutA s i = [s.getD i 0] ∧ (Utf8.decode (str s) i).2 = 1 := by
  obtain ⟨hv, hd⟩ := dec_chr0 hs hi
  obtain ⟨e, h⟩ := hd hn
  obtain ⟨c0, c1⟩ := hs.get hi
  rcases h with ⟨h1, h2, h3⟩ | ⟨h1, h2⟩
  · refine ⟨?_, h3⟩
    unfold cutA
    rw [h3, cut1 (by omega)]
  · omega
theorem bad_hi {s : List Int} {i : Nat} (hs : Byt s) (hi : i < s.length) (hn : BadA s i) : ¬ s.getD i 0 < 128 := by
  intro h
  obtain ⟨b0, b1, b2, b3, hd, e0, _⟩ := dec_at s hs i hi
  have := hn.1
  rw [hd] at this
  unfold decodeN at this
  rw [if_pos (by omega)] at this
  simp only at this
  omega
theorem jp_jsh {c : Int} (h : jsh c ≠ 0) : jpV (jsh c) = c ∧ 0 ≤ c ∧ c < 128 := by
  unfold jsh shV at *
  have : c = 8 ∨ c = 12 ∨ c = 10 ∨ c = 13 ∨ c = 9 ∨ c = 34 ∨ c = 92 := by
    repeat' split at h
    all_goals omega
  rcases this with h | h | h | h | h | h | h <;> subst h <;> decide
theorem jesc1 {x c : Int} {r : List Int} (h : jpV x = c) (h0 : 0 ≤ c) : jescL (x :: r) = some ([c], 1) := by
  rw [jescL, if_pos (by omega), h]
theorem hexV_hexD {x : Int} (h0 : 0 ≤ x) (h1 : x < 16) : hexV (hexD x) = x := by
  have : ∀ n : Fin 16, hexV (hexD (n.1 : Nat)) = (n.1 : Nat) := by decide
  have := this ⟨x.toNat, by omega⟩
  simp only [show ((x.toNat : Nat) : Int) = x by omega] at this
  exact this
theorem jesc6 {c : Int} {r : List Int} (h0 : 0 ≤ c) (h1 : c < 128) : jescL (117 :: 48 :: 48 :: hexD (c / 16) :: hexD (c % 16) :: r) = some ([c], 5) := by
  have e1 := hexV_hexD (x := c / 16) (by omega) (by omega)
  have e2 := hexV_hexD (x := c % 16) (by omega) (by omega)
  have e0 : hexV 48 = 0 := by decide
  have hk : hcnt (48 :: 48 :: hexD (c / 16) :: hexD (c % 16) :: r) 4 = 4 := by
    simp only [hcnt]
    rw [e0, e1, e2, if_pos (by decide), if_pos (by decide), if_pos (by omega), if_pos (by omega)]
    have : hcnt r 0 = 0 := by cases r <;> rfl
    omega
  have hv : hval (48 :: 48 :: hexD (c / 16) :: hexD (c % 16) :: r) 4 0 = c := by
    simp only [hval]
    rw [e0, e1, e2]
    omega
  have hvr : validR c := val_of (by omega)
  have hch : chrL c = [c] := by unfold chrL; rw [if_pos hvr, if_pos h1]
  rw [jescL, if_neg (by decide), if_pos ⟨rfl, hk⟩, hv, if_pos hvr, hch]
theorem drop_len {l p q : List Int} {j : Nat} (h : l.drop j = p ++ q) : l.drop (j + p.length) = q := by
  rw [← List.drop_drop, h, List.drop_left]
theorem junq_go {s behind : List Int} (hs : Byt s) : ∀ (f i : Nat), s.length ≤ i + f → ∀ (l : List Int) (j : Nat) (acc : List Int), Byt l → l.drop j = jqB s f i ++ 34 :: behind → JunI l j acc →
    junqR l = (acc ++ fixB s f i, j + (jqB s f i).length + 1, 0)
  | 0, i, hf, l, j, acc, hl, hd, hi => by
    obtain ⟨h1, h2, h3⟩ := at_drop hd
    rw [hi.q h1 h2]
    simp [fixB, jqB]
  | f + 1, i, hf, l, j, acc, hl, hd, hi => by
    by_cases hil : ¬ i < s.length
    · rw [jqB, if_neg hil] at hd
      obtain ⟨h1, h2, h3⟩ := at_drop hd
      rw [hi.q h1 h2, fixB, jqB, if_neg hil, if_neg hil]
      simp
    have hil : i < s.length := by omega
    have hp := dec_pos (str s) i
    have ih := junq_go (s := s) (behind := behind) hs f (i + (Utf8.decode (str s) i).2) (by omega) l
    rw [jqB, if_pos hil, List.append_assoc] at hd
    rw [jqB, if_pos hil, fixB, if_pos hil]
    generalize jqB s f (i + (Utf8.decode (str s) i).2) = body at *
    generalize fixB s f (i + (Utf8.decode (str s) i).2) = fx at *
    have fin : ∀ j' acc', j' = j + (jqC s i).length → acc' = acc ++ fixC s i → JunI l j' acc' → junqR l = (acc ++ (fixC s i ++ fx), j + (jqC s i ++ body).length + 1, 0) := fun j' acc' e1 e2 hj => by
      subst e1 e2
      rw [ih _ _ hl (drop_len hd) hj, List.append_assoc, List.length_append]
      congr 2
      omega
    generalize hg : body ++ 34 :: behind = g at *
    obtain ⟨c0, c1⟩ := hs.get hil
    by_cases hb : BadA s i
    · have e : jqC s i = [239, 191, 189] := by unfold jqC; rw [if_pos hb]
      have e2 : fixC s i = [239, 191, 189] := by unfold fixC; rw [if_pos hb]
      rw [e] at hd
      obtain ⟨h1, h2, h3⟩ := at_drop (r := 191 :: 189 :: g) hd
      have hdc := dec_fffd (g := g) hd
      have hcut : cutA l j = [239, 191, 189] := by
        unfold cutA
        rw [hdc, show j + (65533, 3).2 - j = 3 by simp, hd]
        rfl
      have := (hi.go hl h1 (by rw [h2]; decide) (by rw [h2]; decide) (by rw [h2]; decide) (by unfold BadA; rw [hdc]; decide)).1
      rw [hdc, hcut] at this
      exact fin _ _ (by rw [e]; rfl) (by rw [e2]) this
    · have e2 : fixC s i = cutA s i := by unfold fixC; rw [if_neg hb]
      by_cases hj : jsh (s.getD i 0) ≠ 0
      · have e : jqC s i = [92, jsh (s.getD i 0)] := by unfold jqC; rw [if_neg hb, if_pos hj]
        obtain ⟨p1, p2, p3⟩ := jp_jsh hj
        obtain ⟨k1, k2⟩ := cutA_ascii hs hil hb p3
        rw [e] at hd
        obtain ⟨h1, h2, h3⟩ := at_drop (r := jsh (s.getD i 0) :: g) hd
        have := hi.esc hl h1 h2 (by rw [h3]; exact jesc1 p1 p2)
        exact fin _ _ (by rw [e]; rfl) (by rw [e2, k1]) this
      · by_cases hct : s.getD i 0 < 32 ∨ s.getD i 0 = 127
        · have e : jqC s i = [92, 117, 48, 48, hexD (s.getD i 0 / 16), hexD (s.getD i 0 % 16)] := by unfold jqC; rw [if_neg hb, if_neg hj, if_pos hct]
          obtain ⟨k1, k2⟩ := cutA_ascii hs hil hb (by omega)
          rw [e] at hd
          obtain ⟨h1, h2, h3⟩ := at_drop (r := 117 :: 48 :: 48 :: hexD (s.getD i 0 / 16) :: hexD (s.getD i 0 % 16) :: g) hd
          have := hi.esc hl h1 h2 (by rw [h3]; exact jesc6 c0 (by omega))
          exact fin _ _ (by rw [e]; rfl) (by rw [e2, k1]) this
        · have e : jqC s i = cutA s i := by unfold jqC; rw [if_neg hb, if_neg hj, if_neg hct]
          have hz := ((size_law hs i hil).2 hb).2
          have hcl : (cutA s i).length = (Utf8.decode (str s) i).2 := by unfold cutA; rw [List.length_take, List.length_drop]; omega
          rw [e] at hd
          have hdc := dec_same hs hil hb hd
          have hcut : cutA l j = cutA s i := by
            have h5 : cutA l j = (l.drop j).take (Utf8.decode (str s) i).2 := by unfold cutA; rw [hdc, show j + (Utf8.decode (str s) i).2 - j = (Utf8.decode (str s) i).2 by omega]
            rw [h5, hd, ← hcl, List.take_left]
          have hhd : cutA s i = s.getD i 0 :: (cutA s i).tail := by
            unfold cutA
            rw [dropg hil, show i + (Utf8.decode (str s) i).2 - i = ((Utf8.decode (str s) i).2 - 1) + 1 by omega]
            rfl
          rw [hhd] at hd
          obtain ⟨h1, h2, h3⟩ := at_drop (r := (cutA s i).tail ++ g) hd
          have hn34 : s.getD i 0 ≠ 34 := fun h => hj (by rw [h]; decide)
          have hn92 : s.getD i 0 ≠ 92 := fun h => hj (by rw [h]; decide)
          have := (hi.go hl h1 (by rw [h2]; exact hn34) (by rw [h2]; omega) (by rw [h2]; exact hn92) (by unfold BadA; rw [hdc]; exact hb)).1
          rw [hdc, hcut] at this
          exact fin _ _ (by rw [e, hcl]) (by rw [e2]) this
theorem jqB_byt {s : List Int} (hs : Byt s) : ∀ (f i : Nat), Byt (jqB s f i)
  | 0, _ => Byt.nil
  | f + 1, i => by
    rw [jqB]
    split
    · rename_i h
      exact (jqC_ok hs h).2.app (jqB_byt hs f _)
    · exact Byt.nil
theorem jquoteL_byt {s : List Int} (hs : Byt s) : Byt (jquoteL s) := by
  rw [jquote_eq]
  exact (Byt.cons (by decide) (jqB_byt hs _ _)).app (by decide)
theorem junq_back {s behind : List Int} (hs : Byt s) (hb : Byt behind) : junqL (jquoteL s ++ behind) = (fixB s s.length 0, (jquoteL s).length, 0) := by
  have hl : Byt (jquoteL s ++ behind) := (jquoteL_byt hs).app hb
  have e : jquoteL s ++ behind = 34 :: (jqB s s.length 0 ++ 34 :: behind) := by rw [jquote_eq]; simp
  have hlen : (jquoteL s).length = (jqB s s.length 0).length + 2 := by rw [jquote_eq]; simp
  rw [e] at hl ⊢
  rw [junqL, if_neg (by intro h; rcases h with h | h
                        · cases h
                        · exact h rfl)]
  rw [junq_go hs s.length 0 (by omega) _ 1 [] hl rfl (JunI.z (by simp)), hlen]
  congr 2
  omega
end Go.Proofs.YtbpelgbblpeojaaDoor
