/- Plain laws: base64 as groups of three bytes; what is read. -/
import Derived.Test.YtbpelgbblpeojaaDoorB13
set_option linter.unusedVariables false
set_option linter.unusedSimpArgs false
namespace Go.Proofs.YtbpelgbblpeojaaDoor
open Go.Sk
set_option maxRecDepth 100000
theorem bad_iff (l : List Int) : bad64 l ↔ (rbad l ∨ vlen l ≠ elen l) := by
  have hvl := vlen_le l
  have hel := elen_le l
  have hve := vlen_elen l
  obtain ⟨_, ht2, ht3⟩ := tr_spec l l.length
  have ht2' : ∀ j, elen l ≤ j → j < l.length → l.getD j 0 = 61 := ht2
  have ht3' : 0 < elen l → l.getD (elen l - 1) 0 ≠ 61 := ht3
  constructor
  · intro hb
    by_cases hne : vlen l = elen l
    · refine .inl ?_
      rcases hb with h | ⟨h1, h2⟩
      · exact .inl (by omega)
      · have hlt : vlen l < l.length := by
          rcases Nat.lt_or_ge (vlen l) l.length with h | h
          · exact h
          · exact absurd (List.drop_of_length_le h) h1
        refine .inr ⟨by omega, ?_⟩
        by_cases h2' : 2 < l.length - elen l
        · exact .inl h2'
        · refine .inr fun h4 => ?_
          rcases h2 with h2 | h2
          · omega
          · apply h2
            have hr : 4 - vlen l % 4 = l.length - elen l := by omega
            rw [hr]
            have hx := ht2' (elen l) (Nat.le_refl _) (by omega)
            rw [hne, drop_get (by omega), hx]
            by_cases h1' : l.length - elen l = 1
            · rw [h1', List.drop_of_length_le (by omega)]; rfl
            · have h22 : l.length - elen l = 2 := by omega
              have hx2 := ht2' (elen l + 1) (by omega) (by omega)
              rw [h22, drop_get (by omega), hx2, List.drop_of_length_le (by omega)]; rfl
    · exact .inr hne
  · intro hr
    by_cases hb : bad64 l
    · exact hb
    · exfalso
      unfold bad64 at hb
      have h1 : ¬ vlen l % 4 = 1 := fun h => hb (.inl h)
      by_cases h0 : l.drop (vlen l) = []
      · have : l.length ≤ vlen l := List.drop_eq_nil_iff.1 h0
        rcases hr with (h | h) | h <;> omega
      · have h2 : ¬ vlen l % 4 = 0 := fun h => hb (.inr ⟨h0, .inl h⟩)
        have h3 : l.drop (vlen l) = [61, 61].take (4 - vlen l % 4) := by
          by_cases h : l.drop (vlen l) = [61, 61].take (4 - vlen l % 4)
          · exact h
          · exact absurd (.inr ⟨h0, .inr h⟩) hb
        have hlen : l.length - vlen l = 4 - vlen l % 4 := by
          have := congrArg List.length h3
          rw [List.length_drop, List.length_take] at this
          simp only [List.length_cons, List.length_nil] at this
          omega
        have hee : elen l = vlen l := by
          by_cases he : elen l = vlen l
          · exact he
          · exfalso
            apply ht3' (by omega)
            have hj : l.getD (elen l - 1) 0 = (l.drop (vlen l)).getD (elen l - 1 - vlen l) 0 := by
              simp only [List.getD_eq_getElem?_getD, List.getElem?_drop]
              rw [show vlen l + (elen l - 1 - vlen l) = elen l - 1 by omega]
            rw [hj, h3]
            have h23 : 4 - vlen l % 4 = 1 ∨ 4 - vlen l % 4 = 2 := by omega
            rcases h23 with h | h
            · rw [h, show elen l - 1 - vlen l = 0 by omega]; rfl
            · rw [h]
              have : elen l - 1 - vlen l = 0 ∨ elen l - 1 - vlen l = 1 := by omega
              rcases this with h' | h' <;> rw [h'] <;> rfl
        rcases hr with (h | h) | h <;> omega
theorem unb_eq (l : List Int) : unb64L l = runb64L l := by
  unfold unb64L runb64L
  by_cases h : bad64 l
  · rw [if_pos h, if_pos ((bad_iff l).1 h)]
  · rw [if_neg h, if_neg (fun h' => h ((bad_iff l).2 h'))]
def padded (m : List Int) : List Int := b64 0 0 m ++ List.replicate (padN (b64 0 0 m).length) 61
theorem b64_three {a b c : Int} {r : List Int} (ha : isB a) (hb : isB b) (hc : isB c) : b64 0 0 (a :: b :: c :: r) = [dg ((a * 65536 + b * 256 + c) / 262144), dg ((a * 65536 + b * 256 + c) / 4096 % 64), dg ((a * 65536 + b * 256 + c) / 64 % 64), dg ((a * 65536 + b * 256 + c) % 64)] ++ b64 0 0 r := by
  obtain ⟨a0, a1⟩ := ha
  obtain ⟨b0, b1⟩ := hb
  obtain ⟨c0, c1⟩ := hc
  simp only [b64, digs]
  simp [List.range_succ]
  refine ⟨congrArg dg (by omega), congrArg dg (by omega), congrArg dg (by omega), congrArg dg (by omega)⟩
theorem b64_two {a b : Int} (ha : isB a) (hb : isB b) : b64 0 0 [a, b] = [dg ((a * 65536 + b * 256) / 262144), dg ((a * 65536 + b * 256) / 4096 % 64), dg ((a * 65536 + b * 256) / 64 % 64)] := by
  obtain ⟨a0, a1⟩ := ha
  obtain ⟨b0, b1⟩ := hb
  simp only [b64, digs]
  simp [List.range_succ]
  refine ⟨congrArg dg (by omega), congrArg dg (by omega), congrArg dg (by omega)⟩
theorem b64_one {a : Int} (ha : isB a) : b64 0 0 [a] = [dg (a * 65536 / 262144), dg (a * 65536 / 4096 % 64)] := by
  obtain ⟨a0, a1⟩ := ha
  simp only [b64, digs]
  simp [List.range_succ]
  refine ⟨congrArg dg (by omega), congrArg dg (by omega)⟩
theorem r64_eq {l : List Int} (hb : Byt l) : ∀ (f at_ : Nat), l.length ≤ at_ + f → r64F l f at_ = padded (l.drop at_)
  | 0, at_, h => by
    rw [List.drop_of_length_le (by omega)]
    rfl
  | f + 1, at_, h => by
    rw [r64F]
    split
    · rename_i hlt
      have ih := r64_eq hb f (at_ + 3) (by omega)
      rw [ih]
      have ha := hb.get hlt
      rw [drop_get hlt]
      generalize hA : l.getD at_ 0 = a at *
      by_cases h1 : at_ + 1 < l.length
      · have hb1 := hb.get h1
        rw [drop_get h1]
        generalize hB : l.getD (at_ + 1) 0 = b at *
        by_cases h2 : at_ + 2 < l.length
        · have hc1 := hb.get h2
          rw [drop_get (i := at_ + 1 + 1) h2]
          have hn : nn l at_ 3 = (256 * (256 * (256 * 0 + a) + b) + l.getD (at_ + 2) 0, 3) := by
            rw [nn, if_pos h2, nn, if_pos h1, nn, if_pos (by omega), nn_zero]
            simp only [Nat.add_zero, hA, hB]
          rw [hn]
          show _ = padded (a :: b :: l.getD (at_ + 2) 0 :: l.drop (at_ + 3))
          generalize l.getD (at_ + 2) 0 = c at *
          unfold padded
          rw [b64_three ha hb1 hc1]
          have hp : padN ([dg ((a * 65536 + b * 256 + c) / 262144), dg ((a * 65536 + b * 256 + c) / 4096 % 64), dg ((a * 65536 + b * 256 + c) / 64 % 64), dg ((a * 65536 + b * 256 + c) % 64)] ++ b64 0 0 (l.drop (at_ + 3))).length = padN (b64 0 0 (l.drop (at_ + 3))).length := by
            simp only [List.length_append, List.length_cons, List.length_nil, padN]
            omega
          rw [hp, List.append_assoc, show (256 : Int) * (256 * (256 * 0 + a) + b) + c = a * 65536 + b * 256 + c by omega]
          rfl
        · have hn : nn l at_ 3 = (256 * (256 * (256 * 0 + a) + b), 2) := by
            rw [nn, if_neg h2, nn, if_pos h1, nn, if_pos (by omega), nn_zero]
            simp only [Nat.add_zero, hA, hB]
          rw [hn, List.drop_of_length_le (i := at_ + 1 + 1) (by omega), List.drop_of_length_le (i := at_ + 3) (by omega)]
          unfold padded
          rw [b64_two ha hb1, show (256 : Int) * (256 * (256 * 0 + a) + b) = a * 65536 + b * 256 by omega]
          rfl
      · have hn : nn l at_ 3 = (256 * (256 * (256 * 0 + a)), 1) := by
          rw [nn, if_neg (by omega), nn, if_neg h1, nn, if_pos (by omega), nn_zero]
          simp only [Nat.add_zero, hA]
        rw [hn, List.drop_of_length_le (i := at_ + 1) (by omega), List.drop_of_length_le (i := at_ + 3) (by omega)]
        unfold padded
        rw [b64_one ha, show (256 : Int) * (256 * (256 * 0 + a)) = a * 65536 by omega]
        rfl
    · rw [List.drop_of_length_le (by omega)]
      rfl
theorem base_eq {l : List Int} (hb : Byt l) : base64L l = r64L l := by
  rw [r64L, r64_eq hb _ _ (by omega)]
  rfl
theorem unb_byt {l : List Int} : True := trivial
end Go.Proofs.YtbpelgbblpeojaaDoor
