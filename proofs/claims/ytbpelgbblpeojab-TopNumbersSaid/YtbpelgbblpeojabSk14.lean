/- Some pieces kept, others let go. Plain theorems, no condition. -/
import Derived.Test.YtbpelgbblpeojabSk13
set_option linter.unusedVariables false
set_option linter.unusedSimpArgs false
namespace Go.Sk
theorem star_keep (Ps Qs R : List HP) (h : PH) (s : star (Ps ++ (Qs ++ R)) h) : star (Ps ++ R) h := by
  obtain ⟨h1, h2, d, l1, l2, sA, sB⟩ := star_split _ _ _ s
  obtain ⟨k1, k2, d', m1, m2, _, sR⟩ := star_split _ _ _ sB
  exact star_app Ps R h1 k2 h (d.mono (Le.refl _) m2) l1 (m2.trans l2) sA sR
theorem Sat.frd {B : World} {H Ps Qs R : List HP} {w : World} (s : Sat B H w) (f : Fr H Ps (Qs ++ R)) : Sat B (Ps ++ R) w := (s.fr f).mono fun h hs => star_keep Ps Qs R h hs
end Go.Sk
