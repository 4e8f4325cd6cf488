/- A function with three results. Plain theorems, no condition. -/
import Derived.Test.YtbpelgbblpeojabSk20
set_option linter.unusedVariables false
set_option linter.unusedSimpArgs false
namespace Go.Sk
open Go.RowKit
section
variable {B : World} {P : Program} {n : Nat} {E : Env} {H R HH : List HP} {fn : Func} {Post : Value → List HP → Prop}
theorem res3 {fn : Func} {t u v : Nat} (h : fn.results = #[.tmp t, .tmp u, .tmp v]) (tmps : Array Value) (P : Program) (w : World) :
    (results fn tmps).run P w = .ok (.tuple #[tmps.getD t undef, tmps.getD u undef, tmps.getD v undef]) w := by
  simp [results, h]
theorem AtQ.f3 {t u s : Nat} {v1 v2 v3 u1 u2 u3 : Value} (hr : fn.results = #[.tmp t, .tmp u, .tmp s]) (he : lk E t = some v1) (he2 : lk E u = some v2) (he3 : lk E s = some v3) (h1 : v1 = u1) (h2 : v2 = u2) (h3 : v3 = u3) (hs : ∀ w, Sat B H w → Sat B (HH ++ R) w) :
    AtQ B (.mk0 n) E H (FinQ B P fn R (fun x H' => x = .tuple #[u1, u2, u3] ∧ H' = HH)) .ret := by
  subst h1 h2 h3
  intro a w hA hS
  refine bodyPost_ret (res3 hr _ _ _) hA.defers ⟨_, _, rfl, ⟨?_, rfl⟩, hs w hS⟩
  rw [show a.tmps.getD t undef = v1 by simp [Array.getD_eq_getD_getElem?, hA.get t v1 he], show a.tmps.getD u undef = v2 by simp [Array.getD_eq_getD_getElem?, hA.get u v2 he2], show a.tmps.getD s undef = v3 by simp [Array.getD_eq_getD_getElem?, hA.get s v3 he3]]
end
end Go.Sk
