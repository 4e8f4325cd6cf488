/- The ends of functions of three and of four results. Plain theorems, no condition. -/
import Derived.Test.YtbpelgbblpeojabSk10
set_option linter.unusedVariables false
set_option linter.unusedSimpArgs false
namespace Go.Sk
open Go.RowKit
section
variable {B : World} {P : Program} {n : Nat} {E : Env} {H R : List HP} {fn : Func} {Post : Value → List HP → Prop}
theorem AtQ.fin3 {t u x : Nat} {v1 v2 v3 : Value} (hr : fn.results = #[.tmp t, .tmp u, .tmp x]) (he : lk E t = some v1) (he2 : lk E u = some v2) (he3 : lk E x = some v3) {H' : List HP} (hp : Post (.tuple #[v1, v2, v3]) H') (hs : ∀ w, Sat B H w → Sat B (H' ++ R) w) :
    AtQ B (.mk0 n) E H (FinQ B P fn R Post) .ret := by
  intro a w hA hS
  refine bodyPost_ret (v := .tuple #[a.tmps.getD t undef, a.tmps.getD u undef, a.tmps.getD x undef]) (by simp [results, hr]) hA.defers ⟨_, _, rfl, ?_, hs w hS⟩
  rw [show a.tmps.getD t undef = v1 by simp [Array.getD_eq_getD_getElem?, hA.get t v1 he], show a.tmps.getD u undef = v2 by simp [Array.getD_eq_getD_getElem?, hA.get u v2 he2], show a.tmps.getD x undef = v3 by simp [Array.getD_eq_getD_getElem?, hA.get x v3 he3]]
  exact hp
theorem AtQ.fin4 {t u x y : Nat} {v1 v2 v3 v4 : Value} (hr : fn.results = #[.tmp t, .tmp u, .tmp x, .tmp y]) (he : lk E t = some v1) (he2 : lk E u = some v2) (he3 : lk E x = some v3) (he4 : lk E y = some v4) {H' : List HP} (hp : Post (.tuple #[v1, v2, v3, v4]) H')
    (hs : ∀ w, Sat B H w → Sat B (H' ++ R) w) : AtQ B (.mk0 n) E H (FinQ B P fn R Post) .ret := by
  intro a w hA hS
  refine bodyPost_ret (v := .tuple #[a.tmps.getD t undef, a.tmps.getD u undef, a.tmps.getD x undef, a.tmps.getD y undef]) (by simp [results, hr]) hA.defers ⟨_, _, rfl, ?_, hs w hS⟩
  rw [show a.tmps.getD t undef = v1 by simp [Array.getD_eq_getD_getElem?, hA.get t v1 he], show a.tmps.getD u undef = v2 by simp [Array.getD_eq_getD_getElem?, hA.get u v2 he2], show a.tmps.getD x undef = v3 by simp [Array.getD_eq_getD_getElem?, hA.get x v3 he3],
    show a.tmps.getD y undef = v4 by simp [Array.getD_eq_getD_getElem?, hA.get y v4 he4]]
  exact hp
end
end Go.Sk
