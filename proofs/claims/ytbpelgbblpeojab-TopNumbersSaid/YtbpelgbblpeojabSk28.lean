/- Marks behind other pieces. Plain theorems, no condition. -/
import Derived.Test.YtbpelgbblpeojabSk27
set_option linter.unusedVariables false
set_option linter.unusedSimpArgs false
namespace Go.Sk
open Go.RowKit
theorem star_mid {a : HP} : ∀ (M R : List HP) (h : PH), star (a :: (M ++ R)) h → star (M ++ (a :: R)) h
  | [], _, _, s => s
  | _ :: M, R, _, s => star_cons_mono (fun h => star_mid M R h) (star_swap s)
theorem star_marks (M R : List HP) : ∀ (A : List HP) (h : PH), star (A ++ (M ++ R)) h → star (M ++ (A ++ R)) h
  | [], _, s => s
  | a :: A, h, s => star_mid M (A ++ R) h (star_cons_mono (fun h => star_marks M R A h) s)
theorem Sat.marks {B : World} {w : World} {A M R : List HP} (h : Sat B (A ++ (M ++ R)) w) : Sat B (M ++ (A ++ R)) w := h.mono (star_marks M R A)
end Go.Sk
