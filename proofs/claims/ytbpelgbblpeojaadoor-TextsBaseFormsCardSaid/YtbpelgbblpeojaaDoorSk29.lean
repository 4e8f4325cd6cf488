/- Bytes of a text: a new row that is only read. Plain theorems, no condition. -/
import Derived.Test.YtbpelgbblpeojaaDoorSk24
import Derived.Laws.IdiomStrings
set_option linter.unusedVariables false
set_option linter.unusedSimpArgs false
namespace Go.Sk
open Go.RowKit
section
variable {B : World} {P : Program} {n : Fm} {l0 rest : List Oper} {E : Env} {H R : List HP} {Q : Exit → Act → World → Prop} (T : Tab P) {d : Nat} {ty t t' : TypeId} {pos : String} {af : Array Edge} {g : Option (Nat × Bool)} {x y : Operand}
theorem RT.convSB {e : TypeId} {l : List Int} (hx : ev E x = some (.string (str l))) (hb : Byt l) (ht : al T.kinds t = some 2) (hs : P.underlying t' = some (.slice e)) (he : P.underlying e = some (.int .u8)) (hw : wt l0 E g = some true) (hd : Nat.blt d n.n = true)
    (kt : ∀ a c, l.length ≤ c → RT B P n true l0 rest ((d, .slice a l.length c) :: E) (Ro a (ints .u8 l) :: H) Q) : RT B P n true l0 (⟨some d, .convert t t' x, ty, pos, af, g⟩ :: rest) E H Q :=
  RT.eff hw fun o aa w K ho hty hdd hA hS hK => by
    have hrun := run_bytes_of_string (P := P) w t t' e (str l) (knd_string (T.kind ht)) hs he
    have hsz : (str l).size = l.length := str_size l
    rw [hsz] at hrun
    have hge := grownCap_ge w l.length 0 e
    have hrow : (bytesRow (str l) (grownCap w l.length 0 e)).toList.take (ints .u8 l).length = ints .u8 l := by
      have h1 : (bytesRow (str l) (grownCap w l.length 0 e)).toList = ints .u8 l ++ List.replicate (grownCap w l.length 0 e - (str l).size) (.int .u8 0) := by
        unfold bytesRow
        rw [Array.toList_append, Array.toList_map, Array.toList_replicate]
        congr 1
        exact strCells_str hb
      rw [h1, List.take_left]
    unfold Oper.wp execOp
    simp only [ho, hA.ev hx, Sem.run_bind, hrun, Result.andThen_ok, Sem.run_pure]
    simp only [Oper.upon, hdd]
    exact hK _ _ (kt _ _ hge _ _ (hA.put (by simpa [Nat.blt_eq] using hd) _) (hS.new rfl rfl rfl rfl fun h _ hb => ⟨_, _, _, _, rfl, hb, hrow⟩))
end
end Go.Sk
