/- Equality of texts that are alike; equality of truth values. Plain theorems, no condition. -/
import Derived.Test.YtbpelgbblpeojabSk23
set_option linter.unusedVariables false
set_option linter.unusedSimpArgs false
namespace Go.Sk
open Go.RowKit
section
variable {B : World} {P : Program} {n : Fm} {m : Bool} {l0 rest : List Oper} {E : Env} {H : List HP} {Q : Exit → Act → World → Prop} {d : Nat} {ty t t' : TypeId} {pos : String} {af : Array Edge} {g : Option (Nat × Bool)} {x y : Operand}
theorem RT.eqsame {s : ByteArray} (hx : ev E x = some (.string s)) (hy : ev E y = some (.string s)) (hw : wt l0 E g = some true) (hd : Nat.blt d n = true)
    (k1 : RT B P n m l0 rest ((d, .bool true) :: E) H Q) : RT B P n m l0 (⟨some d, .binOp .eql t x y t', ty, pos, af, g⟩ :: rest) E H Q := by
  have hy2 : Yld B P n E H (.binOp .eql t x y t') ty (.bool true) := y_run fun o aa w ho _ hA _ => by
    unfold execOp
    simp only [ho, hA.ev hx, hA.ev hy, eqGuard, binOp, Op.stringOp, ByteArray.toList_eq, list_beq_iff, decide_true]
    rfl
  exact RT.y hw (by simpa [Nat.blt_eq] using hd) hy2 k1
theorem RT.nesame {s : ByteArray} (hx : ev E x = some (.string s)) (hy : ev E y = some (.string s)) (hw : wt l0 E g = some true) (hd : Nat.blt d n = true)
    (k1 : RT B P n m l0 rest ((d, .bool false) :: E) H Q) : RT B P n m l0 (⟨some d, .binOp .neq t x y t', ty, pos, af, g⟩ :: rest) E H Q := by
  have hy2 : Yld B P n E H (.binOp .neq t x y t') ty (.bool false) := y_run fun o aa w ho _ hA _ => by
    unfold execOp
    simp only [ho, hA.ev hx, hA.ev hy, eqGuard, binOp, Op.stringOp, ByteArray.toList_eq, bne, list_beq_iff, decide_true]
    rfl
  exact RT.y hw (by simpa [Nat.blt_eq] using hd) hy2 k1
theorem run_eqb {P : Program} {w : World} {t : TypeId} {b b' : Bool} (hu : P.underlying t = some .bool) : (Op.equal t (.bool b) (.bool b')).run P w = .ok (b == b') w := run_eqv fun d => by
  cases b <;> cases b' <;> (simp only [Op.equalIn, Sem.run_bind, run_underlying hu, Result.andThen_ok]; rfl)
theorem RT.eqb {b b' : Bool} (hu : P.underlying t = some .bool) (hx : ev E x = some (.bool b)) (hy : ev E y = some (.bool b')) (hw : wt l0 E g = some true) (hd : Nat.blt d n = true)
    (k1 : RT B P n m l0 rest ((d, .bool (b == b')) :: E) H Q) : RT B P n m l0 (⟨some d, .binOp .eql t x y t', ty, pos, af, g⟩ :: rest) E H Q := by
  have hy2 : Yld B P n E H (.binOp .eql t x y t') ty (.bool (b == b')) := y_run fun o aa w ho _ hA _ => by
    have h1 : binOp .eql t (.bool b) (.bool b') = (do pure (.bool (← Op.equal t (.bool b) (.bool b')))) := by cases b <;> cases b' <;> rfl
    have h2 : eqGuard .eql t x y (.bool b) (.bool b') = pure () := by cases b <;> cases b' <;> rfl
    unfold execOp
    simp only [ho, hA.ev hx, hA.ev hy, h1, h2, Sem.run_bind, Sem.run_pure, Result.andThen_ok, run_eqb hu]
  exact RT.y hw (by simpa [Nat.blt_eq] using hd) hy2 k1
theorem RT.neb {b b' : Bool} (hu : P.underlying t = some .bool) (hx : ev E x = some (.bool b)) (hy : ev E y = some (.bool b')) (hw : wt l0 E g = some true) (hd : Nat.blt d n = true)
    (k1 : RT B P n m l0 rest ((d, .bool (b != b')) :: E) H Q) : RT B P n m l0 (⟨some d, .binOp .neq t x y t', ty, pos, af, g⟩ :: rest) E H Q := by
  have hy2 : Yld B P n E H (.binOp .neq t x y t') ty (.bool (b != b')) := y_run fun o aa w ho _ hA _ => by
    have h1 : binOp .neq t (.bool b) (.bool b') = (do pure (.bool !(← Op.equal t (.bool b) (.bool b')))) := by cases b <;> cases b' <;> rfl
    have h2 : eqGuard .neq t x y (.bool b) (.bool b') = pure () := by cases b <;> cases b' <;> rfl
    unfold execOp
    simp only [ho, hA.ev hx, hA.ev hy, h1, h2, Sem.run_bind, Sem.run_pure, Result.andThen_ok, run_eqb hu]
    rfl
  exact RT.y hw (by simpa [Nat.blt_eq] using hd) hy2 k1
end
theorem eqbool {B : World} {P : Program} {n : Fm} {m : Bool} {l0 rest : List Oper} {E : Env} {H : List HP} {Q : Exit → Act → World → Prop} {d : Nat} {ty t t' : TypeId} {pos : String} {af : Array Edge} {g : Option (Nat × Bool)} {x y : Operand} {b : Bool} (hu : P.underlying t = some .bool)
    (hx : ev E x = some (.bool b)) (hy : ev E y = some (.bool b)) (hw : wt l0 E g = some true) (hd : Nat.blt d n = true)
    (k1 : RT B P n m l0 rest ((d, .bool true) :: E) H Q) : RT B P n m l0 (⟨some d, .binOp .eql t x y t', ty, pos, af, g⟩ :: rest) E H Q :=
  RT.eqb hu hx hy hw hd (by cases b <;> exact k1)
end Go.Sk
