/- Structs within slices: their fields' addresses, whole structs out of a slice and into a variable; lists of equal parts. Plain theorems, no condition. -/
import Derived.Test.YtbpelgbblpeojabSk12
set_option linter.unusedVariables false
set_option linter.unusedSimpArgs false
namespace Go.Sk
open Go.RowKit
theorem flat_len {α : Type} {f : α → List Value} {z : Nat} (hz : ∀ x, (f x).length = z) : ∀ (l : List α), (l.flatMap f).length = l.length * z
  | [] => by simp
  | x :: l => by rw [List.flatMap_cons, List.length_append, hz, flat_len hz l, List.length_cons, Nat.add_mul, Nat.one_mul, Nat.add_comm]
theorem flat_sub {α : Type} {f : α → List Value} {z : Nat} (hz : ∀ x, (f x).length = z) : ∀ (l : List α) (i : Nat) (x : α), l[i]? = some x → ((l.flatMap f).drop (i * z)).take z = f x
  | [], i, x, h => by simp at h
  | y :: l, 0, x, h => by
    simp only [List.getElem?_cons_zero, Option.some.injEq] at h
    subst h
    rw [Nat.zero_mul, List.drop_zero, List.flatMap_cons]
    exact List.take_left' (hz y)
  | y :: l, i + 1, x, h => by
    rw [List.getElem?_cons_succ] at h
    rw [List.flatMap_cons, show (i + 1) * z = (f y).length + i * z by rw [hz, Nat.add_mul, Nat.one_mul, Nat.add_comm], ← List.drop_drop, List.drop_left]
    exact flat_sub hz l i x h
theorem flat_get {α : Type} {f : α → List Value} {z : Nat} (hz : ∀ x, (f x).length = z) {l : List α} {i j : Nat} {x : α} (h : l[i]? = some x) (hj : j < z) : (l.flatMap f)[i * z + j]? = (f x)[j]? := by
  rw [← flat_sub hz l i x h, List.getElem?_take_of_lt hj, List.getElem?_drop]
theorem drop_at {α : Type} {l : List α} {i : Nat} (h : i < l.length) : l.drop i = l[i] :: l.drop (i + 1) := List.drop_eq_getElem_cons h
section
variable {B : World} {P : Program} {n : Fm} {m : Bool} {l0 rest : List Oper} {E : Env} {H R : List HP} {Q : Exit → Act → World → Prop} (T : Tab P)
variable {d : Nat} {ty : TypeId} {pos : String} {af : Array Edge} {g : Option (Nat × Bool)} {x y : Operand} {t : TypeId}
theorem RT.faA {f s off z : Nat} {gg : Bool} {ad : Addr} {j : Nat} (hx : ev E x = some (.pointer (some (ad.add j)))) (hf : al2 T.flds s f = some (off, z + 1, gg)) (hw : wt l0 E g = some true) (hd : Nat.blt d n = true)
    (k : RT B P n m l0 rest ((d, .pointer (some (ad.add (j + off)))) :: E) H Q) : RT B P n m l0 (⟨some d, .fieldAddr s x f, ty, pos, af, g⟩ :: rest) E H Q :=
  RT.y hw (by simpa [Nat.blt_eq] using hd) (y_faA T hf hx) k
theorem RT.ldra {k c z j m' : Nat} {a : Option Addr} {xs l : List Value} (hx : ev E x = some (.pointer (some ((adr a).add j)))) (hr : Rd B H a k c z xs) (hl : (xs.drop j).take m' = l) (hm : l.length = m') (ht : al T.szs t = some (m', true)) (hw : wt l0 E g = some true) (hd : Nat.blt d n = true)
    (kt : RT B P n m l0 rest ((d, .agg l.toArray) :: E) H Q) : RT B P n m l0 (⟨some d, .load t x, ty, pos, af, g⟩ :: rest) E H Q :=
  RT.y hw (by simpa [Nat.blt_eq] using hd) (y_ldra T ht hx hr hl hm) kt
/-- A whole struct into (a part of) a variable. -/
theorem RT.stagg {b off z : Nat} {e : TypeId} {l v l' : List Value} {H' : List HP} (hx : ev E x = some (.pointer (some ⟨b, off, none⟩))) (hy : ev E y = some (.agg v.toArray)) (h1 : v.all (fun u => u.oneCell') = true)
    (hr : Rep H (Cs b e l) (Cs b e l') H') (hl' : l.take off ++ v ++ l.drop (off + v.length) = l') (hl : Nat.ble (off + v.length) l.length = true) (hz : v.length = z) (ht : al T.szs t = some (z, true)) (hw : wt l0 E g = some true)
    (k : RT B P n true l0 rest E H' Q) : RT B P n true l0 (⟨none, .store t x y, ty, pos, af, g⟩ :: rest) E H Q :=
  RT.eff hw fun o a w K ho _ hd hA hS hK => by
    subst hl' hz
    have hl2 : off + v.length ≤ l.length := by simpa [Nat.ble_eq] using hl
    obtain ⟨R, s1, _⟩ := hr.sel
    have hb := (hS.cs s1).1
    have hrun := run_storeCells_at P b off e v 0 l.toArray w hb (by simpa using hl2) (fun u hu => List.all_eq_true.1 h1 u hu)
    unfold Oper.wp execOp
    have hsz := (T.sz ht).1
    simp only [ho, hA.ev hx, hA.ev hy, Instr.storeAt, Instr.sureAddr, Sem.run_bind, Sem.run_pure, Result.andThen_ok, storeVar, run_sizeB hsz, Value.cells]
    simp only [List.size_toArray, ne_eq, not_true, if_false, Sem.run_pure, Result.andThen_ok, hrun, Sem.run_bind]
    simp only [Oper.upon, hd, Act.put]
    refine hK _ _ (k _ _ hA ?_)
    refine hS.upd (b := b) hr (fun h hh => ⟨_, hh⟩) (fun _ _ _ _ hh => hh) rfl rfl rfl (by simp [World.setRow]) ?_ (fun x hx => setRow_other w b x _ hx)
    have := setRow_heap w b l.toArray (l.take (off + 0) ++ v ++ l.drop (off + 0 + v.length)).toArray e (0, 0) hb
    simpa using this
end
end Go.Sk
