/- make([]T, 0, n): an owned slice with room. Plain theorems, no condition. -/
import Derived.Test.YtbpelgbblpeojabSk21
import Derived.Laws.MakeOwn
set_option linter.unusedVariables false
set_option linter.unusedSimpArgs false
namespace Go.Sk
open Go.RowKit
section
variable {B : World} {P : Program} {n : Fm} {l0 rest : List Oper} {E : Env} {H R : List HP} {Q : Exit → Act → World → Prop} (T : Tab P)
variable {d : Nat} {ty : TypeId} {pos : String} {af : Array Edge} {g : Option (Nat × Bool)} {x y : Operand} {t : TypeId}
theorem RT.mk0 {e by_ c : Nat} {z : Value} {kl kc : IntKind} (hx : ev E x = some (.int kl 0)) (hy : ev E y = some (.int kc (c : Int))) (ht : al T.slcs t = some (e, 1, by_)) (hz : al T.zers e = some z) (hzs : z.cells.size = 1) (hby : by_ * c ≤ 281474976710656) (hc : c ≤ 140737488355328) (hw : wt l0 E g = some true) (hd : Nat.blt d n = true)
    (kt : ∀ a, RT B P n true l0 rest ((d, .slice a 0 c) :: E) (Own a c e 1 0 [] :: H) Q) : RT B P n true l0 (⟨some d, .makeSlice t x y, ty, pos, af, g⟩ :: rest) E H Q :=
  RT.eff hw fun o aa w K ho _ hdd hA hS hK => by
    obtain ⟨hu, i, hi, hisz, hiby⟩ := slcB_spec (T.slc ht)
    have hzi : i.zero = some z := by simpa [zerB, hi] using T.zer hz
    have hb' : (i.bytes : Int) * (c : Int) ≤ 281474976710656 := by
      rw [hiby]
      have h : ((by_ * c : Nat) : Int) ≤ 281474976710656 := by omega
      rwa [Int.natCast_mul] at h
    have hr := run_make (P := P) w t e i z hu hi hzi kl kc 0 c (Int.le_refl _) (by omega) hb' (by omega)
    simp only [Int.toNat_zero, Int.toNat_natCast] at hr
    unfold Oper.wp execOp
    simp only [ho, hA.ev hx, hA.ev hy, Sem.run_bind, hr, Result.andThen_ok, Sem.run_pure]
    simp only [Oper.upon, hdd]
    refine hK _ _ (kt _ _ _ (hA.put (by simpa [Nat.blt_eq] using hd) _) (hS.new rfl rfl rfl rfl fun h _ hb => ?_))
    exact ⟨rfl, Nat.zero_le _, by unfold maxLen; omega, .inr ⟨_, _, rfl, hb, by rw [hisz, size_madeCells, Nat.mul_one], by simp⟩⟩
end
end Go.Sk
