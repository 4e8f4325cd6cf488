/- More memory by reckoning: ranges over texts. Plain theorems, no condition. -/
import Derived.Test.YtlamhjlijoampaaGreatDoorXv2
import Derived.Lib.OthersKept
set_option linter.unusedVariables false
set_option linter.unusedSimpArgs false
namespace Go.Xs
open Go.RowKit

def xmem3 (C : Ctx) (E : Env) (h : Hp) : Op → Option OR
  | .range t x => match evX C.G E x with
    | some (.string s) => bif isStr C.P t then some (.val (.pointer (some ⟨h.next, 0, none⟩)) (h.new (.strIter s 0))) else none
    | _ => none
  | .next x true => match evX C.G E x with
    | some (.pointer (some ⟨nm, 0, none⟩)) => match h.get nm with
      | some (.strIter s pos) => bif Nat.blt pos s.data.toList.length then match Utf8.decode s pos with
          | (c, wd) => some (.val (.tuple ⟨[.bool true, .int .i64 (.ofNat pos), .int .i32 (.ofNat c)]⟩) (h.set nm (.strIter s (pos + wd))))
        else some (.val (.tuple ⟨[.bool false]⟩) h)
      | _ => none
    | _ => none
  | _ => none
section
variable {B : World} {F : PH} {C : Ctx} {h : Hp} {ρ : Val} {w : World} {n : Nat} {ds : List SDef} {E : Env} {a : Act} {o : Oper}
theorem xmem3_ok (s : SatX B F C.G h ρ w) (hC : C.OK F) (hA : AgrX h.next ρ n ds E a) {r : OR} (hx : xmem3 C E h o.op = some r) : r.Ok B F C.G h ρ w ((execOp a.eval o).run C.P w) := by
  unfold xmem3 at hx
  split at hx
  · rename_i t x ho
    split at hx
    · rename_i bs hv
      cases hst : isStr C.P t with
      | false => rw [hst] at hx; cases hx
      | true =>
        rw [hst] at hx
        cases hx
        have e1 := (hA.ev s.gl s.gn hv).2
        simp only [ren] at e1
        have hrun := run_range_string (P := C.P) w t bs (isStr_ok hst)
        refine ⟨ρ.put h.next w.heap.size 0, w.iter bs 0, ?_, Val.put_ext _ _ _ _, Nat.le_succ _, by simp [wfv, Nat.blt_eq, Hp.new],
          s.new (w' := w.iter bs 0) (ob := .stringIter bs 0) (o := .strIter bs 0) 0 rfl rfl rfl rfl rfl rfl⟩
        unfold execOp
        simp only [ho, e1, Sem.run_bind, hrun, Result.andThen_ok, Sem.run_pure, ren, Val.put_b]
    · cases hx
  · rename_i x ho
    split at hx
    · rename_i nm hv
      split at hx
      · rename_i bs pos hg
        obtain ⟨_, e1⟩ := hA.ev s.gl s.gn hv
        simp only [ren] at e1
        obtain ⟨_, _, _, obj, hob, hi⟩ := s.ob nm _ hg
        simp only [SObj.is] at hi
        subst hi
        cases hb : Nat.blt pos bs.data.toList.length with
        | true =>
          rw [hb] at hx
          have hlt : pos < bs.size := by simpa [Nat.blt_eq] using hb
          simp only [cond_true, Option.some.injEq] at hx
          subst hx
          have hrun := Lib.run_next_any_at (P := C.P) w (ρ.b nm) bs pos o.type hob hlt
          refine ⟨ρ, _, ?_, Ext.refl _ _, Nat.le_refl _, rfl, s.upd (w' := w.iterAt (ρ.b nm) bs (pos + (Utf8.decode bs pos).2)) hg rfl rfl rfl (Lib.iterAt_heap w _ bs pos _ hob) (fun b hb => Lib.iterAt_other _ _ _ _ _ hb) rfl rfl⟩
          unfold execOp
          simp only [ho, e1, Sem.run_bind, hrun, Result.andThen_ok, Sem.run_pure, ren, renA, renL]
          rfl
        | false =>
          rw [hb] at hx
          cases hx
          have hlt : ¬ pos < bs.size := by
            intro e
            have : Nat.blt pos bs.data.toList.length = true := by simpa [Nat.blt_eq] using e
            rw [this] at hb
            cases hb
          have hrun := Lib.run_next_end_at (P := C.P) w (ρ.b nm) bs pos o.type hob hlt
          refine OR.Ok.same s ?_ rfl
          unfold execOp
          simp only [ho, e1, Sem.run_bind, hrun, Result.andThen_ok, Sem.run_pure, ren, renA, renL]
      · cases hx
    · cases hx
  · cases hx
end
end Go.Xs
