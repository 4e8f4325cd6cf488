/- All operations together. Plain theorems, no condition. -/
import Derived.Test.YtlamhjlijoampaaGreatDoorXv7
set_option linter.unusedVariables false
set_option linter.unusedSimpArgs false
namespace Go.Xs
open Go.RowKit
open Go.Sk (isAggB sizeB fldB slcB zerB plB run_sizeB run_isAggB slcB_spec fldB_spec zerB_spec)
/-- One operation. -/
def xop (C : Ctx) (E : Env) (h : Hp) (o : Oper) : Option OR := match xval C E h o.op with
  | some v => some (.val v h)
  | none => match xval2 C E h o.op with
    | some v => some (.val v h)
    | none => match xmem C E h o.op with
      | some r => some r
      | none => match xmem2 C E h o.op with
        | some r => some r
        | none => match xmem3 C E h o.op with
          | some r => some r
          | none => match xval3 C E h o.op with
            | some v => some (.val v h)
            | none => match xmem4 C E h o.op with
              | some r => some r
              | none => match xext C E o.op with
                | some v => some (.val v h)
                | none => match xval4 C E h o.op with
                  | some v => some (.val v h)
                  | none => match xmem5 C E h o.op with
                    | some r => some r
                    | none => xpure C E h o
section
variable {B : World} {F : PH} {C : Ctx} {h : Hp} {ρ : Val} {w : World} {n : Nat} {ds : List SDef} {E : Env} {a : Act} {o : Oper}
theorem xmem_ok (s : SatX B F C.G h ρ w) (hC : C.OK F) (hf : C.FOK) (hA : AgrX h.next ρ n ds E a) {r : OR} (hx : xmem C E h o.op = some r) : r.Ok B F C.G h ρ w ((execOp a.eval o).run C.P w) := by
  unfold xmem at hx
  split at hx
  -- alloc
  · rename_i t ho
    split at hx
    · rename_i z hz
      cases hn : noAddr z with
      | false => rw [hn] at hx; cases hx
      | true =>
        rw [hn] at hx
        cases hx
        have hw0 : wfL 0 (vcells z) = true := wf_cells hn
        obtain ⟨ρ', w', hw', he, hb, hs⟩ := run_xnew (C := C) s (e := t) (wfL_mono (Nat.zero_le _) _ hw0)
        refine ⟨ρ', w', ?_, he, Nat.le_succ _, by simp [wfv, Nat.blt_eq, Hp.new], hs⟩
        unfold execOp
        simp only [ho, Instr.alloc, newVar, newRow, Sem.run_bind, zerB_spec (P := C.P) (w := w) hz, Result.andThen_ok, hw', ren, hb, cells_vcells, renL_id ρ _ hw0]
        rfl
    · cases hx
  -- box
  · rename_i t x ho
    split at hx
    · rename_i v hv
      cases hx
      obtain ⟨h1, h2⟩ := hA.ev s.gl s.gn hv
      obtain ⟨ρ', w', hw', he, hb, hs⟩ := run_xnew (C := C) s (e := t) (wf_cells h1)
      refine ⟨ρ', w', ?_, he, Nat.le_succ _, by simp [wfv, Nat.blt_eq, Hp.new], hs⟩
      unfold execOp
      have hr : (Instr.box t (ren ρ v)).run C.P w = .ok (.pointer (some ⟨w.heap.size, 0, none⟩)) w' := by rw [run_box, hw', ren_cells]
      simp only [ho, h2, Sem.run_bind, hr, Result.andThen_ok, Sem.run_pure, ren, hb]
    · cases hx
  -- build
  · rename_i t parts ho
    split at hx
    · rename_i v hv
      cases hx
      obtain ⟨h1, h2⟩ := xbuild_ok s hA hv
      refine OR.Ok.same s ?_ h1
      unfold execOp
      simp only [ho, Sem.run_bind, h2, Result.andThen_ok, Sem.run_pure]
    · cases hx
  -- buildSlice
  · rename_i t len parts ho
    obtain ⟨v, h', ρ', w', rfl, h1, h2, h3, h4, h5⟩ := xbuildSlice_ok s hA hx
    refine ⟨ρ', w', ?_, h2, h3, h4, h5⟩
    unfold execOp
    simp only [ho, Sem.run_bind, h1, Result.andThen_ok, Sem.run_pure]
  -- store
  · rename_i t x y ho
    split at hx
    · rename_i u hu
      split at hx
      · rename_i v hv
        split at hx
        · rename_i h' hst
          cases hx
          obtain ⟨_, h2⟩ := hA.ev s.gl s.gn hu
          obtain ⟨h3, h4⟩ := hA.ev s.gl s.gn hv
          obtain ⟨w', h5, h6, h7⟩ := run_xstore s h3 hst
          refine ⟨w', ?_, h6, h7⟩
          unfold execOp
          simp only [ho, h2, h4, Sem.run_bind, h5, Result.andThen_ok, Sem.run_pure]
        · cases hx
      · cases hx
    · cases hx
  -- append
  · rename_i x y t u ho
    cases hb : Nat.beq t u with
    | false => rw [hb] at hx; cases hx
    | true =>
      rw [hb] at hx
      rw [Nat.beq_eq] at hb
      subst hb
      simp only [cond_true] at hx
      split at hx
      · rename_i v hv
        split at hx
        · rename_i v' hv'
          obtain ⟨h1, h2⟩ := hA.ev s.gl s.gn hv
          obtain ⟨h3, h4⟩ := hA.ev s.gl s.gn hv'
          obtain ⟨u, h', ρ', w', rfl, q1, q2, q3, q4, q5⟩ := xappend_ok (ty := o.type) s hC h1 hx
          refine ⟨ρ', w', ?_, q2, q3, q4, q5⟩
          unfold execOp
          simp only [ho, resolve, invoke, builtin, Sem.run_bind, Sem.run_pure, Result.andThen_ok, List.map_toArray, List.map_cons, List.map_nil, h2, h4, q1]
        · cases hx
      · cases hx
  -- call
  · rename_i f xs ats ho
    split at hx
    · rename_i g fi cap hfv
      split at hx
      · rename_i vs hvs
        split at hx
        · rename_i fn hfn
          cases hx
          obtain ⟨h1, h2⟩ := hA.ev s.gl s.gn hfv
          obtain ⟨h3, h4⟩ := evsX_ok s hA hvs
          simp only [wfv, wfA, Bool.and_eq_true] at h1
          obtain ⟨f1, f2, f3⟩ := hf g fn hfn
          refine ⟨?_, wfL_app.2 ⟨wfL_app.2 ⟨h1.1, h3⟩, h1.2⟩⟩
          have hcall : ∀ args, (callFunc g args).run C.P w = .ok (.enter g args) w := fun args => by
            have hb : ¬ fn.body = none := by intro e; rw [e] at f2; cases f2
            have hn : ¬ fn.name = "runtime.NumGoroutine" := by simpa using f3
            simp [callFunc, f1, hn, hb, go_sem]
          unfold execOp
          simp only [ho, resolve, Sem.run_bind, List.map_toArray, h4, h2, ren, renA, Deferred.ofValue, Sem.run_pure, Result.andThen_ok, invoke, hcall]
          simp [renL_app]
        · cases hx
      · cases hx
    · cases hx
  -- panic
  · rename_i x ho
    split at hx
    · rename_i t v hv
      cases hx
      obtain ⟨h1, h2⟩ := hA.ev s.gl s.gn hv
      refine ⟨?_, h1⟩
      unfold execOp
      simp only [ho, h2, ren, Instr.panic, Sem.run_bind]
      rfl
    · cases hx
  -- defer
  · rename_i f xs ats ho
    split at hx
    · rename_i g cap hfv
      split at hx
      · rename_i vs hvs
        cases hx
        obtain ⟨h1, h2⟩ := hA.ev s.gl s.gn hfv
        obtain ⟨h3, h4⟩ := evsX_ok s hA hvs
        simp only [wfv, wfA, Bool.and_eq_true] at h1
        refine ⟨?_, h1.2, h3⟩
        unfold execOp
        simp only [ho, resolve, Sem.run_bind, List.map_toArray, h4, h2, ren, renA, Deferred.ofValue, Sem.run_pure, Result.andThen_ok, renD]
        simp [renL]
      · cases hx
    · cases hx
  · cases hx
theorem xop_ok (s : SatX B F C.G h ρ w) (hC : C.OK F) (hf : C.FOK) (hA : AgrX h.next ρ n ds E a) {r : OR} (hx : xop C E h o = some r) : r.Ok B F C.G h ρ w ((execOp a.eval o).run C.P w) := by
  unfold xop at hx
  split at hx
  · rename_i v hv
    cases hx
    obtain ⟨h1, h2⟩ := xval_ok s hC hA hv
    exact OR.Ok.same s h2 h1
  · split at hx
    · rename_i v hv
      cases hx
      obtain ⟨h1, h2⟩ := xval2_ok s hC hA hv
      exact OR.Ok.same s h2 h1
    · split at hx
      · rename_i r' hr
        cases hx
        exact xmem_ok s hC hf hA hr
      · split at hx
        · rename_i r' hr
          cases hx
          exact xmem2_ok s hC hA hr
        · split at hx
          · rename_i r' hr
            cases hx
            exact xmem3_ok s hC hA hr
          · split at hx
            · rename_i v hv
              cases hx
              obtain ⟨h1, h2⟩ := xval3_ok s hC hA hv
              exact OR.Ok.same s h2 h1
            · split at hx
              · rename_i r' hr
                cases hx
                exact xmem4_ok s hC hA hr
              · split at hx
                · rename_i v hv
                  cases hx
                  obtain ⟨h1, h2⟩ := xext_ok s hA hv
                  exact OR.Ok.same s h2 h1
                · split at hx
                  · rename_i v hv
                    cases hx
                    obtain ⟨h1, h2⟩ := xval4_ok s hA hv
                    exact OR.Ok.same s h2 h1
                  · split at hx
                    · rename_i r' hr
                      cases hx
                      exact xmem5_ok s hC hA hr
                    · exact xpure_ok s hA hx
end
end Go.Xs
