/- Functions by reckoning: what is put off, recovers, calls. Plain theorems, no condition. -/
import Derived.Test.YtlamhjlijoampaaGreatDoorXs19
set_option linter.unusedVariables false
set_option linter.unusedSimpArgs false
namespace Go.Xs
open Go.RowKit

theorem argE_ok : ∀ {l : List Value} {i : Nat} {E : Env} {t : Nat} {v : Value}, (argE l i E).lk t = some v → (∃ j, t = i + j ∧ l[j]? = some v) ∨ E.lk t = some v
  | [], i, E, t, v, h => .inr h
  | u :: l, i, E, t, v, h => by
    simp only [argE] at h
    rcases argE_ok h with ⟨j, rfl, h2⟩ | h
    · exact .inl ⟨j + 1, by omega, by simpa using h2⟩
    · rcases Env.lk_put h with ⟨rfl, rfl⟩ | ⟨h1, h2⟩
      · exact .inl ⟨0, rfl, rfl⟩
      · exact .inr h2
theorem AgrX.args {nx : Nat} {ρ : Val} {n : Nat} {l : List Value} (hl : Nat.ble l.length n = true) (hw : wfL nx l = true) :
    AgrX nx ρ n [] (argE l 0 .lf) { tmps := (renL ρ l).toArray ++ Array.replicate (n - (renL ρ l).toArray.size) undef, defers := [] } := by
  rw [Nat.ble_eq] at hl
  refine ⟨by simp [renL_len]; omega, rfl, fun d hd => by simp at hd, fun t v hv => ?_⟩
  rcases argE_ok hv with ⟨j, rfl, h2⟩ | h
  · rw [Nat.zero_add]
    refine ⟨wfL_get hw h2, ?_⟩
    have h3 := renL_get ρ h2
    have h4 := (List.getElem?_eq_some_iff.1 h3).1
    rw [Array.getElem?_append_left (by simpa using h4)]
    simpa using h3
  · simp [Env.lk, Tr.get] at h
theorem leaves_mono {P : Program} {fn : Func} {tmps : Array Value} {R R' : Ending → World → Prop} (hr : ∀ e w, R e w → R' e w) : ∀ {ds : List Deferred} {u : FrameMode} {w : World}, Leaves P fn tmps R ds u w → Leaves P fn tmps R' ds u w
  | [], .returning, w, h => let ⟨v, h1, h2⟩ := h; ⟨v, h1, hr _ _ h2⟩
  | [], .panicking c, w, h => hr _ _ h
  | [], .run, w, h => h.elim
  | d :: ds, u, w, h => by
    obtain ⟨h1, fv, cap, f, args, h2, h3, h4⟩ := h
    refine ⟨h1, fv, cap, f, args, h2, h3, h4.mono fun e u' w' he => ?_⟩
    cases e with
    | returned v => exact leaves_mono hr he
    | panicked c => exact leaves_mono hr he
    | outgrown => exact hr _ _ he
def modeX (ρ : Val) : Option Value → FrameMode
  | none => .returning
  | some v => .panicking (chain1 (ren ρ v))
def wfU (n : Nat) : Option Value → Bool
  | none => true
  | some v => wfv n v
theorem modeX_ext {nx : Nat} {ρ ρ' : Val} (he : Ext nx ρ ρ') {u : Option Value} (hu : wfU nx u = true) : modeX ρ' u = modeX ρ u := by
  cases u with
  | none => rfl
  | some v => simp only [modeX, ren_ext he v hu]
theorem wfU_mono {n m : Nat} (h : n ≤ m) {u : Option Value} (hu : wfU n u = true) : wfU m u = true := by
  cases u with
  | none => rfl
  | some v => exact wfv_mono h v hu
theorem settle_mode (ρ : Val) (u : Option Value) : settle (modeX ρ u) = modeX ρ u := by cases u <;> rfl

theorem wpX_S {P : Program} {ops : Array Oper} {Q : Exit → Act → List Frame → World → Prop} {cs : List Frame} : ∀ {l : List Oper} {k : Nat} {a : Act} {w : World}, (∀ j, l[j]? = ops[k + j]?) →
    wpX P ops (fun e a w => Q e a cs w) l a w → wpOpsS P ops Q (List.range' k l.length) a cs w
  | [], k, a, w, _, h => h
  | o :: l, k, a, w, hl, h => by
    have h0 : ops[k]? = some o := by simpa using (hl 0).symm
    have ih : ∀ {a : Act} {w : World}, wpX P ops (fun e a w => Q e a cs w) l a w → wpOpsS P ops Q (List.range' (k + 1) l.length) a cs w := fun h =>
      wpX_S (fun j => by have := hl (j + 1); simpa [Nat.add_assoc, Nat.add_comm 1 j] using this) h
    simp only [List.length_cons, List.range'_succ, wpOpsS, h0]
    unfold wpX at h
    split
    · rename_i hw
      rw [if_pos hw] at h
      unfold Oper.wp at h
      split
      · rename_i w' hr
        rw [hr] at h
        exact h.elim
      · rename_i r hr
        exact upon_mono (fun a w h => ih h) (fun _ _ _ h => h) h
    · rename_i hw
      rw [if_neg hw] at h
      exact ih h
theorem run_callFunc {C : Ctx} (hf : C.FOK) {f : Nat} {fn : Func} (hfn : C.fns f = some fn) {args : Array Value} {w : World} : (callFunc f args).run C.P w = .ok (.enter f args) w := by
  obtain ⟨f1, f2, f3⟩ := hf f fn hfn
  have hb : ¬ fn.body = none := by intro e; rw [e] at f2; cases f2
  have hn : ¬ fn.name = "runtime.NumGoroutine" := by simpa using f3
  simp [callFunc, f1, hn, hb, go_sem]
section
variable {B : World} {F : PH} {C : Ctx} {call : Nat → List Value → Hp → FR} {lf : Nat}
/-- What the run of a function that is put off leaves. -/
def DQ (B : World) (F : PH) (G : Gx) (ρ : Val) (nx : Nat) (u' : Option Value) (h' : Hp) : Ending → FrameMode → World → Prop
  | .returned _, um, w' => ∃ ρ', settle um = modeX ρ' u' ∧ Ext nx ρ ρ' ∧ nx ≤ h'.next ∧ wfU h'.next u' = true ∧ SatX B F G h' ρ' w'
  | _, _, _ => False
theorem recB_spec {c c' : Code} {id : Nat} {o : Oper} {l : List Oper} (h : recB c = some (id, o, l, c')) : c = .seq (.region id ⟨o :: l⟩ false) c' ∧ o.guard = none ∧ ∃ ats, o.op = .call ⟨.builtin .recover, ⟨[]⟩, ats⟩ := by
  unfold recB at h
  split at h
  · split at h
    · cases h
      rename_i h1 h2
      exact ⟨rfl, h2, _, h1⟩
    · cases h
  · cases h
theorem runD_ok (hm : C.P.follows .mixedOrders = true) (hC : C.OK F) (hf : C.FOK) (hcall : CallAll B C call) {d : SDef} {u u' : Option Value} {h h' : Hp} {ρ : Val} {w : World} (hx : runD C lf call d u h = .ret u' h')
    (hd : wfL h.next d.cap = true ∧ wfL h.next d.args = true) (hu : wfU h.next u = true) (s : SatX B F C.G h ρ w) : CallsD C.P d.f (renL ρ (d.args ++ d.cap)).toArray (modeX ρ u) w (DQ B F C.G ρ h.next u' h') := by
  unfold runD at hx
  split at hx
  · rename_i fn hfn
    obtain ⟨f1, f2, f3⟩ := hf _ fn hfn
    split at hx
    · rename_i c hc
      cases hb : Nat.ble (d.args ++ d.cap).length fn.ntmps with
      | false => rw [hb] at hx; cases hx
      | true =>
        rw [hb] at hx
        simp only [cond_true] at hx
        have A := AgrX.args (ρ := ρ) hb (wfL_app.2 ⟨hd.2, hd.1⟩)
        split at hx
        · rename_i id o l c' hr
          obtain ⟨rfl, hg, ats, hop⟩ := recB_spec hr
          split at hx
          · rename_i E hE
            -- what the rest does
            have rest : ∀ (um : FrameMode) (c₀ : Frame) (cs : List Frame) (a : Act), settle um = modeX ρ none → AgrX h.next ρ fn.ntmps [] E a →
                wpOpsS C.P ⟨o :: l⟩ (Exit.thenS (c'.wpS C.P (bodyPostS C.P fn c₀ cs (DQ B F C.G ρ h.next none h'))) (bodyPostS C.P fn c₀ cs (DQ B F C.G ρ h.next none h'))) (List.range' 1 l.length) a ({ c₀ with mode := um } :: cs) w ∧ u' = none := by
              intro um c₀ cs a hum A'
              have hfin : ∀ (E2 : Env) (h2 : Hp) (ρ2 : Val) (a2 : Act) (w2 : World) (vs : List Value), resL C E2 h2 fn.results.toList = some vs → AgrX h2.next ρ2 fn.ntmps [] E2 a2 → SatX B F C.G h2 ρ2 w2 → Ext h.next ρ ρ2 → h.next ≤ h2.next →
                  h2 = h' → a2.defers = [] ∧ ∃ um', ({ c₀ with mode := um } :: cs : List Frame) = { c₀ with mode := um' } :: cs ∧ ∃ v, (results fn a2.tmps).run C.P w2 = .ok v w2 ∧ DQ B F C.G ρ h.next none h' (.returned v) um' w2 := by
                intro E2 h2 ρ2 a2 w2 vs hvs A2 s2 e2 n2 hh
                subst hh
                exact ⟨by simpa using A2.defers, um, rfl, _, (resL_ok hC s2 A2 hvs).2, ρ2, hum, e2, n2, rfl, s2⟩
              cases hro : runOps C fn.ntmps call (o :: l) 1 l E [] h with
              | no t => rw [hro] at hx; cases hx
              | ok x E' ds' h1 =>
                have hw1 := runOps_ok hC hf (hcall F hC) (l0 := o :: l) l 1 E [] h ρ a w A' s (fun t e => by rw [hro] at e; cases e)
                rw [hro] at hx hw1
                cases x with
                | exit id => cases hx
                | ret => cases hx
                | pan v => cases hx
                | normal =>
                  cases ds' with
                  | cons d ds' => cases hx
                  | nil =>
                    simp only at hx
                    have hrest : (∀ t, runC C fn.ntmps call lf c' E' [] h1 ≠ .no t) ∧ u' = none := by
                      constructor
                      · intro t e
                        rw [e] at hx
                        cases hx
                      · split at hx
                        · split at hx
                          · cases hx; rfl
                          · cases hx
                        · split at hx
                          · cases hx; rfl
                          · cases hx
                        · cases hx
                        · cases hx
                    refine ⟨wpX_S (fun j => by simp [Nat.add_comm 1 j]) (wpX_mono hw1 fun e a' w' hq => ?_), hrest.2⟩
                    obtain ⟨ρ', rfl, q2, q3, q4, q5, q6⟩ := hq
                    refine wpS_of_wp (wp_mono (runC_ok hm hC hf hcall c' E' [] h1 ρ' a' w' q5 q6 hrest.1) fun e a2 w2 hq => ?_)
                    cases hrc : runC C fn.ntmps call lf c' E' [] h1 with
                    | no t => exact absurd hrc (hrest.1 t)
                    | ok x E2 ds2 h2 =>
                      rw [hrc] at hx hq
                      obtain ⟨ρ2, rfl, r2, r3, r4, r5, r6⟩ := hq
                      cases x with
                      | exit id => cases hx
                      | pan v => cases hx
                      | normal =>
                        cases ds2 with
                        | cons d ds' => cases hx
                        | nil =>
                          simp only at hx
                          split at hx
                          · rename_i vs hvs
                            simp only [DR.ret.injEq] at hx
                            exact hfin E2 h2 ρ2 a2 w2 vs hvs r5 r6 (q2.trans r2 q3) (Nat.le_trans q3 r3) hx.2
                          · cases hx
                      | ret =>
                        cases ds2 with
                        | cons d ds' => cases hx
                        | nil =>
                          simp only at hx
                          split at hx
                          · rename_i vs hvs
                            simp only [DR.ret.injEq] at hx
                            exact hfin E2 h2 ρ2 a2 w2 vs hvs r5 r6 (q2.trans r2 q3) (Nat.le_trans q3 r3) hx.2
                          · cases hx
            refine callsD_of_wpS f1 hc fun c₀ cs hc₀ => ?_
            refine wpS_seq (wpS_region ?_)
            have hsz : (⟨o :: l⟩ : Array Oper).size = l.length + 1 := by simp
            rw [hsz, List.range_eq_range', List.range'_succ]
            have hexec : ∀ a : Act, (execOp a.eval o).run C.P w = .ok .recover w := fun a => by
              unfold execOp
              simp [hop, resolve, invoke, builtin]
            have hwant : ∀ a : Array Value, Region.wanted o (yielded (⟨o :: l⟩ : Array Oper) a) = true := fun a => by
              unfold Region.wanted
              rw [hg]
            have h00 : (⟨o :: l⟩ : Array Oper)[0]? = some o := by simp
            unfold wpOpsS
            simp only [h00, hwant, hexec, if_true]
            cases u with
            | none =>
              have hrec : recoverD (c₀ :: cs) = none := by simp [recoverD, hc₀, modeX]
              have hE' := putX_ok A (v := .nilIface) rfl hE
              have hcs : (c₀ :: cs : List Frame) = { c₀ with mode := FrameMode.returning } :: cs := by
                have : c₀.mode = FrameMode.returning := hc₀
                rw [← this]
              obtain ⟨r1, r2⟩ := rest .returning c₀ cs _ rfl hE'
              subst r2
              rw [hrec]
              simp only [ren] at r1 ⊢
              rw [hcs]
              exact r1
            | some v =>
              have hrec : recoverD (c₀ :: cs) = some (ren ρ v, { c₀ with mode := .panicking [{ v := ren ρ v, recovered := true }] } :: cs) := by simp [recoverD, hc₀, modeX]
              have hE' := putX_ok A (v := v) hu hE
              obtain ⟨r1, r2⟩ := rest (.panicking [{ v := ren ρ v, recovered := true }]) c₀ cs _ rfl hE'
              subst r2
              rw [hrec]
              exact r1
          · cases hx
        · -- no recover
          have key : ∀ (E2 : Env) (h2 : Hp) (ρ2 : Val) (a2 : Act) (w2 : World) (vs : List Value), resL C E2 h2 fn.results.toList = some vs → AgrX h2.next ρ2 fn.ntmps [] E2 a2 → SatX B F C.G h2 ρ2 w2 → Ext h.next ρ ρ2 → h.next ≤ h2.next →
              u = u' → h2 = h' → a2.defers = [] ∧ ∃ v, (results fn a2.tmps).run C.P w2 = .ok v w2 ∧ (fun e w' => ∃ v, e = Ending.returned v ∧ DQ B F C.G ρ h.next u' h' (.returned v) (modeX ρ u) w') (.returned v) w2 := by
            intro E2 h2 ρ2 a2 w2 vs hvs A2 s2 e2 n2 huu hh
            subst hh
            subst huu
            exact ⟨by simpa using A2.defers, _, (resL_ok hC s2 A2 hvs).2, _, rfl, ρ2, by rw [settle_mode, modeX_ext e2 hu], e2, n2, wfU_mono n2 hu, s2⟩
          have hno : ∀ t, runC C fn.ntmps call lf c (argE (d.args ++ d.cap) 0 .lf) [] h ≠ .no t := fun t e => by rw [e] at hx; cases hx
          refine CallsD.mono (callsD_of_wp (R := fun e w' => ∃ v, e = Ending.returned v ∧ DQ B F C.G ρ h.next u' h' (.returned v) (modeX ρ u) w') f1 hc
            (wp_mono (runC_ok hm hC hf hcall c _ [] h ρ _ w A s hno) fun e a2 w2 hq => ?_)) fun e um w' ⟨hum, hR⟩ => ?_
          · cases hrc : runC C fn.ntmps call lf c (argE (d.args ++ d.cap) 0 .lf) [] h with
            | no t => exact absurd hrc (hno t)
            | ok x E2 ds2 h2 =>
              rw [hrc] at hx hq
              obtain ⟨ρ2, rfl, r2, r3, r4, r5, r6⟩ := hq
              cases x with
              | exit id => cases hx
              | pan v => cases hx
              | normal =>
                cases ds2 with
                | cons d ds' => cases hx
                | nil =>
                  simp only at hx
                  split at hx
                  · rename_i vs hvs
                    simp only [DR.ret.injEq] at hx
                    exact key E2 h2 ρ2 a2 w2 vs hvs r5 r6 r2 r3 hx.1 hx.2
                  · cases hx
              | ret =>
                cases ds2 with
                | cons d ds' => cases hx
                | nil =>
                  simp only at hx
                  split at hx
                  · rename_i vs hvs
                    simp only [DR.ret.injEq] at hx
                    exact key E2 h2 ρ2 a2 w2 vs hvs r5 r6 r2 r3 hx.1 hx.2
                  · cases hx
          · obtain ⟨v, rfl, hR⟩ := hR
            rw [hum]
            exact hR
    · cases hx
  · cases hx
theorem leaveX_ok (hm : C.P.follows .mixedOrders = true) (hC : C.OK F) (hf : C.FOK) (hcall : CallAll B C call) {fn : Func} {E : Env} {tmps : Array Value} : ∀ (ds : List SDef) (u : Option Value) (h : Hp) (ρ : Val) (w : World),
    AgrX h.next ρ fn.ntmps ds E { tmps, defers := ds.map (renD ρ) } → SatX B F C.G h ρ w → wfU h.next u = true → (∀ t, leaveX C lf call fn E ds u h ≠ .no t) →
    Leaves C.P fn tmps ((leaveX C lf call fn E ds u h).Q B F C.G ρ h.next) (ds.map (renD ρ)) (modeX ρ u) w
  | [], none, h, ρ, w, A, s, hu, hno => by
    unfold leaveX at hno ⊢
    cases hr : resL C E h fn.results.toList with
    | none => rw [hr] at hno; exact absurd rfl (hno _)
    | some vs =>
      obtain ⟨h1, h2⟩ := resL_ok hC s A hr
      exact ⟨_, h2, ρ, rfl, Ext.refl _ _, Nat.le_refl _, h1, s⟩
  | [], some v, h, ρ, w, A, s, hu, hno => by
    unfold leaveX
    exact ⟨ρ, rfl, Ext.refl _ _, Nat.le_refl _, hu, s⟩
  | d :: ds, u, h, ρ, w, A, s, hu, hno => by
    unfold leaveX at hno ⊢
    cases hr : runD C lf call d u h with
    | no t => rw [hr] at hno; exact absurd rfl (hno _)
    | ret u' h' =>
      rw [hr] at hno
      simp only at hno ⊢
      have hwd := A.wfd d List.mem_cons_self
      have hfd : ∃ fn, C.fns d.f = some fn := by
        unfold runD at hr
        split at hr
        · exact ⟨_, ‹_›⟩
        · cases hr
      obtain ⟨fd, hfd⟩ := hfd
      refine leaves_cons (by cases u <;> simp [modeX]) (f := d.f) (args := (renL ρ (d.args ++ d.cap)).toArray) ?_ (CallsD.mono (runD_ok hm hC hf hcall hr hwd hu s) fun e um w' hq => ?_)
      · simp only [invoke]
        rw [run_callFunc hf hfd, renL_app]
        simp
      · cases e with
        | panicked c => exact hq.elim
        | outgrown => exact hq.elim
        | returned v =>
          obtain ⟨ρ', q1, q2, q3, q4, q5⟩ := hq
          simp only [q1]
          have hds : ds.map (renD ρ) = ds.map (renD ρ') := List.map_congr_left fun d' hd' => by
            have := A.wfd d' (List.mem_cons_of_mem _ hd')
            simp only [renD, renL_ext q2 _ this.1, renL_ext q2 _ this.2]
          have A' : AgrX h'.next ρ' fn.ntmps ds E { tmps, defers := ds.map (renD ρ') } := by
            have := A.ext q2 q3
            exact ⟨this.size, rfl, fun d' hd' => this.wfd d' (List.mem_cons_of_mem _ hd'), this.get⟩
          have := leaveX_ok hm hC hf hcall ds u' h' ρ' w' A' q5 q4 hno
          rw [← hds] at this
          refine leaves_mono (fun e w hq => hq.ext q2 q3) this
theorem runFn_ok (hm : C.P.follows .mixedOrders = true) (hC : C.OK F) (hf : C.FOK) (hcall : CallAll B C call) : CallOK B F C (runFn C lf call) := by
  intro f args h ρ w hno hwf s
  unfold runFn at hno ⊢
  cases hfn : C.fns f with
  | none => rw [hfn] at hno; exact absurd rfl (hno _)
  | some fn =>
    obtain ⟨f1, f2, f3⟩ := hf _ fn hfn
    rw [hfn] at hno
    simp only at hno ⊢
    cases hc : fn.body with
    | none => rw [hc] at hno; exact absurd rfl (hno _)
    | some c =>
      rw [hc] at hno
      simp only at hno ⊢
      cases hb : Nat.ble args.length fn.ntmps with
      | false => rw [hb] at hno; exact absurd rfl (hno _)
      | true =>
        rw [hb] at hno
        simp only [cond_true] at hno ⊢
        have hno' : ∀ t, runC C fn.ntmps call lf c (argE args 0 .lf) [] h ≠ .no t := fun t e => by simp only [e] at hno; exact hno _ rfl
        refine calls_of_wp_defers f1 hc (wp_mono (runC_ok hm hC hf hcall c _ [] h ρ _ w (AgrX.args hb hwf) s hno') fun e a' w' hq => ?_)
        cases hrc : runC C fn.ntmps call lf c (argE args 0 .lf) [] h with
        | no t => exact absurd hrc (hno' t)
        | ok x E ds h1 =>
          rw [hrc] at hno hq
          obtain ⟨ρ1, rfl, r2, r3, r4, r5, r6⟩ := hq
          have A1 : AgrX h1.next ρ1 fn.ntmps ds E { tmps := a'.tmps, defers := ds.map (renD ρ1) } := ⟨r5.size, rfl, r5.wfd, r5.get⟩
          cases x with
          | exit id => exact absurd rfl (hno _)
          | normal =>
            simp only [X.to, bodyPostD] at hno ⊢
            rw [r5.defers]
            exact leaves_mono (fun e w hq => hq.ext r2 r3) (leaveX_ok hm hC hf hcall ds none h1 ρ1 w' A1 r6 rfl hno)
          | ret =>
            simp only [X.to, bodyPostD] at hno ⊢
            rw [r5.defers]
            exact leaves_mono (fun e w hq => hq.ext r2 r3) (leaveX_ok hm hC hf hcall ds none h1 ρ1 w' A1 r6 rfl hno)
          | pan v =>
            simp only [X.to, bodyPostD] at hno ⊢
            rw [r5.defers]
            exact leaves_mono (fun e w hq => hq.ext r2 r3) (leaveX_ok hm hC hf hcall ds (some v) h1 ρ1 w' A1 r6 r4 hno)
/-- What is told otherwise is right. -/
def SpOK (B : World) (F : PH) (C : Ctx) (sp : Nat → List Value → Hp → Option FR) : Prop :=
  ∀ f args h ρ w r, sp f args h = some r → (∀ t, r ≠ .no t) → wfL h.next args = true → SatX B F C.G h ρ w → Calls C.P f (renL ρ args).toArray w (r.Q B F C.G ρ h.next)
theorem callN_all (hm : C.P.follows .mixedOrders = true) (hf : C.FOK) {sp : Nat → List Value → Hp → Option FR} (hsp : ∀ F, C.OK F → SpOK B F C sp) : ∀ k, CallAll B C (callN C lf sp k)
  | 0 => fun F hC f args h ρ w hno _ _ => absurd rfl (hno _)
  | k + 1 => fun F hC f args h ρ w hno hw s => by
    unfold callN at hno ⊢
    cases hr : sp f args h with
    | some r =>
      rw [hr] at hno
      exact hsp F hC f args h ρ w r hr hno hw s
    | none =>
      rw [hr] at hno
      exact runFn_ok hm hC hf (callN_all hm hf hsp k) f args h ρ w hno hw s
theorem callN_ok (hm : C.P.follows .mixedOrders = true) (hC : C.OK F) (hf : C.FOK) {sp : Nat → List Value → Hp → Option FR} (hsp : ∀ F, C.OK F → SpOK B F C sp) (k : Nat) : CallOK B F C (callN C lf sp k) := callN_all hm hf hsp k F hC
end
end Go.Xs
