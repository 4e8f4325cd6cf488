/- Code by reckoning. Plain theorems, no condition. -/
import Derived.Test.YtlamhjlijoampaaGreatDoorXs16
import Derived.Test.YtlamhjlijoampaaGreatDoorXw3
import Derived.LoopN
import Derived.Scope
set_option linter.unusedVariables false
set_option linter.unusedSimpArgs false
namespace Go.Xs
open Go.RowKit

theorem rounds_mono {P : Program} {c : Code} {Q Q' : Exit → Act → World → Prop} (hq : ∀ e a w, Q e a w → Q' e a w) : ∀ {k : Nat} {a : Act} {w : World}, Code.rounds P c Q k a w → Code.rounds P c Q' k a w
  | 0, _, _, h => h.elim
  | k + 1, a, w, h => wp_mono (show c.wp P _ a w from h) fun e a' w' he => by
    cases e <;> simp only [Exit.then] at he ⊢ <;> first | exact rounds_mono hq he | exact hq _ _ _ he
section
variable {B : World} {F : PH} {C : Ctx} {n : Nat} {call : Nat → List Value → Hp → FR} {lf : Nat}
/-- This code comes to what f says. -/
def CodeOK (B : World) (F : PH) (C : Ctx) (n : Nat) (c : Code) (f : Env → List SDef → Hp → CR) : Prop :=
  ∀ E ds h ρ a w, AgrX h.next ρ n ds E a → SatX B F C.G h ρ w → (∀ t, f E ds h ≠ .no t) → c.wp C.P ((f E ds h).Q B F C.G ρ h.next n) a w
theorem loopX_ok {c : Code} {f : Env → List SDef → Hp → CR} (hf : CodeOK B F C n c f) : ∀ (k : Nat) (E : Env) (ds : List SDef) (h : Hp) (ρ : Val) (a : Act) (w : World),
    AgrX h.next ρ n ds E a → SatX B F C.G h ρ w → (∀ t, loopX f k E ds h ≠ .no t) → Code.rounds C.P c ((loopX f k E ds h).Q B F C.G ρ h.next n) k a w
  | 0, E, ds, h, ρ, a, w, _, _, hno => absurd rfl (hno _)
  | k + 1, E, ds, h, ρ, a, w, A, s, hno => by
    unfold loopX at hno ⊢
    refine wp_mono (hf E ds h ρ a w A s fun t e => by simp only [e] at hno; exact hno _ rfl) fun e a' w' hq => ?_
    cases hr : f E ds h with
    | no t => rw [hr] at hq; exact hq.elim
    | ok x E' ds' h' =>
      rw [hr] at hq
      obtain ⟨ρ', rfl, q2, q3, q4, q5, q6⟩ := hq
      simp only [hr] at hno
      cases x with
      | normal =>
        simp only [X.to, Exit.then] at hno ⊢
        exact rounds_mono (fun _ _ _ he => he.ext q2 q3) (loopX_ok hf k E' ds' h' ρ' a' w' q5 q6 hno)
      | exit id => exact ⟨ρ', rfl, q2, q3, q4, q5, q6⟩
      | ret => exact ⟨ρ', rfl, q2, q3, q4, q5, q6⟩
      | pan v => exact ⟨ρ', rfl, q2, q3, q4, q5, q6⟩
theorem runC_ok (hm : C.P.follows .mixedOrders = true) (hC : C.OK F) (hf : C.FOK) (hcall : CallAll B C call) : ∀ c : Code, CodeOK B F C n c (runC C n call lf c) := by
  intro c
  induction c with
  | skip => exact fun E ds h ρ a w A s _ => wp_skip ⟨ρ, rfl, Ext.refl _ _, Nat.le_refl _, rfl, A, s⟩
  | region id ops draw =>
    obtain ⟨l⟩ := ops
    cases draw with
    | false =>
      intro E ds h ρ a w A s hno
      unfold runC at hno ⊢
      have hno' : ∀ t, runOps C n call l 0 l E ds h ≠ .no t := fun t e => by simp only [e] at hno; exact hno _ rfl
      have := wp_region_lit (id := id) (wpX_list (runOps_ok hC hf (hcall F hC) l 0 E ds h ρ a w A s hno'))
      cases hr : runOps C n call l 0 l E ds h with
      | no t => exact absurd hr (hno' t)
      | ok x E' ds' h' => rw [hr] at this; exact this
    | true =>
      intro E ds h ρ a w A s hno
      unfold runC at hno ⊢
      have hno' : ∀ t, runAny C n call l E ds h ≠ .no t := fun t e => by simp only [e] at hno; exact hno _ rfl
      have := runAny_ok (id := id) hm hC hf hcall A s hno'
      cases hr : runAny C n call l E ds h with
      | no t => exact absurd hr (hno' t)
      | ok x E' ds' h' => rw [hr] at this; exact this
  | seq c c' ih ih' =>
    intro E ds h ρ a w A s hno
    unfold runC at hno ⊢
    refine wp_seq (wp_mono (ih E ds h ρ a w A s fun t e => by simp only [e] at hno; exact hno _ rfl) fun e a' w' hq => ?_)
    cases hr : runC C n call lf c E ds h with
    | no t => rw [hr] at hq; exact hq.elim
    | ok x E' ds' h' =>
      rw [hr] at hq
      obtain ⟨ρ', rfl, q2, q3, q4, q5, q6⟩ := hq
      simp only [hr] at hno
      cases x with
      | normal =>
        simp only [X.to, Exit.then] at hno ⊢
        exact wp_mono (ih' E' ds' h' ρ' a' w' q5 q6 hno) fun _ _ _ he => he.ext q2 q3
      | exit id => exact ⟨ρ', rfl, q2, q3, q4, q5, q6⟩
      | ret => exact ⟨ρ', rfl, q2, q3, q4, q5, q6⟩
      | pan v => exact ⟨ρ', rfl, q2, q3, q4, q5, q6⟩
  | cond x c c' ih ih' =>
    intro E ds h ρ a w A s hno
    unfold runC at hno ⊢
    cases hv : evX C.G E x with
    | none => simp only [hv] at hno; exact absurd rfl (hno _)
    | some v =>
      have hev := (A.ev s.gl s.gn hv).2
      cases v with
      | bool b =>
        simp only [ren] at hev
        cases b with
        | true => simp only [hv] at hno ⊢; exact wp_cond_true hev (ih E ds h ρ a w A s hno)
        | false => simp only [hv] at hno ⊢; exact wp_cond_false hev (ih' E ds h ρ a w A s hno)
      | _ => simp only [hv] at hno; exact absurd rfl (hno _)
  | block id c ih =>
    intro E ds h ρ a w A s hno
    unfold runC at hno ⊢
    refine wp_block (wp_mono (ih E ds h ρ a w A s fun t e => by simp only [e] at hno; exact hno _ rfl) fun e a' w' hq => ?_)
    cases hr : runC C n call lf c E ds h with
    | no t => rw [hr] at hq; exact hq.elim
    | ok x E' ds' h' =>
      rw [hr] at hq
      obtain ⟨ρ', rfl, q2, q3, q4, q5, q6⟩ := hq
      cases x with
      | exit id' =>
        simp only [X.to, Exit.inBlock]
        cases hb : Nat.beq id' id with
        | true =>
          rw [Nat.beq_eq] at hb
          rw [if_pos hb]
          exact ⟨ρ', rfl, q2, q3, rfl, q5, q6⟩
        | false =>
          rw [if_neg (fun e => by rw [e, Nat.beq_refl] at hb; cases hb)]
          exact ⟨ρ', rfl, q2, q3, rfl, q5, q6⟩
      | normal => exact ⟨ρ', rfl, q2, q3, q4, q5, q6⟩
      | ret => exact ⟨ρ', rfl, q2, q3, q4, q5, q6⟩
      | pan v => exact ⟨ρ', rfl, q2, q3, q4, q5, q6⟩
  | loop c ih =>
    intro E ds h ρ a w A s hno
    unfold runC at hno ⊢
    exact wp_loop_rounds lf (loopX_ok ih lf E ds h ρ a w A s hno)
  | exit id => exact fun E ds h ρ a w A s _ => wp_exit ⟨ρ, rfl, Ext.refl _ _, Nat.le_refl _, rfl, A, s⟩
  | ret => exact fun E ds h ρ a w A s _ => wp_ret ⟨ρ, rfl, Ext.refl _ _, Nat.le_refl _, rfl, A, s⟩
  | label l => exact fun E ds h ρ a w A s _ => wp_label ⟨ρ, rfl, Ext.refl _ _, Nat.le_refl _, rfl, A, s⟩
  | scope c ih =>
    intro E ds h ρ a w A s hno
    unfold runC at hno ⊢
    refine wp_scope_straight (wp_mono (ih E ds h ρ a w A s hno) fun e a' w' hq => ?_)
    cases hr : runC C n call lf c E ds h with
    | no t => exact absurd hr (hno t)
    | ok x E' ds' h' =>
      rw [hr] at hq
      obtain ⟨ρ', rfl, q⟩ := hq
      cases x <;> exact ⟨ρ', rfl, q⟩
  | _ => exact fun E ds h ρ a w A s hno => absurd rfl (hno _)
/-- The results. -/
theorem resL_run (hC : C.OK F) {h : Hp} {ρ : Val} {w : World} (s : SatX B F C.G h ρ w) {E : Env} {ds : List SDef} {a : Act} (A : AgrX h.next ρ n ds E a) : ∀ {l : List ResultVar} {vs : List Value}, resL C E h l = some vs →
    wfL h.next vs = true ∧ (l.mapM fun | .tmp t => pure (a.tmps.getD t undef) | .cell x t => do loadVar t (← asAddr (a.tmps.getD x undef)) : Sem (List Value)).run C.P w = .ok (renL ρ vs) w
  | [], vs, hx => by
    simp only [resL, Option.some.injEq] at hx
    subst hx
    exact ⟨rfl, by simp [renL]⟩
  | .tmp t :: l, vs, hx => by
    simp only [resL] at hx
    split at hx
    · rename_i v hv
      split at hx
      · rename_i vs' hvs
        cases hx
        obtain ⟨h1, h2⟩ := A.get t v hv
        obtain ⟨h3, h4⟩ := resL_run hC s A hvs
        refine ⟨by simp [wfL, h1, h3], ?_⟩
        have : a.tmps.getD t undef = ren ρ v := by simp [Array.getD_eq_getD_getElem?, h2]
        simp only [List.mapM_cons, Sem.run_bind, Sem.run_pure, Result.andThen_ok, this]
        rw [h4]
        simp [renL]
      · cases hx
    · cases hx
  | .cell x t :: l, vs, hx => by
    simp only [resL] at hx
    split at hx
    · rename_i u hu
      split at hx
      · rename_i v hv
        split at hx
        · rename_i vs' hvs
          cases hx
          obtain ⟨h1, h2⟩ := A.get x u hu
          obtain ⟨h3, h4⟩ := resL_run hC s A hvs
          obtain ⟨h5, h6⟩ := run_xload s hC hv
          refine ⟨by simp [wfL, h5, h3], ?_⟩
          have : a.tmps.getD x undef = ren ρ u := by simp [Array.getD_eq_getD_getElem?, h2]
          have h7 : (do loadVar t (← asAddr (ren ρ u)) : Sem Value).run C.P w = .ok (ren ρ v) w := by
            unfold xload at hv
            split at hv
            · simpa only [ren, Instr.loadAt, Instr.sureAddr, asAddr, Sem.run_bind, Sem.run_pure, Result.andThen_ok] using h6
            · cases hv
          simp only [List.mapM_cons, Sem.run_bind, Sem.run_pure, Result.andThen_ok, this] at h7 ⊢
          rw [h7]
          simp only [Result.andThen_ok]
          rw [h4]
          simp [renL]
        · cases hx
      · cases hx
    · cases hx
theorem resL_ok (hC : C.OK F) {h : Hp} {ρ : Val} {w : World} (s : SatX B F C.G h ρ w) {E : Env} {ds : List SDef} {a : Act} (A : AgrX h.next ρ n ds E a) {fn : Func} {vs : List Value} (hx : resL C E h fn.results.toList = some vs) :
    wfv h.next (oneV vs) = true ∧ (results fn a.tmps).run C.P w = .ok (ren ρ (oneV vs)) w := by
  obtain ⟨h1, h2⟩ := resL_run hC s A hx
  obtain ⟨l, hl⟩ : ∃ l, fn.results = ⟨l⟩ := ⟨fn.results.toList, rfl⟩
  rw [hl] at h2
  refine ⟨?_, ?_⟩
  · cases vs with
    | nil => rfl
    | cons v vs => cases vs with
      | nil => simpa [oneV, wfL] using h1
      | cons v' vs => simpa [oneV, wfv, wfA] using h1
  · unfold results
    rw [hl]
    have : ∀ f : ResultVar → Sem Value, (⟨l⟩ : Array ResultVar).mapM f = List.toArray <$> l.mapM f := fun f => List.mapM_toArray
    rw [this]
    try rw [this]
    rw [map_eq_pure_bind, Sem.run_bind, Sem.run_bind]
    erw [h2]
    simp only [Result.andThen_ok, Sem.run_pure]
    cases vs with
    | nil => simp [oneV, renL, ren, renA]
    | cons v vs => cases vs with
      | nil => simp [oneV, renL]
      | cons v' vs => simp [oneV, renL, ren, renA]
end
end Go.Xs
