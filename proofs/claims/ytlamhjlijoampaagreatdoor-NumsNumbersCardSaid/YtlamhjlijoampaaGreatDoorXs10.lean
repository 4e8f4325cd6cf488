/- Lists of operations in their order. Plain theorems, no condition. -/
import Derived.Test.YtlamhjlijoampaaGreatDoorXs9
set_option linter.unusedVariables false
set_option linter.unusedSimpArgs false
namespace Go.Xs
open Go.RowKit

/-- What a call comes to. -/
inductive FR where
  | ret (v : Value) (h : Hp)
  | pan (v : Value) (h : Hp)
  | no (why : List Nat)
/-- How code is left. -/
inductive X where
  | normal
  | exit (id : Nat)
  | ret
  | pan (v : Value)
inductive CR where
  | ok (x : X) (E : Env) (ds : List SDef) (h : Hp)
  | no (why : List Nat)
abbrev chain1 (v : Value) : List PanicEntry := [{ v, recovered := false }]
def X.to (ρ : Val) : X → Exit
  | .normal => .normal
  | .exit id => .exit id
  | .ret => .ret
  | .pan v => .panic (chain1 (ren ρ v))
def X.wf (n : Nat) : X → Bool
  | .pan v => wfv n v
  | _ => true
/-- What a call's outcome says. -/
def FR.Q (B : World) (F : PH) (G : Gx) (ρ : Val) (nx : Nat) : FR → Ending → World → Prop
  | .ret v h', e, w' => ∃ ρ', e = .returned (ren ρ' v) ∧ Ext nx ρ ρ' ∧ nx ≤ h'.next ∧ wfv h'.next v = true ∧ SatX B F G h' ρ' w'
  | .pan v h', e, w' => ∃ ρ', e = .panicked (chain1 (ren ρ' v)) ∧ Ext nx ρ ρ' ∧ nx ≤ h'.next ∧ wfv h'.next v = true ∧ SatX B F G h' ρ' w'
  | .no _, _, _ => False
/-- What is told of calls is right. -/
def CallOK (B : World) (F : PH) (C : Ctx) (call : Nat → List Value → Hp → FR) : Prop :=
  ∀ f args h ρ w, (∀ t, call f args h ≠ .no t) → wfL h.next args = true → SatX B F C.G h ρ w → Calls C.P f (renL ρ args).toArray w ((call f args h).Q B F C.G ρ h.next)
/-- What code comes to. -/
def CR.Q (B : World) (F : PH) (G : Gx) (ρ : Val) (nx n : Nat) : CR → Exit → Act → World → Prop
  | .ok x E ds h', e, a', w' => ∃ ρ', e = x.to ρ' ∧ Ext nx ρ ρ' ∧ nx ≤ h'.next ∧ x.wf h'.next = true ∧ AgrX h'.next ρ' n ds E a' ∧ SatX B F G h' ρ' w'
  | .no _, _, _, _ => False
theorem CR.Q.ext {B : World} {F : PH} {G : Gx} {ρ ρ1 : Val} {nx nx1 n : Nat} {r : CR} {e : Exit} {a : Act} {w : World} (h : r.Q B F G ρ1 nx1 n e a w) (he : Ext nx ρ ρ1) (hn : nx ≤ nx1) : r.Q B F G ρ nx n e a w := by
  cases r with
  | no t => exact h
  | ok x E ds h' =>
    obtain ⟨ρ', q1, q2, q3, q4⟩ := h
    exact ⟨ρ', q1, he.trans q2 hn, Nat.le_trans hn q3, q4⟩
theorem FR.Q.ext {B : World} {F : PH} {G : Gx} {ρ ρ1 : Val} {nx nx1 : Nat} {r : FR} {e : Ending} {w : World} (h : r.Q B F G ρ1 nx1 e w) (he : Ext nx ρ ρ1) (hn : nx ≤ nx1) : r.Q B F G ρ nx e w := by
  cases r with
  | no t => exact h
  | ret v h' => obtain ⟨ρ', q1, q2, q3, q4⟩ := h; exact ⟨ρ', q1, he.trans q2 hn, Nat.le_trans hn q3, q4⟩
  | pan v h' => obtain ⟨ρ', q1, q2, q3, q4⟩ := h; exact ⟨ρ', q1, he.trans q2 hn, Nat.le_trans hn q3, q4⟩

def wtX (l0 : List Oper) (E : Env) : Option (Nat × Bool) → Option Bool
  | none => some true
  | some (j, want) => match l0[j]? with
    | some o => match o.dst with
      | some t => match E.lk t with
        | some (.bool b) => some (bif b then want else !want)
        | some (.tuple _) => some false
        | _ => none
      | none => none
    | none => none
theorem wtX_wanted {nx n : Nat} {ρ : Val} {ds : List SDef} {E : Env} {a : Act} (hA : AgrX nx ρ n ds E a) {l0 : List Oper} {o : Oper} {b : Bool} (hw : wtX l0 E o.guard = some b) :
    Region.wanted o (yielded l0.toArray a.tmps) = b := by
  unfold wtX at hw
  unfold Region.wanted
  cases hg : o.guard with
  | none => simpa [hg] using hw
  | some jw =>
    obtain ⟨j, want⟩ := jw
    simp only [hg] at hw
    cases hj : l0[j]? with
    | none => simp [hj] at hw
    | some oj =>
      simp only [hj] at hw
      cases hd : oj.dst with
      | none => simp [hd] at hw
      | some t =>
        simp only [hd] at hw
        cases hl : E.lk t with
        | none => simp [hl] at hw
        | some u =>
          have hu := (hA.get t u hl).2
          cases u <;> simp only [hl] at hw <;> simp at hw <;> subst hw
          · rename_i bb
            simp only [ren] at hu
            cases bb <;> cases want <;> simp [yielded, hj, hd, hu]
          · simp [yielded, hj, hd, hu, ren]
/-- The frame behind a value for this slot. -/
def putX (n : Nat) (E : Env) (d : Option Tmp) (v : Value) : Option Env := match d with
  | none => some E
  | some t => bif Nat.blt t n then some (E.put t v) else none
theorem putX_ok {nx n : Nat} {ρ : Val} {ds : List SDef} {E E' : Env} {a : Act} (hA : AgrX nx ρ n ds E a) {d : Option Tmp} {v : Value} (hv : wfv nx v = true) (hp : putX n E d v = some E') : AgrX nx ρ n ds E' (a.put d (ren ρ v)) := by
  cases d with
  | none => simp only [putX, Option.some.injEq] at hp; subst hp; exact hA
  | some t =>
    simp only [putX] at hp
    cases hb : Nat.blt t n with
    | false => rw [hb] at hp; cases hp
    | true =>
      rw [hb] at hp
      cases hp
      exact hA.put (by simpa [Nat.blt_eq] using hb) hv
theorem ren_undef (ρ : Val) : ren ρ undef = undef := by simp [undef, ren, renA, renL]
theorem wf_undef (n : Nat) : wfv n undef = true := by simp [undef, wfv, wfA, wfL]

/-- What is said of a value where the reckoning stops. -/
def sayV : Value → List Nat
  | .bool b => [1, bif b then 1 else 0]
  | .int _ (.ofNat n) => [2, n]
  | .int _ (.negSucc n) => [9, n]
  | .string s => 3 :: s.data.toList.length :: s.data.toList.map (fun b => b.toNat)
  | .pointer (some a) => [4, a.block, a.off]
  | .pointer none => [4]
  | .slice none n c => [5, n, c]
  | .slice (some a) n c => [5, a.block, a.off, n, c]
  | .agg l => [6, l.size]
  | .tuple l => [7, l.size]
  | .iface t _ => [8, t]
  | .map none => [10]
  | .map (some r) => [10, r]
  | .func (.func f) _ _ => [11, f]
  | .nilFunc => [12]
  | .nilIface => [13]
  | _ => [99]
def sayO (C : Ctx) (E : Env) : List Operand → List Nat
  | [] => []
  | x :: l => 7777 :: (match evX C.G E x with
    | some v => sayV v
    | none => [7778]) ++ sayO C E l
def runOps (C : Ctx) (n : Nat) (call : Nat → List Value → Hp → FR) (l0 : List Oper) : Nat → List Oper → Env → List SDef → Hp → CR
  | _, [], E, ds, h => .ok .normal E ds h
  | i, o :: rest, E, ds, h => match wtX l0 E o.guard with
    | none => .no [i, 1]
    | some false => match putX n E o.dst undef with
      | some E' => runOps C n call l0 (i + 1) rest E' ds h
      | none => .no [i, 2]
    | some true => match xop C E h o with
      | none => .no (i :: 3 :: sayO C E o.op.operands.toList)
      | some (.val v h') => match putX n E o.dst v with
        | some E' => runOps C n call l0 (i + 1) rest E' ds h'
        | none => .no [i, 4]
      | some (.unit h') => match putX n E o.dst undef with
        | some E' => runOps C n call l0 (i + 1) rest E' ds h'
        | none => .no [i, 5]
      | some (.pan v) => .ok (.pan v) E ds h
      | some (.dfr d) => match putX n E o.dst undef with
        | some E' => runOps C n call l0 (i + 1) rest E' (d :: ds) h
        | none => .no [i, 6]
      | some (.call f args) => match call f args h with
        | .ret v h' => match putX n E o.dst v with
          | some E' => runOps C n call l0 (i + 1) rest E' ds h'
          | none => .no [i, 7]
        | .pan v h' => .ok (.pan v) E ds h'
        | .no t => .no (i :: t)
theorem letsOut_mono {Q Q' : Exit → Act → World → Prop} (hq : ∀ e a w, Q e a w → Q' e a w) (h : LetsOut Q) : LetsOut Q' := let ⟨a, w, q⟩ := h; ⟨a, w, hq _ _ _ q⟩
theorem upon_mono {P : Program} {o : Oper} {a : Act} {K K' : Act → World → Prop} {Q Q' : Exit → Act → World → Prop} (hK : ∀ a w, K a w → K' a w) (hq : ∀ e a w, Q e a w → Q' e a w) {r : Result Next} (h : o.upon P a K Q r) : o.upon P a K' Q' r := by
  cases r with
  | ok x w' =>
    cases x <;> simp only [Oper.upon] at h ⊢ <;> try first | exact hK _ _ h | exact h.elim
    · exact h.mono fun e w'' he => by cases e <;> first | exact hK _ _ he | exact hq _ _ _ he | exact letsOut_mono hq he
    · exact Rows.mono h fun v w'' he => hK _ _ he
  | halt x w' => cases x <;> simp only [Oper.upon] at h ⊢ <;> first | exact hq _ _ _ h | exact h.elim
/-- As wpList; each operation goes on by itself. -/
def wpX (P : Program) (ops : Array Oper) (Q : Exit → Act → World → Prop) : List Oper → Act → World → Prop
  | [], a, w => Q .normal a w
  | o :: rest, a, w => if Region.wanted o (yielded ops a.tmps) then o.wp P a w (wpX P ops Q rest) Q else wpX P ops Q rest (a.put o.dst undef) w
theorem wpX_mono {P : Program} {ops : Array Oper} {Q Q' : Exit → Act → World → Prop} : ∀ {l : List Oper} {a : Act} {w : World}, wpX P ops Q l a w → (∀ e a w, Q e a w → Q' e a w) → wpX P ops Q' l a w
  | [], _, _, h, hq => hq _ _ _ h
  | o :: rest, a, w, h, hq => by
    unfold wpX at h ⊢
    split
    · rename_i hw
      rw [if_pos hw] at h
      exact upon_mono (fun a w h => wpX_mono h hq) hq h
    · rename_i hw
      rw [if_neg hw] at h
      exact wpX_mono h hq
theorem wpX_list {P : Program} {ops : Array Oper} {Q : Exit → Act → World → Prop} : ∀ {l : List Oper} {a : Act} {w : World}, wpX P ops Q l a w → wpList P ops Q l a w
  | [], _, _, h => h
  | o :: rest, a, w, h => by
    unfold wpX at h
    unfold wpList
    split
    · rename_i hw
      rw [if_pos hw] at h
      exact .inl (upon_mono (fun a w h => wpX_list h) (fun _ _ _ h => h) h)
    · rename_i hw
      rw [if_neg hw] at h
      exact wpX_list h
section
variable {B : World} {F : PH} {C : Ctx} {n : Nat}
theorem runOps_ok (hC : C.OK F) (hf : C.FOK) {call : Nat → List Value → Hp → FR} (hcall : CallOK B F C call) {l0 : List Oper} : ∀ (l : List Oper) (i : Nat) (E : Env) (ds : List SDef) (h : Hp) (ρ : Val) (a : Act) (w : World),
    AgrX h.next ρ n ds E a → SatX B F C.G h ρ w → (∀ t, runOps C n call l0 i l E ds h ≠ .no t) → wpX C.P l0.toArray ((runOps C n call l0 i l E ds h).Q B F C.G ρ h.next n) l a w
  | [], i, E, ds, h, ρ, a, w, hA, s, _ => ⟨ρ, rfl, Ext.refl _ _, Nat.le_refl _, rfl, hA, s⟩
  | o :: rest, i, E, ds, h, ρ, a, w, hA, s, hno => by
    unfold runOps at hno ⊢
    unfold wpX
    cases hw : wtX l0 E o.guard with
    | none => simp only [hw] at hno; exact absurd rfl (hno _)
    | some b =>
      rw [wtX_wanted hA hw]
      cases b with
      | false =>
        simp only [hw] at hno ⊢
        simp only [Bool.false_eq_true, if_false]
        cases hp : putX n E o.dst undef with
        | none => simp only [hp] at hno; exact absurd rfl (hno _)
        | some E' =>
          simp only [hp] at hno ⊢
          have := putX_ok hA (wf_undef _) hp
          rw [ren_undef] at this
          exact runOps_ok hC hf hcall rest (i + 1) E' ds h ρ _ w this s hno
      | true =>
        simp only [hw] at hno ⊢
        simp only [if_true]
        cases hx : xop C E h o with
        | none => simp only [hx] at hno; exact absurd rfl (hno _)
        | some r =>
          have hr := xop_ok s hC hf hA hx
          simp only [hx] at hno ⊢
          unfold Oper.wp
          cases r with
          | val v h' =>
            obtain ⟨ρ', w', h1, h2, h3, h4, h5⟩ := hr
            rw [h1]
            simp only [Oper.upon] at hno ⊢
            cases hp : putX n E o.dst v with
            | none => simp only [hp] at hno; exact absurd rfl (hno _)
            | some E' =>
              simp only [hp] at hno ⊢
              refine wpX_mono (runOps_ok hC hf hcall rest (i + 1) E' ds h' ρ' _ w' (putX_ok (hA.ext h2 h3) h4 hp) h5 hno) fun e a w hq => hq.ext h2 h3
          | unit h' =>
            obtain ⟨w', h1, h2, h3⟩ := hr
            rw [h1]
            simp only [Oper.upon] at hno ⊢
            cases hp : putX n E o.dst undef with
            | none => simp only [hp] at hno; exact absurd rfl (hno _)
            | some E' =>
              simp only [hp] at hno ⊢
              have := putX_ok (hA.ext (Ext.refl _ _) (Nat.le_of_eq h2.symm)) (wf_undef _) hp
              rw [ren_undef] at this
              refine wpX_mono (runOps_ok hC hf hcall rest (i + 1) E' ds h' ρ _ w' this h3 hno) fun e a w hq => hq.ext (Ext.refl _ _) (Nat.le_of_eq h2.symm)
          | pan v =>
            obtain ⟨h1, h2⟩ := hr
            rw [h1]
            simp only [Oper.upon]
            exact ⟨ρ, rfl, Ext.refl _ _, Nat.le_refl _, h2, hA, s⟩
          | dfr d =>
            obtain ⟨h1, h2, h3⟩ := hr
            rw [h1]
            simp only [Oper.upon] at hno ⊢
            cases hp : putX n E o.dst undef with
            | none => simp only [hp] at hno; exact absurd rfl (hno _)
            | some E' =>
              simp only [hp] at hno ⊢
              have hA' : AgrX h.next ρ n (d :: ds) E { a with defers := renD ρ d :: a.defers } :=
                ⟨hA.size, by simp [hA.defers], fun d' hd' => by rcases List.mem_cons.1 hd' with rfl | hd'; exact ⟨h2, h3⟩; exact hA.wfd d' hd', hA.get⟩
              have := putX_ok hA' (wf_undef _) hp
              rw [ren_undef] at this
              exact runOps_ok hC hf hcall rest (i + 1) E' (d :: ds) h ρ _ w this s hno
          | call f args =>
            obtain ⟨h1, h2⟩ := hr
            rw [h1]
            simp only [Oper.upon]
            have hc : ∀ t, call f args h ≠ .no t := fun t e => by simp only [e] at hno; exact hno _ rfl
            refine (hcall f args h ρ w hc h2 s).mono fun e w' hq => ?_
            cases hcr : call f args h with
            | no t => exact absurd hcr (hc t)
            | ret v h' =>
              rw [hcr] at hq
              obtain ⟨ρ', rfl, q2, q3, q4, q5⟩ := hq
              simp only [hcr] at hno ⊢
              cases hp : putX n E o.dst v with
              | none => simp only [hp] at hno; exact absurd rfl (hno _)
              | some E' =>
                simp only [hp] at hno ⊢
                exact wpX_mono (runOps_ok hC hf hcall rest (i + 1) E' ds h' ρ' _ w' (putX_ok (hA.ext q2 q3) q4 hp) q5 hno) fun e a w hq => hq.ext q2 q3
            | pan v h' =>
              rw [hcr] at hq
              obtain ⟨ρ', rfl, q2, q3, q4, q5⟩ := hq
              simp only
              exact ⟨ρ', rfl, q2, q3, q4, hA.ext q2 q3, q5⟩
end
end Go.Xs
