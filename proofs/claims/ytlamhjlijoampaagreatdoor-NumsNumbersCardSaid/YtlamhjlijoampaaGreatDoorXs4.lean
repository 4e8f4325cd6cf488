/- Operations without memory by reckoning: the model's own meaning is carried out. Plain theorems, no condition. -/
import Derived.Test.YtlamhjlijoampaaGreatDoorXs3
import Derived.Orders
set_option linter.unusedVariables false
set_option linter.unusedSimpArgs false
namespace Go.Xs
open Go.RowKit

/-- What an operation comes to. -/
inductive OR where
  | val (v : Value) (h : Hp)
  | unit (h : Hp)
  | call (f : FuncId) (args : List Value)
  | pan (v : Value)
  | dfr (d : SDef)
/-- That it comes to this. -/
def OR.Ok (B : World) (F : PH) (G : Gx) (h : Hp) (ρ : Val) (w : World) (run : Result Next) : OR → Prop
  | .val v h' => ∃ ρ' w', run = .ok (.value (ren ρ' v)) w' ∧ Ext h.next ρ ρ' ∧ h.next ≤ h'.next ∧ wfv h'.next v = true ∧ SatX B F G h' ρ' w'
  | .unit h' => ∃ w', run = .ok .skip w' ∧ h'.next = h.next ∧ SatX B F G h' ρ w'
  | .call f args => run = .ok (.enter f (renL ρ args).toArray) w ∧ wfL h.next args = true
  | .pan v => run = .halt (.panic (ren ρ v)) w ∧ wfv h.next v = true
  | .dfr d => run = .ok (.defer (renD ρ d)) w ∧ wfL h.next d.cap = true ∧ wfL h.next d.args = true

/-- A meaning that does not look at the world. -/
def semP {α : Type} (P : Program) : Sem α → Option (Value ⊕ α)
  | .pure a => some (.inr a)
  | .program k => semP P (k P)
  | .mark _ k => semP P k
  | .halt (.panic v) => some (.inl v)
  | _ => none
theorem semP_run {α : Type} {P : Program} {w : World} : ∀ {s : Sem α} {r : Value ⊕ α}, semP P s = some r → s.run P w = match r with
    | .inr a => .ok a w
    | .inl v => .halt (.panic v) w
  | .pure a, r, h => by simp only [semP, Option.some.injEq] at h; subst h; rfl
  | .program k, r, h => by simp only [semP] at h; simp only [Sem.run]; exact semP_run h
  | .mark _ k, r, h => by simp only [semP] at h; simp only [Sem.run]; exact semP_run h
  | .halt x, r, h => by
    cases x <;> simp [semP] at h
    subst h
    rfl
  | .load .., _, h => by simp [semP] at h
  | .store .., _, h => by simp [semP] at h
  | .new .., _, h => by simp [semP] at h
  | .shape .., _, h => by simp [semP] at h
  | .freeze .., _, h => by simp [semP] at h
  | .frozen .., _, h => by simp [semP] at h
  | .getObj .., _, h => by simp [semP] at h
  | .setObj .., _, h => by simp [semP] at h
  | .choose .., _, h => by simp [semP] at h
  | .sys .., _, h => by simp [semP] at h

def calm : Builtin → Bool
  | .len | .min | .max | .cap => true
  | _ => false
/-- The operands of such an operation. -/
def opsOf : Op → Option (List Operand)
  | .binOp _ _ x y _ => some [x, y]
  | .unOp _ _ x => some [x]
  | .convert _ _ x => some [x]
  | .index _ x y => some [x, y]
  | .slice _ x lo hi mx => some (x :: (lo.toList ++ hi.toList ++ mx.toList))
  | .field _ x _ => some [x]
  | .makeInterface _ x => some [x]
  | .typeAssert x _ _ _ => some [x]
  | .call ⟨.builtin b, ⟨xs⟩, _⟩ => bif calm b then some xs else none
  | _ => none
theorem opsOf_ok {op : Op} {l : List Operand} (h : opsOf op = some l) : (∀ cs b, op ≠ .select cs b) ∧ ∀ x ∈ op.operands, x ∈ l := by
  unfold opsOf at h
  split at h <;> try (cases h; done)
  case h_9 =>
    rename_i b xs ats
    cases hc : calm b with
    | false => rw [hc] at h; cases h
    | true =>
      rw [hc] at h
      cases h
      exact ⟨fun cs b h => (by cases h), fun x hx => by simpa [Op.operands, Call.operands] using hx⟩
  all_goals
    cases h
    refine ⟨fun cs b h => (by cases h), fun x hx => ?_⟩
    simp [Op.operands] at hx ⊢
    try exact hx
    try (rcases hx with hx | hx | hx | hx <;> simp [hx])

def evNo (G : Nat) (E : Env) (x : Operand) : Bool := match evX G E x with
  | some v => noAddr v
  | none => false
def evD (G : Nat) (E : Env) (x : Operand) : Value := match evX G E x with
  | some v => v
  | none => undef
/-- Operations without memory and without addresses. -/
def xpure (C : Ctx) (E : Env) (h : Hp) (o : Oper) : Option OR := match opsOf o.op with
  | some l => bif l.all (evNo C.G E) then match semP C.P (execOp (evD C.G E) o) with
      | some (.inr (.value v)) => bif noAddr v then some (.val v h) else none
      | some (.inl v) => bif noAddr v then some (.pan v) else none
      | _ => none
    else none
  | none => none
section
variable {B : World} {F : PH} {C : Ctx} {h : Hp} {ρ : Val} {w : World} {n : Nat} {ds : List SDef} {E : Env} {a : Act} {o : Oper}
theorem OR.Ok.same (s : SatX B F C.G h ρ w) {run : Result Next} {v : Value} (hr : run = .ok (.value (ren ρ v)) w) (hv : wfv h.next v = true) : OR.Ok B F C.G h ρ w run (.val v h) :=
  ⟨ρ, w, hr, Ext.refl _ _, Nat.le_refl _, hv, s⟩
theorem xpure_ok (s : SatX B F C.G h ρ w) (hA : AgrX h.next ρ n ds E a) {r : OR} (hx : xpure C E h o = some r) : r.Ok B F C.G h ρ w ((execOp a.eval o).run C.P w) := by
  unfold xpure at hx
  split at hx
  · rename_i l hl
    obtain ⟨hsel, hops⟩ := opsOf_ok hl
    cases hall : l.all (evNo C.G E) with
    | false => rw [hall] at hx; cases hx
    | true =>
      rw [hall] at hx
      simp only [cond_true] at hx
      have hev : ∀ x ∈ o.op.operands, a.eval x = evD C.G E x := fun x hx' => by
        have := List.all_eq_true.1 hall x (hops x hx')
        unfold evNo at this
        unfold evD
        split at this
        · rename_i v hv
          rw [(hA.ev s.gl s.gn hv).2, ren_id ρ v this]
        · cases this
      rw [execOp_congr o hsel hev]
      split at hx
      · rename_i v hs
        cases hn : noAddr v with
        | false => rw [hn] at hx; cases hx
        | true =>
          rw [hn] at hx
          cases hx
          refine OR.Ok.same s ?_ (wfv_mono (Nat.zero_le _) _ hn)
          rw [semP_run hs, ren_id ρ v hn]
      · rename_i v hs
        cases hn : noAddr v with
        | false => rw [hn] at hx; cases hx
        | true =>
          rw [hn] at hx
          cases hx
          exact ⟨by rw [semP_run hs, ren_id ρ v hn], wfv_mono (Nat.zero_le _) _ hn⟩
      · cases hx
  · cases hx
end
end Go.Xs
