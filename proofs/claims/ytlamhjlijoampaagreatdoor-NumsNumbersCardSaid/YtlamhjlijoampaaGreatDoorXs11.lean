/- Regions whose order is open, by reckoning: what only looks is looked at in every state in which it may come up; what turns the heap comes in one order. Plain theorems, no condition. -/
import Derived.Test.YtlamhjlijoampaaGreatDoorXs10
set_option linter.unusedVariables false
set_option linter.unusedSimpArgs false
namespace Go.Xs
open Go.RowKit

/-- Operations that turn the heap or make memory. -/
def effB : Op → Bool
  | .alloc _ | .box _ _ | .buildSlice _ _ _ | .store _ _ _ | .panic _ | .defer _ | .makeMap _ _ | .makeSlice _ _ _ | .mapUpdate _ _ _ _ | .insert _ _ _ _ | .mapEntry _ _ _ | .entryStore _ _ _ _ | .range _ _ | .next _ _ => true
  | .call ⟨.value _, _, _⟩ => true
  | .call ⟨.invoke _ _, _, _⟩ => true
  | .call ⟨.builtin b, _, _⟩ => !calm b
  | _ => false
/-- Operations that look at the heap. -/
def lookB : Op → Bool
  | .load _ _ | .slice _ _ _ _ _ | .lookup _ _ _ _ | .call _ | .convert _ _ _ | .entry _ => true
  | _ => false
/-- What an operation that only looks yields. -/
def xq (C : Ctx) (E : Env) (h : Hp) (o : Oper) : Option Value := match xval C E h o.op with
  | some v => some v
  | none => match xval2 C E h o.op with
    | some v => some v
    | none => match xval3 C E h o.op with
      | some v => some v
      | none => match xval4 C E h o.op with
        | some v => some v
        | none => match o.op with
          | .build t ⟨parts⟩ => xbuild C E t parts
          | _ => match xpure C E h o with
            | some (.val v _) => some v
            | _ => none
section
variable {B : World} {F : PH} {C : Ctx} {h : Hp} {ρ : Val} {w : World} {n : Nat} {ds : List SDef} {E : Env} {a : Act} {o : Oper}
theorem xpure_same {r : OR} {v : Value} {h' : Hp} (hx : xpure C E h o = some (.val v h')) : h' = h := by
  unfold xpure at hx
  split at hx
  · cases hall : (List.all (α := Operand) ‹_› (evNo C.G E)) with
    | false => rw [hall] at hx; cases hx
    | true =>
      rw [hall] at hx
      simp only [cond_true] at hx
      split at hx
      · rename_i v' hs
        cases hn : noAddr v' with
        | false => rw [hn] at hx; cases hx
        | true => rw [hn] at hx; cases hx; rfl
      · rename_i v' hs
        cases hn : noAddr v' with
        | false => rw [hn] at hx; cases hx
        | true => rw [hn] at hx; cases hx
      · cases hx
  · cases hx
theorem xq_ok (s : SatX B F C.G h ρ w) (hC : C.OK F) (hA : AgrX h.next ρ n ds E a) {v : Value} (hx : xq C E h o = some v) : wfv h.next v = true ∧ (execOp a.eval o).run C.P w = .ok (.value (ren ρ v)) w := by
  unfold xq at hx
  split at hx
  · rename_i v' hv
    cases hx
    exact xval_ok s hC hA hv
  split at hx
  · rename_i v' hv
    cases hx
    exact xval2_ok s hC hA hv
  split at hx
  · rename_i v' hv
    cases hx
    exact xval3_ok s hC hA hv
  split at hx
  · rename_i v' hv
    cases hx
    exact xval4_ok s hA hv
  · split at hx
    · rename_i t parts ho
      obtain ⟨h1, h2⟩ := xbuild_ok s hA hx
      refine ⟨h1, ?_⟩
      unfold execOp
      simp only [ho, Sem.run_bind, h2, Result.andThen_ok, Sem.run_pure]
    · split at hx
      · rename_i v' h' hp
        cases hx
        have := xpure_ok s hA hp
        unfold xpure at hp
        split at hp
        · rename_i l hl
          cases hall : l.all (evNo C.G E) with
          | false => rw [hall] at hp; cases hp
          | true =>
            rw [hall] at hp
            simp only [cond_true] at hp
            split at hp
            · rename_i u hs
              cases hn : noAddr u with
              | false => rw [hn] at hp; cases hp
              | true =>
                rw [hn] at hp
                cases hp
                refine ⟨wfv_mono (Nat.zero_le _) _ hn, ?_⟩
                obtain ⟨ρ', w', h1, h2, h3, h4, h5⟩ := this
                obtain ⟨hsel, hops⟩ := opsOf_ok hl
                have hev : ∀ x ∈ o.op.operands, a.eval x = evD C.G E x := fun x hx' => by
                  have := List.all_eq_true.1 hall x (hops x hx')
                  unfold evNo at this
                  unfold evD
                  split at this
                  · rename_i v hv
                    rw [(hA.ev s.gl s.gn hv).2, ren_id ρ v this]
                  · cases this
                rw [execOp_congr o hsel hev, semP_run hs, ren_id ρ _ hn]
            · rename_i u hs
              cases hn : noAddr u with
              | false => rw [hn] at hp; cases hp
              | true => rw [hn] at hp; cases hp
            · cases hp
        · cases hp
      · cases hx
end

/-! ### equality of values, told by reckoning -/
def eqO : Option Nat → Option Nat → Bool
  | none, none => true
  | some a, some b => Nat.beq a b
  | _, _ => false
theorem eqO_ok {a b : Option Nat} (h : eqO a b = true) : a = b := by
  cases a <;> cases b <;> simp [eqO] at h <;> first | rfl | (subst h; rfl)
def eqA (a b : Addr) : Bool := Nat.beq a.block b.block && Nat.beq a.off b.off && eqO a.spot b.spot
theorem eqA_ok {a b : Addr} (h : eqA a b = true) : a = b := by
  simp only [eqA, Bool.and_eq_true, Nat.beq_eq] at h
  obtain ⟨⟨h1, h2⟩, h3⟩ := h
  have := eqO_ok h3
  cases a; cases b; simp_all
mutual
def eqV : Value → Value → Bool
  | .bool a, .bool b => bif a then b else !b
  | .int j a, .int k b => Nat.beq (j.ctorIdx) (k.ctorIdx) && eqI a b
  | .float j a, .float k b => Nat.beq (j.ctorIdx) (k.ctorIdx) && Nat.beq a b
  | .string a, .string b => eqU a.data.toList b.data.toList
  | .pointer none, .pointer none => true
  | .pointer (some a), .pointer (some b) => eqA a b
  | .slice none n c, .slice none m d => Nat.beq n m && Nat.beq c d
  | .slice (some a) n c, .slice (some b) m d => eqA a b && Nat.beq n m && Nat.beq c d
  | .map a, .map b => eqO a b
  | .nilFunc, .nilFunc => true
  | .nilIface, .nilIface => true
  | .iface t v, .iface u x => Nat.beq t u && eqV v x
  | .agg ⟨a⟩, .agg ⟨b⟩ => eqVs a b
  | .tuple ⟨a⟩, .tuple ⟨b⟩ => eqVs a b
  | .func (.func f) ⟨a⟩ ⟨b⟩, .func (.func g) ⟨c⟩ ⟨d⟩ => Nat.beq f g && eqVs a c && eqVs b d
  | _, _ => false
def eqVs : List Value → List Value → Bool
  | [], [] => true
  | a :: l, b :: m => eqV a b && eqVs l m
  | _, _ => false
end
theorem fk_inj {j k : FloatKind} (h : j.ctorIdx = k.ctorIdx) : j = k := by cases j <;> cases k <;> first | rfl | (simp [FloatKind.ctorIdx] at h)
mutual
theorem eqV_ok : ∀ (a b : Value), eqV a b = true → a = b
  | .bool a, b, h => by cases b <;> simp [eqV] at h; rename_i b; cases a <;> cases b <;> simp at h ⊢
  | .int j a, b, h => by cases b <;> simp [eqV] at h; rw [ik_inj h.1, eqI_ok h.2]
  | .float j a, b, h => by cases b <;> simp [eqV] at h; rw [fk_inj h.1, h.2]
  | .complex _ _ _, b, h => by cases b <;> simp [eqV] at h
  | .string ⟨⟨a⟩⟩, b, h => by cases b <;> simp [eqV] at h; rename_i s; obtain ⟨⟨s⟩⟩ := s; rw [eqU_ok h]
  | .pointer none, b, h => by cases b <;> first | (simp [eqV] at h; done) | (rename_i p; cases p <;> simp [eqV] at h ⊢)
  | .pointer (some a), b, h => by cases b <;> first | (simp [eqV] at h; done) | (rename_i p; cases p <;> simp [eqV] at h; rw [eqA_ok h])
  | .slice none n c, b, h => by cases b <;> first | (simp [eqV] at h; done) | (rename_i p _ _; cases p <;> simp [eqV] at h; rw [h.1, h.2])
  | .slice (some a) n c, b, h => by cases b <;> first | (simp [eqV] at h; done) | (rename_i p _ _; cases p <;> simp [eqV] at h; rw [eqA_ok h.1.1, h.1.2, h.2])
  | .map a, b, h => by cases b <;> simp [eqV] at h; rw [eqO_ok h]
  | .chan _, b, h => by cases b <;> simp [eqV] at h
  | .nilFunc, b, h => by cases b <;> simp [eqV] at h; rfl
  | .nilIface, b, h => by cases b <;> simp [eqV] at h; rfl
  | .iface t v, b, h => by cases b <;> simp [eqV] at h; rw [h.1, eqV_ok v _ h.2]
  | .agg ⟨a⟩, b, h => by cases b <;> simp [eqV] at h; rename_i c; obtain ⟨c⟩ := c; rw [eqVs_ok a c h]
  | .tuple ⟨a⟩, b, h => by cases b <;> simp [eqV] at h; rename_i c; obtain ⟨c⟩ := c; rw [eqVs_ok a c h]
  | .func f ⟨a⟩ ⟨c⟩, b, h => by
    cases b <;> try (cases f <;> simp [eqV] at h; done)
    rename_i g p q
    obtain ⟨p⟩ := p
    obtain ⟨q⟩ := q
    cases f <;> cases g <;> simp [eqV] at h
    rw [h.1.1, eqVs_ok a p h.1.2, eqVs_ok c q h.2]
theorem eqVs_ok : ∀ (a b : List Value), eqVs a b = true → a = b
  | [], [], _ => rfl
  | a :: l, b :: m, h => by simp only [eqVs, Bool.and_eq_true] at h; rw [eqV_ok a b h.1, eqVs_ok l m h.2]
  | [], _ :: _, h => by simp [eqVs] at h
  | _ :: _, [], h => by simp [eqVs] at h
end
end Go.Xs
