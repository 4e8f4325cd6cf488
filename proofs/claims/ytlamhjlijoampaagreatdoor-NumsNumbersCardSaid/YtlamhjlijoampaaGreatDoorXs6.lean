/- Operations with addresses by reckoning: places, parts, tests. Plain theorems, no condition. -/
import Derived.Test.YtlamhjlijoampaaGreatDoorXs5
set_option linter.unusedVariables false
set_option linter.unusedSimpArgs false
namespace Go.Xs
open Go.RowKit
open Go.Sk (isAggB sizeB fldB slcB zerB plB run_sizeB run_isAggB slcB_spec fldB_spec zerB_spec run_fa)

def evsX (G : Nat) (E : Env) : List Operand → Option (List Value)
  | [] => some []
  | x :: xs => match evX G E x with
    | some v => match evsX G E xs with
      | some vs => some (v :: vs)
      | none => none
    | none => none
def natX (G : Nat) (E : Env) (x : Operand) : Option Nat := match evX G E x with
  | some (.int _ (.ofNat j)) => some j
  | _ => none
/-- a bound: what it is, or what it would be -/
def natO (G : Nat) (E : Env) (d : Nat) : Option Operand → Option Nat
  | none => some d
  | some x => natX G E x
/-- a part of an aggregate -/
def partX (P : Program) (t : TypeId) (l : List Value) (off : Nat) : Option Value := match isAggB P t with
  | some false => l[off]?
  | some true => match sizeB P t with
    | some z => match takeN z (l.drop off) with
      | some m => some (.agg ⟨m⟩)
      | none => none
    | none => none
  | none => none
/-- a slice's part from l to j -/
def sliceX (h : Hp) (sz : Nat) (v : Value) (l j : Nat) : Option Value := match v with
  | .slice none 0 0 => bif Nat.beq l 0 && Nat.beq j 0 then some (.slice none 0 0) else none
  | .slice (some ⟨nm, off, none⟩) len c => bif Nat.ble l j then
      bif Nat.beq (c % 2) 0 then
        bif Nat.ble j (c / 2) then some (.slice (some ⟨nm, bif Nat.beq (c / 2) l then off else off + l * sz, none⟩) (j - l) (2 * (c / 2 - l))) else none
      else match h.get nm with
        | some (.grow xs e z) => bif Nat.ble ((c / 2 + j) * z) xs.length && Nat.blt 0 z then some (.slice (some ⟨nm, bif Nat.blt l j || Nat.beq l 0 then off + l * sz else off, bif Nat.blt l j || Nat.beq l 0 then none else some (l * sz)⟩) (j - l) (2 * (c / 2 + l) + 1)) else none
        | _ => none
    else none
  | .slice (some ⟨nm, off, some d⟩) 0 c => bif Nat.beq l 0 && Nat.beq j 0 then some (.slice (some ⟨nm, off, some d⟩) 0 c) else none
  | _ => none
def isNil : Value → Option Bool
  | .pointer a => some a.isNone
  | .slice a _ _ => some a.isNone
  | .map a => some a.isNone
  | .nilFunc => some true
  | .func _ _ _ => some false
  | .nilIface => some true
  | .iface _ _ => some false
  | _ => none
/-- 1: pointers, 2: slices, 3: maps, 4: functions, 5: interfaces -/
def nilKind (P : Program) (t : TypeId) : Nat := match P.underlying t with
  | some (.pointer _) => 1
  | some (.slice _) => 2
  | some (.map _ _) => 3
  | some (.func _ _ _) => 4
  | some (.interface _) => 5
  | _ => 0
def kindOf : Value → Nat
  | .pointer _ => 1
  | .slice _ _ _ => 2
  | .map _ => 3
  | .nilFunc => 4
  | .func _ _ _ => 4
  | .nilIface => 5
  | .iface _ _ => 5
  | _ => 0
/-- x against nil: is it nil? -/
def nilTest (P : Program) (t : TypeId) (x y : Value) : Option Bool := match y with
  | .pointer none => bif Nat.beq (nilKind P t) 1 && Nat.beq (kindOf x) 1 then isNil x else none
  | .slice none _ _ => bif Nat.beq (nilKind P t) 2 && Nat.beq (kindOf x) 2 then isNil x else none
  | .map none => bif Nat.beq (nilKind P t) 3 && Nat.beq (kindOf x) 3 then isNil x else none
  | .nilFunc => bif Nat.beq (nilKind P t) 4 && Nat.beq (kindOf x) 4 then isNil x else none
  | .nilIface => bif Nat.beq (nilKind P t) 5 && Nat.beq (kindOf x) 5 then isNil x else none
  | _ => none
def isConst : Operand → Bool
  | .const _ => true
  | _ => false
def xval (C : Ctx) (E : Env) (h : Hp) : Op → Option Value
  | .move x => evX C.G E x
  | .assign x => evX C.G E x
  | .pick c x y => match evX C.G E c with
    | some (.bool true) => evX C.G E x
    | some (.bool false) => evX C.G E y
    | _ => none
  | .load t x => match evX C.G E x with
    | some v => xload C h t v
    | none => none
  | .nilCheck x => match evX C.G E x with
    | some (.pointer (some a)) => some (.pointer (some a))
    | some (.func (.func f) p q) => some (.func (.func f) p q)
    | some (.iface t v) => some (.iface t v)
    | _ => none
  | .extract x i => match evX C.G E x with
    | some (.tuple ⟨l⟩) => l[i]?
    | _ => none
  | .makeInterface t x => match C.P.underlying t with
    | some (.interface _) => none
    | some _ => match evX C.G E x with
      | some v => some (.iface t v)
      | none => none
    | none => none
  | .makeFunc (.func f) ⟨x⟩ ⟨y⟩ => match evsX C.G E x with
    | some vx => match evsX C.G E y with
      | some vy => some (.func (.func f) ⟨vx⟩ ⟨vy⟩)
      | none => none
    | none => none
  | .fieldAddr s x f => match evX C.G E x with
    | some (.pointer (some ⟨b, off, none⟩)) => match fldB C.P s f with
      | some (o, _ + 1, _) => some (.pointer (some ⟨b, off + o, none⟩))
      | _ => none
    | _ => none
  | .field s x f => match evX C.G E x with
    | some (.agg ⟨l⟩) => match C.P.underlying s with
      | some (.struct fs) => match fs[f]? with
        | some fi => partX C.P fi.type l fi.offset
        | none => none
      | _ => none
    | _ => none
  | .indexAddr t x y => match natX C.G E y with
    | some i => match evX C.G E x with
      | some (.slice (some ⟨b, off, none⟩) n _) => match slcB C.P t with
        | some (_, z, _) => bif Nat.blt i n then some (.pointer (some ⟨b, off + i * z, none⟩)) else none
        | none => none
      | some (.pointer (some ⟨b, off, none⟩)) => match C.P.underlying t with
        | some (.array n e) => match sizeB C.P e with
          | some z => bif Nat.blt i n then some (.pointer (some ⟨b, off + i * z, none⟩)) else none
          | none => none
        | _ => none
      | _ => none
    | none => none
  | .index t x y => match natX C.G E y with
    | some i => match evX C.G E x with
      | some (.agg ⟨l⟩) => match C.P.underlying t with
        | some (.array n e) => match sizeB C.P e with
          | some z => bif Nat.blt i n then partX C.P e l (i * z) else none
          | none => none
        | _ => none
      | _ => none
    | none => none
  | .slice t x lo hi none => match evX C.G E x with
    | some (.slice a n c) => match slcB C.P t with
      | some (_, z, _) => match natO C.G E 0 lo with
        | some l => match natO C.G E n hi with
          | some j => sliceX h z (.slice a n c) l j
          | none => none
        | none => none
      | none => none
    | some (.pointer (some ⟨b, off, none⟩)) => match C.P.underlying t with
      | some (.array n e) => match sizeB C.P e with
        | some z => match natO C.G E 0 lo with
          | some l => match natO C.G E n hi with
            | some j => sliceX h z (.slice (some ⟨b, off, none⟩) n (2 * n)) l j
            | none => none
          | none => none
        | none => none
      | _ => none
    | _ => none
  | .typeAssert x _ t ok => match C.P.underlying t with
    | some (.interface _) => none
    | some _ => match evX C.G E x with
      | some (.iface u v) => bif Nat.beq u t then some (bif ok then .tuple ⟨[v, .bool true]⟩ else v) else none
      | _ => none
    | none => none
  | .binOp .eql t x y _ => match evX C.G E x with
    | some u => match evX C.G E y with
      | some v => bif isConst y then match nilTest C.P t u v with
          | some b => some (.bool b)
          | none => none
        else none
      | none => none
    | none => none
  | .binOp .neq t x y _ => match evX C.G E x with
    | some u => match evX C.G E y with
      | some v => bif isConst y then match nilTest C.P t u v with
          | some b => some (.bool (!b))
          | none => none
        else none
      | none => none
    | none => none
  | .call ⟨.builtin .len, ⟨[x]⟩, ⟨[t]⟩⟩ => match evX C.G E x with
    | some (.slice _ k _) => match slcB C.P t with
      | some _ => some (.int .i64 k)
      | none => none
    | _ => none
  | _ => none
section
variable {B : World} {F : PH} {C : Ctx} {h : Hp} {ρ : Val} {w : World} {n : Nat} {ds : List SDef} {E : Env} {a : Act} {o : Oper}
theorem evsX_ok (s : SatX B F C.G h ρ w) (hA : AgrX h.next ρ n ds E a) : ∀ {xs : List Operand} {vs : List Value}, evsX C.G E xs = some vs → wfL h.next vs = true ∧ xs.map a.eval = renL ρ vs
  | [], vs, hx => by simp only [evsX, Option.some.injEq] at hx; subst hx; exact ⟨rfl, rfl⟩
  | x :: xs, vs, hx => by
    simp only [evsX] at hx
    split at hx
    · rename_i v hv
      split at hx
      · rename_i vs' hvs
        cases hx
        obtain ⟨h1, h2⟩ := hA.ev s.gl s.gn hv
        obtain ⟨h3, h4⟩ := evsX_ok s hA hvs
        exact ⟨by simp [wfL, h1, h3], by simp [renL, h2, h4]⟩
      · cases hx
    · cases hx
theorem natX_ok (s : SatX B F C.G h ρ w) (hA : AgrX h.next ρ n ds E a) {x : Operand} {i : Nat} (hx : natX C.G E x = some i) : ∃ k, a.eval x = .int k (i : Int) := by
  unfold natX at hx
  split at hx
  · rename_i k j hv
    cases hx
    exact ⟨k, (hA.ev s.gl s.gn hv).2⟩
  · cases hx
theorem partX_ok {t : TypeId} {l : List Value} {off : Nat} {v : Value} (hw : wfL h.next l = true) (hx : partX C.P t l off = some v) : wfv h.next v = true ∧ (part t (renL ρ l).toArray off).run C.P w = .ok (ren ρ v) w := by
  unfold partX at hx
  split at hx
  · rename_i ha
    have hg := renL_get ρ hx
    refine ⟨wfL_get hw hx, ?_⟩
    simp only [part, Sem.run_bind, run_isAggB ha, Result.andThen_ok]
    simp [hg]
  · rename_i ha
    split at hx
    · rename_i z hz
      split at hx
      · rename_i m hm
        cases hx
        obtain ⟨rfl, hl⟩ := takeN_spec hm
        refine ⟨by simp only [wfv, wfA]; exact wfL_take (wfL_drop hw _) _, ?_⟩
        simp only [part, Sem.run_bind, run_isAggB ha, Result.andThen_ok, if_true, run_sizeB hz, Sem.run_pure, ren, renA, renL_take, renL_drop]
        congr 2
        simp [List.extract_eq_take_drop]
      · cases hx
    · cases hx
  · cases hx

theorem sliceX_ok (s : SatX B F C.G h ρ w) {sz l j : Nat} {v u : Value} (hv : wfv h.next v = true) (hx : sliceX h sz v l j = some u) :
    ∃ a n cap, ren ρ v = .slice a n cap ∧ l ≤ j ∧ j ≤ cap ∧ wfv h.next u = true ∧ ren ρ u = .slice (Go.Sk.asub a cap sz l) (j - l) (cap - l) := by
  unfold sliceX at hx
  split at hx
  · cases hb : Nat.beq l 0 && Nat.beq j 0 with
    | false => rw [hb] at hx; cases hx
    | true =>
      rw [hb] at hx
      cases hx
      rw [Bool.and_eq_true, Nat.beq_eq, Nat.beq_eq] at hb
      obtain ⟨rfl, rfl⟩ := hb
      exact ⟨none, 0, 0, by simp [ren], Nat.le_refl _, Nat.le_refl _, by simp [wfv], by simp [ren, Go.Sk.asub]⟩
  · rename_i nm off len c
    cases hlj : Nat.ble l j with
    | false => rw [hlj] at hx; cases hx
    | true =>
      rw [hlj] at hx
      rw [Nat.ble_eq] at hlj
      simp only [cond_true] at hx
      cases hc : Nat.beq (c % 2) 0 with
      | true =>
        rw [hc] at hx
        rw [Nat.beq_eq] at hc
        simp only [cond_true] at hx
        cases hj : Nat.ble j (c / 2) with
        | false => rw [hj] at hx; cases hx
        | true =>
          rw [hj] at hx
          rw [Nat.ble_eq] at hj
          cases hx
          refine ⟨some ⟨ρ.b nm, off, none⟩, len, c / 2, by simp [ren, capOf, hc], hlj, hj, by simpa [wfv] using hv, ?_⟩
          have h2 : capOf ρ nm (2 * (c / 2 - l)) = c / 2 - l := by unfold capOf; rw [if_pos (by omega)]; omega
          simp only [ren, h2, Go.Sk.asub]
          cases hcl : Nat.beq (c / 2) l with
          | true => rw [Nat.beq_eq] at hcl; simp [hcl]
          | false =>
            have : c / 2 ≠ l := fun e => by rw [← Nat.beq_eq, hcl] at e; cases e
            simp [this, add_lit]
      | false =>
        rw [hc] at hx
        have hc1 : ¬ c % 2 = 0 := fun e => by rw [← Nat.beq_eq, hc] at e; cases e
        simp only [cond_false] at hx
        split at hx
        · rename_i xs e z hg
          cases hb : Nat.ble ((c / 2 + j) * z) xs.length && Nat.blt 0 z with
          | false => rw [hb] at hx; cases hx
          | true =>
            rw [hb] at hx
            cases hx
            rw [Bool.and_eq_true, Nat.ble_eq, Nat.blt_eq] at hb
            obtain ⟨h1, hz⟩ := hb
            obtain ⟨_, _, _, obj, _, tail, _, ht1, _⟩ := s.ob nm _ hg
            have h4 : (c / 2 + j) * z ≤ ρ.c nm * z := by
              rw [← ht1, List.length_append, renL_len]; omega
            have h5 : c / 2 + j ≤ ρ.c nm := Nat.le_of_mul_le_mul_right h4 hz
            refine ⟨some ⟨ρ.b nm, off, none⟩, len, ρ.c nm - c / 2, by simp [ren, capOf, hc1], hlj, by omega, by simpa [wfv] using hv, ?_⟩
            have h2 : capOf ρ nm (2 * (c / 2 + l) + 1) = ρ.c nm - c / 2 - l := by unfold capOf; rw [if_neg (by omega)]; omega
            cases h3 : Nat.blt l j || Nat.beq l 0 with
            | true =>
              simp only [cond_true]
              rw [Bool.or_eq_true, Nat.blt_eq, Nat.beq_eq] at h3
              simp only [ren, h2, Go.Sk.asub]
              rcases h3 with h3 | h3
              · rw [if_neg (by omega)]; simp [add_lit]
              · subst h3; split <;> simp [add_lit]
            | false =>
              simp only [cond_false]
              simp only [ren, h2, Go.Sk.asub]
              by_cases hcl : ρ.c nm - c / 2 = l
              · rw [if_pos hcl]
                have : Nat.beq (ρ.c nm - c / 2 - l) 0 = true := by rw [Nat.beq_eq]; omega
                simp [this]
              · rw [if_neg hcl]
                have : Nat.beq (ρ.c nm - c / 2 - l) 0 = false := by rw [← Bool.not_eq_true, Nat.beq_eq]; omega
                simp [this, add_lit]
        · cases hx
  · rename_i nm off d c
    cases hb : Nat.beq l 0 && Nat.beq j 0 with
    | false => rw [hb] at hx; cases hx
    | true =>
      rw [hb] at hx
      cases hx
      rw [Bool.and_eq_true, Nat.beq_eq, Nat.beq_eq] at hb
      obtain ⟨rfl, rfl⟩ := hb
      refine ⟨some ⟨ρ.b nm, bif Nat.beq (capOf ρ nm c) 0 then off else off + d, none⟩, 0, capOf ρ nm c, by simp [ren], Nat.le_refl _, Nat.zero_le _, hv, ?_⟩
      simp only [ren, Go.Sk.asub]
      split <;> simp [add_lit]
  · cases hx
theorem natO_ok (s : SatX B F C.G h ρ w) (hA : AgrX h.next ρ n ds E a) {x : Option Operand} {d i : Nat} (hx : natO C.G E d x = some i) : (x = none ∧ i = d) ∨ ∃ y k, x = some y ∧ a.eval y = .int k (i : Int) := by
  cases x with
  | none => simp only [natO, Option.some.injEq] at hx; exact .inl ⟨rfl, hx.symm⟩
  | some y => obtain ⟨k, hk⟩ := natX_ok s hA hx; exact .inr ⟨y, k, rfl, hk⟩
theorem bounds_ok (s : SatX B F C.G h ρ w) (hA : AgrX h.next ρ n ds E a) {b : Bool} {lo hi : Option Operand} {k cap l j : Nat} (hl : natO C.G E 0 lo = some l) (hj : natO C.G E k hi = some j) (h1 : l ≤ j) (h2 : j ≤ cap) :
    (Instr.sliceBounds b k cap (lo.map a.eval) (hi.map a.eval) none).run C.P w = .ok (l, j, cap) w := by
  have e1 : (0 : Int) ≤ (l : Int) := Int.natCast_nonneg _
  have e2 : (0 : Int) ≤ (j : Int) := Int.natCast_nonneg _
  have e3 : (l : Int) ≤ (j : Int) := by omega
  have e4 : (j : Int) ≤ (cap : Int) := by omega
  rcases natO_ok s hA hl with ⟨rfl, rfl⟩ | ⟨y, ky, rfl, hy⟩ <;> rcases natO_ok s hA hj with ⟨rfl, rfl⟩ | ⟨x, kx, rfl, hx⟩
  · simp only [Instr.sliceBounds, Option.map_none, Sem.run_bind, Sem.run_pure, Result.andThen_ok]
  · simp only [Instr.sliceBounds, Instr.sliceBound, asIntOf, Option.map_none, Option.map_some, hx, e2, e4, and_self, if_true, Int.toNat_natCast, Sem.run_bind, Sem.run_pure, Result.andThen_ok]
  · simp only [Instr.sliceBounds, Instr.sliceBound, asIntOf, Option.map_none, Option.map_some, hy, e1, e3, and_self, if_true, Int.toNat_natCast, Sem.run_bind, Sem.run_pure, Result.andThen_ok, Option.isSome_none, Bool.false_eq_true, if_false]
  · simp only [Instr.sliceBounds, Instr.sliceBound, asIntOf, Option.map_none, Option.map_some, hx, hy, e1, e2, e3, e4, and_self, if_true, Int.toNat_natCast, Sem.run_bind, Sem.run_pure, Result.andThen_ok, Option.isSome_none, Bool.false_eq_true, if_false]
theorem nilKind_ptr {t : TypeId} (h : nilKind C.P t = 1) : ∃ e, C.P.underlying t = some (.pointer e) := by
  unfold nilKind at h
  split at h <;> first | omega | (exact ⟨_, by assumption⟩)
theorem nilKind_slc {t : TypeId} (h : nilKind C.P t = 2) : ∃ e, C.P.underlying t = some (.slice e) := by
  unfold nilKind at h
  split at h <;> first | omega | (exact ⟨_, by assumption⟩)
theorem nilKind_map {t : TypeId} (h : nilKind C.P t = 3) : ∃ k e, C.P.underlying t = some (.map k e) := by
  unfold nilKind at h
  split at h <;> first | omega | (exact ⟨_, _, by assumption⟩)
theorem nilKind_fun {t : TypeId} (h : nilKind C.P t = 4) : ∃ p q r, C.P.underlying t = some (.func p q r) := by
  unfold nilKind at h
  split at h <;> first | omega | (exact ⟨_, _, _, by assumption⟩)
theorem nilKind_ifc {t : TypeId} (h : nilKind C.P t = 5) : ∃ p, C.P.underlying t = some (.interface p) := by
  unfold nilKind at h
  split at h <;> first | omega | (exact ⟨_, by assumption⟩)
open Go.Sk (run_eqv) in
theorem nilTest_ok {t : TypeId} {u v : Value} {b : Bool} (hx : nilTest C.P t u v = some b) : (Op.equal t (ren ρ u) (ren ρ v)).run C.P w = .ok b w := by
  unfold nilTest at hx
  split at hx
  · cases hb : Nat.beq (nilKind C.P t) 1 && Nat.beq (kindOf u) 1 with
    | false => rw [hb] at hx; cases hx
    | true =>
      rw [hb] at hx
      rw [Bool.and_eq_true, Nat.beq_eq, Nat.beq_eq] at hb
      obtain ⟨e, he⟩ := nilKind_ptr hb.1
      have hk := hb.2
      cases u <;> simp [kindOf] at hk
      rename_i p
      simp only [cond_true, isNil, Option.some.injEq] at hx
      subst hx
      refine run_eqv fun d => ?_
      cases p <;> simp [ren, Op.equalIn, run_underlying he]
  · cases hb : Nat.beq (nilKind C.P t) 2 && Nat.beq (kindOf u) 2 with
    | false => rw [hb] at hx; cases hx
    | true =>
      rw [hb] at hx
      rw [Bool.and_eq_true, Nat.beq_eq, Nat.beq_eq] at hb
      obtain ⟨e, he⟩ := nilKind_slc hb.1
      have hk := hb.2
      cases u <;> simp [kindOf] at hk
      rename_i p _ _
      simp only [cond_true, isNil, Option.some.injEq] at hx
      subst hx
      refine run_eqv fun d => ?_
      rcases p with _ | ⟨_, _, _ | _⟩ <;> simp [ren, Op.equalIn, run_underlying he]
  · cases hb : Nat.beq (nilKind C.P t) 3 && Nat.beq (kindOf u) 3 with
    | false => rw [hb] at hx; cases hx
    | true =>
      rw [hb] at hx
      rw [Bool.and_eq_true, Nat.beq_eq, Nat.beq_eq] at hb
      obtain ⟨k, e, he⟩ := nilKind_map hb.1
      have hk := hb.2
      cases u <;> simp [kindOf] at hk
      rename_i p
      simp only [cond_true, isNil, Option.some.injEq] at hx
      subst hx
      refine run_eqv fun d => ?_
      cases p <;> simp [ren, Op.equalIn, run_underlying he]
  · cases hb : Nat.beq (nilKind C.P t) 4 && Nat.beq (kindOf u) 4 with
    | false => rw [hb] at hx; cases hx
    | true =>
      rw [hb] at hx
      rw [Bool.and_eq_true, Nat.beq_eq, Nat.beq_eq] at hb
      obtain ⟨p, q, r, he⟩ := nilKind_fun hb.1
      have hk := hb.2
      cases u <;> simp [kindOf] at hk
      all_goals
        simp only [cond_true, isNil, Option.some.injEq] at hx
        subst hx
        refine run_eqv fun d => ?_
        simp [ren, Op.equalIn, run_underlying he]
  · cases hb : Nat.beq (nilKind C.P t) 5 && Nat.beq (kindOf u) 5 with
    | false => rw [hb] at hx; cases hx
    | true =>
      rw [hb] at hx
      rw [Bool.and_eq_true, Nat.beq_eq, Nat.beq_eq] at hb
      obtain ⟨p, he⟩ := nilKind_ifc hb.1
      have hk := hb.2
      cases u <;> simp [kindOf] at hk
      all_goals
        simp only [cond_true, isNil, Option.some.injEq] at hx
        subst hx
        refine run_eqv fun d => ?_
        simp [ren, Op.equalIn, run_underlying he]
  · cases hx
end
end Go.Xs
