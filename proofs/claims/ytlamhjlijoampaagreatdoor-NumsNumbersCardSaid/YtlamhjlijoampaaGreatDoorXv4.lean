/- Maps by reckoning. Plain theorems, no condition. -/
import Derived.Test.YtlamhjlijoampaaGreatDoorXv3
import Derived.MapKept
set_option linter.unusedVariables false
set_option linter.unusedSimpArgs false
namespace Go.Xs
open Go.RowKit
open Go.Sk (zerB zerB_spec)

def eqI : Int → Int → Bool
  | .ofNat a, .ofNat b => Nat.beq a b
  | .negSucc a, .negSucc b => Nat.beq a b
  | _, _ => false
theorem eqI_ok {a b : Int} (h : eqI a b = true) : a = b := by
  cases a <;> cases b <;> simp [eqI] at h <;> subst h <;> rfl
theorem eqI_self (a : Int) : eqI a a = true := by cases a <;> simp [eqI]
theorem eqI_beq (a b : Int) : (a == b) = eqI a b := by
  cases h : eqI a b with
  | true => rw [eqI_ok h]; exact beq_self_eq_true b
  | false =>
    cases h' : a == b with
    | false => rfl
    | true => rw [eq_of_beq h', eqI_self] at h; cases h
theorem ik_inj {j k : IntKind} (h : j.ctorIdx = k.ctorIdx) : j = k := by cases j <;> cases k <;> first | rfl | (simp [IntKind.ctorIdx] at h)
theorem ba_beq (a b : List UInt8) : ((⟨⟨a⟩⟩ : ByteArray) == ⟨⟨b⟩⟩) = eqU a b := by
  have h0 : ((⟨⟨a⟩⟩ : ByteArray) == ⟨⟨b⟩⟩) = ((⟨a⟩ : Array UInt8) == ⟨b⟩) := rfl
  rw [h0]
  cases h : eqU a b with
  | true => rw [eqU_ok h]; simp
  | false =>
    cases h' : ((⟨a⟩ : Array UInt8) == ⟨b⟩) with
    | false => rfl
    | true =>
      have : (⟨a⟩ : Array UInt8) = ⟨b⟩ := eq_of_beq h'
      have : a = b := by injection this
      rw [this, eqU_self] at h
      cases h
/-- A key of this type. -/
def isKeyB (P : Program) (kt : TypeId) (k : Value) : Bool := match P.underlying kt with
  | some (.int j) => match k with
    | .int i _ => Nat.beq i.ctorIdx j.ctorIdx
    | _ => false
  | some .string => match k with
    | .string _ => true
    | _ => false
  | some .bool => match k with
    | .bool _ => true
    | _ => false
  | _ => false
theorem isKeyB_ok {P : Program} {kt : TypeId} {k : Value} (h : isKeyB P kt k = true) : ∃ d, P.underlying kt = some d ∧ MapKept.IsKey d k ∧ (∀ ρ, ren ρ k = k) ∧ wfv 0 k = true := by
  unfold isKeyB at h
  split at h
  · rename_i j hj
    split at h
    · rename_i i x
      rw [Nat.beq_eq] at h
      exact ⟨_, hj, ik_inj h, fun _ => by simp [ren], rfl⟩
    · cases h
  · rename_i hj
    split at h
    · exact ⟨_, hj, trivial, fun _ => by simp [ren], rfl⟩
    · cases h
  · rename_i hj
    split at h
    · exact ⟨_, hj, trivial, fun _ => by simp [ren], rfl⟩
    · cases h
  · cases h
def sameK : Value → Value → Option Bool
  | .string ⟨⟨a⟩⟩, .string ⟨⟨b⟩⟩ => some (eqU a b)
  | .int j a, .int k b => bif Nat.beq j.ctorIdx k.ctorIdx then some (eqI a b) else none
  | .bool a, .bool b => some (bif a then b else !b)
  | _, _ => none
theorem sameK_ok {d : TypeDesc} {k e : Value} {b : Bool} (hd : MapKept.IsKey d k) (h : sameK k e = some b) (ρ : Val) : Instr.sameNow d k (ren ρ e) = some b ∧ (b = true → e = k) := by
  unfold sameK at h
  split at h
  · rename_i x y
    cases h
    cases d <;> simp only [MapKept.IsKey] at hd
    exact ⟨by simp only [ren, Instr.sameNow, ba_beq], fun h => by rw [eqU_ok h]⟩
  · rename_i j x k y
    cases hb : Nat.beq j.ctorIdx k.ctorIdx with
    | false => rw [hb] at h; cases h
    | true =>
      rw [hb] at h
      rw [Nat.beq_eq] at hb
      cases ik_inj hb
      cases h
      cases d <;> simp only [MapKept.IsKey] at hd
      exact ⟨by simp only [ren, Instr.sameNow, if_true, eqI_beq], fun h => by rw [eqI_ok h]⟩
  · rename_i x y
    cases h
    cases d <;> simp only [MapKept.IsKey] at hd
    exact ⟨by simp only [ren, Instr.sameNow]; cases x <;> cases y <;> rfl, fun h => by cases x <;> cases y <;> simp at h ⊢⟩
  · cases h
def findM (k : Value) : List MapEntry → Nat → Option (Option (Nat × MapEntry))
  | [], _ => some none
  | e :: es, i => match sameK k e.key with
    | some true => some (some (i, e))
    | some false => findM k es (i + 1)
    | none => none
theorem findM_ok {d : TypeDesc} {k : Value} (hd : MapKept.IsKey d k) (ρ : Val) : ∀ {es : List MapEntry} {i : Nat} {r : Option (Nat × MapEntry)}, findM k es i = some r →
    Instr.findNow d k (es.map (renE ρ)) i = some (r.map fun x => (x.1, ren ρ x.2.val)) ∧ ∀ x, r = some x → i ≤ x.1 ∧ es[x.1 - i]? = some x.2 ∧ x.2.key = k
  | [], i, r, h => by
    simp only [findM, Option.some.injEq] at h
    subst h
    exact ⟨rfl, fun x hx => by cases hx⟩
  | e :: es, i, r, h => by
    simp only [findM] at h
    split at h
    · rename_i hs
      cases h
      obtain ⟨h1, h2⟩ := sameK_ok hd hs ρ
      refine ⟨by simp only [List.map_cons, Instr.findNow, renE, h1, Option.map_some], fun x hx => ?_⟩
      cases hx
      exact ⟨Nat.le_refl _, by simp, h2 rfl⟩
    · rename_i hs
      obtain ⟨h1, _⟩ := sameK_ok hd hs ρ
      obtain ⟨h3, h4⟩ := findM_ok hd ρ h
      refine ⟨by simp only [List.map_cons, Instr.findNow, renE, h1]; exact h3, fun x hx => ?_⟩
      obtain ⟨h5, h6, h7⟩ := h4 x hx
      refine ⟨by omega, ?_, h7⟩
      obtain ⟨c, hc⟩ : ∃ c, x.1 = i + 1 + c := ⟨x.1 - (i + 1), by omega⟩
      rw [hc] at h6 ⊢
      rw [show i + 1 + c - (i + 1) = c by omega] at h6
      rw [show i + 1 + c - i = c + 1 by omega, List.getElem?_cons_succ]
      exact h6
    · cases h
/-- One entry's value is another one. -/
def setE (v : Value) : Nat → List MapEntry → List MapEntry
  | _, [] => []
  | 0, e :: es => ⟨e.key, v, e.born⟩ :: es
  | i + 1, e :: es => e :: setE v i es
theorem setE_ok (ρ : Val) (v : Value) : ∀ (i : Nat) (es : List MapEntry) (e : MapEntry), es[i]? = some e → (es.map (renE ρ)).toArray.modify i (fun x => { x with key := ren ρ e.key, val := ren ρ v }) = ((setE v i es).map (renE ρ)).toArray := by
  have key : ∀ (i : Nat) (es : List MapEntry) (e : MapEntry), es[i]? = some e → (es.map (renE ρ)).modify i (fun x => { x with key := ren ρ e.key, val := ren ρ v }) = (setE v i es).map (renE ρ) := by
    intro i
    induction i with
    | zero =>
      intro es e h
      cases es with
      | nil => simp at h
      | cons e' es =>
        simp only [List.getElem?_cons_zero, Option.some.injEq] at h
        subst h
        simp [setE, renE]
    | succ i ih =>
      intro es e h
      cases es with
      | nil => simp at h
      | cons e' es =>
        simp only [List.getElem?_cons_succ] at h
        simp only [setE, List.map_cons, List.modify_succ_cons, ih es e h]
  intro i es e h
  apply Array.ext'
  rw [Array.toList_modify]
  exact key i es e h
theorem setE_wf {n : Nat} {v : Value} (hv : wfv n v = true) : ∀ (i : Nat) (es : List MapEntry), (es.all fun x => wfv n x.key && wfv n x.val) = true → ((setE v i es).all fun x => wfv n x.key && wfv n x.val) = true
  | _, [], _ => by simp [setE]
  | 0, e :: es, h => by
    simp only [setE, List.all_cons, Bool.and_eq_true] at h ⊢
    exact ⟨⟨h.1.1, hv⟩, h.2⟩
  | i + 1, e :: es, h => by
    simp only [setE, List.all_cons, Bool.and_eq_true] at h ⊢
    exact ⟨h.1, setE_wf hv i es h.2⟩
def mapTy (P : Program) (t : TypeId) : Option (TypeId × TypeId) := match P.underlying t with
  | some (.map k e) => some (k, e)
  | _ => none
theorem mapTy_ok {P : Program} {t k e : TypeId} (h : mapTy P t = some (k, e)) : P.underlying t = some (.map k e) := by
  unfold mapTy at h
  split at h
  · cases h; assumption
  · cases h
def zeroX (P : Program) (t : TypeId) : Option Value := match zerB P t with
  | some z => bif noAddr z then some z else none
  | none => none
theorem zeroX_ok {P : Program} {w : World} {t : TypeId} {z : Value} (h : zeroX P t = some z) : (zeroValue t).run P w = .ok z w ∧ wfv 0 z = true := by
  unfold zeroX at h
  split at h
  · rename_i z' hz
    cases hn : noAddr z' with
    | false => rw [hn] at h; cases h
    | true => rw [hn] at h; cases h; exact ⟨zerB_spec hz, hn⟩
  · cases h
def okV (ok : Bool) (v : Value) (b : Bool) : Value := bif ok then .tuple ⟨[v, .bool b]⟩ else v
/-- what looks at maps -/
def xval3 (C : Ctx) (E : Env) (h : Hp) : Op → Option Value
  | .lookup t x k ok => match mapTy C.P t with
    | some (kt, et) => match evX C.G E k with
      | some kv => bif isKeyB C.P kt kv then match evX C.G E x with
          | some (.map none) => match zeroX C.P et with
            | some z => some (okV ok z false)
            | none => none
          | some (.map (some nm)) => match h.get nm with
            | some (.map es _) => match findM kv es 0 with
              | some (some (_, e)) => some (okV ok e.val true)
              | some none => match zeroX C.P et with
                | some z => some (okV ok z false)
                | none => none
              | none => none
            | _ => none
          | _ => none
        else none
      | none => none
    | none => none
  | .call ⟨.builtin .len, ⟨[x]⟩, ⟨[t]⟩⟩ => match mapTy C.P t with
    | some _ => match evX C.G E x with
      | some (.map none) => some (.int .i64 0)
      | some (.map (some nm)) => match h.get nm with
        | some (.map es _) => some (.int .i64 (.ofNat es.length))
        | _ => none
      | _ => none
    | none => none
  | _ => none
def xmem4 (C : Ctx) (E : Env) (h : Hp) : Op → Option OR
  | .makeMap t r => match mapTy C.P t with
    | some _ => match r with
      | none => some (.val (.map (some h.next)) (h.new (.map [] 0)))
      | some x => match natX C.G E x with
        | some _ => some (.val (.map (some h.next)) (h.new (.map [] 0)))
        | none => none
    | none => none
  | .mapUpdate t m k v => match mapTy C.P t with
    | some (kt, _) => match evX C.G E k with
      | some kv => bif isKeyB C.P kt kv then match evX C.G E m with
          | some (.map (some nm)) => match evX C.G E v with
            | some vv => match h.get nm with
              | some (.map es ck) => match findM kv es 0 with
                | some (some (i, _)) => some (.unit (h.set nm (.map (setE vv i es) ck)))
                | some none => some (.unit (h.set nm (.map (es ++ [⟨kv, vv, ck⟩]) (ck + 1))))
                | none => none
              | _ => none
            | none => none
          | _ => none
        else none
      | none => none
    | none => none
  | .mapEntry t m k => match mapTy C.P t with
    | some (kt, et) => match evX C.G E k with
      | some kv => bif isKeyB C.P kt kv then match evX C.G E m with
          | some (.map (some nm)) => match h.get nm with
            | some (.map es ck) => match findM kv es 0 with
              | some (some (_, e)) => some (.val (.tuple ⟨[e.val, .int .i64 (.ofNat e.born)]⟩) h)
              | some none => match zeroX C.P et with
                | some z => some (.val (.tuple ⟨[z, .int .i64 (.ofNat ck)]⟩) (h.set nm (.map (es ++ [⟨kv, z, ck⟩]) (ck + 1))))
                | none => none
              | none => none
            | _ => none
          | _ => none
        else none
      | none => none
    | none => none
  | .entryStore _ m s v => match evX C.G E m with
    | some (.map (some nm)) => match natX C.G E s with
      | some b => match evX C.G E v with
        | some vv => match h.get nm with
          | some (.map es ck) => match bornAt b es 0 with
            | some i => some (.unit (h.set nm (.map (setE vv i es) ck)))
            | none => none
          | _ => none
        | none => none
      | none => none
    | _ => none
  | _ => none
where bornAt (b : Nat) : List MapEntry → Nat → Option Nat
  | [], _ => none
  | e :: es, i => bif Nat.beq e.born b then some i else bornAt b es (i + 1)
end Go.Xs
