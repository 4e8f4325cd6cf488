/- More values by reckoning: pointers turned, compared; rooms. Plain theorems, no condition. -/
import Derived.Test.YtlamhjlijoampaaGreatDoorXv5
import Derived.Lib.AppendStr
import Derived.Lib.UnsafeStr
set_option linter.unusedVariables false
set_option linter.unusedSimpArgs false
namespace Go.Xs
open Go.RowKit
open Go.Sk (isAggB sizeB slcB zerB run_sizeB slcB_spec zerB_spec)
def isUns (P : Program) (t : TypeId) : Bool := match P.underlying t with
  | some .unsafePointer => true
  | _ => false
theorem isUns_ok {P : Program} {t : TypeId} (h : isUns P t = true) : P.underlying t = some .unsafePointer := by
  unfold isUns at h
  split at h
  · assumption
  · cases h
def ptrTo (P : Program) (t : TypeId) : Option TypeId := match P.underlying t with
  | some (.pointer e) => some e
  | _ => none
theorem ptrTo_ok {P : Program} {t e : TypeId} (h : ptrTo P t = some e) : P.underlying t = some (.pointer e) := by
  unfold ptrTo at h
  split at h
  · cases h; assumption
  · cases h
def posSz (P : Program) (t : TypeId) : Bool := match sizeB P t with
  | some (_ + 1) => true
  | _ => false
theorem posSz_ok {P : Program} {t : TypeId} {w : World} (h : posSz P t = true) : ∃ z, (sizeOf t).run P w = .ok (z + 1) w := by
  unfold posSz at h
  split at h
  · rename_i z hz
    exact ⟨z, run_sizeB hz⟩
  · cases h
/-- the type and the number of cells of a row that is told whole -/
def cellsOf? : SObj → Option (TypeId × Nat)
  | .cells l e => some (e, l.length)
  | _ => none
def xval4 (C : Ctx) (E : Env) (h : Hp) : Op → Option Value
  | .convert t t' x => match evX C.G E x with
    | some (.pointer none) => match ptrTo C.P t with
      | some _ => bif isUns C.P t' then some (.pointer none) else none
      | none => match ptrTo C.P t' with
        | some _ => bif isUns C.P t then some (.pointer none) else none
        | none => none
    | some (.pointer (some ⟨nm, off, none⟩)) => match h.get nm with
      | some o => match cellsOf? o with
        | some (e, k) => match ptrTo C.P t with
          | some e0 => bif isUns C.P t' && Nat.blt off k && posSz C.P e0 then some (.pointer (some ⟨nm, off, none⟩)) else none
          | none => match ptrTo C.P t' with
            | some u => bif isUns C.P t && posSz C.P u && liesAt C.P C.P.depth e (k / C.P.cellsOf e) off u 1 then some (.pointer (some ⟨nm, off, none⟩)) else none
            | none => none
        | none => none
      | none => none
    | _ => none
  | .call ⟨.value f, ⟨[x]⟩, _⟩ => match evX C.G E f with
    | some (.func (.func g) ⟨[]⟩ ⟨[]⟩) => bif C.idf g then evX C.G E x else none
    | _ => none
  | .call ⟨.builtin .cap, ⟨[x]⟩, ⟨[t]⟩⟩ => match slcB C.P t with
    | some _ => match evX C.G E x with
      | some (.slice none 0 0) => some (.int .i64 0)
      | some (.slice (some ⟨_, _, none⟩) _ c) => bif Nat.beq (c % 2) 0 then some (.int .i64 (.ofNat (c / 2))) else none
      | _ => none
    | none => none
  | .binOp op t x y _ => match ptrTo C.P t with
    | some e => match evX C.G E x with
      | some (.pointer (some ⟨nm, off, none⟩)) => match evX C.G E y with
        | some (.pointer (some ⟨nm', off', none⟩)) => bif Nat.beq nm nm' && posSz C.P e then match op with
            | .eql => some (.bool (Nat.beq off off'))
            | .neq => some (.bool (!Nat.beq off off'))
            | _ => none
          else none
        | _ => none
      | _ => none
    | none => none
  | _ => none
section
variable {B : World} {F : PH} {C : Ctx} {h : Hp} {ρ : Val} {w : World} {n : Nat} {ds : List SDef} {E : Env} {a : Act} {o : Oper}
theorem cellsOf?_ok (s : SatX B F C.G h ρ w) {nm : Nat} {o : SObj} {e k : Nat} (hg : h.get nm = some o) (hc : cellsOf? o = some (e, k)) : w.shape? (ρ.b nm) = some (e, k) := by
  obtain ⟨_, _, _, obj, hob, hi⟩ := s.ob nm o hg
  cases o <;> simp only [cellsOf?, Option.some.injEq, Prod.mk.injEq, reduceCtorEq] at hc
  obtain ⟨rfl, rfl⟩ := hc
  simp only [SObj.is] at hi
  subst hi
  simp [World.shape?, hob, renL_len]
theorem xval4_ok (s : SatX B F C.G h ρ w) (hA : AgrX h.next ρ n ds E a) {v : Value} (hx : xval4 C E h o.op = some v) : wfv h.next v = true ∧ (execOp a.eval o).run C.P w = .ok (.value (ren ρ v)) w := by
  unfold xval4 at hx
  split at hx
  · rename_i t t' x ho
    split at hx
    · rename_i hv
      have e1 := (hA.ev s.gl s.gn hv).2
      simp only [ren] at e1
      split at hx
      · rename_i e0 he
        have h1 := ptrTo_ok he
        cases hu : isUns C.P t' with
        | false => rw [hu] at hx; cases hx
        | true =>
          rw [hu] at hx
          cases hx
          refine ⟨rfl, ?_⟩
          unfold execOp
          simp only [ho, e1, convert, Sem.run_bind, run_underlying h1, run_underlying (isUns_ok hu), Result.andThen_ok, Conv.unsafePointer, Sem.run_pure, ren]
      · split at hx
        · rename_i e0 he
          have h1 := ptrTo_ok he
          cases hu : isUns C.P t with
          | false => rw [hu] at hx; cases hx
          | true =>
            rw [hu] at hx
            cases hx
            refine ⟨rfl, ?_⟩
            unfold execOp
            simp only [ho, e1, convert, Sem.run_bind, run_underlying h1, run_underlying (isUns_ok hu), Result.andThen_ok, Conv.unsafePointer, Sem.run_pure, ren]
        · cases hx
    · rename_i nm off hv
      obtain ⟨w1, e1⟩ := hA.ev s.gl s.gn hv
      simp only [ren] at e1
      split at hx
      · rename_i so hg
        split at hx
        · rename_i e k hco
          have hsh := cellsOf?_ok s hg hco
          split at hx
          · rename_i e0 he
            have h1 := ptrTo_ok he
            cases hb : isUns C.P t' && Nat.blt off k && posSz C.P e0 with
            | false => rw [hb] at hx; cases hx
            | true =>
              rw [hb] at hx
              cases hx
              simp only [Bool.and_eq_true, Nat.blt_eq] at hb
              obtain ⟨⟨hu, hlt⟩, hp⟩ := hb
              obtain ⟨z, hz⟩ := posSz_ok (w := w) hp
              have hnot : ¬ k ≤ off := by omega
              refine ⟨w1, ?_⟩
              unfold execOp
              simp [ho, e1, convert, run_underlying h1, run_underlying (isUns_ok hu), Conv.unsafePointer, Conv.seenAt, viewAt, cellsIn, shape, Sem.run, hsh, hz, ren, hnot]
          · split at hx
            · rename_i u he
              have h1 := ptrTo_ok he
              cases hb : isUns C.P t && posSz C.P u && liesAt C.P C.P.depth e (k / C.P.cellsOf e) off u 1 with
              | false => rw [hb] at hx; cases hx
              | true =>
                rw [hb] at hx
                cases hx
                simp only [Bool.and_eq_true] at hb
                obtain ⟨⟨hu, hp⟩, hl⟩ := hb
                obtain ⟨z, hz⟩ := posSz_ok (w := w) hp
                refine ⟨w1, ?_⟩
                unfold execOp
                simp [ho, e1, convert, run_underlying h1, run_underlying (isUns_ok hu), Conv.unsafePointer, Conv.seenAt, viewAt, variablesAt, program, shape, Sem.run, hsh, hz, ren, hl]
            · cases hx
        · cases hx
      · cases hx
    · cases hx
  · rename_i f x ats ho
    split at hx
    · rename_i g hf
      cases hi : C.idf g with
      | false => rw [hi] at hx; cases hx
      | true =>
        rw [hi] at hx
        simp only [cond_true] at hx
        obtain ⟨w1, e1⟩ := hA.ev s.gl s.gn hx
        have e2 := (hA.ev s.gl s.gn hf).2
        simp only [ren, renA, renL] at e2
        refine ⟨w1, ?_⟩
        have hrun := C.idok g hi (ren ρ v) w
        unfold execOp
        simp only [ho, resolve, Sem.run_bind, List.map_toArray, List.map_cons, List.map_nil, e1, e2, Deferred.ofValue, Sem.run_pure, Result.andThen_ok, invoke]
        have e3 : ((⟨[]⟩ : Array Value) ++ [ren ρ v].toArray) ++ (⟨[]⟩ : Array Value) = #[ren ρ v] := by simp
        rw [e3, hrun]
    · cases hx
  · rename_i x t ho
    split at hx
    · rename_i q ht
      obtain ⟨e, z, bb⟩ := q
      obtain ⟨hu2, _⟩ := slcB_spec ht
      split at hx
      · rename_i hv
        cases hx
        have e1 := (hA.ev s.gl s.gn hv).2
        simp only [ren] at e1
        refine ⟨rfl, ?_⟩
        unfold execOp
        simp only [ho, resolve, invoke, builtin, List.map_toArray, List.map_cons, List.map_nil, e1, Builtin.cap_, Sem.run_bind, Sem.run_pure, Result.andThen_ok, List.getElem?_toArray, List.getElem?_cons_zero, run_underlying hu2]
        rfl
      · rename_i nm off k c hv
        cases hc : Nat.beq (c % 2) 0 with
        | false => rw [hc] at hx; cases hx
        | true =>
          rw [hc] at hx
          rw [Nat.beq_eq] at hc
          cases hx
          have e1 := (hA.ev s.gl s.gn hv).2
          have hcap : capOf ρ nm c = c / 2 := by unfold capOf; rw [if_pos hc]
          simp only [ren, hcap] at e1
          refine ⟨rfl, ?_⟩
          unfold execOp
          simp only [ho, resolve, invoke, builtin, List.map_toArray, List.map_cons, List.map_nil, e1, Builtin.cap_, Sem.run_bind, Sem.run_pure, Result.andThen_ok, List.getElem?_toArray, List.getElem?_cons_zero, run_underlying hu2, goInt, ren]
          rfl
      · cases hx
    · cases hx
  · rename_i op t x y p ho
    split at hx
    · rename_i e he
      have h1 := ptrTo_ok he
      split at hx
      · rename_i nm off hv
        split at hx
        · rename_i nm' off' hv'
          cases hb : Nat.beq nm nm' && posSz C.P e with
          | false => rw [hb] at hx; cases hx
          | true =>
            rw [hb] at hx
            rw [Bool.and_eq_true, Nat.beq_eq] at hb
            obtain ⟨rfl, hp⟩ := hb
            obtain ⟨z, hz⟩ := posSz_ok (w := w) hp
            have e1 := (hA.ev s.gl s.gn hv).2
            have e2 := (hA.ev s.gl s.gn hv').2
            simp only [ren] at e1 e2
            have hoff : (off == off') = Nat.beq off off' := by
              cases hbo : Nat.beq off off' with
              | true => rw [Nat.beq_eq] at hbo; subst hbo; exact beq_self_eq_true off
              | false =>
                have : off ≠ off' := fun e => by subst e; rw [Nat.beq_refl] at hbo; cases hbo
                simpa using this
            have heq : ((⟨ρ.b nm, off, none⟩ : Addr) == ⟨ρ.b nm, off', none⟩) = Nat.beq off off' := by
              rw [← hoff]
              by_cases e : off = off'
              · subst e
                rw [beq_self_eq_true off]
                exact beq_self_eq_true (⟨ρ.b nm, off, none⟩ : Addr)
              · have e1 : (off == off') = false := by simpa using e
                rw [e1]
                apply Bool.eq_false_iff.2
                intro h
                have := eq_of_beq h
                injection this with _ h2 _
                exact e h2
            have hequal : (Op.equal t (.pointer (some ⟨ρ.b nm, off, none⟩)) (.pointer (some ⟨ρ.b nm, off', none⟩))).run C.P w = .ok (Nat.beq off off') w := Go.Sk.run_eqv fun d => by
              have hne : ¬ (z + 1 = 0) := by omega
              simp only [Op.equalIn, Sem.run_bind, run_underlying h1, Result.andThen_ok, hz, if_pos hne, sameAddr, beq_self_eq_true, if_true, Sem.run_pure, heq]
            have hgd : ∀ op, (eqGuard op t x y (.pointer (some ⟨ρ.b nm, off, none⟩)) (.pointer (some ⟨ρ.b nm, off', none⟩))).run C.P w = .ok () w := fun op => by
              unfold eqGuard
              cases op <;> rfl
            cases op <;> simp only [cond_true, reduceCtorEq] at hx
            · cases hx
              refine ⟨rfl, ?_⟩
              unfold execOp
              simp only [ho, e1, e2, hgd, binOp, Sem.run_bind, Sem.run_pure, Result.andThen_ok, hequal, ren]
            · cases hx
              refine ⟨rfl, ?_⟩
              unfold execOp
              simp only [ho, e1, e2, hgd, binOp, Sem.run_bind, Sem.run_pure, Result.andThen_ok, hequal, ren]
        · cases hx
      · cases hx
    · cases hx
  · cases hx
end
end Go.Xs
