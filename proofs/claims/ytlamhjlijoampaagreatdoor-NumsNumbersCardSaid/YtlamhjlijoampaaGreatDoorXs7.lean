/- Operations that hand back a value and leave the heap: the reckoning is right. Plain theorems, no condition. -/
import Derived.Test.YtlamhjlijoampaaGreatDoorXs6
set_option linter.unusedVariables false
set_option linter.unusedSimpArgs false
namespace Go.Xs
open Go.RowKit
open Go.Sk (isAggB sizeB fldB slcB zerB plB run_sizeB run_isAggB slcB_spec fldB_spec zerB_spec run_fa run_ix run_sl)
section
variable {B : World} {F : PH} {C : Ctx} {h : Hp} {ρ : Val} {w : World} {n : Nat} {ds : List SDef} {E : Env} {a : Act} {o : Oper}
theorem und_fld {st f off z : Nat} {g : Bool} (hf : fldB C.P st f = some (off, z + 1, g)) {ad : Addr} : (Instr.fieldAt st (.pointer (some ad)) f).run C.P w = .ok (.pointer (some (ad.add off))) w := run_fa hf
theorem nilTest_cases {t : TypeId} {u v : Value} {b : Bool} (hx : nilTest C.P t u v = some b) :
    (∃ p, u = .pointer p ∧ v = .pointer none) ∨ (∃ p k c k' c', u = .slice p k c ∧ v = .slice none k' c') ∨ (∃ p, u = .map p ∧ v = .map none) ∨ ((u = .nilFunc ∨ ∃ f x y, u = .func f x y) ∧ v = .nilFunc) ∨ ((u = .nilIface ∨ ∃ t' x, u = .iface t' x) ∧ v = .nilIface) := by
  unfold nilTest at hx
  have kk : ∀ {p q : Bool} {r : Option Bool}, (bif p && q then r else none) = some b → q = true := fun {p q r} e => by cases p <;> cases q <;> first | rfl | cases e
  split at hx
  · have := Nat.eq_of_beq_eq_true (kk hx); cases u <;> simp [kindOf] at this; exact .inl ⟨_, rfl, rfl⟩
  · have := Nat.eq_of_beq_eq_true (kk hx); cases u <;> simp [kindOf] at this; exact .inr (.inl ⟨_, _, _, _, _, rfl, rfl⟩)
  · have := Nat.eq_of_beq_eq_true (kk hx); cases u <;> simp [kindOf] at this; exact .inr (.inr (.inl ⟨_, rfl, rfl⟩))
  · have := Nat.eq_of_beq_eq_true (kk hx); cases u <;> simp [kindOf] at this <;> simp
  · have := Nat.eq_of_beq_eq_true (kk hx); cases u <;> simp [kindOf] at this <;> simp
  · cases hx
theorem nil_guard {t : TypeId} {u v : Value} {b : Bool} (hx : nilTest C.P t u v = some b) (bo : BinOp) (x : Operand) (c : Value) : (eqGuard bo t x (.const c) (ren ρ u) (ren ρ v)).run C.P w = .ok () w := by
  rcases nilTest_cases hx with ⟨_ | p, rfl, rfl⟩ | ⟨_ | ⟨_, _, _ | _⟩, _, _, _, _, rfl, rfl⟩ | ⟨_ | p, rfl, rfl⟩ | ⟨rfl | ⟨_, _, _, rfl⟩, rfl⟩ | ⟨rfl | ⟨_, _, rfl⟩, rfl⟩ <;> cases bo <;> simp [ren, eqGuard]
theorem nil_eql {t : TypeId} {u v : Value} {b : Bool} (hx : nilTest C.P t u v = some b) : binOp .eql t (ren ρ u) (ren ρ v) = (do pure (.bool (← Op.equal t (ren ρ u) (ren ρ v)))) := by
  rcases nilTest_cases hx with ⟨_ | p, rfl, rfl⟩ | ⟨_ | ⟨_, _, _ | _⟩, _, _, _, _, rfl, rfl⟩ | ⟨_ | p, rfl, rfl⟩ | ⟨rfl | ⟨_, _, _, rfl⟩, rfl⟩ | ⟨rfl | ⟨_, _, rfl⟩, rfl⟩ <;> rfl
theorem nil_neq {t : TypeId} {u v : Value} {b : Bool} (hx : nilTest C.P t u v = some b) : binOp .neq t (ren ρ u) (ren ρ v) = (do pure (.bool (!(← Op.equal t (ren ρ u) (ren ρ v))))) := by
  rcases nilTest_cases hx with ⟨_ | p, rfl, rfl⟩ | ⟨_ | ⟨_, _, _ | _⟩, _, _, _, _, rfl, rfl⟩ | ⟨_ | p, rfl, rfl⟩ | ⟨rfl | ⟨_, _, _, rfl⟩, rfl⟩ | ⟨rfl | ⟨_, _, rfl⟩, rfl⟩ <;> rfl
theorem xval_ok (s : SatX B F C.G h ρ w) (hC : C.OK F) (hA : AgrX h.next ρ n ds E a) {v : Value} (hx : xval C E h o.op = some v) :
    wfv h.next v = true ∧ (execOp a.eval o).run C.P w = .ok (.value (ren ρ v)) w := by
  unfold xval at hx
  split at hx
  -- move, assign, pick
  · rename_i x ho
    obtain ⟨h1, h2⟩ := hA.ev s.gl s.gn hx
    exact ⟨h1, by unfold execOp; rw [ho]; simp only [h2, Sem.run_pure]⟩
  · rename_i x ho
    obtain ⟨h1, h2⟩ := hA.ev s.gl s.gn hx
    exact ⟨h1, by unfold execOp; rw [ho]; simp only [h2, Sem.run_pure]⟩
  · rename_i c x y ho
    split at hx
    · rename_i hc
      obtain ⟨h1, h2⟩ := hA.ev s.gl s.gn hx
      obtain ⟨_, h3⟩ := hA.ev s.gl s.gn hc
      exact ⟨h1, by unfold execOp; simp only [ho, h2, h3, ren]; rfl⟩
    · rename_i hc
      obtain ⟨h1, h2⟩ := hA.ev s.gl s.gn hx
      obtain ⟨_, h3⟩ := hA.ev s.gl s.gn hc
      exact ⟨h1, by unfold execOp; simp only [ho, h2, h3, ren]; rfl⟩
    · cases hx
  -- load
  · rename_i t x ho
    split at hx
    · rename_i u hu
      obtain ⟨_, h2⟩ := hA.ev s.gl s.gn hu
      obtain ⟨h3, h4⟩ := run_xload s hC hx
      exact ⟨h3, by unfold execOp; simp only [ho, h2, Sem.run_bind, h4, Result.andThen_ok, Sem.run_pure]⟩
    · cases hx
  -- nilCheck
  · rename_i x ho
    split at hx
    · rename_i ad hu
      cases hx
      obtain ⟨h1, h2⟩ := hA.ev s.gl s.gn hu
      exact ⟨h1, by unfold execOp; simp only [ho, h2, ren, Sem.run_pure]⟩
    · rename_i f p q hu
      cases hx
      obtain ⟨h1, h2⟩ := hA.ev s.gl s.gn hu
      exact ⟨h1, by unfold execOp; simp only [ho, h2, ren, Sem.run_pure]⟩
    · rename_i t u hu
      cases hx
      obtain ⟨h1, h2⟩ := hA.ev s.gl s.gn hu
      exact ⟨h1, by unfold execOp; simp only [ho, h2, ren, Sem.run_pure]⟩
    · cases hx
  -- extract
  · rename_i x i ho
    split at hx
    · rename_i l hu
      obtain ⟨h1, h2⟩ := hA.ev s.gl s.gn hu
      simp only [wfv, wfA] at h1
      exact ⟨wfL_get h1 hx, by unfold execOp; simp only [ho, h2, ren, renA, Instr.extract, List.getElem?_toArray, renL_get ρ hx, Sem.run_bind, Sem.run_pure, Result.andThen_ok]⟩
    · cases hx
  -- makeInterface
  · rename_i t x ho
    split at hx
    · cases hx
    · rename_i d hd hne
      split at hx
      · rename_i u hu
        cases hx
        obtain ⟨h1, h2⟩ := hA.ev s.gl s.gn hu
        refine ⟨by simpa [wfv] using h1, ?_⟩
        unfold execOp
        simp only [ho, h2, Instr.makeInterface, Sem.run_bind, run_underlying hne, Result.andThen_ok]
        cases d <;> first | exact absurd rfl (hd _) | simp [ren]
      · cases hx
    · cases hx
  -- makeFunc
  · rename_i f x y ho
    split at hx
    · rename_i vx hvx
      split at hx
      · rename_i vy hvy
        cases hx
        obtain ⟨h1, h2⟩ := evsX_ok s hA hvx
        obtain ⟨h3, h4⟩ := evsX_ok s hA hvy
        exact ⟨by simp [wfv, wfA, h1, h3], by unfold execOp; simp [ho, Instr.makeFunc, ren, renA, h2, h4]⟩
      · cases hx
    · cases hx
  -- fieldAddr
  · rename_i st x f ho
    split at hx
    · rename_i b off hu
      split at hx
      · rename_i fo z g hf
        cases hx
        obtain ⟨h1, h2⟩ := hA.ev s.gl s.gn hu
        refine ⟨by simpa [wfv] using h1, ?_⟩
        unfold execOp
        simp only [ho, h2, ren, Sem.run_bind, und_fld hf, Result.andThen_ok, Sem.run_pure, add_lit]
      · cases hx
    · cases hx
  -- field
  · rename_i st x f ho
    split at hx
    · rename_i l hu
      split at hx
      · rename_i fs hfs
        split at hx
        · rename_i fi hfi
          obtain ⟨h1, h2⟩ := hA.ev s.gl s.gn hu
          simp only [wfv, wfA] at h1
          obtain ⟨h3, h4⟩ := partX_ok (C := C) (w := w) (ρ := ρ) h1 hx
          refine ⟨h3, ?_⟩
          unfold execOp
          simp only [ho, h2, ren, renA, Instr.field, Sem.run_bind, run_underlying hfs, Result.andThen_ok, hfi, asAgg, Sem.run_pure, h4]
        · cases hx
      · cases hx
    · cases hx
  -- indexAddr
  · rename_i t x y ho
    split at hx
    · rename_i i hi
      obtain ⟨k, hk⟩ := natX_ok s hA hi
      split at hx
      · rename_i b off len c hu
        split at hx
        · rename_i e z bb ht
          cases hb : Nat.blt i len with
          | false => rw [hb] at hx; cases hx
          | true =>
            rw [hb] at hx
            cases hx
            rw [Nat.blt_eq] at hb
            obtain ⟨h1, h2⟩ := hA.ev s.gl s.gn hu
            refine ⟨by simpa [wfv] using h1, ?_⟩
            unfold execOp
            have hr := run_ix (P := C.P) (w := w) (k := len) (a := some ⟨ρ.b b, off, none⟩) (c := capOf ρ b c) (kk := k) (i := (i : Int)) ht (Int.natCast_nonneg _) (by omega) rfl
            simp only [ho, h2, hk, ren, Sem.run_bind, hr, Result.andThen_ok, Sem.run_pure, Go.Sk.adr, Option.getD_some, add_lit, Int.toNat_natCast]
        · cases hx
      · rename_i b off hu
        split at hx
        · rename_i len e hu2
          split at hx
          · rename_i z hz
            cases hb : Nat.blt i len with
            | false => rw [hb] at hx; cases hx
            | true =>
              rw [hb] at hx
              cases hx
              rw [Nat.blt_eq] at hb
              obtain ⟨h1, h2⟩ := hA.ev s.gl s.gn hu
              refine ⟨by simpa [wfv] using h1, ?_⟩
              unfold execOp
              have e1 : (0 : Int) ≤ (i : Int) := Int.natCast_nonneg _
              have e2 : (i : Int) < (len : Int) := by omega
              simp only [ho, h2, hk, ren, Instr.indexAt, Instr.sureAddr, asIntOf, Sem.run_bind, Sem.run_pure, Result.andThen_ok, run_underlying hu2, e1, e2, and_self, if_true, run_sizeB hz, add_lit, Int.toNat_natCast]
          · cases hx
        · cases hx
      · cases hx
    · cases hx
  -- index
  · rename_i t x y ho
    split at hx
    · rename_i i hi
      obtain ⟨k, hk⟩ := natX_ok s hA hi
      split at hx
      · rename_i l hu
        split at hx
        · rename_i len e hu2
          split at hx
          · rename_i z hz
            cases hb : Nat.blt i len with
            | false => rw [hb] at hx; cases hx
            | true =>
              rw [hb] at hx
              simp only [cond_true] at hx
              rw [Nat.blt_eq] at hb
              obtain ⟨h1, h2⟩ := hA.ev s.gl s.gn hu
              simp only [wfv, wfA] at h1
              obtain ⟨h3, h4⟩ := partX_ok (C := C) (w := w) (ρ := ρ) h1 hx
              refine ⟨h3, ?_⟩
              unfold execOp
              have e1 : (0 : Int) ≤ (i : Int) := Int.natCast_nonneg _
              have e2 : (i : Int) < (len : Int) := by omega
              simp only [ho, h2, hk, ren, renA, Instr.index, asIntOf, Sem.run_bind, Sem.run_pure, Result.andThen_ok, run_underlying hu2, e1, e2, and_self, if_true, run_sizeB hz, Int.toNat_natCast, h4]
          · cases hx
        · cases hx
      · cases hx
    · cases hx
  -- slice
  · rename_i t x lo hi ho
    split at hx
    · rename_i ad len c hu
      split at hx
      · rename_i e z bb ht
        split at hx
        · rename_i l hl
          split at hx
          · rename_i j hj
            obtain ⟨h1, h2⟩ := hA.ev s.gl s.gn hu
            obtain ⟨a', n', cap, h3, h4, h5, h6, h7⟩ := sliceX_ok s h1 hx
            refine ⟨h6, ?_⟩
            have hn : n' = len := by rcases ad with _ | ⟨_, _, _ | _⟩ <;> simp [ren] at h3 <;> exact h3.2.1.symm
            subst hn
            have hb := bounds_ok (C := C) (w := w) (b := true) s hA hl hj h4 h5
            unfold execOp
            simp only [ho, h2, h3, h7, Option.map_none, Sem.run_bind, run_sl ht hb, Result.andThen_ok, Sem.run_pure]
          · cases hx
        · cases hx
      · cases hx
    · rename_i b off hu
      split at hx
      · rename_i len e hu2
        split at hx
        · rename_i z hz
          split at hx
          · rename_i l hl
            split at hx
            · rename_i j hj
              obtain ⟨h1, h2⟩ := hA.ev s.gl s.gn hu
              obtain ⟨a', n', cap, h3, h4, h5, h6, h7⟩ := sliceX_ok s (by simpa [wfv] using h1) hx
              refine ⟨h6, ?_⟩
              have hc : capOf ρ b (2 * len) = len := by unfold capOf; rw [if_pos (by omega)]; omega
              simp only [ren, hc, Value.slice.injEq] at h3
              obtain ⟨rfl, rfl, rfl⟩ := h3
              have hb := bounds_ok (C := C) (w := w) (b := false) s hA hl hj h4 h5
              unfold execOp
              simp only [ho, h2, ren, h7, Option.map_none, Instr.sliceAt, Instr.sureAddr, Sem.run_bind, run_underlying hu2, Result.andThen_ok, Sem.run_pure, hb, run_sizeB hz, Go.Sk.asub, Option.map_some]
              split <;> rfl
            · cases hx
          · cases hx
        · cases hx
      · cases hx
    · cases hx
  -- typeAssert
  · rename_i x xt t ok ho
    split at hx
    · cases hx
    · rename_i d hd hne
      split at hx
      · rename_i u v0 hu
        cases hb : Nat.beq u t with
        | false => rw [hb] at hx; cases hx
        | true =>
          rw [hb] at hx
          rw [Nat.beq_eq] at hb
          subst hb
          cases hx
          obtain ⟨h1, h2⟩ := hA.ev s.gl s.gn hu
          simp only [wfv] at h1
          refine ⟨by cases ok <;> simp [wfv, wfA, wfL, h1], ?_⟩
          unfold execOp
          simp only [ho, h2, ren, Instr.typeAssert, Sem.run_bind, run_underlying hne, Result.andThen_ok]
          cases d <;> first | exact absurd rfl (hd _) | (cases ok <;> simp [ren, renA, renL])
      · cases hx
    · cases hx
  -- eql
  · rename_i t x y yt ho
    split at hx
    · rename_i u hu
      split at hx
      · rename_i v0 hv
        cases hc : isConst y with
        | false => rw [hc] at hx; cases hx
        | true =>
          rw [hc] at hx
          simp only [cond_true] at hx
          split at hx
          · rename_i b hb
            cases hx
            obtain ⟨h1, h2⟩ := hA.ev s.gl s.gn hu
            obtain ⟨h3, h4⟩ := hA.ev s.gl s.gn hv
            refine ⟨by simp [wfv], ?_⟩
            have he := nilTest_ok (C := C) (w := w) (ρ := ρ) hb
            have hcy : ∃ c, y = .const c := by cases y <;> simp [isConst] at hc; exact ⟨_, rfl⟩
            obtain ⟨c, rfl⟩ := hcy
            unfold execOp
            simp only [ho, h2, h4]
            have hg := nil_guard (w := w) (ρ := ρ) hb .eql x c
            have hbin := nil_eql (ρ := ρ) hb
            simp only [Sem.run_bind, hg, Result.andThen_ok, hbin, he, Sem.run_pure, ren]
          · cases hx
      · cases hx
    · cases hx
  -- neq
  · rename_i t x y yt ho
    split at hx
    · rename_i u hu
      split at hx
      · rename_i v0 hv
        cases hc : isConst y with
        | false => rw [hc] at hx; cases hx
        | true =>
          rw [hc] at hx
          simp only [cond_true] at hx
          split at hx
          · rename_i b hb
            cases hx
            obtain ⟨h1, h2⟩ := hA.ev s.gl s.gn hu
            obtain ⟨h3, h4⟩ := hA.ev s.gl s.gn hv
            refine ⟨by simp [wfv], ?_⟩
            have he := nilTest_ok (C := C) (w := w) (ρ := ρ) hb
            have hcy : ∃ c, y = .const c := by cases y <;> simp [isConst] at hc; exact ⟨_, rfl⟩
            obtain ⟨c, rfl⟩ := hcy
            unfold execOp
            simp only [ho, h2, h4]
            have hg := nil_guard (w := w) (ρ := ρ) hb .neq x c
            have hbin := nil_neq (ρ := ρ) hb
            simp only [Sem.run_bind, hg, Result.andThen_ok, hbin, he, Sem.run_pure, ren]
          · cases hx
      · cases hx
    · cases hx
  -- len
  · rename_i x t ho
    split at hx
    · rename_i ad k c hu
      split at hx
      · rename_i q ht
        cases hx
        obtain ⟨h1, h2⟩ := hA.ev s.gl s.gn hu
        refine ⟨by simp [wfv], ?_⟩
        obtain ⟨e, z, bb⟩ := q
        obtain ⟨hu2, _⟩ := slcB_spec ht
        unfold execOp
        simp only [ho, resolve, invoke, builtin, List.map_toArray, List.map_cons, List.map_nil, h2, Builtin.len_, Sem.run_bind, Sem.run_pure, Result.andThen_ok, List.getElem?_toArray, List.getElem?_cons_zero, run_underlying hu2]
        rcases ad with _ | ⟨_, _, _ | _⟩ <;> rfl
      · cases hx
    · cases hx
  · cases hx
end
end Go.Xs
