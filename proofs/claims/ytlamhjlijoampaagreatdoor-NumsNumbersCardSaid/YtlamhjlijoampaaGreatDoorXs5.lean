/- Operations with addresses by reckoning: literals, places, parts of slices. Plain theorems, no condition. -/
import Derived.Test.YtlamhjlijoampaaGreatDoorXs4
set_option linter.unusedVariables false
set_option linter.unusedSimpArgs false
namespace Go.Xs
open Go.RowKit
open Go.Sk (isAggB sizeB fldB slcB zerB plB run_sizeB run_isAggB slcB_spec fldB_spec zerB_spec)

/-! ### literals -/
/-- The cells of a literal. -/
def fillX (G : Nat) (E : Env) (pl : Nat → Option (Nat × Nat)) : List (Nat × Operand) → List Value → Option (List Value)
  | [], cells => some cells
  | (i, x) :: ps, cells => match pl i with
    | some (off, sz) => match evX G E x with
      | some v => bif Nat.beq (vcells v).length sz && Nat.blt 0 sz then match setR cells off (vcells v) with
          | some cells' => fillX G E pl ps cells'
          | none => none
        else none
      | none => none
    | none => none
theorem fold_set : ∀ (vs : List Value) (k off : Nat) (cells : List Value), off + k + vs.length ≤ cells.length →
    (vs.zipIdx k).foldl (fun (cs : Array Value) x => cs.setIfInBounds (off + x.2) x.1) cells.toArray = (cells.take (off + k) ++ vs ++ cells.drop (off + k + vs.length)).toArray
  | [], k, off, cells, _ => by simp
  | v :: vs, k, off, cells, hl => by
    simp only [List.length_cons] at hl
    have hk : off + k < cells.length := by omega
    simp only [List.zipIdx_cons, List.foldl_cons, List.setIfInBounds_toArray]
    rw [fold_set vs (k + 1) off (cells.set (off + k) v) (by simp; omega)]
    congr 1
    rw [show off + (k + 1) = off + k + 1 by omega]
    rw [List.take_succ_eq_append_getElem (by simp; omega), List.getElem_set_self, List.take_set_of_le (Nat.le_refl _), List.drop_set_of_lt (by omega)]
    simp [Nat.add_assoc, Nat.add_comm 1]
theorem fold_set0 (vs : List Value) (off : Nat) (cells : List Value) (h : off + vs.length ≤ cells.length) :
    vs.toArray.zipIdx.foldl (fun (cs : Array Value) x => cs.setIfInBounds (off + x.2) x.1) cells.toArray = (cells.take off ++ vs ++ cells.drop (off + vs.length)).toArray := by
  have := fold_set vs 0 off cells (by omega)
  simp only [Nat.add_zero] at this
  rw [← this]
  simp
section
variable {B : World} {F : PH} {C : Ctx} {h : Hp} {ρ : Val} {w : World} {n : Nat} {ds : List SDef} {E : Env} {a : Act} {o : Oper}
theorem fillX_ok (s : SatX B F C.G h ρ w) (hA : AgrX h.next ρ n ds E a) {pl : Nat → Option (Nat × Nat)} : ∀ {ps : List (Nat × Operand)} {cells l : List Value}, wfL h.next cells = true → fillX C.G E pl ps cells = some l →
    wfL h.next l = true ∧ l.length = cells.length ∧ Instr.fill pl (renL ρ cells).toArray (ps.map fun (i, x) => (i, a.eval x)) = some (renL ρ l).toArray
  | [], cells, l, hw, hx => by
    simp only [fillX, Option.some.injEq] at hx
    subst hx
    exact ⟨hw, rfl, rfl⟩
  | (i, x) :: ps, cells, l, hw, hx => by
    simp only [fillX] at hx
    split at hx
    · rename_i off sz hp
      split at hx
      · rename_i v hv
        cases hb : Nat.beq (vcells v).length sz && Nat.blt 0 sz with
        | false => rw [hb] at hx; cases hx
        | true =>
          rw [hb] at hx
          rw [Bool.and_eq_true, Nat.beq_eq, Nat.blt_eq] at hb
          obtain ⟨hb, hpos⟩ := hb
          simp only [cond_true] at hx
          split at hx
          · rename_i cells' hs
            obtain ⟨hwv, hev⟩ := hA.ev s.gl s.gn hv
            obtain ⟨h1, h2, h3⟩ := fillX_ok s hA (wf_setR hs hw (wf_cells hwv)) hx
            refine ⟨h1, ?_, ?_⟩
            · rw [h2]
              rcases setR_spec hs with ⟨_, rfl⟩ | ⟨rfl, hle⟩
              · rfl
              · simp; omega
            · simp only [List.map_cons, Instr.fill, hp, hev, ren_cells]
              rcases setR_spec hs with ⟨h0, rfl⟩ | ⟨rfl, hle⟩
              · rw [h0] at hb; simp only [List.length_nil] at hb; omega
              · rw [if_neg (by simp [renL_len]; omega), fold_set0 _ _ _ (by simp [renL_len]; omega)]
                simp only [renL_app, renL_take, renL_drop, renL_len] at h3 ⊢
                exact h3
          · cases hx
      · cases hx
    · cases hx

theorem run_box (t : TypeId) (v : Value) : (Instr.box t v).run C.P w = .ok (.pointer (some ⟨w.heap.size, 0, none⟩)) (w.alloc (.cells v.cells t)) := by
  simp only [Instr.box, newVar, newRow, Sem.run_bind]; rfl
/-- a struct's, an array's places -/
def plX (P : Program) (t : TypeId) : Option (Nat → Option (Nat × Nat)) := match P.underlying t with
  | some (.struct fs) => match fs.toList.mapM fun f => (P.info? f.type).map fun i => (f.offset, i.size) with
    | some pl => some fun i => pl[i]?
    | none => none
  | some (.array _ e) => match P.info? e with
    | some ie => some fun i => some (i * ie.size, ie.size)
    | none => none
  | _ => none
def xbuild (C : Ctx) (E : Env) (t : TypeId) (parts : List (Nat × Operand)) : Option Value := match zerB C.P t with
  | some z => bif noAddr z then match plX C.P t with
      | some pl => match fillX C.G E pl parts (vcells z) with
        | some l => some (.agg ⟨l⟩)
        | none => none
      | none => none
    else none
  | none => none
theorem cells_vcells (v : Value) : v.cells = (vcells v).toArray := by
  cases v with
  | agg a => cases a; rfl
  | _ => rfl
theorem xbuild_ok (s : SatX B F C.G h ρ w) (hA : AgrX h.next ρ n ds E a) {t : TypeId} {parts : List (Nat × Operand)} {v : Value} (hx : xbuild C E t parts = some v) :
    wfv h.next v = true ∧ (Instr.build t (parts.toArray.map fun (i, x) => (i, a.eval x))).run C.P w = .ok (ren ρ v) w := by
  unfold xbuild at hx
  split at hx
  · rename_i z hz
    cases hn : noAddr z with
    | false => rw [hn] at hx; cases hx
    | true =>
      rw [hn] at hx
      simp only [cond_true] at hx
      split at hx
      · rename_i pl hpl
        split at hx
        · rename_i l hl
          cases hx
          have hwz : wfL 0 (vcells z) = true := wf_cells hn
          obtain ⟨h1, _, h3⟩ := fillX_ok s hA (wfL_mono (Nat.zero_le _) _ hwz) hl
          rw [renL_id ρ _ hwz] at h3
          refine ⟨h1, ?_⟩
          have hb : C.P.built t (parts.map fun (i, x) => (i, a.eval x)) = some (renL ρ l).toArray := by
            unfold zerB at hz
            unfold Program.built
            cases hi : C.P.info? t with
            | none => simp [hi] at hz
            | some it =>
              simp only [hi, Option.bind_some] at hz
              unfold plX at hpl
              split at hpl
              · rename_i fs hu
                split at hpl
                · rename_i pl' hm
                  cases hpl
                  simp only [hu, hz, hm, cells_vcells]
                  simpa using h3
                · cases hpl
              · rename_i e hu
                split at hpl
                · rename_i ie hie
                  cases hpl
                  simp only [hu, hz, hie, cells_vcells]
                  exact h3
                · cases hpl
              · cases hpl
          rw [_root_.Go.run_build w t _ (renL ρ l).toArray (by simpa using hb)]
          rfl
        · cases hx
      · cases hx
  · cases hx
/-- so many times the same cells -/
def reps : Nat → List Value → List Value
  | 0, _ => []
  | k + 1, z => z ++ reps k z
theorem reps_len (z : List Value) : ∀ k, (reps k z).length = k * z.length
  | 0 => by simp [reps]
  | k + 1 => by simp [reps, reps_len z k, Nat.succ_mul, Nat.add_comm]
theorem reps_get (z : List Value) (hz : 0 < z.length) : ∀ (k j : Nat), j < k * z.length → (reps k z)[j]? = z[j % z.length]?
  | 0, j, hj => by simp at hj
  | k + 1, j, hj => by
    simp only [reps]
    by_cases hlt : j < z.length
    · rw [List.getElem?_append_left hlt, Nat.mod_eq_of_lt hlt]
    · rw [List.getElem?_append_right (by omega), reps_get z hz k _ (by rw [Nat.succ_mul] at hj; omega)]
      congr 1
      rw [← Nat.mod_eq_sub_mod (by omega)]
theorem reps_range (z : List Value) (k : Nat) (hz : 0 < z.length) : (Array.range (k * z.length)).map (z.toArray[· % z.toArray.size]!) = (reps k z).toArray := by
  apply Array.ext'
  simp only [Array.toList_map, Array.toList_range]
  apply List.ext_getElem?
  intro j
  rw [List.getElem?_map]
  by_cases hj : j < k * z.length
  · rw [List.getElem?_range hj, reps_get z hz k j hj]
    have hm : j % z.length < z.length := Nat.mod_lt _ hz
    simp [hm]
  · rw [List.getElem?_eq_none (by simp; omega), List.getElem?_eq_none (by rw [reps_len]; omega)]
    rfl
theorem wf_reps {m : Nat} {z : List Value} (h : wfL m z = true) : ∀ k, wfL m (reps k z) = true
  | 0 => rfl
  | k + 1 => wfL_app.2 ⟨h, wf_reps h k⟩
/-- The cells of so many zeroes. -/
def zeros (P : Program) (e k sz : Nat) : Option (List Value) := match zerB P e with
  | some z => bif noAddr z && Nat.beq (vcells z).length sz && Nat.blt 0 sz then some (reps k (vcells z)) else none
  | none => none
theorem zeros_ok {e k sz : Nat} {l : List Value} (hx : zeros C.P e k sz = some l) : ∃ z, zerB C.P e = some z ∧ 0 < sz ∧ (vcells z).length = sz ∧ wfL 0 l = true ∧ l = reps k (vcells z) := by
  unfold zeros at hx
  split at hx
  · rename_i z hz
    cases hb : noAddr z && Nat.beq (vcells z).length sz && Nat.blt 0 sz with
    | false => rw [hb] at hx; cases hx
    | true =>
      rw [hb] at hx
      cases hx
      rw [Bool.and_eq_true, Bool.and_eq_true, Nat.beq_eq, Nat.blt_eq] at hb
      exact ⟨z, hz, hb.2, hb.1.2, wf_reps (wf_cells hb.1.1) k, rfl⟩
  · cases hx
def xbuildSlice (C : Ctx) (E : Env) (h : Hp) (t : TypeId) (len : Nat) (parts : List (Nat × Operand)) : Option OR := match slcB C.P t with
  | some (e, sz, _) => bif Nat.ble (len * sz) 16777216 then match zeros C.P e len sz with
      | some zs => match fillX C.G E (fun i => some (i * sz, sz)) parts zs with
        | some l => some (.val (.slice (some ⟨h.next, 0, none⟩) len (2 * len)) (h.new (.cells l e)))
        | none => none
      | none => none
    else none
  | none => none
theorem xbuildSlice_ok (s : SatX B F C.G h ρ w) (hA : AgrX h.next ρ n ds E a) {t len : Nat} {parts : List (Nat × Operand)} {r : OR} (hx : xbuildSlice C E h t len parts = some r) :
    ∃ v h' ρ' w', r = .val v h' ∧ (Instr.buildSlice t len (parts.toArray.map fun (i, x) => (i, a.eval x))).run C.P w = .ok (ren ρ' v) w' ∧ Ext h.next ρ ρ' ∧ h.next ≤ h'.next ∧ wfv h'.next v = true ∧ SatX B F C.G h' ρ' w' := by
  unfold xbuildSlice at hx
  split at hx
  · rename_i e sz bb ht
    cases hle : Nat.ble (len * sz) 16777216 with
    | false => rw [hle] at hx; cases hx
    | true =>
      rw [hle] at hx
      rw [Nat.ble_eq] at hle
      simp only [cond_true] at hx
      split at hx
      · rename_i zs hzs
        split at hx
        · rename_i l hl
          cases hx
          obtain ⟨z, hz, hsz, hzl, hw0, rfl⟩ := zeros_ok hzs
          obtain ⟨h1, h2, h3⟩ := fillX_ok s hA (wfL_mono (Nat.zero_le _) _ hw0) hl
          rw [renL_id ρ _ hw0] at h3
          obtain ⟨ρ', w', hw', he, hb, hs⟩ := run_xnew (C := C) s (e := e) h1
          refine ⟨_, _, ρ', w', rfl, ?_, he, Nat.le_succ _, by simp [wfv, Nat.blt_eq, Hp.new], hs⟩
          obtain ⟨hu, i, hi, hisz, _⟩ := slcB_spec ht
          have hsz' : (sizeOf e).run C.P w = .ok sz w := run_sizeB (by simp [sizeB, hi, hisz])
          have hz1 := zerB_spec (P := C.P) (w := w) hz
          have hbig : ¬ (len * sz > 2 ^ 24) := by omega
          simp only [Instr.buildSlice, Sem.run_bind, run_underlying hu, Result.andThen_ok, hsz', if_neg hbig, Sem.run_pure]
          have hcap : capOf ρ' h.next (2 * len) = len := by unfold capOf; rw [if_pos (by omega)]; omega
          have hfin : ∀ zc : Array Value, (Array.range (len * sz)).map (fun x => zc[x % zc.size]!) = (reps len (vcells z)).toArray →
              (do
                let some cells := Instr.fill (fun i => some (i * sz, sz)) ((Array.range (len * sz)).map (zc[· % zc.size]!)) (parts.toArray.map fun (i, x) => (i, a.eval x)).toList | stuck "buildSlice: a part of the wrong size"
                pure (Value.slice (some (← newRow e cells)) len len) : Sem Value).run C.P w = .ok (ren ρ' (.slice (some ⟨h.next, 0, none⟩) len (2 * len))) w' := by
            intro zc hzc
            rw [hzc]
            have : (parts.toArray.map fun (i, x) => (i, a.eval x)).toList = parts.map fun (i, x) => (i, a.eval x) := by simp
            rw [this, h3, hw']
            simp only [ren, hb, hcap, newRow, Sem.run_bind]
            rfl
          by_cases h0 : len * sz = 0
          · simp only [h0, if_true]
            have hp : (pure #[] : Sem (Array Value)).run C.P w = .ok #[] w := rfl
            simp only [Sem.run_bind, hp, Result.andThen_ok]
            have hlen : len = 0 := by
              rcases Nat.mul_eq_zero.1 h0 with h | h
              · exact h
              · omega
            have := hfin #[] (by simp [hlen, reps])
            simp only [h0, Sem.run_bind] at this
            exact this
          · simp only [h0, if_false, Sem.run_bind, hz1, Result.andThen_ok, Sem.run_pure]
            have := hfin z.cells (by rw [cells_vcells, ← hzl]; exact reps_range _ _ (by omega))
            simp only [Sem.run_bind] at this
            exact this
        · cases hx
      · cases hx
  · cases hx
end
end Go.Xs
