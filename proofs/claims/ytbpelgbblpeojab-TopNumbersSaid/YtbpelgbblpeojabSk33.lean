/- A slice's literal of values of several cells; a result that lies in a cell of several. Plain theorems, no condition. -/
import Derived.Test.YtbpelgbblpeojabSk31
import Derived.Test.YtbpelgbblpeojabSk26
set_option linter.unusedVariables false
set_option linter.unusedSimpArgs false
namespace Go.Sk
open Go.RowKit
theorem foldSet : ∀ (cs : List Value) (j0 off : Nat) (cells : Array Value), off + j0 + cs.length ≤ cells.size →
    (List.foldl (fun (a : Array Value) (x : Value × Nat) => a.setIfInBounds (off + x.2) x.1) cells (cs.zipIdx j0)).toList = cells.toList.take (off + j0) ++ cs ++ cells.toList.drop (off + j0 + cs.length)
  | [], j0, off, cells, h => by simp
  | c :: cs, j0, off, cells, h => by
    rw [List.length_cons] at h
    rw [List.zipIdx_cons, List.foldl_cons, foldSet cs (j0 + 1) off _ (by simp; omega)]
    simp only [Array.toList_setIfInBounds, List.length_cons]
    rw [List.drop_set_of_lt (by omega), show off + (j0 + 1) = (off + j0) + 1 by omega, List.take_succ_eq_append_getElem (by simp; omega), List.take_set_of_le (Nat.le_refl _), List.getElem_set_self]
    simp [Nat.add_assoc, Nat.add_comm 1]
theorem fold_cells (cs : Array Value) (off : Nat) (cells : Array Value) (h : off + cs.size ≤ cells.size) :
    Array.foldl (fun (a : Array Value) (x : Value × Nat) => a.setIfInBounds (off + x.2) x.1) cells cs.zipIdx = (cells.toList.take off ++ cs.toList ++ cells.toList.drop (off + cs.size)).toArray := by
  apply Array.toList_inj.1
  rw [← Array.foldl_toList, Array.toList_zipIdx, foldSet cs.toList 0 off cells (by simpa using h)]
  simp
def rowA (E : Env) (z : Nat) : Nat → List (Nat × Operand) → Option (List Value)
  | _, [] => some []
  | k, (i, x) :: ps => bif Nat.beq i k then (match ev E x with
      | some (.agg cs) => bif Nat.beq cs.size z then (match rowA E z (k + 1) ps with
          | some l => some (cs.toList ++ l)
          | none => none) else none
      | _ => none) else none
variable {B : World} {P : Program} {n : Fm} {m : Bool} {l0 rest : List Oper} {E : Env} {H R : List HP} {Q : Exit → Act → World → Prop}
theorem rowA_spec {a : Act} {z : Nat} (hA : Agr n E a) : ∀ (ps : List (Nat × Operand)) (k : Nat) (l : List Value), rowA E z k ps = some l →
    l.length = ps.length * z ∧ ∀ (cells : Array Value), (k + ps.length) * z ≤ cells.size → Instr.fill (fun i => some (i * z, z)) cells (ps.map fun (i, x) => (i, a.eval x)) = some (cells.toList.take (k * z) ++ l ++ cells.toList.drop ((k + ps.length) * z)).toArray
  | [], k, l, h => by
    cases h
    exact ⟨by simp, fun cells _ => by simp [Instr.fill]⟩
  | (i, x) :: ps, k, l, h => by
    simp only [rowA] at h
    cases hb : Nat.beq i k with
    | false => rw [hb] at h; cases h
    | true =>
    rw [hb, cond_true] at h
    obtain rfl := Nat.eq_of_beq_eq_true hb
    split at h
    · rename_i cs hv
      cases hz : Nat.beq cs.size z with
      | false => rw [hz] at h; cases h
      | true =>
      rw [hz, cond_true] at h
      obtain rfl := Nat.eq_of_beq_eq_true hz
      split at h
      · rename_i l' hl'
        cases h
        obtain ⟨e1, e2⟩ := rowA_spec hA ps (i + 1) l' hl'
        refine ⟨by simp [e1, Nat.succ_mul, Nat.add_comm], fun cells hc => ?_⟩
        have hm : (i + (ps.length + 1)) * cs.size = i * cs.size + cs.size + ps.length * cs.size := by simp [Nat.add_mul]; omega
        have hm2 : (i + 1 + ps.length) * cs.size = i * cs.size + cs.size + ps.length * cs.size := by simp [Nat.add_mul]
        have hm3 : (i + 1) * cs.size = i * cs.size + cs.size := by simp [Nat.add_mul]
        simp only [List.length_cons] at hc ⊢
        rw [hm] at hc ⊢
        have hlen : (cells.toList.take (i * cs.size) ++ cs.toList ++ cells.toList.drop (i * cs.size + cs.size)).length = cells.size := by
          simp only [List.length_append, List.length_take, List.length_drop, Array.length_toList]; omega
        have htk : (cells.toList.take (i * cs.size) ++ cs.toList).length = i * cs.size + cs.size := by
          simp only [List.length_append, List.length_take, Array.length_toList]; omega
        simp only [List.map_cons, Instr.fill, hA.ev hv]
        rw [if_neg (by simp [Value.cells]; omega)]
        have hf := fold_cells cs (i * cs.size) cells (by omega)
        simp only [Value.cells] at hf ⊢
        rw [hf, e2 _ (by rw [hm2]; simp only [List.size_toArray, hlen]; omega), hm2, hm3]
        have hd : ∀ (A C : List Value) (k : Nat), (A ++ C).drop (A.length + k) = C.drop k := fun A C k => by rw [← List.drop_drop, List.drop_left]
        congr 2
        have h1 : (List.take (i * cs.size) cells.toList ++ cs.toList ++ List.drop (i * cs.size + cs.size) cells.toList).take (i * cs.size + cs.size) = List.take (i * cs.size) cells.toList ++ cs.toList := by rw [← htk, List.take_left]
        have h2 : (List.take (i * cs.size) cells.toList ++ cs.toList ++ List.drop (i * cs.size + cs.size) cells.toList).drop (i * cs.size + cs.size + ps.length * cs.size) = cells.toList.drop (i * cs.size + cs.size + ps.length * cs.size) := by
          have h3 := hd (List.take (i * cs.size) cells.toList ++ cs.toList) (List.drop (i * cs.size + cs.size) cells.toList) (ps.length * cs.size)
          rw [htk] at h3
          rw [h3, List.drop_drop]
        rw [h1, h2, List.append_assoc _ cs.toList l']
      · cases h
    · cases h
theorem run_bsA {w : World} {t e z bb k : Nat} {z0 : Value} {vs : List (Nat × Value)} {l : List Value} (ht : slcB P t = some (e, z, bb)) (hz : zerB P e = some z0) (hk : l.length = k * z) (hk0 : 0 < k * z) (hl : k * z ≤ 16777216)
    (hf : ∀ cells : Array Value, cells.size = k * z → Instr.fill (fun i => some (i * z, z)) cells vs = some l.toArray) :
    (Instr.buildSlice t k vs.toArray).run P w = .ok (.slice (some ⟨w.heap.size, 0, none⟩) k k) (w.alloc (.cells l.toArray e)) := by
  obtain ⟨hu, i, hi, hsz, _⟩ := slcB_spec ht
  have hs : (sizeOf e).run P w = .ok z w := run_sizeB (by simp [sizeB, hi, hsz])
  have hz1 := zerB_spec (P := P) (w := w) hz
  have hbig : ¬ (k * z > 2 ^ 24) := by omega
  simp only [Instr.buildSlice, Sem.run_bind, run_underlying hu, Result.andThen_ok, hs, if_neg hbig, Sem.run_pure]
  have h0 : ¬ k * z = 0 := by omega
  simp only [h0, if_false, Sem.run_bind, hz1, Result.andThen_ok, Sem.run_pure]
  have := hf (Array.map (fun x => z0.cells[x % z0.cells.size]!) (Array.range (k * z))) (by simp)
  simp only [this, newRow, Sem.run_bind]
  rfl
variable (T : Tab P) {d : Nat} {ty : TypeId} {pos : String} {af : Array Edge} {g : Option (Nat × Bool)} {t : TypeId}
/-- A slice's literal, of values of z cells each. -/
theorem RT.bsA {e bb k z : Nat} {z0 : Value} {parts : List (Nat × Operand)} {l : List Value} (hl : rowA E z 0 parts = some l) (hk : parts.length = k) (ht : al T.slcs t = some (e, z, bb)) (hz : al T.zers e = some z0) (hk0 : Nat.blt 0 (k * z) = true) (hlen : Nat.ble (k * z) 16777216 = true) (hw : wt l0 E g = some true) (hd : Nat.blt d n = true)
    (kt : ∀ a, RT B P n true l0 rest ((d, .slice a k k) :: E) (Own a k e z k l :: H) Q) : RT B P n true l0 (⟨some d, .buildSlice t k parts.toArray, ty, pos, af, g⟩ :: rest) E H Q :=
  RT.eff hw fun o aa w K ho _ hdd hA hS hK => by
    subst hk
    have hle : parts.length * z ≤ 16777216 := by simpa [Nat.ble_eq] using hlen
    have h00 : 0 < parts.length * z := by simpa [Nat.blt_eq] using hk0
    have hzp : 1 ≤ z := by
      rcases Nat.eq_zero_or_pos z with h | h
      · rw [h, Nat.mul_zero] at h00; omega
      · exact h
    have hpl : parts.length ≤ parts.length * z := Nat.le_mul_of_pos_right _ hzp
    obtain ⟨e1, e3⟩ := rowA_spec hA parts 0 l hl
    have hrun := run_bsA (P := P) (w := w) (vs := parts.map fun (i, x) => (i, aa.eval x)) (l := l) (T.slc ht) (T.zer hz) e1 h00 hle (fun cells hc => by
      rw [e3 cells (by rw [Nat.zero_add]; omega)]
      simp only [Nat.zero_mul, List.take_zero, List.nil_append, Nat.zero_add]
      rw [List.drop_eq_nil_of_le (by simp; omega), List.append_nil])
    unfold Oper.wp execOp
    have hm : (parts.toArray.map fun (i, x) => (i, aa.eval x)) = (parts.map fun (i, x) => (i, aa.eval x)).toArray := by simp
    simp only [ho, Sem.run_bind]
    rw [hm, hrun]
    simp only [Result.andThen_ok, Sem.run_pure, Oper.upon, hdd]
    refine hK _ _ (kt _ _ _ (hA.put (by simpa [Nat.blt_eq] using hd) _) (hS.new rfl rfl rfl rfl fun h _ hb => ?_))
    exact ⟨e1, Nat.le_refl _, by unfold maxLen; omega, .inr ⟨_, _, rfl, hb, by simp [e1], by rw [← e1]; simp⟩⟩
variable {fn : Func} {Post : Value → List HP → Prop} {nn : Nat} {H1 : List HP}
theorem res_agg {P : Program} (T : Tab P) {t ty b e z : Nat} {l : List Value} {R2 : List HP} {n : Fm} (hr : fn.results = #[.cell t ty]) (he : lk E t = some (.pointer (some ⟨b, 0, none⟩))) (ht : al T.szs ty = some (z, true)) (hz : l.length = z) (hs : Sel H1 (Cs b e l) R2) :
    ∀ a w, Agr n E a → Sat B H1 w → (results fn a.tmps).run P w = .ok (.agg l.toArray) w := fun a w hA hS => by
  subst hz
  have hg : a.tmps.getD t undef = .pointer (some ⟨b, 0, none⟩) := by simp [Array.getD_eq_getD_getElem?, hA.get t _ he]
  have hc : ∀ j v, l[j]? = some v → w.cell? ((⟨b, 0, none⟩ : Addr).add j) = some v := fun j v hj => by
    have : (⟨b, 0, none⟩ : Addr).add j = ⟨b, j, none⟩ := by unfold Addr.add; split <;> simp_all
    rw [this]; exact (cs_cell (hS.cs hs).1 j).trans hj
  have hl : (loadVar ty ⟨b, 0, none⟩).run P w = .ok (.agg l.toArray) w := by
    simp only [loadVar, Sem.run_bind, run_isAggB (T.sz ht).2, run_sizeB (T.sz ht).1, if_true, Result.andThen_ok, run_loadCells_list w _ l hc, Sem.run_pure]
  unfold results
  rw [hr]
  simp only [List.mapM_toArray, List.mapM_cons, List.mapM_nil, hg, asAddr, Sem.run_bind, Sem.run_pure, Result.andThen_ok, bind_assoc, pure_bind, map_eq_pure_bind, Sem.run_map, hl]
  rfl
/-- The end of a function whose result lies in a variable of several cells. -/
theorem AtQ.finA {P : Program} (T : Tab P) {t ty b e z : Nat} {l : List Value} {R2 H' : List HP} (hr : fn.results = #[.cell t ty]) (he : lk E t = some (.pointer (some ⟨b, 0, none⟩))) (ht : al T.szs ty = some (z, true)) (hz : l.length = z) (hsel : Sel H (Cs b e l) R2)
    (hp : Post (.agg l.toArray) H') (hs : ∀ w, Sat B H w → Sat B (H' ++ R) w) {ex : Exit} (hex : ex = .normal ∨ ex = .ret) :
    AtQ B (.mk0 nn) E H (FinQM B P fn R Post) ex := AtQ.finM (ds := []) (H1 := H) (fun _ h => h) (res_agg T hr he ht hz hsel) hp hs hex
/-- A call of a function value, which captures nothing. -/
theorem RT.callV {f : FuncId} {bb : Bool} {x : Operand} {xs : List Operand} {vs : List Value} {ats : Array TypeId} {Pre : List HP} {Post : Value → List HP → Prop}
    (qx : ev E x = some (.func (.func f) #[] #[])) (qv : evs E xs = some vs) (qfr : Fr H Pre R) (qq : Sp B P f vs R Pre Post) (qf : al T.funs f = some bb) (qw : wt l0 E g = some true) (qd : Nat.blt d n = true)
    (qk : ∀ v H', Post v H' → RT B P n true l0 rest ((d, v) :: E) (H' ++ R) Q) : RT B P n true l0 (⟨some d, .call { callee := .value x, args := xs.toArray, argTypes := ats }, ty, pos, af, g⟩ :: rest) E H Q :=
  RT.eff qw fun o aa w K ho _ hdd hA hS hK => by
    have hrun : (execOp aa.eval o).run P w = .ok (.enter f vs.toArray) w := by
      unfold execOp
      have hm : xs.map aa.eval = vs := hA.evs qv
      simp only [ho, resolve, Sem.run_bind, List.map_toArray, hm, hA.ev qx, Deferred.ofValue, Sem.run_pure, Result.andThen_ok, invoke]
      simpa using run_call (T := T) qf
    unfold Oper.wp
    rw [hrun]
    simp only [Oper.upon, hdd]
    refine (qq w (hS.fr qfr)).mono fun e w' ⟨v, H', he, hp, hS'⟩ => ?_
    subst he
    exact hK _ _ (qk v H' hp _ _ (hA.put (by simpa [Nat.blt_eq] using qd) _) hS')
end Go.Sk
