/- The rules for copy, for an append of zeros into a new row, and for two slices that lie apart. Plain theorems, no condition. -/
import Derived.Test.YtclcnhfponjdaaaGreatDoorSk9
import Derived.Laws.IdiomCopy
import Derived.Lib.Overlaps
import Derived.Laws.Externs
import Derived.Lib.AppendZerosOnto
set_option linter.unusedVariables false
set_option linter.unusedSimpArgs false
namespace Go.Sk
open Go.RowKit
theorem setCells_row {g : Nat} {e : TypeId} : ∀ (vs : List Value) (o : Nat) (w : World) (l : List Value), w.heap[g]? = some (.cells l.toArray e (0, 0)) → o + vs.length ≤ l.length →
    (w.setCells g o vs).heap[g]? = some (.cells (l.take o ++ vs ++ l.drop (o + vs.length)).toArray e (0, 0))
  | [], o, w, l, h, _ => by simpa [World.setCells] using h
  | v :: vs, o, w, l, h, hl => by
    simp only [List.length_cons] at hl
    rw [World.setCells, setCells_row vs (o + 1) _ (l.set o v) (setCell_heap h) (by simp; omega)]
    congr 3
    have h1 : (l.set o v).take (o + 1) = l.take o ++ [v] := by
      rw [List.take_add_one, List.take_set_of_le (Nat.le_refl _), List.getElem?_set]
      simp [show o < l.length by omega]
    have h2 : (l.set o v).drop (o + 1 + vs.length) = l.drop (o + (vs.length + 1)) := by
      rw [List.drop_set_of_lt (by omega), show o + 1 + vs.length = o + (vs.length + 1) by omega]
    rw [h1, h2]
    simp
theorem setCells_rest {g : Nat} : ∀ (vs : List Value) (o : Nat) (w : World), (w.setCells g o vs).os = w.os ∧ (w.setCells g o vs).output = w.output ∧ (w.setCells g o vs).tape = w.tape ∧ (w.setCells g o vs).heap.size = w.heap.size ∧ ∀ x, x ≠ g → (w.setCells g o vs).heap[x]? = w.heap[x]?
  | [], _, _ => ⟨rfl, rfl, rfl, rfl, fun _ _ => rfl⟩
  | v :: vs, o, w => by
    obtain ⟨a, b, c, d, e⟩ := setCells_rest vs (o + 1) (w.setCell ⟨g, o, none⟩ v)
    rw [World.setCells]
    exact ⟨a, b, c, d.trans (setCell_size _ _ _), fun x hx => (e x hx).trans (setCell_ne _ _ _ _ hx)⟩
section
variable {B : World} {P : Program} {n : Fm} {m : Bool} {l0 rest : List Oper} {E : Env} {H R : List HP} {Q : Exit → Act → World → Prop} (T : Tab P)
variable {d : Nat} {ty : TypeId} {pos : String} {af : Array Edge} {g : Option (Nat × Bool)} {x y : Operand} {t : TypeId} {c : Code}
theorem cell_row {w : World} {gb j : Nat} {e : TypeId} {l : List Value} (h : w.heap[gb]? = some (.cells l.toArray e (0, 0))) : w.cell? ⟨gb, j, none⟩ = l[j]? := by
  rw [cell_of_row w gb j l.toArray e (0, 0) h]; simp
theorem frozen_row {w : World} {gb j : Nat} {e : TypeId} {l : Array Value} (h : w.heap[gb]? = some (.cells l e (0, 0))) : w.frozen? ⟨gb, j, none⟩ = false := by
  unfold World.frozen?; simp [h]
/-- copy(x, y): y's cells are laid over a part of an owned row. -/
theorem RT.copy {b bS : Option Addr} {c k e by_ i kd cd m2 c2 r : Nat} {xs ys : List Value} {H' : List HP}
    (hx : ev E x = some (.slice (asub b c 1 i) kd cd)) (hy : ev E y = some (.slice bS m2 c2)) (hr : Rep H (Own b c e 1 k xs) (Own b c e 1 k (xs.take i ++ ys.take r ++ xs.drop (i + r))) H')
    (hrr : r = min m2 kd) (h0 : 0 < r) (hik : i + kd ≤ k) (hs : Rd B H bS m2 c2 1 ys) (hone : ∀ v ∈ ys.take r, v.oneCell' = true) (ht : al T.slcs t = some (e, 1, by_)) (hw : wt l0 E g = some true) (hd : Nat.blt d n = true)
    (kk : RT B P n true l0 rest ((d, .int .i64 r) :: E) H' Q) :
    RT B P n true l0 (⟨some d, .call { callee := .builtin .copy, args := #[x, y], argTypes := #[t, t] }, ty, pos, af, g⟩ :: rest) E H Q :=
  RT.eff hw fun o a w K ho hty hdd hA hS hK => by
    obtain ⟨R, s1, s2⟩ := hr.sel
    obtain ⟨hl, hkc, hcm⟩ := Own.facts hS s1
    obtain ⟨ad, rfl, hcells⟩ := hs.cells hS (by omega)
    have hyl := hs.1
    rcases Own.to_row hS s1 with ⟨_, _, rfl, _⟩ | ⟨gb, cur, rfl, hg, hbg, hcs, htk⟩
    · omega
    · have hsub : asub (some (⟨gb, 0, none⟩ : Addr)) c 1 i = some ⟨gb, i, none⟩ := by
        unfold asub
        rw [if_neg (by omega)]
        simp [addr_add]
      rw [hsub] at hx
      obtain ⟨hu, inf, hi, hisz, _⟩ := slcB_spec (T.slc ht)
      have hcur : cur = cur.toList.toArray := by simp
      have hg' : w.heap[gb]? = some (.cells cur.toList.toArray e (0, 0)) := by rw [← hcur]; exact hg
      have hcl : cur.toList.length = c := by rw [Array.length_toList, hcs]; omega
      have htl : (ys.take r).length = r := by rw [List.length_take, hyl]; omega
      have hrun := run_copy_cells (P := P) w t t ty e gb i kd cd ad m2 c2 (ys.take r) hu (by rw [hi]; simp [hisz]) (by rw [htl, hrr])
        (fun j v hj => hcells j v (by
          have := (List.getElem?_eq_some_iff.1 hj).1
          rw [htl] at this
          rwa [List.getElem?_take_of_lt this] at hj))
        (fun j hj => by rw [htl] at hj; rw [cell_row hg', List.getElem?_eq_getElem (by omega)]; rfl) (fun j _ => frozen_row hg) hone
      unfold Oper.wp execOp
      simp only [ho, hty, resolve, invoke, builtin, Sem.run_bind, Sem.run_pure, Result.andThen_ok, List.map_toArray, List.map_cons, List.map_nil, hA.ev hx, hA.ev hy, hrun]
      simp only [Oper.upon, hdd, htl]
      obtain ⟨q1, q2, q3, q4, q5⟩ := setCells_rest (g := gb) (ys.take r) i w
      refine hK _ _ (kk _ _ (hA.put (by simpa [Nat.blt_eq] using hd) _) ?_)
      refine hS.upd (b := gb) hr (fun h hh => ?_) (fun h h' hh hne hb => ?_) q1 q2 q3 q4 (setCells_row (ys.take r) i w cur.toList hg' (by omega)) q5
      · obtain ⟨_, _, _, hp⟩ := hh
        rcases hp with ⟨h, _⟩ | ⟨g', cur', h, hgg, _⟩
        · cases h
        · cases h; exact ⟨_, hgg⟩
      · refine ⟨?_, hkc, hcm, .inr ⟨gb, _, rfl, hb, ?_, ?_⟩⟩
        · simp only [List.length_append, List.length_take, List.length_drop, hl, hyl]; omega
        · simp only [List.size_toArray, List.length_append, List.length_take, List.length_drop, hcl, hyl]; omega
        · rw [htl]
          simp only
          rw [← htk]
          simp only [Nat.mul_one, List.append_assoc]
          rw [List.take_append, List.take_append, List.take_take, List.length_take, hcl, htl, List.take_take, List.drop_take, List.take_take, show min k i = i by omega, show min i c = i by omega, show min i k = i by omega, show min (k - i) r = r by omega, show k - i - r = k - (i + r) by omega]
/-- More of an owned row is looked at. -/
theorem Sat.ownMore {a : Option Addr} {c k k' : Nat} {e : TypeId} {xs : List Value} {w : World} {H' : List Value → List HP} (hS : Sat B H w) (hk : k ≤ k') (hk' : k' ≤ c)
    (hr : ∀ ys, Rep H (Own a c e 1 k xs) (Own a c e 1 k' (xs ++ ys)) (H' ys)) : ∃ ys, ys.length = k' - k ∧ Sat B (H' ys) w := by
  obtain ⟨R, s1, _⟩ := (hr []).sel
  obtain ⟨hl, hkc, hcm⟩ := Own.facts hS s1
  rcases Own.to_row hS s1 with ⟨rfl, rfl, rfl, rfl⟩ | ⟨gb, cur, rfl, hg, hbg, hcs, htk⟩
  · refine ⟨[], by simp; omega, hS.mono fun h hh => ?_⟩
    obtain ⟨R2, q1, q2⟩ := (hr []).sel
    refine q2.of _ (star_head_mono (fun h hp => ?_) (q1.to _ hh))
    have : k' = 0 := by omega
    subst this
    simpa using hp
  · have hcl : cur.toList.length = c := by rw [Array.length_toList, hcs]; omega
    refine ⟨(cur.toList.drop k).take (k' - k), by simp [hcl]; omega, ?_⟩
    obtain ⟨R2, q1, q2⟩ := (hr ((cur.toList.drop k).take (k' - k))).sel
    obtain ⟨h, ha, h1, h2, dj, l1, l2, hp, hrr⟩ := (hS.sel q1).heap
    refine Sat.unsel q2 { hS with heap := ⟨h, ha, h1, h2, dj, l1, l2, ?_, hrr⟩ }
    obtain ⟨p1, p2, p3, p4⟩ := hp
    rcases p4 with ⟨h, _⟩ | ⟨g', cur', he, hgg, hcs', htk'⟩
    · cases h
    · cases he
      have hsame : cur' = cur := by
        have := (ha gb _ (l1 gb _ hgg)).1
        rw [hg] at this
        cases this
        rfl
      subst hsame
      refine ⟨by simp [hl, hcl]; omega, hk', p3, .inr ⟨gb, cur', rfl, hgg, hcs', ?_⟩⟩
      rw [← htk', Nat.mul_one, Nat.mul_one, ← List.take_add, show k + (k' - k) = k' by omega]
theorem Own.less {a : Option Addr} {c k k' : Nat} {e : TypeId} {xs : List Value} {h : PH} (hp : Own a c e 1 k xs h) (hk : k' ≤ k) : Own a c e 1 k' (xs.take k') h := by
  obtain ⟨p1, p2, p3, p4⟩ := hp
  refine ⟨by rw [List.length_take, p1]; omega, by omega, p3, ?_⟩
  rcases p4 with ⟨h1, h2⟩ | ⟨g, cur, h1, h2, h3, h4⟩
  · exact .inl ⟨h1, h2⟩
  · refine .inr ⟨g, cur, h1, h2, h3, ?_⟩
    rw [← h4, List.take_take]
    congr 1
    omega
theorem Sat.ownLess {a : Option Addr} {c k k' : Nat} {e : TypeId} {xs : List Value} {w : World} {H' : List HP} (hS : Sat B H w) (hk : k' ≤ k) (hr : Rep H (Own a c e 1 k xs) (Own a c e 1 k' (xs.take k')) H') : Sat B H' w := by
  obtain ⟨R, s1, s2⟩ := hr.sel
  exact Sat.unsel s2 ((hS.sel s1).mono fun h hh => star_head_mono (fun h hp => Own.less hp hk) hh)
theorem RT.get {α : Type} {p : α → Prop} {f : α → List HP} (hm : ∀ w, Sat B H w → ∃ z, p z ∧ Sat B (f z) w) (h : ∀ z, p z → RT B P n true l0 rest E (f z) Q) : RT B P n true l0 rest E H Q := fun a w hA hS =>
  let ⟨z, hz, hs⟩ := hm w hS
  h z hz a w hA hs
theorem CT.get {α : Type} {p : α → Prop} {f : α → List HP} (hm : ∀ w, Sat B H w → ∃ z, p z ∧ Sat B (f z) w) (h : ∀ z, p z → CT B P n c E (f z) Q) : CT B P n c E H Q := fun a w hA hS =>
  let ⟨z, hz, hs⟩ := hm w hS
  h z hz a w hA hs
/-- append(x, make(..)...) where x has no room: a new row. -/
theorem RT.appz {a : Option Addr} {c k e by_ j : Nat} {tn : TypeId} {kk kn : IntKind} {z : Value} {xs : List Value} {i : Int}
    (hx : ev E x = some (.slice a k c)) (hy : ev E y = some (.int kk i)) (hi : i = j) (hj : 0 < j) (hg : c < k + j) (ht : al T.slcs t = some (e, 1, by_)) (htn : al T.ints tn = some kn) (hR : Rd B H a k c 1 xs)
    (hlen : k + j ≤ 140737488355328) (hby : (k + j) * by_ ≤ 140737488355328) (hz : al T.zers e = some z) (hzs : z.cells.size = 1) (hw : wt l0 E g = some true) (hd : Nat.blt d n = true)
    (kt : ∀ a' c' zs, zs.length = j → k + j ≤ c' → RT B P n true l0 rest ((d, .slice a' (k + j) c') :: E) (Own a' c' e 1 (k + j) (xs ++ zs) :: H) Q) :
    RT B P n true l0 (⟨some d, .call { callee := .builtin .append, args := #[x, y], argTypes := #[t, tn] }, ty, pos, af, g⟩ :: rest) E H Q :=
  RT.eff hw fun o aa w K ho hty hdd hA hS hK => by
    subst hi
    obtain ⟨hu, inf, hi, hisz, hiby⟩ := slcB_spec (T.slc ht)
    have hzi : inf.zero = some z := by have := T.zer hz; simpa [zerB, hi] using this
    have hun : P.underlying tn = some (.int kn) := by
      have := T.int htn
      unfold intB at this
      split at this
      · rename_i h; cases this; exact h
      · cases this
    have hxl := hR.1
    have hold : (Builtin.firstCells inf.size k (.slice a k c)).run P w.drew = .ok xs.toArray w.drew := by
      rw [hisz]
      rcases Nat.eq_zero_or_pos k with hk | hk
      · subst hk
        have : xs = [] := List.eq_nil_of_length_eq_zero (by simpa using hxl)
        subst this
        cases a <;> simp [Builtin.firstCells, loadCells, loadCellsFrom]
      · obtain ⟨ad, rfl, hc⟩ := hR.cells hS hk
        exact run_firstCells_some w.drew 1 k ad k c xs (by omega) (fun j v hj => hc j v hj)
    have hrun := Go.Lib.run_append_grow_zeros (P := P) w t tn ty e inf z kk kn hu hun hi hzi a k c xs hold j hj (by omega) hg (by omega) (by rw [hiby]; have := Nat.mul_le_mul_right by_ (Nat.le_add_left j k); omega) (by rw [hiby]; exact growslice_fits hg hby)
    unfold Oper.wp execOp
    simp only [ho, hty, resolve, invoke, builtin, Sem.run_bind, Sem.run_pure, Result.andThen_ok, List.map_toArray, List.map_cons, List.map_nil, hA.ev hx, hA.ev hy, hrun]
    simp only [Oper.upon, hdd]
    have hge := grownCap_ge w (k + j) c e
    have hcm := grownCap_le_maxLen w (k + j) c e (by unfold maxLen; omega)
    have hzl : (Builtin.zeroCells z.cells j).toList.length = j := by rw [Array.length_toList, size_zeroCells, hzs]; omega
    refine hK _ _ (kt _ _ (Builtin.zeroCells z.cells j).toList hzl hge _ _ (hA.put (by simpa [Nat.blt_eq] using hd) _) ?_)
    refine Sat.new (w := w) hS rfl rfl rfl rfl fun h _ hb => ⟨by rw [List.length_append, hxl, hzl]; omega, hge, hcm, .inr ⟨_, _, rfl, hb, ?_, ?_⟩⟩
    · simp only [Array.size_append, List.size_toArray, size_zeroCells, hzs, hxl]; omega
    · simp only [Array.toList_append]
      have : (xs ++ (Builtin.zeroCells z.cells j).toList).length = (k + j) * 1 := by rw [List.length_append, hxl, hzl]; omega
      rw [← this]
      exact List.take_left
theorem exec_ext {f : FuncId} {w : World} {xs : List Operand} {vs : List Value} {ats : Array TypeId} {o : Oper} {aa : Act} {v : Value}
    (ho : o.op = .call { callee := .value (.func f), args := xs.toArray, argTypes := ats }) (hA : Agr n E aa) (hv : evs E xs = some vs) (hf : (callFunc f vs.toArray).run P w = .ok (.value v) w) : (execOp aa.eval o).run P w = .ok (.value v) w := by
  unfold execOp
  have hm : xs.map aa.eval = vs := hA.evs hv
  simp only [ho, resolve, Sem.run_bind, List.map_toArray, hm, Act.eval, Deferred.ofValue, Sem.run_pure, Result.andThen_ok, invoke]
  simpa using hf
/-- Two owned rows that have cells lie apart. -/
theorem Own.apart {R2 : List HP} {a1 a2 : Option Addr} {c1 c2 e1 e2 z1 z2 k1 k2 : Nat} {xs1 xs2 : List Value} {w : World} (hS : Sat B H w) (s1 : Sel H (Own a1 c1 e1 z1 k1 xs1) R) (s2 : Sel R (Own a2 c2 e2 z2 k2 xs2) R2) (h1 : 0 < k1) (h2 : 0 < k2) :
    ∃ g1 g2 cur1 cur2, g1 ≠ g2 ∧ a1 = some ⟨g1, 0, none⟩ ∧ a2 = some ⟨g2, 0, none⟩ ∧ w.heap[g1]? = some (.cells cur1 e1 (0, 0)) ∧ w.heap[g2]? = some (.cells cur2 e2 (0, 0)) ∧ cur1.size = c1 * z1 ∧ cur2.size = c2 * z2 := by
  obtain ⟨h, ha, p1, p2, dj, l1, l2, hp, hr⟩ := (hS.sel s1).heap
  obtain ⟨q1, q2, dj2, m1, m2, hq, hr2⟩ := s2.to _ hr
  obtain ⟨_, hk1, _, hp⟩ := hp
  obtain ⟨_, hk2, _, hq⟩ := hq
  rcases hp with ⟨_, rfl⟩ | ⟨g1, cur1, rfl, hg1, hc1, _⟩
  · omega
  · rcases hq with ⟨_, rfl⟩ | ⟨g2, cur2, rfl, hg2, hc2, _⟩
    · omega
    · refine ⟨g1, g2, cur1, cur2, fun he => ?_, rfl, rfl, (ha _ _ (l1 _ _ hg1)).1, (ha _ _ (l2 _ _ (m1 _ _ hg2))).1, hc1, hc2⟩
      subst he
      rcases dj g1 with hn | hn
      · rw [hg1] at hn; cases hn
      · rw [m1 _ _ hg2] at hn; cases hn
theorem RT.over {f : FuncId} {fn : Func} {tR ts e e1 by_ : Nat} {R2 : List HP} {a1 a2 : Option Addr} {c1 c2 k1 k2 i lb cb : Nat} {xs1 xs2 : List Value}
    (hx : ev E x = some (.slice a1 k1 c1)) (hy : ev E y = some (.slice (asub a2 c2 1 i) lb cb)) (s1 : Sel H (Own a1 c1 e1 1 k1 xs1) R) (s2 : Sel R (Own a2 c2 e 1 k2 xs2) R2) (h1 : 0 < k1) (h2 : 0 < k2) (hi : i ≠ c2)
    (hf : P.funcs[f]? = some fn) (hname : (fn.name == "runtime.NumGoroutine") = false) (hb : fn.body.isNone = true) (hn : Extern.findNext fn = none) (he : Extern.find fn = some (Extern.SlicesOverlaps.overlaps #[ts, ts] #[tR]))
    (ht : al T.slcs ts = some (e, 1, by_)) (hz : al T.szs e = some (1, false)) (hw : wt l0 E g = some true) (hd : Nat.blt d n = true) {ats : Array TypeId} (kk : RT B P n m l0 rest ((d, .bool false) :: E) H Q) :
    RT B P n m l0 (⟨some d, .call { callee := .value (.func f), args := #[x, y], argTypes := ats }, ty, pos, af, g⟩ :: rest) E H Q := by
  refine RT.y hw (by simpa [Nat.blt_eq] using hd) (y_run fun o aa w ho _ hA hS => ?_) kk
  refine exec_ext (xs := [x, y]) (vs := [.slice a1 k1 c1, .slice (asub a2 c2 1 i) lb cb]) ho hA (by simp [evs, hx, hy]) ?_
  obtain ⟨g1, g2, cur1, cur2, hne, rfl, rfl, hg1, hg2, hc1, hc2⟩ := Own.apart hS s1 s2 h1 h2
  obtain ⟨_, hk2, _⟩ := Own.facts (hS.sel s1).tail s2
  have hsub : asub (some (⟨g2, 0, none⟩ : Addr)) c2 1 i = some ⟨g2, i, none⟩ := by
    unfold asub
    rw [if_neg (fun h => hi h.symm)]
    simp [addr_add]
  rw [hsub, run_callFunc_extern hf hname hb hn he]
  have := Go.Lib.run_overlaps_apart (P := P) w ts tR e (slcB_spec (T.slc ht)).1 1 (fun w => run_sizeB (T.sz hz).1) ⟨g1, 0, none⟩ ⟨g2, i, none⟩ k1 c1 lb cb hne e1 e cur1.size cur2.size (by simp [World.shape?, hg1]) (by simp [World.shape?, hg2]) (by omega) (frozen_row hg1) (frozen_row hg1)
  rw [this]
  rfl
end
end Go.Sk
