/- Ranges over functions: the statement, outermost and within a round; functions that leave with marks. Plain theorems, no condition. -/
import Derived.Test.YtbpelgbblpeojabSk25
set_option linter.unusedVariables false
set_option linter.unusedSimpArgs false
namespace Go.Sk
open Go.RowKit
section
variable {B : World} {P : Program} {n : Fm} {E : Env} {H R : List HP} {Q : Exit → Act → World → Prop}
/-- A range over a function, outermost: its record, the block of its rounds' deferred calls. -/
theorem CT.rangeF {g : Operand} {ps : Array Tmp} {assign body : Code} {f : FuncId} {lb : List Value} (hro : n.ro = none) (hg : ev E g = some (.func (.func f) #[] lb.toArray)) (hf : ∀ args w, (callFunc f args).run P w = .ok (.enter f args) w)
    (h : ∀ l D x, x = (⟨n.n, E, ps, assign, body, D⟩ : Lp) → Sp B P f (.func (.yield l) #[] #[] :: lb) [] (Lo l .ready none x :: Df D :: H) (fun v H' => Lft B P ⟨n.n, D :: n.ds, none⟩ l x E Q H')) :
    CT B P n (.rangeFunc g ps assign body) E H Q := by
  obtain ⟨nn, ds, ro⟩ := n
  cases hro
  intro a w hA hS
  refine wpIn_rangeFunc fun fn _ => ?_
  have hS1 : Sat B (Df w.heap.size :: H) (w.alloc (.deferred (some []))) := hS.new rfl rfl rfl rfl fun h _ e => e
  have hS2 : Sat B (Lo (w.heap.size + 1) .ready none ⟨nn, E, ps, assign, body, w.heap.size⟩ :: Df w.heap.size :: H) ((w.alloc (.deferred (some []))).alloc (.loop { state := .ready, pending := none, fn, tmps := a.tmps, params := ps, assign, body, defers := w.heap.size })) := by
    refine hS1.new rfl rfl rfl rfl fun h _ e => ?_
    rw [World.size_alloc] at e
    exact ⟨_, e, rfl, rfl, rfl, rfl, rfl, rfl, ⟨hA.size, rfl, hA.get⟩⟩
  obtain ⟨W1, hW1⟩ : ∃ W1, ((w.alloc (.deferred (some []))).alloc (.loop { state := .ready, pending := none, fn, tmps := a.tmps, params := ps, assign, body, defers := w.heap.size })) = W1 := ⟨_, rfl⟩
  have hrun := run_enterLoop_outer (P := P) (w := w) fn a.tmps ps assign body
  rw [hW1] at hS2 hrun
  refine ⟨w.heap.size + 1, [{ target := .collected w.heap.size, args := #[] }], W1, { target := .fn (.func f) lb.toArray, args := #[.func (.yield (w.heap.size + 1)) #[] #[]] }, W1, f, #[.func (.yield (w.heap.size + 1)) #[] #[]] ++ lb.toArray, W1,
    hrun, ?_, fun _ _ => trivial, ?_, fun h => (by cases h), ?_⟩
  · simp only [resolve, hA.ev hg]
    simp [go_sem]
  · simp [invoke, go_sem, hf]
  · have hc := h (w.heap.size + 1) w.heap.size _ rfl _ (by rw [List.append_nil]; exact hS2)
    have ha : (Value.func (.yield (w.heap.size + 1)) #[] #[] :: lb).toArray = #[.func (.yield (w.heap.size + 1)) #[] #[]] ++ lb.toArray := by simp
    rw [ha] at hc
    refine callsIn_of _ (hc.mono ?_)
    rintro e w' ⟨v, H', rfl, hp, hs⟩
    rw [List.append_nil] at hs
    refine left_run (n := ⟨nn, w.heap.size :: ds, none⟩) ⟨hA.size, ?_, hA.get⟩ hp hs
    show [_] ++ a.defers = _
    rw [hA.defers]
    rfl
theorem run_enterLoop_inner {P : Program} {w : World} {l : Nat} {r : Loop} (h : w.heap[l]? = some (.loop r)) (fn : FuncId) (tmps : Array Value) (ps : Array Tmp) (assign body : Code) :
    (Instr.enterLoop fn tmps ps assign body (some l)).run P w = .ok (w.heap.size, []) (w.alloc (.loop { state := .ready, pending := none, fn, tmps, params := ps, assign, body, defers := r.defers })) := by
  unfold Instr.enterLoop
  simp only [Sem.run_bind, run_getLoop h, run_newObj_alloc, Result.andThen, Sem.run_pure]
/-- A range over a function, within a round of the loop l'. -/
theorem CT.rangeN {g : Operand} {ps : Array Tmp} {assign body : Code} {f : FuncId} {lb : List Value} {l' : Nat} {st : LoopState} {pe : Option Code} {x : Lp} (hro : n.ro = some l') (hs : Sel H (Lo l' st pe x) R) (hg : ev E g = some (.func (.func f) #[] lb.toArray)) (hf : ∀ args w, (callFunc f args).run P w = .ok (.enter f args) w)
    (h : ∀ l y, y = (⟨n.n, E, ps, assign, body, x.D⟩ : Lp) → Sp B P f (.func (.yield l) #[] #[] :: lb) [] (Lo l .ready none y :: H) (fun v H' => Lft B P n l y E Q H')) :
    CT B P n (.rangeFunc g ps assign body) E H Q := by
  obtain ⟨nn, ds, ro⟩ := n
  cases hro
  intro a w hA hS
  obtain ⟨r, h1, _, _, _, _, _, h7, _⟩ := Lo.at_ hS hs
  refine wpIn_rangeFunc fun fn _ => ?_
  have hS2 : Sat B (Lo w.heap.size .ready none ⟨nn, E, ps, assign, body, x.D⟩ :: H) (w.alloc (.loop { state := .ready, pending := none, fn, tmps := a.tmps, params := ps, assign, body, defers := r.defers })) := by
    refine hS.new rfl rfl rfl rfl fun h _ e => ?_
    exact ⟨_, e, rfl, rfl, rfl, rfl, rfl, h7, ⟨hA.size, rfl, hA.get⟩⟩
  obtain ⟨W1, hW1⟩ : ∃ W1, (w.alloc (.loop { state := .ready, pending := none, fn, tmps := a.tmps, params := ps, assign, body, defers := r.defers })) = W1 := ⟨_, rfl⟩
  have hrun := run_enterLoop_inner (P := P) h1 fn a.tmps ps assign body
  rw [hW1] at hS2 hrun
  refine ⟨w.heap.size, [], W1, { target := .fn (.func f) lb.toArray, args := #[.func (.yield w.heap.size) #[] #[]] }, W1, f, #[.func (.yield w.heap.size) #[] #[]] ++ lb.toArray, W1,
    hrun, ?_, fun _ _ => trivial, ?_, fun h => (by cases h), ?_⟩
  · simp only [resolve, hA.ev hg]
    simp [go_sem]
  · simp [invoke, go_sem, hf]
  · have hc := h w.heap.size _ rfl _ (by rw [List.append_nil]; exact hS2)
    have ha : (Value.func (.yield w.heap.size) #[] #[] :: lb).toArray = #[.func (.yield w.heap.size) #[] #[]] ++ lb.toArray := by simp
    rw [ha] at hc
    refine callsIn_of _ (hc.mono ?_)
    rintro e w' ⟨v, H', rfl, hp, hs⟩
    rw [List.append_nil] at hs
    exact left_run (n := ⟨nn, ds, some l'⟩) (a := { a with defers := [] ++ a.defers }) ⟨hA.size, hA.defers, hA.get⟩ hp hs
end
theorem Sp.weak {B : World} {P : Program} {f : FuncId} {vs : List Value} {R Pre Pre' : List HP} {Post : Value → List HP → Prop} (hm : ∀ w, Sat B (Pre ++ R) w → Sat B (Pre' ++ R) w) (h : Sp B P f vs R Pre' Post) : Sp B P f vs R Pre Post := fun w hS => h w (hm w hS)
/-! ### leaving with marks -/
def FinQM (B : World) (P : Program) (fn : Func) (R : List HP) (Post : Value → List HP → Prop) : Exit → Act → World → Prop :=
  bodyPostM Fence.wide 0 P fn fun e w' => ∃ v H', e = .returned v ∧ Post v H' ∧ Sat B (H' ++ R) w'
theorem Sp.bodyM {B : World} {P : Program} {f : FuncId} {fn : Func} {c : Code} {n : Nat} {vs : List Value} {R Pre : List HP} {Post : Value → List HP → Prop}
    (hf : P.funcs[f]? = some fn) (hb : fn.body = some c) (hn : fn.ntmps = n) (hl : vs.length ≤ n)
    (h : CT B P (.mk0 n) c (argE 0 vs) (Pre ++ R) (FinQM B P fn R Post)) : Sp B P f vs R Pre Post := by
  intro w hS
  refine callsIn_wide.1 (callsIn_of_wp_marks (n := 0) hf hb trivial (h _ w ⟨?_, rfl, fun t v e => ?_⟩ hS))
  · simp [hn]; omega
  · obtain ⟨_, e'⟩ := argE_lk vs 0 t v e
    have : t < vs.length := (List.getElem?_eq_some_iff.1 (by simpa using e')).1
    rw [Array.getElem?_append_left (by simpa using this)]
    simpa using e'
section
variable {B : World} {P : Program} {E : Env} {H H1 R : List HP} {fn : Func} {Post : Value → List HP → Prop} {nn : Nat}
theorem leaves_marks {tmps : Array Value} {RR : Ending → World → Prop} : ∀ (ds : List Nat) (w : World), Sat B (ds.map Df ++ H1) w → (∀ w, Sat B H1 w → ∃ v, (results fn tmps).run P w = .ok v w ∧ RR (.returned v) w) →
    LeavesInM Fence.wide 0 P fn tmps RR (ds.map fun D => { target := .collected D, args := #[] }) .returning w
  | [], w, hS, hk => hk w hS
  | D :: ds, w, hS, hk => by
    have h1 := Df.at_ hS .h
    have hlt : D < w.heap.size := (Array.getElem?_eq_some_iff.1 h1).1
    refine ⟨fun h => (by cases h), .inl ⟨D, _, rfl, run_takeDeferred h1, leaves_marks ds _ ?_ hk⟩⟩
    exact (hS.upd (w' := w.putObj D (.deferred none)) (p' := fun _ => True) .h (o' := .deferred none) (b := D) (fun h e => ⟨_, e⟩) (fun _ _ _ _ _ => trivial) rfl rfl rfl World.putObj_size (World.putObj_heap_same hlt) (fun x hx => World.putObj_heap_other hx)).tail
theorem AtQ.finM {ds : List Nat} {v : Value} {H' : List HP} (hs : ∀ w, Sat B H w → Sat B (ds.map Df ++ H1) w) (hres : ∀ a w, Agr ⟨nn, ds, none⟩ E a → Sat B H1 w → (results fn a.tmps).run P w = .ok v w)
    (hp : Post v H') (hs1 : ∀ w, Sat B H1 w → Sat B (H' ++ R) w) {ex : Exit} (hex : ex = .normal ∨ ex = .ret) : AtQ B ⟨nn, ds, none⟩ E H (FinQM B P fn R Post) ex := by
  intro a w hA hS
  have : LeavesInM Fence.wide 0 P fn a.tmps (fun e w' => ∃ v H', e = .returned v ∧ Post v H' ∧ Sat B (H' ++ R) w') a.defers .returning w := by
    rw [hA.defers]
    exact leaves_marks ds w (hs w hS) fun w' hS' => ⟨v, hres a w' hA hS', v, H', rfl, hp, hs1 w' hS'⟩
  rcases hex with rfl | rfl <;> exact this
/-- The result lies in a variable's cell. -/
theorem res_cell {P : Program} (T : Tab P) {t ty b e : Nat} {v : Value} {R2 : List HP} {n : Fm} (hr : fn.results = #[.cell t ty]) (he : lk E t = some (.pointer (some ⟨b, 0, none⟩))) (ht : al T.szs ty = some (1, false)) (hs : Sel H1 (Cs b e [v]) R2) :
    ∀ a w, Agr n E a → Sat B H1 w → (results fn a.tmps).run P w = .ok v w := fun a w hA hS => by
  have hg : a.tmps.getD t undef = .pointer (some ⟨b, 0, none⟩) := by simp [Array.getD_eq_getD_getElem?, hA.get t _ he]
  have hc : w.cell? ⟨b, 0, none⟩ = some v := (cs_cell (hS.cs hs).1 0).trans rfl
  have hl : (loadVar ty ⟨b, 0, none⟩).run P w = .ok v w := by
    simp only [loadVar, Sem.run_bind, run_isAggB (T.sz ht).2, Result.andThen_ok]
    simp [load, Sem.run, hc]
  unfold results
  rw [hr]
  simp only [List.mapM_toArray, List.mapM_cons, List.mapM_nil, hg, asAddr, Sem.run_bind, Sem.run_pure, Result.andThen_ok, bind_assoc, pure_bind, map_eq_pure_bind, Sem.run_map, hl]
  rfl
theorem AtQ.finC {P : Program} (T : Tab P) {t ty b e : Nat} {v u : Value} {R2 HH : List HP} (hr : fn.results = #[.cell t ty]) (he : lk E t = some (.pointer (some ⟨b, 0, none⟩))) (ht : al T.szs ty = some (1, false)) (hsel : Sel H (Cs b e [v]) R2) (hv : v = u) (hs : ∀ w, Sat B H w → Sat B (HH ++ R) w) {ex : Exit} (hex : ex = .normal ∨ ex = .ret) :
    AtQ B (.mk0 nn) E H (FinQM B P fn R (fun u' H' => u' = u ∧ H' = HH)) ex := AtQ.finM (ds := []) (H1 := H) (fun _ h => h) (res_cell T hr he ht hsel) ⟨hv, rfl⟩ hs hex
theorem AtQ.finMC {P : Program} (T : Tab P) {ds : List Nat} {t ty b e : Nat} {v u : Value} {R2 HH : List HP} (hr : fn.results = #[.cell t ty]) (f : Fr H (ds.map Df) H1) (he : lk E t = some (.pointer (some ⟨b, 0, none⟩))) (ht : al T.szs ty = some (1, false)) (hsel : Sel H1 (Cs b e [v]) R2) (hv : v = u) (hs : ∀ w, Sat B H1 w → Sat B (HH ++ R) w) {ex : Exit} (hex : ex = .normal ∨ ex = .ret) :
    AtQ B ⟨nn, ds, none⟩ E H (FinQM B P fn R (fun u' H' => u' = u ∧ H' = HH)) ex := AtQ.finM (H1 := H1) (fun _ h => h.fr f) (res_cell T hr he ht hsel) ⟨hv, rfl⟩ hs hex
end
end Go.Sk
