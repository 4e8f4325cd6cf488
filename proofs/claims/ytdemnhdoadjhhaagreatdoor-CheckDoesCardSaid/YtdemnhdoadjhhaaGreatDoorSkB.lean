/- Merged: Sk39, Sk40, Sk41, Sk42, Sk43, Sk27, Sk44, Sk45, Sk46, Sk47, Sk48. -/
import Derived.Test.YtdemnhdoadjhhaaGreatDoorSkA
import Derived.MapKept
import Derived.Laws.StructEq
import Derived.Recover
import Derived.StillTail
set_option linter.unusedVariables false
set_option linter.unusedSimpArgs false
section
namespace Go.Sk
open Go.RowKit
/-- The chain of a panic that nobody has recovered. -/
abbrev pan (v : Value) : List PanicEntry := [{ v, recovered := false }]
/-- A function's contract: it returns such a value, or panics with such a one. -/
def SpP (B : World) (P : Program) (f : FuncId) (vs : List Value) (R Pre : List HP) (Post PP : Value → List HP → Prop) : Prop :=
 ∀ w, Sat B (Pre ++ R) w → Calls P f vs.toArray w fun e w' => (∃ v H', e = .returned v ∧ Post v H' ∧ Sat B (H' ++ R) w') ∨ ∃ v H', e = .panicked (pan v) ∧ PP v H' ∧ Sat B (H' ++ R) w'
def FinP (B : World) (P : Program) (fn : Func) (R : List HP) (Post PP : Value → List HP → Prop) : Exit → Act → World → Prop :=
 bodyPost P fn fun e w' => (∃ v H', e = .returned v ∧ Post v H' ∧ Sat B (H' ++ R) w') ∨ ∃ v H', e = .panicked (pan v) ∧ PP v H' ∧ Sat B (H' ++ R) w'
theorem SpP.body {B : World} {P : Program} {f : FuncId} {fn : Func} {c : Code} {n : Nat} {vs : List Value} {R Pre : List HP} {Post PP : Value → List HP → Prop}
  (hf : P.funcs[f]? = some fn) (hb : fn.body = some c) (hn : fn.ntmps = n) (hl : vs.length ≤ n)
  (h : CT B P (.mk0 n) c (argE 0 vs) (Pre ++ R) (FinP B P fn R Post PP)) : SpP B P f vs R Pre Post PP := by
 intro w hS
 refine calls_of_wp hf hb (wpIn_wide.1 (h _ w ⟨?_, rfl, fun t v e => ?_⟩ hS))
 ·simp [hn]; omega
 ·obtain ⟨_, e'⟩ := argE_lk vs 0 t v e
  have : t < vs.length := (List.getElem?_eq_some_iff.1 (by simpa using e')).1
  rw [Array.getElem?_append_left (by simpa using this)]
  simpa using e'
section
variable {B : World} {P : Program} {n : Nat} {E : Env} {H R : List HP} {fn : Func} {Post PP : Value → List HP → Prop}
theorem AtQ.ofFinN (h : AtQ B (.mk0 n) E H (FinQ B P fn R Post) .normal) : AtQ B (.mk0 n) E H (FinP B P fn R Post PP) .normal := fun a w hA hS => by
 obtain ⟨h1, v, h2, h3⟩ := h a w hA hS
 exact ⟨h1, v, h2, .inl h3⟩
theorem AtQ.finP {v : Value} {H' : List HP} (hp : PP v H') (hs : ∀ w, Sat B H w → Sat B (H' ++ R) w) : AtQ B (.mk0 n) E H (FinP B P fn R Post PP) (.panic (pan v)) :=
 fun _ w hA hS => ⟨hA.defers, .inr ⟨v, H', rfl, hp, hs w hS⟩⟩
end
section
variable {B : World} {P : Program} {n n' : Fm} {E : Env} {H : List HP} {Q : Exit → Act → World → Prop} {c : Code} {id : Nat} {ch : List PanicEntry}
theorem AtQ.then_pan (h : AtQ B n' E H Q (.panic ch)) : AtQ B n' E H (Then n P c Q) (.panic ch) := h
theorem AtQ.block_pan (h : AtQ B n E H Q (.panic ch)) : AtQ B n E H (Exit.inBlock id Q) (.panic ch) := h
theorem AtQ.loop_pan {α : Type} {f : α → Env} {g : α → List HP} {μ : α → Nat} {z : α} (h : AtQ B n' E H Q (.panic ch)) : AtQ B n' E H (LoopQ B n f g μ z Q) (.panic ch) := h
theorem AtQ.cut_pan {α : Sort _} {f : α → Env} {g : α → List HP} (h : AtQ B n' E H Q (.panic ch)) : AtQ B n' E H (CutQ B n f g Q) (.panic ch) := h
instance : Nx (AtQ B n' E H (Then n P c Q) (.panic ch)) (AtQ B n' E H Q (.panic ch)) := ⟨AtQ.then_pan⟩
instance : Nx (AtQ B n E H (Exit.inBlock id Q) (.panic ch)) (AtQ B n E H Q (.panic ch)) := ⟨AtQ.block_pan⟩
instance {α : Type} {f : α → Env} {g : α → List HP} {μ : α → Nat} {z : α} : Nx (AtQ B n' E H (LoopQ B n f g μ z Q) (.panic ch)) (AtQ B n' E H Q (.panic ch)) := ⟨AtQ.loop_pan⟩
instance {α : Sort _} {f : α → Env} {g : α → List HP} : Nx (AtQ B n' E H (CutQ B n f g Q) (.panic ch)) (AtQ B n' E H Q (.panic ch)) := ⟨AtQ.cut_pan⟩
end
section
variable {B : World} {P : Program} {n : Fm} {E : Env} {H R : List HP} {ty : TypeId}
/-- A call of a function that may panic. -/
theorem x_callP (T : Tab P) {l0 rest : List Oper} {Q : Exit → Act → World → Prop} {d : Nat} {pos : String} {af : Array Edge} {g : Option (Nat × Bool)} {f : FuncId} {bb : Bool} {xs : List Operand} {vs : List Value} {ats : Array TypeId} {Pre : List HP} {Post PP : Value → List HP → Prop}
  (hw : wt l0 E g = some true) (hd : d < n.n) (hf : al T.funs f = some bb) (hv : evs E xs = some vs) (hq : SpP B P f vs R Pre Post PP) (hfr : Fr H Pre R)
  (kp : ∀ v H', PP v H' → AtQ B n E (H' ++ R) Q (.panic (pan v)))
  (k : ∀ v H', Post v H' → RT B P n true l0 rest ((d, v) :: E) (H' ++ R) Q) : RT B P n true l0 (⟨some d, .call { callee := .value (.func f), args := xs.toArray, argTypes := ats }, ty, pos, af, g⟩ :: rest) E H Q :=
 RT.eff hw fun o aa w K ho _ hdd hA hS hK => by
  unfold Oper.wp
  rw [exec_call T hf ho hA hv]
  simp only [Oper.upon, hdd]
  refine (hq w (hS.fr hfr)).mono fun e w' h => ?_
  rcases h with ⟨v, H', he, hp, hS'⟩ | ⟨v, H', he, hp, hS'⟩
  ·subst he
   exact hK _ _ (k v H' hp _ _ (hA.put hd _) hS')
  ·subst he
   exact kp v H' hp _ _ hA hS'
theorem RT.callP (T : Tab P) {l0 rest : List Oper} {Q : Exit → Act → World → Prop} {d : Nat} {pos : String} {af : Array Edge} {g : Option (Nat × Bool)} {f : FuncId} {bb : Bool} {xs : List Operand} {vs : List Value} {ats : Array TypeId} {Pre : List HP} {Post PP : Value → List HP → Prop}
  (qv : evs E xs = some vs) (qfr : Fr H Pre R) (qq : SpP B P f vs R Pre Post PP) (qf : al T.funs f = some bb) (qw : wt l0 E g = some true) (qd : Nat.blt d n.n = true)
  (kp : ∀ v H', PP v H' → AtQ B n E (H' ++ R) Q (.panic (pan v)))
  (qk : ∀ v H', Post v H' → RT B P n true l0 rest ((d, v) :: E) (H' ++ R) Q) : RT B P n true l0 (⟨some d, .call { callee := .value (.func f), args := xs.toArray, argTypes := ats }, ty, pos, af, g⟩ :: rest) E H Q :=
 x_callP T qw (by simpa [Nat.blt_eq] using qd) qf qv qq qfr kp qk
end
end Go.Sk
end
section
namespace Go.Sk
open Go.RowKit
/-- A map in block b: its entries, as they were made; the keys are of kind d. -/
def Mp (d : TypeDesc) (b : Nat) (l : List (Value × Value)) : HP := fun h => ∃ es ck, h b = some (.map es ck) ∧ es.toList.map (fun e => (e.key, e.val)) = l ∧ MapKept.Stamped es ck ∧ ∀ x ∈ es.toList, MapKept.IsKey d x.key
/-- What stands under a key. -/
def MGet (l : List (Value × Value)) (k : Value) : Option Value → Prop
 | none => ∀ x ∈ l, x.1 ≠ k
 | some v => ∃ i : Nat, l[i]? = some (k, v)
theorem keys_inj {es : List MapEntry} (hn : (es.map (·.key)).Nodup) {i j : Nat} {e e' : MapEntry} (hi : es[i]? = some e) (hj : es[j]? = some e') (h : e.key = e'.key) : i = j := by
 have h1 : (es.map (·.key))[i]? = some e.key := by rw [List.getElem?_map, hi]; rfl
 have h2 : (es.map (·.key))[j]? = some e.key := by rw [List.getElem?_map, hj, h]; rfl
 obtain ⟨l1, e1⟩ := List.getElem?_eq_some_iff.1 h1
 obtain ⟨l2, e2⟩ := List.getElem?_eq_some_iff.1 h2
 exact (List.getElem_inj hn).1 (e1.trans e2.symm)
theorem findNow_get {d : TypeDesc} {k : Value} {es : Array MapEntry} {ck : Nat} (hk : MapKept.IsKey d k) (hs : MapKept.Stamped es ck) (hks : ∀ x ∈ es.toList, MapKept.IsKey d x.key) {r : Option Value} (hg : MGet (es.toList.map fun e => (e.key, e.val)) k r) :
  (r = none ∧ Instr.findNow d k es.toList 0 = some none) ∨ ∃ (j : Nat) (e : MapEntry), r = some e.val ∧ Instr.findNow d k es.toList 0 = some (some (j, e.val)) ∧ es.toList[j]? = some e ∧ e.key = k := by
 rcases MapKept.findNow_spec hk es.toList 0 hks with ⟨h1, h2⟩ | ⟨j, e, h1, h2, h3⟩
 ·cases r with
  | none => exact .inl ⟨rfl, h1⟩
  | some v =>
   obtain ⟨i, hi⟩ := hg
   rw [List.getElem?_map] at hi
   obtain ⟨e, he, he2⟩ := Option.map_eq_some_iff.1 hi
   cases he2
   exact absurd rfl (h2 e (List.mem_of_getElem? he))
 ·rw [Nat.zero_add] at h1
  cases r with
  | none => exact absurd h3 (hg (e.key, e.val) (List.mem_map.2 ⟨e, List.mem_of_getElem? h2, rfl⟩))
  | some v =>
   obtain ⟨i, hi⟩ := hg
   rw [List.getElem?_map] at hi
   obtain ⟨e', he, he2⟩ := Option.map_eq_some_iff.1 hi
   simp only [Prod.mk.injEq] at he2
   obtain ⟨e1, rfl⟩ := he2
   have := keys_inj hs.2.2 he h2 (by rw [e1, h3])
   subst this
   rw [he] at h2
   cases h2
   exact .inr ⟨i, _, rfl, h1, he, h3⟩
section
variable {B : World} {P : Program} {n : Fm} {l0 rest : List Oper} {E : Env} {H R : List HP} {Q : Exit → Act → World → Prop} {d : Nat} {ty : TypeId} {pos : String} {af : Array Edge} {g : Option (Nat × Bool)} {x y z : Operand} {m : Bool}
theorem Sat.mp {dk : TypeDesc} {b : Nat} {l : List (Value × Value)} {w : World} (hS : Sat B H w) (s : Sel H (Mp dk b l) R) : ∃ es ck, w.heap[b]? = some (.map es ck) ∧ es.toList.map (fun e => (e.key, e.val)) = l ∧ MapKept.Stamped es ck ∧ ∀ x ∈ es.toList, MapKept.IsKey dk x.key := by
 obtain ⟨h, a, h1, h2, dj, l1, l2, ⟨es, ck, hb, q⟩, hr⟩ := (hS.sel s).heap
 exact ⟨es, ck, (a b _ (l1 b _ hb)).1, q⟩
theorem RT.mkmap {t : TypeId} (dk : TypeDesc) (hw : wt l0 E g = some true) (hd : Nat.blt d n = true)
  (k : ∀ b, RT B P n true l0 rest ((d, .map (some b)) :: E) (Mp dk b [] :: H) Q) : RT B P n true l0 (⟨some d, .makeMap t none, ty, pos, af, g⟩ :: rest) E H Q :=
 RT.eff hw fun o aa w K ho hty hdd hA hS hK => by
  have hex : (execOp aa.eval o).run P w = .ok (.value (.map (some w.heap.size))) (w.alloc (.map #[] 0)) := by
   unfold execOp
   simp [ho, Instr.makeMap]
  have hS' : Sat B (Mp dk w.heap.size [] :: H) (w.alloc (.map #[] 0)) := hS.new rfl rfl rfl rfl fun h _ hb => ⟨#[], 0, hb, rfl, MapKept.stamped_empty 0, fun x hx => by simp at hx⟩
  unfold Oper.wp
  rw [hex]
  simp only [Oper.upon, hdd]
  exact hK _ _ (k w.heap.size _ _ (hA.put (by simpa [Nat.blt_eq] using hd) _) hS')
theorem RT.lookup {t kt et : TypeId} {dk : TypeDesc} {b : Nat} {l : List (Value × Value)} {kv zv : Value} {r : Option Value} (T : Tab P) (hx : ev E x = some (.map (some b))) (hy : ev E y = some kv) (s : Sel H (Mp dk b l) R) (hk : MapKept.IsKey dk kv) (hg : MGet l kv r)
  (hm : P.underlying t = some (.map kt et)) (hd1 : P.underlying kt = some dk) (hz : al T.zers et = some zv) (hw : wt l0 E g = some true) (hd : Nat.blt d n = true)
  (kt' : RT B P n m l0 rest ((d, r.getD zv) :: E) H Q) : RT B P n m l0 (⟨some d, .lookup t x y false, ty, pos, af, g⟩ :: rest) E H Q :=
 RT.y hw (by simpa [Nat.blt_eq] using hd) (y_run fun o aa w ho _ hA hS => by
  obtain ⟨es, ck, hb, rfl, hst, hks⟩ := hS.mp s
  have hgo := MapKept.run_getObj_map (P := P) hb
  have hck := MapKept.run_checkKey (P := P) (w := w) hd1 hk es.isEmpty 9999
  unfold execOp
  rcases findNow_get hk hst hks hg with ⟨rfl, f1⟩ | ⟨j, e, rfl, f1, f2, f3⟩
  ·have hfk := MapKept.run_findKey (P := P) (w := w) (kt := kt) hd1 f1
   have hzz : (zeroValue et).run P w = .ok zv w := zerB_spec (T.zer hz)
   simp only [ho, hA.ev hx, hA.ev hy, Instr.lookup, Sem.run_bind, run_underlying hm, Result.andThen_ok, Sem.run_pure, hgo, hck, hfk, hzz]
   rfl
  ·have hfk := MapKept.run_findKey (P := P) (w := w) (kt := kt) hd1 f1
   simp only [ho, hA.ev hx, hA.ev hy, Instr.lookup, Sem.run_bind, run_underlying hm, Result.andThen_ok, Sem.run_pure, hgo, hck, hfk]
   rfl) kt'
/-- A new entry. -/
theorem RT.mapNew {t kt et : TypeId} {dk : TypeDesc} {b : Nat} {l : List (Value × Value)} {kv vv : Value} {H' : List HP} (hx : ev E x = some (.map (some b))) (hy : ev E y = some kv) (hzv : ev E z = some vv) (hr : Rep H (Mp dk b l) (Mp dk b (l ++ [(kv, vv)])) H') (hk : MapKept.IsKey dk kv) (hg : MGet l kv none)
  (hm : P.underlying t = some (.map kt et)) (hd1 : P.underlying kt = some dk) (hw : wt l0 E g = some true)
  (k : RT B P n true l0 rest E H' Q) : RT B P n true l0 (⟨none, .mapUpdate t x y z, ty, pos, af, g⟩ :: rest) E H Q :=
 RT.eff hw fun o aa w K ho hty hdd hA hS hK => by
  obtain ⟨R, s1, s2⟩ := hr.sel
  obtain ⟨es, ck, hb, rfl, hst, hks⟩ := hS.mp s1
  have hgo := MapKept.run_getObj_map (P := P) hb
  have hck := MapKept.run_checkKey (P := P) (w := w) hd1 hk false 9999
  have f1 : Instr.findNow dk kv es.toList 0 = some none := by
   rcases findNow_get hk hst hks hg with ⟨_, f1⟩ | ⟨j, e, h1, _⟩
   ·exact f1
   ·cases h1
  have hfk := MapKept.run_findKey (P := P) (w := w) (kt := kt) hd1 f1
  have hso := MapKept.run_setObj_map (P := P) (.map (es.push ⟨kv, vv, ck⟩) (ck + 1)) hb
  have hex : (execOp aa.eval o).run P w = .ok .skip { w with heap := w.heap.setIfInBounds b (.map (es.push ⟨kv, vv, ck⟩) (ck + 1)) } := by
   unfold execOp
   simp only [ho, hA.ev hx, hA.ev hy, hA.ev hzv, Instr.mapUpdate, Sem.run_bind, run_underlying hm, Result.andThen_ok, Sem.run_pure, hgo, hck, hfk, hso]
  obtain ⟨q1, q2⟩ := MapKept.heap_set (o' := Obj.map (es.push ⟨kv, vv, ck⟩) (ck + 1)) hb
  have hne : ∀ x ∈ es.toList, x.key ≠ kv := fun x hx' => hg (x.key, x.val) (List.mem_map.2 ⟨x, hx', rfl⟩)
  have hS' : Sat B H' { w with heap := w.heap.setIfInBounds b (.map (es.push ⟨kv, vv, ck⟩) (ck + 1)) } :=
   hS.upd (b := b) (o' := .map (es.push ⟨kv, vv, ck⟩) (ck + 1)) hr (fun h ⟨_, _, hh, _⟩ => ⟨_, hh⟩) (fun h h' _ _ hb' => ⟨_, _, hb', by simp, MapKept.stamped_push hst hne, fun x hx' => by
    rw [Array.toList_push, List.mem_append, List.mem_singleton] at hx'
    rcases hx' with hx' | rfl
    ·exact hks x hx'
    ·exact hk⟩) rfl rfl rfl (by simp) q1 q2
  unfold Oper.wp
  rw [hex]
  simp only [Oper.upon, hdd]
  exact hK _ _ (k _ _ hA hS')
/-- An entry's value is another one. -/
theorem RT.mapSet {t kt et : TypeId} {dk : TypeDesc} {b i : Nat} {l : List (Value × Value)} {kv vv v0 : Value} {H' : List HP} (hx : ev E x = some (.map (some b))) (hy : ev E y = some kv) (hzv : ev E z = some vv) (hr : Rep H (Mp dk b l) (Mp dk b (l.set i (kv, vv))) H') (hk : MapKept.IsKey dk kv) (hg : l[i]? = some (kv, v0))
  (hm : P.underlying t = some (.map kt et)) (hd1 : P.underlying kt = some dk) (hw : wt l0 E g = some true)
  (k : RT B P n true l0 rest E H' Q) : RT B P n true l0 (⟨none, .mapUpdate t x y z, ty, pos, af, g⟩ :: rest) E H Q :=
 RT.eff hw fun o aa w K ho hty hdd hA hS hK => by
  obtain ⟨R, s1, s2⟩ := hr.sel
  obtain ⟨es, ck, hb, rfl, hst, hks⟩ := hS.mp s1
  have hgo := MapKept.run_getObj_map (P := P) hb
  have hck := MapKept.run_checkKey (P := P) (w := w) hd1 hk false 9999
  rcases findNow_get hk hst hks (r := some v0) ⟨i, hg⟩ with ⟨h1, _⟩ | ⟨j, e, _, f1, f2, f3⟩
  ·cases h1
  have hij : j = i := by
   rw [List.getElem?_map] at hg
   obtain ⟨e', he, he2⟩ := Option.map_eq_some_iff.1 hg
   simp only [Prod.mk.injEq] at he2
   exact keys_inj hst.2.2 f2 he (by rw [f3, he2.1])
  subst hij
  have hfk := MapKept.run_findKey (P := P) (w := w) (kt := kt) hd1 f1
  have hget : ((es[j]?).map (·.key)).getD kv = kv := by
   rw [← Array.getElem?_toList, f2]
   simp [f3]
  have hst2 : (Instr.keyThatStays kv kv).run P w = .ok kv w := MapKept.run_keyThatStays hk
  have hso := MapKept.run_setObj_map (P := P) (.map (es.modify j fun x => { x with key := kv, val := vv }) ck) hb
  have hex : (execOp aa.eval o).run P w = .ok .skip { w with heap := w.heap.setIfInBounds b (.map (es.modify j fun x => { x with key := kv, val := vv }) ck) } := by
   unfold execOp
   simp only [ho, hA.ev hx, hA.ev hy, hA.ev hzv, Instr.mapUpdate, Sem.run_bind, run_underlying hm, Result.andThen_ok, Sem.run_pure, hgo, hck, hfk, hget, hst2, hso]
  obtain ⟨q1, q2⟩ := MapKept.heap_set (o' := Obj.map (es.modify j fun x => { x with key := kv, val := vv }) ck) hb
  have hkm : ∀ e', es[j]? = some e' → ({ e' with key := kv, val := vv } : MapEntry).key = e'.key := fun e' he => by
   rw [← Array.getElem?_toList, f2] at he
   cases he
   exact f3.symm
  have hS' : Sat B H' { w with heap := w.heap.setIfInBounds b (.map (es.modify j fun x => { x with key := kv, val := vv }) ck) } :=
   hS.upd (b := b) (o' := .map (es.modify j fun x => { x with key := kv, val := vv }) ck) hr (fun h ⟨_, _, hh, _⟩ => ⟨_, hh⟩) (fun h h' _ _ hb' => ⟨_, _, hb', by
    rw [Array.toList_modify]
    apply List.ext_getElem?
    intro q
    rw [List.getElem?_map, List.getElem?_modify, List.getElem?_set, List.getElem?_map]
    by_cases hq : j = q
    ·subst hq
     have hlt : j < es.size := by have := (List.getElem?_eq_some_iff.1 f2).1; simpa using this
     simp [f2, hlt]
    ·simp [hq], MapKept.stamped_modify hst j _ (fun _ _ => rfl) (fun e' _ he => hkm e' he), MapKept.isKey_modify hks j _ hkm⟩) rfl rfl rfl (by simp) q1 q2
  unfold Oper.wp
  rw [hex]
  simp only [Oper.upon, hdd]
  exact hK _ _ (k _ _ hA hS')
/-- A call of a function value that holds something. -/
theorem RT.callC (T : Tab P) {f : FuncId} {bb : Bool} {xs : List Operand} {vs : List Value} {caps : List Value} {ats : Array TypeId} {Pre : List HP} {Post : Value → List HP → Prop}
  (qx : ev E x = some (.func (.func f) #[] caps.toArray)) (qv : evs E xs = some vs) (qfr : Fr H Pre R) (qq : Sp B P f (vs ++ caps) R Pre Post) (qf : al T.funs f = some bb) (qw : wt l0 E g = some true) (qd : Nat.blt d n = true)
  (qk : ∀ v H', Post v H' → RT B P n true l0 rest ((d, v) :: E) (H' ++ R) Q) : RT B P n true l0 (⟨some d, .call { callee := .value x, args := xs.toArray, argTypes := ats }, ty, pos, af, g⟩ :: rest) E H Q :=
 RT.eff qw fun o aa w K ho _ hdd hA hS hK => by
  have hrun : (execOp aa.eval o).run P w = .ok (.enter f (vs ++ caps).toArray) w := by
   unfold execOp
   have hm : xs.map aa.eval = vs := hA.evs qv
   simp only [ho, resolve, Sem.run_bind, List.map_toArray, hm, hA.ev qx, Deferred.ofValue, Sem.run_pure, Result.andThen_ok, invoke]
   simpa using run_call (T := T) qf
  unfold Oper.wp
  rw [hrun]
  simp only [Oper.upon, hdd]
  refine (qq w (hS.fr qfr)).mono fun e w' ⟨v, H', he, hp, hS'⟩ => ?_
  subst he
  exact hK _ _ (qk v H' hp _ _ (hA.put (by simpa [Nat.blt_eq] using qd) _) hS')
theorem RT.maxI {ats : Array TypeId} {k k' : IntKind} {i j r : Int} (hx : ev E x = some (.int k i)) (hy : ev E y = some (.int k' j)) (hr : (if i < j then j else i) = r) (hw : wt l0 E g = some true) (hd : Nat.blt d n = true)
  (kt : RT B P n m l0 rest ((d, .int k r) :: E) H Q) : RT B P n m l0 (⟨some d, .call { callee := .builtin .max, args := #[x, y], argTypes := ats }, ty, pos, af, g⟩ :: rest) E H Q :=
 RT.y hw (by simpa [Nat.blt_eq] using hd) (y_run fun o aa w ho _ hA _ => by
  unfold execOp
  simp only [ho, resolve, invoke, builtin, List.map_toArray, List.map_cons, List.map_nil, hA.ev hx, hA.ev hy, Builtin.max_, List.foldlM_cons, List.foldlM_nil, Builtin.max2, Sem.run_bind, Sem.run_pure, Result.andThen_ok, pure_bind]
  rw [hr]) kt
end
end Go.Sk
end
section
namespace Go.Sk
open Go.RowKit
def okF (P : Program) (t : TypeId) (v : Value) : Bool := match P.underlying t, v with
 | some (.int _), .int _ _ => true
 | some .bool, .bool _ => true
 | some .string, .string _ => true
 | _, _ => false
def sameS (P : Program) (t : TypeId) (xs : List Value) : Bool := match P.underlying t with
 | some (.struct fs) => !P.stoodInHeld t && !P.eqGuardType P.depth t && fs.toList.all fun f => match xs[f.offset]? with
  | some v => okF P f.type v
  | none => false
 | _ => false
theorem okF_eq {P : Program} {t : TypeId} {v : Value} (h : okF P t v = true) (w : World) (d : Nat) : (Op.equalIn (d + 1) t v v).run P w = .ok true w := by
 unfold okF at h
 split at h
 ·rename_i k k' n hu
  simp [run_equalIn_int w d t k' k n n hu]
 ·rename_i b hu
  simp [run_equalIn_bool' w d t b b hu]
 ·rename_i s hu
  simp [run_equalIn_string w d t s s hu]
 ·cases h
theorem okF_part {P : Program} {t : TypeId} {v : Value} (h : okF P t v = true) (w : World) {xs : List Value} {i : Nat} (hi : xs[i]? = some v) : (part t xs.toArray i).run P w = .ok v w := by
 have hx : xs.toArray[i]? = some v := by simpa using hi
 unfold okF at h
 split at h
 ·rename_i k k' n hu
  simp [part, isAgg, run_underlying hu, hx]
 ·rename_i b hu
  simp [part, isAgg, run_underlying hu, hx]
 ·rename_i s hu
  simp [part, isAgg, run_underlying hu, hx]
 ·cases h
theorem eqFields_same {P : Program} {w : World} {d : Nat} {xs : List Value} : ∀ {fs : List Field}, (fs.all fun f => match xs[f.offset]? with
  | some v => okF P f.type v
  | none => false) = true → (Op.eqFields (d + 1) xs.toArray xs.toArray fs).run P w = .ok true w
 | [], _ => rfl
 | f :: fs, h => by
  rw [List.all_cons, Bool.and_eq_true] at h
  obtain ⟨h1, h2⟩ := h
  have ih := eqFields_same (w := w) (d := d) h2
  split at h1
  ·rename_i v hv
   have hp := okF_part h1 w hv
   have he := okF_eq h1 w d
   simp only [Op.eqFields]
   split
   ·simp only [Sem.run_bind, hp, Result.andThen_ok, he, Bool.not_true, Bool.false_eq_true, if_false]
    exact ih
   ·exact ih
  ·cases h1
section
variable {B : World} {P : Program} {n : Fm} {m : Bool} {l0 rest : List Oper} {E : Env} {H : List HP} {Q : Exit → Act → World → Prop} {d : Nat} {ty t t' : TypeId} {pos : String} {af : Array Edge} {g : Option (Nat × Bool)} {x y : Operand}
theorem RT.neS {xs : List Value} (hx : ev E x = some (.agg xs.toArray)) (hy : ev E y = some (.agg xs.toArray)) (hs : sameS P t xs = true) (hw : wt l0 E g = some true) (hd : Nat.blt d n = true)
  (k1 : RT B P n m l0 rest ((d, .bool false) :: E) H Q) : RT B P n m l0 (⟨some d, .binOp .neq t x y t', ty, pos, af, g⟩ :: rest) E H Q := by
 have hy2 : Yld B P n E H (.binOp .neq t x y t') ty (.bool false) := y_run fun o aa w ho _ hA _ => by
  unfold sameS at hs
  split at hs
  ·rename_i fs hu
   rw [Bool.and_eq_true, Bool.and_eq_true] at hs
   obtain ⟨⟨h1, h2⟩, h3⟩ := hs
   have hf : P.fieldsOf t = fs := by unfold Program.fieldsOf; rw [hu]
   have e1 := run_eqGuard_agg (P := P) w .neq t x y xs.toArray xs.toArray (by simpa using h2)
   have e2 : (Op.equalIn 10000 t (.agg xs.toArray) (.agg xs.toArray)).run P w = .ok true w := by
    rw [show (10000 : Nat) = 9998 + 1 + 1 from rfl, run_equalIn_struct w (9998 + 1) t _ _ (by rw [hf]; exact hu) (by simpa using h1), hf]
    exact eqFields_same h3
   unfold execOp
   simp only [ho, hA.ev hx, hA.ev hy, e1, Sem.run_bind, Result.andThen_ok, run_neq_struct, e2]
   rfl
  ·cases hs
 exact RT.y hw (by simpa [Nat.blt_eq] using hd) hy2 k1
end
end Go.Sk
end
section
namespace Go.Sk
open Go.RowKit
theorem take_mid {xs ys v : List Value} {j : Nat} (h : j + v.length ≤ xs.length) :
  ((xs ++ ys).take j ++ v ++ (xs ++ ys).drop (j + v.length)).take xs.length = xs.take j ++ v ++ xs.drop (j + v.length) := by
 have e1 : (xs ++ ys).take j = xs.take j := List.take_append_of_le_length (by omega)
 have e2 : (xs ++ ys).drop (j + v.length) = xs.drop (j + v.length) ++ ys := List.drop_append_of_le_length h
 rw [e1, e2, ← List.append_assoc]
 exact List.take_left' (by simp; omega)
section
variable {B : World} {P : Program} {n : Fm} {l0 rest : List Oper} {E : Env} {H R : List HP} {Q : Exit → Act → World → Prop} (T : Tab P) {ty t : TypeId} {pos : String} {af : Array Edge} {g : Option (Nat × Bool)} {x y : Operand}
theorem RT.stoA {b : Option Addr} {c k e j sz z : Nat} {xs v : List Value} {H' : List HP} (hx : ev E x = some (.pointer (some ((adr b).add j)))) (hy : ev E y = some (.agg v.toArray)) (h1 : v.all (fun u => u.oneCell') = true)
  (hr : Rep H (Own b c e sz k xs) (Own b c e sz k (xs.take j ++ v ++ xs.drop (j + v.length))) H') (hj : j + v.length ≤ xs.length) (hv : 0 < v.length) (hz : v.length = z) (ht : al T.szs t = some (z, true)) (hw : wt l0 E g = some true)
  (kt : RT B P n true l0 rest E H' Q) : RT B P n true l0 (⟨none, .store t x y, ty, pos, af, g⟩ :: rest) E H Q :=
 RT.eff hw fun o a w K ho _ hd hA hS hK => by
  subst hz
  obtain ⟨R, s1, s2⟩ := hr.sel
  obtain ⟨hl, hkc, hcm⟩ := Own.facts hS s1
  rcases Own.to_row hS s1 with ⟨_, _, _, rfl⟩ | ⟨gb, cur, rfl, hg, hbg, hcs, htk⟩
  ·have h0 : ([] : List Value).length = 0 := rfl
   omega
  ·have hcur : cur = cur.toList.toArray := by simp
   have hg' : w.heap[gb]? = some (.cells cur.toList.toArray e (0, 0)) := by rw [← hcur]; exact hg
   have hsp : cur.toList = xs ++ cur.toList.drop (k * sz) := by rw [← htk, List.take_append_drop]
   have hjc : j + 0 + v.length ≤ cur.toList.toArray.size := by
    have : cur.toList.length = xs.length + (cur.toList.drop (k * sz)).length := by rw [← List.length_append, ← hsp]
    simp only [List.size_toArray]
    omega
   have hrun := run_storeCells_at P gb j e v 0 cur.toList.toArray w hg' hjc (fun u hu => List.all_eq_true.1 h1 u hu)
   unfold Oper.wp execOp
   have hsz := (T.sz ht).1
   simp only [ho, hA.ev hx, hA.ev hy, Instr.storeAt, Instr.sureAddr, Sem.run_bind, Sem.run_pure, Result.andThen_ok, storeVar, run_sizeB hsz, Value.cells]
   simp only [List.size_toArray, ne_eq, not_true, if_false, Sem.run_pure, Result.andThen_ok, adr, Option.getD_some, addr_add, hrun, Sem.run_bind]
   simp only [Oper.upon, hd, Act.put]
   refine hK _ _ (kt _ _ hA ?_)
   refine Sat.ownRow hS hr hg (by simp; omega) hkc hcm ?_ ?_
   ·have hcl : cur.toList.length = c * sz := by simpa using hcs
    simp at hjc ⊢
    omega
   ·have h2 := take_mid (ys := cur.toList.drop (k * sz)) hj
    rw [← hsp, hl] at h2
    simpa using h2
theorem RT.stoZ {b : Option Addr} {c k e j sz : Nat} {xs : List Value} {v : Value} {H' : List HP} (hx : ev E x = some (.pointer (some ((adr b).add j)))) (hy : ev E y = some v) (h1 : one1 v = true)
  (hr : Rep H (Own b c e sz k xs) (Own b c e sz k (xs.set j v)) H') (hj : j < xs.length) (ht : al T.szs t = some (1, false)) (hw : wt l0 E g = some true)
  (kt : RT B P n true l0 rest E H' Q) : RT B P n true l0 (⟨none, .store t x y, ty, pos, af, g⟩ :: rest) E H Q :=
 RT.eff hw fun o a w K ho _ hd hA hS hK => by
  obtain ⟨R, s1, s2⟩ := hr.sel
  obtain ⟨hl, hkc, hcm⟩ := Own.facts hS s1
  rcases Own.to_row hS s1 with ⟨_, _, _, rfl⟩ | ⟨gb, cur, rfl, hg, hbg, hcs, htk⟩
  ·simp at hj
  ·have hcur : cur = cur.toList.toArray := by simp
   have hg' : w.heap[gb]? = some (.cells cur.toList.toArray e (0, 0)) := by rw [← hcur]; exact hg
   have hjc : j < cur.toList.length := by
    rw [← htk] at hj
    have := List.length_take_le (k * sz) cur.toList
    rw [List.length_take] at hj
    omega
   have hs1 := run_store1 (P := P) h1 hg' hjc
   unfold Oper.wp execOp
   have hsz := (T.sz ht).1
   simp only [ho, hA.ev hx, hA.ev hy, Instr.storeAt, Instr.sureAddr, Sem.run_bind, Sem.run_pure, Result.andThen_ok, storeVar, run_sizeB hsz, one1_cells h1]
   simp only [List.size_toArray, List.length_cons, List.length_nil, Nat.zero_add, ne_eq, not_true, if_false, Sem.run_pure, Result.andThen_ok, storeCells, addr_add0, adr, Option.getD_some, addr_add, hs1, Sem.run_bind]
   simp only [Oper.upon, hd, Act.put]
   refine hK _ _ (kt _ _ hA ?_)
   refine hS.upd (b := gb) (o' := .cells (cur.toList.set j v).toArray e (0, 0)) hr (fun h hh => ?_) (fun h h' hh hne hb => ?_) rfl rfl rfl (setCell_size _ _ _) (setCell_heap hg') (fun z hz => setCell_ne _ _ _ _ hz)
   ·obtain ⟨_, _, _, hp⟩ := hh
    rcases hp with ⟨h, _⟩ | ⟨g', cur', h, hgg, _⟩
    ·cases h
    ·cases h; exact ⟨_, hgg⟩
   ·refine ⟨by simp [hl], hkc, hcm, .inr ⟨gb, _, rfl, hb, by simpa using hcs, ?_⟩⟩
    simp only
    rw [List.take_set, htk]
end
section
variable {B : World} {R : List HP} {w : World}
theorem Bag.split {qs ps : List HP} (s : Sat B (Bag (qs ++ ps) :: R) w) : Sat B (qs ++ (Bag ps :: R)) w := by
 have h := Bag.open_ s
 rw [List.append_assoc] at h
 refine h.mono fun hh hs => ?_
 obtain ⟨x, y, d, lx, ly, hb, hr⟩ := star_cut qs hs
 exact star_glue qs d lx ly hb (by
  obtain ⟨x2, y2, d2, lx2, ly2, hb2, hr2⟩ := star_cut ps hr
  exact ⟨x2, y2, d2, lx2, ly2, hb2, hr2⟩)
end
end Go.Sk
end
section
namespace Go.Sk
open Go.RowKit
section
variable {P : Program} {ops : Array Oper} {C : World → Prop}
/-- So many operations come up, each below n and quiet in the class; then L holds. -/
def hdQ (P : Program) (ops : Array Oper) (C : World → Prop) (n : Nat) (L : Array Bool → Act → Prop) : Nat → Array Bool → Act → Prop
 | 0, ls, a => L ls a
 | f + 1, ls, a => Region.ready .any ops ls ≠ [] ∧ ∀ i ∈ Region.ready .any ops ls, i < n ∧ qOp P ops C i (hdQ P ops C n L f (ls.setIfInBounds i true)) a
theorem hdQ.any {n g : Nat} {L : Array Bool → Act → Prop} {Q' : Exit → Act → World → Prop} (hL : ∀ ls a w, C w → L ls a → wpAny P .any ops Q' g ls a w) :
  ∀ (f : Nat) (ls : Array Bool) (a : Act) (w : World), C w → hdQ P ops C n L f ls a → wpAny P .any ops Q' (f + g) ls a w
 | 0, ls, a, w, hw, h => by rw [Nat.zero_add]; exact hL _ _ _ hw h
 | f + 1, ls, a, w, hw, h => by
  rw [show f + 1 + g = (f + g) + 1 by omega]
  exact ⟨fun h0 => absurd h0 h.1, fun i hi => wpOp_of_qOp hw (fun a' w' hw' h' => hdQ.any hL f _ a' w' hw' h') (h.2 i hi).2⟩
theorem hdQ.first {n i : Nat} {oi : Oper} {v : Value} {L : Array Bool → Act → Prop} (hi : ops[i]? = some oi) (hsel : ∀ (j : Nat) (o : Oper) cs b, ops[j]? = some o → o.op ≠ .select cs b)
  (hs : Region.sinkB .any ops n = true) (hc : Region.chainB .any ops n = true) (hn : n < ops.size) (hin : i < n) (hdone : ∀ ls a, L ls a → ∀ j ∈ Region.ready .any ops ls, n ≤ j) :
  ∀ (f : Nat) (ls : Array Bool) (a : Act), HeadInv .any ops n ls →
   (∀ j oj, ops[j]? = some oj → j ≠ i → ls.getD j true = false → (∀ e ∈ oj.after, Region.binds .any e = true → e.on ≠ i) → oi.apart ops oj = true) →
   i ∈ Region.ready .any ops ls → YieldsIn P ops C oi v a → hdQ P ops C n L f (ls.setIfInBounds i true) (a.put oi.dst v) → hdQ P ops C n L (f + 1) ls a := by
 intro f
 induction f with
 | zero =>
  intro ls a inv _ hr hy H
  have hun := (mem_ready.1 hr).1
  refine ⟨fun h => (by rw [h] at hr; cases hr), fun j hj => ?_⟩
  have hjn : j < n := Nat.lt_of_not_le fun h => tail_waits hs hc hn inv _ i rfl hin hun j h hj
  refine ⟨hjn, ?_⟩
  by_cases hji : j = i
  ·subst hji; exact hy.qOp hi H
  ·have := hdone _ _ H j (ready_mono hj hji)
   omega
 | succ f ih =>
  intro ls a inv hfree hr hy H
  have hun := (mem_ready.1 hr).1
  refine ⟨fun h => (by rw [h] at hr; cases hr), fun j hj => ?_⟩
  have hjn : j < n := Nat.lt_of_not_le fun h => tail_waits hs hc hn inv _ i rfl hin hun j h hj
  refine ⟨hjn, ?_⟩
  by_cases hji : j = i
  ·subst hji; exact hy.qOp hi H
  ·have h1 := (H.2 j (ready_mono hj hji)).2
   obtain ⟨hjun, oj, hoj, hall⟩ := mem_ready.1 hj
   have hnot : ∀ e ∈ oj.after, Region.binds .any e = true → e.on ≠ i := fun e he hb heq => by
    have h1 := hall e he hb
    rw [heq, getD_both hun] at h1
    cases h1
   have h2 := qOp_put hoj (hfree j oj hoj hji hjun hnot) (fun cs b => hsel i oi cs b hi) (fun cs b => hsel j oj cs b hoj) hy h1
   refine qOp_mono (fun a' h3 => ih (ls.setIfInBounds j true) a' (inv.set hj hjn) (fun k ok hk hki hun hno => ?_) (ready_mono hr (Ne.symm hji)) h3.1 ?_) h2
   ·refine hfree k ok hk hki ?_ hno
    by_cases hjk : j = k
    ·subst hjk; exact hjun
    ·rw [getD_set_ne true hjk] at hun; exact hun
   ·rw [Array.setIfInBounds_comm _ _ hji]
    exact h3.2
theorem hdQ.lex {n g : Nat} {Lq : Act → Prop} (hsel : Region.noSelect ops = true) (hs : Region.sinkB .any ops n = true) (hc : Region.chainB .any ops n = true) (hn : n < ops.size) :
  ∀ (l : List Oper) (k : Nat) (ls : Array Bool) (a : Act), (∀ j, j < l.length → l[j]? = ops[k + j]?) → k + l.length = n → HeadInv .any ops n ls →
  Region.lexHead .any ops g l.length k ls = true → wpQuiet P ops C Lq l a → hdQ P ops C n (fun ls' a' => Region.seqB .any ops g n ls' = true ∧ Lq a') l.length ls a
 | [], k, ls, a, _, hk, _, hB, h => by
  obtain rfl : k = n := by simpa using hk
  exact ⟨by simpa [Region.lexHead] using hB, h⟩
 | o :: l, k, ls, a, hl, hk, inv, hB, h => by
  have h0 : ops[k]? = some o := by simpa using (hl 0 (by simp)).symm
  simp only [List.length_cons, Region.lexHead, Bool.and_eq_true] at hB
  obtain ⟨⟨hr, hf⟩, hB'⟩ := hB
  have hkn : k < n := by simp only [List.length_cons] at hk; omega
  have hr' : k ∈ Region.ready .any ops ls := by simpa using hr
  have hst : qOp P ops C k (wpQuiet P ops C Lq l) a := by unfold qOp; simp only [h0]; exact h
  obtain ⟨v, hy, hK⟩ := yieldsIn_of_qOp h0 hst
  exact hdQ.first h0 (Region.noSelect_spec hsel) hs hc hn hkn (fun ls' a' hL => seqB_ready hL.1) l.length ls a inv (Region.free_spec h0 hf) hr' hy
   (hdQ.lex hsel hs hc hn l (k + 1) _ _ (fun j hj => by have := hl (j + 1) (by simp; omega); simpa [Nat.add_assoc, Nat.add_comm 1 j] using this) (by simp only [List.length_cons] at hk; omega) (inv.set hr' hkn) hB' hK)
theorem wpList_of_N {Q : Exit → Act → World → Prop} : ∀ {l : List Oper} {a : Act} {w : World}, wpN P ops Q l a w → wpList P ops Q l a w
 | [], _, _, h => h
 | o :: rest, a, w, h => by
  unfold wpN at h
  unfold wpList
  split
  ·rename_i hw
   rw [if_pos hw] at h
   exact .inl (Oper.wp_mono (fun a w hk => wpList_of_N hk) h)
  ·rename_i hw
   rw [if_neg hw] at h
   exact wpList_of_N h
end
section
variable {B : World} {P : Program} {n n' : Fm} {E : Env} {H R : List HP} {Q : Exit → Act → World → Prop}
/-- What stands behind the quiet part of a region: its tail. -/
def TailQ (P : Program) (l rest : List Oper) (Q : Exit → Act → World → Prop) : Exit → Act → World → Prop := fun ex a w =>
 match ex with
 | .normal => wpN P l.toArray Q rest a w
 | _ => False
/-- A region whose order is open: quiet up to k; the rest waits for all of that, and comes in its order. -/
theorem CT.tail {id : Nat} {l : List Oper} (k : Nat) (hm : P.follows .mixedOrders = true) (hB : Region.lexTailB .any l.toArray k = true) (h : RT B P n false l (l.take k) E H (TailQ P l (l.drop k) Q)) (hro : n.ro = none := by rfl) : CT B P n (.region id l.toArray true) E H Q := by
 intro a w hA hS
 rw [Fm.wide hro]
 refine wpIn_wide.2 ?_
 simp only [Region.lexTailB, Bool.and_eq_true, decide_eq_true_eq] at hB
 obtain ⟨⟨⟨⟨hsel, hn⟩, hs⟩, hc⟩, hlex⟩ := hB
 have hn' : k < l.length := by simpa using hn
 have htl : (l.take k).length = k := by simp; omega
 have hdl : (l.drop k).length = l.toArray.size - k := by simp
 have inv0 : HeadInv .any l.toArray k (Array.replicate l.toArray.size false) :=
  ⟨by simp, fun j oj _ hl => (by rw [getD_replicate_false] at hl; cases hl), fun t _ ht => getD_in (by simpa using ht) (getD_replicate_false _ _)⟩
 have hq := h a hA
 have H1 := hdQ.lex (C := Sat B H) (g := l.toArray.size - k) hsel hs hc hn (l.take k) 0 _ a (fun j hj => by
  have hj' : j < k := by rw [htl] at hj; exact hj
  simp [hj']) (by simpa using htl) inv0 (by rw [htl]; exact hlex) hq
 refine wp_region_any hm ?_
 have := hdQ.any (Q' := Q) (g := l.toArray.size - k) (fun ls a' w' hw' hL => by
  have := wpAny_of_seq (md := .any) (Q' := Q) (l.drop k) k ls a' w' (fun j => by simp [List.getElem?_drop]) (by rw [hdl]; exact hL.1) (wpList_of_N (hL.2 w' hw'))
  rwa [hdl] at this) _ _ _ _ (hS.drawn (w.drawn + 1)) H1
 rw [htl, show k + (l.toArray.size - k) = l.toArray.size by omega] at this
 exact this
theorem AtQ.tail {l rest : List Oper} (h : RT B P n true l rest E H Q) : AtQ B n E H (TailQ P l rest Q) .normal := fun a w hA hS => h a w hA hS
/-! ### panics, deferred calls -/
variable {l0 rest : List Oper} {ty : TypeId} {pos : String} {af : Array Edge} {g : Option (Nat × Bool)} {m : Bool} {x : Operand} {d : Nat}
theorem RT.panic {t : TypeId} {v : Value} {dst : Option Nat} (hx : ev E x = some (.iface t v)) (hw : wt l0 E g = some true) (h : AtQ B n E H Q (.panic (pan (.iface t v)))) : RT B P n true l0 (⟨dst, .panic x, ty, pos, af, g⟩ :: rest) E H Q :=
 RT.eff hw fun o aa w K ho _ hdd hA hS hK => by
  have hex : (execOp aa.eval o).run P w = .halt (.panic (.iface t v)) w := by
   unfold execOp
   simp only [ho, hA.ev hx, Instr.panic, Sem.run_bind]
   rfl
  unfold Oper.wp
  rw [hex]
  exact h _ _ hA hS
theorem RT.mkI {t : TypeId} {v : Value} {td : TypeDesc} (hx : ev E x = some v) (ht : P.underlying t = some td) (hi : ∀ b, td ≠ .interface b) (hw : wt l0 E g = some true) (hd : Nat.blt d n = true)
  (k : RT B P n m l0 rest ((d, .iface t v) :: E) H Q) : RT B P n m l0 (⟨some d, .makeInterface t x, ty, pos, af, g⟩ :: rest) E H Q :=
 RT.y hw (by simpa [Nat.blt_eq] using hd) (y_run fun o aa w ho _ hA _ => by
  unfold execOp
  simp only [ho, hA.ev hx, Instr.makeInterface, Sem.run_bind, run_underlying ht, Result.andThen_ok]
  cases td <;> first | exact absurd rfl (hi _) | rfl) k
theorem RT.defer {f : FuncId} {caps : List Value} {dst : Option Nat} {ats : Array TypeId} (hx : ev E x = some (.func (.func f) #[] caps.toArray)) (hdst : dst = none) (hw : wt l0 E g = some true)
  (k : RT B P { n with dl := { target := .fn (.func f) caps.toArray, args := #[] } :: n.dl } true l0 rest E H Q) : RT B P n true l0 (⟨dst, .defer { callee := .value x, args := #[], argTypes := ats }, ty, pos, af, g⟩ :: rest) E H Q :=
 fun a w hA hS => by
  have := wt_wanted hA (o := ⟨dst, .defer { callee := .value x, args := #[], argTypes := ats }, ty, pos, af, g⟩) hw
  refine wpN_step fun K hK => ?_
  rw [if_pos this]
  have hex : (execOp a.eval (⟨dst, .defer { callee := .value x, args := #[], argTypes := ats }, ty, pos, af, g⟩ : Oper)).run P w = .ok (.defer { target := .fn (.func f) caps.toArray, args := #[] }) w := by
   unfold execOp
   simp only [resolve, hA.ev hx, Deferred.ofValue, Sem.run_bind, Sem.run_pure, Result.andThen_ok, List.map_toArray, List.map_nil]
   rfl
  unfold Oper.wp
  rw [hex]
  simp only [Oper.upon, hdst]
  refine hK _ _ (k _ _ ⟨hA.size, ?_, hA.get⟩ hS)
  show _ :: a.defers = _
  rw [hA.defers]
  rfl
end
/-! ### a struct's literal, parts of several cells -/
def buildW (E : Env) (pl : List (Nat × Nat)) : List (Nat × Operand) → List Value → Option (List Value)
 | [], cells => some cells
 | (i, x) :: ps, cells => match pl[i]? with
  | some (off, z) => match ev E x with
   | some v => bif Nat.beq v.cells.size z && Nat.ble (off + z) cells.length then buildW E pl ps (cells.take off ++ v.cells.toList ++ cells.drop (off + z)) else none
   | none => none
  | none => none
section
variable {B : World} {P : Program} {n : Fm} {m : Bool} {l0 rest : List Oper} {E : Env} {H R : List HP} {Q : Exit → Act → World → Prop} {d : Nat} {ty : TypeId} {pos : String} {af : Array Edge} {g : Option (Nat × Bool)} {t : TypeId}
theorem buildW_fill {pl : List (Nat × Nat)} {a : Act} (hA : Agr n E a) :
  ∀ (ps : List (Nat × Operand)) (cells l : List Value), buildW E pl ps cells = some l →
   Instr.fill (fun i => pl[i]?) cells.toArray (ps.map fun (i, x) => (i, a.eval x)) = some l.toArray
 | [], cells, l, h => by cases h; rfl
 | (i, x) :: ps, cells, l, h => by
  simp only [buildW] at h
  split at h
  ·rename_i off z hp
   split at h
   ·rename_i v hv
    cases hb : Nat.beq v.cells.size z && Nat.ble (off + z) cells.length with
    | false => rw [hb] at h; cases h
    | true =>
     rw [hb, cond_true] at h
     rw [Bool.and_eq_true, Nat.beq_eq, Nat.ble_eq] at hb
     obtain ⟨rfl, hle⟩ := hb
     have ih := buildW_fill hA ps _ l h
     simp only [List.map_cons, Instr.fill, hp, hA.ev hv]
     rw [if_neg (by simp; omega)]
     rw [fold_cells _ _ _ (by simpa using hle)]
     simpa using ih
   ·cases h
  ·cases h
theorem RT.buildW (T : Tab P) {parts : List (Nat × Operand)} {pl : List (Nat × Nat)} {cells l : List Value} (hz : al T.zers t = some (.agg cells.toArray)) (hp : al T.plcs t = some pl) (hl : buildW E pl parts cells = some l) (hw : wt l0 E g = some true) (hd : Nat.blt d n = true)
  (k : RT B P n m l0 rest ((d, .agg l.toArray) :: E) H Q) : RT B P n m l0 (⟨some d, .build t parts.toArray, ty, pos, af, g⟩ :: rest) E H Q :=
 RT.y hw (by simpa [Nat.blt_eq] using hd) (y_run fun o a w ho _ hA _ => by
  have hz' := T.zer hz
  have hp' := T.plc hp
  unfold zerB at hz'
  unfold plB at hp'
  cases hi : P.info? t with
  | none => simp [hi] at hz'
  | some it =>
   simp only [hi, Option.bind_some] at hz'
   split at hp'
   ·rename_i fs hu
    have hb : P.built t (parts.map fun (i, x) => (i, a.eval x)) = some l.toArray := by
     unfold Program.built
     simp only [hi, hu, hz', hp', Value.cells]
     have := buildW_fill hA parts cells l hl
     simpa using this
    unfold execOp
    have hr := run_build w t (parts.toArray.map fun (i, x) => (i, a.eval x)) l.toArray (by simpa using hb)
    simp only [ho, Sem.run_bind, hr, Result.andThen_ok, Sem.run_pure]
   ·cases hp') k
end
/-- A function that defers returns such a value. -/
def FinD (B : World) (P : Program) (fn : Func) (R : List HP) (Post : Value → List HP → Prop) : Exit → Act → World → Prop :=
 bodyPostD P fn fun e w' => ∃ v H', e = .returned v ∧ Post v H' ∧ Sat B (H' ++ R) w'
theorem Sp.bodyD {B : World} {P : Program} {f : FuncId} {fn : Func} {c : Code} {n : Nat} {vs : List Value} {R Pre : List HP} {Post : Value → List HP → Prop}
  (hf : P.funcs[f]? = some fn) (hb : fn.body = some c) (hn : fn.ntmps = n) (hl : vs.length ≤ n)
  (h : CT B P (.mk0 n) c (argE 0 vs) (Pre ++ R) (FinD B P fn R Post)) : Sp B P f vs R Pre Post := by
 intro w hS
 refine calls_of_wp_defers hf hb (wpIn_wide.1 (h _ w ⟨?_, rfl, fun t v e => ?_⟩ hS))
 ·simp [hn]; omega
 ·obtain ⟨_, e'⟩ := argE_lk vs 0 t v e
  have : t < vs.length := (List.getElem?_eq_some_iff.1 (by simpa using e')).1
  rw [Array.getElem?_append_left (by simpa using this)]
  simpa using e'
/-- A deferred call, the frame leaving so, then so. -/
def SpD (B : World) (P : Program) (f : FuncId) (vs : List Value) (u u' : FrameMode) (R Pre H' : List HP) : Prop :=
 ∀ w, Sat B (Pre ++ R) w → CallsD P f vs.toArray u w fun e u2 w' => e = .returned (.tuple #[]) ∧ u2 = u' ∧ Sat B (H' ++ R) w'
section
variable {B : World} {P : Program} {E : Env} {H H' Pre R : List HP} {fn : Func} {Post : Value → List HP → Prop} {f : FuncId} {n : Nat} {vs caps : List Value}
theorem leaves_one {u u' : FrameMode} {R2 : List HP} {tmps : Array Value} {w : World} {v : Value} {Hf : List HP} (hu : u ≠ .run) (hs : settle u' = .returning) (hcall : ∀ args, (callFunc f args).run P w = .ok (.enter f args) w) (hq : SpD B P f caps u u' R2 Pre H') (hS : Sat B (Pre ++ R2) w)
  (hres : ∀ w', Sat B (H' ++ R2) w' → (results fn tmps).run P w' = .ok v w') (hp : Post v Hf) (hk : ∀ w', Sat B (H' ++ R2) w' → Sat B (Hf ++ R) w') :
  Leaves P fn tmps (fun e w' => ∃ v H', e = .returned v ∧ Post v H' ∧ Sat B (H' ++ R) w') [{ target := .fn (.func f) caps.toArray, args := #[] }] u w := by
 refine leaves_cons (f := f) (args := caps.toArray) hu (by simp [invoke, go_sem, hcall]) ((hq w hS).mono fun e u2 w' ⟨he, hu2, hS'⟩ => ?_)
 subst he hu2
 simp only [hs]
 exact ⟨v, hres w' hS', v, Hf, rfl, hp, hk w' hS'⟩
theorem AtQ.finD {R2 : List HP} {v : Value} {Hf : List HP} (hcall : ∀ args w, (callFunc f args).run P w = .ok (.enter f args) w) (hq : SpD B P f caps .returning .returning R2 Pre H') (hfr : Fr H Pre R2)
  (hres : ∀ a w, Agr ⟨n, [], none, [{ target := .fn (.func f) caps.toArray, args := #[] }]⟩ E a → Sat B (H' ++ R2) w → (results fn a.tmps).run P w = .ok v w) (hp : Post v Hf) (hk : ∀ w', Sat B (H' ++ R2) w' → Sat B (Hf ++ R) w') {ex : Exit} (hex : ex = .normal ∨ ex = .ret) :
  AtQ B ⟨n, [], none, [{ target := .fn (.func f) caps.toArray, args := #[] }]⟩ E H (FinD B P fn R Post) ex := by
 intro a w hA hS
 have : Leaves P fn a.tmps (fun e w' => ∃ v H', e = .returned v ∧ Post v H' ∧ Sat B (H' ++ R) w') a.defers .returning w := by
  rw [hA.defers]
  exact leaves_one (by intro h; cases h) rfl (fun args => hcall args w) hq (hS.fr hfr) (fun w' hS' => hres a w' hA hS') hp hk
 rcases hex with rfl | rfl <;> exact this
theorem AtQ.finDp {R2 : List HP} {v pv : Value} {Hf : List HP} (hcall : ∀ args w, (callFunc f args).run P w = .ok (.enter f args) w) (hq : SpD B P f caps (.panicking (pan pv)) (.panicking [{ v := pv, recovered := true }]) R2 Pre H') (hfr : Fr H Pre R2)
  (hres : ∀ a w, Agr ⟨n, [], none, [{ target := .fn (.func f) caps.toArray, args := #[] }]⟩ E a → Sat B (H' ++ R2) w → (results fn a.tmps).run P w = .ok v w) (hp : Post v Hf) (hk : ∀ w', Sat B (H' ++ R2) w' → Sat B (Hf ++ R) w') :
  AtQ B ⟨n, [], none, [{ target := .fn (.func f) caps.toArray, args := #[] }]⟩ E H (FinD B P fn R Post) (.panic (pan pv)) := by
 intro a w hA hS
 show Leaves P fn a.tmps (fun e w' => ∃ v H', e = .returned v ∧ Post v H' ∧ Sat B (H' ++ R) w') a.defers (.panicking (pan pv)) w
 rw [hA.defers]
 exact leaves_one (by intro h; cases h) rfl (fun args => hcall args w) hq (hS.fr hfr) (fun w' hS' => hres a w' hA hS') hp hk
/-- What a deferred function leaves. -/
def RecQ (B : World) (R H' : List HP) : Exit → Act → World → Prop := fun ex a w => (ex = .normal ∨ ex = .ret) ∧ a.defers = [] ∧ Sat B (H' ++ R) w
theorem AtQ.rec_ {ex : Exit} (hex : ex = .normal ∨ ex = .ret) (hs : ∀ w, Sat B H w → Sat B (H' ++ R) w) : AtQ B (.mk0 n) E H (RecQ B R H') ex := fun _ w hA hS => ⟨hex, hA.defers, hs w hS⟩
/-- A deferred function that begins by recover. -/
theorem SpD.body {c : Code} {id d : Nat} {ats : Array TypeId} {ty : TypeId} {pos : String} {af : Array Edge} {u u' : FrameMode} {rv : Value} (hf : P.funcs[f]? = some fn)
  (hb : fn.body = some (.seq (.region id #[⟨some d, .call { callee := .builtin .recover, args := #[], argTypes := ats }, ty, pos, af, none⟩] false) c)) (hr : fn.results = #[]) (hn : fn.ntmps = n) (hl : vs.length ≤ n) (hd : d < n)
  (hu : u = .returning ∧ u' = .returning ∧ rv = .nilIface ∨ ∃ pv, u = .panicking (pan pv) ∧ u' = .panicking [{ v := pv, recovered := true }] ∧ rv = pv)
  (h : CT B P (.mk0 n) c ((d, rv) :: argE 0 vs) (Pre ++ R) (RecQ B R H')) : SpD B P f vs u u' R Pre H' := by
 intro w hS
 refine callsD_of_wpS hf hb fun c₀ cs hm => wpS_seq (wpS_region ?_)
 have hA0 : Agr (.mk0 n) (argE 0 vs) { tmps := vs.toArray ++ Array.replicate (fn.ntmps - vs.toArray.size) undef, defers := [] } := by
  refine ⟨?_, rfl, fun t v e => ?_⟩
  ·simp [hn]; omega
  ·obtain ⟨_, e'⟩ := argE_lk vs 0 t v e
   have : t < vs.length := (List.getElem?_eq_some_iff.1 (by simpa using e')).1
   rw [Array.getElem?_append_left (by simpa using this)]
   simpa using e'
 have hrun : ∀ (ρ : Operand → Value), (execOp ρ (⟨some d, .call { callee := .builtin .recover, args := #[], argTypes := ats }, ty, pos, af, none⟩ : Oper)).run P w = .ok .recover w := fun ρ => by
  unfold execOp
  simp [resolve, invoke, builtin, go_sem]
 have key : ∀ (cs' : List Frame), cs' = { c₀ with mode := u' } :: cs → c.wpS P (bodyPostS P fn c₀ cs fun e u2 w' => e = .returned (.tuple #[]) ∧ u2 = u' ∧ Sat B (H' ++ R) w') (Act.put { tmps := vs.toArray ++ Array.replicate (fn.ntmps - vs.toArray.size) undef, defers := [] } (some d) rv) cs' w := by
  intro cs' hcs
  subst hcs
  refine wpS_of_wp (wpIn_wide.1 (wpIn_mono (h _ w (hA0.put hd rv) hS) ?_))
  rintro ex a' w' ⟨hex, hdf, hS'⟩
  rcases hex with rfl | rfl <;> exact ⟨hdf, u', rfl, _, results_none hr _ _ _, rfl, rfl, hS'⟩
 simp only [List.size_toArray, List.length_cons, List.length_nil, Nat.zero_add, show List.range 1 = [0] from rfl, wpOpsS, List.getElem?_toArray, List.getElem?_cons_zero]
 rw [if_pos (by rfl), hrun]
 rcases hu with ⟨rfl, rfl, rfl⟩ | ⟨pv, rfl, rfl, rfl⟩
 ·have hrec : recoverD (c₀ :: cs) = none := by simp [recoverD, hm]
  simp only [hrec]
  refine key _ ?_
  rw [← hm]
 ·have hrec : recoverD (c₀ :: cs) = some (rv, { c₀ with mode := .panicking [{ v := rv, recovered := true }] } :: cs) := by simp [recoverD, hm]
  simp only [hrec]
  exact key _ rfl
end
end Go.Sk
end
section
namespace Go.Sk
open Go.RowKit
section
variable {B : World} {P : Program} {n : Fm} {E : Env} {H : List HP} {Q : Exit → Act → World → Prop} {c : Code}
def LoopM {α : Type} (B : World) (nf : α → Fm) (f : α → Env) (g : α → List HP) (μ : α → Nat) (x : α) (Q : Exit → Act → World → Prop) : Exit → Act → World → Prop :=
 Exit.then (fun a w => ∃ y, Agr (nf y) (f y) a ∧ Sat B (g y) w ∧ μ y < μ x) Q
theorem AtQ.loopM {α : Type} {nf : α → Fm} {f : α → Env} {g : α → List HP} {μ : α → Nat} {x : α} (y : α) (hn : n = nf y) (hE : subB E (f y)) (hH : ∀ w, Sat B H w → Sat B (g y) w) (hμ : μ y < μ x) : AtQ B n E H (LoopM B nf f g μ x Q) .normal :=
 fun _ w hA hS => ⟨y, by rw [← hn]; exact hA.sub hE.sub, hH w hS, hμ⟩
theorem AtQ.loopM_exit {α : Type} {nf : α → Fm} {f : α → Env} {g : α → List HP} {μ : α → Nat} {x : α} {id : Nat} (h : AtQ B n E H Q (.exit id)) : AtQ B n E H (LoopM B nf f g μ x Q) (.exit id) := h
theorem AA {α : Type} {nf : α → Fm} {f : α → Env} {g : α → List HP} {μ : α → Nat} {x : α} {id : Nat} (h : AtQ B n E H Q (.exit id)) : AtQ B n E H (LoopM B nf f g μ x Q) (.exit id) := AtQ.loopM_exit h
instance {α : Type} {nf : α → Fm} {f : α → Env} {g : α → List HP} {μ : α → Nat} {x : α} {id : Nat} : Nx (AtQ B n E H (LoopM B nf f g μ x Q) (.exit id)) (AtQ B n E H Q (.exit id)) := ⟨AA⟩
theorem AtQ.loopM_ret {α : Type} {nf : α → Fm} {f : α → Env} {g : α → List HP} {μ : α → Nat} {x : α} (h : AtQ B n E H Q .ret) : AtQ B n E H (LoopM B nf f g μ x Q) .ret := h
theorem AB {α : Type} {nf : α → Fm} {f : α → Env} {g : α → List HP} {μ : α → Nat} {x : α} (h : AtQ B n E H Q .ret) : AtQ B n E H (LoopM B nf f g μ x Q) .ret := AtQ.loopM_ret h
instance {α : Type} {nf : α → Fm} {f : α → Env} {g : α → List HP} {μ : α → Nat} {x : α} : Nx (AtQ B n E H (LoopM B nf f g μ x Q) .ret) (AtQ B n E H Q .ret) := ⟨AB⟩
def CutM {α : Sort _} (B : World) (nf : α → Fm) (f : α → Env) (g : α → List HP) (Q : Exit → Act → World → Prop) : Exit → Act → World → Prop := Exit.then (fun a w => ∃ x, Agr (nf x) (f x) a ∧ Sat B (g x) w) Q
theorem AtQ.cutM {α : Sort _} {nf : α → Fm} {f : α → Env} {g : α → List HP} (y : α) (hn : n = nf y) (hE : subB E (f y)) (hH : ∀ w, Sat B H w → Sat B (g y) w) : AtQ B n E H (CutM B nf f g Q) .normal :=
 fun _ w hA hS => ⟨y, by rw [← hn]; exact hA.sub hE.sub, hH w hS⟩
theorem AtQ.cutM_exit {α : Sort _} {nf : α → Fm} {f : α → Env} {g : α → List HP} {id : Nat} (h : AtQ B n E H Q (.exit id)) : AtQ B n E H (CutM B nf f g Q) (.exit id) := h
theorem AC {α : Sort _} {nf : α → Fm} {f : α → Env} {g : α → List HP} {id : Nat} (h : AtQ B n E H Q (.exit id)) : AtQ B n E H (CutM B nf f g Q) (.exit id) := AtQ.cutM_exit h
instance {α : Sort _} {nf : α → Fm} {f : α → Env} {g : α → List HP} {id : Nat} : Nx (AtQ B n E H (CutM B nf f g Q) (.exit id)) (AtQ B n E H Q (.exit id)) := ⟨AC⟩
theorem AtQ.cutM_ret {α : Sort _} {nf : α → Fm} {f : α → Env} {g : α → List HP} (h : AtQ B n E H Q .ret) : AtQ B n E H (CutM B nf f g Q) .ret := h
theorem AD {α : Sort _} {nf : α → Fm} {f : α → Env} {g : α → List HP} (h : AtQ B n E H Q .ret) : AtQ B n E H (CutM B nf f g Q) .ret := AtQ.cutM_ret h
instance {α : Sort _} {nf : α → Fm} {f : α → Env} {g : α → List HP} : Nx (AtQ B n E H (CutM B nf f g Q) .ret) (AtQ B n E H Q .ret) := ⟨AD⟩
theorem CT.loopM {α : Type} (nf : α → Fm) (f : α → Env) (g : α → List HP) (μ : α → Nat) (x0 : α) (hn : n = nf x0) (hro : ∀ x, (nf x).ro = n.ro) (hE : subB E (f x0)) (hH : ∀ w, Sat B H w → Sat B (g x0) w)
  (round : ∀ x, CT B P (nf x) c (f x) (g x) (LoopM B nf f g μ x Q)) : CT B P n (.loop c) E H Q := by
 classical
 intro a w hA hS
 let S : Act → World → Nat → Prop := fun a w k => ∃ x, Agr (nf x) (f x) a ∧ Sat B (g x) w ∧ μ x = k
 let I : Act → World → Prop := fun a w => ∃ k, S a w k
 let M : Act → World → Nat := fun a w => if h : ∃ k, S a w k then Classical.choose (least_ h) else 0
 refine wpIn_loop I M ⟨_, x0, by rw [← hn]; exact hA.sub hE.sub, hH w hS, rfl⟩ ?_
 intro a w hI
 have hM : M a w = Classical.choose (least_ hI) := by simp only [M]; rw [dif_pos hI]
 obtain ⟨x, hx, hs, hk⟩ := (Classical.choose_spec (least_ hI)).1
 have hr := round x a w hx hs
 rw [Fm.fence_eq (hro x)] at hr
 refine wpIn_mono hr ?_
 intro e a' w' hq
 cases e <;> try exact hq
 obtain ⟨y, hy, hs', hlt⟩ := hq
 have hI' : ∃ k, S a' w' k := ⟨_, y, hy, hs', rfl⟩
 refine ⟨hI', ?_⟩
 have h1 : M a' w' = Classical.choose (least_ hI') := by simp only [M]; rw [dif_pos hI']
 have h2 : Classical.choose (least_ hI') ≤ μ y := (Classical.choose_spec (least_ hI')).2 _ ⟨y, hy, hs', rfl⟩
 omega
/-- The ways through c meet again in the states x, with marks of their own. -/
theorem CT.cutM {α : Sort _} (nf : α → Fm) (f : α → Env) (g : α → List HP) (hc : CT B P n c E H (CutM B nf f g Q)) (hk : ∀ x, AtQ B (nf x) (f x) (g x) Q .normal) : CT B P n c E H Q := by
 intro a w hA hS
 refine wpIn_mono (hc a w hA hS) ?_
 intro e a' w' hq
 cases e <;> try exact hq
 obtain ⟨x, hx, hs⟩ := hq
 exact hk x a' w' hx hs
end
section
variable {B : World} {P : Program} {n : Fm} {m : Bool} {l0 rest : List Oper} {E : Env} {H R : List HP} {Q : Exit → Act → World → Prop} (T : Tab P) {d : Nat} {ty t t' : TypeId} {pos : String} {af : Array Edge} {g : Option (Nat × Bool)} {x y : Operand}
theorem RT.mkF {fn : Fn} {xs : List Operand} {vs : List Value} (hv : evs E xs = some vs) (hw : wt l0 E g = some true) (hd : Nat.blt d n.n = true)
  (k : RT B P n m l0 rest ((d, .func fn #[] vs.toArray) :: E) H Q) : RT B P n m l0 (⟨some d, .makeFunc fn #[] xs.toArray, ty, pos, af, g⟩ :: rest) E H Q := by
 have hy2 : Yld B P n E H (.makeFunc fn #[] xs.toArray) ty (.func fn #[] vs.toArray) := y_run fun o aa w ho _ hA _ => by
  have hm : xs.map aa.eval = vs := hA.evs hv
  unfold execOp
  simp only [ho, Instr.makeFunc, List.map_toArray, hm, Sem.run_bind, Sem.run_pure, Result.andThen_ok]
  rfl
 exact RT.y hw (by simpa [Nat.blt_eq] using hd) hy2 k
theorem knd_func {t : Nat} (h : knd P t = some 5) : ∃ ps rs v, P.underlying t = some (.func ps rs v) := by
 unfold knd at h
 split at h
 ·split at h <;> simp at h
 all_goals first | (rename_i a b c hu; exact ⟨a, b, c, hu⟩) | (simp at h; done) | cases h
theorem run_fnil {w : World} {t : TypeId} {ps rs : Array TypeId} {v : Bool} (hu : P.underlying t = some (.func ps rs v)) (f : Fn) (a b : Array Value) : (Op.equal t (.func f a b) .nilFunc).run P w = .ok false w :=
 run_eqv fun d => by simp only [Op.equalIn, Sem.run_bind, run_underlying hu, Result.andThen_ok]; rfl
theorem RT.fnil {f : Fn} {a b : Array Value} (hx : ev E x = some (.func f a b)) (hy : ev E y = some .nilFunc) (ht : al T.kinds t = some 5) (hw : wt l0 E g = some true) (hd : Nat.blt d n.n = true)
  (k1 : RT B P n m l0 rest ((d, .bool false) :: E) H Q) : RT B P n m l0 (⟨some d, .binOp .eql t x y t', ty, pos, af, g⟩ :: rest) E H Q := by
 have hy2 : Yld B P n E H (.binOp .eql t x y t') ty (.bool false) := y_run fun o aa w ho _ hA _ => by
  obtain ⟨ps, rs, v, hu⟩ := knd_func (T.kind ht)
  have h1 : binOp .eql t (.func f a b) .nilFunc = (do pure (.bool (← Op.equal t (.func f a b) .nilFunc))) := rfl
  have h2 : eqGuard .eql t x y (.func f a b) .nilFunc = pure () := rfl
  unfold execOp
  simp only [ho, hA.ev hx, hA.ev hy, h1, h2, Sem.run_bind, Sem.run_pure, Result.andThen_ok, run_fnil hu]
 exact RT.y hw (by simpa [Nat.blt_eq] using hd) hy2 k1
end
end Go.Sk
end
section
namespace Go.Sk
open Go.RowKit
section
variable {B : World} {P : Program} {n : Fm} {m : Bool} {l0 rest : List Oper} {E : Env} {H : List HP} {Q : Exit → Act → World → Prop} {d : Nat} {ty : TypeId} {pos : String} {af : Array Edge} {g : Option (Nat × Bool)} {x y : Operand}
theorem run_inil {w : World} {t : TypeId} {v : Value} {b : Bool} (hu : ∃ ms, P.underlying t = some (.interface ms)) (hv : v = .nilIface ∧ b = true ∨ ∃ u z, v = .iface u z ∧ b = false) : (Op.equal t v .nilIface).run P w = .ok b w :=
 run_eqv fun d => by
  obtain ⟨ms, hu⟩ := hu
  rcases hv with ⟨rfl, rfl⟩ | ⟨u, z, rfl, rfl⟩ <;> (simp only [Op.equalIn, Sem.run_bind, run_underlying hu, Result.andThen_ok]; rfl)
theorem RT.inil {t t' : TypeId} {v : Value} {b : Bool} (hx : ev E x = some v) (hu : ∃ ms, P.underlying t = some (.interface ms)) (hv : v = .nilIface ∧ b = true ∨ ∃ u z, v = .iface u z ∧ b = false) (hw : wt l0 E g = some true) (hd : Nat.blt d n = true)
  (k : RT B P n m l0 rest ((d, .bool b) :: E) H Q) : RT B P n m l0 (⟨some d, (.binOp .eql t x (.const .nilIface) t'), ty, pos, af, g⟩ :: rest) E H Q :=
 RT.y hw (by simpa [Nat.blt_eq] using hd) (y_run fun o a w ho _ hA _ => by
  have hr := run_inil (P := P) (w := w) hu hv
  have h1 : binOp .eql t v .nilIface = (do pure (.bool (← Op.equal t v .nilIface))) := by rcases hv with ⟨rfl, rfl⟩ | ⟨u, z, rfl, rfl⟩ <;> rfl
  have h2 : (eqGuard .eql t x (.const .nilIface) v .nilIface).run P w = .ok () w := by
   rcases hv with ⟨rfl, rfl⟩ | ⟨u, z, rfl, rfl⟩ <;> cases x <;> simp [eqGuard, Sem.run_pure]
  unfold execOp
  simp only [ho, hA.ev hx, hA.ev (show ev E (.const .nilIface) = some .nilIface from rfl), h1, h2, Sem.run_bind, Sem.run_pure, Result.andThen_ok, hr]) k
theorem RT.tassert {xt t : TypeId} {v : Value} {td : TypeDesc} (hx : ev E x = some (.iface t v)) (ht : P.underlying t = some td) (hi : ∀ b, td ≠ .interface b) (hw : wt l0 E g = some true) (hd : Nat.blt d n = true)
  (k : RT B P n m l0 rest ((d, .tuple #[v, .bool true]) :: E) H Q) : RT B P n m l0 (⟨some d, .typeAssert x xt t true, ty, pos, af, g⟩ :: rest) E H Q :=
 RT.y hw (by simpa [Nat.blt_eq] using hd) (y_run fun o a w ho _ hA _ => by
  unfold execOp
  simp only [ho, hA.ev hx, Instr.typeAssert, Sem.run_bind, run_underlying ht, Result.andThen_ok]
  cases td <;> first | exact absurd rfl (hi _) | simp) k
/-- A struct's comparison with one that is alike. -/
theorem RT.eqS {t t' : TypeId} {xs : List Value} (hx : ev E x = some (.agg xs.toArray)) (hy : ev E y = some (.agg xs.toArray)) (hs : sameS P t xs = true) (hw : wt l0 E g = some true) (hd : Nat.blt d n = true)
  (k1 : RT B P n m l0 rest ((d, .bool true) :: E) H Q) : RT B P n m l0 (⟨some d, .binOp .eql t x y t', ty, pos, af, g⟩ :: rest) E H Q := by
 have hy2 : Yld B P n E H (.binOp .eql t x y t') ty (.bool true) := y_run fun o aa w ho _ hA _ => by
  unfold sameS at hs
  split at hs
  ·rename_i fs hu
   rw [Bool.and_eq_true, Bool.and_eq_true] at hs
   obtain ⟨⟨h1, h2⟩, h3⟩ := hs
   have hf : P.fieldsOf t = fs := by unfold Program.fieldsOf; rw [hu]
   have e1 := run_eqGuard_agg (P := P) w .eql t x y xs.toArray xs.toArray (by simpa using h2)
   have e2 : (Op.equalIn 10000 t (.agg xs.toArray) (.agg xs.toArray)).run P w = .ok true w := by
    rw [show (10000 : Nat) = 9998 + 1 + 1 from rfl, run_equalIn_struct w (9998 + 1) t _ _ (by rw [hf]; exact hu) (by simpa using h1), hf]
    exact eqFields_same h3
   unfold execOp
   simp only [ho, hA.ev hx, hA.ev hy, e1, Sem.run_bind, Result.andThen_ok, run_eql_struct, e2]
   rfl
  ·cases hs
 exact RT.y hw (by simpa [Nat.blt_eq] using hd) hy2 k1
end
end Go.Sk
end
section
namespace Go.Sk
open Go.RowKit
def ltL : List Int → List Int → Bool
 | _, [] => false
 | [], _ :: _ => true
 | a :: x, b :: y => decide (a < b) || (decide (a = b) && ltL x y)
theorem less_lt : ∀ {l l' : List Int}, Byt l → Byt l' → Op.bytesLess (l.map b8) (l'.map b8) = ltL l l'
 | [], [], _, _ => rfl
 | [], _ :: _, _, _ => rfl
 | _ :: _, [], _, _ => rfl
 | a :: x, b :: y, h, h' => by
  have ha := h a List.mem_cons_self
  have hb := h' b List.mem_cons_self
  have ih := less_lt (l := x) (l' := y) (fun z hz => h z (List.mem_cons_of_mem _ hz)) (fun z hz => h' z (List.mem_cons_of_mem _ hz))
  have e1 : (b8 a < b8 b) ↔ a < b := by
   have h1 := b8_nat ha
   have h2 := b8_nat hb
   rw [UInt8.lt_iff_toNat_lt]
   unfold isB at ha hb
   omega
  have e2 : (b8 a == b8 b) = decide (a = b) := by
   have h1 := b8_nat ha
   have h2 := b8_nat hb
   by_cases hab : a = b
   ·subst hab; simp
   ·rw [decide_eq_false hab]
    refine beq_eq_false_iff_ne.2 fun e => hab ?_
    rw [e] at h1
    unfold isB at ha hb
    omega
  show (decide (b8 a < b8 b) || (b8 a == b8 b && Op.bytesLess (x.map b8) (y.map b8))) = (decide (a < b) || (decide (a = b) && ltL x y))
  rw [ih, e2, decide_eq_decide.2 e1]
section
variable {B : World} {P : Program} {n : Fm} {m : Bool} {l0 rest : List Oper} {E : Env} {H : List HP} {Q : Exit → Act → World → Prop} {d : Nat} {ty t t' : TypeId} {pos : String} {af : Array Edge} {g : Option (Nat × Bool)} {x y : Operand}
theorem RT.lts {l l' : List Int} (hx : ev E x = some (.string (str l))) (hy : ev E y = some (.string (str l'))) (h : Byt l) (h' : Byt l') (hw : wt l0 E g = some true) (hd : Nat.blt d n = true)
  (k : RT B P n m l0 rest ((d, .bool (ltL l l')) :: E) H Q) : RT B P n m l0 (⟨some d, .binOp .lss t x y t', ty, pos, af, g⟩ :: rest) E H Q := by
 have hy2 : Yld B P n E H (.binOp .lss t x y t') ty (.bool (ltL l l')) := y_run fun o aa w ho _ hA _ => by
  unfold execOp
  simp only [ho, hA.ev hx, hA.ev hy, eqGuard, binOp, Op.stringOp, ByteArray.toList_eq, str_list, less_lt h h']
  rfl
 exact RT.y hw (by simpa [Nat.blt_eq] using hd) hy2 k
end
end Go.Sk
end
section
namespace Go.Sk
section
variable {B : World} {P : Program} {n : Fm} {E : Env} {H HR : List HP} {Q : Exit → Act → World → Prop}
theorem DT.any1 {l : List Oper} {e k : Nat} {ls : Array Bool} (i : Nat) {o : Oper} {d : Nat} {v : Value} (ho : l[i]? = some o) (hd : o.dst = some d) (hdn : Nat.blt d n = true) (hg : o.guard = none)
  (hy : ∀ a w, Agr n E a → (execOp a.eval o).run P w = .ok (.value v) w) (hsel : Region.noSelect l.toArray = true)
  (hr : (Region.ready .any l.toArray ls).contains i = true) (hf : Region.free .any l.toArray ls i = true) (hie : Nat.beq i e = false) (hc : Clos l.toArray ls)
  (h : DT B P n l HR e k (ls.setIfInBounds i true) ((d, v) :: E) H Q) (hsf : ∀ w, Sat B H w → Sat B HR w) : DT B P n l HR e (k + 1) ls E H Q := fun a w hA hS => by
 have ho' : l.toArray[i]? = some o := by simpa using ho
 have hne : i ≠ e := fun h0 => by rw [h0, Nat.beq_refl] at hie; cases hie
 have hri : i ∈ Region.ready .any l.toArray ls := by simpa using hr
 refine anyS_first (T := fun _ => True) ho' hsel (fun c a w hq => by cases hq.1) (fun _ _ _ _ _ => trivial) (fun ls' w' hS he => hS (by rw [getD_set_ne false hne]; exact he)) (fun ls' w' hS he => hS (by rw [getD_set_ne false hne] at he; exact he)) k ls a w hc
  (Region.free_spec ho' hf) hri (.inl ⟨by unfold Region.wanted; rw [hg], fun w' _ => hy a w' hA⟩) (fun _ => hsf w hS) ?_
 rw [hd]
 exact h _ w (hA.put (by simpa [Nat.blt_eq] using hdn) v) hS
theorem DT.mv {l : List Oper} {e k : Nat} {ls : Array Bool} (i : Nat) {d : Nat} {x : Operand} {ty : TypeId} {pos : String} {af : Array Edge} {v : Value} (ho : l[i]? = some ⟨some d, .move x, ty, pos, af, none⟩) (hx : ev E x = some v) (hdn : Nat.blt d n = true)
  (hsel : Region.noSelect l.toArray = true) (hr : (Region.ready .any l.toArray ls).contains i = true) (hf : Region.free .any l.toArray ls i = true) (hie : Nat.beq i e = false) (hc : Clos l.toArray ls) (hsf : ∀ w, Sat B H w → Sat B HR w)
  (h : DT B P n l HR e k (ls.setIfInBounds i true) ((d, v) :: E) H Q) : DT B P n l HR e (k + 1) ls E H Q :=
 DT.any1 i ho rfl hdn rfl (fun a w hA => by unfold execOp; simp only [hA.ev hx]; rfl) hsel hr hf hie hc h hsf
theorem DT.add {l : List Oper} {e k : Nat} {ls : Array Bool} (i : Nat) {d : Nat} {x y : Operand} {t t' ty : TypeId} {pos : String} {af : Array Edge} {kk : IntKind} {p q r : Int} (ho : l[i]? = some ⟨some d, .binOp .add t x y t', ty, pos, af, none⟩) (hx : ev E x = some (.int kk p)) (hy : ev E y = some (.int kk q)) (hrr : kk.wrap (p + q) = r) (hdn : Nat.blt d n = true)
  (hsel : Region.noSelect l.toArray = true) (hr : (Region.ready .any l.toArray ls).contains i = true) (hf : Region.free .any l.toArray ls i = true) (hie : Nat.beq i e = false) (hc : Clos l.toArray ls) (hsf : ∀ w, Sat B H w → Sat B HR w)
  (h : DT B P n l HR e k (ls.setIfInBounds i true) ((d, .int kk r) :: E) H Q) : DT B P n l HR e (k + 1) ls E H Q :=
 DT.any1 i ho rfl hdn rfl (fun a w hA => by subst hrr; unfold execOp; simp only [hA.ev hx, hA.ev hy, eqGuard, binOp, ne_eq, not_true, if_false, Op.intArith]; rfl) hsel hr hf hie hc h hsf
theorem DT.sub {l : List Oper} {e k : Nat} {ls : Array Bool} (i : Nat) {d : Nat} {x y : Operand} {t t' ty : TypeId} {pos : String} {af : Array Edge} {kk : IntKind} {p q r : Int} (ho : l[i]? = some ⟨some d, .binOp .sub t x y t', ty, pos, af, none⟩) (hx : ev E x = some (.int kk p)) (hy : ev E y = some (.int kk q)) (hrr : kk.wrap (p - q) = r) (hdn : Nat.blt d n = true)
  (hsel : Region.noSelect l.toArray = true) (hr : (Region.ready .any l.toArray ls).contains i = true) (hf : Region.free .any l.toArray ls i = true) (hie : Nat.beq i e = false) (hc : Clos l.toArray ls) (hsf : ∀ w, Sat B H w → Sat B HR w)
  (h : DT B P n l HR e k (ls.setIfInBounds i true) ((d, .int kk r) :: E) H Q) : DT B P n l HR e (k + 1) ls E H Q :=
 DT.any1 i ho rfl hdn rfl (fun a w hA => by subst hrr; unfold execOp; simp only [hA.ev hx, hA.ev hy, eqGuard, binOp, ne_eq, not_true, if_false, Op.intArith]; rfl) hsel hr hf hie hc h hsf
end
theorem ltL_irr : ∀ x : List Int, ltL x x = false
 | [] => rfl
 | a :: x => by unfold ltL; rw [ltL_irr x]; simp
theorem ltL_asy : ∀ {x y : List Int}, ltL x y = true → ltL y x = false
 | [], [], h => by cases h
 | [], b :: y, _ => rfl
 | a :: x, [], h => by cases h
 | a :: x, b :: y, h => by
  unfold ltL at h ⊢
  simp only [Bool.or_eq_true, Bool.and_eq_true, decide_eq_true_eq] at h
  rcases h with h | ⟨h1, h2⟩
  ·rw [decide_eq_false (by omega), decide_eq_false (by omega)]; rfl
  ·rw [ltL_asy h2, decide_eq_false (by omega)]; simp
theorem ltL_tot : ∀ {x y : List Int}, ltL x y = false → ltL y x = false → x = y
 | [], [], _, _ => rfl
 | [], b :: y, h, _ => by cases h
 | a :: x, [], _, h => by cases h
 | a :: x, b :: y, h, h' => by
  unfold ltL at h h'
  simp only [Bool.or_eq_false_iff, decide_eq_false_iff_not] at h h'
  have hab : a = b := by omega
  subst hab
  simp only [decide_true, Bool.true_and] at h h'
  rw [ltL_tot h.2 h'.2]
theorem ltL_tr : ∀ {x y z : List Int}, ltL x y = true → ltL y z = true → ltL x z = true
 | x, [], z, h, _ => by cases x <;> cases h
 | [], b :: y, [], _, h => by cases h
 | [], b :: y, c :: z, _, _ => rfl
 | a :: x, b :: y, [], _, h => by cases h
 | a :: x, b :: y, c :: z, h, h' => by
  unfold ltL at h h' ⊢
  simp only [Bool.or_eq_true, Bool.and_eq_true, decide_eq_true_eq] at h h' ⊢
  rcases h with h | ⟨h1, h2⟩ <;> rcases h' with h' | ⟨h1', h2'⟩
  ·left; omega
  ·left; omega
  ·left; omega
  ·right; exact ⟨by omega, ltL_tr h2 h2'⟩
section
variable {B : World} {P : Program} {n : Fm} {m : Bool} {l0 rest : List Oper} {E : Env} {H : List HP} {Q : Exit → Act → World → Prop} {d : Nat} {ty t t' : TypeId} {pos : String} {af : Array Edge} {g : Option (Nat × Bool)} {x y : Operand}
theorem RT.gts {l l' : List Int} (hx : ev E x = some (.string (str l))) (hy : ev E y = some (.string (str l'))) (h : Byt l) (h' : Byt l') (hw : wt l0 E g = some true) (hd : Nat.blt d n = true)
  (k : RT B P n m l0 rest ((d, .bool (ltL l' l)) :: E) H Q) : RT B P n m l0 (⟨some d, .binOp .gtr t x y t', ty, pos, af, g⟩ :: rest) E H Q := by
 have hy2 : Yld B P n E H (.binOp .gtr t x y t') ty (.bool (ltL l' l)) := y_run fun o aa w ho _ hA _ => by
  unfold execOp
  simp only [ho, hA.ev hx, hA.ev hy, eqGuard, binOp, Op.stringOp, ByteArray.toList_eq, str_list, less_lt h h', list_beq_iff]
  have e1 : decide (l.map b8 = l'.map b8) = decide (l = l') := decide_eq_decide.2 ⟨map_b8_inj h h', fun e => by rw [e]⟩
  have e2 : (!(ltL l l' || decide (l = l'))) = ltL l' l := by
   cases h1 : ltL l l' with
   | true => rw [ltL_asy h1]; rfl
   | false =>
    by_cases he : l = l'
    ·rw [decide_eq_true he, he, ltL_irr]; rfl
    ·rw [decide_eq_false he]
     cases h2 : ltL l' l with
     | true => rfl
     | false => exact absurd (ltL_tot h1 h2) he
  rw [e1, e2]
  rfl
 exact RT.y hw (by simpa [Nat.blt_eq] using hd) hy2 k
end
end Go.Sk
end
section
namespace Go.Sk
section
variable {B : World} {P : Program} {n : Fm} {m : Bool} {l0 rest : List Oper} {E : Env} {H R : List HP} {Q : Exit → Act → World → Prop} (T : Tab P) {ty t : TypeId} {pos : String} {af : Array Edge} {g : Option (Nat × Bool)} {x : Operand} {d : Nat}
theorem y_ldpart {b off z : Nat} {e : TypeId} {l v : List Value} (ht : al T.szs t = some (z, true)) (hx : ev E x = some (.pointer (some ⟨b, off, none⟩)))
  (hs : Sel H (Cs b e l) R) (hv : (l.drop off).take z = v) (hz : v.length = z) : Yld B P n E H (.load t x) ty (.agg v.toArray) :=
 y_run fun o a w ho _ hA hS => by
  subst hz
  have hc : ∀ j u, v[j]? = some u → w.cell? ((⟨b, off, none⟩ : Addr).add j) = some u := fun j u hj => by
   have : (⟨b, off, none⟩ : Addr).add j = ⟨b, off + j, none⟩ := by unfold Addr.add; split <;> simp_all
   have hi : j < v.length := (List.getElem?_eq_some_iff.1 hj).1
   rw [← hv, List.getElem?_take_of_lt hi, List.getElem?_drop] at hj
   rw [this]; exact (cs_cell (hS.cs hs).1 (off + j)).trans hj
  unfold execOp
  simp only [ho, hA.ev hx, Instr.loadAt, Instr.sureAddr, Sem.run_bind, Sem.run_pure, Result.andThen_ok, loadVar, run_isAggB (T.sz ht).2, run_sizeB (T.sz ht).1, if_true, run_loadCells_list w _ v hc]
theorem RT.ldpart {b off z : Nat} {e : TypeId} {l v : List Value} (hx : ev E x = some (.pointer (some ⟨b, off, none⟩))) (hs : Sel H (Cs b e l) R) (hv : (l.drop off).take z = v) (ht : al T.szs t = some (z, true)) (hz : v.length = z) (hw : wt l0 E g = some true) (hd : Nat.blt d n = true)
  (k : RT B P n m l0 rest ((d, .agg v.toArray) :: E) H Q) : RT B P n m l0 (⟨some d, .load t x, ty, pos, af, g⟩ :: rest) E H Q :=
 RT.y hw (by simpa [Nat.blt_eq] using hd) (y_ldpart T ht hx hs hv hz) k
end
end Go.Sk
end
section
namespace Go.Sk
section
variable {B : World} {P : Program} {n : Fm} {m : Bool} {l0 rest : List Oper} {E : Env} {H : List HP} {Q : Exit → Act → World → Prop} {ty : TypeId} {pos : String} {af : Array Edge} {g : Option (Nat × Bool)} {x : Operand} {d : Nat}
theorem RT.fieldv {st f : Nat} {fs : Array Field} {fi : Field} {l : List Value} {v : Value} (hx : ev E x = some (.agg l.toArray)) (hfs : P.underlying st = some (.struct fs)) (hfi : fs[f]? = some fi) (ha : isAggB P fi.type = some false) (hv : l[fi.offset]? = some v) (hw : wt l0 E g = some true) (hd : Nat.blt d n = true)
  (k : RT B P n m l0 rest ((d, v) :: E) H Q) : RT B P n m l0 (⟨some d, .field st x f, ty, pos, af, g⟩ :: rest) E H Q :=
 RT.y hw (by simpa [Nat.blt_eq] using hd) (y_run fun o a w ho _ hA _ => by
  unfold execOp
  simp only [ho, hA.ev hx, Instr.field, Sem.run_bind, run_underlying hfs, Result.andThen_ok, hfi, asAgg, Sem.run_pure, part, run_isAggB ha]
  simp [hv]) k
end
end Go.Sk
end
