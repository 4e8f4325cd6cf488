/- Merged: Sk38, Sk39, Sk40, Sk49, Sk41, Sk42, Sk43, Sk27, Sk29, Sk44, Sk50. -/
import Derived.Test.YtclcnhfponjdaaaGreatDoorSkA
import Derived.OrdersIn
import Derived.MapKept
import Derived.Laws.StructEq
import Derived.Recover
import Derived.StillTail
import Derived.Laws.IdiomStrings
set_option linter.unusedVariables false
set_option linter.unusedSimpArgs false
section
namespace Go.Sk
open Go.RowKit
section
variable {B : World} {P : Program} {n : Fm} {E : Env} {H : List HP} {Q : Exit → Act → World → Prop}
end
end Go.Sk
end
section
namespace Go.Sk
open Go.RowKit
/-- The chain of a panic that nobody has recovered. -/
abbrev pan (v : Value) : List PanicEntry := [{ v, recovered := false }]
/-- A function's contract: it returns such a value, or panics with such a one. -/
def SpP (B : World) (P : Program) (f : FuncId) (vs : List Value) (R Pre : List HP) (Post PP : Value → List HP → Prop) : Prop :=
 ∀ w, Sat B (Pre ++ R) w → Calls P f vs.toArray w fun e w' => (∃ v H', e = .returned v ∧ Post v H' ∧ Sat B (H' ++ R) w') ∨ ∃ v H', e = .panicked (pan v) ∧ PP v H' ∧ Sat B (H' ++ R) w'
def FinP (B : World) (P : Program) (fn : Func) (R : List HP) (Post PP : Value → List HP → Prop) : Exit → Act → World → Prop :=
 bodyPost P fn fun e w' => (∃ v H', e = .returned v ∧ Post v H' ∧ Sat B (H' ++ R) w') ∨ ∃ v H', e = .panicked (pan v) ∧ PP v H' ∧ Sat B (H' ++ R) w'
theorem SpP.body {B : World} {P : Program} {f : FuncId} {fn : Func} {c : Code} {n : Nat} {vs : List Value} {R Pre : List HP} {Post PP : Value → List HP → Prop}
  (hf : P.funcs[f]? = some fn) (hb : fn.body = some c) (hn : fn.ntmps = n) (hl : vs.length ≤ n)
  (h : CT B P (.mk0 n) c (argE 0 vs) (Pre ++ R) (FinP B P fn R Post PP)) : SpP B P f vs R Pre Post PP := by
 intro w hS
 refine calls_of_wp hf hb (wpIn_wide.1 (h _ w ⟨?_, rfl, fun t v e => ?_⟩ hS))
 ·simp [hn]; omega
 ·obtain ⟨_, e'⟩ := argE_lk vs 0 t v e
  have : t < vs.length := (List.getElem?_eq_some_iff.1 (by simpa using e')).1
  rw [Array.getElem?_append_left (by simpa using this)]
  simpa using e'
section
variable {B : World} {P : Program} {n : Nat} {E : Env} {H R : List HP} {fn : Func} {Post PP : Value → List HP → Prop}
theorem AtQ.ofFinN (h : AtQ B (.mk0 n) E H (FinQ B P fn R Post) .normal) : AtQ B (.mk0 n) E H (FinP B P fn R Post PP) .normal := fun a w hA hS => by
 obtain ⟨h1, v, h2, h3⟩ := h a w hA hS
 exact ⟨h1, v, h2, .inl h3⟩
theorem AtQ.finP {v : Value} {H' : List HP} (hp : PP v H') (hs : ∀ w, Sat B H w → Sat B (H' ++ R) w) : AtQ B (.mk0 n) E H (FinP B P fn R Post PP) (.panic (pan v)) :=
 fun _ w hA hS => ⟨hA.defers, .inr ⟨v, H', rfl, hp, hs w hS⟩⟩
end
section
variable {B : World} {P : Program} {n n' : Fm} {E : Env} {H : List HP} {Q : Exit → Act → World → Prop} {c : Code} {id : Nat} {ch : List PanicEntry}
theorem AtQ.then_pan (h : AtQ B n' E H Q (.panic ch)) : AtQ B n' E H (Then n P c Q) (.panic ch) := h
theorem AtQ.block_pan (h : AtQ B n E H Q (.panic ch)) : AtQ B n E H (Exit.inBlock id Q) (.panic ch) := h
theorem AtQ.loop_pan {α : Type} {f : α → Env} {g : α → List HP} {μ : α → Nat} {z : α} (h : AtQ B n' E H Q (.panic ch)) : AtQ B n' E H (LoopQ B n f g μ z Q) (.panic ch) := h
theorem AtQ.cut_pan {α : Sort _} {f : α → Env} {g : α → List HP} (h : AtQ B n' E H Q (.panic ch)) : AtQ B n' E H (CutQ B n f g Q) (.panic ch) := h
instance : Nx (AtQ B n' E H (Then n P c Q) (.panic ch)) (AtQ B n' E H Q (.panic ch)) := ⟨AtQ.then_pan⟩
instance : Nx (AtQ B n E H (Exit.inBlock id Q) (.panic ch)) (AtQ B n E H Q (.panic ch)) := ⟨AtQ.block_pan⟩
instance {α : Type} {f : α → Env} {g : α → List HP} {μ : α → Nat} {z : α} : Nx (AtQ B n' E H (LoopQ B n f g μ z Q) (.panic ch)) (AtQ B n' E H Q (.panic ch)) := ⟨AtQ.loop_pan⟩
instance {α : Sort _} {f : α → Env} {g : α → List HP} : Nx (AtQ B n' E H (CutQ B n f g Q) (.panic ch)) (AtQ B n' E H Q (.panic ch)) := ⟨AtQ.cut_pan⟩
end
section
variable {B : World} {P : Program} {n : Fm} {E : Env} {H R : List HP} {ty : TypeId}
/-- A call of a function that may panic. -/
theorem x_callP (T : Tab P) {l0 rest : List Oper} {Q : Exit → Act → World → Prop} {d : Nat} {pos : String} {af : Array Edge} {g : Option (Nat × Bool)} {f : FuncId} {bb : Bool} {xs : List Operand} {vs : List Value} {ats : Array TypeId} {Pre : List HP} {Post PP : Value → List HP → Prop}
  (hw : wt l0 E g = some true) (hd : d < n.n) (hf : al T.funs f = some bb) (hv : evs E xs = some vs) (hq : SpP B P f vs R Pre Post PP) (hfr : Fr H Pre R)
  (kp : ∀ v H', PP v H' → AtQ B n E (H' ++ R) Q (.panic (pan v)))
  (k : ∀ v H', Post v H' → RT B P n true l0 rest ((d, v) :: E) (H' ++ R) Q) : RT B P n true l0 (⟨some d, .call { callee := .value (.func f), args := xs.toArray, argTypes := ats }, ty, pos, af, g⟩ :: rest) E H Q :=
 RT.eff hw fun o aa w K ho _ hdd hA hS hK => by
  unfold Oper.wp
  rw [exec_call T hf ho hA hv]
  simp only [Oper.upon, hdd]
  refine (hq w (hS.fr hfr)).mono fun e w' h => ?_
  rcases h with ⟨v, H', he, hp, hS'⟩ | ⟨v, H', he, hp, hS'⟩
  ·subst he
   exact hK _ _ (k v H' hp _ _ (hA.put hd _) hS')
  ·subst he
   exact kp v H' hp _ _ hA hS'
theorem RT.callP (T : Tab P) {l0 rest : List Oper} {Q : Exit → Act → World → Prop} {d : Nat} {pos : String} {af : Array Edge} {g : Option (Nat × Bool)} {f : FuncId} {bb : Bool} {xs : List Operand} {vs : List Value} {ats : Array TypeId} {Pre : List HP} {Post PP : Value → List HP → Prop}
  (qv : evs E xs = some vs) (qfr : Fr H Pre R) (qq : SpP B P f vs R Pre Post PP) (qf : al T.funs f = some bb) (qw : wt l0 E g = some true) (qd : Nat.blt d n.n = true)
  (kp : ∀ v H', PP v H' → AtQ B n E (H' ++ R) Q (.panic (pan v)))
  (qk : ∀ v H', Post v H' → RT B P n true l0 rest ((d, v) :: E) (H' ++ R) Q) : RT B P n true l0 (⟨some d, .call { callee := .value (.func f), args := xs.toArray, argTypes := ats }, ty, pos, af, g⟩ :: rest) E H Q :=
 x_callP T qw (by simpa [Nat.blt_eq] using qd) qf qv qq qfr kp qk
end
end Go.Sk
end
section
namespace Go.Sk
open Go.RowKit
/-- A map in block b: its entries, as they were made; the keys are of kind d. -/
def Mp (d : TypeDesc) (b : Nat) (l : List (Value × Value)) : HP := fun h => ∃ es ck, h b = some (.map es ck) ∧ es.toList.map (fun e => (e.key, e.val)) = l ∧ MapKept.Stamped es ck ∧ ∀ x ∈ es.toList, MapKept.IsKey d x.key
/-- What stands under a key. -/
def MGet (l : List (Value × Value)) (k : Value) : Option Value → Prop
 | none => ∀ x ∈ l, x.1 ≠ k
 | some v => ∃ i : Nat, l[i]? = some (k, v)
theorem keys_inj {es : List MapEntry} (hn : (es.map (·.key)).Nodup) {i j : Nat} {e e' : MapEntry} (hi : es[i]? = some e) (hj : es[j]? = some e') (h : e.key = e'.key) : i = j := by
 have h1 : (es.map (·.key))[i]? = some e.key := by rw [List.getElem?_map, hi]; rfl
 have h2 : (es.map (·.key))[j]? = some e.key := by rw [List.getElem?_map, hj, h]; rfl
 obtain ⟨l1, e1⟩ := List.getElem?_eq_some_iff.1 h1
 obtain ⟨l2, e2⟩ := List.getElem?_eq_some_iff.1 h2
 exact (List.getElem_inj hn).1 (e1.trans e2.symm)
theorem findNow_get {d : TypeDesc} {k : Value} {es : Array MapEntry} {ck : Nat} (hk : MapKept.IsKey d k) (hs : MapKept.Stamped es ck) (hks : ∀ x ∈ es.toList, MapKept.IsKey d x.key) {r : Option Value} (hg : MGet (es.toList.map fun e => (e.key, e.val)) k r) :
  (r = none ∧ Instr.findNow d k es.toList 0 = some none) ∨ ∃ (j : Nat) (e : MapEntry), r = some e.val ∧ Instr.findNow d k es.toList 0 = some (some (j, e.val)) ∧ es.toList[j]? = some e ∧ e.key = k := by
 rcases MapKept.findNow_spec hk es.toList 0 hks with ⟨h1, h2⟩ | ⟨j, e, h1, h2, h3⟩
 ·cases r with
  | none => exact .inl ⟨rfl, h1⟩
  | some v =>
   obtain ⟨i, hi⟩ := hg
   rw [List.getElem?_map] at hi
   obtain ⟨e, he, he2⟩ := Option.map_eq_some_iff.1 hi
   cases he2
   exact absurd rfl (h2 e (List.mem_of_getElem? he))
 ·rw [Nat.zero_add] at h1
  cases r with
  | none => exact absurd h3 (hg (e.key, e.val) (List.mem_map.2 ⟨e, List.mem_of_getElem? h2, rfl⟩))
  | some v =>
   obtain ⟨i, hi⟩ := hg
   rw [List.getElem?_map] at hi
   obtain ⟨e', he, he2⟩ := Option.map_eq_some_iff.1 hi
   simp only [Prod.mk.injEq] at he2
   obtain ⟨e1, rfl⟩ := he2
   have := keys_inj hs.2.2 he h2 (by rw [e1, h3])
   subst this
   rw [he] at h2
   cases h2
   exact .inr ⟨i, _, rfl, h1, he, h3⟩
section
variable {B : World} {P : Program} {n : Fm} {l0 rest : List Oper} {E : Env} {H R : List HP} {Q : Exit → Act → World → Prop} {d : Nat} {ty : TypeId} {pos : String} {af : Array Edge} {g : Option (Nat × Bool)} {x y z : Operand} {m : Bool}
theorem Sat.mp {dk : TypeDesc} {b : Nat} {l : List (Value × Value)} {w : World} (hS : Sat B H w) (s : Sel H (Mp dk b l) R) : ∃ es ck, w.heap[b]? = some (.map es ck) ∧ es.toList.map (fun e => (e.key, e.val)) = l ∧ MapKept.Stamped es ck ∧ ∀ x ∈ es.toList, MapKept.IsKey dk x.key := by
 obtain ⟨h, a, h1, h2, dj, l1, l2, ⟨es, ck, hb, q⟩, hr⟩ := (hS.sel s).heap
 exact ⟨es, ck, (a b _ (l1 b _ hb)).1, q⟩
theorem RT.lookup {t kt et : TypeId} {dk : TypeDesc} {b : Nat} {l : List (Value × Value)} {kv zv : Value} {r : Option Value} (T : Tab P) (hx : ev E x = some (.map (some b))) (hy : ev E y = some kv) (s : Sel H (Mp dk b l) R) (hk : MapKept.IsKey dk kv) (hg : MGet l kv r)
  (hm : P.underlying t = some (.map kt et)) (hd1 : P.underlying kt = some dk) (hz : al T.zers et = some zv) (hw : wt l0 E g = some true) (hd : Nat.blt d n = true)
  (kt' : RT B P n m l0 rest ((d, r.getD zv) :: E) H Q) : RT B P n m l0 (⟨some d, .lookup t x y false, ty, pos, af, g⟩ :: rest) E H Q :=
 RT.y hw (by simpa [Nat.blt_eq] using hd) (y_run fun o aa w ho _ hA hS => by
  obtain ⟨es, ck, hb, rfl, hst, hks⟩ := hS.mp s
  have hgo := MapKept.run_getObj_map (P := P) hb
  have hck := MapKept.run_checkKey (P := P) (w := w) hd1 hk es.isEmpty 9999
  unfold execOp
  rcases findNow_get hk hst hks hg with ⟨rfl, f1⟩ | ⟨j, e, rfl, f1, f2, f3⟩
  ·have hfk := MapKept.run_findKey (P := P) (w := w) (kt := kt) hd1 f1
   have hzz : (zeroValue et).run P w = .ok zv w := zerB_spec (T.zer hz)
   simp only [ho, hA.ev hx, hA.ev hy, Instr.lookup, Sem.run_bind, run_underlying hm, Result.andThen_ok, Sem.run_pure, hgo, hck, hfk, hzz]
   rfl
  ·have hfk := MapKept.run_findKey (P := P) (w := w) (kt := kt) hd1 f1
   simp only [ho, hA.ev hx, hA.ev hy, Instr.lookup, Sem.run_bind, run_underlying hm, Result.andThen_ok, Sem.run_pure, hgo, hck, hfk]
   rfl) kt'
/-- A call of a function value that holds something. -/
theorem RT.callC (T : Tab P) {f : FuncId} {bb : Bool} {xs : List Operand} {vs : List Value} {caps : List Value} {ats : Array TypeId} {Pre : List HP} {Post : Value → List HP → Prop}
  (qx : ev E x = some (.func (.func f) #[] caps.toArray)) (qv : evs E xs = some vs) (qfr : Fr H Pre R) (qq : Sp B P f (vs ++ caps) R Pre Post) (qf : al T.funs f = some bb) (qw : wt l0 E g = some true) (qd : Nat.blt d n = true)
  (qk : ∀ v H', Post v H' → RT B P n true l0 rest ((d, v) :: E) (H' ++ R) Q) : RT B P n true l0 (⟨some d, .call { callee := .value x, args := xs.toArray, argTypes := ats }, ty, pos, af, g⟩ :: rest) E H Q :=
 RT.eff qw fun o aa w K ho _ hdd hA hS hK => by
  have hrun : (execOp aa.eval o).run P w = .ok (.enter f (vs ++ caps).toArray) w := by
   unfold execOp
   have hm : xs.map aa.eval = vs := hA.evs qv
   simp only [ho, resolve, Sem.run_bind, List.map_toArray, hm, hA.ev qx, Deferred.ofValue, Sem.run_pure, Result.andThen_ok, invoke]
   simpa using run_call (T := T) qf
  unfold Oper.wp
  rw [hrun]
  simp only [Oper.upon, hdd]
  refine (qq w (hS.fr qfr)).mono fun e w' ⟨v, H', he, hp, hS'⟩ => ?_
  subst he
  exact hK _ _ (qk v H' hp _ _ (hA.put (by simpa [Nat.blt_eq] using qd) _) hS')
end
end Go.Sk
end
section
namespace Go.Sk
open Go.RowKit
section
variable {B : World} {P : Program} {n : Fm} {m : Bool} {l0 rest : List Oper} {E : Env} {H R : List HP} {Q : Exit → Act → World → Prop} {d : Nat} {ty t : TypeId} {pos : String} {af : Array Edge} {g : Option (Nat × Bool)} {x : Operand}
theorem Cs.rd {b : Nat} {e : TypeId} {l : List Value} (hs : Sel H (Cs b e l) R) : Rd B H (some ⟨b, 0, none⟩) 1 1 l.length l :=
 ⟨(Nat.one_mul _).symm, Nat.le_refl _, fun w hS => ⟨fun _ => rfl, fun j u hj => by
  rw [adr, Option.getD_some, addr_add, cs_cell (hS.cs hs).1]
  exact hj⟩⟩
/-- A cell of a block that is only read. -/
theorem RT.ldB (T : Tab P) {b off k c z : Nat} {xs : List Value} {u : Value} (hx : ev E x = some (.pointer (some ⟨b, off, none⟩))) (hr : Rd B H (some ⟨b, 0, none⟩) k c z xs) (hu : xs[off]? = some u) (ht : al T.szs t = some (1, false)) (hw : wt l0 E g = some true) (hd : Nat.blt d n = true)
  (kt : RT B P n m l0 rest ((d, u) :: E) H Q) : RT B P n m l0 (⟨some d, .load t x, ty, pos, af, g⟩ :: rest) E H Q :=
 RT.y hw (by simpa [Nat.blt_eq] using hd) (y_ldr T ht (a := some ⟨b, 0, none⟩) (j := off) (by rw [adr, Option.getD_some, addr_add]; exact hx) hr hu) kt
/-- A struct that can be read at an address. -/
def StAt (B : World) (H : List HP) (ad : Addr) (l : List Value) : Prop := ∃ a k c z xs j, Rd B H a k c z xs ∧ ad = (adr a).add j ∧ ∀ i u, l[i]? = some u → xs[j + i]? = some u
theorem StAt.cons {p : HP} {ad : Addr} {l : List Value} (h : StAt B H ad l) : StAt B (p :: H) ad l := by
 obtain ⟨a, k, c, z, xs, j, h1, h2, h3⟩ := h
 exact ⟨a, k, c, z, xs, j, h1.cons, h2, h3⟩
theorem StAt.under {ad : Addr} {l : List Value} (h : StAt B H ad l) : ∀ H', StAt B (H' ++ H) ad l
 | [] => h
 | _ :: H' => (StAt.under h H').cons
theorem StAt.row {a : Option Addr} {k c z : Nat} {xs l : List Value} {j : Nat} (h : Rd B H a k c z xs) (hl : (xs.drop j).take l.length = l) : StAt B H ((adr a).add j) l :=
 ⟨a, k, c, z, xs, j, h, rfl, fun i u hi => by
  rw [← hl, List.getElem?_take] at hi
  split at hi
  ·simpa using hi
  ·cases hi⟩
theorem StAt.cs {b : Nat} {l : List Value} {k c z : Nat} (h : Rd B H (some ⟨b, 0, none⟩) k c z l) : StAt B H ⟨b, 0, none⟩ l :=
 ⟨_, _, _, _, l, 0, h, by rw [adr, Option.getD_some, addr_add], fun i u hi => by rw [Nat.zero_add]; exact hi⟩
theorem RT.ldS (T : Tab P) {ad : Addr} {off : Nat} {l : List Value} {u : Value} (hx : ev E x = some (.pointer (some (ad.add off)))) (hs : StAt B H ad l) (hu : l[off]? = some u) (ht : al T.szs t = some (1, false)) (hw : wt l0 E g = some true) (hd : Nat.blt d n = true)
  (kt : RT B P n m l0 rest ((d, u) :: E) H Q) : RT B P n m l0 (⟨some d, .load t x, ty, pos, af, g⟩ :: rest) E H Q := by
 obtain ⟨a, k, c, z, xs, j, h1, rfl, h3⟩ := hs
 rw [addr_addadd] at hx
 exact RT.y hw (by simpa [Nat.blt_eq] using hd) (y_ldr T ht hx h1 (h3 off u hu)) kt
theorem RT.faG (T : Tab P) {f s off z : Nat} {gg : Bool} {ad : Addr} (hx : ev E x = some (.pointer (some ad))) (hf : al2 T.flds s f = some (off, z + 1, gg)) (hw : wt l0 E g = some true) (hd : Nat.blt d n = true)
  (k : RT B P n m l0 rest ((d, .pointer (some (ad.add off))) :: E) H Q) : RT B P n m l0 (⟨some d, .fieldAddr s x f, ty, pos, af, g⟩ :: rest) E H Q :=
 RT.y hw (by simpa [Nat.blt_eq] using hd) (y_run fun o aa w ho _ hA _ => by
  unfold execOp
  simp only [ho, hA.ev hx, Sem.run_bind, run_fa (T.fld hf), Result.andThen_ok]
  rfl) k
/-- A call of a closure that leaves the pieces as they are. -/
theorem RT.qcallC (T : Tab P) {f : FuncId} {bb : Bool} {xs : List Operand} {vs caps : List Value} {ats : Array TypeId} {v : Value} (qx : ev E x = some (.func (.func f) #[] caps.toArray)) (qv : evs E xs = some vs) (qq : QSp B P f (vs ++ caps) H v) (qf : al T.funs f = some bb) (qw : wt l0 E g = some true) (qd : Nat.blt d n = true)
  (qk : RT B P n m l0 rest ((d, v) :: E) H Q) : RT B P n m l0 (⟨some d, .call { callee := .value x, args := xs.toArray, argTypes := ats }, ty, pos, af, g⟩ :: rest) E H Q :=
 RT.y qw (by simpa [Nat.blt_eq] using qd) (fun o aa w ho _ hA hS => by
  have hrun : (execOp aa.eval o).run P w = .ok (.enter f (vs ++ caps).toArray) w := by
   unfold execOp
   have hm : xs.map aa.eval = vs := hA.evs qv
   simp only [ho, resolve, Sem.run_bind, List.map_toArray, hm, hA.ev qx, Deferred.ofValue, Sem.run_pure, Result.andThen_ok, invoke]
   simpa using run_call (T := T) qf
  unfold Oper.quietAt
  rw [hrun]
  exact ⟨rfl, qq w hS⟩) qk
theorem RT.mv1 {v : Value} (hx : ev E x = some v) (hw : wt l0 E g = some true) (hd : Nat.blt d n = true)
  (k : RT B P n m l0 rest ((d, v) :: E) H Q) : RT B P n m l0 (⟨some d, .move x, ty, pos, af, g⟩ :: rest) E H Q := RT.y hw (by simpa [Nat.blt_eq] using hd) (y_move hx) k
theorem RT.nilG {ad : Addr} (hx : ev E x = some (.pointer (some ad))) (hw : wt l0 E g = some true) (hd : Nat.blt d n = true)
  (k : RT B P n m l0 rest ((d, .pointer (some ad)) :: E) H Q) : RT B P n m l0 (⟨some d, .nilCheck x, ty, pos, af, g⟩ :: rest) E H Q :=
 RT.y hw (by simpa [Nat.blt_eq] using hd) (y_nil hx) k
end
end Go.Sk
end
section
namespace Go.Sk
open Go.RowKit
def okF (P : Program) (t : TypeId) (v : Value) : Bool := match P.underlying t, v with
 | some (.int _), .int _ _ => true
 | some .bool, .bool _ => true
 | some .string, .string _ => true
 | _, _ => false
def sameS (P : Program) (t : TypeId) (xs : List Value) : Bool := match P.underlying t with
 | some (.struct fs) => !P.stoodInHeld t && !P.eqGuardType P.depth t && fs.toList.all fun f => match xs[f.offset]? with
  | some v => okF P f.type v
  | none => false
 | _ => false
theorem okF_eq {P : Program} {t : TypeId} {v : Value} (h : okF P t v = true) (w : World) (d : Nat) : (Op.equalIn (d + 1) t v v).run P w = .ok true w := by
 unfold okF at h
 split at h
 ·rename_i k k' n hu
  simp [run_equalIn_int w d t k' k n n hu]
 ·rename_i b hu
  simp [run_equalIn_bool' w d t b b hu]
 ·rename_i s hu
  simp [run_equalIn_string w d t s s hu]
 ·cases h
theorem okF_part {P : Program} {t : TypeId} {v : Value} (h : okF P t v = true) (w : World) {xs : List Value} {i : Nat} (hi : xs[i]? = some v) : (part t xs.toArray i).run P w = .ok v w := by
 have hx : xs.toArray[i]? = some v := by simpa using hi
 unfold okF at h
 split at h
 ·rename_i k k' n hu
  simp [part, isAgg, run_underlying hu, hx]
 ·rename_i b hu
  simp [part, isAgg, run_underlying hu, hx]
 ·rename_i s hu
  simp [part, isAgg, run_underlying hu, hx]
 ·cases h
theorem eqFields_same {P : Program} {w : World} {d : Nat} {xs : List Value} : ∀ {fs : List Field}, (fs.all fun f => match xs[f.offset]? with
  | some v => okF P f.type v
  | none => false) = true → (Op.eqFields (d + 1) xs.toArray xs.toArray fs).run P w = .ok true w
 | [], _ => rfl
 | f :: fs, h => by
  rw [List.all_cons, Bool.and_eq_true] at h
  obtain ⟨h1, h2⟩ := h
  have ih := eqFields_same (w := w) (d := d) h2
  split at h1
  ·rename_i v hv
   have hp := okF_part h1 w hv
   have he := okF_eq h1 w d
   simp only [Op.eqFields]
   split
   ·simp only [Sem.run_bind, hp, Result.andThen_ok, he, Bool.not_true, Bool.false_eq_true, if_false]
    exact ih
   ·exact ih
  ·cases h1
section
variable {B : World} {P : Program} {n : Fm} {m : Bool} {l0 rest : List Oper} {E : Env} {H : List HP} {Q : Exit → Act → World → Prop} {d : Nat} {ty t t' : TypeId} {pos : String} {af : Array Edge} {g : Option (Nat × Bool)} {x y : Operand}
theorem RT.neS {xs : List Value} (hx : ev E x = some (.agg xs.toArray)) (hy : ev E y = some (.agg xs.toArray)) (hs : sameS P t xs = true) (hw : wt l0 E g = some true) (hd : Nat.blt d n = true)
  (k1 : RT B P n m l0 rest ((d, .bool false) :: E) H Q) : RT B P n m l0 (⟨some d, .binOp .neq t x y t', ty, pos, af, g⟩ :: rest) E H Q := by
 have hy2 : Yld B P n E H (.binOp .neq t x y t') ty (.bool false) := y_run fun o aa w ho _ hA _ => by
  unfold sameS at hs
  split at hs
  ·rename_i fs hu
   rw [Bool.and_eq_true, Bool.and_eq_true] at hs
   obtain ⟨⟨h1, h2⟩, h3⟩ := hs
   have hf : P.fieldsOf t = fs := by unfold Program.fieldsOf; rw [hu]
   have e1 := run_eqGuard_agg (P := P) w .neq t x y xs.toArray xs.toArray (by simpa using h2)
   have e2 : (Op.equalIn 10000 t (.agg xs.toArray) (.agg xs.toArray)).run P w = .ok true w := by
    rw [show (10000 : Nat) = 9998 + 1 + 1 from rfl, run_equalIn_struct w (9998 + 1) t _ _ (by rw [hf]; exact hu) (by simpa using h1), hf]
    exact eqFields_same h3
   unfold execOp
   simp only [ho, hA.ev hx, hA.ev hy, e1, Sem.run_bind, Result.andThen_ok, run_neq_struct, e2]
   rfl
  ·cases hs
 exact RT.y hw (by simpa [Nat.blt_eq] using hd) hy2 k1
end
end Go.Sk
end
section
namespace Go.Sk
open Go.RowKit
section
variable {B : World} {P : Program} {n : Fm} {l0 rest : List Oper} {E : Env} {H R : List HP} {Q : Exit → Act → World → Prop} (T : Tab P) {ty t : TypeId} {pos : String} {af : Array Edge} {g : Option (Nat × Bool)} {x y : Operand}
end
section
variable {B : World} {R : List HP} {w : World}
theorem Bag.split {qs ps : List HP} (s : Sat B (Bag (qs ++ ps) :: R) w) : Sat B (qs ++ (Bag ps :: R)) w := by
 have h := Bag.open_ s
 rw [List.append_assoc] at h
 refine h.mono fun hh hs => ?_
 obtain ⟨x, y, d, lx, ly, hb, hr⟩ := star_cut qs hs
 exact star_glue qs d lx ly hb (by
  obtain ⟨x2, y2, d2, lx2, ly2, hb2, hr2⟩ := star_cut ps hr
  exact ⟨x2, y2, d2, lx2, ly2, hb2, hr2⟩)
end
end Go.Sk
end
section
namespace Go.Sk
open Go.RowKit
section
variable {P : Program} {ops : Array Oper} {C : World → Prop}
/-- So many operations come up, each below n and quiet in the class; then L holds. -/
def hdQ (P : Program) (ops : Array Oper) (C : World → Prop) (n : Nat) (L : Array Bool → Act → Prop) : Nat → Array Bool → Act → Prop
 | 0, ls, a => L ls a
 | f + 1, ls, a => Region.ready .any ops ls ≠ [] ∧ ∀ i ∈ Region.ready .any ops ls, i < n ∧ qOp P ops C i (hdQ P ops C n L f (ls.setIfInBounds i true)) a
theorem hdQ.any {n g : Nat} {L : Array Bool → Act → Prop} {Q' : Exit → Act → World → Prop} (hL : ∀ ls a w, C w → L ls a → wpAny P .any ops Q' g ls a w) :
  ∀ (f : Nat) (ls : Array Bool) (a : Act) (w : World), C w → hdQ P ops C n L f ls a → wpAny P .any ops Q' (f + g) ls a w
 | 0, ls, a, w, hw, h => by rw [Nat.zero_add]; exact hL _ _ _ hw h
 | f + 1, ls, a, w, hw, h => by
  rw [show f + 1 + g = (f + g) + 1 by omega]
  exact ⟨fun h0 => absurd h0 h.1, fun i hi => wpOp_of_qOp hw (fun a' w' hw' h' => hdQ.any hL f _ a' w' hw' h') (h.2 i hi).2⟩
theorem hdQ.first {n i : Nat} {oi : Oper} {v : Value} {L : Array Bool → Act → Prop} (hi : ops[i]? = some oi) (hsel : ∀ (j : Nat) (o : Oper) cs b, ops[j]? = some o → o.op ≠ .select cs b)
  (hs : Region.sinkB .any ops n = true) (hc : Region.chainB .any ops n = true) (hn : n < ops.size) (hin : i < n) (hdone : ∀ ls a, L ls a → ∀ j ∈ Region.ready .any ops ls, n ≤ j) :
  ∀ (f : Nat) (ls : Array Bool) (a : Act), HeadInv .any ops n ls →
   (∀ j oj, ops[j]? = some oj → j ≠ i → ls.getD j true = false → (∀ e ∈ oj.after, Region.binds .any e = true → e.on ≠ i) → oi.apart ops oj = true) →
   i ∈ Region.ready .any ops ls → YieldsIn P ops C oi v a → hdQ P ops C n L f (ls.setIfInBounds i true) (a.put oi.dst v) → hdQ P ops C n L (f + 1) ls a := by
 intro f
 induction f with
 | zero =>
  intro ls a inv _ hr hy H
  have hun := (mem_ready.1 hr).1
  refine ⟨fun h => (by rw [h] at hr; cases hr), fun j hj => ?_⟩
  have hjn : j < n := Nat.lt_of_not_le fun h => tail_waits hs hc hn inv _ i rfl hin hun j h hj
  refine ⟨hjn, ?_⟩
  by_cases hji : j = i
  ·subst hji; exact hy.qOp hi H
  ·have := hdone _ _ H j (ready_mono hj hji)
   omega
 | succ f ih =>
  intro ls a inv hfree hr hy H
  have hun := (mem_ready.1 hr).1
  refine ⟨fun h => (by rw [h] at hr; cases hr), fun j hj => ?_⟩
  have hjn : j < n := Nat.lt_of_not_le fun h => tail_waits hs hc hn inv _ i rfl hin hun j h hj
  refine ⟨hjn, ?_⟩
  by_cases hji : j = i
  ·subst hji; exact hy.qOp hi H
  ·have h1 := (H.2 j (ready_mono hj hji)).2
   obtain ⟨hjun, oj, hoj, hall⟩ := mem_ready.1 hj
   have hnot : ∀ e ∈ oj.after, Region.binds .any e = true → e.on ≠ i := fun e he hb heq => by
    have h1 := hall e he hb
    rw [heq, getD_both hun] at h1
    cases h1
   have h2 := qOp_put hoj (hfree j oj hoj hji hjun hnot) (fun cs b => hsel i oi cs b hi) (fun cs b => hsel j oj cs b hoj) hy h1
   refine qOp_mono (fun a' h3 => ih (ls.setIfInBounds j true) a' (inv.set hj hjn) (fun k ok hk hki hun hno => ?_) (ready_mono hr (Ne.symm hji)) h3.1 ?_) h2
   ·refine hfree k ok hk hki ?_ hno
    by_cases hjk : j = k
    ·subst hjk; exact hjun
    ·rw [getD_set_ne true hjk] at hun; exact hun
   ·rw [Array.setIfInBounds_comm _ _ hji]
    exact h3.2
theorem hdQ.lex {n g : Nat} {Lq : Act → Prop} (hsel : Region.noSelect ops = true) (hs : Region.sinkB .any ops n = true) (hc : Region.chainB .any ops n = true) (hn : n < ops.size) :
  ∀ (l : List Oper) (k : Nat) (ls : Array Bool) (a : Act), (∀ j, j < l.length → l[j]? = ops[k + j]?) → k + l.length = n → HeadInv .any ops n ls →
  Region.lexHead .any ops g l.length k ls = true → wpQuiet P ops C Lq l a → hdQ P ops C n (fun ls' a' => Region.seqB .any ops g n ls' = true ∧ Lq a') l.length ls a
 | [], k, ls, a, _, hk, _, hB, h => by
  obtain rfl : k = n := by simpa using hk
  exact ⟨by simpa [Region.lexHead] using hB, h⟩
 | o :: l, k, ls, a, hl, hk, inv, hB, h => by
  have h0 : ops[k]? = some o := by simpa using (hl 0 (by simp)).symm
  simp only [List.length_cons, Region.lexHead, Bool.and_eq_true] at hB
  obtain ⟨⟨hr, hf⟩, hB'⟩ := hB
  have hkn : k < n := by simp only [List.length_cons] at hk; omega
  have hr' : k ∈ Region.ready .any ops ls := by simpa using hr
  have hst : qOp P ops C k (wpQuiet P ops C Lq l) a := by unfold qOp; simp only [h0]; exact h
  obtain ⟨v, hy, hK⟩ := yieldsIn_of_qOp h0 hst
  exact hdQ.first h0 (Region.noSelect_spec hsel) hs hc hn hkn (fun ls' a' hL => seqB_ready hL.1) l.length ls a inv (Region.free_spec h0 hf) hr' hy
   (hdQ.lex hsel hs hc hn l (k + 1) _ _ (fun j hj => by have := hl (j + 1) (by simp; omega); simpa [Nat.add_assoc, Nat.add_comm 1 j] using this) (by simp only [List.length_cons] at hk; omega) (inv.set hr' hkn) hB' hK)
theorem wpList_of_N {Q : Exit → Act → World → Prop} : ∀ {l : List Oper} {a : Act} {w : World}, wpN P ops Q l a w → wpList P ops Q l a w
 | [], _, _, h => h
 | o :: rest, a, w, h => by
  unfold wpN at h
  unfold wpList
  split
  ·rename_i hw
   rw [if_pos hw] at h
   exact .inl (Oper.wp_mono (fun a w hk => wpList_of_N hk) h)
  ·rename_i hw
   rw [if_neg hw] at h
   exact wpList_of_N h
end
section
variable {B : World} {P : Program} {n n' : Fm} {E : Env} {H R : List HP} {Q : Exit → Act → World → Prop}
/-- What stands behind the quiet part of a region: its tail. -/
def TailQ (P : Program) (l rest : List Oper) (Q : Exit → Act → World → Prop) : Exit → Act → World → Prop := fun ex a w =>
 match ex with
 | .normal => wpN P l.toArray Q rest a w
 | _ => False
/-- A region whose order is open: quiet up to k; the rest waits for all of that, and comes in its order. -/
theorem CT.tail {id : Nat} {l : List Oper} (k : Nat) (hm : P.follows .mixedOrders = true) (hB : Region.lexTailB .any l.toArray k = true) (h : RT B P n false l (l.take k) E H (TailQ P l (l.drop k) Q)) (hro : n.ro = none := by rfl) : CT B P n (.region id l.toArray true) E H Q := by
 intro a w hA hS
 rw [Fm.wide hro]
 refine wpIn_wide.2 ?_
 simp only [Region.lexTailB, Bool.and_eq_true, decide_eq_true_eq] at hB
 obtain ⟨⟨⟨⟨hsel, hn⟩, hs⟩, hc⟩, hlex⟩ := hB
 have hn' : k < l.length := by simpa using hn
 have htl : (l.take k).length = k := by simp; omega
 have hdl : (l.drop k).length = l.toArray.size - k := by simp
 have inv0 : HeadInv .any l.toArray k (Array.replicate l.toArray.size false) :=
  ⟨by simp, fun j oj _ hl => (by rw [getD_replicate_false] at hl; cases hl), fun t _ ht => getD_in (by simpa using ht) (getD_replicate_false _ _)⟩
 have hq := h a hA
 have H1 := hdQ.lex (C := Sat B H) (g := l.toArray.size - k) hsel hs hc hn (l.take k) 0 _ a (fun j hj => by
  have hj' : j < k := by rw [htl] at hj; exact hj
  simp [hj']) (by simpa using htl) inv0 (by rw [htl]; exact hlex) hq
 refine wp_region_any hm ?_
 have := hdQ.any (Q' := Q) (g := l.toArray.size - k) (fun ls a' w' hw' hL => by
  have := wpAny_of_seq (md := .any) (Q' := Q) (l.drop k) k ls a' w' (fun j => by simp [List.getElem?_drop]) (by rw [hdl]; exact hL.1) (wpList_of_N (hL.2 w' hw'))
  rwa [hdl] at this) _ _ _ _ (hS.drawn (w.drawn + 1)) H1
 rw [htl, show k + (l.toArray.size - k) = l.toArray.size by omega] at this
 exact this
theorem AtQ.tail {l rest : List Oper} (h : RT B P n true l rest E H Q) : AtQ B n E H (TailQ P l rest Q) .normal := fun a w hA hS => h a w hA hS
/-! ### panics, deferred calls -/
variable {l0 rest : List Oper} {ty : TypeId} {pos : String} {af : Array Edge} {g : Option (Nat × Bool)} {m : Bool} {x : Operand} {d : Nat}
theorem RT.panic {t : TypeId} {v : Value} {dst : Option Nat} (hx : ev E x = some (.iface t v)) (hw : wt l0 E g = some true) (h : AtQ B n E H Q (.panic (pan (.iface t v)))) : RT B P n true l0 (⟨dst, .panic x, ty, pos, af, g⟩ :: rest) E H Q :=
 RT.eff hw fun o aa w K ho _ hdd hA hS hK => by
  have hex : (execOp aa.eval o).run P w = .halt (.panic (.iface t v)) w := by
   unfold execOp
   simp only [ho, hA.ev hx, Instr.panic, Sem.run_bind]
   rfl
  unfold Oper.wp
  rw [hex]
  exact h _ _ hA hS
theorem RT.mkI {t : TypeId} {v : Value} {td : TypeDesc} (hx : ev E x = some v) (ht : P.underlying t = some td) (hi : ∀ b, td ≠ .interface b) (hw : wt l0 E g = some true) (hd : Nat.blt d n = true)
  (k : RT B P n m l0 rest ((d, .iface t v) :: E) H Q) : RT B P n m l0 (⟨some d, .makeInterface t x, ty, pos, af, g⟩ :: rest) E H Q :=
 RT.y hw (by simpa [Nat.blt_eq] using hd) (y_run fun o aa w ho _ hA _ => by
  unfold execOp
  simp only [ho, hA.ev hx, Instr.makeInterface, Sem.run_bind, run_underlying ht, Result.andThen_ok]
  cases td <;> first | exact absurd rfl (hi _) | rfl) k
theorem RT.defer {f : FuncId} {caps : List Value} {dst : Option Nat} {ats : Array TypeId} (hx : ev E x = some (.func (.func f) #[] caps.toArray)) (hdst : dst = none) (hw : wt l0 E g = some true)
  (k : RT B P { n with dl := { target := .fn (.func f) caps.toArray, args := #[] } :: n.dl } true l0 rest E H Q) : RT B P n true l0 (⟨dst, .defer { callee := .value x, args := #[], argTypes := ats }, ty, pos, af, g⟩ :: rest) E H Q :=
 fun a w hA hS => by
  have := wt_wanted hA (o := ⟨dst, .defer { callee := .value x, args := #[], argTypes := ats }, ty, pos, af, g⟩) hw
  refine wpN_step fun K hK => ?_
  rw [if_pos this]
  have hex : (execOp a.eval (⟨dst, .defer { callee := .value x, args := #[], argTypes := ats }, ty, pos, af, g⟩ : Oper)).run P w = .ok (.defer { target := .fn (.func f) caps.toArray, args := #[] }) w := by
   unfold execOp
   simp only [resolve, hA.ev hx, Deferred.ofValue, Sem.run_bind, Sem.run_pure, Result.andThen_ok, List.map_toArray, List.map_nil]
   rfl
  unfold Oper.wp
  rw [hex]
  simp only [Oper.upon, hdst]
  refine hK _ _ (k _ _ ⟨hA.size, ?_, hA.get⟩ hS)
  show _ :: a.defers = _
  rw [hA.defers]
  rfl
end
/-! ### a struct's literal, parts of several cells -/
def buildW (E : Env) (pl : List (Nat × Nat)) : List (Nat × Operand) → List Value → Option (List Value)
 | [], cells => some cells
 | (i, x) :: ps, cells => match pl[i]? with
  | some (off, z) => match ev E x with
   | some v => bif Nat.beq v.cells.size z && Nat.ble (off + z) cells.length then buildW E pl ps (cells.take off ++ v.cells.toList ++ cells.drop (off + z)) else none
   | none => none
  | none => none
section
variable {B : World} {P : Program} {n : Fm} {m : Bool} {l0 rest : List Oper} {E : Env} {H R : List HP} {Q : Exit → Act → World → Prop} {d : Nat} {ty : TypeId} {pos : String} {af : Array Edge} {g : Option (Nat × Bool)} {t : TypeId}
theorem buildW_fill {pl : List (Nat × Nat)} {a : Act} (hA : Agr n E a) :
  ∀ (ps : List (Nat × Operand)) (cells l : List Value), buildW E pl ps cells = some l →
   Instr.fill (fun i => pl[i]?) cells.toArray (ps.map fun (i, x) => (i, a.eval x)) = some l.toArray
 | [], cells, l, h => by cases h; rfl
 | (i, x) :: ps, cells, l, h => by
  simp only [buildW] at h
  split at h
  ·rename_i off z hp
   split at h
   ·rename_i v hv
    cases hb : Nat.beq v.cells.size z && Nat.ble (off + z) cells.length with
    | false => rw [hb] at h; cases h
    | true =>
     rw [hb, cond_true] at h
     rw [Bool.and_eq_true, Nat.beq_eq, Nat.ble_eq] at hb
     obtain ⟨rfl, hle⟩ := hb
     have ih := buildW_fill hA ps _ l h
     simp only [List.map_cons, Instr.fill, hp, hA.ev hv]
     rw [if_neg (by simp; omega)]
     rw [fold_cells _ _ _ (by simpa using hle)]
     simpa using ih
   ·cases h
  ·cases h
theorem RT.buildW (T : Tab P) {parts : List (Nat × Operand)} {pl : List (Nat × Nat)} {cells l : List Value} (hz : al T.zers t = some (.agg cells.toArray)) (hp : al T.plcs t = some pl) (hl : buildW E pl parts cells = some l) (hw : wt l0 E g = some true) (hd : Nat.blt d n = true)
  (k : RT B P n m l0 rest ((d, .agg l.toArray) :: E) H Q) : RT B P n m l0 (⟨some d, .build t parts.toArray, ty, pos, af, g⟩ :: rest) E H Q :=
 RT.y hw (by simpa [Nat.blt_eq] using hd) (y_run fun o a w ho _ hA _ => by
  have hz' := T.zer hz
  have hp' := T.plc hp
  unfold zerB at hz'
  unfold plB at hp'
  cases hi : P.info? t with
  | none => simp [hi] at hz'
  | some it =>
   simp only [hi, Option.bind_some] at hz'
   split at hp'
   ·rename_i fs hu
    have hb : P.built t (parts.map fun (i, x) => (i, a.eval x)) = some l.toArray := by
     unfold Program.built
     simp only [hi, hu, hz', hp', Value.cells]
     have := buildW_fill hA parts cells l hl
     simpa using this
    unfold execOp
    have hr := run_build w t (parts.toArray.map fun (i, x) => (i, a.eval x)) l.toArray (by simpa using hb)
    simp only [ho, Sem.run_bind, hr, Result.andThen_ok, Sem.run_pure]
   ·cases hp') k
end
/-- A function that defers returns such a value. -/
def FinD (B : World) (P : Program) (fn : Func) (R : List HP) (Post : Value → List HP → Prop) : Exit → Act → World → Prop :=
 bodyPostD P fn fun e w' => ∃ v H', e = .returned v ∧ Post v H' ∧ Sat B (H' ++ R) w'
theorem Sp.bodyD {B : World} {P : Program} {f : FuncId} {fn : Func} {c : Code} {n : Nat} {vs : List Value} {R Pre : List HP} {Post : Value → List HP → Prop}
  (hf : P.funcs[f]? = some fn) (hb : fn.body = some c) (hn : fn.ntmps = n) (hl : vs.length ≤ n)
  (h : CT B P (.mk0 n) c (argE 0 vs) (Pre ++ R) (FinD B P fn R Post)) : Sp B P f vs R Pre Post := by
 intro w hS
 refine calls_of_wp_defers hf hb (wpIn_wide.1 (h _ w ⟨?_, rfl, fun t v e => ?_⟩ hS))
 ·simp [hn]; omega
 ·obtain ⟨_, e'⟩ := argE_lk vs 0 t v e
  have : t < vs.length := (List.getElem?_eq_some_iff.1 (by simpa using e')).1
  rw [Array.getElem?_append_left (by simpa using this)]
  simpa using e'
/-- A deferred call, the frame leaving so, then so. -/
def SpD (B : World) (P : Program) (f : FuncId) (vs : List Value) (u u' : FrameMode) (R Pre H' : List HP) : Prop :=
 ∀ w, Sat B (Pre ++ R) w → CallsD P f vs.toArray u w fun e u2 w' => e = .returned (.tuple #[]) ∧ u2 = u' ∧ Sat B (H' ++ R) w'
section
variable {B : World} {P : Program} {E : Env} {H H' Pre R : List HP} {fn : Func} {Post : Value → List HP → Prop} {f : FuncId} {n : Nat} {vs caps : List Value}
theorem leaves_one {u u' : FrameMode} {R2 : List HP} {tmps : Array Value} {w : World} {v : Value} {Hf : List HP} (hu : u ≠ .run) (hs : settle u' = .returning) (hcall : ∀ args, (callFunc f args).run P w = .ok (.enter f args) w) (hq : SpD B P f caps u u' R2 Pre H') (hS : Sat B (Pre ++ R2) w)
  (hres : ∀ w', Sat B (H' ++ R2) w' → (results fn tmps).run P w' = .ok v w') (hp : Post v Hf) (hk : ∀ w', Sat B (H' ++ R2) w' → Sat B (Hf ++ R) w') :
  Leaves P fn tmps (fun e w' => ∃ v H', e = .returned v ∧ Post v H' ∧ Sat B (H' ++ R) w') [{ target := .fn (.func f) caps.toArray, args := #[] }] u w := by
 refine leaves_cons (f := f) (args := caps.toArray) hu (by simp [invoke, go_sem, hcall]) ((hq w hS).mono fun e u2 w' ⟨he, hu2, hS'⟩ => ?_)
 subst he hu2
 simp only [hs]
 exact ⟨v, hres w' hS', v, Hf, rfl, hp, hk w' hS'⟩
theorem AtQ.finD {R2 : List HP} {v : Value} {Hf : List HP} (hcall : ∀ args w, (callFunc f args).run P w = .ok (.enter f args) w) (hq : SpD B P f caps .returning .returning R2 Pre H') (hfr : Fr H Pre R2)
  (hres : ∀ a w, Agr ⟨n, [], none, [{ target := .fn (.func f) caps.toArray, args := #[] }]⟩ E a → Sat B (H' ++ R2) w → (results fn a.tmps).run P w = .ok v w) (hp : Post v Hf) (hk : ∀ w', Sat B (H' ++ R2) w' → Sat B (Hf ++ R) w') {ex : Exit} (hex : ex = .normal ∨ ex = .ret) :
  AtQ B ⟨n, [], none, [{ target := .fn (.func f) caps.toArray, args := #[] }]⟩ E H (FinD B P fn R Post) ex := by
 intro a w hA hS
 have : Leaves P fn a.tmps (fun e w' => ∃ v H', e = .returned v ∧ Post v H' ∧ Sat B (H' ++ R) w') a.defers .returning w := by
  rw [hA.defers]
  exact leaves_one (by intro h; cases h) rfl (fun args => hcall args w) hq (hS.fr hfr) (fun w' hS' => hres a w' hA hS') hp hk
 rcases hex with rfl | rfl <;> exact this
theorem AtQ.finDp {R2 : List HP} {v pv : Value} {Hf : List HP} (hcall : ∀ args w, (callFunc f args).run P w = .ok (.enter f args) w) (hq : SpD B P f caps (.panicking (pan pv)) (.panicking [{ v := pv, recovered := true }]) R2 Pre H') (hfr : Fr H Pre R2)
  (hres : ∀ a w, Agr ⟨n, [], none, [{ target := .fn (.func f) caps.toArray, args := #[] }]⟩ E a → Sat B (H' ++ R2) w → (results fn a.tmps).run P w = .ok v w) (hp : Post v Hf) (hk : ∀ w', Sat B (H' ++ R2) w' → Sat B (Hf ++ R) w') :
  AtQ B ⟨n, [], none, [{ target := .fn (.func f) caps.toArray, args := #[] }]⟩ E H (FinD B P fn R Post) (.panic (pan pv)) := by
 intro a w hA hS
 show Leaves P fn a.tmps (fun e w' => ∃ v H', e = .returned v ∧ Post v H' ∧ Sat B (H' ++ R) w') a.defers (.panicking (pan pv)) w
 rw [hA.defers]
 exact leaves_one (by intro h; cases h) rfl (fun args => hcall args w) hq (hS.fr hfr) (fun w' hS' => hres a w' hA hS') hp hk
/-- What a deferred function leaves. -/
def RecQ (B : World) (R H' : List HP) : Exit → Act → World → Prop := fun ex a w => (ex = .normal ∨ ex = .ret) ∧ a.defers = [] ∧ Sat B (H' ++ R) w
theorem AtQ.rec_ {ex : Exit} (hex : ex = .normal ∨ ex = .ret) (hs : ∀ w, Sat B H w → Sat B (H' ++ R) w) : AtQ B (.mk0 n) E H (RecQ B R H') ex := fun _ w hA hS => ⟨hex, hA.defers, hs w hS⟩
/-- A deferred function that begins by recover. -/
theorem SpD.body {c : Code} {id d : Nat} {ats : Array TypeId} {ty : TypeId} {pos : String} {af : Array Edge} {u u' : FrameMode} {rv : Value} (hf : P.funcs[f]? = some fn)
  (hb : fn.body = some (.seq (.region id #[⟨some d, .call { callee := .builtin .recover, args := #[], argTypes := ats }, ty, pos, af, none⟩] false) c)) (hr : fn.results = #[]) (hn : fn.ntmps = n) (hl : vs.length ≤ n) (hd : d < n)
  (hu : u = .returning ∧ u' = .returning ∧ rv = .nilIface ∨ ∃ pv, u = .panicking (pan pv) ∧ u' = .panicking [{ v := pv, recovered := true }] ∧ rv = pv)
  (h : CT B P (.mk0 n) c ((d, rv) :: argE 0 vs) (Pre ++ R) (RecQ B R H')) : SpD B P f vs u u' R Pre H' := by
 intro w hS
 refine callsD_of_wpS hf hb fun c₀ cs hm => wpS_seq (wpS_region ?_)
 have hA0 : Agr (.mk0 n) (argE 0 vs) { tmps := vs.toArray ++ Array.replicate (fn.ntmps - vs.toArray.size) undef, defers := [] } := by
  refine ⟨?_, rfl, fun t v e => ?_⟩
  ·simp [hn]; omega
  ·obtain ⟨_, e'⟩ := argE_lk vs 0 t v e
   have : t < vs.length := (List.getElem?_eq_some_iff.1 (by simpa using e')).1
   rw [Array.getElem?_append_left (by simpa using this)]
   simpa using e'
 have hrun : ∀ (ρ : Operand → Value), (execOp ρ (⟨some d, .call { callee := .builtin .recover, args := #[], argTypes := ats }, ty, pos, af, none⟩ : Oper)).run P w = .ok .recover w := fun ρ => by
  unfold execOp
  simp [resolve, invoke, builtin, go_sem]
 have key : ∀ (cs' : List Frame), cs' = { c₀ with mode := u' } :: cs → c.wpS P (bodyPostS P fn c₀ cs fun e u2 w' => e = .returned (.tuple #[]) ∧ u2 = u' ∧ Sat B (H' ++ R) w') (Act.put { tmps := vs.toArray ++ Array.replicate (fn.ntmps - vs.toArray.size) undef, defers := [] } (some d) rv) cs' w := by
  intro cs' hcs
  subst hcs
  refine wpS_of_wp (wpIn_wide.1 (wpIn_mono (h _ w (hA0.put hd rv) hS) ?_))
  rintro ex a' w' ⟨hex, hdf, hS'⟩
  rcases hex with rfl | rfl <;> exact ⟨hdf, u', rfl, _, results_none hr _ _ _, rfl, rfl, hS'⟩
 simp only [List.size_toArray, List.length_cons, List.length_nil, Nat.zero_add, show List.range 1 = [0] from rfl, wpOpsS, List.getElem?_toArray, List.getElem?_cons_zero]
 rw [if_pos (by rfl), hrun]
 rcases hu with ⟨rfl, rfl, rfl⟩ | ⟨pv, rfl, rfl, rfl⟩
 ·have hrec : recoverD (c₀ :: cs) = none := by simp [recoverD, hm]
  simp only [hrec]
  refine key _ ?_
  rw [← hm]
 ·have hrec : recoverD (c₀ :: cs) = some (rv, { c₀ with mode := .panicking [{ v := rv, recovered := true }] } :: cs) := by simp [recoverD, hm]
  simp only [hrec]
  exact key _ rfl
end
end Go.Sk
end
section
namespace Go.Sk
open Go.RowKit
section
variable {B : World} {P : Program} {n : Fm} {E : Env} {H : List HP} {Q : Exit → Act → World → Prop} {c : Code}
def LoopM {α : Type} (B : World) (nf : α → Fm) (f : α → Env) (g : α → List HP) (μ : α → Nat) (x : α) (Q : Exit → Act → World → Prop) : Exit → Act → World → Prop :=
 Exit.then (fun a w => ∃ y, Agr (nf y) (f y) a ∧ Sat B (g y) w ∧ μ y < μ x) Q
theorem AtQ.loopM {α : Type} {nf : α → Fm} {f : α → Env} {g : α → List HP} {μ : α → Nat} {x : α} (y : α) (hn : n = nf y) (hE : subB E (f y)) (hH : ∀ w, Sat B H w → Sat B (g y) w) (hμ : μ y < μ x) : AtQ B n E H (LoopM B nf f g μ x Q) .normal :=
 fun _ w hA hS => ⟨y, by rw [← hn]; exact hA.sub hE.sub, hH w hS, hμ⟩
theorem AtQ.loopM_exit {α : Type} {nf : α → Fm} {f : α → Env} {g : α → List HP} {μ : α → Nat} {x : α} {id : Nat} (h : AtQ B n E H Q (.exit id)) : AtQ B n E H (LoopM B nf f g μ x Q) (.exit id) := h
theorem AA {α : Type} {nf : α → Fm} {f : α → Env} {g : α → List HP} {μ : α → Nat} {x : α} {id : Nat} (h : AtQ B n E H Q (.exit id)) : AtQ B n E H (LoopM B nf f g μ x Q) (.exit id) := AtQ.loopM_exit h
instance {α : Type} {nf : α → Fm} {f : α → Env} {g : α → List HP} {μ : α → Nat} {x : α} {id : Nat} : Nx (AtQ B n E H (LoopM B nf f g μ x Q) (.exit id)) (AtQ B n E H Q (.exit id)) := ⟨AA⟩
theorem AtQ.loopM_ret {α : Type} {nf : α → Fm} {f : α → Env} {g : α → List HP} {μ : α → Nat} {x : α} (h : AtQ B n E H Q .ret) : AtQ B n E H (LoopM B nf f g μ x Q) .ret := h
theorem AB {α : Type} {nf : α → Fm} {f : α → Env} {g : α → List HP} {μ : α → Nat} {x : α} (h : AtQ B n E H Q .ret) : AtQ B n E H (LoopM B nf f g μ x Q) .ret := AtQ.loopM_ret h
instance {α : Type} {nf : α → Fm} {f : α → Env} {g : α → List HP} {μ : α → Nat} {x : α} : Nx (AtQ B n E H (LoopM B nf f g μ x Q) .ret) (AtQ B n E H Q .ret) := ⟨AB⟩
def CutM {α : Sort _} (B : World) (nf : α → Fm) (f : α → Env) (g : α → List HP) (Q : Exit → Act → World → Prop) : Exit → Act → World → Prop := Exit.then (fun a w => ∃ x, Agr (nf x) (f x) a ∧ Sat B (g x) w) Q
theorem AtQ.cutM {α : Sort _} {nf : α → Fm} {f : α → Env} {g : α → List HP} (y : α) (hn : n = nf y) (hE : subB E (f y)) (hH : ∀ w, Sat B H w → Sat B (g y) w) : AtQ B n E H (CutM B nf f g Q) .normal :=
 fun _ w hA hS => ⟨y, by rw [← hn]; exact hA.sub hE.sub, hH w hS⟩
theorem AtQ.cutM_exit {α : Sort _} {nf : α → Fm} {f : α → Env} {g : α → List HP} {id : Nat} (h : AtQ B n E H Q (.exit id)) : AtQ B n E H (CutM B nf f g Q) (.exit id) := h
theorem AC {α : Sort _} {nf : α → Fm} {f : α → Env} {g : α → List HP} {id : Nat} (h : AtQ B n E H Q (.exit id)) : AtQ B n E H (CutM B nf f g Q) (.exit id) := AtQ.cutM_exit h
instance {α : Sort _} {nf : α → Fm} {f : α → Env} {g : α → List HP} {id : Nat} : Nx (AtQ B n E H (CutM B nf f g Q) (.exit id)) (AtQ B n E H Q (.exit id)) := ⟨AC⟩
theorem AtQ.cutM_ret {α : Sort _} {nf : α → Fm} {f : α → Env} {g : α → List HP} (h : AtQ B n E H Q .ret) : AtQ B n E H (CutM B nf f g Q) .ret := h
theorem AD {α : Sort _} {nf : α → Fm} {f : α → Env} {g : α → List HP} (h : AtQ B n E H Q .ret) : AtQ B n E H (CutM B nf f g Q) .ret := AtQ.cutM_ret h
instance {α : Sort _} {nf : α → Fm} {f : α → Env} {g : α → List HP} : Nx (AtQ B n E H (CutM B nf f g Q) .ret) (AtQ B n E H Q .ret) := ⟨AD⟩
theorem CT.loopM {α : Type} (nf : α → Fm) (f : α → Env) (g : α → List HP) (μ : α → Nat) (x0 : α) (hn : n = nf x0) (hro : ∀ x, (nf x).ro = n.ro) (hE : subB E (f x0)) (hH : ∀ w, Sat B H w → Sat B (g x0) w)
  (round : ∀ x, CT B P (nf x) c (f x) (g x) (LoopM B nf f g μ x Q)) : CT B P n (.loop c) E H Q := by
 classical
 intro a w hA hS
 let S : Act → World → Nat → Prop := fun a w k => ∃ x, Agr (nf x) (f x) a ∧ Sat B (g x) w ∧ μ x = k
 let I : Act → World → Prop := fun a w => ∃ k, S a w k
 let M : Act → World → Nat := fun a w => if h : ∃ k, S a w k then Classical.choose (least_ h) else 0
 refine wpIn_loop I M ⟨_, x0, by rw [← hn]; exact hA.sub hE.sub, hH w hS, rfl⟩ ?_
 intro a w hI
 have hM : M a w = Classical.choose (least_ hI) := by simp only [M]; rw [dif_pos hI]
 obtain ⟨x, hx, hs, hk⟩ := (Classical.choose_spec (least_ hI)).1
 have hr := round x a w hx hs
 rw [Fm.fence_eq (hro x)] at hr
 refine wpIn_mono hr ?_
 intro e a' w' hq
 cases e <;> try exact hq
 obtain ⟨y, hy, hs', hlt⟩ := hq
 have hI' : ∃ k, S a' w' k := ⟨_, y, hy, hs', rfl⟩
 refine ⟨hI', ?_⟩
 have h1 : M a' w' = Classical.choose (least_ hI') := by simp only [M]; rw [dif_pos hI']
 have h2 : Classical.choose (least_ hI') ≤ μ y := (Classical.choose_spec (least_ hI')).2 _ ⟨y, hy, hs', rfl⟩
 omega
/-- The ways through c meet again in the states x, with marks of their own. -/
theorem CT.cutM {α : Sort _} (nf : α → Fm) (f : α → Env) (g : α → List HP) (hc : CT B P n c E H (CutM B nf f g Q)) (hk : ∀ x, AtQ B (nf x) (f x) (g x) Q .normal) : CT B P n c E H Q := by
 intro a w hA hS
 refine wpIn_mono (hc a w hA hS) ?_
 intro e a' w' hq
 cases e <;> try exact hq
 obtain ⟨x, hx, hs⟩ := hq
 exact hk x a' w' hx hs
end
section
variable {B : World} {P : Program} {n : Fm} {m : Bool} {l0 rest : List Oper} {E : Env} {H R : List HP} {Q : Exit → Act → World → Prop} (T : Tab P) {d : Nat} {ty t t' : TypeId} {pos : String} {af : Array Edge} {g : Option (Nat × Bool)} {x y : Operand}
theorem RT.mkF {fn : Fn} {xs : List Operand} {vs : List Value} (hv : evs E xs = some vs) (hw : wt l0 E g = some true) (hd : Nat.blt d n.n = true)
  (k : RT B P n m l0 rest ((d, .func fn #[] vs.toArray) :: E) H Q) : RT B P n m l0 (⟨some d, .makeFunc fn #[] xs.toArray, ty, pos, af, g⟩ :: rest) E H Q := by
 have hy2 : Yld B P n E H (.makeFunc fn #[] xs.toArray) ty (.func fn #[] vs.toArray) := y_run fun o aa w ho _ hA _ => by
  have hm : xs.map aa.eval = vs := hA.evs hv
  unfold execOp
  simp only [ho, Instr.makeFunc, List.map_toArray, hm, Sem.run_bind, Sem.run_pure, Result.andThen_ok]
  rfl
 exact RT.y hw (by simpa [Nat.blt_eq] using hd) hy2 k
theorem knd_func {t : Nat} (h : knd P t = some 5) : ∃ ps rs v, P.underlying t = some (.func ps rs v) := by
 unfold knd at h
 split at h
 ·split at h <;> simp at h
 all_goals first | (rename_i a b c hu; exact ⟨a, b, c, hu⟩) | (simp at h; done) | cases h
theorem run_fnil {w : World} {t : TypeId} {ps rs : Array TypeId} {v : Bool} (hu : P.underlying t = some (.func ps rs v)) (f : Fn) (a b : Array Value) : (Op.equal t (.func f a b) .nilFunc).run P w = .ok false w :=
 run_eqv fun d => by simp only [Op.equalIn, Sem.run_bind, run_underlying hu, Result.andThen_ok]; rfl
theorem RT.fnil {f : Fn} {a b : Array Value} (hx : ev E x = some (.func f a b)) (hy : ev E y = some .nilFunc) (ht : al T.kinds t = some 5) (hw : wt l0 E g = some true) (hd : Nat.blt d n.n = true)
  (k1 : RT B P n m l0 rest ((d, .bool false) :: E) H Q) : RT B P n m l0 (⟨some d, .binOp .eql t x y t', ty, pos, af, g⟩ :: rest) E H Q := by
 have hy2 : Yld B P n E H (.binOp .eql t x y t') ty (.bool false) := y_run fun o aa w ho _ hA _ => by
  obtain ⟨ps, rs, v, hu⟩ := knd_func (T.kind ht)
  have h1 : binOp .eql t (.func f a b) .nilFunc = (do pure (.bool (← Op.equal t (.func f a b) .nilFunc))) := rfl
  have h2 : eqGuard .eql t x y (.func f a b) .nilFunc = pure () := rfl
  unfold execOp
  simp only [ho, hA.ev hx, hA.ev hy, h1, h2, Sem.run_bind, Sem.run_pure, Result.andThen_ok, run_fnil hu]
 exact RT.y hw (by simpa [Nat.blt_eq] using hd) hy2 k1
end
end Go.Sk
end
section
namespace Go.Sk
open Go.RowKit
section
variable {B : World} {P : Program} {n : Fm} {l0 rest : List Oper} {E : Env} {H R : List HP} {Q : Exit → Act → World → Prop} (T : Tab P) {d : Nat} {ty t t' : TypeId} {pos : String} {af : Array Edge} {g : Option (Nat × Bool)} {x y : Operand}
theorem RT.convSB {e : TypeId} {l : List Int} (hx : ev E x = some (.string (str l))) (hb : Byt l) (ht : al T.kinds t = some 2) (hs : P.underlying t' = some (.slice e)) (he : P.underlying e = some (.int .u8)) (hw : wt l0 E g = some true) (hd : Nat.blt d n.n = true)
  (kt : ∀ a c, l.length ≤ c → RT B P n true l0 rest ((d, .slice a l.length c) :: E) (Ro a (ints .u8 l) :: H) Q) : RT B P n true l0 (⟨some d, .convert t t' x, ty, pos, af, g⟩ :: rest) E H Q :=
 RT.eff hw fun o aa w K ho hty hdd hA hS hK => by
  have hrun := run_bytes_of_string (P := P) w t t' e (str l) (knd_string (T.kind ht)) hs he
  have hsz : (str l).size = l.length := str_size l
  rw [hsz] at hrun
  have hge := grownCap_ge w l.length 0 e
  have hrow : (bytesRow (str l) (grownCap w l.length 0 e)).toList.take (ints .u8 l).length = ints .u8 l := by
   have h1 : (bytesRow (str l) (grownCap w l.length 0 e)).toList = ints .u8 l ++ List.replicate (grownCap w l.length 0 e - (str l).size) (.int .u8 0) := by
    unfold bytesRow
    rw [Array.toList_append, Array.toList_map, Array.toList_replicate]
    congr 1
    exact strCells_str hb
   rw [h1, List.take_left]
  unfold Oper.wp execOp
  simp only [ho, hA.ev hx, Sem.run_bind, hrun, Result.andThen_ok, Sem.run_pure]
  simp only [Oper.upon, hdd]
  exact hK _ _ (kt _ _ hge _ _ (hA.put (by simpa [Nat.blt_eq] using hd) _) (hS.new rfl rfl rfl rfl fun h _ hb => ⟨_, _, _, _, rfl, hb, hrow⟩))
end
end Go.Sk
end
section
namespace Go.Sk
open Go.RowKit
section
variable {B : World} {P : Program} {n : Fm} {m : Bool} {l0 rest : List Oper} {E : Env} {H : List HP} {Q : Exit → Act → World → Prop} {d : Nat} {ty : TypeId} {pos : String} {af : Array Edge} {g : Option (Nat × Bool)} {x y : Operand}
theorem run_inil {w : World} {t : TypeId} {v : Value} {b : Bool} (hu : ∃ ms, P.underlying t = some (.interface ms)) (hv : v = .nilIface ∧ b = true ∨ ∃ u z, v = .iface u z ∧ b = false) : (Op.equal t v .nilIface).run P w = .ok b w :=
 run_eqv fun d => by
  obtain ⟨ms, hu⟩ := hu
  rcases hv with ⟨rfl, rfl⟩ | ⟨u, z, rfl, rfl⟩ <;> (simp only [Op.equalIn, Sem.run_bind, run_underlying hu, Result.andThen_ok]; rfl)
theorem RT.tassert {xt t : TypeId} {v : Value} {td : TypeDesc} (hx : ev E x = some (.iface t v)) (ht : P.underlying t = some td) (hi : ∀ b, td ≠ .interface b) (hw : wt l0 E g = some true) (hd : Nat.blt d n = true)
  (k : RT B P n m l0 rest ((d, .tuple #[v, .bool true]) :: E) H Q) : RT B P n m l0 (⟨some d, .typeAssert x xt t true, ty, pos, af, g⟩ :: rest) E H Q :=
 RT.y hw (by simpa [Nat.blt_eq] using hd) (y_run fun o a w ho _ hA _ => by
  unfold execOp
  simp only [ho, hA.ev hx, Instr.typeAssert, Sem.run_bind, run_underlying ht, Result.andThen_ok]
  cases td <;> first | exact absurd rfl (hi _) | simp) k
end
end Go.Sk
end
section
namespace Go.Sk
open Go.RowKit
section
variable {B : World} {P : Program} {E : Env} {H H' Pre R : List HP} {fn : Func} {Post : Value → List HP → Prop} {f : FuncId} {n : Nat} {vs caps : List Value}
theorem SpD.body2 {c : Code} {id d d2 : Nat} {ats : Array TypeId} {ty ty2 : TypeId} {pos pos2 : String} {af af2 : Array Edge} {u u' : FrameMode} {rv : Value} (hf : P.funcs[f]? = some fn)
  (hb : fn.body = some (.seq (.region id #[⟨some d, .call { callee := .builtin .recover, args := #[], argTypes := ats }, ty, pos, af, none⟩, ⟨some d2, .assign (.tmp d), ty2, pos2, af2, none⟩] false) c)) (hr : fn.results = #[]) (hn : fn.ntmps = n) (hl : vs.length ≤ n) (hd : d < n) (hd2 : d2 < n)
  (hu : u = .returning ∧ u' = .returning ∧ rv = .nilIface ∨ ∃ pv, u = .panicking (pan pv) ∧ u' = .panicking [{ v := pv, recovered := true }] ∧ rv = pv)
  (h : CT B P (.mk0 n) c ((d2, rv) :: (d, rv) :: argE 0 vs) (Pre ++ R) (RecQ B R H')) : SpD B P f vs u u' R Pre H' := by
 intro w hS
 refine callsD_of_wpS hf hb fun c₀ cs hm => wpS_seq (wpS_region ?_)
 have hA0 : Agr (.mk0 n) (argE 0 vs) { tmps := vs.toArray ++ Array.replicate (fn.ntmps - vs.toArray.size) undef, defers := [] } := by
  refine ⟨?_, rfl, fun t v e => ?_⟩
  ·simp [hn]; omega
  ·obtain ⟨_, e'⟩ := argE_lk vs 0 t v e
   have : t < vs.length := (List.getElem?_eq_some_iff.1 (by simpa using e')).1
   rw [Array.getElem?_append_left (by simpa using this)]
   simpa using e'
 have hrun : ∀ (ρ : Operand → Value), (execOp ρ (⟨some d, .call { callee := .builtin .recover, args := #[], argTypes := ats }, ty, pos, af, none⟩ : Oper)).run P w = .ok .recover w := fun ρ => by
  unfold execOp
  simp [resolve, invoke, builtin, go_sem]
 have hA1 := hA0.put hd rv
 have hev : ∀ a : Act, Agr (.mk0 n) ((d, rv) :: argE 0 vs) a → a.eval (.tmp d) = rv := fun a hA => hA.ev (x := .tmp d) (by simp [Sk.ev, lk])
 have hrun2 : ∀ a : Act, Agr (.mk0 n) ((d, rv) :: argE 0 vs) a → (execOp a.eval (⟨some d2, .assign (.tmp d), ty2, pos2, af2, none⟩ : Oper)).run P w = .ok (.value rv) w := fun a hA => by
  unfold execOp
  simp only [hev _ hA]
  rfl
 have hA2 := hA1
 simp only [List.size_toArray] at hA2
 have key : ∀ (cs' : List Frame), cs' = { c₀ with mode := u' } :: cs → c.wpS P (bodyPostS P fn c₀ cs fun e u2 w' => e = .returned (.tuple #[]) ∧ u2 = u' ∧ Sat B (H' ++ R) w') (Act.put (Act.put { tmps := vs.toArray ++ Array.replicate (fn.ntmps - vs.toArray.size) undef, defers := [] } (some d) rv) (some d2) rv) cs' w := by
  intro cs' hcs
  subst hcs
  refine wpS_of_wp (wpIn_wide.1 (wpIn_mono (h _ w (hA1.put hd2 rv) hS) ?_))
  rintro ex a' w' ⟨hex, hdf, hS'⟩
  rcases hex with rfl | rfl <;> exact ⟨hdf, u', rfl, _, results_none hr _ _ _, rfl, rfl, hS'⟩
 simp only [List.size_toArray, List.length_cons, List.length_nil, Nat.zero_add, Nat.reduceAdd, show List.range 2 = [0, 1] from rfl, wpOpsS, List.getElem?_toArray, List.getElem?_cons_zero, List.getElem?_cons_succ]
 rw [if_pos (by rfl), hrun]
 rcases hu with ⟨rfl, rfl, rfl⟩ | ⟨pv, rfl, rfl, rfl⟩
 ·have hrec : recoverD (c₀ :: cs) = none := by simp [recoverD, hm]
  simp only [hrec]
  rw [if_pos (by rfl), hrun2 _ hA2]
  refine key _ ?_
  rw [← hm]
 ·have hrec : recoverD (c₀ :: cs) = some (rv, { c₀ with mode := .panicking [{ v := rv, recovered := true }] } :: cs) := by simp [recoverD, hm]
  simp only [hrec]
  rw [if_pos (by rfl), hrun2 _ hA2]
  exact key _ rfl
theorem ld_cell (T : Tab P) {t ty b e : Nat} {v : Value} {R2 : List HP} {m : Fm} {a : Act} {w : World} (hA : Agr m E a) (hS : Sat B H w) (he : lk E t = some (.pointer (some ⟨b, 0, none⟩))) (ht : al T.szs ty = some (1, false)) (hs : Sel H (Cs b e [v]) R2) :
  a.tmps.getD t undef = .pointer (some ⟨b, 0, none⟩) ∧ (loadVar ty ⟨b, 0, none⟩).run P w = .ok v w := by
 refine ⟨by simp [Array.getD_eq_getD_getElem?, hA.get t _ he], ?_⟩
 have hc : w.cell? ⟨b, 0, none⟩ = some v := (cs_cell (hS.cs hs).1 0).trans rfl
 simp only [loadVar, Sem.run_bind, run_isAggB (T.sz ht).2, Result.andThen_ok]
 simp [load, Sem.run, hc]
theorem res_two (T : Tab P) {t1 ty1 b1 e1 t2 ty2 b2 e2 : Nat} {v1 v2 : Value} {R1 R2 : List HP} {m : Fm} (hr : fn.results = #[.cell t1 ty1, .cell t2 ty2]) (he1 : lk E t1 = some (.pointer (some ⟨b1, 0, none⟩))) (ht1 : al T.szs ty1 = some (1, false)) (hs1 : Sel H (Cs b1 e1 [v1]) R1)
  (he2 : lk E t2 = some (.pointer (some ⟨b2, 0, none⟩))) (ht2 : al T.szs ty2 = some (1, false)) (hs2 : Sel H (Cs b2 e2 [v2]) R2) : ∀ a w, Agr m E a → Sat B H w → (results fn a.tmps).run P w = .ok (.tuple #[v1, v2]) w := fun a w hA hS => by
 obtain ⟨g1, l1⟩ := ld_cell T hA hS he1 ht1 hs1
 obtain ⟨g2, l2⟩ := ld_cell T hA hS he2 ht2 hs2
 unfold results
 rw [hr]
 simp only [List.mapM_toArray, List.mapM_cons, List.mapM_nil, g1, g2, asAddr, Sem.run_bind, Sem.run_pure, Result.andThen_ok, bind_assoc, pure_bind, map_eq_pure_bind, Sem.run_map, l1, l2]
 rfl
end
section
variable {B : World} {P : Program} {n : Fm} {m : Bool} {l0 rest : List Oper} {E : Env} {H : List HP} {Q : Exit → Act → World → Prop} {d : Nat} {ty : TypeId} {pos : String} {af : Array Edge} {g : Option (Nat × Bool)} {x y : Operand}
theorem RT.innil {t t' : TypeId} {v : Value} {b : Bool} (hx : ev E x = some v) (hu : ∃ ms, P.underlying t = some (.interface ms)) (hv : v = .nilIface ∧ b = true ∨ ∃ u z, v = .iface u z ∧ b = false) (hw : wt l0 E g = some true) (hd : Nat.blt d n = true)
  (k : RT B P n m l0 rest ((d, .bool (!b)) :: E) H Q) : RT B P n m l0 (⟨some d, (.binOp .neq t x (.const .nilIface) t'), ty, pos, af, g⟩ :: rest) E H Q :=
 RT.y hw (by simpa [Nat.blt_eq] using hd) (y_run fun o a w ho _ hA _ => by
  have hr := run_inil (P := P) (w := w) hu hv
  have h1 : binOp .neq t v .nilIface = (do pure (.bool (!(← Op.equal t v .nilIface)))) := by rcases hv with ⟨rfl, rfl⟩ | ⟨u, z, rfl, rfl⟩ <;> rfl
  have h2 : (eqGuard .neq t x (.const .nilIface) v .nilIface).run P w = .ok () w := by
   rcases hv with ⟨rfl, rfl⟩ | ⟨u, z, rfl, rfl⟩ <;> cases x <;> simp [eqGuard, Sem.run_pure]
  unfold execOp
  simp only [ho, hA.ev hx, hA.ev (show ev E (.const .nilIface) = some .nilIface from rfl), h1, h2, Sem.run_bind, Sem.run_pure, Result.andThen_ok, hr]) k
end
end Go.Sk
end
