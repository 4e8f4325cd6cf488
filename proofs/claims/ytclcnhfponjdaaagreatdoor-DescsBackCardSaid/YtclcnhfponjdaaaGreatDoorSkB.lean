/- Merged: Sk49, Sk41, Sk42, Sk43, Sk51, Sk56, Sk52, Sk53, Sk27, Sk29, Sk44, Sk50, Sk54, Sk45, Sk46, Sk47, Sk48, Sk55. -/
import Derived.Test.YtclcnhfponjdaaaGreatDoorSkA
import Derived.Laws.StructEq
import Derived.Recover
import Derived.StillTail
import Derived.ProofKit
import Derived.Laws.IdiomStrings
set_option linter.unusedVariables false
set_option linter.unusedSimpArgs false
section
namespace Go.Sk
open Go.RowKit
section
variable {B : World} {P : Program} {n : Fm} {m : Bool} {l0 rest : List Oper} {E : Env} {H R : List HP} {Q : Exit → Act → World → Prop} {d : Nat} {ty t : TypeId} {pos : String} {af : Array Edge} {g : Option (Nat × Bool)} {x : Operand}
theorem Cs.rd {b : Nat} {e : TypeId} {l : List Value} (hs : Sel H (Cs b e l) R) : Rd B H (some ⟨b, 0, none⟩) 1 1 l.length l :=
 ⟨(Nat.one_mul _).symm, Nat.le_refl _, fun w hS => ⟨fun _ => rfl, fun j u hj => by
  rw [adr, Option.getD_some, addr_add, cs_cell (hS.cs hs).1]
  exact hj⟩⟩
/-- A cell of a block that is only read. -/
theorem RT.ldB (T : Tab P) {b off k c z : Nat} {xs : List Value} {u : Value} (hx : ev E x = some (.pointer (some ⟨b, off, none⟩))) (hr : Rd B H (some ⟨b, 0, none⟩) k c z xs) (hu : xs[off]? = some u) (ht : al T.szs t = some (1, false)) (hw : wt l0 E g = some true) (hd : Nat.blt d n = true)
  (kt : RT B P n m l0 rest ((d, u) :: E) H Q) : RT B P n m l0 (⟨some d, .load t x, ty, pos, af, g⟩ :: rest) E H Q :=
 RT.y hw (by simpa [Nat.blt_eq] using hd) (y_ldr T ht (a := some ⟨b, 0, none⟩) (j := off) (by rw [adr, Option.getD_some, addr_add]; exact hx) hr hu) kt
/-- A struct that can be read at an address. -/
def StAt (B : World) (H : List HP) (ad : Addr) (l : List Value) : Prop := ∃ a k c z xs j, Rd B H a k c z xs ∧ ad = (adr a).add j ∧ ∀ i u, l[i]? = some u → xs[j + i]? = some u
theorem StAt.cons {p : HP} {ad : Addr} {l : List Value} (h : StAt B H ad l) : StAt B (p :: H) ad l := by
 obtain ⟨a, k, c, z, xs, j, h1, h2, h3⟩ := h
 exact ⟨a, k, c, z, xs, j, h1.cons, h2, h3⟩
theorem StAt.under {ad : Addr} {l : List Value} (h : StAt B H ad l) : ∀ H', StAt B (H' ++ H) ad l
 | [] => h
 | _ :: H' => (StAt.under h H').cons
theorem StAt.row {a : Option Addr} {k c z : Nat} {xs l : List Value} {j : Nat} (h : Rd B H a k c z xs) (hl : (xs.drop j).take l.length = l) : StAt B H ((adr a).add j) l :=
 ⟨a, k, c, z, xs, j, h, rfl, fun i u hi => by
  rw [← hl, List.getElem?_take] at hi
  split at hi
  ·simpa using hi
  ·cases hi⟩
theorem StAt.cs {b : Nat} {l : List Value} {k c z : Nat} (h : Rd B H (some ⟨b, 0, none⟩) k c z l) : StAt B H ⟨b, 0, none⟩ l :=
 ⟨_, _, _, _, l, 0, h, by rw [adr, Option.getD_some, addr_add], fun i u hi => by rw [Nat.zero_add]; exact hi⟩
theorem RT.ldS (T : Tab P) {ad : Addr} {off : Nat} {l : List Value} {u : Value} (hx : ev E x = some (.pointer (some (ad.add off)))) (hs : StAt B H ad l) (hu : l[off]? = some u) (ht : al T.szs t = some (1, false)) (hw : wt l0 E g = some true) (hd : Nat.blt d n = true)
  (kt : RT B P n m l0 rest ((d, u) :: E) H Q) : RT B P n m l0 (⟨some d, .load t x, ty, pos, af, g⟩ :: rest) E H Q := by
 obtain ⟨a, k, c, z, xs, j, h1, rfl, h3⟩ := hs
 rw [addr_addadd] at hx
 exact RT.y hw (by simpa [Nat.blt_eq] using hd) (y_ldr T ht hx h1 (h3 off u hu)) kt
theorem RT.faG (T : Tab P) {f s off z : Nat} {gg : Bool} {ad : Addr} (hx : ev E x = some (.pointer (some ad))) (hf : al2 T.flds s f = some (off, z + 1, gg)) (hw : wt l0 E g = some true) (hd : Nat.blt d n = true)
  (k : RT B P n m l0 rest ((d, .pointer (some (ad.add off))) :: E) H Q) : RT B P n m l0 (⟨some d, .fieldAddr s x f, ty, pos, af, g⟩ :: rest) E H Q :=
 RT.y hw (by simpa [Nat.blt_eq] using hd) (y_run fun o aa w ho _ hA _ => by
  unfold execOp
  simp only [ho, hA.ev hx, Sem.run_bind, run_fa (T.fld hf), Result.andThen_ok]
  rfl) k
/-- A call of a closure that leaves the pieces as they are. -/
theorem RT.qcallC (T : Tab P) {f : FuncId} {bb : Bool} {xs : List Operand} {vs caps : List Value} {ats : Array TypeId} {v : Value} (qx : ev E x = some (.func (.func f) #[] caps.toArray)) (qv : evs E xs = some vs) (qq : QSp B P f (vs ++ caps) H v) (qf : al T.funs f = some bb) (qw : wt l0 E g = some true) (qd : Nat.blt d n = true)
  (qk : RT B P n m l0 rest ((d, v) :: E) H Q) : RT B P n m l0 (⟨some d, .call { callee := .value x, args := xs.toArray, argTypes := ats }, ty, pos, af, g⟩ :: rest) E H Q :=
 RT.y qw (by simpa [Nat.blt_eq] using qd) (fun o aa w ho _ hA hS => by
  have hrun : (execOp aa.eval o).run P w = .ok (.enter f (vs ++ caps).toArray) w := by
   unfold execOp
   have hm : xs.map aa.eval = vs := hA.evs qv
   simp only [ho, resolve, Sem.run_bind, List.map_toArray, hm, hA.ev qx, Deferred.ofValue, Sem.run_pure, Result.andThen_ok, invoke]
   simpa using run_call (T := T) qf
  unfold Oper.quietAt
  rw [hrun]
  exact ⟨rfl, qq w hS⟩) qk
theorem RT.mv1 {v : Value} (hx : ev E x = some v) (hw : wt l0 E g = some true) (hd : Nat.blt d n = true)
  (k : RT B P n m l0 rest ((d, v) :: E) H Q) : RT B P n m l0 (⟨some d, .move x, ty, pos, af, g⟩ :: rest) E H Q := RT.y hw (by simpa [Nat.blt_eq] using hd) (y_move hx) k
theorem RT.nilG {ad : Addr} (hx : ev E x = some (.pointer (some ad))) (hw : wt l0 E g = some true) (hd : Nat.blt d n = true)
  (k : RT B P n m l0 rest ((d, .pointer (some ad)) :: E) H Q) : RT B P n m l0 (⟨some d, .nilCheck x, ty, pos, af, g⟩ :: rest) E H Q :=
 RT.y hw (by simpa [Nat.blt_eq] using hd) (y_nil hx) k
end
end Go.Sk
end
section
namespace Go.Sk
open Go.RowKit
def okF (P : Program) (t : TypeId) (v : Value) : Bool := match P.underlying t, v with
 | some (.int _), .int _ _ => true
 | some .bool, .bool _ => true
 | some .string, .string _ => true
 | _, _ => false
def sameS (P : Program) (t : TypeId) (xs : List Value) : Bool := match P.underlying t with
 | some (.struct fs) => !P.stoodInHeld t && !P.eqGuardType P.depth t && fs.toList.all fun f => match xs[f.offset]? with
  | some v => okF P f.type v
  | none => false
 | _ => false
theorem okF_eq {P : Program} {t : TypeId} {v : Value} (h : okF P t v = true) (w : World) (d : Nat) : (Op.equalIn (d + 1) t v v).run P w = .ok true w := by
 unfold okF at h
 split at h
 ·rename_i k k' n hu
  simp [run_equalIn_int w d t k' k n n hu]
 ·rename_i b hu
  simp [run_equalIn_bool' w d t b b hu]
 ·rename_i s hu
  simp [run_equalIn_string w d t s s hu]
 ·cases h
theorem okF_part {P : Program} {t : TypeId} {v : Value} (h : okF P t v = true) (w : World) {xs : List Value} {i : Nat} (hi : xs[i]? = some v) : (part t xs.toArray i).run P w = .ok v w := by
 have hx : xs.toArray[i]? = some v := by simpa using hi
 unfold okF at h
 split at h
 ·rename_i k k' n hu
  simp [part, isAgg, run_underlying hu, hx]
 ·rename_i b hu
  simp [part, isAgg, run_underlying hu, hx]
 ·rename_i s hu
  simp [part, isAgg, run_underlying hu, hx]
 ·cases h
theorem eqFields_same {P : Program} {w : World} {d : Nat} {xs : List Value} : ∀ {fs : List Field}, (fs.all fun f => match xs[f.offset]? with
  | some v => okF P f.type v
  | none => false) = true → (Op.eqFields (d + 1) xs.toArray xs.toArray fs).run P w = .ok true w
 | [], _ => rfl
 | f :: fs, h => by
  rw [List.all_cons, Bool.and_eq_true] at h
  obtain ⟨h1, h2⟩ := h
  have ih := eqFields_same (w := w) (d := d) h2
  split at h1
  ·rename_i v hv
   have hp := okF_part h1 w hv
   have he := okF_eq h1 w d
   simp only [Op.eqFields]
   split
   ·simp only [Sem.run_bind, hp, Result.andThen_ok, he, Bool.not_true, Bool.false_eq_true, if_false]
    exact ih
   ·exact ih
  ·cases h1
section
variable {B : World} {P : Program} {n : Fm} {m : Bool} {l0 rest : List Oper} {E : Env} {H : List HP} {Q : Exit → Act → World → Prop} {d : Nat} {ty t t' : TypeId} {pos : String} {af : Array Edge} {g : Option (Nat × Bool)} {x y : Operand}
theorem RT.neS {xs : List Value} (hx : ev E x = some (.agg xs.toArray)) (hy : ev E y = some (.agg xs.toArray)) (hs : sameS P t xs = true) (hw : wt l0 E g = some true) (hd : Nat.blt d n = true)
  (k1 : RT B P n m l0 rest ((d, .bool false) :: E) H Q) : RT B P n m l0 (⟨some d, .binOp .neq t x y t', ty, pos, af, g⟩ :: rest) E H Q := by
 have hy2 : Yld B P n E H (.binOp .neq t x y t') ty (.bool false) := y_run fun o aa w ho _ hA _ => by
  unfold sameS at hs
  split at hs
  ·rename_i fs hu
   rw [Bool.and_eq_true, Bool.and_eq_true] at hs
   obtain ⟨⟨h1, h2⟩, h3⟩ := hs
   have hf : P.fieldsOf t = fs := by unfold Program.fieldsOf; rw [hu]
   have e1 := run_eqGuard_agg (P := P) w .neq t x y xs.toArray xs.toArray (by simpa using h2)
   have e2 : (Op.equalIn 10000 t (.agg xs.toArray) (.agg xs.toArray)).run P w = .ok true w := by
    rw [show (10000 : Nat) = 9998 + 1 + 1 from rfl, run_equalIn_struct w (9998 + 1) t _ _ (by rw [hf]; exact hu) (by simpa using h1), hf]
    exact eqFields_same h3
   unfold execOp
   simp only [ho, hA.ev hx, hA.ev hy, e1, Sem.run_bind, Result.andThen_ok, run_neq_struct, e2]
   rfl
  ·cases hs
 exact RT.y hw (by simpa [Nat.blt_eq] using hd) hy2 k1
end
end Go.Sk
end
section
namespace Go.Sk
open Go.RowKit
section
variable {B : World} {P : Program} {n : Fm} {l0 rest : List Oper} {E : Env} {H R : List HP} {Q : Exit → Act → World → Prop} (T : Tab P) {ty t : TypeId} {pos : String} {af : Array Edge} {g : Option (Nat × Bool)} {x y : Operand}
end
section
variable {B : World} {R : List HP} {w : World}
theorem Bag.split {qs ps : List HP} (s : Sat B (Bag (qs ++ ps) :: R) w) : Sat B (qs ++ (Bag ps :: R)) w := by
 have h := Bag.open_ s
 rw [List.append_assoc] at h
 refine h.mono fun hh hs => ?_
 obtain ⟨x, y, d, lx, ly, hb, hr⟩ := star_cut qs hs
 exact star_glue qs d lx ly hb (by
  obtain ⟨x2, y2, d2, lx2, ly2, hb2, hr2⟩ := star_cut ps hr
  exact ⟨x2, y2, d2, lx2, ly2, hb2, hr2⟩)
end
end Go.Sk
end
section
namespace Go.Sk
open Go.RowKit
section
variable {P : Program} {ops : Array Oper} {C : World → Prop}
/-- So many operations come up, each below n and quiet in the class; then L holds. -/
def hdQ (P : Program) (ops : Array Oper) (C : World → Prop) (n : Nat) (L : Array Bool → Act → Prop) : Nat → Array Bool → Act → Prop
 | 0, ls, a => L ls a
 | f + 1, ls, a => Region.ready .any ops ls ≠ [] ∧ ∀ i ∈ Region.ready .any ops ls, i < n ∧ qOp P ops C i (hdQ P ops C n L f (ls.setIfInBounds i true)) a
theorem hdQ.any {n g : Nat} {L : Array Bool → Act → Prop} {Q' : Exit → Act → World → Prop} (hL : ∀ ls a w, C w → L ls a → wpAny P .any ops Q' g ls a w) :
  ∀ (f : Nat) (ls : Array Bool) (a : Act) (w : World), C w → hdQ P ops C n L f ls a → wpAny P .any ops Q' (f + g) ls a w
 | 0, ls, a, w, hw, h => by rw [Nat.zero_add]; exact hL _ _ _ hw h
 | f + 1, ls, a, w, hw, h => by
  rw [show f + 1 + g = (f + g) + 1 by omega]
  exact ⟨fun h0 => absurd h0 h.1, fun i hi => wpOp_of_qOp hw (fun a' w' hw' h' => hdQ.any hL f _ a' w' hw' h') (h.2 i hi).2⟩
theorem hdQ.first {n i : Nat} {oi : Oper} {v : Value} {L : Array Bool → Act → Prop} (hi : ops[i]? = some oi) (hsel : ∀ (j : Nat) (o : Oper) cs b, ops[j]? = some o → o.op ≠ .select cs b)
  (hs : Region.sinkB .any ops n = true) (hc : Region.chainB .any ops n = true) (hn : n < ops.size) (hin : i < n) (hdone : ∀ ls a, L ls a → ∀ j ∈ Region.ready .any ops ls, n ≤ j) :
  ∀ (f : Nat) (ls : Array Bool) (a : Act), HeadInv .any ops n ls →
   (∀ j oj, ops[j]? = some oj → j ≠ i → ls.getD j true = false → (∀ e ∈ oj.after, Region.binds .any e = true → e.on ≠ i) → oi.apart ops oj = true) →
   i ∈ Region.ready .any ops ls → YieldsIn P ops C oi v a → hdQ P ops C n L f (ls.setIfInBounds i true) (a.put oi.dst v) → hdQ P ops C n L (f + 1) ls a := by
 intro f
 induction f with
 | zero =>
  intro ls a inv _ hr hy H
  have hun := (mem_ready.1 hr).1
  refine ⟨fun h => (by rw [h] at hr; cases hr), fun j hj => ?_⟩
  have hjn : j < n := Nat.lt_of_not_le fun h => tail_waits hs hc hn inv _ i rfl hin hun j h hj
  refine ⟨hjn, ?_⟩
  by_cases hji : j = i
  ·subst hji; exact hy.qOp hi H
  ·have := hdone _ _ H j (ready_mono hj hji)
   omega
 | succ f ih =>
  intro ls a inv hfree hr hy H
  have hun := (mem_ready.1 hr).1
  refine ⟨fun h => (by rw [h] at hr; cases hr), fun j hj => ?_⟩
  have hjn : j < n := Nat.lt_of_not_le fun h => tail_waits hs hc hn inv _ i rfl hin hun j h hj
  refine ⟨hjn, ?_⟩
  by_cases hji : j = i
  ·subst hji; exact hy.qOp hi H
  ·have h1 := (H.2 j (ready_mono hj hji)).2
   obtain ⟨hjun, oj, hoj, hall⟩ := mem_ready.1 hj
   have hnot : ∀ e ∈ oj.after, Region.binds .any e = true → e.on ≠ i := fun e he hb heq => by
    have h1 := hall e he hb
    rw [heq, getD_both hun] at h1
    cases h1
   have h2 := qOp_put hoj (hfree j oj hoj hji hjun hnot) (fun cs b => hsel i oi cs b hi) (fun cs b => hsel j oj cs b hoj) hy h1
   refine qOp_mono (fun a' h3 => ih (ls.setIfInBounds j true) a' (inv.set hj hjn) (fun k ok hk hki hun hno => ?_) (ready_mono hr (Ne.symm hji)) h3.1 ?_) h2
   ·refine hfree k ok hk hki ?_ hno
    by_cases hjk : j = k
    ·subst hjk; exact hjun
    ·rw [getD_set_ne true hjk] at hun; exact hun
   ·rw [Array.setIfInBounds_comm _ _ hji]
    exact h3.2
theorem hdQ.lex {n g : Nat} {Lq : Act → Prop} (hsel : Region.noSelect ops = true) (hs : Region.sinkB .any ops n = true) (hc : Region.chainB .any ops n = true) (hn : n < ops.size) :
  ∀ (l : List Oper) (k : Nat) (ls : Array Bool) (a : Act), (∀ j, j < l.length → l[j]? = ops[k + j]?) → k + l.length = n → HeadInv .any ops n ls →
  Region.lexHead .any ops g l.length k ls = true → wpQuiet P ops C Lq l a → hdQ P ops C n (fun ls' a' => Region.seqB .any ops g n ls' = true ∧ Lq a') l.length ls a
 | [], k, ls, a, _, hk, _, hB, h => by
  obtain rfl : k = n := by simpa using hk
  exact ⟨by simpa [Region.lexHead] using hB, h⟩
 | o :: l, k, ls, a, hl, hk, inv, hB, h => by
  have h0 : ops[k]? = some o := by simpa using (hl 0 (by simp)).symm
  simp only [List.length_cons, Region.lexHead, Bool.and_eq_true] at hB
  obtain ⟨⟨hr, hf⟩, hB'⟩ := hB
  have hkn : k < n := by simp only [List.length_cons] at hk; omega
  have hr' : k ∈ Region.ready .any ops ls := by simpa using hr
  have hst : qOp P ops C k (wpQuiet P ops C Lq l) a := by unfold qOp; simp only [h0]; exact h
  obtain ⟨v, hy, hK⟩ := yieldsIn_of_qOp h0 hst
  exact hdQ.first h0 (Region.noSelect_spec hsel) hs hc hn hkn (fun ls' a' hL => seqB_ready hL.1) l.length ls a inv (Region.free_spec h0 hf) hr' hy
   (hdQ.lex hsel hs hc hn l (k + 1) _ _ (fun j hj => by have := hl (j + 1) (by simp; omega); simpa [Nat.add_assoc, Nat.add_comm 1 j] using this) (by simp only [List.length_cons] at hk; omega) (inv.set hr' hkn) hB' hK)
theorem wpList_of_N {Q : Exit → Act → World → Prop} : ∀ {l : List Oper} {a : Act} {w : World}, wpN P ops Q l a w → wpList P ops Q l a w
 | [], _, _, h => h
 | o :: rest, a, w, h => by
  unfold wpN at h
  unfold wpList
  split
  ·rename_i hw
   rw [if_pos hw] at h
   exact .inl (Oper.wp_mono (fun a w hk => wpList_of_N hk) h)
  ·rename_i hw
   rw [if_neg hw] at h
   exact wpList_of_N h
end
section
variable {B : World} {P : Program} {n n' : Fm} {E : Env} {H R : List HP} {Q : Exit → Act → World → Prop}
/-- What stands behind the quiet part of a region: its tail. -/
def TailQ (P : Program) (l rest : List Oper) (Q : Exit → Act → World → Prop) : Exit → Act → World → Prop := fun ex a w =>
 match ex with
 | .normal => wpN P l.toArray Q rest a w
 | _ => False
/-- A region whose order is open: quiet up to k; the rest waits for all of that, and comes in its order. -/
theorem CT.tail {id : Nat} {l : List Oper} (k : Nat) (hm : P.follows .mixedOrders = true) (hB : Region.lexTailB .any l.toArray k = true) (h : RT B P n false l (l.take k) E H (TailQ P l (l.drop k) Q)) (hro : n.ro = none := by rfl) : CT B P n (.region id l.toArray true) E H Q := by
 intro a w hA hS
 rw [Fm.wide hro]
 refine wpIn_wide.2 ?_
 simp only [Region.lexTailB, Bool.and_eq_true, decide_eq_true_eq] at hB
 obtain ⟨⟨⟨⟨hsel, hn⟩, hs⟩, hc⟩, hlex⟩ := hB
 have hn' : k < l.length := by simpa using hn
 have htl : (l.take k).length = k := by simp; omega
 have hdl : (l.drop k).length = l.toArray.size - k := by simp
 have inv0 : HeadInv .any l.toArray k (Array.replicate l.toArray.size false) :=
  ⟨by simp, fun j oj _ hl => (by rw [getD_replicate_false] at hl; cases hl), fun t _ ht => getD_in (by simpa using ht) (getD_replicate_false _ _)⟩
 have hq := h a hA
 have H1 := hdQ.lex (C := Sat B H) (g := l.toArray.size - k) hsel hs hc hn (l.take k) 0 _ a (fun j hj => by
  have hj' : j < k := by rw [htl] at hj; exact hj
  simp [hj']) (by simpa using htl) inv0 (by rw [htl]; exact hlex) hq
 refine wp_region_any hm ?_
 have := hdQ.any (Q' := Q) (g := l.toArray.size - k) (fun ls a' w' hw' hL => by
  have := wpAny_of_seq (md := .any) (Q' := Q) (l.drop k) k ls a' w' (fun j => by simp [List.getElem?_drop]) (by rw [hdl]; exact hL.1) (wpList_of_N (hL.2 w' hw'))
  rwa [hdl] at this) _ _ _ _ (hS.drawn (w.drawn + 1)) H1
 rw [htl, show k + (l.toArray.size - k) = l.toArray.size by omega] at this
 exact this
theorem AtQ.tail {l rest : List Oper} (h : RT B P n true l rest E H Q) : AtQ B n E H (TailQ P l rest Q) .normal := fun a w hA hS => h a w hA hS
/-! ### panics, deferred calls -/
variable {l0 rest : List Oper} {ty : TypeId} {pos : String} {af : Array Edge} {g : Option (Nat × Bool)} {m : Bool} {x : Operand} {d : Nat}
theorem RT.panic {t : TypeId} {v : Value} {dst : Option Nat} (hx : ev E x = some (.iface t v)) (hw : wt l0 E g = some true) (h : AtQ B n E H Q (.panic (pan (.iface t v)))) : RT B P n true l0 (⟨dst, .panic x, ty, pos, af, g⟩ :: rest) E H Q :=
 RT.eff hw fun o aa w K ho _ hdd hA hS hK => by
  have hex : (execOp aa.eval o).run P w = .halt (.panic (.iface t v)) w := by
   unfold execOp
   simp only [ho, hA.ev hx, Instr.panic, Sem.run_bind]
   rfl
  unfold Oper.wp
  rw [hex]
  exact h _ _ hA hS
theorem RT.mkI {t : TypeId} {v : Value} {td : TypeDesc} (hx : ev E x = some v) (ht : P.underlying t = some td) (hi : ∀ b, td ≠ .interface b) (hw : wt l0 E g = some true) (hd : Nat.blt d n = true)
  (k : RT B P n m l0 rest ((d, .iface t v) :: E) H Q) : RT B P n m l0 (⟨some d, .makeInterface t x, ty, pos, af, g⟩ :: rest) E H Q :=
 RT.y hw (by simpa [Nat.blt_eq] using hd) (y_run fun o aa w ho _ hA _ => by
  unfold execOp
  simp only [ho, hA.ev hx, Instr.makeInterface, Sem.run_bind, run_underlying ht, Result.andThen_ok]
  cases td <;> first | exact absurd rfl (hi _) | rfl) k
theorem RT.defer {f : FuncId} {caps : List Value} {dst : Option Nat} {ats : Array TypeId} (hx : ev E x = some (.func (.func f) #[] caps.toArray)) (hdst : dst = none) (hw : wt l0 E g = some true)
  (k : RT B P { n with dl := { target := .fn (.func f) caps.toArray, args := #[] } :: n.dl } true l0 rest E H Q) : RT B P n true l0 (⟨dst, .defer { callee := .value x, args := #[], argTypes := ats }, ty, pos, af, g⟩ :: rest) E H Q :=
 fun a w hA hS => by
  have := wt_wanted hA (o := ⟨dst, .defer { callee := .value x, args := #[], argTypes := ats }, ty, pos, af, g⟩) hw
  refine wpN_step fun K hK => ?_
  rw [if_pos this]
  have hex : (execOp a.eval (⟨dst, .defer { callee := .value x, args := #[], argTypes := ats }, ty, pos, af, g⟩ : Oper)).run P w = .ok (.defer { target := .fn (.func f) caps.toArray, args := #[] }) w := by
   unfold execOp
   simp only [resolve, hA.ev hx, Deferred.ofValue, Sem.run_bind, Sem.run_pure, Result.andThen_ok, List.map_toArray, List.map_nil]
   rfl
  unfold Oper.wp
  rw [hex]
  simp only [Oper.upon, hdst]
  refine hK _ _ (k _ _ ⟨hA.size, ?_, hA.get⟩ hS)
  show _ :: a.defers = _
  rw [hA.defers]
  rfl
end
/-! ### a struct's literal, parts of several cells -/
def buildW (E : Env) (pl : List (Nat × Nat)) : List (Nat × Operand) → List Value → Option (List Value)
 | [], cells => some cells
 | (i, x) :: ps, cells => match pl[i]? with
  | some (off, z) => match ev E x with
   | some v => bif Nat.beq v.cells.size z && Nat.ble (off + z) cells.length then buildW E pl ps (cells.take off ++ v.cells.toList ++ cells.drop (off + z)) else none
   | none => none
  | none => none
section
variable {B : World} {P : Program} {n : Fm} {m : Bool} {l0 rest : List Oper} {E : Env} {H R : List HP} {Q : Exit → Act → World → Prop} {d : Nat} {ty : TypeId} {pos : String} {af : Array Edge} {g : Option (Nat × Bool)} {t : TypeId}
theorem buildW_fill {pl : List (Nat × Nat)} {a : Act} (hA : Agr n E a) :
  ∀ (ps : List (Nat × Operand)) (cells l : List Value), buildW E pl ps cells = some l →
   Instr.fill (fun i => pl[i]?) cells.toArray (ps.map fun (i, x) => (i, a.eval x)) = some l.toArray
 | [], cells, l, h => by cases h; rfl
 | (i, x) :: ps, cells, l, h => by
  simp only [buildW] at h
  split at h
  ·rename_i off z hp
   split at h
   ·rename_i v hv
    cases hb : Nat.beq v.cells.size z && Nat.ble (off + z) cells.length with
    | false => rw [hb] at h; cases h
    | true =>
     rw [hb, cond_true] at h
     rw [Bool.and_eq_true, Nat.beq_eq, Nat.ble_eq] at hb
     obtain ⟨rfl, hle⟩ := hb
     have ih := buildW_fill hA ps _ l h
     simp only [List.map_cons, Instr.fill, hp, hA.ev hv]
     rw [if_neg (by simp; omega)]
     rw [fold_cells _ _ _ (by simpa using hle)]
     simpa using ih
   ·cases h
  ·cases h
theorem RT.buildW (T : Tab P) {parts : List (Nat × Operand)} {pl : List (Nat × Nat)} {cells l : List Value} (hz : al T.zers t = some (.agg cells.toArray)) (hp : al T.plcs t = some pl) (hl : buildW E pl parts cells = some l) (hw : wt l0 E g = some true) (hd : Nat.blt d n = true)
  (k : RT B P n m l0 rest ((d, .agg l.toArray) :: E) H Q) : RT B P n m l0 (⟨some d, .build t parts.toArray, ty, pos, af, g⟩ :: rest) E H Q :=
 RT.y hw (by simpa [Nat.blt_eq] using hd) (y_run fun o a w ho _ hA _ => by
  have hz' := T.zer hz
  have hp' := T.plc hp
  unfold zerB at hz'
  unfold plB at hp'
  cases hi : P.info? t with
  | none => simp [hi] at hz'
  | some it =>
   simp only [hi, Option.bind_some] at hz'
   split at hp'
   ·rename_i fs hu
    have hb : P.built t (parts.map fun (i, x) => (i, a.eval x)) = some l.toArray := by
     unfold Program.built
     simp only [hi, hu, hz', hp', Value.cells]
     have := buildW_fill hA parts cells l hl
     simpa using this
    unfold execOp
    have hr := run_build w t (parts.toArray.map fun (i, x) => (i, a.eval x)) l.toArray (by simpa using hb)
    simp only [ho, Sem.run_bind, hr, Result.andThen_ok, Sem.run_pure]
   ·cases hp') k
end
/-- A function that defers returns such a value. -/
def FinD (B : World) (P : Program) (fn : Func) (R : List HP) (Post : Value → List HP → Prop) : Exit → Act → World → Prop :=
 bodyPostD P fn fun e w' => ∃ v H', e = .returned v ∧ Post v H' ∧ Sat B (H' ++ R) w'
theorem Sp.bodyD {B : World} {P : Program} {f : FuncId} {fn : Func} {c : Code} {n : Nat} {vs : List Value} {R Pre : List HP} {Post : Value → List HP → Prop}
  (hf : P.funcs[f]? = some fn) (hb : fn.body = some c) (hn : fn.ntmps = n) (hl : vs.length ≤ n)
  (h : CT B P (.mk0 n) c (argE 0 vs) (Pre ++ R) (FinD B P fn R Post)) : Sp B P f vs R Pre Post := by
 intro w hS
 refine calls_of_wp_defers hf hb (wpIn_wide.1 (h _ w ⟨?_, rfl, fun t v e => ?_⟩ hS))
 ·simp [hn]; omega
 ·obtain ⟨_, e'⟩ := argE_lk vs 0 t v e
  have : t < vs.length := (List.getElem?_eq_some_iff.1 (by simpa using e')).1
  rw [Array.getElem?_append_left (by simpa using this)]
  simpa using e'
/-- A deferred call, the frame leaving so, then so. -/
def SpD (B : World) (P : Program) (f : FuncId) (vs : List Value) (u u' : FrameMode) (R Pre H' : List HP) : Prop :=
 ∀ w, Sat B (Pre ++ R) w → CallsD P f vs.toArray u w fun e u2 w' => e = .returned (.tuple #[]) ∧ u2 = u' ∧ Sat B (H' ++ R) w'
section
variable {B : World} {P : Program} {E : Env} {H H' Pre R : List HP} {fn : Func} {Post : Value → List HP → Prop} {f : FuncId} {n : Nat} {vs caps : List Value}
theorem leaves_one {u u' : FrameMode} {R2 : List HP} {tmps : Array Value} {w : World} {v : Value} {Hf : List HP} (hu : u ≠ .run) (hs : settle u' = .returning) (hcall : ∀ args, (callFunc f args).run P w = .ok (.enter f args) w) (hq : SpD B P f caps u u' R2 Pre H') (hS : Sat B (Pre ++ R2) w)
  (hres : ∀ w', Sat B (H' ++ R2) w' → (results fn tmps).run P w' = .ok v w') (hp : Post v Hf) (hk : ∀ w', Sat B (H' ++ R2) w' → Sat B (Hf ++ R) w') :
  Leaves P fn tmps (fun e w' => ∃ v H', e = .returned v ∧ Post v H' ∧ Sat B (H' ++ R) w') [{ target := .fn (.func f) caps.toArray, args := #[] }] u w := by
 refine leaves_cons (f := f) (args := caps.toArray) hu (by simp [invoke, go_sem, hcall]) ((hq w hS).mono fun e u2 w' ⟨he, hu2, hS'⟩ => ?_)
 subst he hu2
 simp only [hs]
 exact ⟨v, hres w' hS', v, Hf, rfl, hp, hk w' hS'⟩
theorem AtQ.finD {R2 : List HP} {v : Value} {Hf : List HP} (hcall : ∀ args w, (callFunc f args).run P w = .ok (.enter f args) w) (hq : SpD B P f caps .returning .returning R2 Pre H') (hfr : Fr H Pre R2)
  (hres : ∀ a w, Agr ⟨n, [], none, [{ target := .fn (.func f) caps.toArray, args := #[] }]⟩ E a → Sat B (H' ++ R2) w → (results fn a.tmps).run P w = .ok v w) (hp : Post v Hf) (hk : ∀ w', Sat B (H' ++ R2) w' → Sat B (Hf ++ R) w') {ex : Exit} (hex : ex = .normal ∨ ex = .ret) :
  AtQ B ⟨n, [], none, [{ target := .fn (.func f) caps.toArray, args := #[] }]⟩ E H (FinD B P fn R Post) ex := by
 intro a w hA hS
 have : Leaves P fn a.tmps (fun e w' => ∃ v H', e = .returned v ∧ Post v H' ∧ Sat B (H' ++ R) w') a.defers .returning w := by
  rw [hA.defers]
  exact leaves_one (by intro h; cases h) rfl (fun args => hcall args w) hq (hS.fr hfr) (fun w' hS' => hres a w' hA hS') hp hk
 rcases hex with rfl | rfl <;> exact this
theorem AtQ.finDp {R2 : List HP} {v pv : Value} {Hf : List HP} (hcall : ∀ args w, (callFunc f args).run P w = .ok (.enter f args) w) (hq : SpD B P f caps (.panicking (pan pv)) (.panicking [{ v := pv, recovered := true }]) R2 Pre H') (hfr : Fr H Pre R2)
  (hres : ∀ a w, Agr ⟨n, [], none, [{ target := .fn (.func f) caps.toArray, args := #[] }]⟩ E a → Sat B (H' ++ R2) w → (results fn a.tmps).run P w = .ok v w) (hp : Post v Hf) (hk : ∀ w', Sat B (H' ++ R2) w' → Sat B (Hf ++ R) w') :
  AtQ B ⟨n, [], none, [{ target := .fn (.func f) caps.toArray, args := #[] }]⟩ E H (FinD B P fn R Post) (.panic (pan pv)) := by
 intro a w hA hS
 show Leaves P fn a.tmps (fun e w' => ∃ v H', e = .returned v ∧ Post v H' ∧ Sat B (H' ++ R) w') a.defers (.panicking (pan pv)) w
 rw [hA.defers]
 exact leaves_one (by intro h; cases h) rfl (fun args => hcall args w) hq (hS.fr hfr) (fun w' hS' => hres a w' hA hS') hp hk
/-- What a deferred function leaves. -/
def RecQ (B : World) (R H' : List HP) : Exit → Act → World → Prop := fun ex a w => (ex = .normal ∨ ex = .ret) ∧ a.defers = [] ∧ Sat B (H' ++ R) w
theorem AtQ.rec_ {ex : Exit} (hex : ex = .normal ∨ ex = .ret) (hs : ∀ w, Sat B H w → Sat B (H' ++ R) w) : AtQ B (.mk0 n) E H (RecQ B R H') ex := fun _ w hA hS => ⟨hex, hA.defers, hs w hS⟩
/-- A deferred function that begins by recover. -/
theorem SpD.body {c : Code} {id d : Nat} {ats : Array TypeId} {ty : TypeId} {pos : String} {af : Array Edge} {u u' : FrameMode} {rv : Value} (hf : P.funcs[f]? = some fn)
  (hb : fn.body = some (.seq (.region id #[⟨some d, .call { callee := .builtin .recover, args := #[], argTypes := ats }, ty, pos, af, none⟩] false) c)) (hr : fn.results = #[]) (hn : fn.ntmps = n) (hl : vs.length ≤ n) (hd : d < n)
  (hu : u = .returning ∧ u' = .returning ∧ rv = .nilIface ∨ ∃ pv, u = .panicking (pan pv) ∧ u' = .panicking [{ v := pv, recovered := true }] ∧ rv = pv)
  (h : CT B P (.mk0 n) c ((d, rv) :: argE 0 vs) (Pre ++ R) (RecQ B R H')) : SpD B P f vs u u' R Pre H' := by
 intro w hS
 refine callsD_of_wpS hf hb fun c₀ cs hm => wpS_seq (wpS_region ?_)
 have hA0 : Agr (.mk0 n) (argE 0 vs) { tmps := vs.toArray ++ Array.replicate (fn.ntmps - vs.toArray.size) undef, defers := [] } := by
  refine ⟨?_, rfl, fun t v e => ?_⟩
  ·simp [hn]; omega
  ·obtain ⟨_, e'⟩ := argE_lk vs 0 t v e
   have : t < vs.length := (List.getElem?_eq_some_iff.1 (by simpa using e')).1
   rw [Array.getElem?_append_left (by simpa using this)]
   simpa using e'
 have hrun : ∀ (ρ : Operand → Value), (execOp ρ (⟨some d, .call { callee := .builtin .recover, args := #[], argTypes := ats }, ty, pos, af, none⟩ : Oper)).run P w = .ok .recover w := fun ρ => by
  unfold execOp
  simp [resolve, invoke, builtin, go_sem]
 have key : ∀ (cs' : List Frame), cs' = { c₀ with mode := u' } :: cs → c.wpS P (bodyPostS P fn c₀ cs fun e u2 w' => e = .returned (.tuple #[]) ∧ u2 = u' ∧ Sat B (H' ++ R) w') (Act.put { tmps := vs.toArray ++ Array.replicate (fn.ntmps - vs.toArray.size) undef, defers := [] } (some d) rv) cs' w := by
  intro cs' hcs
  subst hcs
  refine wpS_of_wp (wpIn_wide.1 (wpIn_mono (h _ w (hA0.put hd rv) hS) ?_))
  rintro ex a' w' ⟨hex, hdf, hS'⟩
  rcases hex with rfl | rfl <;> exact ⟨hdf, u', rfl, _, results_none hr _ _ _, rfl, rfl, hS'⟩
 simp only [List.size_toArray, List.length_cons, List.length_nil, Nat.zero_add, show List.range 1 = [0] from rfl, wpOpsS, List.getElem?_toArray, List.getElem?_cons_zero]
 rw [if_pos (by rfl), hrun]
 rcases hu with ⟨rfl, rfl, rfl⟩ | ⟨pv, rfl, rfl, rfl⟩
 ·have hrec : recoverD (c₀ :: cs) = none := by simp [recoverD, hm]
  simp only [hrec]
  refine key _ ?_
  rw [← hm]
 ·have hrec : recoverD (c₀ :: cs) = some (rv, { c₀ with mode := .panicking [{ v := rv, recovered := true }] } :: cs) := by simp [recoverD, hm]
  simp only [hrec]
  exact key _ rfl
end
end Go.Sk
end
section
namespace Go.Sk
open Go.RowKit
/-- What holds at a panic does not ask the slots. -/
def PanAct (Q : Exit → Act → World → Prop) : Prop := ∀ c a (d : Option Nat) v w, Q (.panic c) (Act.put a d v) w → Q (.panic c) a w
/-- What holds at a panic does not ask the slots of these operations. -/
def PanOn (l : List Oper) (L : List Nat) (Q : Exit → Act → World → Prop) : Prop := ∀ i ∈ L, ∀ o, l[i]? = some o → ∀ c a v w, Q (.panic c) (Act.put a o.dst v) w → Q (.panic c) a w
theorem PanAct.on {Q : Exit → Act → World → Prop} (h : PanAct Q) {l : List Oper} {L : List Nat} : PanOn l L Q := fun _ _ _ _ c a _ w hq => h c a _ _ w hq
theorem FinP.panAct {B : World} {P : Program} {fn : Func} {R : List HP} {Post PP : Value → List HP → Prop} : PanAct (FinP B P fn R Post PP) := fun c a d v w h => by
 cases d <;> exact h
section
variable {P : Program}
variable {ops : Array Oper} {Q : Exit → Act → World → Prop} {S : Array Bool → World → Prop}
/-- An operation that may come up and hands back v, come what may ahead of it, is taken first. -/
theorem anyP_first {T : World → Prop} {i : Nat} {oi : Oper} {v : Value} (hi : ops[i]? = some oi) (hsel : Region.noSelect ops = true) (hQ : ∀ c a v w, Q (.panic c) (Act.put a oi.dst v) w → Q (.panic c) a w)
  (hT : ∀ ls w, Clos ops ls → ls.getD i true = false → S ls w → T w) (hSi : ∀ ls w, S (ls.setIfInBounds i true) w → S ls w) (hSi' : ∀ ls w, S ls w → S (ls.setIfInBounds i true) w) :
  ∀ (k : Nat) (ls : Array Bool) (a : Act) (w : World), Clos ops ls →
   (∀ j oj, ops[j]? = some oj → j ≠ i → ls.getD j true = false → (∀ e ∈ oj.after, Region.binds .any e = true → e.on ≠ i) → oi.apart ops oj = true) →
   i ∈ Region.ready .any ops ls → YieldsIf P ops T oi v a → S ls w → anyS P ops Q S k (ls.setIfInBounds i true) (a.put oi.dst v) w → anyS P ops Q S (k + 1) ls a w := by
 have hno := Region.noSelect_spec hsel
 intro k
 induction k with
 | zero =>
  intro ls a w hc _ hr hy hS h
  refine ⟨fun e => (by rw [e] at hr; cases hr), fun j hj => ?_⟩
  have hji : j = i := by
   by_cases e : j = i
   ·exact e
   ·have := ready_mono hj e
    rw [h.1] at this
    cases this
  subst hji
  exact hy.wpOp hi (hT _ _ hc (mem_ready.1 hr).1 hS) ⟨hSi' _ _ hS, h⟩
 | succ k ih =>
  intro ls a w hc hfree hr hy hS h
  refine ⟨fun e => (by rw [e] at hr; cases hr), fun j hj => ?_⟩
  by_cases hji : j = i
  ·subst hji
   exact hy.wpOp hi (hT _ _ hc (mem_ready.1 hr).1 hS) ⟨hSi' _ _ hS, h⟩
  ·obtain ⟨hjun, oj, hoj, hall⟩ := mem_ready.1 hj
   have hiun := (mem_ready.1 hr).1
   have hnot : ∀ e ∈ oj.after, Region.binds .any e = true → e.on ≠ i := fun e he hb heq => by
    have h1 := hall e he hb
    rw [heq] at h1
    rcases Nat.lt_or_ge i ls.size with h' | h'
    ·simp [h'] at hiun h1; rw [hiun] at h1; cases h1
    ·simp [Array.getElem?_eq_none h'] at h1
   have h2 := wpOp_putIf hoj (hfree j oj hoj hji hjun hnot) (fun cs b => hno i oi cs b hi) (fun cs b => hno j oj cs b hoj) (fun c a w hq => hQ c a _ w hq) hy (h.2 j (ready_mono hj hji))
   refine wpOp_mono (fun a' w' h3 => ?_) h2
   have hS' : S (ls.setIfInBounds j true) w' := hSi _ _ (by rw [← Array.setIfInBounds_comm _ _ hji] at h3 <;> first | exact h3.2.1 | skip)
   refine ⟨hS', ih (ls.setIfInBounds j true) a' w' (hc.set hj) (fun l ol hol hli hun hno => ?_) (ready_mono hr (Ne.symm hji)) h3.1 hS' ?_⟩
   ·refine hfree l ol hol hli ?_ hno
    by_cases hjl : j = l
    ·subst hjl; exact hjun
    ·rw [getD_set_ne true hjl] at hun; exact hun
   ·rw [Array.setIfInBounds_comm _ _ hji]
    exact h3.2.2
theorem anyP_takes {B : World} {HR : List HP} {e : Nat} {l : List Oper} (hsel : Region.noSelect l.toArray = true) {k : Nat} (tl : List Nat) {K : Act → Prop} :
  ∀ (L : List Nat) (ls : Array Bool) (a : Act) (w : World), PanOn l L Q → takesB l.toArray e ls L = true → sinkB l.toArray (L ++ tl) = true → (L ++ tl).getLast? = some e → Clos l.toArray ls →
   wpQuiet P l.toArray (Sat B HR) K (opsAt l L) a → Sat B HR w → (∀ a', K a' → anyS P l.toArray Q (fun ls w => ls.getD e false = false → Sat B HR w) k (tick ls L) a' w) →
   anyS P l.toArray Q (fun ls w => ls.getD e false = false → Sat B HR w) (L.length + k) ls a w
 | [], ls, a, w, _, _, _, _, _, hq, _, hk => by
  have := hk a hq
  rwa [List.length_nil, Nat.zero_add]
 | i :: L, ls, a, w, hQ, ht, hs, hl, hc, hq, hw, hk => by
  have hs' := hs
  simp only [takesB, Bool.and_eq_true, Bool.not_eq_true', beq_eq_false_iff_ne] at ht
  obtain ⟨⟨⟨⟨hr, hf⟩, hie⟩, hpl⟩, ht⟩ := ht
  cases ho : l[i]? with
  | none => simp [ho] at hpl
  | some o =>
   have ho' : l.toArray[i]? = some o := by simpa using ho
   rw [ho'] at hpl
   simp only [Option.map_some, Option.getD_some] at hpl
   have hri : i ∈ Region.ready .any l.toArray ls := by simpa using hr
   simp only [opsAt, ho, wpQuiet] at hq
   have hyk : ∃ v, YieldsIf P l.toArray (Sat B HR) o v a ∧ wpQuiet P l.toArray (Sat B HR) K (opsAt l L) (a.put o.dst v) := by
    split at hq
    ·rename_i hwt
     obtain ⟨v, hv, hn⟩ := hq
     refine ⟨v, .inl ⟨hwt, fun w' hw' => ?_⟩, hn⟩
     have h1 := hv w' hw'
     unfold Oper.quietAt at h1
     cases hr1 : (execOp a.eval o).run P w' with
     | halt x w2 => rw [hr1] at h1; exact h1.elim
     | ok x w2 =>
      obtain ⟨u, rfl⟩ := plain_val hpl hr1
      rw [hr1] at h1
      obtain ⟨rfl, rfl⟩ := h1
      rfl
    ·rename_i hwt
     exact ⟨undef, .inr ⟨by simpa using hwt, rfl⟩, hq⟩
   obtain ⟨v, hy, hn⟩ := hyk
   have hs2 : sinkB l.toArray (L ++ tl) = true := by
    simp only [List.cons_append, sinkB, Bool.and_eq_true] at hs
    exact hs.2
   have hne : L ++ tl ≠ [] := by
    intro h0
    rw [List.cons_append, h0] at hl
    simp only [List.getLast?_singleton, Option.some.injEq] at hl
    exact hie hl
   have hl2 : (L ++ tl).getLast? = some e := by
    rw [List.cons_append] at hl
    obtain ⟨y, M, hM⟩ := List.exists_cons_of_ne_nil hne
    rw [hM] at hl ⊢
    rwa [List.getLast?_cons_cons] at hl
   rw [List.length_cons, show L.length + 1 + k = (L.length + k) + 1 by omega]
   refine anyP_first (T := Sat B HR) ho' hsel (hQ i (by simp) o ho) (fun ls' w' hc' hun hS => hS ?_) (fun ls' w' hS he => hS (by rw [getD_set_ne false hie]; exact he)) (fun ls' w' hS he => hS (by rw [getD_set_ne false hie] at he; exact he)) _ ls a w hc
    (Region.free_spec ho' hf) hri hy (fun _ => hw) (anyP_takes hsel tl L _ _ w (fun j hj => hQ j (by simp [hj])) ht hs2 hl2 (hc.set hri) hn hw hk)
   cases hec : ls'.getD e false with
   | false => rfl
   | true =>
    have h1 := sink_all hc' hec _ hs' hl i (by simp)
    rcases Nat.lt_or_ge i ls'.size with h' | h'
    ·simp [h'] at hun h1; rw [hun] at h1; cases h1
    ·simp [Array.getElem?_eq_none h'] at h1
end


section
variable {P : Program} {B : World} {n : Fm} {E : Env} {H HR : List HP} {Q : Exit → Act → World → Prop}
/-- A region whose order is open, so much of it having come up. HR holds till e has come up. -/
def DTP (B : World) (P : Program) (n : Fm) (l : List Oper) (HR : List HP) (e : Nat) (k : Nat) (ls : Array Bool) (E : Env) (H : List HP) (Q : Exit → Act → World → Prop) : Prop :=
 ∀ a w, Agr n E a → Sat B H w → anyS P l.toArray Q (SF B HR e) k ls a w
theorem CT.drawnP {id : Nat} {l : List Oper} (HR : List HP) (e : Nat) (hm : P.follows .mixedOrders = true) (h : DTP B P n l HR e l.length (Array.replicate l.length false) E H Q) (hro : n.ro = none := by rfl) : CT B P n (.region id l.toArray true) E H Q := by
 intro a w hA hS
 rw [Fm.wide hro]
 refine wpIn_wide.2 ?_
 refine wp_region_any hm (anyS_any (S := SF B HR e) _ _ _ _ ?_)
 have := h a { w with drawn := w.drawn + 1 } hA (hS.drawn _)
 simpa using this
/-- What stands behind the operations that were taken first. -/
def TakePQ (B : World) (P : Program) (l : List Oper) (HR H : List HP) (e : Nat) (k : Nat) (ls : Array Bool) (Q : Exit → Act → World → Prop) : Exit → Act → World → Prop := fun ex a _ =>
 match ex with
 | .normal => ∀ w, Sat B H w → anyS P l.toArray Q (SF B HR e) k ls a w
 | _ => False
theorem DTP.takesOn {l : List Oper} {e k : Nat} {ls : Array Bool} (L tl : List Nat) (hQ : PanOn l L Q) (hm : ∀ w, Sat B H w → Sat B HR w) (hsel : Region.noSelect l.toArray = true) (ht : takesB l.toArray e ls L = true) (hs : sinkB l.toArray (L ++ tl) = true)
  (hl : (L ++ tl).getLast? = some e) (hc : Clos l.toArray ls) (h : RT B P n false l (opsAt l L) E HR (TakePQ B P l HR H e k (tick ls L) Q)) : DTP B P n l HR e (L.length + k) ls E H Q := by
 intro a w hA hS
 exact anyP_takes (B := B) (HR := HR) (Q := Q) hsel tl L ls a w hQ ht hs hl hc (h a hA) (hm w hS) (fun a' hk => hk w (hm w hS) w hS)
theorem DTP.takes {l : List Oper} {e k : Nat} {ls : Array Bool} (L tl : List Nat) (hQ : PanAct Q) (hm : ∀ w, Sat B H w → Sat B HR w) (hsel : Region.noSelect l.toArray = true) (ht : takesB l.toArray e ls L = true) (hs : sinkB l.toArray (L ++ tl) = true)
  (hl : (L ++ tl).getLast? = some e) (hc : Clos l.toArray ls) (h : RT B P n false l (opsAt l L) E HR (TakePQ B P l HR H e k (tick ls L) Q)) : DTP B P n l HR e (L.length + k) ls E H Q :=
 DTP.takesOn L tl hQ.on hm hsel ht hs hl hc h
theorem AtQ.takeP {l : List Oper} {e k : Nat} {ls : Array Bool} (h : DTP B P n l HR e k ls E H Q) : AtQ B n E HR (TakePQ B P l HR H e k ls Q) .normal := fun a _ hA _ w hS => h a w hA hS
/-- What stands behind an operation that turned the heap. -/
def EffPQ (B : World) (P : Program) (l : List Oper) (HR : List HP) (e : Nat) (k : Nat) (ls : Array Bool) (Q : Exit → Act → World → Prop) : Exit → Act → World → Prop := fun ex a w =>
 match ex with
 | .normal => SF B HR e ls w ∧ anyS P l.toArray Q (SF B HR e) k ls a w
 | .panic c => Q (.panic c) a w
 | _ => False
theorem DTP.eff {l : List Oper} {e k : Nat} {ls : Array Bool} (i : Nat) {o : Oper} (ho : l[i]? = some o) (hr : Region.ready .any l.toArray ls = [i])
  (h : RT B P n true l [o] E H (EffPQ B P l HR e k (ls.setIfInBounds i true) Q)) : DTP B P n l HR e (k + 1) ls E H Q := by
 intro a w hA hS
 refine ⟨fun h0 => (by rw [hr] at h0; cases h0), fun j hj => ?_⟩
 rw [hr, List.mem_singleton] at hj
 subst hj
 have h1 := h a w hA hS
 have ho' : l.toArray[j]? = some o := by simpa using ho
 unfold wpOp
 simp only [ho']
 unfold wpN at h1
 split at h1
 ·rename_i hw
  rw [if_pos hw]
  ·exact .inl (wpO_mono (Q := EffPQ B P l HR e k (ls.setIfInBounds j true) Q) (fun c a w hq => hq) (fun ⟨_, _, hq⟩ => False.elim hq) (Oper.wp_mono (fun a w hk => hk) h1))
 ·rename_i hw
  rw [if_neg hw]
  exact h1
theorem AtQ.effP {l : List Oper} {e k : Nat} {ls : Array Bool} (hm : ∀ w, Sat B H w → Sat B HR w) (h : DTP B P n l HR e k ls E H Q) : AtQ B n E H (EffPQ B P l HR e k ls Q) .normal := fun a w hA hS => ⟨fun _ => hm w hS, h a w hA hS⟩
theorem AtQ.effP' {l : List Oper} {e k : Nat} {ls : Array Bool} (he : ls.getD e false = true) (h : DTP B P n l HR e k ls E H Q) : AtQ B n E H (EffPQ B P l HR e k ls Q) .normal := fun a w hA hS => ⟨fun h0 => (by rw [he] at h0; cases h0), h a w hA hS⟩
theorem DTP.done {l : List Oper} {e k : Nat} {ls : Array Bool} (hr : Region.ready .any l.toArray ls = []) (h : AtQ B n E H Q .normal) : DTP B P n l HR e k ls E H Q := by
 intro a w hA hS
 cases k with
 | zero => exact ⟨hr, h a w hA hS⟩
 | succ k => exact ⟨fun _ => h a w hA hS, fun i hi => by rw [hr] at hi; cases hi⟩
theorem AtQ.effP_pan {l : List Oper} {e k : Nat} {ls : Array Bool} {ch : List PanicEntry} (h : AtQ B n E H Q (.panic ch)) : AtQ B n E H (EffPQ B P l HR e k ls Q) (.panic ch) := h
instance {l : List Oper} {e k : Nat} {ls : Array Bool} {ch : List PanicEntry} : Nx (AtQ B n E H (EffPQ B P l HR e k ls Q) (.panic ch)) (AtQ B n E H Q (.panic ch)) := ⟨AtQ.effP_pan⟩
end
end Go.Sk
end
section
namespace Go.Sk
open Go.RowKit
theorem star_sub {K H : List HP} (p : List.Sublist K H) : ∀ {h : PH}, star H h → star K h := by
 induction p with
 | slnil => exact fun s => s
 | cons _ _ ih => exact fun ⟨_, _, _, _, l2, _, r⟩ => star_up _ l2 (ih r)
 | cons_cons _ _ ih => exact fun ⟨h1, h2, d, l1, l2, a, r⟩ => ⟨h1, h2, d, l1, l2, a, ih r⟩
theorem Sat.sub {B : World} {K H : List HP} {w : World} (p : List.Sublist K H) (s : Sat B H w) : Sat B K w := s.mono fun _ h => star_sub p h
theorem PanAct.then_ {n : Fm} {P : Program} {c : Code} {Q : Exit → Act → World → Prop} (h : PanAct Q) : PanAct (Then n P c Q) := fun c a d v w hq => h c a d v w hq
theorem PanAct.block {id : Nat} {Q : Exit → Act → World → Prop} (h : PanAct Q) : PanAct (Exit.inBlock id Q) := fun c a d v w hq => h c a d v w hq
theorem PanAct.loop {B : World} {n : Fm} {α : Type} {f : α → Env} {g : α → List HP} {μ : α → Nat} {z : α} {Q : Exit → Act → World → Prop} (h : PanAct Q) : PanAct (LoopQ B n f g μ z Q) := fun c a d v w hq => h c a d v w hq
section
variable {P : Program} {B : World} {n : Fm} {E : Env} {H HR R : List HP} {Q : Exit → Act → World → Prop} {l : List Oper} {e k : Nat} {ls : Array Bool}
theorem DTP.tk (L tl : List Nat) (h : RT B P n false l (opsAt l L) E HR (TakePQ B P l HR H e k (tick ls L) Q)) (hQ : PanAct Q := by repeat first | exact FinP.panAct | refine PanAct.then_ ?_ | refine PanAct.block ?_ | refine PanAct.loop ?_)
  (hm : List.Sublist HR H := by repeat (first | exact List.Sublist.refl _ | refine List.Sublist.cons_cons _ ?_ | refine List.Sublist.cons _ ?_)) (hsel : Region.noSelect l.toArray = true := by kernel_rfl) (ht : takesB l.toArray e ls L = true := by kernel_rfl) (hs : sinkB l.toArray (L ++ tl) = true := by kernel_rfl)
  (hl : (L ++ tl).getLast? = some e := by rfl) (hc : closB l.toArray ls = true := by kernel_rfl) : DTP B P n l HR e (L.length + k) ls E H Q :=
 DTP.takes L tl hQ (fun _ s => s.sub hm) hsel ht hs hl (Clos.ofB hc) h
theorem DTP.ef (i : Nat) {o : Oper} (h : RT B P n true l [o] E H (EffPQ B P l HR e k (ls.setIfInBounds i true) Q)) (ho : l[i]? = some o := by rfl) (hr : Region.ready .any l.toArray ls = [i] := by kernel_rfl) : DTP B P n l HR e (k + 1) ls E H Q := DTP.eff i ho hr h
theorem AtQ.ep (h : DTP B P n l HR e k ls E H Q) (hm : List.Sublist HR H := by repeat (first | exact List.Sublist.refl _ | refine List.Sublist.cons_cons _ ?_ | refine List.Sublist.cons _ ?_)) : AtQ B n E H (EffPQ B P l HR e k ls Q) .normal := AtQ.effP (fun _ s => s.sub hm) h
theorem AtQ.eq (h : DTP B P n l HR e k ls E H Q) (he : ls.getD e false = true := by kernel_rfl) : AtQ B n E H (EffPQ B P l HR e k ls Q) .normal := AtQ.effP' he h
theorem DTP.dn (h : AtQ B n E H Q .normal) (hr : Region.ready .any l.toArray ls = [] := by kernel_rfl) : DTP B P n l HR e k ls E H Q := DTP.done hr h
end
end Go.Sk
end
section
namespace Go.Sk
open Go.RowKit
section
variable {B : World} {P : Program} {n : Fm} {l0 rest : List Oper} {E : Env} {H R : List HP} {Q : Exit → Act → World → Prop} {d : Nat} {ty : TypeId} {pos : String} {af : Array Edge} {g : Option (Nat × Bool)} {x : Operand}
theorem RT.callCP (T : Tab P) {f : FuncId} {bb : Bool} {xs : List Operand} {vs caps : List Value} {ats : Array TypeId} {Pre : List HP} {Post PP : Value → List HP → Prop}
  (qx : ev E x = some (.func (.func f) #[] caps.toArray)) (qv : evs E xs = some vs) (qfr : Fr H Pre R) (qq : SpP B P f (vs ++ caps) R Pre Post PP) (qf : al T.funs f = some bb) (qw : wt l0 E g = some true) (qd : Nat.blt d n.n = true)
  (kp : ∀ v H', PP v H' → AtQ B n E (H' ++ R) Q (.panic (pan v)))
  (qk : ∀ v H', Post v H' → RT B P n true l0 rest ((d, v) :: E) (H' ++ R) Q) : RT B P n true l0 (⟨some d, .call { callee := .value x, args := xs.toArray, argTypes := ats }, ty, pos, af, g⟩ :: rest) E H Q :=
 RT.eff qw fun o aa w K ho _ hdd hA hS hK => by
  have hrun : (execOp aa.eval o).run P w = .ok (.enter f (vs ++ caps).toArray) w := by
   unfold execOp
   have hm : xs.map aa.eval = vs := hA.evs qv
   simp only [ho, resolve, Sem.run_bind, List.map_toArray, hm, hA.ev qx, Deferred.ofValue, Sem.run_pure, Result.andThen_ok, invoke]
   simpa using run_call (T := T) qf
  unfold Oper.wp
  rw [hrun]
  simp only [Oper.upon, hdd]
  refine (qq w (hS.fr qfr)).mono fun e w' h => ?_
  rcases h with ⟨v, H', he, hp, hS'⟩ | ⟨v, H', he, hp, hS'⟩
  ·subst he
   exact hK _ _ (qk v H' hp _ _ (hA.put (by simpa [Nat.blt_eq] using qd) _) hS')
  ·subst he
   exact kp v H' hp _ _ hA hS'
end
end Go.Sk
end
section
namespace Go.Sk
open Go.RowKit
theorem SpP.conv {B : World} {P : Program} {f : FuncId} {vs : List Value} {R H R1 H1 : List HP} {Post PP Post1 PP1 : Value → List HP → Prop} (h : SpP B P f vs R1 H1 Post1 PP1) (h1 : ∀ w, Sat B (H ++ R) w → Sat B (H1 ++ R1) w)
  (h2 : ∀ v X, Post1 v X → ∃ H', Post v H' ∧ ∀ w, Sat B (X ++ R1) w → Sat B (H' ++ R) w) (h3 : ∀ v X, PP1 v X → ∃ H', PP v H' ∧ ∀ w, Sat B (X ++ R1) w → Sat B (H' ++ R) w) : SpP B P f vs R H Post PP := fun w hS =>
 (h w (h1 w hS)).mono fun e w' hh => by
  rcases hh with ⟨v, X, he, hp, hs⟩ | ⟨v, X, he, hp, hs⟩
  ·obtain ⟨H', q1, q2⟩ := h2 v X hp
   exact .inl ⟨v, H', he, q1, q2 w' hs⟩
  ·obtain ⟨H', q1, q2⟩ := h3 v X hp
   exact .inr ⟨v, H', he, q1, q2 w' hs⟩
theorem SpP.post {B : World} {P : Program} {f : FuncId} {vs : List Value} {R H : List HP} {Post PP Post1 : Value → List HP → Prop} (h : SpP B P f vs R H Post1 PP) (h2 : ∀ v X, Post1 v X → Post v X) : SpP B P f vs R H Post PP :=
 h.conv (fun _ s => s) (fun v X q => ⟨X, h2 v X q, fun _ s => s⟩) (fun v X q => ⟨X, q, fun _ s => s⟩)
theorem Sel.perm {H R : List HP} {p : HP} (s : Sel H p R) : H.Perm (p :: R) := by
 induction s with
 | h => exact .refl _
 | t _ ih => exact (ih.cons _).trans (.swap _ _ _)
theorem Fr.perm {H Ps R : List HP} (f : Fr H Ps R) : H.Perm (Ps ++ R) := by
 induction f with
 | nil => exact .refl _
 | cons s _ ih => exact (Sel.perm s).trans (ih.cons _)
theorem Sat.perm {B : World} {H K : List HP} {w : World} (s : Sat B H w) (p : H.Perm K) : Sat B K w := s.mono fun _ h => star_perm p _ h
theorem perm_in {cc r : HP} {qs rest R : List HP} : (qs ++ rest ++ (cc :: r :: R)).Perm (cc :: (qs ++ (r :: (rest ++ R)))) := by
 refine List.perm_middle.trans (.cons _ ?_)
 refine List.perm_middle.trans ?_
 rw [List.append_assoc]
 exact List.perm_middle.symm
theorem bag_out {B : World} {ps qs rest R : List HP} {cc r : HP} {w : World} (f : Fr ps qs rest) (s : Sat B ([cc, Bag ps, r] ++ R) w) : Sat B ((cc :: (qs ++ [r])) ++ (rest ++ R)) w := by
 have s1 : Sat B (Bag ps :: cc :: r :: R) w := s.perm (.swap _ _ _)
 have s2 := ((Bag.open_ s1).perm (f.perm.append_right _)).perm perm_in
 simpa using s2
theorem bag_in {B : World} {ps qs rest R : List HP} {cc r : HP} {w : World} (f : Fr ps qs rest) (s : Sat B ((cc :: (qs ++ [r])) ++ (rest ++ R)) w) : Sat B ([cc, Bag ps, r] ++ R) w := by
 have s1 : Sat B (cc :: (qs ++ (r :: (rest ++ R)))) w := by simpa using s
 exact (Bag.close ((s1.perm perm_in.symm).perm (f.perm.symm.append_right _))).perm (.swap _ _ _)
def AllI {α : Type} (P : Nat → α → Prop) : Nat → List α → Prop
 | _, [] => True
 | k, x :: l => P k x ∧ AllI P (k + 1) l
theorem AllI.get {α : Type} {P : Nat → α → Prop} : ∀ {l : List α} {k : Nat}, AllI P k l → ∀ i x, l[i]? = some x → P (k + i) x
 | y :: l, k, h, 0, x, e => by cases e; exact h.1
 | y :: l, k, h, i + 1, x, e => by
  have := AllI.get h.2 i x e
  rwa [show k + 1 + i = k + (i + 1) by omega] at this
theorem AllI.get0 {α : Type} {P : Nat → α → Prop} {l : List α} (h : AllI P 0 l) (i : Nat) (x : α) (e : l[i]? = some x) : P i x := by
 have := h.get i x e
 rwa [Nat.zero_add] at this
end Go.Sk
end
section
namespace Go.Sk
open Go.RowKit
section
variable {B : World} {P : Program} {n : Fm} {E : Env} {H : List HP} {Q : Exit → Act → World → Prop} {c : Code}
def LoopM {α : Type} (B : World) (nf : α → Fm) (f : α → Env) (g : α → List HP) (μ : α → Nat) (x : α) (Q : Exit → Act → World → Prop) : Exit → Act → World → Prop :=
 Exit.then (fun a w => ∃ y, Agr (nf y) (f y) a ∧ Sat B (g y) w ∧ μ y < μ x) Q
theorem AtQ.loopM {α : Type} {nf : α → Fm} {f : α → Env} {g : α → List HP} {μ : α → Nat} {x : α} (y : α) (hn : n = nf y) (hE : subB E (f y)) (hH : ∀ w, Sat B H w → Sat B (g y) w) (hμ : μ y < μ x) : AtQ B n E H (LoopM B nf f g μ x Q) .normal :=
 fun _ w hA hS => ⟨y, by rw [← hn]; exact hA.sub hE.sub, hH w hS, hμ⟩
theorem AtQ.loopM_exit {α : Type} {nf : α → Fm} {f : α → Env} {g : α → List HP} {μ : α → Nat} {x : α} {id : Nat} (h : AtQ B n E H Q (.exit id)) : AtQ B n E H (LoopM B nf f g μ x Q) (.exit id) := h
theorem AA {α : Type} {nf : α → Fm} {f : α → Env} {g : α → List HP} {μ : α → Nat} {x : α} {id : Nat} (h : AtQ B n E H Q (.exit id)) : AtQ B n E H (LoopM B nf f g μ x Q) (.exit id) := AtQ.loopM_exit h
instance {α : Type} {nf : α → Fm} {f : α → Env} {g : α → List HP} {μ : α → Nat} {x : α} {id : Nat} : Nx (AtQ B n E H (LoopM B nf f g μ x Q) (.exit id)) (AtQ B n E H Q (.exit id)) := ⟨AA⟩
theorem AtQ.loopM_ret {α : Type} {nf : α → Fm} {f : α → Env} {g : α → List HP} {μ : α → Nat} {x : α} (h : AtQ B n E H Q .ret) : AtQ B n E H (LoopM B nf f g μ x Q) .ret := h
theorem AB {α : Type} {nf : α → Fm} {f : α → Env} {g : α → List HP} {μ : α → Nat} {x : α} (h : AtQ B n E H Q .ret) : AtQ B n E H (LoopM B nf f g μ x Q) .ret := AtQ.loopM_ret h
instance {α : Type} {nf : α → Fm} {f : α → Env} {g : α → List HP} {μ : α → Nat} {x : α} : Nx (AtQ B n E H (LoopM B nf f g μ x Q) .ret) (AtQ B n E H Q .ret) := ⟨AB⟩
def CutM {α : Sort _} (B : World) (nf : α → Fm) (f : α → Env) (g : α → List HP) (Q : Exit → Act → World → Prop) : Exit → Act → World → Prop := Exit.then (fun a w => ∃ x, Agr (nf x) (f x) a ∧ Sat B (g x) w) Q
theorem AtQ.cutM {α : Sort _} {nf : α → Fm} {f : α → Env} {g : α → List HP} (y : α) (hn : n = nf y) (hE : subB E (f y)) (hH : ∀ w, Sat B H w → Sat B (g y) w) : AtQ B n E H (CutM B nf f g Q) .normal :=
 fun _ w hA hS => ⟨y, by rw [← hn]; exact hA.sub hE.sub, hH w hS⟩
theorem AtQ.cutM_exit {α : Sort _} {nf : α → Fm} {f : α → Env} {g : α → List HP} {id : Nat} (h : AtQ B n E H Q (.exit id)) : AtQ B n E H (CutM B nf f g Q) (.exit id) := h
theorem AC {α : Sort _} {nf : α → Fm} {f : α → Env} {g : α → List HP} {id : Nat} (h : AtQ B n E H Q (.exit id)) : AtQ B n E H (CutM B nf f g Q) (.exit id) := AtQ.cutM_exit h
instance {α : Sort _} {nf : α → Fm} {f : α → Env} {g : α → List HP} {id : Nat} : Nx (AtQ B n E H (CutM B nf f g Q) (.exit id)) (AtQ B n E H Q (.exit id)) := ⟨AC⟩
theorem AtQ.cutM_ret {α : Sort _} {nf : α → Fm} {f : α → Env} {g : α → List HP} (h : AtQ B n E H Q .ret) : AtQ B n E H (CutM B nf f g Q) .ret := h
theorem AD {α : Sort _} {nf : α → Fm} {f : α → Env} {g : α → List HP} (h : AtQ B n E H Q .ret) : AtQ B n E H (CutM B nf f g Q) .ret := AtQ.cutM_ret h
instance {α : Sort _} {nf : α → Fm} {f : α → Env} {g : α → List HP} : Nx (AtQ B n E H (CutM B nf f g Q) .ret) (AtQ B n E H Q .ret) := ⟨AD⟩
theorem CT.loopM {α : Type} (nf : α → Fm) (f : α → Env) (g : α → List HP) (μ : α → Nat) (x0 : α) (hn : n = nf x0) (hro : ∀ x, (nf x).ro = n.ro) (hE : subB E (f x0)) (hH : ∀ w, Sat B H w → Sat B (g x0) w)
  (round : ∀ x, CT B P (nf x) c (f x) (g x) (LoopM B nf f g μ x Q)) : CT B P n (.loop c) E H Q := by
 classical
 intro a w hA hS
 let S : Act → World → Nat → Prop := fun a w k => ∃ x, Agr (nf x) (f x) a ∧ Sat B (g x) w ∧ μ x = k
 let I : Act → World → Prop := fun a w => ∃ k, S a w k
 let M : Act → World → Nat := fun a w => if h : ∃ k, S a w k then Classical.choose (least_ h) else 0
 refine wpIn_loop I M ⟨_, x0, by rw [← hn]; exact hA.sub hE.sub, hH w hS, rfl⟩ ?_
 intro a w hI
 have hM : M a w = Classical.choose (least_ hI) := by simp only [M]; rw [dif_pos hI]
 obtain ⟨x, hx, hs, hk⟩ := (Classical.choose_spec (least_ hI)).1
 have hr := round x a w hx hs
 rw [Fm.fence_eq (hro x)] at hr
 refine wpIn_mono hr ?_
 intro e a' w' hq
 cases e <;> try exact hq
 obtain ⟨y, hy, hs', hlt⟩ := hq
 have hI' : ∃ k, S a' w' k := ⟨_, y, hy, hs', rfl⟩
 refine ⟨hI', ?_⟩
 have h1 : M a' w' = Classical.choose (least_ hI') := by simp only [M]; rw [dif_pos hI']
 have h2 : Classical.choose (least_ hI') ≤ μ y := (Classical.choose_spec (least_ hI')).2 _ ⟨y, hy, hs', rfl⟩
 omega
/-- The ways through c meet again in the states x, with marks of their own. -/
theorem CT.cutM {α : Sort _} (nf : α → Fm) (f : α → Env) (g : α → List HP) (hc : CT B P n c E H (CutM B nf f g Q)) (hk : ∀ x, AtQ B (nf x) (f x) (g x) Q .normal) : CT B P n c E H Q := by
 intro a w hA hS
 refine wpIn_mono (hc a w hA hS) ?_
 intro e a' w' hq
 cases e <;> try exact hq
 obtain ⟨x, hx, hs⟩ := hq
 exact hk x a' w' hx hs
end
section
variable {B : World} {P : Program} {n : Fm} {m : Bool} {l0 rest : List Oper} {E : Env} {H R : List HP} {Q : Exit → Act → World → Prop} (T : Tab P) {d : Nat} {ty t t' : TypeId} {pos : String} {af : Array Edge} {g : Option (Nat × Bool)} {x y : Operand}
theorem RT.mkF {fn : Fn} {xs : List Operand} {vs : List Value} (hv : evs E xs = some vs) (hw : wt l0 E g = some true) (hd : Nat.blt d n.n = true)
  (k : RT B P n m l0 rest ((d, .func fn #[] vs.toArray) :: E) H Q) : RT B P n m l0 (⟨some d, .makeFunc fn #[] xs.toArray, ty, pos, af, g⟩ :: rest) E H Q := by
 have hy2 : Yld B P n E H (.makeFunc fn #[] xs.toArray) ty (.func fn #[] vs.toArray) := y_run fun o aa w ho _ hA _ => by
  have hm : xs.map aa.eval = vs := hA.evs hv
  unfold execOp
  simp only [ho, Instr.makeFunc, List.map_toArray, hm, Sem.run_bind, Sem.run_pure, Result.andThen_ok]
  rfl
 exact RT.y hw (by simpa [Nat.blt_eq] using hd) hy2 k
theorem knd_func {t : Nat} (h : knd P t = some 5) : ∃ ps rs v, P.underlying t = some (.func ps rs v) := by
 unfold knd at h
 split at h
 ·split at h <;> simp at h
 all_goals first | (rename_i a b c hu; exact ⟨a, b, c, hu⟩) | (simp at h; done) | cases h
theorem run_fnil {w : World} {t : TypeId} {ps rs : Array TypeId} {v : Bool} (hu : P.underlying t = some (.func ps rs v)) (f : Fn) (a b : Array Value) : (Op.equal t (.func f a b) .nilFunc).run P w = .ok false w :=
 run_eqv fun d => by simp only [Op.equalIn, Sem.run_bind, run_underlying hu, Result.andThen_ok]; rfl
theorem RT.fnil {f : Fn} {a b : Array Value} (hx : ev E x = some (.func f a b)) (hy : ev E y = some .nilFunc) (ht : al T.kinds t = some 5) (hw : wt l0 E g = some true) (hd : Nat.blt d n.n = true)
  (k1 : RT B P n m l0 rest ((d, .bool false) :: E) H Q) : RT B P n m l0 (⟨some d, .binOp .eql t x y t', ty, pos, af, g⟩ :: rest) E H Q := by
 have hy2 : Yld B P n E H (.binOp .eql t x y t') ty (.bool false) := y_run fun o aa w ho _ hA _ => by
  obtain ⟨ps, rs, v, hu⟩ := knd_func (T.kind ht)
  have h1 : binOp .eql t (.func f a b) .nilFunc = (do pure (.bool (← Op.equal t (.func f a b) .nilFunc))) := rfl
  have h2 : eqGuard .eql t x y (.func f a b) .nilFunc = pure () := rfl
  unfold execOp
  simp only [ho, hA.ev hx, hA.ev hy, h1, h2, Sem.run_bind, Sem.run_pure, Result.andThen_ok, run_fnil hu]
 exact RT.y hw (by simpa [Nat.blt_eq] using hd) hy2 k1
end
end Go.Sk
end
section
namespace Go.Sk
open Go.RowKit
section
variable {B : World} {P : Program} {n : Fm} {l0 rest : List Oper} {E : Env} {H R : List HP} {Q : Exit → Act → World → Prop} (T : Tab P) {d : Nat} {ty t t' : TypeId} {pos : String} {af : Array Edge} {g : Option (Nat × Bool)} {x y : Operand}
theorem RT.convSB {e : TypeId} {l : List Int} (hx : ev E x = some (.string (str l))) (hb : Byt l) (ht : al T.kinds t = some 2) (hs : P.underlying t' = some (.slice e)) (he : P.underlying e = some (.int .u8)) (hw : wt l0 E g = some true) (hd : Nat.blt d n.n = true)
  (kt : ∀ a c, l.length ≤ c → RT B P n true l0 rest ((d, .slice a l.length c) :: E) (Ro a (ints .u8 l) :: H) Q) : RT B P n true l0 (⟨some d, .convert t t' x, ty, pos, af, g⟩ :: rest) E H Q :=
 RT.eff hw fun o aa w K ho hty hdd hA hS hK => by
  have hrun := run_bytes_of_string (P := P) w t t' e (str l) (knd_string (T.kind ht)) hs he
  have hsz : (str l).size = l.length := str_size l
  rw [hsz] at hrun
  have hge := grownCap_ge w l.length 0 e
  have hrow : (bytesRow (str l) (grownCap w l.length 0 e)).toList.take (ints .u8 l).length = ints .u8 l := by
   have h1 : (bytesRow (str l) (grownCap w l.length 0 e)).toList = ints .u8 l ++ List.replicate (grownCap w l.length 0 e - (str l).size) (.int .u8 0) := by
    unfold bytesRow
    rw [Array.toList_append, Array.toList_map, Array.toList_replicate]
    congr 1
    exact strCells_str hb
   rw [h1, List.take_left]
  unfold Oper.wp execOp
  simp only [ho, hA.ev hx, Sem.run_bind, hrun, Result.andThen_ok, Sem.run_pure]
  simp only [Oper.upon, hdd]
  exact hK _ _ (kt _ _ hge _ _ (hA.put (by simpa [Nat.blt_eq] using hd) _) (hS.new rfl rfl rfl rfl fun h _ hb => ⟨_, _, _, _, rfl, hb, hrow⟩))
end
end Go.Sk
end
section
namespace Go.Sk
open Go.RowKit
section
variable {B : World} {P : Program} {n : Fm} {m : Bool} {l0 rest : List Oper} {E : Env} {H : List HP} {Q : Exit → Act → World → Prop} {d : Nat} {ty : TypeId} {pos : String} {af : Array Edge} {g : Option (Nat × Bool)} {x y : Operand}
theorem run_inil {w : World} {t : TypeId} {v : Value} {b : Bool} (hu : ∃ ms, P.underlying t = some (.interface ms)) (hv : v = .nilIface ∧ b = true ∨ ∃ u z, v = .iface u z ∧ b = false) : (Op.equal t v .nilIface).run P w = .ok b w :=
 run_eqv fun d => by
  obtain ⟨ms, hu⟩ := hu
  rcases hv with ⟨rfl, rfl⟩ | ⟨u, z, rfl, rfl⟩ <;> (simp only [Op.equalIn, Sem.run_bind, run_underlying hu, Result.andThen_ok]; rfl)
theorem RT.tassert {xt t : TypeId} {v : Value} {td : TypeDesc} (hx : ev E x = some (.iface t v)) (ht : P.underlying t = some td) (hi : ∀ b, td ≠ .interface b) (hw : wt l0 E g = some true) (hd : Nat.blt d n = true)
  (k : RT B P n m l0 rest ((d, .tuple #[v, .bool true]) :: E) H Q) : RT B P n m l0 (⟨some d, .typeAssert x xt t true, ty, pos, af, g⟩ :: rest) E H Q :=
 RT.y hw (by simpa [Nat.blt_eq] using hd) (y_run fun o a w ho _ hA _ => by
  unfold execOp
  simp only [ho, hA.ev hx, Instr.typeAssert, Sem.run_bind, run_underlying ht, Result.andThen_ok]
  cases td <;> first | exact absurd rfl (hi _) | simp) k
end
end Go.Sk
end
section
namespace Go.Sk
open Go.RowKit
section
variable {B : World} {P : Program} {E : Env} {H H' Pre R : List HP} {fn : Func} {Post : Value → List HP → Prop} {f : FuncId} {n : Nat} {vs caps : List Value}
theorem SpD.body2 {c : Code} {id d d2 : Nat} {ats : Array TypeId} {ty ty2 : TypeId} {pos pos2 : String} {af af2 : Array Edge} {u u' : FrameMode} {rv : Value} (hf : P.funcs[f]? = some fn)
  (hb : fn.body = some (.seq (.region id #[⟨some d, .call { callee := .builtin .recover, args := #[], argTypes := ats }, ty, pos, af, none⟩, ⟨some d2, .assign (.tmp d), ty2, pos2, af2, none⟩] false) c)) (hr : fn.results = #[]) (hn : fn.ntmps = n) (hl : vs.length ≤ n) (hd : d < n) (hd2 : d2 < n)
  (hu : u = .returning ∧ u' = .returning ∧ rv = .nilIface ∨ ∃ pv, u = .panicking (pan pv) ∧ u' = .panicking [{ v := pv, recovered := true }] ∧ rv = pv)
  (h : CT B P (.mk0 n) c ((d2, rv) :: (d, rv) :: argE 0 vs) (Pre ++ R) (RecQ B R H')) : SpD B P f vs u u' R Pre H' := by
 intro w hS
 refine callsD_of_wpS hf hb fun c₀ cs hm => wpS_seq (wpS_region ?_)
 have hA0 : Agr (.mk0 n) (argE 0 vs) { tmps := vs.toArray ++ Array.replicate (fn.ntmps - vs.toArray.size) undef, defers := [] } := by
  refine ⟨?_, rfl, fun t v e => ?_⟩
  ·simp [hn]; omega
  ·obtain ⟨_, e'⟩ := argE_lk vs 0 t v e
   have : t < vs.length := (List.getElem?_eq_some_iff.1 (by simpa using e')).1
   rw [Array.getElem?_append_left (by simpa using this)]
   simpa using e'
 have hrun : ∀ (ρ : Operand → Value), (execOp ρ (⟨some d, .call { callee := .builtin .recover, args := #[], argTypes := ats }, ty, pos, af, none⟩ : Oper)).run P w = .ok .recover w := fun ρ => by
  unfold execOp
  simp [resolve, invoke, builtin, go_sem]
 have hA1 := hA0.put hd rv
 have hev : ∀ a : Act, Agr (.mk0 n) ((d, rv) :: argE 0 vs) a → a.eval (.tmp d) = rv := fun a hA => hA.ev (x := .tmp d) (by simp [Sk.ev, lk])
 have hrun2 : ∀ a : Act, Agr (.mk0 n) ((d, rv) :: argE 0 vs) a → (execOp a.eval (⟨some d2, .assign (.tmp d), ty2, pos2, af2, none⟩ : Oper)).run P w = .ok (.value rv) w := fun a hA => by
  unfold execOp
  simp only [hev _ hA]
  rfl
 have hA2 := hA1
 simp only [List.size_toArray] at hA2
 have key : ∀ (cs' : List Frame), cs' = { c₀ with mode := u' } :: cs → c.wpS P (bodyPostS P fn c₀ cs fun e u2 w' => e = .returned (.tuple #[]) ∧ u2 = u' ∧ Sat B (H' ++ R) w') (Act.put (Act.put { tmps := vs.toArray ++ Array.replicate (fn.ntmps - vs.toArray.size) undef, defers := [] } (some d) rv) (some d2) rv) cs' w := by
  intro cs' hcs
  subst hcs
  refine wpS_of_wp (wpIn_wide.1 (wpIn_mono (h _ w (hA1.put hd2 rv) hS) ?_))
  rintro ex a' w' ⟨hex, hdf, hS'⟩
  rcases hex with rfl | rfl <;> exact ⟨hdf, u', rfl, _, results_none hr _ _ _, rfl, rfl, hS'⟩
 simp only [List.size_toArray, List.length_cons, List.length_nil, Nat.zero_add, Nat.reduceAdd, show List.range 2 = [0, 1] from rfl, wpOpsS, List.getElem?_toArray, List.getElem?_cons_zero, List.getElem?_cons_succ]
 rw [if_pos (by rfl), hrun]
 rcases hu with ⟨rfl, rfl, rfl⟩ | ⟨pv, rfl, rfl, rfl⟩
 ·have hrec : recoverD (c₀ :: cs) = none := by simp [recoverD, hm]
  simp only [hrec]
  rw [if_pos (by rfl), hrun2 _ hA2]
  refine key _ ?_
  rw [← hm]
 ·have hrec : recoverD (c₀ :: cs) = some (rv, { c₀ with mode := .panicking [{ v := rv, recovered := true }] } :: cs) := by simp [recoverD, hm]
  simp only [hrec]
  rw [if_pos (by rfl), hrun2 _ hA2]
  exact key _ rfl
theorem ld_cell (T : Tab P) {t ty b e : Nat} {v : Value} {R2 : List HP} {m : Fm} {a : Act} {w : World} (hA : Agr m E a) (hS : Sat B H w) (he : lk E t = some (.pointer (some ⟨b, 0, none⟩))) (ht : al T.szs ty = some (1, false)) (hs : Sel H (Cs b e [v]) R2) :
  a.tmps.getD t undef = .pointer (some ⟨b, 0, none⟩) ∧ (loadVar ty ⟨b, 0, none⟩).run P w = .ok v w := by
 refine ⟨by simp [Array.getD_eq_getD_getElem?, hA.get t _ he], ?_⟩
 have hc : w.cell? ⟨b, 0, none⟩ = some v := (cs_cell (hS.cs hs).1 0).trans rfl
 simp only [loadVar, Sem.run_bind, run_isAggB (T.sz ht).2, Result.andThen_ok]
 simp [load, Sem.run, hc]
theorem res_two (T : Tab P) {t1 ty1 b1 e1 t2 ty2 b2 e2 : Nat} {v1 v2 : Value} {R1 R2 : List HP} {m : Fm} (hr : fn.results = #[.cell t1 ty1, .cell t2 ty2]) (he1 : lk E t1 = some (.pointer (some ⟨b1, 0, none⟩))) (ht1 : al T.szs ty1 = some (1, false)) (hs1 : Sel H (Cs b1 e1 [v1]) R1)
  (he2 : lk E t2 = some (.pointer (some ⟨b2, 0, none⟩))) (ht2 : al T.szs ty2 = some (1, false)) (hs2 : Sel H (Cs b2 e2 [v2]) R2) : ∀ a w, Agr m E a → Sat B H w → (results fn a.tmps).run P w = .ok (.tuple #[v1, v2]) w := fun a w hA hS => by
 obtain ⟨g1, l1⟩ := ld_cell T hA hS he1 ht1 hs1
 obtain ⟨g2, l2⟩ := ld_cell T hA hS he2 ht2 hs2
 unfold results
 rw [hr]
 simp only [List.mapM_toArray, List.mapM_cons, List.mapM_nil, g1, g2, asAddr, Sem.run_bind, Sem.run_pure, Result.andThen_ok, bind_assoc, pure_bind, map_eq_pure_bind, Sem.run_map, l1, l2]
 rfl
theorem res_three (T : Tab P) {t1 ty1 b1 e1 t2 ty2 b2 e2 t3 ty3 b3 e3 : Nat} {v1 v2 v3 : Value} {R1 R2 R3 : List HP} {m : Fm} (hr : fn.results = #[.cell t1 ty1, .cell t2 ty2, .cell t3 ty3]) (he1 : lk E t1 = some (.pointer (some ⟨b1, 0, none⟩))) (ht1 : al T.szs ty1 = some (1, false)) (hs1 : Sel H (Cs b1 e1 [v1]) R1)
  (he2 : lk E t2 = some (.pointer (some ⟨b2, 0, none⟩))) (ht2 : al T.szs ty2 = some (1, false)) (hs2 : Sel H (Cs b2 e2 [v2]) R2) (he3 : lk E t3 = some (.pointer (some ⟨b3, 0, none⟩))) (ht3 : al T.szs ty3 = some (1, false)) (hs3 : Sel H (Cs b3 e3 [v3]) R3) :
  ∀ a w, Agr m E a → Sat B H w → (results fn a.tmps).run P w = .ok (.tuple #[v1, v2, v3]) w := fun a w hA hS => by
 obtain ⟨g1, l1⟩ := ld_cell T hA hS he1 ht1 hs1
 obtain ⟨g2, l2⟩ := ld_cell T hA hS he2 ht2 hs2
 obtain ⟨g3, l3⟩ := ld_cell T hA hS he3 ht3 hs3
 unfold results
 rw [hr]
 simp only [List.mapM_toArray, List.mapM_cons, List.mapM_nil, g1, g2, g3, asAddr, Sem.run_bind, Sem.run_pure, Result.andThen_ok, bind_assoc, pure_bind, map_eq_pure_bind, Sem.run_map, l1, l2, l3]
 rfl
end
section
variable {B : World} {P : Program} {n : Fm} {m : Bool} {l0 rest : List Oper} {E : Env} {H : List HP} {Q : Exit → Act → World → Prop} {d : Nat} {ty : TypeId} {pos : String} {af : Array Edge} {g : Option (Nat × Bool)} {x y : Operand}
theorem RT.innil {t t' : TypeId} {v : Value} {b : Bool} (hx : ev E x = some v) (hu : ∃ ms, P.underlying t = some (.interface ms)) (hv : v = .nilIface ∧ b = true ∨ ∃ u z, v = .iface u z ∧ b = false) (hw : wt l0 E g = some true) (hd : Nat.blt d n = true)
  (k : RT B P n m l0 rest ((d, .bool (!b)) :: E) H Q) : RT B P n m l0 (⟨some d, (.binOp .neq t x (.const .nilIface) t'), ty, pos, af, g⟩ :: rest) E H Q :=
 RT.y hw (by simpa [Nat.blt_eq] using hd) (y_run fun o a w ho _ hA _ => by
  have hr := run_inil (P := P) (w := w) hu hv
  have h1 : binOp .neq t v .nilIface = (do pure (.bool (!(← Op.equal t v .nilIface)))) := by rcases hv with ⟨rfl, rfl⟩ | ⟨u, z, rfl, rfl⟩ <;> rfl
  have h2 : (eqGuard .neq t x (.const .nilIface) v .nilIface).run P w = .ok () w := by
   rcases hv with ⟨rfl, rfl⟩ | ⟨u, z, rfl, rfl⟩ <;> cases x <;> simp [eqGuard, Sem.run_pure]
  unfold execOp
  simp only [ho, hA.ev hx, hA.ev (show ev E (.const .nilIface) = some .nilIface from rfl), h1, h2, Sem.run_bind, Sem.run_pure, Result.andThen_ok, hr]) k
end
end Go.Sk
end
section
namespace Go.Sk
open Go.RowKit
theorem leaves_congr {P : Program} {fn : Func} {t1 t2 : Array Value} {R : Ending → World → Prop} (h : results fn t1 = results fn t2) : ∀ (ds : List Deferred) (u : FrameMode) (w : World), Leaves P fn t1 R ds u w → Leaves P fn t2 R ds u w
 | [], .returning, w, hl => by unfold Leaves at hl ⊢; rw [← h]; exact hl
 | [], .panicking _, w, hl => by unfold Leaves at hl ⊢; exact hl
 | [], .run, w, hl => by unfold Leaves at hl; exact hl.elim
 | d :: ds, u, w, hl => by
  unfold Leaves at hl ⊢
  obtain ⟨hu, fv, cap, f, args, h1, h2, h3⟩ := hl
  refine ⟨hu, fv, cap, f, args, h1, h2, h3.mono fun e u' w' hq => ?_⟩
  cases e with
  | returned v => exact leaves_congr h ds _ _ hq
  | panicked c => exact leaves_congr h ds _ _ hq
  | outgrown => exact hq
theorem PanOn.then_ {n : Fm} {P : Program} {c : Code} {l : List Oper} {L : List Nat} {Q : Exit → Act → World → Prop} (h : PanOn l L Q) : PanOn l L (Then n P c Q) := fun i hi o ho c a v w hq => h i hi o ho c a v w hq
/-- The results' slots are none of these operations' slots. -/
theorem FinD.panOn {B : World} {P : Program} {fn : Func} {R : List HP} {Post : Value → List HP → Prop} {l : List Oper} {L : List Nat} {rs : List ResultVar} (hr : fn.results = rs.toArray)
  (hd : (L.all fun i => match l[i]? with | some o => (match o.dst with | some d => rs.all fun r => (match r with | .tmp t => t != d | .cell t _ => t != d) | none => true) | none => true) = true) : PanOn l L (FinD B P fn R Post) := by
 intro i hi o ho c a v w hq
 have h1 := List.all_eq_true.1 hd i hi
 rw [ho] at h1
 cases hdst : o.dst with
 | none => rw [hdst] at hq; exact hq
 | some d =>
  rw [hdst] at hq
  simp only [hdst] at h1
  have hres : results fn (a.put (some d) v).tmps = results fn a.tmps := by
   unfold results
   rw [hr]
   have hg : ∀ t, (t != d) = true → (a.put (some d) v).tmps.getD t undef = a.tmps.getD t undef := fun t ht => by
    have hne : d ≠ t := fun e => by simp [e] at ht
    simp [Act.put, Array.getD_eq_getD_getElem?, Array.getElem?_setIfInBounds_ne hne]
   have hm : ∀ (rs : List ResultVar), (rs.all fun r => (match r with | .tmp t => t != d | .cell t _ => t != d)) = true →
     rs.mapM (fun r => match r with | .tmp t => (pure ((a.put (some d) v).tmps.getD t undef) : Sem Value) | .cell x t => do loadVar t (← asAddr ((a.put (some d) v).tmps.getD x undef))) =
     rs.mapM (fun r => match r with | .tmp t => (pure (a.tmps.getD t undef) : Sem Value) | .cell x t => do loadVar t (← asAddr (a.tmps.getD x undef))) := fun rs h => by
    have : ∀ r ∈ rs, (match r with | .tmp t => (pure ((a.put (some d) v).tmps.getD t undef) : Sem Value) | .cell x t => do loadVar t (← asAddr ((a.put (some d) v).tmps.getD x undef))) = (match r with | .tmp t => (pure (a.tmps.getD t undef) : Sem Value) | .cell x t => do loadVar t (← asAddr (a.tmps.getD x undef))) := fun r hr => by
     have h2 := List.all_eq_true.1 h r hr
     cases r with
     | tmp t => simp only at h2 ⊢; rw [hg t h2]
     | cell x t => simp only at h2 ⊢; rw [hg x h2]
    clear h
    induction rs with
    | nil => rfl
    | cons r rs ih =>
     rw [List.mapM_cons, List.mapM_cons, this r (by simp), ih (fun r' hr' => this r' (by simp [hr']))]
   simp only [List.mapM_toArray]
   exact congrArg (fun (m : Sem (List Value)) => (List.toArray <$> m) >>= fun vs => pure (if h : vs.size = 1 then vs[0] else Value.tuple vs)) (hm rs h1)
  have hd2 : (a.put (some d) v).defers = a.defers := rfl
  have hq2 : Leaves P fn (a.put (some d) v).tmps (fun e w' => ∃ v H', e = .returned v ∧ Post v H' ∧ Sat B (H' ++ R) w') (a.put (some d) v).defers (.panicking c) w := hq
  rw [hd2] at hq2
  exact leaves_congr hres _ _ _ hq2
theorem anyS_mono {P : Program} {ops : Array Oper} {Q : Exit → Act → World → Prop} {S S' : Array Bool → World → Prop} (hm : ∀ ls w, S' ls w → S ls w) : ∀ (k : Nat) (ls : Array Bool) (a : Act) (w : World), anyS P ops Q S' k ls a w → anyS P ops Q S k ls a w
 | 0, _, _, _, h => h
 | k + 1, _, _, _, h => ⟨h.1, fun i hi => wpOp_mono (fun a' w' h' => ⟨hm _ _ h'.1, anyS_mono hm k _ a' w' h'.2⟩) (h.2 i hi)⟩
/-- What is known to hold till e may grow. -/
theorem DTP.hr {B : World} {P : Program} {n : Fm} {l : List Oper} {HR HR' : List HP} {e k : Nat} {ls : Array Bool} {E : Env} {H : List HP} {Q : Exit → Act → World → Prop} (hm : ∀ w, Sat B HR' w → Sat B HR w) (h : DTP B P n l HR' e k ls E H Q) : DTP B P n l HR e k ls E H Q := fun a w hA hS =>
 anyS_mono (fun _ _ hs he => hm _ (hs he)) _ _ _ _ (h a w hA hS)
/-- Leaving a function that may defer, when it has not yet deferred. -/
theorem AtQ.finD0 {B : World} {P : Program} {E : Env} {H R : List HP} {fn : Func} {n : Nat} {Post : Value → List HP → Prop} {v : Value} {Hf : List HP} (hres : ∀ a w, Agr (.mk0 n) E a → Sat B H w → (results fn a.tmps).run P w = .ok v w) (hp : Post v Hf) (hk : ∀ w, Sat B H w → Sat B (Hf ++ R) w) {ex : Exit} (hex : ex = .normal ∨ ex = .ret) : AtQ B (.mk0 n) E H (FinD B P fn R Post) ex := by
 intro a w hA hS
 have : Leaves P fn a.tmps (fun e w' => ∃ v H', e = .returned v ∧ Post v H' ∧ Sat B (H' ++ R) w') a.defers .returning w := by
  rw [hA.defers]
  unfold Leaves
  exact ⟨v, hres a w hA hS, v, Hf, rfl, hp, hk w hS⟩
 rcases hex with rfl | rfl <;> exact this
end Go.Sk
end
section
namespace Go.Sk
open Go.RowKit
section
variable {B : World} {P : Program} {n : Fm} {m : Bool} {l0 rest : List Oper} {E : Env} {H : List HP} {Q : Exit → Act → World → Prop} {d : Nat} {ty t t' : TypeId} {pos : String} {af : Array Edge} {g : Option (Nat × Bool)} {x y : Operand}
end
end Go.Sk
end
section
namespace Go.Sk
section
variable {B : World} {P : Program} {n : Fm} {E : Env} {H HR : List HP} {Q : Exit → Act → World → Prop}
theorem DT.any1 {l : List Oper} {e k : Nat} {ls : Array Bool} (i : Nat) {o : Oper} {d : Nat} {v : Value} (ho : l[i]? = some o) (hd : o.dst = some d) (hdn : Nat.blt d n = true) (hg : o.guard = none)
  (hy : ∀ a w, Agr n E a → (execOp a.eval o).run P w = .ok (.value v) w) (hsel : Region.noSelect l.toArray = true)
  (hr : (Region.ready .any l.toArray ls).contains i = true) (hf : Region.free .any l.toArray ls i = true) (hie : Nat.beq i e = false) (hc : Clos l.toArray ls)
  (h : DT B P n l HR e k (ls.setIfInBounds i true) ((d, v) :: E) H Q) (hsf : ∀ w, Sat B H w → Sat B HR w) : DT B P n l HR e (k + 1) ls E H Q := fun a w hA hS => by
 have ho' : l.toArray[i]? = some o := by simpa using ho
 have hne : i ≠ e := fun h0 => by rw [h0, Nat.beq_refl] at hie; cases hie
 have hri : i ∈ Region.ready .any l.toArray ls := by simpa using hr
 refine anyS_first (T := fun _ => True) ho' hsel (fun c a w hq => by cases hq.1) (fun _ _ _ _ _ => trivial) (fun ls' w' hS he => hS (by rw [getD_set_ne false hne]; exact he)) (fun ls' w' hS he => hS (by rw [getD_set_ne false hne] at he; exact he)) k ls a w hc
  (Region.free_spec ho' hf) hri (.inl ⟨by unfold Region.wanted; rw [hg], fun w' _ => hy a w' hA⟩) (fun _ => hsf w hS) ?_
 rw [hd]
 exact h _ w (hA.put (by simpa [Nat.blt_eq] using hdn) v) hS
theorem DT.mv {l : List Oper} {e k : Nat} {ls : Array Bool} (i : Nat) {d : Nat} {x : Operand} {ty : TypeId} {pos : String} {af : Array Edge} {v : Value} (ho : l[i]? = some ⟨some d, .move x, ty, pos, af, none⟩) (hx : ev E x = some v) (hdn : Nat.blt d n = true)
  (hsel : Region.noSelect l.toArray = true) (hr : (Region.ready .any l.toArray ls).contains i = true) (hf : Region.free .any l.toArray ls i = true) (hie : Nat.beq i e = false) (hc : Clos l.toArray ls) (hsf : ∀ w, Sat B H w → Sat B HR w)
  (h : DT B P n l HR e k (ls.setIfInBounds i true) ((d, v) :: E) H Q) : DT B P n l HR e (k + 1) ls E H Q :=
 DT.any1 i ho rfl hdn rfl (fun a w hA => by unfold execOp; simp only [hA.ev hx]; rfl) hsel hr hf hie hc h hsf
theorem DT.add {l : List Oper} {e k : Nat} {ls : Array Bool} (i : Nat) {d : Nat} {x y : Operand} {t t' ty : TypeId} {pos : String} {af : Array Edge} {kk : IntKind} {p q r : Int} (ho : l[i]? = some ⟨some d, .binOp .add t x y t', ty, pos, af, none⟩) (hx : ev E x = some (.int kk p)) (hy : ev E y = some (.int kk q)) (hrr : kk.wrap (p + q) = r) (hdn : Nat.blt d n = true)
  (hsel : Region.noSelect l.toArray = true) (hr : (Region.ready .any l.toArray ls).contains i = true) (hf : Region.free .any l.toArray ls i = true) (hie : Nat.beq i e = false) (hc : Clos l.toArray ls) (hsf : ∀ w, Sat B H w → Sat B HR w)
  (h : DT B P n l HR e k (ls.setIfInBounds i true) ((d, .int kk r) :: E) H Q) : DT B P n l HR e (k + 1) ls E H Q :=
 DT.any1 i ho rfl hdn rfl (fun a w hA => by subst hrr; unfold execOp; simp only [hA.ev hx, hA.ev hy, eqGuard, binOp, ne_eq, not_true, if_false, Op.intArith]; rfl) hsel hr hf hie hc h hsf
theorem DT.sub {l : List Oper} {e k : Nat} {ls : Array Bool} (i : Nat) {d : Nat} {x y : Operand} {t t' ty : TypeId} {pos : String} {af : Array Edge} {kk : IntKind} {p q r : Int} (ho : l[i]? = some ⟨some d, .binOp .sub t x y t', ty, pos, af, none⟩) (hx : ev E x = some (.int kk p)) (hy : ev E y = some (.int kk q)) (hrr : kk.wrap (p - q) = r) (hdn : Nat.blt d n = true)
  (hsel : Region.noSelect l.toArray = true) (hr : (Region.ready .any l.toArray ls).contains i = true) (hf : Region.free .any l.toArray ls i = true) (hie : Nat.beq i e = false) (hc : Clos l.toArray ls) (hsf : ∀ w, Sat B H w → Sat B HR w)
  (h : DT B P n l HR e k (ls.setIfInBounds i true) ((d, .int kk r) :: E) H Q) : DT B P n l HR e (k + 1) ls E H Q :=
 DT.any1 i ho rfl hdn rfl (fun a w hA => by subst hrr; unfold execOp; simp only [hA.ev hx, hA.ev hy, eqGuard, binOp, ne_eq, not_true, if_false, Op.intArith]; rfl) hsel hr hf hie hc h hsf
end
section
variable {B : World} {P : Program} {n : Fm} {m : Bool} {l0 rest : List Oper} {E : Env} {H : List HP} {Q : Exit → Act → World → Prop} {d : Nat} {ty t t' : TypeId} {pos : String} {af : Array Edge} {g : Option (Nat × Bool)} {x y : Operand}
end
end Go.Sk
end
section
namespace Go.Sk
section
variable {B : World} {P : Program} {n : Fm} {m : Bool} {l0 rest : List Oper} {E : Env} {H R : List HP} {Q : Exit → Act → World → Prop} (T : Tab P) {ty t : TypeId} {pos : String} {af : Array Edge} {g : Option (Nat × Bool)} {x : Operand} {d : Nat}
end
end Go.Sk
end
section
namespace Go.Sk
section
variable {B : World} {P : Program} {n : Fm} {m : Bool} {l0 rest : List Oper} {E : Env} {H : List HP} {Q : Exit → Act → World → Prop} {ty : TypeId} {pos : String} {af : Array Edge} {g : Option (Nat × Bool)} {x : Operand} {d : Nat}
theorem RT.fieldv {st f : Nat} {fs : Array Field} {fi : Field} {l : List Value} {v : Value} (hx : ev E x = some (.agg l.toArray)) (hfs : P.underlying st = some (.struct fs)) (hfi : fs[f]? = some fi) (ha : isAggB P fi.type = some false) (hv : l[fi.offset]? = some v) (hw : wt l0 E g = some true) (hd : Nat.blt d n = true)
  (k : RT B P n m l0 rest ((d, v) :: E) H Q) : RT B P n m l0 (⟨some d, .field st x f, ty, pos, af, g⟩ :: rest) E H Q :=
 RT.y hw (by simpa [Nat.blt_eq] using hd) (y_run fun o a w ho _ hA _ => by
  unfold execOp
  simp only [ho, hA.ev hx, Instr.field, Sem.run_bind, run_underlying hfs, Result.andThen_ok, hfi, asAgg, Sem.run_pure, part, run_isAggB ha]
  simp [hv]) k
end
end Go.Sk
end
section
namespace Go.Sk
open Go.RowKit
/-- Whether it holds. -/
noncomputable def dc (p : Prop) : Bool := @decide p (Classical.propDecidable p)
theorem dc_t {p : Prop} (h : p) : dc p = true := @decide_eq_true p (Classical.propDecidable p) h
theorem dc_f {p : Prop} (h : ¬ p) : dc p = false := @decide_eq_false p (Classical.propDecidable p) h
def okD (P : Program) (t : TypeId) (v u : Value) : Bool := match P.underlying t, v, u with
 | some (.int _), .int k _, .int k' _ => k == k'
 | some .bool, .bool _, .bool _ => true
 | some .string, .string _, .string _ => true
 | _, _, _ => false
def diffS (P : Program) (t : TypeId) (xs ys : List Value) : Bool := match P.underlying t with
 | some (.struct fs) => !P.stoodInHeld t && !P.eqGuardType P.depth t && (fs.toList.all fun f => f.name != "_" && match xs[f.offset]?, ys[f.offset]? with
  | some v, some u => okD P f.type v u
  | _, _ => false) && xs.length == ys.length && (List.range xs.length).all fun i => fs.toList.any fun f => f.offset == i
 | _ => false
theorem okD_eq {P : Program} {t : TypeId} {v u : Value} (h : okD P t v u = true) (w : World) (d : Nat) : ∃ b, (Op.equalIn (d + 1) t v u).run P w = .ok b w ∧ (b = true → v = u) := by
 unfold okD at h
 split at h
 ·rename_i k0 k n k' n' hu
  have hk : k = k' := by simpa using h
  subst hk
  exact ⟨_, run_equalIn_int w d t k k0 n n' hu, fun e => by rw [show n = n' by simpa using e]⟩
 ·rename_i b b' hu
  exact ⟨_, run_equalIn_bool' w d t b b' hu, fun e => by rw [show b = b' by simpa using e]⟩
 ·rename_i s s' hu
  refine ⟨_, run_equalIn_string w d t s s' hu, fun e => ?_⟩
  have h1 : s.data.toList = s'.data.toList := by rw [ByteArray.toList_eq, ByteArray.toList_eq] at e; simpa using e
  obtain ⟨⟨x⟩⟩ := s
  obtain ⟨⟨y⟩⟩ := s'
  simp only at h1
  rw [h1]
 ·cases h
theorem okD_part {P : Program} {t : TypeId} {v u : Value} (h : okD P t v u = true) (w : World) {xs ys : List Value} {i : Nat} (hi : xs[i]? = some v) (hj : ys[i]? = some u) : (part t xs.toArray i).run P w = .ok v w ∧ (part t ys.toArray i).run P w = .ok u w := by
 have hx : xs.toArray[i]? = some v := by simpa using hi
 have hy : ys.toArray[i]? = some u := by simpa using hj
 unfold okD at h
 split at h
 ·rename_i hu
  simp [part, isAgg, run_underlying hu, hx, hy]
 ·rename_i hu
  simp [part, isAgg, run_underlying hu, hx, hy]
 ·rename_i hu
  simp [part, isAgg, run_underlying hu, hx, hy]
 ·cases h
theorem eqFields_diff {P : Program} {w : World} {d : Nat} {xs ys : List Value} : ∀ {fs : List Field}, (fs.all fun f => f.name != "_" && match xs[f.offset]?, ys[f.offset]? with
  | some v, some u => okD P f.type v u
  | _, _ => false) = true → ∃ b, (Op.eqFields (d + 1) xs.toArray ys.toArray fs).run P w = .ok b w ∧ (b = true → ∀ f ∈ fs, xs[f.offset]? = ys[f.offset]?)
 | [], _ => ⟨true, rfl, fun _ _ h => by cases h⟩
 | f :: fs, h => by
  rw [List.all_cons, Bool.and_eq_true, Bool.and_eq_true] at h
  obtain ⟨⟨h0, h1⟩, h2⟩ := h
  obtain ⟨b2, ih1, ih2⟩ := eqFields_diff (w := w) (d := d) h2
  split at h1
  ·rename_i v u hv hu
   obtain ⟨hp1, hp2⟩ := okD_part h1 w hv hu
   obtain ⟨b, he, hb⟩ := okD_eq h1 w d
   have hn : f.name ≠ "_" := by simpa using h0
   simp only [Op.eqFields]
   rw [if_pos hn]
   simp only [Sem.run_bind, hp1, hp2, Result.andThen_ok, he]
   cases b with
   | false => exact ⟨false, by simp, fun e => by cases e⟩
   | true =>
    refine ⟨b2, by simpa using ih1, fun e g hg => ?_⟩
    rcases List.mem_cons.1 hg with rfl | hg
    ·rw [hv, hu, hb rfl]
    ·exact ih2 e g hg
  ·cases h1
section
variable {B : World} {P : Program} {n : Fm} {m : Bool} {l0 rest : List Oper} {E : Env} {H : List HP} {Q : Exit → Act → World → Prop} {d : Nat} {ty t t' : TypeId} {pos : String} {af : Array Edge} {g : Option (Nat × Bool)} {x y : Operand}
theorem RT.neD {xs ys : List Value} (hx : ev E x = some (.agg xs.toArray)) (hy : ev E y = some (.agg ys.toArray)) (hs : diffS P t xs ys = true) (hne : xs ≠ ys) (hw : wt l0 E g = some true) (hd : Nat.blt d n = true)
  (k1 : RT B P n m l0 rest ((d, .bool true) :: E) H Q) : RT B P n m l0 (⟨some d, .binOp .neq t x y t', ty, pos, af, g⟩ :: rest) E H Q := by
 have hy2 : Yld B P n E H (.binOp .neq t x y t') ty (.bool true) := y_run fun o aa w ho _ hA _ => by
  unfold diffS at hs
  split at hs
  ·rename_i fs hu
   rw [Bool.and_eq_true, Bool.and_eq_true, Bool.and_eq_true, Bool.and_eq_true] at hs
   obtain ⟨⟨⟨⟨h1, h2⟩, h3⟩, h4⟩, h5⟩ := hs
   have hf : P.fieldsOf t = fs := by unfold Program.fieldsOf; rw [hu]
   have e1 := run_eqGuard_agg (P := P) w .neq t x y xs.toArray ys.toArray (by simpa using h2)
   obtain ⟨b, e3, e4⟩ := eqFields_diff (w := w) (d := 9998) h3
   have e2 : (Op.equalIn 10000 t (.agg xs.toArray) (.agg ys.toArray)).run P w = .ok b w := by
    rw [show (10000 : Nat) = 9998 + 1 + 1 from rfl, run_equalIn_struct w (9998 + 1) t _ _ (by rw [hf]; exact hu) (by simpa using h1), hf]
    exact e3
   have hb : b = false := by
    cases b with
    | false => rfl
    | true =>
     refine absurd (List.ext_getElem? fun i => ?_) hne
     have h4' : xs.length = ys.length := by simpa using h4
     by_cases hi : i < xs.length
     ·have h6 := List.all_eq_true.1 h5 i (List.mem_range.2 hi)
      obtain ⟨f, hf1, hf2⟩ := List.any_eq_true.1 h6
      have hf3 : f.offset = i := by simpa using hf2
      rw [← hf3]
      exact e4 rfl f hf1
     ·rw [List.getElem?_eq_none (by omega), List.getElem?_eq_none (by omega)]
   subst hb
   unfold execOp
   simp only [ho, hA.ev hx, hA.ev hy, e1, Sem.run_bind, Result.andThen_ok, run_neq_struct, e2]
   rfl
  ·cases hs
 exact RT.y hw (by simpa [Nat.blt_eq] using hd) hy2 k1
end
theorem map_step {α β : Type} {f : α → β} {l l' : List α} {i : Nat} {x y : α} (hx : l[i]? = some x) (hy : l'[i]? = some y) (h : f x = f y) (ih : (l.take i).map f = (l'.take i).map f) : (l.take (i + 1)).map f = (l'.take (i + 1)).map f := by
 rw [List.take_add_one, List.take_add_one, hx, hy, List.map_append, List.map_append, ih]
 simp [h]
theorem map_ne {α β : Type} {f : α → β} {l l' : List α} {i : Nat} {x y : α} (hx : l[i]? = some x) (hy : l'[i]? = some y) (h : f x ≠ f y) : l.map f ≠ l'.map f := fun e => by
 have := congrArg (fun l => l[i]?) e
 simp only [List.getElem?_map, hx, hy, Option.map_some, Option.some.injEq] at this
 exact h this
end Go.Sk
end
