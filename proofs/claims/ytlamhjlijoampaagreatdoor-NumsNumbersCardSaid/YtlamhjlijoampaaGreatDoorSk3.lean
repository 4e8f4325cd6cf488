/- The rules for single operations: copies, arithmetic, tests, fields, loads and stores of known cells, lengths, elements. Plain theorems over any program with a table of its types; no condition. -/
import Derived.Test.YtlamhjlijoampaaGreatDoorSk2
set_option linter.unusedVariables false
set_option linter.unusedSimpArgs false
namespace Go.Sk
open Go.RowKit

/-! ### a table of the program's types, held against the program once -/
def al {β : Type} : List (Nat × β) → Nat → Option β
  | [], _ => none
  | (k, b) :: l, t => bif Nat.beq k t then some b else al l t
def al2 {β : Type} : List (Nat × Nat × β) → Nat → Nat → Option β
  | [], _, _ => none
  | (k, j, b) :: l, t, u => bif Nat.beq k t then (bif Nat.beq j u then some b else al2 l t u) else al2 l t u
theorem al_mem {β : Type} : ∀ {l : List (Nat × β)} {t : Nat} {b : β}, al l t = some b → (t, b) ∈ l
  | (k, c) :: l, t, b, h => by
    simp only [al] at h
    cases hb : Nat.beq k t with
    | true => rw [hb] at h; cases h; rw [Nat.beq_eq] at hb; subst hb; exact List.mem_cons_self
    | false => rw [hb] at h; exact List.mem_cons_of_mem _ (al_mem h)
theorem al2_mem {β : Type} : ∀ {l : List (Nat × Nat × β)} {t u : Nat} {b : β}, al2 l t u = some b → (t, u, b) ∈ l
  | (k, j, c) :: l, t, u, b, h => by
    simp only [al2] at h
    cases hb : Nat.beq k t with
    | true =>
      cases hj : Nat.beq j u with
      | true => rw [hb, hj] at h; cases h; rw [Nat.beq_eq] at hb hj; subst hb hj; exact List.mem_cons_self
      | false => rw [hb, hj] at h; exact List.mem_cons_of_mem _ (al2_mem h)
    | false => rw [hb] at h; exact List.mem_cons_of_mem _ (al2_mem h)

def isAggB (P : Program) (t : TypeId) : Option Bool :=
  match P.underlying t with
  | some (.struct _) | some (.array _ _) => some true
  | some _ => some false
  | none => none
def sizeB (P : Program) (t : TypeId) : Option Nat := (P.info? t).map (·.size)
/-- offset, size, is it an aggregate? -/
def fldB (P : Program) (s f : Nat) : Option (Nat × Nat × Bool) :=
  match P.underlying s with
  | some (.struct fs) => match fs[f]? with
    | some fi => match sizeB P fi.type, isAggB P fi.type with
      | some z, some g => some (fi.offset, z, g)
      | _, _ => none
    | none => none
  | _ => none
/-- element type, its size, its bytes. -/
def slcB (P : Program) (t : Nat) : Option (Nat × Nat × Nat) :=
  match P.underlying t with
  | some (.slice e) => match P.info? e with
    | some i => some (e, i.size, i.bytes)
    | none => none
  | _ => none
def zerB (P : Program) (t : Nat) : Option Value := (P.info? t).bind (·.zero)
def intB (P : Program) (t : Nat) : Option IntKind := match P.underlying t with | some (.int k) => some k | _ => none
/-- 1: a pointer type (to something that has cells); 2: string; 3: bool; 4: slice; 5: func. -/
def knd (P : Program) (t : Nat) : Option Nat := match P.underlying t with
  | some (.pointer e) => match sizeB P e with
    | some 0 => none
    | some _ => some 1
    | none => none
  | some .string => some 2 | some .bool => some 3 | some (.slice _) => some 4 | some (.func _ _ _) => some 5 | _ => none
def funB (P : Program) (f : Nat) : Option Bool := match P.funcs[f]? with
  | some fn => some (fn.name != "runtime.NumGoroutine" && fn.body.isSome)
  | none => none

/-- where a struct's fields lie, and how large they are. -/
def plB (P : Program) (t : Nat) : Option (List (Nat × Nat)) := match P.underlying t with
  | some (.struct fs) => fs.toList.mapM fun f => (P.info? f.type).map fun i => (f.offset, i.size)
  | _ => none

structure Tab (P : Program) where
  szs : List (Nat × Nat × Bool)
  szs_ok : szs.map (fun e => (sizeB P e.1, isAggB P e.1)) = szs.map (fun e => (some e.2.1, some e.2.2))
  flds : List (Nat × Nat × Nat × Nat × Bool)
  flds_ok : flds.map (fun e => fldB P e.1 e.2.1) = flds.map (fun e => some e.2.2)
  slcs : List (Nat × Nat × Nat × Nat)
  slcs_ok : slcs.map (fun e => slcB P e.1) = slcs.map (fun e => some e.2)
  zers : List (Nat × Value)
  zers_ok : zers.map (fun e => zerB P e.1) = zers.map (fun e => some e.2)
  plcs : List (Nat × List (Nat × Nat))
  plcs_ok : plcs.map (fun e => plB P e.1) = plcs.map (fun e => some e.2)
  ints : List (Nat × IntKind)
  ints_ok : ints.map (fun e => intB P e.1) = ints.map (fun e => some e.2)
  kinds : List (Nat × Nat)
  kinds_ok : kinds.map (fun e => knd P e.1) = kinds.map (fun e => some e.2)
  funs : List (Nat × Bool)
  funs_ok : ∀ e ∈ funs, ∀ args w, (callFunc e.1 args).run P w = .ok (.enter e.1 args) w

theorem mem_map_eq {α β : Type} {f g : α → β} : ∀ {l : List α}, l.map f = l.map g → ∀ x, x ∈ l → f x = g x
  | [], _, _, h => by cases h
  | y :: l, e, x, h => by
    simp only [List.map_cons, List.cons.injEq] at e
    rcases List.mem_cons.1 h with rfl | h
    · exact e.1
    · exact mem_map_eq e.2 x h

section
variable {P : Program} (T : Tab P)
theorem Tab.sz {t z : Nat} {g : Bool} (h : al T.szs t = some (z, g)) : sizeB P t = some z ∧ isAggB P t = some g := by
  have := mem_map_eq T.szs_ok _ (al_mem h)
  simpa using this
theorem Tab.fld {s f o z : Nat} {g : Bool} (h : al2 T.flds s f = some (o, z, g)) : fldB P s f = some (o, z, g) := mem_map_eq T.flds_ok _ (al2_mem h)
theorem Tab.slc {t e z b : Nat} (h : al T.slcs t = some (e, z, b)) : slcB P t = some (e, z, b) := mem_map_eq T.slcs_ok _ (al_mem h)
theorem Tab.zer {t : Nat} {v : Value} (h : al T.zers t = some v) : zerB P t = some v := mem_map_eq T.zers_ok _ (al_mem h)
theorem Tab.plc {t : Nat} {l : List (Nat × Nat)} (h : al T.plcs t = some l) : plB P t = some l := mem_map_eq T.plcs_ok _ (al_mem h)
theorem Tab.int {t : Nat} {k : IntKind} (h : al T.ints t = some k) : intB P t = some k := mem_map_eq T.ints_ok _ (al_mem h)
theorem Tab.kind {t k : Nat} (h : al T.kinds t = some k) : knd P t = some k := mem_map_eq T.kinds_ok _ (al_mem h)
end

section
variable {P : Program} {w : World}
theorem sizeB_info {t z : Nat} (h : sizeB P t = some z) : ∃ i, P.info? t = some i ∧ i.size = z := by
  unfold sizeB at h
  cases hi : P.info? t with
  | none => simp [hi] at h
  | some i => exact ⟨i, rfl, by simpa [hi] using h⟩
theorem run_sizeB {t z : Nat} (h : sizeB P t = some z) : (sizeOf t).run P w = .ok z w := by
  obtain ⟨i, hi, rfl⟩ := sizeB_info h
  simp [sizeOf, typeInfo, hi, go_sem]
theorem run_isAggB {t : Nat} {g : Bool} (h : isAggB P t = some g) : (isAgg t).run P w = .ok g w := by
  unfold isAggB at h
  cases hu : P.underlying t with
  | none => simp [hu] at h
  | some d => cases d <;> simp [hu] at h <;> subst h <;> simp [isAgg, run_underlying hu, go_sem]
theorem slcB_spec {t e z b : Nat} (h : slcB P t = some (e, z, b)) : P.underlying t = some (.slice e) ∧ ∃ i, P.info? e = some i ∧ i.size = z ∧ i.bytes = b := by
  unfold slcB at h
  split at h
  · rename_i e' hu
    split at h
    · rename_i i hi
      simp only [Option.some.injEq, Prod.mk.injEq] at h
      obtain ⟨rfl, rfl, rfl⟩ := h
      exact ⟨hu, i, hi, rfl, rfl⟩
    · cases h
  · cases h
theorem fldB_spec {s f o z : Nat} {g : Bool} (h : fldB P s f = some (o, z, g)) :
    ∃ fs fi, P.underlying s = some (.struct fs) ∧ fs[f]? = some fi ∧ fi.offset = o ∧ sizeB P fi.type = some z ∧ isAggB P fi.type = some g := by
  unfold fldB at h
  split at h
  · rename_i fs hu
    split at h
    · rename_i fi hf
      split at h
      · rename_i z' g' hz hg
        simp only [Option.some.injEq, Prod.mk.injEq] at h
        obtain ⟨rfl, rfl, rfl⟩ := h
        exact ⟨fs, fi, hu, hf, rfl, hz, hg⟩
      · cases h
    · cases h
  · cases h
theorem zerB_spec {t : Nat} {v : Value} (h : zerB P t = some v) : (zeroValue t).run P w = .ok v w := by
  unfold zerB at h
  cases hi : P.info? t with
  | none => simp [hi] at h
  | some i =>
    simp only [hi, Option.bind_some] at h
    simp [zeroValue, typeInfo, hi, h, go_sem]
theorem intB_spec {t : Nat} {k : IntKind} (h : intB P t = some k) : P.underlying t = some (.int k) := by
  unfold intB at h
  split at h
  · rename_i k' hu; cases h; exact hu
  · cases h
end

section
variable {B : World} {P : Program} {n : Fm} {E : Env} {H R : List HP} {ty : TypeId}

theorem qa_v {C : World → Prop} {w : World} {v : Value} {s : Sem Value} (h : s.run P w = .ok v w) :
    Oper.quietUpon P C w v ((do pure (Next.value (← s)) : Sem Next).run P w) := by
  simp only [Sem.run_bind, h, Result.andThen_ok]
  exact ⟨rfl, rfl⟩

/-- The common form: an operation that runs to a value, the world left. -/
theorem y_run {op : Op} {v : Value} (h : ∀ (o : Oper) a w, o.op = op → o.type = ty → Agr n E a → Sat B H w → (execOp a.eval o).run P w = .ok (.value v) w) : Yld B P n E H op ty v :=
  fun o a w ho ht hA hS => by unfold Oper.quietAt; rw [h o a w ho ht hA hS]; exact ⟨rfl, rfl⟩

theorem y_move {x : Operand} {v : Value} (hx : ev E x = some v) : Yld B P n E H (.move x) ty v :=
  y_run fun o a w ho _ hA _ => by unfold execOp; rw [ho, ← hA.ev hx]; rfl
theorem y_assign {x : Operand} {v : Value} (hx : ev E x = some v) : Yld B P n E H (.assign x) ty v :=
  y_run fun o a w ho _ hA _ => by unfold execOp; rw [ho, ← hA.ev hx]; rfl
theorem y_pick_t {c x y : Operand} {v : Value} (hc : ev E c = some (.bool true)) (hx : ev E x = some v) : Yld B P n E H (.pick c x y) ty v :=
  y_run fun o a w ho _ hA _ => by unfold execOp; simp only [ho, hA.ev hc, hA.ev hx]; rfl
theorem y_pick_f {c x y : Operand} {v : Value} (hc : ev E c = some (.bool false)) (hy : ev E y = some v) : Yld B P n E H (.pick c x y) ty v :=
  y_run fun o a w ho _ hA _ => by unfold execOp; simp only [ho, hA.ev hc, hA.ev hy]; rfl
theorem y_nil {x : Operand} {ad : Addr} (hx : ev E x = some (.pointer (some ad))) : Yld B P n E H (.nilCheck x) ty (.pointer (some ad)) :=
  y_run fun o a w ho _ hA _ => by unfold execOp; simp only [ho, hA.ev hx]; rfl
theorem y_extract {x : Operand} {l : List Value} {i : Nat} {v : Value} (hx : ev E x = some (.tuple l.toArray)) (hi : l[i]? = some v) : Yld B P n E H (.extract x i) ty v :=
  y_run fun o a w ho _ hA _ => by
    unfold execOp
    simp only [ho, hA.ev hx, Instr.extract, List.getElem?_toArray, hi]
    rfl
theorem y_not {x : Operand} {ty' : TypeId} {b r : Bool} (hx : ev E x = some (.bool b)) (hr : (!b) = r) : Yld B P n E H (.unOp .not ty' x) ty (.bool r) :=
  y_run fun o a w ho _ hA _ => by subst hr; unfold execOp; simp only [ho, hA.ev hx]; rfl
theorem y_neg {x : Operand} {ty' : TypeId} {k : IntKind} {i r : Int} (hx : ev E x = some (.int k i)) (hr : k.wrap (0 - i) = r) : Yld B P n E H (.unOp .neg ty' x) ty (.int k r) :=
  y_run fun o a w ho _ hA _ => by subst hr; unfold execOp; simp only [ho, hA.ev hx]; rfl
theorem y_xor1 {x : Operand} {ty' : TypeId} {k : IntKind} {i r : Int} (hx : ev E x = some (.int k i))
    (hr : k.wrap ((BitVec.ofInt k.bits (if k.signed then -1 else k.max) ^^^ BitVec.ofInt k.bits i).toNat : Int) = r) : Yld B P n E H (.unOp .xor ty' x) ty (.int k r) :=
  y_run fun o a w ho _ hA _ => by subst hr; unfold execOp; simp only [ho, hA.ev hx]; rfl

/-! ### arithmetic -/
section
variable {x y : Operand} {k : IntKind} {i j r : Int} {t t' : TypeId}
theorem y_add (hx : ev E x = some (.int k i)) (hy : ev E y = some (.int k j)) (hr : k.wrap (i + j) = r) : Yld B P n E H (.binOp .add t x y t') ty (.int k r) :=
  y_run fun o a w ho _ hA _ => by subst hr; unfold execOp; simp only [ho, hA.ev hx, hA.ev hy, eqGuard, binOp, ne_eq, not_true, if_false, Op.intArith]; rfl
theorem y_sub (hx : ev E x = some (.int k i)) (hy : ev E y = some (.int k j)) (hr : k.wrap (i - j) = r) : Yld B P n E H (.binOp .sub t x y t') ty (.int k r) :=
  y_run fun o a w ho _ hA _ => by subst hr; unfold execOp; simp only [ho, hA.ev hx, hA.ev hy, eqGuard, binOp, ne_eq, not_true, if_false, Op.intArith]; rfl
theorem y_mul (hx : ev E x = some (.int k i)) (hy : ev E y = some (.int k j)) (hr : k.wrap (i * j) = r) : Yld B P n E H (.binOp .mul t x y t') ty (.int k r) :=
  y_run fun o a w ho _ hA _ => by subst hr; unfold execOp; simp only [ho, hA.ev hx, hA.ev hy, eqGuard, binOp, ne_eq, not_true, if_false, Op.intArith]; rfl
theorem y_quo (hx : ev E x = some (.int k i)) (hy : ev E y = some (.int k j)) (h0 : j ≠ 0) (hr : k.wrap (i.tdiv j) = r) : Yld B P n E H (.binOp .quo t x y t') ty (.int k r) :=
  y_run fun o a w ho _ hA _ => by subst hr; unfold execOp; simp only [ho, hA.ev hx, hA.ev hy, eqGuard, binOp, ne_eq, not_true, if_false, Op.intDiv, if_neg h0]; rfl
theorem y_rem (hx : ev E x = some (.int k i)) (hy : ev E y = some (.int k j)) (h0 : j ≠ 0) (hr : i.tmod j = r) : Yld B P n E H (.binOp .rem t x y t') ty (.int k r) :=
  y_run fun o a w ho _ hA _ => by subst hr; unfold execOp; simp only [ho, hA.ev hx, hA.ev hy, eqGuard, binOp, ne_eq, not_true, if_false, Op.intDiv, if_neg h0]; rfl
theorem y_and (hx : ev E x = some (.int k i)) (hy : ev E y = some (.int k j)) (hr : k.wrap ((BitVec.ofInt k.bits i &&& BitVec.ofInt k.bits j).toNat : Int) = r) : Yld B P n E H (.binOp .and t x y t') ty (.int k r) :=
  y_run fun o a w ho _ hA _ => by subst hr; unfold execOp; simp only [ho, hA.ev hx, hA.ev hy, eqGuard, binOp, ne_eq, not_true, if_false, Op.intBits]; rfl
theorem y_or (hx : ev E x = some (.int k i)) (hy : ev E y = some (.int k j)) (hr : k.wrap ((BitVec.ofInt k.bits i ||| BitVec.ofInt k.bits j).toNat : Int) = r) : Yld B P n E H (.binOp .or t x y t') ty (.int k r) :=
  y_run fun o a w ho _ hA _ => by subst hr; unfold execOp; simp only [ho, hA.ev hx, hA.ev hy, eqGuard, binOp, ne_eq, not_true, if_false, Op.intBits]; rfl
theorem y_xor (hx : ev E x = some (.int k i)) (hy : ev E y = some (.int k j)) (hr : k.wrap ((BitVec.ofInt k.bits i ^^^ BitVec.ofInt k.bits j).toNat : Int) = r) : Yld B P n E H (.binOp .xor t x y t') ty (.int k r) :=
  y_run fun o a w ho _ hA _ => by subst hr; unfold execOp; simp only [ho, hA.ev hx, hA.ev hy, eqGuard, binOp, ne_eq, not_true, if_false, Op.intBits]; rfl
theorem y_shl {k' : IntKind} (hx : ev E x = some (.int k i)) (hy : ev E y = some (.int k' j)) (h0 : 0 ≤ j) (hr : k.wrap (i * 2 ^ (min j.toNat k.bits)) = r) : Yld B P n E H (.binOp .shl t x y t') ty (.int k r) :=
  y_run fun o a w ho _ hA _ => by subst hr; unfold execOp; simp only [ho, hA.ev hx, hA.ev hy, eqGuard, binOp, Op.shift, if_neg (Int.not_lt.2 h0)]; rfl
theorem y_shr {k' : IntKind} (hx : ev E x = some (.int k i)) (hy : ev E y = some (.int k' j)) (h0 : 0 ≤ j) (hr : i.fdiv (2 ^ (min j.toNat k.bits)) = r) : Yld B P n E H (.binOp .shr t x y t') ty (.int k r) :=
  y_run fun o a w ho _ hA _ => by subst hr; unfold execOp; simp only [ho, hA.ev hx, hA.ev hy, eqGuard, binOp, Op.shift, if_neg (Int.not_lt.2 h0)]; rfl
theorem y_conv (T : Tab P) {t : Nat} {k' : IntKind} {ks : IntKind} (ht : al T.ints t = some k') (hs : al T.ints t' = some ks) (hx : ev E x = some (.int k i)) (hr : k'.wrap i = r) : Yld B P n E H (.convert t' t x) ty (.int k' r) :=
  y_run fun o a w ho _ hA _ => by
    subst hr
    have h1 := intB_spec (T.int ht)
    have h2 := intB_spec (T.int hs)
    unfold execOp
    simp only [ho, hA.ev hx, convert, Sem.run_bind, run_underlying h1, run_underlying h2, Result.andThen_ok, Conv.intToInt]
    rfl
end

/-! ### tests: the ways part at once -/
section
variable {m : Bool} {l0 rest : List Oper} {Q : Exit → Act → World → Prop} {d : Nat} {pos : String} {af : Array Edge} {g : Option (Nat × Bool)} {x y : Operand} {k : IntKind} {i j : Int} {t t' : TypeId}
theorem RT.split {op : Op} {c : Prop} {b : Bool} (hw : wt l0 E g = some true) (hd : d < n) (hy : Yld B P n E H op ty (.bool b)) (hb : b = true ↔ c)
    (h1 : c → RT B P n m l0 rest ((d, .bool true) :: E) H Q) (h2 : ¬ c → RT B P n m l0 rest ((d, .bool false) :: E) H Q) : RT B P n m l0 (⟨some d, op, ty, pos, af, g⟩ :: rest) E H Q := by
  cases b with
  | true => exact RT.y hw hd hy (h1 (hb.1 rfl))
  | false => exact RT.y hw hd hy (h2 fun hc => by simpa using hb.2 hc)
theorem y_cmp {bo : BinOp} {b : Bool} (hx : ev E x = some (.int k i)) (hy : ev E y = some (.int k j))
    (hb : Op.intCmp bo i j = pure (.bool b)) (h1 : bo = .eql ∨ bo = .neq ∨ bo = .lss ∨ bo = .leq ∨ bo = .gtr ∨ bo = .geq) : Yld B P n E H (.binOp bo t x y t') ty (.bool b) :=
  y_run fun o a w ho _ hA _ => by
    unfold execOp
    have h2 : ∀ s : Sem Value, s = pure (.bool b) → Sem.run P (do pure (Next.value (← s)) : Sem Next) w = .ok (.value (.bool b)) w := fun s hs => by subst hs; rfl
    simp only [ho, hA.ev hx, hA.ev hy]
    refine h2 _ ?_
    rw [← hb]
    rcases h1 with rfl | rfl | rfl | rfl | rfl | rfl <;> simp [eqGuard, binOp] <;> rfl
theorem RT.lss (hw : wt l0 E g = some true) (hd : d < n) (hx : ev E x = some (.int k i)) (hy : ev E y = some (.int k j))
    (h1 : i < j → RT B P n m l0 rest ((d, .bool true) :: E) H Q) (h2 : ¬ i < j → RT B P n m l0 rest ((d, .bool false) :: E) H Q) : RT B P n m l0 (⟨some d, .binOp .lss t x y t', ty, pos, af, g⟩ :: rest) E H Q :=
  RT.split hw hd (y_cmp hx hy rfl (by simp)) (by simp) h1 h2
theorem RT.leq (hw : wt l0 E g = some true) (hd : d < n) (hx : ev E x = some (.int k i)) (hy : ev E y = some (.int k j))
    (h1 : i ≤ j → RT B P n m l0 rest ((d, .bool true) :: E) H Q) (h2 : ¬ i ≤ j → RT B P n m l0 rest ((d, .bool false) :: E) H Q) : RT B P n m l0 (⟨some d, .binOp .leq t x y t', ty, pos, af, g⟩ :: rest) E H Q :=
  RT.split hw hd (y_cmp hx hy rfl (by simp)) (by simp) h1 h2
theorem RT.gtr (hw : wt l0 E g = some true) (hd : d < n) (hx : ev E x = some (.int k i)) (hy : ev E y = some (.int k j))
    (h1 : j < i → RT B P n m l0 rest ((d, .bool true) :: E) H Q) (h2 : ¬ j < i → RT B P n m l0 rest ((d, .bool false) :: E) H Q) : RT B P n m l0 (⟨some d, .binOp .gtr t x y t', ty, pos, af, g⟩ :: rest) E H Q :=
  RT.split hw hd (y_cmp hx hy rfl (by simp)) (by simp) h1 h2
theorem RT.geq (hw : wt l0 E g = some true) (hd : d < n) (hx : ev E x = some (.int k i)) (hy : ev E y = some (.int k j))
    (h1 : j ≤ i → RT B P n m l0 rest ((d, .bool true) :: E) H Q) (h2 : ¬ j ≤ i → RT B P n m l0 rest ((d, .bool false) :: E) H Q) : RT B P n m l0 (⟨some d, .binOp .geq t x y t', ty, pos, af, g⟩ :: rest) E H Q :=
  RT.split hw hd (y_cmp hx hy rfl (by simp)) (by simp) h1 h2
theorem RT.eql (hw : wt l0 E g = some true) (hd : d < n) (hx : ev E x = some (.int k i)) (hy : ev E y = some (.int k j))
    (h1 : i = j → RT B P n m l0 rest ((d, .bool true) :: E) H Q) (h2 : ¬ i = j → RT B P n m l0 rest ((d, .bool false) :: E) H Q) : RT B P n m l0 (⟨some d, .binOp .eql t x y t', ty, pos, af, g⟩ :: rest) E H Q :=
  RT.split hw hd (y_cmp hx hy rfl (by simp)) (by simp) h1 h2
theorem RT.neq (hw : wt l0 E g = some true) (hd : d < n) (hx : ev E x = some (.int k i)) (hy : ev E y = some (.int k j))
    (h1 : ¬ i = j → RT B P n m l0 rest ((d, .bool true) :: E) H Q) (h2 : i = j → RT B P n m l0 rest ((d, .bool false) :: E) H Q) : RT B P n m l0 (⟨some d, .binOp .neq t x y t', ty, pos, af, g⟩ :: rest) E H Q :=
  RT.split hw hd (y_cmp hx hy rfl (by simp)) (by simp) h1 (fun h => h2 (Decidable.not_not.1 h))
end

/-! ### a pointer against nil; two bools; two strings -/
theorem knd_ptr {t : Nat} (h : knd P t = some 1) : ∃ e z, P.underlying t = some (.pointer e) ∧ sizeB P e = some z ∧ z ≠ 0 := by
  unfold knd at h
  split at h
  · rename_i e hu
    cases hz : sizeB P e with
    | none => simp [hz] at h
    | some z =>
      cases z with
      | zero => simp [hz] at h
      | succ z => exact ⟨e, z + 1, hu, hz, by omega⟩
  all_goals first | cases h | (simp at h)
theorem run_eqv {w : World} {t : TypeId} {x y : Value} {r : Bool} (h : ∀ d, (Op.equalIn (d + 1) t x y).run P w = .ok r w) : (Op.equal t x y).run P w = .ok r w := h 9999
theorem run_pnil {w : World} {t e : TypeId} (hu : P.underlying t = some (.pointer e)) (p : Option Addr) : (Op.equal t (.pointer p) (.pointer none)).run P w = .ok p.isNone w :=
  run_eqv fun d => by
    cases p <;> (simp only [Op.equalIn, Sem.run_bind, run_underlying hu, Result.andThen_ok]; rfl)
theorem y_pnil {x y : Operand} {t t' : TypeId} (T : Tab P) {p : Option Addr} {r : Bool} (ht : al T.kinds t = some 1) (hx : ev E x = some (.pointer p)) (hy : ev E y = some (.pointer none)) (hr : p.isNone = r) :
    Yld B P n E H (.binOp .eql t x y t') ty (.bool r) :=
  y_run fun o a w ho _ hA _ => by
    obtain ⟨e, z, hu, _, _⟩ := knd_ptr (T.kind ht)
    subst hr
    have h1 : binOp .eql t (.pointer p) (.pointer none) = (do pure (.bool (← Op.equal t (.pointer p) (.pointer none)))) := by cases p <;> rfl
    have h2 : eqGuard .eql t x y (.pointer p) (.pointer none) = pure () := by cases p <;> rfl
    unfold execOp
    simp only [ho, hA.ev hx, hA.ev hy, h1, h2, Sem.run_bind, Sem.run_pure, Result.andThen_ok, run_pnil hu]
theorem y_pnnil {x y : Operand} {t t' : TypeId} (T : Tab P) {p : Option Addr} {r : Bool} (ht : al T.kinds t = some 1) (hx : ev E x = some (.pointer p)) (hy : ev E y = some (.pointer none)) (hr : (!p.isNone) = r) :
    Yld B P n E H (.binOp .neq t x y t') ty (.bool r) :=
  y_run fun o a w ho _ hA _ => by
    obtain ⟨e, z, hu, _, _⟩ := knd_ptr (T.kind ht)
    subst hr
    have h1 : binOp .neq t (.pointer p) (.pointer none) = (do pure (.bool (!(← Op.equal t (.pointer p) (.pointer none))))) := by cases p <;> rfl
    have h2 : eqGuard .neq t x y (.pointer p) (.pointer none) = pure () := by cases p <;> rfl
    unfold execOp
    simp only [ho, hA.ev hx, hA.ev hy, h1, h2, Sem.run_bind, Sem.run_pure, Result.andThen_ok, run_pnil hu]

/-! ### addresses, known cells -/
theorem run_fa {w : World} {s f off z : Nat} {g : Bool} {ad : Addr} (h : fldB P s f = some (off, z + 1, g)) : (Instr.fieldAt s (.pointer (some ad)) f).run P w = .ok (.pointer (some (ad.add off))) w := by
  obtain ⟨fs, fi, hu, hfi, rfl, hz, _⟩ := fldB_spec h
  have hp : (fieldPlace ad fi).run P w = .ok (ad.add fi.offset) w := by
    unfold fieldPlace
    simp only [Sem.run_bind, run_sizeB hz, Result.andThen_ok]
    rfl
  simp only [Instr.fieldAt, Instr.sureAddr, Sem.run_bind, run_underlying hu, Result.andThen_ok, hfi, Sem.run_pure, hp]
theorem y_fa (T : Tab P) {x : Operand} {s f off z : Nat} {g : Bool} {b : Nat} (hf : al2 T.flds s f = some (off, z + 1, g)) (hx : ev E x = some (.pointer (some ⟨b, 0, none⟩))) :
    Yld B P n E H (.fieldAddr s x f) ty (.pointer (some ⟨b, off, none⟩)) :=
  y_run fun o a w ho _ hA _ => by
    have ha : (⟨b, 0, none⟩ : Addr).add off = ⟨b, off, none⟩ := by unfold Addr.add; split <;> simp_all
    unfold execOp
    simp only [ho, hA.ev hx, Sem.run_bind, run_fa (T.fld hf), Result.andThen_ok, ha]
    rfl
theorem y_faA (T : Tab P) {x : Operand} {s f off z : Nat} {g : Bool} {ad : Addr} {j : Nat} (hf : al2 T.flds s f = some (off, z + 1, g)) (hx : ev E x = some (.pointer (some (ad.add j)))) :
    Yld B P n E H (.fieldAddr s x f) ty (.pointer (some (ad.add (j + off)))) :=
  y_run fun o a w ho _ hA _ => by
    have ha : (ad.add j).add off = ad.add (j + off) := by
      unfold Addr.add
      by_cases h1 : j = 0 <;> by_cases h2 : off = 0 <;> simp [h1, h2, Nat.add_assoc]
    unfold execOp
    simp only [ho, hA.ev hx, Sem.run_bind, run_fa (T.fld hf), Result.andThen_ok, ha]
    rfl

theorem cs_cell {w : World} {b : Nat} {e : TypeId} {l : List Value} (h : w.heap[b]? = some (.cells l.toArray e (0, 0))) (i : Nat) : w.cell? ⟨b, i, none⟩ = l[i]? := by
  rw [cell_of_row w b i _ e (0, 0) h]; simp
theorem y_ld (T : Tab P) {x : Operand} {t b off : Nat} {e : TypeId} {l : List Value} {v : Value} (ht : al T.szs t = some (1, false)) (hx : ev E x = some (.pointer (some ⟨b, off, none⟩)))
    (hs : Sel H (Cs b e l) R) (hv : l[off]? = some v) : Yld B P n E H (.load t x) ty v :=
  y_run fun o a w ho _ hA hS => by
    have hc := (cs_cell (hS.cs hs).1 off).trans hv
    unfold execOp
    simp only [ho, hA.ev hx, Instr.loadAt, Instr.sureAddr, Sem.run_bind, Sem.run_pure, Result.andThen_ok, loadVar, run_isAggB (T.sz ht).2]
    simp [load, Sem.run, hc]
/-- A whole struct out of its variable. -/
theorem y_ldagg (T : Tab P) {x : Operand} {t b z : Nat} {e : TypeId} {l : List Value} (ht : al T.szs t = some (z, true)) (hx : ev E x = some (.pointer (some ⟨b, 0, none⟩)))
    (hs : Sel H (Cs b e l) R) (hz : l.length = z) : Yld B P n E H (.load t x) ty (.agg l.toArray) :=
  y_run fun o a w ho _ hA hS => by
    subst hz
    have hc : ∀ j v, l[j]? = some v → w.cell? ((⟨b, 0, none⟩ : Addr).add j) = some v := fun j v hj => by
      have : (⟨b, 0, none⟩ : Addr).add j = ⟨b, j, none⟩ := by unfold Addr.add; split <;> simp_all
      rw [this]; exact (cs_cell (hS.cs hs).1 j).trans hj
    unfold execOp
    simp only [ho, hA.ev hx, Instr.loadAt, Instr.sureAddr, Sem.run_bind, Sem.run_pure, Result.andThen_ok, loadVar, run_isAggB (T.sz ht).2, run_sizeB (T.sz ht).1, if_true, run_loadCells_list w _ l hc]

inductive SetN : List Value → Nat → Value → List Value → Prop
  | z {x v : Value} {l : List Value} : SetN (x :: l) 0 v (v :: l)
  | s {x v : Value} {l l' : List Value} {k : Nat} : SetN l k v l' → SetN (x :: l) (k + 1) v (x :: l')
theorem SetN.spec {l l' : List Value} {k : Nat} {v : Value} (h : SetN l k v l') : l' = l.set k v ∧ k < l.length := by
  induction h with
  | z => simp
  | s _ ih => simp [ih.1, ih.2]
/-- A value of one cell. -/
def one1 : Value → Bool
  | .agg _ | .tuple _ => false
  | _ => true
theorem one1_cells {v : Value} (h : one1 v = true) : v.cells = #[v] := by cases v <;> first | rfl | cases h
theorem run_store1 {w : World} {b off : Nat} {e : TypeId} {l : List Value} {v : Value} (h1 : one1 v = true) (hb : w.heap[b]? = some (.cells l.toArray e (0, 0))) (ho : off < l.length) :
    (store ⟨b, off, none⟩ v).run P w = .ok () (w.setCell ⟨b, off, none⟩ v) := by
  have hc : w.cell? ⟨b, off, none⟩ = some (l[off]) := by rw [cs_cell hb]; simp [ho]
  have hf : w.frozen? ⟨b, off, none⟩ = false := by simp [World.frozen?, hb]
  cases v <;> first | (cases h1; done) | (simp [store, Sem.run, hc, hf])
theorem addr_add0 (a : Addr) : a.add 0 = a := by simp [Addr.add]
theorem setCell_heap {w : World} {b off : Nat} {e : TypeId} {l : List Value} {v : Value} (hb : w.heap[b]? = some (.cells l.toArray e (0, 0))) :
    (w.setCell ⟨b, off, none⟩ v).heap[b]? = some (.cells (l.set off v).toArray e (0, 0)) := by
  simp [World.setCell, Array.getElem?_modify, hb]
theorem setCell_size (w : World) (p : Addr) (v : Value) : (w.setCell p v).heap.size = w.heap.size := by simp [World.setCell]
theorem setCell_ne (w : World) (p : Addr) (v : Value) (x : Nat) (h : x ≠ p.block) : (w.setCell p v).heap[x]? = w.heap[x]? := by
  simp only [World.setCell, Array.getElem?_modify]
  rw [if_neg (fun e => h e.symm)]
theorem Sat.setCs {w : World} {b off : Nat} {e : TypeId} {l : List Value} {v : Value} {H' : List HP} (hS : Sat B H w) (hr : Rep H (Cs b e l) (Cs b e (l.set off v)) H') :
    Sat B H' (w.setCell ⟨b, off, none⟩ v) := by
  obtain ⟨R, s1, _⟩ := hr.sel
  have hb := (hS.cs s1).1
  exact hS.upd (b := b) (o' := .cells (l.set off v).toArray e (0, 0)) hr (fun h hh => ⟨_, hh⟩) (fun _ _ _ _ hh => hh) rfl rfl rfl (setCell_size _ _ _) (setCell_heap hb) (fun x hx => setCell_ne _ _ _ _ hx)
theorem x_st (T : Tab P) {l0 rest : List Oper} {Q : Exit → Act → World → Prop} {pos : String} {af : Array Edge} {g : Option (Nat × Bool)} {x y : Operand} {t b off : Nat} {e : TypeId} {l l' : List Value} {v : Value} {H' : List HP}
    (hw : wt l0 E g = some true) (ht : al T.szs t = some (1, false)) (hx : ev E x = some (.pointer (some ⟨b, off, none⟩))) (hy : ev E y = some v) (h1 : one1 v = true)
    (hr : Rep H (Cs b e l) (Cs b e l') H') (hl : SetN l off v l') (k : RT B P n true l0 rest E H' Q) : RT B P n true l0 (⟨none, .store t x y, ty, pos, af, g⟩ :: rest) E H Q :=
  RT.eff hw fun o a w K ho _ hd hA hS hK => by
    obtain ⟨rfl, hlt⟩ := hl.spec
    obtain ⟨R, s1, _⟩ := hr.sel
    have hb := (hS.cs s1).1
    unfold Oper.wp execOp
    have hsz := (T.sz ht).1
    simp only [ho, hA.ev hx, hA.ev hy, Instr.storeAt, Instr.sureAddr, Sem.run_bind, Sem.run_pure, Result.andThen_ok, storeVar, run_sizeB hsz, one1_cells h1]
    simp only [List.size_toArray, List.length_cons, List.length_nil, Nat.zero_add, ne_eq, not_true, if_false, Sem.run_pure, Result.andThen_ok, storeCells, addr_add0, run_store1 h1 hb hlt, Sem.run_bind]
    simp only [Oper.upon, hd, Act.put]
    exact hK _ _ (k _ _ hA (hS.setCs hr))
end
end Go.Sk
