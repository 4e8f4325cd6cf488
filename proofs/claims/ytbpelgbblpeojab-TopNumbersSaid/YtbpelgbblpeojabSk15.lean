/- Texts as lists of bytes: their length, bytes, parts, sums, equality; from bytes and back. Plain theorems, no condition. -/
import Derived.Test.YtbpelgbblpeojabSk14
set_option linter.unusedVariables false
set_option linter.unusedSimpArgs false
namespace Go.Sk
open Go.RowKit
def b8 (x : Int) : UInt8 := UInt8.ofNat x.toNat
/-- The text of these bytes. -/
def str (l : List Int) : ByteArray := ⟨(l.map b8).toArray⟩
def isB (x : Int) : Prop := 0 ≤ x ∧ x < 256
def Byt (l : List Int) : Prop := ∀ x ∈ l, isB x
theorem b8_nat {x : Int} (h : isB x) : ((b8 x).toNat : Int) = x := by
  obtain ⟨h0, h1⟩ := h
  unfold b8
  rw [UInt8.toNat_ofNat']
  omega
theorem b8_of (b : UInt8) : b8 (b.toNat : Int) = b := by unfold b8; rw [Int.toNat_natCast]; exact UInt8.ofNat_toNat
theorem str_list (l : List Int) : (str l).data.toList = l.map b8 := by simp [str]
theorem str_size (l : List Int) : (str l).size = l.length := by show ((l.map b8).toArray).size = _; rw [List.size_toArray, List.length_map]
theorem str_of (s : ByteArray) : ∃ l, Byt l ∧ s = str l ∧ l.length = s.size := by
  refine ⟨s.data.toList.map fun b => (b.toNat : Int), fun x hx => ?_, ?_, by rw [List.length_map, Array.length_toList]; rfl⟩
  · obtain ⟨b, _, rfl⟩ := List.mem_map.1 hx
    exact ⟨by omega, by have := b.toNat_lt; omega⟩
  · unfold str
    rw [List.map_map]
    have : (b8 ∘ fun b : UInt8 => (b.toNat : Int)) = id := by funext b; exact b8_of b
    rw [this, List.map_id]
theorem map_b8_inj : ∀ {l l' : List Int}, Byt l → Byt l' → l.map b8 = l'.map b8 → l = l'
  | [], [], _, _, _ => rfl
  | [], _ :: _, _, _, h => by simp at h
  | _ :: _, [], _, _, h => by simp at h
  | x :: l, y :: l', h, h', e => by
    simp only [List.map_cons, List.cons.injEq] at e
    have hx := b8_nat (h x (by simp))
    have hy := b8_nat (h' y (by simp))
    rw [e.1] at hx
    rw [map_b8_inj (fun z hz => h z (by simp [hz])) (fun z hz => h' z (by simp [hz])) e.2, ← hx, hy]
theorem str_inj {l l' : List Int} (h : Byt l) (h' : Byt l') : str l = str l' ↔ l = l' := by
  refine ⟨fun e => map_b8_inj h h' ?_, fun e => by rw [e]⟩
  rw [← str_list, ← str_list, e]
theorem str_app (l l' : List Int) : str l ++ str l' = str (l ++ l') := by
  apply ByteArray.ext
  simp [str]
theorem str_sub (l : List Int) (i j : Nat) : (str l).extract i j = str ((l.drop i).take (j - i)) := by
  apply ByteArray.ext
  rw [ByteArray.data_extract]
  apply Array.ext'
  rw [Array.toList_extract, str_list]
  simp [str, List.extract_eq_take_drop, List.map_drop, List.map_take]
theorem str_empty : ByteArray.empty = str [] := rfl
theorem Byt.nil : Byt [] := fun _ h => by cases h
theorem Byt.app {l l' : List Int} (h : Byt l) (h' : Byt l') : Byt (l ++ l') := fun x hx => by
  rcases List.mem_append.1 hx with hx | hx
  · exact h x hx
  · exact h' x hx
theorem Byt.one {x : Int} (h : isB x) : Byt [x] := fun y hy => by simp at hy; subst hy; exact h
theorem Byt.cons {x : Int} {l : List Int} (h : isB x) (h' : Byt l) : Byt (x :: l) := fun y hy => by
  rcases List.mem_cons.1 hy with rfl | hy
  · exact h
  · exact h' y hy
theorem Byt.drop {l : List Int} (h : Byt l) (i : Nat) : Byt (l.drop i) := fun x hx => h x (List.mem_of_mem_drop hx)
theorem Byt.take {l : List Int} (h : Byt l) (i : Nat) : Byt (l.take i) := fun x hx => h x (List.mem_of_mem_take hx)
theorem Byt.get {l : List Int} (h : Byt l) {i : Nat} (hi : i < l.length) : isB (l.getD i 0) := by
  simp only [List.getD_eq_getElem?_getD, List.getElem?_eq_getElem hi, Option.getD_some]
  exact h _ (List.getElem_mem hi)
instance decIsB (x : Int) : Decidable (isB x) := inferInstanceAs (Decidable (0 ≤ x ∧ x < 256))
instance decByt : (l : List Int) → Decidable (Byt l)
  | [] => .isTrue Byt.nil
  | x :: l => match decIsB x, decByt l with
    | .isTrue a, .isTrue b => .isTrue (Byt.cons a b)
    | .isFalse a, _ => .isFalse fun h => a (h x (by simp))
    | _, .isFalse b => .isFalse fun h => b fun y hy => h y (by simp [hy])
section
variable {B : World} {P : Program} {n : Fm} {m : Bool} {l0 rest : List Oper} {E : Env} {H R : List HP} {Q : Exit → Act → World → Prop} (T : Tab P)
variable {d : Nat} {ty : TypeId} {pos : String} {af : Array Edge} {g : Option (Nat × Bool)} {x y y' : Operand} {t t' : TypeId}
theorem knd_string {t : Nat} (h : knd P t = some 2) : P.underlying t = some .string := by
  unfold knd at h
  split at h
  · split at h <;> simp at h
  all_goals first | (rename_i hu; exact hu) | (simp at h; done) | cases h
theorem RT.lens {l : List Int} (hx : ev E x = some (.string (str l))) (ht : al T.kinds t = some 2) (hw : wt l0 E g = some true) (hd : Nat.blt d n = true)
    (k : RT B P n m l0 rest ((d, .int .i64 l.length) :: E) H Q) : RT B P n m l0 (⟨some d, .call { callee := .builtin .len, args := #[x], argTypes := #[t] }, ty, pos, af, g⟩ :: rest) E H Q :=
  RT.y hw (by simpa [Nat.blt_eq] using hd) (y_run fun o aa w ho _ hA _ => by
    have hu := knd_string (T.kind ht)
    unfold execOp
    simp only [ho, resolve, invoke, builtin, List.map_toArray, List.map_cons, List.map_nil, hA.ev hx, Builtin.len_, Sem.run_bind, Sem.run_pure, Result.andThen_ok, List.getElem?_toArray, List.getElem?_cons_zero, run_underlying hu]
    rw [str_size]
    rfl) k
theorem RT.ixs {l : List Int} {k : IntKind} {i : Int} {j : Nat} (hx : ev E x = some (.string (str l))) (hy : ev E y = some (.int k i)) (hi : i = j) (hj : j < l.length) (hb : Byt l) (ht : al T.kinds t = some 2) (hw : wt l0 E g = some true) (hd : Nat.blt d n = true)
    (kt : RT B P n m l0 rest ((d, .int .u8 (l.getD j 0)) :: E) H Q) : RT B P n m l0 (⟨some d, .index t x y, ty, pos, af, g⟩ :: rest) E H Q := by
  subst hi
  have h1 : (str l).data.toList[((j : Int)).toNat]? = some (b8 (l.getD j 0)) := by
    rw [str_list, Int.toNat_natCast, List.getElem?_map, List.getElem?_eq_getElem hj]
    simp [List.getElem?_eq_getElem hj]
  have h2 := y_ixs (B := B) (n := n) (H := H) (ty := ty) T ht hx hy (by omega) h1
  rw [b8_nat (hb.get hj)] at h2
  exact RT.y hw (by simpa [Nat.blt_eq] using hd) h2 kt
theorem run_slS {w : World} {l : List Int} {i j : Nat} {lo hi : Option Value} (hu : P.underlying t = some .string)
    (hb : (Instr.sliceBounds false (str l).size (str l).size lo hi none).run P w = .ok (i, j, (str l).size) w) : (Instr.sliceAt t (.string (str l)) lo hi none).run P w = .ok (.string (str ((l.drop i).take (j - i)))) w := by
  simp only [Instr.sliceAt, Instr.slice, Sem.run_bind, run_underlying hu, Result.andThen_ok, Option.isSome_none, Bool.false_eq_true, if_false, Sem.run_pure, hb, str_sub]
theorem RT.slsH {l : List Int} {k : IntKind} {i : Int} {j : Nat} (hx : ev E x = some (.string (str l))) (hy : ev E y = some (.int k i)) (hi : i = j) (hj : j ≤ l.length) (ht : al T.kinds t = some 2) (hw : wt l0 E g = some true) (hd : Nat.blt d n = true)
    (kt : RT B P n m l0 rest ((d, .string (str (l.take j))) :: E) H Q) : RT B P n m l0 (⟨some d, .slice t x none (some y) none, ty, pos, af, g⟩ :: rest) E H Q := by
  subst hi
  refine RT.y hw (by simpa [Nat.blt_eq] using hd) (y_run fun o aa w ho _ hA _ => ?_) kt
  have hb : (Instr.sliceBounds false (str l).size (str l).size none (some (.int k (j : Int))) none).run P w = .ok (0, j, (str l).size) w := by
    rw [str_size]
    simp only [Instr.sliceBounds, Instr.sliceBound, asIntOf, Sem.run_bind, Sem.run_pure, Result.andThen_ok]
    rw [if_pos ⟨by omega, by omega⟩]
    simp
  unfold execOp
  simp only [ho, hA.ev hx, hA.ev hy, Option.map_some, Option.map_none, Sem.run_bind, run_slS (knd_string (T.kind ht)) hb, Result.andThen_ok]
  simp
theorem RT.slsL {l : List Int} {k : IntKind} {i : Int} {j : Nat} (hx : ev E x = some (.string (str l))) (hy : ev E y = some (.int k i)) (hi : i = j) (hj : j ≤ l.length) (ht : al T.kinds t = some 2) (hw : wt l0 E g = some true) (hd : Nat.blt d n = true)
    (kt : RT B P n m l0 rest ((d, .string (str (l.drop j))) :: E) H Q) : RT B P n m l0 (⟨some d, .slice t x (some y) none none, ty, pos, af, g⟩ :: rest) E H Q := by
  subst hi
  refine RT.y hw (by simpa [Nat.blt_eq] using hd) (y_run fun o aa w ho _ hA _ => ?_) kt
  have hb : (Instr.sliceBounds false (str l).size (str l).size (some (.int k (j : Int))) none none).run P w = .ok (j, l.length, (str l).size) w := by
    rw [str_size]
    simp only [Instr.sliceBounds, Instr.sliceBound, asIntOf, Sem.run_bind, Sem.run_pure, Result.andThen_ok]
    rw [if_pos ⟨by omega, by omega⟩]
    simp
  unfold execOp
  simp only [ho, hA.ev hx, hA.ev hy, Option.map_some, Option.map_none, Sem.run_bind, run_slS (knd_string (T.kind ht)) hb, Result.andThen_ok]
  rw [List.take_of_length_le (by rw [List.length_drop]; exact Nat.le_refl _)]
  rfl
theorem RT.slsB {l : List Int} {k k' : IntKind} {i i' : Int} {j j' : Nat} (hx : ev E x = some (.string (str l))) (hy : ev E y = some (.int k i)) (hy' : ev E y' = some (.int k' i')) (hi : i = j) (hi' : i' = j') (hj : j ≤ j') (hj' : j' ≤ l.length) (ht : al T.kinds t = some 2) (hw : wt l0 E g = some true) (hd : Nat.blt d n = true)
    (kt : RT B P n m l0 rest ((d, .string (str ((l.drop j).take (j' - j)))) :: E) H Q) : RT B P n m l0 (⟨some d, .slice t x (some y) (some y') none, ty, pos, af, g⟩ :: rest) E H Q := by
  subst hi hi'
  refine RT.y hw (by simpa [Nat.blt_eq] using hd) (y_run fun o aa w ho _ hA _ => ?_) kt
  have hb : (Instr.sliceBounds false (str l).size (str l).size (some (.int k (j : Int))) (some (.int k' (j' : Int))) none).run P w = .ok (j, j', (str l).size) w := by
    rw [str_size]
    simp only [Instr.sliceBounds, Instr.sliceBound, asIntOf, Sem.run_bind, Sem.run_pure, Result.andThen_ok]
    rw [if_pos (show (0 : Int) ≤ (j' : Int) ∧ (j' : Int) ≤ (l.length : Int) from ⟨by omega, by omega⟩)]
    simp only [Sem.run_pure, Result.andThen_ok, Int.toNat_natCast]
    rw [if_pos ⟨by omega, by omega⟩]
    simp
  unfold execOp
  simp only [ho, hA.ev hx, hA.ev hy, hA.ev hy', Option.map_some, Option.map_none, Sem.run_bind, run_slS (knd_string (T.kind ht)) hb, Result.andThen_ok]
  rfl
theorem RT.cats {l l' : List Int} (hx : ev E x = some (.string (str l))) (hy : ev E y = some (.string (str l'))) (hl : l.length + l'.length ≤ 9223372036854775807) (hw : wt l0 E g = some true) (hd : Nat.blt d n = true)
    (kt : RT B P n m l0 rest ((d, .string (str (l ++ l'))) :: E) H Q) : RT B P n m l0 (⟨some d, .binOp .add t x y t', ty, pos, af, g⟩ :: rest) E H Q := by
  refine RT.y hw (by simpa [Nat.blt_eq] using hd) (y_run fun o aa w ho _ hA _ => ?_) kt
  unfold execOp
  have hmax : ¬ ((((str l).size + (str l').size : Nat) : Int) > IntKind.i64.max) := by rw [str_size, str_size]; simp [IntKind.max, IntKind.signed, IntKind.bits]; omega
  simp only [ho, hA.ev hx, hA.ev hy, eqGuard, binOp, Op.stringOp, if_neg hmax, str_app]
  rfl
theorem list_beq_iff {a b : List UInt8} : (a == b) = decide (a = b) := by
  by_cases h : a = b
  · subst h; simp
  · simp [h]
theorem RT.eqs {l l' : List Int} (hx : ev E x = some (.string (str l))) (hy : ev E y = some (.string (str l'))) (h : Byt l) (h' : Byt l') (hw : wt l0 E g = some true) (hd : Nat.blt d n = true)
    (k1 : l = l' → RT B P n m l0 rest ((d, .bool true) :: E) H Q) (k2 : l ≠ l' → RT B P n m l0 rest ((d, .bool false) :: E) H Q) : RT B P n m l0 (⟨some d, .binOp .eql t x y t', ty, pos, af, g⟩ :: rest) E H Q := by
  have hy2 : Yld B P n E H (.binOp .eql t x y t') ty (.bool (decide (l = l'))) := y_run fun o aa w ho _ hA _ => by
    unfold execOp
    simp only [ho, hA.ev hx, hA.ev hy, eqGuard, binOp, Op.stringOp, ByteArray.toList_eq, str_list, list_beq_iff]
    have : decide (l.map b8 = l'.map b8) = decide (l = l') := decide_eq_decide.2 ⟨map_b8_inj h h', fun e => by rw [e]⟩
    rw [this]
    rfl
  refine RT.y hw (by simpa [Nat.blt_eq] using hd) hy2 ?_
  by_cases he : l = l'
  · rw [decide_eq_true he]; exact k1 he
  · rw [decide_eq_false he]; exact k2 he
theorem RT.nes {l l' : List Int} (hx : ev E x = some (.string (str l))) (hy : ev E y = some (.string (str l'))) (h : Byt l) (h' : Byt l') (hw : wt l0 E g = some true) (hd : Nat.blt d n = true)
    (k1 : l = l' → RT B P n m l0 rest ((d, .bool false) :: E) H Q) (k2 : l ≠ l' → RT B P n m l0 rest ((d, .bool true) :: E) H Q) : RT B P n m l0 (⟨some d, .binOp .neq t x y t', ty, pos, af, g⟩ :: rest) E H Q := by
  have hy2 : Yld B P n E H (.binOp .neq t x y t') ty (.bool (!decide (l = l'))) := y_run fun o aa w ho _ hA _ => by
    unfold execOp
    simp only [ho, hA.ev hx, hA.ev hy, eqGuard, binOp, Op.stringOp, ByteArray.toList_eq, str_list, list_beq_iff]
    have : decide (l.map b8 = l'.map b8) = decide (l = l') := decide_eq_decide.2 ⟨map_b8_inj h h', fun e => by rw [e]⟩
    rw [this]
    rfl
  refine RT.y hw (by simpa [Nat.blt_eq] using hd) hy2 ?_
  by_cases he : l = l'
  · rw [decide_eq_true he]; exact k1 he
  · rw [decide_eq_false he]; exact k2 he
end
end Go.Sk
