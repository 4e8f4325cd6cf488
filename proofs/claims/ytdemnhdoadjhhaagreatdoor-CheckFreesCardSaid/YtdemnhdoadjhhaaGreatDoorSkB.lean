/- Merged: Sk15, Sk16, Sk17, Sk18, Sk19, Sk20, Sk21, Sk22, Sk23, Sk24, Sk25, Sk26, Sk27, Sk28, Sk29, Sk30, Sk31, Sk32, Sk33, Sk34, Sk35, Sk36, Sk37, Sk38, Sk39, Sk40, Sk41, Sk42. -/
import Derived.Test.YtdemnhdoadjhhaaGreatDoorSkA
import Derived.Lib.AppendStr
import Derived.Lib.UnsafeStr
import Derived.Below
import Derived.Lib.OthersKept
import Derived.Laws.BytesString
import Derived.Laws.IdiomStrings
import Derived.Laws.MakeOwn
import Derived.RangeFuncRecord
import Derived.OrdersIn
import Derived.MapKept
import Derived.Laws.StructEq
set_option linter.unusedVariables false
set_option linter.unusedSimpArgs false
section
/- Texts as lists of bytes: their length, bytes, parts, sums, equality; from bytes and back. Plain theorems, no condition. -/
namespace Go.Sk
open Go.RowKit
def b8 (x : Int) : UInt8 := UInt8.ofNat x.toNat
/-- The text of these bytes. -/
def str (l : List Int) : ByteArray := ⟨(l.map b8).toArray⟩
def isB (x : Int) : Prop := 0 ≤ x ∧ x < 256
def Byt (l : List Int) : Prop := ∀ x ∈ l, isB x
theorem b8_nat {x : Int} (h : isB x) : ((b8 x).toNat : Int) = x := by
  obtain ⟨h0, h1⟩ := h
  unfold b8
  rw [UInt8.toNat_ofNat']
  omega
theorem b8_of (b : UInt8) : b8 (b.toNat : Int) = b := by unfold b8; rw [Int.toNat_natCast]; exact UInt8.ofNat_toNat
theorem str_list (l : List Int) : (str l).data.toList = l.map b8 := by simp [str]
theorem str_size (l : List Int) : (str l).size = l.length := by show ((l.map b8).toArray).size = _; rw [List.size_toArray, List.length_map]
theorem str_of (s : ByteArray) : ∃ l, Byt l ∧ s = str l ∧ l.length = s.size := by
  refine ⟨s.data.toList.map fun b => (b.toNat : Int), fun x hx => ?_, ?_, by rw [List.length_map, Array.length_toList]; rfl⟩
  · obtain ⟨b, _, rfl⟩ := List.mem_map.1 hx
    exact ⟨by omega, by have := b.toNat_lt; omega⟩
  · unfold str
    rw [List.map_map]
    have : (b8 ∘ fun b : UInt8 => (b.toNat : Int)) = id := by funext b; exact b8_of b
    rw [this, List.map_id]
theorem map_b8_inj : ∀ {l l' : List Int}, Byt l → Byt l' → l.map b8 = l'.map b8 → l = l'
  | [], [], _, _, _ => rfl
  | [], _ :: _, _, _, h => by simp at h
  | _ :: _, [], _, _, h => by simp at h
  | x :: l, y :: l', h, h', e => by
    simp only [List.map_cons, List.cons.injEq] at e
    have hx := b8_nat (h x (by simp))
    have hy := b8_nat (h' y (by simp))
    rw [e.1] at hx
    rw [map_b8_inj (fun z hz => h z (by simp [hz])) (fun z hz => h' z (by simp [hz])) e.2, ← hx, hy]
theorem str_inj {l l' : List Int} (h : Byt l) (h' : Byt l') : str l = str l' ↔ l = l' := by
  refine ⟨fun e => map_b8_inj h h' ?_, fun e => by rw [e]⟩
  rw [← str_list, ← str_list, e]
theorem str_app (l l' : List Int) : str l ++ str l' = str (l ++ l') := by
  apply ByteArray.ext
  simp [str]
theorem str_sub (l : List Int) (i j : Nat) : (str l).extract i j = str ((l.drop i).take (j - i)) := by
  apply ByteArray.ext
  rw [ByteArray.data_extract]
  apply Array.ext'
  rw [Array.toList_extract, str_list]
  simp [str, List.extract_eq_take_drop, List.map_drop, List.map_take]
theorem str_empty : ByteArray.empty = str [] := rfl
theorem Byt.nil : Byt [] := fun _ h => by cases h
theorem Byt.app {l l' : List Int} (h : Byt l) (h' : Byt l') : Byt (l ++ l') := fun x hx => by
  rcases List.mem_append.1 hx with hx | hx
  · exact h x hx
  · exact h' x hx
theorem Byt.one {x : Int} (h : isB x) : Byt [x] := fun y hy => by simp at hy; subst hy; exact h
theorem Byt.cons {x : Int} {l : List Int} (h : isB x) (h' : Byt l) : Byt (x :: l) := fun y hy => by
  rcases List.mem_cons.1 hy with rfl | hy
  · exact h
  · exact h' y hy
theorem Byt.drop {l : List Int} (h : Byt l) (i : Nat) : Byt (l.drop i) := fun x hx => h x (List.mem_of_mem_drop hx)
theorem Byt.take {l : List Int} (h : Byt l) (i : Nat) : Byt (l.take i) := fun x hx => h x (List.mem_of_mem_take hx)
theorem Byt.get {l : List Int} (h : Byt l) {i : Nat} (hi : i < l.length) : isB (l.getD i 0) := by
  simp only [List.getD_eq_getElem?_getD, List.getElem?_eq_getElem hi, Option.getD_some]
  exact h _ (List.getElem_mem hi)
instance decIsB (x : Int) : Decidable (isB x) := inferInstanceAs (Decidable (0 ≤ x ∧ x < 256))
instance decByt : (l : List Int) → Decidable (Byt l)
  | [] => .isTrue Byt.nil
  | x :: l => match decIsB x, decByt l with
    | .isTrue a, .isTrue b => .isTrue (Byt.cons a b)
    | .isFalse a, _ => .isFalse fun h => a (h x (by simp))
    | _, .isFalse b => .isFalse fun h => b fun y hy => h y (by simp [hy])
section
variable {B : World} {P : Program} {n : Fm} {m : Bool} {l0 rest : List Oper} {E : Env} {H R : List HP} {Q : Exit → Act → World → Prop} (T : Tab P)
variable {d : Nat} {ty : TypeId} {pos : String} {af : Array Edge} {g : Option (Nat × Bool)} {x y y' : Operand} {t t' : TypeId}
theorem knd_string {t : Nat} (h : knd P t = some 2) : P.underlying t = some .string := by
  unfold knd at h
  split at h
  · split at h <;> simp at h
  all_goals first | (rename_i hu; exact hu) | (simp at h; done) | cases h
theorem RT.lens {l : List Int} (hx : ev E x = some (.string (str l))) (ht : al T.kinds t = some 2) (hw : wt l0 E g = some true) (hd : Nat.blt d n = true)
    (k : RT B P n m l0 rest ((d, .int .i64 l.length) :: E) H Q) : RT B P n m l0 (⟨some d, .call { callee := .builtin .len, args := #[x], argTypes := #[t] }, ty, pos, af, g⟩ :: rest) E H Q :=
  RT.y hw (by simpa [Nat.blt_eq] using hd) (y_run fun o aa w ho _ hA _ => by
    have hu := knd_string (T.kind ht)
    unfold execOp
    simp only [ho, resolve, invoke, builtin, List.map_toArray, List.map_cons, List.map_nil, hA.ev hx, Builtin.len_, Sem.run_bind, Sem.run_pure, Result.andThen_ok, List.getElem?_toArray, List.getElem?_cons_zero, run_underlying hu]
    rw [str_size]
    rfl) k
theorem RT.ixs {l : List Int} {k : IntKind} {i : Int} {j : Nat} (hx : ev E x = some (.string (str l))) (hy : ev E y = some (.int k i)) (hi : i = j) (hj : j < l.length) (hb : Byt l) (ht : al T.kinds t = some 2) (hw : wt l0 E g = some true) (hd : Nat.blt d n = true)
    (kt : RT B P n m l0 rest ((d, .int .u8 (l.getD j 0)) :: E) H Q) : RT B P n m l0 (⟨some d, .index t x y, ty, pos, af, g⟩ :: rest) E H Q := by
  subst hi
  have h1 : (str l).data.toList[((j : Int)).toNat]? = some (b8 (l.getD j 0)) := by
    rw [str_list, Int.toNat_natCast, List.getElem?_map, List.getElem?_eq_getElem hj]
    simp [List.getElem?_eq_getElem hj]
  have h2 := y_ixs (B := B) (n := n) (H := H) (ty := ty) T ht hx hy (by omega) h1
  rw [b8_nat (hb.get hj)] at h2
  exact RT.y hw (by simpa [Nat.blt_eq] using hd) h2 kt
theorem run_slS {w : World} {l : List Int} {i j : Nat} {lo hi : Option Value} (hu : P.underlying t = some .string)
    (hb : (Instr.sliceBounds false (str l).size (str l).size lo hi none).run P w = .ok (i, j, (str l).size) w) : (Instr.sliceAt t (.string (str l)) lo hi none).run P w = .ok (.string (str ((l.drop i).take (j - i)))) w := by
  simp only [Instr.sliceAt, Instr.slice, Sem.run_bind, run_underlying hu, Result.andThen_ok, Option.isSome_none, Bool.false_eq_true, if_false, Sem.run_pure, hb, str_sub]
theorem RT.slsH {l : List Int} {k : IntKind} {i : Int} {j : Nat} (hx : ev E x = some (.string (str l))) (hy : ev E y = some (.int k i)) (hi : i = j) (hj : j ≤ l.length) (ht : al T.kinds t = some 2) (hw : wt l0 E g = some true) (hd : Nat.blt d n = true)
    (kt : RT B P n m l0 rest ((d, .string (str (l.take j))) :: E) H Q) : RT B P n m l0 (⟨some d, .slice t x none (some y) none, ty, pos, af, g⟩ :: rest) E H Q := by
  subst hi
  refine RT.y hw (by simpa [Nat.blt_eq] using hd) (y_run fun o aa w ho _ hA _ => ?_) kt
  have hb : (Instr.sliceBounds false (str l).size (str l).size none (some (.int k (j : Int))) none).run P w = .ok (0, j, (str l).size) w := by
    rw [str_size]
    simp only [Instr.sliceBounds, Instr.sliceBound, asIntOf, Sem.run_bind, Sem.run_pure, Result.andThen_ok]
    rw [if_pos ⟨by omega, by omega⟩]
    simp
  unfold execOp
  simp only [ho, hA.ev hx, hA.ev hy, Option.map_some, Option.map_none, Sem.run_bind, run_slS (knd_string (T.kind ht)) hb, Result.andThen_ok]
  simp
theorem RT.slsL {l : List Int} {k : IntKind} {i : Int} {j : Nat} (hx : ev E x = some (.string (str l))) (hy : ev E y = some (.int k i)) (hi : i = j) (hj : j ≤ l.length) (ht : al T.kinds t = some 2) (hw : wt l0 E g = some true) (hd : Nat.blt d n = true)
    (kt : RT B P n m l0 rest ((d, .string (str (l.drop j))) :: E) H Q) : RT B P n m l0 (⟨some d, .slice t x (some y) none none, ty, pos, af, g⟩ :: rest) E H Q := by
  subst hi
  refine RT.y hw (by simpa [Nat.blt_eq] using hd) (y_run fun o aa w ho _ hA _ => ?_) kt
  have hb : (Instr.sliceBounds false (str l).size (str l).size (some (.int k (j : Int))) none none).run P w = .ok (j, l.length, (str l).size) w := by
    rw [str_size]
    simp only [Instr.sliceBounds, Instr.sliceBound, asIntOf, Sem.run_bind, Sem.run_pure, Result.andThen_ok]
    rw [if_pos ⟨by omega, by omega⟩]
    simp
  unfold execOp
  simp only [ho, hA.ev hx, hA.ev hy, Option.map_some, Option.map_none, Sem.run_bind, run_slS (knd_string (T.kind ht)) hb, Result.andThen_ok]
  rw [List.take_of_length_le (by rw [List.length_drop]; exact Nat.le_refl _)]
  rfl
theorem RT.slsB {l : List Int} {k k' : IntKind} {i i' : Int} {j j' : Nat} (hx : ev E x = some (.string (str l))) (hy : ev E y = some (.int k i)) (hy' : ev E y' = some (.int k' i')) (hi : i = j) (hi' : i' = j') (hj : j ≤ j') (hj' : j' ≤ l.length) (ht : al T.kinds t = some 2) (hw : wt l0 E g = some true) (hd : Nat.blt d n = true)
    (kt : RT B P n m l0 rest ((d, .string (str ((l.drop j).take (j' - j)))) :: E) H Q) : RT B P n m l0 (⟨some d, .slice t x (some y) (some y') none, ty, pos, af, g⟩ :: rest) E H Q := by
  subst hi hi'
  refine RT.y hw (by simpa [Nat.blt_eq] using hd) (y_run fun o aa w ho _ hA _ => ?_) kt
  have hb : (Instr.sliceBounds false (str l).size (str l).size (some (.int k (j : Int))) (some (.int k' (j' : Int))) none).run P w = .ok (j, j', (str l).size) w := by
    rw [str_size]
    simp only [Instr.sliceBounds, Instr.sliceBound, asIntOf, Sem.run_bind, Sem.run_pure, Result.andThen_ok]
    rw [if_pos (show (0 : Int) ≤ (j' : Int) ∧ (j' : Int) ≤ (l.length : Int) from ⟨by omega, by omega⟩)]
    simp only [Sem.run_pure, Result.andThen_ok, Int.toNat_natCast]
    rw [if_pos ⟨by omega, by omega⟩]
    simp
  unfold execOp
  simp only [ho, hA.ev hx, hA.ev hy, hA.ev hy', Option.map_some, Option.map_none, Sem.run_bind, run_slS (knd_string (T.kind ht)) hb, Result.andThen_ok]
  rfl
theorem RT.cats {l l' : List Int} (hx : ev E x = some (.string (str l))) (hy : ev E y = some (.string (str l'))) (hl : l.length + l'.length ≤ 9223372036854775807) (hw : wt l0 E g = some true) (hd : Nat.blt d n = true)
    (kt : RT B P n m l0 rest ((d, .string (str (l ++ l'))) :: E) H Q) : RT B P n m l0 (⟨some d, .binOp .add t x y t', ty, pos, af, g⟩ :: rest) E H Q := by
  refine RT.y hw (by simpa [Nat.blt_eq] using hd) (y_run fun o aa w ho _ hA _ => ?_) kt
  unfold execOp
  have hmax : ¬ ((((str l).size + (str l').size : Nat) : Int) > IntKind.i64.max) := by rw [str_size, str_size]; simp [IntKind.max, IntKind.signed, IntKind.bits]; omega
  simp only [ho, hA.ev hx, hA.ev hy, eqGuard, binOp, Op.stringOp, if_neg hmax, str_app]
  rfl
theorem list_beq_iff {a b : List UInt8} : (a == b) = decide (a = b) := by
  by_cases h : a = b
  · subst h; simp
  · simp [h]
theorem RT.eqs {l l' : List Int} (hx : ev E x = some (.string (str l))) (hy : ev E y = some (.string (str l'))) (h : Byt l) (h' : Byt l') (hw : wt l0 E g = some true) (hd : Nat.blt d n = true)
    (k1 : l = l' → RT B P n m l0 rest ((d, .bool true) :: E) H Q) (k2 : l ≠ l' → RT B P n m l0 rest ((d, .bool false) :: E) H Q) : RT B P n m l0 (⟨some d, .binOp .eql t x y t', ty, pos, af, g⟩ :: rest) E H Q := by
  have hy2 : Yld B P n E H (.binOp .eql t x y t') ty (.bool (decide (l = l'))) := y_run fun o aa w ho _ hA _ => by
    unfold execOp
    simp only [ho, hA.ev hx, hA.ev hy, eqGuard, binOp, Op.stringOp, ByteArray.toList_eq, str_list, list_beq_iff]
    have : decide (l.map b8 = l'.map b8) = decide (l = l') := decide_eq_decide.2 ⟨map_b8_inj h h', fun e => by rw [e]⟩
    rw [this]
    rfl
  refine RT.y hw (by simpa [Nat.blt_eq] using hd) hy2 ?_
  by_cases he : l = l'
  · rw [decide_eq_true he]; exact k1 he
  · rw [decide_eq_false he]; exact k2 he
theorem RT.nes {l l' : List Int} (hx : ev E x = some (.string (str l))) (hy : ev E y = some (.string (str l'))) (h : Byt l) (h' : Byt l') (hw : wt l0 E g = some true) (hd : Nat.blt d n = true)
    (k1 : l = l' → RT B P n m l0 rest ((d, .bool false) :: E) H Q) (k2 : l ≠ l' → RT B P n m l0 rest ((d, .bool true) :: E) H Q) : RT B P n m l0 (⟨some d, .binOp .neq t x y t', ty, pos, af, g⟩ :: rest) E H Q := by
  have hy2 : Yld B P n E H (.binOp .neq t x y t') ty (.bool (!decide (l = l'))) := y_run fun o aa w ho _ hA _ => by
    unfold execOp
    simp only [ho, hA.ev hx, hA.ev hy, eqGuard, binOp, Op.stringOp, ByteArray.toList_eq, str_list, list_beq_iff]
    have : decide (l.map b8 = l'.map b8) = decide (l = l') := decide_eq_decide.2 ⟨map_b8_inj h h', fun e => by rw [e]⟩
    rw [this]
    rfl
  refine RT.y hw (by simpa [Nat.blt_eq] using hd) hy2 ?_
  by_cases he : l = l'
  · rw [decide_eq_true he]; exact k1 he
  · rw [decide_eq_false he]; exact k2 he
end
end Go.Sk
end
section
/- More rules: texts behind slices (append), unsafe.SliceData and unsafe.String of an owned row, what a contract with 'Below' keeps. Plain theorems, no condition. -/
namespace Go.Sk
open Go.RowKit
theorem Sat.below {B : World} {H : List HP} {w w' : World} (s : Sat B H w) (h : Below w.heap.size w w') : Sat B H w' := by
  obtain ⟨g, a, hs⟩ := s.heap
  refine ⟨h.os.trans s.os, h.output.trans s.output, h.tape.trans s.tape, Nat.le_trans s.size h.size, fun x hx => (h.block x (by have := s.size; omega)).trans (s.base x hx), g, fun b o e => ?_, hs⟩
  have h1 := a b o e
  exact ⟨(h.block b (Array.getElem?_eq_some_iff.1 h1.1).1).trans h1.1, h1.2⟩
theorem strCells_str {l : List Int} (h : Byt l) : Lib.strCells (str l) = ints .u8 l := by
  unfold Lib.strCells
  rw [str_list, List.map_map]
  exact List.map_congr_left fun x hx => by simp only [Function.comp, b8_nat (h x hx)]
section
variable {B : World} {P : Program} {n : Fm} {m : Bool} {l0 rest : List Oper} {E : Env} {H R : List HP} {Q : Exit → Act → World → Prop} (T : Tab P)
variable {d : Nat} {ty : TypeId} {pos : String} {af : Array Edge} {g : Option (Nat × Bool)} {x y y' : Operand} {t t' : TypeId}
theorem QSp.below {f : FuncId} {vs : List Value} {v : Value} (h : ∀ w, Sat B H w → Calls P f vs.toArray w fun e w' => e = .returned v ∧ Below w.heap.size w w') : QSp B P f vs H v :=
  fun w hS => (h w hS).mono fun e w' ⟨he, hb⟩ => ⟨he, hS.below hb⟩
theorem QSp.same {f : FuncId} {vs : List Value} {v : Value} (h : ∀ w, Sat B H w → Calls P f vs.toArray w fun e w' => e = .returned v ∧ w' = w) : QSp B P f vs H v :=
  fun w hS => (h w hS).mono fun e w' ⟨he, hb⟩ => ⟨he, hb ▸ hS⟩
theorem run_appendS {w : World} {t u ty e : TypeId} {a : Option Addr} {c k : Nat} {xs : List Value} {s : ByteArray} {H' : Option Addr → Nat → List HP}
    (ht : slcB P t = some (e, 1, 1)) (hu : P.underlying u = some .string) (hz : zerB P e = some (.int .u8 0)) (hS : Sat B H w) (hr : ∀ a' c', Rep H (Own a c e 1 k xs) (Own a' c' e 1 (k + s.size) (xs ++ Lib.strCells s)) (H' a' c'))
    (hlen : k + s.size ≤ 140737488355328) :
    ∃ a' c' w', (Builtin.append_ #[t, u] ty #[.slice a k c, .string s]).run P w = .ok (.slice a' (k + s.size) c') w' ∧ Sat B (H' a' c') w' ∧ k + s.size ≤ c' := by
  obtain ⟨hut, i, hi, hisz, hiby⟩ := slcB_spec ht
  have hzi : i.zero = some (.int .u8 0) := by simpa [zerB, hi] using hz
  have hml : k + s.size ≤ maxLen := by unfold maxLen; omega
  obtain ⟨Rr, s1, _⟩ := (hr a c).sel
  obtain ⟨hxl, hkc, hcm⟩ := Own.facts hS s1
  have hsl := Lib.strCells_length s
  have hlen' : (xs ++ Lib.strCells s).length = (k + s.size) * 1 := by rw [List.length_append, hxl, hsl]; omega
  have grown : ∀ (old : Nat), old < k + s.size →
      Sat B (H' (some ⟨w.heap.size, 0, none⟩) (grownCap w (k + s.size) old e)) (w.drew.alloc (.cells (xs.toArray ++ (Lib.strCells s).toArray ++ Builtin.zeroCells (Value.int .u8 0).cells (grownCap w (k + s.size) old e - (k + s.size))) e)) := by
    intro old ho
    have hge := grownCap_ge w (k + s.size) old e
    have hcm := grownCap_le_maxLen w (k + s.size) old e hml
    refine hS.ownNew (hr _ _) rfl rfl rfl rfl hlen' hge hcm ?_ ?_
    · have hz1 : (Value.int IntKind.u8 0).cells.size = 1 := rfl
      simp only [Array.size_append, List.size_toArray, size_zeroCells, hz1, hxl, hsl]
      omega
    · simp only [Array.toList_append, List.append_assoc]
      rw [← List.append_assoc, ← hlen']
      exact List.take_left
  rcases Own.to_row hS s1 with ⟨rfl, rfl, rfl, rfl⟩ | ⟨g, cur, rfl, hg, hbg, hcs, ht'⟩
  · by_cases hm : s.size = 0
    · have hn : Lib.strCells s = [] := List.eq_nil_of_length_eq_zero (by rw [hsl]; exact hm)
      refine ⟨none, 0, w, ?_, ?_, by omega⟩
      · have hf := Lib.run_firstCells_string (P := P) w 1 s
        rw [hm] at hf
        simp [Builtin.append_, run_underlying hut, run_underlying hu, sizeOf, typeInfo, hi, hisz, Builtin.lenOf, hm, hf]
      · have h := hr none 0
        rw [hn, hm] at h
        exact hS.mono fun h' hh => by
          obtain ⟨R2, q1, q2⟩ := h.sel
          exact q2.of _ (q1.to _ hh)
    · have hrun := Go.run_append_nil_string (P := P) w t u ty e i (.int .u8 0) hut hu hi hzi s (by omega) (by omega) (by rw [hiby]; omega)
      have hgr := grown 0 (by omega)
      simp only [Nat.zero_add, List.nil_append, Array.empty_append] at hgr ⊢
      have e1 : (s.data.map fun b => Value.int .u8 b.toNat) = (Lib.strCells s).toArray := by
        apply Array.ext'
        simp [Lib.strCells]
      rw [e1] at hrun
      exact ⟨_, _, _, hrun, hgr, by have := grownCap_ge w s.size 0 e; omega⟩
  · by_cases hroom : k + s.size ≤ c
    · have hrun := Lib.run_append_room_string (P := P) w t u ty e i hut hu hi hisz g k c cur hg s hroom (by omega)
      refine ⟨_, _, _, hrun, hS.ownRow (hr _ _) hg hlen' hroom hcm ?_ ?_, hroom⟩
      · simp only [List.size_toArray, List.length_append, List.length_take, List.length_drop, Array.length_toList, hsl]
        omega
      · have ht2 : cur.toList.take k = xs := by simpa using ht'
        rw [ht2, ← hlen']
        exact List.take_left
    · obtain ⟨ad, he, holds⟩ : ∃ ad, (some (⟨g, 0, none⟩ : Addr)) = some ad ∧ ∀ j u, xs[j]? = some u → w.cell? (ad.add j) = some u :=
        ⟨_, rfl, fun j u hu => by
          have := ((Own.rd s1 hxl hkc).2.2 w hS).2 j u hu
          simpa [adr] using this⟩
      cases he
      have hrun := Lib.run_append_grow_string (P := P) w t u ty e i (.int .u8 0) hut hu hi hzi ⟨g, 0, none⟩ k c xs (by rw [hisz]; exact hxl) holds s (by omega) (by omega) (by rw [hiby]; exact growslice_fits (by omega) (by omega))
      exact ⟨_, _, _, hrun, grown c (by omega), grownCap_ge w (k + s.size) c e⟩
/-- append(x, s...) of a text. -/
theorem RT.appS {e : TypeId} {a : Option Addr} {c k : Nat} {l l' : List Int} {H' : Option Addr → Nat → List HP}
    (hx : ev E x = some (.slice a k c)) (hy : ev E y = some (.string (str l'))) (hb : Byt l') (ht : al T.slcs t = some (e, 1, 1)) (hu : al T.kinds t' = some 2)
    (hr : ∀ a' c', Rep H (Own a c e 1 k (ints .u8 l)) (Own a' c' e 1 (k + l'.length) (ints .u8 (l ++ l'))) (H' a' c'))
    (hlen : k + l'.length ≤ 140737488355328) (hz : al T.zers e = some (.int .u8 0)) (hw : wt l0 E g = some true) (hd : Nat.blt d n = true)
    (kk : ∀ a' c', k + l'.length ≤ c' → RT B P n true l0 rest ((d, .slice a' (k + l'.length) c') :: E) (H' a' c') Q) :
    RT B P n true l0 (⟨some d, .call { callee := .builtin .append, args := #[x, y], argTypes := #[t, t'] }, ty, pos, af, g⟩ :: rest) E H Q :=
  RT.eff hw fun o aa w K ho hty hdd hA hS hK => by
    have hs : (str l').size = l'.length := str_size l'
    obtain ⟨a', c', w', hrun, hS', hkc⟩ := run_appendS (ty := ty) (a := a) (c := c) (k := k) (xs := ints .u8 l) (H' := H') (s := str l') (T.slc ht) (knd_string (T.kind hu)) (T.zer hz) hS (fun a' c' => by rw [strCells_str hb, hs, ints_app]; exact hr a' c') (by rw [hs]; exact hlen)
    rw [hs] at hrun hkc
    unfold Oper.wp execOp
    simp only [ho, hty, resolve, invoke, builtin, Sem.run_bind, Sem.run_pure, Result.andThen_ok, List.map_toArray, List.map_cons, List.map_nil, hA.ev hx, hA.ev hy, hrun]
    simp only [Oper.upon, hdd]
    exact hK _ _ (kk a' c' hkc _ _ (hA.put (by simpa [Nat.blt_eq] using hd) _) hS')
/-- unsafe.SliceData of an owned row. -/
theorem RT.usd {e : TypeId} {sz : Nat} {a : Option Addr} {c k : Nat} {xs : List Value} (hx : ev E x = some (.slice a k c)) (hs : Sel H (Own a c e sz k xs) R) (hp : P.underlying ty = some (.pointer e))
    (hw : wt l0 E g = some true) (hd : Nat.blt d n = true)
    (kk : ∀ q, (0 < k → q = a) → RT B P n true l0 rest ((d, .pointer q) :: E) H Q) :
    RT B P n true l0 (⟨some d, .call { callee := .builtin .unsafeSliceData, args := #[x], argTypes := #[t] }, ty, pos, af, g⟩ :: rest) E H Q :=
  RT.eff hw fun o aa w K ho hty hdd hA hS hK => by
    have hkc := (Own.facts hS hs).2.1
    have : ∃ q w', (Builtin.unsafeSliceData_ #[t] ty #[.slice a k c]).run P w = .ok (.pointer q) w' ∧ (0 < k → q = a) ∧ Sat B H w' := by
      rcases Own.to_row hS hs with ⟨rfl, rfl, rfl, rfl⟩ | ⟨g, cur, rfl, hg, _, _, _⟩
      · exact ⟨none, w, Lib.run_unsafeSliceData_nil w _ _ _ _, fun _ => rfl, hS⟩
      · by_cases hc : c = 0
        · subst hc
          exact ⟨_, _, Lib.run_unsafeSliceData_zero w _ _ e hp ⟨g, 0, none⟩ k (e, cur.size) (by simp [World.shape?, hg]), fun h => absurd h (by omega), hS.garbage rfl rfl rfl rfl⟩
        · exact ⟨_, w, Lib.run_unsafeSliceData_row w _ _ _ _ _ hc, fun _ => rfl, hS⟩
    obtain ⟨q, w', hrun, hq, hS'⟩ := this
    unfold Oper.wp execOp
    simp only [ho, hty, resolve, invoke, builtin, Sem.run_bind, Sem.run_pure, Result.andThen_ok, List.map_toArray, List.map_cons, List.map_nil, hA.ev hx, hrun]
    simp only [Oper.upon, hdd]
    exact hK _ _ (kk q hq _ _ (hA.put (by simpa [Nat.blt_eq] using hd) _) hS')
theorem Sat.freeze {w : World} {g c k : Nat} {e : TypeId} {sz : Nat} {xs : List Value} {H' : List HP} (hS : Sat B H w) (hr : Rep H (Own (some ⟨g, 0, none⟩) c e sz k xs) (fun _ => True) H') (j : Nat) : Sat B H' (w.freeze ⟨g, 0, none⟩ j) := by
  obtain ⟨R, s1, s2⟩ := hr.sel
  by_cases hj : j = 0
  · subst hj
    exact Sat.unsel s2 (Sat.mono (hS.sel s1) fun h => star_head_mono fun _ _ => trivial)
  · rcases Own.to_row hS s1 with ⟨h, _⟩ | ⟨g', cur, h, hg, _, _, _⟩
    · cases h
    · cases h
      unfold World.freeze
      rw [if_neg hj]
      refine hS.upd (b := g) (o' := .cells cur e (if (0 : Nat) == 0 then (0, 0 + j) else (min 0 0, max 0 (0 + j)))) hr (fun h hh => ?_) (fun _ _ _ _ _ => trivial) rfl rfl rfl (by simp) ?_ ?_
      · obtain ⟨_, _, _, hp⟩ := hh
        rcases hp with ⟨h, _⟩ | ⟨g', cur, h, hgg, _⟩
        · cases h
        · cases h; exact ⟨_, hgg⟩
      · simp only [Array.getElem?_modify, if_true, hg, Option.map_some]
      · intro x hx
        simp only [Array.getElem?_modify]
        rw [if_neg (fun h => hx h.symm)]
/-- unsafe.String of all of an owned row: the row is nobody's behind it. -/
theorem RT.ust {e pt it : TypeId} {a q : Option Addr} {c : Nat} {l : List Int} {H' : List HP} (hx : ev E x = some (.pointer q)) (hy : ev E y = some (.int .i64 (l.length : Int))) (hq : 0 < l.length → q = a) (hb : Byt l)
    (hr : Rep H (Own a c e 1 l.length (ints .u8 l)) (fun _ => True) H') (hp : P.underlying pt = some (.pointer e)) (hc : P.cellsOf e = 1)
    (hw : wt l0 E g = some true) (hd : Nat.blt d n = true)
    (kk : RT B P n true l0 rest ((d, .string (str l)) :: E) H' Q) :
    RT B P n true l0 (⟨some d, .call { callee := .builtin .unsafeString, args := #[x, y], argTypes := #[pt, it] }, ty, pos, af, g⟩ :: rest) E H Q :=
  RT.eff hw fun o aa w K ho hty hdd hA hS hK => by
    obtain ⟨Rr, s1, s2⟩ := hr.sel
    obtain ⟨hxl, hkc, hcm⟩ := Own.facts hS s1
    have : ∃ w', (Builtin.unsafeString_ #[pt, it] ty #[.pointer q, .int .i64 (l.length : Int)]).run P w = .ok (.string (str l)) w' ∧ Sat B H' w' := by
      by_cases h0 : l = []
      · subst h0
        exact ⟨w, Lib.run_unsafeString_none w pt it ty q, Sat.unsel s2 (Sat.mono (hS.sel s1) fun h => star_head_mono fun _ _ => trivial)⟩
      · have hlp : 0 < l.length := List.length_pos_iff.2 h0
        obtain rfl := hq hlp
        rcases Own.to_row hS s1 with ⟨rfl, rfl, h1, h2⟩ | ⟨g, cur, rfl, hg, _, hcs, _⟩
        · omega
        · have hrd := ((Own.rd s1 hxl hkc).2.2 w hS).2
          have hlen : (l.map b8).length = l.length := List.length_map ..
          have hrun := Lib.run_unsafeString_row (P := P) w pt it ty e hp hc g cur.size (by simp [World.shape?, hg]) (l.map b8) (by simpa using h0) (by rw [hlen]; omega) (by rw [hlen]; unfold maxLen at hcm; omega) (fun j u hu => by
            rw [List.getElem?_map] at hu
            cases hj : l[j]? with
            | none => rw [hj] at hu; cases hu
            | some z =>
              rw [hj] at hu
              cases hu
              have h1 := hrd j (.int .u8 z) (by simp [ints, hj])
              rw [b8_nat (hb z (List.mem_of_getElem? hj))]
              exact h1)
          rw [hlen] at hrun
          exact ⟨_, hrun, hS.freeze hr _⟩
    obtain ⟨w', hrun, hS'⟩ := this
    unfold Oper.wp execOp
    simp only [ho, hty, resolve, invoke, builtin, Sem.run_bind, Sem.run_pure, Result.andThen_ok, List.map_toArray, List.map_cons, List.map_nil, hA.ev hx, hA.ev hy, hrun]
    simp only [Oper.upon, hdd]
    exact hK _ _ (kk _ _ (hA.put (by simpa [Nat.blt_eq] using hd) _) hS')
end
end Go.Sk
end
section
/- Bits: masks, sums without carry, shifts. Plain theorems, no condition. -/
namespace Go.Sk
theorem bv_nat {w n : Nat} (h : n < 2 ^ w) : (BitVec.ofInt w (n : Int)).toNat = n := by
  rw [BitVec.ofInt_natCast, BitVec.toNat_ofNat, Nat.mod_eq_of_lt h]
theorem and_nat {w : Nat} {c m : Int} {j : Nat} (h0 : 0 ≤ c) (h1 : c < 2 ^ w) (hm : m = 2 ^ j - 1) (hj : j ≤ w) : ((BitVec.ofInt w c &&& BitVec.ofInt w m).toNat : Int) = c % 2 ^ j := by
  obtain ⟨n, rfl⟩ := Int.eq_ofNat_of_zero_le h0
  have hp : 0 < 2 ^ j := Nat.two_pow_pos j
  have hm' : m = ((2 ^ j - 1 : Nat) : Int) := by rw [hm, Int.natCast_sub hp]; simp
  have hle : 2 ^ j ≤ 2 ^ w := Nat.pow_le_pow_right (by decide) hj
  have hn : n < 2 ^ w := by
    have : ((n : Nat) : Int) < ((2 ^ w : Nat) : Int) := by simpa using h1
    omega
  rw [hm', BitVec.toNat_and, bv_nat hn, bv_nat (by omega), Nat.and_two_pow_sub_one_eq_mod]
  simp
theorem or_nat {w : Nat} {a b : Int} {j : Nat} (h0 : 0 ≤ a) (h1 : 0 ≤ b) (h2 : b < 2 ^ j) (h3 : a * 2 ^ j + b < 2 ^ w) : ((BitVec.ofInt w (a * 2 ^ j) ||| BitVec.ofInt w b).toNat : Int) = a * 2 ^ j + b := by
  obtain ⟨m, rfl⟩ := Int.eq_ofNat_of_zero_le h0
  obtain ⟨n, rfl⟩ := Int.eq_ofNat_of_zero_le h1
  have e : (m : Int) * 2 ^ j = ((2 ^ j * m : Nat) : Int) := by rw [Nat.mul_comm]; simp
  rw [e] at h3 ⊢
  have h2' : n < 2 ^ j := by
    have : ((n : Nat) : Int) < ((2 ^ j : Nat) : Int) := by simpa using h2
    omega
  have h3' : 2 ^ j * m + n < 2 ^ w := by
    have : ((2 ^ j * m + n : Nat) : Int) < ((2 ^ w : Nat) : Int) := by simpa using h3
    omega
  rw [BitVec.toNat_or, bv_nat (by omega), bv_nat (by omega), ← Nat.two_pow_add_eq_or_of_lt h2']
  simp
theorem emod_le_pow {c : Int} (j : Nat) (h0 : 0 ≤ c) : c % 2 ^ j ≤ c := by
  obtain ⟨n, rfl⟩ := Int.eq_ofNat_of_zero_le h0
  have e : (n : Int) % 2 ^ j = ((n % 2 ^ j : Nat) : Int) := by simp
  rw [e]
  have := Nat.mod_le n (2 ^ j)
  omega
theorem and_u8 {c m : Int} (j : Nat) (h0 : 0 ≤ c) (h1 : c < 256) (hm : m = 2 ^ j - 1) (hj : j ≤ 8) {r : Int} (hr : c % 2 ^ j = r) : IntKind.u8.wrap (((BitVec.ofInt IntKind.u8.bits c &&& BitVec.ofInt IntKind.u8.bits m).toNat : Nat) : Int) = r := by
  have h : ((BitVec.ofInt 8 c &&& BitVec.ofInt 8 m).toNat : Int) = c % 2 ^ j := and_nat h0 (by simpa using h1) hm hj
  show IntKind.u8.wrap (((BitVec.ofInt 8 c &&& BitVec.ofInt 8 m).toNat : Nat) : Int) = r
  rw [h, hr]
  have h2 : 0 ≤ c % 2 ^ j := Int.emod_nonneg _ (by have := Int.pow_pos (n := 2) (m := j) (by decide); omega)
  have h3 : c % 2 ^ j ≤ c := emod_le_pow j h0
  exact wr_u8 (by omega) (by omega)
theorem and_i64 {c m : Int} (j : Nat) (h0 : 0 ≤ c) (h1 : c < 9223372036854775808) (hm : m = 2 ^ j - 1) (hj : j ≤ 63) {r : Int} (hr : c % 2 ^ j = r) : IntKind.i64.wrap (((BitVec.ofInt IntKind.i64.bits c &&& BitVec.ofInt IntKind.i64.bits m).toNat : Nat) : Int) = r := by
  have h : ((BitVec.ofInt 64 c &&& BitVec.ofInt 64 m).toNat : Int) = c % 2 ^ j := and_nat h0 (by omega) hm (by omega)
  show IntKind.i64.wrap (((BitVec.ofInt 64 c &&& BitVec.ofInt 64 m).toNat : Nat) : Int) = r
  rw [h, hr]
  have h2 : 0 ≤ c % 2 ^ j := Int.emod_nonneg _ (by have := Int.pow_pos (n := 2) (m := j) (by decide); omega)
  have h3 : c % 2 ^ j ≤ c := emod_le_pow j h0
  exact wr_i64 (by omega) (by omega)
theorem or_i64 {a b : Int} (j : Nat) (h0 : 0 ≤ a) (h1 : 0 ≤ b) (h2 : b < 2 ^ j) (h3 : a * 2 ^ j + b < 9223372036854775808) {x r : Int} (hx : x = a * 2 ^ j) (hr : a * 2 ^ j + b = r) : IntKind.i64.wrap (((BitVec.ofInt IntKind.i64.bits x ||| BitVec.ofInt IntKind.i64.bits b).toNat : Nat) : Int) = r := by
  subst hx
  have h : ((BitVec.ofInt 64 (a * 2 ^ j) ||| BitVec.ofInt 64 b).toNat : Int) = a * 2 ^ j + b := or_nat h0 h1 h2 (by omega)
  show IntKind.i64.wrap (((BitVec.ofInt 64 (a * 2 ^ j) ||| BitVec.ofInt 64 b).toNat : Nat) : Int) = r
  rw [h, hr]
  have : 0 ≤ a * 2 ^ j := Int.mul_nonneg h0 (Int.le_of_lt (Int.pow_pos (by decide)))
  exact wr_i64 (by omega) (by omega)
theorem shr_of {v j p : Int} {k : IntKind} (h : (2 : Int) ^ (min j.toNat k.bits) = p) (hp : 0 ≤ p) {r : Int} (hr : v / p = r) : v.fdiv (2 ^ (min j.toNat k.bits)) = r := by
  rw [h, Int.fdiv_eq_ediv_of_nonneg _ hp, hr]
end Go.Sk
end
section
/- Ranges over texts, bytes as texts, conversions of slices, what the base world holds. Plain theorems, no condition. -/
namespace Go.Sk
open Go.RowKit
/-- A cell of the base world. -/
theorem Sat.bcell {B : World} {H : List HP} {w : World} (s : Sat B H w) {b o : Nat} {v : Value} (h : B.cell? ⟨b, o, none⟩ = some v) : w.cell? ⟨b, o, none⟩ = some v := by
  have hlt : b < B.heap.size := by
    rcases Nat.lt_or_ge b B.heap.size with h' | h'
    · exact h'
    · simp [World.cell?, Array.getElem?_eq_none h'] at h
  rw [← h]
  simp only [World.cell?, s.base b hlt]
/-- The iterator of a text in block b. -/
def It (b : Nat) (s : ByteArray) (p : Nat) : HP := fun h => h b = some (.stringIter s p)
theorem It.at_ {B : World} {H R : List HP} {w : World} {b p : Nat} {s : ByteArray} (hS : Sat B H w) (hs : Sel H (It b s p) R) : w.heap[b]? = some (.stringIter s p) := by
  obtain ⟨h, a, hp⟩ := (hS.sel hs).head
  exact (a b _ hp).1
section
variable {B : World} {P : Program} {n : Fm} {m : Bool} {l0 rest : List Oper} {E : Env} {H R : List HP} {Q : Exit → Act → World → Prop} (T : Tab P)
variable {d : Nat} {ty : TypeId} {pos : String} {af : Array Edge} {g : Option (Nat × Bool)} {x y y' : Operand} {t t' : TypeId}
theorem RT.rng {s : ByteArray} (hx : ev E x = some (.string s)) (ht : al T.kinds t = some 2) (hw : wt l0 E g = some true) (hd : Nat.blt d n = true)
    (kk : ∀ b, RT B P n true l0 rest ((d, .pointer (some ⟨b, 0, none⟩)) :: E) (It b s 0 :: H) Q) : RT B P n true l0 (⟨some d, .range t x, ty, pos, af, g⟩ :: rest) E H Q :=
  RT.eff hw fun o aa w K ho hty hdd hA hS hK => by
    have hrun := run_range_string (P := P) w t s (knd_string (T.kind ht))
    unfold Oper.wp execOp
    simp only [ho, hA.ev hx, Sem.run_bind, hrun, Result.andThen_ok, Sem.run_pure]
    simp only [Oper.upon, hdd]
    exact hK _ _ (kk w.heap.size _ _ (hA.put (by simpa [Nat.blt_eq] using hd) _) (hS.new rfl rfl rfl rfl fun h _ hb => hb))
theorem RT.nxt {b p : Nat} {s : ByteArray} {H' : List HP} (hx : ev E x = some (.pointer (some ⟨b, 0, none⟩))) (hr : Rep H (It b s p) (It b s (p + (Utf8.decode s p).2)) H') (hw : wt l0 E g = some true) (hd : Nat.blt d n = true)
    (k1 : p < s.size → RT B P n true l0 rest ((d, .tuple #[.bool true, .int .i64 p, .int .i32 (Utf8.decode s p).1]) :: E) H' Q)
    (k2 : ¬ p < s.size → RT B P n true l0 rest ((d, .tuple #[.bool false]) :: E) H Q) : RT B P n true l0 (⟨some d, .next x true, ty, pos, af, g⟩ :: rest) E H Q :=
  RT.eff hw fun o aa w K ho hty hdd hA hS hK => by
    obtain ⟨Rr, s1, s2⟩ := hr.sel
    have hk := It.at_ hS s1
    unfold Oper.wp execOp
    by_cases h : p < s.size
    · have hrun := Lib.run_next_any_at (P := P) w b s p o.type hk h
      simp only [ho, hA.ev hx, Sem.run_bind, hrun, Result.andThen_ok, Sem.run_pure]
      simp only [Oper.upon, hdd]
      refine hK _ _ (k1 h _ _ (hA.put (by simpa [Nat.blt_eq] using hd) _) (hS.upd (b := b) hr (fun h hh => ⟨_, hh⟩) (fun _ _ _ _ hh => hh) rfl rfl rfl (Lib.iterAt_size _ _ _ _) (Lib.iterAt_heap w b s p _ hk) (fun x hx => Lib.iterAt_other _ _ _ _ _ hx)))
    · have hrun := Lib.run_next_end_at (P := P) w b s p o.type hk h
      simp only [ho, hA.ev hx, Sem.run_bind, hrun, Result.andThen_ok, Sem.run_pure]
      simp only [Oper.upon, hdd]
      exact hK _ _ (k2 h _ _ (hA.put (by simpa [Nat.blt_eq] using hd) _) hS)
/-- string(x) of bytes. -/
theorem RT.convBS {a : Option Addr} {k c e : Nat} {l : List Int} (hx : ev E x = some (.slice a k c)) (hr : Rd B H a k c 1 (ints .u8 l)) (hb : Byt l) (hs : P.underlying t = some (.slice e)) (he : P.underlying e = some (.int .u8)) (ht : al T.kinds t' = some 2) (hw : wt l0 E g = some true) (hd : Nat.blt d n = true)
    (kt : RT B P n m l0 rest ((d, .string (str l)) :: E) H Q) : RT B P n m l0 (⟨some d, .convert t t' x, ty, pos, af, g⟩ :: rest) E H Q :=
  RT.y hw (by simpa [Nat.blt_eq] using hd) (y_run fun o aa w ho _ hA hS => by
    have hd2 := knd_string (T.kind ht)
    have hlen : l.length = k := by have := hr.1; rw [ints_len] at this; omega
    have hrun : (convert t t' (.slice a k c)).run P w = .ok (.string (str l)) w := by
      rcases Nat.eq_zero_or_pos k with h0 | h0
      · subst h0
        obtain rfl : l = [] := List.eq_nil_of_length_eq_zero hlen
        rw [run_convert_bytes_string w t t' e a 0 c hs he hd2]
        cases a with
        | none => rfl
        | some ad =>
          have := run_bytesToString (P := P) w ad 0 c [] (by simpa using run_loadCells_list (P := P) w ad [] (by simp))
          exact this
      · obtain ⟨ad, rfl, hcells⟩ := hr.cells hS h0
        have := run_convert_bytes_back (P := P) w t t' e ad c (l.map b8) hs he hd2 (fun j hj => by
          rw [List.length_map] at hj
          have h1 := hcells j (.int .u8 l[j]) (by simp [ints, hj])
          rw [h1, List.getElem_map, b8_nat (hb _ (List.getElem_mem hj))])
        rw [List.length_map, hlen] at this
        exact this
    unfold execOp
    simp only [ho, hA.ev hx, Sem.run_bind, hrun, Result.andThen_ok]
    rfl) kt
/-- A row that is only read, whatever of it is frozen. -/
def Ro (a : Option Addr) (xs : List Value) : HP := fun h => ∃ g cur e fz, a = some ⟨g, 0, none⟩ ∧ h g = some (.cells cur e fz) ∧ cur.toList.take xs.length = xs
theorem Ro.rd {a : Option Addr} {c k : Nat} {xs : List Value} (hs : Sel H (Ro a xs) R) (hl : xs.length = k) (hc : k ≤ c) : Rd B H a k c 1 xs := by
  refine ⟨by omega, hc, fun w hS => ?_⟩
  obtain ⟨h, hh, g, cur, e, fz, rfl, hg, ht⟩ := (hS.sel hs).head
  refine ⟨fun _ => rfl, fun j u hj => ?_⟩
  rw [adr, Option.getD_some, addr_add, cell_of_row w g j cur e fz (hh g _ hg).1]
  rw [← ht, List.getElem?_take] at hj
  split at hj
  · simpa using hj
  · cases hj
theorem freeze_at {w : World} {g o j : Nat} {cur : Array Value} {e : TypeId} {fz : Nat × Nat} (hg : w.heap[g]? = some (.cells cur e fz)) : ∃ fz', (w.freeze ⟨g, o, none⟩ j).heap[g]? = some (.cells cur e fz') := by
  unfold World.freeze
  split
  · exact ⟨fz, hg⟩
  · simp only [Array.getElem?_modify, if_true, hg, Option.map_some]
    exact ⟨_, rfl⟩
theorem freeze_other {w : World} {g o j x : Nat} (hx : x ≠ g) : (w.freeze ⟨g, o, none⟩ j).heap[x]? = w.heap[x]? := by
  unfold World.freeze
  split
  · rfl
  · simp only [Array.getElem?_modify]
    rw [if_neg (fun h => hx h.symm)]
theorem freeze_size {w : World} {p : Addr} {j : Nat} : (w.freeze p j).heap.size = w.heap.size := by
  unfold World.freeze
  split
  · rfl
  · simp
theorem freeze_rest {w : World} {p : Addr} {j : Nat} : (w.freeze p j).os = w.os ∧ (w.freeze p j).output = w.output ∧ (w.freeze p j).tape = w.tape := by
  unfold World.freeze
  split <;> exact ⟨rfl, rfl, rfl⟩
/-- []byte("..") of a constant: the new row is marked, and only read from then on. -/
theorem RT.mark {a : Option Addr} {k c e : Nat} {xs : List Value} {H' : List HP} (hx : ev E x = some (.slice a k c)) (hr : Rep H (Own a c e 1 k xs) (Ro a xs) H') (h0 : 0 < k) (hs : P.underlying t = some (.slice e)) (he : P.underlying e = some (.int .u8)) (hw : wt l0 E g = some true) (hd : Nat.blt d n = true)
    (kt : RT B P n true l0 rest ((d, .slice a k c) :: E) H' Q) : RT B P n true l0 (⟨some d, .convert t t x, ty, pos, af, g⟩ :: rest) E H Q :=
  RT.eff hw fun o aa w K ho hty hdd hA hS hK => by
    obtain ⟨Rr, s1, s2⟩ := hr.sel
    obtain ⟨hxl, hkc, hcm⟩ := Own.facts hS s1
    rcases Own.to_row hS s1 with ⟨rfl, rfl, h1, h2⟩ | ⟨g0, cur, rfl, hg, _, hcs, htk⟩
    · omega
    · have hrun : (convert t t (.slice (some ⟨g0, 0, none⟩) k c)).run P w = .ok (.slice (some ⟨g0, 0, none⟩) k c) (w.freeze ⟨g0, cur.size, none⟩ 1) := by
        simp [convert, run_underlying hs, run_underlying he, markStringish, World.shape?, hg]
      obtain ⟨fz', hfz⟩ := freeze_at (o := cur.size) (j := 1) hg
      obtain ⟨r1, r2, r3⟩ := freeze_rest (w := w) (p := ⟨g0, cur.size, none⟩) (j := 1)
      have hS' : Sat B H' (w.freeze ⟨g0, cur.size, none⟩ 1) := hS.upd (b := g0) hr (fun h hh => by
        obtain ⟨_, _, _, hp⟩ := hh
        rcases hp with ⟨h, _⟩ | ⟨g', cur, h, hgg, _⟩
        · cases h
        · cases h; exact ⟨_, hgg⟩) (fun h h' _ _ hb => ⟨g0, cur, e, fz', rfl, hb, by rw [hxl]; exact htk⟩) r1 r2 r3 freeze_size hfz (fun x hx => freeze_other hx)
      unfold Oper.wp execOp
      simp only [ho, hA.ev hx, Sem.run_bind, hrun, Result.andThen_ok, Sem.run_pure]
      simp only [Oper.upon, hdd]
      exact hK _ _ (kt _ _ (hA.put (by simpa [Nat.blt_eq] using hd) _) hS')
end
end Go.Sk
end
section
/- To stop a walk ahead of a region. Plain theorems, no condition. -/
namespace Go.Sk
/-- The first region of a code. -/
def hd : Code → Nat
  | .region id _ _ => id
  | .seq a _ => hd a
  | .block _ c => hd c
  | .loop c => hd c
  | .rangeFunc _ _ a _ => hd a
  | _ => 0
theorem CT.seqN {B : World} {P : Program} {n : Fm} {E : Env} {H : List HP} {Q : Exit → Act → World → Prop} {x y : Code} (k : Nat) (_ : Nat.beq (hd x) k = false) (h : CT B P n x E H (Then n P y Q)) : CT B P n (.seq x y) E H Q := CT.seq h
theorem CT.blockN {B : World} {P : Program} {n : Fm} {E : Env} {H : List HP} {Q : Exit → Act → World → Prop} {c : Code} {id : Nat} (k : Nat) (_ : Nat.beq (hd c) k = false) (h : CT B P n c E H (Exit.inBlock id Q)) : CT B P n (.block id c) E H Q := CT.block h
end Go.Sk
end
section
/- A literal's slice has no room; an append to a slice that is only read and has no room. Plain theorems, no condition. -/
namespace Go.Sk
open Go.RowKit
section
variable {B : World} {P : Program} {n : Fm} {m : Bool} {l0 rest : List Oper} {E : Env} {H R : List HP} {Q : Exit → Act → World → Prop} (T : Tab P)
variable {d : Nat} {ty : TypeId} {pos : String} {af : Array Edge} {g : Option (Nat × Bool)} {x y y' : Operand} {t t' : TypeId}
theorem RT.bsX {e bb k : Nat} {z0 : Value} {parts : List (Nat × Operand)} {l : List Value} (hl : rowL E 0 parts = some l) (hk : l.length = k) (ht : al T.slcs t = some (e, 1, bb)) (hz : al T.zers e = some z0) (hlen : Nat.ble k 16777216 = true) (hw : wt l0 E g = some true) (hd : Nat.blt d n = true)
    (kt : ∀ a, RT B P n true l0 rest ((d, .slice a k k) :: E) (Own a k e 1 k l :: H) Q) : RT B P n true l0 (⟨some d, .buildSlice t k parts.toArray, ty, pos, af, g⟩ :: rest) E H Q :=
  RT.eff hw fun o aa w K ho _ hdd hA hS hK => by
    subst hk
    have hle : l.length ≤ 16777216 := by simpa [Nat.ble_eq] using hlen
    obtain ⟨e1, _, e3⟩ := rowL_spec hA parts 0 l hl
    have hrun := run_bs (P := P) (w := w) (vs := parts.map fun (i, x) => (i, aa.eval x)) (l := l) (T.slc ht) (T.zer hz) rfl hle (fun cells hc => by
      rw [e3 cells (by omega)]
      simp only [List.take_zero, List.nil_append, Nat.zero_add]
      rw [List.drop_eq_nil_of_le (by simp; omega), List.append_nil])
    unfold Oper.wp execOp
    have hm : (parts.toArray.map fun (i, x) => (i, aa.eval x)) = (parts.map fun (i, x) => (i, aa.eval x)).toArray := by simp
    simp only [ho, Sem.run_bind]
    rw [hm, hrun]
    simp only [Result.andThen_ok, Sem.run_pure, Oper.upon, hdd]
    refine hK _ _ (kt _ _ _ (hA.put (by simpa [Nat.blt_eq] using hd) _) (hS.new rfl rfl rfl rfl fun h _ hb => ?_))
    exact ⟨by simp, Nat.le_refl _, by unfold maxLen; omega, .inr ⟨_, _, rfl, hb, by simp, by simp⟩⟩
/-- append(x, y...): x has no room: a new row. -/
theorem RT.appN {e by_ : Nat} {z : Value} {a b : Option Addr} {k j c2 : Nat} {ki : IntKind} {l l' : List Int}
    (hx : ev E x = some (.slice a k k)) (hy : ev E y = some (.slice b j c2)) (ht : al T.slcs t = some (e, 1, by_)) (hrx : Rd B H a k k 1 (ints ki l)) (hry : Rd B H b j c2 1 (ints ki l')) (hk : 0 < k) (hj : 0 < j)
    (hlen : k + j ≤ 140737488355328) (hby : (k + j) * by_ ≤ 140737488355328) (hz : al T.zers e = some z) (hzs : z.cells.size = 1) (hw : wt l0 E g = some true) (hd : Nat.blt d n = true)
    (kk : ∀ a' c', k + j ≤ c' → RT B P n true l0 rest ((d, .slice a' (k + j) c') :: E) (Own a' c' e 1 (k + j) (ints ki (l ++ l')) :: H) Q) :
    RT B P n true l0 (⟨some d, .call { callee := .builtin .append, args := #[x, y], argTypes := #[t, t] }, ty, pos, af, g⟩ :: rest) E H Q :=
  RT.eff hw fun o aa w K ho hty hdd hA hS hK => by
    obtain ⟨hu, i, hi, hisz, hiby⟩ := slcB_spec (T.slc ht)
    have hzi : i.zero = some z := by simpa [zerB, hi] using T.zer hz
    obtain ⟨ad, rfl, hca⟩ := hrx.cells hS hk
    obtain ⟨bd, rfl, hcb⟩ := hry.cells hS hj
    have hxl := hrx.1
    have hyl := hry.1
    have hml : k + j ≤ maxLen := by unfold maxLen; omega
    have hrun := run_append_grow (P := P) w t ty e i z hu hi hzi ad k k (ints ki l) (by rw [hisz]; exact hxl) hca bd j c2 (ints ki l') (by rw [hisz]; exact hyl) hcb (by omega) (by omega) (by rw [hiby]; exact growslice_fits (by omega) hby)
    have hge := grownCap_ge w (k + j) k e
    have hcm := grownCap_le_maxLen w (k + j) k e hml
    have hlen' : (ints ki (l ++ l')).length = (k + j) * 1 := by
      rw [ints_len] at *
      rw [List.length_append]
      omega
    have hS' : Sat B (Own (some ⟨w.heap.size, 0, none⟩) (grownCap w (k + j) k e) e 1 (k + j) (ints ki (l ++ l')) :: H) (w.drew.alloc (.cells ((ints ki l).toArray ++ (ints ki l').toArray ++ Builtin.zeroCells z.cells (grownCap w (k + j) k e - (k + j))) e)) := by
      refine hS.new rfl rfl rfl rfl fun h _ hb => ⟨hlen', hge, hcm, .inr ⟨_, _, rfl, hb, ?_, ?_⟩⟩
      · simp only [Array.size_append, List.size_toArray, size_zeroCells, hzs, hxl, hyl]
        omega
      · simp only [Array.toList_append, List.append_assoc]
        rw [← List.append_assoc, ints_app, ← hlen']
        exact List.take_left
    unfold Oper.wp execOp
    simp only [ho, hty, resolve, invoke, builtin, Sem.run_bind, Sem.run_pure, Result.andThen_ok, List.map_toArray, List.map_cons, List.map_nil, hA.ev hx, hA.ev hy, hrun]
    simp only [Oper.upon, hdd]
    exact hK _ _ (kk _ _ hge _ _ (hA.put (by simpa [Nat.blt_eq] using hd) _) hS')
end
end Go.Sk
end
section
/- A function with three results. Plain theorems, no condition. -/
namespace Go.Sk
open Go.RowKit
section
variable {B : World} {P : Program} {n : Nat} {E : Env} {H R HH : List HP} {fn : Func} {Post : Value → List HP → Prop}
theorem res3 {fn : Func} {t u v : Nat} (h : fn.results = #[.tmp t, .tmp u, .tmp v]) (tmps : Array Value) (P : Program) (w : World) :
    (results fn tmps).run P w = .ok (.tuple #[tmps.getD t undef, tmps.getD u undef, tmps.getD v undef]) w := by
  simp [results, h]
theorem AtQ.f3 {t u s : Nat} {v1 v2 v3 u1 u2 u3 : Value} (hr : fn.results = #[.tmp t, .tmp u, .tmp s]) (he : lk E t = some v1) (he2 : lk E u = some v2) (he3 : lk E s = some v3) (h1 : v1 = u1) (h2 : v2 = u2) (h3 : v3 = u3) (hs : ∀ w, Sat B H w → Sat B (HH ++ R) w) :
    AtQ B (.mk0 n) E H (FinQ B P fn R (fun x H' => x = .tuple #[u1, u2, u3] ∧ H' = HH)) .ret := by
  subst h1 h2 h3
  intro a w hA hS
  refine bodyPost_ret (res3 hr _ _ _) hA.defers ⟨_, _, rfl, ⟨?_, rfl⟩, hs w hS⟩
  rw [show a.tmps.getD t undef = v1 by simp [Array.getD_eq_getD_getElem?, hA.get t v1 he], show a.tmps.getD u undef = v2 by simp [Array.getD_eq_getD_getElem?, hA.get u v2 he2], show a.tmps.getD s undef = v3 by simp [Array.getD_eq_getD_getElem?, hA.get s v3 he3]]
end
end Go.Sk
end
section
/- make([]T, 0, n): an owned slice with room. Plain theorems, no condition. -/
namespace Go.Sk
open Go.RowKit
section
variable {B : World} {P : Program} {n : Fm} {l0 rest : List Oper} {E : Env} {H R : List HP} {Q : Exit → Act → World → Prop} (T : Tab P)
variable {d : Nat} {ty : TypeId} {pos : String} {af : Array Edge} {g : Option (Nat × Bool)} {x y : Operand} {t : TypeId}
theorem RT.mk0 {e by_ c : Nat} {z : Value} {kl kc : IntKind} (hx : ev E x = some (.int kl 0)) (hy : ev E y = some (.int kc (c : Int))) (ht : al T.slcs t = some (e, 1, by_)) (hz : al T.zers e = some z) (hzs : z.cells.size = 1) (hby : by_ * c ≤ 281474976710656) (hc : c ≤ 140737488355328) (hw : wt l0 E g = some true) (hd : Nat.blt d n = true)
    (kt : ∀ a, RT B P n true l0 rest ((d, .slice a 0 c) :: E) (Own a c e 1 0 [] :: H) Q) : RT B P n true l0 (⟨some d, .makeSlice t x y, ty, pos, af, g⟩ :: rest) E H Q :=
  RT.eff hw fun o aa w K ho _ hdd hA hS hK => by
    obtain ⟨hu, i, hi, hisz, hiby⟩ := slcB_spec (T.slc ht)
    have hzi : i.zero = some z := by simpa [zerB, hi] using T.zer hz
    have hb' : (i.bytes : Int) * (c : Int) ≤ 281474976710656 := by
      rw [hiby]
      have h : ((by_ * c : Nat) : Int) ≤ 281474976710656 := by omega
      rwa [Int.natCast_mul] at h
    have hr := run_make (P := P) w t e i z hu hi hzi kl kc 0 c (Int.le_refl _) (by omega) hb' (by omega)
    simp only [Int.toNat_zero, Int.toNat_natCast] at hr
    unfold Oper.wp execOp
    simp only [ho, hA.ev hx, hA.ev hy, Sem.run_bind, hr, Result.andThen_ok, Sem.run_pure]
    simp only [Oper.upon, hdd]
    refine hK _ _ (kt _ _ _ (hA.put (by simpa [Nat.blt_eq] using hd) _) (hS.new rfl rfl rfl rfl fun h _ hb => ?_))
    exact ⟨rfl, Nat.zero_le _, by unfold maxLen; omega, .inr ⟨_, _, rfl, hb, by rw [hisz, size_madeCells, Nat.mul_one], by simp⟩⟩
end
end Go.Sk
end
section
/- Slices from their beginning are where they were; cells of a row in part. Plain theorems, no condition. -/
namespace Go.Sk
open Go.RowKit
theorem asub_z (a : Option Addr) (c z : Nat) : asub a c z 0 = a := by
  unfold asub
  split
  · rfl
  · cases a with
    | none => rfl
    | some ad => simp [Addr.add]
end Go.Sk
end
section
/- Equality of texts that are alike; equality of truth values. Plain theorems, no condition. -/
namespace Go.Sk
open Go.RowKit
section
variable {B : World} {P : Program} {n : Fm} {m : Bool} {l0 rest : List Oper} {E : Env} {H : List HP} {Q : Exit → Act → World → Prop} {d : Nat} {ty t t' : TypeId} {pos : String} {af : Array Edge} {g : Option (Nat × Bool)} {x y : Operand}
theorem RT.eqsame {s : ByteArray} (hx : ev E x = some (.string s)) (hy : ev E y = some (.string s)) (hw : wt l0 E g = some true) (hd : Nat.blt d n = true)
    (k1 : RT B P n m l0 rest ((d, .bool true) :: E) H Q) : RT B P n m l0 (⟨some d, .binOp .eql t x y t', ty, pos, af, g⟩ :: rest) E H Q := by
  have hy2 : Yld B P n E H (.binOp .eql t x y t') ty (.bool true) := y_run fun o aa w ho _ hA _ => by
    unfold execOp
    simp only [ho, hA.ev hx, hA.ev hy, eqGuard, binOp, Op.stringOp, ByteArray.toList_eq, list_beq_iff, decide_true]
    rfl
  exact RT.y hw (by simpa [Nat.blt_eq] using hd) hy2 k1
theorem RT.nesame {s : ByteArray} (hx : ev E x = some (.string s)) (hy : ev E y = some (.string s)) (hw : wt l0 E g = some true) (hd : Nat.blt d n = true)
    (k1 : RT B P n m l0 rest ((d, .bool false) :: E) H Q) : RT B P n m l0 (⟨some d, .binOp .neq t x y t', ty, pos, af, g⟩ :: rest) E H Q := by
  have hy2 : Yld B P n E H (.binOp .neq t x y t') ty (.bool false) := y_run fun o aa w ho _ hA _ => by
    unfold execOp
    simp only [ho, hA.ev hx, hA.ev hy, eqGuard, binOp, Op.stringOp, ByteArray.toList_eq, bne, list_beq_iff, decide_true]
    rfl
  exact RT.y hw (by simpa [Nat.blt_eq] using hd) hy2 k1
theorem run_eqb {P : Program} {w : World} {t : TypeId} {b b' : Bool} (hu : P.underlying t = some .bool) : (Op.equal t (.bool b) (.bool b')).run P w = .ok (b == b') w := run_eqv fun d => by
  cases b <;> cases b' <;> (simp only [Op.equalIn, Sem.run_bind, run_underlying hu, Result.andThen_ok]; rfl)
theorem RT.eqb {b b' : Bool} (hu : P.underlying t = some .bool) (hx : ev E x = some (.bool b)) (hy : ev E y = some (.bool b')) (hw : wt l0 E g = some true) (hd : Nat.blt d n = true)
    (k1 : RT B P n m l0 rest ((d, .bool (b == b')) :: E) H Q) : RT B P n m l0 (⟨some d, .binOp .eql t x y t', ty, pos, af, g⟩ :: rest) E H Q := by
  have hy2 : Yld B P n E H (.binOp .eql t x y t') ty (.bool (b == b')) := y_run fun o aa w ho _ hA _ => by
    have h1 : binOp .eql t (.bool b) (.bool b') = (do pure (.bool (← Op.equal t (.bool b) (.bool b')))) := by cases b <;> cases b' <;> rfl
    have h2 : eqGuard .eql t x y (.bool b) (.bool b') = pure () := by cases b <;> cases b' <;> rfl
    unfold execOp
    simp only [ho, hA.ev hx, hA.ev hy, h1, h2, Sem.run_bind, Sem.run_pure, Result.andThen_ok, run_eqb hu]
  exact RT.y hw (by simpa [Nat.blt_eq] using hd) hy2 k1
theorem RT.neb {b b' : Bool} (hu : P.underlying t = some .bool) (hx : ev E x = some (.bool b)) (hy : ev E y = some (.bool b')) (hw : wt l0 E g = some true) (hd : Nat.blt d n = true)
    (k1 : RT B P n m l0 rest ((d, .bool (b != b')) :: E) H Q) : RT B P n m l0 (⟨some d, .binOp .neq t x y t', ty, pos, af, g⟩ :: rest) E H Q := by
  have hy2 : Yld B P n E H (.binOp .neq t x y t') ty (.bool (b != b')) := y_run fun o aa w ho _ hA _ => by
    have h1 : binOp .neq t (.bool b) (.bool b') = (do pure (.bool !(← Op.equal t (.bool b) (.bool b')))) := by cases b <;> cases b' <;> rfl
    have h2 : eqGuard .neq t x y (.bool b) (.bool b') = pure () := by cases b <;> cases b' <;> rfl
    unfold execOp
    simp only [ho, hA.ev hx, hA.ev hy, h1, h2, Sem.run_bind, Sem.run_pure, Result.andThen_ok, run_eqb hu]
    rfl
  exact RT.y hw (by simpa [Nat.blt_eq] using hd) hy2 k1
end
theorem eqbool {B : World} {P : Program} {n : Fm} {m : Bool} {l0 rest : List Oper} {E : Env} {H : List HP} {Q : Exit → Act → World → Prop} {d : Nat} {ty t t' : TypeId} {pos : String} {af : Array Edge} {g : Option (Nat × Bool)} {x y : Operand} {b : Bool} (hu : P.underlying t = some .bool)
    (hx : ev E x = some (.bool b)) (hy : ev E y = some (.bool b)) (hw : wt l0 E g = some true) (hd : Nat.blt d n = true)
    (k1 : RT B P n m l0 rest ((d, .bool true) :: E) H Q) : RT B P n m l0 (⟨some d, .binOp .eql t x y t', ty, pos, af, g⟩ :: rest) E H Q :=
  RT.eqb hu hx hy hw hd (by cases b <;> exact k1)
end Go.Sk
end
section
/- Ranges over functions: the loop's record as a piece, rounds, yield, marks at the function's end. Plain theorems, no condition. -/
namespace Go.Sk
open Go.RowKit

/-- What a loop's record holds, beside its state. -/
structure Lp where
  nn : Nat
  E : Env
  ps : Array Tmp
  assign : Code
  body : Code
  D : Nat
/-- Block l is that loop's record. -/
def Lo (l : Nat) (st : LoopState) (pe : Option Code) (x : Lp) : HP := fun h => ∃ r : Loop, h l = some (.loop r) ∧ r.state = st ∧ r.pending = pe ∧ r.params = x.ps ∧ r.assign = x.assign ∧ r.body = x.body ∧ r.defers = x.D ∧ Agr (.mk0 x.nn) x.E { tmps := r.tmps, defers := [] }
/-- Block D holds the deferred calls of rounds: none. -/
def Df (D : Nat) : HP := fun h => h D = some (.deferred (some []))
theorem Agr.to {n : Nat} {ds ds' : List Nat} {ro ro' : Option Nat} {E : Env} {a : Act} (h : Agr ⟨n, ds, ro⟩ E a) : Agr ⟨n, ds', ro'⟩ E { a with defers := (Fm.mk n ds' ro').marks } := ⟨h.size, rfl, h.get⟩
section
variable {B : World} {P : Program} {n : Fm} {l0 rest : List Oper} {E : Env} {H R : List HP} {Q : Exit → Act → World → Prop}
theorem Lo.at_ {l : Nat} {st : LoopState} {pe : Option Code} {x : Lp} {w : World} (hS : Sat B H w) (hs : Sel H (Lo l st pe x) R) :
    ∃ r : Loop, w.heap[l]? = some (.loop r) ∧ r.state = st ∧ r.pending = pe ∧ r.params = x.ps ∧ r.assign = x.assign ∧ r.body = x.body ∧ r.defers = x.D ∧ Agr (.mk0 x.nn) x.E { tmps := r.tmps, defers := [] } := by
  obtain ⟨h, a, r, h1, h2⟩ := (hS.sel hs).head
  exact ⟨r, (a l _ h1).1, h2⟩
theorem Lo.set {l : Nat} {st st' : LoopState} {pe pe' : Option Code} {x : Lp} {w : World} {H' : List HP} {r : Loop} (hS : Sat B H w) (hr : Rep H (Lo l st pe x) (Lo l st' pe' x) H') (h : w.heap[l]? = some (.loop r)) :
    Sat B H' (w.putObj l (.loop { r with state := st', pending := pe' })) := by
  have hlt : l < w.heap.size := (Array.getElem?_eq_some_iff.1 h).1
  refine hS.upd hr (o' := .loop { r with state := st', pending := pe' }) (b := l) (fun h ⟨r, h1, _⟩ => ⟨_, h1⟩) (fun h1 h2 hp _ h3 => ?_) rfl rfl rfl (World.putObj_size) (World.putObj_heap_same hlt) (fun x hx => World.putObj_heap_other hx)
  exact ⟨_, h3, rfl, rfl, by
    obtain ⟨R, s1, _⟩ := hr.sel
    obtain ⟨r', h4, h5⟩ := Lo.at_ hS s1
    rw [h] at h4
    cases h4
    exact h5.2.2⟩
theorem Df.at_ {D : Nat} {w : World} (hS : Sat B H w) (hs : Sel H (Df D) R) : w.heap[D]? = some (.deferred (some [])) := by
  obtain ⟨h, a, h1⟩ := (hS.sel hs).head
  exact (a D _ h1).1
/-- A call of yield l at these values, from the pieces H. -/
def YJ (B : World) (P : Program) (l : Nat) (vs : List Value) (H : List HP) (Post : Bool → List HP → Prop) : Prop :=
  ∀ w, Sat B H w → ∃ fn tmps assign body, (Instr.yield l vs.toArray).run P w = .ok (.round l fn tmps assign body) w ∧
    RoundIn Fence.wide 0 P l fn tmps assign body w fun e w' => ∃ b H', e = .returned (.bool b) ∧ Post b H' ∧ Sat B H' w'
theorem YJ.mono {l : Nat} {vs : List Value} {Post Post' : Bool → List HP → Prop} (h : YJ B P l vs H Post) (hm : ∀ b H', Post b H' → Post' b H') : YJ B P l vs H Post' := fun w hS =>
  let ⟨fn, tmps, assign, body, h1, h2⟩ := h w hS
  ⟨fn, tmps, assign, body, h1, h2.mono fun _ _ ⟨b, H', a, c, d⟩ => ⟨b, H', a, hm _ _ c, d⟩⟩
def RndQ (B : World) (P : Program) (l : Nat) (Post : Bool → List HP → Prop) : Exit → Act → World → Prop := roundPost P l fun e w' => ∃ b H', e = .returned (.bool b) ∧ Post b H' ∧ Sat B H' w'
def AsgQ (B : World) (n : Fm) (E1 : Env) (H : List HP) : Exit → Act → World → Prop := Exit.then (fun a w => Agr n E1 a ∧ Sat B H w) (fun _ _ _ => False)
theorem AtQ.asg {E1 : Env} {H1 : List HP} (hE : subB E E1) (hH : ∀ w, Sat B H w → Sat B H1 w) : AtQ B n E H (AsgQ B n E1 H1) .normal := fun _ w hA hS => ⟨hA.sub hE.sub, hH w hS⟩
/-- A round, walked: the assignment, then the body. -/
theorem YJ.of {l : Nat} {x : Lp} {nn D : Nat} {E0 : Env} {p : Tmp} {assign body : Code} {v : Value} {E1 : Env} {H1 : List HP} {pe : Option Code} {Post : Bool → List HP → Prop} (hx : x = ⟨nn, E0, #[p], assign, body, D⟩) (hp : Nat.blt p nn = true) (hr : Rep H (Lo l .ready pe x) (Lo l .busy pe x) H1)
    (ha : CT B P ⟨nn, [], some l⟩ assign ((p, v) :: E0) H (AsgQ B ⟨nn, [], some l⟩ E1 H)) (hb : CT B P ⟨nn, [], some l⟩ body E1 H1 (RndQ B P l Post)) : YJ B P l [v] H Post := by
  intro w hS
  obtain ⟨R, s1, _⟩ := hr.sel
  obtain ⟨r, h1, h2, h3, h4, h5, h6, h7, h8⟩ := Lo.at_ hS s1
  have hps : x.ps = #[p] := by rw [hx]
  refine ⟨r.fn, _, _, _, run_yield h1 (by rw [h4, hps]; rfl), roundIn_of_wpIn trivial ?_⟩
  have hA : Agr ⟨nn, [], some l⟩ ((p, v) :: E0) { tmps := (r.params.zip [v].toArray).foldl (fun tmps (t, a) => tmps.setIfInBounds t a) r.tmps, defers := [] } := by
    rw [h4, hps]
    rw [hx] at h8
    have := h8.put (show p < nn by simpa [Nat.blt_eq] using hp) v
    have e : (#[p].zip [v].toArray).foldl (fun tmps (t, a) => tmps.setIfInBounds t a) r.tmps = r.tmps.setIfInBounds p v := by simp
    rw [e]
    exact ⟨this.size, rfl, this.get⟩
  rw [h5, h6, show x.assign = assign by rw [hx], show x.body = body by rw [hx]]
  refine wpIn_mono (ha _ w hA hS) ?_
  intro e a1 w1 hq
  cases e <;> try exact hq
  obtain ⟨hA1, hS1⟩ := hq
  obtain ⟨r1, g1, g2, g3, _⟩ := Lo.at_ hS1 s1
  refine ⟨_, run_beginRound g1 g2, hb a1 _ hA1 ?_⟩
  have := Lo.set (st' := .busy) (pe' := pe) hS1 hr g1
  rw [← g3] at this
  exact this
theorem AtQ.rnd_n {l : Nat} {x : Lp} {pe : Option Code} {H' : List HP} {Post : Bool → List HP → Prop} (hr : Rep H (Lo l .busy pe x) (Lo l .ready none x) H') (hp : Post true H') : AtQ B n E H (RndQ B P l Post) .normal := fun a w _ hS => by
  obtain ⟨R, s1, _⟩ := hr.sel
  obtain ⟨r, h1, _⟩ := Lo.at_ hS s1
  exact ⟨_, _, run_endRound none h1, true, H', rfl, hp, Lo.set hS hr h1⟩
theorem AtQ.rnd_ret {l : Nat} {x : Lp} {pe : Option Code} {H' : List HP} {Post : Bool → List HP → Prop} (hr : Rep H (Lo l .busy pe x) (Lo l .done (some .ret) x) H') (hp : Post false H') : AtQ B n E H (RndQ B P l Post) .ret := fun a w _ hS => by
  obtain ⟨R, s1, _⟩ := hr.sel
  obtain ⟨r, h1, _⟩ := Lo.at_ hS s1
  exact ⟨_, _, run_endRound (some .ret) h1, false, H', rfl, hp, Lo.set hS hr h1⟩
theorem AtQ.rnd_exit {l id : Nat} {x : Lp} {pe : Option Code} {H' : List HP} {Post : Bool → List HP → Prop} (hr : Rep H (Lo l .busy pe x) (Lo l .done (some (.exit id)) x) H') (hp : Post false H') : AtQ B n E H (RndQ B P l Post) (.exit id) := fun a w _ hS => by
  obtain ⟨R, s1, _⟩ := hr.sel
  obtain ⟨r, h1, _⟩ := Lo.at_ hS s1
  exact ⟨_, _, run_endRound (some (.exit id)) h1, false, H', rfl, hp, Lo.set hS hr h1⟩

/-! ### a list of operations with a call of yield in it -/
/-- What stands behind the operations ahead of a call of yield. -/
def RyQ (P : Program) (n : Fm) (l0 rest : List Oper) (Q : Exit → Act → World → Prop) : Exit → Act → World → Prop := Exit.then (fun a w => wpListIn n.fence 0 P l0.toArray Q rest a w) Q
theorem wpN_app {ops : Array Oper} (hro : n.ro = none) : ∀ (l l2 : List Oper) (a : Act) (w : World), wpN P ops (Exit.then (fun a w => wpListIn n.fence 0 P ops Q l2 a w) Q) l a w → wpListIn n.fence 0 P ops Q (l ++ l2) a w
  | [], _, _, _, h => h
  | o :: rest, l2, a, w, h => by
    unfold wpN at h
    rw [List.cons_append]
    unfold wpListIn
    split
    · rename_i hw
      rw [if_pos hw] at h
      exact wpIn_of n (.inl hro) (fun a w h => wpN_app hro rest l2 a w h) (wpO_mono (Q' := Q) (fun c a w hq => hq) (fun ⟨a, w, hq⟩ => ⟨a, w, hq⟩) h)
    · rename_i hw
      rw [if_neg hw] at h
      exact ⟨fun _ _ => trivial, wpN_app hro rest l2 _ _ h⟩
/-- A region whose operation number k is a call of yield. -/
theorem CT.regionY {id : Nat} {l : List Oper} (k : Nat) (hro : n.ro = none) (h : RT B P n true l (l.take k) E H (RyQ P n l (l.drop k) Q)) : CT B P n (.region id l.toArray false) E H Q := fun a w hA hS =>
  wpIn_region_lit (by have := wpN_app hro _ _ a w (h a w hA hS); rwa [List.take_append_drop] at this)
theorem AtQ.ry {d : Nat} {ty : TypeId} {pos : String} {af : Array Edge} {g : Option (Nat × Bool)} {ats : Array TypeId} {x y : Operand} {l : Nat} {v : Value} {Post : Bool → List HP → Prop} (hx : ev E x = some (.func (.yield l) #[] #[])) (hy : ev E y = some v)
    (hw : wt l0 E g = some true) (hd : Nat.blt d n = true) (hro : n.ro = none) (hY : YJ B P l [v] H Post) (k : ∀ b H', Post b H' → RT B P n true l0 rest ((d, .bool b) :: E) H' Q) :
    AtQ B n E H (RyQ P n l0 (⟨some d, .call { callee := .value x, args := #[y], argTypes := ats }, ty, pos, af, g⟩ :: rest) Q) .normal := fun a w hA hS => by
  obtain ⟨fn, tmps, assign, body, h1, h2⟩ := hY w hS
  show wpListIn n.fence 0 P l0.toArray Q _ a w
  unfold wpListIn
  rw [if_pos (wt_wanted hA (o := ⟨some d, .call { callee := .value x, args := #[y], argTypes := ats }, ty, pos, af, g⟩) hw)]
  refine ⟨fun _ _ => trivial, ?_⟩
  have hs : ∀ o : Oper, o.semAt n.fence.round a.eval = execOp a.eval o := fun o => by
    show o.semAt n.ro a.eval = _
    rw [hro, Oper.semAt_none]
  rw [hs]
  have he : (execOp a.eval ⟨some d, .call { callee := .value x, args := #[y], argTypes := ats }, ty, pos, af, g⟩).run P w = .ok (.round l fn tmps assign body) w := by
    unfold execOp
    simp only [resolve, Sem.run_bind, List.map_toArray, List.map_cons, List.map_nil, hA.ev hx, hA.ev hy, Deferred.ofValue, Sem.run_pure, Result.andThen_ok, invoke]
    simpa using h1
  rw [he]
  refine ⟨fun h => (by cases h), h2.mono ?_⟩
  rintro e w' ⟨b, H', rfl, hp, hS'⟩
  exact wpN_In n rest _ _ (.inl hro) (k b H' hp _ _ (hA.put (by simpa [Nat.blt_eq] using hd) _) hS')

/-! ### the statement -/
/-- What the iterator leaves: the record not busy; then on behind the statement, or by the round's jump. -/
def Lft (B : World) (P : Program) (n : Fm) (l : Nat) (x : Lp) (E : Env) (Q : Exit → Act → World → Prop) (H' : List HP) : Prop :=
  (∃ H1, Rep H' (Lo l .ready none x) (Lo l .exhausted none x) H1 ∧ AtQ B n E H1 Q .normal) ∨ ∃ c H1, Rep H' (Lo l .done (some c) x) (Lo l .exhausted (some c) x) H1 ∧ CT B P n c E H1 Q
theorem Lft.fin {l : Nat} {x : Lp} {H' H1 : List HP} (hr : Rep H' (Lo l .ready none x) (Lo l .exhausted none x) H1) (hq : AtQ B n E H1 Q .normal) : Lft B P n l x E Q H' := .inl ⟨H1, hr, hq⟩
theorem Lft.jmp {l : Nat} {x : Lp} {H' H1 : List HP} {c : Code} (hr : Rep H' (Lo l .done (some c) x) (Lo l .exhausted (some c) x) H1) (hq : CT B P n c E H1 Q) : Lft B P n l x E Q H' := .inr ⟨c, H1, hr, hq⟩
theorem left_run {l : Nat} {x : Lp} {H' : List HP} {a : Act} {w : World} {v : Value} (hA : Agr n E a) (h : Lft B P n l x E Q H') (hS : Sat B H' w) : rangePost n.fence 0 P l Q a (.returned v) w := by
  rcases h with ⟨H1, hr, hq⟩ | ⟨c, H1, hr, hq⟩
  · obtain ⟨R, s1, _⟩ := hr.sel
    obtain ⟨r, h1, h2, h3, _⟩ := Lo.at_ hS s1
    refine ⟨_, _, run_endLoop h1 (by rw [h2]; intro h; cases h), ?_⟩
    have hS' := Lo.set (st' := .exhausted) (pe' := none) hS hr h1
    rw [h3]
    rw [← h3] at hS'
    exact hq a _ hA (by rw [← h3] at *; exact hS')
  · obtain ⟨R, s1, _⟩ := hr.sel
    obtain ⟨r, h1, h2, h3, _⟩ := Lo.at_ hS s1
    refine ⟨_, _, run_endLoop h1 (by rw [h2]; intro h; cases h), ?_⟩
    have hS' := Lo.set (st' := .exhausted) (pe' := some c) hS hr h1
    rw [h3]
    rw [← h3] at hS'
    exact hq a _ hA (by rw [← h3] at *; exact hS')
end
end Go.Sk
end
section
/- Ranges over functions: the statement, outermost and within a round; functions that leave with marks. Plain theorems, no condition. -/
namespace Go.Sk
open Go.RowKit
section
variable {B : World} {P : Program} {n : Fm} {E : Env} {H R : List HP} {Q : Exit → Act → World → Prop}
/-- A range over a function, outermost: its record, the block of its rounds' deferred calls. -/
theorem CT.rangeF {g : Operand} {ps : Array Tmp} {assign body : Code} {f : FuncId} {lb : List Value} (hro : n.ro = none) (hg : ev E g = some (.func (.func f) #[] lb.toArray)) (hf : ∀ args w, (callFunc f args).run P w = .ok (.enter f args) w)
    (h : ∀ l D x, x = (⟨n.n, E, ps, assign, body, D⟩ : Lp) → Sp B P f (.func (.yield l) #[] #[] :: lb) [] (Lo l .ready none x :: Df D :: H) (fun v H' => Lft B P ⟨n.n, D :: n.ds, none⟩ l x E Q H')) :
    CT B P n (.rangeFunc g ps assign body) E H Q := by
  obtain ⟨nn, ds, ro⟩ := n
  cases hro
  intro a w hA hS
  refine wpIn_rangeFunc fun fn _ => ?_
  have hS1 : Sat B (Df w.heap.size :: H) (w.alloc (.deferred (some []))) := hS.new rfl rfl rfl rfl fun h _ e => e
  have hS2 : Sat B (Lo (w.heap.size + 1) .ready none ⟨nn, E, ps, assign, body, w.heap.size⟩ :: Df w.heap.size :: H) ((w.alloc (.deferred (some []))).alloc (.loop { state := .ready, pending := none, fn, tmps := a.tmps, params := ps, assign, body, defers := w.heap.size })) := by
    refine hS1.new rfl rfl rfl rfl fun h _ e => ?_
    rw [World.size_alloc] at e
    exact ⟨_, e, rfl, rfl, rfl, rfl, rfl, rfl, ⟨hA.size, rfl, hA.get⟩⟩
  obtain ⟨W1, hW1⟩ : ∃ W1, ((w.alloc (.deferred (some []))).alloc (.loop { state := .ready, pending := none, fn, tmps := a.tmps, params := ps, assign, body, defers := w.heap.size })) = W1 := ⟨_, rfl⟩
  have hrun := run_enterLoop_outer (P := P) (w := w) fn a.tmps ps assign body
  rw [hW1] at hS2 hrun
  refine ⟨w.heap.size + 1, [{ target := .collected w.heap.size, args := #[] }], W1, { target := .fn (.func f) lb.toArray, args := #[.func (.yield (w.heap.size + 1)) #[] #[]] }, W1, f, #[.func (.yield (w.heap.size + 1)) #[] #[]] ++ lb.toArray, W1,
    hrun, ?_, fun _ _ => trivial, ?_, fun h => (by cases h), ?_⟩
  · simp only [resolve, hA.ev hg]
    simp [go_sem]
  · simp [invoke, go_sem, hf]
  · have hc := h (w.heap.size + 1) w.heap.size _ rfl _ (by rw [List.append_nil]; exact hS2)
    have ha : (Value.func (.yield (w.heap.size + 1)) #[] #[] :: lb).toArray = #[.func (.yield (w.heap.size + 1)) #[] #[]] ++ lb.toArray := by simp
    rw [ha] at hc
    refine callsIn_of _ (hc.mono ?_)
    rintro e w' ⟨v, H', rfl, hp, hs⟩
    rw [List.append_nil] at hs
    refine left_run (n := ⟨nn, w.heap.size :: ds, none⟩) ⟨hA.size, ?_, hA.get⟩ hp hs
    show [_] ++ a.defers = _
    rw [hA.defers]
    rfl
theorem run_enterLoop_inner {P : Program} {w : World} {l : Nat} {r : Loop} (h : w.heap[l]? = some (.loop r)) (fn : FuncId) (tmps : Array Value) (ps : Array Tmp) (assign body : Code) :
    (Instr.enterLoop fn tmps ps assign body (some l)).run P w = .ok (w.heap.size, []) (w.alloc (.loop { state := .ready, pending := none, fn, tmps, params := ps, assign, body, defers := r.defers })) := by
  unfold Instr.enterLoop
  simp only [Sem.run_bind, run_getLoop h, run_newObj_alloc, Result.andThen, Sem.run_pure]
/-- A range over a function, within a round of the loop l'. -/
theorem CT.rangeN {g : Operand} {ps : Array Tmp} {assign body : Code} {f : FuncId} {lb : List Value} {l' : Nat} {st : LoopState} {pe : Option Code} {x : Lp} (hro : n.ro = some l') (hs : Sel H (Lo l' st pe x) R) (hg : ev E g = some (.func (.func f) #[] lb.toArray)) (hf : ∀ args w, (callFunc f args).run P w = .ok (.enter f args) w)
    (h : ∀ l y, y = (⟨n.n, E, ps, assign, body, x.D⟩ : Lp) → Sp B P f (.func (.yield l) #[] #[] :: lb) [] (Lo l .ready none y :: H) (fun v H' => Lft B P n l y E Q H')) :
    CT B P n (.rangeFunc g ps assign body) E H Q := by
  obtain ⟨nn, ds, ro⟩ := n
  cases hro
  intro a w hA hS
  obtain ⟨r, h1, _, _, _, _, _, h7, _⟩ := Lo.at_ hS hs
  refine wpIn_rangeFunc fun fn _ => ?_
  have hS2 : Sat B (Lo w.heap.size .ready none ⟨nn, E, ps, assign, body, x.D⟩ :: H) (w.alloc (.loop { state := .ready, pending := none, fn, tmps := a.tmps, params := ps, assign, body, defers := r.defers })) := by
    refine hS.new rfl rfl rfl rfl fun h _ e => ?_
    exact ⟨_, e, rfl, rfl, rfl, rfl, rfl, h7, ⟨hA.size, rfl, hA.get⟩⟩
  obtain ⟨W1, hW1⟩ : ∃ W1, (w.alloc (.loop { state := .ready, pending := none, fn, tmps := a.tmps, params := ps, assign, body, defers := r.defers })) = W1 := ⟨_, rfl⟩
  have hrun := run_enterLoop_inner (P := P) h1 fn a.tmps ps assign body
  rw [hW1] at hS2 hrun
  refine ⟨w.heap.size, [], W1, { target := .fn (.func f) lb.toArray, args := #[.func (.yield w.heap.size) #[] #[]] }, W1, f, #[.func (.yield w.heap.size) #[] #[]] ++ lb.toArray, W1,
    hrun, ?_, fun _ _ => trivial, ?_, fun h => (by cases h), ?_⟩
  · simp only [resolve, hA.ev hg]
    simp [go_sem]
  · simp [invoke, go_sem, hf]
  · have hc := h w.heap.size _ rfl _ (by rw [List.append_nil]; exact hS2)
    have ha : (Value.func (.yield w.heap.size) #[] #[] :: lb).toArray = #[.func (.yield w.heap.size) #[] #[]] ++ lb.toArray := by simp
    rw [ha] at hc
    refine callsIn_of _ (hc.mono ?_)
    rintro e w' ⟨v, H', rfl, hp, hs⟩
    rw [List.append_nil] at hs
    exact left_run (n := ⟨nn, ds, some l'⟩) (a := { a with defers := [] ++ a.defers }) ⟨hA.size, hA.defers, hA.get⟩ hp hs
end
theorem Sp.weak {B : World} {P : Program} {f : FuncId} {vs : List Value} {R Pre Pre' : List HP} {Post : Value → List HP → Prop} (hm : ∀ w, Sat B (Pre ++ R) w → Sat B (Pre' ++ R) w) (h : Sp B P f vs R Pre' Post) : Sp B P f vs R Pre Post := fun w hS => h w (hm w hS)
/-! ### leaving with marks -/
def FinQM (B : World) (P : Program) (fn : Func) (R : List HP) (Post : Value → List HP → Prop) : Exit → Act → World → Prop :=
  bodyPostM Fence.wide 0 P fn fun e w' => ∃ v H', e = .returned v ∧ Post v H' ∧ Sat B (H' ++ R) w'
theorem Sp.bodyM {B : World} {P : Program} {f : FuncId} {fn : Func} {c : Code} {n : Nat} {vs : List Value} {R Pre : List HP} {Post : Value → List HP → Prop}
    (hf : P.funcs[f]? = some fn) (hb : fn.body = some c) (hn : fn.ntmps = n) (hl : vs.length ≤ n)
    (h : CT B P (.mk0 n) c (argE 0 vs) (Pre ++ R) (FinQM B P fn R Post)) : Sp B P f vs R Pre Post := by
  intro w hS
  refine callsIn_wide.1 (callsIn_of_wp_marks (n := 0) hf hb trivial (h _ w ⟨?_, rfl, fun t v e => ?_⟩ hS))
  · simp [hn]; omega
  · obtain ⟨_, e'⟩ := argE_lk vs 0 t v e
    have : t < vs.length := (List.getElem?_eq_some_iff.1 (by simpa using e')).1
    rw [Array.getElem?_append_left (by simpa using this)]
    simpa using e'
section
variable {B : World} {P : Program} {E : Env} {H H1 R : List HP} {fn : Func} {Post : Value → List HP → Prop} {nn : Nat}
theorem leaves_marks {tmps : Array Value} {RR : Ending → World → Prop} : ∀ (ds : List Nat) (w : World), Sat B (ds.map Df ++ H1) w → (∀ w, Sat B H1 w → ∃ v, (results fn tmps).run P w = .ok v w ∧ RR (.returned v) w) →
    LeavesInM Fence.wide 0 P fn tmps RR (ds.map fun D => { target := .collected D, args := #[] }) .returning w
  | [], w, hS, hk => hk w hS
  | D :: ds, w, hS, hk => by
    have h1 := Df.at_ hS .h
    have hlt : D < w.heap.size := (Array.getElem?_eq_some_iff.1 h1).1
    refine ⟨fun h => (by cases h), .inl ⟨D, _, rfl, run_takeDeferred h1, leaves_marks ds _ ?_ hk⟩⟩
    exact (hS.upd (w' := w.putObj D (.deferred none)) (p' := fun _ => True) .h (o' := .deferred none) (b := D) (fun h e => ⟨_, e⟩) (fun _ _ _ _ _ => trivial) rfl rfl rfl World.putObj_size (World.putObj_heap_same hlt) (fun x hx => World.putObj_heap_other hx)).tail
theorem AtQ.finM {ds : List Nat} {v : Value} {H' : List HP} (hs : ∀ w, Sat B H w → Sat B (ds.map Df ++ H1) w) (hres : ∀ a w, Agr ⟨nn, ds, none⟩ E a → Sat B H1 w → (results fn a.tmps).run P w = .ok v w)
    (hp : Post v H') (hs1 : ∀ w, Sat B H1 w → Sat B (H' ++ R) w) {ex : Exit} (hex : ex = .normal ∨ ex = .ret) : AtQ B ⟨nn, ds, none⟩ E H (FinQM B P fn R Post) ex := by
  intro a w hA hS
  have : LeavesInM Fence.wide 0 P fn a.tmps (fun e w' => ∃ v H', e = .returned v ∧ Post v H' ∧ Sat B (H' ++ R) w') a.defers .returning w := by
    rw [hA.defers]
    exact leaves_marks ds w (hs w hS) fun w' hS' => ⟨v, hres a w' hA hS', v, H', rfl, hp, hs1 w' hS'⟩
  rcases hex with rfl | rfl <;> exact this
/-- The result lies in a variable's cell. -/
theorem res_cell {P : Program} (T : Tab P) {t ty b e : Nat} {v : Value} {R2 : List HP} {n : Fm} (hr : fn.results = #[.cell t ty]) (he : lk E t = some (.pointer (some ⟨b, 0, none⟩))) (ht : al T.szs ty = some (1, false)) (hs : Sel H1 (Cs b e [v]) R2) :
    ∀ a w, Agr n E a → Sat B H1 w → (results fn a.tmps).run P w = .ok v w := fun a w hA hS => by
  have hg : a.tmps.getD t undef = .pointer (some ⟨b, 0, none⟩) := by simp [Array.getD_eq_getD_getElem?, hA.get t _ he]
  have hc : w.cell? ⟨b, 0, none⟩ = some v := (cs_cell (hS.cs hs).1 0).trans rfl
  have hl : (loadVar ty ⟨b, 0, none⟩).run P w = .ok v w := by
    simp only [loadVar, Sem.run_bind, run_isAggB (T.sz ht).2, Result.andThen_ok]
    simp [load, Sem.run, hc]
  unfold results
  rw [hr]
  simp only [List.mapM_toArray, List.mapM_cons, List.mapM_nil, hg, asAddr, Sem.run_bind, Sem.run_pure, Result.andThen_ok, bind_assoc, pure_bind, map_eq_pure_bind, Sem.run_map, hl]
  rfl
theorem AtQ.finC {P : Program} (T : Tab P) {t ty b e : Nat} {v u : Value} {R2 HH : List HP} (hr : fn.results = #[.cell t ty]) (he : lk E t = some (.pointer (some ⟨b, 0, none⟩))) (ht : al T.szs ty = some (1, false)) (hsel : Sel H (Cs b e [v]) R2) (hv : v = u) (hs : ∀ w, Sat B H w → Sat B (HH ++ R) w) {ex : Exit} (hex : ex = .normal ∨ ex = .ret) :
    AtQ B (.mk0 nn) E H (FinQM B P fn R (fun u' H' => u' = u ∧ H' = HH)) ex := AtQ.finM (ds := []) (H1 := H) (fun _ h => h) (res_cell T hr he ht hsel) ⟨hv, rfl⟩ hs hex
theorem AtQ.finMC {P : Program} (T : Tab P) {ds : List Nat} {t ty b e : Nat} {v u : Value} {R2 HH : List HP} (hr : fn.results = #[.cell t ty]) (f : Fr H (ds.map Df) H1) (he : lk E t = some (.pointer (some ⟨b, 0, none⟩))) (ht : al T.szs ty = some (1, false)) (hsel : Sel H1 (Cs b e [v]) R2) (hv : v = u) (hs : ∀ w, Sat B H1 w → Sat B (HH ++ R) w) {ex : Exit} (hex : ex = .normal ∨ ex = .ret) :
    AtQ B ⟨nn, ds, none⟩ E H (FinQM B P fn R (fun u' H' => u' = u ∧ H' = HH)) ex := AtQ.finM (H1 := H1) (fun _ h => h.fr f) (res_cell T hr he ht hsel) ⟨hv, rfl⟩ hs hex
end
end Go.Sk
end
section
/- Loops and joints whose states bear marks; functions as values. Plain theorems, no condition. -/
namespace Go.Sk
open Go.RowKit
section
variable {B : World} {P : Program} {n : Fm} {E : Env} {H : List HP} {Q : Exit → Act → World → Prop} {c : Code}
def LoopM {α : Type} (B : World) (nf : α → Fm) (f : α → Env) (g : α → List HP) (μ : α → Nat) (x : α) (Q : Exit → Act → World → Prop) : Exit → Act → World → Prop :=
  Exit.then (fun a w => ∃ y, Agr (nf y) (f y) a ∧ Sat B (g y) w ∧ μ y < μ x) Q
theorem AtQ.loopM {α : Type} {nf : α → Fm} {f : α → Env} {g : α → List HP} {μ : α → Nat} {x : α} (y : α) (hn : n = nf y) (hE : subB E (f y)) (hH : ∀ w, Sat B H w → Sat B (g y) w) (hμ : μ y < μ x) : AtQ B n E H (LoopM B nf f g μ x Q) .normal :=
  fun _ w hA hS => ⟨y, by rw [← hn]; exact hA.sub hE.sub, hH w hS, hμ⟩
theorem AtQ.loopM_exit {α : Type} {nf : α → Fm} {f : α → Env} {g : α → List HP} {μ : α → Nat} {x : α} {id : Nat} (h : AtQ B n E H Q (.exit id)) : AtQ B n E H (LoopM B nf f g μ x Q) (.exit id) := h
theorem AA {α : Type} {nf : α → Fm} {f : α → Env} {g : α → List HP} {μ : α → Nat} {x : α} {id : Nat} (h : AtQ B n E H Q (.exit id)) : AtQ B n E H (LoopM B nf f g μ x Q) (.exit id) := AtQ.loopM_exit h
instance {α : Type} {nf : α → Fm} {f : α → Env} {g : α → List HP} {μ : α → Nat} {x : α} {id : Nat} : Nx (AtQ B n E H (LoopM B nf f g μ x Q) (.exit id)) (AtQ B n E H Q (.exit id)) := ⟨AA⟩
theorem AtQ.loopM_ret {α : Type} {nf : α → Fm} {f : α → Env} {g : α → List HP} {μ : α → Nat} {x : α} (h : AtQ B n E H Q .ret) : AtQ B n E H (LoopM B nf f g μ x Q) .ret := h
theorem AB {α : Type} {nf : α → Fm} {f : α → Env} {g : α → List HP} {μ : α → Nat} {x : α} (h : AtQ B n E H Q .ret) : AtQ B n E H (LoopM B nf f g μ x Q) .ret := AtQ.loopM_ret h
instance {α : Type} {nf : α → Fm} {f : α → Env} {g : α → List HP} {μ : α → Nat} {x : α} : Nx (AtQ B n E H (LoopM B nf f g μ x Q) .ret) (AtQ B n E H Q .ret) := ⟨AB⟩
def CutM {α : Sort _} (B : World) (nf : α → Fm) (f : α → Env) (g : α → List HP) (Q : Exit → Act → World → Prop) : Exit → Act → World → Prop := Exit.then (fun a w => ∃ x, Agr (nf x) (f x) a ∧ Sat B (g x) w) Q
theorem AtQ.cutM {α : Sort _} {nf : α → Fm} {f : α → Env} {g : α → List HP} (y : α) (hn : n = nf y) (hE : subB E (f y)) (hH : ∀ w, Sat B H w → Sat B (g y) w) : AtQ B n E H (CutM B nf f g Q) .normal :=
  fun _ w hA hS => ⟨y, by rw [← hn]; exact hA.sub hE.sub, hH w hS⟩
theorem AtQ.cutM_exit {α : Sort _} {nf : α → Fm} {f : α → Env} {g : α → List HP} {id : Nat} (h : AtQ B n E H Q (.exit id)) : AtQ B n E H (CutM B nf f g Q) (.exit id) := h
theorem AC {α : Sort _} {nf : α → Fm} {f : α → Env} {g : α → List HP} {id : Nat} (h : AtQ B n E H Q (.exit id)) : AtQ B n E H (CutM B nf f g Q) (.exit id) := AtQ.cutM_exit h
instance {α : Sort _} {nf : α → Fm} {f : α → Env} {g : α → List HP} {id : Nat} : Nx (AtQ B n E H (CutM B nf f g Q) (.exit id)) (AtQ B n E H Q (.exit id)) := ⟨AC⟩
theorem AtQ.cutM_ret {α : Sort _} {nf : α → Fm} {f : α → Env} {g : α → List HP} (h : AtQ B n E H Q .ret) : AtQ B n E H (CutM B nf f g Q) .ret := h
theorem AD {α : Sort _} {nf : α → Fm} {f : α → Env} {g : α → List HP} (h : AtQ B n E H Q .ret) : AtQ B n E H (CutM B nf f g Q) .ret := AtQ.cutM_ret h
instance {α : Sort _} {nf : α → Fm} {f : α → Env} {g : α → List HP} : Nx (AtQ B n E H (CutM B nf f g Q) .ret) (AtQ B n E H Q .ret) := ⟨AD⟩
theorem CT.loopM {α : Type} (nf : α → Fm) (f : α → Env) (g : α → List HP) (μ : α → Nat) (x0 : α) (hn : n = nf x0) (hro : ∀ x, (nf x).ro = n.ro) (hE : subB E (f x0)) (hH : ∀ w, Sat B H w → Sat B (g x0) w)
    (round : ∀ x, CT B P (nf x) c (f x) (g x) (LoopM B nf f g μ x Q)) : CT B P n (.loop c) E H Q := by
  classical
  intro a w hA hS
  let S : Act → World → Nat → Prop := fun a w k => ∃ x, Agr (nf x) (f x) a ∧ Sat B (g x) w ∧ μ x = k
  let I : Act → World → Prop := fun a w => ∃ k, S a w k
  let M : Act → World → Nat := fun a w => if h : ∃ k, S a w k then Classical.choose (least_ h) else 0
  refine wpIn_loop I M ⟨_, x0, by rw [← hn]; exact hA.sub hE.sub, hH w hS, rfl⟩ ?_
  intro a w hI
  have hM : M a w = Classical.choose (least_ hI) := by simp only [M]; rw [dif_pos hI]
  obtain ⟨x, hx, hs, hk⟩ := (Classical.choose_spec (least_ hI)).1
  have hr := round x a w hx hs
  rw [Fm.fence_eq (hro x)] at hr
  refine wpIn_mono hr ?_
  intro e a' w' hq
  cases e <;> try exact hq
  obtain ⟨y, hy, hs', hlt⟩ := hq
  have hI' : ∃ k, S a' w' k := ⟨_, y, hy, hs', rfl⟩
  refine ⟨hI', ?_⟩
  have h1 : M a' w' = Classical.choose (least_ hI') := by simp only [M]; rw [dif_pos hI']
  have h2 : Classical.choose (least_ hI') ≤ μ y := (Classical.choose_spec (least_ hI')).2 _ ⟨y, hy, hs', rfl⟩
  omega
/-- The ways through c meet again in the states x, with marks of their own. -/
theorem CT.cutM {α : Sort _} (nf : α → Fm) (f : α → Env) (g : α → List HP) (hc : CT B P n c E H (CutM B nf f g Q)) (hk : ∀ x, AtQ B (nf x) (f x) (g x) Q .normal) : CT B P n c E H Q := by
  intro a w hA hS
  refine wpIn_mono (hc a w hA hS) ?_
  intro e a' w' hq
  cases e <;> try exact hq
  obtain ⟨x, hx, hs⟩ := hq
  exact hk x a' w' hx hs
end
section
variable {B : World} {P : Program} {n : Fm} {m : Bool} {l0 rest : List Oper} {E : Env} {H R : List HP} {Q : Exit → Act → World → Prop} (T : Tab P) {d : Nat} {ty t t' : TypeId} {pos : String} {af : Array Edge} {g : Option (Nat × Bool)} {x y : Operand}
theorem calls_at {f : FuncId} {bb : Bool} (h : al T.funs f = some bb) : ∀ args w, (callFunc f args).run P w = .ok (.enter f args) w := fun args w => T.funs_ok (f, bb) (al_mem h) args w
theorem RT.mkF {fn : Fn} {xs : List Operand} {vs : List Value} (hv : evs E xs = some vs) (hw : wt l0 E g = some true) (hd : Nat.blt d n.n = true)
    (k : RT B P n m l0 rest ((d, .func fn #[] vs.toArray) :: E) H Q) : RT B P n m l0 (⟨some d, .makeFunc fn #[] xs.toArray, ty, pos, af, g⟩ :: rest) E H Q := by
  have hy2 : Yld B P n E H (.makeFunc fn #[] xs.toArray) ty (.func fn #[] vs.toArray) := y_run fun o aa w ho _ hA _ => by
    have hm : xs.map aa.eval = vs := hA.evs hv
    unfold execOp
    simp only [ho, Instr.makeFunc, List.map_toArray, hm, Sem.run_bind, Sem.run_pure, Result.andThen_ok]
    rfl
  exact RT.y hw (by simpa [Nat.blt_eq] using hd) hy2 k
theorem knd_func {t : Nat} (h : knd P t = some 5) : ∃ ps rs v, P.underlying t = some (.func ps rs v) := by
  unfold knd at h
  split at h
  · split at h <;> simp at h
  all_goals first | (rename_i a b c hu; exact ⟨a, b, c, hu⟩) | (simp at h; done) | cases h
theorem run_fnil {w : World} {t : TypeId} {ps rs : Array TypeId} {v : Bool} (hu : P.underlying t = some (.func ps rs v)) (f : Fn) (a b : Array Value) : (Op.equal t (.func f a b) .nilFunc).run P w = .ok false w :=
  run_eqv fun d => by simp only [Op.equalIn, Sem.run_bind, run_underlying hu, Result.andThen_ok]; rfl
theorem RT.fnil {f : Fn} {a b : Array Value} (hx : ev E x = some (.func f a b)) (hy : ev E y = some .nilFunc) (ht : al T.kinds t = some 5) (hw : wt l0 E g = some true) (hd : Nat.blt d n.n = true)
    (k1 : RT B P n m l0 rest ((d, .bool false) :: E) H Q) : RT B P n m l0 (⟨some d, .binOp .eql t x y t', ty, pos, af, g⟩ :: rest) E H Q := by
  have hy2 : Yld B P n E H (.binOp .eql t x y t') ty (.bool false) := y_run fun o aa w ho _ hA _ => by
    obtain ⟨ps, rs, v, hu⟩ := knd_func (T.kind ht)
    have h1 : binOp .eql t (.func f a b) .nilFunc = (do pure (.bool (← Op.equal t (.func f a b) .nilFunc))) := rfl
    have h2 : eqGuard .eql t x y (.func f a b) .nilFunc = pure () := rfl
    unfold execOp
    simp only [ho, hA.ev hx, hA.ev hy, h1, h2, Sem.run_bind, Sem.run_pure, Result.andThen_ok, run_fnil hu]
  exact RT.y hw (by simpa [Nat.blt_eq] using hd) hy2 k1
end
end Go.Sk
end
section
/- Marks behind other pieces. Plain theorems, no condition. -/
namespace Go.Sk
open Go.RowKit
theorem star_mid {a : HP} : ∀ (M R : List HP) (h : PH), star (a :: (M ++ R)) h → star (M ++ (a :: R)) h
  | [], _, _, s => s
  | _ :: M, R, _, s => star_cons_mono (fun h => star_mid M R h) (star_swap s)
theorem star_marks (M R : List HP) : ∀ (A : List HP) (h : PH), star (A ++ (M ++ R)) h → star (M ++ (A ++ R)) h
  | [], _, s => s
  | a :: A, h, s => star_mid M (A ++ R) h (star_cons_mono (fun h => star_marks M R A h) s)
theorem Sat.marks {B : World} {w : World} {A M R : List HP} (h : Sat B (A ++ (M ++ R)) w) : Sat B (M ++ (A ++ R)) w := h.mono (star_marks M R A)
end Go.Sk
end
section
/- Bytes of a text: a new row that is only read. Plain theorems, no condition. -/
namespace Go.Sk
open Go.RowKit
section
variable {B : World} {P : Program} {n : Fm} {l0 rest : List Oper} {E : Env} {H R : List HP} {Q : Exit → Act → World → Prop} (T : Tab P) {d : Nat} {ty t t' : TypeId} {pos : String} {af : Array Edge} {g : Option (Nat × Bool)} {x y : Operand}
theorem RT.convSB {e : TypeId} {l : List Int} (hx : ev E x = some (.string (str l))) (hb : Byt l) (ht : al T.kinds t = some 2) (hs : P.underlying t' = some (.slice e)) (he : P.underlying e = some (.int .u8)) (hw : wt l0 E g = some true) (hd : Nat.blt d n.n = true)
    (kt : ∀ a c, l.length ≤ c → RT B P n true l0 rest ((d, .slice a l.length c) :: E) (Ro a (ints .u8 l) :: H) Q) : RT B P n true l0 (⟨some d, .convert t t' x, ty, pos, af, g⟩ :: rest) E H Q :=
  RT.eff hw fun o aa w K ho hty hdd hA hS hK => by
    have hrun := run_bytes_of_string (P := P) w t t' e (str l) (knd_string (T.kind ht)) hs he
    have hsz : (str l).size = l.length := str_size l
    rw [hsz] at hrun
    have hge := grownCap_ge w l.length 0 e
    have hrow : (bytesRow (str l) (grownCap w l.length 0 e)).toList.take (ints .u8 l).length = ints .u8 l := by
      have h1 : (bytesRow (str l) (grownCap w l.length 0 e)).toList = ints .u8 l ++ List.replicate (grownCap w l.length 0 e - (str l).size) (.int .u8 0) := by
        unfold bytesRow
        rw [Array.toList_append, Array.toList_map, Array.toList_replicate]
        congr 1
        exact strCells_str hb
      rw [h1, List.take_left]
    unfold Oper.wp execOp
    simp only [ho, hA.ev hx, Sem.run_bind, hrun, Result.andThen_ok, Sem.run_pure]
    simp only [Oper.upon, hdd]
    exact hK _ _ (kt _ _ hge _ _ (hA.put (by simpa [Nat.blt_eq] using hd) _) (hS.new rfl rfl rfl rfl fun h _ hb => ⟨_, _, _, _, rfl, hb, hrow⟩))
end
end Go.Sk
end
section
/- Characters: their bytes; bits of bytes; a number turned into a text. Plain theorems, no condition. -/
namespace Go.Sk
open Go.RowKit
def validR (n : Int) : Prop := (0 ≤ n ∧ n < 55296) ∨ (57344 ≤ n ∧ n ≤ 1114111)
instance (n : Int) : Decidable (validR n) := inferInstanceAs (Decidable (_ ∨ _))
/-- The bytes of a character; those of U+FFFD: there is none of this number. -/
def chrL (n : Int) : List Int :=
  if validR n then
    if n < 128 then [n] else if n < 2048 then [192 + n / 64, 128 + n % 64]
    else if n < 65536 then [224 + n / 4096, 128 + n / 64 % 64, 128 + n % 64] else [240 + n / 262144, 128 + n / 4096 % 64, 128 + n / 64 % 64, 128 + n % 64]
  else [239, 191, 189]
theorem chrL_byt (n : Int) : Byt (chrL n) := by
  unfold chrL
  split
  · rename_i h
    have h : (0 ≤ n ∧ n < 55296) ∨ (57344 ≤ n ∧ n ≤ 1114111) := h
    split
    · exact Byt.one ⟨by omega, by omega⟩
    · split
      · exact Byt.cons ⟨by omega, by omega⟩ (Byt.one ⟨by omega, by omega⟩)
      · split
        · exact Byt.cons ⟨by omega, by omega⟩ (Byt.cons ⟨by omega, by omega⟩ (Byt.one ⟨by omega, by omega⟩))
        · exact Byt.cons ⟨by omega, by omega⟩ (Byt.cons ⟨by omega, by omega⟩ (Byt.cons ⟨by omega, by omega⟩ (Byt.one ⟨by omega, by omega⟩)))
  · decide
theorem chrL_len (n : Int) : 0 < (chrL n).length ∧ (chrL n).length ≤ 4 := by
  unfold chrL
  repeat' split
  all_goals simp
theorem b8_cast (k : Nat) {x : Int} (h : x = k) : UInt8.ofNat k = b8 x := by subst h; unfold b8; rw [Int.toNat_natCast]
theorem encode_chr (n : Int) : Utf8.encode n = str (chrL n) := by
  unfold Utf8.encode chrL
  by_cases hv : validR n
  · have hv2 : (0 ≤ n ∧ n < 55296) ∨ (57344 ≤ n ∧ n ≤ 1114111) := hv
    have h1 : Utf8.valid n = true := by unfold Utf8.valid; simp only [Bool.or_eq_true, Bool.and_eq_true, decide_eq_true_eq]; exact hv2
    rw [if_pos hv]
    simp only [h1, if_true]
    obtain ⟨k, rfl⟩ : ∃ k : Nat, n = k := ⟨n.toNat, by omega⟩
    rw [Int.toNat_natCast]
    by_cases c1 : k < 128
    · rw [if_pos c1, if_pos (by omega)]
      simp only [str, List.map_cons, List.map_nil]
      rw [b8_cast k rfl]
    · rw [if_neg c1, if_neg (show ¬ (k : Int) < 128 by omega)]
      by_cases c2 : k < 2048
      · rw [if_pos c2, if_pos (by omega)]
        simp only [str, List.map_cons, List.map_nil]
        rw [b8_cast (192 + k / 64) (x := 192 + (k : Int) / 64) (by omega), b8_cast (128 + k % 64) (x := 128 + (k : Int) % 64) (by omega)]
      · rw [if_neg c2, if_neg (show ¬ (k : Int) < 2048 by omega)]
        by_cases c3 : k < 65536
        · rw [if_pos c3, if_pos (by omega)]
          simp only [str, List.map_cons, List.map_nil]
          rw [b8_cast (224 + k / 4096) (x := 224 + (k : Int) / 4096) (by omega), b8_cast (128 + k / 64 % 64) (x := 128 + (k : Int) / 64 % 64) (by omega), b8_cast (128 + k % 64) (x := 128 + (k : Int) % 64) (by omega)]
        · rw [if_neg c3, if_neg (show ¬ (k : Int) < 65536 by omega)]
          simp only [str, List.map_cons, List.map_nil]
          rw [b8_cast (240 + k / 262144) (x := 240 + (k : Int) / 262144) (by omega), b8_cast (128 + k / 4096 % 64) (x := 128 + (k : Int) / 4096 % 64) (by omega), b8_cast (128 + k / 64 % 64) (x := 128 + (k : Int) / 64 % 64) (by omega), b8_cast (128 + k % 64) (x := 128 + (k : Int) % 64) (by omega)]
  · have h1 : Utf8.valid n = false := by
      rw [← Bool.not_eq_true]
      unfold Utf8.valid
      simp only [Bool.or_eq_true, Bool.and_eq_true, decide_eq_true_eq]
      exact hv
    rw [if_neg hv]
    simp only [h1, Bool.false_eq_true, if_false]
    rfl
theorem or_u8 {a b : Int} (j : Nat) (h0 : 0 ≤ a) (h1 : 0 ≤ b) (h2 : b < 2 ^ j) (h3 : a * 2 ^ j + b < 256) {x r : Int} (hx : x = a * 2 ^ j) (hr : a * 2 ^ j + b = r) : IntKind.u8.wrap (((BitVec.ofInt IntKind.u8.bits x ||| BitVec.ofInt IntKind.u8.bits b).toNat : Nat) : Int) = r := by
  subst hx
  have h : ((BitVec.ofInt 8 (a * 2 ^ j) ||| BitVec.ofInt 8 b).toNat : Int) = a * 2 ^ j + b := or_nat h0 h1 h2 (by omega)
  show IntKind.u8.wrap (((BitVec.ofInt 8 (a * 2 ^ j) ||| BitVec.ofInt 8 b).toNat : Nat) : Int) = r
  rw [h, hr]
  have : 0 ≤ a * 2 ^ j := Int.mul_nonneg h0 (Int.le_of_lt (Int.pow_pos (by decide)))
  exact wr_u8 (by omega) (by omega)
section
variable {B : World} {P : Program} {n : Fm} {m : Bool} {l0 rest : List Oper} {E : Env} {H : List HP} {Q : Exit → Act → World → Prop} (T : Tab P) {d : Nat} {ty t t' : TypeId} {pos : String} {af : Array Edge} {g : Option (Nat × Bool)} {x y : Operand}
/-- string(r) of a character's number. -/
theorem RT.convIS {k k0 : IntKind} {i : Int} (hx : ev E x = some (.int k i)) (hs : al T.ints t = some k0) (ht : al T.kinds t' = some 2) (hw : wt l0 E g = some true) (hd : Nat.blt d n.n = true)
    (kt : RT B P n m l0 rest ((d, .string (str (chrL i))) :: E) H Q) : RT B P n m l0 (⟨some d, .convert t t' x, ty, pos, af, g⟩ :: rest) E H Q := by
  have hy2 : Yld B P n E H (.convert t t' x) ty (.string (str (chrL i))) := y_run fun o aa w ho _ hA _ => by
    have hrun : (convert t t' (.int k i)).run P w = .ok (.string (str (chrL i))) w := by
      simp only [convert, Sem.run_bind, run_underlying (intB_spec (T.int hs)), run_underlying (knd_string (T.kind ht)), Result.andThen_ok]
      rw [← encode_chr]
      rfl
    unfold execOp
    simp only [ho, hA.ev hx, Sem.run_bind, hrun, Result.andThen_ok, Sem.run_pure]
  exact RT.y hw (by simpa [Nat.blt_eq] using hd) hy2 kt
end
end Go.Sk
end
section
/- Regions whose order is open, of operations that each hand back a value and lay down pieces of their own: whatever order is drawn, the same is there at the end. Plain theorems, no condition. -/
namespace Go.Sk
open Go.RowKit
theorem star_perm {H H' : List HP} (p : H.Perm H') : ∀ h, star H h → star H' h := by
  induction p with
  | nil => exact fun _ h => h
  | cons x _ ih => exact fun h hs => star_cons_mono ih hs
  | swap x y l => exact fun h hs => star_swap hs
  | trans _ _ i1 i2 => exact fun h hs => i2 h (i1 h hs)
theorem flat_not {α : Type _} {i : Nat} {f f' : Nat → List α} (h3 : ∀ j, j ≠ i → f' j = f j) : ∀ L : List Nat, i ∉ L → L.flatMap f' = L.flatMap f
  | [], _ => rfl
  | j :: L, h => by
    rw [List.flatMap_cons, List.flatMap_cons, h3 j (fun e => h (by simp [e])), flat_not h3 L (fun e => h (by simp [e]))]
theorem flat_ins {α : Type _} {i : Nat} {g : List α} {f f' : Nat → List α} (h1 : f i = []) (h2 : f' i = g) (h3 : ∀ j, j ≠ i → f' j = f j) : ∀ L : List Nat, L.Nodup → i ∈ L → (g ++ L.flatMap f).Perm (L.flatMap f')
  | [], _, h => by cases h
  | j :: L, hn, h => by
    rw [List.nodup_cons] at hn
    rw [List.flatMap_cons, List.flatMap_cons]
    by_cases hj : j = i
    · subst hj
      rw [h1, h2, flat_not h3 L hn.1, List.nil_append]
    · rw [h3 j hj]
      have ih := flat_ins h1 h2 h3 L hn.2 ((List.mem_cons.1 h).resolve_left fun e => hj e.symm)
      rw [← List.append_assoc]
      refine (List.Perm.append_right _ (List.perm_append_comm)).trans ?_
      rw [List.append_assoc]
      exact List.Perm.append_left _ ih
theorem lk_append : ∀ (A C : Env) (t : Nat), lk (A ++ C) t = match lk A t with | some v => some v | none => lk C t
  | [], C, t => rfl
  | (s, v) :: A, C, t => by
    show (bif Nat.beq s t then some v else lk (A ++ C) t) = _
    rw [lk]
    cases Nat.beq s t with
    | true => rfl
    | false => exact lk_append A C t
def snapL : List Value → Nat → Env
  | [], _ => []
  | v :: vs, k => (k, v) :: snapL vs (k + 1)
theorem lk_snapL : ∀ (vs : List Value) (k t : Nat), k ≤ t → lk (snapL vs k) t = vs[t - k]?
  | [], k, t, _ => by simp [snapL, lk]
  | v :: vs, k, t, h => by
    rw [snapL, lk]
    by_cases hk : k = t
    · subst hk
      simp
    · have hb : Nat.beq k t = false := by cases hx : Nat.beq k t with
        | true => exact absurd (Nat.eq_of_beq_eq_true hx) hk
        | false => rfl
      rw [hb, cond_false, lk_snapL vs (k + 1) t (by omega), show t - k = (t - (k + 1)) + 1 by omega, List.getElem?_cons_succ]
def snap (a : Act) : Env := snapL a.tmps.toList 0
theorem lk_snap (a : Act) (t : Nat) : lk (snap a) t = a.tmps[t]? := by
  unfold snap
  rw [lk_snapL _ _ _ (Nat.zero_le _)]
  simp
theorem lk_map {D V : Nat → Value} {d : Nat → Nat} {t : Nat} {v : Value} : ∀ {L : List Nat}, lk (L.map fun j => (d j, V j)) t = some v → ∃ j ∈ L, t = d j ∧ v = V j
  | [], h => by cases h
  | j :: L, h => by
    rw [List.map_cons, lk] at h
    cases hb : Nat.beq (d j) t with
    | true => rw [hb] at h; cases h; exact ⟨j, by simp, (Nat.eq_of_beq_eq_true hb).symm, rfl⟩
    | false =>
      rw [hb] at h
      obtain ⟨i, h1, h2⟩ := lk_map (D := D) (L := L) h
      exact ⟨i, by simp [h1], h2⟩
/-- What is asked of one operation: its slot; which others it reads; what it hands back and lays down. -/
structure SpO where
  d : Nat
  deps : List Nat
  rel : List Value → Value → List HP → Prop
  ok : Value → Prop := fun _ => True
def dAt (S : List SpO) (i : Nat) : Nat := ((S[i]?).map SpO.d).getD 0
def depE (S : List SpO) (s : SpO) (V : Nat → Value) : Env := s.deps.map fun j => (dAt S j, V j)
/-- Behind one operation. -/
def OneQ (B : World) (n : Fm) (d : Nat) (Y : Env) (H : List HP) (rel : Value → List HP → Prop) : Exit → Act → World → Prop := fun ex a w =>
  ex = .normal ∧ ∃ v Ps, rel v Ps ∧ Agr n ((d, v) :: Y) a ∧ Sat B (Ps ++ H) w
theorem AtQ.one {B : World} {n : Fm} {d : Nat} {Y : Env} {H H1 : List HP} {rel : Value → List HP → Prop} {v : Value} (Ps : List HP) (hr : rel v Ps) (hH : ∀ w, Sat B H1 w → Sat B (Ps ++ H) w) :
    AtQ B n ((d, v) :: Y) H1 (OneQ B n d Y H rel) .normal := fun _ w hA hS => ⟨rfl, v, Ps, hr, hA, hH w hS⟩
/-- Each operation does what is asked of it. -/
def Steps (B : World) (P : Program) (n : Fm) (l : List Oper) (S : List SpO) (E : Env) : List SpO → List Oper → Prop
  | [], [] => True
  | s :: ss, o :: os => (∀ (V : Nat → Value) (X : Env) (H : List HP), RT B P n true l [o] (depE S s V ++ (E ++ X)) H (OneQ B n s.d (depE S s V ++ (E ++ X)) H (s.rel (s.deps.map V)))) ∧ Steps B P n l S E ss os
  | _, _ => False
theorem Steps.at {B : World} {P : Program} {n : Fm} {l : List Oper} {S : List SpO} {E : Env} : ∀ {ss : List SpO} {os : List Oper} {i : Nat} {s : SpO} {o : Oper}, Steps B P n l S E ss os → ss[i]? = some s → os[i]? = some o →
    ∀ (V : Nat → Value) (X : Env) (H : List HP), RT B P n true l [o] (depE S s V ++ (E ++ X)) H (OneQ B n s.d (depE S s V ++ (E ++ X)) H (s.rel (s.deps.map V)))
  | [], [], i, s, o, _, h1, _ => by simp at h1
  | s :: ss, o :: os, 0, s', o', h, h1, h2 => by
    simp only [List.getElem?_cons_zero, Option.some.injEq] at h1 h2
    subst h1 h2
    exact h.1
  | s :: ss, o :: os, i + 1, s', o', h, h1, h2 => by
    simp only [List.getElem?_cons_succ] at h1 h2
    exact Steps.at h.2 h1 h2
  | _ :: _, [], _, _, _, h, _, _ => False.elim h
  | [], _ :: _, _, _, _, h, _, _ => False.elim h
/-- Edges lead back. -/
def backB : Nat → List Oper → Bool
  | _, [] => true
  | k, o :: l => o.after.all (fun e => Nat.blt e.on k) && backB (k + 1) l
theorem backB_spec : ∀ {k : Nat} {l : List Oper} {i : Nat} {o : Oper}, backB k l = true → l[i]? = some o → ∀ e ∈ o.after, e.on < k + i
  | _, [], i, o, _, h2 => by simp at h2
  | k, o :: l, 0, o', h1, h2 => by
    simp only [List.getElem?_cons_zero, Option.some.injEq] at h2
    subst h2
    simp only [backB, Bool.and_eq_true] at h1
    intro e he
    have := Array.all_eq_true_iff_forall_mem.1 h1.1 e he
    simpa [Nat.blt_eq] using this
  | k, o :: l, i + 1, o', h1, h2 => by
    simp only [List.getElem?_cons_succ] at h2
    simp only [backB, Bool.and_eq_true] at h1
    intro e he
    have := backB_spec h1.2 h2 e he
    omega
/-- What an operation reads, it waits for. -/
def depsB : List SpO → List Oper → Bool
  | [], [] => true
  | s :: ss, o :: os => s.deps.all (fun j => o.after.any fun e => Nat.beq e.on j && Region.binds .any e) && depsB ss os
  | _, _ => false
theorem depsB_spec : ∀ {ss : List SpO} {os : List Oper} {i : Nat} {s : SpO} {o : Oper}, depsB ss os = true → ss[i]? = some s → os[i]? = some o → ∀ j ∈ s.deps, ∃ e ∈ o.after, e.on = j ∧ Region.binds .any e = true
  | [], [], i, s, o, _, h1, _ => by simp at h1
  | s :: ss, o :: os, 0, s', o', h, h1, h2 => by
    simp only [List.getElem?_cons_zero, Option.some.injEq] at h1 h2
    subst h1 h2
    simp only [depsB, Bool.and_eq_true] at h
    intro j hj
    have h3 := List.all_eq_true.1 h.1 j hj
    rw [Array.any_eq_true'] at h3
    obtain ⟨e, he, h4⟩ := h3
    simp only [Bool.and_eq_true] at h4
    exact ⟨e, he, Nat.eq_of_beq_eq_true h4.1, h4.2⟩
  | s :: ss, o :: os, i + 1, s', o', h, h1, h2 => by
    simp only [List.getElem?_cons_succ] at h1 h2
    simp only [depsB, Bool.and_eq_true] at h
    exact depsB_spec h.2 h1 h2
  | _ :: _, [], _, _, _, h, _, _ => by simp [depsB] at h
  | [], _ :: _, _, _, _, h, _, _ => by simp [depsB] at h
theorem all_up {l : List Oper} {ls : Array Bool} (hsz : ls.size = l.length) (hback : backB 0 l = true) (hr : Region.ready .any l.toArray ls = []) : ∀ k i, i < k → i < l.length → ls.getD i false = true
  | 0, _, h, _ => by omega
  | k + 1, i, h, hi => by
    have ih := all_up hsz hback hr k
    cases hx : ls.getD i false with
    | true => rfl
    | false =>
      exfalso
      have ho : l.toArray[i]? = some l[i] := by simp [hi]
      have hm : i ∈ Region.ready .any l.toArray ls := mem_ready.2 ⟨by
        have h1 : i < ls.size := by omega
        simp only [Array.getD, h1, dif_pos] at hx ⊢
        exact hx, l[i], ho, fun e he _ => by
        have := backB_spec hback (i := i) (o := l[i]) (by simp [hi]) e he
        exact ih e.on (by omega) (by omega)⟩
      rw [hr] at hm
      cases hm
def up (ls : Array Bool) (Ps : Nat → List HP) (i : Nat) : List HP := if ls.getD i false = true then Ps i else []
def lacks (ls : Array Bool) (i : Nat) : List Unit := if ls.getD i false = true then [] else [()]
theorem getD_set_self {ls : Array Bool} {i : Nat} (h : i < ls.size) : (ls.setIfInBounds i true).getD i false = true := by
  simp [Array.getD, h]
/-- So much having come up. -/
structure Inv (B : World) (n : Fm) (l : List Oper) (S : List SpO) (E : Env) (H : List HP) (k : Nat) (ls : Array Bool) (a : Act) (w : World) (V : Nat → Value) (Ps : Nat → List HP) : Prop where
  size : ls.size = l.length
  left : ((List.range l.length).flatMap (lacks ls)).length ≤ k
  deps : ∀ (i : Nat) (s : SpO), S[i]? = some s → ls.getD i false = true → ∀ j ∈ s.deps, ls.getD j false = true
  has : ∀ (i : Nat) (s : SpO), S[i]? = some s → ls.getD i false = true → a.tmps[s.d]? = some (V i) ∧ s.rel (s.deps.map V) (V i) (Ps i)
  env : Agr n E a
  sat : Sat B ((List.range l.length).flatMap (up ls Ps) ++ H) w
section
variable {P : Program} {B : World} {n : Fm} {E : Env} {H : List HP} {Q : Exit → Act → World → Prop}
theorem free_any {l : List Oper} {S : List SpO} (hlen : S.length = l.length) (hback : backB 0 l = true) (hdeps : depsB S l = true) (hinj : ∀ (i j : Nat) (s s' : SpO), S[i]? = some s → S[j]? = some s' → s.d = s'.d → i = j)
    (hE : ∀ (i : Nat) (s : SpO), S[i]? = some s → lk E s.d = none) (hstep : Steps B P n l S E S l)
    (fin : ∀ (V : Nat → Value) (Ps : Nat → List HP) (a : Act) (w : World), (∀ (i : Nat) (s : SpO), S[i]? = some s → a.tmps[s.d]? = some (V i) ∧ s.rel (s.deps.map V) (V i) (Ps i)) → Agr n E a → Sat B ((List.range l.length).flatMap Ps ++ H) w → Q .normal a w) :
    ∀ (k : Nat) (ls : Array Bool) (a : Act) (w : World) (V : Nat → Value) (Ps : Nat → List HP), Inv B n l S E H k ls a w V Ps → wpAny P .any l.toArray Q k ls a w := by
  have done : ∀ {k : Nat} {ls : Array Bool} {a : Act} {w : World} {V : Nat → Value} {Ps : Nat → List HP}, Inv B n l S E H k ls a w V Ps → (∀ i, i < l.length → ls.getD i false = true) → Q .normal a w := fun {k ls a w V Ps} I hall => by
    refine fin V Ps a w (fun i s hs => I.has i s hs (hall i ?_)) I.env ?_
    · obtain ⟨h1, _⟩ := List.getElem?_eq_some_iff.1 hs
      omega
    · have e : (List.range l.length).flatMap (up ls Ps) = (List.range l.length).flatMap Ps := by
        have : ∀ L : List Nat, (∀ i ∈ L, i < l.length) → L.flatMap (up ls Ps) = L.flatMap Ps := by
          intro L
          induction L with
          | nil => intro _; rfl
          | cons j L ih =>
            intro h
            rw [List.flatMap_cons, List.flatMap_cons, ih (fun i hi => h i (by simp [hi])), up, if_pos (hall j (h j (by simp)))]
        exact this _ (fun i hi => List.mem_range.1 hi)
      rw [← e]
      exact I.sat
  intro k
  induction k with
  | zero =>
    intro ls a w V Ps I
    have hall : ∀ i, i < l.length → ls.getD i false = true := by
      intro i hi
      cases hx : ls.getD i false with
      | true => rfl
      | false =>
        exfalso
        have h0 : (List.range l.length).flatMap (lacks ls) = [] := List.eq_nil_of_length_eq_zero (by have := I.left; omega)
        have := List.flatMap_eq_nil_iff.1 h0 i (List.mem_range.2 hi)
        unfold lacks at this
        rw [hx] at this
        cases this
    refine ⟨List.eq_nil_iff_forall_not_mem.2 fun i hi => ?_, done I hall⟩
    obtain ⟨h1, o, ho, _⟩ := mem_ready.1 hi
    have hil : i < l.length := by
      have := (Array.getElem?_eq_some_iff.1 ho).1
      simpa using this
    have h2 := hall i hil
    have h3 : i < ls.size := by rw [I.size]; exact hil
    simp only [Array.getD, h3, dif_pos] at h1 h2
    rw [h1] at h2
    cases h2
  | succ k ih =>
    intro ls a w V Ps I
    refine ⟨fun hr => done I fun i hi => all_up I.size hback hr (i + 1) i (by omega) hi, fun i hi => ?_⟩
    obtain ⟨hun, o, ho, haft⟩ := mem_ready.1 hi
    have hil : i < l.length := by
      have := (Array.getElem?_eq_some_iff.1 ho).1
      simpa using this
    have hls : i < ls.size := by rw [I.size]; exact hil
    have hun2 : ls.getD i false = false := by
      simp only [Array.getD, hls, dif_pos] at hun ⊢
      exact hun
    have ho2 : l[i]? = some o := by simpa using ho
    obtain ⟨s, hs⟩ : ∃ s, S[i]? = some s := ⟨S[i]'(by omega), List.getElem?_eq_getElem (by omega)⟩
    have hsd : ∀ j ∈ s.deps, ls.getD j false = true := fun j hj => by
      obtain ⟨e, he, h1, h2⟩ := depsB_spec hdeps hs ho2 j hj
      rw [← h1]
      exact haft e he h2
    have hdj : ∀ j ∈ s.deps, a.tmps[dAt S j]? = some (V j) := fun j hj => by
      have h1 := hsd j hj
      have hjl : j < l.length := by
        rcases Nat.lt_or_ge j ls.size with h | h
        · rw [I.size] at h; exact h
        · simp [Array.getD, Nat.not_lt.2 h] at h1
      have hs' : S[j]? = some (S[j]'(by omega)) := List.getElem?_eq_getElem (by omega)
      have := (I.has j _ hs' h1).1
      unfold dAt
      rw [hs']
      exact this
    have hA : Agr n (depE S s V ++ (E ++ snap a)) a := ⟨I.env.size, I.env.defers, fun t v h => by
      rw [lk_append] at h
      cases hx : lk (depE S s V) t with
      | some y =>
        rw [hx] at h
        cases h
        obtain ⟨j, hj, rfl, rfl⟩ := lk_map (D := V) hx
        exact hdj j hj
      | none =>
        rw [hx] at h
        simp only at h
        rw [lk_append] at h
        cases hy : lk E t with
        | some y => rw [hy] at h; cases h; exact I.env.get t _ hy
        | none => rw [hy] at h; simp only at h; rwa [lk_snap] at h⟩
    have h1 := (hstep.at hs ho2 V (snap a) _) a w hA I.sat
    have hnext : ∀ a' w', OneQ B n s.d (depE S s V ++ (E ++ snap a)) ((List.range l.length).flatMap (up ls Ps) ++ H) (s.rel (s.deps.map V)) .normal a' w' → wpAny P .any l.toArray Q k (ls.setIfInBounds i true) a' w' := fun a' w' h => by
      obtain ⟨_, v, Pi, hr, hA', hS'⟩ := h
      have keep : ∀ t x, t ≠ s.d → a.tmps[t]? = some x → a'.tmps[t]? = some x := fun t x ht hx => by
        obtain ⟨y, hy⟩ : ∃ y, lk (depE S s V ++ (E ++ snap a)) t = some y := by
          rw [lk_append]
          cases lk (depE S s V) t with
          | some y => exact ⟨y, rfl⟩
          | none =>
            simp only
            rw [lk_append]
            cases lk E t with
            | some y => exact ⟨y, rfl⟩
            | none => simp only; rw [lk_snap]; exact ⟨x, hx⟩
        have h2 := hA.get t y hy
        rw [hx] at h2
        cases h2
        refine hA'.get t x ?_
        rw [lk]
        have hb : Nat.beq s.d t = false := by
          cases hbb : Nat.beq s.d t with
          | true => exact absurd (Nat.eq_of_beq_eq_true hbb).symm ht
          | false => rfl
        rw [hb]
        exact hy
      have hVi : ∀ j s', S[j]? = some s' → ls.getD j false = true → s'.deps.map (fun x => if x = i then v else V x) = s'.deps.map V := fun j s' hs' hj => by
        refine List.map_congr_left fun x hx => if_neg fun e => ?_
        have := I.deps j s' hs' hj x hx
        rw [e, hun2] at this
        cases this
      have hVs : s.deps.map (fun x => if x = i then v else V x) = s.deps.map V := List.map_congr_left fun x hx => if_neg fun e => by
        have := hsd x hx
        rw [e, hun2] at this
        cases this
      refine ih (ls.setIfInBounds i true) a' w' (fun j => if j = i then v else V j) (fun j => if j = i then Pi else Ps j) ⟨by simp [I.size], ?_, ?_, ?_, ?_, ?_⟩
      · have hp := flat_ins (i := i) (g := [()]) (f := lacks (ls.setIfInBounds i true)) (f' := lacks ls) (by unfold lacks; rw [getD_set_self hls]; rfl) (by unfold lacks; rw [hun2]; rfl) (fun j hj => by unfold lacks; rw [getD_set_ne false (Ne.symm hj)]) (List.range l.length) List.nodup_range (List.mem_range.2 hil)
        have h2 := hp.length_eq
        rw [List.length_append] at h2
        have := I.left
        simp only [List.length_cons, List.length_nil] at h2
        omega
      · intro j s' hs' hj x hx
        by_cases hji : j = i
        · subst hji
          rw [hs] at hs'
          cases hs'
          exact getD_set_true (hsd x hx)
        · rw [getD_set_ne false (Ne.symm hji)] at hj
          exact getD_set_true (I.deps j s' hs' hj x hx)
      · intro j s' hs' hj
        by_cases hji : j = i
        · subst hji
          rw [hs] at hs'
          cases hs'
          rw [hVs]
          simp only [if_true]
          refine ⟨hA'.get _ _ ?_, hr⟩
          rw [lk, Nat.beq_refl]
          rfl
        · rw [getD_set_ne false (Ne.symm hji)] at hj
          obtain ⟨h2, h3⟩ := I.has j s' hs' hj
          rw [hVi j s' hs' hj]
          simp only [if_neg hji]
          exact ⟨keep _ _ (fun e => hji (hinj j i s' s hs' hs e)) h2, h3⟩
      · refine ⟨hA'.size, hA'.defers, fun t x hx => keep t x (fun e => ?_) (I.env.get t x hx)⟩
        rw [e, hE i s hs] at hx
        cases hx
      · refine hS'.mono (star_perm ?_)
        rw [← List.append_assoc]
        exact List.Perm.append_right _ (flat_ins (by unfold up; rw [hun2]; rfl) (by unfold up; rw [getD_set_self hls]; simp) (fun j hj => by unfold up; rw [getD_set_ne false (Ne.symm hj)]; simp only [if_neg hj]) (List.range l.length) List.nodup_range (List.mem_range.2 hil))
    unfold wpOp
    simp only [ho]
    unfold wpN at h1
    split at h1
    · rename_i hw
      rw [if_pos hw]
      exact .inl (wpO_mono (Q := OneQ B n s.d (depE S s V ++ (E ++ snap a)) ((List.range l.length).flatMap (up ls Ps) ++ H) (s.rel (s.deps.map V))) (fun c a w hq => by cases hq.1) (fun ⟨_, _, hq⟩ => by cases hq.1) (Oper.wp_mono (fun a' w' hk => hnext a' w' hk) h1))
    · rename_i hw
      rw [if_neg hw]
      exact hnext _ _ h1
def injB : List Nat → Bool
  | [] => true
  | d :: L => !(L.any (Nat.beq d)) && injB L
theorem injB_spec : ∀ {L : List Nat} {i j d : Nat}, injB L = true → L[i]? = some d → L[j]? = some d → i = j
  | [], _, _, _, _, h, _ => by simp at h
  | x :: L, 0, 0, _, _, _, _ => rfl
  | x :: L, 0, j + 1, d, h, h1, h2 => by
    simp only [List.getElem?_cons_zero, Option.some.injEq, List.getElem?_cons_succ] at h1 h2
    subst h1
    simp only [injB, Bool.and_eq_true, Bool.not_eq_true'] at h
    have := List.any_eq_false.1 h.1 x (List.mem_of_getElem? h2)
    exact absurd (Nat.beq_refl x) this
  | x :: L, i + 1, 0, d, h, h1, h2 => by
    simp only [List.getElem?_cons_zero, Option.some.injEq, List.getElem?_cons_succ] at h1 h2
    subst h2
    simp only [injB, Bool.and_eq_true, Bool.not_eq_true'] at h
    have := List.any_eq_false.1 h.1 x (List.mem_of_getElem? h1)
    exact absurd (Nat.beq_refl x) this
  | x :: L, i + 1, j + 1, d, h, h1, h2 => by
    simp only [List.getElem?_cons_succ] at h1 h2
    simp only [injB, Bool.and_eq_true] at h
    rw [injB_spec h.2 h1 h2]
/-- A region whose order is open: each operation by itself; at the end all of them. -/
theorem CT.free {id : Nat} {l : List Oper} (S : List SpO) (hm : P.follows .mixedOrders = true) (hlen : S.length = l.length) (hback : backB 0 l = true) (hdeps : depsB S l = true) (hinj : injB (S.map SpO.d) = true) (hE : (S.all fun s => (lk E s.d).isNone) = true)
    (hstep : Steps B P n l S E S l)
    (fin : ∀ (V : Nat → Value) (Ps : Nat → List HP), (∀ (i : Nat) (s : SpO), S[i]? = some s → s.rel (s.deps.map V) (V i) (Ps i)) → AtQ B n (((List.range l.length).map fun i => (dAt S i, V i)) ++ E) ((List.range l.length).flatMap Ps ++ H) Q .normal)
    (hro : n.ro = none := by rfl) : CT B P n (.region id l.toArray true) E H Q := by
  intro a w hA hS
  rw [Fm.wide hro]
  refine wpIn_wide.2 ?_
  refine wp_region_any hm ?_
  refine free_any (B := B) (n := n) (E := E) (H := H) hlen hback hdeps (fun i j s s' h1 h2 h3 => ?_) (fun i s hs => ?_) hstep (fun V Ps a w h1 h2 h3 => fin V Ps (fun i s hs => (h1 i s hs).2) a w ⟨h2.size, h2.defers, fun t v h => ?_⟩ h3)
    _ _ _ _ (fun _ => undef) (fun _ => []) ⟨by simp, ?_, ?_, ?_, hA, ?_⟩
  · refine injB_spec (d := s.d) hinj (by rw [List.getElem?_map, h1]; rfl) (by rw [List.getElem?_map, h2, h3]; rfl)
  · have := List.all_eq_true.1 hE s (List.mem_of_getElem? hs)
    simpa using this
  · rw [lk_append] at h
    cases hx : lk ((List.range l.length).map fun i => (dAt S i, V i)) t with
    | some y =>
      rw [hx] at h
      cases h
      obtain ⟨j, hj, rfl, rfl⟩ := lk_map (D := V) hx
      have hjl := List.mem_range.1 hj
      have hs' : S[j]? = some (S[j]'(by omega)) := List.getElem?_eq_getElem (by omega)
      have := (h1 j _ hs').1
      unfold dAt
      rw [hs']
      exact this
    | none => rw [hx] at h; exact h2.get t v h
  · have : ∀ L : List Nat, (L.flatMap (lacks (Array.replicate l.length false))).length ≤ L.length := by
      intro L
      induction L with
      | nil => simp
      | cons j L ih =>
        rw [List.flatMap_cons, List.length_append, List.length_cons]
        unfold lacks
        split <;> simp only [List.length_nil, List.length_cons] <;> unfold lacks at ih <;> omega
    have h2 := this (List.range l.length)
    rw [List.length_range] at h2
    simpa using h2
  · intro i s hs h
    exfalso
    rcases Nat.lt_or_ge i l.length with h2 | h2 <;> simp [Array.getD, h2] at h
  · intro i s hs h
    exfalso
    rcases Nat.lt_or_ge i l.length with h2 | h2 <;> simp [Array.getD, h2] at h
  · have e : (List.range l.length).flatMap (up (Array.replicate l.length false) fun _ => []) = [] := by
      rw [List.flatMap_eq_nil_iff]
      intro i _
      unfold up
      split <;> rfl
    rw [List.size_toArray, e]
    exact hS.drawn _
end
end Go.Sk
end
section
/- As Sk31, with one operation more behind all others (as a store of what they build); what lies in the heap at the beginning may be read. Plain theorems, no condition. -/
namespace Go.Sk
open Go.RowKit
/-- Each operation does what is asked of it. -/
def okAt (S : List SpO) (j : Nat) (v : Value) : Prop := match S[j]? with | some s => s.ok v | none => True
/-- What an operation hands back, in all. -/
def SpO.all (s : SpO) (vs : List Value) (v : Value) (Ps : List HP) : Prop := s.ok v ∧ s.rel vs v Ps
def Steps2 (B : World) (P : Program) (n : Fm) (l : List Oper) (S : List SpO) (E : Env) (H : List HP) : List SpO → List Oper → Prop
  | [], _ => True
  | s :: ss, o :: os => (∀ (V : Nat → Value) (X : Env) (R : List HP), (∀ j ∈ s.deps, okAt S j (V j)) → RT B P n true l [o] (depE S s V ++ (E ++ X)) (H ++ R) (OneQ B n s.d (depE S s V ++ (E ++ X)) (H ++ R) (s.all (s.deps.map V)))) ∧ Steps2 B P n l S E H ss os
  | _, _ => False
theorem Steps2.at {B : World} {P : Program} {n : Fm} {l : List Oper} {S : List SpO} {E : Env} {H : List HP} : ∀ {ss : List SpO} {os : List Oper} {i : Nat} {s : SpO} {o : Oper}, Steps2 B P n l S E H ss os → ss[i]? = some s → os[i]? = some o →
    ∀ (V : Nat → Value) (X : Env) (R : List HP), (∀ j ∈ s.deps, okAt S j (V j)) → RT B P n true l [o] (depE S s V ++ (E ++ X)) (H ++ R) (OneQ B n s.d (depE S s V ++ (E ++ X)) (H ++ R) (s.all (s.deps.map V)))
  | [], _, i, s, o, _, h1, _ => by simp at h1
  | s :: ss, o :: os, 0, s', o', h, h1, h2 => by
    simp only [List.getElem?_cons_zero, Option.some.injEq] at h1 h2
    subst h1 h2
    exact h.1
  | s :: ss, o :: os, i + 1, s', o', h, h1, h2 => by
    simp only [List.getElem?_cons_succ] at h1 h2
    exact Steps2.at h.2 h1 h2
  | _ :: _, [], _, _, _, h, _, _ => False.elim h
/-- What an operation reads, it waits for. -/
def depsB2 : List SpO → List Oper → Bool
  | [], _ => true
  | s :: ss, o :: os => s.deps.all (fun j => o.after.any fun e => Nat.beq e.on j && Region.binds .any e) && depsB2 ss os
  | _, _ => false
theorem depsB2_spec : ∀ {ss : List SpO} {os : List Oper} {i : Nat} {s : SpO} {o : Oper}, depsB2 ss os = true → ss[i]? = some s → os[i]? = some o → ∀ j ∈ s.deps, ∃ e ∈ o.after, e.on = j ∧ Region.binds .any e = true
  | [], _, i, s, o, _, h1, _ => by simp at h1
  | s :: ss, o :: os, 0, s', o', h, h1, h2 => by
    simp only [List.getElem?_cons_zero, Option.some.injEq] at h1 h2
    subst h1 h2
    simp only [depsB2, Bool.and_eq_true] at h
    intro j hj
    have h3 := List.all_eq_true.1 h.1 j hj
    rw [Array.any_eq_true'] at h3
    obtain ⟨e, he, h4⟩ := h3
    simp only [Bool.and_eq_true] at h4
    exact ⟨e, he, Nat.eq_of_beq_eq_true h4.1, h4.2⟩
  | s :: ss, o :: os, i + 1, s', o', h, h1, h2 => by
    simp only [List.getElem?_cons_succ] at h1 h2
    simp only [depsB2, Bool.and_eq_true] at h
    exact depsB2_spec h.2 h1 h2
  | _ :: _, [], _, _, _, h, _, _ => by simp [depsB2] at h
theorem sink_rdy {ops : Array Oper} {e : Nat} {ls : Array Bool} (hc : Clos ops ls) {oe : Oper} (hoe : ops[e]? = some oe) (hre : ∀ x ∈ oe.after, Region.binds .any x = true → ls.getD x.on false = true) : ∀ (L : List Nat), sinkB ops L = true → L.getLast? = some e → ∀ i ∈ L, i ≠ e → ls.getD i false = true
  | [], _, h, _, _, _ => by cases h
  | [i], _, h, j, hj, hne => by
    simp only [List.getLast?_singleton, Option.some.injEq] at h
    simp only [List.mem_singleton] at hj
    exact absurd (hj.trans h) hne
  | i :: k :: L, hs, h, j, hj, hne => by
    simp only [sinkB, Bool.and_eq_true] at hs
    have ih := sink_rdy hc hoe hre (k :: L) (by simp only [sinkB, Bool.and_eq_true]; exact hs.2) (by rw [List.getLast?_cons_cons] at h; exact h)
    rcases List.mem_cons.1 hj with rfl | hj
    · have h1 := hs.1
      simp only [List.isEmpty_cons, Bool.false_or] at h1
      obtain ⟨y, hy, hw⟩ := List.any_eq_true.1 h1
      obtain ⟨oj, hoj, ed, hed, hb, heq⟩ := Region.waitsFor_spec hw
      by_cases hye : y = e
      · subst hye
        rw [hoe] at hoj
        cases hoj
        have := hre ed hed hb
        rwa [heq] at this
      · have := hc y oj hoj (ih y hy hye) ed hed hb
        rwa [heq] at this
    · exact ih j hj hne
section
variable {P : Program} {B : World} {n : Fm} {E : Env} {H : List HP} {Q : Exit → Act → World → Prop}
theorem fin_any {l : List Oper} {Q : Exit → Act → World → Prop} {ls : Array Bool} (hsz : ls.size = l.length) (hall : ∀ i, i < l.length → ls.getD i false = true) {a : Act} {w : World} (hq : Q .normal a w) : ∀ k, wpAny P .any l.toArray Q k ls a w := by
  have hr : Region.ready .any l.toArray ls = [] := List.eq_nil_iff_forall_not_mem.2 fun i hi => by
    obtain ⟨h1, o, ho, _⟩ := mem_ready.1 hi
    have hil : i < l.length := by
      have := (Array.getElem?_eq_some_iff.1 ho).1
      simpa using this
    have h2 := hall i hil
    have h3 : i < ls.size := by rw [hsz]; exact hil
    simp only [Array.getD, h3, dif_pos] at h1 h2
    rw [h1] at h2
    cases h2
  intro k
  cases k with
  | zero => exact ⟨hr, hq⟩
  | succ k => exact ⟨fun _ => hq, fun i hi => by rw [hr] at hi; cases hi⟩
/-- So much having come up, the last not. -/
structure Inv2 (B : World) (n : Fm) (l : List Oper) (S : List SpO) (E : Env) (H : List HP) (k : Nat) (ls : Array Bool) (a : Act) (w : World) (V : Nat → Value) (Ps : Nat → List HP) : Prop where
  size : ls.size = l.length
  last : ls.getD S.length false = false
  left : ((List.range S.length).flatMap (lacks ls)).length ≤ k
  clos : Clos l.toArray ls
  has : ∀ (i : Nat) (s : SpO), S[i]? = some s → ls.getD i false = true → a.tmps[s.d]? = some (V i) ∧ s.all (s.deps.map V) (V i) (Ps i)
  env : Agr n E a
  sat : Sat B (H ++ (List.range S.length).flatMap (up ls Ps)) w
theorem free_any2 {l : List Oper} {S : List SpO} {oL : Oper} (hlen : l.length = S.length + 1) (hoL : l[S.length]? = some oL) (hback : backB 0 l = true) (hdeps : depsB2 S l = true) (hsink : sinkB l.toArray (List.range l.length) = true)
    (hinj : ∀ (i j : Nat) (s s' : SpO), S[i]? = some s → S[j]? = some s' → s.d = s'.d → i = j)
    (hE : ∀ (i : Nat) (s : SpO), S[i]? = some s → lk E s.d = none) (hstep : Steps2 B P n l S E H S l)
    (fin : ∀ (V : Nat → Value) (Ps : Nat → List HP), (∀ (i : Nat) (s : SpO), S[i]? = some s → s.all (s.deps.map V) (V i) (Ps i)) →
      RT B P n true l [oL] (((List.range S.length).map fun i => (dAt S i, V i)) ++ E) (H ++ (List.range S.length).flatMap Ps) (NoPan Q)) :
    ∀ (k : Nat) (ls : Array Bool) (a : Act) (w : World) (V : Nat → Value) (Ps : Nat → List HP), Inv2 B n l S E H k ls a w V Ps → wpAny P .any l.toArray Q (k + 1) ls a w := by
  intro k
  induction k with
  | zero =>
    intro ls a w V Ps I
    refine ⟨fun hr => ?_, fun i hi => ?_⟩
    · have := all_up I.size hback hr (S.length + 1) S.length (by omega) (by omega)
      rw [I.last] at this
      cases this
    obtain ⟨hun, o, ho, haft⟩ := mem_ready.1 hi
    have hil : i < l.length := by
      have := (Array.getElem?_eq_some_iff.1 ho).1
      simpa using this
    have hls : i < ls.size := by rw [I.size]; exact hil
    have hun2 : ls.getD i false = false := by
      simp only [Array.getD, hls, dif_pos] at hun ⊢
      exact hun
    by_cases him : i = S.length
    · subst him
      rw [show l.toArray[S.length]? = l[S.length]? by simp, hoL] at ho
      cases ho
      have hall : ∀ i, i < S.length → ls.getD i false = true := fun i hi => sink_rdy I.clos (by simpa using hoL) haft (List.range l.length) hsink (by rw [hlen, List.range_succ, List.getLast?_concat]) i (List.mem_range.2 (by omega)) (by omega)
      have hA : Agr n (((List.range S.length).map fun i => (dAt S i, V i)) ++ E) a := ⟨I.env.size, I.env.defers, fun t v h => by
        rw [lk_append] at h
        cases hx : lk ((List.range S.length).map fun i => (dAt S i, V i)) t with
        | some y =>
          rw [hx] at h
          cases h
          obtain ⟨j, hj, rfl, rfl⟩ := lk_map (D := V) hx
          have hjl := List.mem_range.1 hj
          have hs' : S[j]? = some (S[j]'(by omega)) := List.getElem?_eq_getElem (by omega)
          have := (I.has j _ hs' (hall j hjl)).1
          unfold dAt
          rw [hs']
          exact this
        | none => rw [hx] at h; exact I.env.get t v h⟩
      have e : (List.range S.length).flatMap (up ls Ps) = (List.range S.length).flatMap Ps := by
        have : ∀ L : List Nat, (∀ i ∈ L, i < S.length) → L.flatMap (up ls Ps) = L.flatMap Ps := by
          intro L
          induction L with
          | nil => intro _; rfl
          | cons j L ih =>
            intro h
            rw [List.flatMap_cons, List.flatMap_cons, ih (fun i hi => h i (by simp [hi])), up, if_pos (hall j (h j (by simp)))]
        exact this _ (fun i hi => List.mem_range.1 hi)
      have h1 := fin V Ps (fun i s hs => (I.has i s hs (hall i (by obtain ⟨h1, _⟩ := List.getElem?_eq_some_iff.1 hs; exact h1))).2) a w hA (by rw [← e]; exact I.sat)
      have hnext : ∀ a' w', NoPan Q .normal a' w' → wpAny P .any l.toArray Q 0 (ls.setIfInBounds S.length true) a' w' := fun a' w' h => fin_any (by simp [I.size]) (fun j hj => by
        by_cases hjm : j = S.length
        · rw [hjm]; exact getD_set_self hls
        · exact getD_set_true (hall j (by omega))) h.2 _
      unfold wpOp
      simp only [show l.toArray[S.length]? = some oL by simpa using hoL]
      unfold wpN at h1
      split at h1
      · rename_i hw
        rw [if_pos hw]
        exact .inl (wpO_mono (Q := NoPan Q) (fun c a w hq => by cases hq.1) (fun ⟨_, _, hq⟩ => by cases hq.1) (Oper.wp_mono (fun a' w' hk => hnext a' w' hk) h1))
      · rename_i hw
        rw [if_neg hw]
        exact hnext _ _ h1
    · exfalso
      have h0 : (List.range S.length).flatMap (lacks ls) = [] := List.eq_nil_of_length_eq_zero (by have := I.left; omega)
      have := List.flatMap_eq_nil_iff.1 h0 i (List.mem_range.2 (by omega))
      unfold lacks at this
      rw [hun2] at this
      cases this
  | succ k ih =>
    intro ls a w V Ps I
    refine ⟨fun hr => ?_, fun i hi => ?_⟩
    · have := all_up I.size hback hr (S.length + 1) S.length (by omega) (by omega)
      rw [I.last] at this
      cases this
    obtain ⟨hun, o, ho, haft⟩ := mem_ready.1 hi
    have hil : i < l.length := by
      have := (Array.getElem?_eq_some_iff.1 ho).1
      simpa using this
    have hls : i < ls.size := by rw [I.size]; exact hil
    have hun2 : ls.getD i false = false := by
      simp only [Array.getD, hls, dif_pos] at hun ⊢
      exact hun
    by_cases him : i = S.length
    · subst him
      rw [show l.toArray[S.length]? = l[S.length]? by simp, hoL] at ho
      cases ho
      have hall : ∀ i, i < S.length → ls.getD i false = true := fun i hi => sink_rdy I.clos (by simpa using hoL) haft (List.range l.length) hsink (by rw [hlen, List.range_succ, List.getLast?_concat]) i (List.mem_range.2 (by omega)) (by omega)
      have hA : Agr n (((List.range S.length).map fun i => (dAt S i, V i)) ++ E) a := ⟨I.env.size, I.env.defers, fun t v h => by
        rw [lk_append] at h
        cases hx : lk ((List.range S.length).map fun i => (dAt S i, V i)) t with
        | some y =>
          rw [hx] at h
          cases h
          obtain ⟨j, hj, rfl, rfl⟩ := lk_map (D := V) hx
          have hjl := List.mem_range.1 hj
          have hs' : S[j]? = some (S[j]'(by omega)) := List.getElem?_eq_getElem (by omega)
          have := (I.has j _ hs' (hall j hjl)).1
          unfold dAt
          rw [hs']
          exact this
        | none => rw [hx] at h; exact I.env.get t v h⟩
      have e : (List.range S.length).flatMap (up ls Ps) = (List.range S.length).flatMap Ps := by
        have : ∀ L : List Nat, (∀ i ∈ L, i < S.length) → L.flatMap (up ls Ps) = L.flatMap Ps := by
          intro L
          induction L with
          | nil => intro _; rfl
          | cons j L ih =>
            intro h
            rw [List.flatMap_cons, List.flatMap_cons, ih (fun i hi => h i (by simp [hi])), up, if_pos (hall j (h j (by simp)))]
        exact this _ (fun i hi => List.mem_range.1 hi)
      have h1 := fin V Ps (fun i s hs => (I.has i s hs (hall i (by obtain ⟨h1, _⟩ := List.getElem?_eq_some_iff.1 hs; exact h1))).2) a w hA (by rw [← e]; exact I.sat)
      have hnext : ∀ a' w', NoPan Q .normal a' w' → wpAny P .any l.toArray Q (k + 1) (ls.setIfInBounds S.length true) a' w' := fun a' w' h => fin_any (by simp [I.size]) (fun j hj => by
        by_cases hjm : j = S.length
        · rw [hjm]; exact getD_set_self hls
        · exact getD_set_true (hall j (by omega))) h.2 _
      unfold wpOp
      simp only [show l.toArray[S.length]? = some oL by simpa using hoL]
      unfold wpN at h1
      split at h1
      · rename_i hw
        rw [if_pos hw]
        exact .inl (wpO_mono (Q := NoPan Q) (fun c a w hq => by cases hq.1) (fun ⟨_, _, hq⟩ => by cases hq.1) (Oper.wp_mono (fun a' w' hk => hnext a' w' hk) h1))
      · rename_i hw
        rw [if_neg hw]
        exact hnext _ _ h1
    · have him2 : i < S.length := by omega
      have ho2 : l[i]? = some o := by simpa using ho
      obtain ⟨s, hs⟩ : ∃ s, S[i]? = some s := ⟨S[i]'(by omega), List.getElem?_eq_getElem (by omega)⟩
      have hsd : ∀ j ∈ s.deps, ls.getD j false = true := fun j hj => by
        obtain ⟨e, he, h1, h2⟩ := depsB2_spec hdeps hs ho2 j hj
        rw [← h1]
        exact haft e he h2
      have hdj : ∀ j ∈ s.deps, a.tmps[dAt S j]? = some (V j) := fun j hj => by
        have h1 := hsd j hj
        have hjl : j < S.length := by
          rcases Nat.lt_or_ge j ls.size with h | h
          · rw [I.size] at h
            rcases Nat.lt_or_ge j S.length with h2 | h2
            · exact h2
            · rw [show j = S.length by omega, I.last] at h1; cases h1
          · simp [Array.getD, Nat.not_lt.2 h] at h1
        have hs' : S[j]? = some (S[j]'(by omega)) := List.getElem?_eq_getElem (by omega)
        have := (I.has j _ hs' h1).1
        unfold dAt
        rw [hs']
        exact this
      have hok : ∀ j ∈ s.deps, okAt S j (V j) := fun j hj => by
        have h1 := hsd j hj
        unfold okAt
        cases hs' : S[j]? with
        | none => trivial
        | some s' => exact (I.has j s' hs' h1).2.1
      have hA : Agr n (depE S s V ++ (E ++ snap a)) a := ⟨I.env.size, I.env.defers, fun t v h => by
        rw [lk_append] at h
        cases hx : lk (depE S s V) t with
        | some y =>
          rw [hx] at h
          cases h
          obtain ⟨j, hj, rfl, rfl⟩ := lk_map (D := V) hx
          exact hdj j hj
        | none =>
          rw [hx] at h
          simp only at h
          rw [lk_append] at h
          cases hy : lk E t with
          | some y => rw [hy] at h; cases h; exact I.env.get t _ hy
          | none => rw [hy] at h; simp only at h; rwa [lk_snap] at h⟩
      have h1 := (hstep.at hs ho2 V (snap a) _ hok) a w hA I.sat
      have hnext : ∀ a' w', OneQ B n s.d (depE S s V ++ (E ++ snap a)) (H ++ (List.range S.length).flatMap (up ls Ps)) (s.all (s.deps.map V)) .normal a' w' → wpAny P .any l.toArray Q (k + 1) (ls.setIfInBounds i true) a' w' := fun a' w' h => by
        obtain ⟨_, v, Pi, hr, hA', hS'⟩ := h
        have keep : ∀ t x, t ≠ s.d → a.tmps[t]? = some x → a'.tmps[t]? = some x := fun t x ht hx => by
          obtain ⟨y, hy⟩ : ∃ y, lk (depE S s V ++ (E ++ snap a)) t = some y := by
            rw [lk_append]
            cases lk (depE S s V) t with
            | some y => exact ⟨y, rfl⟩
            | none =>
              simp only
              rw [lk_append]
              cases lk E t with
              | some y => exact ⟨y, rfl⟩
              | none => simp only; rw [lk_snap]; exact ⟨x, hx⟩
          have h2 := hA.get t y hy
          rw [hx] at h2
          cases h2
          refine hA'.get t x ?_
          rw [lk]
          have hb : Nat.beq s.d t = false := by
            cases hbb : Nat.beq s.d t with
            | true => exact absurd (Nat.eq_of_beq_eq_true hbb).symm ht
            | false => rfl
          rw [hb]
          exact hy
        have hI : ∀ j s', S[j]? = some s' → ls.getD j false = true → ∀ x ∈ s'.deps, ls.getD x false = true := fun j s' hs' hj x hx => by
          have hjl := (List.getElem?_eq_some_iff.1 hs').1
          have hoj : l[j]? = some (l[j]'(by omega)) := List.getElem?_eq_getElem (by omega)
          obtain ⟨e, he, h1, h2⟩ := depsB2_spec hdeps hs' hoj x hx
          have := I.clos j l[j] (by simp) hj e he h2
          rwa [h1] at this
        have hVi : ∀ j s', S[j]? = some s' → ls.getD j false = true → s'.deps.map (fun x => if x = i then v else V x) = s'.deps.map V := fun j s' hs' hj => by
          refine List.map_congr_left fun x hx => if_neg fun e => ?_
          have := hI j s' hs' hj x hx
          rw [e, hun2] at this
          cases this
        have hVs : s.deps.map (fun x => if x = i then v else V x) = s.deps.map V := List.map_congr_left fun x hx => if_neg fun e => by
          have := hsd x hx
          rw [e, hun2] at this
          cases this
        refine ih (ls.setIfInBounds i true) a' w' (fun j => if j = i then v else V j) (fun j => if j = i then Pi else Ps j) ⟨by simp [I.size], by rw [getD_set_ne false him]; exact I.last, ?_, I.clos.set hi, ?_, ?_, ?_⟩
        · have hp := flat_ins (i := i) (g := [()]) (f := lacks (ls.setIfInBounds i true)) (f' := lacks ls) (by unfold lacks; rw [getD_set_self hls]; rfl) (by unfold lacks; rw [hun2]; rfl) (fun j hj => by unfold lacks; rw [getD_set_ne false (Ne.symm hj)]) (List.range S.length) List.nodup_range (List.mem_range.2 him2)
          have h2 := hp.length_eq
          rw [List.length_append] at h2
          have := I.left
          simp only [List.length_cons, List.length_nil] at h2
          omega
        · intro j s' hs' hj
          by_cases hji : j = i
          · subst hji
            rw [hs] at hs'
            cases hs'
            rw [hVs]
            simp only [if_true]
            refine ⟨hA'.get _ _ ?_, hr⟩
            rw [lk, Nat.beq_refl]
            rfl
          · rw [getD_set_ne false (Ne.symm hji)] at hj
            obtain ⟨h2, h3⟩ := I.has j s' hs' hj
            rw [hVi j s' hs' hj]
            simp only [if_neg hji]
            exact ⟨keep _ _ (fun e => hji (hinj j i s' s hs' hs e)) h2, h3⟩
        · refine ⟨hA'.size, hA'.defers, fun t x hx => keep t x (fun e => ?_) (I.env.get t x hx)⟩
          rw [e, hE i s hs] at hx
          cases hx
        · refine hS'.mono (star_perm ?_)
          exact (List.perm_append_comm_assoc Pi H _).trans (List.Perm.append_left _ (flat_ins (by unfold up; rw [hun2]; rfl) (by unfold up; rw [getD_set_self hls]; simp) (fun j hj => by unfold up; rw [getD_set_ne false (Ne.symm hj)]; simp only [if_neg hj]) (List.range S.length) List.nodup_range (List.mem_range.2 him2)))
      unfold wpOp
      simp only [ho]
      unfold wpN at h1
      split at h1
      · rename_i hw
        rw [if_pos hw]
        exact .inl (wpO_mono (Q := OneQ B n s.d (depE S s V ++ (E ++ snap a)) (H ++ (List.range S.length).flatMap (up ls Ps)) (s.all (s.deps.map V))) (fun c a w hq => by cases hq.1) (fun ⟨_, _, hq⟩ => by cases hq.1) (Oper.wp_mono (fun a' w' hk => hnext a' w' hk) h1))
      · rename_i hw
        rw [if_neg hw]
        exact hnext _ _ h1
/-- A region whose order is open, its last operation behind all others. -/
theorem CT.freeL {id : Nat} {l : List Oper} {oL : Oper} (S : List SpO) (hm : P.follows .mixedOrders = true) (hlen : l.length = S.length + 1) (hoL : l[S.length]? = some oL) (hback : backB 0 l = true) (hdeps : depsB2 S l = true) (hsink : sinkB l.toArray (List.range l.length) = true)
    (hinj : injB (S.map SpO.d) = true) (hE : (S.all fun s => (lk E s.d).isNone) = true) (hstep : Steps2 B P n l S E H S l)
    (fin : ∀ (V : Nat → Value) (Ps : Nat → List HP), (∀ (i : Nat) (s : SpO), S[i]? = some s → s.all (s.deps.map V) (V i) (Ps i)) →
      RT B P n true l [oL] (((List.range S.length).map fun i => (dAt S i, V i)) ++ E) (H ++ (List.range S.length).flatMap Ps) (NoPan Q))
    (hro : n.ro = none := by rfl) : CT B P n (.region id l.toArray true) E H Q := by
  intro a w hA hS
  rw [Fm.wide hro]
  refine wpIn_wide.2 ?_
  refine wp_region_any hm ?_
  rw [List.size_toArray]
  have hno : ∀ i, (Array.replicate l.length false).getD i false = false := fun i => by
    rcases Nat.lt_or_ge i l.length with h2 | h2 <;> simp [Array.getD, h2]
  have e : (List.range S.length).flatMap (up (Array.replicate l.length false) fun _ => []) = [] := by
    rw [List.flatMap_eq_nil_iff]
    intro i _
    unfold up
    split <;> rfl
  have hkk : ∀ w, wpAny P .any l.toArray Q (S.length + 1) (Array.replicate l.length false) a w → wpAny P .any l.toArray Q l.length (Array.replicate l.length false) a w := fun w h => by rw [hlen] at h ⊢; exact h
  refine hkk _ ?_
  refine free_any2 (B := B) (n := n) (E := E) (H := H) hlen hoL hback hdeps hsink (fun i j s s' h1 h2 h3 => ?_) (fun i s hs => ?_) hstep fin
    S.length _ _ _ (fun _ => undef) (fun _ => []) ⟨by simp, hno _, ?_, Clos.none_ _, fun i s hs h => (by rw [hno] at h; cases h), hA, ?_⟩
  · refine injB_spec (d := s.d) hinj (by rw [List.getElem?_map, h1]; rfl) (by rw [List.getElem?_map, h2, h3]; rfl)
  · have := List.all_eq_true.1 hE s (List.mem_of_getElem? hs)
    simpa using this
  · have : ∀ L : List Nat, (L.flatMap (lacks (Array.replicate l.length false))).length ≤ L.length := by
      intro L
      induction L with
      | nil => simp
      | cons j L ih =>
        rw [List.flatMap_cons, List.length_append, List.length_cons]
        unfold lacks
        split <;> simp only [List.length_nil, List.length_cons] <;> unfold lacks at ih <;> omega
    have h2 := this (List.range S.length)
    rw [List.length_range] at h2
    exact h2
  · rw [e, List.append_nil]
    exact hS.drawn _
end
end Go.Sk
end
section
/- A slice's literal of values of several cells; a result that lies in a cell of several. Plain theorems, no condition. -/
namespace Go.Sk
open Go.RowKit
theorem foldSet : ∀ (cs : List Value) (j0 off : Nat) (cells : Array Value), off + j0 + cs.length ≤ cells.size →
    (List.foldl (fun (a : Array Value) (x : Value × Nat) => a.setIfInBounds (off + x.2) x.1) cells (cs.zipIdx j0)).toList = cells.toList.take (off + j0) ++ cs ++ cells.toList.drop (off + j0 + cs.length)
  | [], j0, off, cells, h => by simp
  | c :: cs, j0, off, cells, h => by
    rw [List.length_cons] at h
    rw [List.zipIdx_cons, List.foldl_cons, foldSet cs (j0 + 1) off _ (by simp; omega)]
    simp only [Array.toList_setIfInBounds, List.length_cons]
    rw [List.drop_set_of_lt (by omega), show off + (j0 + 1) = (off + j0) + 1 by omega, List.take_succ_eq_append_getElem (by simp; omega), List.take_set_of_le (Nat.le_refl _), List.getElem_set_self]
    simp [Nat.add_assoc, Nat.add_comm 1]
theorem fold_cells (cs : Array Value) (off : Nat) (cells : Array Value) (h : off + cs.size ≤ cells.size) :
    Array.foldl (fun (a : Array Value) (x : Value × Nat) => a.setIfInBounds (off + x.2) x.1) cells cs.zipIdx = (cells.toList.take off ++ cs.toList ++ cells.toList.drop (off + cs.size)).toArray := by
  apply Array.toList_inj.1
  rw [← Array.foldl_toList, Array.toList_zipIdx, foldSet cs.toList 0 off cells (by simpa using h)]
  simp
def rowA (E : Env) (z : Nat) : Nat → List (Nat × Operand) → Option (List Value)
  | _, [] => some []
  | k, (i, x) :: ps => bif Nat.beq i k then (match ev E x with
      | some (.agg cs) => bif Nat.beq cs.size z then (match rowA E z (k + 1) ps with
          | some l => some (cs.toList ++ l)
          | none => none) else none
      | _ => none) else none
variable {B : World} {P : Program} {n : Fm} {m : Bool} {l0 rest : List Oper} {E : Env} {H R : List HP} {Q : Exit → Act → World → Prop}
theorem rowA_spec {a : Act} {z : Nat} (hA : Agr n E a) : ∀ (ps : List (Nat × Operand)) (k : Nat) (l : List Value), rowA E z k ps = some l →
    l.length = ps.length * z ∧ ∀ (cells : Array Value), (k + ps.length) * z ≤ cells.size → Instr.fill (fun i => some (i * z, z)) cells (ps.map fun (i, x) => (i, a.eval x)) = some (cells.toList.take (k * z) ++ l ++ cells.toList.drop ((k + ps.length) * z)).toArray
  | [], k, l, h => by
    cases h
    exact ⟨by simp, fun cells _ => by simp [Instr.fill]⟩
  | (i, x) :: ps, k, l, h => by
    simp only [rowA] at h
    cases hb : Nat.beq i k with
    | false => rw [hb] at h; cases h
    | true =>
    rw [hb, cond_true] at h
    obtain rfl := Nat.eq_of_beq_eq_true hb
    split at h
    · rename_i cs hv
      cases hz : Nat.beq cs.size z with
      | false => rw [hz] at h; cases h
      | true =>
      rw [hz, cond_true] at h
      obtain rfl := Nat.eq_of_beq_eq_true hz
      split at h
      · rename_i l' hl'
        cases h
        obtain ⟨e1, e2⟩ := rowA_spec hA ps (i + 1) l' hl'
        refine ⟨by simp [e1, Nat.succ_mul, Nat.add_comm], fun cells hc => ?_⟩
        have hm : (i + (ps.length + 1)) * cs.size = i * cs.size + cs.size + ps.length * cs.size := by simp [Nat.add_mul]; omega
        have hm2 : (i + 1 + ps.length) * cs.size = i * cs.size + cs.size + ps.length * cs.size := by simp [Nat.add_mul]
        have hm3 : (i + 1) * cs.size = i * cs.size + cs.size := by simp [Nat.add_mul]
        simp only [List.length_cons] at hc ⊢
        rw [hm] at hc ⊢
        have hlen : (cells.toList.take (i * cs.size) ++ cs.toList ++ cells.toList.drop (i * cs.size + cs.size)).length = cells.size := by
          simp only [List.length_append, List.length_take, List.length_drop, Array.length_toList]; omega
        have htk : (cells.toList.take (i * cs.size) ++ cs.toList).length = i * cs.size + cs.size := by
          simp only [List.length_append, List.length_take, Array.length_toList]; omega
        simp only [List.map_cons, Instr.fill, hA.ev hv]
        rw [if_neg (by simp [Value.cells]; omega)]
        have hf := fold_cells cs (i * cs.size) cells (by omega)
        simp only [Value.cells] at hf ⊢
        rw [hf, e2 _ (by rw [hm2]; simp only [List.size_toArray, hlen]; omega), hm2, hm3]
        have hd : ∀ (A C : List Value) (k : Nat), (A ++ C).drop (A.length + k) = C.drop k := fun A C k => by rw [← List.drop_drop, List.drop_left]
        congr 2
        have h1 : (List.take (i * cs.size) cells.toList ++ cs.toList ++ List.drop (i * cs.size + cs.size) cells.toList).take (i * cs.size + cs.size) = List.take (i * cs.size) cells.toList ++ cs.toList := by rw [← htk, List.take_left]
        have h2 : (List.take (i * cs.size) cells.toList ++ cs.toList ++ List.drop (i * cs.size + cs.size) cells.toList).drop (i * cs.size + cs.size + ps.length * cs.size) = cells.toList.drop (i * cs.size + cs.size + ps.length * cs.size) := by
          have h3 := hd (List.take (i * cs.size) cells.toList ++ cs.toList) (List.drop (i * cs.size + cs.size) cells.toList) (ps.length * cs.size)
          rw [htk] at h3
          rw [h3, List.drop_drop]
        rw [h1, h2, List.append_assoc _ cs.toList l']
      · cases h
    · cases h
theorem run_bsA {w : World} {t e z bb k : Nat} {z0 : Value} {vs : List (Nat × Value)} {l : List Value} (ht : slcB P t = some (e, z, bb)) (hz : zerB P e = some z0) (hk : l.length = k * z) (hk0 : 0 < k * z) (hl : k * z ≤ 16777216)
    (hf : ∀ cells : Array Value, cells.size = k * z → Instr.fill (fun i => some (i * z, z)) cells vs = some l.toArray) :
    (Instr.buildSlice t k vs.toArray).run P w = .ok (.slice (some ⟨w.heap.size, 0, none⟩) k k) (w.alloc (.cells l.toArray e)) := by
  obtain ⟨hu, i, hi, hsz, _⟩ := slcB_spec ht
  have hs : (sizeOf e).run P w = .ok z w := run_sizeB (by simp [sizeB, hi, hsz])
  have hz1 := zerB_spec (P := P) (w := w) hz
  have hbig : ¬ (k * z > 2 ^ 24) := by omega
  simp only [Instr.buildSlice, Sem.run_bind, run_underlying hu, Result.andThen_ok, hs, if_neg hbig, Sem.run_pure]
  have h0 : ¬ k * z = 0 := by omega
  simp only [h0, if_false, Sem.run_bind, hz1, Result.andThen_ok, Sem.run_pure]
  have := hf (Array.map (fun x => z0.cells[x % z0.cells.size]!) (Array.range (k * z))) (by simp)
  simp only [this, newRow, Sem.run_bind]
  rfl
variable (T : Tab P) {d : Nat} {ty : TypeId} {pos : String} {af : Array Edge} {g : Option (Nat × Bool)} {t : TypeId}
/-- A slice's literal, of values of z cells each. -/
theorem RT.bsA {e bb k z : Nat} {z0 : Value} {parts : List (Nat × Operand)} {l : List Value} (hl : rowA E z 0 parts = some l) (hk : parts.length = k) (ht : al T.slcs t = some (e, z, bb)) (hz : al T.zers e = some z0) (hk0 : Nat.blt 0 (k * z) = true) (hlen : Nat.ble (k * z) 16777216 = true) (hw : wt l0 E g = some true) (hd : Nat.blt d n = true)
    (kt : ∀ a, RT B P n true l0 rest ((d, .slice a k k) :: E) (Own a k e z k l :: H) Q) : RT B P n true l0 (⟨some d, .buildSlice t k parts.toArray, ty, pos, af, g⟩ :: rest) E H Q :=
  RT.eff hw fun o aa w K ho _ hdd hA hS hK => by
    subst hk
    have hle : parts.length * z ≤ 16777216 := by simpa [Nat.ble_eq] using hlen
    have h00 : 0 < parts.length * z := by simpa [Nat.blt_eq] using hk0
    have hzp : 1 ≤ z := by
      rcases Nat.eq_zero_or_pos z with h | h
      · rw [h, Nat.mul_zero] at h00; omega
      · exact h
    have hpl : parts.length ≤ parts.length * z := Nat.le_mul_of_pos_right _ hzp
    obtain ⟨e1, e3⟩ := rowA_spec hA parts 0 l hl
    have hrun := run_bsA (P := P) (w := w) (vs := parts.map fun (i, x) => (i, aa.eval x)) (l := l) (T.slc ht) (T.zer hz) e1 h00 hle (fun cells hc => by
      rw [e3 cells (by rw [Nat.zero_add]; omega)]
      simp only [Nat.zero_mul, List.take_zero, List.nil_append, Nat.zero_add]
      rw [List.drop_eq_nil_of_le (by simp; omega), List.append_nil])
    unfold Oper.wp execOp
    have hm : (parts.toArray.map fun (i, x) => (i, aa.eval x)) = (parts.map fun (i, x) => (i, aa.eval x)).toArray := by simp
    simp only [ho, Sem.run_bind]
    rw [hm, hrun]
    simp only [Result.andThen_ok, Sem.run_pure, Oper.upon, hdd]
    refine hK _ _ (kt _ _ _ (hA.put (by simpa [Nat.blt_eq] using hd) _) (hS.new rfl rfl rfl rfl fun h _ hb => ?_))
    exact ⟨e1, Nat.le_refl _, by unfold maxLen; omega, .inr ⟨_, _, rfl, hb, by simp [e1], by rw [← e1]; simp⟩⟩
variable {fn : Func} {Post : Value → List HP → Prop} {nn : Nat} {H1 : List HP}
theorem res_agg {P : Program} (T : Tab P) {t ty b e z : Nat} {l : List Value} {R2 : List HP} {n : Fm} (hr : fn.results = #[.cell t ty]) (he : lk E t = some (.pointer (some ⟨b, 0, none⟩))) (ht : al T.szs ty = some (z, true)) (hz : l.length = z) (hs : Sel H1 (Cs b e l) R2) :
    ∀ a w, Agr n E a → Sat B H1 w → (results fn a.tmps).run P w = .ok (.agg l.toArray) w := fun a w hA hS => by
  subst hz
  have hg : a.tmps.getD t undef = .pointer (some ⟨b, 0, none⟩) := by simp [Array.getD_eq_getD_getElem?, hA.get t _ he]
  have hc : ∀ j v, l[j]? = some v → w.cell? ((⟨b, 0, none⟩ : Addr).add j) = some v := fun j v hj => by
    have : (⟨b, 0, none⟩ : Addr).add j = ⟨b, j, none⟩ := by unfold Addr.add; split <;> simp_all
    rw [this]; exact (cs_cell (hS.cs hs).1 j).trans hj
  have hl : (loadVar ty ⟨b, 0, none⟩).run P w = .ok (.agg l.toArray) w := by
    simp only [loadVar, Sem.run_bind, run_isAggB (T.sz ht).2, run_sizeB (T.sz ht).1, if_true, Result.andThen_ok, run_loadCells_list w _ l hc, Sem.run_pure]
  unfold results
  rw [hr]
  simp only [List.mapM_toArray, List.mapM_cons, List.mapM_nil, hg, asAddr, Sem.run_bind, Sem.run_pure, Result.andThen_ok, bind_assoc, pure_bind, map_eq_pure_bind, Sem.run_map, hl]
  rfl
/-- The end of a function whose result lies in a variable of several cells. -/
theorem AtQ.finA {P : Program} (T : Tab P) {t ty b e z : Nat} {l : List Value} {R2 H' : List HP} (hr : fn.results = #[.cell t ty]) (he : lk E t = some (.pointer (some ⟨b, 0, none⟩))) (ht : al T.szs ty = some (z, true)) (hz : l.length = z) (hsel : Sel H (Cs b e l) R2)
    (hp : Post (.agg l.toArray) H') (hs : ∀ w, Sat B H w → Sat B (H' ++ R) w) {ex : Exit} (hex : ex = .normal ∨ ex = .ret) :
    AtQ B (.mk0 nn) E H (FinQM B P fn R Post) ex := AtQ.finM (ds := []) (H1 := H) (fun _ h => h) (res_agg T hr he ht hz hsel) hp hs hex
/-- A call of a function value, which captures nothing. -/
theorem RT.callV {f : FuncId} {bb : Bool} {x : Operand} {xs : List Operand} {vs : List Value} {ats : Array TypeId} {Pre : List HP} {Post : Value → List HP → Prop}
    (qx : ev E x = some (.func (.func f) #[] #[])) (qv : evs E xs = some vs) (qfr : Fr H Pre R) (qq : Sp B P f vs R Pre Post) (qf : al T.funs f = some bb) (qw : wt l0 E g = some true) (qd : Nat.blt d n = true)
    (qk : ∀ v H', Post v H' → RT B P n true l0 rest ((d, v) :: E) (H' ++ R) Q) : RT B P n true l0 (⟨some d, .call { callee := .value x, args := xs.toArray, argTypes := ats }, ty, pos, af, g⟩ :: rest) E H Q :=
  RT.eff qw fun o aa w K ho _ hdd hA hS hK => by
    have hrun : (execOp aa.eval o).run P w = .ok (.enter f vs.toArray) w := by
      unfold execOp
      have hm : xs.map aa.eval = vs := hA.evs qv
      simp only [ho, resolve, Sem.run_bind, List.map_toArray, hm, hA.ev qx, Deferred.ofValue, Sem.run_pure, Result.andThen_ok, invoke]
      simpa using run_call (T := T) qf
    unfold Oper.wp
    rw [hrun]
    simp only [Oper.upon, hdd]
    refine (qq w (hS.fr qfr)).mono fun e w' ⟨v, H', he, hp, hS'⟩ => ?_
    subst he
    exact hK _ _ (qk v H' hp _ _ (hA.put (by simpa [Nat.blt_eq] using qd) _) hS')
end Go.Sk
end
section
/- A function whose results are a variable of several cells and a slot. Plain theorems, no condition. -/
namespace Go.Sk
open Go.RowKit
/-- The result: a variable of several cells, and a slot. -/
theorem res_aggT {B : World} {P : Program} (T : Tab P) {E : Env} {H1 : List HP} {fn : Func} {t ty b e z t2 : Nat} {l : List Value} {v2 : Value} {R2 : List HP} {n : Fm} (hr : fn.results = #[.cell t ty, .tmp t2]) (he : lk E t = some (.pointer (some ⟨b, 0, none⟩))) (he2 : lk E t2 = some v2) (ht : al T.szs ty = some (z, true)) (hz : l.length = z) (hs : Sel H1 (Cs b e l) R2) :
    ∀ a w, Agr n E a → Sat B H1 w → (results fn a.tmps).run P w = .ok (.tuple #[.agg l.toArray, v2]) w := fun a w hA hS => by
  subst hz
  have hg : a.tmps.getD t undef = .pointer (some ⟨b, 0, none⟩) := by simp [Array.getD_eq_getD_getElem?, hA.get t _ he]
  have hg2 : a.tmps.getD t2 undef = v2 := by simp [Array.getD_eq_getD_getElem?, hA.get t2 _ he2]
  have hc : ∀ j v, l[j]? = some v → w.cell? ((⟨b, 0, none⟩ : Addr).add j) = some v := fun j v hj => by
    have : (⟨b, 0, none⟩ : Addr).add j = ⟨b, j, none⟩ := by unfold Addr.add; split <;> simp_all
    rw [this]; exact (cs_cell (hS.cs hs).1 j).trans hj
  have hl : (loadVar ty ⟨b, 0, none⟩).run P w = .ok (.agg l.toArray) w := by
    simp only [loadVar, Sem.run_bind, run_isAggB (T.sz ht).2, run_sizeB (T.sz ht).1, if_true, Result.andThen_ok, run_loadCells_list w _ l hc, Sem.run_pure]
  unfold results
  rw [hr]
  simp only [List.mapM_toArray, List.mapM_cons, List.mapM_nil, hg, hg2, asAddr, Sem.run_bind, Sem.run_pure, Result.andThen_ok, bind_assoc, pure_bind, map_eq_pure_bind, Sem.run_map, hl]
  rfl
theorem AtQ.finAT {B : World} {R : List HP} {P : Program} (T : Tab P) {E : Env} {H : List HP} {fn : Func} {Post : Value → List HP → Prop} {nn t ty b e z t2 : Nat} {l : List Value} {v2 : Value} {R2 H' : List HP} (hr : fn.results = #[.cell t ty, .tmp t2]) (he : lk E t = some (.pointer (some ⟨b, 0, none⟩))) (he2 : lk E t2 = some v2) (ht : al T.szs ty = some (z, true)) (hz : l.length = z) (hsel : Sel H (Cs b e l) R2)
    (hp : Post (.tuple #[.agg l.toArray, v2]) H') (hs : ∀ w, Sat B H w → Sat B (H' ++ R) w) {ex : Exit} (hex : ex = .normal ∨ ex = .ret) :
    AtQ B (.mk0 nn) E H (FinQM B P fn R Post) ex := AtQ.finM (ds := []) (H1 := H) (fun _ h => h) (res_aggT T hr he he2 ht hz hsel) hp hs hex
section
variable {B : World} {P : Program} {n : Fm} {l0 rest : List Oper} {E : Env} {H : List HP} {Q : Exit → Act → World → Prop} (T : Tab P)
variable {pos : String} {af : Array Edge} {g : Option (Nat × Bool)} {x y : Operand} {t ty : TypeId}
/-- A whole struct into a whole variable. -/
theorem RT.staggW {b z : Nat} {e : TypeId} {l v : List Value} {H' : List HP} (hx : ev E x = some (.pointer (some ⟨b, 0, none⟩))) (hy : ev E y = some (.agg v.toArray)) (h1 : v.all (fun u => u.oneCell') = true)
    (hr : Rep H (Cs b e l) (Cs b e v) H') (hl : v.length = l.length) (hz : v.length = z) (ht : al T.szs t = some (z, true)) (hw : wt l0 E g = some true)
    (k : RT B P n true l0 rest E H' Q) : RT B P n true l0 (⟨none, .store t x y, ty, pos, af, g⟩ :: rest) E H Q :=
  RT.stagg T hx hy h1 hr (by simp [hl]) (by simp [Nat.ble_eq, hl]) hz ht hw k
end
theorem star_rot {p : HP} : ∀ {L : List HP} {h : PH}, star (p :: L) h → star (L ++ [p]) h
  | [], _, s => s
  | _ :: L, _, s => star_cons_mono (fun _ hs => star_rot (L := L) hs) (star_swap s)
theorem star_comm : ∀ {A C : List HP} {h : PH}, star (A ++ C) h → star (C ++ A) h
  | [], C, _, s => by rw [List.append_nil]; exact s
  | p :: A, C, h, s => by
    have h1 : star (A ++ (C ++ [p])) h := by
      have := star_rot (p := p) (L := A ++ C) s
      rwa [List.append_assoc] at this
    have := star_comm h1
    rw [List.append_assoc] at this
    exact this
theorem Sat.comm {B : World} {A C : List HP} {w : World} (s : Sat B (A ++ C) w) : Sat B (C ++ A) w := s.mono fun _ h => star_comm h
section
variable {B : World} {P : Program} {n : Fm} {E : Env} {H R : List HP} {Q : Exit → Act → World → Prop}
/-- Behind an assignment that lays down a variable. -/
def AsgX (B : World) (n : Fm) {α : Type} (E1 : α → Env) (H0 : α → List HP) : Exit → Act → World → Prop := Exit.then (fun a w => ∃ z, Agr n (E1 z) a ∧ Sat B (H0 z) w) (fun _ _ _ => False)
theorem AtQ.asgX {α : Type} {E1 : α → Env} {H0 : α → List HP} (z : α) (hE : subB E (E1 z)) (hH : ∀ w, Sat B H w → Sat B (H0 z) w) : AtQ B n E H (AsgX B n E1 H0) .normal := fun _ w hA hS => ⟨z, hA.sub hE.sub, hH w hS⟩
/-- A round whose assignment lays down a variable. -/
theorem YJ.ofX {α : Type} {l : Nat} {x : Lp} {nn D : Nat} {E0 : Env} {p : Tmp} {assign body : Code} {v : Value} {E1 : α → Env} {H0 H1 : α → List HP} {pe : Option Code} {Post : Bool → List HP → Prop} (hx : x = ⟨nn, E0, #[p], assign, body, D⟩) (hp : Nat.blt p nn = true) (hs : Sel H (Lo l .ready pe x) R) (hr : ∀ z, Rep (H0 z) (Lo l .ready pe x) (Lo l .busy pe x) (H1 z))
    (ha : CT B P ⟨nn, [], some l⟩ assign ((p, v) :: E0) H (AsgX B ⟨nn, [], some l⟩ E1 H0)) (hb : ∀ z, CT B P ⟨nn, [], some l⟩ body (E1 z) (H1 z) (RndQ B P l Post)) : YJ B P l [v] H Post := by
  intro w hS
  obtain ⟨r, h1, h2, h3, h4, h5, h6, h7, h8⟩ := Lo.at_ hS hs
  have hps : x.ps = #[p] := by rw [hx]
  refine ⟨r.fn, _, _, _, run_yield h1 (by rw [h4, hps]; rfl), roundIn_of_wpIn trivial ?_⟩
  have hA : Agr ⟨nn, [], some l⟩ ((p, v) :: E0) { tmps := (r.params.zip [v].toArray).foldl (fun tmps (t, a) => tmps.setIfInBounds t a) r.tmps, defers := [] } := by
    rw [h4, hps]
    rw [hx] at h8
    have := h8.put (show p < nn by simpa [Nat.blt_eq] using hp) v
    have e : (#[p].zip [v].toArray).foldl (fun tmps (t, a) => tmps.setIfInBounds t a) r.tmps = r.tmps.setIfInBounds p v := by simp
    rw [e]
    exact ⟨this.size, rfl, this.get⟩
  rw [h5, h6, show x.assign = assign by rw [hx], show x.body = body by rw [hx]]
  refine wpIn_mono (ha _ w hA hS) ?_
  intro e a1 w1 hq
  cases e <;> try exact hq
  obtain ⟨z, hA1, hS1⟩ := hq
  obtain ⟨R, s1, _⟩ := (hr z).sel
  obtain ⟨r1, g1, g2, g3, _⟩ := Lo.at_ hS1 s1
  refine ⟨_, run_beginRound g1 g2, hb z a1 _ hA1 ?_⟩
  have := Lo.set (st' := .busy) (pe' := pe) hS1 (hr z) g1
  rw [← g3] at this
  exact this
end
end Go.Sk
end
section
/- Bags of pieces; an append that keeps the old slice; owned rows up to their room, and shortened. Plain theorems, no condition. -/
namespace Go.Sk
open Go.RowKit
theorem star_glue : ∀ (A : List HP) {C : List HP} {h h1 h2 : PH}, Dj h1 h2 → Le h1 h → Le h2 h → star A h1 → star C h2 → star (A ++ C) h
  | [], C, _, _, _, _, _, l2, _, c => star_up C l2 c
  | _ :: A, C, h, h1, h2, d, l1, l2, ⟨x, y, dxy, lx, ly, hp, hA⟩, hC =>
    ⟨x, Un y h2, (Un.dj dxy.symm (d.mono lx (Le.refl _)).symm).symm, lx.trans l1, Un.le (ly.trans l1) l2, hp, star_glue A (d.mono ly (Le.refl _)) (Un.left _ _) (Un.right (d.mono ly (Le.refl _))) hA hC⟩
theorem star_cut : ∀ (A : List HP) {C : List HP} {h : PH}, star (A ++ C) h → ∃ h1 h2, Dj h1 h2 ∧ Le h1 h ∧ Le h2 h ∧ star A h1 ∧ star C h2
  | [], C, h, s => ⟨fun _ => none, h, fun _ => .inl rfl, fun _ _ e => (by cases e), Le.refl _, trivial, s⟩
  | _ :: A, C, h, ⟨x, y, d, lx, ly, hp, s⟩ =>
    let ⟨h1, h2, d', l1, l2, a, c⟩ := star_cut A s
    ⟨Un x h1, h2, Un.dj (d.mono (Le.refl _) l2) d', Un.le lx (l1.trans ly), l2.trans ly, ⟨x, h1, d.mono (Le.refl _) l1, Un.left _ _, Un.right (d.mono (Le.refl _) l1), hp, a⟩, c⟩
theorem star_mdl {p : HP} : ∀ {A C : List HP} {h : PH}, star (A ++ p :: C) h → star (p :: (A ++ C)) h
  | [], _, _, s => s
  | _ :: A, _, _, s => star_swap (star_cons_mono (fun _ hs => star_mdl (A := A) hs) s)
theorem star_mdr {p : HP} : ∀ {A C : List HP} {h : PH}, star (p :: (A ++ C)) h → star (A ++ p :: C) h
  | [], _, _, s => s
  | _ :: A, _, _, s => star_cons_mono (fun _ hs => star_mdr (A := A) hs) (star_swap s)
/-- Several pieces as one. -/
def Bag (ps : List HP) : HP := star ps
section
variable {B : World} {R : List HP} {w : World}
theorem Bag.open_ {ps : List HP} (s : Sat B (Bag ps :: R) w) : Sat B (ps ++ R) w := s.mono fun _ ⟨_, _, d, l1, l2, a, c⟩ => star_glue ps d l1 l2 a c
theorem Bag.close {ps : List HP} (s : Sat B (ps ++ R) w) : Sat B (Bag ps :: R) w := s.mono fun _ hs =>
  let ⟨h1, h2, d, l1, l2, a, c⟩ := star_cut ps hs
  ⟨h1, h2, d, l1, l2, a, c⟩
theorem Bag.nil_ (s : Sat B R w) : Sat B (Bag [] :: R) w := Bag.close s
/-- The first piece out of a bag. -/
theorem Bag.head {p : HP} {ps : List HP} (s : Sat B (Bag (p :: ps) :: R) w) : Sat B (p :: Bag ps :: R) w := by
  have h : Sat B (p :: (ps ++ R)) w := Bag.open_ s
  exact h.mono fun _ hs => star_cons_mono (fun h' hs' => by
    obtain ⟨h1, h2, d, l1, l2, a, c⟩ := star_cut ps hs'
    exact ⟨h1, h2, d, l1, l2, a, c⟩) hs
/-- A piece into a bag, behind all others. -/
theorem Bag.push {p : HP} {ps : List HP} (s : Sat B (p :: Bag ps :: R) w) : Sat B (Bag (ps ++ [p]) :: R) w := by
  refine Bag.close (s.mono fun h hs => ?_)
  have h1 : star (p :: (ps ++ R)) h := star_cons_mono (R := Bag ps :: R) (fun h' hs' => by
    obtain ⟨h1, h2, d, l1, l2, a, c⟩ := hs'
    exact star_glue ps d l1 l2 a c) hs
  rw [List.append_assoc]
  exact star_mdr h1
/-- The piece number i of a bag. -/
theorem Bag.at_ {ps : List HP} {i : Nat} {p : HP} (hp : ps[i]? = some p) (s : Sat B (Bag ps :: R) w) : Sat B (p :: Bag (ps.eraseIdx i) :: R) w := by
  obtain ⟨hi, rfl⟩ := List.getElem?_eq_some_iff.1 hp
  have h := Bag.open_ s
  have e : ps = ps.take i ++ ps[i] :: ps.drop (i + 1) := by rw [← List.drop_eq_getElem_cons hi, List.take_append_drop]
  refine h.mono fun h' hs => ?_
  rw [e, List.append_assoc] at hs
  have h2 : star (ps[i] :: (ps.take i ++ (ps.drop (i + 1) ++ R))) h' := star_mdl hs
  refine star_cons_mono (fun h3 hs3 => ?_) h2
  rw [List.eraseIdx_eq_take_drop_succ]
  rw [← List.append_assoc] at hs3
  obtain ⟨h1, h2, d, l1, l2, a, c⟩ := star_cut _ hs3
  exact ⟨h1, h2, d, l1, l2, a, c⟩
theorem Rd.bag {ps : List HP} {i : Nat} {p : HP} {a : Option Addr} {k c sz : Nat} {xs : List Value} (hp : ps[i]? = some p) (h : Rd B (p :: Bag (ps.eraseIdx i) :: R) a k c sz xs) : Rd B (Bag ps :: R) a k c sz xs := h.weak fun _ hs => Bag.at_ hp hs
/-- A piece out of H, the rest as it is. -/
theorem Own.full {a : Option Addr} {c : Nat} {e : TypeId} {sz k : Nat} {xs : List Value} {h : PH} (hh : Own a c e sz k xs h) : ∃ ys, Own a c e sz c (xs ++ ys) h := by
  obtain ⟨h1, h2, h3, h4⟩ := hh
  rcases h4 with ⟨rfl, rfl⟩ | ⟨g, cur, rfl, hg, hs, ht⟩
  · have hk : k = 0 := by omega
    subst hk
    exact ⟨[], by simpa using h1, Nat.le_refl _, h3, .inl ⟨rfl, rfl⟩⟩
  · refine ⟨cur.toList.drop (k * sz), ?_, Nat.le_refl _, h3, .inr ⟨g, cur, rfl, hg, hs, ?_⟩⟩
    · rw [← ht, List.take_append_drop]; simpa using hs
    · rw [← ht, List.take_append_drop, List.take_of_length_le (by simp [hs])]
theorem Own.short {a : Option Addr} {c : Nat} {e : TypeId} {sz k j : Nat} {xs : List Value} {h : PH} (hh : Own a c e sz k xs h) (hj : j ≤ k) : Own a c e sz j (xs.take (j * sz)) h := by
  obtain ⟨h1, h2, h3, h4⟩ := hh
  have hm : j * sz ≤ k * sz := Nat.mul_le_mul_right _ hj
  refine ⟨by rw [List.length_take]; omega, by omega, h3, ?_⟩
  rcases h4 with ⟨rfl, rfl⟩ | ⟨g, cur, rfl, hg, hs, ht⟩
  · exact .inl ⟨rfl, rfl⟩
  · exact .inr ⟨g, cur, rfl, hg, hs, by rw [← ht, List.take_take, Nat.min_eq_left hm]⟩
/-- An old slice (a, n, c) of the cells xs, and one that grew out of it (a', m, c'), of the cells ys: one row, or two. -/
def Twi (e : TypeId) (sz : Nat) (a : Option Addr) (n c : Nat) (xs : List Value) (a' : Option Addr) (m c' : Nat) (ys : List Value) : HP := fun h =>
  (a' = a ∧ c' = c ∧ n ≤ m ∧ ys.take (n * sz) = xs ∧ Own a c e sz m ys h) ∨ ∃ n' zs, n ≤ n' ∧ zs.take (n * sz) = xs ∧ star [Own a c e sz n' zs, Own a' c' e sz m ys] h
theorem Twi.cases {e : TypeId} {sz : Nat} {a : Option Addr} {n c : Nat} {xs : List Value} {a' : Option Addr} {m c' : Nat} {ys : List Value} (s : Sat B (Twi e sz a n c xs a' m c' ys :: R) w) :
    (a' = a ∧ c' = c ∧ n ≤ m ∧ ys.take (n * sz) = xs ∧ Sat B (Own a c e sz m ys :: R) w) ∨ ∃ n' zs, n ≤ n' ∧ zs.take (n * sz) = xs ∧ Sat B (Own a c e sz n' zs :: Own a' c' e sz m ys :: R) w := by
  obtain ⟨h, hh, h1, h2, d, l1, l2, ht, hr⟩ := s.heap
  rcases ht with ⟨e1, e2, e3, e4, ho⟩ | ⟨n', zs, e3, e4, ho⟩
  · exact .inl ⟨e1, e2, e3, e4, { s with heap := ⟨h, hh, h1, h2, d, l1, l2, ho, hr⟩ }⟩
  · exact .inr ⟨n', zs, e3, e4, { s with heap := ⟨h, hh, star_glue [_, _] d l1 l2 ho hr⟩ }⟩
theorem Twi.start {e : TypeId} {sz : Nat} {a : Option Addr} {n c : Nat} {xs : List Value} {h : PH} (hh : Own a c e sz n xs h) : Twi e sz a n c xs a n c xs h := .inl ⟨rfl, rfl, Nat.le_refl _, by rw [List.take_of_length_le (by rw [hh.1]; exact Nat.le_refl _)], hh⟩
theorem Twi.one {e : TypeId} {sz : Nat} {a : Option Addr} {n c : Nat} {xs : List Value} {m : Nat} {ys : List Value} (hn : n ≤ m) (hx : ys.take (n * sz) = xs) (s : Sat B (Own a c e sz m ys :: R) w) : Sat B (Twi e sz a n c xs a m c ys :: R) w :=
  s.mono fun _ hs => star_head_mono (fun _ ho => .inl ⟨rfl, rfl, hn, hx, ho⟩) hs
theorem Twi.two {e : TypeId} {sz : Nat} {a : Option Addr} {n c : Nat} {xs : List Value} {a' : Option Addr} {m c' n' : Nat} {ys zs : List Value} (hn : n ≤ n') (hx : zs.take (n * sz) = xs) (s : Sat B (Own a c e sz n' zs :: Own a' c' e sz m ys :: R) w) : Sat B (Twi e sz a n c xs a' m c' ys :: R) w :=
  s.mono fun _ hs =>
    let ⟨h1, h2, d, l1, l2, a, c⟩ := star_cut [_, _] hs
    ⟨h1, h2, d, l1, l2, .inr ⟨n', zs, hn, hx, a⟩, c⟩
theorem Own.rd_w {a : Option Addr} {c : Nat} {e : TypeId} {sz k n : Nat} {xs ys : List Value} (hn : n ≤ k) (hx : ys.take (n * sz) = xs) (s : Sat B (Own a c e sz k ys :: R) w) : (0 < n → a.isSome = true) ∧ ∀ j u, xs[j]? = some u → w.cell? ((adr a).add j) = some u := by
  have s2 : Sat B (Own a c e sz n xs :: R) w := s.mono fun _ hs => star_head_mono (fun _ ho => hx ▸ ho.short hn) hs
  have hf := Own.facts s2 .h
  exact (Own.rd (R := R) .h hf.1 hf.2.1).2.2 w s2
/-- The old slice reads as before. -/
theorem Twi.rd_old {e : TypeId} {sz : Nat} {a : Option Addr} {n c : Nat} {xs : List Value} {a' : Option Addr} {m c' : Nat} {ys : List Value} (hl : xs.length = n * sz) (hc : n ≤ c) : Rd B (Twi e sz a n c xs a' m c' ys :: R) a n c sz xs := by
  refine ⟨hl, hc, fun w s => ?_⟩
  rcases Twi.cases s with ⟨_, _, e3, e4, ho⟩ | ⟨n', zs, e3, e4, ho⟩
  · exact Own.rd_w e3 e4 ho
  · exact Own.rd_w e3 e4 ho
theorem Twi.rd_new {e : TypeId} {sz : Nat} {a : Option Addr} {n c : Nat} {xs : List Value} {a' : Option Addr} {m c' : Nat} {ys : List Value} (hl : ys.length = m * sz) (hc : m ≤ c') : Rd B (Twi e sz a n c xs a' m c' ys :: R) a' m c' sz ys := by
  refine ⟨hl, hc, fun w s => ?_⟩
  rcases Twi.cases s with ⟨rfl, rfl, e3, e4, ho⟩ | ⟨n', zs, e3, e4, ho⟩
  · exact Own.rd_w (Nat.le_refl _) (List.take_of_length_le (by rw [hl]; exact Nat.le_refl _)) ho
  · have ho2 : Sat B (Own a' c' e sz m ys :: Own a c e sz n' zs :: R) w := ho.mono fun _ hs => star_swap hs
    exact Own.rd_w (Nat.le_refl _) (List.take_of_length_le (by rw [hl]; exact Nat.le_refl _)) ho2
end
section
variable {B : World} {P : Program} {n : Fm} {E : Env} {H R : List HP} {ty : TypeId}
/-- append; the old slice may be kept. -/
theorem run_appendK {w : World} {t ty e : TypeId} {sz by_ : Nat} {z : Value} {a b : Option Addr} {c k m c2 : Nat} {xs ys : List Value}
    (ht : slcB P t = some (e, sz, by_)) (hz : zerB P e = some z) (hzs : z.cells.size = sz) (hS : Sat B (Own a c e sz k xs :: R) w)
    (hy : Rd B (Own a c e sz k xs :: R) b m c2 sz ys) (h1 : ∀ u ∈ ys, u.oneCell' = true) (hlen : k + m ≤ 140737488355328) (hby : (k + m) * by_ ≤ 140737488355328) :
    ∃ a' c' w', (Builtin.append_ #[t, t] ty #[.slice a k c, .slice b m c2]).run P w = .ok (.slice a' (k + m) c') w' ∧ k + m ≤ c' ∧
      ((a' = a ∧ c' = c ∧ Sat B (Own a c e sz (k + m) (xs ++ ys) :: R) w') ∨ Sat B (Own a c e sz k xs :: Own a' c' e sz (k + m) (xs ++ ys) :: R) w') := by
  obtain ⟨hu, i, hi, hisz, hiby⟩ := slcB_spec ht
  subst hisz hiby
  have hzi : i.zero = some z := by simpa [zerB, hi] using hz
  have hml : k + m ≤ maxLen := by unfold maxLen; omega
  obtain ⟨hxl, hkc, hcm⟩ := Own.facts hS .h
  have hyl := hy.1
  have hlen' : (xs ++ ys).length = (k + m) * i.size := by rw [List.length_append, hxl, hyl, Nat.add_mul]
  have grown : ∀ (old : Nat), old < k + m →
      Sat B (Own a c e i.size k xs :: Own (some ⟨w.heap.size, 0, none⟩) (grownCap w (k + m) old e) e i.size (k + m) (xs ++ ys) :: R) (w.drew.alloc (.cells (xs.toArray ++ ys.toArray ++ Builtin.zeroCells z.cells (grownCap w (k + m) old e - (k + m))) e)) := by
    intro old ho
    have hge := grownCap_ge w (k + m) old e
    have hcm := grownCap_le_maxLen w (k + m) old e hml
    have : Sat B (Own (some ⟨w.heap.size, 0, none⟩) (grownCap w (k + m) old e) e i.size (k + m) (xs ++ ys) :: Own a c e i.size k xs :: R) (w.drew.alloc (.cells (xs.toArray ++ ys.toArray ++ Builtin.zeroCells z.cells (grownCap w (k + m) old e - (k + m))) e)) := by
      refine hS.new rfl rfl rfl rfl fun h _ hb => ⟨hlen', hge, hcm, .inr ⟨_, _, rfl, hb, ?_, ?_⟩⟩
      · simp only [Array.size_append, List.size_toArray, size_zeroCells, hzs, hxl, hyl, ← Nat.add_mul]
        congr 1
        omega
      · simp only [Array.toList_append, List.append_assoc]
        rw [← List.append_assoc, ← hlen']
        exact List.take_left
    exact this.mono fun _ hs => star_swap hs
  rcases Nat.eq_zero_or_pos m with hm | hm
  · subst hm
    have hy0 : ys = [] := List.eq_nil_of_length_eq_zero (by simpa using hyl)
    subst hy0
    refine ⟨a, c, w, ?_, by omega, .inl ⟨rfl, rfl, by simpa using hS⟩⟩
    cases a <;> cases b <;> simp [Builtin.append_, run_underlying hu, sizeOf, typeInfo, hi, Builtin.lenOf, hkc, Builtin.firstCells, loadCells, loadCellsFrom, storeCells]
  · obtain ⟨bd, rfl, hcells⟩ := hy.cells hS hm
    rcases Own.to_row hS .h with ⟨rfl, rfl, rfl, rfl⟩ | ⟨g, cur, rfl, hg, hbg, hcs, ht'⟩
    · have hrun := run_append_nil (P := P) w t ty e i z hu hi hzi bd m c2 ys hyl hcells hm (by omega) (by simp only [Nat.zero_add] at hby; omega)
      have hgr := grown 0 (by omega)
      simp only [Nat.zero_add, Array.empty_append] at hgr hrun ⊢
      exact ⟨_, _, _, hrun, by have := grownCap_ge w m 0 e; omega, .inr hgr⟩
    · by_cases hroom : k + m ≤ c
      · have hfit : k * i.size + ys.length ≤ cur.size := by rw [hyl, hcs, ← Nat.add_mul]; exact Nat.mul_le_mul_right _ hroom
        have hrun := run_append_room (P := P) w t ty e i hu hi g k c cur hg bd m c2 ys hyl hcells h1 hroom hfit
        refine ⟨_, _, _, hrun, hroom, .inl ⟨rfl, rfl, hS.ownRow .h hg hlen' hroom hcm ?_ ?_⟩⟩
        · simp only [List.size_toArray, List.length_append, List.length_take, List.length_drop, Array.length_toList]
          omega
        · rw [ht', ← hlen']
          exact List.take_left
      · obtain ⟨ad, he, holds⟩ : ∃ ad, (some (⟨g, 0, none⟩ : Addr)) = some ad ∧ ∀ j u, xs[j]? = some u → w.cell? (ad.add j) = some u :=
          ⟨_, rfl, fun j u hu => by
            have := ((Own.rd (R := R) .h hxl hkc).2.2 w hS).2 j u hu
            simpa [adr] using this⟩
        cases he
        have hrun := run_append_grow (P := P) w t ty e i z hu hi hzi ⟨g, 0, none⟩ k c xs hxl holds bd m c2 ys hyl hcells (by omega) (by omega) (growslice_fits (by omega) hby)
        exact ⟨_, _, _, hrun, grownCap_ge w (k + m) c e, .inr (grown c (by omega))⟩
end
section
variable {B : World} {P : Program} {n : Fm} {l0 rest : List Oper} {E : Env} {H R : List HP} {Q : Exit → Act → World → Prop} (T : Tab P)
variable {d : Nat} {ty : TypeId} {pos : String} {af : Array Edge} {g : Option (Nat × Bool)} {x y : Operand} {t : TypeId}
/-- append to a slice whose older one is kept. -/
theorem RT.appT {e by_ sz : Nat} {z : Value} {a a' b : Option Addr} {c c' k m q c2 : Nat} {xs ys us : List Value}
    (hx : ev E x = some (.slice a' k c')) (hy : ev E y = some (.slice b m c2)) (ht : al T.slcs t = some (e, sz, by_))
    (hs : Sel H (Twi e sz a q c xs a' k c' ys) R) (hb : Rd B R b m c2 sz us) (h1 : ∀ u ∈ us, u.oneCell' = true) (hlen : k + m ≤ 140737488355328) (hby : (k + m) * by_ ≤ 140737488355328)
    (hz : al T.zers e = some z) (hzs : z.cells.size = sz) (hw : wt l0 E g = some true) (hd : Nat.blt d n = true)
    (kk : ∀ a'' c'', k + m ≤ c'' → RT B P n true l0 rest ((d, .slice a'' (k + m) c'') :: E) (Twi e sz a q c xs a'' (k + m) c'' (ys ++ us) :: R) Q) :
    RT B P n true l0 (⟨some d, .call { callee := .builtin .append, args := #[x, y], argTypes := #[t, t] }, ty, pos, af, g⟩ :: rest) E H Q :=
  RT.eff hw fun o aa w K ho hty hdd hA hS hK => by
    have key : ∃ a'' c'' w', (Builtin.append_ #[t, t] ty #[.slice a' k c', .slice b m c2]).run P w = .ok (.slice a'' (k + m) c'') w' ∧ k + m ≤ c'' ∧ Sat B (Twi e sz a q c xs a'' (k + m) c'' (ys ++ us) :: R) w' := by
      rcases Twi.cases (hS.sel hs) with ⟨rfl, rfl, e3, e4, ho⟩ | ⟨n', zs, e3, e4, ho⟩
      · have hyl := (Own.facts ho .h).1
        have e5 : (ys ++ us).take (q * sz) = xs := by rw [List.take_append_of_le_length (by rw [hyl]; exact Nat.mul_le_mul_right _ e3)]; exact e4
        obtain ⟨a'', c'', w', h2, h3, h4⟩ := run_appendK (ty := ty) (T.slc ht) (T.zer hz) hzs ho hb.cons h1 hlen hby
        rcases h4 with ⟨rfl, rfl, h5⟩ | h5
        · exact ⟨_, _, _, h2, h3, Twi.one (by omega) e5 h5⟩
        · exact ⟨_, _, _, h2, h3, Twi.two e3 e4 h5⟩
      · have ho2 : Sat B (Own a' c' e sz k ys :: Own a c e sz n' zs :: R) w := ho.mono fun _ hs => star_swap hs
        obtain ⟨a'', c'', w', h2, h3, h4⟩ := run_appendK (ty := ty) (T.slc ht) (T.zer hz) hzs ho2 hb.cons.cons h1 hlen hby
        rcases h4 with ⟨rfl, rfl, h5⟩ | h5
        · exact ⟨_, _, _, h2, h3, Twi.two e3 e4 (h5.mono fun _ hs => star_swap hs)⟩
        · exact ⟨_, _, _, h2, h3, Twi.two e3 e4 (h5.tail.mono fun _ hs => star_swap hs)⟩
    obtain ⟨a'', c'', w', hrun, hkc, hS'⟩ := key
    unfold Oper.wp execOp
    simp only [ho, hty, resolve, invoke, builtin, Sem.run_bind, Sem.run_pure, Result.andThen_ok, List.map_toArray, List.map_cons, List.map_nil, hA.ev hx, hA.ev hy, hrun]
    simp only [Oper.upon, hdd]
    exact hK _ _ (kk a'' c'' hkc _ _ (hA.put (by simpa [Nat.blt_eq] using hd) _) hS')
/-- append(x, v) where the older slice is kept. -/
theorem RT.pushT {d1 : Nat} {ty1 : TypeId} {pos1 : String} {af1 : Array Edge} {e by_ : Nat} {z v : Value} {a a' : Option Addr} {c c' k q : Nat} {xs ys : List Value}
    (hx : ev ((d1, undef) :: E) x = some (.slice a' k c')) (hy : ev E y = some v) (h1 : one1 v = true) (ht : al T.slcs t = some (e, 1, by_))
    (hs : Sel H (Twi e 1 a q c xs a' k c' ys) R) (hlen : k + 1 ≤ 140737488355328) (hby : (k + 1) * by_ ≤ 140737488355328)
    (hz : al T.zers e = some z) (hzs : z.cells.size = 1) (hd1 : Nat.blt d1 n = true) (hd : Nat.blt d n = true)
    (kk : ∀ a'' c'' b' c1, k + 1 ≤ c'' → RT B P n true l0 rest ((d, .slice a'' (k + 1) c'') :: (d1, .slice b' 1 c1) :: E) (Twi e 1 a q c xs a'' (k + 1) c'' (ys ++ [v]) :: R) Q) :
    RT B P n true l0 (⟨some d1, .buildSlice t 1 #[(0, y)], ty1, pos1, af1, none⟩ :: ⟨some d, .call { callee := .builtin .append, args := #[x, .tmp d1], argTypes := #[t, t] }, ty, pos, af, none⟩ :: rest) E H Q := by
  refine RT.bs T (parts := [(0, y)]) (l := [v]) (by simp [rowL, hy, h1]) rfl ht hz rfl rfl hd1 (fun b' c1 hc1 => ?_)
  refine RT.appT T (xs := xs) (ys := ys) (us := [v]) (R := Own b' c1 e 1 1 [v] :: R) (ev_other rfl hx (fun l => by simp) _) (by simp [ev, lk]) ht (.t hs) (Own.rd (R := R) .h rfl hc1) (fun u hu => by simp at hu; subst hu; exact one_one h1) hlen hby hz hzs rfl hd (fun a'' c'' hc => ?_)
  exact RT.weak (fun w h => h.mono fun _ hs => star_cons_mono (R := Own b' c1 e 1 1 [v] :: R) (fun _ hs' => by
    obtain ⟨_, _, _, _, l, _, r⟩ := hs'
    exact star_up _ l r) hs) (kk a'' c'' b' c1 hc)
end
end Go.Sk
end
section
/- A loop that makes no round. Plain theorems, no condition. -/
namespace Go.Sk
open Go.RowKit
section
variable {B : World} {P : Program} {n n' : Fm} {E : Env} {H : List HP} {Q : Exit → Act → World → Prop} {c : Code}
def LoopQ0 (Q : Exit → Act → World → Prop) : Exit → Act → World → Prop := Exit.then (fun _ _ => False) Q
theorem CT.loop0 (h : CT B P n c E H (LoopQ0 Q)) : CT B P n (.loop c) E H Q := by
  intro a w hA hS
  refine wpIn_loop (fun a w => Agr n E a ∧ Sat B H w) (fun _ _ => 0) ⟨hA, hS⟩ ?_
  intro a w hI
  refine wpIn_mono (h a w hI.1 hI.2) ?_
  intro e a' w' hq
  cases e <;> first | exact hq | exact False.elim hq
theorem AE {id : Nat} (h : AtQ B n' E H Q (.exit id)) : AtQ B n' E H (LoopQ0 Q) (.exit id) := h
theorem AF (h : AtQ B n' E H Q .ret) : AtQ B n' E H (LoopQ0 Q) .ret := h
instance {id : Nat} : Nx (AtQ B n' E H (LoopQ0 Q) (.exit id)) (AtQ B n' E H Q (.exit id)) := ⟨AE⟩
instance : Nx (AtQ B n' E H (LoopQ0 Q) .ret) (AtQ B n' E H Q .ret) := ⟨AF⟩
end
end Go.Sk
end
section
/- min of two numbers; facts out of a call of yield's pieces. Plain theorems, no condition. -/
namespace Go.Sk
open Go.RowKit
section
variable {B : World} {P : Program} {n : Fm} {m : Bool} {l0 rest : List Oper} {E : Env} {H R : List HP} {Q : Exit → Act → World → Prop}
variable {d : Nat} {ty : TypeId} {pos : String} {af : Array Edge} {g : Option (Nat × Bool)} {x y : Operand}
theorem RT.minI {ats : Array TypeId} {k k' : IntKind} {i j r : Int} (hx : ev E x = some (.int k i)) (hy : ev E y = some (.int k' j)) (hr : (if j < i then j else i) = r) (hw : wt l0 E g = some true) (hd : Nat.blt d n = true)
    (kt : RT B P n m l0 rest ((d, .int k r) :: E) H Q) : RT B P n m l0 (⟨some d, .call { callee := .builtin .min, args := #[x, y], argTypes := ats }, ty, pos, af, g⟩ :: rest) E H Q :=
  RT.y hw (by simpa [Nat.blt_eq] using hd) (y_run fun o aa w ho _ hA _ => by
    unfold execOp
    simp only [ho, resolve, invoke, builtin, List.map_toArray, List.map_cons, List.map_nil, hA.ev hx, hA.ev hy, Builtin.min_, List.foldlM_cons, List.foldlM_nil, Builtin.min2, Sem.run_bind, Sem.run_pure, Result.andThen_ok, pure_bind]
    rw [hr]) kt
theorem YJ.fact {p : Prop} {l : Nat} {vs : List Value} {Post : Bool → List HP → Prop} (hp : ∀ w, Sat B H w → p) (h : p → YJ B P l vs H Post) : YJ B P l vs H Post := fun w hS => h (hp w hS) w hS
theorem YJ.weak {H' : List HP} {l : Nat} {vs : List Value} {Post : Bool → List HP → Prop} (hm : ∀ w, Sat B H w → Sat B H' w) (h : YJ B P l vs H' Post) : YJ B P l vs H Post := fun w hS => h w (hm w hS)
end
end Go.Sk
end
section
/- A region whose order is open, within a round of a range over a function. Plain theorems, no condition. -/
namespace Go.Sk
open Go.RowKit
section
variable {B : World} {P : Program} {n : Fm} {E : Env} {H : List HP} {Q : Exit → Act → World → Prop}
theorem wpAnyIn_of_q {ops : Array Oper} {md : Region.Mode} {C : World → Prop} (m : Fm) (hnd : ∀ (i : Nat) (o : Oper), ops[i]? = some o → ∀ c, o.op ≠ .defer c) {Q1 : Act → Prop} {Q' : Exit → Act → World → Prop} (hQ : ∀ a w, C w → Q1 a → Q' .normal a w) :
    ∀ (fuel : Nat) (listed : Array Bool) (a : Act) (w : World), C w → wpAnyQ P md ops C Q1 fuel listed a → wpAnyIn m.fence 0 P md ops Q' fuel listed a w
  | 0, _, _, _, hw, h => ⟨h.1, hQ _ _ hw h.2⟩
  | fuel + 1, listed, a, w, hw, h => ⟨fun h0 => hQ _ _ hw (h.1 h0), fun i hi => by
      have hq := h.2 i hi
      unfold qOp at hq
      unfold wpOpIn
      split
      · rename_i ho
        simp only [ho] at hq
        exact wpAnyIn_of_q m hnd hQ fuel _ a w hw hq
      · rename_i o ho
        simp only [ho] at hq
        split
        · rename_i hwt
          simp only [hwt, if_true] at hq
          exact wpIn_of m (.inr (hnd i o ho)) (fun _ _ h => h) (Oper.wp_of_quiet hw (fun a' w' hw' h => wpAnyIn_of_q m hnd hQ fuel _ a' w' hw' h) hq)
        · rename_i hwt
          simp only [hwt] at hq
          exact ⟨fun _ _ => trivial, wpAnyIn_of_q m hnd hQ fuel _ _ w hw hq⟩⟩
theorem CT.quietR {id : Nat} {l : List Oper} (hm : P.follows .mixedOrders = true) (hB : Region.lexB .any l.toArray = true) (hnd : noDefer l = true) (h : RT B P n false l l E H Q) : CT B P n (.region id l.toArray true) E H Q := fun a w hA hS => by
  simp only [Region.lexB, Bool.and_eq_true] at hB
  have hd : ∀ (i : Nat) (o : Oper), l.toArray[i]? = some o → ∀ c, o.op ≠ .defer c := fun i o ho c hc => by
    have hm : o ∈ l := List.mem_of_getElem? (by simpa using ho)
    have := List.all_eq_true.1 hnd o hm
    simp [hc] at this
  have hq : wpQuiet P l.toArray (Sat B H) (fun a' => ∀ w, Sat B H w → Q .normal a' w) l a := h a hA
  refine wpIn_region_any hm (wpAnyIn_of_q n hd (C := Sat B H) (Q1 := fun a' => ∀ w', Sat B H w' → Q .normal a' w') (fun _ w' hw' h => h w' hw') _ _ _ _ (hS.drawn _) ?_)
  have := wpAnyQ_lex (P := P) (C := Sat B H) (md := .any) hB.1 l 0 (Array.replicate l.toArray.size false) a (by simp) (by simpa using hB.2) hq
  simpa using this
end
end Go.Sk
end
section
/- Functions that return, or panic with a known value. Plain theorems, no condition. -/
namespace Go.Sk
open Go.RowKit
/-- The chain of a panic that nobody has recovered. -/
abbrev pan (v : Value) : List PanicEntry := [{ v, recovered := false }]
/-- A function's contract: it returns such a value, or panics with such a one. -/
def SpP (B : World) (P : Program) (f : FuncId) (vs : List Value) (R Pre : List HP) (Post PP : Value → List HP → Prop) : Prop :=
  ∀ w, Sat B (Pre ++ R) w → Calls P f vs.toArray w fun e w' => (∃ v H', e = .returned v ∧ Post v H' ∧ Sat B (H' ++ R) w') ∨ ∃ v H', e = .panicked (pan v) ∧ PP v H' ∧ Sat B (H' ++ R) w'
def FinP (B : World) (P : Program) (fn : Func) (R : List HP) (Post PP : Value → List HP → Prop) : Exit → Act → World → Prop :=
  bodyPost P fn fun e w' => (∃ v H', e = .returned v ∧ Post v H' ∧ Sat B (H' ++ R) w') ∨ ∃ v H', e = .panicked (pan v) ∧ PP v H' ∧ Sat B (H' ++ R) w'
theorem Sp.toP {B : World} {P : Program} {f : FuncId} {vs : List Value} {R Pre : List HP} {Post PP : Value → List HP → Prop} (h : Sp B P f vs R Pre Post) : SpP B P f vs R Pre Post PP := fun w hS => (h w hS).mono fun _ _ h => .inl h
theorem SpP.body {B : World} {P : Program} {f : FuncId} {fn : Func} {c : Code} {n : Nat} {vs : List Value} {R Pre : List HP} {Post PP : Value → List HP → Prop}
    (hf : P.funcs[f]? = some fn) (hb : fn.body = some c) (hn : fn.ntmps = n) (hl : vs.length ≤ n)
    (h : CT B P (.mk0 n) c (argE 0 vs) (Pre ++ R) (FinP B P fn R Post PP)) : SpP B P f vs R Pre Post PP := by
  intro w hS
  refine calls_of_wp hf hb (wpIn_wide.1 (h _ w ⟨?_, rfl, fun t v e => ?_⟩ hS))
  · simp [hn]; omega
  · obtain ⟨_, e'⟩ := argE_lk vs 0 t v e
    have : t < vs.length := (List.getElem?_eq_some_iff.1 (by simpa using e')).1
    rw [Array.getElem?_append_left (by simpa using this)]
    simpa using e'
section
variable {B : World} {P : Program} {n : Nat} {E : Env} {H R : List HP} {fn : Func} {Post PP : Value → List HP → Prop}
/-- Behind a return all rules of a function that cannot panic serve. -/
theorem AtQ.ofFin (h : AtQ B (.mk0 n) E H (FinQ B P fn R Post) .ret) : AtQ B (.mk0 n) E H (FinP B P fn R Post PP) .ret := fun a w hA hS => by
  obtain ⟨h1, v, h2, h3⟩ := h a w hA hS
  exact ⟨h1, v, h2, .inl h3⟩
theorem AtQ.ofFinN (h : AtQ B (.mk0 n) E H (FinQ B P fn R Post) .normal) : AtQ B (.mk0 n) E H (FinP B P fn R Post PP) .normal := fun a w hA hS => by
  obtain ⟨h1, v, h2, h3⟩ := h a w hA hS
  exact ⟨h1, v, h2, .inl h3⟩
theorem AtQ.finP {v : Value} {H' : List HP} (hp : PP v H') (hs : ∀ w, Sat B H w → Sat B (H' ++ R) w) : AtQ B (.mk0 n) E H (FinP B P fn R Post PP) (.panic (pan v)) :=
  fun _ w hA hS => ⟨hA.defers, .inr ⟨v, H', rfl, hp, hs w hS⟩⟩
end
section
variable {B : World} {P : Program} {n n' : Fm} {E : Env} {H : List HP} {Q : Exit → Act → World → Prop} {c : Code} {id : Nat} {ch : List PanicEntry}
theorem AtQ.then_pan (h : AtQ B n' E H Q (.panic ch)) : AtQ B n' E H (Then n P c Q) (.panic ch) := h
theorem AtQ.block_pan (h : AtQ B n E H Q (.panic ch)) : AtQ B n E H (Exit.inBlock id Q) (.panic ch) := h
theorem AtQ.loop_pan {α : Type} {f : α → Env} {g : α → List HP} {μ : α → Nat} {z : α} (h : AtQ B n' E H Q (.panic ch)) : AtQ B n' E H (LoopQ B n f g μ z Q) (.panic ch) := h
theorem AtQ.cut_pan {α : Sort _} {f : α → Env} {g : α → List HP} (h : AtQ B n' E H Q (.panic ch)) : AtQ B n' E H (CutQ B n f g Q) (.panic ch) := h
instance : Nx (AtQ B n' E H (Then n P c Q) (.panic ch)) (AtQ B n' E H Q (.panic ch)) := ⟨AtQ.then_pan⟩
instance : Nx (AtQ B n E H (Exit.inBlock id Q) (.panic ch)) (AtQ B n E H Q (.panic ch)) := ⟨AtQ.block_pan⟩
instance {α : Type} {f : α → Env} {g : α → List HP} {μ : α → Nat} {z : α} : Nx (AtQ B n' E H (LoopQ B n f g μ z Q) (.panic ch)) (AtQ B n' E H Q (.panic ch)) := ⟨AtQ.loop_pan⟩
instance {α : Sort _} {f : α → Env} {g : α → List HP} : Nx (AtQ B n' E H (CutQ B n f g Q) (.panic ch)) (AtQ B n' E H Q (.panic ch)) := ⟨AtQ.cut_pan⟩
end
section
variable {B : World} {P : Program} {n : Fm} {E : Env} {H R : List HP} {ty : TypeId}
/-- A call of a function that may panic. -/
theorem x_callP (T : Tab P) {l0 rest : List Oper} {Q : Exit → Act → World → Prop} {d : Nat} {pos : String} {af : Array Edge} {g : Option (Nat × Bool)} {f : FuncId} {bb : Bool} {xs : List Operand} {vs : List Value} {ats : Array TypeId} {Pre : List HP} {Post PP : Value → List HP → Prop}
    (hw : wt l0 E g = some true) (hd : d < n.n) (hf : al T.funs f = some bb) (hv : evs E xs = some vs) (hq : SpP B P f vs R Pre Post PP) (hfr : Fr H Pre R)
    (kp : ∀ v H', PP v H' → AtQ B n E (H' ++ R) Q (.panic (pan v)))
    (k : ∀ v H', Post v H' → RT B P n true l0 rest ((d, v) :: E) (H' ++ R) Q) : RT B P n true l0 (⟨some d, .call { callee := .value (.func f), args := xs.toArray, argTypes := ats }, ty, pos, af, g⟩ :: rest) E H Q :=
  RT.eff hw fun o aa w K ho _ hdd hA hS hK => by
    unfold Oper.wp
    rw [exec_call T hf ho hA hv]
    simp only [Oper.upon, hdd]
    refine (hq w (hS.fr hfr)).mono fun e w' h => ?_
    rcases h with ⟨v, H', he, hp, hS'⟩ | ⟨v, H', he, hp, hS'⟩
    · subst he
      exact hK _ _ (k v H' hp _ _ (hA.put hd _) hS')
    · subst he
      exact kp v H' hp _ _ hA hS'
theorem RT.callP (T : Tab P) {l0 rest : List Oper} {Q : Exit → Act → World → Prop} {d : Nat} {pos : String} {af : Array Edge} {g : Option (Nat × Bool)} {f : FuncId} {bb : Bool} {xs : List Operand} {vs : List Value} {ats : Array TypeId} {Pre : List HP} {Post PP : Value → List HP → Prop}
    (qv : evs E xs = some vs) (qfr : Fr H Pre R) (qq : SpP B P f vs R Pre Post PP) (qf : al T.funs f = some bb) (qw : wt l0 E g = some true) (qd : Nat.blt d n.n = true)
    (kp : ∀ v H', PP v H' → AtQ B n E (H' ++ R) Q (.panic (pan v)))
    (qk : ∀ v H', Post v H' → RT B P n true l0 rest ((d, v) :: E) (H' ++ R) Q) : RT B P n true l0 (⟨some d, .call { callee := .value (.func f), args := xs.toArray, argTypes := ats }, ty, pos, af, g⟩ :: rest) E H Q :=
  x_callP T qw (by simpa [Nat.blt_eq] using qd) qf qv qq qfr kp qk
end
end Go.Sk
end
section
/- Maps that are owned. Plain theorems, no condition. -/
namespace Go.Sk
open Go.RowKit
/-- A map in block b: its entries, as they were made; the keys are of kind d. -/
def Mp (d : TypeDesc) (b : Nat) (l : List (Value × Value)) : HP := fun h => ∃ es ck, h b = some (.map es ck) ∧ es.toList.map (fun e => (e.key, e.val)) = l ∧ MapKept.Stamped es ck ∧ ∀ x ∈ es.toList, MapKept.IsKey d x.key
/-- What stands under a key. -/
def MGet (l : List (Value × Value)) (k : Value) : Option Value → Prop
  | none => ∀ x ∈ l, x.1 ≠ k
  | some v => ∃ i : Nat, l[i]? = some (k, v)
theorem keys_inj {es : List MapEntry} (hn : (es.map (·.key)).Nodup) {i j : Nat} {e e' : MapEntry} (hi : es[i]? = some e) (hj : es[j]? = some e') (h : e.key = e'.key) : i = j := by
  have h1 : (es.map (·.key))[i]? = some e.key := by rw [List.getElem?_map, hi]; rfl
  have h2 : (es.map (·.key))[j]? = some e.key := by rw [List.getElem?_map, hj, h]; rfl
  obtain ⟨l1, e1⟩ := List.getElem?_eq_some_iff.1 h1
  obtain ⟨l2, e2⟩ := List.getElem?_eq_some_iff.1 h2
  exact (List.getElem_inj hn).1 (e1.trans e2.symm)
theorem findNow_get {d : TypeDesc} {k : Value} {es : Array MapEntry} {ck : Nat} (hk : MapKept.IsKey d k) (hs : MapKept.Stamped es ck) (hks : ∀ x ∈ es.toList, MapKept.IsKey d x.key) {r : Option Value} (hg : MGet (es.toList.map fun e => (e.key, e.val)) k r) :
    (r = none ∧ Instr.findNow d k es.toList 0 = some none) ∨ ∃ (j : Nat) (e : MapEntry), r = some e.val ∧ Instr.findNow d k es.toList 0 = some (some (j, e.val)) ∧ es.toList[j]? = some e ∧ e.key = k := by
  rcases MapKept.findNow_spec hk es.toList 0 hks with ⟨h1, h2⟩ | ⟨j, e, h1, h2, h3⟩
  · cases r with
    | none => exact .inl ⟨rfl, h1⟩
    | some v =>
      obtain ⟨i, hi⟩ := hg
      rw [List.getElem?_map] at hi
      obtain ⟨e, he, he2⟩ := Option.map_eq_some_iff.1 hi
      cases he2
      exact absurd rfl (h2 e (List.mem_of_getElem? he))
  · rw [Nat.zero_add] at h1
    cases r with
    | none => exact absurd h3 (hg (e.key, e.val) (List.mem_map.2 ⟨e, List.mem_of_getElem? h2, rfl⟩))
    | some v =>
      obtain ⟨i, hi⟩ := hg
      rw [List.getElem?_map] at hi
      obtain ⟨e', he, he2⟩ := Option.map_eq_some_iff.1 hi
      simp only [Prod.mk.injEq] at he2
      obtain ⟨e1, rfl⟩ := he2
      have := keys_inj hs.2.2 he h2 (by rw [e1, h3])
      subst this
      rw [he] at h2
      cases h2
      exact .inr ⟨i, _, rfl, h1, he, h3⟩
section
variable {B : World} {P : Program} {n : Fm} {l0 rest : List Oper} {E : Env} {H R : List HP} {Q : Exit → Act → World → Prop} {d : Nat} {ty : TypeId} {pos : String} {af : Array Edge} {g : Option (Nat × Bool)} {x y z : Operand} {m : Bool}
theorem Sat.mp {dk : TypeDesc} {b : Nat} {l : List (Value × Value)} {w : World} (hS : Sat B H w) (s : Sel H (Mp dk b l) R) : ∃ es ck, w.heap[b]? = some (.map es ck) ∧ es.toList.map (fun e => (e.key, e.val)) = l ∧ MapKept.Stamped es ck ∧ ∀ x ∈ es.toList, MapKept.IsKey dk x.key := by
  obtain ⟨h, a, h1, h2, dj, l1, l2, ⟨es, ck, hb, q⟩, hr⟩ := (hS.sel s).heap
  exact ⟨es, ck, (a b _ (l1 b _ hb)).1, q⟩
theorem RT.mkmap {t : TypeId} (dk : TypeDesc) (hw : wt l0 E g = some true) (hd : Nat.blt d n = true)
    (k : ∀ b, RT B P n true l0 rest ((d, .map (some b)) :: E) (Mp dk b [] :: H) Q) : RT B P n true l0 (⟨some d, .makeMap t none, ty, pos, af, g⟩ :: rest) E H Q :=
  RT.eff hw fun o aa w K ho hty hdd hA hS hK => by
    have hex : (execOp aa.eval o).run P w = .ok (.value (.map (some w.heap.size))) (w.alloc (.map #[] 0)) := by
      unfold execOp
      simp [ho, Instr.makeMap]
    have hS' : Sat B (Mp dk w.heap.size [] :: H) (w.alloc (.map #[] 0)) := hS.new rfl rfl rfl rfl fun h _ hb => ⟨#[], 0, hb, rfl, MapKept.stamped_empty 0, fun x hx => by simp at hx⟩
    unfold Oper.wp
    rw [hex]
    simp only [Oper.upon, hdd]
    exact hK _ _ (k w.heap.size _ _ (hA.put (by simpa [Nat.blt_eq] using hd) _) hS')
theorem RT.lookup {t kt et : TypeId} {dk : TypeDesc} {b : Nat} {l : List (Value × Value)} {kv zv : Value} {r : Option Value} (T : Tab P) (hx : ev E x = some (.map (some b))) (hy : ev E y = some kv) (s : Sel H (Mp dk b l) R) (hk : MapKept.IsKey dk kv) (hg : MGet l kv r)
    (hm : P.underlying t = some (.map kt et)) (hd1 : P.underlying kt = some dk) (hz : al T.zers et = some zv) (hw : wt l0 E g = some true) (hd : Nat.blt d n = true)
    (kt' : RT B P n m l0 rest ((d, r.getD zv) :: E) H Q) : RT B P n m l0 (⟨some d, .lookup t x y false, ty, pos, af, g⟩ :: rest) E H Q :=
  RT.y hw (by simpa [Nat.blt_eq] using hd) (y_run fun o aa w ho _ hA hS => by
    obtain ⟨es, ck, hb, rfl, hst, hks⟩ := hS.mp s
    have hgo := MapKept.run_getObj_map (P := P) hb
    have hck := MapKept.run_checkKey (P := P) (w := w) hd1 hk es.isEmpty 9999
    unfold execOp
    rcases findNow_get hk hst hks hg with ⟨rfl, f1⟩ | ⟨j, e, rfl, f1, f2, f3⟩
    · have hfk := MapKept.run_findKey (P := P) (w := w) (kt := kt) hd1 f1
      have hzz : (zeroValue et).run P w = .ok zv w := zerB_spec (T.zer hz)
      simp only [ho, hA.ev hx, hA.ev hy, Instr.lookup, Sem.run_bind, run_underlying hm, Result.andThen_ok, Sem.run_pure, hgo, hck, hfk, hzz]
      rfl
    · have hfk := MapKept.run_findKey (P := P) (w := w) (kt := kt) hd1 f1
      simp only [ho, hA.ev hx, hA.ev hy, Instr.lookup, Sem.run_bind, run_underlying hm, Result.andThen_ok, Sem.run_pure, hgo, hck, hfk]
      rfl) kt'
/-- A new entry. -/
theorem RT.mapNew {t kt et : TypeId} {dk : TypeDesc} {b : Nat} {l : List (Value × Value)} {kv vv : Value} {H' : List HP} (hx : ev E x = some (.map (some b))) (hy : ev E y = some kv) (hzv : ev E z = some vv) (hr : Rep H (Mp dk b l) (Mp dk b (l ++ [(kv, vv)])) H') (hk : MapKept.IsKey dk kv) (hg : MGet l kv none)
    (hm : P.underlying t = some (.map kt et)) (hd1 : P.underlying kt = some dk) (hw : wt l0 E g = some true)
    (k : RT B P n true l0 rest E H' Q) : RT B P n true l0 (⟨none, .mapUpdate t x y z, ty, pos, af, g⟩ :: rest) E H Q :=
  RT.eff hw fun o aa w K ho hty hdd hA hS hK => by
    obtain ⟨R, s1, s2⟩ := hr.sel
    obtain ⟨es, ck, hb, rfl, hst, hks⟩ := hS.mp s1
    have hgo := MapKept.run_getObj_map (P := P) hb
    have hck := MapKept.run_checkKey (P := P) (w := w) hd1 hk false 9999
    have f1 : Instr.findNow dk kv es.toList 0 = some none := by
      rcases findNow_get hk hst hks hg with ⟨_, f1⟩ | ⟨j, e, h1, _⟩
      · exact f1
      · cases h1
    have hfk := MapKept.run_findKey (P := P) (w := w) (kt := kt) hd1 f1
    have hso := MapKept.run_setObj_map (P := P) (.map (es.push ⟨kv, vv, ck⟩) (ck + 1)) hb
    have hex : (execOp aa.eval o).run P w = .ok .skip { w with heap := w.heap.setIfInBounds b (.map (es.push ⟨kv, vv, ck⟩) (ck + 1)) } := by
      unfold execOp
      simp only [ho, hA.ev hx, hA.ev hy, hA.ev hzv, Instr.mapUpdate, Sem.run_bind, run_underlying hm, Result.andThen_ok, Sem.run_pure, hgo, hck, hfk, hso]
    obtain ⟨q1, q2⟩ := MapKept.heap_set (o' := Obj.map (es.push ⟨kv, vv, ck⟩) (ck + 1)) hb
    have hne : ∀ x ∈ es.toList, x.key ≠ kv := fun x hx' => hg (x.key, x.val) (List.mem_map.2 ⟨x, hx', rfl⟩)
    have hS' : Sat B H' { w with heap := w.heap.setIfInBounds b (.map (es.push ⟨kv, vv, ck⟩) (ck + 1)) } :=
      hS.upd (b := b) (o' := .map (es.push ⟨kv, vv, ck⟩) (ck + 1)) hr (fun h ⟨_, _, hh, _⟩ => ⟨_, hh⟩) (fun h h' _ _ hb' => ⟨_, _, hb', by simp, MapKept.stamped_push hst hne, fun x hx' => by
        rw [Array.toList_push, List.mem_append, List.mem_singleton] at hx'
        rcases hx' with hx' | rfl
        · exact hks x hx'
        · exact hk⟩) rfl rfl rfl (by simp) q1 q2
    unfold Oper.wp
    rw [hex]
    simp only [Oper.upon, hdd]
    exact hK _ _ (k _ _ hA hS')
/-- An entry's value is another one. -/
theorem RT.mapSet {t kt et : TypeId} {dk : TypeDesc} {b i : Nat} {l : List (Value × Value)} {kv vv v0 : Value} {H' : List HP} (hx : ev E x = some (.map (some b))) (hy : ev E y = some kv) (hzv : ev E z = some vv) (hr : Rep H (Mp dk b l) (Mp dk b (l.set i (kv, vv))) H') (hk : MapKept.IsKey dk kv) (hg : l[i]? = some (kv, v0))
    (hm : P.underlying t = some (.map kt et)) (hd1 : P.underlying kt = some dk) (hw : wt l0 E g = some true)
    (k : RT B P n true l0 rest E H' Q) : RT B P n true l0 (⟨none, .mapUpdate t x y z, ty, pos, af, g⟩ :: rest) E H Q :=
  RT.eff hw fun o aa w K ho hty hdd hA hS hK => by
    obtain ⟨R, s1, s2⟩ := hr.sel
    obtain ⟨es, ck, hb, rfl, hst, hks⟩ := hS.mp s1
    have hgo := MapKept.run_getObj_map (P := P) hb
    have hck := MapKept.run_checkKey (P := P) (w := w) hd1 hk false 9999
    rcases findNow_get hk hst hks (r := some v0) ⟨i, hg⟩ with ⟨h1, _⟩ | ⟨j, e, _, f1, f2, f3⟩
    · cases h1
    have hij : j = i := by
      rw [List.getElem?_map] at hg
      obtain ⟨e', he, he2⟩ := Option.map_eq_some_iff.1 hg
      simp only [Prod.mk.injEq] at he2
      exact keys_inj hst.2.2 f2 he (by rw [f3, he2.1])
    subst hij
    have hfk := MapKept.run_findKey (P := P) (w := w) (kt := kt) hd1 f1
    have hget : ((es[j]?).map (·.key)).getD kv = kv := by
      rw [← Array.getElem?_toList, f2]
      simp [f3]
    have hst2 : (Instr.keyThatStays kv kv).run P w = .ok kv w := MapKept.run_keyThatStays hk
    have hso := MapKept.run_setObj_map (P := P) (.map (es.modify j fun x => { x with key := kv, val := vv }) ck) hb
    have hex : (execOp aa.eval o).run P w = .ok .skip { w with heap := w.heap.setIfInBounds b (.map (es.modify j fun x => { x with key := kv, val := vv }) ck) } := by
      unfold execOp
      simp only [ho, hA.ev hx, hA.ev hy, hA.ev hzv, Instr.mapUpdate, Sem.run_bind, run_underlying hm, Result.andThen_ok, Sem.run_pure, hgo, hck, hfk, hget, hst2, hso]
    obtain ⟨q1, q2⟩ := MapKept.heap_set (o' := Obj.map (es.modify j fun x => { x with key := kv, val := vv }) ck) hb
    have hkm : ∀ e', es[j]? = some e' → ({ e' with key := kv, val := vv } : MapEntry).key = e'.key := fun e' he => by
      rw [← Array.getElem?_toList, f2] at he
      cases he
      exact f3.symm
    have hS' : Sat B H' { w with heap := w.heap.setIfInBounds b (.map (es.modify j fun x => { x with key := kv, val := vv }) ck) } :=
      hS.upd (b := b) (o' := .map (es.modify j fun x => { x with key := kv, val := vv }) ck) hr (fun h ⟨_, _, hh, _⟩ => ⟨_, hh⟩) (fun h h' _ _ hb' => ⟨_, _, hb', by
        rw [Array.toList_modify]
        apply List.ext_getElem?
        intro q
        rw [List.getElem?_map, List.getElem?_modify, List.getElem?_set, List.getElem?_map]
        by_cases hq : j = q
        · subst hq
          have hlt : j < es.size := by have := (List.getElem?_eq_some_iff.1 f2).1; simpa using this
          simp [f2, hlt]
        · simp [hq], MapKept.stamped_modify hst j _ (fun _ _ => rfl) (fun e' _ he => hkm e' he), MapKept.isKey_modify hks j _ hkm⟩) rfl rfl rfl (by simp) q1 q2
    unfold Oper.wp
    rw [hex]
    simp only [Oper.upon, hdd]
    exact hK _ _ (k _ _ hA hS')
/-- A call of a function value that holds something. -/
theorem RT.callC (T : Tab P) {f : FuncId} {bb : Bool} {xs : List Operand} {vs : List Value} {caps : List Value} {ats : Array TypeId} {Pre : List HP} {Post : Value → List HP → Prop}
    (qx : ev E x = some (.func (.func f) #[] caps.toArray)) (qv : evs E xs = some vs) (qfr : Fr H Pre R) (qq : Sp B P f (vs ++ caps) R Pre Post) (qf : al T.funs f = some bb) (qw : wt l0 E g = some true) (qd : Nat.blt d n = true)
    (qk : ∀ v H', Post v H' → RT B P n true l0 rest ((d, v) :: E) (H' ++ R) Q) : RT B P n true l0 (⟨some d, .call { callee := .value x, args := xs.toArray, argTypes := ats }, ty, pos, af, g⟩ :: rest) E H Q :=
  RT.eff qw fun o aa w K ho _ hdd hA hS hK => by
    have hrun : (execOp aa.eval o).run P w = .ok (.enter f (vs ++ caps).toArray) w := by
      unfold execOp
      have hm : xs.map aa.eval = vs := hA.evs qv
      simp only [ho, resolve, Sem.run_bind, List.map_toArray, hm, hA.ev qx, Deferred.ofValue, Sem.run_pure, Result.andThen_ok, invoke]
      simpa using run_call (T := T) qf
    unfold Oper.wp
    rw [hrun]
    simp only [Oper.upon, hdd]
    refine (qq w (hS.fr qfr)).mono fun e w' ⟨v, H', he, hp, hS'⟩ => ?_
    subst he
    exact hK _ _ (qk v H' hp _ _ (hA.put (by simpa [Nat.blt_eq] using qd) _) hS')
theorem RT.maxI {ats : Array TypeId} {k k' : IntKind} {i j r : Int} (hx : ev E x = some (.int k i)) (hy : ev E y = some (.int k' j)) (hr : (if i < j then j else i) = r) (hw : wt l0 E g = some true) (hd : Nat.blt d n = true)
    (kt : RT B P n m l0 rest ((d, .int k r) :: E) H Q) : RT B P n m l0 (⟨some d, .call { callee := .builtin .max, args := #[x, y], argTypes := ats }, ty, pos, af, g⟩ :: rest) E H Q :=
  RT.y hw (by simpa [Nat.blt_eq] using hd) (y_run fun o aa w ho _ hA _ => by
    unfold execOp
    simp only [ho, resolve, invoke, builtin, List.map_toArray, List.map_cons, List.map_nil, hA.ev hx, hA.ev hy, Builtin.max_, List.foldlM_cons, List.foldlM_nil, Builtin.max2, Sem.run_bind, Sem.run_pure, Result.andThen_ok, pure_bind]
    rw [hr]) kt
end
end Go.Sk
end
section
/- A struct's comparison with a struct that is alike. Plain theorems, no condition. -/
namespace Go.Sk
open Go.RowKit
def okF (P : Program) (t : TypeId) (v : Value) : Bool := match P.underlying t, v with
  | some (.int _), .int _ _ => true
  | some .bool, .bool _ => true
  | some .string, .string _ => true
  | _, _ => false
def sameS (P : Program) (t : TypeId) (xs : List Value) : Bool := match P.underlying t with
  | some (.struct fs) => !P.stoodInHeld t && !P.eqGuardType P.depth t && fs.toList.all fun f => match xs[f.offset]? with
    | some v => okF P f.type v
    | none => false
  | _ => false
theorem okF_eq {P : Program} {t : TypeId} {v : Value} (h : okF P t v = true) (w : World) (d : Nat) : (Op.equalIn (d + 1) t v v).run P w = .ok true w := by
  unfold okF at h
  split at h
  · rename_i k k' n hu
    simp [run_equalIn_int w d t k' k n n hu]
  · rename_i b hu
    simp [run_equalIn_bool' w d t b b hu]
  · rename_i s hu
    simp [run_equalIn_string w d t s s hu]
  · cases h
theorem okF_part {P : Program} {t : TypeId} {v : Value} (h : okF P t v = true) (w : World) {xs : List Value} {i : Nat} (hi : xs[i]? = some v) : (part t xs.toArray i).run P w = .ok v w := by
  have hx : xs.toArray[i]? = some v := by simpa using hi
  unfold okF at h
  split at h
  · rename_i k k' n hu
    simp [part, isAgg, run_underlying hu, hx]
  · rename_i b hu
    simp [part, isAgg, run_underlying hu, hx]
  · rename_i s hu
    simp [part, isAgg, run_underlying hu, hx]
  · cases h
theorem eqFields_same {P : Program} {w : World} {d : Nat} {xs : List Value} : ∀ {fs : List Field}, (fs.all fun f => match xs[f.offset]? with
    | some v => okF P f.type v
    | none => false) = true → (Op.eqFields (d + 1) xs.toArray xs.toArray fs).run P w = .ok true w
  | [], _ => rfl
  | f :: fs, h => by
    rw [List.all_cons, Bool.and_eq_true] at h
    obtain ⟨h1, h2⟩ := h
    have ih := eqFields_same (w := w) (d := d) h2
    split at h1
    · rename_i v hv
      have hp := okF_part h1 w hv
      have he := okF_eq h1 w d
      simp only [Op.eqFields]
      split
      · simp only [Sem.run_bind, hp, Result.andThen_ok, he, Bool.not_true, Bool.false_eq_true, if_false]
        exact ih
      · exact ih
    · cases h1
section
variable {B : World} {P : Program} {n : Fm} {m : Bool} {l0 rest : List Oper} {E : Env} {H : List HP} {Q : Exit → Act → World → Prop} {d : Nat} {ty t t' : TypeId} {pos : String} {af : Array Edge} {g : Option (Nat × Bool)} {x y : Operand}
theorem RT.neS {xs : List Value} (hx : ev E x = some (.agg xs.toArray)) (hy : ev E y = some (.agg xs.toArray)) (hs : sameS P t xs = true) (hw : wt l0 E g = some true) (hd : Nat.blt d n = true)
    (k1 : RT B P n m l0 rest ((d, .bool false) :: E) H Q) : RT B P n m l0 (⟨some d, .binOp .neq t x y t', ty, pos, af, g⟩ :: rest) E H Q := by
  have hy2 : Yld B P n E H (.binOp .neq t x y t') ty (.bool false) := y_run fun o aa w ho _ hA _ => by
    unfold sameS at hs
    split at hs
    · rename_i fs hu
      rw [Bool.and_eq_true, Bool.and_eq_true] at hs
      obtain ⟨⟨h1, h2⟩, h3⟩ := hs
      have hf : P.fieldsOf t = fs := by unfold Program.fieldsOf; rw [hu]
      have e1 := run_eqGuard_agg (P := P) w .neq t x y xs.toArray xs.toArray (by simpa using h2)
      have e2 : (Op.equalIn 10000 t (.agg xs.toArray) (.agg xs.toArray)).run P w = .ok true w := by
        rw [show (10000 : Nat) = 9998 + 1 + 1 from rfl, run_equalIn_struct w (9998 + 1) t _ _ (by rw [hf]; exact hu) (by simpa using h1), hf]
        exact eqFields_same h3
      unfold execOp
      simp only [ho, hA.ev hx, hA.ev hy, e1, Sem.run_bind, Result.andThen_ok, run_neq_struct, e2]
      rfl
    · cases hs
  exact RT.y hw (by simpa [Nat.blt_eq] using hd) hy2 k1
end
end Go.Sk
end
section
/- Stores into owned rows of structs: a cell, a whole struct. Plain theorems, no condition. -/
namespace Go.Sk
open Go.RowKit
theorem take_mid {xs ys v : List Value} {j : Nat} (h : j + v.length ≤ xs.length) :
    ((xs ++ ys).take j ++ v ++ (xs ++ ys).drop (j + v.length)).take xs.length = xs.take j ++ v ++ xs.drop (j + v.length) := by
  have e1 : (xs ++ ys).take j = xs.take j := List.take_append_of_le_length (by omega)
  have e2 : (xs ++ ys).drop (j + v.length) = xs.drop (j + v.length) ++ ys := List.drop_append_of_le_length h
  rw [e1, e2, ← List.append_assoc]
  exact List.take_left' (by simp; omega)
section
variable {B : World} {P : Program} {n : Fm} {l0 rest : List Oper} {E : Env} {H R : List HP} {Q : Exit → Act → World → Prop} (T : Tab P) {ty t : TypeId} {pos : String} {af : Array Edge} {g : Option (Nat × Bool)} {x y : Operand}
theorem RT.stoA {b : Option Addr} {c k e j sz z : Nat} {xs v : List Value} {H' : List HP} (hx : ev E x = some (.pointer (some ((adr b).add j)))) (hy : ev E y = some (.agg v.toArray)) (h1 : v.all (fun u => u.oneCell') = true)
    (hr : Rep H (Own b c e sz k xs) (Own b c e sz k (xs.take j ++ v ++ xs.drop (j + v.length))) H') (hj : j + v.length ≤ xs.length) (hv : 0 < v.length) (hz : v.length = z) (ht : al T.szs t = some (z, true)) (hw : wt l0 E g = some true)
    (kt : RT B P n true l0 rest E H' Q) : RT B P n true l0 (⟨none, .store t x y, ty, pos, af, g⟩ :: rest) E H Q :=
  RT.eff hw fun o a w K ho _ hd hA hS hK => by
    subst hz
    obtain ⟨R, s1, s2⟩ := hr.sel
    obtain ⟨hl, hkc, hcm⟩ := Own.facts hS s1
    rcases Own.to_row hS s1 with ⟨_, _, _, rfl⟩ | ⟨gb, cur, rfl, hg, hbg, hcs, htk⟩
    · have h0 : ([] : List Value).length = 0 := rfl
      omega
    · have hcur : cur = cur.toList.toArray := by simp
      have hg' : w.heap[gb]? = some (.cells cur.toList.toArray e (0, 0)) := by rw [← hcur]; exact hg
      have hsp : cur.toList = xs ++ cur.toList.drop (k * sz) := by rw [← htk, List.take_append_drop]
      have hjc : j + 0 + v.length ≤ cur.toList.toArray.size := by
        have : cur.toList.length = xs.length + (cur.toList.drop (k * sz)).length := by rw [← List.length_append, ← hsp]
        simp only [List.size_toArray]
        omega
      have hrun := run_storeCells_at P gb j e v 0 cur.toList.toArray w hg' hjc (fun u hu => List.all_eq_true.1 h1 u hu)
      unfold Oper.wp execOp
      have hsz := (T.sz ht).1
      simp only [ho, hA.ev hx, hA.ev hy, Instr.storeAt, Instr.sureAddr, Sem.run_bind, Sem.run_pure, Result.andThen_ok, storeVar, run_sizeB hsz, Value.cells]
      simp only [List.size_toArray, ne_eq, not_true, if_false, Sem.run_pure, Result.andThen_ok, adr, Option.getD_some, addr_add, hrun, Sem.run_bind]
      simp only [Oper.upon, hd, Act.put]
      refine hK _ _ (kt _ _ hA ?_)
      refine Sat.ownRow hS hr hg (by simp; omega) hkc hcm ?_ ?_
      · have hcl : cur.toList.length = c * sz := by simpa using hcs
        simp at hjc ⊢
        omega
      · have h2 := take_mid (ys := cur.toList.drop (k * sz)) hj
        rw [← hsp, hl] at h2
        simpa using h2
theorem RT.stoZ {b : Option Addr} {c k e j sz : Nat} {xs : List Value} {v : Value} {H' : List HP} (hx : ev E x = some (.pointer (some ((adr b).add j)))) (hy : ev E y = some v) (h1 : one1 v = true)
    (hr : Rep H (Own b c e sz k xs) (Own b c e sz k (xs.set j v)) H') (hj : j < xs.length) (ht : al T.szs t = some (1, false)) (hw : wt l0 E g = some true)
    (kt : RT B P n true l0 rest E H' Q) : RT B P n true l0 (⟨none, .store t x y, ty, pos, af, g⟩ :: rest) E H Q :=
  RT.eff hw fun o a w K ho _ hd hA hS hK => by
    obtain ⟨R, s1, s2⟩ := hr.sel
    obtain ⟨hl, hkc, hcm⟩ := Own.facts hS s1
    rcases Own.to_row hS s1 with ⟨_, _, _, rfl⟩ | ⟨gb, cur, rfl, hg, hbg, hcs, htk⟩
    · simp at hj
    · have hcur : cur = cur.toList.toArray := by simp
      have hg' : w.heap[gb]? = some (.cells cur.toList.toArray e (0, 0)) := by rw [← hcur]; exact hg
      have hjc : j < cur.toList.length := by
        rw [← htk] at hj
        have := List.length_take_le (k * sz) cur.toList
        rw [List.length_take] at hj
        omega
      have hs1 := run_store1 (P := P) h1 hg' hjc
      unfold Oper.wp execOp
      have hsz := (T.sz ht).1
      simp only [ho, hA.ev hx, hA.ev hy, Instr.storeAt, Instr.sureAddr, Sem.run_bind, Sem.run_pure, Result.andThen_ok, storeVar, run_sizeB hsz, one1_cells h1]
      simp only [List.size_toArray, List.length_cons, List.length_nil, Nat.zero_add, ne_eq, not_true, if_false, Sem.run_pure, Result.andThen_ok, storeCells, addr_add0, adr, Option.getD_some, addr_add, hs1, Sem.run_bind]
      simp only [Oper.upon, hd, Act.put]
      refine hK _ _ (kt _ _ hA ?_)
      refine hS.upd (b := gb) (o' := .cells (cur.toList.set j v).toArray e (0, 0)) hr (fun h hh => ?_) (fun h h' hh hne hb => ?_) rfl rfl rfl (setCell_size _ _ _) (setCell_heap hg') (fun z hz => setCell_ne _ _ _ _ hz)
      · obtain ⟨_, _, _, hp⟩ := hh
        rcases hp with ⟨h, _⟩ | ⟨g', cur', h, hgg, _⟩
        · cases h
        · cases h; exact ⟨_, hgg⟩
      · refine ⟨by simp [hl], hkc, hcm, .inr ⟨gb, _, rfl, hb, by simpa using hcs, ?_⟩⟩
        simp only
        rw [List.take_set, htk]
end
section
variable {B : World} {R : List HP} {w : World}
theorem Bag.split {qs ps : List HP} (s : Sat B (Bag (qs ++ ps) :: R) w) : Sat B (qs ++ (Bag ps :: R)) w := by
  have h := Bag.open_ s
  rw [List.append_assoc] at h
  refine h.mono fun hh hs => ?_
  obtain ⟨x, y, d, lx, ly, hb, hr⟩ := star_cut qs hs
  exact star_glue qs d lx ly hb (by
    obtain ⟨x2, y2, d2, lx2, ly2, hb2, hr2⟩ := star_cut ps hr
    exact ⟨x2, y2, d2, lx2, ly2, hb2, hr2⟩)
end
end Go.Sk
end
