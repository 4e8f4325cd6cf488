/- More rules: texts behind slices (append), unsafe.SliceData and unsafe.String of an owned row, what a contract with 'Below' keeps. Plain theorems, no condition. -/
import Derived.Test.YtbpelgbblpeojabSk15
import Derived.Lib.AppendStr
import Derived.Lib.UnsafeStr
import Derived.Below
set_option linter.unusedVariables false
set_option linter.unusedSimpArgs false
namespace Go.Sk
open Go.RowKit
theorem Sat.below {B : World} {H : List HP} {w w' : World} (s : Sat B H w) (h : Below w.heap.size w w') : Sat B H w' := by
  obtain ⟨g, a, hs⟩ := s.heap
  refine ⟨h.os.trans s.os, h.output.trans s.output, h.tape.trans s.tape, Nat.le_trans s.size h.size, fun x hx => (h.block x (by have := s.size; omega)).trans (s.base x hx), g, fun b o e => ?_, hs⟩
  have h1 := a b o e
  exact ⟨(h.block b (Array.getElem?_eq_some_iff.1 h1.1).1).trans h1.1, h1.2⟩
theorem strCells_str {l : List Int} (h : Byt l) : Lib.strCells (str l) = ints .u8 l := by
  unfold Lib.strCells
  rw [str_list, List.map_map]
  exact List.map_congr_left fun x hx => by simp only [Function.comp, b8_nat (h x hx)]
section
variable {B : World} {P : Program} {n : Fm} {m : Bool} {l0 rest : List Oper} {E : Env} {H R : List HP} {Q : Exit → Act → World → Prop} (T : Tab P)
variable {d : Nat} {ty : TypeId} {pos : String} {af : Array Edge} {g : Option (Nat × Bool)} {x y y' : Operand} {t t' : TypeId}
theorem QSp.below {f : FuncId} {vs : List Value} {v : Value} (h : ∀ w, Sat B H w → Calls P f vs.toArray w fun e w' => e = .returned v ∧ Below w.heap.size w w') : QSp B P f vs H v :=
  fun w hS => (h w hS).mono fun e w' ⟨he, hb⟩ => ⟨he, hS.below hb⟩
theorem QSp.same {f : FuncId} {vs : List Value} {v : Value} (h : ∀ w, Sat B H w → Calls P f vs.toArray w fun e w' => e = .returned v ∧ w' = w) : QSp B P f vs H v :=
  fun w hS => (h w hS).mono fun e w' ⟨he, hb⟩ => ⟨he, hb ▸ hS⟩
theorem run_appendS {w : World} {t u ty e : TypeId} {a : Option Addr} {c k : Nat} {xs : List Value} {s : ByteArray} {H' : Option Addr → Nat → List HP}
    (ht : slcB P t = some (e, 1, 1)) (hu : P.underlying u = some .string) (hz : zerB P e = some (.int .u8 0)) (hS : Sat B H w) (hr : ∀ a' c', Rep H (Own a c e 1 k xs) (Own a' c' e 1 (k + s.size) (xs ++ Lib.strCells s)) (H' a' c'))
    (hlen : k + s.size ≤ 140737488355328) :
    ∃ a' c' w', (Builtin.append_ #[t, u] ty #[.slice a k c, .string s]).run P w = .ok (.slice a' (k + s.size) c') w' ∧ Sat B (H' a' c') w' ∧ k + s.size ≤ c' := by
  obtain ⟨hut, i, hi, hisz, hiby⟩ := slcB_spec ht
  have hzi : i.zero = some (.int .u8 0) := by simpa [zerB, hi] using hz
  have hml : k + s.size ≤ maxLen := by unfold maxLen; omega
  obtain ⟨Rr, s1, _⟩ := (hr a c).sel
  obtain ⟨hxl, hkc, hcm⟩ := Own.facts hS s1
  have hsl := Lib.strCells_length s
  have hlen' : (xs ++ Lib.strCells s).length = (k + s.size) * 1 := by rw [List.length_append, hxl, hsl]; omega
  have grown : ∀ (old : Nat), old < k + s.size →
      Sat B (H' (some ⟨w.heap.size, 0, none⟩) (grownCap w (k + s.size) old e)) (w.drew.alloc (.cells (xs.toArray ++ (Lib.strCells s).toArray ++ Builtin.zeroCells (Value.int .u8 0).cells (grownCap w (k + s.size) old e - (k + s.size))) e)) := by
    intro old ho
    have hge := grownCap_ge w (k + s.size) old e
    have hcm := grownCap_le_maxLen w (k + s.size) old e hml
    refine hS.ownNew (hr _ _) rfl rfl rfl rfl hlen' hge hcm ?_ ?_
    · have hz1 : (Value.int IntKind.u8 0).cells.size = 1 := rfl
      simp only [Array.size_append, List.size_toArray, size_zeroCells, hz1, hxl, hsl]
      omega
    · simp only [Array.toList_append, List.append_assoc]
      rw [← List.append_assoc, ← hlen']
      exact List.take_left
  rcases Own.to_row hS s1 with ⟨rfl, rfl, rfl, rfl⟩ | ⟨g, cur, rfl, hg, hbg, hcs, ht'⟩
  · by_cases hm : s.size = 0
    · have hn : Lib.strCells s = [] := List.eq_nil_of_length_eq_zero (by rw [hsl]; exact hm)
      refine ⟨none, 0, w, ?_, ?_, by omega⟩
      · have hf := Lib.run_firstCells_string (P := P) w 1 s
        rw [hm] at hf
        simp [Builtin.append_, run_underlying hut, run_underlying hu, sizeOf, typeInfo, hi, hisz, Builtin.lenOf, hm, hf]
      · have h := hr none 0
        rw [hn, hm] at h
        exact hS.mono fun h' hh => by
          obtain ⟨R2, q1, q2⟩ := h.sel
          exact q2.of _ (q1.to _ hh)
    · have hrun := Go.run_append_nil_string (P := P) w t u ty e i (.int .u8 0) hut hu hi hzi s (by omega) (by omega) (by rw [hiby]; omega)
      have hgr := grown 0 (by omega)
      simp only [Nat.zero_add, List.nil_append, Array.empty_append] at hgr ⊢
      have e1 : (s.data.map fun b => Value.int .u8 b.toNat) = (Lib.strCells s).toArray := by
        apply Array.ext'
        simp [Lib.strCells]
      rw [e1] at hrun
      exact ⟨_, _, _, hrun, hgr, by have := grownCap_ge w s.size 0 e; omega⟩
  · by_cases hroom : k + s.size ≤ c
    · have hrun := Lib.run_append_room_string (P := P) w t u ty e i hut hu hi hisz g k c cur hg s hroom (by omega)
      refine ⟨_, _, _, hrun, hS.ownRow (hr _ _) hg hlen' hroom hcm ?_ ?_, hroom⟩
      · simp only [List.size_toArray, List.length_append, List.length_take, List.length_drop, Array.length_toList, hsl]
        omega
      · have ht2 : cur.toList.take k = xs := by simpa using ht'
        rw [ht2, ← hlen']
        exact List.take_left
    · obtain ⟨ad, he, holds⟩ : ∃ ad, (some (⟨g, 0, none⟩ : Addr)) = some ad ∧ ∀ j u, xs[j]? = some u → w.cell? (ad.add j) = some u :=
        ⟨_, rfl, fun j u hu => by
          have := ((Own.rd s1 hxl hkc).2.2 w hS).2 j u hu
          simpa [adr] using this⟩
      cases he
      have hrun := Lib.run_append_grow_string (P := P) w t u ty e i (.int .u8 0) hut hu hi hzi ⟨g, 0, none⟩ k c xs (by rw [hisz]; exact hxl) holds s (by omega) (by omega) (by rw [hiby]; exact growslice_fits (by omega) (by omega))
      exact ⟨_, _, _, hrun, grown c (by omega), grownCap_ge w (k + s.size) c e⟩
/-- append(x, s...) of a text. -/
theorem RT.appS {e : TypeId} {a : Option Addr} {c k : Nat} {l l' : List Int} {H' : Option Addr → Nat → List HP}
    (hx : ev E x = some (.slice a k c)) (hy : ev E y = some (.string (str l'))) (hb : Byt l') (ht : al T.slcs t = some (e, 1, 1)) (hu : al T.kinds t' = some 2)
    (hr : ∀ a' c', Rep H (Own a c e 1 k (ints .u8 l)) (Own a' c' e 1 (k + l'.length) (ints .u8 (l ++ l'))) (H' a' c'))
    (hlen : k + l'.length ≤ 140737488355328) (hz : al T.zers e = some (.int .u8 0)) (hw : wt l0 E g = some true) (hd : Nat.blt d n = true)
    (kk : ∀ a' c', k + l'.length ≤ c' → RT B P n true l0 rest ((d, .slice a' (k + l'.length) c') :: E) (H' a' c') Q) :
    RT B P n true l0 (⟨some d, .call { callee := .builtin .append, args := #[x, y], argTypes := #[t, t'] }, ty, pos, af, g⟩ :: rest) E H Q :=
  RT.eff hw fun o aa w K ho hty hdd hA hS hK => by
    have hs : (str l').size = l'.length := str_size l'
    obtain ⟨a', c', w', hrun, hS', hkc⟩ := run_appendS (ty := ty) (a := a) (c := c) (k := k) (xs := ints .u8 l) (H' := H') (s := str l') (T.slc ht) (knd_string (T.kind hu)) (T.zer hz) hS (fun a' c' => by rw [strCells_str hb, hs, ints_app]; exact hr a' c') (by rw [hs]; exact hlen)
    rw [hs] at hrun hkc
    unfold Oper.wp execOp
    simp only [ho, hty, resolve, invoke, builtin, Sem.run_bind, Sem.run_pure, Result.andThen_ok, List.map_toArray, List.map_cons, List.map_nil, hA.ev hx, hA.ev hy, hrun]
    simp only [Oper.upon, hdd]
    exact hK _ _ (kk a' c' hkc _ _ (hA.put (by simpa [Nat.blt_eq] using hd) _) hS')
/-- unsafe.SliceData of an owned row. -/
theorem RT.usd {e : TypeId} {sz : Nat} {a : Option Addr} {c k : Nat} {xs : List Value} (hx : ev E x = some (.slice a k c)) (hs : Sel H (Own a c e sz k xs) R) (hp : P.underlying ty = some (.pointer e))
    (hw : wt l0 E g = some true) (hd : Nat.blt d n = true)
    (kk : ∀ q, (0 < k → q = a) → RT B P n true l0 rest ((d, .pointer q) :: E) H Q) :
    RT B P n true l0 (⟨some d, .call { callee := .builtin .unsafeSliceData, args := #[x], argTypes := #[t] }, ty, pos, af, g⟩ :: rest) E H Q :=
  RT.eff hw fun o aa w K ho hty hdd hA hS hK => by
    have hkc := (Own.facts hS hs).2.1
    have : ∃ q w', (Builtin.unsafeSliceData_ #[t] ty #[.slice a k c]).run P w = .ok (.pointer q) w' ∧ (0 < k → q = a) ∧ Sat B H w' := by
      rcases Own.to_row hS hs with ⟨rfl, rfl, rfl, rfl⟩ | ⟨g, cur, rfl, hg, _, _, _⟩
      · exact ⟨none, w, Lib.run_unsafeSliceData_nil w _ _ _ _, fun _ => rfl, hS⟩
      · by_cases hc : c = 0
        · subst hc
          exact ⟨_, _, Lib.run_unsafeSliceData_zero w _ _ e hp ⟨g, 0, none⟩ k (e, cur.size) (by simp [World.shape?, hg]), fun h => absurd h (by omega), hS.garbage rfl rfl rfl rfl⟩
        · exact ⟨_, w, Lib.run_unsafeSliceData_row w _ _ _ _ _ hc, fun _ => rfl, hS⟩
    obtain ⟨q, w', hrun, hq, hS'⟩ := this
    unfold Oper.wp execOp
    simp only [ho, hty, resolve, invoke, builtin, Sem.run_bind, Sem.run_pure, Result.andThen_ok, List.map_toArray, List.map_cons, List.map_nil, hA.ev hx, hrun]
    simp only [Oper.upon, hdd]
    exact hK _ _ (kk q hq _ _ (hA.put (by simpa [Nat.blt_eq] using hd) _) hS')
theorem Sat.freeze {w : World} {g c k : Nat} {e : TypeId} {sz : Nat} {xs : List Value} {H' : List HP} (hS : Sat B H w) (hr : Rep H (Own (some ⟨g, 0, none⟩) c e sz k xs) (fun _ => True) H') (j : Nat) : Sat B H' (w.freeze ⟨g, 0, none⟩ j) := by
  obtain ⟨R, s1, s2⟩ := hr.sel
  by_cases hj : j = 0
  · subst hj
    exact Sat.unsel s2 (Sat.mono (hS.sel s1) fun h => star_head_mono fun _ _ => trivial)
  · rcases Own.to_row hS s1 with ⟨h, _⟩ | ⟨g', cur, h, hg, _, _, _⟩
    · cases h
    · cases h
      unfold World.freeze
      rw [if_neg hj]
      refine hS.upd (b := g) (o' := .cells cur e (if (0 : Nat) == 0 then (0, 0 + j) else (min 0 0, max 0 (0 + j)))) hr (fun h hh => ?_) (fun _ _ _ _ _ => trivial) rfl rfl rfl (by simp) ?_ ?_
      · obtain ⟨_, _, _, hp⟩ := hh
        rcases hp with ⟨h, _⟩ | ⟨g', cur, h, hgg, _⟩
        · cases h
        · cases h; exact ⟨_, hgg⟩
      · simp only [Array.getElem?_modify, if_true, hg, Option.map_some]
      · intro x hx
        simp only [Array.getElem?_modify]
        rw [if_neg (fun h => hx h.symm)]
/-- unsafe.String of all of an owned row: the row is nobody's behind it. -/
theorem RT.ust {e pt it : TypeId} {a q : Option Addr} {c : Nat} {l : List Int} {H' : List HP} (hx : ev E x = some (.pointer q)) (hy : ev E y = some (.int .i64 (l.length : Int))) (hq : 0 < l.length → q = a) (hb : Byt l)
    (hr : Rep H (Own a c e 1 l.length (ints .u8 l)) (fun _ => True) H') (hp : P.underlying pt = some (.pointer e)) (hc : P.cellsOf e = 1)
    (hw : wt l0 E g = some true) (hd : Nat.blt d n = true)
    (kk : RT B P n true l0 rest ((d, .string (str l)) :: E) H' Q) :
    RT B P n true l0 (⟨some d, .call { callee := .builtin .unsafeString, args := #[x, y], argTypes := #[pt, it] }, ty, pos, af, g⟩ :: rest) E H Q :=
  RT.eff hw fun o aa w K ho hty hdd hA hS hK => by
    obtain ⟨Rr, s1, s2⟩ := hr.sel
    obtain ⟨hxl, hkc, hcm⟩ := Own.facts hS s1
    have : ∃ w', (Builtin.unsafeString_ #[pt, it] ty #[.pointer q, .int .i64 (l.length : Int)]).run P w = .ok (.string (str l)) w' ∧ Sat B H' w' := by
      by_cases h0 : l = []
      · subst h0
        exact ⟨w, Lib.run_unsafeString_none w pt it ty q, Sat.unsel s2 (Sat.mono (hS.sel s1) fun h => star_head_mono fun _ _ => trivial)⟩
      · have hlp : 0 < l.length := List.length_pos_iff.2 h0
        obtain rfl := hq hlp
        rcases Own.to_row hS s1 with ⟨rfl, rfl, h1, h2⟩ | ⟨g, cur, rfl, hg, _, hcs, _⟩
        · omega
        · have hrd := ((Own.rd s1 hxl hkc).2.2 w hS).2
          have hlen : (l.map b8).length = l.length := List.length_map ..
          have hrun := Lib.run_unsafeString_row (P := P) w pt it ty e hp hc g cur.size (by simp [World.shape?, hg]) (l.map b8) (by simpa using h0) (by rw [hlen]; omega) (by rw [hlen]; unfold maxLen at hcm; omega) (fun j u hu => by
            rw [List.getElem?_map] at hu
            cases hj : l[j]? with
            | none => rw [hj] at hu; cases hu
            | some z =>
              rw [hj] at hu
              cases hu
              have h1 := hrd j (.int .u8 z) (by simp [ints, hj])
              rw [b8_nat (hb z (List.mem_of_getElem? hj))]
              exact h1)
          rw [hlen] at hrun
          exact ⟨_, hrun, hS.freeze hr _⟩
    obtain ⟨w', hrun, hS'⟩ := this
    unfold Oper.wp execOp
    simp only [ho, hty, resolve, invoke, builtin, Sem.run_bind, Sem.run_pure, Result.andThen_ok, List.map_toArray, List.map_cons, List.map_nil, hA.ev hx, hA.ev hy, hrun]
    simp only [Oper.upon, hdd]
    exact hK _ _ (kk _ _ (hA.put (by simpa [Nat.blt_eq] using hd) _) hS')
end
end Go.Sk
