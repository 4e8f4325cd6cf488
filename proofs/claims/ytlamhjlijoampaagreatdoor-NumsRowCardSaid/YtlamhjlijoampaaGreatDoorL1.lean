/- A world that holds all that the rows list. No condition. -/
import Derived.Test.YtlamhjlijoampaaGreatDoorX0
import Derived.LaidMore
import Derived.LaidLaws
import Derived.Test.YtlamhjlijoampaaGreatDoorXsD
set_option linter.unusedVariables false
set_option linter.unusedSimpArgs false
namespace Go.Proofs.YtlamhjlijoampaaGreatDoor
open Go.Xs
set_option maxRecDepth 1000000
theorem own : ownKnob Tryz.prog.godebug = none := by kernel_rfl
/-- The settled world, all listed variables laid. -/
noncomputable def laidWorld (os : Os) : World :=
  let w0 := World.holding Tryz.prog os ⟨#[], #[], []⟩
  let put (h : Array Obj) (g : Nat) (cs : List Value) : Array Obj := h.modify g fun
    | .cells _ t frozen => .cells cs.toArray t frozen
    | o => o
  let b := w0.heap.size
  let h := w0.heap
  let h := put h 8 (flatD Rows.laid_math_bits_deBruijn32tab)
  let h := put h 9 (flatD Rows.laid_math_bits_deBruijn64tab)
  let h := put h 10 (flatD Rows.laid_internal_strconv_float32info)
  let h := put h 11 (flatD Rows.laid_internal_strconv_float64info)
  let h := put h 3 (flatD Rows.laid_internal_strconv_optimize)
  let h := put h 15 [.slice (some ⟨b, 0, none⟩) 9 9]
  let h := put h 16 [.slice (some ⟨b + 1, 0, none⟩) 23 23]
  let h := put h 14 [.slice (some ⟨b + 2, 0, none⟩) 11 11]
  let h := put h 1 (flatD Rows.laid_internal_strconv_uint64pow10)
  let h := put h 7 (flatD Rows.laid_unicode_utf8_acceptRanges)
  let h := put h 5 [.iface 177 (.pointer (some ⟨b + 3, 0, none⟩))]
  let h := put h 4 [.iface 177 (.pointer (some ⟨b + 4, 0, none⟩))]
  let h := put h 13 [.slice (some ⟨b + 5, 0, none⟩) 61 61]
  let h := put h 12 (flatD Rows.laid_internal_strconv_pow10Tab)
  let h := put h 6 (flatD Rows.laid_unicode_utf8_first)
  let h := h.push (.cells (flatD Rows.laid_internal_strconv_powtab).toArray 3 (0, 0))
  let h := h.push (.cells (flatD Rows.laid_internal_strconv_float64pow10).toArray 48 (0, 0))
  let h := h.push (.cells (flatD Rows.laid_internal_strconv_float32pow10).toArray 49 (0, 0))
  let h := h.push (.cells (flatD Rows.laid_strconv_ErrRange).toArray 179 (0, 0))
  let h := h.push (.cells (flatD Rows.laid_strconv_ErrSyntax).toArray 179 (0, 0))
  let h := h.push (.cells (flatD Rows.laid_internal_strconv_leftcheats).toArray 204 (0, 0))
  { w0 with heap := h }
def laidA : List (String × DataW Unit) := laidL.take 13
def laidZ : List (String × DataW Unit) := laidL.drop 14
theorem laidL_parts : laidL = (laidA ++ [("internal/strconv.pow10Tab", Rows.laid_internal_strconv_pow10Tab)]) ++ laidZ := by simp [laidL, laidA, laidZ]
theorem laid_met (os : Os) (args : Array Value) : laidMetH Tryz.prog laidL ((laidWorld os).forCall (fun _ _ => 0) ⟨#[], args, []⟩).memory := by
  rw [MakeChecks.laidMetH_plain _ _ _ (by kernel_rfl), laidL_parts]
  refine LaidIn.met (LaidIn.append (LaidIn.append (B := (List.range 64).filter fun x => !Nat.beq x 12 && !Nat.beq x 6) (B' := [12]) ?_ ?_ (by kernel_rfl)) (B' := [6]) ?_ (by kernel_rfl))
  · exact LaidIn.of_run _ 9 (by kernel_rfl) (by kernel_rfl) (by kernel_rfl) (by kernel_rfl)
  · exact laid_one (g := 12) (t := 201) (u := 201) (cs := flatD Rows.laid_internal_strconv_pow10Tab) (by kernel_rfl) (by kernel_rfl) (by kernel_rfl) (by kernel_rfl) (by kernel_rfl) (by kernel_rfl) (by kernel_rfl)
  · exact LaidIn.of_run _ 9 (by kernel_rfl) (by kernel_rfl) (by kernel_rfl) (by kernel_rfl)
/-! ### the world is well made -/
def varOKB (P : Program) (w : World) (g : Nat) : Bool :=
  match ((begin P (fun _ _ => 0) default).world.heap[g]?).bind Obj.row? with
    | none => true
    | some (zero, t) =>
      match w.heap[g]? with
      | some (.cells cs t' frozen) => decide (t' = t) && decide (frozen = (0, 0)) && cs.size == zero.size && (!P.buildable t || Row.okRefB P w t cs)
      | _ => false
def zipOK (P : Program) : List TypeId → List Value → Bool
  | u :: ts, v :: cs => Cell.okB P u v && zipOK P ts cs
  | [], [] => true
  | _, _ => false
theorem zipOK_get {P : Program} : ∀ {ts : List TypeId} {cs : List Value}, zipOK P ts cs = true → ts.length = cs.length ∧ ∀ (i : Nat) (v : Value), cs[i]? = some v → ∃ u, ts[i]? = some u ∧ Cell.okB P u v = true
  | u :: ts, v :: cs, h => by
    simp only [zipOK, Bool.and_eq_true] at h
    obtain ⟨h1, h2⟩ := zipOK_get h.2
    refine ⟨by simp [h1], fun i w hw => ?_⟩
    cases i with
    | zero => simp only [List.getElem?_cons_zero, Option.some.injEq] at hw; subst hw; exact ⟨u, rfl, h.1⟩
    | succ i => exact h2 i w (by simpa using hw)
  | [], [], _ => ⟨rfl, fun i v h => by simp at h⟩
  | _ :: _, [], h => by simp [zipOK] at h
  | [], _ :: _, h => by simp [zipOK] at h
theorem row_ok_zip {P : Program} {w : World} {r : Reach} {base : Nat} {t : TypeId} {ts : List TypeId} {cs : List Value} (ht : P.cellTypes P.depth t = some ts) (h : zipOK P ts cs = true) : Row.ok P w r base t cs.toArray := by
  obtain ⟨h1, h2⟩ := zipOK_get h
  refine ⟨ts, ht, ⟨1, by simp [h1]⟩, fun i v hv => ?_⟩
  obtain ⟨u, h3, h4⟩ := h2 i v (by simpa using hv)
  have hi : i < ts.length := (List.getElem?_eq_some_iff.1 h3).1
  exact ⟨u, by rw [Nat.mod_eq_of_lt hi]; exact h3, Cell.ok_of_okB h4⟩
theorem shaped (os : Os) (args : Array Value) : ((laidWorld os).forCall (fun _ _ => 0) ⟨#[], args, []⟩).Shaped Tryz.prog := by
  have hr : (((laidWorld os).forCall (fun _ _ => 0) ⟨#[], args, []⟩).heap.toList.drop Tryz.prog.globals.size).take ((begin Tryz.prog (fun _ _ => 0) default).world.heap.size - Tryz.prog.globals.size) = (begin Tryz.prog (fun _ _ => 0) default).world.heap.toList.drop Tryz.prog.globals.size := by kernel_rfl
  refine ⟨fun g zero t hg hz => ?_, fun k h1 h2 => ?_⟩
  case refine_2 =>
    have := congrArg (·[k - Tryz.prog.globals.size]?) hr
    simp only [List.getElem?_take, List.getElem?_drop, Array.getElem?_toList] at this
    rw [if_pos (by omega), Nat.add_sub_cancel' h1] at this
    exact this
  have hg17 : g < 17 := by
    have : Tryz.prog.globals.size = 17 := by kernel_rfl
    omega
  by_cases h12 : g = 12
  · subst h12
    have e1 : (((begin Tryz.prog (fun _ _ => 0) default).world.heap[12]?).bind Obj.row?).map (fun x => (x.1.size, x.2)) = some (1392, 201) := by kernel_rfl
    rw [hz] at e1
    simp only [Option.map_some, Option.some.injEq, Prod.mk.injEq] at e1
    obtain ⟨e1, rfl⟩ := e1
    refine ⟨(flatD Rows.laid_internal_strconv_pow10Tab).toArray, by kernel_rfl, ?_, fun _ => row_ok_zip (ts := (Tryz.prog.cellTypes Tryz.prog.depth 201).getD []) (by kernel_rfl) (by kernel_rfl)⟩
    rw [e1]
    kernel_rfl
  · have hall : ((List.range 17).filter (fun g => !Nat.beq g 12)).all (varOKB Tryz.prog ((laidWorld os).forCall (fun _ _ => 0) ⟨#[], args, []⟩)) = true := by kernel_rfl
    have := List.all_eq_true.1 hall g (List.mem_filter.2 ⟨List.mem_range.2 hg17, by
      rw [Bool.not_eq_true', ← Bool.not_eq_true, Nat.beq_eq]
      exact h12⟩)
    unfold varOKB at this
    rw [hz] at this
    simp only at this
    split at this
    · rename_i cs t' fr hw
      simp only [Bool.and_eq_true, decide_eq_true_eq, beq_iff_eq, Bool.or_eq_true, Bool.not_eq_true'] at this
      obtain ⟨⟨⟨rfl, rfl⟩, hs⟩, hb⟩ := this
      refine ⟨cs, hw, hs, fun hbuild => ?_⟩
      rcases hb with hb | hb
      · rw [hbuild] at hb; cases hb
      · exact Row.ok_of_okRefB hb
    · cases this
end Go.Proofs.YtlamhjlijoampaaGreatDoor
