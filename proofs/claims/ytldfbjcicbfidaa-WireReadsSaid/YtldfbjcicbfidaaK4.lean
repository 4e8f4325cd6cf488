/- The arguments of this seat's laws: scripts, lists of bytes; the kinds of the program's types. No condition. -/
import Derived.Test.YtldfbjcicbfidaaKA
import Derived.Test.YtldfbjcicbfidaaV13
import Derived.Test.YtldfbjcicbfidaaTab
set_option linter.unusedVariables false
set_option linter.unusedSimpArgs false
namespace Go.Proofs.Ytldfbjcicbfidaa
open Go.Sk Go.ChangeShapes Go.WideShapes Go.ChangeAt Go.RowKit
set_option maxRecDepth 100000
theorem rowed : laidOutB Try.prog = true := by kernel_rfl
theorem mapped : mapsRowed Try.prog = true := by kernel_rfl
theorem kids : Kids Try.prog (· < Try.prog.types.size) := kids_rows rowed mapped
theorem fullB : ((List.range Try.prog.types.size).all fun t => match Try.prog.underlying t with | some (.slice e) => decide (0 < Try.prog.cellsOf e) | _ => true) = true := by kernel_rfl
theorem full {t e : TypeId} (h : t < Try.prog.types.size) (he : Try.prog.underlying t = some (.slice e)) : 0 < Try.prog.cellsOf e := slices_full_of Try.prog fullB t e h he
section
variable {H : Type} {enc : TypeId × Value → H} {W : World}
theorem wf_u8 {a : Int} (h : (Lit.int .u8 a).wf = true) : isByte a := by
  simp only [Lit.wf, Bool.and_eq_true, decide_eq_true_eq, IntKind.min, IntKind.max, IntKind.signed, IntKind.bits] at h
  obtain ⟨h0, h1⟩ := h
  simp at h0 h1
  exact ⟨h0, by omega⟩
theorem read_bytes {cs : List Value} {x : DataW H × List MemPlace} {fuel : Nat} (h : DataW.trod enc Try.prog W 0 (fun _ => true) true fuel 28 cs = some x) (hw : Light Try.prog 28 x.1) :
    ∃ (a : Option Addr) (n c : Nat) (l : List Int), cs = [.slice a n c] ∧ l.length = n ∧ n ≤ 140737488355328 ∧ Bytes l ∧ ∀ Hs, Rd W Hs a n c 1 (ints .u8 l) := by
  have e5 : Try.prog.cellsOf 5 = 1 := by kernel_rfl
  have b5 : Try.prog.bytesOf 5 = 1 := by kernel_rfl
  obtain ⟨a, n, c, es, h1, h2, h3, hcb, h4, h5, h6⟩ := read_sliceW Try.underlying28 (by rw [e5]; omega) h hw
  rw [b5] at hcb
  have hl : ∃ l : List Int, es.flatten = ints .u8 l ∧ l.length = es.length ∧ Bytes l := by
    clear h1 h4 h6
    induction es with
    | nil => exact ⟨[], rfl, rfl, fun _ h => absurd h (by simp)⟩
    | cons ce es ih =>
      obtain ⟨l, e1, e2, e3⟩ := ih (fun c hc => h5 c (by simp [hc]))
      obtain ⟨_, m, y, hy, _⟩ := h5 ce (by simp)
      obtain ⟨q, rfl, _, hq⟩ := DataW.trod_int Try.underlying5 hy
      refine ⟨q :: l, ?_, by simp [e2], fun y hy => ?_⟩
      · rw [List.flatten_cons, e1]; rfl
      · rcases List.mem_cons.1 hy with rfl | hy
        · exact wf_u8 hq
        · exact e3 y hy
  obtain ⟨l, e1, e2, e3⟩ := hl
  refine ⟨a, n, c, l, h1, by omega, by unfold reachBytes at hcb; omega, e3, fun Hs => ?_⟩
  have := h6 Hs
  rw [e5, e1] at this
  exact this
theorem read_op {cs : List Value} {x : DataW H × List MemPlace} {fuel : Nat} (h : DataW.trod enc Try.prog W 0 (fun _ => true) true fuel 80 cs = some x) (hw : Light Try.prog 80 x.1) :
    ∃ o : SO, cs = o.cells ∧ o.fit ∧ ∀ Hs, Rd W Hs o.ba o.bn o.bc 1 (ints .u8 o.bl) := by
  obtain ⟨_, _, _, _, hlen, _, _⟩ := DataW.trod_struct Try.underlying80 h
  rw [show Try.prog.cellsOf 80 = 7 by kernel_rfl] at hlen
  obtain ⟨c0, c1, c2, c3, c4, c5, c6, rfl⟩ : ∃ c0 c1 c2 c3 c4 c5 c6, cs = [c0, c1, c2, c3, c4, c5, c6] := by
    match cs, hlen with
    | [c0, c1, c2, c3, c4, c5, c6], _ => exact ⟨_, _, _, _, _, _, _, rfl⟩
  have e3 : Try.prog.cellsOf 3 = 1 := by kernel_rfl
  have e22 : Try.prog.cellsOf 22 = 1 := by kernel_rfl
  have e5 : Try.prog.cellsOf 5 = 1 := by kernel_rfl
  have e28 : Try.prog.cellsOf 28 = 1 := by kernel_rfl
  obtain ⟨_, y0, h0, u0⟩ : ∃ m y, DataW.trod enc Try.prog W 0 (fun _ => true) true m 3 (([c0, c1, c2, c3, c4, c5, c6].drop 0).take (Try.prog.cellsOf 3)) = some y ∧ Light Try.prog 3 y.1 := trod_field Try.underlying80 h hw 0 _ rfl
  obtain ⟨_, y1, h1, u1⟩ : ∃ m y, DataW.trod enc Try.prog W 0 (fun _ => true) true m 3 (([c0, c1, c2, c3, c4, c5, c6].drop 1).take (Try.prog.cellsOf 3)) = some y ∧ Light Try.prog 3 y.1 := trod_field Try.underlying80 h hw 1 _ rfl
  obtain ⟨_, y2, h2, u2⟩ : ∃ m y, DataW.trod enc Try.prog W 0 (fun _ => true) true m 22 (([c0, c1, c2, c3, c4, c5, c6].drop 2).take (Try.prog.cellsOf 22)) = some y ∧ Light Try.prog 22 y.1 := trod_field Try.underlying80 h hw 2 _ rfl
  obtain ⟨_, y3, h3, u3⟩ : ∃ m y, DataW.trod enc Try.prog W 0 (fun _ => true) true m 3 (([c0, c1, c2, c3, c4, c5, c6].drop 3).take (Try.prog.cellsOf 3)) = some y ∧ Light Try.prog 3 y.1 := trod_field Try.underlying80 h hw 3 _ rfl
  obtain ⟨_, y4, h4, u4⟩ : ∃ m y, DataW.trod enc Try.prog W 0 (fun _ => true) true m 5 (([c0, c1, c2, c3, c4, c5, c6].drop 4).take (Try.prog.cellsOf 5)) = some y ∧ Light Try.prog 5 y.1 := trod_field Try.underlying80 h hw 4 _ rfl
  obtain ⟨_, y5, h5, u5⟩ : ∃ m y, DataW.trod enc Try.prog W 0 (fun _ => true) true m 3 (([c0, c1, c2, c3, c4, c5, c6].drop 5).take (Try.prog.cellsOf 3)) = some y ∧ Light Try.prog 3 y.1 := trod_field Try.underlying80 h hw 5 _ rfl
  obtain ⟨_, y6, h6, u6⟩ : ∃ m y, DataW.trod enc Try.prog W 0 (fun _ => true) true m 28 (([c0, c1, c2, c3, c4, c5, c6].drop 6).take (Try.prog.cellsOf 28)) = some y ∧ Light Try.prog 28 y.1 := trod_field Try.underlying80 h hw 6 _ rfl
  simp only [e3, e22, e5, e28, List.drop_succ_cons, List.drop_zero, List.take_succ_cons, List.take_zero] at h0 h1 h2 h3 h4 h5 h6
  obtain ⟨n0, q0, _, w0⟩ := DataW.trod_int Try.underlying3 h0
  obtain ⟨n1, q1, _, w1⟩ := DataW.trod_int Try.underlying3 h1
  obtain ⟨n2, q2, _, w2⟩ := DataW.trod_int Try.underlying22 h2
  obtain ⟨n3, q3, _, w3⟩ := DataW.trod_int Try.underlying3 h3
  obtain ⟨n4, q4, _, w4⟩ := DataW.trod_int Try.underlying5 h4
  obtain ⟨n5, q5, _, w5⟩ := DataW.trod_int Try.underlying3 h5
  obtain ⟨a, n, c, l, q6, b1, b2, b3, b4⟩ := read_bytes h6 u6
  simp only [List.cons.injEq, and_true] at q0 q1 q2 q3 q4 q5 q6
  subst q0 q1 q2 q3 q4 q5 q6
  exact ⟨⟨n0, n1, n2, n3, n4, n5, a, n, c, l⟩, rfl, ⟨wf_i64 w0, wf_u64 w2, wf_i64 w3, wf_u8 w4, wf_i64 w5, wf_i64 w1, b1, b3, b2⟩, b4⟩
theorem read_script {cs : List Value} {x : DataW H × List MemPlace} {fuel : Nat} (h : DataW.trod enc Try.prog W 0 (fun _ => true) true fuel 46 cs = some x) (hw : Light Try.prog 46 x.1) :
    ∃ (a : Option Addr) (n c : Nat) (l : List SO), cs = [.slice a n c] ∧ l.length = n ∧ n ≤ 140737488355328 ∧ (∀ o ∈ l, o.fit) ∧ (∀ o ∈ l, ∀ Hs, Rd W Hs o.ba o.bn o.bc 1 (ints .u8 o.bl)) ∧ ∀ Hs, Rd W Hs a n c 7 (soCells l) := by
  have e80 : Try.prog.cellsOf 80 = 7 := by kernel_rfl
  have b80 : Try.prog.bytesOf 80 = 72 := by kernel_rfl
  obtain ⟨a, n, c, es, h1, h2, h3, hcb, h4, h5, h6⟩ := read_sliceW Try.underlying46 (by rw [e80]; omega) h hw
  rw [b80] at hcb
  have hl : ∃ l : List SO, es.flatten = soCells l ∧ l.length = es.length ∧ (∀ o ∈ l, o.fit) ∧ (∀ o ∈ l, ∀ Hs, Rd W Hs o.ba o.bn o.bc 1 (ints .u8 o.bl)) := by
    clear h1 h4 h6
    induction es with
    | nil => exact ⟨[], rfl, rfl, fun _ h => absurd h (by simp), fun _ h => absurd h (by simp)⟩
    | cons ce es ih =>
      obtain ⟨l, e1, e2, e3, e4⟩ := ih (fun c hc => h5 c (by simp [hc]))
      obtain ⟨_, m, y, hy, hly⟩ := h5 ce (by simp)
      obtain ⟨o, rfl, ho1, ho2⟩ := read_op hy hly
      refine ⟨o :: l, ?_, by simp [e2], fun y hy => ?_, fun y hy => ?_⟩
      · rw [List.flatten_cons, e1]; simp [soCells]
      · rcases List.mem_cons.1 hy with rfl | hy
        · exact ho1
        · exact e3 y hy
      · rcases List.mem_cons.1 hy with rfl | hy
        · exact ho2
        · exact e4 y hy
  obtain ⟨l, e1, e2, e3, e4⟩ := hl
  refine ⟨a, n, c, l, h1, by omega, by unfold reachBytes at hcb; omega, e3, e4, fun Hs => ?_⟩
  have := h6 Hs
  rw [e80, e1] at this
  exact this
/-- A law's walk told by its contract, with what lay before. -/
theorem Sp.law2 {P : Program} {f : FuncId} {vs : List Value} {v : Value} (h : Sp W P f vs [] [] (fun u H' => u = v ∧ H' = [])) : Calls P f vs.toArray W fun e w' => e = .returned v ∧ Sat W [] w' :=
  (h W (Sat.refl W)).mono fun _ _ ⟨_, _, he, ⟨hv, hh⟩, hs⟩ => ⟨by rw [he, hv], by subst hh; exact hs⟩
end
end Go.Proofs.Ytldfbjcicbfidaa
