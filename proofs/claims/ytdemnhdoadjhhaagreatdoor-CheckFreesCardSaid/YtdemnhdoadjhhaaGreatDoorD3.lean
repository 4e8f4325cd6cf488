/- The arguments of this seat's laws: files, messages, enums, read as trees. No condition. -/
import Derived.Test.YtdemnhdoadjhhaaGreatDoorRows
import Derived.ProofKit
import Derived.Test.YtdemnhdoadjhhaaGreatDoorD2
set_option linter.unusedVariables false
set_option linter.unusedSimpArgs false
namespace Go.Proofs.YtdemnhdoadjhhaaGreatDoor
open Go.Sk Go.ChangeShapes Go.WideShapes Go.ChangeAt Go.RowKit
set_option maxRecDepth 100000
section
variable {H : Type} {enc : TypeId × Value → H} {W : World}
theorem read_span {cs : List Value} {x : DataW H × List MemPlace} {fuel : Nat} (h : DataW.trod enc Tryz.prog W 0 (fun _ => true) true fuel 158 cs = some x) (hw : Light Tryz.prog 158 x.1) : ∃ s : SpanT, cs = s.cells ∧ s.Ok := by
  have hl := str_len Tryz.underlying158 h
  obtain ⟨v0, h0, w0⟩ := fldI Tryz.underlying158 h hw 0 (tf := 21) (k := .i32) (by kernel_rfl) (by kernel_rfl) (by kernel_rfl)
  obtain ⟨v1, h1, w1⟩ := fldI Tryz.underlying158 h hw 1 (tf := 21) (k := .i32) (by kernel_rfl) (by kernel_rfl) (by kernel_rfl)
  refine ⟨⟨v0, v1⟩, lst_eq (by rw [hl]; kernel_rfl) (fun i hi => ?_), wf_i32' w0, wf_i32' w1⟩
  match i, hi with
  | 0, _ => exact h0
  | 1, _ => exact h1
  | i + 2, hi => exact absurd hi (by simp [SpanT.cells])
theorem read_eval {cs : List Value} {x : DataW H × List MemPlace} {fuel : Nat} (h : DataW.trod enc Tryz.prog W 0 (fun _ => true) true fuel 111 cs = some x) (hw : Light Tryz.prog 111 x.1) : ∃ s : EValT, cs = s.cells ∧ s.Ok := by
  have hl := str_len Tryz.underlying111 h
  obtain ⟨v0, h0, w0⟩ := fldS Tryz.underlying111 h hw 0 (tf := 9) (by kernel_rfl) (by kernel_rfl) (by kernel_rfl)
  obtain ⟨v1, h1, w1⟩ := fldI Tryz.underlying111 h hw 1 (tf := 21) (k := .i32) (by kernel_rfl) (by kernel_rfl) (by kernel_rfl)
  refine ⟨⟨v0, v1⟩, lst_eq (by rw [hl]; kernel_rfl) (fun i hi => ?_), w0, wf_i32' w1⟩
  match i, hi with
  | 0, _ => exact h0
  | 1, _ => exact h1
  | i + 2, hi => exact absurd hi (by simp [EValT.cells])
theorem read_imp {cs : List Value} {x : DataW H × List MemPlace} {fuel : Nat} (h : DataW.trod enc Tryz.prog W 0 (fun _ => true) true fuel 94 cs = some x) (hw : Light Tryz.prog 94 x.1) : ∃ s : ImpT, cs = s.cells ∧ s.Ok := by
  have hl := str_len Tryz.underlying94 h
  obtain ⟨v0, h0, w0⟩ := fldS Tryz.underlying94 h hw 0 (tf := 9) (by kernel_rfl) (by kernel_rfl) (by kernel_rfl)
  obtain ⟨v1, h1⟩ := fldBo Tryz.underlying94 h hw 1 (tf := 4) (by kernel_rfl) (by kernel_rfl) (by kernel_rfl)
  refine ⟨⟨v0, v1⟩, lst_eq (by rw [hl]; kernel_rfl) (fun i hi => ?_), w0⟩
  match i, hi with
  | 0, _ => exact h0
  | 1, _ => exact h1
  | i + 2, hi => exact absurd hi (by simp [ImpT.cells])
theorem read_field {cs : List Value} {x : DataW H × List MemPlace} {fuel : Nat} (h : DataW.trod enc Tryz.prog W 0 (fun _ => true) true fuel 87 cs = some x) (hw : Light Tryz.prog 87 x.1) : ∃ s : FieldT, cs = s.cells ∧ s.Ok := by
  have hl := str_len Tryz.underlying87 h
  obtain ⟨v0, h0, w0⟩ := fldS Tryz.underlying87 h hw 0 (tf := 9) (by kernel_rfl) (by kernel_rfl) (by kernel_rfl)
  obtain ⟨v1, h1, w1⟩ := fldI Tryz.underlying87 h hw 1 (tf := 21) (k := .i32) (by kernel_rfl) (by kernel_rfl) (by kernel_rfl)
  obtain ⟨v2, h2, w2⟩ := fldI Tryz.underlying87 h hw 2 (tf := 83) (k := .u8) (by kernel_rfl) (by kernel_rfl) (by kernel_rfl)
  obtain ⟨v3, h3, w3⟩ := fldI Tryz.underlying87 h hw 3 (tf := 84) (k := .u8) (by kernel_rfl) (by kernel_rfl) (by kernel_rfl)
  obtain ⟨v4, h4, w4⟩ := fldS Tryz.underlying87 h hw 4 (tf := 9) (by kernel_rfl) (by kernel_rfl) (by kernel_rfl)
  obtain ⟨v5, h5, w5⟩ := fldI Tryz.underlying87 h hw 5 (tf := 84) (k := .u8) (by kernel_rfl) (by kernel_rfl) (by kernel_rfl)
  obtain ⟨v6, h6, w6⟩ := fldI Tryz.underlying87 h hw 6 (tf := 3) (k := .i64) (by kernel_rfl) (by kernel_rfl) (by kernel_rfl)
  obtain ⟨v7, h7, w7⟩ := fldI Tryz.underlying87 h hw 7 (tf := 85) (k := .u8) (by kernel_rfl) (by kernel_rfl) (by kernel_rfl)
  obtain ⟨v8, h8, w8⟩ := fldS Tryz.underlying87 h hw 8 (tf := 9) (by kernel_rfl) (by kernel_rfl) (by kernel_rfl)
  refine ⟨⟨v0, v1, v2, v3, v4, v5, v6, v7, v8⟩, lst_eq (by rw [hl]; kernel_rfl) (fun i hi => ?_), w0, wf_i32' w1, wf_u8' w2, wf_u8' w3, w4, wf_u8' w5, wf_i64' w6, wf_u8' w7, w8⟩
  match i, hi with
  | 0, _ => exact h0
  | 1, _ => exact h1
  | 2, _ => exact h2
  | 3, _ => exact h3
  | 4, _ => exact h4
  | 5, _ => exact h5
  | 6, _ => exact h6
  | 7, _ => exact h7
  | 8, _ => exact h8
  | i + 9, hi => exact absurd hi (by simp [FieldT.cells])
theorem flat_vS (l : List Txt) : l.flatMap (fun t => [vS t]) = l.map vS := by
  induction l with
  | nil => rfl
  | cons t l ih => rw [List.flatMap_cons, ih]; rfl
theorem read_enum {cs : List Value} {x : DataW H × List MemPlace} {fuel : Nat} (h : DataW.trod enc Tryz.prog W 0 (fun _ => true) true fuel 109 cs = some x) (hw : Light Tryz.prog 109 x.1) : ∃ e : EnumT, cs = e.cells ∧ e.Ok ∧ ∀ Hs, e.In (Rd W Hs) := by
  have hl := str_len Tryz.underlying109 h
  obtain ⟨v0, h0, w0⟩ := fldS Tryz.underlying109 h hw 0 (tf := 9) (by kernel_rfl) (by kernel_rfl) (by kernel_rfl)
  obtain ⟨v1, h1, n1, w1, r1⟩ := fldR EValT.cells EValT.Ok Tryz.underlying109 h hw 1 (tf := 107) (e := 111) (z := 2) (by_ := 24) (by kernel_rfl) (by kernel_rfl) (by kernel_rfl) (by kernel_rfl) (by decide) (by kernel_rfl) (by decide) (fun _ _ _ _ _ h hw => read_eval h hw)
  obtain ⟨v2, h2⟩ := fldBo Tryz.underlying109 h hw 2 (tf := 4) (by kernel_rfl) (by kernel_rfl) (by kernel_rfl)
  obtain ⟨v3, h3, n3, w3, r3⟩ := fldR SpanT.cells SpanT.Ok Tryz.underlying109 h hw 3 (tf := 70) (e := 158) (z := 2) (by_ := 8) (by kernel_rfl) (by kernel_rfl) (by kernel_rfl) (by kernel_rfl) (by decide) (by kernel_rfl) (by decide) (fun _ _ _ _ _ h hw => read_span h hw)
  obtain ⟨v4, h4, n4, w4, r4⟩ := fldR (fun t : Txt => [vS t]) OkT Tryz.underlying109 h hw 4 (tf := 69) (e := 9) (z := 1) (by_ := 16) (by kernel_rfl) (by kernel_rfl) (by kernel_rfl) (by kernel_rfl) (by decide) (by kernel_rfl) (by decide) (fun _ _ _ _ _ h hw => read_txt (by kernel_rfl) h hw)
  refine ⟨⟨v0, v1, v2, v3, v4⟩, lst_eq (by rw [hl]; kernel_rfl) (fun i hi => ?_), ⟨w0, n1, w1, n3, w3, n4, w4⟩, fun Hs => ⟨r1 Hs, r3 Hs, by have := r4 Hs; rwa [flat_vS] at this⟩⟩
  match i, hi with
  | 0, _ => exact h0
  | 1, _ => exact h1
  | 2, _ => exact h2
  | 3, _ => exact h3
  | 4, _ => exact h4
  | i + 5, hi => exact absurd hi (by simp [EnumT.cells])
theorem read_msg : ∀ (fuel : Nat) {cs : List Value} {x : DataW H × List MemPlace}, DataW.trod enc Tryz.prog W 0 (fun _ => true) true fuel 72 cs = some x → Light Tryz.prog 72 x.1 → ∃ m : MsgT, cs = m.cells ∧ m.Ok ∧ ∀ Hs, m.In (Rd W Hs) := by
  intro fuel
  induction fuel using Nat.strongRecOn with
  | _ fuel ih =>
  intro cs x h hw
  have hl := str_len Tryz.underlying72 h
  obtain ⟨v0, h0, w0⟩ := fldS Tryz.underlying72 h hw 0 (tf := 9) (by kernel_rfl) (by kernel_rfl) (by kernel_rfl)
  obtain ⟨v1, h1, n1, w1, r1⟩ := fldR FieldT.cells FieldT.Ok Tryz.underlying72 h hw 1 (tf := 68) (e := 87) (z := 9) (by_ := 80) (by kernel_rfl) (by kernel_rfl) (by kernel_rfl) (by kernel_rfl) (by decide) (by kernel_rfl) (by decide) (fun _ _ _ _ _ h hw => read_field h hw)
  obtain ⟨v2, h2, n2, w2, r2⟩ := fldR (fun t : Txt => [vS t]) OkT Tryz.underlying72 h hw 2 (tf := 69) (e := 9) (z := 1) (by_ := 16) (by kernel_rfl) (by kernel_rfl) (by kernel_rfl) (by kernel_rfl) (by decide) (by kernel_rfl) (by decide) (fun _ _ _ _ _ h hw => read_txt (by kernel_rfl) h hw)
  obtain ⟨v3, h3, n3, w3, r3⟩ := fldR MsgT.cells (fun m => m.Ok ∧ ∀ Hs, m.In (Rd W Hs)) Tryz.underlying72 h hw 3 (tf := 23) (e := 72) (z := 7) (by_ := 160) (by kernel_rfl) (by kernel_rfl) (by kernel_rfl) (by kernel_rfl) (by decide) (by kernel_rfl) (by decide) (fun m _ _ hm _ h hw => ih m hm h hw)
  obtain ⟨v4, h4, n4, w4, r4⟩ := fldR EnumT.cells (fun e => e.Ok ∧ ∀ Hs, e.In (Rd W Hs)) Tryz.underlying72 h hw 4 (tf := 24) (e := 109) (z := 5) (by_ := 96) (by kernel_rfl) (by kernel_rfl) (by kernel_rfl) (by kernel_rfl) (by decide) (by kernel_rfl) (by decide) (fun _ _ _ _ _ h hw => read_enum h hw)
  obtain ⟨v5, h5, n5, w5, r5⟩ := fldR SpanT.cells SpanT.Ok Tryz.underlying72 h hw 5 (tf := 70) (e := 158) (z := 2) (by_ := 8) (by kernel_rfl) (by kernel_rfl) (by kernel_rfl) (by kernel_rfl) (by decide) (by kernel_rfl) (by decide) (fun _ _ _ _ _ h hw => read_span h hw)
  obtain ⟨v6, h6, n6, w6, r6⟩ := fldR (fun t : Txt => [vS t]) OkT Tryz.underlying72 h hw 6 (tf := 69) (e := 9) (z := 1) (by_ := 16) (by kernel_rfl) (by kernel_rfl) (by kernel_rfl) (by kernel_rfl) (by decide) (by kernel_rfl) (by decide) (fun _ _ _ _ _ h hw => read_txt (by kernel_rfl) h hw)
  refine ⟨.mk v0 v1 v2 v3.a v3.c v3.l v4 v5 v6, lst_eq (by rw [hl]; kernel_rfl) (fun i hi => ?_), ?_, fun Hs => ?_⟩
  · match i, hi with
    | 0, _ => exact h0
    | 1, _ => exact h1
    | 2, _ => exact h2
    | 3, _ => exact h3
    | 4, _ => exact h4
    | 5, _ => exact h5
    | 6, _ => exact h6
    | i + 7, hi => exact absurd hi (by simp [MsgT.cells])
  · unfold MsgT.Ok
    exact ⟨w0, ⟨n1, w1⟩, ⟨n2, w2⟩, n3, ⟨n4, fun e he => (w4 e he).1⟩, ⟨n5, w5⟩, ⟨n6, w6⟩, MsgT.okL_of fun m hm => (w3 m hm).1⟩
  · unfold MsgT.In
    exact ⟨r1 Hs, by have := r2 Hs; rwa [flat_vS] at this, r3 Hs, r4 Hs, fun e he => (w4 e he).2 Hs, r5 Hs, by have := r6 Hs; rwa [flat_vS] at this, MsgT.inL_of fun m hm => (w3 m hm).2 Hs⟩
theorem read_file {cs : List Value} {x : DataW H × List MemPlace} {fuel : Nat} (h : DataW.trod enc Tryz.prog W 0 (fun _ => true) true fuel 26 cs = some x) (hw : Light Tryz.prog 26 x.1) : ∃ f : FileT, cs = f.cells ∧ f.Ok ∧ ∀ Hs, f.In (Rd W Hs) := by
  have hl := str_len Tryz.underlying26 h
  obtain ⟨v0, h0, w0⟩ := fldS Tryz.underlying26 h hw 0 (tf := 9) (by kernel_rfl) (by kernel_rfl) (by kernel_rfl)
  obtain ⟨v1, h1, w1⟩ := fldS Tryz.underlying26 h hw 1 (tf := 9) (by kernel_rfl) (by kernel_rfl) (by kernel_rfl)
  obtain ⟨v2, h2, n2, w2, r2⟩ := fldR ImpT.cells ImpT.Ok Tryz.underlying26 h hw 2 (tf := 22) (e := 94) (z := 2) (by_ := 24) (by kernel_rfl) (by kernel_rfl) (by kernel_rfl) (by kernel_rfl) (by decide) (by kernel_rfl) (by decide) (fun _ _ _ _ _ h hw => read_imp h hw)
  obtain ⟨v3, h3, n3, w3, r3⟩ := fldR MsgT.cells (fun m => m.Ok ∧ ∀ Hs, m.In (Rd W Hs)) Tryz.underlying26 h hw 3 (tf := 23) (e := 72) (z := 7) (by_ := 160) (by kernel_rfl) (by kernel_rfl) (by kernel_rfl) (by kernel_rfl) (by decide) (by kernel_rfl) (by decide) (fun m _ _ _ _ h hw => read_msg m h hw)
  obtain ⟨v4, h4, n4, w4, r4⟩ := fldR EnumT.cells (fun e => e.Ok ∧ ∀ Hs, e.In (Rd W Hs)) Tryz.underlying26 h hw 4 (tf := 24) (e := 109) (z := 5) (by_ := 96) (by kernel_rfl) (by kernel_rfl) (by kernel_rfl) (by kernel_rfl) (by decide) (by kernel_rfl) (by decide) (fun _ _ _ _ _ h hw => read_enum h hw)
  refine ⟨⟨v0, v1, v2, v3.a, v3.c, v3.l, v4⟩, lst_eq (by rw [hl]; kernel_rfl) (fun i hi => ?_), ⟨w0, w1, ⟨n2, w2⟩, ⟨n3, fun m hm => (w3 m hm).1⟩, ⟨n4, fun e he => (w4 e he).1⟩⟩, fun Hs => ⟨r2 Hs, r3 Hs, fun m hm => (w3 m hm).2 Hs, r4 Hs, fun e he => (w4 e he).2 Hs⟩⟩
  match i, hi with
  | 0, _ => exact h0
  | 1, _ => exact h1
  | 2, _ => exact h2
  | 3, _ => exact h3
  | 4, _ => exact h4
  | i + 5, hi => exact absurd hi (by simp [FileT.cells])
end
end Go.Proofs.YtdemnhdoadjhhaaGreatDoor
