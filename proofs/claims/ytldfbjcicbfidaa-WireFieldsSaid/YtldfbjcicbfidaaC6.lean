/- The law WireFields: at every input the call returns true, and the arguments read behind as before. No condition. -/
import Derived.Test.YtldfbjcicbfidaaRows
import Derived.WalkKit
import Derived.ProofKit
import Derived.OpenShut
import Derived.Test.YtldfbjcicbfidaaK4
import Derived.Test.YtldfbjcicbfidaaL6
set_option linter.unusedVariables false
set_option linter.unusedSimpArgs false
namespace Go.Proofs.Ytldfbjcicbfidaa.wireFields
open Go.Sk Go.ChangeShapes Go.WideShapes Go.ChangeAt Go.RowKit
set_option linter.unusedVariables false

theorem own : ownKnob Try.prog.godebug = none := by kernel_rfl

set_option maxRecDepth 100000 in
theorem lifted (os : Os) (started : os.Started) (H : Type) (enc : TypeId × Value → H) :
    ReturnsInHanded {} Try.checked os 10 .any (Rows.wireFieldsSpec.pre6 enc Try.prog Try.f10 Rows.wireFieldsRow.domain false) (Rows.wireFieldsSpec.post enc Try.prog Try.f10 false true false false) := by
  refine returns_weighed (C := Try.checked) own started (by kernel_rfl) Try.func10
    (ChangeSpec.witness6 (enc := enc) (C := Try.checked) false ⟨#[], #[.slice none 0 0, .int .i64 0, .int .i64 0], []⟩ 8 (by kernel_rfl) (by kernel_rfl) (by kernel_rfl) (by kernel_rfl)) ?_
  intro W base args ds gs before hval hW hwt
  refine law_post kids full (fun t ht => ?_) rfl (by kernel_rfl) Try.underlying4 hW (fun hA => ?_) (fun hA => ?_)
  · rw [Try.params10] at ht
    have hs : ∀ t ∈ ([28, 3, 3] : List Nat), t < Try.prog.types.size := by decide +kernel
    exact hs t ht
  · rw [Try.params10] at hA
    obtain ⟨v0, vs0, d0, ds0, p0, q0, e0_, rfl, rfl, ⟨m0, g0⟩, t0⟩ := trodAll_cons hA
    obtain ⟨v1, vs1, d1, ds1, p1, q1, e1_, rfl, rfl, ⟨m1, g1⟩, t1⟩ := trodAll_cons t0
    obtain ⟨v2, vs2, d2, ds2, p2, q2, e2_, rfl, rfl, ⟨m2, g2⟩, t2⟩ := trodAll_cons t1
    obtain ⟨rfl, rfl, rfl⟩ := trodAll_nil t2
    exact ⟨rfl, rfl, rfl⟩
  · rw [Try.params10] at hA
    obtain ⟨v0, vs0, d0, ds0, p0, q0, e0_, rfl, rfl, ⟨m0, g0⟩, t0⟩ := trodAll_cons hA
    obtain ⟨v1, vs1, d1, ds1, p1, q1, e1_, rfl, rfl, ⟨m1, g1⟩, t1⟩ := trodAll_cons t0
    obtain ⟨v2, vs2, d2, ds2, p2, q2, e2_, rfl, rfl, ⟨m2, g2⟩, t2⟩ := trodAll_cons t1
    obtain ⟨rfl, rfl, rfl⟩ := trodAll_nil t2
    obtain rfl : args = #[v0, v1, v2] := by cases args; simp_all
    obtain ⟨_, _, _, rfl⟩ := okWide_slice Try.underlying28 (hval 0 28 _ (by rw [Try.params10]; rfl) rfl)
    obtain ⟨a0, n0, c0, l0, e0, r0_0, r0_1, r0_2, r0_3⟩ := read_bytes g0 (light_each hwt (j := 0) (by rw [Try.params10]; rfl) rfl)
    simp only [Value.cells, List.cons.injEq, and_true] at e0
    cases e0
    obtain ⟨i1_, rfl⟩ := okWide_int Try.underlying3 (hval 1 3 _ (by rw [Try.params10]; rfl) rfl)
    obtain ⟨i1, e1, _, w1⟩ := DataW.trod_int Try.underlying3 g1
    simp only [Value.cells, List.cons.injEq, and_true] at e1
    cases e1
    obtain ⟨i2_, rfl⟩ := okWide_int Try.underlying3 (hval 2 3 _ (by rw [Try.params10]; rfl) rfl)
    obtain ⟨i2, e2, _, w2⟩ := DataW.trod_int Try.underlying3 g2
    simp only [Value.cells, List.cons.injEq, and_true] at e2
    cases e2
    exact Sp.law2 (fields_law (r0_3 []) r0_2 r0_1 (wf_i64 w1).1 (wf_i64 w1).2 (wf_i64 w2).1 (wf_i64 w2).2)

theorem over : Rows.wireFieldsRow.holds Try.pinned (OpenSpec.ofChange Rows.wireFieldsSpec) :=
  OpenClaim.holds_of_wide 10 Try.f10 rfl rfl rfl rfl rfl rfl rfl ⟨rfl, rfl, rfl, rfl, rfl⟩ rfl rfl rfl rfl rfl (by kernel_rfl) Try.func10 (by kernel_rfl)
    (of_decide_eq_true (by kernel_rfl)) (by unfold Func.isWrapper; first | (rw [if_pos (by decide +kernel)]; kernel_rfl) | (rw [if_neg (by decide +kernel)]; exact ⟨rfl, rfl⟩))
    (fun os started H enc _ => lifted os started H enc)

/-- The statement. -/
theorem proved : Rows.WireFieldsSaid :=
  over
#print axioms proved
end Go.Proofs.Ytldfbjcicbfidaa.wireFields
