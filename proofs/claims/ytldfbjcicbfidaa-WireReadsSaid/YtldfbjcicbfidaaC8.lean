/- The law WireReads: at every input the call returns true, and the arguments read behind as before. No condition. -/
import Derived.Test.YtldfbjcicbfidaaRows
import Derived.WalkKit
import Derived.ProofKit
import Derived.OpenShut
import Derived.Test.YtldfbjcicbfidaaK4
import Derived.Test.YtldfbjcicbfidaaK7
import Derived.Test.YtldfbjcicbfidaaL8
set_option linter.unusedVariables false
set_option linter.unusedSimpArgs false
namespace Go.Proofs.Ytldfbjcicbfidaa.wireReads
open Go.Sk Go.ChangeShapes Go.WideShapes Go.ChangeAt Go.RowKit
set_option linter.unusedVariables false

theorem own : ownKnob Try.prog.godebug = none := by kernel_rfl

set_option maxRecDepth 100000 in
theorem lifted (os : Os) (started : os.Started) (H : Type) (enc : TypeId × Value → H) :
    ReturnsInHanded {} Try.checked os 9 .any (Rows.wireReadsSpec.pre6 enc Try.prog Try.f9 Rows.wireReadsRow.domain false) (Rows.wireReadsSpec.post enc Try.prog Try.f9 false true false false) := by
  refine returns_weighed (C := Try.checked) own started (by kernel_rfl) Try.func9
    (ChangeSpec.witness6 (enc := enc) (C := Try.checked) false ⟨#[], #[.slice none 0 0, .slice none 0 0], []⟩ 8 (by kernel_rfl) (by kernel_rfl) (by kernel_rfl) (by kernel_rfl)) ?_
  intro W base args ds gs before hval hW hwt
  refine law_post kids full (fun t ht => ?_) rfl (by kernel_rfl) Try.underlying4 hW (fun hA => ?_) (fun hA => ?_)
  · rw [Try.params9] at ht
    have hs : ∀ t ∈ ([49, 46] : List Nat), t < Try.prog.types.size := by decide +kernel
    exact hs t ht
  · rw [Try.params9] at hA
    obtain ⟨v0, vs0, d0, ds0, p0, q0, e0_, rfl, rfl, ⟨m0, g0⟩, t0⟩ := trodAll_cons hA
    obtain ⟨v1, vs1, d1, ds1, p1, q1, e1_, rfl, rfl, ⟨m1, g1⟩, t1⟩ := trodAll_cons t0
    obtain ⟨rfl, rfl, rfl⟩ := trodAll_nil t1
    exact ⟨rfl, rfl, rfl⟩
  · rw [Try.params9] at hA
    obtain ⟨v0, vs0, d0, ds0, p0, q0, e0_, rfl, rfl, ⟨m0, g0⟩, t0⟩ := trodAll_cons hA
    obtain ⟨v1, vs1, d1, ds1, p1, q1, e1_, rfl, rfl, ⟨m1, g1⟩, t1⟩ := trodAll_cons t0
    obtain ⟨rfl, rfl, rfl⟩ := trodAll_nil t1
    obtain rfl : args = #[v0, v1] := by cases args; simp_all
    obtain ⟨_, _, _, rfl⟩ := okWide_slice Try.underlying49 (hval 0 49 _ (by rw [Try.params9]; rfl) rfl)
    obtain ⟨a0, n0, c0, l0, e0, r0_0, r0_1, r0_2, r0_3, r0_4⟩ := read_texts g0 (light_each hwt (j := 0) (by rw [Try.params9]; rfl) rfl)
    simp only [Value.cells, List.cons.injEq, and_true] at e0
    cases e0
    obtain ⟨_, _, _, rfl⟩ := okWide_slice Try.underlying46 (hval 1 46 _ (by rw [Try.params9]; rfl) rfl)
    obtain ⟨a1, n1, c1, l1, e1, r1_0, r1_1, r1_2, r1_3, r1_4⟩ := read_script g1 (light_each hwt (j := 1) (by rw [Try.params9]; rfl) rfl)
    simp only [Value.cells, List.cons.injEq, and_true] at e1
    cases e1
    exact Sp.law2 (reads_law r0_4 r0_0 r0_1 r0_2 r0_3 r1_4 r1_0 r1_2 r1_1)

theorem over : Rows.wireReadsRow.holds Try.pinned (OpenSpec.ofChange Rows.wireReadsSpec) :=
  OpenClaim.holds_of_wide 9 Try.f9 rfl rfl rfl rfl rfl rfl rfl ⟨rfl, rfl, rfl, rfl, rfl⟩ rfl rfl rfl rfl rfl (by kernel_rfl) Try.func9 (by kernel_rfl)
    (of_decide_eq_true (by kernel_rfl)) (by unfold Func.isWrapper; first | (rw [if_pos (by decide +kernel)]; kernel_rfl) | (rw [if_neg (by decide +kernel)]; exact ⟨rfl, rfl⟩))
    (fun os started H enc _ => lifted os started H enc)

/-- The statement. -/
theorem proved : Rows.WireReadsSaid :=
  over
#print axioms proved
end Go.Proofs.Ytldfbjcicbfidaa.wireReads
