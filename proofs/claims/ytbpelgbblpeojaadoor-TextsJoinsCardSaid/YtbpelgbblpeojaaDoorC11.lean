/- The law TextsJoins: at every input the call returns true, and what lay before lies unchanged; the tied card. No condition. -/
import Derived.Test.YtbpelgbblpeojaaDoorRows
import Derived.Test.YtbpelgbblpeojaaDoorTie
import Derived.Test.YtbpelgbblpeojaaDoorCards
import Derived.WalkKit
import Derived.ProofKit
import Derived.OpenShut
import Derived.SevenTiedAt
import Derived.Stop.Joined
import Derived.Test.YtbpelgbblpeojaaDoorK6
import Derived.Test.YtbpelgbblpeojaaDoorL5
import Derived.Test.YtbpelgbblpeojaaDoorK7
import Derived.Test.YtbpelgbblpeojaaDoorL11
set_option linter.unusedVariables false
set_option linter.unusedSimpArgs false
namespace Go.Proofs.YtbpelgbblpeojaaDoor.textsJoins
open Go.Sk Go.ChangeShapes Go.WideShapes Go.ChangeAt Go.RowKit
set_option linter.unusedVariables false

set_option maxRecDepth 100000 in
theorem lifted (os : Os) (started : os.Started) (H : Type) (enc : TypeId × Value → H) :
    ReturnsInHanded {} Tryd.checked os 5 .any (fun w args => (Rows.textsJoinsSpec.pre enc Tryd.prog Tryd.f5 [] false w args ∧ laidMetH Tryd.prog laidL w) ∧ sizedMet enc Tryd.prog Tryd.f5 (OpenSpec.ofChange Rows.textsJoinsSpec) false w args)
      (Rows.textsJoinsSpec.post enc Tryd.prog Tryd.f5 false true false false) := by
  refine returnsInHanded_of_change_and (C := Tryd.checked) (X := fun w _ => laidMetH Tryd.prog laidL w) (fun _ _ _ hh h => h.of_heap hh) own started (by kernel_rfl) Tryd.func5
    (ChangeSpec.witness_at (enc := enc) (C := Tryd.checked) (os := os) (X := fun w _ => laidMetH Tryd.prog laidL w) false (laidWorld os) #[.slice none 0 0, .slice none 0 0] 8 rfl (by kernel_rfl) (by kernel_rfl) (by kernel_rfl) (by kernel_rfl) (by kernel_rfl) (laid_met os _)) ?_
  intro W base args ds gs before hval hW _ hwt0 hL _
  have hwt : ∀ q ∈ DataW.weightsEach Tryd.prog (Tryd.f5.params.toList ++ Rows.textsJoinsSpec.plain.varTypes Tryd.prog) (ds ++ gs), q ≤ reachBytes := fun q hq => by simpa using List.all_eq_true.1 hwt0 q hq
  have hT := utf8_of hL
  refine law_post kids full (fun t ht => ?_) rfl (by kernel_rfl) Tryd.underlying4 hW (fun hA => ?_) (fun hA => ?_)
  · rw [Tryd.params5] at ht
    have hs : ∀ t ∈ ([28, 28] : List Nat), t < Tryd.prog.types.size := by decide +kernel
    exact hs t ht
  · rw [Tryd.params5] at hA
    obtain ⟨v0, vs0, d0, ds0, p0, q0, e0_, rfl, rfl, ⟨m0, g0⟩, t0⟩ := trodAll_cons hA
    obtain ⟨v1, vs1, d1, ds1, p1, q1, e1_, rfl, rfl, ⟨m1, g1⟩, t1⟩ := trodAll_cons t0
    obtain ⟨rfl, rfl, rfl⟩ := trodAll_nil t1
    exact ⟨rfl, rfl, rfl⟩
  · rw [Tryd.params5] at hA
    obtain ⟨v0, vs0, d0, ds0, p0, q0, e0_, rfl, rfl, ⟨m0, g0⟩, t0⟩ := trodAll_cons hA
    obtain ⟨v1, vs1, d1, ds1, p1, q1, e1_, rfl, rfl, ⟨m1, g1⟩, t1⟩ := trodAll_cons t0
    obtain ⟨rfl, rfl, rfl⟩ := trodAll_nil t1
    obtain rfl : args = #[v0, v1] := by cases args; simp_all
    obtain ⟨_, _, _, rfl⟩ := okWide_slice Tryd.underlying28 (hval 0 28 _ (by rw [Tryd.params5]; rfl) rfl)
    obtain ⟨a0, n0, c0, l0, e0, r0_0, r0_1, r0_2, r0_3, r0_4⟩ := read_texts g0 (light_each hwt (j := 0) (by rw [Tryd.params5]; rfl) rfl)
    simp only [Value.cells, List.cons.injEq, and_true] at e0
    cases e0
    obtain ⟨_, _, _, rfl⟩ := okWide_slice Tryd.underlying28 (hval 1 28 _ (by rw [Tryd.params5]; rfl) rfl)
    obtain ⟨a1, n1, c1, l1, e1, r1_0, r1_1, r1_2, r1_3, r1_4⟩ := read_texts g1 (light_each hwt (j := 1) (by rw [Tryd.params5]; rfl) rfl)
    simp only [Value.cells, List.cons.injEq, and_true] at e1
    cases e1
    exact Sp.law2 (joins_law hT (r0_4 _) r0_0 r0_1 r0_2 r0_3 (r1_4 _) r1_0 r1_1 r1_2 r1_3)

theorem over : Rows.textsJoinsRow.holds Tryd.pinned (OpenSpec.ofChange Rows.textsJoinsSpec) :=
  OpenClaim.holds_of_wide 5 Tryd.f5 rfl rfl rfl rfl rfl rfl rfl ⟨rfl, rfl, rfl, rfl, rfl⟩ rfl rfl rfl rfl rfl (by kernel_rfl) Tryd.func5 (by kernel_rfl)
    (of_decide_eq_true (by kernel_rfl)) (by unfold Func.isWrapper; first | (rw [if_pos (by decide +kernel)]; kernel_rfl) | (rw [if_neg (by decide +kernel)]; exact ⟨rfl, rfl⟩))
    (fun os started H enc _ => by
      have h := lifted os started H enc
      rw [← laidL_eq] at h
      exact h)

/-- The statement. -/
theorem proved : Rows.TextsJoinsCardSaid :=
  Claim7.holds_tied_plain_at .later [] [.data, .pinned] true (true, "6991035468a05e8a1dcad26216dbd998590677dd00c63aaab249d5436df20709") false
    over (fun _ h => by cases h) (by kernel_rfl) (fun _ h => by cases h) textsJoins_row_tie rfl ⟨rfl, rfl⟩ (by kernel_rfl) rfl
    (fun f fn hf hfn => by
      obtain rfl : f = 5 := Option.some.inj ((show Tryd.prog.funcNamed "lexicon/lexiconlaw02.TextsJoins" = some 5 by kernel_rfl).symm.trans hf) |>.symm
      obtain rfl : fn = Tryd.f5 := (Option.some.inj (Tryd.func5.symm.trans hfn)).symm
      exact ⟨by kernel_rfl, fun j t ht => by
        rw [Tryd.params5] at ht
        have hs : t ∈ ([28, 28] : List Nat) := by
          have := Array.mem_of_getElem? ht
          simpa using this
        have hall : ∀ t ∈ ([28, 28] : List Nat), Tryd.prog.wantsStandIn t = false := by
          intro t ht
          simp only [List.mem_cons, List.not_mem_nil, or_false] at ht
          rcases ht with rfl | rfl <;> kernel_rfl
        exact hall t hs⟩)
    (by kernel_rfl)
#print axioms proved
end Go.Proofs.YtbpelgbblpeojaaDoor.textsJoins
