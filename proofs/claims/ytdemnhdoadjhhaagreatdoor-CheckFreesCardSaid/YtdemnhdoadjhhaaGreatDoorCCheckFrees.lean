/- The law CheckFrees; the tied card. No condition. -/
import Derived.Test.YtdemnhdoadjhhaaGreatDoorRows
import Derived.Test.YtdemnhdoadjhhaaGreatDoorTie
import Derived.Test.YtdemnhdoadjhhaaGreatDoorCards
import Derived.WalkKit
import Derived.ProofKit
import Derived.OpenShut
import Derived.SevenTiedAt
import Derived.Stop.Joined
import Derived.Test.YtdemnhdoadjhhaaGreatDoorK6
import Derived.Test.YtdemnhdoadjhhaaGreatDoorLx
import Derived.Test.YtdemnhdoadjhhaaGreatDoorLAwake
import Derived.Test.YtdemnhdoadjhhaaGreatDoorL1
import Derived.Test.YtdemnhdoadjhhaaGreatDoorD3
set_option linter.unusedVariables false
set_option linter.unusedSimpArgs false
namespace Go.Proofs.YtdemnhdoadjhhaaGreatDoor.checkFrees
open Go.Sk Go.ChangeShapes Go.WideShapes Go.ChangeAt Go.RowKit
set_option linter.unusedVariables false

set_option maxRecDepth 100000 in
theorem lifted (os : Os) (started : os.Started) (H : Type) (enc : TypeId × Value → H) :
    ReturnsInHanded {} Tryz.checked os 4 .any (fun w args => (Rows.checkFreesSpec.pre enc Tryz.prog Tryz.f4 [] false w args ∧ laidMetH Tryz.prog laidL w) ∧ sizedMet enc Tryz.prog Tryz.f4 (OpenSpec.ofChange Rows.checkFreesSpec) false w args)
      (Rows.checkFreesSpec.post enc Tryz.prog Tryz.f4 false true false false) := by
  refine returnsInHanded_of_change_and (C := Tryz.checked) (X := fun w _ => laidMetH Tryz.prog laidL w) (fun _ _ _ hh h => h.of_heap hh) own started (by kernel_rfl) Tryz.func4
    (ChangeSpec.witness_at (enc := enc) (C := Tryz.checked) (os := os) (X := fun w _ => laidMetH Tryz.prog laidL w) false (laidWorld os) #[.agg #[.string ⟨#[]⟩, .slice none 0 0, .slice none 0 0, .slice none 0 0, .slice none 0 0, .slice none 0 0, .slice none 0 0], .int .i64 0, .int .i64 0] 8 rfl (by kernel_rfl) (by kernel_rfl) (by kernel_rfl) (by kernel_rfl) (by kernel_rfl) (laid_met os _)) ?_
  intro W base args ds gs before hval hW _ hwt0 hL _
  have hwt : ∀ q ∈ DataW.weightsEach Tryz.prog (Tryz.f4.params.toList ++ Rows.checkFreesSpec.plain.varTypes Tryz.prog) (ds ++ gs), q ≤ reachBytes := fun q hq => by simpa using List.all_eq_true.1 hwt0 q hq
  refine law_post kids full (fun t ht => ?_) rfl (by kernel_rfl) Tryz.underlying4 hW (fun hA => ?_) (fun hA => ?_)
  · rw [Tryz.params4] at ht
    have hs : ∀ t ∈ ([72, 3, 3] : List Nat), t < Tryz.prog.types.size := by decide +kernel
    exact hs t ht
  · rw [Tryz.params4] at hA
    obtain ⟨v0, vs0, d0, ds0, p0, q0, e0_, rfl, rfl, ⟨m0, g0⟩, t0⟩ := trodAll_cons hA
    obtain ⟨v1, vs1, d1, ds1, p1, q1, e1_, rfl, rfl, ⟨m1, g1⟩, t1⟩ := trodAll_cons t0
    obtain ⟨v2, vs2, d2, ds2, p2, q2, e2_, rfl, rfl, ⟨m2, g2⟩, t2⟩ := trodAll_cons t1
    obtain ⟨rfl, rfl, rfl⟩ := trodAll_nil t2
    exact ⟨rfl, rfl, rfl⟩
  · rw [Tryz.params4] at hA
    obtain ⟨v0, vs0, d0, ds0, p0, q0, e0_, rfl, rfl, ⟨m0, g0⟩, t0⟩ := trodAll_cons hA
    obtain ⟨v1, vs1, d1, ds1, p1, q1, e1_, rfl, rfl, ⟨m1, g1⟩, t1⟩ := trodAll_cons t0
    obtain ⟨v2, vs2, d2, ds2, p2, q2, e2_, rfl, rfl, ⟨m2, g2⟩, t2⟩ := trodAll_cons t1
    obtain ⟨rfl, rfl, rfl⟩ := trodAll_nil t2
    obtain rfl : args = #[v0, v1, v2] := by cases args; simp_all
    obtain ⟨cs0, rfl, _⟩ := okWide_struct Tryz.underlying72 (hval 0 72 _ (by rw [Tryz.params4]; rfl) rfl)
    obtain ⟨m, em, hmok, hmin⟩ := read_msg _ g0 (light_each hwt (j := 0) (by rw [Tryz.params4]; rfl) rfl)
    simp only [Value.cells] at em
    obtain rfl : cs0 = m.cells.toArray := by rw [← em]
    obtain ⟨i1, rfl⟩ := okWide_int Tryz.underlying3 (hval 1 3 _ (by rw [Tryz.params4]; rfl) rfl)
    obtain ⟨i1', e1, _, w1⟩ := DataW.trod_int Tryz.underlying3 g1
    simp only [Value.cells, List.cons.injEq, and_true] at e1
    cases e1
    obtain ⟨i2, rfl⟩ := okWide_int Tryz.underlying3 (hval 2 3 _ (by rw [Tryz.params4]; rfl) rfl)
    obtain ⟨i2', e2, _, w2⟩ := DataW.trod_int Tryz.underlying3 g2
    simp only [Value.cells, List.cons.injEq, and_true] at e2
    cases e2
    exact Sp.law2 (frees_fn (B := W) (R := []) (m := m) (n := i1) (o := i2) (awake_fn hL) (hmin []) hmok (wf_i64 w1).1 (wf_i64 w1).2 (wf_i64 w2).1 (wf_i64 w2).2)

theorem over : Rows.checkFreesRow.holds Tryz.pinned (OpenSpec.ofChange Rows.checkFreesSpec) :=
  OpenClaim.holds_of_wide 4 Tryz.f4 rfl rfl rfl rfl rfl rfl rfl ⟨rfl, rfl, rfl, rfl, rfl⟩ rfl rfl rfl rfl rfl (by kernel_rfl) Tryz.func4 (by kernel_rfl)
    (of_decide_eq_true (by kernel_rfl)) (by unfold Func.isWrapper; first | (rw [if_pos (by decide +kernel)]; kernel_rfl) | (rw [if_neg (by decide +kernel)]; exact ⟨rfl, rfl⟩))
    (fun os started H enc _ => by
      have h := lifted os started H enc
      exact h)

/-- The statement. -/
theorem proved : Rows.CheckFreesCardSaid :=
  Claim7.holds_tied_plain_at .later [] [.data, .pinned] true (true, "f458aa2b24044597a822768cb704142dcf18e635e8d331e97ed223a5d7dee858") true
    over (fun _ h => by cases h) (by kernel_rfl) (fun _ h => by cases h) checkFrees_row_tie rfl ⟨rfl, rfl⟩ (by kernel_rfl) rfl
    (fun f fn hf hfn => by
      obtain rfl : f = 4 := Option.some.inj ((show Tryz.prog.funcNamed "lexicon/lexiconlaw06.CheckFrees" = some 4 by kernel_rfl).symm.trans hf) |>.symm
      obtain rfl : fn = Tryz.f4 := (Option.some.inj (Tryz.func4.symm.trans hfn)).symm
      exact ⟨by kernel_rfl, fun j t ht => by
        rw [Tryz.params4] at ht
        have hs : t ∈ ([72, 3, 3] : List Nat) := by
          have := Array.mem_of_getElem? ht
          simpa using this
        have hall : ∀ t ∈ ([72, 3, 3] : List Nat), Tryz.prog.wantsStandIn t = false := by
          intro t ht
          simp only [List.mem_cons, List.not_mem_nil, or_false] at ht
          rcases ht with rfl | rfl | rfl <;> kernel_rfl
        exact hall t hs⟩)
    (by kernel_rfl)
#print axioms proved
end Go.Proofs.YtdemnhdoadjhhaaGreatDoor.checkFrees
