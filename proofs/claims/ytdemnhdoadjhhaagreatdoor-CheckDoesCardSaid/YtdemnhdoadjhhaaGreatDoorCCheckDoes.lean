/- The law CheckDoes; the tied card. No condition. -/
import Derived.Test.YtdemnhdoadjhhaaGreatDoorRows
import Derived.Test.YtdemnhdoadjhhaaGreatDoorTie
import Derived.Test.YtdemnhdoadjhhaaGreatDoorCards
import Derived.WalkKit
import Derived.ProofKit
import Derived.OpenShut
import Derived.SevenTiedAt
import Derived.Stop.Joined
import Derived.Test.YtdemnhdoadjhhaaGreatDoorWA
import Derived.Test.YtdemnhdoadjhhaaGreatDoorWD
set_option linter.unusedVariables false
set_option linter.unusedSimpArgs false
namespace Go.Proofs.YtdemnhdoadjhhaaGreatDoor.checkDoes
open Go.Sk Go.ChangeShapes Go.WideShapes Go.ChangeAt Go.RowKit
set_option linter.unusedVariables false

set_option maxRecDepth 100000 in
theorem lifted (os : Os) (started : os.Started) (H : Type) (enc : TypeId × Value → H) :
  ReturnsInHanded {} Tryz.checked os 3 .any (fun w args => (Rows.checkDoesSpec.pre enc Tryz.prog Tryz.f3 [] false w args ∧ laidMetH Tryz.prog laidL w) ∧ sizedMet enc Tryz.prog Tryz.f3 (OpenSpec.ofChange Rows.checkDoesSpec) false w args)
   (Rows.checkDoesSpec.post enc Tryz.prog Tryz.f3 false true false false) := by
 refine returns_and_shaped (C := Tryz.checked) (X := fun w _ => laidMetH Tryz.prog laidL w) (fun _ _ _ hh h => h.of_heap hh) own started (by kernel_rfl) Tryz.func3
  (ChangeSpec.witness_at (enc := enc) (C := Tryz.checked) (os := os) (X := fun w _ => laidMetH Tryz.prog laidL w) false (laidWorld os) #[.agg #[.string ⟨#[]⟩, .string ⟨#[]⟩, .slice none 0 0, .slice none 0 0, .slice none 0 0], .agg #[.string ⟨#[]⟩, .string ⟨#[]⟩, .slice none 0 0, .slice none 0 0, .slice none 0 0]] 8 rfl (by kernel_rfl) (by kernel_rfl) (by kernel_rfl) (by kernel_rfl) (by kernel_rfl) (laid_met os _)) ?_
 intro W base args ds gs before hval hW _ hwt0 hL hsh _
 obtain ⟨mM, hM⟩ := Go.Proofs.cell_of_shapedOpen_int (g := 0) (zero := #[.int .i64 0]) (t := 3) hsh (of_decide_eq_true (by kernel_rfl)) (by kernel_rfl) rfl (by kernel_rfl) (by kernel_rfl) Tryz.underlying3
 have hU := utf8_of hL
 have hwt : ∀ q ∈ DataW.weightsEach Tryz.prog (Tryz.f3.params.toList ++ Rows.checkDoesSpec.plain.varTypes Tryz.prog) (ds ++ gs), q ≤ reachBytes := fun q hq => by simpa using List.all_eq_true.1 hwt0 q hq
 refine law_post kids full (fun t ht => ?_) rfl (by kernel_rfl) Tryz.underlying4 hW (fun hA => ?_) (fun hA => ?_)
 ·rw [Tryz.params3] at ht
  have hs : ∀ t ∈ ([26, 26] : List Nat), t < Tryz.prog.types.size := by decide +kernel
  exact hs t ht
 ·rw [Tryz.params3] at hA
  obtain ⟨v0, vs0, d0, ds0, p0, q0, e0_, rfl, rfl, ⟨m0_, g0⟩, t0⟩ := trodAll_cons hA
  obtain ⟨v1, vs1, d1, ds1, p1, q1, e1_, rfl, rfl, ⟨m1_, g1⟩, t1⟩ := trodAll_cons t0
  obtain ⟨rfl, rfl, rfl⟩ := trodAll_nil t1
  exact ⟨rfl, rfl, rfl⟩
 ·rw [Tryz.params3] at hA
  obtain ⟨v0, vs0, d0, ds0, p0, q0, e0_, rfl, rfl, ⟨m0_, g0⟩, t0⟩ := trodAll_cons hA
  obtain ⟨v1, vs1, d1, ds1, p1, q1, e1_, rfl, rfl, ⟨m1_, g1⟩, t1⟩ := trodAll_cons t0
  obtain ⟨rfl, rfl, rfl⟩ := trodAll_nil t1
  obtain rfl : args = #[v0, v1] := by cases args; simp_all
  obtain ⟨cs0, rfl, _⟩ := okWide_struct Tryz.underlying26 (hval 0 26 _ (by rw [Tryz.params3]; rfl) rfl)
  obtain ⟨f0, em0, ok0, in0⟩ := read_file g0 (light_each hwt (j := 0) (by rw [Tryz.params3]; rfl) rfl)
  simp only [Value.cells] at em0
  obtain rfl : cs0 = f0.cells.toArray := by rw [← em0]
  obtain ⟨cs1, rfl, _⟩ := okWide_struct Tryz.underlying26 (hval 1 26 _ (by rw [Tryz.params3]; rfl) rfl)
  obtain ⟨f1, em1, ok1, in1⟩ := read_file g1 (light_each hwt (j := 1) (by rw [Tryz.params3]; rfl) rfl)
  simp only [Value.cells] at em1
  obtain rfl : cs1 = f1.cells.toArray := by rw [← em1]
  have haw := awakeW_fn hU hM
  exact Sp.law2 (does_fn (B := W) (R := []) (f := f0) (o := f1) haw hU hM (in0 []) ok0 (in1 []) ok1)

theorem over : Rows.checkDoesRow.holds Tryz.pinned (OpenSpec.ofChange Rows.checkDoesSpec) :=
 OpenClaim.holds_of_wide 3 Tryz.f3 rfl rfl rfl rfl rfl rfl rfl ⟨rfl, rfl, rfl, rfl, rfl⟩ rfl rfl rfl rfl rfl (by kernel_rfl) Tryz.func3 (by kernel_rfl)
  (of_decide_eq_true (by kernel_rfl)) (by unfold Func.isWrapper; first | (rw [if_pos (by decide +kernel)]; kernel_rfl) | (rw [if_neg (by decide +kernel)]; exact ⟨rfl, rfl⟩))
  (fun os started H enc _ => by
   have h := lifted os started H enc
   exact h)

/-- The statement. -/
theorem proved : Rows.CheckDoesCardSaid :=
 Claim7.holds_tied_plain_at .later [] [.data, .pinned] true (true, "f458aa2b24044597a822768cb704142dcf18e635e8d331e97ed223a5d7dee858") true
  over (fun _ h => by cases h) (by kernel_rfl) (fun _ h => by cases h) checkDoes_row_tie rfl ⟨rfl, rfl⟩ (by kernel_rfl) rfl
  (fun f fn hf hfn => by
   obtain rfl : f = 3 := Option.some.inj ((show Tryz.prog.funcNamed "lexicon/lexiconlaw06.CheckDoes" = some 3 by kernel_rfl).symm.trans hf) |>.symm
   obtain rfl : fn = Tryz.f3 := (Option.some.inj (Tryz.func3.symm.trans hfn)).symm
   exact ⟨by kernel_rfl, fun j t ht => by
    rw [Tryz.params3] at ht
    have hs : t ∈ ([26, 26] : List Nat) := by
     have := Array.mem_of_getElem? ht
     simpa using this
    have hall : ∀ t ∈ ([26, 26] : List Nat), Tryz.prog.wantsStandIn t = false := by
     intro t ht
     simp only [List.mem_cons, List.not_mem_nil, or_false] at ht
     rcases ht with rfl | rfl <;> kernel_rfl
    exact hall t hs⟩)
  (by kernel_rfl)
#print axioms proved
end Go.Proofs.YtdemnhdoadjhhaaGreatDoor.checkDoes
