/- The law DescsBack: at every input the call returns true, and what lay before lies unchanged; the tied card. No condition. -/
import Derived.Test.YtclcnhfponjdaaaGreatDoorRows
import Derived.Test.YtclcnhfponjdaaaGreatDoorTie
import Derived.Test.YtclcnhfponjdaaaGreatDoorCards
import Derived.WalkKit
import Derived.ProofKit
import Derived.OpenShut
import Derived.SevenTiedAt
import Derived.Stop.Joined
import Derived.Test.YtclcnhfponjdaaaGreatDoorWA
import Derived.Test.YtclcnhfponjdaaaGreatDoorWE
set_option linter.unusedVariables false
set_option linter.unusedSimpArgs false
namespace Go.Proofs.YtclcnhfponjdaaaGreatDoor.descsBack
open Go.Sk Go.ChangeShapes Go.WideShapes Go.ChangeAt Go.RowKit
set_option linter.unusedVariables false

set_option maxRecDepth 100000 in
theorem lifted (os : Os) (started : os.Started) (H : Type) (enc : TypeId × Value → H) :
  ReturnsInHanded {} Tryz.checked os 7 .any (fun w args => (Rows.descsBackSpec.pre enc Tryz.prog Tryz.f7 [] false w args ∧ laidMetH Tryz.prog laidL w) ∧ sizedMet enc Tryz.prog Tryz.f7 (OpenSpec.ofChange Rows.descsBackSpec) false w args)
   (Rows.descsBackSpec.post enc Tryz.prog Tryz.f7 false true false false) := by
 refine returns_and_shaped (C := Tryz.checked) (X := fun w _ => laidMetH Tryz.prog laidL w) (fun _ _ _ hh h => h.of_heap hh) own started (by kernel_rfl) Tryz.func7
  (ChangeSpec.witness_at (enc := enc) (C := Tryz.checked) (os := os) (X := fun w _ => laidMetH Tryz.prog laidL w) false (laidWorld os) #[.slice none 0 0, .slice none 0 0] 8 rfl (by kernel_rfl) (by kernel_rfl) (by kernel_rfl) (by kernel_rfl) (by kernel_rfl) (laid_met os _)) ?_
 intro W base args ds gs before hval hW _ hwt0 hL hsh _
 have hU := utf8_of hL
 have hwt : ∀ q ∈ DataW.weightsEach Tryz.prog (Tryz.f7.params.toList ++ Rows.descsBackSpec.plain.varTypes Tryz.prog) (ds ++ gs), q ≤ reachBytes := fun q hq => by simpa using List.all_eq_true.1 hwt0 q hq
 refine law_post kids full (fun t ht => ?_) rfl (by kernel_rfl) Tryz.underlying4 hW (fun hA => ?_) (fun hA => ?_)
 ·rw [Tryz.params7] at ht
  have hs : ∀ t ∈ ([25, 25] : List Nat), t < Tryz.prog.types.size := by decide +kernel
  exact hs t ht
 ·rw [Tryz.params7] at hA
  obtain ⟨v0, vs0, d0, ds0, p0, q0, e0_, rfl, rfl, ⟨m0_, g0⟩, t0⟩ := trodAll_cons hA
  obtain ⟨v1, vs1, d1, ds1, p1, q1, e1_, rfl, rfl, ⟨m1_, g1⟩, t1⟩ := trodAll_cons t0
  obtain ⟨rfl, rfl, rfl⟩ := trodAll_nil t1
  exact ⟨rfl, rfl, rfl⟩
 ·rw [Tryz.params7] at hA
  obtain ⟨v0, vs0, d0, ds0, p0, q0, e0_, rfl, rfl, ⟨m0_, g0⟩, t0⟩ := trodAll_cons hA
  obtain ⟨v1, vs1, d1, ds1, p1, q1, e1_, rfl, rfl, ⟨m1_, g1⟩, t1⟩ := trodAll_cons t0
  obtain ⟨rfl, rfl, rfl⟩ := trodAll_nil t1
  obtain rfl : args = #[v0, v1] := by cases args; simp_all
  obtain ⟨_, _, _, rfl⟩ := okWide_slice Tryz.underlying25 (hval 0 25 _ (by rw [Tryz.params7]; rfl) rfl)
  obtain ⟨r0, er0, n0, ok0, rd0⟩ := read_rw FileT.cells (fun e => e.Ok ∧ ∀ Hs, e.In (Rd W Hs)) (z := 5) (by_ := 104) Tryz.underlying25 (by kernel_rfl) (by decide) (by kernel_rfl) (by decide) (fun _ _ _ _ _ h hw => read_file h hw) g0 (light_each hwt (j := 0) (by rw [Tryz.params7]; rfl) rfl)
  simp only [Value.cells, List.cons.injEq, and_true] at er0
  rw [er0]
  obtain ⟨_, _, _, rfl⟩ := okWide_slice Tryz.underlying25 (hval 1 25 _ (by rw [Tryz.params7]; rfl) rfl)
  obtain ⟨r1, er1, n1, ok1, rd1⟩ := read_rw FileT.cells (fun e => e.Ok ∧ ∀ Hs, e.In (Rd W Hs)) (z := 5) (by_ := 104) Tryz.underlying25 (by kernel_rfl) (by decide) (by kernel_rfl) (by decide) (fun _ _ _ _ _ h hw => read_file h hw) g1 (light_each hwt (j := 1) (by rw [Tryz.params7]; rfl) rfl)
  simp only [Value.cells, List.cons.injEq, and_true] at er1
  rw [er1]
  skip
  exact Sp.law2 (back_fn hU (rd0 []) (rd1 []) n0.1 n1.1 (fun f hf => (ok0 f hf).2 []) (fun f hf => (ok1 f hf).2 []) (fun f hf => (ok0 f hf).1) (fun f hf => (ok1 f hf).1))

theorem over : Rows.descsBackRow.holds Tryz.pinned (OpenSpec.ofChange Rows.descsBackSpec) :=
 OpenClaim.holds_of_wide 7 Tryz.f7 rfl rfl rfl rfl rfl rfl rfl ⟨rfl, rfl, rfl, rfl, rfl⟩ rfl rfl rfl rfl rfl (by kernel_rfl) Tryz.func7 descsBackFacts.closed
  (of_decide_eq_true (by kernel_rfl)) (by unfold Func.isWrapper; first | (rw [if_pos (by decide +kernel)]; kernel_rfl) | (rw [if_neg (by decide +kernel)]; exact ⟨rfl, rfl⟩))
  (fun os started H enc _ => by
   have h := lifted os started H enc
   exact h)

/-- The statement. -/
theorem proved : Rows.DescsBackCardSaid :=
 Claim7.holds_tied_plain_at .later [] [.data, .pinned] true (true, "806c4b1e80fbb7650004f0839acddef19c70bdaa3bccd39a70c0a5da526dfea7") true
  over (fun _ h => by cases h) (by kernel_rfl) (fun _ h => by cases h) descsBack_row_tie rfl ⟨rfl, rfl⟩ (by kernel_rfl) rfl
  (fun f fn hf hfn => by
   obtain rfl : f = 7 := Option.some.inj ((show Tryz.prog.funcNamed "lexicon/lexiconlaw07.DescsBack" = some 7 by kernel_rfl).symm.trans hf) |>.symm
   obtain rfl : fn = Tryz.f7 := (Option.some.inj (Tryz.func7.symm.trans hfn)).symm
   exact ⟨by kernel_rfl, fun j t ht => by
    rw [Tryz.params7] at ht
    have hs : t ∈ ([25, 25] : List Nat) := by
     have := Array.mem_of_getElem? ht
     simpa using this
    have hall : ∀ t ∈ ([25, 25] : List Nat), Tryz.prog.wantsStandIn t = false := by
     intro t ht
     simp only [List.mem_cons, List.not_mem_nil, or_false] at ht
     rcases ht with rfl | rfl <;> kernel_rfl
    exact hall t hs⟩)
  (by kernel_rfl)
#print axioms proved
end Go.Proofs.YtclcnhfponjdaaaGreatDoor.descsBack
