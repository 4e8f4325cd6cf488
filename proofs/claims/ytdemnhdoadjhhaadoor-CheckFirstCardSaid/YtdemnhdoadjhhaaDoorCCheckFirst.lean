/- The law CheckFirst; the tied card. No condition. -/
import Derived.Test.YtdemnhdoadjhhaaDoorRows
import Derived.Test.YtdemnhdoadjhhaaDoorTie
import Derived.Test.YtdemnhdoadjhhaaDoorCards
import Derived.WalkKit
import Derived.ProofKit
import Derived.OpenShut
import Derived.SevenTiedAt
import Derived.Stop.Joined
import Derived.Test.YtdemnhdoadjhhaaDoorWA
import Derived.Test.YtdemnhdoadjhhaaDoorWC
set_option linter.unusedVariables false
set_option linter.unusedSimpArgs false
namespace Go.Proofs.YtdemnhdoadjhhaaDoor.checkFirst
open Go.Sk Go.ChangeShapes Go.WideShapes Go.ChangeAt Go.RowKit
set_option linter.unusedVariables false

set_option maxRecDepth 100000 in
theorem lifted (os : Os) (started : os.Started) (H : Type) (enc : TypeId × Value → H) :
    ReturnsInHanded {} Tryd.checked os 3 .any (fun w args => (Rows.checkFirstSpec.pre enc Tryd.prog Tryd.f3 [] false w args ∧ laidMetH Tryd.prog laidL w) ∧ sizedMet enc Tryd.prog Tryd.f3 (OpenSpec.ofChange Rows.checkFirstSpec) false w args)
      (Rows.checkFirstSpec.post enc Tryd.prog Tryd.f3 false true false false) := by
  refine returns_and_shaped (C := Tryd.checked) (X := fun w _ => laidMetH Tryd.prog laidL w) (fun _ _ _ hh h => h.of_heap hh) own started (by kernel_rfl) Tryd.func3
    (ChangeSpec.witness_at (enc := enc) (C := Tryd.checked) (os := os) (X := fun w _ => laidMetH Tryd.prog laidL w) false (laidWorld os) #[.agg #[.string ⟨#[]⟩, .string ⟨#[]⟩, .slice none 0 0, .slice none 0 0, .slice none 0 0], .slice none 0 0] 8 rfl (by kernel_rfl) (by kernel_rfl) (by kernel_rfl) (by kernel_rfl) (by kernel_rfl) (laid_met os _)) ?_
  intro W base args ds gs before hval hW _ hwt0 hL hsh _
  obtain ⟨mM, hM⟩ := Go.Proofs.cell_of_shapedOpen_int (g := 0) (zero := #[.int .i64 0]) (t := 3) hsh (of_decide_eq_true (by kernel_rfl)) (by kernel_rfl) rfl (by kernel_rfl) (by kernel_rfl) Tryd.underlying3
  have hU := utf8_of hL
  have hwt : ∀ q ∈ DataW.weightsEach Tryd.prog (Tryd.f3.params.toList ++ Rows.checkFirstSpec.plain.varTypes Tryd.prog) (ds ++ gs), q ≤ reachBytes := fun q hq => by simpa using List.all_eq_true.1 hwt0 q hq
  refine law_post kids full (fun t ht => ?_) rfl (by kernel_rfl) Tryd.underlying4 hW (fun hA => ?_) (fun hA => ?_)
  · rw [Tryd.params3] at ht
    have hs : ∀ t ∈ ([26, 24] : List Nat), t < Tryd.prog.types.size := by decide +kernel
    exact hs t ht
  · rw [Tryd.params3] at hA
    obtain ⟨v0, vs0, d0, ds0, p0, q0, e0_, rfl, rfl, ⟨m0_, g0⟩, t0⟩ := trodAll_cons hA
    obtain ⟨v1, vs1, d1, ds1, p1, q1, e1_, rfl, rfl, ⟨m1_, g1⟩, t1⟩ := trodAll_cons t0
    obtain ⟨rfl, rfl, rfl⟩ := trodAll_nil t1
    exact ⟨rfl, rfl, rfl⟩
  · rw [Tryd.params3] at hA
    obtain ⟨v0, vs0, d0, ds0, p0, q0, e0_, rfl, rfl, ⟨m0_, g0⟩, t0⟩ := trodAll_cons hA
    obtain ⟨v1, vs1, d1, ds1, p1, q1, e1_, rfl, rfl, ⟨m1_, g1⟩, t1⟩ := trodAll_cons t0
    obtain ⟨rfl, rfl, rfl⟩ := trodAll_nil t1
    obtain rfl : args = #[v0, v1] := by cases args; simp_all
    obtain ⟨cs0, rfl, _⟩ := okWide_struct Tryd.underlying26 (hval 0 26 _ (by rw [Tryd.params3]; rfl) rfl)
    obtain ⟨f0, em0, ok0, in0⟩ := read_file g0 (light_each hwt (j := 0) (by rw [Tryd.params3]; rfl) rfl)
    simp only [Value.cells] at em0
    obtain rfl : cs0 = f0.cells.toArray := by rw [← em0]
    obtain ⟨_, _, _, rfl⟩ := okWide_slice Tryd.underlying24 (hval 1 24 _ (by rw [Tryd.params3]; rfl) rfl)
    obtain ⟨r1, er1, n1, ok1, rd1⟩ := read_rw EnumT.cells (fun e => e.Ok ∧ ∀ Hs, e.In (Rd W Hs)) (z := 5) (by_ := 96) Tryd.underlying24 (by kernel_rfl) (by decide) (by kernel_rfl) (by decide) (fun _ _ _ _ _ h hw => read_enum h hw) g1 (light_each hwt (j := 1) (by rw [Tryd.params3]; rfl) rfl)
    simp only [Value.cells, List.cons.injEq, and_true] at er1
    rw [er1]
    have haw := awake_fn hL
    exact Sp.law2 (first_fn (B := W) (R := []) (f := f0) (more := r1) haw hU hM (in0 []) ok0 (rd1 []) n1 (fun e he => (ok1 e he).2 []) (fun e he => (ok1 e he).1))

theorem over : Rows.checkFirstRow.holds Tryd.pinned (OpenSpec.ofChange Rows.checkFirstSpec) :=
  OpenClaim.holds_of_wide 3 Tryd.f3 rfl rfl rfl rfl rfl rfl rfl ⟨rfl, rfl, rfl, rfl, rfl⟩ rfl rfl rfl rfl rfl (by kernel_rfl) Tryd.func3 (by kernel_rfl)
    (of_decide_eq_true (by kernel_rfl)) (by unfold Func.isWrapper; first | (rw [if_pos (by decide +kernel)]; kernel_rfl) | (rw [if_neg (by decide +kernel)]; exact ⟨rfl, rfl⟩))
    (fun os started H enc _ => by
      have h := lifted os started H enc
      exact h)

/-- The statement. -/
theorem proved : Rows.CheckFirstCardSaid :=
  Claim7.holds_tied_plain_at .later [] [.data, .pinned] true (true, "228a7967b6be4b0ee3344c89536bcb3a44780c1bd3cc2b8fb9f72024c6238d23") true
    over (fun _ h => by cases h) (by kernel_rfl) (fun _ h => by cases h) checkFirst_row_tie rfl ⟨rfl, rfl⟩ (by kernel_rfl) rfl
    (fun f fn hf hfn => by
      obtain rfl : f = 3 := Option.some.inj ((show Tryd.prog.funcNamed "lexicon/lexiconlaw06.CheckFirst" = some 3 by kernel_rfl).symm.trans hf) |>.symm
      obtain rfl : fn = Tryd.f3 := (Option.some.inj (Tryd.func3.symm.trans hfn)).symm
      exact ⟨by kernel_rfl, fun j t ht => by
        rw [Tryd.params3] at ht
        have hs : t ∈ ([26, 24] : List Nat) := by
          have := Array.mem_of_getElem? ht
          simpa using this
        have hall : ∀ t ∈ ([26, 24] : List Nat), Tryd.prog.wantsStandIn t = false := by
          intro t ht
          simp only [List.mem_cons, List.not_mem_nil, or_false] at ht
          rcases ht with rfl | rfl <;> kernel_rfl
        exact hall t hs⟩)
    (by kernel_rfl)
#print axioms proved
end Go.Proofs.YtdemnhdoadjhhaaDoor.checkFirst
