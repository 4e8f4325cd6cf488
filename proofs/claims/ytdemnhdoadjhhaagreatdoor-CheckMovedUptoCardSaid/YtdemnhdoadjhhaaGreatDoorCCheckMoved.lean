/- The law CheckMoved (the second form); the tied card. No condition. -/
import Derived.Test.YtdemnhdoadjhhaaGreatDoorRows
import Derived.Test.YtdemnhdoadjhhaaGreatDoorTie
import Derived.Test.YtdemnhdoadjhhaaGreatDoorCards
import Derived.WalkKit
import Derived.ProofKit
import Derived.OpenShut
import Derived.SevenTiedAt
import Derived.Stop.Joined
import Derived.Deep.DeepHandedRow
import Derived.Test.YtdemnhdoadjhhaaGreatDoorWA
import Derived.Test.YtdemnhdoadjhhaaGreatDoorWB
set_option linter.unusedVariables false
set_option linter.unusedSimpArgs false
namespace Go.Proofs.YtdemnhdoadjhhaaGreatDoor.checkMoved
open Go.Sk Go.ChangeShapes Go.WideShapes Go.ChangeAt Go.RowKit
set_option linter.unusedVariables false

set_option maxRecDepth 100000 in
theorem reads (os : Os) {H : Type} (enc : TypeId × Value → H) : ∃ places, DataW.whole enc Tryz.prog ((laidWorld os).forCall (fun _ _ => 0) ⟨#[], #[.agg #[.string ⟨#[]⟩, .string ⟨#[]⟩, .slice none 0 0, .slice none 0 0, .slice none 0 0], .string ⟨#[]⟩, .string ⟨#[]⟩], []⟩).memory Tryz.f6.params.toList Rows.checkMovedSpec.vars false #[(.agg #[.string ⟨#[]⟩, .string ⟨#[]⟩, .slice none 0 0, .slice none 0 0, .slice none 0 0] : Value), (.string ⟨#[]⟩ : Value), (.string ⟨#[]⟩ : Value)].toList 8 = some ([.agg [.lit (.string []), .lit (.string []), .nil, .nil, .nil], .lit (.string []), .lit (.string [])], [], places) :=
  ⟨[], by kernel_rfl⟩
set_option maxRecDepth 100000 in
theorem contract (H : Type) (enc : TypeId × Value → H) (W : World) (base : Nat) (args : Array Value) (ds gs : List (DataW H)) (before : List MemPlace)
    (hval : ∀ (j : Nat) t v, Tryz.f6.params[j]? = some t → args[j]? = some v → Value.okWide Tryz.prog W .any base t v)
    (hW : DataW.Whole enc Tryz.prog Tryz.f6.params.toList Rows.checkMovedSpec.vars false W args.toList ds gs before)
    (hwt0 : (DataW.weightsEach Tryz.prog (Tryz.f6.params.toList ++ Rows.checkMovedSpec.plain.varTypes Tryz.prog) (ds ++ gs)).all (· ≤ reachBytes) = true)
    (hL : laidMetH Tryz.prog laidL W) (hsh : W.ShapedOpen Tryz.prog) :
    Calls Tryz.prog 6 args W fun e W' => ∃ v, e = .returned v ∧ Rows.checkMovedSpec.post enc Tryz.prog Tryz.f6 false true false false W args v W' := by
  obtain ⟨mM, hM⟩ := Go.Proofs.cell_of_shapedOpen_int (g := 0) (zero := #[.int .i64 0]) (t := 3) hsh (of_decide_eq_true (by kernel_rfl)) (by kernel_rfl) rfl (by kernel_rfl) (by kernel_rfl) Tryz.underlying3
  have hU := utf8_of hL
  have hwt : ∀ q ∈ DataW.weightsEach Tryz.prog (Tryz.f6.params.toList ++ Rows.checkMovedSpec.plain.varTypes Tryz.prog) (ds ++ gs), q ≤ reachBytes := fun q hq => by simpa using List.all_eq_true.1 hwt0 q hq
  refine law_post kids full (fun t ht => ?_) rfl (by kernel_rfl) Tryz.underlying4 hW (fun hA => ?_) (fun hA => ?_)
  · rw [Tryz.params6] at ht
    have hs : ∀ t ∈ ([26, 9, 9] : List Nat), t < Tryz.prog.types.size := by decide +kernel
    exact hs t ht
  · rw [Tryz.params6] at hA
    obtain ⟨v0, vs0, d0, ds0, p0, q0, e0_, rfl, rfl, ⟨m0_, g0⟩, t0⟩ := trodAll_cons hA
    obtain ⟨v1, vs1, d1, ds1, p1, q1, e1_, rfl, rfl, ⟨m1_, g1⟩, t1⟩ := trodAll_cons t0
    obtain ⟨v2, vs2, d2, ds2, p2, q2, e2_, rfl, rfl, ⟨m2_, g2⟩, t2⟩ := trodAll_cons t1
    obtain ⟨rfl, rfl, rfl⟩ := trodAll_nil t2
    exact ⟨rfl, rfl, rfl⟩
  · rw [Tryz.params6] at hA
    obtain ⟨v0, vs0, d0, ds0, p0, q0, e0_, rfl, rfl, ⟨m0_, g0⟩, t0⟩ := trodAll_cons hA
    obtain ⟨v1, vs1, d1, ds1, p1, q1, e1_, rfl, rfl, ⟨m1_, g1⟩, t1⟩ := trodAll_cons t0
    obtain ⟨v2, vs2, d2, ds2, p2, q2, e2_, rfl, rfl, ⟨m2_, g2⟩, t2⟩ := trodAll_cons t1
    obtain ⟨rfl, rfl, rfl⟩ := trodAll_nil t2
    obtain rfl : args = #[v0, v1, v2] := by cases args; simp_all
    obtain ⟨cs0, rfl, _⟩ := okWide_struct Tryz.underlying26 (hval 0 26 _ (by rw [Tryz.params6]; rfl) rfl)
    obtain ⟨f0, em0, ok0, in0⟩ := read_file g0 (light_each hwt (j := 0) (by rw [Tryz.params6]; rfl) rfl)
    simp only [Value.cells] at em0
    obtain rfl : cs0 = f0.cells.toArray := by rw [← em0]
    obtain ⟨s1, rfl⟩ := okWide_string Tryz.underlying9 (hval 1 9 _ (by rw [Tryz.params6]; rfl) rfl)
    obtain ⟨l1, el1, hb1, hm1⟩ := read_txt Tryz.underlying9 g1 (light_each hwt (j := 1) (by rw [Tryz.params6]; rfl) rfl)
    simp only [Value.cells, List.cons.injEq, and_true] at el1
    obtain rfl : s1 = str l1 := by injection el1
    obtain ⟨s2, rfl⟩ := okWide_string Tryz.underlying9 (hval 2 9 _ (by rw [Tryz.params6]; rfl) rfl)
    obtain ⟨l2, el2, hb2, hm2⟩ := read_txt Tryz.underlying9 g2 (light_each hwt (j := 2) (by rw [Tryz.params6]; rfl) rfl)
    simp only [Value.cells, List.cons.injEq, and_true] at el2
    obtain rfl : s2 = str l2 := by injection el2
    have haw := awake_fn hL
    exact Sp.law2 (moved_fn (B := W) (R := []) (f := f0) (path := l1) (pack := l2) haw hU hM (in0 []) ok0 ⟨hb1, hm1⟩ ⟨hb2, hm2⟩)

set_option maxRecDepth 100000 in
theorem lifted (os : Os) (started : os.Started) (H : Type) (enc : TypeId × Value → H) (F : Stop.Interp) :
    ReturnsInHanded {} Tryz.checked os 6 .any ((Rows.OpenSpec.upto Rows.checkMovedSpec).preRow enc Tryz.prog Tryz.f6 Rows.checkMovedUptoRow.domain false Rows.checkMovedUptoRow.laid) (((Rows.OpenSpec.upto Rows.checkMovedSpec).at F).post enc Tryz.prog Tryz.f6 false true false false) := by
  obtain ⟨places, hx⟩ := reads os enc
  refine returnsInHanded_of_row (C := Tryz.checked) (s := Rows.OpenSpec.upto Rows.checkMovedSpec) own started (by kernel_rfl) Tryz.func6
    (witness_row_at (enc := enc) (C := Tryz.checked) false (laidWorld os) #[.agg #[.string ⟨#[]⟩, .string ⟨#[]⟩, .slice none 0 0, .slice none 0 0, .slice none 0 0], .string ⟨#[]⟩, .string ⟨#[]⟩] rfl (by kernel_rfl) (by kernel_rfl) (by kernel_rfl)
      (OpenSpec.preRow_of_cond 8 hx (by kernel_rfl) (fun k hk => by cases hk; kernel_rfl) (by kernel_rfl) (laid_met os _))) ?_
  intro W base args ds gs before hval hW _ _ hwt0 hL hsh _
  exact contract H enc W base args ds gs before hval hW hwt0 hL hsh

theorem over : Rows.checkMovedUptoRow.holds Tryz.pinned (Rows.OpenSpec.upto Rows.checkMovedSpec) :=
  OpenClaim.holds_of_cond 6 Tryz.f6 rfl rfl rfl rfl rfl rfl rfl ⟨rfl, rfl, rfl, rfl, rfl⟩ rfl rfl rfl rfl rfl (by kernel_rfl) Tryz.func6 (by kernel_rfl)
    (of_decide_eq_true (by kernel_rfl)) (by unfold Func.isWrapper; first | (rw [if_pos (by decide +kernel)]; kernel_rfl) | (rw [if_neg (by decide +kernel)]; exact ⟨rfl, rfl⟩))
    (fun os started H enc _ F => by rw [OpenClaim.pre_eq_preRow]; exact lifted os started H enc F)

/-- The statement. -/
theorem proved : Rows.CheckMovedUptoCardSaid :=
  Claim7.holds_tied_plain_at .later [] [.data, .pinned] true (true, "f458aa2b24044597a822768cb704142dcf18e635e8d331e97ed223a5d7dee858") true
    over (fun _ h => by cases h) (by kernel_rfl) (fun _ h => by cases h) checkMovedUpto_row_tie rfl ⟨rfl, rfl⟩ (by kernel_rfl) rfl
    (fun f fn hf hfn => by
      obtain rfl : f = 6 := Option.some.inj ((show Tryz.prog.funcNamed "lexicon/lexiconlaw06.CheckMoved" = some 6 by kernel_rfl).symm.trans hf) |>.symm
      obtain rfl : fn = Tryz.f6 := (Option.some.inj (Tryz.func6.symm.trans hfn)).symm
      exact ⟨by kernel_rfl, fun j t ht => by
        rw [Tryz.params6] at ht
        have hs : t ∈ ([26, 9, 9] : List Nat) := by
          have := Array.mem_of_getElem? ht
          simpa using this
        have hall : ∀ t ∈ ([26, 9, 9] : List Nat), Tryz.prog.wantsStandIn t = false := by
          intro t ht
          simp only [List.mem_cons, List.not_mem_nil, or_false] at ht
          rcases ht with rfl | rfl | rfl <;> kernel_rfl
        exact hall t hs⟩)
    (by kernel_rfl)
#print axioms proved
end Go.Proofs.YtdemnhdoadjhhaaGreatDoor.checkMoved
