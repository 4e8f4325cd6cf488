/- The law CheckRoom; the tied card. No condition. -/
import Derived.Test.YtdemnhdoadjhhaaGreatDoorRows
import Derived.Test.YtdemnhdoadjhhaaGreatDoorTie
import Derived.Test.YtdemnhdoadjhhaaGreatDoorCards
import Derived.WalkKit
import Derived.ProofKit
import Derived.OpenShut
import Derived.SevenTiedAt
import Derived.Stop.Joined
import Derived.Test.YtdemnhdoadjhhaaGreatDoorWA
import Derived.Test.YtdemnhdoadjhhaaGreatDoorWC
set_option linter.unusedVariables false
set_option linter.unusedSimpArgs false
namespace Go.Proofs.YtdemnhdoadjhhaaGreatDoor.checkRoom
open Go.Sk Go.ChangeShapes Go.WideShapes Go.ChangeAt Go.RowKit
set_option linter.unusedVariables false

set_option maxRecDepth 100000 in
theorem lifted (os : Os) (started : os.Started) (H : Type) (enc : TypeId × Value → H) :
    ReturnsInHanded {} Tryz.checked os 7 .any (fun w args => (Rows.checkRoomSpec.pre enc Tryz.prog Tryz.f7 [] false w args ∧ laidMetH Tryz.prog laidL w) ∧ sizedMet enc Tryz.prog Tryz.f7 (OpenSpec.ofChange Rows.checkRoomSpec) false w args)
      (Rows.checkRoomSpec.post enc Tryz.prog Tryz.f7 false true false false) := by
  refine returns_and_shaped (C := Tryz.checked) (X := fun w _ => laidMetH Tryz.prog laidL w) (fun _ _ _ hh h => h.of_heap hh) own started (by kernel_rfl) Tryz.func7
    (ChangeSpec.witness_at (enc := enc) (C := Tryz.checked) (os := os) (X := fun w _ => laidMetH Tryz.prog laidL w) false (laidWorld os) #[.agg #[.string ⟨#[]⟩, .string ⟨#[]⟩, .slice none 0 0, .slice none 0 0, .slice none 0 0], .int .i64 0, .string ⟨#[]⟩, .int .i32 0] 8 rfl (by kernel_rfl) (by kernel_rfl) (by kernel_rfl) (by kernel_rfl) (by kernel_rfl) (laid_met os _)) ?_
  intro W base args ds gs before hval hW _ hwt0 hL hsh _
  obtain ⟨mM, hM⟩ := Go.Proofs.cell_of_shapedOpen_int (g := 0) (zero := #[.int .i64 0]) (t := 3) hsh (of_decide_eq_true (by kernel_rfl)) (by kernel_rfl) rfl (by kernel_rfl) (by kernel_rfl) Tryz.underlying3
  have hU := utf8_of hL
  have hwt : ∀ q ∈ DataW.weightsEach Tryz.prog (Tryz.f7.params.toList ++ Rows.checkRoomSpec.plain.varTypes Tryz.prog) (ds ++ gs), q ≤ reachBytes := fun q hq => by simpa using List.all_eq_true.1 hwt0 q hq
  refine law_post kids full (fun t ht => ?_) rfl (by kernel_rfl) Tryz.underlying4 hW (fun hA => ?_) (fun hA => ?_)
  · rw [Tryz.params7] at ht
    have hs : ∀ t ∈ ([26, 3, 9, 21] : List Nat), t < Tryz.prog.types.size := by decide +kernel
    exact hs t ht
  · rw [Tryz.params7] at hA
    obtain ⟨v0, vs0, d0, ds0, p0, q0, e0_, rfl, rfl, ⟨m0_, g0⟩, t0⟩ := trodAll_cons hA
    obtain ⟨v1, vs1, d1, ds1, p1, q1, e1_, rfl, rfl, ⟨m1_, g1⟩, t1⟩ := trodAll_cons t0
    obtain ⟨v2, vs2, d2, ds2, p2, q2, e2_, rfl, rfl, ⟨m2_, g2⟩, t2⟩ := trodAll_cons t1
    obtain ⟨v3, vs3, d3, ds3, p3, q3, e3_, rfl, rfl, ⟨m3_, g3⟩, t3⟩ := trodAll_cons t2
    obtain ⟨rfl, rfl, rfl⟩ := trodAll_nil t3
    exact ⟨rfl, rfl, rfl⟩
  · rw [Tryz.params7] at hA
    obtain ⟨v0, vs0, d0, ds0, p0, q0, e0_, rfl, rfl, ⟨m0_, g0⟩, t0⟩ := trodAll_cons hA
    obtain ⟨v1, vs1, d1, ds1, p1, q1, e1_, rfl, rfl, ⟨m1_, g1⟩, t1⟩ := trodAll_cons t0
    obtain ⟨v2, vs2, d2, ds2, p2, q2, e2_, rfl, rfl, ⟨m2_, g2⟩, t2⟩ := trodAll_cons t1
    obtain ⟨v3, vs3, d3, ds3, p3, q3, e3_, rfl, rfl, ⟨m3_, g3⟩, t3⟩ := trodAll_cons t2
    obtain ⟨rfl, rfl, rfl⟩ := trodAll_nil t3
    obtain rfl : args = #[v0, v1, v2, v3] := by cases args; simp_all
    obtain ⟨cs0, rfl, _⟩ := okWide_struct Tryz.underlying26 (hval 0 26 _ (by rw [Tryz.params7]; rfl) rfl)
    obtain ⟨f0, em0, ok0, in0⟩ := read_file g0 (light_each hwt (j := 0) (by rw [Tryz.params7]; rfl) rfl)
    simp only [Value.cells] at em0
    obtain rfl : cs0 = f0.cells.toArray := by rw [← em0]
    obtain ⟨i1, rfl⟩ := okWide_int Tryz.underlying3 (hval 1 3 _ (by rw [Tryz.params7]; rfl) rfl)
    obtain ⟨i1', e1, _, w1⟩ := DataW.trod_int Tryz.underlying3 g1
    simp only [Value.cells, List.cons.injEq, and_true] at e1
    cases e1
    obtain ⟨s2, rfl⟩ := okWide_string Tryz.underlying9 (hval 2 9 _ (by rw [Tryz.params7]; rfl) rfl)
    obtain ⟨l2, el2, hb2, hm2⟩ := read_txt Tryz.underlying9 g2 (light_each hwt (j := 2) (by rw [Tryz.params7]; rfl) rfl)
    simp only [Value.cells, List.cons.injEq, and_true] at el2
    obtain rfl : s2 = str l2 := by injection el2
    obtain ⟨i3, rfl⟩ := okWide_int Tryz.underlying21 (hval 3 21 _ (by rw [Tryz.params7]; rfl) rfl)
    obtain ⟨i3', e3, _, w3⟩ := DataW.trod_int Tryz.underlying21 g3
    simp only [Value.cells, List.cons.injEq, and_true] at e3
    cases e3
    have haw := awake_fn hL
    exact Sp.law2 (room_fn (B := W) (R := []) (f := f0) (n := i1) (name := l2) (number := i3) haw hU hM (in0 []) ok0 (wf_i64 w1).1 (wf_i64 w1).2 ⟨hb2, hm2⟩ (wf_i32' w3))

theorem over : Rows.checkRoomRow.holds Tryz.pinned (OpenSpec.ofChange Rows.checkRoomSpec) :=
  OpenClaim.holds_of_wide 7 Tryz.f7 rfl rfl rfl rfl rfl rfl rfl ⟨rfl, rfl, rfl, rfl, rfl⟩ rfl rfl rfl rfl rfl (by kernel_rfl) Tryz.func7 (by kernel_rfl)
    (of_decide_eq_true (by kernel_rfl)) (by unfold Func.isWrapper; first | (rw [if_pos (by decide +kernel)]; kernel_rfl) | (rw [if_neg (by decide +kernel)]; exact ⟨rfl, rfl⟩))
    (fun os started H enc _ => by
      have h := lifted os started H enc
      exact h)

/-- The statement. -/
theorem proved : Rows.CheckRoomCardSaid :=
  Claim7.holds_tied_plain_at .later [] [.data, .pinned] true (true, "f458aa2b24044597a822768cb704142dcf18e635e8d331e97ed223a5d7dee858") true
    over (fun _ h => by cases h) (by kernel_rfl) (fun _ h => by cases h) checkRoom_row_tie rfl ⟨rfl, rfl⟩ (by kernel_rfl) rfl
    (fun f fn hf hfn => by
      obtain rfl : f = 7 := Option.some.inj ((show Tryz.prog.funcNamed "lexicon/lexiconlaw06.CheckRoom" = some 7 by kernel_rfl).symm.trans hf) |>.symm
      obtain rfl : fn = Tryz.f7 := (Option.some.inj (Tryz.func7.symm.trans hfn)).symm
      exact ⟨by kernel_rfl, fun j t ht => by
        rw [Tryz.params7] at ht
        have hs : t ∈ ([26, 3, 9, 21] : List Nat) := by
          have := Array.mem_of_getElem? ht
          simpa using this
        have hall : ∀ t ∈ ([26, 3, 9, 21] : List Nat), Tryz.prog.wantsStandIn t = false := by
          intro t ht
          simp only [List.mem_cons, List.not_mem_nil, or_false] at ht
          rcases ht with rfl | rfl | rfl | rfl <;> kernel_rfl
        exact hall t hs⟩)
    (by kernel_rfl)
#print axioms proved
end Go.Proofs.YtdemnhdoadjhhaaGreatDoor.checkRoom
