/- The reckoning's frame for this seat. No condition. -/
import Derived.Test.YtmmfmgekjcdadaaDoorRows
import Derived.ProofKit
import Derived.Lib.MakeNoZero
import Derived.Lib.Builder
import Derived.Laws.Externs
import Derived.Test.YtmmfmgekjcdadaaDoorXu1
set_option linter.unusedVariables false
set_option linter.unusedSimpArgs false
namespace Go.Proofs.YtmmfmgekjcdadaaDoor
open Go.Sk Go.Xs
set_option maxRecDepth 1000000
theorem mixed : Tryd.prog.follows .mixedOrders = true := by kernel_rfl
theorem idok : ∀ g, Nat.beq g 76 = true → ∀ (v : Value) (w : World), (callFunc g #[v]).run Tryd.prog w = .ok (.value v) w := by
  intro g hg v w
  rw [Nat.beq_eq] at hg
  subst hg
  rw [run_callFunc_extern Tryd.func76 (by kernel_rfl) (by kernel_rfl) (by kernel_rfl) (e := Extern.AbiNoEscape.same) (by kernel_rfl)]
  rfl
theorem mnzok : ∀ g e, (bif Nat.beq g 77 then some 5 else none : Option TypeId) = some e → ∀ (n : Nat) (w : World), n ≤ 281474976710656 → ∃ cs : Array Value, (callFunc g #[.int .i64 (n : Int)]).run Tryd.prog w = .ok (.value (.slice (some ⟨w.heap.size, 0, none⟩) n cs.size)) (w.drew.drew.alloc (.cells cs e)) ∧ n ≤ cs.size ∧ (n ≤ maxLen → cs.size ≤ maxLen) := by
  intro g e hg n w hn
  cases hb : Nat.beq g 77 with
  | false => rw [hb] at hg; cases hg
  | true =>
    rw [hb] at hg
    rw [Nat.beq_eq] at hb
    subst hb
    cases hg
    obtain ⟨cs, hrun, hle, hmax⟩ := Lib.run_makeNoZero (P := Tryd.prog) w #[3] 98 5 Tryd.underlying98 n hn
    refine ⟨cs, ?_, hle, hmax⟩
    rw [run_callFunc_extern Tryd.func77 (by kernel_rfl) (by kernel_rfl) (by kernel_rfl) (e := Extern.BytealgMakeNoZero.makeNoZero #[3] #[98]) (by kernel_rfl), hrun]
    rfl
/-- The reckoning's frame: the program, its two tables, its functions. -/
noncomputable def CX : Ctx := { P := Tryd.prog, G := 3, tab := tabU 1 2, fns := fnsOf Tryd.prog, idf := fun g => Nat.beq g 76, idok := idok, mnz := fun g => bif Nat.beq g 77 then some 5 else none, mnzok := mnzok }
theorem names_ok : Tryd.prog.funcs.toList.all (fun fn => !(fn.name == "runtime.NumGoroutine")) = true := by kernel_rfl
theorem CX.fok : CX.FOK := fun _ _ h => fnsOf_ok names_ok h
theorem CX.ok {B : World} (hT : Lib.Utf8Tabs 1 2 B) : CX.OK (fun b => B.heap[b]?) := fun _ _ _ hl _ _ hj => ⟨(tabU_ok hT hl hj).1, fun _ hw => cell_kept hw (tabU_ok hT hl hj).2⟩
theorem no_sp (B : World) (F : Xs.PH) : SpOK B F CX (fun _ _ _ => none) := fun _ _ _ _ _ _ h => by cases h
end Go.Proofs.YtmmfmgekjcdadaaDoor
