/- From a walk's end to a row's post: what lay before the call lies unchanged behind it. Plain theorems, no condition. -/
import Derived.Test.YtdemnhdoadjhhaaGreatDoorRows
import Derived.WalkKit
import Derived.ProofKit
import Derived.OpenShut
import Derived.Test.YtdemnhdoadjhhaaGreatDoorSkA
set_option linter.unusedVariables false
set_option linter.unusedSimpArgs false
namespace Go.Sk
open Go.ChangeShapes Go.WideShapes Go.ChangeAt Go.RowKit
/-- What lay before lies unchanged behind. -/
structure Old (W w' : World) : Prop where
  kept : W.keptBut w' (fun _ => False)
  fz : ∀ a : Addr, a.block < W.heap.size → w'.frozen? a = W.frozen? a
  size : W.heap.size ≤ w'.heap.size
theorem Sat.old {W w' : World} {H : List HP} (h : Sat W H w') : Old W w' := by
  refine ⟨⟨h.os, h.output, fun i hi => ?_⟩, fun a ha => ?_, h.size⟩
  · rw [h.base i hi]
    cases hc : W.heap[i]? with
    | none => simp
    | some o => cases o <;> simp
  · unfold World.frozen?
    rw [h.base _ ha]
theorem Old.frame {W w' : World} (h : Old W w') (may : MemPlace → Prop) : W.keptBut w' may := World.keptBut_mono (fun _ f => f.elim) h.kept
/-- A law's walk told by its contract. -/
theorem Sp.law {P : Program} {f : FuncId} {vs : List Value} {W : World} {v : Value} (h : Sp W P f vs [] [] (fun u H' => u = v ∧ H' = [])) : Calls P f vs.toArray W fun e w' => e = .returned v ∧ Old W w' :=
  (h W (Sat.refl W)).mono fun _ _ ⟨_, _, he, ⟨hv, _⟩, hs⟩ => ⟨by rw [he, hv], hs.old⟩
section
variable {H : Type} {enc : TypeId × Value → H} {P : Program}
theorem post_of_old {f : Func} {s : ChangeSpec} {apart fresh handsOn again : Bool} {W W' : World} {args : Array Value} {v : Value} {ds gs : List (DataW H)} {before pa pv : List MemPlace}
    (hW : DataW.Whole enc P f.params.toList s.vars apart W args.toList ds gs before)
    (hres : ∀ (b : Nat) (sp : Nat → Bool) (hd : Bool), DataW.TrodAll enc P W' b sp hd f.resultTypes.toList (v.resultList f.resultTypes.size) (s.fn H (ds ++ gs)).results [])
    (hargs : ∀ sp : Nat → Bool, (∀ p ∈ before, sp p.block = true) → DataW.TrodAll enc P W' 0 sp true f.params.toList args.toList (s.fn H (ds ++ gs)).args pa)
    (hvars : ∀ sp : Nat → Bool, (∀ p ∈ before, sp p.block = true) → DataW.TrodVars enc P W' sp s.vars (s.fn H (ds ++ gs)).vars pv)
    (hps : before = pa ++ pv) (ho : Old W W')
    (hok : ∀ (j : Nat) (t : TypeId) (r : Value), f.resultTypes[j]? = some t → (v.resultList f.resultTypes.size)[j]? = some r → Value.okWide P W' .any 0 t r) :
    s.post enc P f apart fresh handsOn again W args v W' := by
  have hold : ∀ p ∈ before, (fun b => decide (b < W.heap.size)) p.block = true := fun p hp => by simpa using hW.lt p hp
  have hlt := hW.lt
  refine ⟨ds, gs, before, [], pa, pv, hW, hres _ _ _, hargs _ hold, hvars _ hold, World.keptBut_mono (fun p hp => ⟨hp, ?_⟩) (ho.frame (· ∈ before)), fun _ => ?_⟩
  · rw [hps, List.mem_append] at hp
    exact Or.inr hp
  · obtain ⟨_, _, _, _, _, hz, hn⟩ := hW
    refine ⟨hok, _, _, ([] ++ pa) ++ pv, ⟨[] ++ pa, pv, trodAll_append (hargs _ (fun _ _ => rfl)) (hres _ _ _), hvars _ (fun _ _ => rfl), rfl, ?_, ?_⟩, ?_⟩
    · intro b off hp
      have hb : MemPlace.cell b off ∈ before := by rw [hps]; simpa using hp
      rw [ho.fz _ (by simpa [MemPlace.block] using hlt _ hb)]
      exact hz b off hb
    · intro ha
      have := hn ha
      rw [hps] at this
      simpa using this
    · intro p hp _
      rw [hps]
      simpa using hp
end
theorem wf_u64 {a : Int} (h : (Lit.int .u64 a).wf = true) : 0 ≤ a ∧ a < 18446744073709551616 := by
  simp only [Lit.wf, Bool.and_eq_true, decide_eq_true_eq, IntKind.min, IntKind.max, IntKind.signed, IntKind.bits] at h
  obtain ⟨h0, h1⟩ := h
  simp at h0 h1
  exact ⟨h0, by omega⟩
theorem wf_i64 {a : Int} (h : (Lit.int .i64 a).wf = true) : -9223372036854775808 ≤ a ∧ a ≤ 9223372036854775807 := by
  simp only [Lit.wf, Bool.and_eq_true, decide_eq_true_eq, IntKind.min, IntKind.max, IntKind.signed, IntKind.bits] at h
  obtain ⟨h0, h1⟩ := h
  simp at h0 h1
  exact ⟨h0, by omega⟩
end Go.Sk
