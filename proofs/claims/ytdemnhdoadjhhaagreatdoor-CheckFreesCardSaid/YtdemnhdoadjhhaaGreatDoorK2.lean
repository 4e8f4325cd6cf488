/- The arguments read behind the call as they did before; for rows whose arguments hold memory. Plain theorems, no condition. -/
import Derived.Test.YtdemnhdoadjhhaaGreatDoorK1
import Derived.ReadAgain
import Derived.ChangeStays
set_option linter.unusedVariables false
set_option linter.unusedSimpArgs false
namespace Go.Sk
open Go.ChangeShapes Go.WideShapes Go.ChangeAt Go.RowKit
section
variable {H : Type} {enc : TypeId × Value → H} {P : Program}
theorem Sat.same {W w' : World} {Hs : List HP} (h : Sat W Hs w') (p : MemPlace) (hp : p.block < W.heap.size) : W.sameAt w' p := by
  cases p <;> simp only [World.sameAt, MemPlace.block, World.cell?] at hp ⊢ <;> rw [h.base _ hp]
theorem TrodAll.stays {W w' : World} (hs : ∀ p : MemPlace, p.block < W.heap.size → W.sameAt w' p) {T : TypeId → Prop} (K : Kids P T) (hz : ∀ {t e : TypeId}, T t → P.underlying t = some (.slice e) → 0 < P.cellsOf e) {sp : Nat → Bool} :
    ∀ {ts : List TypeId} {vs : List Value} {ds : List (DataW H)} {ps : List MemPlace}, (∀ t ∈ ts, T t) → DataW.TrodAll enc P W 0 (fun _ => true) true ts vs ds ps → (∀ p ∈ ps, sp p.block = true) → DataW.TrodAll enc P w' 0 sp true ts vs ds ps
  | [], [], [], _, _, h, _ => h
  | _ :: _, _ :: _, _ :: _, _, hT, ⟨p, q, ⟨n, h1⟩, h2, e⟩, hsp => by
    subst e
    refine ⟨p, q, ⟨n, ?_⟩, TrodAll.stays hs K hz (fun t ht => hT t (List.mem_cons_of_mem _ ht)) h2 (fun x hx => hsp x (List.mem_append_right _ hx)), rfl⟩
    exact DataW.trod_stays K hz (fun h => by cases h) (hT _ (List.mem_cons_self ..)) h1 (fun x hx => hs x (DataW.trod_lt n _ _ _ h1 x hx)) (fun x hx => hsp x (List.mem_append_left _ hx))
end
end Go.Sk
namespace Go.Sk
open Go.ChangeShapes Go.WideShapes Go.ChangeAt Go.RowKit
section
variable {H : Type} {enc : TypeId × Value → H} {P : Program}
/-- From the walk of a law whose arguments may hold memory to its row's post. -/
theorem law_post {fid : FuncId} {f : Func} {s : ChangeSpec} {apart fresh handsOn again : Bool} {W : World} {args : Array Value} {ds gs : List (DataW H)} {before : List MemPlace} {T : TypeId → Prop} {tb : TypeId} (K : Kids P T)
    (hz : ∀ {t e : TypeId}, T t → P.underlying t = some (.slice e) → 0 < P.cellsOf e) (hT : ∀ t ∈ f.params.toList, T t) (hvars : s.vars = []) (hrt : f.resultTypes = #[tb]) (hub : P.underlying tb = some .bool)
    (hW : DataW.Whole enc P f.params.toList s.vars apart W args.toList ds gs before)
    (hfn : DataW.TrodAll enc P W 0 (fun _ => true) true f.params.toList args.toList ds before → (s.fn H (ds ++ [])).results = [.lit (.bool true)] ∧ (s.fn H (ds ++ [])).args = ds ∧ (s.fn H (ds ++ [])).vars = [])
    (hwalk : DataW.TrodAll enc P W 0 (fun _ => true) true f.params.toList args.toList ds before → Calls P fid args W fun e w' => e = .returned (.bool true) ∧ Sat W [] w') :
    Calls P fid args W fun e w' => ∃ v, e = .returned v ∧ s.post enc P f apart fresh handsOn again W args v w' := by
  have hW' := hW
  obtain ⟨p, q, hA, hV, rfl, hfz, hnd⟩ := hW
  rw [hvars] at hV
  obtain ⟨rfl, rfl⟩ := trodVars_none hV
  rw [List.append_nil] at hfn hwalk
  obtain ⟨e1, e2, e3⟩ := hfn hA
  refine (hwalk hA).mono fun e W' ⟨he, hs⟩ => ⟨_, he, ?_⟩
  refine post_of_old (pa := p) (pv := []) hW' (fun b sp hd => ?_) (fun sp hsp => ?_) (fun sp _ => ?_) rfl hs.old ?_
  · rw [hrt, e1]
    exact trodAll_cons_mk (shut_bool hub _) trodAll_mk0
  · rw [e2]
    exact TrodAll.stays (fun x hx => hs.same x hx) K hz hT hA (fun x hx => hsp x (List.mem_append_left _ hx))
  · rw [e3, hvars]
    rfl
  · exact ok_one hrt rfl (okWide_bool_mk hub _)
end
end Go.Sk
