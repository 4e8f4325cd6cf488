/- As K3, with the bound that the row lays on each slice: what an argument's slices, at any depth, weigh. Plain theorems, no condition. -/
import Derived.Test.YtdemnhdoadjhhaaGreatDoorK3
import Derived.SizedLaws
set_option linter.unusedVariables false
set_option linter.unusedSimpArgs false
namespace Go.Sk
open Go.ChangeShapes Go.WideShapes Go.ChangeAt Go.RowKit
section
variable {H : Type} {enc : TypeId × Value → H} {P : Program} {W : World}
/-- Nothing in it weighs more than may be reached. -/
def Light (P : Program) (t : TypeId) (d : DataW H) : Prop := ∀ q ∈ d.weights P t, q ≤ reachBytes
theorem light_all {e : TypeId} : ∀ {l : List (DataW H)}, (∀ q ∈ DataW.weightsAll P e l, q ≤ reachBytes) → ∀ d ∈ l, Light P e d
  | [], _, d, h => by cases h
  | x :: l, hw, d, h => by
    simp only [DataW.weightsAll, List.mem_append] at hw
    rcases List.mem_cons.1 h with rfl | h
    · exact fun q hq => hw q (.inl hq)
    · exact light_all (fun q hq => hw q (.inr hq)) d h
theorem light_each {ts : List TypeId} {ds : List (DataW H)} (hw : ∀ q ∈ DataW.weightsEach P ts ds, q ≤ reachBytes) {j : Nat} {t : TypeId} {d : DataW H} (ht : ts[j]? = some t) (hd : ds[j]? = some d) : Light P t d :=
  fun q hq => hw q (DataW.weights_mem_each ht hd q hq)
theorem read_sliceW {t e : TypeId} {cs : List Value} {x : DataW H × List MemPlace} {fuel : Nat} (ht : P.underlying t = some (.slice e)) (hz : 0 < P.cellsOf e) (h : DataW.trod enc P W 0 (fun _ => true) true fuel t cs = some x) (hw : Light P t x.1) :
    ∃ (a : Option Addr) (n c : Nat) (es : List (List Value)), cs = [.slice a n c] ∧ n ≤ c ∧ c ≤ maxLen ∧ c * P.bytesOf e ≤ reachBytes ∧ es.length = n ∧ (∀ ce ∈ es, ce.length = P.cellsOf e ∧ ∃ m y, DataW.trod enc P W 0 (fun _ => true) true m e ce = some y ∧ Light P e y.1) ∧ ∀ Hs, Rd W Hs a n c (P.cellsOf e) es.flatten := by
  rcases DataW.trod_slice ht h with ⟨rfl, _⟩ | ⟨a, n, c, elems, rest, m, _, rfl, rfl, _, hnc, hcm, hel, hget, hrest, _⟩
  · exact ⟨none, 0, 0, [], rfl, Nat.le_refl _, Nat.zero_le _, by simp, rfl, fun _ h => absurd h (by simp), fun _ => Rd.none_⟩
  · obtain ⟨hrl, _⟩ := hrest rfl
    have hw' : ∀ q ∈ ((elems.length + rest.length) * P.bytesOf e :: (DataW.weightsAll P e (elems.map (·.1)) ++ DataW.weightsAll P e (rest.map (·.1)))), q ≤ reachBytes := by
      intro q hq
      refine hw q ?_
      simp only [DataW.weights, ht, List.length_map]
      exact hq
    have hcb : c * P.bytesOf e ≤ reachBytes := by
      have := hw' _ List.mem_cons_self
      rwa [hel, hrl, show n + (c - n) = c by omega] at this
    have hlight : ∀ y ∈ elems, Light P e y.1 := fun y hy => light_all (fun q hq => hw' q (List.mem_cons_of_mem _ (List.mem_append_left _ hq))) y.1 (List.mem_map.2 ⟨y, hy, rfl⟩)
    have hcells : ∀ i, i < n → ∃ ce, W.cells? 0 (a.add (i * P.cellsOf e)) (P.cellsOf e) = some ce ∧ ∃ y, DataW.trod enc P W 0 (fun _ => true) true m e ce = some y ∧ Light P e y.1 := fun i hi => by
      have h1 := hget i hi
      rw [List.getElem?_eq_getElem (by omega), Option.bind_eq_some_iff] at h1
      obtain ⟨ce, h2, h3⟩ := h1
      exact ⟨ce, h2, _, h3, hlight _ (List.getElem_mem _)⟩
    let f : Nat → List Value := fun i => (W.cells? 0 (a.add (i * P.cellsOf e)) (P.cellsOf e)).getD []
    have hf : ∀ i, i < n → W.cells? 0 (a.add (i * P.cellsOf e)) (P.cellsOf e) = some (f i) ∧ ∃ y, DataW.trod enc P W 0 (fun _ => true) true m e (f i) = some y ∧ Light P e y.1 := fun i hi => by
      obtain ⟨ce, h1, h2⟩ := hcells i hi
      simp only [f, h1, Option.getD_some]
      exact ⟨trivial, h2⟩
    have hlen : ∀ ce ∈ (List.range n).map f, ce.length = P.cellsOf e := fun ce hce => by
      obtain ⟨i, hi, rfl⟩ := List.mem_map.1 hce
      exact (World.cells?_some (hf i (List.mem_range.1 hi)).1).2.1
    refine ⟨some a, n, c, (List.range n).map f, rfl, hnc, hcm, hcb, by simp, fun ce hce => ⟨hlen ce hce, ?_⟩, fun Hs => ⟨?_, hnc, fun w hS => ⟨fun _ => rfl, fun j u hj => ?_⟩⟩⟩
    · obtain ⟨i, hi, rfl⟩ := List.mem_map.1 hce
      exact ⟨m, (hf i (List.mem_range.1 hi)).2⟩
    · rw [List.length_flatten, List.map_map]
      have : (List.range n).map (List.length ∘ f) = List.replicate n (P.cellsOf e) := by
        apply List.ext_getElem
        · simp
        · intro i h1 h2
          simp only [List.getElem_map, List.getElem_range, Function.comp, List.getElem_replicate]
          exact hlen _ (List.mem_map.2 ⟨i, List.mem_range.2 (by simpa using h1), rfl⟩)
      rw [this, List.sum_replicate_nat]
    · obtain ⟨i, ce, r, h1, h2, h3, h4⟩ := getElem?_flat _ hlen j u hj
      have hi : i < n := by have := (List.getElem?_eq_some_iff.1 h1).1; simpa using this
      have hce : ce = f i := by
        rw [List.getElem?_map, List.getElem?_range hi] at h1
        simpa using h1.symm
      subst hce
      have hcell := (World.cells?_some (hf i hi).1).2.2 r h2
      rw [h4] at hcell
      rw [adr, Option.getD_some, h3]
      refine hS.cellOld ?_
      rw [addr_addadd] at hcell
      exact hcell
theorem trod_field {t : TypeId} {cs : List Value} {x : DataW H × List MemPlace} {fuel : Nat} {fs : Array Field} (ht : P.underlying t = some (.struct fs)) (h : DataW.trod enc P W 0 (fun _ => true) true fuel t cs = some x) (hw : Light P t x.1) (i : Nat) (f : Field) (hf : fs[i]? = some f) :
    ∃ m y, DataW.trod enc P W 0 (fun _ => true) true m f.type ((cs.drop f.offset).take (P.cellsOf f.type)) = some y ∧ Light P f.type y.1 := by
  obtain ⟨xs, n, _, rfl, _, hl, hg⟩ := DataW.trod_struct ht h
  have hi : i < xs.length := by rw [hl]; exact (Array.getElem?_eq_some_iff.1 hf).1
  refine ⟨n, xs[i], ?_, ?_⟩
  · rw [hg i f hf, List.getElem?_eq_getElem hi]
  · have hw' : ∀ q ∈ DataW.weightsEach P (fs.toList.map (·.type)) (xs.map (·.1)), q ≤ reachBytes := by
      intro q hq
      refine hw q ?_
      simp only [DataW.weights, ht]
      exact hq
    refine light_each hw' (j := i) ?_ ?_
    · rw [List.getElem?_map, Array.getElem?_toList, hf]; rfl
    · rw [List.getElem?_map, List.getElem?_eq_getElem hi]; rfl
/-- As the kit's 'returnsInHanded_of_change', the arguments' weights being told too. -/
theorem returns_weighed {a : Assume} {C : Checked} {os : Os} {f : FuncId} {fn : Func} {s : ChangeSpec} {conds : List PathCond} {apart fresh handsOn again : Bool}
    (own : ownKnob C.prog.godebug = none) (started : os.Started) (noInit : C.prog.inits.idxOf? f = none) (hfn : C.prog.funcs[f]? = some fn)
    (witness : ∃ (w : World) (tape : Tape) (i : Input), w.os = os ∧ (w.forCall tape i).Shaped C.prog ∧ i.vars = [] ∧ Input.okWide C.prog (w.forCall tape i) .any w.heap.size f i ∧
      s.pre6 enc C.prog fn conds apart (w.forCall tape i).memory i.args ∧ a.holds C.prog (lone (Frame.enter C.prog f i.args .normal) [] (w.forCall tape i)))
    (contract : ∀ (W : World) (base : Nat) (args : Array Value) (ds gs : List (DataW H)) (before : List MemPlace),
      (∀ (j : Nat) t v, fn.params[j]? = some t → args[j]? = some v → Value.okWide C.prog W .any base t v) →
      DataW.Whole enc C.prog fn.params.toList s.vars apart W args.toList ds gs before →
      (∀ q ∈ DataW.weightsEach C.prog (fn.params.toList ++ s.plain.varTypes C.prog) (ds ++ gs), q ≤ reachBytes) →
      Calls C.prog f args W fun e W' => ∃ v, e = .returned v ∧ s.post enc C.prog fn apart fresh handsOn again W args v W') :
    ReturnsInHanded a C os f .any (s.pre6 enc C.prog fn conds apart) (s.post enc C.prog fn apart fresh handsOn again) := by
  refine returnsInHanded_of_calls own started noInit witness ?_
  intro w tape i _ _ _ hok hpre hholds
  obtain ⟨_, _, _, fn', hfn', _, _, _, _, hval⟩ := hok
  have e : fn' = fn := Option.some.inj (hfn'.symm.trans hfn)
  subst e
  obtain ⟨⟨ds, gs, before, hw, hc⟩, hz⟩ := hpre
  have hw' := DataW.Whole.of_heap (w' := w.forCall tape i) (by rfl) hw
  have hwt := hz.weights hw
  refine (contract (w.forCall tape i) w.heap.size i.args ds gs before hval hw' (fun q hq => by simpa using List.all_eq_true.1 hwt q hq)).mono fun e W' ⟨v, he, hp⟩ => ?_
  subst he
  exact ChangeSpec.post_blind hp
end
end Go.Sk
