/- Merged: K1, K2, K3, K5. -/
import Derived.Test.YtldfbjcicbfidaaRows
import Derived.WalkKit
import Derived.ProofKit
import Derived.OpenShut
import Derived.Test.YtldfbjcicbfidaaSkA
import Derived.ReadAgain
import Derived.ChangeStays
import Derived.SizedLaws
set_option linter.unusedVariables false
set_option linter.unusedSimpArgs false
section
/- From a walk's end to a row's post: what lay before the call lies unchanged behind it. Plain theorems, no condition. -/
namespace Go.Sk
open Go.ChangeShapes Go.WideShapes Go.ChangeAt Go.RowKit
/-- What lay before lies unchanged behind. -/
structure Old (W w' : World) : Prop where
  kept : W.keptBut w' (fun _ => False)
  fz : ∀ a : Addr, a.block < W.heap.size → w'.frozen? a = W.frozen? a
  size : W.heap.size ≤ w'.heap.size
theorem Sat.old {W w' : World} {H : List HP} (h : Sat W H w') : Old W w' := by
  refine ⟨⟨h.os, h.output, fun i hi => ?_⟩, fun a ha => ?_, h.size⟩
  · rw [h.base i hi]
    cases hc : W.heap[i]? with
    | none => simp
    | some o => cases o <;> simp
  · unfold World.frozen?
    rw [h.base _ ha]
theorem Old.frame {W w' : World} (h : Old W w') (may : MemPlace → Prop) : W.keptBut w' may := World.keptBut_mono (fun _ f => f.elim) h.kept
/-- A law's walk told by its contract. -/
theorem Sp.law {P : Program} {f : FuncId} {vs : List Value} {W : World} {v : Value} (h : Sp W P f vs [] [] (fun u H' => u = v ∧ H' = [])) : Calls P f vs.toArray W fun e w' => e = .returned v ∧ Old W w' :=
  (h W (Sat.refl W)).mono fun _ _ ⟨_, _, he, ⟨hv, _⟩, hs⟩ => ⟨by rw [he, hv], hs.old⟩
section
variable {H : Type} {enc : TypeId × Value → H} {P : Program}
theorem post_of_old {f : Func} {s : ChangeSpec} {apart fresh handsOn again : Bool} {W W' : World} {args : Array Value} {v : Value} {ds gs : List (DataW H)} {before pa pv : List MemPlace}
    (hW : DataW.Whole enc P f.params.toList s.vars apart W args.toList ds gs before)
    (hres : ∀ (b : Nat) (sp : Nat → Bool) (hd : Bool), DataW.TrodAll enc P W' b sp hd f.resultTypes.toList (v.resultList f.resultTypes.size) (s.fn H (ds ++ gs)).results [])
    (hargs : ∀ sp : Nat → Bool, (∀ p ∈ before, sp p.block = true) → DataW.TrodAll enc P W' 0 sp true f.params.toList args.toList (s.fn H (ds ++ gs)).args pa)
    (hvars : ∀ sp : Nat → Bool, (∀ p ∈ before, sp p.block = true) → DataW.TrodVars enc P W' sp s.vars (s.fn H (ds ++ gs)).vars pv)
    (hps : before = pa ++ pv) (ho : Old W W')
    (hok : ∀ (j : Nat) (t : TypeId) (r : Value), f.resultTypes[j]? = some t → (v.resultList f.resultTypes.size)[j]? = some r → Value.okWide P W' .any 0 t r) :
    s.post enc P f apart fresh handsOn again W args v W' := by
  have hold : ∀ p ∈ before, (fun b => decide (b < W.heap.size)) p.block = true := fun p hp => by simpa using hW.lt p hp
  have hlt := hW.lt
  refine ⟨ds, gs, before, [], pa, pv, hW, hres _ _ _, hargs _ hold, hvars _ hold, World.keptBut_mono (fun p hp => ⟨hp, ?_⟩) (ho.frame (· ∈ before)), fun _ => ?_⟩
  · rw [hps, List.mem_append] at hp
    exact Or.inr hp
  · obtain ⟨_, _, _, _, _, hz, hn⟩ := hW
    refine ⟨hok, _, _, ([] ++ pa) ++ pv, ⟨[] ++ pa, pv, trodAll_append (hargs _ (fun _ _ => rfl)) (hres _ _ _), hvars _ (fun _ _ => rfl), rfl, ?_, ?_⟩, ?_⟩
    · intro b off hp
      have hb : MemPlace.cell b off ∈ before := by rw [hps]; simpa using hp
      rw [ho.fz _ (by simpa [MemPlace.block] using hlt _ hb)]
      exact hz b off hb
    · intro ha
      have := hn ha
      rw [hps] at this
      simpa using this
    · intro p hp _
      rw [hps]
      simpa using hp
end
theorem wf_u64 {a : Int} (h : (Lit.int .u64 a).wf = true) : 0 ≤ a ∧ a < 18446744073709551616 := by
  simp only [Lit.wf, Bool.and_eq_true, decide_eq_true_eq, IntKind.min, IntKind.max, IntKind.signed, IntKind.bits] at h
  obtain ⟨h0, h1⟩ := h
  simp at h0 h1
  exact ⟨h0, by omega⟩
theorem wf_i64 {a : Int} (h : (Lit.int .i64 a).wf = true) : -9223372036854775808 ≤ a ∧ a ≤ 9223372036854775807 := by
  simp only [Lit.wf, Bool.and_eq_true, decide_eq_true_eq, IntKind.min, IntKind.max, IntKind.signed, IntKind.bits] at h
  obtain ⟨h0, h1⟩ := h
  simp at h0 h1
  exact ⟨h0, by omega⟩
end Go.Sk
end
section
/- The arguments read behind the call as they did before; for rows whose arguments hold memory. Plain theorems, no condition. -/
namespace Go.Sk
open Go.ChangeShapes Go.WideShapes Go.ChangeAt Go.RowKit
section
variable {H : Type} {enc : TypeId × Value → H} {P : Program}
theorem Sat.same {W w' : World} {Hs : List HP} (h : Sat W Hs w') (p : MemPlace) (hp : p.block < W.heap.size) : W.sameAt w' p := by
  cases p <;> simp only [World.sameAt, MemPlace.block, World.cell?] at hp ⊢ <;> rw [h.base _ hp]
theorem TrodAll.stays {W w' : World} (hs : ∀ p : MemPlace, p.block < W.heap.size → W.sameAt w' p) {T : TypeId → Prop} (K : Kids P T) (hz : ∀ {t e : TypeId}, T t → P.underlying t = some (.slice e) → 0 < P.cellsOf e) {sp : Nat → Bool} :
    ∀ {ts : List TypeId} {vs : List Value} {ds : List (DataW H)} {ps : List MemPlace}, (∀ t ∈ ts, T t) → DataW.TrodAll enc P W 0 (fun _ => true) true ts vs ds ps → (∀ p ∈ ps, sp p.block = true) → DataW.TrodAll enc P w' 0 sp true ts vs ds ps
  | [], [], [], _, _, h, _ => h
  | _ :: _, _ :: _, _ :: _, _, hT, ⟨p, q, ⟨n, h1⟩, h2, e⟩, hsp => by
    subst e
    refine ⟨p, q, ⟨n, ?_⟩, TrodAll.stays hs K hz (fun t ht => hT t (List.mem_cons_of_mem _ ht)) h2 (fun x hx => hsp x (List.mem_append_right _ hx)), rfl⟩
    exact DataW.trod_stays K hz (fun h => by cases h) (hT _ (List.mem_cons_self ..)) h1 (fun x hx => hs x (DataW.trod_lt n _ _ _ h1 x hx)) (fun x hx => hsp x (List.mem_append_left _ hx))
end
end Go.Sk
namespace Go.Sk
open Go.ChangeShapes Go.WideShapes Go.ChangeAt Go.RowKit
section
variable {H : Type} {enc : TypeId × Value → H} {P : Program}
/-- From the walk of a law whose arguments may hold memory to its row's post. -/
theorem law_post {fid : FuncId} {f : Func} {s : ChangeSpec} {apart fresh handsOn again : Bool} {W : World} {args : Array Value} {ds gs : List (DataW H)} {before : List MemPlace} {T : TypeId → Prop} {tb : TypeId} (K : Kids P T)
    (hz : ∀ {t e : TypeId}, T t → P.underlying t = some (.slice e) → 0 < P.cellsOf e) (hT : ∀ t ∈ f.params.toList, T t) (hvars : s.vars = []) (hrt : f.resultTypes = #[tb]) (hub : P.underlying tb = some .bool)
    (hW : DataW.Whole enc P f.params.toList s.vars apart W args.toList ds gs before)
    (hfn : DataW.TrodAll enc P W 0 (fun _ => true) true f.params.toList args.toList ds before → (s.fn H (ds ++ [])).results = [.lit (.bool true)] ∧ (s.fn H (ds ++ [])).args = ds ∧ (s.fn H (ds ++ [])).vars = [])
    (hwalk : DataW.TrodAll enc P W 0 (fun _ => true) true f.params.toList args.toList ds before → Calls P fid args W fun e w' => e = .returned (.bool true) ∧ Sat W [] w') :
    Calls P fid args W fun e w' => ∃ v, e = .returned v ∧ s.post enc P f apart fresh handsOn again W args v w' := by
  have hW' := hW
  obtain ⟨p, q, hA, hV, rfl, hfz, hnd⟩ := hW
  rw [hvars] at hV
  obtain ⟨rfl, rfl⟩ := trodVars_none hV
  rw [List.append_nil] at hfn hwalk
  obtain ⟨e1, e2, e3⟩ := hfn hA
  refine (hwalk hA).mono fun e W' ⟨he, hs⟩ => ⟨_, he, ?_⟩
  refine post_of_old (pa := p) (pv := []) hW' (fun b sp hd => ?_) (fun sp hsp => ?_) (fun sp _ => ?_) rfl hs.old ?_
  · rw [hrt, e1]
    exact trodAll_cons_mk (shut_bool hub _) trodAll_mk0
  · rw [e2]
    exact TrodAll.stays (fun x hx => hs.same x hx) K hz hT hA (fun x hx => hsp x (List.mem_append_left _ hx))
  · rw [e3, hvars]
    rfl
  · exact ok_one hrt rfl (okWide_bool_mk hub _)
end
end Go.Sk
end
section
/- Arguments that hold memory, as slices that are only read. Plain theorems, no condition. -/
namespace Go.Sk
open Go.ChangeShapes Go.WideShapes Go.ChangeAt Go.RowKit
section
variable {H : Type} {enc : TypeId × Value → H} {P : Program} {W : World} {sp : Nat → Bool}
theorem Sat.cellOld {w : World} {Hs : List HP} (h : Sat W Hs w) {a : Addr} {v : Value} (hc : W.cell? a = some v) : w.cell? a = some v := by
  have hb : a.block < W.heap.size := World.block_lt_of_cell? W a hc
  unfold World.cell? at hc ⊢
  rw [h.base _ hb]
  exact hc
theorem getElem?_flat {z : Nat} : ∀ (es : List (List Value)), (∀ c ∈ es, c.length = z) → ∀ (j : Nat) (u : Value), es.flatten[j]? = some u → ∃ i c r, es[i]? = some c ∧ r < z ∧ j = i * z + r ∧ c[r]? = some u
  | [], _, j, u, h => by simp at h
  | c :: es, hz, j, u, h => by
    have hcz := hz c (by simp)
    rw [List.flatten_cons] at h
    by_cases hj : j < c.length
    · rw [List.getElem?_append_left hj] at h
      exact ⟨0, c, j, rfl, by omega, by omega, h⟩
    · rw [List.getElem?_append_right (by omega)] at h
      obtain ⟨i, c', r, h1, h2, h3, h4⟩ := getElem?_flat es (fun c hc => hz c (by simp [hc])) _ u h
      refine ⟨i + 1, c', r, by simpa using h1, h2, ?_, h4⟩
      rw [Nat.add_mul, Nat.one_mul]
      omega
/-- A slice argument: its elements' cells, each read as the element's type. -/
theorem read_slice {t e : TypeId} {cs : List Value} {x : DataW H × List MemPlace} {fuel : Nat} (ht : P.underlying t = some (.slice e)) (hz : 0 < P.cellsOf e) (h : DataW.trod enc P W 0 sp true fuel t cs = some x) :
    ∃ (a : Option Addr) (n c : Nat) (es : List (List Value)), cs = [.slice a n c] ∧ n ≤ c ∧ c ≤ maxLen ∧ es.length = n ∧ (∀ ce ∈ es, ce.length = P.cellsOf e ∧ ∃ m y, DataW.trod enc P W 0 sp true m e ce = some y) ∧ ∀ Hs, Rd W Hs a n c (P.cellsOf e) es.flatten := by
  rcases DataW.trod_slice ht h with ⟨rfl, _⟩ | ⟨a, n, c, elems, rest, m, _, rfl, _, _, hnc, hcm, hel, hget, _, _⟩
  · exact ⟨none, 0, 0, [], rfl, Nat.le_refl _, Nat.zero_le _, rfl, fun _ h => absurd h (by simp), fun _ => Rd.none_⟩
  · have hcells : ∀ i, i < n → ∃ ce, W.cells? 0 (a.add (i * P.cellsOf e)) (P.cellsOf e) = some ce ∧ ∃ y, DataW.trod enc P W 0 sp true m e ce = some y := fun i hi => by
      have h1 := hget i hi
      rw [List.getElem?_eq_getElem (by omega), Option.bind_eq_some_iff] at h1
      obtain ⟨ce, h2, h3⟩ := h1
      exact ⟨ce, h2, _, h3⟩
    let f : Nat → List Value := fun i => (W.cells? 0 (a.add (i * P.cellsOf e)) (P.cellsOf e)).getD []
    have hf : ∀ i, i < n → W.cells? 0 (a.add (i * P.cellsOf e)) (P.cellsOf e) = some (f i) ∧ ∃ y, DataW.trod enc P W 0 sp true m e (f i) = some y := fun i hi => by
      obtain ⟨ce, h1, h2⟩ := hcells i hi
      simp only [f, h1, Option.getD_some]
      exact ⟨trivial, h2⟩
    have hlen : ∀ ce ∈ (List.range n).map f, ce.length = P.cellsOf e := fun ce hce => by
      obtain ⟨i, hi, rfl⟩ := List.mem_map.1 hce
      exact (World.cells?_some (hf i (List.mem_range.1 hi)).1).2.1
    refine ⟨some a, n, c, (List.range n).map f, rfl, hnc, hcm, by simp, fun ce hce => ⟨hlen ce hce, ?_⟩, fun Hs => ⟨?_, hnc, fun w hS => ⟨fun _ => rfl, fun j u hj => ?_⟩⟩⟩
    · obtain ⟨i, hi, rfl⟩ := List.mem_map.1 hce
      exact ⟨m, (hf i (List.mem_range.1 hi)).2⟩
    · rw [List.length_flatten, List.map_map]
      have : (List.range n).map (List.length ∘ f) = List.replicate n (P.cellsOf e) := by
        apply List.ext_getElem
        · simp
        · intro i h1 h2
          simp only [List.getElem_map, List.getElem_range, Function.comp, List.getElem_replicate]
          exact hlen _ (List.mem_map.2 ⟨i, List.mem_range.2 (by simpa using h1), rfl⟩)
      rw [this, List.sum_replicate_nat]
    · obtain ⟨i, ce, r, h1, h2, h3, h4⟩ := getElem?_flat _ hlen j u hj
      have hi : i < n := by have := (List.getElem?_eq_some_iff.1 h1).1; simpa using this
      have hce : ce = f i := by
        rw [List.getElem?_map, List.getElem?_range hi] at h1
        simpa using h1.symm
      subst hce
      have hcell := (World.cells?_some (hf i hi).1).2.2 r h2
      rw [h4] at hcell
      rw [adr, Option.getD_some, h3]
      refine hS.cellOld ?_
      rw [addr_addadd] at hcell
      exact hcell
/-- A list of integers. -/
theorem read_ints {t e : TypeId} {k : IntKind} {cs : List Value} {x : DataW H × List MemPlace} {fuel : Nat} (ht : P.underlying t = some (.slice e)) (he : P.underlying e = some (.int k)) (hz : P.cellsOf e = 1) (h : DataW.trod enc P W 0 sp true fuel t cs = some x) :
    ∃ (a : Option Addr) (n c : Nat) (l : List Int), cs = [.slice a n c] ∧ n ≤ c ∧ c ≤ maxLen ∧ l.length = n ∧ (∀ y ∈ l, (Lit.int k y).wf = true) ∧ ∀ Hs, Rd W Hs a n c 1 (ints k l) := by
  obtain ⟨a, n, c, es, h1, h2, h3, h4, h5, h6⟩ := read_slice ht (by omega) h
  have hl : ∃ l : List Int, es.flatten = ints k l ∧ l.length = es.length ∧ ∀ y ∈ l, (Lit.int k y).wf = true := by
    clear h1 h4 h6
    induction es with
    | nil => exact ⟨[], rfl, rfl, fun _ h => absurd h (by simp)⟩
    | cons ce es ih =>
      obtain ⟨l, e1, e2, e3⟩ := ih (fun c hc => h5 c (by simp [hc]))
      obtain ⟨_, m, y, hy⟩ := h5 ce (by simp)
      obtain ⟨q, rfl, _, hq⟩ := DataW.trod_int he hy
      refine ⟨q :: l, ?_, by simp [e2], fun y hy => ?_⟩
      · rw [List.flatten_cons, e1]; rfl
      · rcases List.mem_cons.1 hy with rfl | hy
        · exact hq
        · exact e3 y hy
  obtain ⟨l, e1, e2, e3⟩ := hl
  refine ⟨a, n, c, l, h1, h2, h3, by omega, e3, fun Hs => ?_⟩
  have := h6 Hs
  rw [hz, e1] at this
  exact this
end
end Go.Sk
end
section
/- As K3, with the bound that the row lays on each slice: what an argument's slices, at any depth, weigh. Plain theorems, no condition. -/
namespace Go.Sk
open Go.ChangeShapes Go.WideShapes Go.ChangeAt Go.RowKit
section
variable {H : Type} {enc : TypeId × Value → H} {P : Program} {W : World}
/-- Nothing in it weighs more than may be reached. -/
def Light (P : Program) (t : TypeId) (d : DataW H) : Prop := ∀ q ∈ d.weights P t, q ≤ reachBytes
theorem light_all {e : TypeId} : ∀ {l : List (DataW H)}, (∀ q ∈ DataW.weightsAll P e l, q ≤ reachBytes) → ∀ d ∈ l, Light P e d
  | [], _, d, h => by cases h
  | x :: l, hw, d, h => by
    simp only [DataW.weightsAll, List.mem_append] at hw
    rcases List.mem_cons.1 h with rfl | h
    · exact fun q hq => hw q (.inl hq)
    · exact light_all (fun q hq => hw q (.inr hq)) d h
theorem light_each {ts : List TypeId} {ds : List (DataW H)} (hw : ∀ q ∈ DataW.weightsEach P ts ds, q ≤ reachBytes) {j : Nat} {t : TypeId} {d : DataW H} (ht : ts[j]? = some t) (hd : ds[j]? = some d) : Light P t d :=
  fun q hq => hw q (DataW.weights_mem_each ht hd q hq)
theorem read_sliceW {t e : TypeId} {cs : List Value} {x : DataW H × List MemPlace} {fuel : Nat} (ht : P.underlying t = some (.slice e)) (hz : 0 < P.cellsOf e) (h : DataW.trod enc P W 0 (fun _ => true) true fuel t cs = some x) (hw : Light P t x.1) :
    ∃ (a : Option Addr) (n c : Nat) (es : List (List Value)), cs = [.slice a n c] ∧ n ≤ c ∧ c ≤ maxLen ∧ c * P.bytesOf e ≤ reachBytes ∧ es.length = n ∧ (∀ ce ∈ es, ce.length = P.cellsOf e ∧ ∃ m y, DataW.trod enc P W 0 (fun _ => true) true m e ce = some y ∧ Light P e y.1) ∧ ∀ Hs, Rd W Hs a n c (P.cellsOf e) es.flatten := by
  rcases DataW.trod_slice ht h with ⟨rfl, _⟩ | ⟨a, n, c, elems, rest, m, _, rfl, rfl, _, hnc, hcm, hel, hget, hrest, _⟩
  · exact ⟨none, 0, 0, [], rfl, Nat.le_refl _, Nat.zero_le _, by simp, rfl, fun _ h => absurd h (by simp), fun _ => Rd.none_⟩
  · obtain ⟨hrl, _⟩ := hrest rfl
    have hw' : ∀ q ∈ ((elems.length + rest.length) * P.bytesOf e :: (DataW.weightsAll P e (elems.map (·.1)) ++ DataW.weightsAll P e (rest.map (·.1)))), q ≤ reachBytes := by
      intro q hq
      refine hw q ?_
      simp only [DataW.weights, ht, List.length_map]
      exact hq
    have hcb : c * P.bytesOf e ≤ reachBytes := by
      have := hw' _ List.mem_cons_self
      rwa [hel, hrl, show n + (c - n) = c by omega] at this
    have hlight : ∀ y ∈ elems, Light P e y.1 := fun y hy => light_all (fun q hq => hw' q (List.mem_cons_of_mem _ (List.mem_append_left _ hq))) y.1 (List.mem_map.2 ⟨y, hy, rfl⟩)
    have hcells : ∀ i, i < n → ∃ ce, W.cells? 0 (a.add (i * P.cellsOf e)) (P.cellsOf e) = some ce ∧ ∃ y, DataW.trod enc P W 0 (fun _ => true) true m e ce = some y ∧ Light P e y.1 := fun i hi => by
      have h1 := hget i hi
      rw [List.getElem?_eq_getElem (by omega), Option.bind_eq_some_iff] at h1
      obtain ⟨ce, h2, h3⟩ := h1
      exact ⟨ce, h2, _, h3, hlight _ (List.getElem_mem _)⟩
    let f : Nat → List Value := fun i => (W.cells? 0 (a.add (i * P.cellsOf e)) (P.cellsOf e)).getD []
    have hf : ∀ i, i < n → W.cells? 0 (a.add (i * P.cellsOf e)) (P.cellsOf e) = some (f i) ∧ ∃ y, DataW.trod enc P W 0 (fun _ => true) true m e (f i) = some y ∧ Light P e y.1 := fun i hi => by
      obtain ⟨ce, h1, h2⟩ := hcells i hi
      simp only [f, h1, Option.getD_some]
      exact ⟨trivial, h2⟩
    have hlen : ∀ ce ∈ (List.range n).map f, ce.length = P.cellsOf e := fun ce hce => by
      obtain ⟨i, hi, rfl⟩ := List.mem_map.1 hce
      exact (World.cells?_some (hf i (List.mem_range.1 hi)).1).2.1
    refine ⟨some a, n, c, (List.range n).map f, rfl, hnc, hcm, hcb, by simp, fun ce hce => ⟨hlen ce hce, ?_⟩, fun Hs => ⟨?_, hnc, fun w hS => ⟨fun _ => rfl, fun j u hj => ?_⟩⟩⟩
    · obtain ⟨i, hi, rfl⟩ := List.mem_map.1 hce
      exact ⟨m, (hf i (List.mem_range.1 hi)).2⟩
    · rw [List.length_flatten, List.map_map]
      have : (List.range n).map (List.length ∘ f) = List.replicate n (P.cellsOf e) := by
        apply List.ext_getElem
        · simp
        · intro i h1 h2
          simp only [List.getElem_map, List.getElem_range, Function.comp, List.getElem_replicate]
          exact hlen _ (List.mem_map.2 ⟨i, List.mem_range.2 (by simpa using h1), rfl⟩)
      rw [this, List.sum_replicate_nat]
    · obtain ⟨i, ce, r, h1, h2, h3, h4⟩ := getElem?_flat _ hlen j u hj
      have hi : i < n := by have := (List.getElem?_eq_some_iff.1 h1).1; simpa using this
      have hce : ce = f i := by
        rw [List.getElem?_map, List.getElem?_range hi] at h1
        simpa using h1.symm
      subst hce
      have hcell := (World.cells?_some (hf i hi).1).2.2 r h2
      rw [h4] at hcell
      rw [adr, Option.getD_some, h3]
      refine hS.cellOld ?_
      rw [addr_addadd] at hcell
      exact hcell
theorem trod_field {t : TypeId} {cs : List Value} {x : DataW H × List MemPlace} {fuel : Nat} {fs : Array Field} (ht : P.underlying t = some (.struct fs)) (h : DataW.trod enc P W 0 (fun _ => true) true fuel t cs = some x) (hw : Light P t x.1) (i : Nat) (f : Field) (hf : fs[i]? = some f) :
    ∃ m y, DataW.trod enc P W 0 (fun _ => true) true m f.type ((cs.drop f.offset).take (P.cellsOf f.type)) = some y ∧ Light P f.type y.1 := by
  obtain ⟨xs, n, _, rfl, _, hl, hg⟩ := DataW.trod_struct ht h
  have hi : i < xs.length := by rw [hl]; exact (Array.getElem?_eq_some_iff.1 hf).1
  refine ⟨n, xs[i], ?_, ?_⟩
  · rw [hg i f hf, List.getElem?_eq_getElem hi]
  · have hw' : ∀ q ∈ DataW.weightsEach P (fs.toList.map (·.type)) (xs.map (·.1)), q ≤ reachBytes := by
      intro q hq
      refine hw q ?_
      simp only [DataW.weights, ht]
      exact hq
    refine light_each hw' (j := i) ?_ ?_
    · rw [List.getElem?_map, Array.getElem?_toList, hf]; rfl
    · rw [List.getElem?_map, List.getElem?_eq_getElem hi]; rfl
/-- As the kit's 'returnsInHanded_of_change', the arguments' weights being told too. -/
theorem returns_weighed {a : Assume} {C : Checked} {os : Os} {f : FuncId} {fn : Func} {s : ChangeSpec} {conds : List PathCond} {apart fresh handsOn again : Bool}
    (own : ownKnob C.prog.godebug = none) (started : os.Started) (noInit : C.prog.inits.idxOf? f = none) (hfn : C.prog.funcs[f]? = some fn)
    (witness : ∃ (w : World) (tape : Tape) (i : Input), w.os = os ∧ (w.forCall tape i).Shaped C.prog ∧ i.vars = [] ∧ Input.okWide C.prog (w.forCall tape i) .any w.heap.size f i ∧
      s.pre6 enc C.prog fn conds apart (w.forCall tape i).memory i.args ∧ a.holds C.prog (lone (Frame.enter C.prog f i.args .normal) [] (w.forCall tape i)))
    (contract : ∀ (W : World) (base : Nat) (args : Array Value) (ds gs : List (DataW H)) (before : List MemPlace),
      (∀ (j : Nat) t v, fn.params[j]? = some t → args[j]? = some v → Value.okWide C.prog W .any base t v) →
      DataW.Whole enc C.prog fn.params.toList s.vars apart W args.toList ds gs before →
      (∀ q ∈ DataW.weightsEach C.prog (fn.params.toList ++ s.plain.varTypes C.prog) (ds ++ gs), q ≤ reachBytes) →
      Calls C.prog f args W fun e W' => ∃ v, e = .returned v ∧ s.post enc C.prog fn apart fresh handsOn again W args v W') :
    ReturnsInHanded a C os f .any (s.pre6 enc C.prog fn conds apart) (s.post enc C.prog fn apart fresh handsOn again) := by
  refine returnsInHanded_of_calls own started noInit witness ?_
  intro w tape i _ _ _ hok hpre hholds
  obtain ⟨_, _, _, fn', hfn', _, _, _, _, hval⟩ := hok
  have e : fn' = fn := Option.some.inj (hfn'.symm.trans hfn)
  subst e
  obtain ⟨⟨ds, gs, before, hw, hc⟩, hz⟩ := hpre
  have hw' := DataW.Whole.of_heap (w' := w.forCall tape i) (by rfl) hw
  have hwt := hz.weights hw
  refine (contract (w.forCall tape i) w.heap.size i.args ds gs before hval hw' (fun q hq => by simpa using List.all_eq_true.1 hwt q hq)).mono fun e W' ⟨v, he, hp⟩ => ?_
  subst he
  exact ChangeSpec.post_blind hp
end
end Go.Sk
end
