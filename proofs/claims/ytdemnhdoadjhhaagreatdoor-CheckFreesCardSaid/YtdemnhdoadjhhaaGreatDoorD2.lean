/- Arguments that are trees of files, read out of the row's own data. Plain theorems, no condition. -/
import Derived.Test.YtdemnhdoadjhhaaGreatDoorK5
import Derived.Test.YtdemnhdoadjhhaaGreatDoorD1
set_option linter.unusedVariables false
set_option linter.unusedSimpArgs false
namespace Go.Sk
open Go.ChangeShapes Go.WideShapes Go.ChangeAt Go.RowKit
section
variable {H : Type} {enc : TypeId × Value → H} {P : Program} {W : World}
/-- As read_sliceW; the elements are read by less. -/
theorem read_sliceF {t e : TypeId} {cs : List Value} {x : DataW H × List MemPlace} {fuel : Nat} (ht : P.underlying t = some (.slice e)) (hz : 0 < P.cellsOf e) (h : DataW.trod enc P W 0 (fun _ => true) true fuel t cs = some x) (hw : Light P t x.1) :
    ∃ (a : Option Addr) (n c : Nat) (es : List (List Value)), cs = [.slice a n c] ∧ n ≤ c ∧ c * P.bytesOf e ≤ reachBytes ∧ es.length = n ∧ (∀ ce ∈ es, ce.length = P.cellsOf e ∧ ∃ m y, m < fuel ∧ DataW.trod enc P W 0 (fun _ => true) true m e ce = some y ∧ Light P e y.1) ∧ ∀ Hs, Rd W Hs a n c (P.cellsOf e) es.flatten := by
  rcases DataW.trod_slice ht h with ⟨rfl, _⟩ | ⟨a, n, c, elems, rest, m, hm, rfl, rfl, _, hnc, hcm, hel, hget, hrest, _⟩
  · exact ⟨none, 0, 0, [], rfl, Nat.le_refl _, by simp, rfl, fun _ h => absurd h (by simp), fun _ => Rd.none_⟩
  · obtain ⟨hrl, _⟩ := hrest rfl
    have hw' : ∀ q ∈ ((elems.length + rest.length) * P.bytesOf e :: (DataW.weightsAll P e (elems.map (·.1)) ++ DataW.weightsAll P e (rest.map (·.1)))), q ≤ reachBytes := by
      intro q hq
      refine hw q ?_
      simp only [DataW.weights, ht, List.length_map]
      exact hq
    have hcb : c * P.bytesOf e ≤ reachBytes := by
      have := hw' _ List.mem_cons_self
      rwa [hel, hrl, show n + (c - n) = c by omega] at this
    have hlight : ∀ y ∈ elems, Light P e y.1 := fun y hy => light_all (fun q hq => hw' q (List.mem_cons_of_mem _ (List.mem_append_left _ hq))) y.1 (List.mem_map.2 ⟨y, hy, rfl⟩)
    have hcells : ∀ i, i < n → ∃ ce, W.cells? 0 (a.add (i * P.cellsOf e)) (P.cellsOf e) = some ce ∧ ∃ y, DataW.trod enc P W 0 (fun _ => true) true m e ce = some y ∧ Light P e y.1 := fun i hi => by
      have h1 := hget i hi
      rw [List.getElem?_eq_getElem (by omega), Option.bind_eq_some_iff] at h1
      obtain ⟨ce, h2, h3⟩ := h1
      exact ⟨ce, h2, _, h3, hlight _ (List.getElem_mem _)⟩
    let f : Nat → List Value := fun i => (W.cells? 0 (a.add (i * P.cellsOf e)) (P.cellsOf e)).getD []
    have hf : ∀ i, i < n → W.cells? 0 (a.add (i * P.cellsOf e)) (P.cellsOf e) = some (f i) ∧ ∃ y, DataW.trod enc P W 0 (fun _ => true) true m e (f i) = some y ∧ Light P e y.1 := fun i hi => by
      obtain ⟨ce, h1, h2⟩ := hcells i hi
      simp only [f, h1, Option.getD_some]
      exact ⟨trivial, h2⟩
    have hlen : ∀ ce ∈ (List.range n).map f, ce.length = P.cellsOf e := fun ce hce => by
      obtain ⟨i, hi, rfl⟩ := List.mem_map.1 hce
      exact (World.cells?_some (hf i (List.mem_range.1 hi)).1).2.1
    refine ⟨some a, n, c, (List.range n).map f, rfl, hnc, hcb, by simp, fun ce hce => ⟨hlen ce hce, ?_⟩, fun Hs => ⟨?_, hnc, fun w hS => ⟨fun _ => rfl, fun j u hj => ?_⟩⟩⟩
    · obtain ⟨i, hi, rfl⟩ := List.mem_map.1 hce
      obtain ⟨y, h1, h2⟩ := (hf i (List.mem_range.1 hi)).2
      exact ⟨m, y, by omega, h1, h2⟩
    · rw [List.length_flatten, List.map_map]
      have : (List.range n).map (List.length ∘ f) = List.replicate n (P.cellsOf e) := by
        apply List.ext_getElem
        · simp
        · intro i h1 h2
          simp only [List.getElem_map, List.getElem_range, Function.comp, List.getElem_replicate]
          exact hlen _ (List.mem_map.2 ⟨i, List.mem_range.2 (by simpa using h1), rfl⟩)
      rw [this, List.sum_replicate_nat]
    · obtain ⟨i, ce, r, h1, h2, h3, h4⟩ := getElem?_flat _ hlen j u hj
      have hi : i < n := by have := (List.getElem?_eq_some_iff.1 h1).1; simpa using this
      have hce : ce = f i := by
        rw [List.getElem?_map, List.getElem?_range hi] at h1
        simpa using h1.symm
      subst hce
      have hcell := (World.cells?_some (hf i hi).1).2.2 r h2
      rw [h4] at hcell
      rw [adr, Option.getD_some, h3]
      refine hS.cellOld ?_
      rw [addr_addadd] at hcell
      exact hcell
/-- A row of things, each read by its own law. -/
theorem read_rw {α : Type} (cells : α → List Value) (ok : α → Prop) {t e : TypeId} {z by_ : Nat} {cs : List Value} {x : DataW H × List MemPlace} {fuel : Nat} (ht : P.underlying t = some (.slice e)) (hz : P.cellsOf e = z) (hz0 : 0 < z) (hb : P.bytesOf e = by_) (hb0 : 0 < by_)
    (hel : ∀ m ce y, m < fuel → ce.length = z → DataW.trod enc P W 0 (fun _ => true) true m e ce = some y → Light P e y.1 → ∃ a : α, ce = cells a ∧ ok a)
    (h : DataW.trod enc P W 0 (fun _ => true) true fuel t cs = some x) (hw : Light P t x.1) :
    ∃ r : Rw α, cs = [r.v] ∧ OkN r ∧ (∀ a ∈ r.l, ok a) ∧ ∀ Hs, Rd W Hs r.a r.l.length r.c z (r.l.flatMap cells) := by
  subst hz hb
  obtain ⟨a, n, c, es, rfl, h1, h2, h3, h4, h5⟩ := read_sliceF ht hz0 h hw
  have hl : ∃ l : List α, es = l.map cells ∧ ∀ a ∈ l, ok a := by
    clear h3 h5
    induction es with
    | nil => exact ⟨[], rfl, fun _ h => absurd h (by simp)⟩
    | cons ce es ih =>
      obtain ⟨l, e1, e2⟩ := ih (fun c hc => h4 c (by simp [hc]))
      obtain ⟨hlen, m, y, hm, hy, hly⟩ := h4 ce (by simp)
      obtain ⟨b, rfl, hbk⟩ := hel m ce y hm hlen hy hly
      exact ⟨b :: l, by rw [e1]; rfl, fun x hx => by
        rcases List.mem_cons.1 hx with rfl | hx
        · exact hbk
        · exact e2 x hx⟩
  obtain ⟨l, rfl, hok⟩ := hl
  rw [List.length_map] at h3
  have hc : c ≤ 140737488355328 := by
    have : c * 1 ≤ c * P.bytesOf e := Nat.mul_le_mul_left _ hb0
    unfold reachBytes at h2
    omega
  refine ⟨⟨a, c, l⟩, by rw [← h3]; rfl, ⟨show l.length ≤ 140737488355328 from by omega, by rw [h3]; exact h1, hc⟩, hok, fun Hs => ?_⟩
  have := h5 Hs
  rw [← h3, ← List.flatMap_def] at this
  exact this
/-- A field of one cell. -/
theorem fld1 {t : TypeId} {cs : List Value} {x : DataW H × List MemPlace} {fuel : Nat} {fs : Array Field} (ht : P.underlying t = some (.struct fs)) (h : DataW.trod enc P W 0 (fun _ => true) true fuel t cs = some x) (hw : Light P t x.1) (i : Nat) {tf : TypeId}
    (hf : (fs[i]?).map (fun f => (f.type, f.offset)) = some (tf, i)) (hc : P.cellsOf tf = 1) : ∃ m y, m < fuel ∧ DataW.trod enc P W 0 (fun _ => true) true m tf ((cs.drop i).take 1) = some y ∧ Light P tf y.1 := by
  obtain ⟨f, hf1, hf2⟩ := Option.map_eq_some_iff.1 hf
  simp only [Prod.mk.injEq] at hf2
  obtain ⟨rfl, hoff⟩ := hf2
  obtain ⟨xs, n, hn, hx, _, hl, hg⟩ := DataW.trod_struct ht h
  have hi : i < xs.length := by rw [hl]; exact (Array.getElem?_eq_some_iff.1 hf1).1
  obtain ⟨m, y, h1, h2⟩ := trod_field ht h hw i f hf1
  have h3 := hg i f hf1
  rw [List.getElem?_eq_getElem hi] at h3
  have hly : Light P f.type xs[i].1 := by
    have hw' : ∀ q ∈ DataW.weightsEach P (fs.toList.map (·.type)) (xs.map (·.1)), q ≤ reachBytes := by
      intro q hq
      refine hw q ?_
      rw [hx]
      simp only [DataW.weights, ht]
      exact hq
    refine light_each hw' (j := i) ?_ ?_
    · rw [List.getElem?_map, Array.getElem?_toList, hf1]; rfl
    · rw [List.getElem?_map, List.getElem?_eq_getElem hi]; rfl
  rw [hoff, hc] at h3
  exact ⟨n, _, by omega, h3, hly⟩
theorem take1 {cs : List Value} {i : Nat} {v : Value} (h : (cs.drop i).take 1 = [v]) : cs[i]? = some v := by
  have := congrArg (·[0]?) h
  simpa [List.getElem?_take, List.getElem?_drop] using this
theorem fldI {t : TypeId} {cs : List Value} {x : DataW H × List MemPlace} {fuel : Nat} {fs : Array Field} {k : IntKind} (ht : P.underlying t = some (.struct fs)) (h : DataW.trod enc P W 0 (fun _ => true) true fuel t cs = some x) (hw : Light P t x.1) (i : Nat) {tf : TypeId}
    (hf : (fs[i]?).map (fun f => (f.type, f.offset)) = some (tf, i)) (hc : P.cellsOf tf = 1) (hu : P.underlying tf = some (.int k)) : ∃ n, cs[i]? = some (.int k n) ∧ (Lit.int k n).wf = true := by
  obtain ⟨m, y, _, h1, _⟩ := fld1 ht h hw i hf hc
  obtain ⟨n, h2, _, h3⟩ := DataW.trod_int hu h1
  exact ⟨n, take1 h2, h3⟩
theorem fldBo {t : TypeId} {cs : List Value} {x : DataW H × List MemPlace} {fuel : Nat} {fs : Array Field} (ht : P.underlying t = some (.struct fs)) (h : DataW.trod enc P W 0 (fun _ => true) true fuel t cs = some x) (hw : Light P t x.1) (i : Nat) {tf : TypeId}
    (hf : (fs[i]?).map (fun f => (f.type, f.offset)) = some (tf, i)) (hc : P.cellsOf tf = 1) (hu : P.underlying tf = some .bool) : ∃ b, cs[i]? = some (.bool b) := by
  obtain ⟨m, y, _, h1, _⟩ := fld1 ht h hw i hf hc
  obtain ⟨b, h2, _⟩ := DataW.trod_bool hu h1
  exact ⟨b, take1 h2⟩
theorem read_txt {tf : TypeId} {cs : List Value} {y : DataW H × List MemPlace} {m : Nat} (hu : P.underlying tf = some .string) (h : DataW.trod enc P W 0 (fun _ => true) true m tf cs = some y) (hw : Light P tf y.1) : ∃ t : Txt, cs = [vS t] ∧ OkT t := by
  obtain ⟨s, rfl, rfl, _⟩ := DataW.trod_string hu h
  obtain ⟨l, hb, rfl, hn⟩ := str_of s
  refine ⟨l, rfl, hb, ?_⟩
  have := hw (str l).data.toList.length (by simp [DataW.weights])
  have hs : (str l).data.toList.length = l.length := by simp [str]
  rw [hs] at this
  unfold reachBytes at this
  omega
theorem fldS {t : TypeId} {cs : List Value} {x : DataW H × List MemPlace} {fuel : Nat} {fs : Array Field} (ht : P.underlying t = some (.struct fs)) (h : DataW.trod enc P W 0 (fun _ => true) true fuel t cs = some x) (hw : Light P t x.1) (i : Nat) {tf : TypeId}
    (hf : (fs[i]?).map (fun f => (f.type, f.offset)) = some (tf, i)) (hc : P.cellsOf tf = 1) (hu : P.underlying tf = some .string) : ∃ s : Txt, cs[i]? = some (vS s) ∧ OkT s := by
  obtain ⟨m, y, _, h1, h2⟩ := fld1 ht h hw i hf hc
  obtain ⟨s, h3, h4⟩ := read_txt hu h1 h2
  exact ⟨s, take1 h3, h4⟩
theorem fldR {α : Type} (cells : α → List Value) (ok : α → Prop) {t : TypeId} {cs : List Value} {x : DataW H × List MemPlace} {fuel : Nat} {fs : Array Field} (ht : P.underlying t = some (.struct fs)) (h : DataW.trod enc P W 0 (fun _ => true) true fuel t cs = some x) (hw : Light P t x.1) (i : Nat) {tf e : TypeId} {z by_ : Nat}
    (hf : (fs[i]?).map (fun f => (f.type, f.offset)) = some (tf, i)) (hc : P.cellsOf tf = 1) (hu : P.underlying tf = some (.slice e)) (hz : P.cellsOf e = z) (hz0 : 0 < z) (hb : P.bytesOf e = by_) (hb0 : 0 < by_)
    (hel : ∀ m ce y, m < fuel → ce.length = z → DataW.trod enc P W 0 (fun _ => true) true m e ce = some y → Light P e y.1 → ∃ a : α, ce = cells a ∧ ok a) :
    ∃ r : Rw α, cs[i]? = some r.v ∧ OkN r ∧ (∀ a ∈ r.l, ok a) ∧ ∀ Hs, Rd W Hs r.a r.l.length r.c z (r.l.flatMap cells) := by
  obtain ⟨m, y, hm, h1, h2⟩ := fld1 ht h hw i hf hc
  obtain ⟨r, h3, h4⟩ := read_rw cells ok hu hz hz0 hb hb0 (fun m' ce y' hm' => hel m' ce y' (by omega)) h1 h2
  exact ⟨r, take1 h3, h4⟩
theorem lst_eq {cs vs : List Value} (hl : cs.length = vs.length) (h : ∀ i, i < vs.length → cs[i]? = vs[i]?) : cs = vs := by
  apply List.ext_getElem?
  intro i
  by_cases hi : i < vs.length
  · exact h i hi
  · rw [List.getElem?_eq_none (by omega), List.getElem?_eq_none (by omega)]
theorem str_len {t : TypeId} {cs : List Value} {x : DataW H × List MemPlace} {fuel : Nat} {fs : Array Field} (ht : P.underlying t = some (.struct fs)) (h : DataW.trod enc P W 0 (fun _ => true) true fuel t cs = some x) : cs.length = P.cellsOf t := by
  obtain ⟨_, _, _, _, hl, _⟩ := DataW.trod_struct ht h
  exact hl
theorem wf_i32' {a : Int} (h : (Lit.int .i32 a).wf = true) : I32 a := by
  simp only [Lit.wf, Bool.and_eq_true, decide_eq_true_eq, IntKind.min, IntKind.max, IntKind.signed, IntKind.bits] at h
  obtain ⟨h0, h1⟩ := h
  simp at h0 h1
  exact ⟨h0, by omega⟩
theorem wf_u8' {a : Int} (h : (Lit.int .u8 a).wf = true) : U8 a := by
  simp only [Lit.wf, Bool.and_eq_true, decide_eq_true_eq, IntKind.min, IntKind.max, IntKind.signed, IntKind.bits] at h
  obtain ⟨h0, h1⟩ := h
  simp at h0 h1
  exact ⟨h0, by omega⟩
theorem wf_i64' {a : Int} (h : (Lit.int .i64 a).wf = true) : -9223372036854775808 ≤ a ∧ a ≤ 9223372036854775807 := by
  simp only [Lit.wf, Bool.and_eq_true, decide_eq_true_eq, IntKind.min, IntKind.max, IntKind.signed, IntKind.bits] at h
  obtain ⟨h0, h1⟩ := h
  simp at h0 h1
  exact ⟨h0, by omega⟩
end
end Go.Sk
