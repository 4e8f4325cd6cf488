/- Any plain table of the library in the reckoning: what a variable holds that reads as a datum of numbers, structs, arrays. Plain theorems, no condition. -/
import Derived.Test.YtlamhjlijoampaaGreatDoorXu1
set_option linter.unusedVariables false
set_option linter.unusedSimpArgs false
namespace Go.Xs
open Go.RowKit

mutual
/-- The numbers of a datum, one behind the other. -/
def flatD : DataW Unit → List Value
  | .lit (.int k n) => [.int k n]
  | .lit (.bool b) => [.bool b]
  | .lit (.float k b) => [.float k b]
  | .lit (.string l) => [.string ⟨l.toArray⟩]
  | .agg ds => flatDs ds
  | .slice ds _ => flatDs ds
  | .ptr d => flatD d
  | .iface _ d => flatD d
  | _ => []
def flatDs : List (DataW Unit) → List Value
  | [] => []
  | d :: ds => flatD d ++ flatDs ds
end
/-- The cells that read as these parts, one behind the other. -/
def fitL (P : Program) (f : TypeId → DataW Unit → Option (List Value)) : List (Nat × TypeId × DataW Unit) → Nat → Option (List Value)
  | [], _ => some []
  | (o, t, d) :: l, off => bif Nat.beq o off then match f t d with
      | some r => bif Nat.beq r.length (P.cellsOf t) then match fitL P f l (off + P.cellsOf t) with
          | some r' => some (r ++ r')
          | none => none
        else none
      | none => none
    else none
def arrL (e : TypeId) (z : Nat) : Nat → List (DataW Unit) → List (Nat × TypeId × DataW Unit)
  | _, [] => []
  | i, d :: ds => (i * z, e, d) :: arrL e z (i + 1) ds
def fldL : List Field → List (DataW Unit) → List (Nat × TypeId × DataW Unit)
  | f :: fs, d :: ds => (f.offset, f.type, d) :: fldL fs ds
  | _, _ => []
/-- The cells that read as a datum. -/
def fitB (P : Program) : Nat → TypeId → DataW Unit → Option (List Value)
  | 0, _, _ => none
  | k + 1, t, d => match P.underlying t, d with
    | some .bool, .lit (.bool b) => some [.bool b]
    | some (.int q0), .lit (.int q n) => bif Nat.beq q0.ctorIdx q.ctorIdx && (Lit.int q n).wf then some [.int q n] else none
    | some (.array n e), .agg ds => bif Nat.beq ds.length n then match fitL P (fitB P k) (arrL e (P.cellsOf e) 0 ds) 0 with
        | some r => bif Nat.beq r.length (P.cellsOf t) then some r else none
        | none => none
      else none
    | some (.struct ⟨fs⟩), .agg ds => bif Nat.beq ds.length fs.length then match fitL P (fitB P k) (fldL fs ds) 0 with
        | some r => bif Nat.beq r.length (P.cellsOf t) then some r else none
        | none => none
      else none
    | _, _ => none
theorem arrL_mem {e : TypeId} {z : Nat} : ∀ {ds : List (DataW Unit)} {i0 o : Nat} {t : TypeId} {d : DataW Unit}, (o, t, d) ∈ arrL e z i0 ds → ∃ i, ds[i]? = some d ∧ o = (i0 + i) * z ∧ t = e
  | [], _, _, _, _, h => by simp [arrL] at h
  | d' :: ds, i0, o, t, d, h => by
    simp only [arrL, List.mem_cons, Prod.mk.injEq] at h
    rcases h with ⟨rfl, rfl, rfl⟩ | h
    · exact ⟨0, rfl, by simp, rfl⟩
    · obtain ⟨i, h1, h2, h3⟩ := arrL_mem h
      exact ⟨i + 1, by simpa using h1, by rw [h2]; congr 1; omega, h3⟩
theorem fldL_mem : ∀ {fs : List Field} {ds : List (DataW Unit)} {o : Nat} {t : TypeId} {d : DataW Unit}, (o, t, d) ∈ fldL fs ds → ∃ (i : Nat) (f : Field), fs[i]? = some f ∧ ds[i]? = some d ∧ o = f.offset ∧ t = f.type
  | [], _, _, _, _, h => by simp [fldL] at h
  | _ :: _, [], _, _, _, h => by simp [fldL] at h
  | f :: fs, d' :: ds, o, t, d, h => by
    simp only [fldL, List.mem_cons, Prod.mk.injEq] at h
    rcases h with ⟨rfl, rfl, rfl⟩ | h
    · exact ⟨0, f, rfl, rfl, rfl, rfl⟩
    · obtain ⟨i, g, h1, h2, h3⟩ := fldL_mem h
      exact ⟨i + 1, g, by simpa using h1, by simpa using h2, h3⟩
section
variable {P : Program} {w : World} {base : Nat} {sp : Nat → Bool} {held : Bool} {enc : TypeId × Value → Unit}
theorem fitL_ok {f : TypeId → DataW Unit → Option (List Value)} {cs : List Value} (hf : ∀ t d l, f t d = some l → ∀ fuel cs p, DataW.trod enc P w base sp held fuel t cs = some (d, p) → cs = l) : ∀ {l : List (Nat × TypeId × DataW Unit)} {off : Nat} {r : List Value},
    fitL P f l off = some r → (∀ o t d, (o, t, d) ∈ l → ∃ fuel p, DataW.trod enc P w base sp held fuel t ((cs.drop o).take (P.cellsOf t)) = some (d, p)) → (cs.drop off).take r.length = r
  | [], off, r, h, _ => by
    simp only [fitL, Option.some.injEq] at h
    subst h
    simp
  | (o, t, d) :: l, off, r, h, hm => by
    simp only [fitL] at h
    cases hb : Nat.beq o off with
    | false => rw [hb] at h; cases h
    | true =>
      rw [hb] at h
      rw [Nat.beq_eq] at hb
      subst hb
      simp only [cond_true] at h
      split at h
      · rename_i r1 hr1
        cases hb2 : Nat.beq r1.length (P.cellsOf t) with
        | false => rw [hb2] at h; cases h
        | true =>
          rw [hb2] at h
          rw [Nat.beq_eq] at hb2
          simp only [cond_true] at h
          split at h
          · rename_i r2 hr2
            cases h
            obtain ⟨fuel, p, hp⟩ := hm o t d List.mem_cons_self
            have e1 := hf t d r1 hr1 fuel _ p hp
            have e2 := fitL_ok hf hr2 fun o' t' d' h' => hm o' t' d' (List.mem_cons_of_mem _ h')
            rw [List.length_append, List.take_add, hb2, e1, List.drop_drop, e2]
          · cases h
      · cases h
theorem fitB_ok : ∀ (k : Nat) (t : TypeId) (d : DataW Unit) (l : List Value), fitB P k t d = some l → ∀ (fuel : Nat) (cs : List Value) (p : List MemPlace), DataW.trod enc P w base sp held fuel t cs = some (d, p) → cs = l
  | 0, t, d, l, h, _, _, _, _ => by simp [fitB] at h
  | k + 1, t, d, l, h, fuel, cs, p, ht => by
    simp only [fitB] at h
    split at h
    · rename_i b hu
      obtain ⟨b', rfl, e⟩ := DataW.trod_bool hu ht
      cases e
      cases h
      rfl
    · rename_i q q' n hu
      obtain ⟨n', rfl, e, _⟩ := DataW.trod_int hu ht
      cases e
      cases hb : Nat.beq q.ctorIdx q.ctorIdx && (Lit.int q n).wf with
      | false => rw [hb] at h; cases h
      | true => rw [hb] at h; cases h; rfl
    · rename_i n e ds hu
      cases hb : Nat.beq ds.length n with
      | false => rw [hb] at h; cases h
      | true =>
        rw [hb] at h
        rw [Nat.beq_eq] at hb
        simp only [cond_true] at h
        split at h
        · rename_i r hr
          cases hb2 : Nat.beq r.length (P.cellsOf t) with
          | false => rw [hb2] at h; cases h
          | true =>
            rw [hb2] at h
            rw [Nat.beq_eq] at hb2
            cases h
            have hlen : cs.length = P.cellsOf t := by
              cases fuel with
              | zero => simp [DataW.trod] at ht
              | succ fuel =>
                simp only [DataW.trod, hu] at ht
                split at ht
                · assumption
                · cases ht
            have := fitL_ok (cs := cs) (fitB_ok k) hr fun o t' d' hm => by
              obtain ⟨i, h1, h2, rfl⟩ := arrL_mem hm
              rw [Nat.zero_add] at h2
              subst h2
              have hi : i < n := by rw [← hb]; exact (List.getElem?_eq_some_iff.1 h1).1
              obtain ⟨fuel', d2, q, q1, q2⟩ := Lib.array_elem hu ht i hi
              rw [h1] at q1
              cases q1
              exact ⟨fuel', q, q2⟩
            rw [List.drop_zero, hb2, ← hlen, List.take_length] at this
            exact this
        · cases h
    · rename_i fs ds hu
      cases hb : Nat.beq ds.length fs.length with
      | false => rw [hb] at h; cases h
      | true =>
        rw [hb] at h
        simp only [cond_true] at h
        split at h
        · rename_i r hr
          cases hb2 : Nat.beq r.length (P.cellsOf t) with
          | false => rw [hb2] at h; cases h
          | true =>
            rw [hb2] at h
            rw [Nat.beq_eq] at hb2
            cases h
            obtain ⟨xs, m, rfl, hx, hlen, hxl, hall⟩ := DataW.trod_struct hu ht
            have hds : ds = xs.map (·.1) := by
              have := congrArg Prod.fst hx
              simpa using this
            have := fitL_ok (cs := cs) (fitB_ok k) hr fun o t' d' hm => by
              obtain ⟨i, f, h1, h2, rfl, rfl⟩ := fldL_mem hm
              have h3 := hall i f (by simpa using h1)
              rw [hds, List.getElem?_map] at h2
              obtain ⟨x, hx1, hx2⟩ := Option.map_eq_some_iff.1 h2
              rw [hx1] at h3
              exact ⟨m, x.2, by rw [h3, ← hx2]⟩
            rw [List.drop_zero, hb2, ← hlen, List.take_length] at this
            exact this
        · cases h
    · cases h
end
/-- What a variable holds that is laid: its cells. -/
theorem tab_of {P : Program} {w : World} {l : List (String × DataW Unit)} (h : laidMet P l w) {n : String} {d : DataW Unit} (hm : (n, d) ∈ l) {g : Nat} {t : TypeId} {cs : List Value} (hg : P.globalNamed n = some g) (ht : (P.globals[g]?).map (·.type) = some t)
    (hf : fitB P 9 t d = some cs) {j : Nat} {v : Value} (hj : cs[j]? = some v) : w.cell? ⟨g, j, none⟩ = some v := by
  obtain ⟨g', t', cs', fuel, p, h1, h2, h3, h4⟩ := Lib.laidMet.reads h hm
  rw [hg] at h1
  cases h1
  rw [ht] at h2
  cases h2
  have := fitB_ok 9 t d cs hf fuel _ p h4
  rw [World.var?_cell hg h3, ← Array.getElem?_toList, this]
  exact hj
/-- A table of variables: what each is called, its datum, its type, its cells. -/
structure TabV where
  g : Nat
  name : String
  t : TypeId
  d : DataW Unit
  cs : List Value
def TabV.find : List TabV → Nat → Option (List Value)
  | [], _ => none
  | x :: l, g => bif Nat.beq x.g g then some x.cs else TabV.find l g
/-- Each of them as it must be. -/
structure TabV.Fit (P : Program) (l : List (String × DataW Unit)) (x : TabV) : Prop where
  mem : (x.name, x.d) ∈ l
  g : P.globalNamed x.name = some x.g
  t : (P.globals[x.g]?).map (·.type) = some x.t
  cs : fitB P 9 x.t x.d = some x.cs
  wf : wfL 0 x.cs = true
theorem TabV.find_ok {P : Program} {w : World} {l : List (String × DataW Unit)} (h : laidMet P l w) : ∀ {xs : List TabV}, (∀ x ∈ xs, TabV.Fit P l x) → ∀ {g : Nat} {cs : List Value}, TabV.find xs g = some cs → ∀ {j : Nat} {v : Value}, cs[j]? = some v → wfv 0 v = true ∧ w.cell? ⟨g, j, none⟩ = some v
  | [], _, _, _, hx, _, _, _ => by simp [TabV.find] at hx
  | x :: xs, hf, g, cs, hx, j, v, hj => by
    simp only [TabV.find] at hx
    cases hb : Nat.beq x.g g with
    | true =>
      rw [hb] at hx
      rw [Nat.beq_eq] at hb
      subst hb
      cases hx
      have F := hf x List.mem_cons_self
      exact ⟨wfL_get F.wf hj, tab_of h F.mem F.g F.t F.cs hj⟩
    | false =>
      rw [hb] at hx
      exact TabV.find_ok h (fun y hy => hf y (List.mem_cons_of_mem _ hy)) hx hj
theorem TabV.ok {C : Ctx} {B : World} {l : List (String × DataW Unit)} (h : laidMet C.P l B) {n : Nat} (hG : C.G = Gx.flat n) {xs : List TabV} (hf : ∀ x ∈ xs, TabV.Fit C.P l x) (ht : C.tab = TabV.find xs) : C.OK (fun b => B.heap[b]?) := fun g cs hg hl j v hj => by
  rw [ht] at hl
  obtain ⟨h1, h2⟩ := TabV.find_ok h hf hl hj
  refine ⟨wfv_mono (Nat.zero_le _) _ h1, fun ρ w' _ hw => ?_⟩
  rw [ren_id ρ v h1, hG]
  exact cell_kept hw h2
end Go.Xs
