/- A world that holds a plain table: its reading, for a great one too. Plain theorems, no condition. -/
import Derived.Test.YtlamhjlijoampaaGreatDoorXu2
import Derived.Lib.LaidIn
set_option linter.unusedVariables false
set_option linter.unusedSimpArgs false
namespace Go.Xs
open Go.RowKit

section
variable {P : Program} {w : World} {base : Nat} {sp : Nat → Bool} {held : Bool} {enc : TypeId × Value → Unit}
theorem fitL_parts {f : TypeId → DataW Unit → Option (List Value)} {cs : List Value} : ∀ {l : List (Nat × TypeId × DataW Unit)} {off : Nat} {r : List Value}, fitL P f l off = some r → (cs.drop off).take r.length = r →
    ∀ o t d, (o, t, d) ∈ l → f t d = some ((cs.drop o).take (P.cellsOf t))
  | [], _, _, _, _, _, _, _, h => by simp at h
  | (o, t, d) :: l, off, r, h, hcs, o', t', d', hm => by
    simp only [fitL] at h
    cases hb : Nat.beq o off with
    | false => rw [hb] at h; cases h
    | true =>
      rw [hb] at h
      rw [Nat.beq_eq] at hb
      subst hb
      simp only [cond_true] at h
      split at h
      · rename_i r1 hr1
        cases hb2 : Nat.beq r1.length (P.cellsOf t) with
        | false => rw [hb2] at h; cases h
        | true =>
          rw [hb2] at h
          rw [Nat.beq_eq] at hb2
          simp only [cond_true] at h
          split at h
          · rename_i r2 hr2
            cases h
            rw [List.length_append, List.take_add, hb2, List.drop_drop] at hcs
            have hl1 : ((cs.drop o).take (P.cellsOf t)).length = r1.length := by
              have := congrArg List.length hcs
              simp only [List.length_append, List.length_take, List.length_drop] at this ⊢
              omega
            obtain ⟨e1, e2⟩ := List.append_inj hcs hl1
            rcases List.mem_cons.1 hm with e | hm
            · cases e
              rw [e1]
              exact hr1
            · exact fitL_parts hr2 e2 o' t' d' hm
          · cases h
      · cases h
theorem mapM_all {α β : Type} {f : α → Option β} {g : Nat → β} : ∀ {l : List α}, (∀ i x, l[i]? = some x → f x = some (g i)) → l.mapM f = some ((List.range l.length).map g)
  | [], _ => rfl
  | x :: l, h => by
    have h1 := h 0 x rfl
    have h2 := mapM_all (f := f) (g := fun i => g (i + 1)) (l := l) fun i y hy => h (i + 1) y (by simpa using hy)
    rw [List.mapM_cons, h1, h2]
    simp [List.range_succ_eq_map, Function.comp_def]
theorem map_range {α : Type} (ds : List α) (d0 : α) : (List.range ds.length).map (fun i => ds.getD i d0) = ds := by
  apply List.ext_getElem?
  intro i
  by_cases h : i < ds.length
  · simp [h, List.getD_eq_getElem?_getD]
  · simp [h, List.getElem?_eq_none (Nat.le_of_not_lt h)]
theorem trod_fit : ∀ (k : Nat) (t : TypeId) (d : DataW Unit) (l : List Value), fitB P k t d = some l → DataW.trod enc P w base sp held k t l = some (d, [])
  | 0, t, d, l, h => by simp [fitB] at h
  | k + 1, t, d, l, h => by
    simp only [fitB] at h
    split at h
    · rename_i b hu
      cases h
      simp only [DataW.trod, hu]
    · rename_i q0 q n hu
      cases hb : Nat.beq q0.ctorIdx q.ctorIdx && (Lit.int q n).wf with
      | false => rw [hb] at h; cases h
      | true =>
        rw [hb] at h
        cases h
        simp only [Bool.and_eq_true, Nat.beq_eq] at hb
        obtain ⟨h1, h2⟩ := hb
        have := ik_inj h1
        subst this
        simp only [DataW.trod, hu, h2, and_self, if_true]
    · rename_i n e ds hu
      cases hb : Nat.beq ds.length n with
      | false => rw [hb] at h; cases h
      | true =>
        rw [hb] at h
        rw [Nat.beq_eq] at hb
        simp only [cond_true] at h
        split at h
        · rename_i r hr
          cases hb2 : Nat.beq r.length (P.cellsOf t) with
          | false => rw [hb2] at h; cases h
          | true =>
            rw [hb2] at h
            rw [Nat.beq_eq] at hb2
            cases h
            have hp := fitL_parts (cs := l) hr (by simp)
            have hm : (List.range n).mapM (fun i => DataW.trod enc P w base sp held k e ((l.drop (i * P.cellsOf e)).take (P.cellsOf e))) = some ((List.range (List.range n).length).map fun i => (ds.getD i .nil, ([] : List MemPlace))) :=
              mapM_all fun i x hx => by
                have hi : i < n := by have := (List.getElem?_eq_some_iff.1 hx).1; simpa using this
                rw [List.getElem?_range hi] at hx
                cases hx
                have hdi : ds[i]? = some (ds.getD i .nil) := by rw [List.getD_eq_getElem?_getD, List.getElem?_eq_getElem (by omega)]; rfl
                refine trod_fit k e _ _ (hp (i * P.cellsOf e) e _ ?_)
                have : ∀ (ds : List (DataW Unit)) (i0 j : Nat) (d : DataW Unit), ds[j]? = some d → ((i0 + j) * P.cellsOf e, e, d) ∈ arrL e (P.cellsOf e) i0 ds := by
                  intro ds
                  induction ds with
                  | nil => intro i0 j d hd; simp at hd
                  | cons d0 ds ih =>
                    intro i0 j d hd
                    cases j with
                    | zero =>
                      simp only [List.getElem?_cons_zero, Option.some.injEq] at hd
                      subst hd
                      exact List.mem_cons_self
                    | succ j =>
                      refine List.mem_cons_of_mem _ ?_
                      have := ih (i0 + 1) j d (by simpa using hd)
                      rw [show i0 + (j + 1) = i0 + 1 + j by omega]
                      exact this
                have := this ds 0 i _ hdi
                rw [Nat.zero_add] at this
                exact this
            have hmr : (List.range n).map (fun i => ds.getD i .nil) = ds := by rw [← hb]; exact map_range ds .nil
            simp only [DataW.trod, hu, hb2, if_true, hm, Option.map_some, List.map_map, Function.comp_def, List.length_range, hmr]
            simp
        · cases h
    · rename_i fs ds hu
      cases hb : Nat.beq ds.length fs.length with
      | false => rw [hb] at h; cases h
      | true =>
        rw [hb] at h
        rw [Nat.beq_eq] at hb
        simp only [cond_true] at h
        split at h
        · rename_i r hr
          cases hb2 : Nat.beq r.length (P.cellsOf t) with
          | false => rw [hb2] at h; cases h
          | true =>
            rw [hb2] at h
            rw [Nat.beq_eq] at hb2
            cases h
            have hp := fitL_parts (cs := l) hr (by simp)
            have hm : fs.mapM (fun f => DataW.trod enc P w base sp held k f.type ((l.drop f.offset).take (P.cellsOf f.type))) = some ((List.range fs.length).map fun i => (ds.getD i .nil, ([] : List MemPlace))) :=
              mapM_all fun i f hx => by
                have hi : i < fs.length := (List.getElem?_eq_some_iff.1 hx).1
                have hdi : ds[i]? = some (ds.getD i .nil) := by rw [List.getD_eq_getElem?_getD, List.getElem?_eq_getElem (by omega)]; rfl
                refine trod_fit k f.type _ _ (hp f.offset f.type _ ?_)
                have : ∀ (fs : List Field) (ds : List (DataW Unit)) (j : Nat) (f : Field) (d : DataW Unit), fs[j]? = some f → ds[j]? = some d → (f.offset, f.type, d) ∈ fldL fs ds := by
                  intro fs
                  induction fs with
                  | nil => intro ds j f d hf _; simp at hf
                  | cons f0 fs ih =>
                    intro ds j f d hf hd
                    cases ds with
                    | nil => simp at hd
                    | cons d0 ds =>
                      cases j with
                      | zero =>
                        simp only [List.getElem?_cons_zero, Option.some.injEq] at hf hd
                        subst hf hd
                        exact List.mem_cons_self
                      | succ j => exact List.mem_cons_of_mem _ (ih ds j f d (by simpa using hf) (by simpa using hd))
                exact this fs ds i f _ hx hdi
            have hmr : (List.range fs.length).map (fun i => ds.getD i .nil) = ds := by rw [← hb]; exact map_range ds .nil
            simp only [DataW.trod, hu, hb2, if_true, hm, Option.map_some, List.map_map, Function.comp_def, hmr]
            simp
        · cases h
    · cases h
end
theorem row_block {g n : Nat} {x : MemPlace} (h : x ∈ MemPlace.row ⟨g, 0, none⟩ n) : x.block = g := by
  unfold MemPlace.row at h
  obtain ⟨i, _, rfl⟩ := List.mem_map.1 h
  rfl
/-- A world that holds a plain table under its name. -/
theorem laid_one {P : Program} {w : World} {n : String} {d : DataW Unit} {g : Nat} {t u : TypeId} {cs : List Value} (hg : P.globalNamed n = some g) (ht : (P.globals[g]?).map (·.type) = some t) (hw : w.heap[g]? = some (.cells cs.toArray u (0, 0))) (hv : w.var? P n = some cs.toArray)
    (hf : fitB P 9 t d = some cs) (hno : wfL 0 cs = true) (hni : cs.all (fun v => match v with | .iface _ _ => false | _ => true) = true) : LaidIn P w [(n, d)] [g] := by
  refine LaidIn.one [g] hg ht hv (fuel := 9) (p := []) (by rw [List.toList_toArray]; exact trod_fit 9 t d cs hf) ?_ ?_ ?_
  · rw [List.append_nil]
    exact rowP_nodup _ _
  · rw [List.append_nil]
    intro b off hb
    have hbg : b = g := row_block hb
    subst hbg
    refine ⟨⟨_, _, hw⟩, fun u' v' hc => ?_⟩
    exfalso
    rw [World.cell?, hw] at hc
    simp only [List.getElem?_toArray] at hc
    have := List.all_eq_true.1 hni _ (List.mem_of_getElem? hc)
    simp at this
  · intro x hx
    rw [List.append_nil] at hx
    rw [row_block hx]
    exact List.mem_singleton.2 rfl
end Go.Xs
