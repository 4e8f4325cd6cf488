/- As Sk31, with one operation more behind all others (as a store of what they build); what lies in the heap at the beginning may be read. Plain theorems, no condition. -/
import Derived.Test.YtbpelgbblpeojabSk31
set_option linter.unusedVariables false
set_option linter.unusedSimpArgs false
namespace Go.Sk
open Go.RowKit
/-- Each operation does what is asked of it. -/
def okAt (S : List SpO) (j : Nat) (v : Value) : Prop := match S[j]? with | some s => s.ok v | none => True
/-- What an operation hands back, in all. -/
def SpO.all (s : SpO) (vs : List Value) (v : Value) (Ps : List HP) : Prop := s.ok v ∧ s.rel vs v Ps
def Steps2 (B : World) (P : Program) (n : Fm) (l : List Oper) (S : List SpO) (E : Env) (H : List HP) : List SpO → List Oper → Prop
  | [], _ => True
  | s :: ss, o :: os => (∀ (V : Nat → Value) (X : Env) (R : List HP), (∀ j ∈ s.deps, okAt S j (V j)) → RT B P n true l [o] (depE S s V ++ (E ++ X)) (H ++ R) (OneQ B n s.d (depE S s V ++ (E ++ X)) (H ++ R) (s.all (s.deps.map V)))) ∧ Steps2 B P n l S E H ss os
  | _, _ => False
theorem Steps2.at {B : World} {P : Program} {n : Fm} {l : List Oper} {S : List SpO} {E : Env} {H : List HP} : ∀ {ss : List SpO} {os : List Oper} {i : Nat} {s : SpO} {o : Oper}, Steps2 B P n l S E H ss os → ss[i]? = some s → os[i]? = some o →
    ∀ (V : Nat → Value) (X : Env) (R : List HP), (∀ j ∈ s.deps, okAt S j (V j)) → RT B P n true l [o] (depE S s V ++ (E ++ X)) (H ++ R) (OneQ B n s.d (depE S s V ++ (E ++ X)) (H ++ R) (s.all (s.deps.map V)))
  | [], _, i, s, o, _, h1, _ => by simp at h1
  | s :: ss, o :: os, 0, s', o', h, h1, h2 => by
    simp only [List.getElem?_cons_zero, Option.some.injEq] at h1 h2
    subst h1 h2
    exact h.1
  | s :: ss, o :: os, i + 1, s', o', h, h1, h2 => by
    simp only [List.getElem?_cons_succ] at h1 h2
    exact Steps2.at h.2 h1 h2
  | _ :: _, [], _, _, _, h, _, _ => False.elim h
/-- What an operation reads, it waits for. -/
def depsB2 : List SpO → List Oper → Bool
  | [], _ => true
  | s :: ss, o :: os => s.deps.all (fun j => o.after.any fun e => Nat.beq e.on j && Region.binds .any e) && depsB2 ss os
  | _, _ => false
theorem depsB2_spec : ∀ {ss : List SpO} {os : List Oper} {i : Nat} {s : SpO} {o : Oper}, depsB2 ss os = true → ss[i]? = some s → os[i]? = some o → ∀ j ∈ s.deps, ∃ e ∈ o.after, e.on = j ∧ Region.binds .any e = true
  | [], _, i, s, o, _, h1, _ => by simp at h1
  | s :: ss, o :: os, 0, s', o', h, h1, h2 => by
    simp only [List.getElem?_cons_zero, Option.some.injEq] at h1 h2
    subst h1 h2
    simp only [depsB2, Bool.and_eq_true] at h
    intro j hj
    have h3 := List.all_eq_true.1 h.1 j hj
    rw [Array.any_eq_true'] at h3
    obtain ⟨e, he, h4⟩ := h3
    simp only [Bool.and_eq_true] at h4
    exact ⟨e, he, Nat.eq_of_beq_eq_true h4.1, h4.2⟩
  | s :: ss, o :: os, i + 1, s', o', h, h1, h2 => by
    simp only [List.getElem?_cons_succ] at h1 h2
    simp only [depsB2, Bool.and_eq_true] at h
    exact depsB2_spec h.2 h1 h2
  | _ :: _, [], _, _, _, h, _, _ => by simp [depsB2] at h
theorem sink_rdy {ops : Array Oper} {e : Nat} {ls : Array Bool} (hc : Clos ops ls) {oe : Oper} (hoe : ops[e]? = some oe) (hre : ∀ x ∈ oe.after, Region.binds .any x = true → ls.getD x.on false = true) : ∀ (L : List Nat), sinkB ops L = true → L.getLast? = some e → ∀ i ∈ L, i ≠ e → ls.getD i false = true
  | [], _, h, _, _, _ => by cases h
  | [i], _, h, j, hj, hne => by
    simp only [List.getLast?_singleton, Option.some.injEq] at h
    simp only [List.mem_singleton] at hj
    exact absurd (hj.trans h) hne
  | i :: k :: L, hs, h, j, hj, hne => by
    simp only [sinkB, Bool.and_eq_true] at hs
    have ih := sink_rdy hc hoe hre (k :: L) (by simp only [sinkB, Bool.and_eq_true]; exact hs.2) (by rw [List.getLast?_cons_cons] at h; exact h)
    rcases List.mem_cons.1 hj with rfl | hj
    · have h1 := hs.1
      simp only [List.isEmpty_cons, Bool.false_or] at h1
      obtain ⟨y, hy, hw⟩ := List.any_eq_true.1 h1
      obtain ⟨oj, hoj, ed, hed, hb, heq⟩ := Region.waitsFor_spec hw
      by_cases hye : y = e
      · subst hye
        rw [hoe] at hoj
        cases hoj
        have := hre ed hed hb
        rwa [heq] at this
      · have := hc y oj hoj (ih y hy hye) ed hed hb
        rwa [heq] at this
    · exact ih j hj hne
section
variable {P : Program} {B : World} {n : Fm} {E : Env} {H : List HP} {Q : Exit → Act → World → Prop}
theorem fin_any {l : List Oper} {Q : Exit → Act → World → Prop} {ls : Array Bool} (hsz : ls.size = l.length) (hall : ∀ i, i < l.length → ls.getD i false = true) {a : Act} {w : World} (hq : Q .normal a w) : ∀ k, wpAny P .any l.toArray Q k ls a w := by
  have hr : Region.ready .any l.toArray ls = [] := List.eq_nil_iff_forall_not_mem.2 fun i hi => by
    obtain ⟨h1, o, ho, _⟩ := mem_ready.1 hi
    have hil : i < l.length := by
      have := (Array.getElem?_eq_some_iff.1 ho).1
      simpa using this
    have h2 := hall i hil
    have h3 : i < ls.size := by rw [hsz]; exact hil
    simp only [Array.getD, h3, dif_pos] at h1 h2
    rw [h1] at h2
    cases h2
  intro k
  cases k with
  | zero => exact ⟨hr, hq⟩
  | succ k => exact ⟨fun _ => hq, fun i hi => by rw [hr] at hi; cases hi⟩
/-- So much having come up, the last not. -/
structure Inv2 (B : World) (n : Fm) (l : List Oper) (S : List SpO) (E : Env) (H : List HP) (k : Nat) (ls : Array Bool) (a : Act) (w : World) (V : Nat → Value) (Ps : Nat → List HP) : Prop where
  size : ls.size = l.length
  last : ls.getD S.length false = false
  left : ((List.range S.length).flatMap (lacks ls)).length ≤ k
  clos : Clos l.toArray ls
  has : ∀ (i : Nat) (s : SpO), S[i]? = some s → ls.getD i false = true → a.tmps[s.d]? = some (V i) ∧ s.all (s.deps.map V) (V i) (Ps i)
  env : Agr n E a
  sat : Sat B (H ++ (List.range S.length).flatMap (up ls Ps)) w
theorem free_any2 {l : List Oper} {S : List SpO} {oL : Oper} (hlen : l.length = S.length + 1) (hoL : l[S.length]? = some oL) (hback : backB 0 l = true) (hdeps : depsB2 S l = true) (hsink : sinkB l.toArray (List.range l.length) = true)
    (hinj : ∀ (i j : Nat) (s s' : SpO), S[i]? = some s → S[j]? = some s' → s.d = s'.d → i = j)
    (hE : ∀ (i : Nat) (s : SpO), S[i]? = some s → lk E s.d = none) (hstep : Steps2 B P n l S E H S l)
    (fin : ∀ (V : Nat → Value) (Ps : Nat → List HP), (∀ (i : Nat) (s : SpO), S[i]? = some s → s.all (s.deps.map V) (V i) (Ps i)) →
      RT B P n true l [oL] (((List.range S.length).map fun i => (dAt S i, V i)) ++ E) (H ++ (List.range S.length).flatMap Ps) (NoPan Q)) :
    ∀ (k : Nat) (ls : Array Bool) (a : Act) (w : World) (V : Nat → Value) (Ps : Nat → List HP), Inv2 B n l S E H k ls a w V Ps → wpAny P .any l.toArray Q (k + 1) ls a w := by
  intro k
  induction k with
  | zero =>
    intro ls a w V Ps I
    refine ⟨fun hr => ?_, fun i hi => ?_⟩
    · have := all_up I.size hback hr (S.length + 1) S.length (by omega) (by omega)
      rw [I.last] at this
      cases this
    obtain ⟨hun, o, ho, haft⟩ := mem_ready.1 hi
    have hil : i < l.length := by
      have := (Array.getElem?_eq_some_iff.1 ho).1
      simpa using this
    have hls : i < ls.size := by rw [I.size]; exact hil
    have hun2 : ls.getD i false = false := by
      simp only [Array.getD, hls, dif_pos] at hun ⊢
      exact hun
    by_cases him : i = S.length
    · subst him
      rw [show l.toArray[S.length]? = l[S.length]? by simp, hoL] at ho
      cases ho
      have hall : ∀ i, i < S.length → ls.getD i false = true := fun i hi => sink_rdy I.clos (by simpa using hoL) haft (List.range l.length) hsink (by rw [hlen, List.range_succ, List.getLast?_concat]) i (List.mem_range.2 (by omega)) (by omega)
      have hA : Agr n (((List.range S.length).map fun i => (dAt S i, V i)) ++ E) a := ⟨I.env.size, I.env.defers, fun t v h => by
        rw [lk_append] at h
        cases hx : lk ((List.range S.length).map fun i => (dAt S i, V i)) t with
        | some y =>
          rw [hx] at h
          cases h
          obtain ⟨j, hj, rfl, rfl⟩ := lk_map (D := V) hx
          have hjl := List.mem_range.1 hj
          have hs' : S[j]? = some (S[j]'(by omega)) := List.getElem?_eq_getElem (by omega)
          have := (I.has j _ hs' (hall j hjl)).1
          unfold dAt
          rw [hs']
          exact this
        | none => rw [hx] at h; exact I.env.get t v h⟩
      have e : (List.range S.length).flatMap (up ls Ps) = (List.range S.length).flatMap Ps := by
        have : ∀ L : List Nat, (∀ i ∈ L, i < S.length) → L.flatMap (up ls Ps) = L.flatMap Ps := by
          intro L
          induction L with
          | nil => intro _; rfl
          | cons j L ih =>
            intro h
            rw [List.flatMap_cons, List.flatMap_cons, ih (fun i hi => h i (by simp [hi])), up, if_pos (hall j (h j (by simp)))]
        exact this _ (fun i hi => List.mem_range.1 hi)
      have h1 := fin V Ps (fun i s hs => (I.has i s hs (hall i (by obtain ⟨h1, _⟩ := List.getElem?_eq_some_iff.1 hs; exact h1))).2) a w hA (by rw [← e]; exact I.sat)
      have hnext : ∀ a' w', NoPan Q .normal a' w' → wpAny P .any l.toArray Q 0 (ls.setIfInBounds S.length true) a' w' := fun a' w' h => fin_any (by simp [I.size]) (fun j hj => by
        by_cases hjm : j = S.length
        · rw [hjm]; exact getD_set_self hls
        · exact getD_set_true (hall j (by omega))) h.2 _
      unfold wpOp
      simp only [show l.toArray[S.length]? = some oL by simpa using hoL]
      unfold wpN at h1
      split at h1
      · rename_i hw
        rw [if_pos hw]
        exact .inl (wpO_mono (Q := NoPan Q) (fun c a w hq => by cases hq.1) (fun ⟨_, _, hq⟩ => by cases hq.1) (Oper.wp_mono (fun a' w' hk => hnext a' w' hk) h1))
      · rename_i hw
        rw [if_neg hw]
        exact hnext _ _ h1
    · exfalso
      have h0 : (List.range S.length).flatMap (lacks ls) = [] := List.eq_nil_of_length_eq_zero (by have := I.left; omega)
      have := List.flatMap_eq_nil_iff.1 h0 i (List.mem_range.2 (by omega))
      unfold lacks at this
      rw [hun2] at this
      cases this
  | succ k ih =>
    intro ls a w V Ps I
    refine ⟨fun hr => ?_, fun i hi => ?_⟩
    · have := all_up I.size hback hr (S.length + 1) S.length (by omega) (by omega)
      rw [I.last] at this
      cases this
    obtain ⟨hun, o, ho, haft⟩ := mem_ready.1 hi
    have hil : i < l.length := by
      have := (Array.getElem?_eq_some_iff.1 ho).1
      simpa using this
    have hls : i < ls.size := by rw [I.size]; exact hil
    have hun2 : ls.getD i false = false := by
      simp only [Array.getD, hls, dif_pos] at hun ⊢
      exact hun
    by_cases him : i = S.length
    · subst him
      rw [show l.toArray[S.length]? = l[S.length]? by simp, hoL] at ho
      cases ho
      have hall : ∀ i, i < S.length → ls.getD i false = true := fun i hi => sink_rdy I.clos (by simpa using hoL) haft (List.range l.length) hsink (by rw [hlen, List.range_succ, List.getLast?_concat]) i (List.mem_range.2 (by omega)) (by omega)
      have hA : Agr n (((List.range S.length).map fun i => (dAt S i, V i)) ++ E) a := ⟨I.env.size, I.env.defers, fun t v h => by
        rw [lk_append] at h
        cases hx : lk ((List.range S.length).map fun i => (dAt S i, V i)) t with
        | some y =>
          rw [hx] at h
          cases h
          obtain ⟨j, hj, rfl, rfl⟩ := lk_map (D := V) hx
          have hjl := List.mem_range.1 hj
          have hs' : S[j]? = some (S[j]'(by omega)) := List.getElem?_eq_getElem (by omega)
          have := (I.has j _ hs' (hall j hjl)).1
          unfold dAt
          rw [hs']
          exact this
        | none => rw [hx] at h; exact I.env.get t v h⟩
      have e : (List.range S.length).flatMap (up ls Ps) = (List.range S.length).flatMap Ps := by
        have : ∀ L : List Nat, (∀ i ∈ L, i < S.length) → L.flatMap (up ls Ps) = L.flatMap Ps := by
          intro L
          induction L with
          | nil => intro _; rfl
          | cons j L ih =>
            intro h
            rw [List.flatMap_cons, List.flatMap_cons, ih (fun i hi => h i (by simp [hi])), up, if_pos (hall j (h j (by simp)))]
        exact this _ (fun i hi => List.mem_range.1 hi)
      have h1 := fin V Ps (fun i s hs => (I.has i s hs (hall i (by obtain ⟨h1, _⟩ := List.getElem?_eq_some_iff.1 hs; exact h1))).2) a w hA (by rw [← e]; exact I.sat)
      have hnext : ∀ a' w', NoPan Q .normal a' w' → wpAny P .any l.toArray Q (k + 1) (ls.setIfInBounds S.length true) a' w' := fun a' w' h => fin_any (by simp [I.size]) (fun j hj => by
        by_cases hjm : j = S.length
        · rw [hjm]; exact getD_set_self hls
        · exact getD_set_true (hall j (by omega))) h.2 _
      unfold wpOp
      simp only [show l.toArray[S.length]? = some oL by simpa using hoL]
      unfold wpN at h1
      split at h1
      · rename_i hw
        rw [if_pos hw]
        exact .inl (wpO_mono (Q := NoPan Q) (fun c a w hq => by cases hq.1) (fun ⟨_, _, hq⟩ => by cases hq.1) (Oper.wp_mono (fun a' w' hk => hnext a' w' hk) h1))
      · rename_i hw
        rw [if_neg hw]
        exact hnext _ _ h1
    · have him2 : i < S.length := by omega
      have ho2 : l[i]? = some o := by simpa using ho
      obtain ⟨s, hs⟩ : ∃ s, S[i]? = some s := ⟨S[i]'(by omega), List.getElem?_eq_getElem (by omega)⟩
      have hsd : ∀ j ∈ s.deps, ls.getD j false = true := fun j hj => by
        obtain ⟨e, he, h1, h2⟩ := depsB2_spec hdeps hs ho2 j hj
        rw [← h1]
        exact haft e he h2
      have hdj : ∀ j ∈ s.deps, a.tmps[dAt S j]? = some (V j) := fun j hj => by
        have h1 := hsd j hj
        have hjl : j < S.length := by
          rcases Nat.lt_or_ge j ls.size with h | h
          · rw [I.size] at h
            rcases Nat.lt_or_ge j S.length with h2 | h2
            · exact h2
            · rw [show j = S.length by omega, I.last] at h1; cases h1
          · simp [Array.getD, Nat.not_lt.2 h] at h1
        have hs' : S[j]? = some (S[j]'(by omega)) := List.getElem?_eq_getElem (by omega)
        have := (I.has j _ hs' h1).1
        unfold dAt
        rw [hs']
        exact this
      have hok : ∀ j ∈ s.deps, okAt S j (V j) := fun j hj => by
        have h1 := hsd j hj
        unfold okAt
        cases hs' : S[j]? with
        | none => trivial
        | some s' => exact (I.has j s' hs' h1).2.1
      have hA : Agr n (depE S s V ++ (E ++ snap a)) a := ⟨I.env.size, I.env.defers, fun t v h => by
        rw [lk_append] at h
        cases hx : lk (depE S s V) t with
        | some y =>
          rw [hx] at h
          cases h
          obtain ⟨j, hj, rfl, rfl⟩ := lk_map (D := V) hx
          exact hdj j hj
        | none =>
          rw [hx] at h
          simp only at h
          rw [lk_append] at h
          cases hy : lk E t with
          | some y => rw [hy] at h; cases h; exact I.env.get t _ hy
          | none => rw [hy] at h; simp only at h; rwa [lk_snap] at h⟩
      have h1 := (hstep.at hs ho2 V (snap a) _ hok) a w hA I.sat
      have hnext : ∀ a' w', OneQ B n s.d (depE S s V ++ (E ++ snap a)) (H ++ (List.range S.length).flatMap (up ls Ps)) (s.all (s.deps.map V)) .normal a' w' → wpAny P .any l.toArray Q (k + 1) (ls.setIfInBounds i true) a' w' := fun a' w' h => by
        obtain ⟨_, v, Pi, hr, hA', hS'⟩ := h
        have keep : ∀ t x, t ≠ s.d → a.tmps[t]? = some x → a'.tmps[t]? = some x := fun t x ht hx => by
          obtain ⟨y, hy⟩ : ∃ y, lk (depE S s V ++ (E ++ snap a)) t = some y := by
            rw [lk_append]
            cases lk (depE S s V) t with
            | some y => exact ⟨y, rfl⟩
            | none =>
              simp only
              rw [lk_append]
              cases lk E t with
              | some y => exact ⟨y, rfl⟩
              | none => simp only; rw [lk_snap]; exact ⟨x, hx⟩
          have h2 := hA.get t y hy
          rw [hx] at h2
          cases h2
          refine hA'.get t x ?_
          rw [lk]
          have hb : Nat.beq s.d t = false := by
            cases hbb : Nat.beq s.d t with
            | true => exact absurd (Nat.eq_of_beq_eq_true hbb).symm ht
            | false => rfl
          rw [hb]
          exact hy
        have hI : ∀ j s', S[j]? = some s' → ls.getD j false = true → ∀ x ∈ s'.deps, ls.getD x false = true := fun j s' hs' hj x hx => by
          have hjl := (List.getElem?_eq_some_iff.1 hs').1
          have hoj : l[j]? = some (l[j]'(by omega)) := List.getElem?_eq_getElem (by omega)
          obtain ⟨e, he, h1, h2⟩ := depsB2_spec hdeps hs' hoj x hx
          have := I.clos j l[j] (by simp) hj e he h2
          rwa [h1] at this
        have hVi : ∀ j s', S[j]? = some s' → ls.getD j false = true → s'.deps.map (fun x => if x = i then v else V x) = s'.deps.map V := fun j s' hs' hj => by
          refine List.map_congr_left fun x hx => if_neg fun e => ?_
          have := hI j s' hs' hj x hx
          rw [e, hun2] at this
          cases this
        have hVs : s.deps.map (fun x => if x = i then v else V x) = s.deps.map V := List.map_congr_left fun x hx => if_neg fun e => by
          have := hsd x hx
          rw [e, hun2] at this
          cases this
        refine ih (ls.setIfInBounds i true) a' w' (fun j => if j = i then v else V j) (fun j => if j = i then Pi else Ps j) ⟨by simp [I.size], by rw [getD_set_ne false him]; exact I.last, ?_, I.clos.set hi, ?_, ?_, ?_⟩
        · have hp := flat_ins (i := i) (g := [()]) (f := lacks (ls.setIfInBounds i true)) (f' := lacks ls) (by unfold lacks; rw [getD_set_self hls]; rfl) (by unfold lacks; rw [hun2]; rfl) (fun j hj => by unfold lacks; rw [getD_set_ne false (Ne.symm hj)]) (List.range S.length) List.nodup_range (List.mem_range.2 him2)
          have h2 := hp.length_eq
          rw [List.length_append] at h2
          have := I.left
          simp only [List.length_cons, List.length_nil] at h2
          omega
        · intro j s' hs' hj
          by_cases hji : j = i
          · subst hji
            rw [hs] at hs'
            cases hs'
            rw [hVs]
            simp only [if_true]
            refine ⟨hA'.get _ _ ?_, hr⟩
            rw [lk, Nat.beq_refl]
            rfl
          · rw [getD_set_ne false (Ne.symm hji)] at hj
            obtain ⟨h2, h3⟩ := I.has j s' hs' hj
            rw [hVi j s' hs' hj]
            simp only [if_neg hji]
            exact ⟨keep _ _ (fun e => hji (hinj j i s' s hs' hs e)) h2, h3⟩
        · refine ⟨hA'.size, hA'.defers, fun t x hx => keep t x (fun e => ?_) (I.env.get t x hx)⟩
          rw [e, hE i s hs] at hx
          cases hx
        · refine hS'.mono (star_perm ?_)
          exact (List.perm_append_comm_assoc Pi H _).trans (List.Perm.append_left _ (flat_ins (by unfold up; rw [hun2]; rfl) (by unfold up; rw [getD_set_self hls]; simp) (fun j hj => by unfold up; rw [getD_set_ne false (Ne.symm hj)]; simp only [if_neg hj]) (List.range S.length) List.nodup_range (List.mem_range.2 him2)))
      unfold wpOp
      simp only [ho]
      unfold wpN at h1
      split at h1
      · rename_i hw
        rw [if_pos hw]
        exact .inl (wpO_mono (Q := OneQ B n s.d (depE S s V ++ (E ++ snap a)) (H ++ (List.range S.length).flatMap (up ls Ps)) (s.all (s.deps.map V))) (fun c a w hq => by cases hq.1) (fun ⟨_, _, hq⟩ => by cases hq.1) (Oper.wp_mono (fun a' w' hk => hnext a' w' hk) h1))
      · rename_i hw
        rw [if_neg hw]
        exact hnext _ _ h1
/-- A region whose order is open, its last operation behind all others. -/
theorem CT.freeL {id : Nat} {l : List Oper} {oL : Oper} (S : List SpO) (hm : P.follows .mixedOrders = true) (hlen : l.length = S.length + 1) (hoL : l[S.length]? = some oL) (hback : backB 0 l = true) (hdeps : depsB2 S l = true) (hsink : sinkB l.toArray (List.range l.length) = true)
    (hinj : injB (S.map SpO.d) = true) (hE : (S.all fun s => (lk E s.d).isNone) = true) (hstep : Steps2 B P n l S E H S l)
    (fin : ∀ (V : Nat → Value) (Ps : Nat → List HP), (∀ (i : Nat) (s : SpO), S[i]? = some s → s.all (s.deps.map V) (V i) (Ps i)) →
      RT B P n true l [oL] (((List.range S.length).map fun i => (dAt S i, V i)) ++ E) (H ++ (List.range S.length).flatMap Ps) (NoPan Q))
    (hro : n.ro = none := by rfl) : CT B P n (.region id l.toArray true) E H Q := by
  intro a w hA hS
  rw [Fm.wide hro]
  refine wpIn_wide.2 ?_
  refine wp_region_any hm ?_
  rw [List.size_toArray]
  have hno : ∀ i, (Array.replicate l.length false).getD i false = false := fun i => by
    rcases Nat.lt_or_ge i l.length with h2 | h2 <;> simp [Array.getD, h2]
  have e : (List.range S.length).flatMap (up (Array.replicate l.length false) fun _ => []) = [] := by
    rw [List.flatMap_eq_nil_iff]
    intro i _
    unfold up
    split <;> rfl
  have hkk : ∀ w, wpAny P .any l.toArray Q (S.length + 1) (Array.replicate l.length false) a w → wpAny P .any l.toArray Q l.length (Array.replicate l.length false) a w := fun w h => by rw [hlen] at h ⊢; exact h
  refine hkk _ ?_
  refine free_any2 (B := B) (n := n) (E := E) (H := H) hlen hoL hback hdeps hsink (fun i j s s' h1 h2 h3 => ?_) (fun i s hs => ?_) hstep fin
    S.length _ _ _ (fun _ => undef) (fun _ => []) ⟨by simp, hno _, ?_, Clos.none_ _, fun i s hs h => (by rw [hno] at h; cases h), hA, ?_⟩
  · refine injB_spec (d := s.d) hinj (by rw [List.getElem?_map, h1]; rfl) (by rw [List.getElem?_map, h2, h3]; rfl)
  · have := List.all_eq_true.1 hE s (List.mem_of_getElem? hs)
    simpa using this
  · have : ∀ L : List Nat, (L.flatMap (lacks (Array.replicate l.length false))).length ≤ L.length := by
      intro L
      induction L with
      | nil => simp
      | cons j L ih =>
        rw [List.flatMap_cons, List.length_append, List.length_cons]
        unfold lacks
        split <;> simp only [List.length_nil, List.length_cons] <;> unfold lacks at ih <;> omega
    have h2 := this (List.range S.length)
    rw [List.length_range] at h2
    exact h2
  · rw [e, List.append_nil]
    exact hS.drawn _
end
end Go.Sk
