/- Regions whose order is open, of operations that each hand back a value and lay down pieces of their own: whatever order is drawn, the same is there at the end. Plain theorems, no condition. -/
import Derived.Test.YtbpelgbblpeojabSk9
set_option linter.unusedVariables false
set_option linter.unusedSimpArgs false
namespace Go.Sk
open Go.RowKit
theorem star_perm {H H' : List HP} (p : H.Perm H') : ∀ h, star H h → star H' h := by
  induction p with
  | nil => exact fun _ h => h
  | cons x _ ih => exact fun h hs => star_cons_mono ih hs
  | swap x y l => exact fun h hs => star_swap hs
  | trans _ _ i1 i2 => exact fun h hs => i2 h (i1 h hs)
theorem flat_not {α : Type _} {i : Nat} {f f' : Nat → List α} (h3 : ∀ j, j ≠ i → f' j = f j) : ∀ L : List Nat, i ∉ L → L.flatMap f' = L.flatMap f
  | [], _ => rfl
  | j :: L, h => by
    rw [List.flatMap_cons, List.flatMap_cons, h3 j (fun e => h (by simp [e])), flat_not h3 L (fun e => h (by simp [e]))]
theorem flat_ins {α : Type _} {i : Nat} {g : List α} {f f' : Nat → List α} (h1 : f i = []) (h2 : f' i = g) (h3 : ∀ j, j ≠ i → f' j = f j) : ∀ L : List Nat, L.Nodup → i ∈ L → (g ++ L.flatMap f).Perm (L.flatMap f')
  | [], _, h => by cases h
  | j :: L, hn, h => by
    rw [List.nodup_cons] at hn
    rw [List.flatMap_cons, List.flatMap_cons]
    by_cases hj : j = i
    · subst hj
      rw [h1, h2, flat_not h3 L hn.1, List.nil_append]
    · rw [h3 j hj]
      have ih := flat_ins h1 h2 h3 L hn.2 ((List.mem_cons.1 h).resolve_left fun e => hj e.symm)
      rw [← List.append_assoc]
      refine (List.Perm.append_right _ (List.perm_append_comm)).trans ?_
      rw [List.append_assoc]
      exact List.Perm.append_left _ ih
theorem lk_append : ∀ (A C : Env) (t : Nat), lk (A ++ C) t = match lk A t with | some v => some v | none => lk C t
  | [], C, t => rfl
  | (s, v) :: A, C, t => by
    show (bif Nat.beq s t then some v else lk (A ++ C) t) = _
    rw [lk]
    cases Nat.beq s t with
    | true => rfl
    | false => exact lk_append A C t
def snapL : List Value → Nat → Env
  | [], _ => []
  | v :: vs, k => (k, v) :: snapL vs (k + 1)
theorem lk_snapL : ∀ (vs : List Value) (k t : Nat), k ≤ t → lk (snapL vs k) t = vs[t - k]?
  | [], k, t, _ => by simp [snapL, lk]
  | v :: vs, k, t, h => by
    rw [snapL, lk]
    by_cases hk : k = t
    · subst hk
      simp
    · have hb : Nat.beq k t = false := by cases hx : Nat.beq k t with
        | true => exact absurd (Nat.eq_of_beq_eq_true hx) hk
        | false => rfl
      rw [hb, cond_false, lk_snapL vs (k + 1) t (by omega), show t - k = (t - (k + 1)) + 1 by omega, List.getElem?_cons_succ]
def snap (a : Act) : Env := snapL a.tmps.toList 0
theorem lk_snap (a : Act) (t : Nat) : lk (snap a) t = a.tmps[t]? := by
  unfold snap
  rw [lk_snapL _ _ _ (Nat.zero_le _)]
  simp
theorem lk_map {D V : Nat → Value} {d : Nat → Nat} {t : Nat} {v : Value} : ∀ {L : List Nat}, lk (L.map fun j => (d j, V j)) t = some v → ∃ j ∈ L, t = d j ∧ v = V j
  | [], h => by cases h
  | j :: L, h => by
    rw [List.map_cons, lk] at h
    cases hb : Nat.beq (d j) t with
    | true => rw [hb] at h; cases h; exact ⟨j, by simp, (Nat.eq_of_beq_eq_true hb).symm, rfl⟩
    | false =>
      rw [hb] at h
      obtain ⟨i, h1, h2⟩ := lk_map (D := D) (L := L) h
      exact ⟨i, by simp [h1], h2⟩
/-- What is asked of one operation: its slot; which others it reads; what it hands back and lays down. -/
structure SpO where
  d : Nat
  deps : List Nat
  rel : List Value → Value → List HP → Prop
  ok : Value → Prop := fun _ => True
def dAt (S : List SpO) (i : Nat) : Nat := ((S[i]?).map SpO.d).getD 0
def depE (S : List SpO) (s : SpO) (V : Nat → Value) : Env := s.deps.map fun j => (dAt S j, V j)
/-- Behind one operation. -/
def OneQ (B : World) (n : Fm) (d : Nat) (Y : Env) (H : List HP) (rel : Value → List HP → Prop) : Exit → Act → World → Prop := fun ex a w =>
  ex = .normal ∧ ∃ v Ps, rel v Ps ∧ Agr n ((d, v) :: Y) a ∧ Sat B (Ps ++ H) w
theorem AtQ.one {B : World} {n : Fm} {d : Nat} {Y : Env} {H H1 : List HP} {rel : Value → List HP → Prop} {v : Value} (Ps : List HP) (hr : rel v Ps) (hH : ∀ w, Sat B H1 w → Sat B (Ps ++ H) w) :
    AtQ B n ((d, v) :: Y) H1 (OneQ B n d Y H rel) .normal := fun _ w hA hS => ⟨rfl, v, Ps, hr, hA, hH w hS⟩
/-- Each operation does what is asked of it. -/
def Steps (B : World) (P : Program) (n : Fm) (l : List Oper) (S : List SpO) (E : Env) : List SpO → List Oper → Prop
  | [], [] => True
  | s :: ss, o :: os => (∀ (V : Nat → Value) (X : Env) (H : List HP), RT B P n true l [o] (depE S s V ++ (E ++ X)) H (OneQ B n s.d (depE S s V ++ (E ++ X)) H (s.rel (s.deps.map V)))) ∧ Steps B P n l S E ss os
  | _, _ => False
theorem Steps.at {B : World} {P : Program} {n : Fm} {l : List Oper} {S : List SpO} {E : Env} : ∀ {ss : List SpO} {os : List Oper} {i : Nat} {s : SpO} {o : Oper}, Steps B P n l S E ss os → ss[i]? = some s → os[i]? = some o →
    ∀ (V : Nat → Value) (X : Env) (H : List HP), RT B P n true l [o] (depE S s V ++ (E ++ X)) H (OneQ B n s.d (depE S s V ++ (E ++ X)) H (s.rel (s.deps.map V)))
  | [], [], i, s, o, _, h1, _ => by simp at h1
  | s :: ss, o :: os, 0, s', o', h, h1, h2 => by
    simp only [List.getElem?_cons_zero, Option.some.injEq] at h1 h2
    subst h1 h2
    exact h.1
  | s :: ss, o :: os, i + 1, s', o', h, h1, h2 => by
    simp only [List.getElem?_cons_succ] at h1 h2
    exact Steps.at h.2 h1 h2
  | _ :: _, [], _, _, _, h, _, _ => False.elim h
  | [], _ :: _, _, _, _, h, _, _ => False.elim h
/-- Edges lead back. -/
def backB : Nat → List Oper → Bool
  | _, [] => true
  | k, o :: l => o.after.all (fun e => Nat.blt e.on k) && backB (k + 1) l
theorem backB_spec : ∀ {k : Nat} {l : List Oper} {i : Nat} {o : Oper}, backB k l = true → l[i]? = some o → ∀ e ∈ o.after, e.on < k + i
  | _, [], i, o, _, h2 => by simp at h2
  | k, o :: l, 0, o', h1, h2 => by
    simp only [List.getElem?_cons_zero, Option.some.injEq] at h2
    subst h2
    simp only [backB, Bool.and_eq_true] at h1
    intro e he
    have := Array.all_eq_true_iff_forall_mem.1 h1.1 e he
    simpa [Nat.blt_eq] using this
  | k, o :: l, i + 1, o', h1, h2 => by
    simp only [List.getElem?_cons_succ] at h2
    simp only [backB, Bool.and_eq_true] at h1
    intro e he
    have := backB_spec h1.2 h2 e he
    omega
/-- What an operation reads, it waits for. -/
def depsB : List SpO → List Oper → Bool
  | [], [] => true
  | s :: ss, o :: os => s.deps.all (fun j => o.after.any fun e => Nat.beq e.on j && Region.binds .any e) && depsB ss os
  | _, _ => false
theorem depsB_spec : ∀ {ss : List SpO} {os : List Oper} {i : Nat} {s : SpO} {o : Oper}, depsB ss os = true → ss[i]? = some s → os[i]? = some o → ∀ j ∈ s.deps, ∃ e ∈ o.after, e.on = j ∧ Region.binds .any e = true
  | [], [], i, s, o, _, h1, _ => by simp at h1
  | s :: ss, o :: os, 0, s', o', h, h1, h2 => by
    simp only [List.getElem?_cons_zero, Option.some.injEq] at h1 h2
    subst h1 h2
    simp only [depsB, Bool.and_eq_true] at h
    intro j hj
    have h3 := List.all_eq_true.1 h.1 j hj
    rw [Array.any_eq_true'] at h3
    obtain ⟨e, he, h4⟩ := h3
    simp only [Bool.and_eq_true] at h4
    exact ⟨e, he, Nat.eq_of_beq_eq_true h4.1, h4.2⟩
  | s :: ss, o :: os, i + 1, s', o', h, h1, h2 => by
    simp only [List.getElem?_cons_succ] at h1 h2
    simp only [depsB, Bool.and_eq_true] at h
    exact depsB_spec h.2 h1 h2
  | _ :: _, [], _, _, _, h, _, _ => by simp [depsB] at h
  | [], _ :: _, _, _, _, h, _, _ => by simp [depsB] at h
theorem all_up {l : List Oper} {ls : Array Bool} (hsz : ls.size = l.length) (hback : backB 0 l = true) (hr : Region.ready .any l.toArray ls = []) : ∀ k i, i < k → i < l.length → ls.getD i false = true
  | 0, _, h, _ => by omega
  | k + 1, i, h, hi => by
    have ih := all_up hsz hback hr k
    cases hx : ls.getD i false with
    | true => rfl
    | false =>
      exfalso
      have ho : l.toArray[i]? = some l[i] := by simp [hi]
      have hm : i ∈ Region.ready .any l.toArray ls := mem_ready.2 ⟨by
        have h1 : i < ls.size := by omega
        simp only [Array.getD, h1, dif_pos] at hx ⊢
        exact hx, l[i], ho, fun e he _ => by
        have := backB_spec hback (i := i) (o := l[i]) (by simp [hi]) e he
        exact ih e.on (by omega) (by omega)⟩
      rw [hr] at hm
      cases hm
def up (ls : Array Bool) (Ps : Nat → List HP) (i : Nat) : List HP := if ls.getD i false = true then Ps i else []
def lacks (ls : Array Bool) (i : Nat) : List Unit := if ls.getD i false = true then [] else [()]
theorem getD_set_self {ls : Array Bool} {i : Nat} (h : i < ls.size) : (ls.setIfInBounds i true).getD i false = true := by
  simp [Array.getD, h]
/-- So much having come up. -/
structure Inv (B : World) (n : Fm) (l : List Oper) (S : List SpO) (E : Env) (H : List HP) (k : Nat) (ls : Array Bool) (a : Act) (w : World) (V : Nat → Value) (Ps : Nat → List HP) : Prop where
  size : ls.size = l.length
  left : ((List.range l.length).flatMap (lacks ls)).length ≤ k
  deps : ∀ (i : Nat) (s : SpO), S[i]? = some s → ls.getD i false = true → ∀ j ∈ s.deps, ls.getD j false = true
  has : ∀ (i : Nat) (s : SpO), S[i]? = some s → ls.getD i false = true → a.tmps[s.d]? = some (V i) ∧ s.rel (s.deps.map V) (V i) (Ps i)
  env : Agr n E a
  sat : Sat B ((List.range l.length).flatMap (up ls Ps) ++ H) w
section
variable {P : Program} {B : World} {n : Fm} {E : Env} {H : List HP} {Q : Exit → Act → World → Prop}
theorem free_any {l : List Oper} {S : List SpO} (hlen : S.length = l.length) (hback : backB 0 l = true) (hdeps : depsB S l = true) (hinj : ∀ (i j : Nat) (s s' : SpO), S[i]? = some s → S[j]? = some s' → s.d = s'.d → i = j)
    (hE : ∀ (i : Nat) (s : SpO), S[i]? = some s → lk E s.d = none) (hstep : Steps B P n l S E S l)
    (fin : ∀ (V : Nat → Value) (Ps : Nat → List HP) (a : Act) (w : World), (∀ (i : Nat) (s : SpO), S[i]? = some s → a.tmps[s.d]? = some (V i) ∧ s.rel (s.deps.map V) (V i) (Ps i)) → Agr n E a → Sat B ((List.range l.length).flatMap Ps ++ H) w → Q .normal a w) :
    ∀ (k : Nat) (ls : Array Bool) (a : Act) (w : World) (V : Nat → Value) (Ps : Nat → List HP), Inv B n l S E H k ls a w V Ps → wpAny P .any l.toArray Q k ls a w := by
  have done : ∀ {k : Nat} {ls : Array Bool} {a : Act} {w : World} {V : Nat → Value} {Ps : Nat → List HP}, Inv B n l S E H k ls a w V Ps → (∀ i, i < l.length → ls.getD i false = true) → Q .normal a w := fun {k ls a w V Ps} I hall => by
    refine fin V Ps a w (fun i s hs => I.has i s hs (hall i ?_)) I.env ?_
    · obtain ⟨h1, _⟩ := List.getElem?_eq_some_iff.1 hs
      omega
    · have e : (List.range l.length).flatMap (up ls Ps) = (List.range l.length).flatMap Ps := by
        have : ∀ L : List Nat, (∀ i ∈ L, i < l.length) → L.flatMap (up ls Ps) = L.flatMap Ps := by
          intro L
          induction L with
          | nil => intro _; rfl
          | cons j L ih =>
            intro h
            rw [List.flatMap_cons, List.flatMap_cons, ih (fun i hi => h i (by simp [hi])), up, if_pos (hall j (h j (by simp)))]
        exact this _ (fun i hi => List.mem_range.1 hi)
      rw [← e]
      exact I.sat
  intro k
  induction k with
  | zero =>
    intro ls a w V Ps I
    have hall : ∀ i, i < l.length → ls.getD i false = true := by
      intro i hi
      cases hx : ls.getD i false with
      | true => rfl
      | false =>
        exfalso
        have h0 : (List.range l.length).flatMap (lacks ls) = [] := List.eq_nil_of_length_eq_zero (by have := I.left; omega)
        have := List.flatMap_eq_nil_iff.1 h0 i (List.mem_range.2 hi)
        unfold lacks at this
        rw [hx] at this
        cases this
    refine ⟨List.eq_nil_iff_forall_not_mem.2 fun i hi => ?_, done I hall⟩
    obtain ⟨h1, o, ho, _⟩ := mem_ready.1 hi
    have hil : i < l.length := by
      have := (Array.getElem?_eq_some_iff.1 ho).1
      simpa using this
    have h2 := hall i hil
    have h3 : i < ls.size := by rw [I.size]; exact hil
    simp only [Array.getD, h3, dif_pos] at h1 h2
    rw [h1] at h2
    cases h2
  | succ k ih =>
    intro ls a w V Ps I
    refine ⟨fun hr => done I fun i hi => all_up I.size hback hr (i + 1) i (by omega) hi, fun i hi => ?_⟩
    obtain ⟨hun, o, ho, haft⟩ := mem_ready.1 hi
    have hil : i < l.length := by
      have := (Array.getElem?_eq_some_iff.1 ho).1
      simpa using this
    have hls : i < ls.size := by rw [I.size]; exact hil
    have hun2 : ls.getD i false = false := by
      simp only [Array.getD, hls, dif_pos] at hun ⊢
      exact hun
    have ho2 : l[i]? = some o := by simpa using ho
    obtain ⟨s, hs⟩ : ∃ s, S[i]? = some s := ⟨S[i]'(by omega), List.getElem?_eq_getElem (by omega)⟩
    have hsd : ∀ j ∈ s.deps, ls.getD j false = true := fun j hj => by
      obtain ⟨e, he, h1, h2⟩ := depsB_spec hdeps hs ho2 j hj
      rw [← h1]
      exact haft e he h2
    have hdj : ∀ j ∈ s.deps, a.tmps[dAt S j]? = some (V j) := fun j hj => by
      have h1 := hsd j hj
      have hjl : j < l.length := by
        rcases Nat.lt_or_ge j ls.size with h | h
        · rw [I.size] at h; exact h
        · simp [Array.getD, Nat.not_lt.2 h] at h1
      have hs' : S[j]? = some (S[j]'(by omega)) := List.getElem?_eq_getElem (by omega)
      have := (I.has j _ hs' h1).1
      unfold dAt
      rw [hs']
      exact this
    have hA : Agr n (depE S s V ++ (E ++ snap a)) a := ⟨I.env.size, I.env.defers, fun t v h => by
      rw [lk_append] at h
      cases hx : lk (depE S s V) t with
      | some y =>
        rw [hx] at h
        cases h
        obtain ⟨j, hj, rfl, rfl⟩ := lk_map (D := V) hx
        exact hdj j hj
      | none =>
        rw [hx] at h
        simp only at h
        rw [lk_append] at h
        cases hy : lk E t with
        | some y => rw [hy] at h; cases h; exact I.env.get t _ hy
        | none => rw [hy] at h; simp only at h; rwa [lk_snap] at h⟩
    have h1 := (hstep.at hs ho2 V (snap a) _) a w hA I.sat
    have hnext : ∀ a' w', OneQ B n s.d (depE S s V ++ (E ++ snap a)) ((List.range l.length).flatMap (up ls Ps) ++ H) (s.rel (s.deps.map V)) .normal a' w' → wpAny P .any l.toArray Q k (ls.setIfInBounds i true) a' w' := fun a' w' h => by
      obtain ⟨_, v, Pi, hr, hA', hS'⟩ := h
      have keep : ∀ t x, t ≠ s.d → a.tmps[t]? = some x → a'.tmps[t]? = some x := fun t x ht hx => by
        obtain ⟨y, hy⟩ : ∃ y, lk (depE S s V ++ (E ++ snap a)) t = some y := by
          rw [lk_append]
          cases lk (depE S s V) t with
          | some y => exact ⟨y, rfl⟩
          | none =>
            simp only
            rw [lk_append]
            cases lk E t with
            | some y => exact ⟨y, rfl⟩
            | none => simp only; rw [lk_snap]; exact ⟨x, hx⟩
        have h2 := hA.get t y hy
        rw [hx] at h2
        cases h2
        refine hA'.get t x ?_
        rw [lk]
        have hb : Nat.beq s.d t = false := by
          cases hbb : Nat.beq s.d t with
          | true => exact absurd (Nat.eq_of_beq_eq_true hbb).symm ht
          | false => rfl
        rw [hb]
        exact hy
      have hVi : ∀ j s', S[j]? = some s' → ls.getD j false = true → s'.deps.map (fun x => if x = i then v else V x) = s'.deps.map V := fun j s' hs' hj => by
        refine List.map_congr_left fun x hx => if_neg fun e => ?_
        have := I.deps j s' hs' hj x hx
        rw [e, hun2] at this
        cases this
      have hVs : s.deps.map (fun x => if x = i then v else V x) = s.deps.map V := List.map_congr_left fun x hx => if_neg fun e => by
        have := hsd x hx
        rw [e, hun2] at this
        cases this
      refine ih (ls.setIfInBounds i true) a' w' (fun j => if j = i then v else V j) (fun j => if j = i then Pi else Ps j) ⟨by simp [I.size], ?_, ?_, ?_, ?_, ?_⟩
      · have hp := flat_ins (i := i) (g := [()]) (f := lacks (ls.setIfInBounds i true)) (f' := lacks ls) (by unfold lacks; rw [getD_set_self hls]; rfl) (by unfold lacks; rw [hun2]; rfl) (fun j hj => by unfold lacks; rw [getD_set_ne false (Ne.symm hj)]) (List.range l.length) List.nodup_range (List.mem_range.2 hil)
        have h2 := hp.length_eq
        rw [List.length_append] at h2
        have := I.left
        simp only [List.length_cons, List.length_nil] at h2
        omega
      · intro j s' hs' hj x hx
        by_cases hji : j = i
        · subst hji
          rw [hs] at hs'
          cases hs'
          exact getD_set_true (hsd x hx)
        · rw [getD_set_ne false (Ne.symm hji)] at hj
          exact getD_set_true (I.deps j s' hs' hj x hx)
      · intro j s' hs' hj
        by_cases hji : j = i
        · subst hji
          rw [hs] at hs'
          cases hs'
          rw [hVs]
          simp only [if_true]
          refine ⟨hA'.get _ _ ?_, hr⟩
          rw [lk, Nat.beq_refl]
          rfl
        · rw [getD_set_ne false (Ne.symm hji)] at hj
          obtain ⟨h2, h3⟩ := I.has j s' hs' hj
          rw [hVi j s' hs' hj]
          simp only [if_neg hji]
          exact ⟨keep _ _ (fun e => hji (hinj j i s' s hs' hs e)) h2, h3⟩
      · refine ⟨hA'.size, hA'.defers, fun t x hx => keep t x (fun e => ?_) (I.env.get t x hx)⟩
        rw [e, hE i s hs] at hx
        cases hx
      · refine hS'.mono (star_perm ?_)
        rw [← List.append_assoc]
        exact List.Perm.append_right _ (flat_ins (by unfold up; rw [hun2]; rfl) (by unfold up; rw [getD_set_self hls]; simp) (fun j hj => by unfold up; rw [getD_set_ne false (Ne.symm hj)]; simp only [if_neg hj]) (List.range l.length) List.nodup_range (List.mem_range.2 hil))
    unfold wpOp
    simp only [ho]
    unfold wpN at h1
    split at h1
    · rename_i hw
      rw [if_pos hw]
      exact .inl (wpO_mono (Q := OneQ B n s.d (depE S s V ++ (E ++ snap a)) ((List.range l.length).flatMap (up ls Ps) ++ H) (s.rel (s.deps.map V))) (fun c a w hq => by cases hq.1) (fun ⟨_, _, hq⟩ => by cases hq.1) (Oper.wp_mono (fun a' w' hk => hnext a' w' hk) h1))
    · rename_i hw
      rw [if_neg hw]
      exact hnext _ _ h1
def injB : List Nat → Bool
  | [] => true
  | d :: L => !(L.any (Nat.beq d)) && injB L
theorem injB_spec : ∀ {L : List Nat} {i j d : Nat}, injB L = true → L[i]? = some d → L[j]? = some d → i = j
  | [], _, _, _, _, h, _ => by simp at h
  | x :: L, 0, 0, _, _, _, _ => rfl
  | x :: L, 0, j + 1, d, h, h1, h2 => by
    simp only [List.getElem?_cons_zero, Option.some.injEq, List.getElem?_cons_succ] at h1 h2
    subst h1
    simp only [injB, Bool.and_eq_true, Bool.not_eq_true'] at h
    have := List.any_eq_false.1 h.1 x (List.mem_of_getElem? h2)
    exact absurd (Nat.beq_refl x) this
  | x :: L, i + 1, 0, d, h, h1, h2 => by
    simp only [List.getElem?_cons_zero, Option.some.injEq, List.getElem?_cons_succ] at h1 h2
    subst h2
    simp only [injB, Bool.and_eq_true, Bool.not_eq_true'] at h
    have := List.any_eq_false.1 h.1 x (List.mem_of_getElem? h1)
    exact absurd (Nat.beq_refl x) this
  | x :: L, i + 1, j + 1, d, h, h1, h2 => by
    simp only [List.getElem?_cons_succ] at h1 h2
    simp only [injB, Bool.and_eq_true] at h
    rw [injB_spec h.2 h1 h2]
/-- A region whose order is open: each operation by itself; at the end all of them. -/
theorem CT.free {id : Nat} {l : List Oper} (S : List SpO) (hm : P.follows .mixedOrders = true) (hlen : S.length = l.length) (hback : backB 0 l = true) (hdeps : depsB S l = true) (hinj : injB (S.map SpO.d) = true) (hE : (S.all fun s => (lk E s.d).isNone) = true)
    (hstep : Steps B P n l S E S l)
    (fin : ∀ (V : Nat → Value) (Ps : Nat → List HP), (∀ (i : Nat) (s : SpO), S[i]? = some s → s.rel (s.deps.map V) (V i) (Ps i)) → AtQ B n (((List.range l.length).map fun i => (dAt S i, V i)) ++ E) ((List.range l.length).flatMap Ps ++ H) Q .normal)
    (hro : n.ro = none := by rfl) : CT B P n (.region id l.toArray true) E H Q := by
  intro a w hA hS
  rw [Fm.wide hro]
  refine wpIn_wide.2 ?_
  refine wp_region_any hm ?_
  refine free_any (B := B) (n := n) (E := E) (H := H) hlen hback hdeps (fun i j s s' h1 h2 h3 => ?_) (fun i s hs => ?_) hstep (fun V Ps a w h1 h2 h3 => fin V Ps (fun i s hs => (h1 i s hs).2) a w ⟨h2.size, h2.defers, fun t v h => ?_⟩ h3)
    _ _ _ _ (fun _ => undef) (fun _ => []) ⟨by simp, ?_, ?_, ?_, hA, ?_⟩
  · refine injB_spec (d := s.d) hinj (by rw [List.getElem?_map, h1]; rfl) (by rw [List.getElem?_map, h2, h3]; rfl)
  · have := List.all_eq_true.1 hE s (List.mem_of_getElem? hs)
    simpa using this
  · rw [lk_append] at h
    cases hx : lk ((List.range l.length).map fun i => (dAt S i, V i)) t with
    | some y =>
      rw [hx] at h
      cases h
      obtain ⟨j, hj, rfl, rfl⟩ := lk_map (D := V) hx
      have hjl := List.mem_range.1 hj
      have hs' : S[j]? = some (S[j]'(by omega)) := List.getElem?_eq_getElem (by omega)
      have := (h1 j _ hs').1
      unfold dAt
      rw [hs']
      exact this
    | none => rw [hx] at h; exact h2.get t v h
  · have : ∀ L : List Nat, (L.flatMap (lacks (Array.replicate l.length false))).length ≤ L.length := by
      intro L
      induction L with
      | nil => simp
      | cons j L ih =>
        rw [List.flatMap_cons, List.length_append, List.length_cons]
        unfold lacks
        split <;> simp only [List.length_nil, List.length_cons] <;> unfold lacks at ih <;> omega
    have h2 := this (List.range l.length)
    rw [List.length_range] at h2
    simpa using h2
  · intro i s hs h
    exfalso
    rcases Nat.lt_or_ge i l.length with h2 | h2 <;> simp [Array.getD, h2] at h
  · intro i s hs h
    exfalso
    rcases Nat.lt_or_ge i l.length with h2 | h2 <;> simp [Array.getD, h2] at h
  · have e : (List.range l.length).flatMap (up (Array.replicate l.length false) fun _ => []) = [] := by
      rw [List.flatMap_eq_nil_iff]
      intro i _
      unfold up
      split <;> rfl
    rw [List.size_toArray, e]
    exact hS.drawn _
end
end Go.Sk
