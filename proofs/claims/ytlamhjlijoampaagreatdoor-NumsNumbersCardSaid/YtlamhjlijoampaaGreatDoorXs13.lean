/- Regions whose order is open: the operations in the order of the text, and that any other order comes to the same. Plain theorems, no condition. -/
import Derived.Test.YtlamhjlijoampaaGreatDoorXs12
set_option linter.unusedVariables false
set_option linter.unusedSimpArgs false
namespace Go.Xs
open Go.RowKit

structure Step where
  E : Env
  er : Env
  v : Value
  h : Hp
  h' : Hp
inductive Can where
  | fin (ss : List Step) (E : Env) (h : Hp)
  | pan (ss : List Step) (v : Value) (h : Hp)
  | no (why : List Nat)
def Can.cons (s : Step) : Can → Can
  | .fin ss E h => .fin (s :: ss) E h
  | .pan ss v h => .pan (s :: ss) v h
  | .no t => .no t
inductive StepR where
  | go (v : Value) (h : Hp)
  | pan (v : Value) (h : Hp)
  | no (why : List Nat)
def step1 (C : Ctx) (call : Nat → List Value → Hp → FR) (l0 : List Oper) (o : Oper) (er : Env) (h : Hp) : StepR := match wtX l0 er o.guard with
  | none => .no [1]
  | some false => .go undef h
  | some true => bif effB o.op then match xop C er h o with
      | some (.val v h') => .go v h'
      | some (.unit h') => .go undef h'
      | some (.pan v) => .pan v h
      | some (.call f args) => match call f args h with
        | .ret v h' => .go v h'
        | .pan v h' => .pan v h'
        | .no t => .no t
      | _ => .no (2 :: sayO C er o.op.operands.toList)
    else match xq C er h o with
      | some v => .go v h
      | none => .no (3 :: sayO C er o.op.operands.toList)
def canon (C : Ctx) (n : Nat) (call : Nat → List Value → Hp → FR) (l0 : List Oper) : Nat → List Oper → Env → Hp → Can
  | _, [], E, h => .fin [] E h
  | i, o :: rest, E, h => match step1 C call l0 o (restr E (readsX l0 o)) h with
    | .no t => .no (i :: t)
    | .pan v h' => .pan [] v h'
    | .go v h' => match putX n E o.dst v with
      | none => .no [i, 9]
      | some E' => (canon C n call l0 (i + 1) rest E' h').cons ⟨E, restr E (readsX l0 o), v, h, h'⟩
/-- The steps follow one another. -/
inductive Lnk (C : Ctx) (n : Nat) (call : Nat → List Value → Hp → FR) (l0 : List Oper) : List Oper → List Step → Env → Hp → Env → Hp → Prop
  | nil {l : List Oper} {E : Env} {h : Hp} : Lnk C n call l0 l [] E h E h
  | cons {o : Oper} {l : List Oper} {ss : List Step} {E E' Ef : Env} {h h' hf : Hp} {v : Value} : step1 C call l0 o (restr E (readsX l0 o)) h = .go v h' → putX n E o.dst v = some E' → Lnk C n call l0 l ss E' h' Ef hf →
      Lnk C n call l0 (o :: l) (⟨E, restr E (readsX l0 o), v, h, h'⟩ :: ss) E h Ef hf
section
variable {C : Ctx} {n : Nat} {call : Nat → List Value → Hp → FR} {l0 : List Oper}
theorem canon_fin : ∀ {l : List Oper} {i : Nat} {E Ef : Env} {h hf : Hp} {ss : List Step}, canon C n call l0 i l E h = .fin ss Ef hf → Lnk C n call l0 l ss E h Ef hf ∧ ss.length = l.length
  | [], i, E, Ef, h, hf, ss, hx => by simp only [canon, Can.fin.injEq] at hx; obtain ⟨rfl, rfl, rfl⟩ := hx; exact ⟨.nil, rfl⟩
  | o :: l, i, E, Ef, h, hf, ss, hx => by
    simp only [canon] at hx
    split at hx
    · cases hx
    · cases hx
    · rename_i v h' hs
      split at hx
      · cases hx
      · rename_i E' hp
        cases hr : canon C n call l0 (i + 1) l E' h' with
        | fin ss' Ef' hf' =>
          rw [hr] at hx
          simp only [Can.cons, Can.fin.injEq] at hx
          obtain ⟨rfl, rfl, rfl⟩ := hx
          obtain ⟨h1, h2⟩ := canon_fin hr
          exact ⟨.cons hs hp h1, by simp [h2]⟩
        | pan ss' v' h'' => rw [hr] at hx; cases hx
        | no t => rw [hr] at hx; cases hx
theorem canon_pan : ∀ {l : List Oper} {i : Nat} {E : Env} {h hf : Hp} {ss : List Step} {v : Value}, canon C n call l0 i l E h = .pan ss v hf →
    ∃ Em hm o, Lnk C n call l0 l ss E h Em hm ∧ l[ss.length]? = some o ∧ step1 C call l0 o (restr Em (readsX l0 o)) hm = .pan v hf
  | [], i, E, h, hf, ss, v, hx => by simp [canon] at hx
  | o :: l, i, E, h, hf, ss, v, hx => by
    simp only [canon] at hx
    split at hx
    · cases hx
    · rename_i v' h' hs
      cases hx
      exact ⟨E, h, o, .nil, rfl, hs⟩
    · rename_i v' h' hs
      split at hx
      · cases hx
      · rename_i E' hp
        cases hr : canon C n call l0 (i + 1) l E' h' with
        | fin ss' Ef' hf' => rw [hr] at hx; cases hx
        | pan ss' v'' h'' =>
          rw [hr] at hx
          simp only [Can.cons, Can.pan.injEq] at hx
          obtain ⟨rfl, rfl, rfl⟩ := hx
          obtain ⟨Em, hm, o', h1, h2, h3⟩ := canon_pan hr
          exact ⟨Em, hm, o', .cons hs hp h1, h2, h3⟩
        | no t => rw [hr] at hx; cases hx

/-- the heap ahead of an operation -/
def hAt (h : Hp) : List Step → Nat → Hp
  | _, 0 => h
  | [], _ + 1 => h
  | s :: ss, i + 1 => hAt s.h' ss i
def cnt : List Oper → Nat → Nat
  | o :: l, i + 1 => (bif effB o.op then 1 else 0) + cnt l i
  | _, _ => 0
def fmX : List Oper → List Step → List Hp
  | o :: l, s :: ss => bif effB o.op then s.h' :: fmX l ss else fmX l ss
  | _, _ => []
theorem step1_quiet {o : Oper} {er : Env} {h h' : Hp} {v : Value} (hx : step1 C call l0 o er h = .go v h') (he : effB o.op = false) : h' = h := by
  unfold step1 at hx
  split at hx
  · cases hx
  · cases hx; rfl
  · rw [he] at hx
    simp only [cond_false] at hx
    split at hx
    · cases hx; rfl
    · cases hx
theorem Lnk.hl {l : List Oper} {ss : List Step} {E Ef : Env} {h hf : Hp} (H : Lnk C n call l0 l ss E h Ef hf) : ∀ i, i ≤ ss.length → (h :: fmX l ss)[cnt l i]? = some (hAt h ss i) := by
  induction H with
  | nil => intro i hi; simp only [List.length_nil, Nat.le_zero] at hi; subst hi; simp [cnt, hAt]
  | @cons o l ss E E' Ef h h' hf v hs hp hr ih =>
    intro i hi
    cases i with
    | zero => simp [cnt, hAt]
    | succ i =>
      have := ih i (by simpa using hi)
      simp only [cnt, fmX, hAt]
      cases he : effB o.op with
      | true => simp only [cond_true]; rw [show 1 + cnt l i = cnt l i + 1 by omega, List.getElem?_cons_succ]; exact this
      | false => simp only [cond_false, Nat.zero_add]; rw [step1_quiet hs he] at this; rw [step1_quiet hs he]; exact this
theorem Lnk.hf {l : List Oper} {ss : List Step} {E Ef : Env} {h hf : Hp} (H : Lnk C n call l0 l ss E h Ef hf) : hAt h ss ss.length = hf := by
  induction H with
  | nil => rfl
  | cons hs hp hr ih => exact ih
theorem Lnk.at {l : List Oper} {ss : List Step} {E Ef : Env} {h hf : Hp} (H : Lnk C n call l0 l ss E h Ef hf) : ∀ i s, ss[i]? = some s → ∃ o, l[i]? = some o ∧ step1 C call l0 o s.er s.h = .go s.v s.h' ∧ (∃ E', putX n s.E o.dst s.v = some E') ∧ s.er = restr s.E (readsX l0 o) ∧ s.h = hAt h ss i ∧ s.h' = hAt h ss (i + 1) := by
  induction H with
  | nil => intro i s hs; simp at hs
  | @cons o l ss E E' Ef h h' hf v hs hp hr ih =>
    intro i s hi
    cases i with
    | zero =>
      simp only [List.getElem?_cons_zero, Option.some.injEq] at hi
      subst hi
      exact ⟨o, rfl, hs, ⟨_, hp⟩, rfl, rfl, by cases ss <;> rfl⟩
    | succ i =>
      obtain ⟨o', h1, h2, h3, h4, h5, h6⟩ := ih i s (by simpa using hi)
      exact ⟨o', by simpa using h1, h2, h3, h4, h5, h6⟩
theorem Env.lk_put {E : Env} {t t' : Nat} {v u : Value} (h : (E.put t v).lk t' = some u) : (t' = t ∧ u = v) ∨ (t' ≠ t ∧ E.lk t' = some u) := by
  by_cases e : t' = t
  · subst e
    rw [Env.lk, Env.put, Tr.get_set] at h
    cases h
    exact .inl ⟨rfl, rfl⟩
  · exact .inr ⟨e, Tr.get_set_ne _ _ _ _ _ _ _ _ e h⟩
theorem putX_lk {E E' : Env} {d : Option Tmp} {t : Nat} {v u : Value} (hp : putX n E d v = some E') (h : E'.lk t = some u) : (d = some t ∧ u = v) ∨ (d ≠ some t ∧ E.lk t = some u) := by
  cases d with
  | none => simp only [putX, Option.some.injEq] at hp; subst hp; exact .inr ⟨by simp, h⟩
  | some s =>
    simp only [putX] at hp
    cases hb : Nat.blt s n with
    | false => rw [hb] at hp; cases hp
    | true =>
      rw [hb] at hp
      cases hp
      rcases Env.lk_put h with ⟨rfl, rfl⟩ | ⟨h1, h2⟩
      · exact .inl ⟨rfl, rfl⟩
      · exact .inr ⟨fun e => h1 (by cases e; rfl), h2⟩
/-- Where a slot's value comes from. -/
def From (l : List Oper) (ss : List Step) (E0 : Env) (i t : Nat) (v : Value) : Prop :=
  (∃ j sj oj, j < i ∧ ss[j]? = some sj ∧ l[j]? = some oj ∧ oj.dst = some t ∧ v = sj.v) ∨ ((∀ j oj, j < i → l[j]? = some oj → oj.dst ≠ some t) ∧ E0.lk t = some v)
theorem From.cons {o : Oper} {s : Step} {l : List Oper} {ss : List Step} {E E' : Env} {i t : Nat} {v : Value} (hp : putX n E o.dst s.v = some E') (h : From l ss E' i t v) : From (o :: l) (s :: ss) E (i + 1) t v := by
  rcases h with ⟨j, sj, oj, h1, h2, h3, h4, h5⟩ | ⟨h1, h2⟩
  · exact .inl ⟨j + 1, sj, oj, by omega, by simpa using h2, by simpa using h3, h4, h5⟩
  · rcases putX_lk hp h2 with ⟨h3, rfl⟩ | ⟨h3, h4⟩
    · exact .inl ⟨0, s, o, by omega, rfl, rfl, h3, rfl⟩
    · refine .inr ⟨fun j oj hj ho => ?_, h4⟩
      cases j with
      | zero => simp only [List.getElem?_cons_zero, Option.some.injEq] at ho; subst ho; exact h3
      | succ j => exact h1 j oj (by omega) (by simpa using ho)
theorem Lnk.env {l : List Oper} {ss : List Step} {E Ef : Env} {h hf : Hp} (H : Lnk C n call l0 l ss E h Ef hf) :
    (∀ i s, ss[i]? = some s → ∀ t v, s.E.lk t = some v → From l ss E i t v) ∧ ∀ t v, Ef.lk t = some v → From l ss E ss.length t v := by
  induction H with
  | nil => exact ⟨fun i s hs => by simp at hs, fun t v hv => .inr ⟨fun j oj hj => by simp at hj, hv⟩⟩
  | @cons o l ss E E' Ef h h' hf v hs hp hr ih =>
    refine ⟨fun i s hi t u hu => ?_, fun t u hu => From.cons (s := ⟨E, restr E (readsX l0 o), v, h, h'⟩) hp (ih.2 t u hu)⟩
    cases i with
    | zero =>
      simp only [List.getElem?_cons_zero, Option.some.injEq] at hi
      subst hi
      exact .inr ⟨fun j oj hj => by omega, hu⟩
    | succ i => exact From.cons (s := ⟨E, restr E (readsX l0 o), v, h, h'⟩) hp (ih.1 i s (by simpa using hi) t u hu)
theorem cnt_lt {l : List Oper} : ∀ {i j : Nat} {o : Oper}, i < j → l[i]? = some o → effB o.op = true → cnt l i < cnt l j := by
  induction l with
  | nil => intro i j o _ ho; simp at ho
  | cons o' l ih =>
    intro i j o hij ho he
    cases j with
    | zero => omega
    | succ j =>
      cases i with
      | zero =>
        simp only [List.getElem?_cons_zero, Option.some.injEq] at ho
        subst ho
        simp only [cnt, he, cond_true]
        omega
      | succ i =>
        have := ih (i := i) (j := j) (by omega) (by simpa using ho) he
        simp only [cnt]
        omega
theorem cnt_ex {l : List Oper} : ∀ {i k : Nat}, k < cnt l i → ∃ e o, e < i ∧ l[e]? = some o ∧ effB o.op = true ∧ cnt l e = k := by
  induction l with
  | nil => intro i k h; simp [cnt] at h
  | cons o l ih =>
    intro i k h
    cases i with
    | zero => simp [cnt] at h
    | succ i =>
      simp only [cnt] at h
      cases he : effB o.op with
      | true =>
        rw [he] at h
        simp only [cond_true] at h
        cases k with
        | zero => exact ⟨0, o, by omega, rfl, he, rfl⟩
        | succ k =>
          obtain ⟨e, o', h1, h2, h3, h4⟩ := ih (i := i) (k := k) (by omega)
          exact ⟨e + 1, o', by omega, by simpa using h2, h3, by simp only [cnt, he, cond_true, h4]; omega⟩
      | false =>
        rw [he] at h
        simp only [cond_false, Nat.zero_add] at h
        obtain ⟨e, o', h1, h2, h3, h4⟩ := ih (i := i) (k := k) h
        exact ⟨e + 1, o', by omega, by simpa using h2, h3, by simp only [cnt, he, cond_false, h4]; omega⟩
theorem cnt_mono {l : List Oper} {i j : Nat} (h : i ≤ j) : cnt l i ≤ cnt l j := by
  rcases Nat.lt_or_ge (cnt l j) (cnt l i) with hlt | hge
  · obtain ⟨e, o, h1, h2, h3, h4⟩ := cnt_ex hlt
    have := cnt_lt (i := e) (j := j) (by omega) h2 h3
    omega
  · exact hge
end
end Go.Xs
