/- Regions whose order is open: what is fixed by the text of the region. Plain theorems, no condition. -/
import Derived.Test.YtlamhjlijoampaaGreatDoorXs11
set_option linter.unusedVariables false
set_option linter.unusedSimpArgs false
namespace Go.Xs
open Go.RowKit

def tmpO : Operand → List Nat
  | .tmp t => [t]
  | _ => []
/-- The operands that an operation looks at. -/
def readsOp : Op → List Operand
  | .move x | .assign x | .box _ x | .load _ x | .nilCheck x | .unOp _ _ x | .convert _ _ x | .makeInterface _ x | .fieldAddr _ x _ | .field _ x _ | .range _ x | .next x _ | .entry x | .typeAssert x _ _ _ | .extract x _ | .panic x => [x]
  | .pick c x y => [c, x, y]
  | .build _ ⟨ps⟩ => ps.map (·.2)
  | .buildSlice _ _ ⟨ps⟩ => ps.map (·.2)
  | .store _ x y | .binOp _ _ x y _ | .makeSlice _ x y | .indexAddr _ x y | .index _ x y | .lookup _ x y _ | .mapEntry _ x y => [x, y]
  | .makeFunc _ ⟨x⟩ ⟨y⟩ => x ++ y
  | .makeMap _ r => r.toList
  | .slice _ x l h m => x :: (l.toList ++ h.toList ++ m.toList)
  | .mapUpdate _ m k v | .entryStore _ m k v | .insert _ m k v => [m, k, v]
  | .call ⟨.value f, ⟨xs⟩, _⟩ => f :: xs
  | .call ⟨.invoke f _, ⟨xs⟩, _⟩ => f :: xs
  | .call ⟨.builtin _, ⟨xs⟩, _⟩ => xs
  | .defer ⟨.value f, ⟨xs⟩, _⟩ => f :: xs
  | _ => []
def guardT (l0 : List Oper) : Option (Nat × Bool) → List Nat
  | none => []
  | some (j, _) => match l0[j]? with
    | some o => match o.dst with
      | some t => [t]
      | none => []
    | none => []
def readsX (l0 : List Oper) (o : Oper) : List Nat := (readsOp o.op).flatMap tmpO ++ guardT l0 o.guard
/-- The frame, so much of it. -/
def restr (E : Env) : List Nat → Env
  | [] => .lf
  | t :: ts => match E.lk t with
    | some v => (restr E ts).put t v
    | none => restr E ts
theorem restr_ok {E : Env} : ∀ {ts : List Nat} {t : Nat} {v : Value}, (restr E ts).lk t = some v → t ∈ ts ∧ E.lk t = some v
  | [], t, v, h => by simp [restr, Env.lk, Tr.get] at h
  | s :: ts, t, v, h => by
    simp only [restr] at h
    split at h
    · rename_i u hu
      by_cases e : t = s
      · subst e
        rw [Env.lk, Env.put, Tr.get_set] at h
        cases h
        exact ⟨List.mem_cons_self, hu⟩
      · have := restr_ok (Tr.get_set_ne _ _ _ _ _ _ _ _ e h)
        exact ⟨List.mem_cons_of_mem _ this.1, this.2⟩
    · have := restr_ok h
      exact ⟨List.mem_cons_of_mem _ this.1, this.2⟩

/-! ### what waits for what -/
def directs (o : Oper) : List Nat := (o.after.toList.filter (Region.binds .any)).map (·.on)
def maskOf (acc : List Nat) : List Nat → Nat
  | [] => 0
  | d :: ds => (2 ^ d ||| acc.getD d 0) ||| maskOf acc ds
def masks : List Oper → List Nat → List Nat
  | [], acc => acc
  | o :: l, acc => masks l (acc ++ [maskOf acc (directs o)])
theorem maskOf_bit {acc : List Nat} {i : Nat} : ∀ {ds : List Nat}, (maskOf acc ds).testBit i = true → ∃ d ∈ ds, i = d ∨ (acc.getD d 0).testBit i = true
  | [], h => by simp [maskOf] at h
  | d :: ds, h => by
    simp only [maskOf, Nat.testBit_or, Bool.or_eq_true, Nat.testBit_two_pow, decide_eq_true_eq] at h
    rcases h with (h | h) | h
    · exact ⟨d, List.mem_cons_self, .inl h.symm⟩
    · exact ⟨d, List.mem_cons_self, .inr h⟩
    · obtain ⟨d', h1, h2⟩ := maskOf_bit h
      exact ⟨d', List.mem_cons_of_mem _ h1, h2⟩
theorem masks_pre : ∀ (l : List Oper) (acc : List Nat), ∃ M', masks l acc = acc ++ M'
  | [], acc => ⟨[], by simp [masks]⟩
  | o :: l, acc => by
    obtain ⟨M', h⟩ := masks_pre l (acc ++ [maskOf acc (directs o)])
    exact ⟨maskOf acc (directs o) :: M', by rw [masks, h]; simp⟩
/-- i must come up ahead of j. -/
def anc (M : List Nat) (j i : Nat) : Bool := (M.getD j 0).testBit i
theorem masks_ok : ∀ (l done : List Oper) (acc : List Nat), acc.length = done.length →
    (∀ j i, j < acc.length → (acc.getD j 0).testBit i = true → ∃ o, (done ++ l)[j]? = some o ∧ ∃ d ∈ directs o, i = d ∨ (d < j ∧ (acc.getD d 0).testBit i = true)) →
    ∀ j i, anc (masks l acc) j i = true → ∃ o, (done ++ l)[j]? = some o ∧ ∃ d ∈ directs o, i = d ∨ (d < j ∧ anc (masks l acc) d i = true)
  | [], done, acc, hl, h, j, i, hj => by
    simp only [masks, anc] at hj ⊢
    rcases Nat.lt_or_ge j acc.length with hlt | hge
    · exact h j i hlt hj
    · rw [List.getD_eq_getElem?_getD, List.getElem?_eq_none hge] at hj
      simp at hj
  | o :: l, done, acc, hl, h, j, i, hj => by
    have := masks_ok l (done ++ [o]) (acc ++ [maskOf acc (directs o)]) (by simp [hl]) (fun j i hlt hb => by
      simp only [List.append_assoc, List.singleton_append]
      rw [List.length_append, List.length_singleton] at hlt
      have key : ∀ d, d < acc.length → (acc ++ [maskOf acc (directs o)]).getD d 0 = acc.getD d 0 := fun d hd => by
        rw [List.getD_eq_getElem?_getD, List.getD_eq_getElem?_getD, List.getElem?_append_left hd]
      by_cases e : j < acc.length
      · rw [key j e] at hb
        obtain ⟨o', h1, d, h2, h3⟩ := h j i e hb
        refine ⟨o', h1, d, h2, h3.imp id fun ⟨q1, q2⟩ => ⟨q1, by rw [key d (by omega)]; exact q2⟩⟩
      · have ej : j = acc.length := by omega
        subst ej
        rw [List.getD_eq_getElem?_getD, List.getElem?_append_right (Nat.le_refl _)] at hb
        simp only [Nat.sub_self, List.getElem?_cons_zero, Option.getD_some] at hb
        refine ⟨o, by rw [hl]; simp, ?_⟩
        obtain ⟨d, h1, h2⟩ := maskOf_bit hb
        refine ⟨d, h1, h2.imp id fun q => ?_⟩
        rcases Nat.lt_or_ge d acc.length with hlt' | hge
        · exact ⟨hlt', by rw [key d hlt']; exact q⟩
        · rw [List.getD_eq_getElem?_getD, List.getElem?_eq_none hge] at q
          simp at q) j i (by simpa only [masks] using hj)
    simpa only [masks, List.append_assoc, List.singleton_append] using this
theorem anc_ok {l : List Oper} {j i : Nat} (h : anc (masks l []) j i = true) : ∃ o, l[j]? = some o ∧ ∃ d ∈ directs o, i = d ∨ (d < j ∧ anc (masks l []) d i = true) := by
  simpa using masks_ok l [] [] rfl (fun j i hj => by simp at hj) j i h
/-- What has come up, all that it waits for has come up. -/
def Clos (l : List Oper) (ls : Array Bool) : Prop := ∀ j o, l[j]? = some o → ls.getD j false = true → ∀ d ∈ directs o, ls.getD d false = true
theorem anc_listed {l : List Oper} {ls : Array Bool} (hc : Clos l ls) : ∀ (j i : Nat), ls.getD j false = true → anc (masks l []) j i = true → ls.getD i false = true := by
  intro j
  induction j using Nat.strongRecOn with
  | _ j ih =>
    intro i hj h
    obtain ⟨o, ho, d, hd, h2⟩ := anc_ok h
    have hdl := hc j o ho hj d hd
    rcases h2 with rfl | ⟨hlt, h2⟩
    · exact hdl
    · exact ih d hlt i hdl h2
theorem anc_ready {l : List Oper} {ls : Array Bool} (hc : Clos l ls) {j i : Nat} {o : Oper} (ho : l[j]? = some o) (hd : ∀ d ∈ directs o, ls.getD d false = true) (h : anc (masks l []) j i = true) : ls.getD i false = true := by
  obtain ⟨o', ho', d, hd', h2⟩ := anc_ok h
  rw [ho] at ho'
  cases ho'
  rcases h2 with rfl | ⟨_, h2⟩
  · exact hd _ hd'
  · exact anc_listed hc d i (hd d hd') h2
theorem ready_spec {l : List Oper} {ls : Array Bool} {i : Nat} (h : i ∈ Region.ready .any l.toArray ls) : ∃ o, l[i]? = some o ∧ ls.getD i true = false ∧ ∀ d ∈ directs o, ls.getD d false = true := by
  obtain ⟨h1, o, ho, hall⟩ := mem_ready.1 h
  refine ⟨o, by simpa using ho, h1, fun d hd => ?_⟩
  unfold directs at hd
  rw [List.mem_map] at hd
  obtain ⟨e, he, rfl⟩ := hd
  rw [List.mem_filter] at he
  exact hall e (by simpa using he.1) he.2
theorem Clos.set {l : List Oper} {ls : Array Bool} {i : Nat} {o : Oper} (h : Clos l ls) (ho : l[i]? = some o) (hd : ∀ d ∈ directs o, ls.getD d false = true) : Clos l (ls.setIfInBounds i true) := by
  intro j oj hj hl d hd'
  by_cases hij : i = j
  · subst hij
    rw [ho] at hj
    cases hj
    exact getD_set_true (hd d hd')
  · rw [getD_set_ne false hij] at hl
    exact getD_set_true (h j oj hj hl d hd')
end Go.Xs
