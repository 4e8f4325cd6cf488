/- Merged: Xs11, Xs12, Xs13, Xs14, Xw0, Xs15, Xs17, Xs18. -/
import Derived.Test.YtdemnhdoadjhhaaGreatDoorXsB
set_option linter.unusedVariables false
set_option linter.unusedSimpArgs false
section
/- Regions whose order is open, by reckoning: what only looks is looked at in every state in which it may come up; what turns the heap comes in one order. Plain theorems, no condition. -/
namespace Go.Xs
open Go.RowKit

/-- Operations that turn the heap or make memory. -/
def effB : Op → Bool
  | .alloc _ | .box _ _ | .buildSlice _ _ _ | .store _ _ _ | .panic _ | .defer _ | .makeMap _ _ | .makeSlice _ _ _ | .mapUpdate _ _ _ _ | .insert _ _ _ _ | .mapEntry _ _ _ | .entryStore _ _ _ _ | .range _ _ | .next _ _ => true
  | .call ⟨.value _, _, _⟩ => true
  | .call ⟨.invoke _ _, _, _⟩ => true
  | .call ⟨.builtin b, _, _⟩ => !calm b
  | _ => false
/-- Operations that look at the heap. -/
def lookB : Op → Bool
  | .load _ _ | .slice _ _ _ _ _ | .lookup _ _ _ _ | .call _ | .convert _ _ _ | .entry _ => true
  | _ => false
/-- What an operation that only looks yields. -/
def xq (C : Ctx) (E : Env) (h : Hp) (o : Oper) : Option Value := match xval C E h o.op with
  | some v => some v
  | none => match xval2 C E h o.op with
    | some v => some v
    | none => match xval3 C E h o.op with
      | some v => some v
      | none => match xval4 C E h o.op with
        | some v => some v
        | none => match o.op with
          | .build t ⟨parts⟩ => xbuild C E t parts
          | _ => match xpure C E h o with
            | some (.val v _) => some v
            | _ => none
section
variable {B : World} {F : PH} {C : Ctx} {h : Hp} {ρ : Val} {w : World} {n : Nat} {ds : List SDef} {E : Env} {a : Act} {o : Oper}
theorem xpure_same {r : OR} {v : Value} {h' : Hp} (hx : xpure C E h o = some (.val v h')) : h' = h := by
  unfold xpure at hx
  split at hx
  · cases hall : (List.all (α := Operand) ‹_› (evNo C.G E)) with
    | false => rw [hall] at hx; cases hx
    | true =>
      rw [hall] at hx
      simp only [cond_true] at hx
      split at hx
      · rename_i v' hs
        cases hn : noAddr v' with
        | false => rw [hn] at hx; cases hx
        | true => rw [hn] at hx; cases hx; rfl
      · rename_i v' hs
        cases hn : noAddr v' with
        | false => rw [hn] at hx; cases hx
        | true => rw [hn] at hx; cases hx
      · cases hx
  · cases hx
theorem xq_ok (s : SatX B F C.G h ρ w) (hC : C.OK F) (hA : AgrX h.next ρ n ds E a) {v : Value} (hx : xq C E h o = some v) : wfv h.next v = true ∧ (execOp a.eval o).run C.P w = .ok (.value (ren ρ v)) w := by
  unfold xq at hx
  split at hx
  · rename_i v' hv
    cases hx
    exact xval_ok s hC hA hv
  split at hx
  · rename_i v' hv
    cases hx
    exact xval2_ok s hC hA hv
  split at hx
  · rename_i v' hv
    cases hx
    exact xval3_ok s hC hA hv
  split at hx
  · rename_i v' hv
    cases hx
    exact xval4_ok s hA hv
  · split at hx
    · rename_i t parts ho
      obtain ⟨h1, h2⟩ := xbuild_ok s hA hx
      refine ⟨h1, ?_⟩
      unfold execOp
      simp only [ho, Sem.run_bind, h2, Result.andThen_ok, Sem.run_pure]
    · split at hx
      · rename_i v' h' hp
        cases hx
        have := xpure_ok s hA hp
        unfold xpure at hp
        split at hp
        · rename_i l hl
          cases hall : l.all (evNo C.G E) with
          | false => rw [hall] at hp; cases hp
          | true =>
            rw [hall] at hp
            simp only [cond_true] at hp
            split at hp
            · rename_i u hs
              cases hn : noAddr u with
              | false => rw [hn] at hp; cases hp
              | true =>
                rw [hn] at hp
                cases hp
                refine ⟨wfv_mono (Nat.zero_le _) _ hn, ?_⟩
                obtain ⟨ρ', w', h1, h2, h3, h4, h5⟩ := this
                obtain ⟨hsel, hops⟩ := opsOf_ok hl
                have hev : ∀ x ∈ o.op.operands, a.eval x = evD C.G E x := fun x hx' => by
                  have := List.all_eq_true.1 hall x (hops x hx')
                  unfold evNo at this
                  unfold evD
                  split at this
                  · rename_i v hv
                    rw [(hA.ev s.gl s.gn hv).2, ren_id ρ v this]
                  · cases this
                rw [execOp_congr o hsel hev, semP_run hs, ren_id ρ _ hn]
            · rename_i u hs
              cases hn : noAddr u with
              | false => rw [hn] at hp; cases hp
              | true => rw [hn] at hp; cases hp
            · cases hp
        · cases hp
      · cases hx
end

/-! ### equality of values, told by reckoning -/
def eqO : Option Nat → Option Nat → Bool
  | none, none => true
  | some a, some b => Nat.beq a b
  | _, _ => false
theorem eqO_ok {a b : Option Nat} (h : eqO a b = true) : a = b := by
  cases a <;> cases b <;> simp [eqO] at h <;> first | rfl | (subst h; rfl)
def eqA (a b : Addr) : Bool := Nat.beq a.block b.block && Nat.beq a.off b.off && eqO a.spot b.spot
theorem eqA_ok {a b : Addr} (h : eqA a b = true) : a = b := by
  simp only [eqA, Bool.and_eq_true, Nat.beq_eq] at h
  obtain ⟨⟨h1, h2⟩, h3⟩ := h
  have := eqO_ok h3
  cases a; cases b; simp_all
mutual
def eqV : Value → Value → Bool
  | .bool a, .bool b => bif a then b else !b
  | .int j a, .int k b => Nat.beq (j.ctorIdx) (k.ctorIdx) && eqI a b
  | .float j a, .float k b => Nat.beq (j.ctorIdx) (k.ctorIdx) && Nat.beq a b
  | .string a, .string b => eqU a.data.toList b.data.toList
  | .pointer none, .pointer none => true
  | .pointer (some a), .pointer (some b) => eqA a b
  | .slice none n c, .slice none m d => Nat.beq n m && Nat.beq c d
  | .slice (some a) n c, .slice (some b) m d => eqA a b && Nat.beq n m && Nat.beq c d
  | .map a, .map b => eqO a b
  | .nilFunc, .nilFunc => true
  | .nilIface, .nilIface => true
  | .iface t v, .iface u x => Nat.beq t u && eqV v x
  | .agg ⟨a⟩, .agg ⟨b⟩ => eqVs a b
  | .tuple ⟨a⟩, .tuple ⟨b⟩ => eqVs a b
  | .func (.func f) ⟨a⟩ ⟨b⟩, .func (.func g) ⟨c⟩ ⟨d⟩ => Nat.beq f g && eqVs a c && eqVs b d
  | _, _ => false
def eqVs : List Value → List Value → Bool
  | [], [] => true
  | a :: l, b :: m => eqV a b && eqVs l m
  | _, _ => false
end
theorem fk_inj {j k : FloatKind} (h : j.ctorIdx = k.ctorIdx) : j = k := by cases j <;> cases k <;> first | rfl | (simp [FloatKind.ctorIdx] at h)
mutual
theorem eqV_ok : ∀ (a b : Value), eqV a b = true → a = b
  | .bool a, b, h => by cases b <;> simp [eqV] at h; rename_i b; cases a <;> cases b <;> simp at h ⊢
  | .int j a, b, h => by cases b <;> simp [eqV] at h; rw [ik_inj h.1, eqI_ok h.2]
  | .float j a, b, h => by cases b <;> simp [eqV] at h; rw [fk_inj h.1, h.2]
  | .complex _ _ _, b, h => by cases b <;> simp [eqV] at h
  | .string ⟨⟨a⟩⟩, b, h => by cases b <;> simp [eqV] at h; rename_i s; obtain ⟨⟨s⟩⟩ := s; rw [eqU_ok h]
  | .pointer none, b, h => by cases b <;> first | (simp [eqV] at h; done) | (rename_i p; cases p <;> simp [eqV] at h ⊢)
  | .pointer (some a), b, h => by cases b <;> first | (simp [eqV] at h; done) | (rename_i p; cases p <;> simp [eqV] at h; rw [eqA_ok h])
  | .slice none n c, b, h => by cases b <;> first | (simp [eqV] at h; done) | (rename_i p _ _; cases p <;> simp [eqV] at h; rw [h.1, h.2])
  | .slice (some a) n c, b, h => by cases b <;> first | (simp [eqV] at h; done) | (rename_i p _ _; cases p <;> simp [eqV] at h; rw [eqA_ok h.1.1, h.1.2, h.2])
  | .map a, b, h => by cases b <;> simp [eqV] at h; rw [eqO_ok h]
  | .chan _, b, h => by cases b <;> simp [eqV] at h
  | .nilFunc, b, h => by cases b <;> simp [eqV] at h; rfl
  | .nilIface, b, h => by cases b <;> simp [eqV] at h; rfl
  | .iface t v, b, h => by cases b <;> simp [eqV] at h; rw [h.1, eqV_ok v _ h.2]
  | .agg ⟨a⟩, b, h => by cases b <;> simp [eqV] at h; rename_i c; obtain ⟨c⟩ := c; rw [eqVs_ok a c h]
  | .tuple ⟨a⟩, b, h => by cases b <;> simp [eqV] at h; rename_i c; obtain ⟨c⟩ := c; rw [eqVs_ok a c h]
  | .func f ⟨a⟩ ⟨c⟩, b, h => by
    cases b <;> try (cases f <;> simp [eqV] at h; done)
    rename_i g p q
    obtain ⟨p⟩ := p
    obtain ⟨q⟩ := q
    cases f <;> cases g <;> simp [eqV] at h
    rw [h.1.1, eqVs_ok a p h.1.2, eqVs_ok c q h.2]
theorem eqVs_ok : ∀ (a b : List Value), eqVs a b = true → a = b
  | [], [], _ => rfl
  | a :: l, b :: m, h => by simp only [eqVs, Bool.and_eq_true] at h; rw [eqV_ok a b h.1, eqVs_ok l m h.2]
  | [], _ :: _, h => by simp [eqVs] at h
  | _ :: _, [], h => by simp [eqVs] at h
end
end Go.Xs
end
section
/- Regions whose order is open: what is fixed by the text of the region. Plain theorems, no condition. -/
namespace Go.Xs
open Go.RowKit

def tmpO : Operand → List Nat
  | .tmp t => [t]
  | _ => []
/-- The operands that an operation looks at. -/
def readsOp : Op → List Operand
  | .move x | .assign x | .box _ x | .load _ x | .nilCheck x | .unOp _ _ x | .convert _ _ x | .makeInterface _ x | .fieldAddr _ x _ | .field _ x _ | .range _ x | .next x _ | .entry x | .typeAssert x _ _ _ | .extract x _ | .panic x => [x]
  | .pick c x y => [c, x, y]
  | .build _ ⟨ps⟩ => ps.map (·.2)
  | .buildSlice _ _ ⟨ps⟩ => ps.map (·.2)
  | .store _ x y | .binOp _ _ x y _ | .makeSlice _ x y | .indexAddr _ x y | .index _ x y | .lookup _ x y _ | .mapEntry _ x y => [x, y]
  | .makeFunc _ ⟨x⟩ ⟨y⟩ => x ++ y
  | .makeMap _ r => r.toList
  | .slice _ x l h m => x :: (l.toList ++ h.toList ++ m.toList)
  | .mapUpdate _ m k v | .entryStore _ m k v | .insert _ m k v => [m, k, v]
  | .call ⟨.value f, ⟨xs⟩, _⟩ => f :: xs
  | .call ⟨.invoke f _, ⟨xs⟩, _⟩ => f :: xs
  | .call ⟨.builtin _, ⟨xs⟩, _⟩ => xs
  | .defer ⟨.value f, ⟨xs⟩, _⟩ => f :: xs
  | _ => []
def guardT (l0 : List Oper) : Option (Nat × Bool) → List Nat
  | none => []
  | some (j, _) => match l0[j]? with
    | some o => match o.dst with
      | some t => [t]
      | none => []
    | none => []
def readsX (l0 : List Oper) (o : Oper) : List Nat := (readsOp o.op).flatMap tmpO ++ guardT l0 o.guard
/-- The frame, so much of it. -/
def restr (E : Env) : List Nat → Env
  | [] => .lf
  | t :: ts => match E.lk t with
    | some v => (restr E ts).put t v
    | none => restr E ts
theorem restr_ok {E : Env} : ∀ {ts : List Nat} {t : Nat} {v : Value}, (restr E ts).lk t = some v → t ∈ ts ∧ E.lk t = some v
  | [], t, v, h => by simp [restr, Env.lk, Tr.get] at h
  | s :: ts, t, v, h => by
    simp only [restr] at h
    split at h
    · rename_i u hu
      by_cases e : t = s
      · subst e
        rw [Env.lk, Env.put, Tr.get_set] at h
        cases h
        exact ⟨List.mem_cons_self, hu⟩
      · have := restr_ok (Tr.get_set_ne _ _ _ _ _ _ _ _ e h)
        exact ⟨List.mem_cons_of_mem _ this.1, this.2⟩
    · have := restr_ok h
      exact ⟨List.mem_cons_of_mem _ this.1, this.2⟩

/-! ### what waits for what -/
def directs (o : Oper) : List Nat := (o.after.toList.filter (Region.binds .any)).map (·.on)
def maskOf (acc : List Nat) : List Nat → Nat
  | [] => 0
  | d :: ds => (2 ^ d ||| acc.getD d 0) ||| maskOf acc ds
def masks : List Oper → List Nat → List Nat
  | [], acc => acc
  | o :: l, acc => masks l (acc ++ [maskOf acc (directs o)])
theorem maskOf_bit {acc : List Nat} {i : Nat} : ∀ {ds : List Nat}, (maskOf acc ds).testBit i = true → ∃ d ∈ ds, i = d ∨ (acc.getD d 0).testBit i = true
  | [], h => by simp [maskOf] at h
  | d :: ds, h => by
    simp only [maskOf, Nat.testBit_or, Bool.or_eq_true, Nat.testBit_two_pow, decide_eq_true_eq] at h
    rcases h with (h | h) | h
    · exact ⟨d, List.mem_cons_self, .inl h.symm⟩
    · exact ⟨d, List.mem_cons_self, .inr h⟩
    · obtain ⟨d', h1, h2⟩ := maskOf_bit h
      exact ⟨d', List.mem_cons_of_mem _ h1, h2⟩
theorem masks_pre : ∀ (l : List Oper) (acc : List Nat), ∃ M', masks l acc = acc ++ M'
  | [], acc => ⟨[], by simp [masks]⟩
  | o :: l, acc => by
    obtain ⟨M', h⟩ := masks_pre l (acc ++ [maskOf acc (directs o)])
    exact ⟨maskOf acc (directs o) :: M', by rw [masks, h]; simp⟩
/-- i must come up ahead of j. -/
def anc (M : List Nat) (j i : Nat) : Bool := (M.getD j 0).testBit i
theorem masks_ok : ∀ (l done : List Oper) (acc : List Nat), acc.length = done.length →
    (∀ j i, j < acc.length → (acc.getD j 0).testBit i = true → ∃ o, (done ++ l)[j]? = some o ∧ ∃ d ∈ directs o, i = d ∨ (d < j ∧ (acc.getD d 0).testBit i = true)) →
    ∀ j i, anc (masks l acc) j i = true → ∃ o, (done ++ l)[j]? = some o ∧ ∃ d ∈ directs o, i = d ∨ (d < j ∧ anc (masks l acc) d i = true)
  | [], done, acc, hl, h, j, i, hj => by
    simp only [masks, anc] at hj ⊢
    rcases Nat.lt_or_ge j acc.length with hlt | hge
    · exact h j i hlt hj
    · rw [List.getD_eq_getElem?_getD, List.getElem?_eq_none hge] at hj
      simp at hj
  | o :: l, done, acc, hl, h, j, i, hj => by
    have := masks_ok l (done ++ [o]) (acc ++ [maskOf acc (directs o)]) (by simp [hl]) (fun j i hlt hb => by
      simp only [List.append_assoc, List.singleton_append]
      rw [List.length_append, List.length_singleton] at hlt
      have key : ∀ d, d < acc.length → (acc ++ [maskOf acc (directs o)]).getD d 0 = acc.getD d 0 := fun d hd => by
        rw [List.getD_eq_getElem?_getD, List.getD_eq_getElem?_getD, List.getElem?_append_left hd]
      by_cases e : j < acc.length
      · rw [key j e] at hb
        obtain ⟨o', h1, d, h2, h3⟩ := h j i e hb
        refine ⟨o', h1, d, h2, h3.imp id fun ⟨q1, q2⟩ => ⟨q1, by rw [key d (by omega)]; exact q2⟩⟩
      · have ej : j = acc.length := by omega
        subst ej
        rw [List.getD_eq_getElem?_getD, List.getElem?_append_right (Nat.le_refl _)] at hb
        simp only [Nat.sub_self, List.getElem?_cons_zero, Option.getD_some] at hb
        refine ⟨o, by rw [hl]; simp, ?_⟩
        obtain ⟨d, h1, h2⟩ := maskOf_bit hb
        refine ⟨d, h1, h2.imp id fun q => ?_⟩
        rcases Nat.lt_or_ge d acc.length with hlt' | hge
        · exact ⟨hlt', by rw [key d hlt']; exact q⟩
        · rw [List.getD_eq_getElem?_getD, List.getElem?_eq_none hge] at q
          simp at q) j i (by simpa only [masks] using hj)
    simpa only [masks, List.append_assoc, List.singleton_append] using this
theorem anc_ok {l : List Oper} {j i : Nat} (h : anc (masks l []) j i = true) : ∃ o, l[j]? = some o ∧ ∃ d ∈ directs o, i = d ∨ (d < j ∧ anc (masks l []) d i = true) := by
  simpa using masks_ok l [] [] rfl (fun j i hj => by simp at hj) j i h
/-- What has come up, all that it waits for has come up. -/
def Clos (l : List Oper) (ls : Array Bool) : Prop := ∀ j o, l[j]? = some o → ls.getD j false = true → ∀ d ∈ directs o, ls.getD d false = true
theorem anc_listed {l : List Oper} {ls : Array Bool} (hc : Clos l ls) : ∀ (j i : Nat), ls.getD j false = true → anc (masks l []) j i = true → ls.getD i false = true := by
  intro j
  induction j using Nat.strongRecOn with
  | _ j ih =>
    intro i hj h
    obtain ⟨o, ho, d, hd, h2⟩ := anc_ok h
    have hdl := hc j o ho hj d hd
    rcases h2 with rfl | ⟨hlt, h2⟩
    · exact hdl
    · exact ih d hlt i hdl h2
theorem anc_ready {l : List Oper} {ls : Array Bool} (hc : Clos l ls) {j i : Nat} {o : Oper} (ho : l[j]? = some o) (hd : ∀ d ∈ directs o, ls.getD d false = true) (h : anc (masks l []) j i = true) : ls.getD i false = true := by
  obtain ⟨o', ho', d, hd', h2⟩ := anc_ok h
  rw [ho] at ho'
  cases ho'
  rcases h2 with rfl | ⟨_, h2⟩
  · exact hd _ hd'
  · exact anc_listed hc d i (hd d hd') h2
theorem ready_spec {l : List Oper} {ls : Array Bool} {i : Nat} (h : i ∈ Region.ready .any l.toArray ls) : ∃ o, l[i]? = some o ∧ ls.getD i true = false ∧ ∀ d ∈ directs o, ls.getD d false = true := by
  obtain ⟨h1, o, ho, hall⟩ := mem_ready.1 h
  refine ⟨o, by simpa using ho, h1, fun d hd => ?_⟩
  unfold directs at hd
  rw [List.mem_map] at hd
  obtain ⟨e, he, rfl⟩ := hd
  rw [List.mem_filter] at he
  exact hall e (by simpa using he.1) he.2
theorem Clos.set {l : List Oper} {ls : Array Bool} {i : Nat} {o : Oper} (h : Clos l ls) (ho : l[i]? = some o) (hd : ∀ d ∈ directs o, ls.getD d false = true) : Clos l (ls.setIfInBounds i true) := by
  intro j oj hj hl d hd'
  by_cases hij : i = j
  · subst hij
    rw [ho] at hj
    cases hj
    exact getD_set_true (hd d hd')
  · rw [getD_set_ne false hij] at hl
    exact getD_set_true (h j oj hj hl d hd')
end Go.Xs
end
section
/- Regions whose order is open: the operations in the order of the text, and that any other order comes to the same. Plain theorems, no condition. -/
namespace Go.Xs
open Go.RowKit

structure Step where
  E : Env
  er : Env
  v : Value
  h : Hp
  h' : Hp
inductive Can where
  | fin (ss : List Step) (E : Env) (h : Hp)
  | pan (ss : List Step) (v : Value) (h : Hp)
  | no (why : List Nat)
def Can.cons (s : Step) : Can → Can
  | .fin ss E h => .fin (s :: ss) E h
  | .pan ss v h => .pan (s :: ss) v h
  | .no t => .no t
inductive StepR where
  | go (v : Value) (h : Hp)
  | pan (v : Value) (h : Hp)
  | no (why : List Nat)
def step1 (C : Ctx) (call : Nat → List Value → Hp → FR) (l0 : List Oper) (o : Oper) (er : Env) (h : Hp) : StepR := match wtX l0 er o.guard with
  | none => .no [1]
  | some false => .go undef h
  | some true => bif effB o.op then match xop C er h o with
      | some (.val v h') => .go v h'
      | some (.unit h') => .go undef h'
      | some (.pan v) => .pan v h
      | some (.call f args) => match call f args h with
        | .ret v h' => .go v h'
        | .pan v h' => .pan v h'
        | .no t => .no t
      | _ => .no (2 :: sayO C er o.op.operands.toList)
    else match xq C er h o with
      | some v => .go v h
      | none => .no (3 :: sayO C er o.op.operands.toList)
def canon (C : Ctx) (n : Nat) (call : Nat → List Value → Hp → FR) (l0 : List Oper) : Nat → List Oper → Env → Hp → Can
  | _, [], E, h => .fin [] E h
  | i, o :: rest, E, h => match step1 C call l0 o (restr E (readsX l0 o)) h with
    | .no t => .no (i :: t)
    | .pan v h' => .pan [] v h'
    | .go v h' => match putX n E o.dst v with
      | none => .no [i, 9]
      | some E' => (canon C n call l0 (i + 1) rest E' h').cons ⟨E, restr E (readsX l0 o), v, h, h'⟩
/-- The steps follow one another. -/
inductive Lnk (C : Ctx) (n : Nat) (call : Nat → List Value → Hp → FR) (l0 : List Oper) : List Oper → List Step → Env → Hp → Env → Hp → Prop
  | nil {l : List Oper} {E : Env} {h : Hp} : Lnk C n call l0 l [] E h E h
  | cons {o : Oper} {l : List Oper} {ss : List Step} {E E' Ef : Env} {h h' hf : Hp} {v : Value} : step1 C call l0 o (restr E (readsX l0 o)) h = .go v h' → putX n E o.dst v = some E' → Lnk C n call l0 l ss E' h' Ef hf →
      Lnk C n call l0 (o :: l) (⟨E, restr E (readsX l0 o), v, h, h'⟩ :: ss) E h Ef hf
section
variable {C : Ctx} {n : Nat} {call : Nat → List Value → Hp → FR} {l0 : List Oper}
theorem canon_fin : ∀ {l : List Oper} {i : Nat} {E Ef : Env} {h hf : Hp} {ss : List Step}, canon C n call l0 i l E h = .fin ss Ef hf → Lnk C n call l0 l ss E h Ef hf ∧ ss.length = l.length
  | [], i, E, Ef, h, hf, ss, hx => by simp only [canon, Can.fin.injEq] at hx; obtain ⟨rfl, rfl, rfl⟩ := hx; exact ⟨.nil, rfl⟩
  | o :: l, i, E, Ef, h, hf, ss, hx => by
    simp only [canon] at hx
    split at hx
    · cases hx
    · cases hx
    · rename_i v h' hs
      split at hx
      · cases hx
      · rename_i E' hp
        cases hr : canon C n call l0 (i + 1) l E' h' with
        | fin ss' Ef' hf' =>
          rw [hr] at hx
          simp only [Can.cons, Can.fin.injEq] at hx
          obtain ⟨rfl, rfl, rfl⟩ := hx
          obtain ⟨h1, h2⟩ := canon_fin hr
          exact ⟨.cons hs hp h1, by simp [h2]⟩
        | pan ss' v' h'' => rw [hr] at hx; cases hx
        | no t => rw [hr] at hx; cases hx
theorem canon_pan : ∀ {l : List Oper} {i : Nat} {E : Env} {h hf : Hp} {ss : List Step} {v : Value}, canon C n call l0 i l E h = .pan ss v hf →
    ∃ Em hm o, Lnk C n call l0 l ss E h Em hm ∧ l[ss.length]? = some o ∧ step1 C call l0 o (restr Em (readsX l0 o)) hm = .pan v hf
  | [], i, E, h, hf, ss, v, hx => by simp [canon] at hx
  | o :: l, i, E, h, hf, ss, v, hx => by
    simp only [canon] at hx
    split at hx
    · cases hx
    · rename_i v' h' hs
      cases hx
      exact ⟨E, h, o, .nil, rfl, hs⟩
    · rename_i v' h' hs
      split at hx
      · cases hx
      · rename_i E' hp
        cases hr : canon C n call l0 (i + 1) l E' h' with
        | fin ss' Ef' hf' => rw [hr] at hx; cases hx
        | pan ss' v'' h'' =>
          rw [hr] at hx
          simp only [Can.cons, Can.pan.injEq] at hx
          obtain ⟨rfl, rfl, rfl⟩ := hx
          obtain ⟨Em, hm, o', h1, h2, h3⟩ := canon_pan hr
          exact ⟨Em, hm, o', .cons hs hp h1, h2, h3⟩
        | no t => rw [hr] at hx; cases hx

/-- the heap ahead of an operation -/
def hAt (h : Hp) : List Step → Nat → Hp
  | _, 0 => h
  | [], _ + 1 => h
  | s :: ss, i + 1 => hAt s.h' ss i
def cnt : List Oper → Nat → Nat
  | o :: l, i + 1 => (bif effB o.op then 1 else 0) + cnt l i
  | _, _ => 0
def fmX : List Oper → List Step → List Hp
  | o :: l, s :: ss => bif effB o.op then s.h' :: fmX l ss else fmX l ss
  | _, _ => []
theorem step1_quiet {o : Oper} {er : Env} {h h' : Hp} {v : Value} (hx : step1 C call l0 o er h = .go v h') (he : effB o.op = false) : h' = h := by
  unfold step1 at hx
  split at hx
  · cases hx
  · cases hx; rfl
  · rw [he] at hx
    simp only [cond_false] at hx
    split at hx
    · cases hx; rfl
    · cases hx
theorem Lnk.hl {l : List Oper} {ss : List Step} {E Ef : Env} {h hf : Hp} (H : Lnk C n call l0 l ss E h Ef hf) : ∀ i, i ≤ ss.length → (h :: fmX l ss)[cnt l i]? = some (hAt h ss i) := by
  induction H with
  | nil => intro i hi; simp only [List.length_nil, Nat.le_zero] at hi; subst hi; simp [cnt, hAt]
  | @cons o l ss E E' Ef h h' hf v hs hp hr ih =>
    intro i hi
    cases i with
    | zero => simp [cnt, hAt]
    | succ i =>
      have := ih i (by simpa using hi)
      simp only [cnt, fmX, hAt]
      cases he : effB o.op with
      | true => simp only [cond_true]; rw [show 1 + cnt l i = cnt l i + 1 by omega, List.getElem?_cons_succ]; exact this
      | false => simp only [cond_false, Nat.zero_add]; rw [step1_quiet hs he] at this; rw [step1_quiet hs he]; exact this
theorem Lnk.hf {l : List Oper} {ss : List Step} {E Ef : Env} {h hf : Hp} (H : Lnk C n call l0 l ss E h Ef hf) : hAt h ss ss.length = hf := by
  induction H with
  | nil => rfl
  | cons hs hp hr ih => exact ih
theorem Lnk.at {l : List Oper} {ss : List Step} {E Ef : Env} {h hf : Hp} (H : Lnk C n call l0 l ss E h Ef hf) : ∀ i s, ss[i]? = some s → ∃ o, l[i]? = some o ∧ step1 C call l0 o s.er s.h = .go s.v s.h' ∧ (∃ E', putX n s.E o.dst s.v = some E') ∧ s.er = restr s.E (readsX l0 o) ∧ s.h = hAt h ss i ∧ s.h' = hAt h ss (i + 1) := by
  induction H with
  | nil => intro i s hs; simp at hs
  | @cons o l ss E E' Ef h h' hf v hs hp hr ih =>
    intro i s hi
    cases i with
    | zero =>
      simp only [List.getElem?_cons_zero, Option.some.injEq] at hi
      subst hi
      exact ⟨o, rfl, hs, ⟨_, hp⟩, rfl, rfl, by cases ss <;> rfl⟩
    | succ i =>
      obtain ⟨o', h1, h2, h3, h4, h5, h6⟩ := ih i s (by simpa using hi)
      exact ⟨o', by simpa using h1, h2, h3, h4, h5, h6⟩
theorem Env.lk_put {E : Env} {t t' : Nat} {v u : Value} (h : (E.put t v).lk t' = some u) : (t' = t ∧ u = v) ∨ (t' ≠ t ∧ E.lk t' = some u) := by
  by_cases e : t' = t
  · subst e
    rw [Env.lk, Env.put, Tr.get_set] at h
    cases h
    exact .inl ⟨rfl, rfl⟩
  · exact .inr ⟨e, Tr.get_set_ne _ _ _ _ _ _ _ _ e h⟩
theorem putX_lk {E E' : Env} {d : Option Tmp} {t : Nat} {v u : Value} (hp : putX n E d v = some E') (h : E'.lk t = some u) : (d = some t ∧ u = v) ∨ (d ≠ some t ∧ E.lk t = some u) := by
  cases d with
  | none => simp only [putX, Option.some.injEq] at hp; subst hp; exact .inr ⟨by simp, h⟩
  | some s =>
    simp only [putX] at hp
    cases hb : Nat.blt s n with
    | false => rw [hb] at hp; cases hp
    | true =>
      rw [hb] at hp
      cases hp
      rcases Env.lk_put h with ⟨rfl, rfl⟩ | ⟨h1, h2⟩
      · exact .inl ⟨rfl, rfl⟩
      · exact .inr ⟨fun e => h1 (by cases e; rfl), h2⟩
/-- Where a slot's value comes from. -/
def From (l : List Oper) (ss : List Step) (E0 : Env) (i t : Nat) (v : Value) : Prop :=
  (∃ j sj oj, j < i ∧ ss[j]? = some sj ∧ l[j]? = some oj ∧ oj.dst = some t ∧ v = sj.v) ∨ ((∀ j oj, j < i → l[j]? = some oj → oj.dst ≠ some t) ∧ E0.lk t = some v)
theorem From.cons {o : Oper} {s : Step} {l : List Oper} {ss : List Step} {E E' : Env} {i t : Nat} {v : Value} (hp : putX n E o.dst s.v = some E') (h : From l ss E' i t v) : From (o :: l) (s :: ss) E (i + 1) t v := by
  rcases h with ⟨j, sj, oj, h1, h2, h3, h4, h5⟩ | ⟨h1, h2⟩
  · exact .inl ⟨j + 1, sj, oj, by omega, by simpa using h2, by simpa using h3, h4, h5⟩
  · rcases putX_lk hp h2 with ⟨h3, rfl⟩ | ⟨h3, h4⟩
    · exact .inl ⟨0, s, o, by omega, rfl, rfl, h3, rfl⟩
    · refine .inr ⟨fun j oj hj ho => ?_, h4⟩
      cases j with
      | zero => simp only [List.getElem?_cons_zero, Option.some.injEq] at ho; subst ho; exact h3
      | succ j => exact h1 j oj (by omega) (by simpa using ho)
theorem Lnk.env {l : List Oper} {ss : List Step} {E Ef : Env} {h hf : Hp} (H : Lnk C n call l0 l ss E h Ef hf) :
    (∀ i s, ss[i]? = some s → ∀ t v, s.E.lk t = some v → From l ss E i t v) ∧ ∀ t v, Ef.lk t = some v → From l ss E ss.length t v := by
  induction H with
  | nil => exact ⟨fun i s hs => by simp at hs, fun t v hv => .inr ⟨fun j oj hj => by simp at hj, hv⟩⟩
  | @cons o l ss E E' Ef h h' hf v hs hp hr ih =>
    refine ⟨fun i s hi t u hu => ?_, fun t u hu => From.cons (s := ⟨E, restr E (readsX l0 o), v, h, h'⟩) hp (ih.2 t u hu)⟩
    cases i with
    | zero =>
      simp only [List.getElem?_cons_zero, Option.some.injEq] at hi
      subst hi
      exact .inr ⟨fun j oj hj => by omega, hu⟩
    | succ i => exact From.cons (s := ⟨E, restr E (readsX l0 o), v, h, h'⟩) hp (ih.1 i s (by simpa using hi) t u hu)
theorem cnt_lt {l : List Oper} : ∀ {i j : Nat} {o : Oper}, i < j → l[i]? = some o → effB o.op = true → cnt l i < cnt l j := by
  induction l with
  | nil => intro i j o _ ho; simp at ho
  | cons o' l ih =>
    intro i j o hij ho he
    cases j with
    | zero => omega
    | succ j =>
      cases i with
      | zero =>
        simp only [List.getElem?_cons_zero, Option.some.injEq] at ho
        subst ho
        simp only [cnt, he, cond_true]
        omega
      | succ i =>
        have := ih (i := i) (j := j) (by omega) (by simpa using ho) he
        simp only [cnt]
        omega
theorem cnt_ex {l : List Oper} : ∀ {i k : Nat}, k < cnt l i → ∃ e o, e < i ∧ l[e]? = some o ∧ effB o.op = true ∧ cnt l e = k := by
  induction l with
  | nil => intro i k h; simp [cnt] at h
  | cons o l ih =>
    intro i k h
    cases i with
    | zero => simp [cnt] at h
    | succ i =>
      simp only [cnt] at h
      cases he : effB o.op with
      | true =>
        rw [he] at h
        simp only [cond_true] at h
        cases k with
        | zero => exact ⟨0, o, by omega, rfl, he, rfl⟩
        | succ k =>
          obtain ⟨e, o', h1, h2, h3, h4⟩ := ih (i := i) (k := k) (by omega)
          exact ⟨e + 1, o', by omega, by simpa using h2, h3, by simp only [cnt, he, cond_true, h4]; omega⟩
      | false =>
        rw [he] at h
        simp only [cond_false, Nat.zero_add] at h
        obtain ⟨e, o', h1, h2, h3, h4⟩ := ih (i := i) (k := k) h
        exact ⟨e + 1, o', by omega, by simpa using h2, h3, by simp only [cnt, he, cond_false, h4]; omega⟩
theorem cnt_mono {l : List Oper} {i j : Nat} (h : i ≤ j) : cnt l i ≤ cnt l j := by
  rcases Nat.lt_or_ge (cnt l j) (cnt l i) with hlt | hge
  · obtain ⟨e, o, h1, h2, h3, h4⟩ := cnt_ex hlt
    have := cnt_lt (i := e) (j := j) (by omega) h2 h3
    omega
  · exact hge
end
end Go.Xs
end
section
/- Regions whose order is open: the tests, and what such a region comes to. Plain theorems, no condition. -/
namespace Go.Xs
open Go.RowKit

/-- the operations that turn the heap: where, and how many stand ahead -/
def effL : Nat → Nat → List Oper → List (Nat × Nat)
  | _, _, [] => []
  | i, c, o :: l => bif effB o.op then (i, c) :: effL (i + 1) (c + 1) l else effL (i + 1) c l
/-- i may come up behind k of them -/
def okK (M : List Nat) (i k : Nat) : List (Nat × Nat) → Bool
  | [] => true
  | (e, c) :: es => (bif anc M i e then Nat.blt c k else true) && (bif anc M e i then Nat.ble k c else true) && okK M i k es
/-- the slot t is written ahead, or not at all -/
def wrB (M : List Nat) (i t : Nat) : Nat → List Oper → Bool
  | _, [] => true
  | j, o :: l => (match o.dst with
    | some u => bif Nat.beq u t then Nat.blt j i && anc M i j else true
    | none => true) && wrB M i t (j + 1) l
def noDst (t : Nat) : List Oper → Bool
  | [] => true
  | o :: l => (match o.dst with
    | some u => !Nat.beq u t
    | none => true) && noDst t l
def dstB : List Oper → Bool
  | [] => true
  | o :: l => (match o.dst with
    | some u => noDst u l
    | none => true) && dstB l
def rdB (M : List Nat) (l0 : List Oper) : Nat → List Oper → Bool
  | _, [] => true
  | i, o :: l => (readsX l0 o).all (fun t => wrB M i t 0 l0) && (directs o).all (fun d => Nat.blt d i) && rdB M l0 (i + 1) l
/-- these two come in the order of the text -/
def effO (M : List Nat) : List (Nat × Nat) → Bool
  | [] => true
  | (e, _) :: es => es.all (fun x => anc M x.1 e) && effO M es
def statB (l : List Oper) (M : List Nat) : Bool := dstB l && rdB M l 0 l && effO M (effL 0 0 l)
/-- all behind m wait for m -/
def ancB (M : List Nat) (m : Nat) : Nat → Nat → Bool
  | _, 0 => true
  | j, k + 1 => (bif Nat.blt m j then anc M j m else true) && ancB M m (j + 1) k
/-- seen with any of the heaps, it yields the same -/
def chkH (C : Ctx) (M : List Nat) (es : List (Nat × Nat)) (i : Nat) (er : Env) (v : Value) (o : Oper) : Nat → List Hp → Bool
  | _, [] => true
  | k, H :: Hs => (bif okK M i k es then match xq C er H o with
      | some v' => eqV v' v
      | none => false
    else true) && chkH C M es i er v o (k + 1) Hs
def chkS (C : Ctx) (M : List Nat) (es : List (Nat × Nat)) (l0 : List Oper) (Hs : List Hp) : Nat → List Oper → List Step → Bool
  | i, o :: l, s :: ss => (bif lookB o.op && !effB o.op then match wtX l0 s.er o.guard with
      | some true => chkH C M es i s.er s.v o 0 Hs
      | _ => true
    else true) && chkS C M es l0 Hs (i + 1) l ss
  | _, _, _ => true
def delD : List Oper → Env → Env
  | [], E => E
  | o :: l, E => match o.dst with
    | some t => delD l (Tr.del E t)
    | none => delD l E
/-- A region whose order is open. -/
def runOpen (C : Ctx) (n : Nat) (call : Nat → List Value → Hp → FR) (l : List Oper) (E : Env) (ds : List SDef) (h : Hp) : CR :=
  bif statB l (masks l []) then match canon C n call l 0 l E h with
    | .fin ss E' h' => bif chkS C (masks l []) (effL 0 0 l) l (h :: fmX l ss) 0 l ss then .ok .normal E' ds h' else .no [101]
    | .pan ss v h' => bif chkS C (masks l []) (effL 0 0 l) l (h :: fmX l ss) 0 l ss && ancB (masks l []) ss.length 0 l.length then .ok (.pan v) (delD l E) ds h' else .no [102]
    | .no t => .no (103 :: t)
  else .no [104]
end Go.Xs
end
section
/- Regions whose order is open, with effects that do not wait for one another: those that do not are run beside an empty heap. Plain theorems, no condition. -/
namespace Go.Xs
open Go.RowKit

mutual
/-- All names are such. -/
def okv (p : Nat → Bool) : Value → Bool
  | .bool _ | .int _ _ | .float _ _ | .complex _ _ _ | .string _ | .pointer none | .slice none _ _ | .map none | .chan none | .nilFunc | .nilIface => true
  | .pointer (some a) => p a.block
  | .slice (some a) _ _ => p a.block
  | .map (some r) => p r
  | .chan (some _) => false
  | .func (.yield _) _ _ => false
  | .func _ x y => okA p x && okA p y
  | .iface _ v => okv p v
  | .agg x => okA p x
  | .tuple x => okA p x
def okA (p : Nat → Bool) : Array Value → Bool
  | ⟨l⟩ => okL p l
def okL (p : Nat → Bool) : List Value → Bool
  | [] => true
  | v :: l => okv p v && okL p l
end
def oko (p : Nat → Bool) : SObj → Bool
  | .cells l _ | .grow l _ _ | .ro l _ => okL p l
  | .map es _ => es.all fun x => okv p x.key && okv p x.val
  | .strIter _ _ => true
def okT (p : Nat → Bool) : Tr SObj → Bool
  | .lf => true
  | .one _ o => oko p o
  | .nd l r => okT p l && okT p r
/-- All names are at least n. -/
def geT (n : Nat) : Tr SObj → Bool
  | .lf => true
  | .one k _ => Nat.ble n k
  | .nd l r => geT n l && geT n r
theorem okT_get {p : Nat → Bool} : ∀ {t : Tr SObj} {q k : Nat} {o : SObj}, okT p t = true → t.get q k = some o → oko p o = true
  | .lf, _, _, _, _, h => by simp [Tr.get] at h
  | .one k' o', q, k, o, h, hg => by
    simp only [Tr.get] at hg
    cases hb : Nat.beq k' k with
    | false => rw [hb] at hg; cases hg
    | true => rw [hb] at hg; cases hg; exact h
  | .nd l r, q, k, o, h, hg => by
    simp only [okT, Bool.and_eq_true] at h
    simp only [Tr.get] at hg
    cases hb : Nat.beq (q % 2) 0 with
    | false => rw [hb] at hg; exact okT_get h.2 hg
    | true => rw [hb] at hg; exact okT_get h.1 hg
theorem geT_get {n : Nat} : ∀ {t : Tr SObj} {q k : Nat} {o : SObj}, geT n t = true → t.get q k = some o → n ≤ k
  | .lf, _, _, _, _, h => by simp [Tr.get] at h
  | .one k' o', q, k, o, h, hg => by
    simp only [Tr.get] at hg
    cases hb : Nat.beq k' k with
    | false => rw [hb] at hg; cases hg
    | true => rw [Nat.beq_eq] at hb; subst hb; simpa [geT] using h
  | .nd l r, q, k, o, h, hg => by
    simp only [geT, Bool.and_eq_true] at h
    simp only [Tr.get] at hg
    cases hb : Nat.beq (q % 2) 0 with
    | false => rw [hb] at hg; exact geT_get h.2 hg
    | true => rw [hb] at hg; exact geT_get h.1 hg
def Tr.mrg {α : Type} : Tr α → Tr α → Tr α
  | .lf, t => t
  | .nd l r, .nd l' r' => .nd (l.mrg l') (r.mrg r')
  | t, _ => t
theorem Tr.get_mrg {α : Type} : ∀ {a b : Tr α} {p key : Nat} {o : α}, (a.mrg b).get p key = some o → a.get p key = some o ∨ b.get p key = some o
  | .lf, _, _, _, _, h => .inr (by simpa [Tr.mrg] using h)
  | .one _ _, _, _, _, _, h => .inl (by simpa [Tr.mrg] using h)
  | .nd _ _, .lf, _, _, _, h => .inl (by simpa [Tr.mrg] using h)
  | .nd _ _, .one _ _, _, _, _, h => .inl (by simpa [Tr.mrg] using h)
  | .nd l r, .nd l' r', p, key, o, h => by
    simp only [Tr.mrg, Tr.get] at h ⊢
    cases hb : Nat.beq (p % 2) 0 with
    | false => rw [hb] at h; exact Tr.get_mrg h
    | true => rw [hb] at h; exact Tr.get_mrg h
def Hp.mrg (h d : Hp) : Hp := ⟨h.t.mrg d.t, d.next⟩
theorem Hp.get_mrg {h d : Hp} {nm : Nat} {o : SObj} (hg : (h.mrg d).get nm = some o) : h.get nm = some o ∨ d.get nm = some o := Tr.get_mrg hg
abbrev Hp.mt (n : Nat) : Hp := ⟨.lf, n⟩

mutual
theorem ren_okv {p : Nat → Bool} {ρ ρ' : Val} (h : ∀ k, p k = true → ρ'.b k = ρ.b k ∧ ρ'.c k = ρ.c k) : ∀ (v : Value), okv p v = true → ren ρ' v = ren ρ v
  | .bool _ | .int _ _ | .float _ _ | .complex _ _ _ | .string _ | .pointer none | .slice none _ _ | .map none | .chan none | .nilFunc | .nilIface => by simp [ren]
  | .pointer (some a) => by
    simp only [okv, ren]; intro ha; rw [(h _ ha).1]
  | .slice (some ⟨b, off, none⟩) _ _ => by
    simp only [okv, ren, capOf]; intro ha; rw [(h _ ha).1, (h _ ha).2]
  | .slice (some ⟨b, off, some d⟩) _ _ => by
    simp only [okv, ren, capOf]; intro ha; rw [(h _ ha).1, (h _ ha).2]
  | .map (some r) => by
    simp only [okv, ren]; intro ha; rw [(h _ ha).1]
  | .chan (some _) => by simp [okv]
  | .func fn ⟨x⟩ ⟨y⟩ => by
    intro hw
    have : okL p x = true ∧ okL p y = true := by cases fn <;> simp [okv, okA] at hw <;> exact hw
    simp only [ren, renA, renL_okv h x this.1, renL_okv h y this.2]
  | .iface _ v => by simp only [okv, ren]; intro hw; rw [ren_okv h v hw]
  | .agg ⟨x⟩ => by simp only [okv, okA, ren, renA]; intro hw; rw [renL_okv h x hw]
  | .tuple ⟨x⟩ => by simp only [okv, okA, ren, renA]; intro hw; rw [renL_okv h x hw]
theorem renL_okv {p : Nat → Bool} {ρ ρ' : Val} (h : ∀ k, p k = true → ρ'.b k = ρ.b k ∧ ρ'.c k = ρ.c k) : ∀ (l : List Value), okL p l = true → renL ρ' l = renL ρ l
  | [] => by simp [renL]
  | v :: l => by simp only [okL, Bool.and_eq_true, renL]; intro hw; rw [ren_okv h v hw.1, renL_okv h l hw.2]
end
mutual
theorem okv_wfv {p : Nat → Bool} {n : Nat} (h : ∀ k, p k = true → k < n) : ∀ (v : Value), okv p v = true → wfv n v = true
  | .bool _ | .int _ _ | .float _ _ | .complex _ _ _ | .string _ | .pointer none | .slice none _ _ | .map none | .chan none | .nilFunc | .nilIface => by simp [wfv]
  | .pointer (some a) => by simp only [okv, wfv, Nat.blt_eq]; exact h _
  | .slice (some a) _ _ => by simp only [okv, wfv, Nat.blt_eq]; exact h _
  | .map (some r) => by simp only [okv, wfv, Nat.blt_eq]; exact h _
  | .chan (some _) => by simp [okv]
  | .func fn ⟨x⟩ ⟨y⟩ => by
    cases fn <;> simp only [okv, okA, wfv, wfA, Bool.and_eq_true] <;> first | exact fun ⟨a, b⟩ => ⟨okL_wfL h x a, okL_wfL h y b⟩ | simp
  | .iface _ v => by simp only [okv, wfv]; exact okv_wfv h v
  | .agg ⟨x⟩ => by simp only [okv, okA, wfv, wfA]; exact okL_wfL h x
  | .tuple ⟨x⟩ => by simp only [okv, okA, wfv, wfA]; exact okL_wfL h x
theorem okL_wfL {p : Nat → Bool} {n : Nat} (h : ∀ k, p k = true → k < n) : ∀ (l : List Value), okL p l = true → wfL n l = true
  | [] => by simp [wfL]
  | v :: l => by simp only [okL, wfL, Bool.and_eq_true]; exact fun ⟨a, b⟩ => ⟨okv_wfv h v a, okL_wfL h l b⟩
end
theorem is_okv {p : Nat → Bool} {ρ ρ' : Val} (h : ∀ k, p k = true → ρ'.b k = ρ.b k ∧ ρ'.c k = ρ.c k) {nm : Nat} (hn : ρ'.c nm = ρ.c nm) : ∀ {o : SObj} {ob : Obj}, oko p o = true → o.is ρ nm ob → o.is ρ' nm ob
  | .cells l e, ob, hw, hi => by simp only [SObj.is, renL_okv h l hw] at hi ⊢; exact hi
  | .grow l e sz, ob, hw, hi => by simp only [SObj.is, renL_okv h l hw, hn] at hi ⊢; exact hi
  | .ro l e, ob, hw, hi => by simp only [SObj.is, renL_okv h l hw] at hi ⊢; exact hi
  | .map es ck, ob, hw, hi => by
    simp only [SObj.is] at hi ⊢
    rw [hi]
    congr 2
    refine List.map_congr_left fun x hx => ?_
    simp only [oko, List.all_eq_true, Bool.and_eq_true] at hw
    simp only [renE, ren_okv h _ (hw x hx).1, ren_okv h _ (hw x hx).2]
  | .strIter _ _, _, _, hi => hi

/-! ### the reckoning -/
/-- the i-th operation turns the heap and does not wait for all that do so ahead of it -/
def flB (M : List Nat) (l : List Oper) (i : Nat) : Bool := match l[i]? with
  | some o => effB o.op && !((effL 0 0 l).all fun x => bif Nat.blt x.1 i then anc M i x.1 else true)
  | none => false
def canonF (C : Ctx) (n : Nat) (call : Nat → List Value → Hp → FR) (l0 : List Oper) (fl : Nat → Bool) : Nat → List Oper → Env → Hp → Can
  | _, [], E, h => .fin [] E h
  | i, o :: rest, E, h => match step1 C call l0 o (restr E (readsX l0 o)) (bif fl i then .mt h.next else h) with
    | .no t => .no (i :: t)
    | .pan _ _ => .no [i, 108]
    | .go v d => match putX n E o.dst v with
      | none => .no [i, 9]
      | some E' => (canonF C n call l0 fl (i + 1) rest E' (bif fl i then h.mrg d else d)).cons ⟨E, restr E (readsX l0 o), v, h, d⟩
/-- what names each step gave -/
def rngs : Nat → List Step → List (Nat × Nat × Nat)
  | _, [] => []
  | i, s :: ss => bif Nat.beq s.h.next s.h'.next then rngs (i + 1) ss else (i, s.h.next, s.h'.next) :: rngs (i + 1) ss
def inR (M : List Nat) (j nm : Nat) : List (Nat × Nat × Nat) → Bool
  | [] => false
  | (e, lo, hi) :: l => ((Nat.beq e j || anc M j e) && Nat.ble lo nm && Nat.blt nm hi) || inR M j nm l
/-- the names that the j-th step may know -/
def pB (M : List Nat) (rs : List (Nat × Nat × Nat)) (n0 j nm : Nat) : Bool := Nat.blt nm n0 || inR M j nm rs
def hAtF (hf : Hp) (ss : List Step) (i : Nat) : Hp := match ss[i]? with
  | some s => s.h
  | none => hf
/-- with what came up ahead of the i-th step, beside the chain up to b -/
def kT (M : List Nat) (fl : Nat → Bool) (i b : Nat) : Nat → List Step → Tr SObj → Tr SObj
  | _, [], t => t
  | j, s :: ss, t => kT M fl i b (j + 1) ss (bif fl j && Nat.ble b j && anc M i j then t.mrg s.h'.t else t)
def okB (M : List Nat) (i b : Nat) : List Nat → Bool
  | [] => true
  | e :: es => (bif anc M i e then Nat.blt e b else true) && (bif anc M e i then Nat.ble b e else true) && okB M i b es
def chsB (fl : Nat → Bool) (l : List Oper) : List Nat := ((effL 0 0 l).map (·.1)).filter fun e => !fl e
def bsB (fl : Nat → Bool) (l : List Oper) : List Nat := 0 :: (chsB fl l).map (· + 1)
def chkL (C : Ctx) (M : List Nat) (fl : Nat → Bool) (chs : List Nat) (hf : Hp) (ss : List Step) (i : Nat) (er : Env) (v : Value) (o : Oper) : List Nat → Bool
  | [] => true
  | b :: bs => (bif okB M i b chs then match xq C er ⟨kT M fl i b 0 ss (hAtF hf ss b).t, hf.next⟩ o with
      | some v' => eqV v' v
      | none => false
    else true) && chkL C M fl chs hf ss i er v o bs
def chkF (C : Ctx) (M : List Nat) (fl : Nat → Bool) (l0 : List Oper) (n0 : Nat) (rs : List (Nat × Nat × Nat)) (hf : Hp) (ss0 : List Step) : Nat → List Oper → List Step → Bool
  | i, o :: l, s :: ss => Nat.ble s.h.next s.h'.next && okv (pB M rs n0 i) s.v && (bif fl i then geT s.h.next s.h'.t && okT (pB M rs n0 i) s.h'.t else true) &&
      (bif lookB o.op && !effB o.op then match wtX l0 s.er o.guard with
        | some true => chkL C M fl (chsB fl l0) hf ss0 i s.er s.v o (bsB fl l0)
        | _ => true
      else true) && chkF C M fl l0 n0 rs hf ss0 (i + 1) l ss
  | _, _, _ => true
/-- A region whose order is open, no panic in it. -/
def runOpenF (C : Ctx) (n : Nat) (call : Nat → List Value → Hp → FR) (l : List Oper) (E : Env) (ds : List SDef) (h : Hp) : CR :=
  bif dstB l && rdB (masks l []) l 0 l then match canonF C n call l (flB (masks l []) l) 0 l E h with
    | .fin ss E' h' => bif chkF C (masks l []) (flB (masks l []) l) l h.next (rngs 0 ss) h' ss 0 l ss then .ok .normal E' ds h' else .no [105]
    | .pan _ _ _ => .no [106]
    | .no t => .no (107 :: t)
  else .no [104]
/-- A region whose order is open. -/
def runAny (C : Ctx) (n : Nat) (call : Nat → List Value → Hp → FR) (l : List Oper) (E : Env) (ds : List SDef) (h : Hp) : CR :=
  bif statB l (masks l []) then runOpen C n call l E ds h else runOpenF C n call l E ds h
end Go.Xs
end
section
/- Regions whose order is open: every order comes to what the order of the text comes to. Plain theorems, no condition. -/
namespace Go.Xs
open Go.RowKit

theorem effL_ok : ∀ {l : List Oper} {i c e k : Nat}, (e, k) ∈ effL i c l → ∃ o, l[e - i]? = some o ∧ effB o.op = true ∧ i ≤ e ∧ k = c + cnt l (e - i)
  | [], i, c, e, k, h => by simp [effL] at h
  | o :: l, i, c, e, k, h => by
    simp only [effL] at h
    cases he : effB o.op with
    | true =>
      rw [he] at h
      simp only [cond_true, List.mem_cons, Prod.mk.injEq] at h
      rcases h with ⟨rfl, rfl⟩ | h
      · exact ⟨o, by simp, he, Nat.le_refl _, by simp [cnt]⟩
      · obtain ⟨o', h1, h2, h3, h4⟩ := effL_ok h
        obtain ⟨d, rfl⟩ : ∃ d, e = i + 1 + d := ⟨e - (i + 1), by omega⟩
        rw [show i + 1 + d - (i + 1) = d by omega] at h1 h4
        refine ⟨o', by rw [show i + 1 + d - i = d + 1 by omega]; simpa using h1, h2, by omega, ?_⟩
        rw [show i + 1 + d - i = d + 1 by omega]
        simp only [cnt, he, cond_true]
        omega
    | false =>
      rw [he] at h
      simp only [cond_false] at h
      obtain ⟨o', h1, h2, h3, h4⟩ := effL_ok h
      obtain ⟨d, rfl⟩ : ∃ d, e = i + 1 + d := ⟨e - (i + 1), by omega⟩
      rw [show i + 1 + d - (i + 1) = d by omega] at h1 h4
      refine ⟨o', by rw [show i + 1 + d - i = d + 1 by omega]; simpa using h1, h2, by omega, ?_⟩
      rw [show i + 1 + d - i = d + 1 by omega]
      simp only [cnt, he, cond_false]
      omega
theorem effL_mem : ∀ {l : List Oper} {i c e : Nat} {o : Oper}, l[e]? = some o → effB o.op = true → ∃ k, (i + e, k) ∈ effL i c l
  | [], i, c, e, o, h, _ => by simp at h
  | o' :: l, i, c, 0, o, h, he => by
    simp only [List.getElem?_cons_zero, Option.some.injEq] at h
    subst h
    exact ⟨c, by simp [effL, he]⟩
  | o' :: l, i, c, e + 1, o, h, he => by
    simp only [effL]
    have h' : l[e]? = some o := by simpa using h
    cases effB o'.op with
    | true =>
      obtain ⟨k, hk⟩ := effL_mem (i := i + 1) (c := c + 1) h' he
      exact ⟨k, List.mem_cons_of_mem _ (by rw [show i + (e + 1) = i + 1 + e by omega]; exact hk)⟩
    | false =>
      obtain ⟨k, hk⟩ := effL_mem (i := i + 1) (c := c) h' he
      exact ⟨k, by rw [show i + (e + 1) = i + 1 + e by omega]; exact hk⟩
theorem okK_of {M : List Nat} {i k : Nat} : ∀ {es : List (Nat × Nat)}, (∀ e c, (e, c) ∈ es → (anc M i e = true → c < k) ∧ (anc M e i = true → k ≤ c)) → okK M i k es = true
  | [], _ => rfl
  | (e, c) :: es, h => by
    have h1 := h e c List.mem_cons_self
    have h2 := okK_of (M := M) (i := i) (k := k) (es := es) fun e' c' h' => h e' c' (List.mem_cons_of_mem _ h')
    simp only [okK, h2, Bool.and_true, Bool.and_eq_true]
    constructor
    · cases ha : anc M i e with
      | true => simpa [Nat.blt_eq] using h1.1 ha
      | false => rfl
    · cases ha : anc M e i with
      | true => simpa [Nat.ble_eq] using h1.2 ha
      | false => rfl
theorem wrB_spec {M : List Nat} {i t : Nat} : ∀ {l : List Oper} {j0 : Nat}, wrB M i t j0 l = true → ∀ j o, l[j]? = some o → o.dst = some t → j0 + j < i ∧ anc M i (j0 + j) = true
  | [], j0, _, j, o, ho, _ => by simp at ho
  | o' :: l, j0, h, j, o, ho, hd => by
    simp only [wrB, Bool.and_eq_true] at h
    cases j with
    | zero =>
      simp only [List.getElem?_cons_zero, Option.some.injEq] at ho
      subst ho
      simpa [hd, Nat.blt_eq] using h.1
    | succ j =>
      have := wrB_spec h.2 j o (by simpa using ho) hd
      rw [show j0 + (j + 1) = j0 + 1 + j by omega]
      exact this
theorem noDst_spec {t : Nat} : ∀ {l : List Oper}, noDst t l = true → ∀ o ∈ l, o.dst ≠ some t
  | [], _, o, ho => by simp at ho
  | o' :: l, h, o, ho => by
    simp only [noDst, Bool.and_eq_true] at h
    rcases List.mem_cons.1 ho with rfl | ho
    · intro e
      simp [e] at h
    · exact noDst_spec h.2 o ho
theorem dstB_spec : ∀ {l : List Oper}, dstB l = true → ∀ (i j : Nat) (o o' : Oper) (t : Nat), l[i]? = some o → l[j]? = some o' → o.dst = some t → o'.dst = some t → i = j
  | [], _, i, j, o, o', t, h, _, _, _ => by simp at h
  | x :: l, h, i, j, o, o', t, hi, hj, ho, ho' => by
    simp only [dstB, Bool.and_eq_true] at h
    have key : ∀ (k : Nat) (y : Oper), l[k]? = some y → x.dst = some t → y.dst ≠ some t := fun k y hy hx => by
      have h1 := h.1
      simp only [hx] at h1
      exact noDst_spec h1 y (List.mem_of_getElem? hy)
    cases i with
    | zero =>
      simp only [List.getElem?_cons_zero, Option.some.injEq] at hi
      subst hi
      cases j with
      | zero => rfl
      | succ j => exact absurd ho' (key j o' (by simpa using hj) ho)
    | succ i =>
      cases j with
      | zero =>
        simp only [List.getElem?_cons_zero, Option.some.injEq] at hj
        subst hj
        exact absurd ho (key i o (by simpa using hi) ho')
      | succ j => exact congrArg (· + 1) (dstB_spec h.2 i j o o' t (by simpa using hi) (by simpa using hj) ho ho')
theorem rdB_spec {M : List Nat} {l0 : List Oper} : ∀ {l : List Oper} {i0 : Nat}, rdB M l0 i0 l = true → ∀ i o, l[i]? = some o →
    (∀ t ∈ readsX l0 o, ∀ j o', l0[j]? = some o' → o'.dst = some t → j < i0 + i ∧ anc M (i0 + i) j = true) ∧ ∀ d ∈ directs o, d < i0 + i
  | [], i0, _, i, o, ho => by simp at ho
  | x :: l, i0, h, i, o, ho => by
    simp only [rdB, Bool.and_eq_true, List.all_eq_true, Nat.blt_eq] at h
    cases i with
    | zero =>
      simp only [List.getElem?_cons_zero, Option.some.injEq] at ho
      subst ho
      refine ⟨fun t ht j o' hj hd => ?_, fun d hd => by simpa using h.1.2 d hd⟩
      simpa using wrB_spec (h.1.1 t ht) j o' hj hd
    | succ i =>
      have := rdB_spec h.2 i o (by simpa using ho)
      rw [show i0 + (i + 1) = i0 + 1 + i by omega]
      exact this
theorem effO_spec {M : List Nat} : ∀ {l : List Oper} {i0 c0 : Nat}, effO M (effL i0 c0 l) = true → ∀ e e' o o', e < e' → l[e]? = some o → l[e']? = some o' → effB o.op = true → effB o'.op = true → anc M (i0 + e') (i0 + e) = true
  | [], i0, c0, _, e, e', o, o', _, h, _, _, _ => by simp at h
  | x :: l, i0, c0, h, e, e', o, o', hlt, he, he', hb, hb' => by
    obtain ⟨d, rfl⟩ : ∃ d, e' = d + 1 := ⟨e' - 1, by omega⟩
    simp only [effL] at h
    cases e with
    | zero =>
      simp only [List.getElem?_cons_zero, Option.some.injEq] at he
      subst he
      rw [hb] at h
      simp only [cond_true, effO, Bool.and_eq_true, List.all_eq_true] at h
      obtain ⟨k, hk⟩ := effL_mem (i := i0 + 1) (c := c0 + 1) (show l[d]? = some o' by simpa using he') hb'
      have := h.1 _ hk
      rw [show i0 + (d + 1) = i0 + 1 + d by omega]
      exact this
    | succ e =>
      have : ∀ c, effO M (effL (i0 + 1) c l) = true → anc M (i0 + (d + 1)) (i0 + (e + 1)) = true := fun c hc => by
        have := effO_spec hc e d o o' (by omega) (by simpa using he) (by simpa using he') hb hb'
        rw [show i0 + (d + 1) = i0 + 1 + d by omega, show i0 + (e + 1) = i0 + 1 + e by omega]
        exact this
      cases hx : effB x.op with
      | true =>
        rw [hx] at h
        simp only [cond_true, effO, Bool.and_eq_true] at h
        exact this _ h.2
      | false =>
        rw [hx] at h
        exact this _ h
theorem ancB_spec {M : List Nat} {m : Nat} : ∀ {k j0 : Nat}, ancB M m j0 k = true → ∀ j, j0 ≤ j → j < j0 + k → m < j → anc M j m = true
  | 0, j0, _, j, h1, h2, _ => by omega
  | k + 1, j0, h, j, h1, h2, hm => by
    simp only [ancB, Bool.and_eq_true] at h
    by_cases e : j = j0
    · subst e
      have h1 := h.1
      rw [show Nat.blt m j = true from by simpa [Nat.blt_eq] using hm] at h1
      exact h1
    · exact ancB_spec h.2 j (by omega) (by omega) hm
theorem chkH_spec {C : Ctx} {M : List Nat} {es : List (Nat × Nat)} {i : Nat} {er : Env} {v : Value} {o : Oper} : ∀ {Hs : List Hp} {k : Nat}, chkH C M es i er v o k Hs = true → ∀ j H, Hs[j]? = some H → okK M i (k + j) es = true → xq C er H o = some v
  | [], k, _, j, H, hj, _ => by simp at hj
  | H0 :: Hs, k, h, j, H, hj, hk => by
    simp only [chkH, Bool.and_eq_true] at h
    cases j with
    | zero =>
      simp only [List.getElem?_cons_zero, Option.some.injEq] at hj
      subst hj
      rw [Nat.add_zero] at hk
      have h1 := h.1
      rw [hk] at h1
      simp only [cond_true] at h1
      split at h1
      · rename_i v' hv
        rw [hv, eqV_ok v' v h1]
      · cases h1
    | succ j => exact chkH_spec h.2 j H (by simpa using hj) (by rw [show k + 1 + j = k + (j + 1) by omega]; exact hk)
theorem chkS_spec {C : Ctx} {M : List Nat} {es : List (Nat × Nat)} {l0 : List Oper} {Hs : List Hp} : ∀ {l : List Oper} {ss : List Step} {i0 : Nat}, chkS C M es l0 Hs i0 l ss = true → ∀ i o s, l[i]? = some o → ss[i]? = some s → lookB o.op = true → effB o.op = false →
    wtX l0 s.er o.guard = some true → chkH C M es (i0 + i) s.er s.v o 0 Hs = true
  | [], ss, i0, _, i, o, s, ho, _, _, _, _ => by simp at ho
  | o' :: l, [], i0, _, i, o, s, _, hs, _, _, _ => by simp at hs
  | o' :: l, s' :: ss, i0, h, i, o, s, ho, hs, hl, he, hw => by
    simp only [chkS, Bool.and_eq_true] at h
    cases i with
    | zero =>
      simp only [List.getElem?_cons_zero, Option.some.injEq] at ho hs
      subst ho
      subst hs
      simpa [hl, he, hw] using h.1
    | succ i =>
      have := chkS_spec h.2 i o s (by simpa using ho) (by simpa using hs) hl he hw
      rw [show i0 + (i + 1) = i0 + 1 + i by omega]
      exact this
theorem cnt_succ : ∀ {l : List Oper} {i : Nat} {o : Oper}, l[i]? = some o → effB o.op = true → cnt l (i + 1) = cnt l i + 1
  | [], i, o, h, _ => by simp at h
  | o' :: l, 0, o, h, he => by
    simp only [List.getElem?_cons_zero, Option.some.injEq] at h
    subst h
    cases l <;> simp [cnt, he]
  | o' :: l, i + 1, o, h, he => by
    have := cnt_succ (l := l) (i := i) (by simpa using h) he
    simp only [cnt] at this ⊢
    omega
theorem countP_lt {p q : Nat → Bool} (h : ∀ x, p x = true → q x = true) {x : Nat} (hq : q x = true) (hp : p x = false) : ∀ {l : List Nat}, x ∈ l → l.countP p < l.countP q
  | [], hx => by simp at hx
  | y :: l, hx => by
    have hm : l.countP p ≤ l.countP q := List.countP_mono_left fun z _ hz => h z hz
    rw [List.countP_cons, List.countP_cons]
    rcases List.mem_cons.1 hx with rfl | hx
    · simp only [hq, hp, if_true, Bool.false_eq_true, if_false]; omega
    · have := countP_lt h hq hp hx
      have hy := h y
      cases hpy : p y <;> cases hqy : q y <;> simp_all <;> omega
theorem xq_still {C : Ctx} {E : Env} {h h' : Hp} {o : Oper} (hl : lookB o.op = false) : xq C E h o = xq C E h' o := by
  have h1 : xval C E h o.op = xval C E h' o.op := by
    cases hop : o.op <;> rw [hop] at hl <;> simp [lookB] at hl <;> unfold xval <;> first
      | rfl
      | (rename_i bop _ _ _ _; cases bop <;> rfl)
      | (rename_i fn x y; cases fn <;> rfl)
  have h2 : (match xpure C E h o with | some (.val v _) => some v | _ => none) = (match xpure C E h' o with | some (.val v _) => some v | _ => none) := by
    unfold xpure
    cases opsOf o.op with
    | none => rfl
    | some l =>
      simp only
      cases l.all (evNo C.G E) with
      | false => rfl
      | true =>
        simp only [cond_true]
        cases semP C.P (execOp (evD C.G E) o) with
        | none => rfl
        | some r => cases r with
          | inl v => simp only
          | inr nx => cases nx <;> first | rfl | (rename_i v; simp only; cases noAddr v <;> rfl)
  have h3 : xval2 C E h o.op = xval2 C E h' o.op := by
    cases hop : o.op <;> rw [hop] at hl <;> simp [lookB] at hl <;> rfl
  have h4 : xval3 C E h o.op = xval3 C E h' o.op := by
    cases hop : o.op <;> rw [hop] at hl <;> simp [lookB] at hl <;> rfl
  unfold xq
  have h5 : xval4 C E h o.op = xval4 C E h' o.op := by
    cases hop : o.op <;> rw [hop] at hl <;> simp [lookB] at hl <;> rfl
  rw [h1, h3, h4, h5]
  split
  · rfl
  · split
    · rfl
    · split
      · rfl
      · split
        · rfl
        · split
          · rfl
          · exact h2
/-- What holds in the midst of such a region. -/
structure Inv (B : World) (F : PH) (C : Ctx) (n : Nat) (l : List Oper) (ds : List SDef) (ss : List Step) (E0 : Env) (h0 : Hp) (ρ0 : Val) (ls : Array Bool) (a : Act) (w : World) (ρ : Val) (k : Nat) (H : Hp) : Prop where
  size : ls.size = l.length
  clos : Clos l ls
  top : ∀ i, ls.getD i false = true → i < ss.length
  eff : ∀ e o, l[e]? = some o → effB o.op = true → e < ss.length → (ls.getD e false = true ↔ cnt l e < k)
  kle : k ≤ cnt l ss.length
  hp : (h0 :: fmX l ss)[k]? = some H
  sat : SatX B F C.G H ρ w
  ext : Ext h0.next ρ0 ρ
  nx : h0.next ≤ H.next
  tsize : a.tmps.size = n
  tdef : a.defers = ds.map (renD ρ)
  twf : ∀ d ∈ ds, wfL H.next d.cap = true ∧ wfL H.next d.args = true
  s1 : ∀ j s o t, ls.getD j false = true → ss[j]? = some s → l[j]? = some o → o.dst = some t → wfv H.next s.v = true ∧ a.tmps[t]? = some (ren ρ s.v)
  s0 : ∀ t v, (∀ j o, ls.getD j false = true → l[j]? = some o → o.dst ≠ some t) → E0.lk t = some v → wfv H.next v = true ∧ a.tmps[t]? = some (ren ρ v)
theorem getD_self {ls : Array Bool} {i : Nat} (h : i < ls.size) : (ls.setIfInBounds i true).getD i false = true := by
  simp [Array.getD_eq_getD_getElem?, h]
section
variable {B : World} {F : PH} {C : Ctx} {n : Nat} {l : List Oper} {ds : List SDef} {ss : List Step} {E0 : Env} {h0 : Hp} {ρ0 : Val} {ls : Array Bool} {a : Act} {w : World} {ρ : Val} {k : Nat} {H : Hp}
theorem Inv.agr (I : Inv B F C n l ds ss E0 h0 ρ0 ls a w ρ k H) {i : Nat} {o : Oper} (ho : l[i]? = some o) (hi : i ≤ ss.length) (hd : ∀ d ∈ directs o, ls.getD d false = true)
    (hrd : ∀ t ∈ readsX l o, ∀ j o', l[j]? = some o' → o'.dst = some t → j < i ∧ anc (masks l []) i j = true) {EE : Env} (hE : ∀ t v, EE.lk t = some v → From l ss E0 i t v) : AgrX H.next ρ n ds (restr EE (readsX l o)) a := by
  refine ⟨I.tsize, I.tdef, I.twf, fun t v hv => ?_⟩
  obtain ⟨ht, hv⟩ := restr_ok hv
  rcases hE t v hv with ⟨j, sj, oj, h1, h2, h3, h4, rfl⟩ | ⟨h1, h2⟩
  · exact I.s1 j sj oj t (anc_ready I.clos ho hd (hrd t ht j oj h3 h4).2) h2 h3 h4
  · exact I.s0 t v (fun j oj _ hj hdj => h1 j oj (hrd t ht j oj hj hdj).1 hj hdj) h2
theorem Inv.atEff {call : Nat → List Value → Hp → FR} {Ef : Env} {hf : Hp} (I : Inv B F C n l ds ss E0 h0 ρ0 ls a w ρ k H) (L : Lnk C n call l l ss E0 h0 Ef hf)
    (hO : ∀ e e' o o', e < e' → l[e]? = some o → l[e']? = some o' → effB o.op = true → effB o'.op = true → anc (masks l []) e' e = true)
    {i : Nat} {o : Oper} (ho : l[i]? = some o) (hi : i ≤ ss.length) (hu : ls.getD i false = false) (hd : ∀ d ∈ directs o, ls.getD d false = true) (he : effB o.op = true) : k = cnt l i ∧ H = hAt h0 ss i := by
  have hk : k = cnt l i := by
    rcases Nat.lt_trichotomy k (cnt l i) with hlt | heq | hgt
    · obtain ⟨e, o', h1, h2, h3, h4⟩ := cnt_ex hlt
      have hl := anc_ready I.clos ho hd (hO e i o' o h1 h2 ho h3 he)
      have := (I.eff e o' h2 h3 (by omega)).1 hl
      omega
    · exact heq
    · rcases Nat.lt_or_ge i ss.length with him | him
      · have := (I.eff i o ho he him).2 hgt
        rw [hu] at this
        cases this
      · have : i = ss.length := by omega
        subst this
        have := I.kle
        omega
  refine ⟨hk, ?_⟩
  have h1 := I.hp
  rw [hk, L.hl i hi] at h1
  exact (Option.some.inj h1).symm
theorem Inv.step (I : Inv B F C n l ds ss E0 h0 ρ0 ls a w ρ k H) (hdst : ∀ (i j : Nat) (o o' : Oper) (t : Nat), l[i]? = some o → l[j]? = some o' → o.dst = some t → o'.dst = some t → i = j)
    {i : Nat} {o : Oper} {s : Step} (ho : l[i]? = some o) (hs : ss[i]? = some s) (hd : ∀ d ∈ directs o, ls.getD d false = true) {ρ' : Val} {k' : Nat} {H' : Hp} {w' : World} {E' E'' : Env} (hp : putX n E'' o.dst s.v = some E')
    (he : Ext H.next ρ ρ') (hn : H.next ≤ H'.next) (hs' : SatX B F C.G H' ρ' w') (hv : wfv H'.next s.v = true) (hk : k' ≤ cnt l ss.length) (hH : (h0 :: fmX l ss)[k']? = some H')
    (heff : ∀ e o, l[e]? = some o → effB o.op = true → e < ss.length → ((ls.setIfInBounds i true).getD e false = true ↔ cnt l e < k')) :
    Inv B F C n l ds ss E0 h0 ρ0 (ls.setIfInBounds i true) (a.put o.dst (ren ρ' s.v)) w' ρ' k' H' := by
  have him : i < ss.length := (List.getElem?_eq_some_iff.1 hs).1
  have hil : i < l.length := (List.getElem?_eq_some_iff.1 ho).1
  have same : ∀ t, o.dst ≠ some t → (a.put o.dst (ren ρ' s.v)).tmps[t]? = a.tmps[t]? := fun t ht => by
    cases hdd : o.dst with
    | none => rfl
    | some u =>
      rw [hdd] at ht
      simp only [Act.put]
      exact Array.getElem?_setIfInBounds_ne fun e => ht (by rw [e])
  refine ⟨by simp [I.size], I.clos.set ho hd, fun j hj => ?_, heff, hk, hH, hs', I.ext.trans he I.nx, Nat.le_trans I.nx hn, ?_, ?_, fun d hd' => ⟨wfL_mono hn _ (I.twf d hd').1, wfL_mono hn _ (I.twf d hd').2⟩, fun j sj oj t hj hsj hoj ht => ?_, fun t v hno hv0 => ?_⟩
  · by_cases e : i = j
    · subst e; exact him
    · rw [getD_set_ne false e] at hj; exact I.top j hj
  · cases hdd : o.dst <;> simp [Act.put, I.tsize]
  · have : (a.put o.dst (ren ρ' s.v)).defers = a.defers := by cases o.dst <;> rfl
    rw [this, I.tdef]
    refine List.map_congr_left fun d hd' => ?_
    simp only [renD, renL_ext he _ (I.twf d hd').1, renL_ext he _ (I.twf d hd').2]
  · by_cases e : i = j
    · subst e
      rw [hs] at hsj
      cases hsj
      rw [ho] at hoj
      cases hoj
      refine ⟨hv, ?_⟩
      rw [ht] at hp ⊢
      simp only [putX] at hp
      cases hb : Nat.blt t n with
      | false => rw [hb] at hp; cases hp
      | true =>
        rw [Nat.blt_eq] at hb
        simp [Act.put, I.tsize, hb]
    · rw [getD_set_ne false e] at hj
      obtain ⟨h1, h2⟩ := I.s1 j sj oj t hj hsj hoj ht
      refine ⟨wfv_mono hn _ h1, ?_⟩
      rw [same t (fun e' => e (hdst i j o oj t ho hoj e' ht)), h2, ren_ext he _ h1]
  · have hne : o.dst ≠ some t := hno i o (getD_self (by rw [I.size]; exact hil)) ho
    obtain ⟨h1, h2⟩ := I.s0 t v (fun j oj hj hoj => hno j oj (getD_set_true hj) hoj) hv0
    exact ⟨wfv_mono hn _ h1, by rw [same t hne, h2, ren_ext he _ h1]⟩
end
end Go.Xs
end
section
/- Regions whose order is open: the proof over all orders. Plain theorems, no condition. -/
namespace Go.Xs
open Go.RowKit
section
variable {B : World} {F : PH} {C : Ctx} {n : Nat} {l : List Oper} {ds : List SDef} {ss : List Step} {E0 Ef : Env} {h0 hf' : Hp} {ρ0 : Val} {call : Nat → List Value → Hp → FR}
theorem all_listed {ls : Array Bool} (hsz : ls.size = l.length) (hd : ∀ i o, l[i]? = some o → ∀ d ∈ directs o, d < i) (hr : Region.ready .any l.toArray ls = []) : ∀ i, i < l.length → ls.getD i false = true := by
  intro i
  induction i using Nat.strongRecOn with
  | _ i ih =>
    intro hi
    cases hl : ls.getD i false with
    | true => rfl
    | false =>
      exfalso
      obtain ⟨o, ho⟩ : ∃ o, l[i]? = some o := ⟨l[i], List.getElem?_eq_getElem hi⟩
      have hls : i < ls.size := by omega
      have : i ∈ Region.ready .any l.toArray ls := by
        refine mem_ready.2 ⟨?_, o, by simpa using ho, fun e he hb => ?_⟩
        · rw [Array.getD_eq_getD_getElem?, Array.getElem?_eq_getElem hls] at hl ⊢
          simpa using hl
        · have hm : e.on ∈ directs o := by
            unfold directs
            exact List.mem_map.2 ⟨e, List.mem_filter.2 ⟨by simpa using he, hb⟩, rfl⟩
          have hlt := hd i o ho _ hm
          exact ih _ hlt (by omega)
      rw [hr] at this
      cases this
theorem open_any (hC : C.OK F) (hf : C.FOK) (hcall : CallOK B F C call) (hst : statB l (masks l []) = true) (L : Lnk C n call l l ss E0 h0 Ef hf')
    (hck : chkS C (masks l []) (effL 0 0 l) l (h0 :: fmX l ss) 0 l ss = true) (hanc : ∀ j, ss.length < j → j < l.length → anc (masks l []) j ss.length = true) (hsl : ss.length ≤ l.length) {Q : Exit → Act → World → Prop}
    (hQn : ss.length = l.length → ∀ ls a w ρ k H, Inv B F C n l ds ss E0 h0 ρ0 ls a w ρ k H → (∀ i, i < l.length → ls.getD i false = true) → Q .normal a w)
    (hQp : ∀ o, l[ss.length]? = some o → ∀ ls a w ρ k H, Inv B F C n l ds ss E0 h0 ρ0 ls a w ρ k H → ls.getD ss.length false = false → (∀ d ∈ directs o, ls.getD d false = true) → Region.wanted o (yielded l.toArray a.tmps) = true ∧ ∀ K, o.wp C.P a w K Q) :
    ∀ (fuel : Nat) (ls : Array Bool) (a : Act) (w : World) (ρ : Val) (k : Nat) (H : Hp), Inv B F C n l ds ss E0 h0 ρ0 ls a w ρ k H → (List.range l.length).countP (fun i => !ls.getD i false) ≤ fuel → wpAny C.P .any l.toArray Q fuel ls a w := by
  simp only [statB, Bool.and_eq_true] at hst
  obtain ⟨⟨hdst, hrd⟩, heo⟩ := hst
  have hdst := dstB_spec hdst
  have hrd : ∀ i o, l[i]? = some o → (∀ t ∈ readsX l o, ∀ j o', l[j]? = some o' → o'.dst = some t → j < i ∧ anc (masks l []) i j = true) ∧ ∀ d ∈ directs o, d < i := fun i o ho => by
    simpa only [Nat.zero_add] using rdB_spec hrd i o ho
  have heo : ∀ e e' o o', e < e' → l[e]? = some o → l[e']? = some o' → effB o.op = true → effB o'.op = true → anc (masks l []) e' e = true := fun e e' o o' h1 h2 h3 h4 h5 => by
    simpa only [Nat.zero_add] using effO_spec heo e e' o o' h1 h2 h3 h4 h5
  have hall : ∀ ls : Array Bool, (List.range l.length).countP (fun i => !ls.getD i false) ≤ 0 → ∀ i, i < l.length → ls.getD i false = true := fun ls h i hi => by
    have := List.countP_eq_zero.1 (Nat.le_zero.1 h) i (List.mem_range.2 hi)
    simpa using this
  have hend : ∀ ls a w ρ k H, Inv B F C n l ds ss E0 h0 ρ0 ls a w ρ k H → (∀ i, i < l.length → ls.getD i false = true) → Q .normal a w := fun ls a w ρ k H I h => by
    refine hQn (Nat.le_antisymm hsl ?_) ls a w ρ k H I h
    rcases Nat.lt_or_ge ss.length l.length with hlt | hge
    · exact absurd (I.top _ (h _ hlt)) (Nat.lt_irrefl _)
    · exact hge
  intro fuel
  induction fuel with
  | zero =>
    intro ls a w ρ k H I hc
    have hl := hall ls hc
    refine ⟨?_, hend ls a w ρ k H I hl⟩
    refine List.eq_nil_iff_forall_not_mem.2 fun i hi => ?_
    obtain ⟨o, ho, hu, _⟩ := ready_spec hi
    have hil := (List.getElem?_eq_some_iff.1 ho).1
    have h1 := hl i hil
    have hls : i < ls.size := by rw [I.size]; exact hil
    rw [Array.getD_eq_getD_getElem?, Array.getElem?_eq_getElem hls] at hu h1
    simp only [Option.getD_some] at hu h1
    rw [hu] at h1
    cases h1
  | succ fuel ih =>
    intro ls a w ρ k H I hc
    refine ⟨fun hr => hend ls a w ρ k H I (all_listed I.size (fun i o ho => (hrd i o ho).2) hr), fun i hi => ?_⟩
    obtain ⟨o, ho, hu, hd⟩ := ready_spec hi
    have hil := (List.getElem?_eq_some_iff.1 ho).1
    have hls : i < ls.size := by rw [I.size]; exact hil
    have hu' : ls.getD i false = false := by
      rw [Array.getD_eq_getD_getElem?, Array.getElem?_eq_getElem hls] at hu ⊢
      simpa using hu
    have hdec : (List.range l.length).countP (fun j => !(ls.setIfInBounds i true).getD j false) ≤ fuel := by
      have := countP_lt (p := fun j => !(ls.setIfInBounds i true).getD j false) (q := fun j => !ls.getD j false) (x := i) (fun j hj => by
        by_cases e : i = j
        · subst e
          rw [getD_self hls] at hj
          cases hj
        · rw [getD_set_ne false e] at hj
          exact hj) (by rw [hu']; rfl) (by rw [getD_self hls]; rfl) (List.mem_range.2 hil)
      omega
    have hoA : l.toArray[i]? = some o := by simpa using ho
    unfold wpOp
    rw [hoA]
    simp only
    rcases Nat.lt_trichotomy i ss.length with him | him | him
    · obtain ⟨s, hs⟩ : ∃ s, ss[i]? = some s := ⟨ss[i], List.getElem?_eq_getElem him⟩
      obtain ⟨o', ho', h1, ⟨E', hput⟩, her, hsh, hsh'⟩ := L.at i s hs
      rw [ho] at ho'
      cases ho'
      have A : AgrX H.next ρ n ds s.er a := by
        rw [her]
        exact I.agr ho (by omega) hd (hrd i o ho).1 (L.env.1 i s hs)
      have hEff := fun he => I.atEff L heo ho (by omega) hu' hd he
      -- what is listed with an operation that turns the heap
      have nEff : effB o.op = true → ∀ e oe, l[e]? = some oe → effB oe.op = true → e < ss.length → ((ls.setIfInBounds i true).getD e false = true ↔ cnt l e < k + 1) := fun he e oe hoe hee hem => by
        obtain ⟨hk, _⟩ := hEff he
        rcases Nat.lt_trichotomy e i with hlt | heq | hgt
        · have := cnt_lt hlt hoe hee
          exact ⟨fun _ => by omega, fun _ => getD_set_true (anc_ready I.clos ho hd (heo e i oe o hlt hoe ho hee he))⟩
        · subst heq
          exact ⟨fun _ => by omega, fun _ => getD_self hls⟩
        · have := cnt_lt hgt ho he
          refine ⟨fun hl => ?_, fun hl => by omega⟩
          rw [getD_set_ne false (by omega)] at hl
          have := anc_listed I.clos e i hl (heo i e o oe hgt ho hoe he hee)
          rw [hu'] at this
          cases this
      have kEff : effB o.op = true → k + 1 ≤ cnt l ss.length ∧ (h0 :: fmX l ss)[k + 1]? = some s.h' := fun he => by
        obtain ⟨hk, _⟩ := hEff he
        have h2 := cnt_succ ho he
        have h3 := cnt_mono (l := l) (i := i + 1) (j := ss.length) (by omega)
        refine ⟨by omega, ?_⟩
        rw [hsh', hk, ← h2]
        exact L.hl (i + 1) (by omega)
      have nQui : effB o.op = false → ∀ e oe, l[e]? = some oe → effB oe.op = true → e < ss.length → ((ls.setIfInBounds i true).getD e false = true ↔ cnt l e < k) := fun he e oe hoe hee hem => by
        have hne : i ≠ e := fun e' => by subst e'; rw [ho] at hoe; cases hoe; rw [he] at hee; cases hee
        rw [getD_set_ne false hne]
        exact I.eff e oe hoe hee hem
      unfold step1 at h1
      cases hw : wtX l s.er o.guard with
      | none => rw [hw] at h1; cases h1
      | some b =>
        rw [wtX_wanted A hw]
        rw [hw] at h1
        cases b with
        | false =>
          simp only [StepR.go.injEq] at h1
          obtain ⟨hv, hh⟩ := h1
          simp only [Bool.false_eq_true, if_false]
          cases he : effB o.op with
          | true =>
            obtain ⟨hk, hH⟩ := hEff he
            have hHs : H = s.h' := by rw [hH, ← hsh, hh]
            have := I.step hdst ho hs hd (ρ' := ρ) (H' := H) (w' := w) hput (Ext.refl _ _) (Nat.le_refl _) I.sat (by rw [← hv]; exact wf_undef _) (kEff he).1 (by rw [hHs]; exact (kEff he).2) (nEff he)
            rw [← hv, ren_undef] at this
            exact ih _ _ _ _ _ _ this hdec
          | false =>
            have := I.step hdst ho hs hd (ρ' := ρ) (H' := H) (w' := w) hput (Ext.refl _ _) (Nat.le_refl _) I.sat (by rw [← hv]; exact wf_undef _) I.kle I.hp (nQui he)
            rw [← hv, ren_undef] at this
            exact ih _ _ _ _ _ _ this hdec
        | true =>
          simp only [if_true]
          simp only at h1
          refine .inl ?_
          unfold Oper.wp
          cases he : effB o.op with
          | true =>
            obtain ⟨hk, hH⟩ := hEff he
            rw [← hsh] at hH
            subst hH
            rw [he] at h1
            simp only [cond_true] at h1
            cases hx : xop C s.er s.h o with
            | none => rw [hx] at h1; cases h1
            | some r =>
              have hr := xop_ok I.sat hC hf A hx
              rw [hx] at h1
              cases r with
              | val v h' =>
                simp only [StepR.go.injEq] at h1
                obtain ⟨rfl, rfl⟩ := h1
                obtain ⟨ρ', w', q1, q2, q3, q4, q5⟩ := hr
                rw [q1]
                exact ih _ _ _ _ _ _ (I.step hdst ho hs hd hput q2 q3 q5 q4 (kEff he).1 (kEff he).2 (nEff he)) hdec
              | unit h' =>
                simp only [StepR.go.injEq] at h1
                obtain ⟨hv, rfl⟩ := h1
                obtain ⟨w', q1, q2, q3⟩ := hr
                rw [q1]
                have := I.step hdst ho hs hd hput (Ext.refl _ _) (Nat.le_of_eq q2.symm) q3 (by rw [← hv]; exact wf_undef _) (kEff he).1 (kEff he).2 (nEff he)
                rw [← hv, ren_undef] at this
                exact ih _ _ _ _ _ _ this hdec
              | pan v => cases h1
              | dfr d => cases h1
              | call f args =>
                obtain ⟨q1, q2⟩ := hr
                rw [q1]
                have hc' : ∀ t, call f args s.h ≠ .no t := fun t e => by simp only [e] at h1; cases h1
                refine (hcall f args s.h ρ w hc' q2 I.sat).mono fun e w' hq => ?_
                simp only at h1
                cases hcr : call f args s.h with
                | no t => exact absurd hcr (hc' t)
                | ret v h' =>
                  rw [hcr] at hq h1
                  simp only [StepR.go.injEq] at h1
                  obtain ⟨rfl, rfl⟩ := h1
                  obtain ⟨ρ', rfl, q2, q3, q4, q5⟩ := hq
                  exact ih _ _ _ _ _ _ (I.step hdst ho hs hd hput q2 q3 q5 q4 (kEff he).1 (kEff he).2 (nEff he)) hdec
                | pan v h' => rw [hcr] at h1; cases h1
          | false =>
            rw [he] at h1
            simp only [cond_false] at h1
            have hx : xq C s.er H o = some s.v := by
              have hx0 : xq C s.er s.h o = some s.v := by
                split at h1
                · rename_i v hv
                  simp only [StepR.go.injEq] at h1
                  rw [← h1.1]
                  exact hv
                · cases h1
              cases hlk : lookB o.op with
              | false => rw [xq_still hlk (h' := s.h)]; exact hx0
              | true =>
                have hch := chkS_spec hck i o s ho hs hlk he hw
                rw [Nat.zero_add] at hch
                refine chkH_spec hch k H I.hp ?_
                rw [Nat.zero_add]
                refine okK_of fun e c hec => ?_
                obtain ⟨oe, q1, q2, _, q4⟩ := effL_ok hec
                simp only [Nat.sub_zero, Nat.zero_add] at q1 q4
                subst q4
                refine ⟨fun ha => ?_, fun ha => ?_⟩
                · have hl := anc_ready I.clos ho hd ha
                  exact (I.eff e oe q1 q2 (I.top e hl)).1 hl
                · rcases Nat.lt_or_ge e ss.length with hem | hem
                  · rcases Nat.lt_or_ge (cnt l e) k with hlt | hge
                    · have := anc_listed I.clos e i ((I.eff e oe q1 q2 hem).2 hlt) ha
                      rw [hu'] at this
                      cases this
                    · exact hge
                  · have := cnt_mono (l := l) hem
                    have := I.kle
                    omega
            obtain ⟨q1, q2⟩ := xq_ok I.sat hC A hx
            rw [q2]
            exact ih _ _ _ _ _ _ (I.step hdst ho hs hd hput (Ext.refl _ _) (Nat.le_refl _) I.sat q1 I.kle I.hp (nQui he)) hdec
    · subst him
      obtain ⟨h1, h2⟩ := hQp o ho ls a w ρ k H I hu' hd
      rw [if_pos h1]
      exact .inl (h2 _)
    · exact absurd (I.top _ (anc_ready I.clos ho hd (hanc i him hil))) (Nat.lt_irrefl _)
end
end Go.Xs
end
section
/- A region whose order is open, whole. Plain theorems, no condition. -/
namespace Go.Xs
open Go.RowKit

theorem delD_ok : ∀ {l : List Oper} {E : Env} {t : Nat} {v : Value}, (delD l E).lk t = some v → (∀ o ∈ l, o.dst ≠ some t) ∧ E.lk t = some v
  | [], E, t, v, h => ⟨fun o ho => by simp at ho, h⟩
  | o :: l, E, t, v, h => by
    simp only [delD] at h
    cases hd : o.dst with
    | none =>
      rw [hd] at h
      have := delD_ok h
      refine ⟨fun o' ho' => ?_, this.2⟩
      rcases List.mem_cons.1 ho' with rfl | ho'
      · rw [hd]; simp
      · exact this.1 o' ho'
    | some u =>
      rw [hd] at h
      obtain ⟨h1, h2⟩ := delD_ok h
      have hne : u ≠ t := fun e => by
        subst e
        rw [Env.lk, Tr.get_del_self] at h2
        cases h2
      refine ⟨fun o' ho' => ?_, Tr.get_del _ _ _ _ _ h2⟩
      rcases List.mem_cons.1 ho' with rfl | ho'
      · rw [hd]; simpa using hne
      · exact h1 o' ho'
section
variable {B : World} {F : PH} {C : Ctx} {n : Nat} {call : Nat → List Value → Hp → FR} {l : List Oper} {ds : List SDef} {E : Env} {h : Hp} {ρ : Val} {a : Act} {w : World}
theorem replFalse (m i : Nat) : (Array.replicate m false).getD i false = false := by
  rw [Array.getD_eq_getD_getElem?, Array.getElem?_replicate]
  split <;> rfl
theorem Inv.start (A : AgrX h.next ρ n ds E a) (s : SatX B F C.G h ρ w) (ss : List Step) : Inv B F C n l ds ss E h ρ (Array.replicate l.length false) a w ρ 0 h := by
  have hf : ∀ i, (Array.replicate l.length false).getD i false = true → False := fun i hi => by rw [replFalse] at hi; cases hi
  exact ⟨by simp, fun j o _ hj => (hf j hj).elim, fun i hi => (hf i hi).elim, fun e o _ _ _ => ⟨fun hi => (hf e hi).elim, fun hk => by omega⟩, Nat.zero_le _, rfl, s, Ext.refl _ _, Nat.le_refl _, A.size, A.defers, A.wfd,
    fun j s o t hj => (hf j hj).elim, fun t v _ hv => A.get t v hv⟩
theorem runOpen_ok (hm : C.P.follows .mixedOrders = true) (hC : C.OK F) (hf : C.FOK) (hcall : CallOK B F C call) {id : Nat} (A : AgrX h.next ρ n ds E a) (s : SatX B F C.G h ρ w) (hno : ∀ t, runOpen C n call l E ds h ≠ .no t) :
    (Code.region id ⟨l⟩ true).wp C.P ((runOpen C n call l E ds h).Q B F C.G ρ h.next n) a w := by
  refine wp_region_any hm ?_
  have hszl : (⟨l⟩ : Array Oper).size = l.length := by simp
  rw [hszl]
  have s' := s.drawn (w.drawn + 1)
  generalize ({ w with drawn := w.drawn + 1 } : World) = w' at s'
  clear s
  have fuel0 : (List.range l.length).countP (fun i => !(Array.replicate l.length false).getD i false) ≤ l.length := by
    refine Nat.le_trans List.countP_le_length ?_
    simp
  unfold runOpen at hno ⊢
  cases hst : statB l (masks l []) with
  | false => rw [hst] at hno; exact absurd rfl (hno _)
  | true =>
    rw [hst] at hno
    simp only [cond_true] at hno ⊢
    have hst' := hst
    simp only [statB, Bool.and_eq_true] at hst'
    obtain ⟨⟨hdst, hrd⟩, heo⟩ := hst'
    have hrd : ∀ i o, l[i]? = some o → (∀ t ∈ readsX l o, ∀ j o', l[j]? = some o' → o'.dst = some t → j < i ∧ anc (masks l []) i j = true) ∧ ∀ d ∈ directs o, d < i := fun i o ho => by
      simpa only [Nat.zero_add] using rdB_spec hrd i o ho
    have heo : ∀ e e' o o', e < e' → l[e]? = some o → l[e']? = some o' → effB o.op = true → effB o'.op = true → anc (masks l []) e' e = true := fun e e' o o' h1 h2 h3 h4 h5 => by
      simpa only [Nat.zero_add] using effO_spec heo e e' o o' h1 h2 h3 h4 h5
    cases hc : canon C n call l 0 l E h with
    | no t => rw [hc] at hno; exact absurd rfl (hno _)
    | fin ss Ef hf' =>
      rw [hc] at hno
      simp only at hno ⊢
      cases hck : chkS C (masks l []) (effL 0 0 l) l (h :: fmX l ss) 0 l ss with
      | false => rw [hck] at hno; exact absurd rfl (hno _)
      | true =>
        simp only [cond_true]
        obtain ⟨L, hsl⟩ := canon_fin hc
        refine open_any hC hf hcall hst L hck (fun j h1 h2 => by omega) (by omega) (fun _ ls a1 w1 ρ1 k H I hall => ?_) (fun o ho => ?_) l.length _ a w' ρ 0 h (Inv.start A s' ss) fuel0
        · have hk : k = cnt l ss.length := by
            rcases Nat.lt_or_ge k (cnt l ss.length) with hlt | hge
            · obtain ⟨e, o, h1, h2, h3, h4⟩ := cnt_ex hlt
              have := (I.eff e o h2 h3 h1).1 (hall e (List.getElem?_eq_some_iff.1 h2).1)
              omega
            · exact Nat.le_antisymm I.kle hge
          have hH : H = hf' := by
            have h1 := I.hp
            rw [hk, L.hl ss.length (Nat.le_refl _), L.hf] at h1
            exact (Option.some.inj h1).symm
          subst hH
          refine ⟨ρ1, rfl, I.ext, I.nx, rfl, ⟨I.tsize, I.tdef, I.twf, fun t v hv => ?_⟩, I.sat⟩
          rcases L.env.2 t v hv with ⟨j, sj, oj, h1, h2, h3, h4, rfl⟩ | ⟨h1, h2⟩
          · exact I.s1 j sj oj t (hall j (List.getElem?_eq_some_iff.1 h3).1) h2 h3 h4
          · exact I.s0 t v (fun j oj _ hj hdj => h1 j oj (by rw [hsl]; exact (List.getElem?_eq_some_iff.1 hj).1) hj hdj) h2
        · rw [hsl] at ho
          simp at ho
    | pan ss v hf' =>
      rw [hc] at hno
      simp only at hno ⊢
      cases hck : chkS C (masks l []) (effL 0 0 l) l (h :: fmX l ss) 0 l ss && ancB (masks l []) ss.length 0 l.length with
      | false => rw [hck] at hno; exact absurd rfl (hno _)
      | true =>
        simp only [cond_true]
        rw [Bool.and_eq_true] at hck
        obtain ⟨hck, hanc⟩ := hck
        obtain ⟨Em, hm, o, L, ho, h1⟩ := canon_pan hc
        have hlt : ss.length < l.length := (List.getElem?_eq_some_iff.1 ho).1
        refine open_any hC hf hcall hst L hck (fun j h1 h2 => ancB_spec hanc j (Nat.zero_le _) (by omega) h1) (by omega) (fun e => by omega) (fun o' ho' ls a1 w1 ρ1 k H I hu hd => ?_) l.length _ a w' ρ 0 h (Inv.start A s' ss) fuel0
        rw [ho] at ho'
        cases ho'
        have A1 : AgrX H.next ρ1 n ds (restr Em (readsX l o)) a1 := I.agr ho (Nat.le_refl _) hd (hrd _ o ho).1 L.env.2
        have AD : AgrX H.next ρ1 n ds (delD l E) a1 := ⟨I.tsize, I.tdef, I.twf, fun t u hu' => by
          obtain ⟨q1, q2⟩ := delD_ok hu'
          exact I.s0 t u (fun j oj _ hj hdj => q1 oj (List.mem_of_getElem? hj) hdj) q2⟩
        unfold step1 at h1
        cases hw : wtX l (restr Em (readsX l o)) o.guard with
        | none => rw [hw] at h1; cases h1
        | some b =>
          rw [hw] at h1
          cases b with
          | false => cases h1
          | true =>
            refine ⟨wtX_wanted A1 hw, fun K => ?_⟩
            simp only at h1
            unfold Oper.wp
            cases he : effB o.op with
            | false =>
              rw [he] at h1
              simp only [cond_false] at h1
              split at h1 <;> cases h1
            | true =>
              rw [he] at h1
              simp only [cond_true] at h1
              obtain ⟨hk, hH⟩ := I.atEff L heo ho (Nat.le_refl _) hu hd he
              rw [L.hf] at hH
              subst hH
              cases hx : xop C (restr Em (readsX l o)) H o with
              | none => rw [hx] at h1; cases h1
              | some r =>
                have hr := xop_ok I.sat hC hf A1 hx
                rw [hx] at h1
                cases r with
                | val v h' => cases h1
                | unit h' => cases h1
                | dfr d => cases h1
                | pan v' =>
                  simp only [StepR.pan.injEq] at h1
                  obtain ⟨rfl, rfl⟩ := h1
                  obtain ⟨q1, q2⟩ := hr
                  rw [q1]
                  exact ⟨ρ1, rfl, I.ext, I.nx, q2, AD, I.sat⟩
                | call f args =>
                  obtain ⟨q1, q2⟩ := hr
                  rw [q1]
                  simp only at h1
                  have hc' : ∀ t, call f args H ≠ .no t := fun t e => by simp only [e] at h1; cases h1
                  refine (hcall f args H ρ1 w1 hc' q2 I.sat).mono fun e w2 hq => ?_
                  cases hcr : call f args H with
                  | no t => exact absurd hcr (hc' t)
                  | ret v1 h' => rw [hcr] at h1; cases h1
                  | pan v1 h' =>
                    rw [hcr] at hq h1
                    simp only [StepR.pan.injEq] at h1
                    obtain ⟨rfl, rfl⟩ := h1
                    obtain ⟨ρ', rfl, q2, q3, q4, q5⟩ := hq
                    exact ⟨ρ', rfl, I.ext.trans q2 I.nx, Nat.le_trans I.nx q3, q4, AD.ext q2 q3, q5⟩
end
end Go.Xs
end
