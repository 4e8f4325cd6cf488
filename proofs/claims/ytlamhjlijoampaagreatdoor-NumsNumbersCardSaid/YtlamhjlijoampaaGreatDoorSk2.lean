/- The stepping rules: one theorem for each kind of operation of the model, over a frame told as a list of slots and a heap told as a list of pieces. Plain theorems, no condition. -/
import Derived.Test.YtlamhjlijoampaaGreatDoorSk1
import Derived.ControlIn
import Derived.TacticsIn
set_option linter.unusedVariables false
set_option linter.unusedSimpArgs false
namespace Go.Sk
open Go.RowKit

/-- A frame's make: how many slots; the marks among its deferred calls; the round that it is of. -/
structure Fm where
  n : Nat
  ds : List Nat
  ro : Option Nat
instance : Coe Fm Nat := ⟨Fm.n⟩
abbrev Fm.mk0 (n : Nat) : Fm := ⟨n, [], none⟩
def Fm.fence (m : Fm) : Fence := { fn := fun _ => True, depth := none, alive := false, round := m.ro }
def Fm.marks (m : Fm) : List Deferred := m.ds.map fun D => { target := .collected D, args := #[] }
theorem Fm.wide {m : Fm} (h : m.ro = none) : m.fence = Fence.wide := by cases m; cases h; rfl
/-- The frame: which slot holds what, the last written first. -/
abbrev Env := List (Nat × Value)
def lk : Env → Nat → Option Value
  | [], _ => none
  | (s, v) :: E, t => bif Nat.beq s t then some v else lk E t

structure Agr (n : Fm) (E : Env) (a : Act) : Prop where
  size : a.tmps.size = n.n
  defers : a.defers = n.marks
  get : ∀ t v, lk E t = some v → a.tmps[t]? = some v

def ev (E : Env) : Operand → Option Value
  | .tmp t => lk E t
  | .const v => some v
  | .global g => some (.pointer (some ⟨g, 0, none⟩))
  | .func f => some (.func (.func f) #[] #[])

theorem Agr.ev {n : Fm} {E : Env} {a : Act} (h : Agr n E a) {x : Operand} {v : Value} (hx : ev E x = some v) : a.eval x = v := by
  cases x with
  | tmp t =>
    have := h.get t v hx
    simp [Act.eval, Array.getD_eq_getD_getElem?, this]
  | const u => simpa [Sk.ev, Act.eval] using hx
  | global g => simpa [Sk.ev, Act.eval] using hx
  | func f => simpa [Sk.ev, Act.eval] using hx

theorem Agr.put {n : Fm} {E : Env} {a : Act} (h : Agr n E a) {d : Nat} (hd : d < n.n) (v : Value) : Agr n ((d, v) :: E) (a.put (some d) v) := by
  refine ⟨by simp [Act.put, h.size], h.defers, fun t u hu => ?_⟩
  simp only [Act.put]
  by_cases e : d = t
  · subst e
    simp only [lk, show Nat.beq d d = true from Nat.beq_refl d, cond_true] at hu
    cases hu
    simp [h.size, hd]
  · have : Nat.beq d t = false := by rw [← Bool.not_eq_true, Nat.beq_eq]; exact e
    simp only [lk, this, cond_false] at hu
    rw [Array.getElem?_setIfInBounds_ne e]
    exact h.get t u hu

def evs (E : Env) : List Operand → Option (List Value)
  | [] => some []
  | x :: xs => match ev E x, evs E xs with
    | some v, some vs => some (v :: vs)
    | _, _ => none
theorem Agr.evs {n : Fm} {E : Env} {a : Act} (h : Agr n E a) : ∀ {xs : List Operand} {vs : List Value}, evs E xs = some vs → xs.map a.eval = vs
  | [], _, e => by cases e; rfl
  | x :: xs, vs, e => by
    simp only [Sk.evs] at e
    split at e
    · rename_i v vs' h1 h2
      cases e
      simp [h.ev h1, h.evs h2]
    · cases e

/-- Is the operation wanted? -/
def wt (l0 : List Oper) (E : Env) : Option (Nat × Bool) → Option Bool
  | none => some true
  | some (j, want) => match l0[j]? with
    | some o => match o.dst with
      | some t => match lk E t with
        | some (.bool b) => some (b == want)
        | some (.tuple _) => some false
        | _ => none
      | none => none
    | none => none
theorem wt_wanted {n : Fm} {E : Env} {a : Act} (h : Agr n E a) {l0 : List Oper} {o : Oper} {b : Bool} (hw : wt l0 E o.guard = some b) :
    Region.wanted o (yielded l0.toArray a.tmps) = b := by
  unfold wt at hw
  unfold Region.wanted
  cases hg : o.guard with
  | none => simpa [hg] using hw
  | some jw =>
    obtain ⟨j, want⟩ := jw
    simp only [hg] at hw
    cases hj : l0[j]? with
    | none => simp [hj] at hw
    | some oj =>
      simp only [hj] at hw
      cases hd : oj.dst with
      | none => simp [hd] at hw
      | some t =>
        simp only [hd] at hw
        cases hl : lk E t with
        | none => simp [hl] at hw
        | some u =>
          have hu := h.get t u hl
          cases u <;> simp only [hl] at hw <;> simp at hw <;> subst hw <;> simp [yielded, hj, hd, hu]

/-! ### the two judgements: a list of operations in its order (true), a list whose order is open and which leaves the pieces as they are (false) -/
section
/-- The walk through a list of operations. -/
def wpN (P : Program) (ops : Array Oper) (Q : Exit → Act → World → Prop) : List Oper → Act → World → Prop
  | [], a, w => Q .normal a w
  | o :: rest, a, w => if Region.wanted o (yielded ops a.tmps) then o.wp P a w (wpN P ops Q rest) Q else wpN P ops Q rest (a.put o.dst undef) w
theorem wpN_step {P : Program} {ops : Array Oper} {Q : Exit → Act → World → Prop} {a : Act} {w : World} {rest : List Oper} {o : Oper}
    (h : ∀ K : Act → World → Prop, (∀ a w, wpN P ops Q rest a w → K a w) → if Region.wanted o (yielded ops a.tmps) then o.wp P a w K Q else K (a.put o.dst undef) w) : wpN P ops Q (o :: rest) a w := h _ (fun _ _ h => h)
def noDefer (l : List Oper) : Bool := l.all fun o => match o.op with | .defer _ => false | _ => true
theorem callsIn_of {P : Program} {f : FuncId} {args : Array Value} {w : World} {R : Ending → World → Prop} (m : Fm) (h : Calls P f args w R) : CallsIn m.fence 0 P f args w R :=
  ⟨trivial, fun cs _ => let ⟨e, w', fr, r, s, x⟩ := h cs; ⟨e, w', fr, r, comesIn_wide.2 s, x⟩⟩
theorem rowsIn_of {P : Program} {row : String} {args : Array Value} {w : World} {R : Value → World → Prop} (m : Fm) (h : Rows P row args w R) : RowsIn m.fence 0 P row args w R :=
  fun c cs _ => let ⟨v, w', r, s⟩ := h c cs; ⟨v, w', r, stepsIn_wide.2 s⟩
theorem wpIn_of {P : Program} {o : Oper} {a : Act} {w : World} {K K' : Act → World → Prop} {Q : Exit → Act → World → Prop} (m : Fm) (hd : m.ro = none ∨ ∀ c, o.op ≠ .defer c) (hK : ∀ a w, K a w → K' a w) (h : o.wp P a w K Q) : o.wpIn m.fence 0 P a w K' Q := by
  unfold Oper.wpIn
  refine ⟨fun _ _ => trivial, ?_⟩
  have hs : o.semAt m.fence.round a.eval = execOp a.eval o := by
    rcases hd with hd | hd
    · show o.semAt m.ro a.eval = _
      rw [hd, Oper.semAt_none]
    · exact Oper.semAt_eq _ _ _ hd
  rw [hs]
  unfold Oper.wp at h
  generalize (execOp a.eval o).run P w = r at *
  cases r with
  | ok x w' =>
    cases x <;> simp only [Oper.upon, Oper.uponIn] at h ⊢ <;> try exact hK _ _ h
    · exact ⟨fun h => (by cases h), callsIn_of m (Calls.mono h fun e w'' he => by cases e <;> first | exact hK _ _ he | exact he)⟩
    · exact ⟨fun h => (by cases h), rowsIn_of m (Rows.mono h fun v w'' he => hK _ _ he)⟩
    all_goals exact h.elim
  | halt x w' => cases x <;> simp only [Oper.upon, Oper.uponIn] at h ⊢ <;> exact h
theorem wpN_In {P : Program} {ops : Array Oper} {Q : Exit → Act → World → Prop} (m : Fm) : ∀ (l : List Oper) (a : Act) (w : World), (m.ro = none ∨ noDefer l = true) → wpN P ops Q l a w → wpListIn m.fence 0 P ops Q l a w
  | [], _, _, _, h => h
  | o :: rest, a, w, hd, h => by
    unfold wpN at h
    unfold wpListIn
    have h1 : m.ro = none ∨ ∀ c, o.op ≠ .defer c := hd.imp id fun hn c hc => by simp [noDefer, hc] at hn
    have h2 : m.ro = none ∨ noDefer rest = true := hd.imp id fun hn => by
      unfold noDefer at hn ⊢
      rw [List.all_cons, Bool.and_eq_true] at hn
      exact hn.2
    split
    · rename_i hw
      rw [if_pos hw] at h
      exact wpIn_of m h1 (fun a w h => wpN_In m rest a w h2 h) h
    · rename_i hw
      rw [if_neg hw] at h
      exact ⟨fun _ _ => trivial, wpN_In m rest _ _ h2 h⟩
variable (B : World) (P : Program) (n : Fm)
def LJ (l0 l : List Oper) (E : Env) (H : List HP) (Q : Exit → Act → World → Prop) : Prop := ∀ a w, Agr n E a → Sat B H w → wpN P l0.toArray Q l a w
def QJ (l0 l : List Oper) (E : Env) (H : List HP) (Q : Exit → Act → World → Prop) : Prop :=
  ∀ a, Agr n E a → wpQuiet P l0.toArray (Sat B H) (fun a' => ∀ w, Sat B H w → Q .normal a' w) l a
def RT (m : Bool) (l0 l : List Oper) (E : Env) (H : List HP) (Q : Exit → Act → World → Prop) : Prop :=
  match m with
  | true => LJ B P n l0 l E H Q
  | false => QJ B P n l0 l E H Q
/-- What an operation yields in every such world, which it leaves such a world. -/
def Yld (E : Env) (H : List HP) (op : Op) (ty : TypeId) (v : Value) : Prop :=
  ∀ (o : Oper) a w, o.op = op → o.type = ty → Agr n E a → Sat B H w → Oper.quietAt P o a (Sat B H) w v
/-- Leaving by ex in this state is fine. -/
def AtQ (E : Env) (H : List HP) (Q : Exit → Act → World → Prop) (ex : Exit) : Prop := ∀ a w, Agr n E a → Sat B H w → Q ex a w
/-- Code, in a state. -/
def CT (c : Code) (E : Env) (H : List HP) (Q : Exit → Act → World → Prop) : Prop := ∀ a w, Agr n E a → Sat B H w → c.wpIn n.fence 0 P Q a w
end

section
variable {B : World} {P : Program} {n : Fm} {m : Bool} {l0 rest : List Oper} {E : Env} {H : List HP} {Q : Exit → Act → World → Prop}

theorem RT.nil (h : AtQ B n E H Q .normal) : RT B P n m l0 [] E H Q := by
  cases m
  · exact fun a hA => fun w hS => h a w hA hS
  · exact fun a w hA hS => h a w hA hS

theorem RT.skip {d : Nat} {op : Op} {ty : TypeId} {pos : String} {af : Array Edge} {g : Option (Nat × Bool)} (hw : wt l0 E g = some false) (hd : d < n.n)
    (k : RT B P n m l0 rest ((d, undef) :: E) H Q) : RT B P n m l0 (⟨some d, op, ty, pos, af, g⟩ :: rest) E H Q := by
  cases m
  · intro a hA
    have := wt_wanted hA (o := ⟨some d, op, ty, pos, af, g⟩) hw
    refine wpQuiet_step fun K hK => ?_
    rw [if_neg (by simp [this])]
    exact hK _ (k _ (hA.put hd _))
  · intro a w hA hS
    have := wt_wanted hA (o := ⟨some d, op, ty, pos, af, g⟩) hw
    refine wpN_step fun K hK => ?_
    rw [if_neg (by simp [this])]
    exact hK _ _ (k _ _ (hA.put hd _) hS)

theorem LJ_of_quietAt {K : Act → World → Prop} {o : Oper} {a : Act} {w : World} {v : Value} (h : Oper.quietAt P o a (Sat B H) w v) (hS : Sat B H w)
    (hk : ∀ w', Sat B H w' → K (a.put o.dst v) w') : o.wp P a w K Q := by
  unfold Oper.quietAt at h
  unfold Oper.wp
  cases hr : (execOp a.eval o).run P w with
  | halt x w' => rw [hr] at h; exact h.elim
  | ok x w' =>
    rw [hr] at h
    cases x <;> try exact h.elim
    · obtain ⟨rfl, rfl⟩ := h
      exact hk _ hS
    · obtain ⟨rfl, rfl⟩ := h
      exact hk _ hS
    · obtain ⟨rfl, hc⟩ := h
      exact hc.mono fun e w'' ⟨he, hC⟩ => by subst he; exact hk _ hC

theorem RT.y {d : Nat} {op : Op} {ty : TypeId} {pos : String} {af : Array Edge} {g : Option (Nat × Bool)} {v : Value} (hw : wt l0 E g = some true) (hd : d < n.n)
    (hy : Yld B P n E H op ty v) (k : RT B P n m l0 rest ((d, v) :: E) H Q) : RT B P n m l0 (⟨some d, op, ty, pos, af, g⟩ :: rest) E H Q := by
  cases m
  · intro a hA
    have := wt_wanted hA (o := ⟨some d, op, ty, pos, af, g⟩) hw
    refine wpQuiet_step fun K hK => ?_
    rw [if_pos this]
    exact ⟨v, fun w hS => hy _ a w rfl rfl hA hS, hK _ (k _ (hA.put hd _))⟩
  · intro a w hA hS
    have := wt_wanted hA (o := ⟨some d, op, ty, pos, af, g⟩) hw
    refine wpN_step fun K hK => ?_
    rw [if_pos this]
    exact LJ_of_quietAt (hy _ a w rfl rfl hA hS) hS fun w' hS' => hK _ _ (k _ _ (hA.put hd _) hS')

/-- An operation that turns the pieces (or yields what is not known ahead): in its order alone. -/
theorem RT.eff {dst : Option Nat} {op : Op} {ty : TypeId} {pos : String} {af : Array Edge} {g : Option (Nat × Bool)} (hw : wt l0 E g = some true)
    (h : ∀ (o : Oper) a w (K : Act → World → Prop), o.op = op → o.type = ty → o.dst = dst → Agr n E a → Sat B H w → (∀ a w, wpN P l0.toArray Q rest a w → K a w) → o.wp P a w K Q) :
    RT B P n true l0 (⟨dst, op, ty, pos, af, g⟩ :: rest) E H Q := by
  intro a w hA hS
  have := wt_wanted hA (o := ⟨dst, op, ty, pos, af, g⟩) hw
  refine wpN_step fun K hK => ?_
  rw [if_pos this]
  exact h _ a w K rfl rfl rfl hA hS hK

/-- A pure fact, or an existential's witness, is taken out of the head piece. -/
theorem RT.pu {p : Prop} (h : p → RT B P n true l0 rest E H Q) : RT B P n true l0 rest E (Pu p :: H) Q := fun a w hA hS => h hS.pu_out a w hA hS.tail
theorem RT.ex {α : Sort _} {f : α → List HP} (h : ∀ x, RT B P n true l0 rest E (f x ++ H) Q) : RT B P n true l0 rest E (Ex f :: H) Q := fun a w hA hS =>
  let ⟨x, hx⟩ := hS.ex_out
  h x a w hA hx
theorem RT.weak {H' : List HP} (hm : ∀ w, Sat B H w → Sat B H' w) (h : RT B P n true l0 rest E H' Q) : RT B P n true l0 rest E H Q := fun a w hA hS => h a w hA (hm w hS)

/-! ### code -/
variable {c x y : Code}
/-- What stands behind: y, then Q. -/
def Then (n : Fm) (P : Program) (y : Code) (Q : Exit → Act → World → Prop) : Exit → Act → World → Prop := Exit.then (y.wpIn n.fence 0 P Q) Q
theorem CT.seq (h : CT B P n x E H (Then n P y Q)) : CT B P n (.seq x y) E H Q := fun a w hA hS => wpIn_seq (h a w hA hS)
theorem CT.skip (h : AtQ B n E H Q .normal) : CT B P n .skip E H Q := fun a w hA hS => wpIn_skip (h a w hA hS)
theorem CT.ret (h : AtQ B n E H Q .ret) : CT B P n .ret E H Q := fun a w hA hS => wpIn_ret (h a w hA hS)
theorem CT.exit {id : Nat} (h : AtQ B n E H Q (.exit id)) : CT B P n (.exit id) E H Q := fun a w hA hS => wpIn_exit (h a w hA hS)
theorem CT.block {id : Nat} (h : CT B P n c E H (Exit.inBlock id Q)) : CT B P n (.block id c) E H Q := fun a w hA hS => wpIn_block (h a w hA hS)
theorem CT.cond_t {o : Operand} (he : ev E o = some (.bool true)) (h : CT B P n x E H Q) : CT B P n (.cond o x y) E H Q := fun a w hA hS => wpIn_cond_true (hA.ev he) (h a w hA hS)
theorem CT.cond_f {o : Operand} (he : ev E o = some (.bool false)) (h : CT B P n y E H Q) : CT B P n (.cond o x y) E H Q := fun a w hA hS => wpIn_cond_false (hA.ev he) (h a w hA hS)
theorem CT.cond {o : Operand} {b : Bool} (he : ev E o = some (.bool b)) (ht : b = true → CT B P n x E H Q) (hf : b = false → CT B P n y E H Q) : CT B P n (.cond o x y) E H Q :=
  fun a w hA hS => wpIn_cond_split (hA.ev he) (fun e => ht e a w hA hS) (fun e => hf e a w hA hS)
theorem CT.region {id : Nat} {l : List Oper} (h : RT B P n true l l E H Q) (hnd : n.ro = none ∨ noDefer l = true := by first | exact .inl rfl | exact .inr rfl) : CT B P n (.region id l.toArray false) E H Q := fun a w hA hS => wpIn_region_lit (wpN_In n l a w hnd (h a w hA hS))
theorem CT.quiet {id : Nat} {l : List Oper} (hm : P.follows .mixedOrders = true) (hB : Region.lexB .any l.toArray = true) (h : RT B P n false l l E H Q) (hro : n.ro = none := by rfl) : CT B P n (.region id l.toArray true) E H Q :=
  fun a w hA hS => by rw [Fm.wide hro]; exact wpIn_wide.2 (wp_region_quiet (C := Sat B H) hm hB (hS.drawn _) (by simpa using h a hA))
theorem CT.pu {p : Prop} (h : p → CT B P n c E H Q) : CT B P n c E (Pu p :: H) Q := fun a w hA hS => h hS.pu_out a w hA hS.tail
theorem CT.ex {α : Sort _} {f : α → List HP} (h : ∀ x, CT B P n c E (f x ++ H) Q) : CT B P n c E (Ex f :: H) Q := fun a w hA hS =>
  let ⟨x, hx⟩ := hS.ex_out
  h x a w hA hx
theorem CT.weak {H' : List HP} (hm : ∀ w, Sat B H w → Sat B H' w) (h : CT B P n c E H' Q) : CT B P n c E H Q := fun a w hA hS => h a w hA (hm w hS)
/-- A slot that is not read any more is forgotten; order does not matter. -/
def Env.sub (E E' : Env) : Prop := ∀ t v, lk E' t = some v → lk E t = some v
theorem Agr.sub {E' : Env} {a : Act} (h : Agr n E a) (hs : Env.sub E E') : Agr n E' a := ⟨h.size, h.defers, fun t v e => h.get t v (hs t v e)⟩
def subB (E : Env) : Env → Prop
  | [] => True
  | (t, v) :: E' => lk E t = some v ∧ subB E E'
theorem subB.sub : ∀ {E' : Env}, subB E E' → Env.sub E E'
  | [], _, _, _, e => by cases e
  | (s, u) :: E', h, t, v, e => by
    simp only [lk] at e
    cases hb : Nat.beq s t with
    | true => rw [hb] at e; cases e; rw [Nat.beq_eq] at hb; exact hb ▸ h.1
    | false => rw [hb] at e; exact subB.sub h.2 t v e
theorem CT.env {E' : Env} (hs : subB E E') (h : CT B P n c E' H Q) : CT B P n c E H Q := fun a w hA hS => h a w (hA.sub hs.sub) hS

theorem Fm.fence_eq {m m' : Fm} (h : m'.ro = m.ro) : m'.fence = m.fence := by unfold Fm.fence; rw [h]
theorem AtQ.then_ {n' : Fm} {K : Code} (h : CT B P n' K E H Q) (hro : n'.ro = n.ro := by rfl) : AtQ B n' E H (Then n P K Q) .normal := fun a w hA hS => by
  show K.wpIn n.fence 0 P Q a w
  rw [← Fm.fence_eq hro]
  exact h a w hA hS
theorem A0 {n' : Fm} {K : Code} (h : CT B P n' K E H Q) (hro : n'.ro = n.ro := by rfl) : AtQ B n' E H (Then n P K Q) .normal := AtQ.then_ h hro
theorem AtQ.then_exit {n' : Fm} {K : Code} {id : Nat} (h : AtQ B n' E H Q (.exit id)) : AtQ B n' E H (Then n P K Q) (.exit id) := h
theorem A1 {n' : Fm} {K : Code} {id : Nat} (h : AtQ B n' E H Q (.exit id)) : AtQ B n' E H (Then n P K Q) (.exit id) := AtQ.then_exit h
theorem AtQ.then_ret {n' : Fm} {K : Code} (h : AtQ B n' E H Q .ret) : AtQ B n' E H (Then n P K Q) .ret := h
theorem A2 {n' : Fm} {K : Code} (h : AtQ B n' E H Q .ret) : AtQ B n' E H (Then n P K Q) .ret := AtQ.then_ret h
/-- What stands behind a loop's round, begun in the state x. -/
def LoopQ {α : Type} (B : World) (n : Fm) (f : α → Env) (g : α → List HP) (μ : α → Nat) (x : α) (Q : Exit → Act → World → Prop) : Exit → Act → World → Prop :=
  Exit.then (fun a w => ∃ y, Agr n (f y) a ∧ Sat B (g y) w ∧ μ y < μ x) Q
theorem AtQ.loop {α : Type} {f : α → Env} {g : α → List HP} {μ : α → Nat} {x : α} (y : α) (hE : subB E (f y)) (hH : ∀ w, Sat B H w → Sat B (g y) w) (hμ : μ y < μ x) : AtQ B n E H (LoopQ B n f g μ x Q) .normal :=
  fun _ w hA hS => ⟨y, hA.sub hE.sub, hH w hS, hμ⟩
theorem AtQ.loop_exit {n' : Fm} {α : Type} {f : α → Env} {g : α → List HP} {μ : α → Nat} {x : α} {id : Nat} (h : AtQ B n' E H Q (.exit id)) : AtQ B n' E H (LoopQ B n f g μ x Q) (.exit id) := h
theorem A3 {n' : Fm} {α : Type} {f : α → Env} {g : α → List HP} {μ : α → Nat} {x : α} {id : Nat} (h : AtQ B n' E H Q (.exit id)) : AtQ B n' E H (LoopQ B n f g μ x Q) (.exit id) := AtQ.loop_exit h
theorem AtQ.loop_ret {n' : Fm} {α : Type} {f : α → Env} {g : α → List HP} {μ : α → Nat} {x : α} (h : AtQ B n' E H Q .ret) : AtQ B n' E H (LoopQ B n f g μ x Q) .ret := h
theorem A4 {n' : Fm} {α : Type} {f : α → Env} {g : α → List HP} {μ : α → Nat} {x : α} (h : AtQ B n' E H Q .ret) : AtQ B n' E H (LoopQ B n f g μ x Q) .ret := AtQ.loop_ret h
/-- What stands behind a piece of code whose ways meet again in the states x. -/
def CutQ {α : Sort _} (B : World) (n : Fm) (f : α → Env) (g : α → List HP) (Q : Exit → Act → World → Prop) : Exit → Act → World → Prop := Exit.then (fun a w => ∃ x, Agr n (f x) a ∧ Sat B (g x) w) Q
theorem AtQ.cut {α : Sort _} {f : α → Env} {g : α → List HP} (y : α) (hE : subB E (f y)) (hH : ∀ w, Sat B H w → Sat B (g y) w) : AtQ B n E H (CutQ B n f g Q) .normal :=
  fun _ w hA hS => ⟨y, hA.sub hE.sub, hH w hS⟩
theorem AtQ.cut_exit {n' : Fm} {α : Sort _} {f : α → Env} {g : α → List HP} {id : Nat} (h : AtQ B n' E H Q (.exit id)) : AtQ B n' E H (CutQ B n f g Q) (.exit id) := h
theorem A5 {n' : Fm} {α : Sort _} {f : α → Env} {g : α → List HP} {id : Nat} (h : AtQ B n' E H Q (.exit id)) : AtQ B n' E H (CutQ B n f g Q) (.exit id) := AtQ.cut_exit h
theorem AtQ.cut_ret {n' : Fm} {α : Sort _} {f : α → Env} {g : α → List HP} (h : AtQ B n' E H Q .ret) : AtQ B n' E H (CutQ B n f g Q) .ret := h
theorem A6 {n' : Fm} {α : Sort _} {f : α → Env} {g : α → List HP} (h : AtQ B n' E H Q .ret) : AtQ B n' E H (CutQ B n f g Q) .ret := AtQ.cut_ret h
theorem AtQ.in_n {id : Nat} (h : AtQ B n E H Q .normal) : AtQ B n E H (Exit.inBlock id Q) .normal := h
theorem A7 {id : Nat} (h : AtQ B n E H Q .normal) : AtQ B n E H (Exit.inBlock id Q) .normal := AtQ.in_n h
theorem AtQ.in_ret {id : Nat} (h : AtQ B n E H Q .ret) : AtQ B n E H (Exit.inBlock id Q) .ret := h
theorem A8 {id : Nat} (h : AtQ B n E H Q .ret) : AtQ B n E H (Exit.inBlock id Q) .ret := AtQ.in_ret h
theorem AtQ.in_eq {id : Nat} (h : AtQ B n E H Q .normal) : AtQ B n E H (Exit.inBlock id Q) (.exit id) := fun a w hA hS => by
  show (if id = id then _ else _)
  rw [if_pos rfl]
  exact h a w hA hS
theorem A9 {id : Nat} (h : AtQ B n E H Q .normal) : AtQ B n E H (Exit.inBlock id Q) (.exit id) := AtQ.in_eq h
theorem AtQ.in_ne {id id' : Nat} (hne : Nat.beq id' id = false) (h : AtQ B n E H Q (.exit id')) : AtQ B n E H (Exit.inBlock id Q) (.exit id') := fun a w hA hS => by
  show (if id' = id then _ else _)
  rw [if_neg (by rw [← Nat.beq_eq, hne]; simp)]
  exact h a w hA hS
theorem AtQ.env {E' : Env} {ex : Exit} (hs : subB E E') (h : AtQ B n E' H Q ex) : AtQ B n E H Q ex := fun a w hA hS => h a w (hA.sub hs.sub) hS
theorem AtQ.weak {H' : List HP} {ex : Exit} (hm : ∀ w, Sat B H w → Sat B H' w) (h : AtQ B n E H' Q ex) : AtQ B n E H Q ex := fun a w hA hS => h a w hA (hm w hS)

theorem least_ {S : Nat → Prop} (h : ∃ k, S k) : ∃ k, S k ∧ ∀ j, S j → k ≤ j := by
  obtain ⟨k, hk⟩ := h
  induction k using Nat.strongRecOn with
  | _ k ih =>
    by_cases hl : ∃ j, j < k ∧ S j
    · obtain ⟨j, hj, hs⟩ := hl
      exact ih j hj hs
    · exact ⟨k, hk, fun j hj => Nat.le_of_not_lt fun hlt => hl ⟨j, hlt, hj⟩⟩
/-- A loop: its states x, each a frame and pieces, and a measure. -/
theorem CT.loop {α : Type} (f : α → Env) (g : α → List HP) (μ : α → Nat) (x0 : α) (hE : subB E (f x0)) (hH : ∀ w, Sat B H w → Sat B (g x0) w)
    (round : ∀ x, CT B P n c (f x) (g x) (LoopQ B n f g μ x Q)) : CT B P n (.loop c) E H Q := by
  classical
  intro a w hA hS
  let S : Act → World → Nat → Prop := fun a w k => ∃ x, Agr n (f x) a ∧ Sat B (g x) w ∧ μ x = k
  let I : Act → World → Prop := fun a w => ∃ k, S a w k
  let M : Act → World → Nat := fun a w => if h : ∃ k, S a w k then Classical.choose (least_ h) else 0
  refine wpIn_loop I M ⟨_, x0, hA.sub hE.sub, hH w hS, rfl⟩ ?_
  intro a w hI
  have hM : M a w = Classical.choose (least_ hI) := by simp only [M]; rw [dif_pos hI]
  obtain ⟨x, hx, hs, hk⟩ := (Classical.choose_spec (least_ hI)).1
  refine wpIn_mono (round x a w hx hs) ?_
  intro e a' w' hq
  cases e <;> try exact hq
  obtain ⟨y, hy, hs', hlt⟩ := hq
  have hI' : ∃ k, S a' w' k := ⟨_, y, hy, hs', rfl⟩
  refine ⟨hI', ?_⟩
  have h1 : M a' w' = Classical.choose (least_ hI') := by simp only [M]; rw [dif_pos hI']
  have h2 : Classical.choose (least_ hI') ≤ μ y := (Classical.choose_spec (least_ hI')).2 _ ⟨y, hy, hs', rfl⟩
  omega

/-- The ways through c meet again in the states x. -/
theorem CT.cut {α : Sort _} (f : α → Env) (g : α → List HP) (hc : CT B P n c E H (CutQ B n f g Q)) (hk : ∀ x, AtQ B n (f x) (g x) Q .normal) : CT B P n c E H Q := by
  intro a w hA hS
  refine wpIn_mono (hc a w hA hS) ?_
  intro e a' w' hq
  cases e <;> try exact hq
  obtain ⟨x, hx, hs⟩ := hq
  exact hk x a' w' hx hs
end

/-! ### functions -/
/-- What a function does: of Pre, beside R, it makes a value and pieces as Post says; R stays. -/
def Sp (B : World) (P : Program) (f : FuncId) (vs : List Value) (R Pre : List HP) (Post : Value → List HP → Prop) : Prop :=
  ∀ w, Sat B (Pre ++ R) w → Calls P f vs.toArray w fun e w' => ∃ v H', e = .returned v ∧ Post v H' ∧ Sat B (H' ++ R) w'
def FinQ (B : World) (P : Program) (fn : Func) (R : List HP) (Post : Value → List HP → Prop) : Exit → Act → World → Prop :=
  bodyPost P fn fun e w' => ∃ v H', e = .returned v ∧ Post v H' ∧ Sat B (H' ++ R) w'
def argE : Nat → List Value → Env
  | _, [] => []
  | k, v :: vs => (k, v) :: argE (k + 1) vs
theorem argE_lk : ∀ (vs : List Value) (k t : Nat) (v : Value), lk (argE k vs) t = some v → k ≤ t ∧ vs[t - k]? = some v
  | [], _, _, _, e => by cases e
  | u :: vs, k, t, v, e => by
    simp only [argE, lk] at e
    cases hb : Nat.beq k t with
    | true => rw [hb] at e; cases e; rw [Nat.beq_eq] at hb; subst hb; simp
    | false =>
      rw [hb] at e
      have hne : k ≠ t := by intro h; rw [← Nat.beq_eq, hb] at h; cases h
      obtain ⟨h1, h2⟩ := argE_lk vs (k + 1) t v e
      refine ⟨by omega, ?_⟩
      obtain ⟨j, hj⟩ : ∃ j, t - k = j + 1 := ⟨t - k - 1, by omega⟩
      rw [hj, List.getElem?_cons_succ, show j = t - (k + 1) by omega]
      exact h2
theorem Sp.body {B : World} {P : Program} {f : FuncId} {fn : Func} {c : Code} {n : Nat} {vs : List Value} {R Pre : List HP} {Post : Value → List HP → Prop}
    (hf : P.funcs[f]? = some fn) (hb : fn.body = some c) (hn : fn.ntmps = n) (hl : vs.length ≤ n)
    (h : CT B P (.mk0 n) c (argE 0 vs) (Pre ++ R) (FinQ B P fn R Post)) : Sp B P f vs R Pre Post := by
  intro w hS
  refine calls_of_wp hf hb (wpIn_wide.1 (h _ w ⟨?_, rfl, fun t v e => ?_⟩ hS))
  · simp [hn]; omega
  · obtain ⟨_, e'⟩ := argE_lk vs 0 t v e
    have : t < vs.length := (List.getElem?_eq_some_iff.1 (by simpa using e')).1
    rw [Array.getElem?_append_left (by simpa using this)]
    simpa using e'
section
variable {B : World} {P : Program} {n : Nat} {E : Env} {H R : List HP} {fn : Func} {Post : Value → List HP → Prop}
theorem AtQ.fin0 (hr : fn.results = #[]) {H' : List HP} (hp : Post (.tuple #[]) H') (hs : ∀ w, Sat B H w → Sat B (H' ++ R) w) (ex : Exit) (hex : ex = .normal ∨ ex = .ret) :
    AtQ B (.mk0 n) E H (FinQ B P fn R Post) ex := by
  intro a w hA hS
  rcases hex with rfl | rfl
  · exact bodyPost_end (results_none hr _ _ _) hA.defers ⟨_, _, rfl, hp, hs w hS⟩
  · exact bodyPost_ret (results_none hr _ _ _) hA.defers ⟨_, _, rfl, hp, hs w hS⟩
theorem AtQ.fin1 {t : Nat} {v : Value} (hr : fn.results = #[.tmp t]) (he : lk E t = some v) {H' : List HP} (hp : Post v H') (hs : ∀ w, Sat B H w → Sat B (H' ++ R) w) :
    AtQ B (.mk0 n) E H (FinQ B P fn R Post) .ret := by
  intro a w hA hS
  refine bodyPost_ret (results_tmp hr _ _ _) hA.defers ⟨_, _, rfl, ?_, hs w hS⟩
  rw [show a.tmps.getD t undef = v by simp [Array.getD_eq_getD_getElem?, hA.get t v he]]
  exact hp
theorem AtQ.fin2 {t u : Nat} {v1 v2 : Value} (hr : fn.results = #[.tmp t, .tmp u]) (he : lk E t = some v1) (he2 : lk E u = some v2) {H' : List HP} (hp : Post (.tuple #[v1, v2]) H') (hs : ∀ w, Sat B H w → Sat B (H' ++ R) w) :
    AtQ B (.mk0 n) E H (FinQ B P fn R Post) .ret := by
  intro a w hA hS
  refine bodyPost_ret (results_tmp2 hr _ _ _) hA.defers ⟨_, _, rfl, ?_, hs w hS⟩
  rw [show a.tmps.getD t undef = v1 by simp [Array.getD_eq_getD_getElem?, hA.get t v1 he], show a.tmps.getD u undef = v2 by simp [Array.getD_eq_getD_getElem?, hA.get u v2 he2]]
  exact hp
end

end Go.Sk
