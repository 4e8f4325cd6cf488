/- Ranges over functions: the loop's record as a piece, rounds, yield, marks at the function's end. Plain theorems, no condition. -/
import Derived.Test.YtbpelgbblpeojabSk24
import Derived.Test.YtbpelgbblpeojabSk9
import Derived.RangeFuncRecord
set_option linter.unusedVariables false
set_option linter.unusedSimpArgs false
namespace Go.Sk
open Go.RowKit

/-- What a loop's record holds, beside its state. -/
structure Lp where
  nn : Nat
  E : Env
  ps : Array Tmp
  assign : Code
  body : Code
  D : Nat
/-- Block l is that loop's record. -/
def Lo (l : Nat) (st : LoopState) (pe : Option Code) (x : Lp) : HP := fun h => ∃ r : Loop, h l = some (.loop r) ∧ r.state = st ∧ r.pending = pe ∧ r.params = x.ps ∧ r.assign = x.assign ∧ r.body = x.body ∧ r.defers = x.D ∧ Agr (.mk0 x.nn) x.E { tmps := r.tmps, defers := [] }
/-- Block D holds the deferred calls of rounds: none. -/
def Df (D : Nat) : HP := fun h => h D = some (.deferred (some []))
theorem Agr.to {n : Nat} {ds ds' : List Nat} {ro ro' : Option Nat} {E : Env} {a : Act} (h : Agr ⟨n, ds, ro⟩ E a) : Agr ⟨n, ds', ro'⟩ E { a with defers := (Fm.mk n ds' ro').marks } := ⟨h.size, rfl, h.get⟩
section
variable {B : World} {P : Program} {n : Fm} {l0 rest : List Oper} {E : Env} {H R : List HP} {Q : Exit → Act → World → Prop}
theorem Lo.at_ {l : Nat} {st : LoopState} {pe : Option Code} {x : Lp} {w : World} (hS : Sat B H w) (hs : Sel H (Lo l st pe x) R) :
    ∃ r : Loop, w.heap[l]? = some (.loop r) ∧ r.state = st ∧ r.pending = pe ∧ r.params = x.ps ∧ r.assign = x.assign ∧ r.body = x.body ∧ r.defers = x.D ∧ Agr (.mk0 x.nn) x.E { tmps := r.tmps, defers := [] } := by
  obtain ⟨h, a, r, h1, h2⟩ := (hS.sel hs).head
  exact ⟨r, (a l _ h1).1, h2⟩
theorem Lo.set {l : Nat} {st st' : LoopState} {pe pe' : Option Code} {x : Lp} {w : World} {H' : List HP} {r : Loop} (hS : Sat B H w) (hr : Rep H (Lo l st pe x) (Lo l st' pe' x) H') (h : w.heap[l]? = some (.loop r)) :
    Sat B H' (w.putObj l (.loop { r with state := st', pending := pe' })) := by
  have hlt : l < w.heap.size := (Array.getElem?_eq_some_iff.1 h).1
  refine hS.upd hr (o' := .loop { r with state := st', pending := pe' }) (b := l) (fun h ⟨r, h1, _⟩ => ⟨_, h1⟩) (fun h1 h2 hp _ h3 => ?_) rfl rfl rfl (World.putObj_size) (World.putObj_heap_same hlt) (fun x hx => World.putObj_heap_other hx)
  exact ⟨_, h3, rfl, rfl, by
    obtain ⟨R, s1, _⟩ := hr.sel
    obtain ⟨r', h4, h5⟩ := Lo.at_ hS s1
    rw [h] at h4
    cases h4
    exact h5.2.2⟩
theorem Df.at_ {D : Nat} {w : World} (hS : Sat B H w) (hs : Sel H (Df D) R) : w.heap[D]? = some (.deferred (some [])) := by
  obtain ⟨h, a, h1⟩ := (hS.sel hs).head
  exact (a D _ h1).1
/-- A call of yield l at these values, from the pieces H. -/
def YJ (B : World) (P : Program) (l : Nat) (vs : List Value) (H : List HP) (Post : Bool → List HP → Prop) : Prop :=
  ∀ w, Sat B H w → ∃ fn tmps assign body, (Instr.yield l vs.toArray).run P w = .ok (.round l fn tmps assign body) w ∧
    RoundIn Fence.wide 0 P l fn tmps assign body w fun e w' => ∃ b H', e = .returned (.bool b) ∧ Post b H' ∧ Sat B H' w'
theorem YJ.mono {l : Nat} {vs : List Value} {Post Post' : Bool → List HP → Prop} (h : YJ B P l vs H Post) (hm : ∀ b H', Post b H' → Post' b H') : YJ B P l vs H Post' := fun w hS =>
  let ⟨fn, tmps, assign, body, h1, h2⟩ := h w hS
  ⟨fn, tmps, assign, body, h1, h2.mono fun _ _ ⟨b, H', a, c, d⟩ => ⟨b, H', a, hm _ _ c, d⟩⟩
def RndQ (B : World) (P : Program) (l : Nat) (Post : Bool → List HP → Prop) : Exit → Act → World → Prop := roundPost P l fun e w' => ∃ b H', e = .returned (.bool b) ∧ Post b H' ∧ Sat B H' w'
def AsgQ (B : World) (n : Fm) (E1 : Env) (H : List HP) : Exit → Act → World → Prop := Exit.then (fun a w => Agr n E1 a ∧ Sat B H w) (fun _ _ _ => False)
theorem AtQ.asg {E1 : Env} {H1 : List HP} (hE : subB E E1) (hH : ∀ w, Sat B H w → Sat B H1 w) : AtQ B n E H (AsgQ B n E1 H1) .normal := fun _ w hA hS => ⟨hA.sub hE.sub, hH w hS⟩
/-- A round, walked: the assignment, then the body. -/
theorem YJ.of {l : Nat} {x : Lp} {nn D : Nat} {E0 : Env} {p : Tmp} {assign body : Code} {v : Value} {E1 : Env} {H1 : List HP} {pe : Option Code} {Post : Bool → List HP → Prop} (hx : x = ⟨nn, E0, #[p], assign, body, D⟩) (hp : Nat.blt p nn = true) (hr : Rep H (Lo l .ready pe x) (Lo l .busy pe x) H1)
    (ha : CT B P ⟨nn, [], some l⟩ assign ((p, v) :: E0) H (AsgQ B ⟨nn, [], some l⟩ E1 H)) (hb : CT B P ⟨nn, [], some l⟩ body E1 H1 (RndQ B P l Post)) : YJ B P l [v] H Post := by
  intro w hS
  obtain ⟨R, s1, _⟩ := hr.sel
  obtain ⟨r, h1, h2, h3, h4, h5, h6, h7, h8⟩ := Lo.at_ hS s1
  have hps : x.ps = #[p] := by rw [hx]
  refine ⟨r.fn, _, _, _, run_yield h1 (by rw [h4, hps]; rfl), roundIn_of_wpIn trivial ?_⟩
  have hA : Agr ⟨nn, [], some l⟩ ((p, v) :: E0) { tmps := (r.params.zip [v].toArray).foldl (fun tmps (t, a) => tmps.setIfInBounds t a) r.tmps, defers := [] } := by
    rw [h4, hps]
    rw [hx] at h8
    have := h8.put (show p < nn by simpa [Nat.blt_eq] using hp) v
    have e : (#[p].zip [v].toArray).foldl (fun tmps (t, a) => tmps.setIfInBounds t a) r.tmps = r.tmps.setIfInBounds p v := by simp
    rw [e]
    exact ⟨this.size, rfl, this.get⟩
  rw [h5, h6, show x.assign = assign by rw [hx], show x.body = body by rw [hx]]
  refine wpIn_mono (ha _ w hA hS) ?_
  intro e a1 w1 hq
  cases e <;> try exact hq
  obtain ⟨hA1, hS1⟩ := hq
  obtain ⟨r1, g1, g2, g3, _⟩ := Lo.at_ hS1 s1
  refine ⟨_, run_beginRound g1 g2, hb a1 _ hA1 ?_⟩
  have := Lo.set (st' := .busy) (pe' := pe) hS1 hr g1
  rw [← g3] at this
  exact this
theorem AtQ.rnd_n {l : Nat} {x : Lp} {pe : Option Code} {H' : List HP} {Post : Bool → List HP → Prop} (hr : Rep H (Lo l .busy pe x) (Lo l .ready none x) H') (hp : Post true H') : AtQ B n E H (RndQ B P l Post) .normal := fun a w _ hS => by
  obtain ⟨R, s1, _⟩ := hr.sel
  obtain ⟨r, h1, _⟩ := Lo.at_ hS s1
  exact ⟨_, _, run_endRound none h1, true, H', rfl, hp, Lo.set hS hr h1⟩
theorem AtQ.rnd_ret {l : Nat} {x : Lp} {pe : Option Code} {H' : List HP} {Post : Bool → List HP → Prop} (hr : Rep H (Lo l .busy pe x) (Lo l .done (some .ret) x) H') (hp : Post false H') : AtQ B n E H (RndQ B P l Post) .ret := fun a w _ hS => by
  obtain ⟨R, s1, _⟩ := hr.sel
  obtain ⟨r, h1, _⟩ := Lo.at_ hS s1
  exact ⟨_, _, run_endRound (some .ret) h1, false, H', rfl, hp, Lo.set hS hr h1⟩
theorem AtQ.rnd_exit {l id : Nat} {x : Lp} {pe : Option Code} {H' : List HP} {Post : Bool → List HP → Prop} (hr : Rep H (Lo l .busy pe x) (Lo l .done (some (.exit id)) x) H') (hp : Post false H') : AtQ B n E H (RndQ B P l Post) (.exit id) := fun a w _ hS => by
  obtain ⟨R, s1, _⟩ := hr.sel
  obtain ⟨r, h1, _⟩ := Lo.at_ hS s1
  exact ⟨_, _, run_endRound (some (.exit id)) h1, false, H', rfl, hp, Lo.set hS hr h1⟩

/-! ### a list of operations with a call of yield in it -/
/-- What stands behind the operations ahead of a call of yield. -/
def RyQ (P : Program) (n : Fm) (l0 rest : List Oper) (Q : Exit → Act → World → Prop) : Exit → Act → World → Prop := Exit.then (fun a w => wpListIn n.fence 0 P l0.toArray Q rest a w) Q
theorem wpN_app {ops : Array Oper} (hro : n.ro = none) : ∀ (l l2 : List Oper) (a : Act) (w : World), wpN P ops (Exit.then (fun a w => wpListIn n.fence 0 P ops Q l2 a w) Q) l a w → wpListIn n.fence 0 P ops Q (l ++ l2) a w
  | [], _, _, _, h => h
  | o :: rest, l2, a, w, h => by
    unfold wpN at h
    rw [List.cons_append]
    unfold wpListIn
    split
    · rename_i hw
      rw [if_pos hw] at h
      exact wpIn_of n (.inl hro) (fun a w h => wpN_app hro rest l2 a w h) (wpO_mono (Q' := Q) (fun c a w hq => hq) (fun ⟨a, w, hq⟩ => ⟨a, w, hq⟩) h)
    · rename_i hw
      rw [if_neg hw] at h
      exact ⟨fun _ _ => trivial, wpN_app hro rest l2 _ _ h⟩
/-- A region whose operation number k is a call of yield. -/
theorem CT.regionY {id : Nat} {l : List Oper} (k : Nat) (hro : n.ro = none) (h : RT B P n true l (l.take k) E H (RyQ P n l (l.drop k) Q)) : CT B P n (.region id l.toArray false) E H Q := fun a w hA hS =>
  wpIn_region_lit (by have := wpN_app hro _ _ a w (h a w hA hS); rwa [List.take_append_drop] at this)
theorem AtQ.ry {d : Nat} {ty : TypeId} {pos : String} {af : Array Edge} {g : Option (Nat × Bool)} {ats : Array TypeId} {x y : Operand} {l : Nat} {v : Value} {Post : Bool → List HP → Prop} (hx : ev E x = some (.func (.yield l) #[] #[])) (hy : ev E y = some v)
    (hw : wt l0 E g = some true) (hd : Nat.blt d n = true) (hro : n.ro = none) (hY : YJ B P l [v] H Post) (k : ∀ b H', Post b H' → RT B P n true l0 rest ((d, .bool b) :: E) H' Q) :
    AtQ B n E H (RyQ P n l0 (⟨some d, .call { callee := .value x, args := #[y], argTypes := ats }, ty, pos, af, g⟩ :: rest) Q) .normal := fun a w hA hS => by
  obtain ⟨fn, tmps, assign, body, h1, h2⟩ := hY w hS
  show wpListIn n.fence 0 P l0.toArray Q _ a w
  unfold wpListIn
  rw [if_pos (wt_wanted hA (o := ⟨some d, .call { callee := .value x, args := #[y], argTypes := ats }, ty, pos, af, g⟩) hw)]
  refine ⟨fun _ _ => trivial, ?_⟩
  have hs : ∀ o : Oper, o.semAt n.fence.round a.eval = execOp a.eval o := fun o => by
    show o.semAt n.ro a.eval = _
    rw [hro, Oper.semAt_none]
  rw [hs]
  have he : (execOp a.eval ⟨some d, .call { callee := .value x, args := #[y], argTypes := ats }, ty, pos, af, g⟩).run P w = .ok (.round l fn tmps assign body) w := by
    unfold execOp
    simp only [resolve, Sem.run_bind, List.map_toArray, List.map_cons, List.map_nil, hA.ev hx, hA.ev hy, Deferred.ofValue, Sem.run_pure, Result.andThen_ok, invoke]
    simpa using h1
  rw [he]
  refine ⟨fun h => (by cases h), h2.mono ?_⟩
  rintro e w' ⟨b, H', rfl, hp, hS'⟩
  exact wpN_In n rest _ _ (.inl hro) (k b H' hp _ _ (hA.put (by simpa [Nat.blt_eq] using hd) _) hS')

/-! ### the statement -/
/-- What the iterator leaves: the record not busy; then on behind the statement, or by the round's jump. -/
def Lft (B : World) (P : Program) (n : Fm) (l : Nat) (x : Lp) (E : Env) (Q : Exit → Act → World → Prop) (H' : List HP) : Prop :=
  (∃ H1, Rep H' (Lo l .ready none x) (Lo l .exhausted none x) H1 ∧ AtQ B n E H1 Q .normal) ∨ ∃ c H1, Rep H' (Lo l .done (some c) x) (Lo l .exhausted (some c) x) H1 ∧ CT B P n c E H1 Q
theorem Lft.fin {l : Nat} {x : Lp} {H' H1 : List HP} (hr : Rep H' (Lo l .ready none x) (Lo l .exhausted none x) H1) (hq : AtQ B n E H1 Q .normal) : Lft B P n l x E Q H' := .inl ⟨H1, hr, hq⟩
theorem Lft.jmp {l : Nat} {x : Lp} {H' H1 : List HP} {c : Code} (hr : Rep H' (Lo l .done (some c) x) (Lo l .exhausted (some c) x) H1) (hq : CT B P n c E H1 Q) : Lft B P n l x E Q H' := .inr ⟨c, H1, hr, hq⟩
theorem left_run {l : Nat} {x : Lp} {H' : List HP} {a : Act} {w : World} {v : Value} (hA : Agr n E a) (h : Lft B P n l x E Q H') (hS : Sat B H' w) : rangePost n.fence 0 P l Q a (.returned v) w := by
  rcases h with ⟨H1, hr, hq⟩ | ⟨c, H1, hr, hq⟩
  · obtain ⟨R, s1, _⟩ := hr.sel
    obtain ⟨r, h1, h2, h3, _⟩ := Lo.at_ hS s1
    refine ⟨_, _, run_endLoop h1 (by rw [h2]; intro h; cases h), ?_⟩
    have hS' := Lo.set (st' := .exhausted) (pe' := none) hS hr h1
    rw [h3]
    rw [← h3] at hS'
    exact hq a _ hA (by rw [← h3] at *; exact hS')
  · obtain ⟨R, s1, _⟩ := hr.sel
    obtain ⟨r, h1, h2, h3, _⟩ := Lo.at_ hS s1
    refine ⟨_, _, run_endLoop h1 (by rw [h2]; intro h; cases h), ?_⟩
    have hS' := Lo.set (st' := .exhausted) (pe' := some c) hS hr h1
    rw [h3]
    rw [← h3] at hS'
    exact hq a _ hA (by rw [← h3] at *; exact hS')
end
end Go.Sk
