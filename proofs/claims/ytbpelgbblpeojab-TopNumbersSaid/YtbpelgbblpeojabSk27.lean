/- Loops and joints whose states bear marks; functions as values. Plain theorems, no condition. -/
import Derived.Test.YtbpelgbblpeojabSk26
set_option linter.unusedVariables false
set_option linter.unusedSimpArgs false
namespace Go.Sk
open Go.RowKit
section
variable {B : World} {P : Program} {n : Fm} {E : Env} {H : List HP} {Q : Exit → Act → World → Prop} {c : Code}
def LoopM {α : Type} (B : World) (nf : α → Fm) (f : α → Env) (g : α → List HP) (μ : α → Nat) (x : α) (Q : Exit → Act → World → Prop) : Exit → Act → World → Prop :=
  Exit.then (fun a w => ∃ y, Agr (nf y) (f y) a ∧ Sat B (g y) w ∧ μ y < μ x) Q
theorem AtQ.loopM {α : Type} {nf : α → Fm} {f : α → Env} {g : α → List HP} {μ : α → Nat} {x : α} (y : α) (hn : n = nf y) (hE : subB E (f y)) (hH : ∀ w, Sat B H w → Sat B (g y) w) (hμ : μ y < μ x) : AtQ B n E H (LoopM B nf f g μ x Q) .normal :=
  fun _ w hA hS => ⟨y, by rw [← hn]; exact hA.sub hE.sub, hH w hS, hμ⟩
theorem AtQ.loopM_exit {α : Type} {nf : α → Fm} {f : α → Env} {g : α → List HP} {μ : α → Nat} {x : α} {id : Nat} (h : AtQ B n E H Q (.exit id)) : AtQ B n E H (LoopM B nf f g μ x Q) (.exit id) := h
theorem AA {α : Type} {nf : α → Fm} {f : α → Env} {g : α → List HP} {μ : α → Nat} {x : α} {id : Nat} (h : AtQ B n E H Q (.exit id)) : AtQ B n E H (LoopM B nf f g μ x Q) (.exit id) := AtQ.loopM_exit h
theorem AtQ.loopM_ret {α : Type} {nf : α → Fm} {f : α → Env} {g : α → List HP} {μ : α → Nat} {x : α} (h : AtQ B n E H Q .ret) : AtQ B n E H (LoopM B nf f g μ x Q) .ret := h
theorem AB {α : Type} {nf : α → Fm} {f : α → Env} {g : α → List HP} {μ : α → Nat} {x : α} (h : AtQ B n E H Q .ret) : AtQ B n E H (LoopM B nf f g μ x Q) .ret := AtQ.loopM_ret h
def CutM {α : Sort _} (B : World) (nf : α → Fm) (f : α → Env) (g : α → List HP) (Q : Exit → Act → World → Prop) : Exit → Act → World → Prop := Exit.then (fun a w => ∃ x, Agr (nf x) (f x) a ∧ Sat B (g x) w) Q
theorem AtQ.cutM {α : Sort _} {nf : α → Fm} {f : α → Env} {g : α → List HP} (y : α) (hn : n = nf y) (hE : subB E (f y)) (hH : ∀ w, Sat B H w → Sat B (g y) w) : AtQ B n E H (CutM B nf f g Q) .normal :=
  fun _ w hA hS => ⟨y, by rw [← hn]; exact hA.sub hE.sub, hH w hS⟩
theorem AtQ.cutM_exit {α : Sort _} {nf : α → Fm} {f : α → Env} {g : α → List HP} {id : Nat} (h : AtQ B n E H Q (.exit id)) : AtQ B n E H (CutM B nf f g Q) (.exit id) := h
theorem AC {α : Sort _} {nf : α → Fm} {f : α → Env} {g : α → List HP} {id : Nat} (h : AtQ B n E H Q (.exit id)) : AtQ B n E H (CutM B nf f g Q) (.exit id) := AtQ.cutM_exit h
theorem AtQ.cutM_ret {α : Sort _} {nf : α → Fm} {f : α → Env} {g : α → List HP} (h : AtQ B n E H Q .ret) : AtQ B n E H (CutM B nf f g Q) .ret := h
theorem AD {α : Sort _} {nf : α → Fm} {f : α → Env} {g : α → List HP} (h : AtQ B n E H Q .ret) : AtQ B n E H (CutM B nf f g Q) .ret := AtQ.cutM_ret h
theorem CT.loopM {α : Type} (nf : α → Fm) (f : α → Env) (g : α → List HP) (μ : α → Nat) (x0 : α) (hn : n = nf x0) (hro : ∀ x, (nf x).ro = n.ro) (hE : subB E (f x0)) (hH : ∀ w, Sat B H w → Sat B (g x0) w)
    (round : ∀ x, CT B P (nf x) c (f x) (g x) (LoopM B nf f g μ x Q)) : CT B P n (.loop c) E H Q := by
  classical
  intro a w hA hS
  let S : Act → World → Nat → Prop := fun a w k => ∃ x, Agr (nf x) (f x) a ∧ Sat B (g x) w ∧ μ x = k
  let I : Act → World → Prop := fun a w => ∃ k, S a w k
  let M : Act → World → Nat := fun a w => if h : ∃ k, S a w k then Classical.choose (least_ h) else 0
  refine wpIn_loop I M ⟨_, x0, by rw [← hn]; exact hA.sub hE.sub, hH w hS, rfl⟩ ?_
  intro a w hI
  have hM : M a w = Classical.choose (least_ hI) := by simp only [M]; rw [dif_pos hI]
  obtain ⟨x, hx, hs, hk⟩ := (Classical.choose_spec (least_ hI)).1
  have hr := round x a w hx hs
  rw [Fm.fence_eq (hro x)] at hr
  refine wpIn_mono hr ?_
  intro e a' w' hq
  cases e <;> try exact hq
  obtain ⟨y, hy, hs', hlt⟩ := hq
  have hI' : ∃ k, S a' w' k := ⟨_, y, hy, hs', rfl⟩
  refine ⟨hI', ?_⟩
  have h1 : M a' w' = Classical.choose (least_ hI') := by simp only [M]; rw [dif_pos hI']
  have h2 : Classical.choose (least_ hI') ≤ μ y := (Classical.choose_spec (least_ hI')).2 _ ⟨y, hy, hs', rfl⟩
  omega
/-- The ways through c meet again in the states x, with marks of their own. -/
theorem CT.cutM {α : Sort _} (nf : α → Fm) (f : α → Env) (g : α → List HP) (hc : CT B P n c E H (CutM B nf f g Q)) (hk : ∀ x, AtQ B (nf x) (f x) (g x) Q .normal) : CT B P n c E H Q := by
  intro a w hA hS
  refine wpIn_mono (hc a w hA hS) ?_
  intro e a' w' hq
  cases e <;> try exact hq
  obtain ⟨x, hx, hs⟩ := hq
  exact hk x a' w' hx hs
end
section
variable {B : World} {P : Program} {n : Fm} {m : Bool} {l0 rest : List Oper} {E : Env} {H R : List HP} {Q : Exit → Act → World → Prop} (T : Tab P) {d : Nat} {ty t t' : TypeId} {pos : String} {af : Array Edge} {g : Option (Nat × Bool)} {x y : Operand}
theorem calls_at {f : FuncId} {bb : Bool} (h : al T.funs f = some bb) : ∀ args w, (callFunc f args).run P w = .ok (.enter f args) w := fun args w => T.funs_ok (f, bb) (al_mem h) args w
theorem RT.mkF {fn : Fn} {xs : List Operand} {vs : List Value} (hv : evs E xs = some vs) (hw : wt l0 E g = some true) (hd : Nat.blt d n.n = true)
    (k : RT B P n m l0 rest ((d, .func fn #[] vs.toArray) :: E) H Q) : RT B P n m l0 (⟨some d, .makeFunc fn #[] xs.toArray, ty, pos, af, g⟩ :: rest) E H Q := by
  have hy2 : Yld B P n E H (.makeFunc fn #[] xs.toArray) ty (.func fn #[] vs.toArray) := y_run fun o aa w ho _ hA _ => by
    have hm : xs.map aa.eval = vs := hA.evs hv
    unfold execOp
    simp only [ho, Instr.makeFunc, List.map_toArray, hm, Sem.run_bind, Sem.run_pure, Result.andThen_ok]
    rfl
  exact RT.y hw (by simpa [Nat.blt_eq] using hd) hy2 k
theorem knd_func {t : Nat} (h : knd P t = some 5) : ∃ ps rs v, P.underlying t = some (.func ps rs v) := by
  unfold knd at h
  split at h
  · split at h <;> simp at h
  all_goals first | (rename_i a b c hu; exact ⟨a, b, c, hu⟩) | (simp at h; done) | cases h
theorem run_fnil {w : World} {t : TypeId} {ps rs : Array TypeId} {v : Bool} (hu : P.underlying t = some (.func ps rs v)) (f : Fn) (a b : Array Value) : (Op.equal t (.func f a b) .nilFunc).run P w = .ok false w :=
  run_eqv fun d => by simp only [Op.equalIn, Sem.run_bind, run_underlying hu, Result.andThen_ok]; rfl
theorem RT.fnil {f : Fn} {a b : Array Value} (hx : ev E x = some (.func f a b)) (hy : ev E y = some .nilFunc) (ht : al T.kinds t = some 5) (hw : wt l0 E g = some true) (hd : Nat.blt d n.n = true)
    (k1 : RT B P n m l0 rest ((d, .bool false) :: E) H Q) : RT B P n m l0 (⟨some d, .binOp .eql t x y t', ty, pos, af, g⟩ :: rest) E H Q := by
  have hy2 : Yld B P n E H (.binOp .eql t x y t') ty (.bool false) := y_run fun o aa w ho _ hA _ => by
    obtain ⟨ps, rs, v, hu⟩ := knd_func (T.kind ht)
    have h1 : binOp .eql t (.func f a b) .nilFunc = (do pure (.bool (← Op.equal t (.func f a b) .nilFunc))) := rfl
    have h2 : eqGuard .eql t x y (.func f a b) .nilFunc = pure () := rfl
    unfold execOp
    simp only [ho, hA.ev hx, hA.ev hy, h1, h2, Sem.run_bind, Sem.run_pure, Result.andThen_ok, run_fnil hu]
  exact RT.y hw (by simpa [Nat.blt_eq] using hd) hy2 k1
end
end Go.Sk
