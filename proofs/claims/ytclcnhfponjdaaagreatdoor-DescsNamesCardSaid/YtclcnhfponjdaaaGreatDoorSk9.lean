/- Regions whose order is open and which turn the heap: pure operations are taken first, what turns the heap comes in its order. Plain theorems, no condition. -/
import Derived.Test.YtclcnhfponjdaaaGreatDoorSk8
import Derived.OrdersHeld
import Derived.StillTail
set_option linter.unusedVariables false
set_option linter.unusedSimpArgs false
namespace Go.Sk
open Go.RowKit

/-- Operations that hand back a value and leave the world alone, or fail. -/
def plainOp : Op → Bool
  | .move _ | .assign _ | .pick .. | .load .. | .binOp .. | .unOp .. | .convert .. | .slice .. | .fieldAddr .. | .field .. | .indexAddr .. | .index .. | .extract .. | .build .. => true
  | .nilCheck _ => true
  | .call c => match c.callee with
    | .builtin .len => true
    | .builtin .cap => true
    | _ => false
  | _ => false
section
variable {P : Program}
theorem v_val {s : Sem Value} {w w' : World} {r : Next} (hr : (do let x ← s; pure (Next.value x) : Sem Next).run P w = .ok r w') : ∃ v, r = .value v := by
  rw [Sem.run_bind] at hr
  cases h : s.run P w with
  | ok x w1 => rw [h] at hr; simp only [Result.andThen_ok, Sem.run_pure] at hr; cases hr; exact ⟨_, rfl⟩
  | halt x w1 => rw [h] at hr; simp [Result.andThen] at hr
theorem plain_val {o : Oper} (h : plainOp o.op = true) {ρ : Operand → Value} {w w' : World} {r : Next} (hr : (execOp ρ o).run P w = .ok r w') : ∃ v, r = .value v := by
  unfold execOp at hr
  cases ho : o.op <;> rw [ho] at h <;> simp only [plainOp] at h <;> try (cases h; done)
  all_goals simp only [ho] at hr
  case move => simp only [Sem.run_pure] at hr; cases hr; exact ⟨_, rfl⟩
  case assign => simp only [Sem.run_pure] at hr; cases hr; exact ⟨_, rfl⟩
  case pick c a b =>
    rw [Sem.run_bind] at hr
    cases h : (asBool (ρ c)).run P w with
    | ok x w1 => rw [h] at hr; simp only [Result.andThen_ok, Sem.run_pure] at hr; cases hr; exact ⟨_, rfl⟩
    | halt x w1 => rw [h] at hr; simp [Result.andThen] at hr
  case nilCheck x =>
    split at hr
    · simp [runtimePanic, Sem.run] at hr
    · simp [runtimePanic, Sem.run] at hr
    · simp [runtimePanic, Sem.run] at hr
    · split at hr
      · simp [runtimePanic, Sem.run] at hr
      · rw [Sem.run_bind] at hr
        revert hr
        generalize Sem.run P _ w = q
        intro hr
        cases q with
        | ok x w1 =>
          simp only [Result.andThen_ok] at hr
          rw [Sem.run_bind] at hr
          revert hr
          generalize Sem.run P _ w1 = q
          intro hr
          cases q with
          | halt x w1 => simp [Result.andThen] at hr
          | ok x w2 =>
          simp only [Result.andThen_ok] at hr
          split at hr
          · simp [unsupported, Sem.run] at hr
          · simp only [Sem.run_pure, Sem.run_bind, Result.andThen_ok] at hr; cases hr; exact ⟨_, rfl⟩
        | halt x w1 => simp [Result.andThen] at hr
      · simp only [Sem.run_pure] at hr; cases hr; exact ⟨_, rfl⟩
    · simp only [Sem.run_pure] at hr; cases hr; exact ⟨_, rfl⟩
  case call c =>
    cases hc : c.callee with
    | builtin b =>
      rw [hc] at h
      cases b <;> simp only at h <;> try (cases h; done)
      all_goals
        simp only [resolve, hc, Sem.run_bind, Sem.run_pure, Result.andThen_ok, invoke, builtin] at hr
        revert hr
        generalize Sem.run P _ w = q
        intro hr
        cases q with
        | ok x w1 => simp only [Result.andThen_ok] at hr; cases hr; exact ⟨_, rfl⟩
        | halt x w1 => simp [Result.andThen] at hr
    | invoke _ _ => rw [hc] at h; cases h
    | value _ => rw [hc] at h; cases h
  all_goals exact v_val hr

/-! ### whichever order is drawn: what must hold of the world as long as some operation has not come up -/
variable {ops : Array Oper} {Q : Exit → Act → World → Prop} {S : Array Bool → World → Prop}
def anyS (P : Program) (ops : Array Oper) (Q : Exit → Act → World → Prop) (S : Array Bool → World → Prop) : Nat → Array Bool → Act → World → Prop
  | 0, ls, a, w => Region.ready .any ops ls = [] ∧ Q .normal a w
  | k + 1, ls, a, w => (Region.ready .any ops ls = [] → Q .normal a w) ∧
    ∀ i ∈ Region.ready .any ops ls, wpOp P ops Q i (fun a' w' => S (ls.setIfInBounds i true) w' ∧ anyS P ops Q S k (ls.setIfInBounds i true) a' w') a w
theorem anyS_any : ∀ (k : Nat) (ls : Array Bool) (a : Act) (w : World), anyS P ops Q S k ls a w → wpAny P .any ops Q k ls a w
  | 0, _, _, _, h => h
  | k + 1, _, _, _, h => ⟨h.1, fun i hi => wpOp_mono (fun a' w' h' => anyS_any k _ a' w' h'.2) (h.2 i hi)⟩
/-- What has come up, all that it waits for has come up. -/
def Clos (ops : Array Oper) (ls : Array Bool) : Prop := ∀ j oj, ops[j]? = some oj → ls.getD j false = true → ∀ e ∈ oj.after, Region.binds .any e = true → ls.getD e.on false = true
theorem Clos.set {ls : Array Bool} {i : Nat} (h : Clos ops ls) (hi : i ∈ Region.ready .any ops ls) : Clos ops (ls.setIfInBounds i true) := by
  obtain ⟨_, oi, hoi, hall⟩ := mem_ready.1 hi
  intro j oj hj hl e he hb
  by_cases hij : i = j
  · subst hij
    rw [hoi] at hj
    cases hj
    exact getD_set_true (hall e he hb)
  · rw [getD_set_ne false hij] at hl
    exact getD_set_true (h j oj hj hl e he hb)
theorem Clos.none_ (k : Nat) : Clos ops (Array.replicate k false) := fun j _ _ hl => by
  rcases Nat.lt_or_ge j k with h | h <;> simp [h] at hl
def closB (ops : Array Oper) (ls : Array Bool) : Bool := (List.range ops.size).all fun j => match ops[j]? with
  | some oj => !ls.getD j false || oj.after.all fun e => !Region.binds .any e || ls.getD e.on false
  | none => true
theorem Clos.ofB {ls : Array Bool} (h : closB ops ls = true) : Clos ops ls := by
  intro j oj hj hl e he hb
  have h1 := List.all_eq_true.1 h j (List.mem_range.2 (Array.getElem?_eq_some_iff.1 hj).1)
  simp only [hj, hl, Bool.not_true, Bool.false_or] at h1
  have h2 := Array.all_eq_true'.1 h1 e he
  simpa [hb] using h2
/-- An operation that may come up and hands back v, come what may ahead of it, is taken first. -/
theorem anyS_first {T : World → Prop} {i : Nat} {oi : Oper} {v : Value} (hi : ops[i]? = some oi) (hsel : Region.noSelect ops = true) (hQ : ∀ c a w, ¬ Q (.panic c) a w)
    (hT : ∀ ls w, Clos ops ls → ls.getD i true = false → S ls w → T w) (hSi : ∀ ls w, S (ls.setIfInBounds i true) w → S ls w) (hSi' : ∀ ls w, S ls w → S (ls.setIfInBounds i true) w) :
    ∀ (k : Nat) (ls : Array Bool) (a : Act) (w : World), Clos ops ls →
      (∀ j oj, ops[j]? = some oj → j ≠ i → ls.getD j true = false → (∀ e ∈ oj.after, Region.binds .any e = true → e.on ≠ i) → oi.apart ops oj = true) →
      i ∈ Region.ready .any ops ls → YieldsIf P ops T oi v a → S ls w → anyS P ops Q S k (ls.setIfInBounds i true) (a.put oi.dst v) w → anyS P ops Q S (k + 1) ls a w := by
  have hno := Region.noSelect_spec hsel
  intro k
  induction k with
  | zero =>
    intro ls a w hc _ hr hy hS h
    refine ⟨fun e => (by rw [e] at hr; cases hr), fun j hj => ?_⟩
    have hji : j = i := by
      by_cases e : j = i
      · exact e
      · have := ready_mono hj e
        rw [h.1] at this
        cases this
    subst hji
    exact hy.wpOp hi (hT _ _ hc (mem_ready.1 hr).1 hS) ⟨hSi' _ _ hS, h⟩
  | succ k ih =>
    intro ls a w hc hfree hr hy hS h
    refine ⟨fun e => (by rw [e] at hr; cases hr), fun j hj => ?_⟩
    by_cases hji : j = i
    · subst hji
      exact hy.wpOp hi (hT _ _ hc (mem_ready.1 hr).1 hS) ⟨hSi' _ _ hS, h⟩
    · obtain ⟨hjun, oj, hoj, hall⟩ := mem_ready.1 hj
      have hiun := (mem_ready.1 hr).1
      have hnot : ∀ e ∈ oj.after, Region.binds .any e = true → e.on ≠ i := fun e he hb heq => by
        have h1 := hall e he hb
        rw [heq] at h1
        rcases Nat.lt_or_ge i ls.size with h' | h'
        · simp [h'] at hiun h1; rw [hiun] at h1; cases h1
        · simp [Array.getElem?_eq_none h'] at h1
      have h2 := wpOp_putIf hoj (hfree j oj hoj hji hjun hnot) (fun cs b => hno i oi cs b hi) (fun cs b => hno j oj cs b hoj) (fun c a w hq => absurd hq (hQ c _ w)) hy (h.2 j (ready_mono hj hji))
      refine wpOp_mono (fun a' w' h3 => ?_) h2
      have hS' : S (ls.setIfInBounds j true) w' := hSi _ _ (by rw [← Array.setIfInBounds_comm _ _ hji] at h3 <;> first | exact h3.2.1 | skip)
      refine ⟨hS', ih (ls.setIfInBounds j true) a' w' (hc.set hj) (fun l ol hol hli hun hno => ?_) (ready_mono hr (Ne.symm hji)) h3.1 hS' ?_⟩
      · refine hfree l ol hol hli ?_ hno
        by_cases hjl : j = l
        · subst hjl; exact hjun
        · rw [getD_set_ne true hjl] at hun; exact hun
      · rw [Array.setIfInBounds_comm _ _ hji]
        exact h3.2.2
/-- Each but the last is waited for by a later one. -/
def sinkB (ops : Array Oper) : List Nat → Bool
  | [] => true
  | i :: L => (L.isEmpty || L.any fun k => Region.waitsFor .any ops k i) && sinkB ops L
theorem sink_all {e : Nat} {ls : Array Bool} (hc : Clos ops ls) (he : ls.getD e false = true) : ∀ (L : List Nat), sinkB ops L = true → L.getLast? = some e → ∀ i ∈ L, ls.getD i false = true
  | [], _, h, _, _ => by cases h
  | [i], _, h, j, hj => by
    simp only [List.getLast?_singleton, Option.some.injEq] at h
    simp only [List.mem_singleton] at hj
    subst hj; subst h; exact he
  | i :: k :: L, hs, h, j, hj => by
    simp only [sinkB, Bool.and_eq_true] at hs
    have ih := sink_all hc he (k :: L) (by simp only [sinkB, Bool.and_eq_true]; exact hs.2) (by rw [List.getLast?_cons_cons] at h; exact h)
    rcases List.mem_cons.1 hj with rfl | hj
    · have h1 := hs.1
      simp only [List.isEmpty_cons, Bool.false_or] at h1
      obtain ⟨y, hy, hw⟩ := List.any_eq_true.1 h1
      obtain ⟨oj, hoj, ed, hed, hb, heq⟩ := Region.waitsFor_spec hw
      have := hc y oj hoj (ih y hy) ed hed hb
      rwa [heq] at this
    · exact ih j hj
def takesB (ops : Array Oper) (e : Nat) : Array Bool → List Nat → Bool
  | _, [] => true
  | ls, i :: L => (Region.ready .any ops ls).contains i && Region.free .any ops ls i && !(i == e) && ((ops[i]?).map fun o => plainOp o.op).getD false && takesB ops e (ls.setIfInBounds i true) L
def opsAt (l : List Oper) : List Nat → List Oper
  | [] => []
  | i :: L => match l[i]? with
    | some o => o :: opsAt l L
    | none => opsAt l L
def tick : Array Bool → List Nat → Array Bool
  | ls, [] => ls
  | ls, i :: L => tick (ls.setIfInBounds i true) L
theorem anyS_takes {B : World} {HR : List HP} {e : Nat} {l : List Oper} (hsel : Region.noSelect l.toArray = true) (hQ : ∀ c a w, ¬ Q (.panic c) a w) {k : Nat} (tl : List Nat) {K : Act → Prop} :
    ∀ (L : List Nat) (ls : Array Bool) (a : Act) (w : World), takesB l.toArray e ls L = true → sinkB l.toArray (L ++ tl) = true → (L ++ tl).getLast? = some e → Clos l.toArray ls →
      wpQuiet P l.toArray (Sat B HR) K (opsAt l L) a → Sat B HR w → (∀ a', K a' → anyS P l.toArray Q (fun ls w => ls.getD e false = false → Sat B HR w) k (tick ls L) a' w) →
      anyS P l.toArray Q (fun ls w => ls.getD e false = false → Sat B HR w) (L.length + k) ls a w
  | [], ls, a, w, _, _, _, _, hq, _, hk => by
    have := hk a hq
    rwa [List.length_nil, Nat.zero_add]
  | i :: L, ls, a, w, ht, hs, hl, hc, hq, hw, hk => by
    have hs' := hs
    simp only [takesB, Bool.and_eq_true, Bool.not_eq_true', beq_eq_false_iff_ne] at ht
    obtain ⟨⟨⟨⟨hr, hf⟩, hie⟩, hpl⟩, ht⟩ := ht
    cases ho : l[i]? with
    | none => simp [ho] at hpl
    | some o =>
      have ho' : l.toArray[i]? = some o := by simpa using ho
      rw [ho'] at hpl
      simp only [Option.map_some, Option.getD_some] at hpl
      have hri : i ∈ Region.ready .any l.toArray ls := by simpa using hr
      simp only [opsAt, ho, wpQuiet] at hq
      have hyk : ∃ v, YieldsIf P l.toArray (Sat B HR) o v a ∧ wpQuiet P l.toArray (Sat B HR) K (opsAt l L) (a.put o.dst v) := by
        split at hq
        · rename_i hwt
          obtain ⟨v, hv, hn⟩ := hq
          refine ⟨v, .inl ⟨hwt, fun w' hw' => ?_⟩, hn⟩
          have h1 := hv w' hw'
          unfold Oper.quietAt at h1
          cases hr1 : (execOp a.eval o).run P w' with
          | halt x w2 => rw [hr1] at h1; exact h1.elim
          | ok x w2 =>
            obtain ⟨u, rfl⟩ := plain_val hpl hr1
            rw [hr1] at h1
            obtain ⟨rfl, rfl⟩ := h1
            rfl
        · rename_i hwt
          exact ⟨undef, .inr ⟨by simpa using hwt, rfl⟩, hq⟩
      obtain ⟨v, hy, hn⟩ := hyk
      have hs2 : sinkB l.toArray (L ++ tl) = true := by
        simp only [List.cons_append, sinkB, Bool.and_eq_true] at hs
        exact hs.2
      have hne : L ++ tl ≠ [] := by
        intro h0
        rw [List.cons_append, h0] at hl
        simp only [List.getLast?_singleton, Option.some.injEq] at hl
        exact hie hl
      have hl2 : (L ++ tl).getLast? = some e := by
        rw [List.cons_append] at hl
        obtain ⟨y, M, hM⟩ := List.exists_cons_of_ne_nil hne
        rw [hM] at hl ⊢
        rwa [List.getLast?_cons_cons] at hl
      rw [List.length_cons, show L.length + 1 + k = (L.length + k) + 1 by omega]
      refine anyS_first (T := Sat B HR) ho' hsel hQ (fun ls' w' hc' hun hS => hS ?_) (fun ls' w' hS he => hS (by rw [getD_set_ne false hie]; exact he)) (fun ls' w' hS he => hS (by rw [getD_set_ne false hie] at he; exact he)) _ ls a w hc
        (Region.free_spec ho' hf) hri hy (fun _ => hw) (anyS_takes hsel hQ tl L _ _ w ht hs2 hl2 (hc.set hri) hn hw hk)
      cases hec : ls'.getD e false with
      | false => rfl
      | true =>
        have h1 := sink_all hc' hec _ hs' hl i (by simp)
        rcases Nat.lt_or_ge i ls'.size with h' | h'
        · simp [h'] at hun h1; rw [hun] at h1; cases h1
        · simp [Array.getElem?_eq_none h'] at h1
end

theorem Sat.ones {B : World} {H Ps R : List HP} {w : World} (f : Fr H Ps R) (s : Sat B H w) : Sat B Ps w := by
  obtain ⟨h, a, hs⟩ := (s.fr f).heap
  obtain ⟨h1, h2, _, l1, _, sA, _⟩ := star_split _ _ h hs
  exact { s with heap := ⟨h1, fun b o e => a b o (l1 b o e), sA⟩ }
section
variable {P : Program} {B : World} {n : Fm} {E : Env} {H HR : List HP} {Q : Exit → Act → World → Prop}
/-- Only the end without a panic. -/
def NoPan (Q : Exit → Act → World → Prop) : Exit → Act → World → Prop := fun ex a w => ex = .normal ∧ Q .normal a w
def SF (B : World) (HR : List HP) (e : Nat) : Array Bool → World → Prop := fun ls w => ls.getD e false = false → Sat B HR w
/-- A region whose order is open, so much of it having come up. HR holds till e has come up. -/
def DT (B : World) (P : Program) (n : Fm) (l : List Oper) (HR : List HP) (e : Nat) (k : Nat) (ls : Array Bool) (E : Env) (H : List HP) (Q : Exit → Act → World → Prop) : Prop :=
  ∀ a w, Agr n E a → Sat B H w → anyS P l.toArray (NoPan Q) (SF B HR e) k ls a w
theorem CT.drawn {id : Nat} {l : List Oper} (HR : List HP) (e : Nat) (hm : P.follows .mixedOrders = true) (h : DT B P n l HR e l.length (Array.replicate l.length false) E H Q) (hro : n.ro = none := by rfl) : CT B P n (.region id l.toArray true) E H Q := by
  intro a w hA hS
  rw [Fm.wide hro]
  refine wpIn_wide.2 ?_
  refine wp_mono (Q := NoPan Q) ?_ (fun ex a w ⟨h1, h2⟩ => by subst h1; exact h2)
  refine wp_region_any hm (anyS_any (S := SF B HR e) _ _ _ _ ?_)
  have := h a { w with drawn := w.drawn + 1 } hA (hS.drawn _)
  simpa using this
/-- What stands behind the operations that were taken first. -/
def TakeQ (B : World) (P : Program) (l : List Oper) (HR H : List HP) (e : Nat) (k : Nat) (ls : Array Bool) (Q : Exit → Act → World → Prop) : Exit → Act → World → Prop := fun ex a _ =>
  match ex with
  | .normal => ∀ w, Sat B H w → anyS P l.toArray (NoPan Q) (SF B HR e) k ls a w
  | _ => False
theorem DT.takes {l : List Oper} {e k : Nat} {ls : Array Bool} (L tl : List Nat) (hm : ∀ w, Sat B H w → Sat B HR w) (hsel : Region.noSelect l.toArray = true) (ht : takesB l.toArray e ls L = true) (hs : sinkB l.toArray (L ++ tl) = true)
    (hl : (L ++ tl).getLast? = some e) (hc : Clos l.toArray ls) (h : RT B P n false l (opsAt l L) E HR (TakeQ B P l HR H e k (tick ls L) Q)) : DT B P n l HR e (L.length + k) ls E H Q := by
  intro a w hA hS
  exact anyS_takes (B := B) (HR := HR) (Q := NoPan Q) hsel (fun c a w hq => by cases hq.1) tl L ls a w ht hs hl hc (h a hA) (hm w hS) (fun a' hk => hk w (hm w hS) w hS)
theorem AtQ.take {l : List Oper} {e k : Nat} {ls : Array Bool} (h : DT B P n l HR e k ls E H Q) : AtQ B n E HR (TakeQ B P l HR H e k ls Q) .normal := fun a _ hA _ w hS => h a w hA hS
/-- What stands behind an operation that turned the heap. -/
def EffQ (B : World) (P : Program) (l : List Oper) (HR : List HP) (e : Nat) (k : Nat) (ls : Array Bool) (Q : Exit → Act → World → Prop) : Exit → Act → World → Prop := fun ex a w =>
  match ex with
  | .normal => SF B HR e ls w ∧ anyS P l.toArray (NoPan Q) (SF B HR e) k ls a w
  | _ => False
theorem wpO_mono {o : Oper} {a : Act} {w : World} {K : Act → World → Prop} {Q Q' : Exit → Act → World → Prop} (hQ : ∀ c a w, Q (.panic c) a w → Q' (.panic c) a w) (hL : LetsOut Q → LetsOut Q') (h : o.wp P a w K Q) : o.wp P a w K Q' := by
  unfold Oper.wp at *
  generalize (execOp a.eval o).run P w = r at *
  cases r with
  | ok x w' =>
    cases x <;> simp only [Oper.upon] at h ⊢ <;> try exact h
    all_goals exact Calls.mono h (fun e w'' he => by
      cases e with
      | returned v => exact he
      | panicked c => exact hQ _ _ _ he
      | outgrown => exact hL he)
  | halt x w' => cases x <;> simp only [Oper.upon] at h ⊢ <;> first | exact h | exact hQ _ _ _ h
theorem DT.eff {l : List Oper} {e k : Nat} {ls : Array Bool} (i : Nat) {o : Oper} (ho : l[i]? = some o) (hr : Region.ready .any l.toArray ls = [i])
    (h : RT B P n true l [o] E H (EffQ B P l HR e k (ls.setIfInBounds i true) Q)) : DT B P n l HR e (k + 1) ls E H Q := by
  intro a w hA hS
  refine ⟨fun h0 => (by rw [hr] at h0; cases h0), fun j hj => ?_⟩
  rw [hr, List.mem_singleton] at hj
  subst hj
  have h1 := h a w hA hS
  have ho' : l.toArray[j]? = some o := by simpa using ho
  unfold wpOp
  simp only [ho']
  unfold wpN at h1
  split at h1
  · rename_i hw
    rw [if_pos hw]
    · exact .inl (wpO_mono (Q := EffQ B P l HR e k (ls.setIfInBounds j true) Q) (fun c a w hq => False.elim hq) (fun ⟨_, _, hq⟩ => False.elim hq) (Oper.wp_mono (fun a w hk => hk) h1))
  · rename_i hw
    rw [if_neg hw]
    exact h1
theorem AtQ.eff {l : List Oper} {e k : Nat} {ls : Array Bool} (hm : ∀ w, Sat B H w → Sat B HR w) (h : DT B P n l HR e k ls E H Q) : AtQ B n E H (EffQ B P l HR e k ls Q) .normal := fun a w hA hS => ⟨fun _ => hm w hS, h a w hA hS⟩
theorem AtQ.eff' {l : List Oper} {e k : Nat} {ls : Array Bool} (he : ls.getD e false = true) (h : DT B P n l HR e k ls E H Q) : AtQ B n E H (EffQ B P l HR e k ls Q) .normal := fun a w hA hS => ⟨fun h0 => (by rw [he] at h0; cases h0), h a w hA hS⟩
theorem DT.done {l : List Oper} {e k : Nat} {ls : Array Bool} (hr : Region.ready .any l.toArray ls = []) (h : AtQ B n E H Q .normal) : DT B P n l HR e k ls E H Q := by
  intro a w hA hS
  cases k with
  | zero => exact ⟨hr, rfl, h a w hA hS⟩
  | succ k => exact ⟨fun _ => ⟨rfl, h a w hA hS⟩, fun i hi => by rw [hr] at hi; cases hi⟩
end
end Go.Sk
