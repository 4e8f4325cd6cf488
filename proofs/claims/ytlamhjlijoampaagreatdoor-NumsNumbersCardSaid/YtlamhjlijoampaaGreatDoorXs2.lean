/- The heap told by names, and when a world is so. Plain theorems, no condition. -/
import Derived.Test.YtlamhjlijoampaaGreatDoorXs1
set_option linter.unusedVariables false
set_option linter.unusedSimpArgs false
namespace Go.Xs
open Go.RowKit

inductive SObj where
  /-- just these cells -/
  | cells (l : List Value) (e : TypeId)
  /-- these cells, then room for more: ρ.c elements of sz cells in all -/
  | grow (l : List Value) (e : TypeId) (sz : Nat)
  /-- these cells, then others, marked: they are only read -/
  | ro (l : List Value) (e : TypeId)
  | map (es : List MapEntry) (clock : Nat)
  | strIter (s : ByteArray) (pos : Nat)

def renE (ρ : Val) (x : MapEntry) : MapEntry := { x with key := ren ρ x.key, val := ren ρ x.val }
def SObj.is (ρ : Val) (nm : Nat) : SObj → Obj → Prop
  | .cells l e, o => o = .cells (renL ρ l).toArray e (0, 0)
  | .grow l e sz, o => ∃ tail, o = .cells (renL ρ l ++ tail).toArray e (0, 0) ∧ (renL ρ l ++ tail).length = ρ.c nm * sz ∧ ρ.c nm ≤ maxLen
  | .ro l e, o => ∃ tail fz, o = .cells (renL ρ l ++ tail).toArray e fz
  | .map es ck, o => o = .map (es.map (renE ρ)).toArray ck
  | .strIter s p, o => o = .stringIter s p
def wfo (n : Nat) : SObj → Bool
  | .cells l _ => wfL n l
  | .grow l _ _ => wfL n l
  | .ro l _ => wfL n l
  | .map es _ => es.all fun x => wfv n x.key && wfv n x.val
  | .strIter _ _ => true
theorem wfo_mono {n m : Nat} (h : n ≤ m) : ∀ (o : SObj), wfo n o = true → wfo m o = true
  | .cells l _ => wfL_mono h l
  | .grow l _ _ => wfL_mono h l
  | .ro l _ => wfL_mono h l
  | .map es _ => by
    simp only [wfo, List.all_eq_true, Bool.and_eq_true]
    exact fun hh x hx => ⟨wfv_mono h _ (hh x hx).1, wfv_mono h _ (hh x hx).2⟩
  | .strIter _ _ => fun h => h
theorem is_ext {n : Nat} {ρ ρ' : Val} (h : Ext n ρ ρ') {nm : Nat} (hn : nm < n) : ∀ {o : SObj} {ob : Obj}, wfo n o = true → o.is ρ nm ob → o.is ρ' nm ob
  | .cells l e, ob, hw, hi => by simp only [SObj.is, renL_ext h l hw] at hi ⊢; exact hi
  | .grow l e sz, ob, hw, hi => by simp only [SObj.is, renL_ext h l hw, (h nm hn).2] at hi ⊢; exact hi
  | .ro l e, ob, hw, hi => by simp only [SObj.is, renL_ext h l hw] at hi ⊢; exact hi
  | .map es ck, ob, hw, hi => by
    simp only [SObj.is] at hi ⊢
    rw [hi]
    congr 2
    refine List.map_congr_left fun x hx => ?_
    simp only [wfo, List.all_eq_true, Bool.and_eq_true] at hw
    simp only [renE, ren_ext h _ (hw x hx).1, ren_ext h _ (hw x hx).2]
  | .strIter _ _, _, _, hi => hi

structure Hp where
  t : Tr SObj
  next : Nat
/-- so many signs of a name are looked at -/
abbrev hbits : Nat := 14
def Hp.get (h : Hp) (nm : Nat) : Option SObj := h.t.get nm nm
def Hp.set (h : Hp) (nm : Nat) (o : SObj) : Hp := ⟨Tr.set hbits h.t nm nm o, h.next⟩
def Hp.del (h : Hp) (nm : Nat) : Hp := ⟨h.t.del nm, h.next⟩
def Hp.new (h : Hp) (o : SObj) : Hp := ⟨Tr.set hbits h.t h.next h.next o, h.next + 1⟩
theorem Hp.get_set {h : Hp} {nm : Nat} {o : SObj} : (h.set nm o).get nm = some o := Tr.get_set _ _ _ _ _
theorem Hp.get_set_ne {h : Hp} {nm nm' : Nat} {o o' : SObj} (hne : nm' ≠ nm) (hg : (h.set nm o).get nm' = some o') : h.get nm' = some o' := Tr.get_set_ne _ _ _ _ _ _ _ _ hne hg
theorem Hp.get_new {h : Hp} {o : SObj} : (h.new o).get h.next = some o := Tr.get_set _ _ _ _ _
theorem Hp.get_new_ne {h : Hp} {nm' : Nat} {o o' : SObj} (hne : nm' ≠ h.next) (hg : (h.new o).get nm' = some o') : h.get nm' = some o' := Tr.get_set_ne _ _ _ _ _ _ _ _ hne hg
theorem Hp.get_del {h : Hp} {nm nm' : Nat} {o' : SObj} (hg : (h.del nm).get nm' = some o') : nm' ≠ nm ∧ h.get nm' = some o' := by
  refine ⟨fun e => ?_, Tr.get_del _ _ _ _ _ hg⟩
  subst e
  simp [Hp.get, Hp.del, Tr.get_del_self] at hg

abbrev PH := Nat → Option Obj
/-- The names that are fixed: below n they are the variables' own blocks; below N they stand for the blocks that gb tells. -/
structure Gx where
  n : Nat
  N : Nat
  gb : Nat → Nat
  le : n ≤ N
  id : ∀ g, g < n → gb g = g
instance : Coe Gx Nat := ⟨Gx.n⟩
/-- The variables alone. -/
def Gx.flat (n : Nat) : Gx := ⟨n, n, fun g => g, Nat.le_refl _, fun _ _ => rfl⟩
/-- The world: what lies in F stays; what h tells lies beside it. -/
structure SatX (B : World) (F : PH) (G : Gx) (h : Hp) (ρ : Val) (w : World) : Prop where
  os : w.os = B.os
  output : w.output = B.output
  tape : w.tape = B.tape
  fr : ∀ b o, F b = some o → w.heap[b]? = some o
  ob : ∀ nm o, h.get nm = some o → F (ρ.b nm) = none ∧ nm < h.next ∧ wfo h.next o = true ∧ ∃ obj, w.heap[ρ.b nm]? = some obj ∧ o.is ρ nm obj
  inj : ∀ nm nm' o o', h.get nm = some o → h.get nm' = some o' → ρ.b nm = ρ.b nm' → nm = nm'
  gl : ∀ g, g < G.N → ρ.b g = G.gb g
  gn : G.N ≤ h.next

section
variable {B : World} {F : PH} {G : Gx} {h : Hp} {ρ : Val} {w : World}
theorem SatX.drawn (s : SatX B F G h ρ w) (d : Nat) : SatX B F G h ρ { w with drawn := d } := ⟨s.os, s.output, s.tape, s.fr, s.ob, s.inj, s.gl, s.gn⟩
theorem SatX.F_lt (s : SatX B F G h ρ w) {b : Nat} (hb : w.heap.size ≤ b) : F b = none := by
  cases hF : F b with
  | none => rfl
  | some o => have := s.fr b o hF; rw [Array.getElem?_eq_none hb] at this; cases this
theorem SatX.lt (s : SatX B F G h ρ w) {nm : Nat} {o : SObj} (hg : h.get nm = some o) : ρ.b nm < w.heap.size := by
  obtain ⟨_, _, _, obj, ho, _⟩ := s.ob nm o hg
  exact (Array.getElem?_eq_some_iff.1 ho).1
/-- A new name for a new block. -/
def Val.put (ρ : Val) (nm b c : Nat) : Val := ⟨fun k => if k = nm then b else ρ.b k, fun k => if k = nm then c else ρ.c k⟩
theorem Val.put_ext (ρ : Val) (nm b c : Nat) : Ext nm ρ (ρ.put nm b c) := fun k hk => by simp [Val.put, Nat.ne_of_lt hk]
theorem Val.put_b (ρ : Val) (nm b c : Nat) : (ρ.put nm b c).b nm = b := by simp [Val.put]
theorem Val.put_c (ρ : Val) (nm b c : Nat) : (ρ.put nm b c).c nm = c := by simp [Val.put]
theorem SatX.new (s : SatX B F G h ρ w) {w' : World} {ob : Obj} {o : SObj} (c : Nat) (hos : w'.os = w.os) (hou : w'.output = w.output) (hta : w'.tape = w.tape) (hh : w'.heap = w.heap.push ob)
    (hw : wfo (h.next + 1) o = true) (hi : o.is (ρ.put h.next w.heap.size c) h.next ob) : SatX B F G (h.new o) (ρ.put h.next w.heap.size c) w' := by
  have he := Val.put_ext ρ h.next w.heap.size c
  have old : ∀ nm o', h.get nm = some o' → nm < h.next := fun nm o' hg => (s.ob nm o' hg).2.1
  refine ⟨hos.trans s.os, hou.trans s.output, hta.trans s.tape, fun b o hF => ?_, fun nm o' hg => ?_, fun nm nm' o1 o2 h1 h2 hb => ?_, fun g hg => by rw [(he g (Nat.lt_of_lt_of_le hg s.gn)).1]; exact s.gl g hg, Nat.le_succ_of_le s.gn⟩
  · have := s.fr b o hF
    rw [hh, Array.getElem?_push, if_neg (by have := (Array.getElem?_eq_some_iff.1 this).1; omega)]
    exact this
  · by_cases e : nm = h.next
    · subst e
      rw [Hp.get_new] at hg
      cases hg
      rw [Val.put_b]
      exact ⟨s.F_lt (Nat.le_refl _), by simp [Hp.new], hw, ob, by rw [hh]; simp, hi⟩
    · have hg' := Hp.get_new_ne e hg
      obtain ⟨h1, h2, h3, obj, h4, h5⟩ := s.ob nm o' hg'
      rw [(he nm h2).1]
      refine ⟨h1, Nat.lt_succ_of_lt h2, wfo_mono (Nat.le_succ _) _ h3, obj, ?_, is_ext he h2 h3 h5⟩
      rw [hh, Array.getElem?_push, if_neg (by have := (Array.getElem?_eq_some_iff.1 h4).1; omega)]
      exact h4
  · by_cases e1 : nm = h.next
    · by_cases e2 : nm' = h.next
      · rw [e1, e2]
      · have g2 := Hp.get_new_ne e2 h2
        rw [e1, Val.put_b, (he nm' (old _ _ g2)).1] at hb
        have := s.lt g2
        omega
    · have g1 := Hp.get_new_ne e1 h1
      by_cases e2 : nm' = h.next
      · rw [e2, Val.put_b, (he nm (old _ _ g1)).1] at hb
        have := s.lt g1
        omega
      · have g2 := Hp.get_new_ne e2 h2
        rw [(he nm (old _ _ g1)).1, (he nm' (old _ _ g2)).1] at hb
        exact s.inj _ _ _ _ g1 g2 hb
theorem SatX.alloc (s : SatX B F G h ρ w) {l : List Value} {e : TypeId} (hl : wfL h.next l = true) (c : Nat) :
    SatX B F G (h.new (.cells l e)) (ρ.put h.next w.heap.size c) (w.alloc (.cells (renL ρ l).toArray e)) :=
  s.new c rfl rfl rfl rfl (wfL_mono (Nat.le_succ _) _ hl) (by simp only [SObj.is]; rw [renL_ext (Val.put_ext ρ _ _ _) l hl])
/-- The object under a name is turned. -/
theorem SatX.upd (s : SatX B F G h ρ w) {w' : World} {nm : Nat} {o o' : SObj} {ob : Obj} (hg : h.get nm = some o) (hos : w'.os = w.os) (hou : w'.output = w.output) (hta : w'.tape = w.tape)
    (hh : w'.heap[ρ.b nm]? = some ob) (hne : ∀ b, b ≠ ρ.b nm → w'.heap[b]? = w.heap[b]?) (hw : wfo h.next o' = true) (hi : o'.is ρ nm ob) : SatX B F G (h.set nm o') ρ w' := by
  obtain ⟨hF, hlt, _⟩ := s.ob nm o hg
  have back : ∀ k x, (h.set nm o').get k = some x → ∃ y, h.get k = some y := fun k x hk => by
    by_cases e : k = nm
    · subst e; exact ⟨o, hg⟩
    · exact ⟨x, Hp.get_set_ne e hk⟩
  refine ⟨hos.trans s.os, hou.trans s.output, hta.trans s.tape, fun b x hb => ?_, fun k x hk => ?_, fun k k' x x' h1 h2 hb => ?_, s.gl, s.gn⟩
  · have hbn : b ≠ ρ.b nm := fun e => by rw [e, hF] at hb; cases hb
    rw [hne b hbn]
    exact s.fr b x hb
  · by_cases e : k = nm
    · subst e
      rw [Hp.get_set] at hk
      cases hk
      exact ⟨hF, hlt, hw, ob, hh, hi⟩
    · have hk' := Hp.get_set_ne e hk
      obtain ⟨h1, h2, h3, obj, h4, h5⟩ := s.ob k x hk'
      refine ⟨h1, h2, h3, obj, ?_, h5⟩
      rw [hne _ (fun eb => e (s.inj _ _ _ _ hk' hg eb))]
      exact h4
  · obtain ⟨y, hy⟩ := back k x h1
    obtain ⟨y', hy'⟩ := back k' x' h2
    exact s.inj _ _ _ _ hy hy' hb
theorem SatX.del (s : SatX B F G h ρ w) (nm : Nat) : SatX B F G (h.del nm) ρ w :=
  ⟨s.os, s.output, s.tape, s.fr, fun k o hk => s.ob k o (Hp.get_del hk).2, fun k k' o o' h1 h2 hb => s.inj k k' o o' (Hp.get_del h1).2 (Hp.get_del h2).2 hb, s.gl, s.gn⟩
/-- A heap that tells less. -/
theorem SatX.less (s : SatX B F G h ρ w) {h' : Hp} (hn : h.next = h'.next) (hm : ∀ nm o, h'.get nm = some o → h.get nm = some o) : SatX B F G h' ρ w :=
  ⟨s.os, s.output, s.tape, s.fr, fun k o hk => by rw [← hn]; exact s.ob k o (hm k o hk), fun k k' o o' h1 h2 hb => s.inj k k' o o' (hm _ _ h1) (hm _ _ h2) hb, s.gl, hn ▸ s.gn⟩
/-- Names not used yet may stand for anything. -/
theorem SatX.ext (s : SatX B F G h ρ w) {ρ' : Val} (he : Ext h.next ρ ρ') : SatX B F G h ρ' w := by
  refine ⟨s.os, s.output, s.tape, s.fr, fun k o hk => ?_, fun k k' o o' h1 h2 hb => ?_, fun g hg => by rw [(he g (Nat.lt_of_lt_of_le hg s.gn)).1]; exact s.gl g hg, s.gn⟩
  · obtain ⟨h1, h2, h3, obj, h4, h5⟩ := s.ob k o hk
    rw [(he k h2).1]
    exact ⟨h1, h2, h3, obj, h4, is_ext he h2 h3 h5⟩
  · rw [(he k (s.ob k o h1).2.1).1, (he k' (s.ob k' o' h2).2.1).1] at hb
    exact s.inj k k' o o' h1 h2 hb
end

/-! ### the frame -/
/-- so many signs of a slot's number are looked at -/
abbrev ebits : Nat := 9
abbrev Env := Tr Value
def Env.lk (E : Env) (t : Nat) : Option Value := Tr.get E t t
def Env.put (E : Env) (t : Nat) (v : Value) : Env := Tr.set ebits E t t v
/-- a call that is put off: the function, what it holds, what it is given -/
structure SDef where
  f : FuncId
  cap : List Value
  args : List Value
def renD (ρ : Val) (d : SDef) : Deferred := { target := .fn (.func d.f) (renL ρ d.cap).toArray, args := (renL ρ d.args).toArray }
structure AgrX (nx : Nat) (ρ : Val) (n : Nat) (ds : List SDef) (E : Env) (a : Act) : Prop where
  size : a.tmps.size = n
  defers : a.defers = ds.map (renD ρ)
  wfd : ∀ d ∈ ds, wfL nx d.cap = true ∧ wfL nx d.args = true
  get : ∀ t v, E.lk t = some v → wfv nx v = true ∧ a.tmps[t]? = some (ren ρ v)
def evX (G : Nat) (E : Env) : Operand → Option Value
  | .tmp t => E.lk t
  | .const v => bif noAddr v then some v else none
  | .global g => bif Nat.blt g G then some (.pointer (some ⟨g, 0, none⟩)) else none
  | .func f => some (.func (.func f) #[] #[])
section
variable {nx n : Nat} {ρ ρ' : Val} {ds : List SDef} {E : Env} {a : Act}
theorem AgrX.ev (h : AgrX nx ρ n ds E a) {G : Gx} (hgl : ∀ g, g < G.N → ρ.b g = G.gb g) (hgn : G.N ≤ nx) {x : Operand} {v : Value} (hx : evX G E x = some v) : wfv nx v = true ∧ a.eval x = ren ρ v := by
  cases x with
  | tmp t =>
    obtain ⟨h1, h2⟩ := h.get t v hx
    exact ⟨h1, by simp [Act.eval, Array.getD_eq_getD_getElem?, h2]⟩
  | const u =>
    simp only [evX] at hx
    cases hn : noAddr u with
    | false => rw [hn] at hx; cases hx
    | true =>
      rw [hn] at hx
      cases hx
      exact ⟨wfv_mono (Nat.zero_le _) _ hn, by simp [Act.eval, ren_id ρ _ hn]⟩
  | global g =>
    simp only [evX] at hx
    cases hn : Nat.blt g G.n with
    | false => rw [hn] at hx; cases hx
    | true =>
      rw [hn] at hx
      cases hx
      have hg : g < G.n := by simpa [Nat.blt_eq] using hn
      exact ⟨by simp only [wfv, Nat.blt_eq]; have := G.le; omega, by simp [Act.eval, ren, hgl g (Nat.lt_of_lt_of_le hg G.le), G.id g hg]⟩
  | func f =>
    simp only [evX] at hx
    cases hx
    exact ⟨by simp [wfv, wfA, wfL], by simp [Act.eval, ren, renA, renL]⟩
theorem AgrX.put (h : AgrX nx ρ n ds E a) {d : Nat} (hd : d < n) {v : Value} (hv : wfv nx v = true) : AgrX nx ρ n ds (E.put d v) (a.put (some d) (ren ρ v)) := by
  refine ⟨by simp [Act.put, h.size], h.defers, h.wfd, fun t u hu => ?_⟩
  simp only [Act.put]
  by_cases e : d = t
  · subst e
    rw [Env.lk, Env.put, Tr.get_set] at hu
    cases hu
    exact ⟨hv, by simp [h.size, hd]⟩
  · rw [Array.getElem?_setIfInBounds_ne e]
    exact h.get t u (Tr.get_set_ne _ _ _ _ _ _ _ _ (fun x => e x.symm) hu)
theorem AgrX.ext (h : AgrX nx ρ n ds E a) {nx' : Nat} (he : Ext nx ρ ρ') (hn : nx ≤ nx') : AgrX nx' ρ' n ds E a := by
  refine ⟨h.size, ?_, fun d hd => ⟨wfL_mono hn _ (h.wfd d hd).1, wfL_mono hn _ (h.wfd d hd).2⟩, fun t v hv => ?_⟩
  · rw [h.defers]
    refine List.map_congr_left fun d hd => ?_
    simp only [renD, renL_ext he _ (h.wfd d hd).1, renL_ext he _ (h.wfd d hd).2]
  · obtain ⟨h1, h2⟩ := h.get t v hv
    exact ⟨wfv_mono hn _ h1, by rw [ren_ext he v h1]; exact h2⟩
theorem AgrX.nil (h : AgrX nx ρ n ds E a) : AgrX nx ρ n ds .lf a := ⟨h.size, h.defers, h.wfd, fun t v hv => by simp [Env.lk, Tr.get] at hv⟩
end
end Go.Xs
