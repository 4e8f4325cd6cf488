/- Merged: Xs1, Xs2, Xs3, Xs4, Xs5, Xs6, Xs7, Xs8. -/
import Derived.WalkKit
import Derived.WalkSpells
import Derived.Defers
import Derived.Recover
import Derived.Test.YtdemnhdoadjhhaaGreatDoorSkA
import Derived.Orders
set_option linter.unusedVariables false
set_option linter.unusedSimpArgs false
section
/- A program that is run by reckoning: values whose addresses are names, and what they stand for. Plain theorems, no condition. -/
namespace Go.Xs
open Go.RowKit

/-- What names stand for: blocks; how many elements a row that may grow has room for. -/
structure Val where
  b : Nat → Nat
  c : Nat → Nat
/-- A room: twice a number, or one more: so much less than the row has. -/
def capOf (ρ : Val) (nm c : Nat) : Nat := if c % 2 = 0 then c / 2 else ρ.c nm - c / 2

mutual
def ren (ρ : Val) : Value → Value
  | .bool x => .bool x
  | .int k x => .int k x
  | .float k x => .float k x
  | .complex k x y => .complex k x y
  | .string s => .string s
  | .pointer none => .pointer none
  | .pointer (some a) => .pointer (some { a with block := ρ.b a.block })
  | .slice none n c => .slice none n c
  | .slice (some ⟨b, off, none⟩) n c => .slice (some ⟨ρ.b b, off, none⟩) n (capOf ρ b c)
  | .slice (some ⟨b, off, some d⟩) n c => .slice (some ⟨ρ.b b, bif Nat.beq (capOf ρ b c) 0 then off else off + d, none⟩) n (capOf ρ b c)
  | .map none => .map none
  | .map (some r) => .map (some (ρ.b r))
  | .chan r => .chan r
  | .func fn x y => .func fn (renA ρ x) (renA ρ y)
  | .nilFunc => .nilFunc
  | .iface t v => .iface t (ren ρ v)
  | .nilIface => .nilIface
  | .agg x => .agg (renA ρ x)
  | .tuple x => .tuple (renA ρ x)
def renA (ρ : Val) : Array Value → Array Value
  | ⟨l⟩ => ⟨renL ρ l⟩
def renL (ρ : Val) : List Value → List Value
  | [] => []
  | v :: l => ren ρ v :: renL ρ l
end

mutual
/-- All names are below n. -/
def wfv (n : Nat) : Value → Bool
  | .bool _ | .int _ _ | .float _ _ | .complex _ _ _ | .string _ | .pointer none | .slice none _ _ | .map none | .chan none | .nilFunc | .nilIface => true
  | .pointer (some a) => Nat.blt a.block n
  | .slice (some a) _ _ => Nat.blt a.block n
  | .map (some r) => Nat.blt r n
  | .chan (some _) => false
  | .func (.yield _) _ _ => false
  | .func _ x y => wfA n x && wfA n y
  | .iface _ v => wfv n v
  | .agg x => wfA n x
  | .tuple x => wfA n x
def wfA (n : Nat) : Array Value → Bool
  | ⟨l⟩ => wfL n l
def wfL (n : Nat) : List Value → Bool
  | [] => true
  | v :: l => wfv n v && wfL n l
end
/-- Without an address. -/
abbrev noAddr (v : Value) : Bool := wfv 0 v

theorem renL_map (ρ : Val) : ∀ l : List Value, renL ρ l = l.map (ren ρ)
  | [] => by simp [renL]
  | v :: l => by simp [renL, renL_map ρ l]
theorem wfL_iff {n : Nat} : ∀ {l : List Value}, wfL n l = true ↔ ∀ v ∈ l, wfv n v = true
  | [] => by simp [wfL]
  | v :: l => by simp [wfL, wfL_iff (l := l)]

mutual
theorem wfv_mono {n m : Nat} (h : n ≤ m) : ∀ (v : Value), wfv n v = true → wfv m v = true
  | .bool _ | .int _ _ | .float _ _ | .complex _ _ _ | .string _ | .pointer none | .slice none _ _ | .map none | .chan none | .nilFunc | .nilIface => by simp [wfv]
  | .pointer (some a) => by simp only [wfv, Nat.blt_eq]; omega
  | .slice (some a) _ _ => by simp only [wfv, Nat.blt_eq]; omega
  | .map (some r) => by simp only [wfv, Nat.blt_eq]; omega
  | .chan (some _) => by simp [wfv]
  | .func fn ⟨x⟩ ⟨y⟩ => by
    cases fn <;> simp only [wfv, wfA, Bool.and_eq_true] <;> first | exact fun ⟨a, b⟩ => ⟨wfL_mono h x a, wfL_mono h y b⟩ | simp
  | .iface _ v => by simp only [wfv]; exact wfv_mono h v
  | .agg ⟨x⟩ => by simp only [wfv, wfA]; exact wfL_mono h x
  | .tuple ⟨x⟩ => by simp only [wfv, wfA]; exact wfL_mono h x
theorem wfL_mono {n m : Nat} (h : n ≤ m) : ∀ (l : List Value), wfL n l = true → wfL m l = true
  | [] => by simp [wfL]
  | v :: l => by simp only [wfL, Bool.and_eq_true]; exact fun ⟨a, b⟩ => ⟨wfv_mono h v a, wfL_mono h l b⟩
end

/-- Below n both stand for the same. -/
def Ext (n : Nat) (ρ ρ' : Val) : Prop := ∀ k, k < n → ρ'.b k = ρ.b k ∧ ρ'.c k = ρ.c k
theorem Ext.refl (n : Nat) (ρ : Val) : Ext n ρ ρ := fun _ _ => ⟨rfl, rfl⟩
theorem Ext.trans {n m : Nat} {ρ ρ' ρ'' : Val} (h : Ext n ρ ρ') (h' : Ext m ρ' ρ'') (hm : n ≤ m) : Ext n ρ ρ'' :=
  fun k hk => ⟨(h' k (by omega)).1.trans (h k hk).1, (h' k (by omega)).2.trans (h k hk).2⟩
theorem Ext.mono {n m : Nat} {ρ ρ' : Val} (h : Ext m ρ ρ') (hm : n ≤ m) : Ext n ρ ρ' := fun k hk => h k (by omega)

mutual
theorem ren_ext {n : Nat} {ρ ρ' : Val} (h : Ext n ρ ρ') : ∀ (v : Value), wfv n v = true → ren ρ' v = ren ρ v
  | .bool _ | .int _ _ | .float _ _ | .complex _ _ _ | .string _ | .pointer none | .slice none _ _ | .map none | .chan none | .nilFunc | .nilIface => by simp [ren]
  | .pointer (some a) => by
    simp only [wfv, Nat.blt_eq, ren]; intro ha; rw [(h _ ha).1]
  | .slice (some ⟨b, off, none⟩) _ _ => by
    simp only [wfv, Nat.blt_eq, ren, capOf]; intro ha; rw [(h _ ha).1, (h _ ha).2]
  | .slice (some ⟨b, off, some d⟩) _ _ => by
    simp only [wfv, Nat.blt_eq, ren, capOf]; intro ha; rw [(h _ ha).1, (h _ ha).2]
  | .map (some r) => by
    simp only [wfv, Nat.blt_eq, ren]; intro ha; rw [(h _ ha).1]
  | .chan (some _) => by simp [wfv]
  | .func fn ⟨x⟩ ⟨y⟩ => by
    intro hw
    have : wfL n x = true ∧ wfL n y = true := by cases fn <;> simp [wfv, wfA] at hw <;> exact hw
    simp only [ren, renA, renL_ext h x this.1, renL_ext h y this.2]
  | .iface _ v => by simp only [wfv, ren]; intro hw; rw [ren_ext h v hw]
  | .agg ⟨x⟩ => by simp only [wfv, wfA, ren, renA]; intro hw; rw [renL_ext h x hw]
  | .tuple ⟨x⟩ => by simp only [wfv, wfA, ren, renA]; intro hw; rw [renL_ext h x hw]
theorem renL_ext {n : Nat} {ρ ρ' : Val} (h : Ext n ρ ρ') : ∀ (l : List Value), wfL n l = true → renL ρ' l = renL ρ l
  | [] => by simp [renL]
  | v :: l => by simp only [wfL, Bool.and_eq_true, renL]; intro hw; rw [ren_ext h v hw.1, renL_ext h l hw.2]
end
mutual
theorem ren_id (ρ : Val) : ∀ (v : Value), noAddr v = true → ren ρ v = v
  | .bool _ | .int _ _ | .float _ _ | .complex _ _ _ | .string _ | .pointer none | .slice none _ _ | .map none | .chan none | .nilFunc | .nilIface => by simp [ren]
  | .pointer (some a) => by simp [wfv]
  | .slice (some a) _ _ => by simp [wfv]
  | .map (some r) => by simp [wfv]
  | .chan (some _) => by simp [wfv]
  | .func fn ⟨x⟩ ⟨y⟩ => by
    intro hw
    have : wfL 0 x = true ∧ wfL 0 y = true := by cases fn <;> simp [wfv, wfA] at hw <;> exact hw
    simp only [ren, renA, renL_id ρ x this.1, renL_id ρ y this.2]
  | .iface _ v => by simp only [wfv, ren]; intro hw; rw [ren_id ρ v hw]
  | .agg ⟨x⟩ => by simp only [wfv, wfA, ren, renA]; intro hw; rw [renL_id ρ x hw]
  | .tuple ⟨x⟩ => by simp only [wfv, wfA, ren, renA]; intro hw; rw [renL_id ρ x hw]
theorem renL_id (ρ : Val) : ∀ (l : List Value), wfL 0 l = true → renL ρ l = l
  | [] => by simp [renL]
  | v :: l => by simp only [wfL, Bool.and_eq_true, renL]; intro hw; rw [ren_id ρ v hw.1, renL_id ρ l hw.2]
end

/-! ### finite maps -/
inductive Tr (α : Type) where
  | lf
  | one (k : Nat) (x : α)
  | nd (l r : Tr α)
def Tr.get {α : Type} : Tr α → Nat → Nat → Option α
  | .lf, _, _ => none
  | .one k x, _, key => bif Nat.beq k key then some x else none
  | .nd l r, p, key => bif Nat.beq (p % 2) 0 then l.get (p / 2) key else r.get (p / 2) key
def Tr.set {α : Type} : Nat → Tr α → Nat → Nat → α → Tr α
  | 0, _, _, key, x => .one key x
  | d + 1, .nd l r, p, key, x => bif Nat.beq (p % 2) 0 then .nd (Tr.set d l (p / 2) key x) r else .nd l (Tr.set d r (p / 2) key x)
  | d + 1, _, p, key, x => bif Nat.beq (p % 2) 0 then .nd (Tr.set d .lf (p / 2) key x) .lf else .nd .lf (Tr.set d .lf (p / 2) key x)
def Tr.del {α : Type} : Tr α → Nat → Tr α
  | .lf, _ => .lf
  | .one _ _, _ => .lf
  | .nd l r, p => bif Nat.beq (p % 2) 0 then .nd (l.del (p / 2)) r else .nd l (r.del (p / 2))

theorem Tr.get_set {α : Type} : ∀ (d : Nat) (t : Tr α) (p key : Nat) (x : α), (Tr.set d t p key x).get p key = some x
  | 0, _, p, key, x => by simp [Tr.set, Tr.get]
  | d + 1, .nd l r, p, key, x => by
    simp only [Tr.set]
    cases h : Nat.beq (p % 2) 0 <;> simp [Tr.get, h, Tr.get_set d]
  | d + 1, .lf, p, key, x => by
    simp only [Tr.set]
    cases h : Nat.beq (p % 2) 0 <;> simp [Tr.get, h, Tr.get_set d]
  | d + 1, .one _ _, p, key, x => by
    simp only [Tr.set]
    cases h : Nat.beq (p % 2) 0 <;> simp [Tr.get, h, Tr.get_set d]
theorem Tr.get_lf {α : Type} (p key : Nat) : (Tr.lf : Tr α).get p key = none := rfl
theorem Tr.get_set_ne {α : Type} : ∀ (d : Nat) (t : Tr α) (p p' key key' : Nat) (x y : α), key' ≠ key → (Tr.set d t p key x).get p' key' = some y → t.get p' key' = some y
  | 0, _, p, p', key, key', x, y, hne, h => by
    have : Nat.beq key key' = false := by rw [← Bool.not_eq_true, Nat.beq_eq]; exact fun e => hne e.symm
    simp [Tr.set, Tr.get, this] at h
  | d + 1, .nd l r, p, p', key, key', x, y, hne, h => by
    simp only [Tr.set] at h
    cases h1 : Nat.beq (p % 2) 0 <;> cases h2 : Nat.beq (p' % 2) 0 <;> simp only [h1, h2, Tr.get, cond_true, cond_false] at h ⊢ <;> first | exact h | exact Tr.get_set_ne d _ _ _ _ _ _ _ hne h
  | d + 1, .lf, p, p', key, key', x, y, hne, h => by
    simp only [Tr.set] at h
    cases h1 : Nat.beq (p % 2) 0 <;> cases h2 : Nat.beq (p' % 2) 0 <;> simp only [h1, h2, Tr.get, cond_true, cond_false] at h ⊢ <;> first | exact h | exact (by have := Tr.get_set_ne d _ _ _ _ _ _ _ hne h; simp [Tr.get] at this)
  | d + 1, .one _ _, p, p', key, key', x, y, hne, h => by
    simp only [Tr.set] at h
    cases h1 : Nat.beq (p % 2) 0 <;> cases h2 : Nat.beq (p' % 2) 0 <;> simp only [h1, h2, Tr.get, cond_true, cond_false] at h ⊢ <;> first | (cases h; done) | exact (by have := Tr.get_set_ne d _ _ _ _ _ _ _ hne h; simp [Tr.get] at this)
/-- What is there behind a removal was there ahead of it. -/
theorem Tr.get_del {α : Type} : ∀ (t : Tr α) (p p' key' : Nat) (y : α), (t.del p).get p' key' = some y → t.get p' key' = some y
  | .lf, _, _, _, _, h => by simp [Tr.del, Tr.get] at h
  | .one _ _, _, _, _, _, h => by simp [Tr.del, Tr.get] at h
  | .nd l r, p, p', key', y, h => by
    simp only [Tr.del] at h
    cases h1 : Nat.beq (p % 2) 0 <;> cases h2 : Nat.beq (p' % 2) 0 <;> simp only [h1, h2, Tr.get, cond_true, cond_false] at h ⊢ <;> first | exact h | exact Tr.get_del _ _ _ _ _ h
theorem Tr.get_del_self {α : Type} : ∀ (t : Tr α) (p key : Nat), (t.del p).get p key = none
  | .lf, _, _ => rfl
  | .one _ _, _, _ => rfl
  | .nd l r, p, key => by
    simp only [Tr.del]
    cases h1 : Nat.beq (p % 2) 0 <;> simp only [h1, Tr.get, cond_true, cond_false] <;> exact Tr.get_del_self _ _ _
end Go.Xs
end
section
/- The heap told by names, and when a world is so. Plain theorems, no condition. -/
namespace Go.Xs
open Go.RowKit

inductive SObj where
  /-- just these cells -/
  | cells (l : List Value) (e : TypeId)
  /-- these cells, then room for more: ρ.c elements of sz cells in all -/
  | grow (l : List Value) (e : TypeId) (sz : Nat)
  /-- these cells, then others, marked: they are only read -/
  | ro (l : List Value) (e : TypeId)
  | map (es : List MapEntry) (clock : Nat)
  | strIter (s : ByteArray) (pos : Nat)

def renE (ρ : Val) (x : MapEntry) : MapEntry := { x with key := ren ρ x.key, val := ren ρ x.val }
def SObj.is (ρ : Val) (nm : Nat) : SObj → Obj → Prop
  | .cells l e, o => o = .cells (renL ρ l).toArray e (0, 0)
  | .grow l e sz, o => ∃ tail, o = .cells (renL ρ l ++ tail).toArray e (0, 0) ∧ (renL ρ l ++ tail).length = ρ.c nm * sz ∧ ρ.c nm ≤ maxLen
  | .ro l e, o => ∃ tail fz, o = .cells (renL ρ l ++ tail).toArray e fz
  | .map es ck, o => o = .map (es.map (renE ρ)).toArray ck
  | .strIter s p, o => o = .stringIter s p
def wfo (n : Nat) : SObj → Bool
  | .cells l _ => wfL n l
  | .grow l _ _ => wfL n l
  | .ro l _ => wfL n l
  | .map es _ => es.all fun x => wfv n x.key && wfv n x.val
  | .strIter _ _ => true
theorem wfo_mono {n m : Nat} (h : n ≤ m) : ∀ (o : SObj), wfo n o = true → wfo m o = true
  | .cells l _ => wfL_mono h l
  | .grow l _ _ => wfL_mono h l
  | .ro l _ => wfL_mono h l
  | .map es _ => by
    simp only [wfo, List.all_eq_true, Bool.and_eq_true]
    exact fun hh x hx => ⟨wfv_mono h _ (hh x hx).1, wfv_mono h _ (hh x hx).2⟩
  | .strIter _ _ => fun h => h
theorem is_ext {n : Nat} {ρ ρ' : Val} (h : Ext n ρ ρ') {nm : Nat} (hn : nm < n) : ∀ {o : SObj} {ob : Obj}, wfo n o = true → o.is ρ nm ob → o.is ρ' nm ob
  | .cells l e, ob, hw, hi => by simp only [SObj.is, renL_ext h l hw] at hi ⊢; exact hi
  | .grow l e sz, ob, hw, hi => by simp only [SObj.is, renL_ext h l hw, (h nm hn).2] at hi ⊢; exact hi
  | .ro l e, ob, hw, hi => by simp only [SObj.is, renL_ext h l hw] at hi ⊢; exact hi
  | .map es ck, ob, hw, hi => by
    simp only [SObj.is] at hi ⊢
    rw [hi]
    congr 2
    refine List.map_congr_left fun x hx => ?_
    simp only [wfo, List.all_eq_true, Bool.and_eq_true] at hw
    simp only [renE, ren_ext h _ (hw x hx).1, ren_ext h _ (hw x hx).2]
  | .strIter _ _, _, _, hi => hi

structure Hp where
  t : Tr SObj
  next : Nat
/-- so many signs of a name are looked at -/
abbrev hbits : Nat := 14
def Hp.get (h : Hp) (nm : Nat) : Option SObj := h.t.get nm nm
def Hp.set (h : Hp) (nm : Nat) (o : SObj) : Hp := ⟨Tr.set hbits h.t nm nm o, h.next⟩
def Hp.del (h : Hp) (nm : Nat) : Hp := ⟨h.t.del nm, h.next⟩
def Hp.new (h : Hp) (o : SObj) : Hp := ⟨Tr.set hbits h.t h.next h.next o, h.next + 1⟩
theorem Hp.get_set {h : Hp} {nm : Nat} {o : SObj} : (h.set nm o).get nm = some o := Tr.get_set _ _ _ _ _
theorem Hp.get_set_ne {h : Hp} {nm nm' : Nat} {o o' : SObj} (hne : nm' ≠ nm) (hg : (h.set nm o).get nm' = some o') : h.get nm' = some o' := Tr.get_set_ne _ _ _ _ _ _ _ _ hne hg
theorem Hp.get_new {h : Hp} {o : SObj} : (h.new o).get h.next = some o := Tr.get_set _ _ _ _ _
theorem Hp.get_new_ne {h : Hp} {nm' : Nat} {o o' : SObj} (hne : nm' ≠ h.next) (hg : (h.new o).get nm' = some o') : h.get nm' = some o' := Tr.get_set_ne _ _ _ _ _ _ _ _ hne hg
theorem Hp.get_del {h : Hp} {nm nm' : Nat} {o' : SObj} (hg : (h.del nm).get nm' = some o') : nm' ≠ nm ∧ h.get nm' = some o' := by
  refine ⟨fun e => ?_, Tr.get_del _ _ _ _ _ hg⟩
  subst e
  simp [Hp.get, Hp.del, Tr.get_del_self] at hg

abbrev PH := Nat → Option Obj
/-- The names that are fixed: below n they are the variables' own blocks; below N they stand for the blocks that gb tells. -/
structure Gx where
  n : Nat
  N : Nat
  gb : Nat → Nat
  le : n ≤ N
  id : ∀ g, g < n → gb g = g
instance : Coe Gx Nat := ⟨Gx.n⟩
/-- The variables alone. -/
def Gx.flat (n : Nat) : Gx := ⟨n, n, fun g => g, Nat.le_refl _, fun _ _ => rfl⟩
/-- The world: what lies in F stays; what h tells lies beside it. -/
structure SatX (B : World) (F : PH) (G : Gx) (h : Hp) (ρ : Val) (w : World) : Prop where
  os : w.os = B.os
  output : w.output = B.output
  tape : w.tape = B.tape
  fr : ∀ b o, F b = some o → w.heap[b]? = some o
  ob : ∀ nm o, h.get nm = some o → F (ρ.b nm) = none ∧ nm < h.next ∧ wfo h.next o = true ∧ ∃ obj, w.heap[ρ.b nm]? = some obj ∧ o.is ρ nm obj
  inj : ∀ nm nm' o o', h.get nm = some o → h.get nm' = some o' → ρ.b nm = ρ.b nm' → nm = nm'
  gl : ∀ g, g < G.N → ρ.b g = G.gb g
  gn : G.N ≤ h.next

section
variable {B : World} {F : PH} {G : Gx} {h : Hp} {ρ : Val} {w : World}
theorem SatX.drawn (s : SatX B F G h ρ w) (d : Nat) : SatX B F G h ρ { w with drawn := d } := ⟨s.os, s.output, s.tape, s.fr, s.ob, s.inj, s.gl, s.gn⟩
theorem SatX.F_lt (s : SatX B F G h ρ w) {b : Nat} (hb : w.heap.size ≤ b) : F b = none := by
  cases hF : F b with
  | none => rfl
  | some o => have := s.fr b o hF; rw [Array.getElem?_eq_none hb] at this; cases this
theorem SatX.lt (s : SatX B F G h ρ w) {nm : Nat} {o : SObj} (hg : h.get nm = some o) : ρ.b nm < w.heap.size := by
  obtain ⟨_, _, _, obj, ho, _⟩ := s.ob nm o hg
  exact (Array.getElem?_eq_some_iff.1 ho).1
/-- A new name for a new block. -/
def Val.put (ρ : Val) (nm b c : Nat) : Val := ⟨fun k => if k = nm then b else ρ.b k, fun k => if k = nm then c else ρ.c k⟩
theorem Val.put_ext (ρ : Val) (nm b c : Nat) : Ext nm ρ (ρ.put nm b c) := fun k hk => by simp [Val.put, Nat.ne_of_lt hk]
theorem Val.put_b (ρ : Val) (nm b c : Nat) : (ρ.put nm b c).b nm = b := by simp [Val.put]
theorem Val.put_c (ρ : Val) (nm b c : Nat) : (ρ.put nm b c).c nm = c := by simp [Val.put]
theorem SatX.new (s : SatX B F G h ρ w) {w' : World} {ob : Obj} {o : SObj} (c : Nat) (hos : w'.os = w.os) (hou : w'.output = w.output) (hta : w'.tape = w.tape) (hh : w'.heap = w.heap.push ob)
    (hw : wfo (h.next + 1) o = true) (hi : o.is (ρ.put h.next w.heap.size c) h.next ob) : SatX B F G (h.new o) (ρ.put h.next w.heap.size c) w' := by
  have he := Val.put_ext ρ h.next w.heap.size c
  have old : ∀ nm o', h.get nm = some o' → nm < h.next := fun nm o' hg => (s.ob nm o' hg).2.1
  refine ⟨hos.trans s.os, hou.trans s.output, hta.trans s.tape, fun b o hF => ?_, fun nm o' hg => ?_, fun nm nm' o1 o2 h1 h2 hb => ?_, fun g hg => by rw [(he g (Nat.lt_of_lt_of_le hg s.gn)).1]; exact s.gl g hg, Nat.le_succ_of_le s.gn⟩
  · have := s.fr b o hF
    rw [hh, Array.getElem?_push, if_neg (by have := (Array.getElem?_eq_some_iff.1 this).1; omega)]
    exact this
  · by_cases e : nm = h.next
    · subst e
      rw [Hp.get_new] at hg
      cases hg
      rw [Val.put_b]
      exact ⟨s.F_lt (Nat.le_refl _), by simp [Hp.new], hw, ob, by rw [hh]; simp, hi⟩
    · have hg' := Hp.get_new_ne e hg
      obtain ⟨h1, h2, h3, obj, h4, h5⟩ := s.ob nm o' hg'
      rw [(he nm h2).1]
      refine ⟨h1, Nat.lt_succ_of_lt h2, wfo_mono (Nat.le_succ _) _ h3, obj, ?_, is_ext he h2 h3 h5⟩
      rw [hh, Array.getElem?_push, if_neg (by have := (Array.getElem?_eq_some_iff.1 h4).1; omega)]
      exact h4
  · by_cases e1 : nm = h.next
    · by_cases e2 : nm' = h.next
      · rw [e1, e2]
      · have g2 := Hp.get_new_ne e2 h2
        rw [e1, Val.put_b, (he nm' (old _ _ g2)).1] at hb
        have := s.lt g2
        omega
    · have g1 := Hp.get_new_ne e1 h1
      by_cases e2 : nm' = h.next
      · rw [e2, Val.put_b, (he nm (old _ _ g1)).1] at hb
        have := s.lt g1
        omega
      · have g2 := Hp.get_new_ne e2 h2
        rw [(he nm (old _ _ g1)).1, (he nm' (old _ _ g2)).1] at hb
        exact s.inj _ _ _ _ g1 g2 hb
theorem SatX.alloc (s : SatX B F G h ρ w) {l : List Value} {e : TypeId} (hl : wfL h.next l = true) (c : Nat) :
    SatX B F G (h.new (.cells l e)) (ρ.put h.next w.heap.size c) (w.alloc (.cells (renL ρ l).toArray e)) :=
  s.new c rfl rfl rfl rfl (wfL_mono (Nat.le_succ _) _ hl) (by simp only [SObj.is]; rw [renL_ext (Val.put_ext ρ _ _ _) l hl])
/-- The object under a name is turned. -/
theorem SatX.upd (s : SatX B F G h ρ w) {w' : World} {nm : Nat} {o o' : SObj} {ob : Obj} (hg : h.get nm = some o) (hos : w'.os = w.os) (hou : w'.output = w.output) (hta : w'.tape = w.tape)
    (hh : w'.heap[ρ.b nm]? = some ob) (hne : ∀ b, b ≠ ρ.b nm → w'.heap[b]? = w.heap[b]?) (hw : wfo h.next o' = true) (hi : o'.is ρ nm ob) : SatX B F G (h.set nm o') ρ w' := by
  obtain ⟨hF, hlt, _⟩ := s.ob nm o hg
  have back : ∀ k x, (h.set nm o').get k = some x → ∃ y, h.get k = some y := fun k x hk => by
    by_cases e : k = nm
    · subst e; exact ⟨o, hg⟩
    · exact ⟨x, Hp.get_set_ne e hk⟩
  refine ⟨hos.trans s.os, hou.trans s.output, hta.trans s.tape, fun b x hb => ?_, fun k x hk => ?_, fun k k' x x' h1 h2 hb => ?_, s.gl, s.gn⟩
  · have hbn : b ≠ ρ.b nm := fun e => by rw [e, hF] at hb; cases hb
    rw [hne b hbn]
    exact s.fr b x hb
  · by_cases e : k = nm
    · subst e
      rw [Hp.get_set] at hk
      cases hk
      exact ⟨hF, hlt, hw, ob, hh, hi⟩
    · have hk' := Hp.get_set_ne e hk
      obtain ⟨h1, h2, h3, obj, h4, h5⟩ := s.ob k x hk'
      refine ⟨h1, h2, h3, obj, ?_, h5⟩
      rw [hne _ (fun eb => e (s.inj _ _ _ _ hk' hg eb))]
      exact h4
  · obtain ⟨y, hy⟩ := back k x h1
    obtain ⟨y', hy'⟩ := back k' x' h2
    exact s.inj _ _ _ _ hy hy' hb
theorem SatX.del (s : SatX B F G h ρ w) (nm : Nat) : SatX B F G (h.del nm) ρ w :=
  ⟨s.os, s.output, s.tape, s.fr, fun k o hk => s.ob k o (Hp.get_del hk).2, fun k k' o o' h1 h2 hb => s.inj k k' o o' (Hp.get_del h1).2 (Hp.get_del h2).2 hb, s.gl, s.gn⟩
/-- A heap that tells less. -/
theorem SatX.less (s : SatX B F G h ρ w) {h' : Hp} (hn : h.next = h'.next) (hm : ∀ nm o, h'.get nm = some o → h.get nm = some o) : SatX B F G h' ρ w :=
  ⟨s.os, s.output, s.tape, s.fr, fun k o hk => by rw [← hn]; exact s.ob k o (hm k o hk), fun k k' o o' h1 h2 hb => s.inj k k' o o' (hm _ _ h1) (hm _ _ h2) hb, s.gl, hn ▸ s.gn⟩
/-- Names not used yet may stand for anything. -/
theorem SatX.ext (s : SatX B F G h ρ w) {ρ' : Val} (he : Ext h.next ρ ρ') : SatX B F G h ρ' w := by
  refine ⟨s.os, s.output, s.tape, s.fr, fun k o hk => ?_, fun k k' o o' h1 h2 hb => ?_, fun g hg => by rw [(he g (Nat.lt_of_lt_of_le hg s.gn)).1]; exact s.gl g hg, s.gn⟩
  · obtain ⟨h1, h2, h3, obj, h4, h5⟩ := s.ob k o hk
    rw [(he k h2).1]
    exact ⟨h1, h2, h3, obj, h4, is_ext he h2 h3 h5⟩
  · rw [(he k (s.ob k o h1).2.1).1, (he k' (s.ob k' o' h2).2.1).1] at hb
    exact s.inj k k' o o' h1 h2 hb
end

/-! ### the frame -/
/-- so many signs of a slot's number are looked at -/
abbrev ebits : Nat := 9
abbrev Env := Tr Value
def Env.lk (E : Env) (t : Nat) : Option Value := Tr.get E t t
def Env.put (E : Env) (t : Nat) (v : Value) : Env := Tr.set ebits E t t v
/-- a call that is put off: the function, what it holds, what it is given -/
structure SDef where
  f : FuncId
  cap : List Value
  args : List Value
def renD (ρ : Val) (d : SDef) : Deferred := { target := .fn (.func d.f) (renL ρ d.cap).toArray, args := (renL ρ d.args).toArray }
structure AgrX (nx : Nat) (ρ : Val) (n : Nat) (ds : List SDef) (E : Env) (a : Act) : Prop where
  size : a.tmps.size = n
  defers : a.defers = ds.map (renD ρ)
  wfd : ∀ d ∈ ds, wfL nx d.cap = true ∧ wfL nx d.args = true
  get : ∀ t v, E.lk t = some v → wfv nx v = true ∧ a.tmps[t]? = some (ren ρ v)
def evX (G : Nat) (E : Env) : Operand → Option Value
  | .tmp t => E.lk t
  | .const v => bif noAddr v then some v else none
  | .global g => bif Nat.blt g G then some (.pointer (some ⟨g, 0, none⟩)) else none
  | .func f => some (.func (.func f) #[] #[])
section
variable {nx n : Nat} {ρ ρ' : Val} {ds : List SDef} {E : Env} {a : Act}
theorem AgrX.ev (h : AgrX nx ρ n ds E a) {G : Gx} (hgl : ∀ g, g < G.N → ρ.b g = G.gb g) (hgn : G.N ≤ nx) {x : Operand} {v : Value} (hx : evX G E x = some v) : wfv nx v = true ∧ a.eval x = ren ρ v := by
  cases x with
  | tmp t =>
    obtain ⟨h1, h2⟩ := h.get t v hx
    exact ⟨h1, by simp [Act.eval, Array.getD_eq_getD_getElem?, h2]⟩
  | const u =>
    simp only [evX] at hx
    cases hn : noAddr u with
    | false => rw [hn] at hx; cases hx
    | true =>
      rw [hn] at hx
      cases hx
      exact ⟨wfv_mono (Nat.zero_le _) _ hn, by simp [Act.eval, ren_id ρ _ hn]⟩
  | global g =>
    simp only [evX] at hx
    cases hn : Nat.blt g G.n with
    | false => rw [hn] at hx; cases hx
    | true =>
      rw [hn] at hx
      cases hx
      have hg : g < G.n := by simpa [Nat.blt_eq] using hn
      exact ⟨by simp only [wfv, Nat.blt_eq]; have := G.le; omega, by simp [Act.eval, ren, hgl g (Nat.lt_of_lt_of_le hg G.le), G.id g hg]⟩
  | func f =>
    simp only [evX] at hx
    cases hx
    exact ⟨by simp [wfv, wfA, wfL], by simp [Act.eval, ren, renA, renL]⟩
theorem AgrX.put (h : AgrX nx ρ n ds E a) {d : Nat} (hd : d < n) {v : Value} (hv : wfv nx v = true) : AgrX nx ρ n ds (E.put d v) (a.put (some d) (ren ρ v)) := by
  refine ⟨by simp [Act.put, h.size], h.defers, h.wfd, fun t u hu => ?_⟩
  simp only [Act.put]
  by_cases e : d = t
  · subst e
    rw [Env.lk, Env.put, Tr.get_set] at hu
    cases hu
    exact ⟨hv, by simp [h.size, hd]⟩
  · rw [Array.getElem?_setIfInBounds_ne e]
    exact h.get t u (Tr.get_set_ne _ _ _ _ _ _ _ _ (fun x => e x.symm) hu)
theorem AgrX.ext (h : AgrX nx ρ n ds E a) {nx' : Nat} (he : Ext nx ρ ρ') (hn : nx ≤ nx') : AgrX nx' ρ' n ds E a := by
  refine ⟨h.size, ?_, fun d hd => ⟨wfL_mono hn _ (h.wfd d hd).1, wfL_mono hn _ (h.wfd d hd).2⟩, fun t v hv => ?_⟩
  · rw [h.defers]
    refine List.map_congr_left fun d hd => ?_
    simp only [renD, renL_ext he _ (h.wfd d hd).1, renL_ext he _ (h.wfd d hd).2]
  · obtain ⟨h1, h2⟩ := h.get t v hv
    exact ⟨wfv_mono hn _ h1, by rw [ren_ext he v h1]; exact h2⟩
theorem AgrX.nil (h : AgrX nx ρ n ds E a) : AgrX nx ρ n ds .lf a := ⟨h.size, h.defers, h.wfd, fun t v hv => by simp [Env.lk, Tr.get] at hv⟩
end
end Go.Xs
end
section
/- Single operations by reckoning: loads, stores, new variables, literals, addresses, parts. Plain theorems, no condition. -/
namespace Go.Xs
open Go.RowKit
open Go.Sk (isAggB sizeB fldB slcB zerB plB run_sizeB run_isAggB slcB_spec fldB_spec zerB_spec)

structure Ctx where
  P : Program
  G : Gx
  tab : Nat → Option (List Value)
  fns : Nat → Option Func
  /-- functions that hand back what they are given -/
  idf : Nat → Bool := fun _ => false
  idok : ∀ g, idf g = true → ∀ (v : Value) (w : World), (callFunc g #[v]).run P w = .ok (.value v) w := by exact fun _ h => Bool.noConfusion h
  /-- functions that make rows of whatever bytes -/
  mnz : Nat → Option TypeId := fun _ => none
  mnzok : ∀ g e, mnz g = some e → ∀ (n : Nat) (w : World), n ≤ 281474976710656 → ∃ cs : Array Value, (callFunc g #[.int .i64 (n : Int)]).run P w = .ok (.value (.slice (some ⟨w.heap.size, 0, none⟩) n cs.size)) (w.drew.drew.alloc (.cells cs e)) ∧ n ≤ cs.size ∧ (n ≤ maxLen → cs.size ≤ maxLen) := by exact fun _ _ h => Option.noConfusion h
/-- The functions are the program's, with bodies. -/
def Ctx.FOK (C : Ctx) : Prop := ∀ g fn, C.fns g = some fn → C.P.funcs[g]? = some fn ∧ fn.body.isSome = true ∧ (fn.name == "runtime.NumGoroutine") = false
/-- The tables read so wherever F lies. -/
def Ctx.OK (C : Ctx) (F : PH) : Prop :=
  ∀ g l, g < C.G.N → C.tab g = some l → ∀ j v, l[j]? = some v → wfv C.G.N v = true ∧ ∀ (ρ : Val) (w : World), (∀ k, k < C.G.N → ρ.b k = C.G.gb k) → (∀ b o, F b = some o → w.heap[b]? = some o) → w.cell? ⟨C.G.gb g, j, none⟩ = some (ren ρ v)

def rdl : SObj → Option (List Value)
  | .cells l _ => some l
  | .grow l _ _ => some l
  | .ro l _ => some l
  | _ => none
def rdAt (C : Ctx) (h : Hp) (nm : Nat) : Option (List Value) :=
  bif Nat.blt nm C.G.N then C.tab nm else match h.get nm with
    | some o => rdl o
    | none => none
theorem renL_get (ρ : Val) {l : List Value} {j : Nat} {v : Value} (h : l[j]? = some v) : (renL ρ l)[j]? = some (ren ρ v) := by
  rw [renL_map, List.getElem?_map, h]; rfl
theorem renL_get' (ρ : Val) {l : List Value} {j : Nat} {v : Value} (h : (renL ρ l)[j]? = some v) : ∃ u, l[j]? = some u ∧ v = ren ρ u := by
  rw [renL_map, List.getElem?_map] at h
  cases hl : l[j]? with
  | none => rw [hl] at h; cases h
  | some u => rw [hl] at h; cases h; exact ⟨u, rfl, rfl⟩
theorem renL_len (ρ : Val) (l : List Value) : (renL ρ l).length = l.length := by rw [renL_map, List.length_map]
theorem renL_app (ρ : Val) (l m : List Value) : renL ρ (l ++ m) = renL ρ l ++ renL ρ m := by simp [renL_map]
theorem renL_take (ρ : Val) (l : List Value) (k : Nat) : renL ρ (l.take k) = (renL ρ l).take k := by simp [renL_map, List.map_take]
theorem renL_drop (ρ : Val) (l : List Value) (k : Nat) : renL ρ (l.drop k) = (renL ρ l).drop k := by simp [renL_map, List.map_drop]
theorem wfL_get {n : Nat} {l : List Value} (h : wfL n l = true) {j : Nat} {v : Value} (hj : l[j]? = some v) : wfv n v = true := wfL_iff.1 h v (List.mem_of_getElem? hj)
theorem wfL_app {n : Nat} {l m : List Value} : wfL n (l ++ m) = true ↔ wfL n l = true ∧ wfL n m = true := by
  simp only [wfL_iff, List.mem_append]
  exact ⟨fun h => ⟨fun v hv => h v (.inl hv), fun v hv => h v (.inr hv)⟩, fun h v hv => hv.elim (h.1 v) (h.2 v)⟩
theorem wfL_take {n : Nat} {l : List Value} (h : wfL n l = true) (k : Nat) : wfL n (l.take k) = true := wfL_iff.2 fun v hv => wfL_iff.1 h v (List.mem_of_mem_take hv)
theorem wfL_drop {n : Nat} {l : List Value} (h : wfL n l = true) (k : Nat) : wfL n (l.drop k) = true := wfL_iff.2 fun v hv => wfL_iff.1 h v (List.mem_of_mem_drop hv)

theorem add_lit (g o j : Nat) : (⟨g, o, none⟩ : Addr).add j = ⟨g, o + j, none⟩ := by unfold Addr.add; split <;> simp_all

section
variable {B : World} {F : PH} {C : Ctx} {h : Hp} {ρ : Val} {w : World}
theorem SatX.cell (s : SatX B F C.G h ρ w) {nm j : Nat} {o : SObj} {l : List Value} {v : Value} (hg : h.get nm = some o) (hl : rdl o = some l) (hj : l[j]? = some v) :
    wfv h.next v = true ∧ w.cell? ⟨ρ.b nm, j, none⟩ = some (ren ρ v) := by
  obtain ⟨_, _, hw, obj, ho, hi⟩ := s.ob nm o hg
  have hjr := renL_get ρ hj
  have hlt : j < (renL ρ l).length := (List.getElem?_eq_some_iff.1 hjr).1
  cases o <;> simp only [rdl, Option.some.injEq, reduceCtorEq] at hl
  · subst hl
    simp only [SObj.is] at hi
    subst hi
    exact ⟨wfL_get hw hj, by rw [cell_of_row w _ j _ _ _ ho]; simpa using hjr⟩
  · subst hl
    obtain ⟨tail, rfl, _⟩ := hi
    exact ⟨wfL_get hw hj, by rw [cell_of_row w _ j _ _ _ ho, List.getElem?_toArray, List.getElem?_append_left hlt]; exact hjr⟩
  · subst hl
    obtain ⟨tail, fz, rfl⟩ := hi
    exact ⟨wfL_get hw hj, by rw [cell_of_row w _ j _ _ _ ho, List.getElem?_toArray, List.getElem?_append_left hlt]; exact hjr⟩
theorem SatX.rd (s : SatX B F C.G h ρ w) (hC : C.OK F) {nm : Nat} {l : List Value} (hl : rdAt C h nm = some l) {j : Nat} {v : Value} (hj : l[j]? = some v) :
    wfv h.next v = true ∧ w.cell? ⟨ρ.b nm, j, none⟩ = some (ren ρ v) := by
  unfold rdAt at hl
  cases hb : Nat.blt nm C.G.N with
  | true =>
    rw [hb] at hl
    have hlt : nm < C.G.N := by simpa [Nat.blt_eq] using hb
    obtain ⟨h1, h2⟩ := hC nm l hlt hl j v hj
    exact ⟨wfv_mono s.gn _ h1, by rw [s.gl nm hlt]; exact h2 ρ w s.gl s.fr⟩
  | false =>
    rw [hb] at hl
    simp only [cond_false] at hl
    split at hl
    · rename_i o ho; exact s.cell ho hl hj
    · cases hl

/-! ### loads -/
/-- Just so many. -/
def takeN : Nat → List Value → Option (List Value)
  | 0, _ => some []
  | _ + 1, [] => none
  | k + 1, v :: l => match takeN k l with
    | some m => some (v :: m)
    | none => none
theorem takeN_spec : ∀ {k : Nat} {l m : List Value}, takeN k l = some m → m = l.take k ∧ m.length = k
  | 0, l, m, h => by simp only [takeN, Option.some.injEq] at h; subst h; simp
  | k + 1, [], m, h => by simp [takeN] at h
  | k + 1, v :: l, m, h => by
    simp only [takeN] at h
    split at h
    · rename_i m' hm
      cases h
      obtain ⟨rfl, hl⟩ := takeN_spec hm
      exact ⟨by simp, by simp [hl]⟩
    · cases h
def xload (C : Ctx) (h : Hp) (t : TypeId) : Value → Option Value
  | .pointer (some ⟨nm, off, none⟩) => match rdAt C h nm with
    | some l => match isAggB C.P t with
      | some false => l[off]?
      | some true => match sizeB C.P t with
        | some z => match takeN z (l.drop off) with
          | some m => some (.agg ⟨m⟩)
          | none => none
        | none => none
      | none => none
    | none => none
  | _ => none
theorem run_xload (s : SatX B F C.G h ρ w) (hC : C.OK F) {t : TypeId} {x v : Value} (hx : xload C h t x = some v) :
    wfv h.next v = true ∧ (Instr.loadAt t (ren ρ x)).run C.P w = .ok (ren ρ v) w := by
  unfold xload at hx
  split at hx
  · rename_i nm off
    split at hx
    · rename_i l hl
      split at hx
      · rename_i ha
        obtain ⟨h1, h2⟩ := s.rd hC hl hx
        refine ⟨h1, ?_⟩
        simp only [ren, Instr.loadAt, Instr.sureAddr, Sem.run_bind, Sem.run_pure, Result.andThen_ok, loadVar, run_isAggB ha]
        simp [load, Sem.run, h2]
      · rename_i ha
        split at hx
        · rename_i z hz
          split at hx
          · rename_i m hm
            cases hx
            obtain ⟨rfl, hb⟩ := takeN_spec hm
            have hget : ∀ j v, ((l.drop off).take z)[j]? = some v → l[off + j]? = some v := fun j v hv => by
              have hj : j < ((l.drop off).take z).length := (List.getElem?_eq_some_iff.1 hv).1
              rw [hb] at hj
              rwa [List.getElem?_take_of_lt hj, List.getElem?_drop] at hv
            refine ⟨?_, ?_⟩
            · simp only [wfv, wfA]
              refine wfL_iff.2 fun v hv => ?_
              obtain ⟨j, hj⟩ := List.mem_iff_getElem?.1 hv
              exact (s.rd hC hl (hget j v hj)).1
            · have hc : ∀ j v, (renL ρ ((l.drop off).take z))[j]? = some v → w.cell? ((⟨ρ.b nm, off, none⟩ : Addr).add j) = some v := fun j v hv => by
                obtain ⟨u, hu, rfl⟩ := renL_get' ρ hv
                rw [add_lit]
                exact (s.rd hC hl (hget j u hu)).2
              have hrun := run_loadCells_list (P := C.P) w _ _ hc
              rw [renL_len, hb] at hrun
              simp only [ren, renA, Instr.loadAt, Instr.sureAddr, Sem.run_bind, Sem.run_pure, Result.andThen_ok, loadVar, run_isAggB ha, run_sizeB hz, if_true, hrun]
          · cases hx
        · cases hx
      · cases hx
    · cases hx
  · cases hx

/-! ### cells of a value -/
def vcells : Value → List Value
  | .agg ⟨l⟩ => l
  | v => [v]
theorem ren_cells (ρ : Val) (v : Value) : (ren ρ v).cells = (renL ρ (vcells v)).toArray := by
  cases v with
  | agg a => cases a; simp [vcells, ren, renA, Value.cells]
  | pointer a => cases a <;> simp [vcells, ren, renL, Value.cells]
  | slice a n c => rcases a with _ | ⟨_, _, _ | _⟩ <;> simp [vcells, ren, renL, Value.cells]
  | map a => cases a <;> simp [vcells, ren, renL, Value.cells]
  | _ => simp [vcells, ren, renL, Value.cells]
theorem wf_cells {n : Nat} {v : Value} (h : wfv n v = true) : wfL n (vcells v) = true := by
  cases v with
  | agg a => cases a; simpa [vcells, wfv, wfA] using h
  | _ => simp [vcells, wfL, h]
/-- values of one cell each -/
def ones (l : List Value) : Bool := l.all fun v => v.oneCell'
theorem one_ren (ρ : Val) (v : Value) : (ren ρ v).oneCell' = v.oneCell' := by
  cases v with
  | pointer a => cases a <;> simp [ren, Value.oneCell']
  | slice a n c => rcases a with _ | ⟨_, _, _ | _⟩ <;> simp [ren, Value.oneCell']
  | map a => cases a <;> simp [ren, Value.oneCell']
  | _ => simp [ren, Value.oneCell']
theorem ones_ren {ρ : Val} {l : List Value} (h : ones l = true) : ∀ v ∈ renL ρ l, v.oneCell' = true := fun v hv => by
  rw [renL_map, List.mem_map] at hv
  obtain ⟨u, hu, rfl⟩ := hv
  rw [one_ren]
  exact List.all_eq_true.1 h u hu

/-! ### stores -/
/-- The cells with others from a place on. -/
def setR : List Value → Nat → List Value → Option (List Value)
  | l, _, [] => some l
  | [], _, _ :: _ => none
  | _ :: l, 0, v :: vs => match setR l 0 vs with
    | some l' => some (v :: l')
    | none => none
  | x :: l, k + 1, vs => match setR l k vs with
    | some l' => some (x :: l')
    | none => none
theorem setR_spec : ∀ {l : List Value} {k : Nat} {vs l' : List Value}, setR l k vs = some l' → (vs = [] ∧ l' = l) ∨ (l' = l.take k ++ vs ++ l.drop (k + vs.length) ∧ k + vs.length ≤ l.length)
  | l, k, [], l', h => by simp only [setR, Option.some.injEq] at h; exact .inl ⟨rfl, h.symm⟩
  | [], k, _ :: _, l', h => by simp [setR] at h
  | x :: l, 0, v :: vs, l', h => by
    simp only [setR] at h
    split at h
    · rename_i l2 h2
      cases h
      refine .inr ?_
      rcases setR_spec h2 with ⟨rfl, rfl⟩ | ⟨rfl, hle⟩
      · simp
      · simp only [List.length_cons]
        refine ⟨by simp, by omega⟩
    · cases h
  | x :: l, k + 1, v :: vs, l', h => by
    simp only [setR] at h
    split at h
    · rename_i l2 h2
      cases h
      refine .inr ?_
      rcases setR_spec h2 with ⟨h0, _⟩ | ⟨rfl, hle⟩
      · cases h0
      · refine ⟨?_, by simp only [List.length_cons] at hle ⊢; omega⟩
        rw [show k + 1 + (v :: vs).length = k + (v :: vs).length + 1 by omega]
        simp
    · cases h
theorem wf_setR {n : Nat} {l vs l' : List Value} {k : Nat} (h : setR l k vs = some l') (h1 : wfL n l = true) (h2 : wfL n vs = true) : wfL n l' = true := by
  rcases setR_spec h with ⟨_, rfl⟩ | ⟨rfl, _⟩
  · exact h1
  · exact wfL_app.2 ⟨wfL_app.2 ⟨wfL_take h1 _, h2⟩, wfL_drop h1 _⟩
/-- The heap behind a store of these cells. -/
def xput (h : Hp) (nm off : Nat) (vs : List Value) : Option Hp :=
  bif ones vs then match h.get nm with
    | some (.cells l e) => match setR l off vs with
      | some l' => some (h.set nm (.cells l' e))
      | none => none
    | some (.grow l e z) => match setR l off vs with
      | some l' => some (h.set nm (.grow l' e z))
      | none => none
    | _ => none
  else none
theorem run_xput (s : SatX B F C.G h ρ w) {nm off : Nat} {vs : List Value} {h' : Hp} (hv : wfL h.next vs = true) (hx : xput h nm off vs = some h') :
    ∃ w', (storeCells ⟨ρ.b nm, off, none⟩ (renL ρ vs)).run C.P w = .ok () w' ∧ h'.next = h.next ∧ SatX B F C.G h' ρ w' := by
  unfold xput at hx
  cases ho : ones vs with
  | false => rw [ho] at hx; cases hx
  | true =>
    rw [ho] at hx
    simp only [cond_true] at hx
    have key : ∀ (l l' tail : List Value) (e : TypeId), setR l off vs = some l' → w.heap[ρ.b nm]? = some (.cells (renL ρ l ++ tail).toArray e (0, 0)) →
        ∃ w', (storeCells ⟨ρ.b nm, off, none⟩ (renL ρ vs)).run C.P w = .ok () w' ∧ w'.os = w.os ∧ w'.output = w.output ∧ w'.tape = w.tape ∧ w'.heap[ρ.b nm]? = some (.cells (renL ρ l' ++ tail).toArray e (0, 0)) ∧ (∀ b, b ≠ ρ.b nm → w'.heap[b]? = w.heap[b]?) := by
      intro l l' tail e hset hh
      rcases setR_spec hset with ⟨rfl, rfl⟩ | ⟨rfl, hle⟩
      · exact ⟨w, by simp [renL, storeCells], rfl, rfl, rfl, hh, fun _ _ => rfl⟩
      · have hst := run_storeCells_at C.P (ρ.b nm) off e (renL ρ vs) 0 _ w hh (by simp [renL_len]; omega) (ones_ren ho)
        refine ⟨_, hst, rfl, rfl, rfl, ?_, fun b hb => setRow_other w _ b _ hb⟩
        rw [setRow_heap w _ _ _ e _ hh]
        congr 3
        simp only [Nat.add_zero, renL_len]
        rw [List.take_append_of_le_length (by rw [renL_len]; omega), List.drop_append_of_le_length (by rw [renL_len]; omega)]
        simp [renL_app, renL_take, renL_drop]
    split at hx
    · rename_i l e hg
      split at hx
      · rename_i l' hset
        cases hx
        obtain ⟨_, hlt, hw, obj, hob, hi⟩ := s.ob nm _ hg
        simp only [SObj.is] at hi
        subst hi
        obtain ⟨w', h1, h2, h3, h4, h5, h6⟩ := key l l' [] e hset (by simpa using hob)
        exact ⟨w', h1, rfl, s.upd hg h2 h3 h4 h5 h6 (wf_setR hset hw hv) (by simp [SObj.is])⟩
      · cases hx
    · rename_i l e z hg
      split at hx
      · rename_i l' hset
        cases hx
        obtain ⟨_, hlt, hw, obj, hob, hi⟩ := s.ob nm _ hg
        obtain ⟨tail, rfl, ht1, ht2⟩ := hi
        obtain ⟨w', h1, h2, h3, h4, h5, h6⟩ := key l l' tail e hset hob
        refine ⟨w', h1, rfl, s.upd hg h2 h3 h4 h5 h6 (wf_setR hset hw hv) ⟨tail, rfl, ?_, ht2⟩⟩
        rw [← ht1]
        simp only [List.length_append, renL_len]
        rcases setR_spec hset with ⟨_, rfl⟩ | ⟨rfl, hle⟩
        · rfl
        · simp; omega
      · cases hx
    · cases hx
def xstore (C : Ctx) (h : Hp) (t : TypeId) (x v : Value) : Option Hp := match x with
  | .pointer (some ⟨nm, off, none⟩) => match sizeB C.P t with
    | some z => bif Nat.beq (vcells v).length z then xput h nm off (vcells v) else none
    | none => none
  | _ => none
theorem run_xstore (s : SatX B F C.G h ρ w) {t : TypeId} {x v : Value} {h' : Hp} (hv : wfv h.next v = true) (hx : xstore C h t x v = some h') :
    ∃ w', (Instr.storeAt t (ren ρ x) (ren ρ v)).run C.P w = .ok () w' ∧ h'.next = h.next ∧ SatX B F C.G h' ρ w' := by
  unfold xstore at hx
  split at hx
  · rename_i nm off
    split at hx
    · rename_i z hz
      cases hb : Nat.beq (vcells v).length z with
      | false => simp only [hb, cond_false] at hx; cases hx
      | true =>
        simp only [hb, cond_true] at hx
        rw [Nat.beq_eq] at hb
        obtain ⟨w', h1, h2, h3⟩ := run_xput (C := C) s (wf_cells hv) hx
        refine ⟨w', ?_, h2, h3⟩
        simp only [ren, Instr.storeAt, Instr.sureAddr, Sem.run_bind, Sem.run_pure, Result.andThen_ok, storeVar, run_sizeB hz, ren_cells]
        simp only [List.size_toArray, renL_len, hb, ne_eq, not_true, if_false, Sem.run_pure, Result.andThen_ok, h1]
    · cases hx
  · cases hx

/-! ### new variables -/
theorem run_xnew (s : SatX B F C.G h ρ w) {l : List Value} {e : TypeId} (hl : wfL h.next l = true) :
    ∃ ρ' w', w' = w.alloc (.cells (renL ρ l).toArray e) ∧ Ext h.next ρ ρ' ∧ ρ'.b h.next = w.heap.size ∧ SatX B F C.G (h.new (.cells l e)) ρ' w' :=
  ⟨_, _, rfl, Val.put_ext ρ _ _ 0, Val.put_b _ _ _ _, s.alloc hl 0⟩
end
end Go.Xs
end
section
/- Operations without memory by reckoning: the model's own meaning is carried out. Plain theorems, no condition. -/
namespace Go.Xs
open Go.RowKit

/-- What an operation comes to. -/
inductive OR where
  | val (v : Value) (h : Hp)
  | unit (h : Hp)
  | call (f : FuncId) (args : List Value)
  | pan (v : Value)
  | dfr (d : SDef)
/-- That it comes to this. -/
def OR.Ok (B : World) (F : PH) (G : Gx) (h : Hp) (ρ : Val) (w : World) (run : Result Next) : OR → Prop
  | .val v h' => ∃ ρ' w', run = .ok (.value (ren ρ' v)) w' ∧ Ext h.next ρ ρ' ∧ h.next ≤ h'.next ∧ wfv h'.next v = true ∧ SatX B F G h' ρ' w'
  | .unit h' => ∃ w', run = .ok .skip w' ∧ h'.next = h.next ∧ SatX B F G h' ρ w'
  | .call f args => run = .ok (.enter f (renL ρ args).toArray) w ∧ wfL h.next args = true
  | .pan v => run = .halt (.panic (ren ρ v)) w ∧ wfv h.next v = true
  | .dfr d => run = .ok (.defer (renD ρ d)) w ∧ wfL h.next d.cap = true ∧ wfL h.next d.args = true

/-- A meaning that does not look at the world. -/
def semP {α : Type} (P : Program) : Sem α → Option (Value ⊕ α)
  | .pure a => some (.inr a)
  | .program k => semP P (k P)
  | .mark _ k => semP P k
  | .halt (.panic v) => some (.inl v)
  | _ => none
theorem semP_run {α : Type} {P : Program} {w : World} : ∀ {s : Sem α} {r : Value ⊕ α}, semP P s = some r → s.run P w = match r with
    | .inr a => .ok a w
    | .inl v => .halt (.panic v) w
  | .pure a, r, h => by simp only [semP, Option.some.injEq] at h; subst h; rfl
  | .program k, r, h => by simp only [semP] at h; simp only [Sem.run]; exact semP_run h
  | .mark _ k, r, h => by simp only [semP] at h; simp only [Sem.run]; exact semP_run h
  | .halt x, r, h => by
    cases x <;> simp [semP] at h
    subst h
    rfl
  | .load .., _, h => by simp [semP] at h
  | .store .., _, h => by simp [semP] at h
  | .new .., _, h => by simp [semP] at h
  | .shape .., _, h => by simp [semP] at h
  | .freeze .., _, h => by simp [semP] at h
  | .frozen .., _, h => by simp [semP] at h
  | .getObj .., _, h => by simp [semP] at h
  | .setObj .., _, h => by simp [semP] at h
  | .choose .., _, h => by simp [semP] at h
  | .sys .., _, h => by simp [semP] at h

def calm : Builtin → Bool
  | .len | .min | .max | .cap => true
  | _ => false
/-- The operands of such an operation. -/
def opsOf : Op → Option (List Operand)
  | .binOp _ _ x y _ => some [x, y]
  | .unOp _ _ x => some [x]
  | .convert _ _ x => some [x]
  | .index _ x y => some [x, y]
  | .slice _ x lo hi mx => some (x :: (lo.toList ++ hi.toList ++ mx.toList))
  | .field _ x _ => some [x]
  | .makeInterface _ x => some [x]
  | .typeAssert x _ _ _ => some [x]
  | .call ⟨.builtin b, ⟨xs⟩, _⟩ => bif calm b then some xs else none
  | _ => none
theorem opsOf_ok {op : Op} {l : List Operand} (h : opsOf op = some l) : (∀ cs b, op ≠ .select cs b) ∧ ∀ x ∈ op.operands, x ∈ l := by
  unfold opsOf at h
  split at h <;> try (cases h; done)
  case h_9 =>
    rename_i b xs ats
    cases hc : calm b with
    | false => rw [hc] at h; cases h
    | true =>
      rw [hc] at h
      cases h
      exact ⟨fun cs b h => (by cases h), fun x hx => by simpa [Op.operands, Call.operands] using hx⟩
  all_goals
    cases h
    refine ⟨fun cs b h => (by cases h), fun x hx => ?_⟩
    simp [Op.operands] at hx ⊢
    try exact hx
    try (rcases hx with hx | hx | hx | hx <;> simp [hx])

def evNo (G : Nat) (E : Env) (x : Operand) : Bool := match evX G E x with
  | some v => noAddr v
  | none => false
def evD (G : Nat) (E : Env) (x : Operand) : Value := match evX G E x with
  | some v => v
  | none => undef
/-- Operations without memory and without addresses. -/
def xpure (C : Ctx) (E : Env) (h : Hp) (o : Oper) : Option OR := match opsOf o.op with
  | some l => bif l.all (evNo C.G E) then match semP C.P (execOp (evD C.G E) o) with
      | some (.inr (.value v)) => bif noAddr v then some (.val v h) else none
      | some (.inl v) => bif noAddr v then some (.pan v) else none
      | _ => none
    else none
  | none => none
section
variable {B : World} {F : PH} {C : Ctx} {h : Hp} {ρ : Val} {w : World} {n : Nat} {ds : List SDef} {E : Env} {a : Act} {o : Oper}
theorem OR.Ok.same (s : SatX B F C.G h ρ w) {run : Result Next} {v : Value} (hr : run = .ok (.value (ren ρ v)) w) (hv : wfv h.next v = true) : OR.Ok B F C.G h ρ w run (.val v h) :=
  ⟨ρ, w, hr, Ext.refl _ _, Nat.le_refl _, hv, s⟩
theorem xpure_ok (s : SatX B F C.G h ρ w) (hA : AgrX h.next ρ n ds E a) {r : OR} (hx : xpure C E h o = some r) : r.Ok B F C.G h ρ w ((execOp a.eval o).run C.P w) := by
  unfold xpure at hx
  split at hx
  · rename_i l hl
    obtain ⟨hsel, hops⟩ := opsOf_ok hl
    cases hall : l.all (evNo C.G E) with
    | false => rw [hall] at hx; cases hx
    | true =>
      rw [hall] at hx
      simp only [cond_true] at hx
      have hev : ∀ x ∈ o.op.operands, a.eval x = evD C.G E x := fun x hx' => by
        have := List.all_eq_true.1 hall x (hops x hx')
        unfold evNo at this
        unfold evD
        split at this
        · rename_i v hv
          rw [(hA.ev s.gl s.gn hv).2, ren_id ρ v this]
        · cases this
      rw [execOp_congr o hsel hev]
      split at hx
      · rename_i v hs
        cases hn : noAddr v with
        | false => rw [hn] at hx; cases hx
        | true =>
          rw [hn] at hx
          cases hx
          refine OR.Ok.same s ?_ (wfv_mono (Nat.zero_le _) _ hn)
          rw [semP_run hs, ren_id ρ v hn]
      · rename_i v hs
        cases hn : noAddr v with
        | false => rw [hn] at hx; cases hx
        | true =>
          rw [hn] at hx
          cases hx
          exact ⟨by rw [semP_run hs, ren_id ρ v hn], wfv_mono (Nat.zero_le _) _ hn⟩
      · cases hx
  · cases hx
end
end Go.Xs
end
section
/- Operations with addresses by reckoning: literals, places, parts of slices. Plain theorems, no condition. -/
namespace Go.Xs
open Go.RowKit
open Go.Sk (isAggB sizeB fldB slcB zerB plB run_sizeB run_isAggB slcB_spec fldB_spec zerB_spec)

/-! ### literals -/
/-- The cells of a literal. -/
def fillX (G : Nat) (E : Env) (pl : Nat → Option (Nat × Nat)) : List (Nat × Operand) → List Value → Option (List Value)
  | [], cells => some cells
  | (i, x) :: ps, cells => match pl i with
    | some (off, sz) => match evX G E x with
      | some v => bif Nat.beq (vcells v).length sz && Nat.blt 0 sz then match setR cells off (vcells v) with
          | some cells' => fillX G E pl ps cells'
          | none => none
        else none
      | none => none
    | none => none
theorem fold_set : ∀ (vs : List Value) (k off : Nat) (cells : List Value), off + k + vs.length ≤ cells.length →
    (vs.zipIdx k).foldl (fun (cs : Array Value) x => cs.setIfInBounds (off + x.2) x.1) cells.toArray = (cells.take (off + k) ++ vs ++ cells.drop (off + k + vs.length)).toArray
  | [], k, off, cells, _ => by simp
  | v :: vs, k, off, cells, hl => by
    simp only [List.length_cons] at hl
    have hk : off + k < cells.length := by omega
    simp only [List.zipIdx_cons, List.foldl_cons, List.setIfInBounds_toArray]
    rw [fold_set vs (k + 1) off (cells.set (off + k) v) (by simp; omega)]
    congr 1
    rw [show off + (k + 1) = off + k + 1 by omega]
    rw [List.take_succ_eq_append_getElem (by simp; omega), List.getElem_set_self, List.take_set_of_le (Nat.le_refl _), List.drop_set_of_lt (by omega)]
    simp [Nat.add_assoc, Nat.add_comm 1]
theorem fold_set0 (vs : List Value) (off : Nat) (cells : List Value) (h : off + vs.length ≤ cells.length) :
    vs.toArray.zipIdx.foldl (fun (cs : Array Value) x => cs.setIfInBounds (off + x.2) x.1) cells.toArray = (cells.take off ++ vs ++ cells.drop (off + vs.length)).toArray := by
  have := fold_set vs 0 off cells (by omega)
  simp only [Nat.add_zero] at this
  rw [← this]
  simp
section
variable {B : World} {F : PH} {C : Ctx} {h : Hp} {ρ : Val} {w : World} {n : Nat} {ds : List SDef} {E : Env} {a : Act} {o : Oper}
theorem fillX_ok (s : SatX B F C.G h ρ w) (hA : AgrX h.next ρ n ds E a) {pl : Nat → Option (Nat × Nat)} : ∀ {ps : List (Nat × Operand)} {cells l : List Value}, wfL h.next cells = true → fillX C.G E pl ps cells = some l →
    wfL h.next l = true ∧ l.length = cells.length ∧ Instr.fill pl (renL ρ cells).toArray (ps.map fun (i, x) => (i, a.eval x)) = some (renL ρ l).toArray
  | [], cells, l, hw, hx => by
    simp only [fillX, Option.some.injEq] at hx
    subst hx
    exact ⟨hw, rfl, rfl⟩
  | (i, x) :: ps, cells, l, hw, hx => by
    simp only [fillX] at hx
    split at hx
    · rename_i off sz hp
      split at hx
      · rename_i v hv
        cases hb : Nat.beq (vcells v).length sz && Nat.blt 0 sz with
        | false => rw [hb] at hx; cases hx
        | true =>
          rw [hb] at hx
          rw [Bool.and_eq_true, Nat.beq_eq, Nat.blt_eq] at hb
          obtain ⟨hb, hpos⟩ := hb
          simp only [cond_true] at hx
          split at hx
          · rename_i cells' hs
            obtain ⟨hwv, hev⟩ := hA.ev s.gl s.gn hv
            obtain ⟨h1, h2, h3⟩ := fillX_ok s hA (wf_setR hs hw (wf_cells hwv)) hx
            refine ⟨h1, ?_, ?_⟩
            · rw [h2]
              rcases setR_spec hs with ⟨_, rfl⟩ | ⟨rfl, hle⟩
              · rfl
              · simp; omega
            · simp only [List.map_cons, Instr.fill, hp, hev, ren_cells]
              rcases setR_spec hs with ⟨h0, rfl⟩ | ⟨rfl, hle⟩
              · rw [h0] at hb; simp only [List.length_nil] at hb; omega
              · rw [if_neg (by simp [renL_len]; omega), fold_set0 _ _ _ (by simp [renL_len]; omega)]
                simp only [renL_app, renL_take, renL_drop, renL_len] at h3 ⊢
                exact h3
          · cases hx
      · cases hx
    · cases hx

theorem run_box (t : TypeId) (v : Value) : (Instr.box t v).run C.P w = .ok (.pointer (some ⟨w.heap.size, 0, none⟩)) (w.alloc (.cells v.cells t)) := by
  simp only [Instr.box, newVar, newRow, Sem.run_bind]; rfl
/-- a struct's, an array's places -/
def plX (P : Program) (t : TypeId) : Option (Nat → Option (Nat × Nat)) := match P.underlying t with
  | some (.struct fs) => match fs.toList.mapM fun f => (P.info? f.type).map fun i => (f.offset, i.size) with
    | some pl => some fun i => pl[i]?
    | none => none
  | some (.array _ e) => match P.info? e with
    | some ie => some fun i => some (i * ie.size, ie.size)
    | none => none
  | _ => none
def xbuild (C : Ctx) (E : Env) (t : TypeId) (parts : List (Nat × Operand)) : Option Value := match zerB C.P t with
  | some z => bif noAddr z then match plX C.P t with
      | some pl => match fillX C.G E pl parts (vcells z) with
        | some l => some (.agg ⟨l⟩)
        | none => none
      | none => none
    else none
  | none => none
theorem cells_vcells (v : Value) : v.cells = (vcells v).toArray := by
  cases v with
  | agg a => cases a; rfl
  | _ => rfl
theorem xbuild_ok (s : SatX B F C.G h ρ w) (hA : AgrX h.next ρ n ds E a) {t : TypeId} {parts : List (Nat × Operand)} {v : Value} (hx : xbuild C E t parts = some v) :
    wfv h.next v = true ∧ (Instr.build t (parts.toArray.map fun (i, x) => (i, a.eval x))).run C.P w = .ok (ren ρ v) w := by
  unfold xbuild at hx
  split at hx
  · rename_i z hz
    cases hn : noAddr z with
    | false => rw [hn] at hx; cases hx
    | true =>
      rw [hn] at hx
      simp only [cond_true] at hx
      split at hx
      · rename_i pl hpl
        split at hx
        · rename_i l hl
          cases hx
          have hwz : wfL 0 (vcells z) = true := wf_cells hn
          obtain ⟨h1, _, h3⟩ := fillX_ok s hA (wfL_mono (Nat.zero_le _) _ hwz) hl
          rw [renL_id ρ _ hwz] at h3
          refine ⟨h1, ?_⟩
          have hb : C.P.built t (parts.map fun (i, x) => (i, a.eval x)) = some (renL ρ l).toArray := by
            unfold zerB at hz
            unfold Program.built
            cases hi : C.P.info? t with
            | none => simp [hi] at hz
            | some it =>
              simp only [hi, Option.bind_some] at hz
              unfold plX at hpl
              split at hpl
              · rename_i fs hu
                split at hpl
                · rename_i pl' hm
                  cases hpl
                  simp only [hu, hz, hm, cells_vcells]
                  simpa using h3
                · cases hpl
              · rename_i e hu
                split at hpl
                · rename_i ie hie
                  cases hpl
                  simp only [hu, hz, hie, cells_vcells]
                  exact h3
                · cases hpl
              · cases hpl
          rw [_root_.Go.run_build w t _ (renL ρ l).toArray (by simpa using hb)]
          rfl
        · cases hx
      · cases hx
  · cases hx
/-- so many times the same cells -/
def reps : Nat → List Value → List Value
  | 0, _ => []
  | k + 1, z => z ++ reps k z
theorem reps_len (z : List Value) : ∀ k, (reps k z).length = k * z.length
  | 0 => by simp [reps]
  | k + 1 => by simp [reps, reps_len z k, Nat.succ_mul, Nat.add_comm]
theorem reps_get (z : List Value) (hz : 0 < z.length) : ∀ (k j : Nat), j < k * z.length → (reps k z)[j]? = z[j % z.length]?
  | 0, j, hj => by simp at hj
  | k + 1, j, hj => by
    simp only [reps]
    by_cases hlt : j < z.length
    · rw [List.getElem?_append_left hlt, Nat.mod_eq_of_lt hlt]
    · rw [List.getElem?_append_right (by omega), reps_get z hz k _ (by rw [Nat.succ_mul] at hj; omega)]
      congr 1
      rw [← Nat.mod_eq_sub_mod (by omega)]
theorem reps_range (z : List Value) (k : Nat) (hz : 0 < z.length) : (Array.range (k * z.length)).map (z.toArray[· % z.toArray.size]!) = (reps k z).toArray := by
  apply Array.ext'
  simp only [Array.toList_map, Array.toList_range]
  apply List.ext_getElem?
  intro j
  rw [List.getElem?_map]
  by_cases hj : j < k * z.length
  · rw [List.getElem?_range hj, reps_get z hz k j hj]
    have hm : j % z.length < z.length := Nat.mod_lt _ hz
    simp [hm]
  · rw [List.getElem?_eq_none (by simp; omega), List.getElem?_eq_none (by rw [reps_len]; omega)]
    rfl
theorem wf_reps {m : Nat} {z : List Value} (h : wfL m z = true) : ∀ k, wfL m (reps k z) = true
  | 0 => rfl
  | k + 1 => wfL_app.2 ⟨h, wf_reps h k⟩
/-- The cells of so many zeroes. -/
def zeros (P : Program) (e k sz : Nat) : Option (List Value) := match zerB P e with
  | some z => bif noAddr z && Nat.beq (vcells z).length sz && Nat.blt 0 sz then some (reps k (vcells z)) else none
  | none => none
theorem zeros_ok {e k sz : Nat} {l : List Value} (hx : zeros C.P e k sz = some l) : ∃ z, zerB C.P e = some z ∧ 0 < sz ∧ (vcells z).length = sz ∧ wfL 0 l = true ∧ l = reps k (vcells z) := by
  unfold zeros at hx
  split at hx
  · rename_i z hz
    cases hb : noAddr z && Nat.beq (vcells z).length sz && Nat.blt 0 sz with
    | false => rw [hb] at hx; cases hx
    | true =>
      rw [hb] at hx
      cases hx
      rw [Bool.and_eq_true, Bool.and_eq_true, Nat.beq_eq, Nat.blt_eq] at hb
      exact ⟨z, hz, hb.2, hb.1.2, wf_reps (wf_cells hb.1.1) k, rfl⟩
  · cases hx
def xbuildSlice (C : Ctx) (E : Env) (h : Hp) (t : TypeId) (len : Nat) (parts : List (Nat × Operand)) : Option OR := match slcB C.P t with
  | some (e, sz, _) => bif Nat.ble (len * sz) 16777216 then match zeros C.P e len sz with
      | some zs => match fillX C.G E (fun i => some (i * sz, sz)) parts zs with
        | some l => some (.val (.slice (some ⟨h.next, 0, none⟩) len (2 * len)) (h.new (.cells l e)))
        | none => none
      | none => none
    else none
  | none => none
theorem xbuildSlice_ok (s : SatX B F C.G h ρ w) (hA : AgrX h.next ρ n ds E a) {t len : Nat} {parts : List (Nat × Operand)} {r : OR} (hx : xbuildSlice C E h t len parts = some r) :
    ∃ v h' ρ' w', r = .val v h' ∧ (Instr.buildSlice t len (parts.toArray.map fun (i, x) => (i, a.eval x))).run C.P w = .ok (ren ρ' v) w' ∧ Ext h.next ρ ρ' ∧ h.next ≤ h'.next ∧ wfv h'.next v = true ∧ SatX B F C.G h' ρ' w' := by
  unfold xbuildSlice at hx
  split at hx
  · rename_i e sz bb ht
    cases hle : Nat.ble (len * sz) 16777216 with
    | false => rw [hle] at hx; cases hx
    | true =>
      rw [hle] at hx
      rw [Nat.ble_eq] at hle
      simp only [cond_true] at hx
      split at hx
      · rename_i zs hzs
        split at hx
        · rename_i l hl
          cases hx
          obtain ⟨z, hz, hsz, hzl, hw0, rfl⟩ := zeros_ok hzs
          obtain ⟨h1, h2, h3⟩ := fillX_ok s hA (wfL_mono (Nat.zero_le _) _ hw0) hl
          rw [renL_id ρ _ hw0] at h3
          obtain ⟨ρ', w', hw', he, hb, hs⟩ := run_xnew (C := C) s (e := e) h1
          refine ⟨_, _, ρ', w', rfl, ?_, he, Nat.le_succ _, by simp [wfv, Nat.blt_eq, Hp.new], hs⟩
          obtain ⟨hu, i, hi, hisz, _⟩ := slcB_spec ht
          have hsz' : (sizeOf e).run C.P w = .ok sz w := run_sizeB (by simp [sizeB, hi, hisz])
          have hz1 := zerB_spec (P := C.P) (w := w) hz
          have hbig : ¬ (len * sz > 2 ^ 24) := by omega
          simp only [Instr.buildSlice, Sem.run_bind, run_underlying hu, Result.andThen_ok, hsz', if_neg hbig, Sem.run_pure]
          have hcap : capOf ρ' h.next (2 * len) = len := by unfold capOf; rw [if_pos (by omega)]; omega
          have hfin : ∀ zc : Array Value, (Array.range (len * sz)).map (fun x => zc[x % zc.size]!) = (reps len (vcells z)).toArray →
              (do
                let some cells := Instr.fill (fun i => some (i * sz, sz)) ((Array.range (len * sz)).map (zc[· % zc.size]!)) (parts.toArray.map fun (i, x) => (i, a.eval x)).toList | stuck "buildSlice: a part of the wrong size"
                pure (Value.slice (some (← newRow e cells)) len len) : Sem Value).run C.P w = .ok (ren ρ' (.slice (some ⟨h.next, 0, none⟩) len (2 * len))) w' := by
            intro zc hzc
            rw [hzc]
            have : (parts.toArray.map fun (i, x) => (i, a.eval x)).toList = parts.map fun (i, x) => (i, a.eval x) := by simp
            rw [this, h3, hw']
            simp only [ren, hb, hcap, newRow, Sem.run_bind]
            rfl
          by_cases h0 : len * sz = 0
          · simp only [h0, if_true]
            have hp : (pure #[] : Sem (Array Value)).run C.P w = .ok #[] w := rfl
            simp only [Sem.run_bind, hp, Result.andThen_ok]
            have hlen : len = 0 := by
              rcases Nat.mul_eq_zero.1 h0 with h | h
              · exact h
              · omega
            have := hfin #[] (by simp [hlen, reps])
            simp only [h0, Sem.run_bind] at this
            exact this
          · simp only [h0, if_false, Sem.run_bind, hz1, Result.andThen_ok, Sem.run_pure]
            have := hfin z.cells (by rw [cells_vcells, ← hzl]; exact reps_range _ _ (by omega))
            simp only [Sem.run_bind] at this
            exact this
        · cases hx
      · cases hx
  · cases hx
end
end Go.Xs
end
section
/- Operations with addresses by reckoning: places, parts, tests. Plain theorems, no condition. -/
namespace Go.Xs
open Go.RowKit
open Go.Sk (isAggB sizeB fldB slcB zerB plB run_sizeB run_isAggB slcB_spec fldB_spec zerB_spec run_fa)

def evsX (G : Nat) (E : Env) : List Operand → Option (List Value)
  | [] => some []
  | x :: xs => match evX G E x with
    | some v => match evsX G E xs with
      | some vs => some (v :: vs)
      | none => none
    | none => none
def natX (G : Nat) (E : Env) (x : Operand) : Option Nat := match evX G E x with
  | some (.int _ (.ofNat j)) => some j
  | _ => none
/-- a bound: what it is, or what it would be -/
def natO (G : Nat) (E : Env) (d : Nat) : Option Operand → Option Nat
  | none => some d
  | some x => natX G E x
/-- a part of an aggregate -/
def partX (P : Program) (t : TypeId) (l : List Value) (off : Nat) : Option Value := match isAggB P t with
  | some false => l[off]?
  | some true => match sizeB P t with
    | some z => match takeN z (l.drop off) with
      | some m => some (.agg ⟨m⟩)
      | none => none
    | none => none
  | none => none
/-- a slice's part from l to j -/
def sliceX (h : Hp) (sz : Nat) (v : Value) (l j : Nat) : Option Value := match v with
  | .slice none 0 0 => bif Nat.beq l 0 && Nat.beq j 0 then some (.slice none 0 0) else none
  | .slice (some ⟨nm, off, none⟩) len c => bif Nat.ble l j then
      bif Nat.beq (c % 2) 0 then
        bif Nat.ble j (c / 2) then some (.slice (some ⟨nm, bif Nat.beq (c / 2) l then off else off + l * sz, none⟩) (j - l) (2 * (c / 2 - l))) else none
      else match h.get nm with
        | some (.grow xs e z) => bif Nat.ble ((c / 2 + j) * z) xs.length && Nat.blt 0 z then some (.slice (some ⟨nm, bif Nat.blt l j || Nat.beq l 0 then off + l * sz else off, bif Nat.blt l j || Nat.beq l 0 then none else some (l * sz)⟩) (j - l) (2 * (c / 2 + l) + 1)) else none
        | _ => none
    else none
  | .slice (some ⟨nm, off, some d⟩) 0 c => bif Nat.beq l 0 && Nat.beq j 0 then some (.slice (some ⟨nm, off, some d⟩) 0 c) else none
  | _ => none
def isNil : Value → Option Bool
  | .pointer a => some a.isNone
  | .slice a _ _ => some a.isNone
  | .map a => some a.isNone
  | .nilFunc => some true
  | .func _ _ _ => some false
  | .nilIface => some true
  | .iface _ _ => some false
  | _ => none
/-- 1: pointers, 2: slices, 3: maps, 4: functions, 5: interfaces -/
def nilKind (P : Program) (t : TypeId) : Nat := match P.underlying t with
  | some (.pointer _) => 1
  | some (.slice _) => 2
  | some (.map _ _) => 3
  | some (.func _ _ _) => 4
  | some (.interface _) => 5
  | _ => 0
def kindOf : Value → Nat
  | .pointer _ => 1
  | .slice _ _ _ => 2
  | .map _ => 3
  | .nilFunc => 4
  | .func _ _ _ => 4
  | .nilIface => 5
  | .iface _ _ => 5
  | _ => 0
/-- x against nil: is it nil? -/
def nilTest (P : Program) (t : TypeId) (x y : Value) : Option Bool := match y with
  | .pointer none => bif Nat.beq (nilKind P t) 1 && Nat.beq (kindOf x) 1 then isNil x else none
  | .slice none _ _ => bif Nat.beq (nilKind P t) 2 && Nat.beq (kindOf x) 2 then isNil x else none
  | .map none => bif Nat.beq (nilKind P t) 3 && Nat.beq (kindOf x) 3 then isNil x else none
  | .nilFunc => bif Nat.beq (nilKind P t) 4 && Nat.beq (kindOf x) 4 then isNil x else none
  | .nilIface => bif Nat.beq (nilKind P t) 5 && Nat.beq (kindOf x) 5 then isNil x else none
  | _ => none
def isConst : Operand → Bool
  | .const _ => true
  | _ => false
def xval (C : Ctx) (E : Env) (h : Hp) : Op → Option Value
  | .move x => evX C.G E x
  | .assign x => evX C.G E x
  | .pick c x y => match evX C.G E c with
    | some (.bool true) => evX C.G E x
    | some (.bool false) => evX C.G E y
    | _ => none
  | .load t x => match evX C.G E x with
    | some v => xload C h t v
    | none => none
  | .nilCheck x => match evX C.G E x with
    | some (.pointer (some a)) => some (.pointer (some a))
    | some (.func (.func f) p q) => some (.func (.func f) p q)
    | some (.iface t v) => some (.iface t v)
    | _ => none
  | .extract x i => match evX C.G E x with
    | some (.tuple ⟨l⟩) => l[i]?
    | _ => none
  | .makeInterface t x => match C.P.underlying t with
    | some (.interface _) => none
    | some _ => match evX C.G E x with
      | some v => some (.iface t v)
      | none => none
    | none => none
  | .makeFunc (.func f) ⟨x⟩ ⟨y⟩ => match evsX C.G E x with
    | some vx => match evsX C.G E y with
      | some vy => some (.func (.func f) ⟨vx⟩ ⟨vy⟩)
      | none => none
    | none => none
  | .fieldAddr s x f => match evX C.G E x with
    | some (.pointer (some ⟨b, off, none⟩)) => match fldB C.P s f with
      | some (o, _ + 1, _) => some (.pointer (some ⟨b, off + o, none⟩))
      | _ => none
    | _ => none
  | .field s x f => match evX C.G E x with
    | some (.agg ⟨l⟩) => match C.P.underlying s with
      | some (.struct fs) => match fs[f]? with
        | some fi => partX C.P fi.type l fi.offset
        | none => none
      | _ => none
    | _ => none
  | .indexAddr t x y => match natX C.G E y with
    | some i => match evX C.G E x with
      | some (.slice (some ⟨b, off, none⟩) n _) => match slcB C.P t with
        | some (_, z, _) => bif Nat.blt i n then some (.pointer (some ⟨b, off + i * z, none⟩)) else none
        | none => none
      | some (.pointer (some ⟨b, off, none⟩)) => match C.P.underlying t with
        | some (.array n e) => match sizeB C.P e with
          | some z => bif Nat.blt i n then some (.pointer (some ⟨b, off + i * z, none⟩)) else none
          | none => none
        | _ => none
      | _ => none
    | none => none
  | .index t x y => match natX C.G E y with
    | some i => match evX C.G E x with
      | some (.agg ⟨l⟩) => match C.P.underlying t with
        | some (.array n e) => match sizeB C.P e with
          | some z => bif Nat.blt i n then partX C.P e l (i * z) else none
          | none => none
        | _ => none
      | _ => none
    | none => none
  | .slice t x lo hi none => match evX C.G E x with
    | some (.slice a n c) => match slcB C.P t with
      | some (_, z, _) => match natO C.G E 0 lo with
        | some l => match natO C.G E n hi with
          | some j => sliceX h z (.slice a n c) l j
          | none => none
        | none => none
      | none => none
    | some (.pointer (some ⟨b, off, none⟩)) => match C.P.underlying t with
      | some (.array n e) => match sizeB C.P e with
        | some z => match natO C.G E 0 lo with
          | some l => match natO C.G E n hi with
            | some j => sliceX h z (.slice (some ⟨b, off, none⟩) n (2 * n)) l j
            | none => none
          | none => none
        | none => none
      | _ => none
    | _ => none
  | .typeAssert x _ t ok => match C.P.underlying t with
    | some (.interface _) => none
    | some _ => match evX C.G E x with
      | some (.iface u v) => bif Nat.beq u t then some (bif ok then .tuple ⟨[v, .bool true]⟩ else v) else none
      | _ => none
    | none => none
  | .binOp .eql t x y _ => match evX C.G E x with
    | some u => match evX C.G E y with
      | some v => bif isConst y then match nilTest C.P t u v with
          | some b => some (.bool b)
          | none => none
        else none
      | none => none
    | none => none
  | .binOp .neq t x y _ => match evX C.G E x with
    | some u => match evX C.G E y with
      | some v => bif isConst y then match nilTest C.P t u v with
          | some b => some (.bool (!b))
          | none => none
        else none
      | none => none
    | none => none
  | .call ⟨.builtin .len, ⟨[x]⟩, ⟨[t]⟩⟩ => match evX C.G E x with
    | some (.slice _ k _) => match slcB C.P t with
      | some _ => some (.int .i64 k)
      | none => none
    | _ => none
  | _ => none
section
variable {B : World} {F : PH} {C : Ctx} {h : Hp} {ρ : Val} {w : World} {n : Nat} {ds : List SDef} {E : Env} {a : Act} {o : Oper}
theorem evsX_ok (s : SatX B F C.G h ρ w) (hA : AgrX h.next ρ n ds E a) : ∀ {xs : List Operand} {vs : List Value}, evsX C.G E xs = some vs → wfL h.next vs = true ∧ xs.map a.eval = renL ρ vs
  | [], vs, hx => by simp only [evsX, Option.some.injEq] at hx; subst hx; exact ⟨rfl, rfl⟩
  | x :: xs, vs, hx => by
    simp only [evsX] at hx
    split at hx
    · rename_i v hv
      split at hx
      · rename_i vs' hvs
        cases hx
        obtain ⟨h1, h2⟩ := hA.ev s.gl s.gn hv
        obtain ⟨h3, h4⟩ := evsX_ok s hA hvs
        exact ⟨by simp [wfL, h1, h3], by simp [renL, h2, h4]⟩
      · cases hx
    · cases hx
theorem natX_ok (s : SatX B F C.G h ρ w) (hA : AgrX h.next ρ n ds E a) {x : Operand} {i : Nat} (hx : natX C.G E x = some i) : ∃ k, a.eval x = .int k (i : Int) := by
  unfold natX at hx
  split at hx
  · rename_i k j hv
    cases hx
    exact ⟨k, (hA.ev s.gl s.gn hv).2⟩
  · cases hx
theorem partX_ok {t : TypeId} {l : List Value} {off : Nat} {v : Value} (hw : wfL h.next l = true) (hx : partX C.P t l off = some v) : wfv h.next v = true ∧ (part t (renL ρ l).toArray off).run C.P w = .ok (ren ρ v) w := by
  unfold partX at hx
  split at hx
  · rename_i ha
    have hg := renL_get ρ hx
    refine ⟨wfL_get hw hx, ?_⟩
    simp only [part, Sem.run_bind, run_isAggB ha, Result.andThen_ok]
    simp [hg]
  · rename_i ha
    split at hx
    · rename_i z hz
      split at hx
      · rename_i m hm
        cases hx
        obtain ⟨rfl, hl⟩ := takeN_spec hm
        refine ⟨by simp only [wfv, wfA]; exact wfL_take (wfL_drop hw _) _, ?_⟩
        simp only [part, Sem.run_bind, run_isAggB ha, Result.andThen_ok, if_true, run_sizeB hz, Sem.run_pure, ren, renA, renL_take, renL_drop]
        congr 2
        simp [List.extract_eq_take_drop]
      · cases hx
    · cases hx
  · cases hx

theorem sliceX_ok (s : SatX B F C.G h ρ w) {sz l j : Nat} {v u : Value} (hv : wfv h.next v = true) (hx : sliceX h sz v l j = some u) :
    ∃ a n cap, ren ρ v = .slice a n cap ∧ l ≤ j ∧ j ≤ cap ∧ wfv h.next u = true ∧ ren ρ u = .slice (Go.Sk.asub a cap sz l) (j - l) (cap - l) := by
  unfold sliceX at hx
  split at hx
  · cases hb : Nat.beq l 0 && Nat.beq j 0 with
    | false => rw [hb] at hx; cases hx
    | true =>
      rw [hb] at hx
      cases hx
      rw [Bool.and_eq_true, Nat.beq_eq, Nat.beq_eq] at hb
      obtain ⟨rfl, rfl⟩ := hb
      exact ⟨none, 0, 0, by simp [ren], Nat.le_refl _, Nat.le_refl _, by simp [wfv], by simp [ren, Go.Sk.asub]⟩
  · rename_i nm off len c
    cases hlj : Nat.ble l j with
    | false => rw [hlj] at hx; cases hx
    | true =>
      rw [hlj] at hx
      rw [Nat.ble_eq] at hlj
      simp only [cond_true] at hx
      cases hc : Nat.beq (c % 2) 0 with
      | true =>
        rw [hc] at hx
        rw [Nat.beq_eq] at hc
        simp only [cond_true] at hx
        cases hj : Nat.ble j (c / 2) with
        | false => rw [hj] at hx; cases hx
        | true =>
          rw [hj] at hx
          rw [Nat.ble_eq] at hj
          cases hx
          refine ⟨some ⟨ρ.b nm, off, none⟩, len, c / 2, by simp [ren, capOf, hc], hlj, hj, by simpa [wfv] using hv, ?_⟩
          have h2 : capOf ρ nm (2 * (c / 2 - l)) = c / 2 - l := by unfold capOf; rw [if_pos (by omega)]; omega
          simp only [ren, h2, Go.Sk.asub]
          cases hcl : Nat.beq (c / 2) l with
          | true => rw [Nat.beq_eq] at hcl; simp [hcl]
          | false =>
            have : c / 2 ≠ l := fun e => by rw [← Nat.beq_eq, hcl] at e; cases e
            simp [this, add_lit]
      | false =>
        rw [hc] at hx
        have hc1 : ¬ c % 2 = 0 := fun e => by rw [← Nat.beq_eq, hc] at e; cases e
        simp only [cond_false] at hx
        split at hx
        · rename_i xs e z hg
          cases hb : Nat.ble ((c / 2 + j) * z) xs.length && Nat.blt 0 z with
          | false => rw [hb] at hx; cases hx
          | true =>
            rw [hb] at hx
            cases hx
            rw [Bool.and_eq_true, Nat.ble_eq, Nat.blt_eq] at hb
            obtain ⟨h1, hz⟩ := hb
            obtain ⟨_, _, _, obj, _, tail, _, ht1, _⟩ := s.ob nm _ hg
            have h4 : (c / 2 + j) * z ≤ ρ.c nm * z := by
              rw [← ht1, List.length_append, renL_len]; omega
            have h5 : c / 2 + j ≤ ρ.c nm := Nat.le_of_mul_le_mul_right h4 hz
            refine ⟨some ⟨ρ.b nm, off, none⟩, len, ρ.c nm - c / 2, by simp [ren, capOf, hc1], hlj, by omega, by simpa [wfv] using hv, ?_⟩
            have h2 : capOf ρ nm (2 * (c / 2 + l) + 1) = ρ.c nm - c / 2 - l := by unfold capOf; rw [if_neg (by omega)]; omega
            cases h3 : Nat.blt l j || Nat.beq l 0 with
            | true =>
              simp only [cond_true]
              rw [Bool.or_eq_true, Nat.blt_eq, Nat.beq_eq] at h3
              simp only [ren, h2, Go.Sk.asub]
              rcases h3 with h3 | h3
              · rw [if_neg (by omega)]; simp [add_lit]
              · subst h3; split <;> simp [add_lit]
            | false =>
              simp only [cond_false]
              simp only [ren, h2, Go.Sk.asub]
              by_cases hcl : ρ.c nm - c / 2 = l
              · rw [if_pos hcl]
                have : Nat.beq (ρ.c nm - c / 2 - l) 0 = true := by rw [Nat.beq_eq]; omega
                simp [this]
              · rw [if_neg hcl]
                have : Nat.beq (ρ.c nm - c / 2 - l) 0 = false := by rw [← Bool.not_eq_true, Nat.beq_eq]; omega
                simp [this, add_lit]
        · cases hx
  · rename_i nm off d c
    cases hb : Nat.beq l 0 && Nat.beq j 0 with
    | false => rw [hb] at hx; cases hx
    | true =>
      rw [hb] at hx
      cases hx
      rw [Bool.and_eq_true, Nat.beq_eq, Nat.beq_eq] at hb
      obtain ⟨rfl, rfl⟩ := hb
      refine ⟨some ⟨ρ.b nm, bif Nat.beq (capOf ρ nm c) 0 then off else off + d, none⟩, 0, capOf ρ nm c, by simp [ren], Nat.le_refl _, Nat.zero_le _, hv, ?_⟩
      simp only [ren, Go.Sk.asub]
      split <;> simp [add_lit]
  · cases hx
theorem natO_ok (s : SatX B F C.G h ρ w) (hA : AgrX h.next ρ n ds E a) {x : Option Operand} {d i : Nat} (hx : natO C.G E d x = some i) : (x = none ∧ i = d) ∨ ∃ y k, x = some y ∧ a.eval y = .int k (i : Int) := by
  cases x with
  | none => simp only [natO, Option.some.injEq] at hx; exact .inl ⟨rfl, hx.symm⟩
  | some y => obtain ⟨k, hk⟩ := natX_ok s hA hx; exact .inr ⟨y, k, rfl, hk⟩
theorem bounds_ok (s : SatX B F C.G h ρ w) (hA : AgrX h.next ρ n ds E a) {b : Bool} {lo hi : Option Operand} {k cap l j : Nat} (hl : natO C.G E 0 lo = some l) (hj : natO C.G E k hi = some j) (h1 : l ≤ j) (h2 : j ≤ cap) :
    (Instr.sliceBounds b k cap (lo.map a.eval) (hi.map a.eval) none).run C.P w = .ok (l, j, cap) w := by
  have e1 : (0 : Int) ≤ (l : Int) := Int.natCast_nonneg _
  have e2 : (0 : Int) ≤ (j : Int) := Int.natCast_nonneg _
  have e3 : (l : Int) ≤ (j : Int) := by omega
  have e4 : (j : Int) ≤ (cap : Int) := by omega
  rcases natO_ok s hA hl with ⟨rfl, rfl⟩ | ⟨y, ky, rfl, hy⟩ <;> rcases natO_ok s hA hj with ⟨rfl, rfl⟩ | ⟨x, kx, rfl, hx⟩
  · simp only [Instr.sliceBounds, Option.map_none, Sem.run_bind, Sem.run_pure, Result.andThen_ok]
  · simp only [Instr.sliceBounds, Instr.sliceBound, asIntOf, Option.map_none, Option.map_some, hx, e2, e4, and_self, if_true, Int.toNat_natCast, Sem.run_bind, Sem.run_pure, Result.andThen_ok]
  · simp only [Instr.sliceBounds, Instr.sliceBound, asIntOf, Option.map_none, Option.map_some, hy, e1, e3, and_self, if_true, Int.toNat_natCast, Sem.run_bind, Sem.run_pure, Result.andThen_ok, Option.isSome_none, Bool.false_eq_true, if_false]
  · simp only [Instr.sliceBounds, Instr.sliceBound, asIntOf, Option.map_none, Option.map_some, hx, hy, e1, e2, e3, e4, and_self, if_true, Int.toNat_natCast, Sem.run_bind, Sem.run_pure, Result.andThen_ok, Option.isSome_none, Bool.false_eq_true, if_false]
theorem nilKind_ptr {t : TypeId} (h : nilKind C.P t = 1) : ∃ e, C.P.underlying t = some (.pointer e) := by
  unfold nilKind at h
  split at h <;> first | omega | (exact ⟨_, by assumption⟩)
theorem nilKind_slc {t : TypeId} (h : nilKind C.P t = 2) : ∃ e, C.P.underlying t = some (.slice e) := by
  unfold nilKind at h
  split at h <;> first | omega | (exact ⟨_, by assumption⟩)
theorem nilKind_map {t : TypeId} (h : nilKind C.P t = 3) : ∃ k e, C.P.underlying t = some (.map k e) := by
  unfold nilKind at h
  split at h <;> first | omega | (exact ⟨_, _, by assumption⟩)
theorem nilKind_fun {t : TypeId} (h : nilKind C.P t = 4) : ∃ p q r, C.P.underlying t = some (.func p q r) := by
  unfold nilKind at h
  split at h <;> first | omega | (exact ⟨_, _, _, by assumption⟩)
theorem nilKind_ifc {t : TypeId} (h : nilKind C.P t = 5) : ∃ p, C.P.underlying t = some (.interface p) := by
  unfold nilKind at h
  split at h <;> first | omega | (exact ⟨_, by assumption⟩)
open Go.Sk (run_eqv) in
theorem nilTest_ok {t : TypeId} {u v : Value} {b : Bool} (hx : nilTest C.P t u v = some b) : (Op.equal t (ren ρ u) (ren ρ v)).run C.P w = .ok b w := by
  unfold nilTest at hx
  split at hx
  · cases hb : Nat.beq (nilKind C.P t) 1 && Nat.beq (kindOf u) 1 with
    | false => rw [hb] at hx; cases hx
    | true =>
      rw [hb] at hx
      rw [Bool.and_eq_true, Nat.beq_eq, Nat.beq_eq] at hb
      obtain ⟨e, he⟩ := nilKind_ptr hb.1
      have hk := hb.2
      cases u <;> simp [kindOf] at hk
      rename_i p
      simp only [cond_true, isNil, Option.some.injEq] at hx
      subst hx
      refine run_eqv fun d => ?_
      cases p <;> simp [ren, Op.equalIn, run_underlying he]
  · cases hb : Nat.beq (nilKind C.P t) 2 && Nat.beq (kindOf u) 2 with
    | false => rw [hb] at hx; cases hx
    | true =>
      rw [hb] at hx
      rw [Bool.and_eq_true, Nat.beq_eq, Nat.beq_eq] at hb
      obtain ⟨e, he⟩ := nilKind_slc hb.1
      have hk := hb.2
      cases u <;> simp [kindOf] at hk
      rename_i p _ _
      simp only [cond_true, isNil, Option.some.injEq] at hx
      subst hx
      refine run_eqv fun d => ?_
      rcases p with _ | ⟨_, _, _ | _⟩ <;> simp [ren, Op.equalIn, run_underlying he]
  · cases hb : Nat.beq (nilKind C.P t) 3 && Nat.beq (kindOf u) 3 with
    | false => rw [hb] at hx; cases hx
    | true =>
      rw [hb] at hx
      rw [Bool.and_eq_true, Nat.beq_eq, Nat.beq_eq] at hb
      obtain ⟨k, e, he⟩ := nilKind_map hb.1
      have hk := hb.2
      cases u <;> simp [kindOf] at hk
      rename_i p
      simp only [cond_true, isNil, Option.some.injEq] at hx
      subst hx
      refine run_eqv fun d => ?_
      cases p <;> simp [ren, Op.equalIn, run_underlying he]
  · cases hb : Nat.beq (nilKind C.P t) 4 && Nat.beq (kindOf u) 4 with
    | false => rw [hb] at hx; cases hx
    | true =>
      rw [hb] at hx
      rw [Bool.and_eq_true, Nat.beq_eq, Nat.beq_eq] at hb
      obtain ⟨p, q, r, he⟩ := nilKind_fun hb.1
      have hk := hb.2
      cases u <;> simp [kindOf] at hk
      all_goals
        simp only [cond_true, isNil, Option.some.injEq] at hx
        subst hx
        refine run_eqv fun d => ?_
        simp [ren, Op.equalIn, run_underlying he]
  · cases hb : Nat.beq (nilKind C.P t) 5 && Nat.beq (kindOf u) 5 with
    | false => rw [hb] at hx; cases hx
    | true =>
      rw [hb] at hx
      rw [Bool.and_eq_true, Nat.beq_eq, Nat.beq_eq] at hb
      obtain ⟨p, he⟩ := nilKind_ifc hb.1
      have hk := hb.2
      cases u <;> simp [kindOf] at hk
      all_goals
        simp only [cond_true, isNil, Option.some.injEq] at hx
        subst hx
        refine run_eqv fun d => ?_
        simp [ren, Op.equalIn, run_underlying he]
  · cases hx
end
end Go.Xs
end
section
/- Operations that hand back a value and leave the heap: the reckoning is right. Plain theorems, no condition. -/
namespace Go.Xs
open Go.RowKit
open Go.Sk (isAggB sizeB fldB slcB zerB plB run_sizeB run_isAggB slcB_spec fldB_spec zerB_spec run_fa run_ix run_sl)
section
variable {B : World} {F : PH} {C : Ctx} {h : Hp} {ρ : Val} {w : World} {n : Nat} {ds : List SDef} {E : Env} {a : Act} {o : Oper}
theorem und_fld {st f off z : Nat} {g : Bool} (hf : fldB C.P st f = some (off, z + 1, g)) {ad : Addr} : (Instr.fieldAt st (.pointer (some ad)) f).run C.P w = .ok (.pointer (some (ad.add off))) w := run_fa hf
theorem nilTest_cases {t : TypeId} {u v : Value} {b : Bool} (hx : nilTest C.P t u v = some b) :
    (∃ p, u = .pointer p ∧ v = .pointer none) ∨ (∃ p k c k' c', u = .slice p k c ∧ v = .slice none k' c') ∨ (∃ p, u = .map p ∧ v = .map none) ∨ ((u = .nilFunc ∨ ∃ f x y, u = .func f x y) ∧ v = .nilFunc) ∨ ((u = .nilIface ∨ ∃ t' x, u = .iface t' x) ∧ v = .nilIface) := by
  unfold nilTest at hx
  have kk : ∀ {p q : Bool} {r : Option Bool}, (bif p && q then r else none) = some b → q = true := fun {p q r} e => by cases p <;> cases q <;> first | rfl | cases e
  split at hx
  · have := Nat.eq_of_beq_eq_true (kk hx); cases u <;> simp [kindOf] at this; exact .inl ⟨_, rfl, rfl⟩
  · have := Nat.eq_of_beq_eq_true (kk hx); cases u <;> simp [kindOf] at this; exact .inr (.inl ⟨_, _, _, _, _, rfl, rfl⟩)
  · have := Nat.eq_of_beq_eq_true (kk hx); cases u <;> simp [kindOf] at this; exact .inr (.inr (.inl ⟨_, rfl, rfl⟩))
  · have := Nat.eq_of_beq_eq_true (kk hx); cases u <;> simp [kindOf] at this <;> simp
  · have := Nat.eq_of_beq_eq_true (kk hx); cases u <;> simp [kindOf] at this <;> simp
  · cases hx
theorem nil_guard {t : TypeId} {u v : Value} {b : Bool} (hx : nilTest C.P t u v = some b) (bo : BinOp) (x : Operand) (c : Value) : (eqGuard bo t x (.const c) (ren ρ u) (ren ρ v)).run C.P w = .ok () w := by
  rcases nilTest_cases hx with ⟨_ | p, rfl, rfl⟩ | ⟨_ | ⟨_, _, _ | _⟩, _, _, _, _, rfl, rfl⟩ | ⟨_ | p, rfl, rfl⟩ | ⟨rfl | ⟨_, _, _, rfl⟩, rfl⟩ | ⟨rfl | ⟨_, _, rfl⟩, rfl⟩ <;> cases bo <;> simp [ren, eqGuard]
theorem nil_eql {t : TypeId} {u v : Value} {b : Bool} (hx : nilTest C.P t u v = some b) : binOp .eql t (ren ρ u) (ren ρ v) = (do pure (.bool (← Op.equal t (ren ρ u) (ren ρ v)))) := by
  rcases nilTest_cases hx with ⟨_ | p, rfl, rfl⟩ | ⟨_ | ⟨_, _, _ | _⟩, _, _, _, _, rfl, rfl⟩ | ⟨_ | p, rfl, rfl⟩ | ⟨rfl | ⟨_, _, _, rfl⟩, rfl⟩ | ⟨rfl | ⟨_, _, rfl⟩, rfl⟩ <;> rfl
theorem nil_neq {t : TypeId} {u v : Value} {b : Bool} (hx : nilTest C.P t u v = some b) : binOp .neq t (ren ρ u) (ren ρ v) = (do pure (.bool (!(← Op.equal t (ren ρ u) (ren ρ v))))) := by
  rcases nilTest_cases hx with ⟨_ | p, rfl, rfl⟩ | ⟨_ | ⟨_, _, _ | _⟩, _, _, _, _, rfl, rfl⟩ | ⟨_ | p, rfl, rfl⟩ | ⟨rfl | ⟨_, _, _, rfl⟩, rfl⟩ | ⟨rfl | ⟨_, _, rfl⟩, rfl⟩ <;> rfl
theorem xval_ok (s : SatX B F C.G h ρ w) (hC : C.OK F) (hA : AgrX h.next ρ n ds E a) {v : Value} (hx : xval C E h o.op = some v) :
    wfv h.next v = true ∧ (execOp a.eval o).run C.P w = .ok (.value (ren ρ v)) w := by
  unfold xval at hx
  split at hx
  -- move, assign, pick
  · rename_i x ho
    obtain ⟨h1, h2⟩ := hA.ev s.gl s.gn hx
    exact ⟨h1, by unfold execOp; rw [ho]; simp only [h2, Sem.run_pure]⟩
  · rename_i x ho
    obtain ⟨h1, h2⟩ := hA.ev s.gl s.gn hx
    exact ⟨h1, by unfold execOp; rw [ho]; simp only [h2, Sem.run_pure]⟩
  · rename_i c x y ho
    split at hx
    · rename_i hc
      obtain ⟨h1, h2⟩ := hA.ev s.gl s.gn hx
      obtain ⟨_, h3⟩ := hA.ev s.gl s.gn hc
      exact ⟨h1, by unfold execOp; simp only [ho, h2, h3, ren]; rfl⟩
    · rename_i hc
      obtain ⟨h1, h2⟩ := hA.ev s.gl s.gn hx
      obtain ⟨_, h3⟩ := hA.ev s.gl s.gn hc
      exact ⟨h1, by unfold execOp; simp only [ho, h2, h3, ren]; rfl⟩
    · cases hx
  -- load
  · rename_i t x ho
    split at hx
    · rename_i u hu
      obtain ⟨_, h2⟩ := hA.ev s.gl s.gn hu
      obtain ⟨h3, h4⟩ := run_xload s hC hx
      exact ⟨h3, by unfold execOp; simp only [ho, h2, Sem.run_bind, h4, Result.andThen_ok, Sem.run_pure]⟩
    · cases hx
  -- nilCheck
  · rename_i x ho
    split at hx
    · rename_i ad hu
      cases hx
      obtain ⟨h1, h2⟩ := hA.ev s.gl s.gn hu
      exact ⟨h1, by unfold execOp; simp only [ho, h2, ren, Sem.run_pure]⟩
    · rename_i f p q hu
      cases hx
      obtain ⟨h1, h2⟩ := hA.ev s.gl s.gn hu
      exact ⟨h1, by unfold execOp; simp only [ho, h2, ren, Sem.run_pure]⟩
    · rename_i t u hu
      cases hx
      obtain ⟨h1, h2⟩ := hA.ev s.gl s.gn hu
      exact ⟨h1, by unfold execOp; simp only [ho, h2, ren, Sem.run_pure]⟩
    · cases hx
  -- extract
  · rename_i x i ho
    split at hx
    · rename_i l hu
      obtain ⟨h1, h2⟩ := hA.ev s.gl s.gn hu
      simp only [wfv, wfA] at h1
      exact ⟨wfL_get h1 hx, by unfold execOp; simp only [ho, h2, ren, renA, Instr.extract, List.getElem?_toArray, renL_get ρ hx, Sem.run_bind, Sem.run_pure, Result.andThen_ok]⟩
    · cases hx
  -- makeInterface
  · rename_i t x ho
    split at hx
    · cases hx
    · rename_i d hd hne
      split at hx
      · rename_i u hu
        cases hx
        obtain ⟨h1, h2⟩ := hA.ev s.gl s.gn hu
        refine ⟨by simpa [wfv] using h1, ?_⟩
        unfold execOp
        simp only [ho, h2, Instr.makeInterface, Sem.run_bind, run_underlying hne, Result.andThen_ok]
        cases d <;> first | exact absurd rfl (hd _) | simp [ren]
      · cases hx
    · cases hx
  -- makeFunc
  · rename_i f x y ho
    split at hx
    · rename_i vx hvx
      split at hx
      · rename_i vy hvy
        cases hx
        obtain ⟨h1, h2⟩ := evsX_ok s hA hvx
        obtain ⟨h3, h4⟩ := evsX_ok s hA hvy
        exact ⟨by simp [wfv, wfA, h1, h3], by unfold execOp; simp [ho, Instr.makeFunc, ren, renA, h2, h4]⟩
      · cases hx
    · cases hx
  -- fieldAddr
  · rename_i st x f ho
    split at hx
    · rename_i b off hu
      split at hx
      · rename_i fo z g hf
        cases hx
        obtain ⟨h1, h2⟩ := hA.ev s.gl s.gn hu
        refine ⟨by simpa [wfv] using h1, ?_⟩
        unfold execOp
        simp only [ho, h2, ren, Sem.run_bind, und_fld hf, Result.andThen_ok, Sem.run_pure, add_lit]
      · cases hx
    · cases hx
  -- field
  · rename_i st x f ho
    split at hx
    · rename_i l hu
      split at hx
      · rename_i fs hfs
        split at hx
        · rename_i fi hfi
          obtain ⟨h1, h2⟩ := hA.ev s.gl s.gn hu
          simp only [wfv, wfA] at h1
          obtain ⟨h3, h4⟩ := partX_ok (C := C) (w := w) (ρ := ρ) h1 hx
          refine ⟨h3, ?_⟩
          unfold execOp
          simp only [ho, h2, ren, renA, Instr.field, Sem.run_bind, run_underlying hfs, Result.andThen_ok, hfi, asAgg, Sem.run_pure, h4]
        · cases hx
      · cases hx
    · cases hx
  -- indexAddr
  · rename_i t x y ho
    split at hx
    · rename_i i hi
      obtain ⟨k, hk⟩ := natX_ok s hA hi
      split at hx
      · rename_i b off len c hu
        split at hx
        · rename_i e z bb ht
          cases hb : Nat.blt i len with
          | false => rw [hb] at hx; cases hx
          | true =>
            rw [hb] at hx
            cases hx
            rw [Nat.blt_eq] at hb
            obtain ⟨h1, h2⟩ := hA.ev s.gl s.gn hu
            refine ⟨by simpa [wfv] using h1, ?_⟩
            unfold execOp
            have hr := run_ix (P := C.P) (w := w) (k := len) (a := some ⟨ρ.b b, off, none⟩) (c := capOf ρ b c) (kk := k) (i := (i : Int)) ht (Int.natCast_nonneg _) (by omega) rfl
            simp only [ho, h2, hk, ren, Sem.run_bind, hr, Result.andThen_ok, Sem.run_pure, Go.Sk.adr, Option.getD_some, add_lit, Int.toNat_natCast]
        · cases hx
      · rename_i b off hu
        split at hx
        · rename_i len e hu2
          split at hx
          · rename_i z hz
            cases hb : Nat.blt i len with
            | false => rw [hb] at hx; cases hx
            | true =>
              rw [hb] at hx
              cases hx
              rw [Nat.blt_eq] at hb
              obtain ⟨h1, h2⟩ := hA.ev s.gl s.gn hu
              refine ⟨by simpa [wfv] using h1, ?_⟩
              unfold execOp
              have e1 : (0 : Int) ≤ (i : Int) := Int.natCast_nonneg _
              have e2 : (i : Int) < (len : Int) := by omega
              simp only [ho, h2, hk, ren, Instr.indexAt, Instr.sureAddr, asIntOf, Sem.run_bind, Sem.run_pure, Result.andThen_ok, run_underlying hu2, e1, e2, and_self, if_true, run_sizeB hz, add_lit, Int.toNat_natCast]
          · cases hx
        · cases hx
      · cases hx
    · cases hx
  -- index
  · rename_i t x y ho
    split at hx
    · rename_i i hi
      obtain ⟨k, hk⟩ := natX_ok s hA hi
      split at hx
      · rename_i l hu
        split at hx
        · rename_i len e hu2
          split at hx
          · rename_i z hz
            cases hb : Nat.blt i len with
            | false => rw [hb] at hx; cases hx
            | true =>
              rw [hb] at hx
              simp only [cond_true] at hx
              rw [Nat.blt_eq] at hb
              obtain ⟨h1, h2⟩ := hA.ev s.gl s.gn hu
              simp only [wfv, wfA] at h1
              obtain ⟨h3, h4⟩ := partX_ok (C := C) (w := w) (ρ := ρ) h1 hx
              refine ⟨h3, ?_⟩
              unfold execOp
              have e1 : (0 : Int) ≤ (i : Int) := Int.natCast_nonneg _
              have e2 : (i : Int) < (len : Int) := by omega
              simp only [ho, h2, hk, ren, renA, Instr.index, asIntOf, Sem.run_bind, Sem.run_pure, Result.andThen_ok, run_underlying hu2, e1, e2, and_self, if_true, run_sizeB hz, Int.toNat_natCast, h4]
          · cases hx
        · cases hx
      · cases hx
    · cases hx
  -- slice
  · rename_i t x lo hi ho
    split at hx
    · rename_i ad len c hu
      split at hx
      · rename_i e z bb ht
        split at hx
        · rename_i l hl
          split at hx
          · rename_i j hj
            obtain ⟨h1, h2⟩ := hA.ev s.gl s.gn hu
            obtain ⟨a', n', cap, h3, h4, h5, h6, h7⟩ := sliceX_ok s h1 hx
            refine ⟨h6, ?_⟩
            have hn : n' = len := by rcases ad with _ | ⟨_, _, _ | _⟩ <;> simp [ren] at h3 <;> exact h3.2.1.symm
            subst hn
            have hb := bounds_ok (C := C) (w := w) (b := true) s hA hl hj h4 h5
            unfold execOp
            simp only [ho, h2, h3, h7, Option.map_none, Sem.run_bind, run_sl ht hb, Result.andThen_ok, Sem.run_pure]
          · cases hx
        · cases hx
      · cases hx
    · rename_i b off hu
      split at hx
      · rename_i len e hu2
        split at hx
        · rename_i z hz
          split at hx
          · rename_i l hl
            split at hx
            · rename_i j hj
              obtain ⟨h1, h2⟩ := hA.ev s.gl s.gn hu
              obtain ⟨a', n', cap, h3, h4, h5, h6, h7⟩ := sliceX_ok s (by simpa [wfv] using h1) hx
              refine ⟨h6, ?_⟩
              have hc : capOf ρ b (2 * len) = len := by unfold capOf; rw [if_pos (by omega)]; omega
              simp only [ren, hc, Value.slice.injEq] at h3
              obtain ⟨rfl, rfl, rfl⟩ := h3
              have hb := bounds_ok (C := C) (w := w) (b := false) s hA hl hj h4 h5
              unfold execOp
              simp only [ho, h2, ren, h7, Option.map_none, Instr.sliceAt, Instr.sureAddr, Sem.run_bind, run_underlying hu2, Result.andThen_ok, Sem.run_pure, hb, run_sizeB hz, Go.Sk.asub, Option.map_some]
              split <;> rfl
            · cases hx
          · cases hx
        · cases hx
      · cases hx
    · cases hx
  -- typeAssert
  · rename_i x xt t ok ho
    split at hx
    · cases hx
    · rename_i d hd hne
      split at hx
      · rename_i u v0 hu
        cases hb : Nat.beq u t with
        | false => rw [hb] at hx; cases hx
        | true =>
          rw [hb] at hx
          rw [Nat.beq_eq] at hb
          subst hb
          cases hx
          obtain ⟨h1, h2⟩ := hA.ev s.gl s.gn hu
          simp only [wfv] at h1
          refine ⟨by cases ok <;> simp [wfv, wfA, wfL, h1], ?_⟩
          unfold execOp
          simp only [ho, h2, ren, Instr.typeAssert, Sem.run_bind, run_underlying hne, Result.andThen_ok]
          cases d <;> first | exact absurd rfl (hd _) | (cases ok <;> simp [ren, renA, renL])
      · cases hx
    · cases hx
  -- eql
  · rename_i t x y yt ho
    split at hx
    · rename_i u hu
      split at hx
      · rename_i v0 hv
        cases hc : isConst y with
        | false => rw [hc] at hx; cases hx
        | true =>
          rw [hc] at hx
          simp only [cond_true] at hx
          split at hx
          · rename_i b hb
            cases hx
            obtain ⟨h1, h2⟩ := hA.ev s.gl s.gn hu
            obtain ⟨h3, h4⟩ := hA.ev s.gl s.gn hv
            refine ⟨by simp [wfv], ?_⟩
            have he := nilTest_ok (C := C) (w := w) (ρ := ρ) hb
            have hcy : ∃ c, y = .const c := by cases y <;> simp [isConst] at hc; exact ⟨_, rfl⟩
            obtain ⟨c, rfl⟩ := hcy
            unfold execOp
            simp only [ho, h2, h4]
            have hg := nil_guard (w := w) (ρ := ρ) hb .eql x c
            have hbin := nil_eql (ρ := ρ) hb
            simp only [Sem.run_bind, hg, Result.andThen_ok, hbin, he, Sem.run_pure, ren]
          · cases hx
      · cases hx
    · cases hx
  -- neq
  · rename_i t x y yt ho
    split at hx
    · rename_i u hu
      split at hx
      · rename_i v0 hv
        cases hc : isConst y with
        | false => rw [hc] at hx; cases hx
        | true =>
          rw [hc] at hx
          simp only [cond_true] at hx
          split at hx
          · rename_i b hb
            cases hx
            obtain ⟨h1, h2⟩ := hA.ev s.gl s.gn hu
            obtain ⟨h3, h4⟩ := hA.ev s.gl s.gn hv
            refine ⟨by simp [wfv], ?_⟩
            have he := nilTest_ok (C := C) (w := w) (ρ := ρ) hb
            have hcy : ∃ c, y = .const c := by cases y <;> simp [isConst] at hc; exact ⟨_, rfl⟩
            obtain ⟨c, rfl⟩ := hcy
            unfold execOp
            simp only [ho, h2, h4]
            have hg := nil_guard (w := w) (ρ := ρ) hb .neq x c
            have hbin := nil_neq (ρ := ρ) hb
            simp only [Sem.run_bind, hg, Result.andThen_ok, hbin, he, Sem.run_pure, ren]
          · cases hx
      · cases hx
    · cases hx
  -- len
  · rename_i x t ho
    split at hx
    · rename_i ad k c hu
      split at hx
      · rename_i q ht
        cases hx
        obtain ⟨h1, h2⟩ := hA.ev s.gl s.gn hu
        refine ⟨by simp [wfv], ?_⟩
        obtain ⟨e, z, bb⟩ := q
        obtain ⟨hu2, _⟩ := slcB_spec ht
        unfold execOp
        simp only [ho, resolve, invoke, builtin, List.map_toArray, List.map_cons, List.map_nil, h2, Builtin.len_, Sem.run_bind, Sem.run_pure, Result.andThen_ok, List.getElem?_toArray, List.getElem?_cons_zero, run_underlying hu2]
        rcases ad with _ | ⟨_, _, _ | _⟩ <;> rfl
      · cases hx
    · cases hx
  · cases hx
end
end Go.Xs
end
section
/- Operations that make or turn memory: new variables, literals, stores, append, copy. Plain theorems, no condition. -/
namespace Go.Xs
open Go.RowKit
open Go.Sk (isAggB sizeB fldB slcB zerB plB run_sizeB run_isAggB slcB_spec fldB_spec zerB_spec)

/-- The cells that are handed to append and copy: of a slice's elements, of a text's bytes. -/
def bytesV (s : ByteArray) : List Value := s.data.toList.map fun b => .int .u8 b.toNat
def srcX (C : Ctx) (h : Hp) (sz : Nat) : Value → Option (Nat × List Value)
  | .slice none 0 0 => some (0, [])
  | .slice (some ⟨nm, off, none⟩) m _ => match rdAt C h nm with
    | some l => match takeN (m * sz) (l.drop off) with
      | some ys => some (m, ys)
      | none => none
    | none => none
  | .slice (some ⟨_, _, some _⟩) 0 _ => some (0, [])
  | _ => none
/-- append of a slice -/
def xappend (C : Ctx) (h : Hp) (t : TypeId) (s x : Value) : Option OR := match slcB C.P t with
  | some (e, sz, by_) => match zerB C.P e with
    | some z => match srcX C h sz x with
      | some (m, ys) => bif Nat.beq (vcells z).length sz && Nat.blt 0 sz && ones ys && Nat.ble m 1048576 && Nat.ble by_ 1024 then match s with
        | .slice none 0 0 => match m with
          | 0 => some (.val (.slice none 0 0) h)
          | m + 1 => some (.val (.slice (some ⟨h.next, 0, none⟩) (m + 1) 1) (h.new (.grow ys e sz)))
        | .slice (some ⟨nm, 0, none⟩) n c => bif Nat.ble n 1048576 then match h.get nm with
            | some (.cells l e') => bif Nat.beq (c % 2) 0 && Nat.beq e' e then match m with
                | 0 => bif Nat.ble n (c / 2) then some (.val (.slice (some ⟨nm, 0, none⟩) n c) h) else none
                | m + 1 => bif Nat.ble (n + (m + 1)) (c / 2) then match setR l (n * sz) ys with
                    | some l' => some (.val (.slice (some ⟨nm, 0, none⟩) (n + (m + 1)) c) (h.set nm (.cells l' e)))
                    | none => none
                  else match takeN (n * sz) l with
                    | some xs => some (.val (.slice (some ⟨h.next, 0, none⟩) (n + (m + 1)) 1) (h.new (.grow (xs ++ ys) e sz)))
                    | none => none
              else none
            | some (.grow l e' sz') => bif Nat.beq c 1 && Nat.beq e' e && Nat.beq sz' sz then match takeN (n * sz) l with
                | some xs => match m with
                  | 0 => some (.val (.slice (some ⟨nm, 0, none⟩) n c) h)
                  | m + 1 => some (.val (.slice (some ⟨h.next, 0, none⟩) (n + (m + 1)) 1) ((h.del nm).new (.grow (xs ++ ys) e sz)))
                | none => none
              else none
            | _ => none
          else none
        | _ => none
      else none
      | none => none
    | none => none
  | none => none
def xmem (C : Ctx) (E : Env) (h : Hp) : Op → Option OR
  | .alloc t => match zerB C.P t with
    | some z => bif noAddr z then some (.val (.pointer (some ⟨h.next, 0, none⟩)) (h.new (.cells (vcells z) t))) else none
    | none => none
  | .box t x => match evX C.G E x with
    | some v => some (.val (.pointer (some ⟨h.next, 0, none⟩)) (h.new (.cells (vcells v) t)))
    | none => none
  | .build t ⟨parts⟩ => match xbuild C E t parts with
    | some v => some (.val v h)
    | none => none
  | .buildSlice t len ⟨parts⟩ => xbuildSlice C E h t len parts
  | .store t x y => match evX C.G E x with
    | some u => match evX C.G E y with
      | some v => match xstore C h t u v with
        | some h' => some (.unit h')
        | none => none
      | none => none
    | none => none
  | .call ⟨.builtin .append, ⟨[x, y]⟩, ⟨[t, u]⟩⟩ => bif Nat.beq t u then match evX C.G E x with
      | some v => match evX C.G E y with
        | some v' => xappend C h t v v'
        | none => none
      | none => none
    else none
  | .call ⟨.value f, ⟨xs⟩, _⟩ => match evX C.G E f with
    | some (.func (.func g) ⟨fi⟩ ⟨cap⟩) => match evsX C.G E xs with
      | some vs => match C.fns g with
        | some _ => some (.call g (fi ++ vs ++ cap))
        | none => none
      | none => none
    | _ => none
  | .panic x => match evX C.G E x with
    | some (.iface t v) => some (.pan (.iface t v))
    | _ => none
  | .defer ⟨.value f, ⟨xs⟩, _⟩ => match evX C.G E f with
    | some (.func (.func g) ⟨[]⟩ ⟨cap⟩) => match evsX C.G E xs with
      | some vs => some (.dfr ⟨g, cap, vs⟩)
      | none => none
    | _ => none
  | _ => none
section
variable {B : World} {F : PH} {C : Ctx} {h : Hp} {ρ : Val} {w : World} {n : Nat} {ds : List SDef} {E : Env} {a : Act} {o : Oper}
theorem srcX_ok (s : SatX B F C.G h ρ w) (hC : C.OK F) {sz : Nat} {x : Value} {m : Nat} {ys : List Value} (hx : srcX C h sz x = some (m, ys)) :
    wfL h.next ys = true ∧ ys.length = m * sz ∧ ((x = .slice none 0 0 ∧ m = 0 ∧ ys = []) ∨ ∃ ad c, ren ρ x = .slice (some ad) m c ∧ ∀ j u, (renL ρ ys)[j]? = some u → w.cell? (ad.add j) = some u) := by
  unfold srcX at hx
  split at hx
  · cases hx; exact ⟨rfl, by simp, .inl ⟨rfl, rfl, rfl⟩⟩
  · rename_i nm off k c
    split at hx
    · rename_i l hl
      split at hx
      · rename_i zs hzs
        cases hx
        obtain ⟨rfl, hlen⟩ := takeN_spec hzs
        have hget : ∀ j v, ((l.drop off).take (m * sz))[j]? = some v → l[off + j]? = some v := fun j v hv => by
          have hj : j < ((l.drop off).take (m * sz)).length := (List.getElem?_eq_some_iff.1 hv).1
          rw [hlen] at hj
          rwa [List.getElem?_take_of_lt hj, List.getElem?_drop] at hv
        refine ⟨wfL_iff.2 fun v hv => ?_, hlen, .inr ⟨⟨ρ.b nm, off, none⟩, _, rfl, fun j u hu => ?_⟩⟩
        · obtain ⟨j, hj⟩ := List.mem_iff_getElem?.1 hv
          exact (s.rd hC hl (hget j v hj)).1
        · obtain ⟨v, hv, rfl⟩ := renL_get' ρ hu
          rw [add_lit]
          exact (s.rd hC hl (hget j v hv)).2
      · cases hx
    · cases hx
  · cases hx
    exact ⟨rfl, by simp, .inr ⟨_, _, rfl, fun j u hu => by simp [renL] at hu⟩⟩
  · cases hx
theorem SatX.grown (s : SatX B F C.G h ρ w) {w' : World} {l : List Value} {e : TypeId} {sz c : Nat} {tail : List Value} (hos : w'.os = w.os) (hou : w'.output = w.output) (hta : w'.tape = w.tape) (hh : w'.heap = w.heap.push (.cells (renL ρ l ++ tail).toArray e (0, 0)))
    (hl : wfL h.next l = true) (hc : (renL ρ l ++ tail).length = c * sz) (hm : c ≤ maxLen) : SatX B F C.G (h.new (.grow l e sz)) (ρ.put h.next w.heap.size c) w' := by
  refine s.new c hos hou hta hh (wfL_mono (Nat.le_succ _) _ hl) ⟨tail, ?_, ?_, ?_⟩
  · rw [renL_ext (Val.put_ext ρ _ _ _) l hl]
  · rw [renL_ext (Val.put_ext ρ _ _ _) l hl, Val.put_c]; exact hc
  · rw [Val.put_c]; exact hm
/-- A row that may grow gets another name. -/
theorem SatX.rename (s : SatX B F C.G h ρ w) {w' : World} {nm : Nat} {o : SObj} {l : List Value} {e : TypeId} {sz c : Nat} {tail : List Value} (hg : h.get nm = some o) (hos : w'.os = w.os) (hou : w'.output = w.output) (hta : w'.tape = w.tape)
    (hh : w'.heap[ρ.b nm]? = some (.cells (renL ρ l ++ tail).toArray e (0, 0))) (hne : ∀ b, b ≠ ρ.b nm → w'.heap[b]? = w.heap[b]?) (hl : wfL h.next l = true) (hc : (renL ρ l ++ tail).length = c * sz) (hm : c ≤ maxLen) :
    SatX B F C.G ((h.del nm).new (.grow l e sz)) (ρ.put h.next (ρ.b nm) c) w' := by
  have he := Val.put_ext ρ h.next (ρ.b nm) c
  obtain ⟨hF, hlt, _⟩ := s.ob nm o hg
  have hn : (h.del nm).next = h.next := rfl
  have old : ∀ k x, (h.del nm).get k = some x → k < h.next ∧ k ≠ nm ∧ h.get k = some x := fun k x hk => by
    obtain ⟨h1, h2⟩ := Hp.get_del hk
    exact ⟨(s.ob k x h2).2.1, h1, h2⟩
  refine ⟨hos.trans s.os, hou.trans s.output, hta.trans s.tape, fun b x hb => ?_, fun k x hk => ?_, fun k k' x x' h1 h2 hb => ?_, fun g hg' => by rw [(he g (Nat.lt_of_lt_of_le hg' s.gn)).1]; exact s.gl g hg', Nat.le_succ_of_le s.gn⟩
  · have hbn : b ≠ ρ.b nm := fun e => by rw [e, hF] at hb; cases hb
    rw [hne b hbn]
    exact s.fr b x hb
  · by_cases ek : k = h.next
    · subst ek
      have : ((h.del nm).new (.grow l e sz)).get h.next = some (.grow l e sz) := Hp.get_new
      rw [this] at hk
      cases hk
      rw [Val.put_b]
      refine ⟨hF, Nat.lt_succ_self _, wfL_mono (Nat.le_succ _) _ hl, _, hh, tail, ?_, ?_, ?_⟩
      · rw [renL_ext he l hl]
      · rw [renL_ext he l hl, Val.put_c]; exact hc
      · rw [Val.put_c]; exact hm
    · obtain ⟨k1, k2, k3⟩ := old k x (Hp.get_new_ne ek hk)
      obtain ⟨h1, h2, h3, obj, h4, h5⟩ := s.ob k x k3
      rw [(he k k1).1]
      refine ⟨h1, Nat.lt_succ_of_lt h2, wfo_mono (Nat.le_succ _) _ h3, obj, ?_, is_ext he h2 h3 h5⟩
      rw [hne _ (fun eb => k2 (s.inj _ _ _ _ k3 hg eb))]
      exact h4
  · by_cases e1 : k = h.next
    · by_cases e2 : k' = h.next
      · rw [e1, e2]
      · obtain ⟨q1, q2, q3⟩ := old k' x' (Hp.get_new_ne e2 h2)
        rw [e1, Val.put_b, (he k' q1).1] at hb
        exact absurd (s.inj _ _ _ _ hg q3 hb).symm q2
    · obtain ⟨p1, p2, p3⟩ := old k x (Hp.get_new_ne e1 h1)
      by_cases e2 : k' = h.next
      · rw [e2, Val.put_b, (he k p1).1] at hb
        exact absurd (s.inj _ _ _ _ p3 hg hb) p2
      · obtain ⟨q1, q2, q3⟩ := old k' x' (Hp.get_new_ne e2 h2)
        rw [(he k p1).1, (he k' q1).1] at hb
        exact s.inj _ _ _ _ p3 q3 hb
theorem heap_grow (A : Array Value) (e : TypeId) (T : List Value) (hT : A.toList = T) : (w.drew.alloc (.cells A e)).heap = w.heap.push (.cells T.toArray e (0, 0)) := by
  subst hT; rfl
theorem capOf_one (ρ : Val) (nm : Nat) : capOf ρ nm 1 = ρ.c nm := by simp [capOf]
theorem xappend_ok (s : SatX B F C.G h ρ w) (hC : C.OK F) {t ty : TypeId} {v x : Value} {r : OR} (hv : wfv h.next v = true) (hx : xappend C h t v x = some r) :
    ∃ u h' ρ' w', r = .val u h' ∧ (Builtin.append_ #[t, t] ty #[ren ρ v, ren ρ x]).run C.P w = .ok (ren ρ' u) w' ∧ Ext h.next ρ ρ' ∧ h.next ≤ h'.next ∧ wfv h'.next u = true ∧ SatX B F C.G h' ρ' w' := by
  unfold xappend at hx
  split at hx
  · rename_i e sz by_ ht
    obtain ⟨hu, i, hi, hisz, hiby⟩ := slcB_spec ht
    subst hisz hiby
    split at hx
    · rename_i z hz
      have hzi : i.zero = some z := by simpa [zerB, hi] using hz
      split at hx
      · rename_i m ys hys
        obtain ⟨hwy, hly, hsrc⟩ := srcX_ok s hC hys
        cases hb : Nat.beq (vcells z).length i.size && Nat.blt 0 i.size && ones ys && Nat.ble m 1048576 && Nat.ble i.bytes 1024 with
        | false => rw [hb] at hx; cases hx
        | true =>
          rw [hb] at hx
          simp only [cond_true] at hx
          simp only [Bool.and_eq_true, Nat.beq_eq, Nat.blt_eq, Nat.ble_eq] at hb
          obtain ⟨⟨⟨⟨hzl, hpos⟩, hones⟩, hm20⟩, hby⟩ := hb
          have hzs : z.cells.size = i.size := by rw [cells_vcells]; simpa using hzl
          have src0 : m = 0 → ∃ ad c, ren ρ x = .slice ad 0 c ∧ ((ad = none ∧ c = 0) ∨ ad ≠ none) ∧ ys = [] := fun h0 => by
            subst h0
            have hy0 : ys = [] := List.eq_nil_of_length_eq_zero (by simpa using hly)
            rcases hsrc with ⟨rfl, _, _⟩ | ⟨ad, c, hr, _⟩
            · exact ⟨none, 0, by simp [ren], .inl ⟨rfl, rfl⟩, hy0⟩
            · exact ⟨some ad, c, hr, .inr (by simp), hy0⟩
          have srcP : 0 < m → ∃ ad c, ren ρ x = .slice (some ad) m c ∧ ∀ j u, (renL ρ ys)[j]? = some u → w.cell? (ad.add j) = some u := fun h0 => by
            rcases hsrc with ⟨_, h1, _⟩ | hh
            · omega
            · exact hh
          have hby2 : ∀ k, k ≤ 4194304 → k * i.bytes ≤ 140737488355328 := fun k hk => by
            have := Nat.mul_le_mul hk hby
            omega
          split at hx
          · -- nil
            cases m with
            | zero =>
              cases hx
              obtain ⟨ad, c, hr, _, _⟩ := src0 rfl
              refine ⟨_, _, ρ, w, rfl, ?_, Ext.refl _ _, Nat.le_refl _, by simp [wfv], s⟩
              rw [hr]
              cases ad <;> simp [ren, Builtin.append_, run_underlying hu, sizeOf, typeInfo, hi, Builtin.lenOf, Builtin.firstCells, loadCells, loadCellsFrom, storeCells]
            | succ m =>
              cases hx
              obtain ⟨ad, c, hr, hcells⟩ := srcP (by omega)
              have hrun := run_append_nil (P := C.P) w t ty e i z hu hi hzi ad (m + 1) c (renL ρ ys) (by rw [renL_len]; exact hly) hcells (by omega) (by omega) (by have := hby2 (m + 1) (by omega); omega)
              have hml : m + 1 ≤ maxLen := by unfold maxLen; omega
              have hs := SatX.grown (C := C) s (w' := w.drew.alloc (.cells ((renL ρ ys).toArray ++ Builtin.zeroCells z.cells (grownCap w (m + 1) 0 e - (m + 1))) e)) (l := ys) (e := e) (sz := i.size) (c := grownCap w (m + 1) 0 e)
                (tail := (Builtin.zeroCells z.cells (grownCap w (m + 1) 0 e - (m + 1))).toList) rfl rfl rfl (heap_grow _ _ _ (by simp)) hwy
                (by
                  have := grownCap_ge w (m + 1) 0 e
                  rw [List.length_append, renL_len, hly, Array.length_toList, size_zeroCells, hzs, ← Nat.add_mul]
                  congr 1; omega) (grownCap_le_maxLen w (m + 1) 0 e hml)
              refine ⟨_, _, _, _, rfl, ?_, Val.put_ext _ _ _ _, Nat.le_succ _, by simp [wfv, Nat.blt_eq, Hp.new], hs⟩
              rw [hr]
              simp only [ren]
              rw [hrun, capOf_one, Val.put_b, Val.put_c]
          · -- some
            rename_i nm k c
            cases hk : Nat.ble k 1048576 with
            | false => rw [hk] at hx; cases hx
            | true =>
              rw [hk] at hx
              rw [Nat.ble_eq] at hk
              simp only [cond_true] at hx
              simp only [wfv] at hv
              split at hx
              · rename_i l e' hg
                cases hc : Nat.beq (c % 2) 0 && Nat.beq e' e with
                | false => rw [hc] at hx; cases hx
                | true =>
                  rw [hc] at hx
                  simp only [cond_true] at hx
                  rw [Bool.and_eq_true, Nat.beq_eq, Nat.beq_eq] at hc
                  obtain ⟨hc, rfl⟩ := hc
                  have hcap : ∀ ρ' : Val, capOf ρ' nm c = c / 2 := fun ρ' => by simp [capOf, hc]
                  cases m with
                  | zero =>
                    simp only at hx
                    cases hle : Nat.ble k (c / 2) with
                    | false => rw [hle] at hx; cases hx
                    | true =>
                      rw [hle] at hx
                      rw [Nat.ble_eq] at hle
                      cases hx
                      obtain ⟨ad, c', hr, _, _⟩ := src0 rfl
                      refine ⟨_, _, ρ, w, rfl, ?_, Ext.refl _ _, Nat.le_refl _, by simpa [wfv] using hv, s⟩
                      rw [hr]
                      simp only [ren, hcap]
                      cases ad <;> simp [Builtin.append_, run_underlying hu, sizeOf, typeInfo, hi, Builtin.lenOf, Builtin.firstCells, loadCells, loadCellsFrom, storeCells, hle]
                  | succ m =>
                    obtain ⟨ad, c', hr, hcells⟩ := srcP (by omega)
                    obtain ⟨_, hlt, hw, obj, hob, hi'⟩ := s.ob nm _ hg
                    simp only [SObj.is] at hi'
                    subst hi'
                    simp only at hx
                    cases hle : Nat.ble (k + (m + 1)) (c / 2) with
                    | true =>
                      rw [hle] at hx
                      rw [Nat.ble_eq] at hle
                      simp only [cond_true] at hx
                      split at hx
                      · rename_i l' hset
                        cases hx
                        rcases setR_spec hset with ⟨h0, _⟩ | ⟨hl', hfit⟩
                        · rw [h0] at hly; simp only [List.length_nil] at hly
                          have : 0 < (m + 1) * i.size := Nat.mul_pos (by omega) hpos
                          omega
                        · have hrun := run_append_room (P := C.P) w t ty e' i hu hi (ρ.b nm) k (c / 2) _ hob ad (m + 1) c' (renL ρ ys) (by rw [renL_len]; exact hly) hcells (ones_ren hones) hle (by simp [renL_len]; omega)
                          refine ⟨_, _, ρ, w.setRow (ρ.b nm) (((renL ρ l).toArray.toList.take (k * i.size)) ++ renL ρ ys ++ (renL ρ l).toArray.toList.drop (k * i.size + (renL ρ ys).length)).toArray, rfl, ?_, Ext.refl _ _, Nat.le_refl _, hv, s.upd hg rfl rfl rfl (setRow_heap w _ _ _ e' _ hob) (fun b hb => setRow_other w _ b _ hb) (wf_setR hset hw hwy) ?_⟩
                          · rw [hr]
                            simp only [ren, hcap]
                            exact hrun
                          · simp only [SObj.is, hl', renL_app, renL_take, renL_drop, renL_len]
                      · cases hx
                    | false =>
                      rw [hle] at hx
                      have hgt : c / 2 < k + (m + 1) := by
                        rcases Nat.lt_or_ge (c / 2) (k + (m + 1)) with h | h
                        · exact h
                        · have h' : k + (m + 1) ≤ c / 2 := h
                          rw [← Nat.ble_eq, hle] at h'; cases h'
                      simp only [cond_false] at hx
                      split at hx
                      · rename_i xs hxs
                        cases hx
                        obtain ⟨rfl, hxl⟩ := takeN_spec hxs
                        have holds : ∀ j v, (renL ρ (l.take (k * i.size)))[j]? = some v → w.cell? ((⟨ρ.b nm, 0, none⟩ : Addr).add j) = some v := fun j v hj => by
                          rw [add_lit, Nat.zero_add, cell_of_row w _ j _ _ _ hob, List.getElem?_toArray]
                          rw [renL_take] at hj
                          have hjl : j < k * i.size := by
                            have := (List.getElem?_eq_some_iff.1 hj).1
                            rw [List.length_take] at this; omega
                          rwa [List.getElem?_take_of_lt hjl] at hj
                        have hrun := run_append_grow (P := C.P) w t ty e' i z hu hi hzi ⟨ρ.b nm, 0, none⟩ k (c / 2) (renL ρ (l.take (k * i.size))) (by rw [renL_len]; exact hxl) holds ad (m + 1) c' (renL ρ ys) (by rw [renL_len]; exact hly) hcells hgt (by omega)
                          (growslice_fits (by omega) (hby2 _ (by omega)))
                        have hml : k + (m + 1) ≤ maxLen := by unfold maxLen; omega
                        have hs := SatX.grown (C := C) s (w' := w.drew.alloc (.cells ((renL ρ (l.take (k * i.size))).toArray ++ (renL ρ ys).toArray ++ Builtin.zeroCells z.cells (grownCap w (k + (m + 1)) (c / 2) e' - (k + (m + 1)))) e')) (l := l.take (k * i.size) ++ ys) (e := e') (sz := i.size) (c := grownCap w (k + (m + 1)) (c / 2) e')
                          (tail := (Builtin.zeroCells z.cells (grownCap w (k + (m + 1)) (c / 2) e' - (k + (m + 1)))).toList) rfl rfl rfl (heap_grow _ _ _ (by simp [renL_app])) (wfL_app.2 ⟨wfL_take hw _, hwy⟩)
                          (by
                            have := grownCap_ge w (k + (m + 1)) (c / 2) e'
                            rw [List.length_append, renL_len, List.length_append, hxl, hly, Array.length_toList, size_zeroCells, hzs, ← Nat.add_mul, ← Nat.add_mul]
                            congr 1; omega) (grownCap_le_maxLen w _ (c / 2) e' hml)
                        refine ⟨_, _, _, _, rfl, ?_, Val.put_ext _ _ _ _, Nat.le_succ _, by simp [wfv, Nat.blt_eq, Hp.new], hs⟩
                        rw [hr]
                        simp only [ren, hcap]
                        rw [hrun, capOf_one, Val.put_b, Val.put_c]
                      · cases hx
              · rename_i l e' sz' hg
                cases hc : Nat.beq c 1 && Nat.beq e' e && Nat.beq sz' i.size with
                | false => rw [hc] at hx; cases hx
                | true =>
                  rw [hc] at hx
                  simp only [cond_true] at hx
                  rw [Bool.and_eq_true, Bool.and_eq_true, Nat.beq_eq, Nat.beq_eq, Nat.beq_eq] at hc
                  obtain ⟨⟨rfl, rfl⟩, rfl⟩ := hc
                  obtain ⟨_, hlt, hw, obj, hob, tail, rfl, ht1, ht2⟩ := s.ob nm _ hg
                  split at hx
                  · rename_i xs hxs
                    obtain ⟨rfl, hxl⟩ := takeN_spec hxs
                    have hle0 : k * i.size ≤ l.length := by rw [List.length_take] at hxl; omega
                    have hkc : k ≤ ρ.c nm := by
                      have : k * i.size ≤ ρ.c nm * i.size := by rw [← ht1, List.length_append, renL_len]; omega
                      exact Nat.le_of_mul_le_mul_right this hpos
                    have htk : (renL ρ l ++ tail).take (k * i.size) = renL ρ (l.take (k * i.size)) := by
                      rw [List.take_append_of_le_length (by rw [renL_len]; exact hle0), renL_take]
                    cases m with
                    | zero =>
                      cases hx
                      obtain ⟨ad, c', hr, _, _⟩ := src0 rfl
                      refine ⟨_, _, ρ, w, rfl, ?_, Ext.refl _ _, Nat.le_refl _, by simpa [wfv] using hv, s⟩
                      rw [hr]
                      simp only [ren, capOf_one]
                      cases ad <;> simp [Builtin.append_, run_underlying hu, sizeOf, typeInfo, hi, Builtin.lenOf, Builtin.firstCells, loadCells, loadCellsFrom, storeCells, hkc]
                    | succ m =>
                      cases hx
                      obtain ⟨ad, c', hr, hcells⟩ := srcP (by omega)
                      by_cases hroom : k + (m + 1) ≤ ρ.c nm
                      · have hfit : k * i.size + (renL ρ ys).length ≤ (renL ρ l ++ tail).toArray.size := by
                          rw [renL_len, hly, List.size_toArray, ht1, ← Nat.add_mul]; exact Nat.mul_le_mul_right _ hroom
                        have hrun := run_append_room (P := C.P) w t ty e' i hu hi (ρ.b nm) k (ρ.c nm) _ hob ad (m + 1) c' (renL ρ ys) (by rw [renL_len]; exact hly) hcells (ones_ren hones) hroom hfit
                        have hs := SatX.rename (C := C) s (w' := w.setRow (ρ.b nm) (((renL ρ l ++ tail).toArray.toList.take (k * i.size)) ++ renL ρ ys ++ (renL ρ l ++ tail).toArray.toList.drop (k * i.size + (renL ρ ys).length)).toArray) (l := l.take (k * i.size) ++ ys) (e := e') (sz := i.size) (c := ρ.c nm)
                          (tail := (renL ρ l ++ tail).drop (k * i.size + (renL ρ ys).length)) hg rfl rfl rfl (by rw [setRow_heap w _ _ _ e' _ hob]; simp only [List.toList_toArray, htk, renL_app]) (fun b hb => setRow_other w _ b _ hb) (wfL_app.2 ⟨wfL_take hw _, hwy⟩)
                          (by
                            simp only [List.size_toArray] at hfit
                            simp only [renL_app, List.length_append, renL_len, hxl, List.length_drop] at hfit ht1 ⊢
                            omega) ht2
                        refine ⟨_, _, _, _, rfl, ?_, Val.put_ext _ _ _ _, Nat.le_succ _, by simp [wfv, Nat.blt_eq, Hp.new, Hp.del], hs⟩
                        rw [hr]
                        simp only [ren, capOf_one, Val.put_b, Val.put_c]
                        exact hrun
                      · have holds : ∀ j v, (renL ρ (l.take (k * i.size)))[j]? = some v → w.cell? ((⟨ρ.b nm, 0, none⟩ : Addr).add j) = some v := fun j v hj => by
                          rw [add_lit, Nat.zero_add, cell_of_row w _ j _ _ _ hob, List.getElem?_toArray]
                          rw [← htk] at hj
                          have hjl : j < k * i.size := by
                            have := (List.getElem?_eq_some_iff.1 hj).1
                            rw [List.length_take] at this; omega
                          rwa [List.getElem?_take_of_lt hjl] at hj
                        have hrun := run_append_grow (P := C.P) w t ty e' i z hu hi hzi ⟨ρ.b nm, 0, none⟩ k (ρ.c nm) (renL ρ (l.take (k * i.size))) (by rw [renL_len]; exact hxl) holds ad (m + 1) c' (renL ρ ys) (by rw [renL_len]; exact hly) hcells (by omega) (by omega)
                          (growslice_fits (by omega) (hby2 _ (by omega)))
                        have hml : k + (m + 1) ≤ maxLen := by unfold maxLen; omega
                        have hs := SatX.grown (C := C) (s.del nm) (w' := w.drew.alloc (.cells ((renL ρ (l.take (k * i.size))).toArray ++ (renL ρ ys).toArray ++ Builtin.zeroCells z.cells (grownCap w (k + (m + 1)) (ρ.c nm) e' - (k + (m + 1)))) e')) (l := l.take (k * i.size) ++ ys) (e := e') (sz := i.size) (c := grownCap w (k + (m + 1)) (ρ.c nm) e')
                          (tail := (Builtin.zeroCells z.cells (grownCap w (k + (m + 1)) (ρ.c nm) e' - (k + (m + 1)))).toList) rfl rfl rfl (heap_grow _ _ _ (by simp [renL_app])) (wfL_app.2 ⟨wfL_take hw _, hwy⟩)
                          (by
                            have := grownCap_ge w (k + (m + 1)) (ρ.c nm) e'
                            rw [List.length_append, renL_len, List.length_append, hxl, hly, Array.length_toList, size_zeroCells, hzs, ← Nat.add_mul, ← Nat.add_mul]
                            congr 1; omega) (grownCap_le_maxLen w _ (ρ.c nm) e' hml)
                        refine ⟨_, _, _, _, rfl, ?_, Val.put_ext _ _ _ _, Nat.le_succ _, by simp [wfv, Nat.blt_eq, Hp.new, Hp.del], hs⟩
                        rw [hr]
                        simp only [ren, capOf_one]
                        rw [hrun, Val.put_c]
                        simp only [Hp.del, Val.put_b]
                  · cases hx
              · cases hx
          · cases hx
      · cases hx
    · cases hx
  · cases hx
end
end Go.Xs
end
