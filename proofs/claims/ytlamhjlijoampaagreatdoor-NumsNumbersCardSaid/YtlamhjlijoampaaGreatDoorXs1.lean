/- A program that is run by reckoning: values whose addresses are names, and what they stand for. Plain theorems, no condition. -/
import Derived.WalkKit
import Derived.WalkSpells
import Derived.Defers
import Derived.Recover
set_option linter.unusedVariables false
set_option linter.unusedSimpArgs false
namespace Go.Xs
open Go.RowKit

/-- What names stand for: blocks; how many elements a row that may grow has room for. -/
structure Val where
  b : Nat → Nat
  c : Nat → Nat
/-- A room: twice a number, or one more: so much less than the row has. -/
def capOf (ρ : Val) (nm c : Nat) : Nat := if c % 2 = 0 then c / 2 else ρ.c nm - c / 2

mutual
def ren (ρ : Val) : Value → Value
  | .bool x => .bool x
  | .int k x => .int k x
  | .float k x => .float k x
  | .complex k x y => .complex k x y
  | .string s => .string s
  | .pointer none => .pointer none
  | .pointer (some a) => .pointer (some { a with block := ρ.b a.block })
  | .slice none n c => .slice none n c
  | .slice (some ⟨b, off, none⟩) n c => .slice (some ⟨ρ.b b, off, none⟩) n (capOf ρ b c)
  | .slice (some ⟨b, off, some d⟩) n c => .slice (some ⟨ρ.b b, bif Nat.beq (capOf ρ b c) 0 then off else off + d, none⟩) n (capOf ρ b c)
  | .map none => .map none
  | .map (some r) => .map (some (ρ.b r))
  | .chan r => .chan r
  | .func fn x y => .func fn (renA ρ x) (renA ρ y)
  | .nilFunc => .nilFunc
  | .iface t v => .iface t (ren ρ v)
  | .nilIface => .nilIface
  | .agg x => .agg (renA ρ x)
  | .tuple x => .tuple (renA ρ x)
def renA (ρ : Val) : Array Value → Array Value
  | ⟨l⟩ => ⟨renL ρ l⟩
def renL (ρ : Val) : List Value → List Value
  | [] => []
  | v :: l => ren ρ v :: renL ρ l
end

mutual
/-- All names are below n. -/
def wfv (n : Nat) : Value → Bool
  | .bool _ | .int _ _ | .float _ _ | .complex _ _ _ | .string _ | .pointer none | .slice none _ _ | .map none | .chan none | .nilFunc | .nilIface => true
  | .pointer (some a) => Nat.blt a.block n
  | .slice (some a) _ _ => Nat.blt a.block n
  | .map (some r) => Nat.blt r n
  | .chan (some _) => false
  | .func (.yield _) _ _ => false
  | .func _ x y => wfA n x && wfA n y
  | .iface _ v => wfv n v
  | .agg x => wfA n x
  | .tuple x => wfA n x
def wfA (n : Nat) : Array Value → Bool
  | ⟨l⟩ => wfL n l
def wfL (n : Nat) : List Value → Bool
  | [] => true
  | v :: l => wfv n v && wfL n l
end
/-- Without an address. -/
abbrev noAddr (v : Value) : Bool := wfv 0 v

theorem renL_map (ρ : Val) : ∀ l : List Value, renL ρ l = l.map (ren ρ)
  | [] => by simp [renL]
  | v :: l => by simp [renL, renL_map ρ l]
theorem wfL_iff {n : Nat} : ∀ {l : List Value}, wfL n l = true ↔ ∀ v ∈ l, wfv n v = true
  | [] => by simp [wfL]
  | v :: l => by simp [wfL, wfL_iff (l := l)]

mutual
theorem wfv_mono {n m : Nat} (h : n ≤ m) : ∀ (v : Value), wfv n v = true → wfv m v = true
  | .bool _ | .int _ _ | .float _ _ | .complex _ _ _ | .string _ | .pointer none | .slice none _ _ | .map none | .chan none | .nilFunc | .nilIface => by simp [wfv]
  | .pointer (some a) => by simp only [wfv, Nat.blt_eq]; omega
  | .slice (some a) _ _ => by simp only [wfv, Nat.blt_eq]; omega
  | .map (some r) => by simp only [wfv, Nat.blt_eq]; omega
  | .chan (some _) => by simp [wfv]
  | .func fn ⟨x⟩ ⟨y⟩ => by
    cases fn <;> simp only [wfv, wfA, Bool.and_eq_true] <;> first | exact fun ⟨a, b⟩ => ⟨wfL_mono h x a, wfL_mono h y b⟩ | simp
  | .iface _ v => by simp only [wfv]; exact wfv_mono h v
  | .agg ⟨x⟩ => by simp only [wfv, wfA]; exact wfL_mono h x
  | .tuple ⟨x⟩ => by simp only [wfv, wfA]; exact wfL_mono h x
theorem wfL_mono {n m : Nat} (h : n ≤ m) : ∀ (l : List Value), wfL n l = true → wfL m l = true
  | [] => by simp [wfL]
  | v :: l => by simp only [wfL, Bool.and_eq_true]; exact fun ⟨a, b⟩ => ⟨wfv_mono h v a, wfL_mono h l b⟩
end

/-- Below n both stand for the same. -/
def Ext (n : Nat) (ρ ρ' : Val) : Prop := ∀ k, k < n → ρ'.b k = ρ.b k ∧ ρ'.c k = ρ.c k
theorem Ext.refl (n : Nat) (ρ : Val) : Ext n ρ ρ := fun _ _ => ⟨rfl, rfl⟩
theorem Ext.trans {n m : Nat} {ρ ρ' ρ'' : Val} (h : Ext n ρ ρ') (h' : Ext m ρ' ρ'') (hm : n ≤ m) : Ext n ρ ρ'' :=
  fun k hk => ⟨(h' k (by omega)).1.trans (h k hk).1, (h' k (by omega)).2.trans (h k hk).2⟩
theorem Ext.mono {n m : Nat} {ρ ρ' : Val} (h : Ext m ρ ρ') (hm : n ≤ m) : Ext n ρ ρ' := fun k hk => h k (by omega)

mutual
theorem ren_ext {n : Nat} {ρ ρ' : Val} (h : Ext n ρ ρ') : ∀ (v : Value), wfv n v = true → ren ρ' v = ren ρ v
  | .bool _ | .int _ _ | .float _ _ | .complex _ _ _ | .string _ | .pointer none | .slice none _ _ | .map none | .chan none | .nilFunc | .nilIface => by simp [ren]
  | .pointer (some a) => by
    simp only [wfv, Nat.blt_eq, ren]; intro ha; rw [(h _ ha).1]
  | .slice (some ⟨b, off, none⟩) _ _ => by
    simp only [wfv, Nat.blt_eq, ren, capOf]; intro ha; rw [(h _ ha).1, (h _ ha).2]
  | .slice (some ⟨b, off, some d⟩) _ _ => by
    simp only [wfv, Nat.blt_eq, ren, capOf]; intro ha; rw [(h _ ha).1, (h _ ha).2]
  | .map (some r) => by
    simp only [wfv, Nat.blt_eq, ren]; intro ha; rw [(h _ ha).1]
  | .chan (some _) => by simp [wfv]
  | .func fn ⟨x⟩ ⟨y⟩ => by
    intro hw
    have : wfL n x = true ∧ wfL n y = true := by cases fn <;> simp [wfv, wfA] at hw <;> exact hw
    simp only [ren, renA, renL_ext h x this.1, renL_ext h y this.2]
  | .iface _ v => by simp only [wfv, ren]; intro hw; rw [ren_ext h v hw]
  | .agg ⟨x⟩ => by simp only [wfv, wfA, ren, renA]; intro hw; rw [renL_ext h x hw]
  | .tuple ⟨x⟩ => by simp only [wfv, wfA, ren, renA]; intro hw; rw [renL_ext h x hw]
theorem renL_ext {n : Nat} {ρ ρ' : Val} (h : Ext n ρ ρ') : ∀ (l : List Value), wfL n l = true → renL ρ' l = renL ρ l
  | [] => by simp [renL]
  | v :: l => by simp only [wfL, Bool.and_eq_true, renL]; intro hw; rw [ren_ext h v hw.1, renL_ext h l hw.2]
end
mutual
theorem ren_id (ρ : Val) : ∀ (v : Value), noAddr v = true → ren ρ v = v
  | .bool _ | .int _ _ | .float _ _ | .complex _ _ _ | .string _ | .pointer none | .slice none _ _ | .map none | .chan none | .nilFunc | .nilIface => by simp [ren]
  | .pointer (some a) => by simp [wfv]
  | .slice (some a) _ _ => by simp [wfv]
  | .map (some r) => by simp [wfv]
  | .chan (some _) => by simp [wfv]
  | .func fn ⟨x⟩ ⟨y⟩ => by
    intro hw
    have : wfL 0 x = true ∧ wfL 0 y = true := by cases fn <;> simp [wfv, wfA] at hw <;> exact hw
    simp only [ren, renA, renL_id ρ x this.1, renL_id ρ y this.2]
  | .iface _ v => by simp only [wfv, ren]; intro hw; rw [ren_id ρ v hw]
  | .agg ⟨x⟩ => by simp only [wfv, wfA, ren, renA]; intro hw; rw [renL_id ρ x hw]
  | .tuple ⟨x⟩ => by simp only [wfv, wfA, ren, renA]; intro hw; rw [renL_id ρ x hw]
theorem renL_id (ρ : Val) : ∀ (l : List Value), wfL 0 l = true → renL ρ l = l
  | [] => by simp [renL]
  | v :: l => by simp only [wfL, Bool.and_eq_true, renL]; intro hw; rw [ren_id ρ v hw.1, renL_id ρ l hw.2]
end

/-! ### finite maps -/
inductive Tr (α : Type) where
  | lf
  | one (k : Nat) (x : α)
  | nd (l r : Tr α)
def Tr.get {α : Type} : Tr α → Nat → Nat → Option α
  | .lf, _, _ => none
  | .one k x, _, key => bif Nat.beq k key then some x else none
  | .nd l r, p, key => bif Nat.beq (p % 2) 0 then l.get (p / 2) key else r.get (p / 2) key
def Tr.set {α : Type} : Nat → Tr α → Nat → Nat → α → Tr α
  | 0, _, _, key, x => .one key x
  | d + 1, .nd l r, p, key, x => bif Nat.beq (p % 2) 0 then .nd (Tr.set d l (p / 2) key x) r else .nd l (Tr.set d r (p / 2) key x)
  | d + 1, _, p, key, x => bif Nat.beq (p % 2) 0 then .nd (Tr.set d .lf (p / 2) key x) .lf else .nd .lf (Tr.set d .lf (p / 2) key x)
def Tr.del {α : Type} : Tr α → Nat → Tr α
  | .lf, _ => .lf
  | .one _ _, _ => .lf
  | .nd l r, p => bif Nat.beq (p % 2) 0 then .nd (l.del (p / 2)) r else .nd l (r.del (p / 2))

theorem Tr.get_set {α : Type} : ∀ (d : Nat) (t : Tr α) (p key : Nat) (x : α), (Tr.set d t p key x).get p key = some x
  | 0, _, p, key, x => by simp [Tr.set, Tr.get]
  | d + 1, .nd l r, p, key, x => by
    simp only [Tr.set]
    cases h : Nat.beq (p % 2) 0 <;> simp [Tr.get, h, Tr.get_set d]
  | d + 1, .lf, p, key, x => by
    simp only [Tr.set]
    cases h : Nat.beq (p % 2) 0 <;> simp [Tr.get, h, Tr.get_set d]
  | d + 1, .one _ _, p, key, x => by
    simp only [Tr.set]
    cases h : Nat.beq (p % 2) 0 <;> simp [Tr.get, h, Tr.get_set d]
theorem Tr.get_lf {α : Type} (p key : Nat) : (Tr.lf : Tr α).get p key = none := rfl
theorem Tr.get_set_ne {α : Type} : ∀ (d : Nat) (t : Tr α) (p p' key key' : Nat) (x y : α), key' ≠ key → (Tr.set d t p key x).get p' key' = some y → t.get p' key' = some y
  | 0, _, p, p', key, key', x, y, hne, h => by
    have : Nat.beq key key' = false := by rw [← Bool.not_eq_true, Nat.beq_eq]; exact fun e => hne e.symm
    simp [Tr.set, Tr.get, this] at h
  | d + 1, .nd l r, p, p', key, key', x, y, hne, h => by
    simp only [Tr.set] at h
    cases h1 : Nat.beq (p % 2) 0 <;> cases h2 : Nat.beq (p' % 2) 0 <;> simp only [h1, h2, Tr.get, cond_true, cond_false] at h ⊢ <;> first | exact h | exact Tr.get_set_ne d _ _ _ _ _ _ _ hne h
  | d + 1, .lf, p, p', key, key', x, y, hne, h => by
    simp only [Tr.set] at h
    cases h1 : Nat.beq (p % 2) 0 <;> cases h2 : Nat.beq (p' % 2) 0 <;> simp only [h1, h2, Tr.get, cond_true, cond_false] at h ⊢ <;> first | exact h | exact (by have := Tr.get_set_ne d _ _ _ _ _ _ _ hne h; simp [Tr.get] at this)
  | d + 1, .one _ _, p, p', key, key', x, y, hne, h => by
    simp only [Tr.set] at h
    cases h1 : Nat.beq (p % 2) 0 <;> cases h2 : Nat.beq (p' % 2) 0 <;> simp only [h1, h2, Tr.get, cond_true, cond_false] at h ⊢ <;> first | (cases h; done) | exact (by have := Tr.get_set_ne d _ _ _ _ _ _ _ hne h; simp [Tr.get] at this)
/-- What is there behind a removal was there ahead of it. -/
theorem Tr.get_del {α : Type} : ∀ (t : Tr α) (p p' key' : Nat) (y : α), (t.del p).get p' key' = some y → t.get p' key' = some y
  | .lf, _, _, _, _, h => by simp [Tr.del, Tr.get] at h
  | .one _ _, _, _, _, _, h => by simp [Tr.del, Tr.get] at h
  | .nd l r, p, p', key', y, h => by
    simp only [Tr.del] at h
    cases h1 : Nat.beq (p % 2) 0 <;> cases h2 : Nat.beq (p' % 2) 0 <;> simp only [h1, h2, Tr.get, cond_true, cond_false] at h ⊢ <;> first | exact h | exact Tr.get_del _ _ _ _ _ h
theorem Tr.get_del_self {α : Type} : ∀ (t : Tr α) (p key : Nat), (t.del p).get p key = none
  | .lf, _, _ => rfl
  | .one _ _, _, _ => rfl
  | .nd l r, p, key => by
    simp only [Tr.del]
    cases h1 : Nat.beq (p % 2) 0 <;> simp only [h1, Tr.get, cond_true, cond_false] <;> exact Tr.get_del_self _ _ _
end Go.Xs
