/- Merged: Sk1, Sk2, Sk3, Sk4, Sk5, Sk6, Sk7, Sk8, Sg, Sh, Sk9, Sk10, Sk11, Sk12, Sk13, Sk14, Sk15, Sk16, Sk17, Sk18, Sk31, Sk19, Sk20, Sk21, Sk22, Sk23, Sk24, Sk25, Sk26, Sk33, Sk34, Sk35, Sk36, Sk37, Sk38, Sk39, Sk40. -/
import Derived.WalkKit
import Derived.WalkSpells
import Derived.WalkLawsBesides
import Derived.Deep.Quiet
import Derived.ControlIn
import Derived.TacticsIn
import Derived.OrdersHeld
import Derived.StillTail
import Derived.Laws.IdiomCopy
import Derived.Lib.Overlaps
import Derived.Laws.Externs
import Derived.Lib.AppendZerosOnto
import Derived.Lib.AppendStr
import Derived.Lib.UnsafeStr
import Derived.Below
import Derived.Deep.DeepAppendWide
import Derived.Lib.OthersKept
import Derived.Laws.BytesString
import Derived.Laws.IdiomStrings
import Derived.Laws.MakeOwn
import Derived.RangeFuncRecord
import Derived.OrdersIn
import Derived.MapKept
set_option linter.unusedVariables false
set_option linter.unusedSimpArgs false
section
namespace Go.Sk
open Go.RowKit

/-- A part of a heap. -/
abbrev PH := Nat → Option Obj
/-- A piece: what is asked of a part. -/
abbrev HP := PH → Prop
def Le (h k : PH) : Prop := ∀ b o, h b = some o → k b = some o
def Dj (h k : PH) : Prop := ∀ b, h b = none ∨ k b = none
def Un (h k : PH) : PH := fun b => match h b with | some o => some o | none => k b

theorem Le.refl (h : PH) : Le h h := fun _ _ e => e
theorem Le.trans {h k l : PH} (a : Le h k) (b : Le k l) : Le h l := fun x o e => b x o (a x o e)
theorem Le.none_ {h k : PH} (a : Le h k) {b : Nat} (e : k b = none) : h b = none := by
 cases hh : h b with
 | none => rfl
 | some o => rw [a b o hh] at e; cases e
theorem Dj.symm {h k : PH} (d : Dj h k) : Dj k h := fun b => (d b).symm
theorem Dj.mono {h k h' k' : PH} (d : Dj h k) (a : Le h' h) (b : Le k' k) : Dj h' k' := fun x => (d x).imp a.none_ b.none_
theorem Un.left (h k : PH) : Le h (Un h k) := fun b o e => by simp [Un, e]
theorem Un.right {h k : PH} (d : Dj h k) : Le k (Un h k) := fun b o e => by
 rcases d b with hh | hk
 ·simp [Un, hh, e]
 ·rw [hk] at e; cases e
theorem Un.le {h k l : PH} (a : Le h l) (b : Le k l) : Le (Un h k) l := fun x o e => by
 unfold Un at e
 cases hh : h x with
 | some o' => rw [hh] at e; cases e; exact a x _ hh
 | none => rw [hh] at e; exact b x o e
theorem Un.dj {h k l : PH} (a : Dj h l) (b : Dj k l) : Dj (Un h k) l := fun x => by
 rcases a x with ha | ha
 ·rcases b x with hb | hb
  ·exact .inl (by simp [Un, ha, hb])
  ·exact .inr hb
 ·exact .inr ha

/-- Pieces side by side. -/
def star : List HP → HP
 | [] => fun _ => True
 | p :: ps => fun h => ∃ h1 h2, Dj h1 h2 ∧ Le h1 h ∧ Le h2 h ∧ p h1 ∧ star ps h2

theorem star_up : ∀ (H : List HP) {h k : PH}, Le h k → star H h → star H k
 | [], _, _, _, _ => trivial
 | _ :: _, _, _, l, ⟨h1, h2, d, a, b, p, q⟩ => ⟨h1, h2, d, a.trans l, b.trans l, p, q⟩

theorem star_swap {p q : HP} {R : List HP} {h : PH} (s : star (p :: q :: R) h) : star (q :: p :: R) h := by
 obtain ⟨h1, h2, d, a, b, hp, h3, h4, d', a', b', hq, hr⟩ := s
 refine ⟨h3, Un h1 h4, ?_, a'.trans b, Un.le a (b'.trans b), hq, h1, h4, d.mono (Le.refl _) b', Un.left _ _, Un.right (d.mono (Le.refl _) b'), hp, hr⟩
 exact (Un.dj (d.mono (Le.refl _) a') d'.symm).symm

theorem star_cons_mono {p : HP} {R R' : List HP} (hm : ∀ h, star R h → star R' h) {h : PH} (s : star (p :: R) h) : star (p :: R') h := by
 obtain ⟨h1, h2, d, a, b, hp, hr⟩ := s
 exact ⟨h1, h2, d, a, b, hp, hm _ hr⟩

theorem star_head_mono {p q : HP} {R : List HP} (hm : ∀ h, p h → q h) {h : PH} (s : star (p :: R) h) : star (q :: R) h := by
 obtain ⟨h1, h2, d, a, b, hp, hr⟩ := s
 exact ⟨h1, h2, d, a, b, hm _ hp, hr⟩

/-- H is p and R. -/
inductive Sel : List HP → HP → List HP → Prop
 | h {p : HP} {R : List HP} : Sel (p :: R) p R
 | t {x p : HP} {H R : List HP} : Sel H p R → Sel (x :: H) p (x :: R)

theorem Sel.to {H : List HP} {p : HP} {R : List HP} (s : Sel H p R) : ∀ h, star H h → star (p :: R) h := by
 induction s with
 | h => exact fun _ h => h
 | t _ ih => exact fun h hs => star_swap (star_cons_mono ih hs)
theorem Sel.of {H : List HP} {p : HP} {R : List HP} (s : Sel H p R) : ∀ h, star (p :: R) h → star H h := by
 induction s with
 | h => exact fun _ h => h
 | t _ ih => exact fun h hs => star_cons_mono ih (star_swap hs)

/-- In H stands p; in H' stands q in its place. -/
inductive Rep : List HP → HP → HP → List HP → Prop
 | h {p q : HP} {R : List HP} : Rep (p :: R) p q (q :: R)
 | t {x p q : HP} {H H' : List HP} : Rep H p q H' → Rep (x :: H) p q (x :: H')

theorem Rep.sel {H H' : List HP} {p q : HP} (r : Rep H p q H') : ∃ R, Sel H p R ∧ Sel H' q R := by
 induction r with
 | h => exact ⟨_, .h, .h⟩
 | t _ ih => obtain ⟨R, a, b⟩ := ih; exact ⟨_, .t a, .t b⟩

theorem Sel.i1 {x0 p : HP} {R : List HP} : Sel (x0 :: p :: R) p (x0 :: R) := .t .h
theorem Rep.i1 {x0 p q : HP} {R : List HP} : Rep (x0 :: p :: R) p q (x0 :: q :: R) := .t .h
theorem Sel.i2 {x0 x1 p : HP} {R : List HP} : Sel (x0 :: x1 :: p :: R) p (x0 :: x1 :: R) := .t (.t .h)
theorem Rep.i2 {x0 x1 p q : HP} {R : List HP} : Rep (x0 :: x1 :: p :: R) p q (x0 :: x1 :: q :: R) := .t (.t .h)
theorem Sel.i3 {x0 x1 x2 p : HP} {R : List HP} : Sel (x0 :: x1 :: x2 :: p :: R) p (x0 :: x1 :: x2 :: R) := .t (.t (.t .h))
theorem Rep.i3 {x0 x1 x2 p q : HP} {R : List HP} : Rep (x0 :: x1 :: x2 :: p :: R) p q (x0 :: x1 :: x2 :: q :: R) := .t (.t (.t .h))
theorem Sel.i4 {x0 x1 x2 x3 p : HP} {R : List HP} : Sel (x0 :: x1 :: x2 :: x3 :: p :: R) p (x0 :: x1 :: x2 :: x3 :: R) := .t (.t (.t (.t .h)))
theorem Rep.i4 {x0 x1 x2 x3 p q : HP} {R : List HP} : Rep (x0 :: x1 :: x2 :: x3 :: p :: R) p q (x0 :: x1 :: x2 :: x3 :: q :: R) := .t (.t (.t (.t .h)))
theorem Sel.i5 {x0 x1 x2 x3 x4 p : HP} {R : List HP} : Sel (x0 :: x1 :: x2 :: x3 :: x4 :: p :: R) p (x0 :: x1 :: x2 :: x3 :: x4 :: R) := .t (.t (.t (.t (.t .h))))
theorem Rep.i5 {x0 x1 x2 x3 x4 p q : HP} {R : List HP} : Rep (x0 :: x1 :: x2 :: x3 :: x4 :: p :: R) p q (x0 :: x1 :: x2 :: x3 :: x4 :: q :: R) := .t (.t (.t (.t (.t .h))))
theorem Sel.i6 {x0 x1 x2 x3 x4 x5 p : HP} {R : List HP} : Sel (x0 :: x1 :: x2 :: x3 :: x4 :: x5 :: p :: R) p (x0 :: x1 :: x2 :: x3 :: x4 :: x5 :: R) := .t (.t (.t (.t (.t (.t .h)))))
theorem Rep.i6 {x0 x1 x2 x3 x4 x5 p q : HP} {R : List HP} : Rep (x0 :: x1 :: x2 :: x3 :: x4 :: x5 :: p :: R) p q (x0 :: x1 :: x2 :: x3 :: x4 :: x5 :: q :: R) := .t (.t (.t (.t (.t (.t .h)))))
theorem Sel.i7 {x0 x1 x2 x3 x4 x5 x6 p : HP} {R : List HP} : Sel (x0 :: x1 :: x2 :: x3 :: x4 :: x5 :: x6 :: p :: R) p (x0 :: x1 :: x2 :: x3 :: x4 :: x5 :: x6 :: R) := .t (.t (.t (.t (.t (.t (.t .h))))))
theorem Rep.i7 {x0 x1 x2 x3 x4 x5 x6 p q : HP} {R : List HP} : Rep (x0 :: x1 :: x2 :: x3 :: x4 :: x5 :: x6 :: p :: R) p q (x0 :: x1 :: x2 :: x3 :: x4 :: x5 :: x6 :: q :: R) := .t (.t (.t (.t (.t (.t (.t .h))))))
theorem Sel.i8 {x0 x1 x2 x3 x4 x5 x6 x7 p : HP} {R : List HP} : Sel (x0 :: x1 :: x2 :: x3 :: x4 :: x5 :: x6 :: x7 :: p :: R) p (x0 :: x1 :: x2 :: x3 :: x4 :: x5 :: x6 :: x7 :: R) := .t (.t (.t (.t (.t (.t (.t (.t .h)))))))
theorem Rep.i8 {x0 x1 x2 x3 x4 x5 x6 x7 p q : HP} {R : List HP} : Rep (x0 :: x1 :: x2 :: x3 :: x4 :: x5 :: x6 :: x7 :: p :: R) p q (x0 :: x1 :: x2 :: x3 :: x4 :: x5 :: x6 :: x7 :: q :: R) := .t (.t (.t (.t (.t (.t (.t (.t .h)))))))
theorem Sel.i9 {x0 x1 x2 x3 x4 x5 x6 x7 x8 p : HP} {R : List HP} : Sel (x0 :: x1 :: x2 :: x3 :: x4 :: x5 :: x6 :: x7 :: x8 :: p :: R) p (x0 :: x1 :: x2 :: x3 :: x4 :: x5 :: x6 :: x7 :: x8 :: R) := .t (.t (.t (.t (.t (.t (.t (.t (.t .h))))))))
theorem Rep.i9 {x0 x1 x2 x3 x4 x5 x6 x7 x8 p q : HP} {R : List HP} : Rep (x0 :: x1 :: x2 :: x3 :: x4 :: x5 :: x6 :: x7 :: x8 :: p :: R) p q (x0 :: x1 :: x2 :: x3 :: x4 :: x5 :: x6 :: x7 :: x8 :: q :: R) := .t (.t (.t (.t (.t (.t (.t (.t (.t .h))))))))
theorem Sel.i10 {x0 x1 x2 x3 x4 x5 x6 x7 x8 x9 p : HP} {R : List HP} : Sel (x0 :: x1 :: x2 :: x3 :: x4 :: x5 :: x6 :: x7 :: x8 :: x9 :: p :: R) p (x0 :: x1 :: x2 :: x3 :: x4 :: x5 :: x6 :: x7 :: x8 :: x9 :: R) := .t (.t (.t (.t (.t (.t (.t (.t (.t (.t .h)))))))))
theorem Rep.i10 {x0 x1 x2 x3 x4 x5 x6 x7 x8 x9 p q : HP} {R : List HP} : Rep (x0 :: x1 :: x2 :: x3 :: x4 :: x5 :: x6 :: x7 :: x8 :: x9 :: p :: R) p q (x0 :: x1 :: x2 :: x3 :: x4 :: x5 :: x6 :: x7 :: x8 :: x9 :: q :: R) := .t (.t (.t (.t (.t (.t (.t (.t (.t (.t .h)))))))))
theorem Sel.i11 {x0 x1 x2 x3 x4 x5 x6 x7 x8 x9 x10 p : HP} {R : List HP} : Sel (x0 :: x1 :: x2 :: x3 :: x4 :: x5 :: x6 :: x7 :: x8 :: x9 :: x10 :: p :: R) p (x0 :: x1 :: x2 :: x3 :: x4 :: x5 :: x6 :: x7 :: x8 :: x9 :: x10 :: R) := .t (.t (.t (.t (.t (.t (.t (.t (.t (.t (.t .h))))))))))
theorem Rep.i11 {x0 x1 x2 x3 x4 x5 x6 x7 x8 x9 x10 p q : HP} {R : List HP} : Rep (x0 :: x1 :: x2 :: x3 :: x4 :: x5 :: x6 :: x7 :: x8 :: x9 :: x10 :: p :: R) p q (x0 :: x1 :: x2 :: x3 :: x4 :: x5 :: x6 :: x7 :: x8 :: x9 :: x10 :: q :: R) := .t (.t (.t (.t (.t (.t (.t (.t (.t (.t (.t .h))))))))))
theorem Sel.i12 {x0 x1 x2 x3 x4 x5 x6 x7 x8 x9 x10 x11 p : HP} {R : List HP} : Sel (x0 :: x1 :: x2 :: x3 :: x4 :: x5 :: x6 :: x7 :: x8 :: x9 :: x10 :: x11 :: p :: R) p (x0 :: x1 :: x2 :: x3 :: x4 :: x5 :: x6 :: x7 :: x8 :: x9 :: x10 :: x11 :: R) := .t (.t (.t (.t (.t (.t (.t (.t (.t (.t (.t (.t .h)))))))))))
theorem Rep.i12 {x0 x1 x2 x3 x4 x5 x6 x7 x8 x9 x10 x11 p q : HP} {R : List HP} : Rep (x0 :: x1 :: x2 :: x3 :: x4 :: x5 :: x6 :: x7 :: x8 :: x9 :: x10 :: x11 :: p :: R) p q (x0 :: x1 :: x2 :: x3 :: x4 :: x5 :: x6 :: x7 :: x8 :: x9 :: x10 :: x11 :: q :: R) := .t (.t (.t (.t (.t (.t (.t (.t (.t (.t (.t (.t .h)))))))))))
theorem S1 {x0 p : HP} {R : List HP} : Sel (x0 :: p :: R) p (x0 :: R) := Sel.i1
theorem S2 {x0 x1 p : HP} {R : List HP} : Sel (x0 :: x1 :: p :: R) p (x0 :: x1 :: R) := Sel.i2
theorem S3 {x0 x1 x2 p : HP} {R : List HP} : Sel (x0 :: x1 :: x2 :: p :: R) p (x0 :: x1 :: x2 :: R) := Sel.i3
/-- H holds all of Pre, and R. -/
inductive Fr : List HP → List HP → List HP → Prop
 | nil {H : List HP} : Fr H [] H
 | cons {H H' : List HP} {p : HP} {Ps R : List HP} : Sel H p H' → Fr H' Ps R → Fr H (p :: Ps) R

theorem Fr.to {H Ps R : List HP} (f : Fr H Ps R) : ∀ h, star H h → star (Ps ++ R) h := by
 induction f with
 | nil => exact fun _ h => h
 | cons s _ ih => exact fun h hs => star_cons_mono ih (s.to h hs)

/-- The world w over the base world B, above which the pieces H lie. -/
structure Sat (B : World) (H : List HP) (w : World) : Prop where
 os : w.os = B.os
 output : w.output = B.output
 tape : w.tape = B.tape
 size : B.heap.size ≤ w.heap.size
 base : ∀ b, b < B.heap.size → w.heap[b]? = B.heap[b]?
 heap : ∃ h : PH, (∀ b o, h b = some o → w.heap[b]? = some o ∧ B.heap.size ≤ b) ∧ star H h

theorem Sat.mono {B : World} {H H' : List HP} {w : World} (s : Sat B H w) (m : ∀ h, star H h → star H' h) : Sat B H' w :=
 let ⟨h, a, b⟩ := s.heap
 { s with heap := ⟨h, a, m h b⟩ }
theorem Sat.fr {B : World} {H Ps R : List HP} {w : World} (s : Sat B H w) (f : Fr H Ps R) : Sat B (Ps ++ R) w := s.mono f.to
theorem Sat.tail {B : World} {p : HP} {H : List HP} {w : World} (s : Sat B (p :: H) w) : Sat B H w :=
 s.mono fun _ ⟨_, _, _, _, b, _, r⟩ => star_up _ b r
theorem Sat.drop_ {B : World} : ∀ {Ps H : List HP} {w : World}, Sat B (Ps ++ H) w → Sat B H w
 | [], _, _, s => s
 | _ :: _, _, _, s => Sat.drop_ (Sat.tail s)
theorem Sat.refl (B : World) : Sat B [] B := ⟨rfl, rfl, rfl, Nat.le_refl _, fun _ _ => rfl, fun _ => none, fun _ _ h => (by cases h), trivial⟩
theorem Sat.drawn {B : World} {H : List HP} {w : World} (s : Sat B H w) (d : Nat) : Sat B H { w with drawn := d } :=
 ⟨s.os, s.output, s.tape, s.size, s.base, s.heap⟩
/-- A pure fact may be taken out of a head piece. -/
theorem Sat.head {B : World} {p : HP} {H : List HP} {w : World} (s : Sat B (p :: H) w) : ∃ h, (∀ b o, h b = some o → w.heap[b]? = some o ∧ B.heap.size ≤ b) ∧ p h := by
 obtain ⟨h, a, h1, h2, d, l1, l2, hp, hr⟩ := s.heap
 exact ⟨h1, fun b o e => a b o (l1 b o e), hp⟩
theorem Sat.sel {B : World} {p : HP} {H R : List HP} {w : World} (s : Sat B H w) (r : Sel H p R) : Sat B (p :: R) w := s.mono r.to
theorem Sat.unsel {B : World} {p : HP} {H R : List HP} {w : World} (r : Sel H p R) (s : Sat B (p :: R) w) : Sat B H w := s.mono r.of

/-- An existential piece. -/
def Ex {α : Sort _} (f : α → List HP) : HP := fun h => ∃ x, star (f x) h
theorem star_app : ∀ (A R : List HP) (h1 h2 h : PH), Dj h1 h2 → Le h1 h → Le h2 h → star A h1 → star R h2 → star (A ++ R) h
 | [], R, _, _, _, _, _, l2, _, r => star_up R l2 r
 | p :: A, R, h1, h2, h, d, l1, l2, ⟨k1, k2, d', a, b, hp, hq⟩, r => by
  refine ⟨k1, Un k2 h2, ?_, a.trans l1, Un.le (b.trans l1) l2, hp, star_app A R k2 h2 _ (d.mono b (Le.refl _)) (Un.left _ _) (Un.right (d.mono b (Le.refl _))) hq r⟩
  exact (Un.dj d'.symm (d.mono a (Le.refl _)).symm).symm
theorem star_split : ∀ (A R : List HP) (h : PH), star (A ++ R) h → ∃ h1 h2, Dj h1 h2 ∧ Le h1 h ∧ Le h2 h ∧ star A h1 ∧ star R h2
 | [], _, h, s => ⟨fun _ => none, h, fun _ => .inl rfl, fun _ _ e => (by cases e), Le.refl _, trivial, s⟩
 | p :: A, R, h, ⟨k1, k2, d, a, b, hp, hq⟩ => by
  obtain ⟨h1, h2, d', l1, l2, sA, sR⟩ := star_split A R k2 hq
  refine ⟨Un k1 h1, h2, Un.dj (d.mono (Le.refl _) l2) d', Un.le a (l1.trans b), l2.trans b, ?_, sR⟩
  exact ⟨k1, h1, d.mono (Le.refl _) l1, Un.left _ _, Un.right (d.mono (Le.refl _) l1), hp, sA⟩
theorem Sat.ex_out {α : Sort _} {B : World} {f : α → List HP} {H : List HP} {w : World} (s : Sat B (Ex f :: H) w) : ∃ x, Sat B (f x ++ H) w := by
 obtain ⟨h, a, h1, h2, d, l1, l2, ⟨x, hx⟩, hr⟩ := s.heap
 exact ⟨x, { s with heap := ⟨h, a, star_app _ _ h1 h2 h d l1 l2 hx hr⟩ }⟩
theorem Sat.ex_in {α : Sort _} {B : World} {f : α → List HP} {H : List HP} {w : World} (x : α) (s : Sat B (f x ++ H) w) : Sat B (Ex f :: H) w := by
 obtain ⟨h, a, hs⟩ := s.heap
 obtain ⟨h1, h2, d, l1, l2, sA, sR⟩ := star_split _ _ h hs
 exact { s with heap := ⟨h, a, h1, h2, d, l1, l2, ⟨x, sA⟩, sR⟩ }
/-- A pure piece. -/
def Pu (p : Prop) : HP := fun _ => p
theorem Sat.pu_out {B : World} {p : Prop} {H : List HP} {w : World} (s : Sat B (Pu p :: H) w) : p := let ⟨_, _, hp⟩ := s.head; hp
theorem Sat.pu_in {B : World} {p : Prop} {H : List HP} {w : World} (hp : p) (s : Sat B H w) : Sat B (Pu p :: H) w := by
 obtain ⟨h, a, hs⟩ := s.heap
 exact { s with heap := ⟨h, a, fun _ => none, h, fun _ => .inl rfl, fun _ _ e => (by cases e), Le.refl _, hp, hs⟩ }

/-! ### cells -/
/-- Block b is these cells. -/
def Cs (b : Nat) (e : TypeId) (l : List Value) : HP := fun h => h b = some (.cells l.toArray e (0, 0))

theorem Sat.cs {B : World} {H R : List HP} {w : World} {b : Nat} {e : TypeId} {l : List Value} (s : Sat B H w) (r : Sel H (Cs b e l) R) :
  w.heap[b]? = some (.cells l.toArray e (0, 0)) ∧ B.heap.size ≤ b := by
 obtain ⟨h, a, hp⟩ := (s.sel r).head
 exact a b _ hp

/-- One block is turned: its piece with it. -/
theorem Sat.upd {B : World} {H H' : List HP} {w w' : World} {b : Nat} {o' : Obj} {p p' : HP} (s : Sat B H w) (r : Rep H p p' H')
  (hp : ∀ h, p h → ∃ o, h b = some o) (hp' : ∀ h h', p h → (∀ x, x ≠ b → h' x = h x) → h' b = some o' → p' h')
  (hos : w'.os = w.os) (hou : w'.output = w.output) (hta : w'.tape = w.tape) (hsz : w'.heap.size = w.heap.size)
  (hb : w'.heap[b]? = some o') (hx : ∀ x, x ≠ b → w'.heap[x]? = w.heap[x]?) : Sat B H' w' := by
 obtain ⟨R, s1, s2⟩ := r.sel
 obtain ⟨h, a, h1, h2, d, l1, l2, hpp, hr⟩ := (s.sel s1).heap
 obtain ⟨o, hb1⟩ := hp _ hpp
 have hge : B.heap.size ≤ b := (a b _ (l1 b _ hb1)).2
 have h2b : h2 b = none := by
  rcases d b with e | e
  ·rw [hb1] at e; cases e
  ·exact e
 refine Sat.unsel s2 ⟨hos.trans s.os, hou.trans s.output, hta.trans s.tape, by have := s.size; omega, fun x hxl => (hx x (by omega)).trans (s.base x hxl), ?_⟩
 let k1 : PH := fun x => if x = b then some o' else h1 x
 refine ⟨Un k1 h2, ?_, k1, h2, ?_, Un.left _ _, Un.right ?_, hp' h1 k1 hpp (fun x hne => by simp [k1, hne]) (by simp [k1]), hr⟩
 ·intro x ox hox
  by_cases hxb : x = b
  ·subst hxb
   simp [Un, k1] at hox
   subst hox
   exact ⟨hb, hge⟩
  ·simp only [Un, k1, hxb, if_false] at hox
   rw [hx x hxb]
   cases e1 : h1 x with
   | some o1 => rw [e1] at hox; cases hox; exact a x _ (l1 x _ e1)
   | none => rw [e1] at hox; exact a x _ (l2 x _ hox)
 all_goals
  intro x
  by_cases hxb : x = b
  ·exact .inr (hxb ▸ h2b)
  ·rcases d x with e | e
   ·exact .inl (by simp [k1, hxb, e])
   ·exact .inr e

/-- A new block. -/
theorem Sat.new {B : World} {H : List HP} {w w' : World} {o : Obj} {p : HP} (s : Sat B H w)
  (hos : w'.os = w.os) (hou : w'.output = w.output) (hta : w'.tape = w.tape) (hh : w'.heap = w.heap.push o)
  (hp : ∀ h : PH, (∀ x, x ≠ w.heap.size → h x = none) → h w.heap.size = some o → p h) : Sat B (p :: H) w' := by
 obtain ⟨h, a, hs⟩ := s.heap
 have hold : ∀ x, x < w.heap.size → w'.heap[x]? = w.heap[x]? := fun x hx => by
  rw [hh, Array.getElem?_push]; simp [Nat.ne_of_lt hx]
 have hnew : w'.heap[w.heap.size]? = some o := by rw [hh]; simp
 have hlt : ∀ x o', h x = some o' → x < w.heap.size := fun x o' e => (Array.getElem?_eq_some_iff.1 (a x o' e).1).1
 have hno : h w.heap.size = none := by
  cases e : h w.heap.size with
  | none => rfl
  | some o' => exact absurd (hlt _ _ e) (Nat.lt_irrefl _)
 let k : PH := fun x => if x = w.heap.size then some o else none
 have hd : Dj k h := fun x => by
  by_cases e : x = w.heap.size
  ·exact .inr (e ▸ hno)
  ·exact .inl (by simp [k, e])
 refine ⟨hos.trans s.os, hou.trans s.output, hta.trans s.tape, ?_, fun x hx => (hold x (by have := s.size; omega)).trans (s.base x hx), Un k h, ?_, k, h, hd, Un.left _ _, Un.right hd, hp k (fun x hne => by simp [k, hne]) (by simp [k]), hs⟩
 ·rw [hh]; have := s.size; simp; omega
 ·intro x ox hox
  by_cases e : x = w.heap.size
  ·subst e
   simp [Un, k] at hox
   subst hox
   exact ⟨hnew, s.size⟩
  ·simp only [Un, k, e, if_false] at hox
   exact ⟨(hold x (hlt x ox hox)).trans (a x ox hox).1, (a x ox hox).2⟩

end Go.Sk
end
section
namespace Go.Sk
open Go.RowKit

/-- A frame's make: how many slots; the marks among its deferred calls; the round that it is of; its other deferred calls. -/
structure Fm where
 n : Nat
 ds : List Nat
 ro : Option Nat
 dl : List Deferred := []
instance : Coe Fm Nat := ⟨Fm.n⟩
abbrev Fm.mk0 (n : Nat) : Fm := ⟨n, [], none, []⟩
def Fm.fence (m : Fm) : Fence := { fn := fun _ => True, depth := none, alive := false, round := m.ro }
def Fm.marks (m : Fm) : List Deferred := m.dl ++ m.ds.map fun D => { target := .collected D, args := #[] }
theorem Fm.wide {m : Fm} (h : m.ro = none) : m.fence = Fence.wide := by cases m; cases h; rfl
/-- The frame: which slot holds what, the last written first. -/
abbrev Env := List (Nat × Value)
def lk : Env → Nat → Option Value
 | [], _ => none
 | (s, v) :: E, t => bif Nat.beq s t then some v else lk E t

structure Agr (n : Fm) (E : Env) (a : Act) : Prop where
 size : a.tmps.size = n.n
 defers : a.defers = n.marks
 get : ∀ t v, lk E t = some v → a.tmps[t]? = some v

def ev (E : Env) : Operand → Option Value
 | .tmp t => lk E t
 | .const v => some v
 | .global g => some (.pointer (some ⟨g, 0, none⟩))
 | .func f => some (.func (.func f) #[] #[])

theorem Agr.ev {n : Fm} {E : Env} {a : Act} (h : Agr n E a) {x : Operand} {v : Value} (hx : ev E x = some v) : a.eval x = v := by
 cases x with
 | tmp t =>
  have := h.get t v hx
  simp [Act.eval, Array.getD_eq_getD_getElem?, this]
 | const u => simpa [Sk.ev, Act.eval] using hx
 | global g => simpa [Sk.ev, Act.eval] using hx
 | func f => simpa [Sk.ev, Act.eval] using hx

theorem Agr.put {n : Fm} {E : Env} {a : Act} (h : Agr n E a) {d : Nat} (hd : d < n.n) (v : Value) : Agr n ((d, v) :: E) (a.put (some d) v) := by
 refine ⟨by simp [Act.put, h.size], h.defers, fun t u hu => ?_⟩
 simp only [Act.put]
 by_cases e : d = t
 ·subst e
  simp only [lk, show Nat.beq d d = true from Nat.beq_refl d, cond_true] at hu
  cases hu
  simp [h.size, hd]
 ·have : Nat.beq d t = false := by rw [← Bool.not_eq_true, Nat.beq_eq]; exact e
  simp only [lk, this, cond_false] at hu
  rw [Array.getElem?_setIfInBounds_ne e]
  exact h.get t u hu

def evs (E : Env) : List Operand → Option (List Value)
 | [] => some []
 | x :: xs => match ev E x, evs E xs with
  | some v, some vs => some (v :: vs)
  | _, _ => none
theorem Agr.evs {n : Fm} {E : Env} {a : Act} (h : Agr n E a) : ∀ {xs : List Operand} {vs : List Value}, evs E xs = some vs → xs.map a.eval = vs
 | [], _, e => by cases e; rfl
 | x :: xs, vs, e => by
  simp only [Sk.evs] at e
  split at e
  ·rename_i v vs' h1 h2
   cases e
   simp [h.ev h1, h.evs h2]
  ·cases e

/-- Is the operation wanted? -/
def wt (l0 : List Oper) (E : Env) : Option (Nat × Bool) → Option Bool
 | none => some true
 | some (j, want) => match l0[j]? with
  | some o => match o.dst with
   | some t => match lk E t with
    | some (.bool b) => some (b == want)
    | some (.tuple _) => some false
    | _ => none
   | none => none
  | none => none
theorem wt_wanted {n : Fm} {E : Env} {a : Act} (h : Agr n E a) {l0 : List Oper} {o : Oper} {b : Bool} (hw : wt l0 E o.guard = some b) :
  Region.wanted o (yielded l0.toArray a.tmps) = b := by
 unfold wt at hw
 unfold Region.wanted
 cases hg : o.guard with
 | none => simpa [hg] using hw
 | some jw =>
  obtain ⟨j, want⟩ := jw
  simp only [hg] at hw
  cases hj : l0[j]? with
  | none => simp [hj] at hw
  | some oj =>
   simp only [hj] at hw
   cases hd : oj.dst with
   | none => simp [hd] at hw
   | some t =>
    simp only [hd] at hw
    cases hl : lk E t with
    | none => simp [hl] at hw
    | some u =>
     have hu := h.get t u hl
     cases u <;> simp only [hl] at hw <;> simp at hw <;> subst hw <;> simp [yielded, hj, hd, hu]

/-! ### the two judgements: a list of operations in its order (true), a list whose order is open and which leaves the pieces as they are (false) -/
section
/-- The walk through a list of operations. -/
def wpN (P : Program) (ops : Array Oper) (Q : Exit → Act → World → Prop) : List Oper → Act → World → Prop
 | [], a, w => Q .normal a w
 | o :: rest, a, w => if Region.wanted o (yielded ops a.tmps) then o.wp P a w (wpN P ops Q rest) Q else wpN P ops Q rest (a.put o.dst undef) w
theorem wpN_step {P : Program} {ops : Array Oper} {Q : Exit → Act → World → Prop} {a : Act} {w : World} {rest : List Oper} {o : Oper}
  (h : ∀ K : Act → World → Prop, (∀ a w, wpN P ops Q rest a w → K a w) → if Region.wanted o (yielded ops a.tmps) then o.wp P a w K Q else K (a.put o.dst undef) w) : wpN P ops Q (o :: rest) a w := h _ (fun _ _ h => h)
def noDefer (l : List Oper) : Bool := l.all fun o => match o.op with | .defer _ => false | _ => true
theorem callsIn_of {P : Program} {f : FuncId} {args : Array Value} {w : World} {R : Ending → World → Prop} (m : Fm) (h : Calls P f args w R) : CallsIn m.fence 0 P f args w R :=
 ⟨trivial, fun cs _ => let ⟨e, w', fr, r, s, x⟩ := h cs; ⟨e, w', fr, r, comesIn_wide.2 s, x⟩⟩
theorem rowsIn_of {P : Program} {row : String} {args : Array Value} {w : World} {R : Value → World → Prop} (m : Fm) (h : Rows P row args w R) : RowsIn m.fence 0 P row args w R :=
 fun c cs _ => let ⟨v, w', r, s⟩ := h c cs; ⟨v, w', r, stepsIn_wide.2 s⟩
theorem wpIn_of {P : Program} {o : Oper} {a : Act} {w : World} {K K' : Act → World → Prop} {Q : Exit → Act → World → Prop} (m : Fm) (hd : m.ro = none ∨ ∀ c, o.op ≠ .defer c) (hK : ∀ a w, K a w → K' a w) (h : o.wp P a w K Q) : o.wpIn m.fence 0 P a w K' Q := by
 unfold Oper.wpIn
 refine ⟨fun _ _ => trivial, ?_⟩
 have hs : o.semAt m.fence.round a.eval = execOp a.eval o := by
  rcases hd with hd | hd
  ·show o.semAt m.ro a.eval = _
   rw [hd, Oper.semAt_none]
  ·exact Oper.semAt_eq _ _ _ hd
 rw [hs]
 unfold Oper.wp at h
 generalize (execOp a.eval o).run P w = r at *
 cases r with
 | ok x w' =>
  cases x <;> simp only [Oper.upon, Oper.uponIn] at h ⊢ <;> try exact hK _ _ h
  ·exact ⟨fun h => (by cases h), callsIn_of m (Calls.mono h fun e w'' he => by cases e <;> first | exact hK _ _ he | exact he)⟩
  ·exact ⟨fun h => (by cases h), rowsIn_of m (Rows.mono h fun v w'' he => hK _ _ he)⟩
  all_goals exact h.elim
 | halt x w' => cases x <;> simp only [Oper.upon, Oper.uponIn] at h ⊢ <;> exact h
theorem wpN_In {P : Program} {ops : Array Oper} {Q : Exit → Act → World → Prop} (m : Fm) : ∀ (l : List Oper) (a : Act) (w : World), (m.ro = none ∨ noDefer l = true) → wpN P ops Q l a w → wpListIn m.fence 0 P ops Q l a w
 | [], _, _, _, h => h
 | o :: rest, a, w, hd, h => by
  unfold wpN at h
  unfold wpListIn
  have h1 : m.ro = none ∨ ∀ c, o.op ≠ .defer c := hd.imp id fun hn c hc => by simp [noDefer, hc] at hn
  have h2 : m.ro = none ∨ noDefer rest = true := hd.imp id fun hn => by
   unfold noDefer at hn ⊢
   rw [List.all_cons, Bool.and_eq_true] at hn
   exact hn.2
  split
  ·rename_i hw
   rw [if_pos hw] at h
   exact wpIn_of m h1 (fun a w h => wpN_In m rest a w h2 h) h
  ·rename_i hw
   rw [if_neg hw] at h
   exact ⟨fun _ _ => trivial, wpN_In m rest _ _ h2 h⟩
variable (B : World) (P : Program) (n : Fm)
def LJ (l0 l : List Oper) (E : Env) (H : List HP) (Q : Exit → Act → World → Prop) : Prop := ∀ a w, Agr n E a → Sat B H w → wpN P l0.toArray Q l a w
def QJ (l0 l : List Oper) (E : Env) (H : List HP) (Q : Exit → Act → World → Prop) : Prop :=
 ∀ a, Agr n E a → wpQuiet P l0.toArray (Sat B H) (fun a' => ∀ w, Sat B H w → Q .normal a' w) l a
def RT (m : Bool) (l0 l : List Oper) (E : Env) (H : List HP) (Q : Exit → Act → World → Prop) : Prop :=
 match m with
 | true => LJ B P n l0 l E H Q
 | false => QJ B P n l0 l E H Q
/-- What an operation yields in every such world, which it leaves such a world. -/
def Yld (E : Env) (H : List HP) (op : Op) (ty : TypeId) (v : Value) : Prop :=
 ∀ (o : Oper) a w, o.op = op → o.type = ty → Agr n E a → Sat B H w → Oper.quietAt P o a (Sat B H) w v
/-- Leaving by ex in this state is fine. -/
def AtQ (E : Env) (H : List HP) (Q : Exit → Act → World → Prop) (ex : Exit) : Prop := ∀ a w, Agr n E a → Sat B H w → Q ex a w
/-- Code, in a state. -/
def CT (c : Code) (E : Env) (H : List HP) (Q : Exit → Act → World → Prop) : Prop := ∀ a w, Agr n E a → Sat B H w → c.wpIn n.fence 0 P Q a w
end

section
variable {B : World} {P : Program} {n : Fm} {m : Bool} {l0 rest : List Oper} {E : Env} {H : List HP} {Q : Exit → Act → World → Prop}

theorem RT.nil (h : AtQ B n E H Q .normal) : RT B P n m l0 [] E H Q := by
 cases m
 ·exact fun a hA => fun w hS => h a w hA hS
 ·exact fun a w hA hS => h a w hA hS

theorem RT.skip {d : Nat} {op : Op} {ty : TypeId} {pos : String} {af : Array Edge} {g : Option (Nat × Bool)} (hw : wt l0 E g = some false) (hd : d < n.n)
  (k : RT B P n m l0 rest ((d, undef) :: E) H Q) : RT B P n m l0 (⟨some d, op, ty, pos, af, g⟩ :: rest) E H Q := by
 cases m
 ·intro a hA
  have := wt_wanted hA (o := ⟨some d, op, ty, pos, af, g⟩) hw
  refine wpQuiet_step fun K hK => ?_
  rw [if_neg (by simp [this])]
  exact hK _ (k _ (hA.put hd _))
 ·intro a w hA hS
  have := wt_wanted hA (o := ⟨some d, op, ty, pos, af, g⟩) hw
  refine wpN_step fun K hK => ?_
  rw [if_neg (by simp [this])]
  exact hK _ _ (k _ _ (hA.put hd _) hS)

theorem LJ_of_quietAt {K : Act → World → Prop} {o : Oper} {a : Act} {w : World} {v : Value} (h : Oper.quietAt P o a (Sat B H) w v) (hS : Sat B H w)
  (hk : ∀ w', Sat B H w' → K (a.put o.dst v) w') : o.wp P a w K Q := by
 unfold Oper.quietAt at h
 unfold Oper.wp
 cases hr : (execOp a.eval o).run P w with
 | halt x w' => rw [hr] at h; exact h.elim
 | ok x w' =>
  rw [hr] at h
  cases x <;> try exact h.elim
  ·obtain ⟨rfl, rfl⟩ := h
   exact hk _ hS
  ·obtain ⟨rfl, rfl⟩ := h
   exact hk _ hS
  ·obtain ⟨rfl, hc⟩ := h
   exact hc.mono fun e w'' ⟨he, hC⟩ => by subst he; exact hk _ hC

theorem RT.y {d : Nat} {op : Op} {ty : TypeId} {pos : String} {af : Array Edge} {g : Option (Nat × Bool)} {v : Value} (hw : wt l0 E g = some true) (hd : d < n.n)
  (hy : Yld B P n E H op ty v) (k : RT B P n m l0 rest ((d, v) :: E) H Q) : RT B P n m l0 (⟨some d, op, ty, pos, af, g⟩ :: rest) E H Q := by
 cases m
 ·intro a hA
  have := wt_wanted hA (o := ⟨some d, op, ty, pos, af, g⟩) hw
  refine wpQuiet_step fun K hK => ?_
  rw [if_pos this]
  exact ⟨v, fun w hS => hy _ a w rfl rfl hA hS, hK _ (k _ (hA.put hd _))⟩
 ·intro a w hA hS
  have := wt_wanted hA (o := ⟨some d, op, ty, pos, af, g⟩) hw
  refine wpN_step fun K hK => ?_
  rw [if_pos this]
  exact LJ_of_quietAt (hy _ a w rfl rfl hA hS) hS fun w' hS' => hK _ _ (k _ _ (hA.put hd _) hS')

/-- An operation that turns the pieces (or yields what is not known ahead): in its order alone. -/
theorem RT.eff {dst : Option Nat} {op : Op} {ty : TypeId} {pos : String} {af : Array Edge} {g : Option (Nat × Bool)} (hw : wt l0 E g = some true)
  (h : ∀ (o : Oper) a w (K : Act → World → Prop), o.op = op → o.type = ty → o.dst = dst → Agr n E a → Sat B H w → (∀ a w, wpN P l0.toArray Q rest a w → K a w) → o.wp P a w K Q) :
  RT B P n true l0 (⟨dst, op, ty, pos, af, g⟩ :: rest) E H Q := by
 intro a w hA hS
 have := wt_wanted hA (o := ⟨dst, op, ty, pos, af, g⟩) hw
 refine wpN_step fun K hK => ?_
 rw [if_pos this]
 exact h _ a w K rfl rfl rfl hA hS hK

/-- A pure fact, or an existential's witness, is taken out of the head piece. -/
theorem RT.pu {p : Prop} (h : p → RT B P n true l0 rest E H Q) : RT B P n true l0 rest E (Pu p :: H) Q := fun a w hA hS => h hS.pu_out a w hA hS.tail
theorem RT.ex {α : Sort _} {f : α → List HP} (h : ∀ x, RT B P n true l0 rest E (f x ++ H) Q) : RT B P n true l0 rest E (Ex f :: H) Q := fun a w hA hS =>
 let ⟨x, hx⟩ := hS.ex_out
 h x a w hA hx
theorem RT.weak {H' : List HP} (hm : ∀ w, Sat B H w → Sat B H' w) (h : RT B P n true l0 rest E H' Q) : RT B P n true l0 rest E H Q := fun a w hA hS => h a w hA (hm w hS)

/-! ### code -/
variable {c x y : Code}
/-- What stands behind: y, then Q. -/
def Then (n : Fm) (P : Program) (y : Code) (Q : Exit → Act → World → Prop) : Exit → Act → World → Prop := Exit.then (y.wpIn n.fence 0 P Q) Q
theorem CT.seq (h : CT B P n x E H (Then n P y Q)) : CT B P n (.seq x y) E H Q := fun a w hA hS => wpIn_seq (h a w hA hS)
theorem CT.skip (h : AtQ B n E H Q .normal) : CT B P n .skip E H Q := fun a w hA hS => wpIn_skip (h a w hA hS)
theorem CT.ret (h : AtQ B n E H Q .ret) : CT B P n .ret E H Q := fun a w hA hS => wpIn_ret (h a w hA hS)
theorem CT.exit {id : Nat} (h : AtQ B n E H Q (.exit id)) : CT B P n (.exit id) E H Q := fun a w hA hS => wpIn_exit (h a w hA hS)
theorem CT.block {id : Nat} (h : CT B P n c E H (Exit.inBlock id Q)) : CT B P n (.block id c) E H Q := fun a w hA hS => wpIn_block (h a w hA hS)
theorem CT.cond_t {o : Operand} (he : ev E o = some (.bool true)) (h : CT B P n x E H Q) : CT B P n (.cond o x y) E H Q := fun a w hA hS => wpIn_cond_true (hA.ev he) (h a w hA hS)
theorem CT.cond_f {o : Operand} (he : ev E o = some (.bool false)) (h : CT B P n y E H Q) : CT B P n (.cond o x y) E H Q := fun a w hA hS => wpIn_cond_false (hA.ev he) (h a w hA hS)
theorem CT.cond {o : Operand} {b : Bool} (he : ev E o = some (.bool b)) (ht : b = true → CT B P n x E H Q) (hf : b = false → CT B P n y E H Q) : CT B P n (.cond o x y) E H Q :=
 fun a w hA hS => wpIn_cond_split (hA.ev he) (fun e => ht e a w hA hS) (fun e => hf e a w hA hS)
theorem CT.region {id : Nat} {l : List Oper} (h : RT B P n true l l E H Q) (hnd : n.ro = none ∨ noDefer l = true := by first | exact .inl rfl | exact .inr rfl) : CT B P n (.region id l.toArray false) E H Q := fun a w hA hS => wpIn_region_lit (wpN_In n l a w hnd (h a w hA hS))
theorem CT.quiet {id : Nat} {l : List Oper} (hm : P.follows .mixedOrders = true) (hB : Region.lexB .any l.toArray = true) (h : RT B P n false l l E H Q) (hro : n.ro = none := by rfl) : CT B P n (.region id l.toArray true) E H Q :=
 fun a w hA hS => by rw [Fm.wide hro]; exact wpIn_wide.2 (wp_region_quiet (C := Sat B H) hm hB (hS.drawn _) (by simpa using h a hA))
theorem CT.pu {p : Prop} (h : p → CT B P n c E H Q) : CT B P n c E (Pu p :: H) Q := fun a w hA hS => h hS.pu_out a w hA hS.tail
theorem CT.ex {α : Sort _} {f : α → List HP} (h : ∀ x, CT B P n c E (f x ++ H) Q) : CT B P n c E (Ex f :: H) Q := fun a w hA hS =>
 let ⟨x, hx⟩ := hS.ex_out
 h x a w hA hx
theorem CT.weak {H' : List HP} (hm : ∀ w, Sat B H w → Sat B H' w) (h : CT B P n c E H' Q) : CT B P n c E H Q := fun a w hA hS => h a w hA (hm w hS)
/-- A slot that is not read any more is forgotten; order does not matter. -/
def Env.sub (E E' : Env) : Prop := ∀ t v, lk E' t = some v → lk E t = some v
theorem Agr.sub {E' : Env} {a : Act} (h : Agr n E a) (hs : Env.sub E E') : Agr n E' a := ⟨h.size, h.defers, fun t v e => h.get t v (hs t v e)⟩
def subB (E : Env) : Env → Prop
 | [] => True
 | (t, v) :: E' => lk E t = some v ∧ subB E E'
theorem subB.sub : ∀ {E' : Env}, subB E E' → Env.sub E E'
 | [], _, _, _, e => by cases e
 | (s, u) :: E', h, t, v, e => by
  simp only [lk] at e
  cases hb : Nat.beq s t with
  | true => rw [hb] at e; cases e; rw [Nat.beq_eq] at hb; exact hb ▸ h.1
  | false => rw [hb] at e; exact subB.sub h.2 t v e
theorem CT.env {E' : Env} (hs : subB E E') (h : CT B P n c E' H Q) : CT B P n c E H Q := fun a w hA hS => h a w (hA.sub hs.sub) hS

theorem Fm.fence_eq {m m' : Fm} (h : m'.ro = m.ro) : m'.fence = m.fence := by unfold Fm.fence; rw [h]
theorem AtQ.then_ {n' : Fm} {K : Code} (h : CT B P n' K E H Q) (hro : n'.ro = n.ro := by rfl) : AtQ B n' E H (Then n P K Q) .normal := fun a w hA hS => by
 show K.wpIn n.fence 0 P Q a w
 rw [← Fm.fence_eq hro]
 exact h a w hA hS
theorem A0 {n' : Fm} {K : Code} (h : CT B P n' K E H Q) (hro : n'.ro = n.ro := by rfl) : AtQ B n' E H (Then n P K Q) .normal := AtQ.then_ h hro
theorem AtQ.then_exit {n' : Fm} {K : Code} {id : Nat} (h : AtQ B n' E H Q (.exit id)) : AtQ B n' E H (Then n P K Q) (.exit id) := h
theorem A1 {n' : Fm} {K : Code} {id : Nat} (h : AtQ B n' E H Q (.exit id)) : AtQ B n' E H (Then n P K Q) (.exit id) := AtQ.then_exit h
theorem AtQ.then_ret {n' : Fm} {K : Code} (h : AtQ B n' E H Q .ret) : AtQ B n' E H (Then n P K Q) .ret := h
theorem A2 {n' : Fm} {K : Code} (h : AtQ B n' E H Q .ret) : AtQ B n' E H (Then n P K Q) .ret := AtQ.then_ret h
/-- What stands behind a loop's round, begun in the state x. -/
def LoopQ {α : Type} (B : World) (n : Fm) (f : α → Env) (g : α → List HP) (μ : α → Nat) (x : α) (Q : Exit → Act → World → Prop) : Exit → Act → World → Prop :=
 Exit.then (fun a w => ∃ y, Agr n (f y) a ∧ Sat B (g y) w ∧ μ y < μ x) Q
theorem AtQ.loop {α : Type} {f : α → Env} {g : α → List HP} {μ : α → Nat} {x : α} (y : α) (hE : subB E (f y)) (hH : ∀ w, Sat B H w → Sat B (g y) w) (hμ : μ y < μ x) : AtQ B n E H (LoopQ B n f g μ x Q) .normal :=
 fun _ w hA hS => ⟨y, hA.sub hE.sub, hH w hS, hμ⟩
theorem AtQ.loop_exit {n' : Fm} {α : Type} {f : α → Env} {g : α → List HP} {μ : α → Nat} {x : α} {id : Nat} (h : AtQ B n' E H Q (.exit id)) : AtQ B n' E H (LoopQ B n f g μ x Q) (.exit id) := h
theorem A3 {n' : Fm} {α : Type} {f : α → Env} {g : α → List HP} {μ : α → Nat} {x : α} {id : Nat} (h : AtQ B n' E H Q (.exit id)) : AtQ B n' E H (LoopQ B n f g μ x Q) (.exit id) := AtQ.loop_exit h
theorem AtQ.loop_ret {n' : Fm} {α : Type} {f : α → Env} {g : α → List HP} {μ : α → Nat} {x : α} (h : AtQ B n' E H Q .ret) : AtQ B n' E H (LoopQ B n f g μ x Q) .ret := h
theorem A4 {n' : Fm} {α : Type} {f : α → Env} {g : α → List HP} {μ : α → Nat} {x : α} (h : AtQ B n' E H Q .ret) : AtQ B n' E H (LoopQ B n f g μ x Q) .ret := AtQ.loop_ret h
/-- What stands behind a piece of code whose ways meet again in the states x. -/
def CutQ {α : Sort _} (B : World) (n : Fm) (f : α → Env) (g : α → List HP) (Q : Exit → Act → World → Prop) : Exit → Act → World → Prop := Exit.then (fun a w => ∃ x, Agr n (f x) a ∧ Sat B (g x) w) Q
theorem AtQ.cut {α : Sort _} {f : α → Env} {g : α → List HP} (y : α) (hE : subB E (f y)) (hH : ∀ w, Sat B H w → Sat B (g y) w) : AtQ B n E H (CutQ B n f g Q) .normal :=
 fun _ w hA hS => ⟨y, hA.sub hE.sub, hH w hS⟩
theorem AtQ.cut_exit {n' : Fm} {α : Sort _} {f : α → Env} {g : α → List HP} {id : Nat} (h : AtQ B n' E H Q (.exit id)) : AtQ B n' E H (CutQ B n f g Q) (.exit id) := h
theorem A5 {n' : Fm} {α : Sort _} {f : α → Env} {g : α → List HP} {id : Nat} (h : AtQ B n' E H Q (.exit id)) : AtQ B n' E H (CutQ B n f g Q) (.exit id) := AtQ.cut_exit h
theorem AtQ.cut_ret {n' : Fm} {α : Sort _} {f : α → Env} {g : α → List HP} (h : AtQ B n' E H Q .ret) : AtQ B n' E H (CutQ B n f g Q) .ret := h
theorem A6 {n' : Fm} {α : Sort _} {f : α → Env} {g : α → List HP} (h : AtQ B n' E H Q .ret) : AtQ B n' E H (CutQ B n f g Q) .ret := AtQ.cut_ret h
theorem AtQ.in_n {id : Nat} (h : AtQ B n E H Q .normal) : AtQ B n E H (Exit.inBlock id Q) .normal := h
theorem A7 {id : Nat} (h : AtQ B n E H Q .normal) : AtQ B n E H (Exit.inBlock id Q) .normal := AtQ.in_n h
theorem AtQ.in_ret {id : Nat} (h : AtQ B n E H Q .ret) : AtQ B n E H (Exit.inBlock id Q) .ret := h
theorem A8 {id : Nat} (h : AtQ B n E H Q .ret) : AtQ B n E H (Exit.inBlock id Q) .ret := AtQ.in_ret h
theorem AtQ.in_eq {id : Nat} (h : AtQ B n E H Q .normal) : AtQ B n E H (Exit.inBlock id Q) (.exit id) := fun a w hA hS => by
 show (if id = id then _ else _)
 rw [if_pos rfl]
 exact h a w hA hS
theorem A9 {id : Nat} (h : AtQ B n E H Q .normal) : AtQ B n E H (Exit.inBlock id Q) (.exit id) := AtQ.in_eq h
theorem AtQ.in_ne {id id' : Nat} (hne : Nat.beq id' id = false) (h : AtQ B n E H Q (.exit id')) : AtQ B n E H (Exit.inBlock id Q) (.exit id') := fun a w hA hS => by
 show (if id' = id then _ else _)
 rw [if_neg (by rw [← Nat.beq_eq, hne]; simp)]
 exact h a w hA hS
theorem AtQ.env {E' : Env} {ex : Exit} (hs : subB E E') (h : AtQ B n E' H Q ex) : AtQ B n E H Q ex := fun a w hA hS => h a w (hA.sub hs.sub) hS
theorem AtQ.weak {H' : List HP} {ex : Exit} (hm : ∀ w, Sat B H w → Sat B H' w) (h : AtQ B n E H' Q ex) : AtQ B n E H Q ex := fun a w hA hS => h a w hA (hm w hS)

theorem least_ {S : Nat → Prop} (h : ∃ k, S k) : ∃ k, S k ∧ ∀ j, S j → k ≤ j := by
 obtain ⟨k, hk⟩ := h
 induction k using Nat.strongRecOn with
 | _ k ih =>
  by_cases hl : ∃ j, j < k ∧ S j
  ·obtain ⟨j, hj, hs⟩ := hl
   exact ih j hj hs
  ·exact ⟨k, hk, fun j hj => Nat.le_of_not_lt fun hlt => hl ⟨j, hlt, hj⟩⟩
/-- A loop: its states x, each a frame and pieces, and a measure. -/
theorem CT.loop {α : Type} (f : α → Env) (g : α → List HP) (μ : α → Nat) (x0 : α) (hE : subB E (f x0)) (hH : ∀ w, Sat B H w → Sat B (g x0) w)
  (round : ∀ x, CT B P n c (f x) (g x) (LoopQ B n f g μ x Q)) : CT B P n (.loop c) E H Q := by
 classical
 intro a w hA hS
 let S : Act → World → Nat → Prop := fun a w k => ∃ x, Agr n (f x) a ∧ Sat B (g x) w ∧ μ x = k
 let I : Act → World → Prop := fun a w => ∃ k, S a w k
 let M : Act → World → Nat := fun a w => if h : ∃ k, S a w k then Classical.choose (least_ h) else 0
 refine wpIn_loop I M ⟨_, x0, hA.sub hE.sub, hH w hS, rfl⟩ ?_
 intro a w hI
 have hM : M a w = Classical.choose (least_ hI) := by simp only [M]; rw [dif_pos hI]
 obtain ⟨x, hx, hs, hk⟩ := (Classical.choose_spec (least_ hI)).1
 refine wpIn_mono (round x a w hx hs) ?_
 intro e a' w' hq
 cases e <;> try exact hq
 obtain ⟨y, hy, hs', hlt⟩ := hq
 have hI' : ∃ k, S a' w' k := ⟨_, y, hy, hs', rfl⟩
 refine ⟨hI', ?_⟩
 have h1 : M a' w' = Classical.choose (least_ hI') := by simp only [M]; rw [dif_pos hI']
 have h2 : Classical.choose (least_ hI') ≤ μ y := (Classical.choose_spec (least_ hI')).2 _ ⟨y, hy, hs', rfl⟩
 omega

/-- The ways through c meet again in the states x. -/
theorem CT.cut {α : Sort _} (f : α → Env) (g : α → List HP) (hc : CT B P n c E H (CutQ B n f g Q)) (hk : ∀ x, AtQ B n (f x) (g x) Q .normal) : CT B P n c E H Q := by
 intro a w hA hS
 refine wpIn_mono (hc a w hA hS) ?_
 intro e a' w' hq
 cases e <;> try exact hq
 obtain ⟨x, hx, hs⟩ := hq
 exact hk x a' w' hx hs
end

/-! ### functions -/
/-- What a function does: of Pre, beside R, it makes a value and pieces as Post says; R stays. -/
def Sp (B : World) (P : Program) (f : FuncId) (vs : List Value) (R Pre : List HP) (Post : Value → List HP → Prop) : Prop :=
 ∀ w, Sat B (Pre ++ R) w → Calls P f vs.toArray w fun e w' => ∃ v H', e = .returned v ∧ Post v H' ∧ Sat B (H' ++ R) w'
def FinQ (B : World) (P : Program) (fn : Func) (R : List HP) (Post : Value → List HP → Prop) : Exit → Act → World → Prop :=
 bodyPost P fn fun e w' => ∃ v H', e = .returned v ∧ Post v H' ∧ Sat B (H' ++ R) w'
def argE : Nat → List Value → Env
 | _, [] => []
 | k, v :: vs => (k, v) :: argE (k + 1) vs
theorem argE_lk : ∀ (vs : List Value) (k t : Nat) (v : Value), lk (argE k vs) t = some v → k ≤ t ∧ vs[t - k]? = some v
 | [], _, _, _, e => by cases e
 | u :: vs, k, t, v, e => by
  simp only [argE, lk] at e
  cases hb : Nat.beq k t with
  | true => rw [hb] at e; cases e; rw [Nat.beq_eq] at hb; subst hb; simp
  | false =>
   rw [hb] at e
   have hne : k ≠ t := by intro h; rw [← Nat.beq_eq, hb] at h; cases h
   obtain ⟨h1, h2⟩ := argE_lk vs (k + 1) t v e
   refine ⟨by omega, ?_⟩
   obtain ⟨j, hj⟩ : ∃ j, t - k = j + 1 := ⟨t - k - 1, by omega⟩
   rw [hj, List.getElem?_cons_succ, show j = t - (k + 1) by omega]
   exact h2
theorem Sp.body {B : World} {P : Program} {f : FuncId} {fn : Func} {c : Code} {n : Nat} {vs : List Value} {R Pre : List HP} {Post : Value → List HP → Prop}
  (hf : P.funcs[f]? = some fn) (hb : fn.body = some c) (hn : fn.ntmps = n) (hl : vs.length ≤ n)
  (h : CT B P (.mk0 n) c (argE 0 vs) (Pre ++ R) (FinQ B P fn R Post)) : Sp B P f vs R Pre Post := by
 intro w hS
 refine calls_of_wp hf hb (wpIn_wide.1 (h _ w ⟨?_, rfl, fun t v e => ?_⟩ hS))
 ·simp [hn]; omega
 ·obtain ⟨_, e'⟩ := argE_lk vs 0 t v e
  have : t < vs.length := (List.getElem?_eq_some_iff.1 (by simpa using e')).1
  rw [Array.getElem?_append_left (by simpa using this)]
  simpa using e'
section
variable {B : World} {P : Program} {n : Nat} {E : Env} {H R : List HP} {fn : Func} {Post : Value → List HP → Prop}
theorem AtQ.fin0 (hr : fn.results = #[]) {H' : List HP} (hp : Post (.tuple #[]) H') (hs : ∀ w, Sat B H w → Sat B (H' ++ R) w) (ex : Exit) (hex : ex = .normal ∨ ex = .ret) :
  AtQ B (.mk0 n) E H (FinQ B P fn R Post) ex := by
 intro a w hA hS
 rcases hex with rfl | rfl
 ·exact bodyPost_end (results_none hr _ _ _) hA.defers ⟨_, _, rfl, hp, hs w hS⟩
 ·exact bodyPost_ret (results_none hr _ _ _) hA.defers ⟨_, _, rfl, hp, hs w hS⟩
theorem AtQ.fin1 {t : Nat} {v : Value} (hr : fn.results = #[.tmp t]) (he : lk E t = some v) {H' : List HP} (hp : Post v H') (hs : ∀ w, Sat B H w → Sat B (H' ++ R) w) :
  AtQ B (.mk0 n) E H (FinQ B P fn R Post) .ret := by
 intro a w hA hS
 refine bodyPost_ret (results_tmp hr _ _ _) hA.defers ⟨_, _, rfl, ?_, hs w hS⟩
 rw [show a.tmps.getD t undef = v by simp [Array.getD_eq_getD_getElem?, hA.get t v he]]
 exact hp
theorem AtQ.fin2 {t u : Nat} {v1 v2 : Value} (hr : fn.results = #[.tmp t, .tmp u]) (he : lk E t = some v1) (he2 : lk E u = some v2) {H' : List HP} (hp : Post (.tuple #[v1, v2]) H') (hs : ∀ w, Sat B H w → Sat B (H' ++ R) w) :
  AtQ B (.mk0 n) E H (FinQ B P fn R Post) .ret := by
 intro a w hA hS
 refine bodyPost_ret (results_tmp2 hr _ _ _) hA.defers ⟨_, _, rfl, ?_, hs w hS⟩
 rw [show a.tmps.getD t undef = v1 by simp [Array.getD_eq_getD_getElem?, hA.get t v1 he], show a.tmps.getD u undef = v2 by simp [Array.getD_eq_getD_getElem?, hA.get u v2 he2]]
 exact hp
end

end Go.Sk
end
section
namespace Go.Sk
open Go.RowKit

/-! ### a table of the program's types, held against the program once -/
def al {β : Type} : List (Nat × β) → Nat → Option β
 | [], _ => none
 | (k, b) :: l, t => bif Nat.beq k t then some b else al l t
def al2 {β : Type} : List (Nat × Nat × β) → Nat → Nat → Option β
 | [], _, _ => none
 | (k, j, b) :: l, t, u => bif Nat.beq k t then (bif Nat.beq j u then some b else al2 l t u) else al2 l t u
theorem al_mem {β : Type} : ∀ {l : List (Nat × β)} {t : Nat} {b : β}, al l t = some b → (t, b) ∈ l
 | (k, c) :: l, t, b, h => by
  simp only [al] at h
  cases hb : Nat.beq k t with
  | true => rw [hb] at h; cases h; rw [Nat.beq_eq] at hb; subst hb; exact List.mem_cons_self
  | false => rw [hb] at h; exact List.mem_cons_of_mem _ (al_mem h)
theorem al2_mem {β : Type} : ∀ {l : List (Nat × Nat × β)} {t u : Nat} {b : β}, al2 l t u = some b → (t, u, b) ∈ l
 | (k, j, c) :: l, t, u, b, h => by
  simp only [al2] at h
  cases hb : Nat.beq k t with
  | true =>
   cases hj : Nat.beq j u with
   | true => rw [hb, hj] at h; cases h; rw [Nat.beq_eq] at hb hj; subst hb hj; exact List.mem_cons_self
   | false => rw [hb, hj] at h; exact List.mem_cons_of_mem _ (al2_mem h)
  | false => rw [hb] at h; exact List.mem_cons_of_mem _ (al2_mem h)

def isAggB (P : Program) (t : TypeId) : Option Bool :=
 match P.underlying t with
 | some (.struct _) | some (.array _ _) => some true
 | some _ => some false
 | none => none
def sizeB (P : Program) (t : TypeId) : Option Nat := (P.info? t).map (·.size)
/-- offset, size, is it an aggregate? -/
def fldB (P : Program) (s f : Nat) : Option (Nat × Nat × Bool) :=
 match P.underlying s with
 | some (.struct fs) => match fs[f]? with
  | some fi => match sizeB P fi.type, isAggB P fi.type with
   | some z, some g => some (fi.offset, z, g)
   | _, _ => none
  | none => none
 | _ => none
/-- element type, its size, its bytes. -/
def slcB (P : Program) (t : Nat) : Option (Nat × Nat × Nat) :=
 match P.underlying t with
 | some (.slice e) => match P.info? e with
  | some i => some (e, i.size, i.bytes)
  | none => none
 | _ => none
def zerB (P : Program) (t : Nat) : Option Value := (P.info? t).bind (·.zero)
def intB (P : Program) (t : Nat) : Option IntKind := match P.underlying t with | some (.int k) => some k | _ => none
/-- 1: a pointer type (to something that has cells); 2: string; 3: bool; 4: slice; 5: func. -/
def knd (P : Program) (t : Nat) : Option Nat := match P.underlying t with
 | some (.pointer e) => match sizeB P e with
  | some 0 => none
  | some _ => some 1
  | none => none
 | some .string => some 2 | some .bool => some 3 | some (.slice _) => some 4 | some (.func _ _ _) => some 5 | _ => none
/-- where a struct's fields lie, and how large they are. -/
def plB (P : Program) (t : Nat) : Option (List (Nat × Nat)) := match P.underlying t with
 | some (.struct fs) => fs.toList.mapM fun f => (P.info? f.type).map fun i => (f.offset, i.size)
 | _ => none

structure Tab (P : Program) where
 szs : List (Nat × Nat × Bool)
 szs_ok : szs.map (fun e => (sizeB P e.1, isAggB P e.1)) = szs.map (fun e => (some e.2.1, some e.2.2))
 flds : List (Nat × Nat × Nat × Nat × Bool)
 flds_ok : flds.map (fun e => fldB P e.1 e.2.1) = flds.map (fun e => some e.2.2)
 slcs : List (Nat × Nat × Nat × Nat)
 slcs_ok : slcs.map (fun e => slcB P e.1) = slcs.map (fun e => some e.2)
 zers : List (Nat × Value)
 zers_ok : zers.map (fun e => zerB P e.1) = zers.map (fun e => some e.2)
 plcs : List (Nat × List (Nat × Nat))
 plcs_ok : plcs.map (fun e => plB P e.1) = plcs.map (fun e => some e.2)
 ints : List (Nat × IntKind)
 ints_ok : ints.map (fun e => intB P e.1) = ints.map (fun e => some e.2)
 kinds : List (Nat × Nat)
 kinds_ok : kinds.map (fun e => knd P e.1) = kinds.map (fun e => some e.2)
 funs : List (Nat × Bool)
 funs_ok : ∀ e ∈ funs, ∀ args w, (callFunc e.1 args).run P w = .ok (.enter e.1 args) w

theorem mem_map_eq {α β : Type} {f g : α → β} : ∀ {l : List α}, l.map f = l.map g → ∀ x, x ∈ l → f x = g x
 | [], _, _, h => by cases h
 | y :: l, e, x, h => by
  simp only [List.map_cons, List.cons.injEq] at e
  rcases List.mem_cons.1 h with rfl | h
  ·exact e.1
  ·exact mem_map_eq e.2 x h

section
variable {P : Program} (T : Tab P)
theorem Tab.sz {t z : Nat} {g : Bool} (h : al T.szs t = some (z, g)) : sizeB P t = some z ∧ isAggB P t = some g := by
 have := mem_map_eq T.szs_ok _ (al_mem h)
 simpa using this
theorem Tab.fld {s f o z : Nat} {g : Bool} (h : al2 T.flds s f = some (o, z, g)) : fldB P s f = some (o, z, g) := mem_map_eq T.flds_ok _ (al2_mem h)
theorem Tab.slc {t e z b : Nat} (h : al T.slcs t = some (e, z, b)) : slcB P t = some (e, z, b) := mem_map_eq T.slcs_ok _ (al_mem h)
theorem Tab.zer {t : Nat} {v : Value} (h : al T.zers t = some v) : zerB P t = some v := mem_map_eq T.zers_ok _ (al_mem h)
theorem Tab.plc {t : Nat} {l : List (Nat × Nat)} (h : al T.plcs t = some l) : plB P t = some l := mem_map_eq T.plcs_ok _ (al_mem h)
theorem Tab.int {t : Nat} {k : IntKind} (h : al T.ints t = some k) : intB P t = some k := mem_map_eq T.ints_ok _ (al_mem h)
theorem Tab.kind {t k : Nat} (h : al T.kinds t = some k) : knd P t = some k := mem_map_eq T.kinds_ok _ (al_mem h)
end

section
variable {P : Program} {w : World}
theorem sizeB_info {t z : Nat} (h : sizeB P t = some z) : ∃ i, P.info? t = some i ∧ i.size = z := by
 unfold sizeB at h
 cases hi : P.info? t with
 | none => simp [hi] at h
 | some i => exact ⟨i, rfl, by simpa [hi] using h⟩
theorem run_sizeB {t z : Nat} (h : sizeB P t = some z) : (sizeOf t).run P w = .ok z w := by
 obtain ⟨i, hi, rfl⟩ := sizeB_info h
 simp [sizeOf, typeInfo, hi, go_sem]
theorem run_isAggB {t : Nat} {g : Bool} (h : isAggB P t = some g) : (isAgg t).run P w = .ok g w := by
 unfold isAggB at h
 cases hu : P.underlying t with
 | none => simp [hu] at h
 | some d => cases d <;> simp [hu] at h <;> subst h <;> simp [isAgg, run_underlying hu, go_sem]
theorem slcB_spec {t e z b : Nat} (h : slcB P t = some (e, z, b)) : P.underlying t = some (.slice e) ∧ ∃ i, P.info? e = some i ∧ i.size = z ∧ i.bytes = b := by
 unfold slcB at h
 split at h
 ·rename_i e' hu
  split at h
  ·rename_i i hi
   simp only [Option.some.injEq, Prod.mk.injEq] at h
   obtain ⟨rfl, rfl, rfl⟩ := h
   exact ⟨hu, i, hi, rfl, rfl⟩
  ·cases h
 ·cases h
theorem fldB_spec {s f o z : Nat} {g : Bool} (h : fldB P s f = some (o, z, g)) :
  ∃ fs fi, P.underlying s = some (.struct fs) ∧ fs[f]? = some fi ∧ fi.offset = o ∧ sizeB P fi.type = some z ∧ isAggB P fi.type = some g := by
 unfold fldB at h
 split at h
 ·rename_i fs hu
  split at h
  ·rename_i fi hf
   split at h
   ·rename_i z' g' hz hg
    simp only [Option.some.injEq, Prod.mk.injEq] at h
    obtain ⟨rfl, rfl, rfl⟩ := h
    exact ⟨fs, fi, hu, hf, rfl, hz, hg⟩
   ·cases h
  ·cases h
 ·cases h
theorem zerB_spec {t : Nat} {v : Value} (h : zerB P t = some v) : (zeroValue t).run P w = .ok v w := by
 unfold zerB at h
 cases hi : P.info? t with
 | none => simp [hi] at h
 | some i =>
  simp only [hi, Option.bind_some] at h
  simp [zeroValue, typeInfo, hi, h, go_sem]
theorem intB_spec {t : Nat} {k : IntKind} (h : intB P t = some k) : P.underlying t = some (.int k) := by
 unfold intB at h
 split at h
 ·rename_i k' hu; cases h; exact hu
 ·cases h
end

section
variable {B : World} {P : Program} {n : Fm} {E : Env} {H R : List HP} {ty : TypeId}

/-- The common form: an operation that runs to a value, the world left. -/
theorem y_run {op : Op} {v : Value} (h : ∀ (o : Oper) a w, o.op = op → o.type = ty → Agr n E a → Sat B H w → (execOp a.eval o).run P w = .ok (.value v) w) : Yld B P n E H op ty v :=
 fun o a w ho ht hA hS => by unfold Oper.quietAt; rw [h o a w ho ht hA hS]; exact ⟨rfl, rfl⟩

theorem y_move {x : Operand} {v : Value} (hx : ev E x = some v) : Yld B P n E H (.move x) ty v :=
 y_run fun o a w ho _ hA _ => by unfold execOp; rw [ho, ← hA.ev hx]; rfl
theorem y_assign {x : Operand} {v : Value} (hx : ev E x = some v) : Yld B P n E H (.assign x) ty v :=
 y_run fun o a w ho _ hA _ => by unfold execOp; rw [ho, ← hA.ev hx]; rfl
theorem y_pick_t {c x y : Operand} {v : Value} (hc : ev E c = some (.bool true)) (hx : ev E x = some v) : Yld B P n E H (.pick c x y) ty v :=
 y_run fun o a w ho _ hA _ => by unfold execOp; simp only [ho, hA.ev hc, hA.ev hx]; rfl
theorem y_pick_f {c x y : Operand} {v : Value} (hc : ev E c = some (.bool false)) (hy : ev E y = some v) : Yld B P n E H (.pick c x y) ty v :=
 y_run fun o a w ho _ hA _ => by unfold execOp; simp only [ho, hA.ev hc, hA.ev hy]; rfl
theorem y_nil {x : Operand} {ad : Addr} (hx : ev E x = some (.pointer (some ad))) : Yld B P n E H (.nilCheck x) ty (.pointer (some ad)) :=
 y_run fun o a w ho _ hA _ => by unfold execOp; simp only [ho, hA.ev hx]; rfl
theorem y_extract {x : Operand} {l : List Value} {i : Nat} {v : Value} (hx : ev E x = some (.tuple l.toArray)) (hi : l[i]? = some v) : Yld B P n E H (.extract x i) ty v :=
 y_run fun o a w ho _ hA _ => by
  unfold execOp
  simp only [ho, hA.ev hx, Instr.extract, List.getElem?_toArray, hi]
  rfl
theorem y_not {x : Operand} {ty' : TypeId} {b r : Bool} (hx : ev E x = some (.bool b)) (hr : (!b) = r) : Yld B P n E H (.unOp .not ty' x) ty (.bool r) :=
 y_run fun o a w ho _ hA _ => by subst hr; unfold execOp; simp only [ho, hA.ev hx]; rfl
theorem y_neg {x : Operand} {ty' : TypeId} {k : IntKind} {i r : Int} (hx : ev E x = some (.int k i)) (hr : k.wrap (0 - i) = r) : Yld B P n E H (.unOp .neg ty' x) ty (.int k r) :=
 y_run fun o a w ho _ hA _ => by subst hr; unfold execOp; simp only [ho, hA.ev hx]; rfl
theorem y_xor1 {x : Operand} {ty' : TypeId} {k : IntKind} {i r : Int} (hx : ev E x = some (.int k i))
  (hr : k.wrap ((BitVec.ofInt k.bits (if k.signed then -1 else k.max) ^^^ BitVec.ofInt k.bits i).toNat : Int) = r) : Yld B P n E H (.unOp .xor ty' x) ty (.int k r) :=
 y_run fun o a w ho _ hA _ => by subst hr; unfold execOp; simp only [ho, hA.ev hx]; rfl

/-! ### arithmetic -/
section
variable {x y : Operand} {k : IntKind} {i j r : Int} {t t' : TypeId}
theorem y_add (hx : ev E x = some (.int k i)) (hy : ev E y = some (.int k j)) (hr : k.wrap (i + j) = r) : Yld B P n E H (.binOp .add t x y t') ty (.int k r) :=
 y_run fun o a w ho _ hA _ => by subst hr; unfold execOp; simp only [ho, hA.ev hx, hA.ev hy, eqGuard, binOp, ne_eq, not_true, if_false, Op.intArith]; rfl
theorem y_sub (hx : ev E x = some (.int k i)) (hy : ev E y = some (.int k j)) (hr : k.wrap (i - j) = r) : Yld B P n E H (.binOp .sub t x y t') ty (.int k r) :=
 y_run fun o a w ho _ hA _ => by subst hr; unfold execOp; simp only [ho, hA.ev hx, hA.ev hy, eqGuard, binOp, ne_eq, not_true, if_false, Op.intArith]; rfl
theorem y_mul (hx : ev E x = some (.int k i)) (hy : ev E y = some (.int k j)) (hr : k.wrap (i * j) = r) : Yld B P n E H (.binOp .mul t x y t') ty (.int k r) :=
 y_run fun o a w ho _ hA _ => by subst hr; unfold execOp; simp only [ho, hA.ev hx, hA.ev hy, eqGuard, binOp, ne_eq, not_true, if_false, Op.intArith]; rfl
theorem y_quo (hx : ev E x = some (.int k i)) (hy : ev E y = some (.int k j)) (h0 : j ≠ 0) (hr : k.wrap (i.tdiv j) = r) : Yld B P n E H (.binOp .quo t x y t') ty (.int k r) :=
 y_run fun o a w ho _ hA _ => by subst hr; unfold execOp; simp only [ho, hA.ev hx, hA.ev hy, eqGuard, binOp, ne_eq, not_true, if_false, Op.intDiv, if_neg h0]; rfl
theorem y_rem (hx : ev E x = some (.int k i)) (hy : ev E y = some (.int k j)) (h0 : j ≠ 0) (hr : i.tmod j = r) : Yld B P n E H (.binOp .rem t x y t') ty (.int k r) :=
 y_run fun o a w ho _ hA _ => by subst hr; unfold execOp; simp only [ho, hA.ev hx, hA.ev hy, eqGuard, binOp, ne_eq, not_true, if_false, Op.intDiv, if_neg h0]; rfl
theorem y_and (hx : ev E x = some (.int k i)) (hy : ev E y = some (.int k j)) (hr : k.wrap ((BitVec.ofInt k.bits i &&& BitVec.ofInt k.bits j).toNat : Int) = r) : Yld B P n E H (.binOp .and t x y t') ty (.int k r) :=
 y_run fun o a w ho _ hA _ => by subst hr; unfold execOp; simp only [ho, hA.ev hx, hA.ev hy, eqGuard, binOp, ne_eq, not_true, if_false, Op.intBits]; rfl
theorem y_or (hx : ev E x = some (.int k i)) (hy : ev E y = some (.int k j)) (hr : k.wrap ((BitVec.ofInt k.bits i ||| BitVec.ofInt k.bits j).toNat : Int) = r) : Yld B P n E H (.binOp .or t x y t') ty (.int k r) :=
 y_run fun o a w ho _ hA _ => by subst hr; unfold execOp; simp only [ho, hA.ev hx, hA.ev hy, eqGuard, binOp, ne_eq, not_true, if_false, Op.intBits]; rfl
theorem y_xor (hx : ev E x = some (.int k i)) (hy : ev E y = some (.int k j)) (hr : k.wrap ((BitVec.ofInt k.bits i ^^^ BitVec.ofInt k.bits j).toNat : Int) = r) : Yld B P n E H (.binOp .xor t x y t') ty (.int k r) :=
 y_run fun o a w ho _ hA _ => by subst hr; unfold execOp; simp only [ho, hA.ev hx, hA.ev hy, eqGuard, binOp, ne_eq, not_true, if_false, Op.intBits]; rfl
theorem y_shl {k' : IntKind} (hx : ev E x = some (.int k i)) (hy : ev E y = some (.int k' j)) (h0 : 0 ≤ j) (hr : k.wrap (i * 2 ^ (min j.toNat k.bits)) = r) : Yld B P n E H (.binOp .shl t x y t') ty (.int k r) :=
 y_run fun o a w ho _ hA _ => by subst hr; unfold execOp; simp only [ho, hA.ev hx, hA.ev hy, eqGuard, binOp, Op.shift, if_neg (Int.not_lt.2 h0)]; rfl
theorem y_shr {k' : IntKind} (hx : ev E x = some (.int k i)) (hy : ev E y = some (.int k' j)) (h0 : 0 ≤ j) (hr : i.fdiv (2 ^ (min j.toNat k.bits)) = r) : Yld B P n E H (.binOp .shr t x y t') ty (.int k r) :=
 y_run fun o a w ho _ hA _ => by subst hr; unfold execOp; simp only [ho, hA.ev hx, hA.ev hy, eqGuard, binOp, Op.shift, if_neg (Int.not_lt.2 h0)]; rfl
theorem y_conv (T : Tab P) {t : Nat} {k' : IntKind} {ks : IntKind} (ht : al T.ints t = some k') (hs : al T.ints t' = some ks) (hx : ev E x = some (.int k i)) (hr : k'.wrap i = r) : Yld B P n E H (.convert t' t x) ty (.int k' r) :=
 y_run fun o a w ho _ hA _ => by
  subst hr
  have h1 := intB_spec (T.int ht)
  have h2 := intB_spec (T.int hs)
  unfold execOp
  simp only [ho, hA.ev hx, convert, Sem.run_bind, run_underlying h1, run_underlying h2, Result.andThen_ok, Conv.intToInt]
  rfl
end

/-! ### tests: the ways part at once -/
section
variable {m : Bool} {l0 rest : List Oper} {Q : Exit → Act → World → Prop} {d : Nat} {pos : String} {af : Array Edge} {g : Option (Nat × Bool)} {x y : Operand} {k : IntKind} {i j : Int} {t t' : TypeId}
theorem RT.split {op : Op} {c : Prop} {b : Bool} (hw : wt l0 E g = some true) (hd : d < n) (hy : Yld B P n E H op ty (.bool b)) (hb : b = true ↔ c)
  (h1 : c → RT B P n m l0 rest ((d, .bool true) :: E) H Q) (h2 : ¬ c → RT B P n m l0 rest ((d, .bool false) :: E) H Q) : RT B P n m l0 (⟨some d, op, ty, pos, af, g⟩ :: rest) E H Q := by
 cases b with
 | true => exact RT.y hw hd hy (h1 (hb.1 rfl))
 | false => exact RT.y hw hd hy (h2 fun hc => by simpa using hb.2 hc)
theorem y_cmp {bo : BinOp} {b : Bool} (hx : ev E x = some (.int k i)) (hy : ev E y = some (.int k j))
  (hb : Op.intCmp bo i j = pure (.bool b)) (h1 : bo = .eql ∨ bo = .neq ∨ bo = .lss ∨ bo = .leq ∨ bo = .gtr ∨ bo = .geq) : Yld B P n E H (.binOp bo t x y t') ty (.bool b) :=
 y_run fun o a w ho _ hA _ => by
  unfold execOp
  have h2 : ∀ s : Sem Value, s = pure (.bool b) → Sem.run P (do pure (Next.value (← s)) : Sem Next) w = .ok (.value (.bool b)) w := fun s hs => by subst hs; rfl
  simp only [ho, hA.ev hx, hA.ev hy]
  refine h2 _ ?_
  rw [← hb]
  rcases h1 with rfl | rfl | rfl | rfl | rfl | rfl <;> simp [eqGuard, binOp] <;> rfl
theorem RT.lss (hw : wt l0 E g = some true) (hd : d < n) (hx : ev E x = some (.int k i)) (hy : ev E y = some (.int k j))
  (h1 : i < j → RT B P n m l0 rest ((d, .bool true) :: E) H Q) (h2 : ¬ i < j → RT B P n m l0 rest ((d, .bool false) :: E) H Q) : RT B P n m l0 (⟨some d, .binOp .lss t x y t', ty, pos, af, g⟩ :: rest) E H Q :=
 RT.split hw hd (y_cmp hx hy rfl (by simp)) (by simp) h1 h2
theorem RT.leq (hw : wt l0 E g = some true) (hd : d < n) (hx : ev E x = some (.int k i)) (hy : ev E y = some (.int k j))
  (h1 : i ≤ j → RT B P n m l0 rest ((d, .bool true) :: E) H Q) (h2 : ¬ i ≤ j → RT B P n m l0 rest ((d, .bool false) :: E) H Q) : RT B P n m l0 (⟨some d, .binOp .leq t x y t', ty, pos, af, g⟩ :: rest) E H Q :=
 RT.split hw hd (y_cmp hx hy rfl (by simp)) (by simp) h1 h2
theorem RT.gtr (hw : wt l0 E g = some true) (hd : d < n) (hx : ev E x = some (.int k i)) (hy : ev E y = some (.int k j))
  (h1 : j < i → RT B P n m l0 rest ((d, .bool true) :: E) H Q) (h2 : ¬ j < i → RT B P n m l0 rest ((d, .bool false) :: E) H Q) : RT B P n m l0 (⟨some d, .binOp .gtr t x y t', ty, pos, af, g⟩ :: rest) E H Q :=
 RT.split hw hd (y_cmp hx hy rfl (by simp)) (by simp) h1 h2
theorem RT.geq (hw : wt l0 E g = some true) (hd : d < n) (hx : ev E x = some (.int k i)) (hy : ev E y = some (.int k j))
  (h1 : j ≤ i → RT B P n m l0 rest ((d, .bool true) :: E) H Q) (h2 : ¬ j ≤ i → RT B P n m l0 rest ((d, .bool false) :: E) H Q) : RT B P n m l0 (⟨some d, .binOp .geq t x y t', ty, pos, af, g⟩ :: rest) E H Q :=
 RT.split hw hd (y_cmp hx hy rfl (by simp)) (by simp) h1 h2
theorem RT.eql (hw : wt l0 E g = some true) (hd : d < n) (hx : ev E x = some (.int k i)) (hy : ev E y = some (.int k j))
  (h1 : i = j → RT B P n m l0 rest ((d, .bool true) :: E) H Q) (h2 : ¬ i = j → RT B P n m l0 rest ((d, .bool false) :: E) H Q) : RT B P n m l0 (⟨some d, .binOp .eql t x y t', ty, pos, af, g⟩ :: rest) E H Q :=
 RT.split hw hd (y_cmp hx hy rfl (by simp)) (by simp) h1 h2
theorem RT.neq (hw : wt l0 E g = some true) (hd : d < n) (hx : ev E x = some (.int k i)) (hy : ev E y = some (.int k j))
  (h1 : ¬ i = j → RT B P n m l0 rest ((d, .bool true) :: E) H Q) (h2 : i = j → RT B P n m l0 rest ((d, .bool false) :: E) H Q) : RT B P n m l0 (⟨some d, .binOp .neq t x y t', ty, pos, af, g⟩ :: rest) E H Q :=
 RT.split hw hd (y_cmp hx hy rfl (by simp)) (by simp) h1 (fun h => h2 (Decidable.not_not.1 h))
end

/-! ### a pointer against nil; two bools; two strings -/
theorem knd_ptr {t : Nat} (h : knd P t = some 1) : ∃ e z, P.underlying t = some (.pointer e) ∧ sizeB P e = some z ∧ z ≠ 0 := by
 unfold knd at h
 split at h
 ·rename_i e hu
  cases hz : sizeB P e with
  | none => simp [hz] at h
  | some z =>
   cases z with
   | zero => simp [hz] at h
   | succ z => exact ⟨e, z + 1, hu, hz, by omega⟩
 all_goals first | cases h | (simp at h)
theorem run_eqv {w : World} {t : TypeId} {x y : Value} {r : Bool} (h : ∀ d, (Op.equalIn (d + 1) t x y).run P w = .ok r w) : (Op.equal t x y).run P w = .ok r w := h 9999
theorem run_pnil {w : World} {t e : TypeId} (hu : P.underlying t = some (.pointer e)) (p : Option Addr) : (Op.equal t (.pointer p) (.pointer none)).run P w = .ok p.isNone w :=
 run_eqv fun d => by
  cases p <;> (simp only [Op.equalIn, Sem.run_bind, run_underlying hu, Result.andThen_ok]; rfl)
theorem y_pnil {x y : Operand} {t t' : TypeId} (T : Tab P) {p : Option Addr} {r : Bool} (ht : al T.kinds t = some 1) (hx : ev E x = some (.pointer p)) (hy : ev E y = some (.pointer none)) (hr : p.isNone = r) :
  Yld B P n E H (.binOp .eql t x y t') ty (.bool r) :=
 y_run fun o a w ho _ hA _ => by
  obtain ⟨e, z, hu, _, _⟩ := knd_ptr (T.kind ht)
  subst hr
  have h1 : binOp .eql t (.pointer p) (.pointer none) = (do pure (.bool (← Op.equal t (.pointer p) (.pointer none)))) := by cases p <;> rfl
  have h2 : eqGuard .eql t x y (.pointer p) (.pointer none) = pure () := by cases p <;> rfl
  unfold execOp
  simp only [ho, hA.ev hx, hA.ev hy, h1, h2, Sem.run_bind, Sem.run_pure, Result.andThen_ok, run_pnil hu]
theorem y_pnnil {x y : Operand} {t t' : TypeId} (T : Tab P) {p : Option Addr} {r : Bool} (ht : al T.kinds t = some 1) (hx : ev E x = some (.pointer p)) (hy : ev E y = some (.pointer none)) (hr : (!p.isNone) = r) :
  Yld B P n E H (.binOp .neq t x y t') ty (.bool r) :=
 y_run fun o a w ho _ hA _ => by
  obtain ⟨e, z, hu, _, _⟩ := knd_ptr (T.kind ht)
  subst hr
  have h1 : binOp .neq t (.pointer p) (.pointer none) = (do pure (.bool (!(← Op.equal t (.pointer p) (.pointer none))))) := by cases p <;> rfl
  have h2 : eqGuard .neq t x y (.pointer p) (.pointer none) = pure () := by cases p <;> rfl
  unfold execOp
  simp only [ho, hA.ev hx, hA.ev hy, h1, h2, Sem.run_bind, Sem.run_pure, Result.andThen_ok, run_pnil hu]

/-! ### addresses, known cells -/
theorem run_fa {w : World} {s f off z : Nat} {g : Bool} {ad : Addr} (h : fldB P s f = some (off, z + 1, g)) : (Instr.fieldAt s (.pointer (some ad)) f).run P w = .ok (.pointer (some (ad.add off))) w := by
 obtain ⟨fs, fi, hu, hfi, rfl, hz, _⟩ := fldB_spec h
 have hp : (fieldPlace ad fi).run P w = .ok (ad.add fi.offset) w := by
  unfold fieldPlace
  simp only [Sem.run_bind, run_sizeB hz, Result.andThen_ok]
  rfl
 simp only [Instr.fieldAt, Instr.sureAddr, Sem.run_bind, run_underlying hu, Result.andThen_ok, hfi, Sem.run_pure, hp]
theorem y_fa (T : Tab P) {x : Operand} {s f off z : Nat} {g : Bool} {b : Nat} (hf : al2 T.flds s f = some (off, z + 1, g)) (hx : ev E x = some (.pointer (some ⟨b, 0, none⟩))) :
  Yld B P n E H (.fieldAddr s x f) ty (.pointer (some ⟨b, off, none⟩)) :=
 y_run fun o a w ho _ hA _ => by
  have ha : (⟨b, 0, none⟩ : Addr).add off = ⟨b, off, none⟩ := by unfold Addr.add; split <;> simp_all
  unfold execOp
  simp only [ho, hA.ev hx, Sem.run_bind, run_fa (T.fld hf), Result.andThen_ok, ha]
  rfl
theorem y_faA (T : Tab P) {x : Operand} {s f off z : Nat} {g : Bool} {ad : Addr} {j : Nat} (hf : al2 T.flds s f = some (off, z + 1, g)) (hx : ev E x = some (.pointer (some (ad.add j)))) :
  Yld B P n E H (.fieldAddr s x f) ty (.pointer (some (ad.add (j + off)))) :=
 y_run fun o a w ho _ hA _ => by
  have ha : (ad.add j).add off = ad.add (j + off) := by
   unfold Addr.add
   by_cases h1 : j = 0 <;> by_cases h2 : off = 0 <;> simp [h1, h2, Nat.add_assoc]
  unfold execOp
  simp only [ho, hA.ev hx, Sem.run_bind, run_fa (T.fld hf), Result.andThen_ok, ha]
  rfl

theorem cs_cell {w : World} {b : Nat} {e : TypeId} {l : List Value} (h : w.heap[b]? = some (.cells l.toArray e (0, 0))) (i : Nat) : w.cell? ⟨b, i, none⟩ = l[i]? := by
 rw [cell_of_row w b i _ e (0, 0) h]; simp
theorem y_ld (T : Tab P) {x : Operand} {t b off : Nat} {e : TypeId} {l : List Value} {v : Value} (ht : al T.szs t = some (1, false)) (hx : ev E x = some (.pointer (some ⟨b, off, none⟩)))
  (hs : Sel H (Cs b e l) R) (hv : l[off]? = some v) : Yld B P n E H (.load t x) ty v :=
 y_run fun o a w ho _ hA hS => by
  have hc := (cs_cell (hS.cs hs).1 off).trans hv
  unfold execOp
  simp only [ho, hA.ev hx, Instr.loadAt, Instr.sureAddr, Sem.run_bind, Sem.run_pure, Result.andThen_ok, loadVar, run_isAggB (T.sz ht).2]
  simp [load, Sem.run, hc]
/-- A whole struct out of its variable. -/
theorem y_ldagg (T : Tab P) {x : Operand} {t b z : Nat} {e : TypeId} {l : List Value} (ht : al T.szs t = some (z, true)) (hx : ev E x = some (.pointer (some ⟨b, 0, none⟩)))
  (hs : Sel H (Cs b e l) R) (hz : l.length = z) : Yld B P n E H (.load t x) ty (.agg l.toArray) :=
 y_run fun o a w ho _ hA hS => by
  subst hz
  have hc : ∀ j v, l[j]? = some v → w.cell? ((⟨b, 0, none⟩ : Addr).add j) = some v := fun j v hj => by
   have : (⟨b, 0, none⟩ : Addr).add j = ⟨b, j, none⟩ := by unfold Addr.add; split <;> simp_all
   rw [this]; exact (cs_cell (hS.cs hs).1 j).trans hj
  unfold execOp
  simp only [ho, hA.ev hx, Instr.loadAt, Instr.sureAddr, Sem.run_bind, Sem.run_pure, Result.andThen_ok, loadVar, run_isAggB (T.sz ht).2, run_sizeB (T.sz ht).1, if_true, run_loadCells_list w _ l hc]

inductive SetN : List Value → Nat → Value → List Value → Prop
 | z {x v : Value} {l : List Value} : SetN (x :: l) 0 v (v :: l)
 | s {x v : Value} {l l' : List Value} {k : Nat} : SetN l k v l' → SetN (x :: l) (k + 1) v (x :: l')
theorem SetN.spec {l l' : List Value} {k : Nat} {v : Value} (h : SetN l k v l') : l' = l.set k v ∧ k < l.length := by
 induction h with
 | z => simp
 | s _ ih => simp [ih.1, ih.2]
/-- A value of one cell. -/
def one1 : Value → Bool
 | .agg _ | .tuple _ => false
 | _ => true
theorem one1_cells {v : Value} (h : one1 v = true) : v.cells = #[v] := by cases v <;> first | rfl | cases h
theorem run_store1 {w : World} {b off : Nat} {e : TypeId} {l : List Value} {v : Value} (h1 : one1 v = true) (hb : w.heap[b]? = some (.cells l.toArray e (0, 0))) (ho : off < l.length) :
  (store ⟨b, off, none⟩ v).run P w = .ok () (w.setCell ⟨b, off, none⟩ v) := by
 have hc : w.cell? ⟨b, off, none⟩ = some (l[off]) := by rw [cs_cell hb]; simp [ho]
 have hf : w.frozen? ⟨b, off, none⟩ = false := by simp [World.frozen?, hb]
 cases v <;> first | (cases h1; done) | (simp [store, Sem.run, hc, hf])
theorem addr_add0 (a : Addr) : a.add 0 = a := by simp [Addr.add]
theorem setCell_heap {w : World} {b off : Nat} {e : TypeId} {l : List Value} {v : Value} (hb : w.heap[b]? = some (.cells l.toArray e (0, 0))) :
  (w.setCell ⟨b, off, none⟩ v).heap[b]? = some (.cells (l.set off v).toArray e (0, 0)) := by
 simp [World.setCell, Array.getElem?_modify, hb]
theorem setCell_size (w : World) (p : Addr) (v : Value) : (w.setCell p v).heap.size = w.heap.size := by simp [World.setCell]
theorem setCell_ne (w : World) (p : Addr) (v : Value) (x : Nat) (h : x ≠ p.block) : (w.setCell p v).heap[x]? = w.heap[x]? := by
 simp only [World.setCell, Array.getElem?_modify]
 rw [if_neg (fun e => h e.symm)]
theorem Sat.setCs {w : World} {b off : Nat} {e : TypeId} {l : List Value} {v : Value} {H' : List HP} (hS : Sat B H w) (hr : Rep H (Cs b e l) (Cs b e (l.set off v)) H') :
  Sat B H' (w.setCell ⟨b, off, none⟩ v) := by
 obtain ⟨R, s1, _⟩ := hr.sel
 have hb := (hS.cs s1).1
 exact hS.upd (b := b) (o' := .cells (l.set off v).toArray e (0, 0)) hr (fun h hh => ⟨_, hh⟩) (fun _ _ _ _ hh => hh) rfl rfl rfl (setCell_size _ _ _) (setCell_heap hb) (fun x hx => setCell_ne _ _ _ _ hx)
theorem x_st (T : Tab P) {l0 rest : List Oper} {Q : Exit → Act → World → Prop} {pos : String} {af : Array Edge} {g : Option (Nat × Bool)} {x y : Operand} {t b off : Nat} {e : TypeId} {l l' : List Value} {v : Value} {H' : List HP}
  (hw : wt l0 E g = some true) (ht : al T.szs t = some (1, false)) (hx : ev E x = some (.pointer (some ⟨b, off, none⟩))) (hy : ev E y = some v) (h1 : one1 v = true)
  (hr : Rep H (Cs b e l) (Cs b e l') H') (hl : SetN l off v l') (k : RT B P n true l0 rest E H' Q) : RT B P n true l0 (⟨none, .store t x y, ty, pos, af, g⟩ :: rest) E H Q :=
 RT.eff hw fun o a w K ho _ hd hA hS hK => by
  obtain ⟨rfl, hlt⟩ := hl.spec
  obtain ⟨R, s1, _⟩ := hr.sel
  have hb := (hS.cs s1).1
  unfold Oper.wp execOp
  have hsz := (T.sz ht).1
  simp only [ho, hA.ev hx, hA.ev hy, Instr.storeAt, Instr.sureAddr, Sem.run_bind, Sem.run_pure, Result.andThen_ok, storeVar, run_sizeB hsz, one1_cells h1]
  simp only [List.size_toArray, List.length_cons, List.length_nil, Nat.zero_add, ne_eq, not_true, if_false, Sem.run_pure, Result.andThen_ok, storeCells, addr_add0, run_store1 h1 hb hlt, Sem.run_bind]
  simp only [Oper.upon, hd, Act.put]
  exact hK _ _ (k _ _ hA (hS.setCs hr))
end
end Go.Sk
end
section
namespace Go.Sk
open Go.RowKit

def adr (a : Option Addr) : Addr := a.getD ⟨0, 0, none⟩
/-- The slice '.slice a n c' is the call's own: its cells are xs, then room. -/
def Own (a : Option Addr) (c : Nat) (e : TypeId) (sz n : Nat) (xs : List Value) : HP := fun h =>
 xs.length = n * sz ∧ n ≤ c ∧ c ≤ maxLen ∧ ((a = none ∧ c = 0) ∨ ∃ g cur, a = some ⟨g, 0, none⟩ ∧ h g = some (.cells cur e (0, 0)) ∧ cur.size = c * sz ∧ cur.toList.take (n * sz) = xs)
/-- The slice '.slice a n c' reads as the cells xs. -/
def Rd (B : World) (H : List HP) (a : Option Addr) (n c sz : Nat) (xs : List Value) : Prop :=
 xs.length = n * sz ∧ n ≤ c ∧ ∀ w, Sat B H w → (0 < n → a.isSome = true) ∧ ∀ j u, xs[j]? = some u → w.cell? ((adr a).add j) = some u

theorem addr_add (g j : Nat) : (⟨g, 0, none⟩ : Addr).add j = ⟨g, j, none⟩ := by unfold Addr.add; split <;> simp_all
theorem addr_addadd (ad : Addr) (i j : Nat) : (ad.add i).add j = ad.add (i + j) := by
 unfold Addr.add
 by_cases h1 : i = 0 <;> by_cases h2 : j = 0 <;> simp [h1, h2, Nat.add_assoc]

section
variable {B : World} {P : Program} {n : Fm} {E : Env} {H R : List HP} {ty : TypeId}

theorem Own.rd {a : Option Addr} {c : Nat} {e : TypeId} {sz k : Nat} {xs : List Value} (hs : Sel H (Own a c e sz k xs) R) (hl : xs.length = k * sz) (hc : k ≤ c) : Rd B H a k c sz xs := by
 refine ⟨hl, hc, fun w hS => ?_⟩
 obtain ⟨h, hh, _, _, _, hp⟩ := (hS.sel hs).head
 rcases hp with ⟨rfl, rfl⟩ | ⟨g, cur, rfl, hg, hcs, ht⟩
 ·have hk : k = 0 := by omega
  subst hk
  refine ⟨fun h => absurd h (by omega), fun j u hj => ?_⟩
  have : xs = [] := List.eq_nil_of_length_eq_zero (by simpa using hl)
  subst this
  simp at hj
 ·refine ⟨fun _ => rfl, fun j u hj => ?_⟩
  rw [adr, Option.getD_some, addr_add, cell_of_row w g j cur e (0, 0) (hh g _ hg).1]
  rw [← ht, List.getElem?_take] at hj
  split at hj
  ·simpa using hj
  ·cases hj
theorem Own.facts {a : Option Addr} {c : Nat} {e : TypeId} {sz k : Nat} {xs : List Value} {w : World} (hS : Sat B H w) (hs : Sel H (Own a c e sz k xs) R) : xs.length = k * sz ∧ k ≤ c ∧ c ≤ maxLen := by
 obtain ⟨h, hh, h1, h2, h3, hp⟩ := (hS.sel hs).head
 exact ⟨h1, h2, h3⟩
theorem Rd.cons {p : HP} {a : Option Addr} {k c sz : Nat} {xs : List Value} (h : Rd B H a k c sz xs) : Rd B (p :: H) a k c sz xs :=
 ⟨h.1, h.2.1, fun w hS => h.2.2 w hS.tail⟩
theorem Rd.app {Ps : List HP} {a : Option Addr} {k c sz : Nat} {xs : List Value} (h : Rd B H a k c sz xs) : Rd B (Ps ++ H) a k c sz xs :=
 ⟨h.1, h.2.1, fun w hS => h.2.2 w hS.drop_⟩
theorem Rd.weak {H' : List HP} {a : Option Addr} {k c sz : Nat} {xs : List Value} (h : Rd B H a k c sz xs) (hm : ∀ w, Sat B H' w → Sat B H w) : Rd B H' a k c sz xs :=
 ⟨h.1, h.2.1, fun w hS => h.2.2 w (hm w hS)⟩
theorem Rd.none_ {sz : Nat} : Rd B H none 0 0 sz [] := ⟨by simp, Nat.le_refl _, fun _ _ => ⟨fun h => absurd h (by omega), fun j u hj => by simp at hj⟩⟩
theorem Own.none_ {e : TypeId} {sz : Nat} {h : PH} : Own none 0 e sz 0 [] h := ⟨by simp, Nat.le_refl _, Nat.zero_le _, .inl ⟨rfl, rfl⟩⟩
theorem Sat.nilOwn {w : World} {e : TypeId} {sz : Nat} (hS : Sat B H w) : Sat B (Own none 0 e sz 0 [] :: H) w := by
 obtain ⟨h, a, hs⟩ := hS.heap
 exact { hS with heap := ⟨h, a, fun _ => none, h, fun _ => .inl rfl, fun _ _ e => (by cases e), Le.refl _, Own.none_, hs⟩ }

theorem Rd.len {a : Option Addr} {k c sz : Nat} {xs : List Value} (h : Rd B H a k c sz xs) : xs.length = k * sz := h.1
theorem Rd.le {a : Option Addr} {k c sz : Nat} {xs : List Value} (h : Rd B H a k c sz xs) : k ≤ c := h.2.1
theorem Rd.isSome {a : Option Addr} {k c sz : Nat} {xs : List Value} (h : Rd B H a k c sz xs) : ∀ w, Sat B H w → 0 < k → a.isSome = true := fun w hS => (h.2.2 w hS).1
/-- A part of a slice. -/
def asub (a : Option Addr) (c sz i : Nat) : Option Addr := if c = i then a else a.map (·.add (i * sz))
theorem Rd.sub {a : Option Addr} {k c sz i j : Nat} {xs : List Value} (h : Rd B H a k c sz xs) (h1 : i ≤ j) (h2 : j ≤ k) :
  Rd B H (asub a c sz i) (j - i) (c - i) sz ((xs.drop (i * sz)).take ((j - i) * sz)) := by
 obtain ⟨hl, hc, hw⟩ := h
 refine ⟨?_, by omega, fun w hS => ?_⟩
 ·rw [List.length_take, List.length_drop, hl, ← Nat.sub_mul]
  exact Nat.min_eq_left (Nat.mul_le_mul_right _ (by omega))
 ·obtain ⟨ha, hx⟩ := hw w hS
  refine ⟨fun hp => ?_, fun x u hu => ?_⟩
  ·unfold asub
   split
   ·exact ha (by omega)
   ·rw [Option.isSome_map]; exact ha (by omega)
  ·have hx1 : x < (j - i) * sz := by
    have := (List.getElem?_eq_some_iff.1 hu).1
    rw [List.length_take] at this; omega
   have hp : 0 < j - i := by
    rcases Nat.eq_zero_or_pos (j - i) with e | e
    ·rw [e] at hx1; omega
    ·exact e
   rw [List.getElem?_take_of_lt hx1, List.getElem?_drop] at hu
   obtain ⟨ad, rfl⟩ := Option.isSome_iff_exists.1 (ha (by omega))
   have := hx _ u hu
   unfold asub
   rw [if_neg (by omega)]
   simp only [adr, Option.map_some, Option.getD_some] at this ⊢
   rw [addr_addadd]
   exact this

/-! ### lengths, addresses of elements, elements -/
theorem y_len (T : Tab P) {x : Operand} {t k c : Nat} {e z bb : Nat} {a : Option Addr} (ht : al T.slcs t = some (e, z, bb)) (hx : ev E x = some (.slice a k c)) :
  Yld B P n E H (.call { callee := .builtin .len, args := #[x], argTypes := #[t] }) ty (.int .i64 k) :=
 y_run fun o aa w ho _ hA _ => by
  obtain ⟨hu, _⟩ := slcB_spec (T.slc ht)
  unfold execOp
  simp only [ho, resolve, invoke, builtin, List.map_toArray, List.map_cons, List.map_nil, hA.ev hx, Builtin.len_, Sem.run_bind, Sem.run_pure, Result.andThen_ok, List.getElem?_toArray, List.getElem?_cons_zero, run_underlying hu]
  rfl
theorem y_cap (T : Tab P) {x : Operand} {t k c : Nat} {e z bb : Nat} {a : Option Addr} (ht : al T.slcs t = some (e, z, bb)) (hx : ev E x = some (.slice a k c)) :
  Yld B P n E H (.call { callee := .builtin .cap, args := #[x], argTypes := #[t] }) ty (.int .i64 c) :=
 y_run fun o aa w ho _ hA _ => by
  obtain ⟨hu, _⟩ := slcB_spec (T.slc ht)
  unfold execOp
  simp only [ho, resolve, invoke, builtin, List.map_toArray, List.map_cons, List.map_nil, hA.ev hx, Builtin.cap_, Sem.run_bind, Sem.run_pure, Result.andThen_ok, List.getElem?_toArray, List.getElem?_cons_zero, run_underlying hu]
  rfl
/-- The address of an element: 'a' is some where the slice has one. -/
theorem run_ix {w : World} {t e z bb k c : Nat} {a : Option Addr} {kk : IntKind} {i : Int} (ht : slcB P t = some (e, z, bb)) (h0 : 0 ≤ i) (h1 : i < k) (ha : a.isSome = true) :
  (Instr.indexAt t (.slice a k c) (.int kk i)).run P w = .ok (.pointer (some ((adr a).add (i.toNat * z)))) w := by
 obtain ⟨hu, inf, hi, hz, _⟩ := slcB_spec ht
 obtain ⟨ad, rfl⟩ := Option.isSome_iff_exists.1 ha
 have hs : (sizeOf e).run P w = .ok z w := run_sizeB (by simp [sizeB, hi, hz])
 simp only [Instr.indexAt, asIntOf, Sem.run_bind, Sem.run_pure, Result.andThen_ok, run_underlying hu, h0, h1, and_self, if_true, hs, adr, Option.getD_some]
theorem y_ix (T : Tab P) {x y : Operand} {t k c e z bb : Nat} {a : Option Addr} {kk : IntKind} {i : Int} {xs : List Value} {j : Nat} (ht : al T.slcs t = some (e, z, bb)) (hx : ev E x = some (.slice a k c)) (hy : ev E y = some (.int kk i))
  (hr : Rd B H a k c z xs) (h0 : 0 ≤ i) (h1 : i < k) (hj : i.toNat * z = j) : Yld B P n E H (.indexAddr t x y) ty (.pointer (some ((adr a).add j))) :=
 y_run fun o aa w ho _ hA hS => by
  subst hj
  have ha := (hr.2.2 w hS).1 (by omega)
  unfold execOp
  simp only [ho, hA.ev hx, hA.ev hy, Sem.run_bind, run_ix (T.slc ht) h0 h1 ha, Result.andThen_ok]
  rfl
theorem y_ldr (T : Tab P) {x : Operand} {t k c z j : Nat} {a : Option Addr} {xs : List Value} {u : Value} (ht : al T.szs t = some (1, false)) (hx : ev E x = some (.pointer (some ((adr a).add j)))) (hr : Rd B H a k c z xs) (hu : xs[j]? = some u) :
  Yld B P n E H (.load t x) ty u :=
 y_run fun o aa w ho _ hA hS => by
  have hc := (hr.2.2 w hS).2 j u hu
  unfold execOp
  simp only [ho, hA.ev hx, Instr.loadAt, Instr.sureAddr, Sem.run_bind, Sem.run_pure, Result.andThen_ok, loadVar, run_isAggB (T.sz ht).2]
  simp [load, Sem.run, hc]
/-- A list of integers as cells. -/
def ints (k : IntKind) (l : List Int) : List Value := l.map (Value.int k)
theorem ints_get {k : IntKind} {l : List Int} {j : Nat} (h : j < l.length) : (ints k l)[j]? = some (.int k (l.getD j 0)) := by
 simp [ints, h]
theorem ints_len {k : IntKind} {l : List Int} : (ints k l).length = l.length := by simp [ints]
theorem y_ldi (T : Tab P) {x : Operand} {t k c z j : Nat} {a : Option Addr} {kk : IntKind} {l : List Int} (ht : al T.szs t = some (1, false)) (hx : ev E x = some (.pointer (some ((adr a).add j)))) (hr : Rd B H a k c z (ints kk l)) (hj : j < l.length) :
  Yld B P n E H (.load t x) ty (.int kk (l.getD j 0)) := y_ldr T ht hx hr (ints_get hj)
/-- A whole struct out of a row of structs. -/
theorem y_ldra (T : Tab P) {x : Operand} {t k c z j m : Nat} {a : Option Addr} {xs l : List Value} (ht : al T.szs t = some (m, true)) (hx : ev E x = some (.pointer (some ((adr a).add j)))) (hr : Rd B H a k c z xs)
  (hl : (xs.drop j).take m = l) (hm : l.length = m) : Yld B P n E H (.load t x) ty (.agg l.toArray) :=
 y_run fun o aa w ho _ hA hS => by
  subst hm
  have hc : ∀ i v, l[i]? = some v → w.cell? (((adr a).add j).add i) = some v := fun i v hv => by
   rw [addr_addadd]
   refine (hr.2.2 w hS).2 (j + i) v ?_
   have hi : i < l.length := (List.getElem?_eq_some_iff.1 hv).1
   rw [← hl, List.getElem?_take_of_lt hi, List.getElem?_drop] at hv
   exact hv
  unfold execOp
  simp only [ho, hA.ev hx, Instr.loadAt, Instr.sureAddr, Sem.run_bind, Sem.run_pure, Result.andThen_ok, loadVar, run_isAggB (T.sz ht).2, run_sizeB (T.sz ht).1, if_true, run_loadCells_list w _ l hc]

/-! ### a part of a slice -/
theorem run_sl {w : World} {t e z bb k c : Nat} {a : Option Addr} {lo hi : Option Value} {i j : Nat} (ht : slcB P t = some (e, z, bb))
  (hb : (Instr.sliceBounds true k c lo hi none).run P w = .ok (i, j, c) w) : (Instr.sliceAt t (.slice a k c) lo hi none).run P w = .ok (.slice (asub a c z i) (j - i) (c - i)) w := by
 obtain ⟨hu, inf, hi', hz, _⟩ := slcB_spec ht
 have hs : (sizeOf e).run P w = .ok z w := run_sizeB (by simp [sizeB, hi', hz])
 simp only [Instr.sliceAt, Instr.slice, Sem.run_bind, run_underlying hu, Result.andThen_ok, hb, hs, Sem.run_pure, asub]
theorem y_sl_hi (T : Tab P) {x y : Operand} {t e z bb k c : Nat} {a : Option Addr} {kk : IntKind} {j : Int} (ht : al T.slcs t = some (e, z, bb)) (hx : ev E x = some (.slice a k c)) (hy : ev E y = some (.int kk j)) (h0 : 0 ≤ j) (h1 : j ≤ c) :
  Yld B P n E H (.slice t x none (some y) none) ty (.slice (asub a c z 0) j.toNat c) :=
 y_run fun o aa w ho _ hA _ => by
  have hb : (Instr.sliceBounds true k c none (some (.int kk j)) none).run P w = .ok (0, j.toNat, c) w := by
   simp only [Instr.sliceBounds, Instr.sliceBound, asIntOf, Sem.run_bind, Sem.run_pure, Result.andThen_ok, h0, h1, and_self, if_true]
  unfold execOp
  simp only [ho, hA.ev hx, hA.ev hy, Option.map_some, Option.map_none, Sem.run_bind, run_sl (T.slc ht) hb, Result.andThen_ok, Nat.sub_zero]
  rfl
theorem y_sl_lo (T : Tab P) {x y : Operand} {t e z bb k c : Nat} {a : Option Addr} {kk : IntKind} {i : Int} (ht : al T.slcs t = some (e, z, bb)) (hx : ev E x = some (.slice a k c)) (hy : ev E y = some (.int kk i)) (h0 : 0 ≤ i) (h1 : i ≤ k) :
  Yld B P n E H (.slice t x (some y) none none) ty (.slice (asub a c z i.toNat) (k - i.toNat) (c - i.toNat)) :=
 y_run fun o aa w ho _ hA _ => by
  have hb : (Instr.sliceBounds true k c (some (.int kk i)) none none).run P w = .ok (i.toNat, k, c) w := by
   simp only [Instr.sliceBounds, Instr.sliceBound, asIntOf, Sem.run_bind, Sem.run_pure, Result.andThen_ok, h0, h1, and_self, if_true]
  unfold execOp
  simp only [ho, hA.ev hx, hA.ev hy, Option.map_some, Option.map_none, Sem.run_bind, run_sl (T.slc ht) hb, Result.andThen_ok]
  rfl
theorem y_sl_lh (T : Tab P) {x y y' : Operand} {t e z bb k c : Nat} {a : Option Addr} {kk kk' : IntKind} {i j : Int} (ht : al T.slcs t = some (e, z, bb)) (hx : ev E x = some (.slice a k c)) (hy : ev E y = some (.int kk i)) (hy' : ev E y' = some (.int kk' j))
  (h0 : 0 ≤ i) (h1 : i ≤ j) (h2 : j ≤ c) : Yld B P n E H (.slice t x (some y) (some y') none) ty (.slice (asub a c z i.toNat) (j.toNat - i.toNat) (c - i.toNat)) :=
 y_run fun o aa w ho _ hA _ => by
  have hj : ((j.toNat : Nat) : Int) = j := Int.toNat_of_nonneg (by omega)
  have hb : (Instr.sliceBounds true k c (some (.int kk i)) (some (.int kk' j)) none).run P w = .ok (i.toNat, j.toNat, c) w := by
   simp only [Instr.sliceBounds, Instr.sliceBound, asIntOf, Sem.run_bind, Sem.run_pure, Result.andThen_ok, show (0 ≤ j ∧ j ≤ (c : Int)) from ⟨by omega, h2⟩, and_self, if_true, hj, h0, h1]
  unfold execOp
  simp only [ho, hA.ev hx, hA.ev hy, hA.ev hy', Option.map_some, Option.map_none, Sem.run_bind, run_sl (T.slc ht) hb, Result.andThen_ok]
  rfl

/-! ### owned slices -/
theorem Own.to_row {w : World} {a : Option Addr} {c : Nat} {e : TypeId} {sz k : Nat} {xs : List Value} (hS : Sat B H w) (hs : Sel H (Own a c e sz k xs) R) :
  (a = none ∧ c = 0 ∧ k = 0 ∧ xs = []) ∨ ∃ g cur, a = some ⟨g, 0, none⟩ ∧ w.heap[g]? = some (.cells cur e (0, 0)) ∧ B.heap.size ≤ g ∧ cur.size = c * sz ∧ cur.toList.take (k * sz) = xs := by
 obtain ⟨h, hh, h1, h2, h3, hp⟩ := (hS.sel hs).head
 rcases hp with ⟨rfl, rfl⟩ | ⟨g, cur, rfl, hg, hcs, ht⟩
 ·have hk : k = 0 := by omega
  subst hk
  exact .inl ⟨rfl, rfl, rfl, List.eq_nil_of_length_eq_zero (by simpa using h1)⟩
 ·exact .inr ⟨g, cur, rfl, (hh g _ hg).1, (hh g _ hg).2, hcs, ht⟩
/-- The row of an owned slice is written: the piece is turned. -/
theorem Sat.ownRow {w : World} {g c c' : Nat} {e : TypeId} {sz k k' : Nat} {xs xs' : List Value} {cur cur' : Array Value} {H' : List HP} (hS : Sat B H w) (hr : Rep H (Own (some ⟨g, 0, none⟩) c e sz k xs) (Own (some ⟨g, 0, none⟩) c' e sz k' xs') H')
  (hg : w.heap[g]? = some (.cells cur e (0, 0))) (h1 : xs'.length = k' * sz) (h2 : k' ≤ c') (h3 : c' ≤ maxLen) (hcs : cur'.size = c' * sz) (ht : cur'.toList.take (k' * sz) = xs') : Sat B H' (w.setRow g cur') := by
 refine hS.upd (b := g) (o' := .cells cur' e (0, 0)) hr (fun h hh => ?_)
  (fun h h' _ _ hb => ⟨h1, h2, h3, .inr ⟨g, cur', rfl, hb, hcs, ht⟩⟩) rfl rfl rfl (by simp [World.setRow]) (setRow_heap w g cur cur' e _ hg) (fun x hx => setRow_other w g x _ hx)
 obtain ⟨_, _, _, hp⟩ := hh
 rcases hp with ⟨h, _⟩ | ⟨g', cur, h, hgg, _⟩
 ·cases h
 ·cases h; exact ⟨_, hgg⟩
/-- An owned slice takes another row, a new one: the old row is garbage. -/
theorem Sat.ownNew {w w' : World} {a : Option Addr} {c c' : Nat} {e : TypeId} {sz k k' : Nat} {xs xs' : List Value} {cur' : Array Value} {H' : List HP} (hS : Sat B H w)
  (hr : Rep H (Own a c e sz k xs) (Own (some ⟨w.heap.size, 0, none⟩) c' e sz k' xs') H')
  (hos : w'.os = w.os) (hou : w'.output = w.output) (hta : w'.tape = w.tape) (hh : w'.heap = w.heap.push (.cells cur' e (0, 0)))
  (h1 : xs'.length = k' * sz) (h2 : k' ≤ c') (h3 : c' ≤ maxLen) (hcs : cur'.size = c' * sz) (ht : cur'.toList.take (k' * sz) = xs') : Sat B H' w' := by
 obtain ⟨R, s1, s2⟩ := hr.sel
 refine Sat.unsel s2 ((hS.sel s1).tail.new hos hou hta hh fun h _ hb => ⟨h1, h2, h3, .inr ⟨_, cur', rfl, hb, hcs, ht⟩⟩)

/-! ### append -/
theorem Rd.cells {w : World} {a : Option Addr} {k c sz : Nat} {xs : List Value} (hr : Rd B H a k c sz xs) (hS : Sat B H w) (hk : 0 < k) : ∃ ad, a = some ad ∧ ∀ j u, xs[j]? = some u → w.cell? (ad.add j) = some u := by
 obtain ⟨h1, h2⟩ := hr.2.2 w hS
 obtain ⟨ad, rfl⟩ := Option.isSome_iff_exists.1 (h1 hk)
 exact ⟨ad, rfl, h2⟩
theorem run_append {w : World} {t ty e : TypeId} {sz by_ : Nat} {z : Value} {a b : Option Addr} {c k m c2 : Nat} {xs ys : List Value} {H' : Option Addr → Nat → List HP}
  (ht : slcB P t = some (e, sz, by_)) (hz : zerB P e = some z) (hzs : z.cells.size = sz) (hS : Sat B H w) (hr : ∀ a' c', Rep H (Own a c e sz k xs) (Own a' c' e sz (k + m) (xs ++ ys)) (H' a' c'))
  (hy : Rd B H b m c2 sz ys) (h1 : ∀ u ∈ ys, u.oneCell' = true) (hlen : k + m ≤ 140737488355328) (hby : (k + m) * by_ ≤ 140737488355328) :
  ∃ a' c' w', (Builtin.append_ #[t, t] ty #[.slice a k c, .slice b m c2]).run P w = .ok (.slice a' (k + m) c') w' ∧ Sat B (H' a' c') w' ∧ k + m ≤ c' := by
 obtain ⟨hu, i, hi, hisz, hiby⟩ := slcB_spec ht
 subst hisz hiby
 have hzi : i.zero = some z := by simpa [zerB, hi] using hz
 have hml : k + m ≤ maxLen := by unfold maxLen; omega
 have hsmall : k + m ≤ 9223372036854775807 := by omega
 obtain ⟨Rr, s1, _⟩ := (hr a c).sel
 obtain ⟨hxl, hkc, hcm⟩ := Own.facts hS s1
 have hyl := hy.1
 have hlen' : (xs ++ ys).length = (k + m) * i.size := by rw [List.length_append, hxl, hyl, Nat.add_mul]
 have fits : ∀ old, Builtin.nextslicecap (k + m) old * i.bytes ≤ 281474976710656 ∨ ¬ old < k + m := fun old => by
  by_cases ho : old < k + m
  ·exact .inl (growslice_fits ho hby)
  ·exact .inr ho
 have grown : ∀ (old : Nat), old < k + m →
   Sat B (H' (some ⟨w.heap.size, 0, none⟩) (grownCap w (k + m) old e)) (w.drew.alloc (.cells (xs.toArray ++ ys.toArray ++ Builtin.zeroCells z.cells (grownCap w (k + m) old e - (k + m))) e)) := by
  intro old ho
  have hge := grownCap_ge w (k + m) old e
  have hcm := grownCap_le_maxLen w (k + m) old e hml
  refine hS.ownNew (hr _ _) rfl rfl rfl rfl hlen' hge hcm ?_ ?_
  ·simp only [Array.size_append, List.size_toArray, size_zeroCells, hzs, hxl, hyl, ← Nat.add_mul]
   congr 1
   omega
  ·simp only [Array.toList_append, List.append_assoc]
   rw [← List.append_assoc, ← hlen']
   exact List.take_left
 rcases Nat.eq_zero_or_pos m with hm | hm
 ·subst hm
  have hy0 : ys = [] := List.eq_nil_of_length_eq_zero (by simpa using hyl)
  subst hy0
  refine ⟨a, c, w, ?_, ?_, by omega⟩
  ·cases a <;> cases b <;> simp [Builtin.append_, run_underlying hu, sizeOf, typeInfo, hi, Builtin.lenOf, hkc, Builtin.firstCells, loadCells, loadCellsFrom, storeCells]
  ·have h := hr a c
   simp only [Nat.add_zero, List.append_nil] at h
   exact hS.mono fun h' hh => by
    obtain ⟨R2, q1, q2⟩ := h.sel
    have := q1.to _ hh
    exact q2.of _ this
 ·obtain ⟨bd, rfl, hcells⟩ := hy.cells hS hm
  rcases Own.to_row hS s1 with ⟨rfl, rfl, rfl, rfl⟩ | ⟨g, cur, rfl, hg, hbg, hcs, ht'⟩
  ·have hrun := run_append_nil (P := P) w t ty e i z hu hi hzi bd m c2 ys hyl hcells hm (by omega) (by simp only [Nat.zero_add] at hby; omega)
   have hgr := grown 0 (by omega)
   simp only [Nat.zero_add, Array.empty_append] at hgr hrun ⊢
   exact ⟨_, _, _, hrun, hgr, by have := grownCap_ge w m 0 e; omega⟩
  ·by_cases hroom : k + m ≤ c
   ·have hfit : k * i.size + ys.length ≤ cur.size := by rw [hyl, hcs, ← Nat.add_mul]; exact Nat.mul_le_mul_right _ hroom
    have hrun := run_append_room (P := P) w t ty e i hu hi g k c cur hg bd m c2 ys hyl hcells h1 hroom hfit
    refine ⟨_, _, _, hrun, hS.ownRow (hr _ _) hg hlen' hroom hcm ?_ ?_, hroom⟩
    ·simp only [List.size_toArray, List.length_append, List.length_take, List.length_drop, Array.length_toList]
     omega
    ·rw [ht', ← hlen']
     exact List.take_left
   ·obtain ⟨ad, he, holds⟩ : ∃ ad, (some (⟨g, 0, none⟩ : Addr)) = some ad ∧ ∀ j u, xs[j]? = some u → w.cell? (ad.add j) = some u :=
     ⟨_, rfl, fun j u hu => by
      have := ((Own.rd s1 hxl hkc).2.2 w hS).2 j u hu
      simpa [adr] using this⟩
    cases he
    have hrun := run_append_grow (P := P) w t ty e i z hu hi hzi ⟨g, 0, none⟩ k c xs hxl holds bd m c2 ys hyl hcells (by omega) (by omega) (growslice_fits (by omega) hby)
    exact ⟨_, _, _, hrun, grown c (by omega), grownCap_ge w (k + m) c e⟩

theorem x_app (T : Tab P) {l0 rest : List Oper} {Q : Exit → Act → World → Prop} {d : Nat} {pos : String} {af : Array Edge} {g : Option (Nat × Bool)} {x y : Operand} {t e : TypeId} {sz by_ : Nat} {z : Value} {a b : Option Addr} {c k m c2 : Nat}
  {xs ys : List Value} {H' : Option Addr → Nat → List HP}
  (hw : wt l0 E g = some true) (hd : d < n) (ht : al T.slcs t = some (e, sz, by_)) (hz : al T.zers e = some z) (hzs : z.cells.size = sz)
  (hx : ev E x = some (.slice a k c)) (hy : ev E y = some (.slice b m c2)) (hr : ∀ a' c', Rep H (Own a c e sz k xs) (Own a' c' e sz (k + m) (xs ++ ys)) (H' a' c'))
  (hb : Rd B H b m c2 sz ys) (h1 : ∀ u ∈ ys, u.oneCell' = true) (hlen : k + m ≤ 140737488355328) (hby : (k + m) * by_ ≤ 140737488355328)
  (kk : ∀ a' c', k + m ≤ c' → RT B P n true l0 rest ((d, .slice a' (k + m) c') :: E) (H' a' c') Q) :
  RT B P n true l0 (⟨some d, .call { callee := .builtin .append, args := #[x, y], argTypes := #[t, t] }, ty, pos, af, g⟩ :: rest) E H Q :=
 RT.eff hw fun o aa w K ho hty hdd hA hS hK => by
  obtain ⟨a', c', w', hrun, hS', hkc⟩ := run_append (ty := ty) (T.slc ht) (T.zer hz) hzs hS hr hb h1 hlen hby
  unfold Oper.wp execOp
  simp only [ho, hty, resolve, invoke, builtin, Sem.run_bind, Sem.run_pure, Result.andThen_ok, List.map_toArray, List.map_cons, List.map_nil, hA.ev hx, hA.ev hy, hrun]
  simp only [Oper.upon, hdd]
  exact hK _ _ (kk a' c' hkc _ _ (hA.put hd _) hS')

/-! ### new variables -/
theorem Sat.newCs {w : World} {e : TypeId} {l : List Value} (hS : Sat B H w) : Sat B (Cs w.heap.size e l :: H) (w.alloc (.cells l.toArray e)) :=
 hS.new rfl rfl rfl rfl fun _ _ hb => hb
theorem x_box {l0 rest : List Oper} {Q : Exit → Act → World → Prop} {d : Nat} {pos : String} {af : Array Edge} {g : Option (Nat × Bool)} {x : Operand} {t : TypeId} {v : Value} {l : List Value}
  (hw : wt l0 E g = some true) (hd : d < n) (hx : ev E x = some v) (hv : v.cells = l.toArray)
  (k : ∀ b, RT B P n true l0 rest ((d, .pointer (some ⟨b, 0, none⟩)) :: E) (Cs b t l :: H) Q) : RT B P n true l0 (⟨some d, .box t x, ty, pos, af, g⟩ :: rest) E H Q :=
 RT.eff hw fun o aa w K ho _ hdd hA hS hK => by
  unfold Oper.wp execOp
  have hr : (Instr.box t v).run P w = .ok (.pointer (some ⟨w.heap.size, 0, none⟩)) (w.alloc (.cells l.toArray t)) := by
   simp only [Instr.box, newVar, newRow, Sem.run_bind, hv]; rfl
  simp only [ho, hA.ev hx, Sem.run_bind, hr, Result.andThen_ok, Sem.run_pure]
  simp only [Oper.upon, hdd]
  exact hK _ _ (k _ _ _ (hA.put hd _) hS.newCs)
theorem x_alloc (T : Tab P) {l0 rest : List Oper} {Q : Exit → Act → World → Prop} {d : Nat} {pos : String} {af : Array Edge} {g : Option (Nat × Bool)} {t : TypeId} {v : Value} {l : List Value}
  (hw : wt l0 E g = some true) (hd : d < n) (hz : al T.zers t = some v) (hv : v.cells = l.toArray)
  (k : ∀ b, RT B P n true l0 rest ((d, .pointer (some ⟨b, 0, none⟩)) :: E) (Cs b t l :: H) Q) : RT B P n true l0 (⟨some d, .alloc t, ty, pos, af, g⟩ :: rest) E H Q :=
 RT.eff hw fun o aa w K ho _ hdd hA hS hK => by
  unfold Oper.wp execOp
  have hr : (Instr.alloc t true (.tuple #[])).run P w = .ok (.pointer (some ⟨w.heap.size, 0, none⟩)) (w.alloc (.cells l.toArray t)) := by
   simp only [Instr.alloc, newVar, newRow, Sem.run_bind, zerB_spec (T.zer hz), Result.andThen_ok, hv]; rfl
  simp only [ho, Sem.run_bind, hr, Result.andThen_ok, Sem.run_pure]
  simp only [Oper.upon, hdd]
  exact hK _ _ (k _ _ _ (hA.put hd _) hS.newCs)

/-! ### calls -/
/-- A call that leaves the pieces as they are and hands back this value. -/
def QSp (B : World) (P : Program) (f : FuncId) (vs : List Value) (H : List HP) (v : Value) : Prop := ∀ w, Sat B H w → Calls P f vs.toArray w fun e w' => e = .returned v ∧ Sat B H w'
theorem run_call {T : Tab P} {f : FuncId} {bb : Bool} {w : World} {args : List Value} (hf : al T.funs f = some bb) : (callFunc f args.toArray).run P w = .ok (.enter f args.toArray) w := T.funs_ok (f, bb) (al_mem hf) _ _
theorem exec_call (T : Tab P) {f : FuncId} {bb : Bool} {w : World} {xs : List Operand} {vs : List Value} {ats : Array TypeId} {o : Oper} {aa : Act} (hf : al T.funs f = some bb)
  (ho : o.op = .call { callee := .value (.func f), args := xs.toArray, argTypes := ats }) (hA : Agr n E aa) (hv : evs E xs = some vs) : (execOp aa.eval o).run P w = .ok (.enter f vs.toArray) w := by
 unfold execOp
 have hm : xs.map aa.eval = vs := hA.evs hv
 simp only [ho, resolve, Sem.run_bind, List.map_toArray, hm, Act.eval, Deferred.ofValue, Sem.run_pure, Result.andThen_ok, invoke]
 simpa using run_call (T := T) hf
theorem y_call (T : Tab P) {f : FuncId} {bb : Bool} {xs : List Operand} {vs : List Value} {ats : Array TypeId} {v : Value} (hf : al T.funs f = some bb) (hv : evs E xs = some vs) (hq : QSp B P f vs H v) :
  Yld B P n E H (.call { callee := .value (.func f), args := xs.toArray, argTypes := ats }) ty v := fun o aa w ho _ hA hS => by
 unfold Oper.quietAt
 rw [exec_call T hf ho hA hv]
 exact ⟨rfl, hq w hS⟩
theorem x_call (T : Tab P) {l0 rest : List Oper} {Q : Exit → Act → World → Prop} {d : Nat} {pos : String} {af : Array Edge} {g : Option (Nat × Bool)} {f : FuncId} {bb : Bool} {xs : List Operand} {vs : List Value} {ats : Array TypeId} {Pre : List HP} {Post : Value → List HP → Prop}
  (hw : wt l0 E g = some true) (hd : d < n) (hf : al T.funs f = some bb) (hv : evs E xs = some vs) (hq : Sp B P f vs R Pre Post) (hfr : Fr H Pre R)
  (k : ∀ v H', Post v H' → RT B P n true l0 rest ((d, v) :: E) (H' ++ R) Q) : RT B P n true l0 (⟨some d, .call { callee := .value (.func f), args := xs.toArray, argTypes := ats }, ty, pos, af, g⟩ :: rest) E H Q :=
 RT.eff hw fun o aa w K ho _ hdd hA hS hK => by
  unfold Oper.wp
  rw [exec_call T hf ho hA hv]
  simp only [Oper.upon, hdd]
  refine (hq w (hS.fr hfr)).mono fun e w' ⟨v, H', he, hp, hS'⟩ => ?_
  subst he
  exact hK _ _ (k v H' hp _ _ (hA.put hd _) hS')
theorem Fr.back {H Ps R : List HP} (f : Fr H Ps R) : ∀ h, star (Ps ++ R) h → star H h := by
 induction f with
 | nil => exact fun _ h => h
 | cons s _ ih => exact fun h hs => s.of h (star_cons_mono ih hs)
/-- A function that gives back what it got: quiet. -/
theorem Sp.quiet {f : FuncId} {vs : List Value} {Pre : List HP} {v : Value} (h : Sp B P f vs R Pre (fun v' H' => v' = v ∧ H' = Pre)) (hfr : Fr H Pre R) : QSp B P f vs H v :=
 fun w hS => (h w (hS.fr hfr)).mono fun e w' ⟨_, _, he, ⟨hv, hh⟩, hS'⟩ => by subst hv hh; exact ⟨he, hS'.mono hfr.back⟩
end
end Go.Sk
end
section
namespace Go.Sk
theorem wr_i64 {x : Int} (a : -9223372036854775808 ≤ x) (b : x ≤ 9223372036854775807) : IntKind.i64.wrap x = x := by
 simp only [IntKind.wrap, IntKind.bits, IntKind.signed, Bool.true_and, decide_eq_true_eq, ge_iff_le]
 split <;> omega
theorem wr_i32 {x : Int} (a : -2147483648 ≤ x) (b : x ≤ 2147483647) : IntKind.i32.wrap x = x := by
 simp only [IntKind.wrap, IntKind.bits, IntKind.signed, Bool.true_and, decide_eq_true_eq, ge_iff_le]
 split <;> omega
theorem wr_u64 {x : Int} (a : 0 ≤ x) (b : x ≤ 18446744073709551615) : IntKind.u64.wrap x = x := by
 simp only [IntKind.wrap, IntKind.bits, IntKind.signed, Bool.false_and]
 simp; omega
theorem wr_u32 {x : Int} (a : 0 ≤ x) (b : x ≤ 4294967295) : IntKind.u32.wrap x = x := by
 simp only [IntKind.wrap, IntKind.bits, IntKind.signed, Bool.false_and]
 simp; omega
theorem wr_u8 {x : Int} (a : 0 ≤ x) (b : x ≤ 255) : IntKind.u8.wrap x = x := by
 simp only [IntKind.wrap, IntKind.bits, IntKind.signed, Bool.false_and]
 simp; omega
theorem wr_u8m (x : Int) : IntKind.u8.wrap x = x % 256 := by simp [IntKind.wrap, IntKind.bits, IntKind.signed]
theorem wr_u32m (x : Int) : IntKind.u32.wrap x = x % 4294967296 := by simp [IntKind.wrap, IntKind.bits, IntKind.signed]
theorem wr_u64m (x : Int) : IntKind.u64.wrap x = x % 18446744073709551616 := by simp [IntKind.wrap, IntKind.bits, IntKind.signed]
end Go.Sk
namespace Go.Sk
end Go.Sk
namespace Go.Sk
theorem dec_t {p : Prop} [Decidable p] (h : p) : Value.bool true = Value.bool (decide p) := by rw [decide_eq_true h]
theorem dec_f {p : Prop} [Decidable p] (h : ¬ p) : Value.bool false = Value.bool (decide p) := by rw [decide_eq_false h]
/-- Numbers of this kind that are in its range stay as they are. -/
class KR (k : IntKind) (lo hi : outParam Int) : Prop where
 ok : ∀ {e : Int}, lo ≤ e → e ≤ hi → k.wrap e = e
instance : KR .i64 (-9223372036854775808) 9223372036854775807 := ⟨wr_i64⟩
instance : KR .u64 0 18446744073709551615 := ⟨wr_u64⟩
instance : KR .u8 0 255 := ⟨wr_u8⟩
instance : KR .i32 (-2147483648) 2147483647 := ⟨wr_i32⟩
instance : KR .u32 0 4294967295 := ⟨wr_u32⟩
theorem num_k {k : IntKind} {lo hi : Int} [h : KR k lo hi] {K : Int → Prop} {e : Int} (h0 : lo ≤ e) (h1 : e ≤ hi) (kk : K e) : ∀ r, k.wrap e = r → K r := fun r hr => by rw [h.ok h0 h1] at hr; exact hr ▸ kk
class KM (k : IntKind) (m : outParam Int) : Prop where
 ok : ∀ {e : Int}, k.wrap e = e % m
instance : KM .u64 18446744073709551616 := ⟨wr_u64m _⟩
instance : KM .u8 256 := ⟨wr_u8m _⟩
instance : KM .u32 4294967296 := ⟨wr_u32m _⟩
theorem num_m {k : IntKind} {m : Int} [h : KM k m] {K : Int → Prop} {e : Int} (kk : ∀ r, e % m = r → K r) : ∀ r, k.wrap e = r → K r := fun r hr => kk r (by rw [← h.ok]; exact hr)
end Go.Sk
end
section
namespace Go.Sk
section
variable {P : Program} (T : Tab P)

/-- What such an operation yields. -/
def evalOp (E : Env) : Op → Option Value
 | .move x => ev E x
 | .assign x => ev E x
 | .nilCheck x => match ev E x with
  | some (.pointer (some a)) => some (.pointer (some a))
  | _ => none
 | .fieldAddr s x f => match ev E x with
  | some (.pointer (some ⟨b, 0, none⟩)) => match al2 T.flds s f with
   | some (off, _ + 1, _) => some (.pointer (some ⟨b, off, none⟩))
   | _ => none
  | _ => none
 | .extract x i => match ev E x with
  | some (.tuple ⟨l⟩) => l[i]?
  | _ => none
 | .pick c x y => match ev E c with
  | some (.bool true) => ev E x
  | some (.bool false) => ev E y
  | _ => none
 | .unOp .not _ x => match ev E x with
  | some (.bool true) => some (.bool false)
  | some (.bool false) => some (.bool true)
  | _ => none
 | .call ⟨.builtin .len, ⟨[x]⟩, ⟨[t]⟩⟩ => match ev E x with
  | some (.slice _ k _) => match al T.slcs t with
   | some _ => some (.int .i64 k)
   | none => none
  | _ => none
 | .call ⟨.builtin .cap, ⟨[x]⟩, ⟨[t]⟩⟩ => match ev E x with
  | some (.slice _ _ c) => match al T.slcs t with
   | some _ => some (.int .i64 c)
   | none => none
  | _ => none
 | _ => none

/-- Two ways, or a sum to be named. -/
inductive Ask where
 | no
 | two (c : Prop) (t f : Bool)
 | num (k : IntKind) (e : Int)

def askOp (E : Env) : Op → Ask
 | .binOp bo _ x y _ => match ev E x, ev E y with
  | some (.int k i), some (.int k' j) => bif decide (k = k') then (match bo with
   | .lss => .two (i < j) true false
   | .leq => .two (i ≤ j) true false
   | .gtr => .two (j < i) true false
   | .geq => .two (j ≤ i) true false
   | .eql => .two (i = j) true false
   | .neq => .two (i = j) false true
   | .add => .num k (i + j)
   | .sub => .num k (i - j)
   | .mul => .num k (i * j)
   | _ => .no) else .no
  | _, _ => .no
 | .convert t' t x => match ev E x with
  | some (.int _ i) => match al T.ints t', al T.ints t with
   | some _, some k' => .num k' i
   | _, _ => .no
  | _ => .no
 | _ => .no

def vc (n : Nat) (l0 : List Oper) (K : List Oper → Env → Prop) : List Oper → Env → Bool → Prop
 | [], E, b => bif b then K [] E else False
 | o :: rest, E, b => match o.dst with
  | some d => bif Nat.blt d n then
   match wt l0 E o.guard with
   | some false => vc n l0 K rest ((d, undef) :: E) true
   | some true => match evalOp T E o.op with
    | some v => vc n l0 K rest ((d, v) :: E) true
    | none => match askOp T E o.op with
     | .two c t f => (c → vc n l0 K rest ((d, .bool t) :: E) true) ∧ (¬ c → vc n l0 K rest ((d, .bool f) :: E) true)
     | .num k e => ∀ r, k.wrap e = r → vc n l0 K rest ((d, .int k r) :: E) true
     | .no => bif b then K (o :: rest) E else False
   | none => bif b then K (o :: rest) E else False
   else bif b then K (o :: rest) E else False
  | none => bif b then K (o :: rest) E else False
end

section
variable {B : World} {P : Program} {n : Fm} {m : Bool} {l0 rest : List Oper} {E : Env} {H : List HP} {Q : Exit → Act → World → Prop} (T : Tab P)

theorem evalOp_ok {op : Op} {ty : TypeId} {v : Value} (h : evalOp T E op = some v) : Yld B P n E H op ty v := by
 unfold evalOp at h
 split at h
 ·exact y_move h
 ·exact y_assign h
 ·split at h
  ·rename_i hx; cases h; exact y_nil hx
  ·cases h
 ·split at h
  ·rename_i hx
   split at h
   ·rename_i hf; cases h; exact y_fa T hf hx
   ·cases h
  ·cases h
 ·split at h
  ·rename_i l hx; exact y_extract hx h
  ·cases h
 ·split at h
  ·rename_i hc; exact y_pick_t hc h
  ·rename_i hc; exact y_pick_f hc h
  ·cases h
 ·split at h
  ·rename_i hx; cases h; exact y_not hx rfl
  ·rename_i hx; cases h; exact y_not hx rfl
  ·cases h
 ·split at h
  ·rename_i hx
   split at h
   ·rename_i ht; cases h; exact y_len T ht hx
   ·cases h
  ·cases h
 ·split at h
  ·rename_i hx
   split at h
   ·rename_i ht; cases h; exact y_cap T ht hx
   ·cases h
  ·cases h
 ·cases h

theorem askOp_two {op : Op} {ty : TypeId} {c : Prop} {t f : Bool} (h : askOp T E op = .two c t f) : (t = true ∧ f = false ∨ t = false ∧ f = true) ∧ ∃ b, Yld B P n E H op ty (.bool b) ∧ (b = t ↔ c) := by
 unfold askOp at h
 split at h
 ·split at h
  ·rename_i k i k' j hx hy
   cases hk : decide (k = k') with
   | false => simp [hk] at h
   | true =>
    have hkk : k = k' := of_decide_eq_true hk
    subst hkk
    simp only [hk, cond_true] at h
    split at h <;> cases h
    all_goals first
     | exact ⟨by simp, _, y_cmp hx hy rfl (by simp), by simp⟩
  ·cases h
 ·split at h
  ·split at h <;> cases h
  ·cases h
 ·cases h
theorem askOp_num {op : Op} {ty : TypeId} {k : IntKind} {e : Int} (h : askOp T E op = .num k e) : Yld B P n E H op ty (.int k (k.wrap e)) := by
 unfold askOp at h
 split at h
 ·split at h
  ·rename_i k0 i k' j hx hy
   cases hk : decide (k0 = k') with
   | false => simp [hk] at h
   | true =>
    have hkk : k0 = k' := of_decide_eq_true hk
    subst hkk
    simp only [hk, cond_true] at h
    split at h <;> cases h
    ·exact y_add hx hy rfl
    ·exact y_sub hx hy rfl
    ·exact y_mul hx hy rfl
  ·cases h
 ·split at h
  ·rename_i hx
   split at h
   ·rename_i hs ht
    cases h
    exact y_conv T ht hs hx rfl
   ·cases h
  ·cases h
 ·cases h

theorem vc_ok : ∀ (l : List Oper) (E : Env) (b : Bool), vc T n l0 (fun rest E' => RT B P n m l0 rest E' H Q) l E b → RT B P n m l0 l E H Q
 | [], E, b, h => by
  cases b
  ·exact h.elim
  ·exact h
 | o :: rest, E, b, h => by
  have stop : (bif b then RT B P n m l0 (o :: rest) E H Q else False) → RT B P n m l0 (o :: rest) E H Q := fun h => by
   cases b
   ·exact h.elim
   ·exact h
  obtain ⟨dst, op, ty, pos, af, g⟩ := o
  simp only [vc] at h
  cases dst with
  | none => exact stop h
  | some d =>
   simp only at h
   cases hd : Nat.blt d n with
   | false => rw [hd] at h; exact stop h
   | true =>
    rw [hd] at h
    have hdn : d < n := by simpa [Nat.blt_eq] using hd
    simp only [cond_true] at h
    cases hw : wt l0 E g with
    | none => simp only [hw] at h; exact stop h
    | some bw =>
     cases bw with
     | false => simp only [hw] at h; exact RT.skip hw hdn (vc_ok rest _ _ h)
     | true =>
      simp only [hw] at h
      cases he : evalOp T E op with
      | some v => simp only [he] at h; exact RT.y hw hdn (evalOp_ok T he) (vc_ok rest _ _ h)
      | none =>
       simp only [he] at h
       cases ha : askOp T E op with
       | no => simp only [ha] at h; exact stop h
       | two c t f =>
        simp only [ha] at h
        obtain ⟨htf, bb, hy, hb⟩ := askOp_two (B := B) (n := n) (H := H) (ty := ty) T ha
        refine RT.y hw hdn hy ?_
        by_cases hc : c
        ·have := hb.2 hc; subst this; exact vc_ok rest _ _ (h.1 hc)
        ·have hne : bb ≠ t := fun e => hc (hb.1 e)
         have : bb = f := by rcases htf with ⟨rfl, rfl⟩ | ⟨rfl, rfl⟩ <;> cases bb <;> simp_all
         subst this
         exact vc_ok rest _ _ (h.2 hc)
       | num k e =>
        simp only [ha] at h
        exact RT.y hw hdn (askOp_num T ha) (vc_ok rest _ _ (h _ rfl))
theorem RT.c (h : vc T n l0 (fun rest E' => RT B P n m l0 rest E' H Q) rest E false) : RT B P n m l0 rest E H Q := vc_ok T rest E false h
theorem RT.id (h : RT B P n m l0 rest E H Q) : RT B P n m l0 rest E H Q := h
/-- Go on behind a stop. -/
theorem RT.c1 (h : vc T n l0 (fun rest E' => RT B P n m l0 rest E' H Q) rest E true) : RT B P n m l0 rest E H Q := vc_ok T rest E true h
end
end Go.Sk
namespace Go.Sk
theorem vc_id {P : Program} {T : Tab P} {n : Nat} {l0 l : List Oper} {K : List Oper → Env → Prop} {E : Env} {b : Bool} (h : vc T n l0 K l E b) : vc T n l0 K l E b := h
end Go.Sk
namespace Go.Sk
theorem CT.id_ {B : World} {P : Program} {n : Fm} {c : Code} {E : Env} {H : List HP} {Q : Exit → Act → World → Prop} (h : CT B P n c E H Q) : CT B P n c E H Q := h
theorem AtQ.id_ {B : World} {n : Fm} {E : Env} {H : List HP} {Q : Exit → Act → World → Prop} {ex : Exit} (h : AtQ B n E H Q ex) : AtQ B n E H Q ex := h
end Go.Sk
namespace Go.Sk
section
variable {B : World} {P : Program} {n : Fm} {m : Bool} {l0 rest : List Oper} {E : Env} {H R : List HP} {Q : Exit → Act → World → Prop} (T : Tab P)
variable {d : Nat} {ty : TypeId} {pos : String} {af : Array Edge} {g : Option (Nat × Bool)} {x y : Operand} {t : TypeId}
theorem RT.ld {b off : Nat} {e : TypeId} {l : List Value} {v : Value} (hx : ev E x = some (.pointer (some ⟨b, off, none⟩))) (hs : Sel H (Cs b e l) R) (hv : l[off]? = some v) (ht : al T.szs t = some (1, false)) (hw : wt l0 E g = some true) (hd : Nat.blt d n = true)
  (k : RT B P n m l0 rest ((d, v) :: E) H Q) : RT B P n m l0 (⟨some d, .load t x, ty, pos, af, g⟩ :: rest) E H Q :=
 RT.y hw (by simpa [Nat.blt_eq] using hd) (y_ld T ht hx hs hv) k
theorem RT.ldagg {b z : Nat} {e : TypeId} {l : List Value} (hx : ev E x = some (.pointer (some ⟨b, 0, none⟩))) (hs : Sel H (Cs b e l) R) (ht : al T.szs t = some (z, true)) (hz : l.length = z) (hw : wt l0 E g = some true) (hd : Nat.blt d n = true)
  (k : RT B P n m l0 rest ((d, .agg l.toArray) :: E) H Q) : RT B P n m l0 (⟨some d, .load t x, ty, pos, af, g⟩ :: rest) E H Q :=
 RT.y hw (by simpa [Nat.blt_eq] using hd) (y_ldagg T ht hx hs hz) k
theorem RT.ix {k c e z bb : Nat} {a : Option Addr} {kk : IntKind} {i : Int} {xs : List Value} {j : Nat} (hx : ev E x = some (.slice a k c)) (hy : ev E y = some (.int kk i)) (ht : al T.slcs t = some (e, z, bb))
  (hr : Rd B H a k c z xs) (h0 : 0 ≤ i) (h1 : i < k) (hj : i.toNat * z = j) (hw : wt l0 E g = some true) (hd : Nat.blt d n = true)
  (kt : RT B P n m l0 rest ((d, .pointer (some ((adr a).add j))) :: E) H Q) : RT B P n m l0 (⟨some d, .indexAddr t x y, ty, pos, af, g⟩ :: rest) E H Q :=
 RT.y hw (by simpa [Nat.blt_eq] using hd) (y_ix T ht hx hy hr h0 h1 hj) kt
theorem RT.ldi {k c z j : Nat} {a : Option Addr} {kk : IntKind} {l : List Int} (hx : ev E x = some (.pointer (some ((adr a).add j)))) (hr : Rd B H a k c z (ints kk l)) (hj : j < l.length) (ht : al T.szs t = some (1, false)) (hw : wt l0 E g = some true) (hd : Nat.blt d n = true)
  (kt : RT B P n m l0 rest ((d, .int kk (l.getD j 0)) :: E) H Q) : RT B P n m l0 (⟨some d, .load t x, ty, pos, af, g⟩ :: rest) E H Q :=
 RT.y hw (by simpa [Nat.blt_eq] using hd) (y_ldi T ht hx hr hj) kt
theorem RT.ldr {k c z j : Nat} {a : Option Addr} {xs : List Value} {u : Value} (hx : ev E x = some (.pointer (some ((adr a).add j)))) (hr : Rd B H a k c z xs) (hu : xs[j]? = some u) (ht : al T.szs t = some (1, false)) (hw : wt l0 E g = some true) (hd : Nat.blt d n = true)
  (kt : RT B P n m l0 rest ((d, u) :: E) H Q) : RT B P n m l0 (⟨some d, .load t x, ty, pos, af, g⟩ :: rest) E H Q :=
 RT.y hw (by simpa [Nat.blt_eq] using hd) (y_ldr T ht hx hr hu) kt
theorem RT.st {b off : Nat} {e : TypeId} {l l' : List Value} {v : Value} {H' : List HP} (hx : ev E x = some (.pointer (some ⟨b, off, none⟩))) (hy : ev E y = some v) (h1 : one1 v = true)
  (hr : Rep H (Cs b e l) (Cs b e l') H') (hl : SetN l off v l') (ht : al T.szs t = some (1, false)) (hw : wt l0 E g = some true)
  (k : RT B P n true l0 rest E H' Q) : RT B P n true l0 (⟨none, .store t x y, ty, pos, af, g⟩ :: rest) E H Q := x_st T hw ht hx hy h1 hr hl k
theorem RT.box {v : Value} {l : List Value} (hx : ev E x = some v) (hv : v.cells = l.toArray) (hw : wt l0 E g = some true) (hd : Nat.blt d n = true)
  (k : ∀ b, RT B P n true l0 rest ((d, .pointer (some ⟨b, 0, none⟩)) :: E) (Cs b t l :: H) Q) : RT B P n true l0 (⟨some d, .box t x, ty, pos, af, g⟩ :: rest) E H Q :=
 x_box hw (by simpa [Nat.blt_eq] using hd) hx hv k
theorem RT.alloc {v : Value} {l : List Value} (hz : al T.zers t = some v) (hv : v.cells = l.toArray) (hw : wt l0 E g = some true) (hd : Nat.blt d n = true)
  (k : ∀ b, RT B P n true l0 rest ((d, .pointer (some ⟨b, 0, none⟩)) :: E) (Cs b t l :: H) Q) : RT B P n true l0 (⟨some d, .alloc t, ty, pos, af, g⟩ :: rest) E H Q :=
 x_alloc T hw (by simpa [Nat.blt_eq] using hd) hz hv k
theorem RT.call {f : FuncId} {bb : Bool} {xs : List Operand} {vs : List Value} {ats : Array TypeId} {Pre : List HP} {Post : Value → List HP → Prop}
  (qv : evs E xs = some vs) (qfr : Fr H Pre R) (qq : Sp B P f vs R Pre Post) (qf : al T.funs f = some bb) (qw : wt l0 E g = some true) (qd : Nat.blt d n = true)
  (qk : ∀ v H', Post v H' → RT B P n true l0 rest ((d, v) :: E) (H' ++ R) Q) : RT B P n true l0 (⟨some d, .call { callee := .value (.func f), args := xs.toArray, argTypes := ats }, ty, pos, af, g⟩ :: rest) E H Q :=
 x_call T qw (by simpa [Nat.blt_eq] using qd) qf qv qq qfr qk
theorem RT.qcall {f : FuncId} {bb : Bool} {xs : List Operand} {vs : List Value} {ats : Array TypeId} {v : Value} (qv : evs E xs = some vs) (qq : QSp B P f vs H v) (qf : al T.funs f = some bb) (qw : wt l0 E g = some true) (qd : Nat.blt d n = true)
  (qk : RT B P n m l0 rest ((d, v) :: E) H Q) : RT B P n m l0 (⟨some d, .call { callee := .value (.func f), args := xs.toArray, argTypes := ats }, ty, pos, af, g⟩ :: rest) E H Q :=
 RT.y qw (by simpa [Nat.blt_eq] using qd) (y_call T qf qv qq) qk
theorem QSp.of {f : FuncId} {vs : List Value} {Pre : List HP} {v : Value} (qfr : Fr H Pre R) (qq : Sp B P f vs R Pre (fun v' H' => v' = v ∧ H' = Pre)) : QSp B P f vs H v := Sp.quiet qq qfr
theorem RT.pnil {t' : TypeId} {p : Option Addr} {r : Bool} (hx : ev E x = some (.pointer p)) (hy : ev E y = some (.pointer none)) (hr : p.isNone = r) (ht : al T.kinds t = some 1) (hw : wt l0 E g = some true) (hd : Nat.blt d n = true)
  (k : RT B P n m l0 rest ((d, .bool r) :: E) H Q) : RT B P n m l0 (⟨some d, .binOp .eql t x y t', ty, pos, af, g⟩ :: rest) E H Q :=
 RT.y hw (by simpa [Nat.blt_eq] using hd) (y_pnil T ht hx hy hr) k
theorem RT.pnnil {t' : TypeId} {p : Option Addr} {r : Bool} (hx : ev E x = some (.pointer p)) (hy : ev E y = some (.pointer none)) (hr : (!p.isNone) = r) (ht : al T.kinds t = some 1) (hw : wt l0 E g = some true) (hd : Nat.blt d n = true)
  (k : RT B P n m l0 rest ((d, .bool r) :: E) H Q) : RT B P n m l0 (⟨some d, .binOp .neq t x y t', ty, pos, af, g⟩ :: rest) E H Q :=
 RT.y hw (by simpa [Nat.blt_eq] using hd) (y_pnnil T ht hx hy hr) k
/-- Arithmetic of two integers whose outcome is told by hand. -/
theorem RT.ar {bo : BinOp} {t' : TypeId} {k k' : IntKind} {i j r : Int} (hx : ev E x = some (.int k i)) (hy : ev E y = some (.int k' j)) (hr : Yld B P n E H (.binOp bo t x y t') ty (.int k r)) (hw : wt l0 E g = some true) (hd : Nat.blt d n = true)
  (kt : RT B P n m l0 rest ((d, .int k r) :: E) H Q) : RT B P n m l0 (⟨some d, .binOp bo t x y t', ty, pos, af, g⟩ :: rest) E H Q :=
 have _ := hx
 have _ := hy
 RT.y hw (by simpa [Nat.blt_eq] using hd) hr kt
theorem RT.app {e : TypeId} {sz by_ : Nat} {z : Value} {a b : Option Addr} {c k m c2 : Nat} {xs ys : List Value} {H' : Option Addr → Nat → List HP}
  (hx : ev E x = some (.slice a k c)) (hy : ev E y = some (.slice b m c2)) (ht : al T.slcs t = some (e, sz, by_)) (hr : ∀ a' c', Rep H (Own a c e sz k xs) (Own a' c' e sz (k + m) (xs ++ ys)) (H' a' c'))
  (hb : Rd B H b m c2 sz ys) (h1 : ∀ u ∈ ys, u.oneCell' = true) (hlen : k + m ≤ 140737488355328) (hby : (k + m) * by_ ≤ 140737488355328)
  (hz : al T.zers e = some z) (hzs : z.cells.size = sz) (hw : wt l0 E g = some true) (hd : Nat.blt d n = true)
  (kk : ∀ a' c', k + m ≤ c' → RT B P n true l0 rest ((d, .slice a' (k + m) c') :: E) (H' a' c') Q) :
  RT B P n true l0 (⟨some d, .call { callee := .builtin .append, args := #[x, y], argTypes := #[t, t] }, ty, pos, af, g⟩ :: rest) E H Q :=
 x_app T hw (by simpa [Nat.blt_eq] using hd) ht hz hzs hx hy hr hb h1 hlen hby kk
end
/-- One step that nothing has to be shown for. -/
class Nx (p : Prop) (q : outParam Prop) : Prop where
 imp : q → p
theorem nx {p q : Prop} [h : Nx p q] (k : q) : p := h.imp k
section
variable {B : World} {P : Program} {n n' : Fm} {E : Env} {H : List HP} {Q : Exit → Act → World → Prop} {x y c : Code} {id : Nat}
instance : Nx (CT B P n (.seq x y) E H Q) (CT B P n x E H (Then n P y Q)) := ⟨CT.seq⟩
instance : Nx (CT B P n .skip E H Q) (AtQ B n E H Q .normal) := ⟨CT.skip⟩
instance : Nx (CT B P n .ret E H Q) (AtQ B n E H Q .ret) := ⟨CT.ret⟩
instance : Nx (CT B P n (.exit id) E H Q) (AtQ B n E H Q (.exit id)) := ⟨CT.exit⟩
instance : Nx (CT B P n (.block id c) E H Q) (CT B P n c E H (Exit.inBlock id Q)) := ⟨CT.block⟩
instance : Nx (AtQ B n' E H (Then n P c Q) (.exit id)) (AtQ B n' E H Q (.exit id)) := ⟨A1⟩
instance : Nx (AtQ B n' E H (Then n P c Q) .ret) (AtQ B n' E H Q .ret) := ⟨A2⟩
section
variable {α : Type} {f : α → Env} {g : α → List HP} {μ : α → Nat} {z : α}
instance : Nx (AtQ B n' E H (LoopQ B n f g μ z Q) (.exit id)) (AtQ B n' E H Q (.exit id)) := ⟨A3⟩
instance : Nx (AtQ B n' E H (LoopQ B n f g μ z Q) .ret) (AtQ B n' E H Q .ret) := ⟨A4⟩
end
section
variable {α : Sort _} {f : α → Env} {g : α → List HP}
instance : Nx (AtQ B n' E H (CutQ B n f g Q) (.exit id)) (AtQ B n' E H Q (.exit id)) := ⟨A5⟩
instance : Nx (AtQ B n' E H (CutQ B n f g Q) .ret) (AtQ B n' E H Q .ret) := ⟨A6⟩
end
instance : Nx (AtQ B n E H (Exit.inBlock id Q) .normal) (AtQ B n E H Q .normal) := ⟨A7⟩
instance : Nx (AtQ B n E H (Exit.inBlock id Q) .ret) (AtQ B n E H Q .ret) := ⟨A8⟩
end
end Go.Sk
end
section
namespace Go.Sk
open Go.RowKit

/-! ### a struct's literal -/
def setL : List Value → Nat → Value → Option (List Value)
 | [], _, _ => none
 | _ :: l, 0, v => some (v :: l)
 | x :: l, k + 1, v => match setL l k v with
  | some l' => some (x :: l')
  | none => none
theorem setL_spec : ∀ {l l' : List Value} {k : Nat} {v : Value}, setL l k v = some l' → l' = l.set k v ∧ k < l.length
 | x :: l, l', 0, v, h => by cases h; simp
 | x :: l, l', k + 1, v, h => by
  simp only [setL] at h
  split at h
  ·rename_i l2 h2
   cases h
   obtain ⟨rfl, hk⟩ := setL_spec h2
   simp [hk]
  ·cases h
/-- The cells of a literal: each part of one cell. -/
def buildL (E : Env) (pl : List (Nat × Nat)) : List (Nat × Operand) → List Value → Option (List Value)
 | [], cells => some cells
 | (i, x) :: ps, cells => match pl[i]? with
  | some (off, 1) => match ev E x with
   | some v => match one1 v with
    | true => match setL cells off v with
     | some cells' => buildL E pl ps cells'
     | none => none
    | false => none
   | none => none
  | _ => none
/-- The cells of a slice's literal, its elements of one cell each, in their order. -/
def rowL (E : Env) : Nat → List (Nat × Operand) → Option (List Value)
 | _, [] => some []
 | k, (i, x) :: ps => match Nat.beq i k with
  | true => match ev E x with
   | some v => match one1 v with
    | true => match rowL E (k + 1) ps with
     | some l => some (v :: l)
     | none => none
    | false => none
   | none => none
  | false => none

section
variable {B : World} {P : Program} {n : Fm} {m : Bool} {l0 rest : List Oper} {E : Env} {H R : List HP} {Q : Exit → Act → World → Prop} (T : Tab P)
variable {d : Nat} {ty : TypeId} {pos : String} {af : Array Edge} {g : Option (Nat × Bool)} {x y : Operand} {t : TypeId}

theorem fold1 (v : Value) (h : one1 v = true) (off : Nat) (cells : Array Value) :
  v.cells.zipIdx.foldl (fun cs (c, j) => cs.setIfInBounds (off + j) c) cells = cells.setIfInBounds off v := by
 rw [one1_cells h]; simp
theorem fold1' (v : Value) (h : one1 v = true) (off : Nat) (cells : Array Value) :
  Array.foldl (fun cs x => cs.setIfInBounds (off + x.snd) x.fst) cells v.cells.zipIdx = cells.setIfInBounds off v := fold1 v h off cells
theorem buildL_fill {pl : List (Nat × Nat)} {a : Act} (hA : Agr n E a) :
  ∀ (ps : List (Nat × Operand)) (cells l : List Value), buildL E pl ps cells = some l →
   Instr.fill (fun i => pl[i]?) cells.toArray (ps.map fun (i, x) => (i, a.eval x)) = some l.toArray
 | [], cells, l, h => by cases h; rfl
 | (i, x) :: ps, cells, l, h => by
  simp only [buildL] at h
  split at h
  ·rename_i off hp
   split at h
   ·rename_i v hv
    split at h
    ·rename_i h1
     split at h
     ·rename_i cells' hs
      obtain ⟨rfl, hk⟩ := setL_spec hs
      have ih := buildL_fill hA ps _ l h
      simp only [List.map_cons, Instr.fill, hp, hA.ev hv]
      have hc : v.cells.size = 1 := by rw [one1_cells h1]; rfl
      rw [if_neg (by simp [hc]; omega)]
      rw [fold1' v h1]
      simpa using ih
     ·cases h
    ·cases h
   ·cases h
  ·cases h
theorem y_build {parts : List (Nat × Operand)} {pl : List (Nat × Nat)} {cells l : List Value} (hz : al T.zers t = some (.agg cells.toArray)) (hp : al T.plcs t = some pl) (hl : buildL E pl parts cells = some l) :
  Yld B P n E H (.build t parts.toArray) ty (.agg l.toArray) :=
 y_run fun o a w ho _ hA _ => by
  have hz' := T.zer hz
  have hp' := T.plc hp
  unfold zerB at hz'
  unfold plB at hp'
  cases hi : P.info? t with
  | none => simp [hi] at hz'
  | some it =>
   simp only [hi, Option.bind_some] at hz'
   split at hp'
   ·rename_i fs hu
    have hb : P.built t (parts.map fun (i, x) => (i, a.eval x)) = some l.toArray := by
     unfold Program.built
     simp only [hi, hu, hz', hp', Value.cells]
     have := buildL_fill hA parts cells l hl
     simpa using this
    unfold execOp
    have hr := run_build w t (parts.toArray.map fun (i, x) => (i, a.eval x)) l.toArray (by simpa using hb)
    simp only [ho, Sem.run_bind, hr, Result.andThen_ok, Sem.run_pure]
   ·cases hp'

/-! ### a slice's literal -/
theorem rowL_spec {a : Act} (hA : Agr n E a) : ∀ (ps : List (Nat × Operand)) (k : Nat) (l : List Value), rowL E k ps = some l →
  l.length = ps.length ∧ (∀ v ∈ l, one1 v = true) ∧ ∀ (cells : Array Value), k + ps.length ≤ cells.size → Instr.fill (fun i => some (i * 1, 1)) cells (ps.map fun (i, x) => (i, a.eval x)) = some (cells.toList.take k ++ l ++ cells.toList.drop (k + ps.length)).toArray
 | [], k, l, h => by
  cases h
  exact ⟨rfl, fun v hv => (by cases hv), fun cells _ => (by simp [Instr.fill])⟩
 | (i, x) :: ps, k, l, h => by
  simp only [rowL] at h
  split at h
  ·rename_i hb
   rw [Nat.beq_eq] at hb
   subst hb
   split at h
   ·rename_i v hv
    split at h
    ·rename_i h1
     split at h
     ·rename_i l' hl'
      cases h
      obtain ⟨e1, e2, e3⟩ := rowL_spec hA ps (i + 1) l' hl'
      refine ⟨by simp [e1], fun u hu => ?_, fun cells hc => ?_⟩
      ·rcases List.mem_cons.1 hu with rfl | hu
       ·exact h1
       ·exact e2 u hu
      ·have hc1 : v.cells.size = 1 := by rw [one1_cells h1]; rfl
       simp only [List.map_cons, Instr.fill, hA.ev hv, List.length_cons] at hc ⊢
       rw [if_neg (by simp [hc1]; omega), fold1' v h1, e3 _ (by simp; omega)]
       congr 1
       simp only [Nat.mul_one, Array.toList_setIfInBounds]
       rw [List.drop_set_of_lt (by omega), List.take_succ_eq_append_getElem (by simp; omega), List.take_set_of_le (Nat.le_refl _), List.getElem_set_self]
       simp [Nat.add_assoc, Nat.add_comm 1]
     ·cases h
    ·cases h
   ·cases h
  ·cases h
theorem run_bs {w : World} {t e z bb : Nat} {z0 : Value} {vs : List (Nat × Value)} {l : List Value} (ht : slcB P t = some (e, z, bb)) (hz : zerB P e = some z0) (h1 : z = 1) (hl : l.length ≤ 16777216)
  (hf : ∀ cells : Array Value, cells.size = l.length → Instr.fill (fun i => some (i * 1, 1)) cells vs = some l.toArray) :
  (Instr.buildSlice t l.length vs.toArray).run P w = .ok (.slice (some ⟨w.heap.size, 0, none⟩) l.length l.length) (w.alloc (.cells l.toArray e)) := by
 obtain ⟨hu, i, hi, hsz, _⟩ := slcB_spec ht
 subst h1
 have hs : (sizeOf e).run P w = .ok 1 w := run_sizeB (by simp [sizeB, hi, hsz])
 have hz1 := zerB_spec (P := P) (w := w) hz
 have hbig : ¬ (l.length * 1 > 2 ^ 24) := by omega
 simp only [Instr.buildSlice, Sem.run_bind, run_underlying hu, Result.andThen_ok, hs, if_neg hbig, Sem.run_pure]
 by_cases h0 : l.length * 1 = 0
 ·simp only [h0, if_true, Sem.run_pure, Result.andThen_ok]
  have := hf (Array.map (fun x => (#[] : Array Value)[x % (#[] : Array Value).size]!) (Array.range 0)) (by simp; omega)
  have hp : (pure #[] : Sem (Array Value)).run P w = .ok #[] w := rfl
  simp only [Sem.run_bind, hp, Result.andThen_ok]
  rw [this]
  simp only [newRow, Sem.run_bind]
  rfl
 ·simp only [h0, if_false, Sem.run_bind, hz1, Result.andThen_ok, Sem.run_pure]
  have := hf (Array.map (fun x => z0.cells[x % z0.cells.size]!) (Array.range (l.length * 1))) (by simp)
  simp only [this, newRow, Sem.run_bind]
  rfl
/-- A slice's literal: an owned slice. -/
theorem RT.bs {e bb k : Nat} {z0 : Value} {parts : List (Nat × Operand)} {l : List Value} (hl : rowL E 0 parts = some l) (hk : l.length = k) (ht : al T.slcs t = some (e, 1, bb)) (hz : al T.zers e = some z0) (hlen : Nat.ble k 16777216 = true) (hw : wt l0 E g = some true) (hd : Nat.blt d n = true)
  (kt : ∀ a c, k ≤ c → RT B P n true l0 rest ((d, .slice a k c) :: E) (Own a c e 1 k l :: H) Q) : RT B P n true l0 (⟨some d, .buildSlice t k parts.toArray, ty, pos, af, g⟩ :: rest) E H Q :=
 RT.eff hw fun o aa w K ho _ hdd hA hS hK => by
  subst hk
  have hle : l.length ≤ 16777216 := by simpa [Nat.ble_eq] using hlen
  obtain ⟨e1, _, e3⟩ := rowL_spec hA parts 0 l hl
  have hrun := run_bs (P := P) (w := w) (vs := parts.map fun (i, x) => (i, aa.eval x)) (l := l) (T.slc ht) (T.zer hz) rfl hle (fun cells hc => by
   rw [e3 cells (by omega)]
   simp only [List.take_zero, List.nil_append, Nat.zero_add]
   rw [List.drop_eq_nil_of_le (by simp; omega), List.append_nil])
  unfold Oper.wp execOp
  have hm : (parts.toArray.map fun (i, x) => (i, aa.eval x)) = (parts.map fun (i, x) => (i, aa.eval x)).toArray := by simp
  simp only [ho, Sem.run_bind]
  rw [hm, hrun]
  simp only [Result.andThen_ok, Sem.run_pure, Oper.upon, hdd]
  refine hK _ _ (kt _ _ (Nat.le_refl _) _ _ (hA.put (by simpa [Nat.blt_eq] using hd) _) (hS.new rfl rfl rfl rfl fun h _ hb => ?_))
  exact ⟨by simp, Nat.le_refl _, by unfold maxLen; omega, .inr ⟨_, _, rfl, hb, by simp, by simp⟩⟩
theorem RT.build {parts : List (Nat × Operand)} {pl : List (Nat × Nat)} {cells l : List Value} (hz : al T.zers t = some (.agg cells.toArray)) (hp : al T.plcs t = some pl) (hl : buildL E pl parts cells = some l) (hw : wt l0 E g = some true) (hd : Nat.blt d n = true)
  (k : RT B P n m l0 rest ((d, .agg l.toArray) :: E) H Q) : RT B P n m l0 (⟨some d, .build t parts.toArray, ty, pos, af, g⟩ :: rest) E H Q :=
 RT.y hw (by simpa [Nat.blt_eq] using hd) (y_build T hz hp hl) k

/-! ### a slice against nil -/
theorem knd_slice {t : Nat} (h : knd P t = some 4) : ∃ e, P.underlying t = some (.slice e) := by
 unfold knd at h
 split at h
 ·split at h <;> simp at h
 all_goals first | (rename_i e hu; exact ⟨e, hu⟩) | (simp at h; done) | cases h
theorem run_snil {w : World} {t e : TypeId} (hu : P.underlying t = some (.slice e)) (a : Option Addr) (k c : Nat) : (Op.equal t (.slice a k c) (.slice none 0 0)).run P w = .ok a.isNone w :=
 run_eqv fun d => by
  cases a <;> (simp only [Op.equalIn, Sem.run_bind, run_underlying hu, Result.andThen_ok]; rfl)
theorem y_snil {t' : TypeId} {a : Option Addr} {k c : Nat} (ht : al T.kinds t = some 4) (hx : ev E x = some (.slice a k c)) (hy : ev E y = some (.slice none 0 0)) :
  Yld B P n E H (.binOp .eql t x y t') ty (.bool a.isNone) :=
 y_run fun o aa w ho _ hA _ => by
  obtain ⟨e, hu⟩ := knd_slice (T.kind ht)
  have h1 : binOp .eql t (.slice a k c) (.slice none 0 0) = (do pure (.bool (← Op.equal t (.slice a k c) (.slice none 0 0)))) := rfl
  have h2 : eqGuard .eql t x y (.slice a k c) (.slice none 0 0) = pure () := rfl
  unfold execOp
  simp only [ho, hA.ev hx, hA.ev hy, h1, h2, Sem.run_bind, Sem.run_pure, Result.andThen_ok, run_snil hu]
theorem RT.snil {t' : TypeId} {a : Option Addr} {k c : Nat} (hx : ev E x = some (.slice a k c)) (hy : ev E y = some (.slice none 0 0)) (ht : al T.kinds t = some 4) (hw : wt l0 E g = some true) (hd : Nat.blt d n = true)
  (k1 : a = none → RT B P n m l0 rest ((d, .bool true) :: E) H Q) (k2 : a.isSome = true → RT B P n m l0 rest ((d, .bool false) :: E) H Q) : RT B P n m l0 (⟨some d, .binOp .eql t x y t', ty, pos, af, g⟩ :: rest) E H Q := by
 refine RT.y hw (by simpa [Nat.blt_eq] using hd) (y_snil T ht hx hy) ?_
 cases a with
 | none => exact k1 rfl
 | some ad => exact k2 rfl

/-! ### a store into an owned slice -/
/-! ### division, a byte of a text -/
theorem RT.quo {t' : TypeId} {k : IntKind} {i j r : Int} (hx : ev E x = some (.int k i)) (hy : ev E y = some (.int k j)) (h0 : j ≠ 0) (hr : k.wrap (i.tdiv j) = r) (hw : wt l0 E g = some true) (hd : Nat.blt d n = true)
  (kt : RT B P n m l0 rest ((d, .int k r) :: E) H Q) : RT B P n m l0 (⟨some d, .binOp .quo t x y t', ty, pos, af, g⟩ :: rest) E H Q :=
 RT.y hw (by simpa [Nat.blt_eq] using hd) (y_quo hx hy h0 hr) kt
theorem RT.rem {t' : TypeId} {k : IntKind} {i j r : Int} (hx : ev E x = some (.int k i)) (hy : ev E y = some (.int k j)) (h0 : j ≠ 0) (hr : i.tmod j = r) (hw : wt l0 E g = some true) (hd : Nat.blt d n = true)
  (kt : RT B P n m l0 rest ((d, .int k r) :: E) H Q) : RT B P n m l0 (⟨some d, .binOp .rem t x y t', ty, pos, af, g⟩ :: rest) E H Q :=
 RT.y hw (by simpa [Nat.blt_eq] using hd) (y_rem hx hy h0 hr) kt
theorem RT.shr {t' : TypeId} {k k' : IntKind} {i j r : Int} (hx : ev E x = some (.int k i)) (hy : ev E y = some (.int k' j)) (h0 : 0 ≤ j) (hr : i.fdiv (2 ^ (min j.toNat k.bits)) = r) (hw : wt l0 E g = some true) (hd : Nat.blt d n = true)
  (kt : RT B P n m l0 rest ((d, .int k r) :: E) H Q) : RT B P n m l0 (⟨some d, .binOp .shr t x y t', ty, pos, af, g⟩ :: rest) E H Q :=
 RT.y hw (by simpa [Nat.blt_eq] using hd) (y_shr hx hy h0 hr) kt
theorem RT.neg {ty' : TypeId} {k : IntKind} {i r : Int} (hx : ev E x = some (.int k i)) (hr : k.wrap (0 - i) = r) (hw : wt l0 E g = some true) (hd : Nat.blt d n = true)
  (kt : RT B P n m l0 rest ((d, .int k r) :: E) H Q) : RT B P n m l0 (⟨some d, .unOp .neg ty' x, ty, pos, af, g⟩ :: rest) E H Q :=
 RT.y hw (by simpa [Nat.blt_eq] using hd) (y_neg hx hr) kt
theorem y_ixs {s : ByteArray} {k : IntKind} {i : Int} {b : UInt8} (ht : al T.kinds t = some 2) (hx : ev E x = some (.string s)) (hy : ev E y = some (.int k i)) (h0 : 0 ≤ i) (hb : s.data.toList[i.toNat]? = some b) :
  Yld B P n E H (.index t x y) ty (.int .u8 b.toNat) :=
 y_run fun o aa w ho _ hA _ => by
  have hu : P.underlying t = some .string := by
   have := T.kind ht
   unfold knd at this
   split at this
   ·split at this <;> simp at this
   all_goals first | (rename_i hu; exact hu) | (simp at this; done) | cases this
  have hb' : s[i.toNat]? = some b := by
   have hlt : i.toNat < s.size := by have := (List.getElem?_eq_some_iff.1 hb).1; simpa using this
   have hval : s[i.toNat] = b := by have := (List.getElem?_eq_some_iff.1 hb).2; rw [← this]; rfl
   rw [getElem?_pos s i.toNat hlt, hval]
  unfold execOp
  simp only [ho, hA.ev hx, hA.ev hy, Instr.index, asIntOf, Sem.run_bind, Sem.run_pure, Result.andThen_ok, run_underlying hu, h0, if_true, hb']
end
end Go.Sk
end
section
namespace Go.Sk
open Go.RowKit
theorem ints_one (k : IntKind) (l : List Int) : ∀ u ∈ ints k l, u.oneCell' = true := fun u hu => by
 obtain ⟨x, _, rfl⟩ := List.mem_map.1 hu
 rfl
theorem one_one {v : Value} (h : one1 v = true) : v.oneCell' = true := by cases v <;> first | rfl | cases h
theorem ints_push {k : IntKind} {l : List Int} {v : Int} : ints k l ++ [.int k v] = ints k (l ++ [v]) := by simp [ints]
theorem ints_app {k : IntKind} {l l' : List Int} : ints k l ++ ints k l' = ints k (l ++ l') := by simp [ints]
theorem ints_sub {k : IntKind} {l : List Int} {i j : Nat} : ((ints k l).drop (i * 1)).take (j * 1) = ints k ((l.drop i).take j) := by simp [ints]
section
variable {B : World} {P : Program} {n : Fm} {m : Bool} {l0 rest : List Oper} {E : Env} {H R : List HP} {Q : Exit → Act → World → Prop} (T : Tab P)
variable {d : Nat} {ty : TypeId} {pos : String} {af : Array Edge} {g : Option (Nat × Bool)} {x y : Operand} {t : TypeId} {c : Code}

theorem RT.fact {p : Prop} (hp : ∀ w, Sat B H w → p) (h : p → RT B P n true l0 rest E H Q) : RT B P n true l0 rest E H Q := fun a w hA hS => h (hp w hS) a w hA hS
theorem CT.fact {p : Prop} (hp : ∀ w, Sat B H w → p) (h : p → CT B P n c E H Q) : CT B P n c E H Q := fun a w hA hS => h (hp w hS) a w hA hS
theorem AtQ.fact {p : Prop} {ex : Exit} (hp : ∀ w, Sat B H w → p) (h : p → AtQ B n E H Q ex) : AtQ B n E H Q ex := fun a w hA hS => h (hp w hS) a w hA hS
theorem Sp.fact {p : Prop} {f : FuncId} {vs : List Value} {Pre : List HP} {Post : Value → List HP → Prop} (hp : ∀ w, Sat B (Pre ++ R) w → p) (h : p → Sp B P f vs R Pre Post) : Sp B P f vs R Pre Post := fun w hS => h (hp w hS) w hS
theorem Sp.mono {f : FuncId} {vs : List Value} {Pre : List HP} {Post Post' : Value → List HP → Prop} (h : Sp B P f vs R Pre Post) (hm : ∀ v H', Post v H' → Post' v H') : Sp B P f vs R Pre Post' :=
 fun w hS => (h w hS).mono fun _ _ ⟨v, H', a, b, c⟩ => ⟨v, H', a, hm _ _ b, c⟩
theorem ev_other {E : Env} {d : Nat} {u v : Value} {x : Operand} (hu : u = undef) (h : ev ((d, u) :: E) x = some v) (hv : ∀ l, v ≠ .tuple l) (u' : Value) : ev ((d, u') :: E) x = some v := by
 cases x with
 | tmp t =>
  simp only [ev, lk] at h ⊢
  cases hb : Nat.beq d t with
  | true => rw [hb] at h; simp only [cond_true, Option.some.injEq] at h; subst h; exact absurd hu (hv _)
  | false => rw [hb] at h; simpa using h
 | const w => exact h
 | global q => exact h
 | func q => exact h

/-- append(x, v): one element more. -/
theorem RT.push {d1 : Nat} {ty1 : TypeId} {pos1 : String} {af1 : Array Edge} {e by_ : Nat} {z : Value} {a : Option Addr} {c k : Nat} {xs : List Value} {v : Value} {H' : Option Addr → Nat → List HP}
  (hx : ev ((d1, undef) :: E) x = some (.slice a k c)) (hy : ev E y = some v) (h1 : one1 v = true) (ht : al T.slcs t = some (e, 1, by_))
  (hr : ∀ a' c', Rep H (Own a c e 1 k xs) (Own a' c' e 1 (k + 1) (xs ++ [v])) (H' a' c'))
  (hlen : k + 1 ≤ 140737488355328) (hby : (k + 1) * by_ ≤ 140737488355328) (hz : al T.zers e = some z) (hzs : z.cells.size = 1) (hd1 : Nat.blt d1 n = true) (hd : Nat.blt d n = true)
  (kk : ∀ a' c' b' c1, k + 1 ≤ c' → RT B P n true l0 rest ((d, .slice a' (k + 1) c') :: (d1, .slice b' 1 c1) :: E) (H' a' c') Q) :
  RT B P n true l0 (⟨some d1, .buildSlice t 1 #[(0, y)], ty1, pos1, af1, none⟩ :: ⟨some d, .call { callee := .builtin .append, args := #[x, .tmp d1], argTypes := #[t, t] }, ty, pos, af, none⟩ :: rest) E H Q := by
 refine RT.bs T (parts := [(0, y)]) (l := [v]) (by simp [rowL, hy, h1]) rfl ht hz rfl rfl hd1 (fun b' c1 hc1 => ?_)
 refine RT.app T (xs := xs) (ys := [v]) (H' := fun a' c' => Own b' c1 e 1 1 [v] :: H' a' c') (ev_other rfl hx (fun l => by simp) _) (by simp [ev, lk]) ht (fun a' c' => .t (hr a' c')) (Own.rd (R := H) .h rfl hc1) (fun u hu => by simp at hu; subst hu; exact one_one h1) hlen hby hz hzs rfl hd (fun a' c' hc => ?_)
 exact RT.weak (fun w h => h.tail) (kk a' c' b' c1 hc)
theorem RT.pushI {d1 : Nat} {ty1 : TypeId} {pos1 : String} {af1 : Array Edge} {e by_ : Nat} {z : Value} {a : Option Addr} {c k : Nat} {ki : IntKind} {l : List Int} {v : Int} {H' : Option Addr → Nat → List HP}
  (hx : ev ((d1, undef) :: E) x = some (.slice a k c)) (hy : ev E y = some (.int ki v)) (ht : al T.slcs t = some (e, 1, by_))
  (hr : ∀ a' c', Rep H (Own a c e 1 k (ints ki l)) (Own a' c' e 1 (k + 1) (ints ki (l ++ [v]))) (H' a' c'))
  (hlen : k + 1 ≤ 140737488355328) (hby : (k + 1) * by_ ≤ 140737488355328) (hz : al T.zers e = some z) (hzs : z.cells.size = 1) (hd1 : Nat.blt d1 n = true) (hd : Nat.blt d n = true)
  (kk : ∀ a' c' b' c1, k + 1 ≤ c' → RT B P n true l0 rest ((d, .slice a' (k + 1) c') :: (d1, .slice b' 1 c1) :: E) (H' a' c') Q) :
  RT B P n true l0 (⟨some d1, .buildSlice t 1 #[(0, y)], ty1, pos1, af1, none⟩ :: ⟨some d, .call { callee := .builtin .append, args := #[x, .tmp d1], argTypes := #[t, t] }, ty, pos, af, none⟩ :: rest) E H Q :=
 RT.push T hx hy rfl ht (fun a' c' => by rw [ints_push]; exact hr a' c') hlen hby hz hzs hd1 hd kk
/-- append(x, y...) of integers. -/
theorem RT.appI {e by_ : Nat} {z : Value} {a b : Option Addr} {c k m c2 : Nat} {ki : IntKind} {l l' : List Int} {H' : Option Addr → Nat → List HP}
  (hx : ev E x = some (.slice a k c)) (hy : ev E y = some (.slice b m c2)) (ht : al T.slcs t = some (e, 1, by_)) (hb : Rd B H b m c2 1 (ints ki l')) (hr : ∀ a' c', Rep H (Own a c e 1 k (ints ki l)) (Own a' c' e 1 (k + m) (ints ki (l ++ l'))) (H' a' c'))
  (hlen : k + m ≤ 140737488355328) (hby : (k + m) * by_ ≤ 140737488355328)
  (hz : al T.zers e = some z) (hzs : z.cells.size = 1) (hw : wt l0 E g = some true) (hd : Nat.blt d n = true)
  (kk : ∀ a' c', k + m ≤ c' → RT B P n true l0 rest ((d, .slice a' (k + m) c') :: E) (H' a' c') Q) :
  RT B P n true l0 (⟨some d, .call { callee := .builtin .append, args := #[x, y], argTypes := #[t, t] }, ty, pos, af, g⟩ :: rest) E H Q :=
 RT.app T hx hy ht (fun a' c' => by rw [ints_app]; exact hr a' c') hb (ints_one _ _) hlen hby hz hzs hw hd kk
theorem Own.rdI {a : Option Addr} {c : Nat} {e : TypeId} {k : Nat} {ki : IntKind} {l : List Int} (hs : Sel H (Own a c e 1 k (ints ki l)) R) (hl : l.length = k) (hc : k ≤ c) : Rd B H a k c 1 (ints ki l) :=
 Own.rd hs (by rw [ints_len, hl]; omega) hc
theorem Own.factsI {a : Option Addr} {c : Nat} {e : TypeId} {k : Nat} {ki : IntKind} {l : List Int} (hs : Sel H (Own a c e 1 k (ints ki l)) R) : ∀ w, Sat B H w → l.length = k ∧ k ≤ c ∧ c ≤ 9223372036854775807 := fun w hS => by
 obtain ⟨h1, h2, h3⟩ := Own.facts hS hs
 rw [ints_len] at h1
 unfold maxLen at h3
 exact ⟨by omega, h2, by omega⟩
theorem Rd.subI {a : Option Addr} {k c i j : Nat} {ki : IntKind} {l : List Int} (h : Rd B H a k c 1 (ints ki l)) (h1 : i ≤ j) (h2 : j ≤ k) : Rd B H (asub a c 1 i) (j - i) (c - i) 1 (ints ki ((l.drop i).take (j - i))) := by
 have := h.sub h1 h2
 rwa [ints_sub] at this
theorem Rd.lenI {a : Option Addr} {k c : Nat} {ki : IntKind} {l : List Int} (h : Rd B H a k c 1 (ints ki l)) : l.length = k := by
 have := h.len
 rw [ints_len] at this
 omega
end
end Go.Sk
namespace Go.Sk
section
variable {B : World} {P : Program} {n : Nat} {E : Env} {H R HH : List HP} {fn : Func} {v v0 v1 u1 v2 u2 : Value} {t t2 : Nat}
/-- The ends of functions whose contract tells the value and the pieces outright. -/
theorem AtQ.f0 (hr : fn.results = #[]) (hs : ∀ w, Sat B H w → Sat B (HH ++ R) w) {ex : Exit} (hex : ex = .normal ∨ ex = .ret) :
  AtQ B (.mk0 n) E H (FinQ B P fn R (fun u H' => u = .tuple #[] ∧ H' = HH)) ex := AtQ.fin0 hr ⟨rfl, rfl⟩ hs ex hex
theorem AtQ.f1 (hr : fn.results = #[.tmp t]) (he : lk E t = some v0) (hv : v0 = v) (hs : ∀ w, Sat B H w → Sat B (HH ++ R) w) :
  AtQ B (.mk0 n) E H (FinQ B P fn R (fun u H' => u = v ∧ H' = HH)) .ret := AtQ.fin1 hr he ⟨hv, rfl⟩ hs
theorem AtQ.f2 (hr : fn.results = #[.tmp t, .tmp t2]) (he : lk E t = some v1) (he2 : lk E t2 = some v2) (hv : v1 = u1) (hv2 : v2 = u2) (hs : ∀ w, Sat B H w → Sat B (HH ++ R) w) :
  AtQ B (.mk0 n) E H (FinQ B P fn R (fun u H' => u = .tuple #[u1, u2] ∧ H' = HH)) .ret := AtQ.fin2 hr he he2 ⟨by rw [hv, hv2], rfl⟩ hs
end
end Go.Sk
namespace Go.Sk
section
variable {B : World} {P : Program} {n : Fm} {m : Bool} {l0 rest : List Oper} {E : Env} {H R : List HP} {Q : Exit → Act → World → Prop} (T : Tab P)
variable {d : Nat} {ty : TypeId} {pos : String} {af : Array Edge} {g : Option (Nat × Bool)} {x y y' : Operand} {t : TypeId}
theorem RT.slhi {e z bb k c j : Nat} {a : Option Addr} {kk : IntKind} {i : Int} (hx : ev E x = some (.slice a k c)) (hy : ev E y = some (.int kk i)) (hi : i = j) (hj : j ≤ c) (ht : al T.slcs t = some (e, z, bb)) (hw : wt l0 E g = some true) (hd : Nat.blt d n = true)
  (kt : RT B P n m l0 rest ((d, .slice (asub a c z 0) j c) :: E) H Q) : RT B P n m l0 (⟨some d, .slice t x none (some y) none, ty, pos, af, g⟩ :: rest) E H Q := by
 subst hi
 exact RT.y hw (by simpa [Nat.blt_eq] using hd) (y_sl_hi T ht hx hy (by omega) (by omega)) kt
theorem RT.sllo {e z bb k c j : Nat} {a : Option Addr} {kk : IntKind} {i : Int} (hx : ev E x = some (.slice a k c)) (hy : ev E y = some (.int kk i)) (hi : i = j) (hj : j ≤ k) (ht : al T.slcs t = some (e, z, bb)) (hw : wt l0 E g = some true) (hd : Nat.blt d n = true)
  (kt : RT B P n m l0 rest ((d, .slice (asub a c z j) (k - j) (c - j)) :: E) H Q) : RT B P n m l0 (⟨some d, .slice t x (some y) none none, ty, pos, af, g⟩ :: rest) E H Q := by
 subst hi
 exact RT.y hw (by simpa [Nat.blt_eq] using hd) (y_sl_lo T ht hx hy (by omega) (by omega)) kt
theorem RT.sllh {e z bb k c j j' : Nat} {a : Option Addr} {kk kk' : IntKind} {i i' : Int} (hx : ev E x = some (.slice a k c)) (hy : ev E y = some (.int kk i)) (hy' : ev E y' = some (.int kk' i')) (hi : i = j) (hi' : i' = j') (hj : j ≤ j') (hj' : j' ≤ c) (ht : al T.slcs t = some (e, z, bb)) (hw : wt l0 E g = some true) (hd : Nat.blt d n = true)
  (kt : RT B P n m l0 rest ((d, .slice (asub a c z j) (j' - j) (c - j)) :: E) H Q) : RT B P n m l0 (⟨some d, .slice t x (some y) (some y') none, ty, pos, af, g⟩ :: rest) E H Q := by
 subst hi hi'
 exact RT.y hw (by simpa [Nat.blt_eq] using hd) (y_sl_lh T ht hx hy hy' (by omega) (by omega) (by omega)) kt
theorem Rd.subI0 {a : Option Addr} {k c j : Nat} {ki : IntKind} {l : List Int} (h : Rd B H a k c 1 (ints ki l)) (h2 : j ≤ k) : Rd B H (asub a c 1 0) j c 1 (ints ki (l.take j)) := by
 have := h.subI (Nat.zero_le j) h2
 simpa using this
end
end Go.Sk
namespace Go.Sk
theorem RT.env {B : World} {P : Program} {n : Fm} {m : Bool} {l0 rest : List Oper} {E E' : Env} {H : List HP} {Q : Exit → Act → World → Prop} (hs : subB E E') (h : RT B P n m l0 rest E' H Q) : RT B P n m l0 rest E H Q := by
 cases m
 ·exact fun a hA => h a (hA.sub hs.sub)
 ·exact fun a w hA hS => h a w (hA.sub hs.sub) hS
/-- Is it an append of one element? -/
theorem RT.isPush {B : World} {P : Program} {n : Fm} {l0 rest : List Oper} {E : Env} {H : List HP} {Q : Exit → Act → World → Prop} {d d1 : Nat} {t t2 t3 ty ty1 : TypeId} {pos pos1 : String} {af af1 : Array Edge} {x y z : Operand} {k : Nat}
  (h : RT B P n true l0 (⟨some d1, .buildSlice t k #[(0, y)], ty1, pos1, af1, none⟩ :: ⟨some d, .call { callee := .builtin .append, args := #[x, z], argTypes := #[t2, t3] }, ty, pos, af, none⟩ :: rest) E H Q) :
  RT B P n true l0 (⟨some d1, .buildSlice t k #[(0, y)], ty1, pos1, af1, none⟩ :: ⟨some d, .call { callee := .builtin .append, args := #[x, z], argTypes := #[t2, t3] }, ty, pos, af, none⟩ :: rest) E H Q := h
end Go.Sk
end
section
namespace Go.Sk
/-! Short ways to write the walk's steps down: what stands behind a step is asked for, the step itself is looked for. -/
theorem gv {P Q : Prop} (q : Q) (h : Q → P := by
 intro q
 first
 | ((first | refine vc_id ?_ | (refine RT.id ?_; refine RT.c T ?_)); (conv => whnf); exact q)
 | fail) : P := h q
theorem gk {P Q : Prop} (q : Q) (h : Q → P := by
 first
 | (refine num_k ?_ ?_ <;> omega)
 | fail) : P := h q
theorem gs {P Q : Prop} (q : Q) (h : Q → P := by
 intro q
 first
 | (refine RT.id ?_; first
  | (refine RT.nil ?_; exact q)
  | (apply RT.ld T; exact rfl; (focus ((repeat constructor); done)); (iterate 4 exact rfl); exact q)
  | (apply RT.st T; (iterate 3 exact rfl); (focus ((repeat constructor); done)); (focus repeat constructor); (iterate 2 exact rfl); exact q)
  | (refine RT.build T rfl rfl rfl rfl rfl ?_; exact q)
  | (apply RT.lens T; (iterate 4 exact rfl); exact q))
 | (refine AtQ.id_ ?_; first
  | (refine nx ?_; exact q)
  | (refine A0 ?_; exact q)
  | (refine A9 ?_; exact q)
  | (refine AtQ.in_ne rfl ?_; exact q))
 | fail) : P := h q
theorem gc {P Q : Prop} (q : Q) (h : Q → P := by
 intro q
 first
 | (refine CT.id_ ?_; first
  | (refine nx ?_; exact q)
  | (refine CT.region ?_; exact q)
  | (refine CT.quiet mixed (by kernel_rfl) ?_; exact q)
  | (refine CT.cond_t rfl ?_; exact q)
  | (refine CT.cond_f rfl ?_; exact q))
 | fail) : P := h q
theorem gb {P Q : Prop} (q : Q) (h : Q → P := by
 intro q
 first
 | (refine RT.id ?_; (first | apply RT.box | apply RT.alloc T); (iterate 4 exact rfl); exact q)
 | fail) : P := h q
theorem gn {P Q : Prop} (q : Q) (h : Q → P := by
 intro q
 first
 | (refine RT.id ?_; (first | apply RT.pnil T | apply RT.pnnil T); (iterate 6 exact rfl); exact q)
 | fail) : P := h q
theorem gp {P Q : Prop} (q : Q) (h : Q → P := by
 first
 | exact RT.pushI T rfl rfl rfl (fun a' c' => by ((repeat constructor); done)) (by omega) (by omega) rfl rfl rfl rfl
 | fail) : P := h q
theorem gt {P Q : Prop} (q : Q) (h : Q → P := by
 intro q
 first
 | (refine RT.id ?_; first
  | (apply RT.staggW T; exact rfl; exact rfl; exact rfl; (focus ((repeat constructor); done)); (iterate 4 exact rfl); exact q)
  | (apply RT.ldagg T; exact rfl; (focus ((repeat constructor); done)); (iterate 4 exact rfl); exact q))
 | fail) : P := h q
theorem fR_ {P : Prop} (h : P := by repeat (first | exact Fr.nil | (apply Fr.cons; focus ((repeat constructor); done)))) : P := h
theorem sE_ {P : Prop} (h : P := by ((repeat constructor); done)) : P := h
theorem dR_ {P : Prop} (h : P := by (intro w h; repeat (first | exact h | replace h := h.tail))) : P := h
end Go.Sk
end
section
namespace Go.Sk
/-! What stands behind a straight row of steps is asked for; at least one step is made. -/
theorem gL {P Q : Prop} (q : Q) (h : Q → P := by
 intro q
 first | (refine gv ?_; refine RT.id ?_) | refine gs ?_ | refine gc ?_ | fail
 repeat (first | (refine gv ?_; refine RT.id ?_) | refine gs ?_ | refine gc ?_ | fail)
 exact q) : P := h q
theorem gM {P Q : Prop} (q : Q) (h : Q → P := by
 intro q
 first | (refine gv ?_; refine RT.id ?_) | refine gs ?_ | refine gt ?_ | refine gc ?_ | fail
 repeat (first | (refine gv ?_; refine RT.id ?_) | refine gs ?_ | refine gt ?_ | refine gc ?_ | fail)
 exact q) : P := h q
theorem gR {P Q : Prop} (q : Q) (h : Q → P := by
 intro q
 first | (refine gv ?_; refine RT.id ?_) | refine gs ?_ | (refine CT.id_ ?_; first | refine nx ?_ | refine CT.cond_t rfl ?_ | refine CT.cond_f rfl ?_) | fail
 repeat (first | (refine gv ?_; refine RT.id ?_) | refine gs ?_ | (refine CT.id_ ?_; first | refine nx ?_ | refine CT.cond_t rfl ?_ | refine CT.cond_f rfl ?_) | fail)
 exact q) : P := h q
theorem gQ {P Q : Prop} (q : Q) (h : Q → P := by
 intro q
 first | (refine gv ?_; refine RT.id ?_) | refine gs ?_ | (refine CT.id_ ?_; first | refine nx ?_ | refine CT.region ?_ | refine CT.cond_t rfl ?_ | refine CT.cond_f rfl ?_) | fail
 repeat (first | (refine gv ?_; refine RT.id ?_) | refine gs ?_ | (refine CT.id_ ?_; first | refine nx ?_ | refine CT.region ?_ | refine CT.cond_t rfl ?_ | refine CT.cond_f rfl ?_) | fail)
 exact q) : P := h q
theorem rD {P Q : Prop} (h : P) (k : P → Q := by (intro h; repeat (first | exact h | apply Rd.cons))) : Q := k h
end Go.Sk
end
section
namespace Go.Sk
open Go.RowKit

/-- Operations that hand back a value and leave the world alone, or fail. -/
def plainOp : Op → Bool
 | .move _ | .assign _ | .pick .. | .load .. | .binOp .. | .unOp .. | .convert .. | .slice .. | .fieldAddr .. | .field .. | .indexAddr .. | .index .. | .extract .. | .build .. => true
 | .nilCheck _ => true
 | .call c => match c.callee with
  | .builtin .len => true
  | .builtin .cap => true
  | _ => false
 | _ => false
section
variable {P : Program}
theorem v_val {s : Sem Value} {w w' : World} {r : Next} (hr : (do let x ← s; pure (Next.value x) : Sem Next).run P w = .ok r w') : ∃ v, r = .value v := by
 rw [Sem.run_bind] at hr
 cases h : s.run P w with
 | ok x w1 => rw [h] at hr; simp only [Result.andThen_ok, Sem.run_pure] at hr; cases hr; exact ⟨_, rfl⟩
 | halt x w1 => rw [h] at hr; simp [Result.andThen] at hr
theorem plain_val {o : Oper} (h : plainOp o.op = true) {ρ : Operand → Value} {w w' : World} {r : Next} (hr : (execOp ρ o).run P w = .ok r w') : ∃ v, r = .value v := by
 unfold execOp at hr
 cases ho : o.op <;> rw [ho] at h <;> simp only [plainOp] at h <;> try (cases h; done)
 all_goals simp only [ho] at hr
 case move => simp only [Sem.run_pure] at hr; cases hr; exact ⟨_, rfl⟩
 case assign => simp only [Sem.run_pure] at hr; cases hr; exact ⟨_, rfl⟩
 case pick c a b =>
  rw [Sem.run_bind] at hr
  cases h : (asBool (ρ c)).run P w with
  | ok x w1 => rw [h] at hr; simp only [Result.andThen_ok, Sem.run_pure] at hr; cases hr; exact ⟨_, rfl⟩
  | halt x w1 => rw [h] at hr; simp [Result.andThen] at hr
 case nilCheck x =>
  split at hr
  ·simp [runtimePanic, Sem.run] at hr
  ·simp [runtimePanic, Sem.run] at hr
  ·simp [runtimePanic, Sem.run] at hr
  ·split at hr
   ·simp [runtimePanic, Sem.run] at hr
   ·rw [Sem.run_bind] at hr
    revert hr
    generalize Sem.run P _ w = q
    intro hr
    cases q with
    | ok x w1 =>
     simp only [Result.andThen_ok] at hr
     rw [Sem.run_bind] at hr
     revert hr
     generalize Sem.run P _ w1 = q
     intro hr
     cases q with
     | halt x w1 => simp [Result.andThen] at hr
     | ok x w2 =>
     simp only [Result.andThen_ok] at hr
     split at hr
     ·simp [unsupported, Sem.run] at hr
     ·simp only [Sem.run_pure, Sem.run_bind, Result.andThen_ok] at hr; cases hr; exact ⟨_, rfl⟩
    | halt x w1 => simp [Result.andThen] at hr
   ·simp only [Sem.run_pure] at hr; cases hr; exact ⟨_, rfl⟩
  ·simp only [Sem.run_pure] at hr; cases hr; exact ⟨_, rfl⟩
 case call c =>
  cases hc : c.callee with
  | builtin b =>
   rw [hc] at h
   cases b <;> simp only at h <;> try (cases h; done)
   all_goals
    simp only [resolve, hc, Sem.run_bind, Sem.run_pure, Result.andThen_ok, invoke, builtin] at hr
    revert hr
    generalize Sem.run P _ w = q
    intro hr
    cases q with
    | ok x w1 => simp only [Result.andThen_ok] at hr; cases hr; exact ⟨_, rfl⟩
    | halt x w1 => simp [Result.andThen] at hr
  | invoke _ _ => rw [hc] at h; cases h
  | value _ => rw [hc] at h; cases h
 all_goals exact v_val hr

/-! ### whichever order is drawn: what must hold of the world as long as some operation has not come up -/
variable {ops : Array Oper} {Q : Exit → Act → World → Prop} {S : Array Bool → World → Prop}
def anyS (P : Program) (ops : Array Oper) (Q : Exit → Act → World → Prop) (S : Array Bool → World → Prop) : Nat → Array Bool → Act → World → Prop
 | 0, ls, a, w => Region.ready .any ops ls = [] ∧ Q .normal a w
 | k + 1, ls, a, w => (Region.ready .any ops ls = [] → Q .normal a w) ∧
  ∀ i ∈ Region.ready .any ops ls, wpOp P ops Q i (fun a' w' => S (ls.setIfInBounds i true) w' ∧ anyS P ops Q S k (ls.setIfInBounds i true) a' w') a w
theorem anyS_any : ∀ (k : Nat) (ls : Array Bool) (a : Act) (w : World), anyS P ops Q S k ls a w → wpAny P .any ops Q k ls a w
 | 0, _, _, _, h => h
 | k + 1, _, _, _, h => ⟨h.1, fun i hi => wpOp_mono (fun a' w' h' => anyS_any k _ a' w' h'.2) (h.2 i hi)⟩
/-- What has come up, all that it waits for has come up. -/
def Clos (ops : Array Oper) (ls : Array Bool) : Prop := ∀ j oj, ops[j]? = some oj → ls.getD j false = true → ∀ e ∈ oj.after, Region.binds .any e = true → ls.getD e.on false = true
theorem Clos.set {ls : Array Bool} {i : Nat} (h : Clos ops ls) (hi : i ∈ Region.ready .any ops ls) : Clos ops (ls.setIfInBounds i true) := by
 obtain ⟨_, oi, hoi, hall⟩ := mem_ready.1 hi
 intro j oj hj hl e he hb
 by_cases hij : i = j
 ·subst hij
  rw [hoi] at hj
  cases hj
  exact getD_set_true (hall e he hb)
 ·rw [getD_set_ne false hij] at hl
  exact getD_set_true (h j oj hj hl e he hb)
theorem Clos.none_ (k : Nat) : Clos ops (Array.replicate k false) := fun j _ _ hl => by
 rcases Nat.lt_or_ge j k with h | h <;> simp [h] at hl
def closB (ops : Array Oper) (ls : Array Bool) : Bool := (List.range ops.size).all fun j => match ops[j]? with
 | some oj => !ls.getD j false || oj.after.all fun e => !Region.binds .any e || ls.getD e.on false
 | none => true
theorem Clos.ofB {ls : Array Bool} (h : closB ops ls = true) : Clos ops ls := by
 intro j oj hj hl e he hb
 have h1 := List.all_eq_true.1 h j (List.mem_range.2 (Array.getElem?_eq_some_iff.1 hj).1)
 simp only [hj, hl, Bool.not_true, Bool.false_or] at h1
 have h2 := Array.all_eq_true'.1 h1 e he
 simpa [hb] using h2
/-- An operation that may come up and hands back v, come what may ahead of it, is taken first. -/
theorem anyS_first {T : World → Prop} {i : Nat} {oi : Oper} {v : Value} (hi : ops[i]? = some oi) (hsel : Region.noSelect ops = true) (hQ : ∀ c a w, ¬ Q (.panic c) a w)
  (hT : ∀ ls w, Clos ops ls → ls.getD i true = false → S ls w → T w) (hSi : ∀ ls w, S (ls.setIfInBounds i true) w → S ls w) (hSi' : ∀ ls w, S ls w → S (ls.setIfInBounds i true) w) :
  ∀ (k : Nat) (ls : Array Bool) (a : Act) (w : World), Clos ops ls →
   (∀ j oj, ops[j]? = some oj → j ≠ i → ls.getD j true = false → (∀ e ∈ oj.after, Region.binds .any e = true → e.on ≠ i) → oi.apart ops oj = true) →
   i ∈ Region.ready .any ops ls → YieldsIf P ops T oi v a → S ls w → anyS P ops Q S k (ls.setIfInBounds i true) (a.put oi.dst v) w → anyS P ops Q S (k + 1) ls a w := by
 have hno := Region.noSelect_spec hsel
 intro k
 induction k with
 | zero =>
  intro ls a w hc _ hr hy hS h
  refine ⟨fun e => (by rw [e] at hr; cases hr), fun j hj => ?_⟩
  have hji : j = i := by
   by_cases e : j = i
   ·exact e
   ·have := ready_mono hj e
    rw [h.1] at this
    cases this
  subst hji
  exact hy.wpOp hi (hT _ _ hc (mem_ready.1 hr).1 hS) ⟨hSi' _ _ hS, h⟩
 | succ k ih =>
  intro ls a w hc hfree hr hy hS h
  refine ⟨fun e => (by rw [e] at hr; cases hr), fun j hj => ?_⟩
  by_cases hji : j = i
  ·subst hji
   exact hy.wpOp hi (hT _ _ hc (mem_ready.1 hr).1 hS) ⟨hSi' _ _ hS, h⟩
  ·obtain ⟨hjun, oj, hoj, hall⟩ := mem_ready.1 hj
   have hiun := (mem_ready.1 hr).1
   have hnot : ∀ e ∈ oj.after, Region.binds .any e = true → e.on ≠ i := fun e he hb heq => by
    have h1 := hall e he hb
    rw [heq] at h1
    rcases Nat.lt_or_ge i ls.size with h' | h'
    ·simp [h'] at hiun h1; rw [hiun] at h1; cases h1
    ·simp [Array.getElem?_eq_none h'] at h1
   have h2 := wpOp_putIf hoj (hfree j oj hoj hji hjun hnot) (fun cs b => hno i oi cs b hi) (fun cs b => hno j oj cs b hoj) (fun c a w hq => absurd hq (hQ c _ w)) hy (h.2 j (ready_mono hj hji))
   refine wpOp_mono (fun a' w' h3 => ?_) h2
   have hS' : S (ls.setIfInBounds j true) w' := hSi _ _ (by rw [← Array.setIfInBounds_comm _ _ hji] at h3 <;> first | exact h3.2.1 | skip)
   refine ⟨hS', ih (ls.setIfInBounds j true) a' w' (hc.set hj) (fun l ol hol hli hun hno => ?_) (ready_mono hr (Ne.symm hji)) h3.1 hS' ?_⟩
   ·refine hfree l ol hol hli ?_ hno
    by_cases hjl : j = l
    ·subst hjl; exact hjun
    ·rw [getD_set_ne true hjl] at hun; exact hun
   ·rw [Array.setIfInBounds_comm _ _ hji]
    exact h3.2.2
/-- Each but the last is waited for by a later one. -/
def sinkB (ops : Array Oper) : List Nat → Bool
 | [] => true
 | i :: L => (L.isEmpty || L.any fun k => Region.waitsFor .any ops k i) && sinkB ops L
theorem sink_all {e : Nat} {ls : Array Bool} (hc : Clos ops ls) (he : ls.getD e false = true) : ∀ (L : List Nat), sinkB ops L = true → L.getLast? = some e → ∀ i ∈ L, ls.getD i false = true
 | [], _, h, _, _ => by cases h
 | [i], _, h, j, hj => by
  simp only [List.getLast?_singleton, Option.some.injEq] at h
  simp only [List.mem_singleton] at hj
  subst hj; subst h; exact he
 | i :: k :: L, hs, h, j, hj => by
  simp only [sinkB, Bool.and_eq_true] at hs
  have ih := sink_all hc he (k :: L) (by simp only [sinkB, Bool.and_eq_true]; exact hs.2) (by rw [List.getLast?_cons_cons] at h; exact h)
  rcases List.mem_cons.1 hj with rfl | hj
  ·have h1 := hs.1
   simp only [List.isEmpty_cons, Bool.false_or] at h1
   obtain ⟨y, hy, hw⟩ := List.any_eq_true.1 h1
   obtain ⟨oj, hoj, ed, hed, hb, heq⟩ := Region.waitsFor_spec hw
   have := hc y oj hoj (ih y hy) ed hed hb
   rwa [heq] at this
  ·exact ih j hj
def takesB (ops : Array Oper) (e : Nat) : Array Bool → List Nat → Bool
 | _, [] => true
 | ls, i :: L => (Region.ready .any ops ls).contains i && Region.free .any ops ls i && !(i == e) && ((ops[i]?).map fun o => plainOp o.op).getD false && takesB ops e (ls.setIfInBounds i true) L
def opsAt (l : List Oper) : List Nat → List Oper
 | [] => []
 | i :: L => match l[i]? with
  | some o => o :: opsAt l L
  | none => opsAt l L
def tick : Array Bool → List Nat → Array Bool
 | ls, [] => ls
 | ls, i :: L => tick (ls.setIfInBounds i true) L
theorem anyS_takes {B : World} {HR : List HP} {e : Nat} {l : List Oper} (hsel : Region.noSelect l.toArray = true) (hQ : ∀ c a w, ¬ Q (.panic c) a w) {k : Nat} (tl : List Nat) {K : Act → Prop} :
  ∀ (L : List Nat) (ls : Array Bool) (a : Act) (w : World), takesB l.toArray e ls L = true → sinkB l.toArray (L ++ tl) = true → (L ++ tl).getLast? = some e → Clos l.toArray ls →
   wpQuiet P l.toArray (Sat B HR) K (opsAt l L) a → Sat B HR w → (∀ a', K a' → anyS P l.toArray Q (fun ls w => ls.getD e false = false → Sat B HR w) k (tick ls L) a' w) →
   anyS P l.toArray Q (fun ls w => ls.getD e false = false → Sat B HR w) (L.length + k) ls a w
 | [], ls, a, w, _, _, _, _, hq, _, hk => by
  have := hk a hq
  rwa [List.length_nil, Nat.zero_add]
 | i :: L, ls, a, w, ht, hs, hl, hc, hq, hw, hk => by
  have hs' := hs
  simp only [takesB, Bool.and_eq_true, Bool.not_eq_true', beq_eq_false_iff_ne] at ht
  obtain ⟨⟨⟨⟨hr, hf⟩, hie⟩, hpl⟩, ht⟩ := ht
  cases ho : l[i]? with
  | none => simp [ho] at hpl
  | some o =>
   have ho' : l.toArray[i]? = some o := by simpa using ho
   rw [ho'] at hpl
   simp only [Option.map_some, Option.getD_some] at hpl
   have hri : i ∈ Region.ready .any l.toArray ls := by simpa using hr
   simp only [opsAt, ho, wpQuiet] at hq
   have hyk : ∃ v, YieldsIf P l.toArray (Sat B HR) o v a ∧ wpQuiet P l.toArray (Sat B HR) K (opsAt l L) (a.put o.dst v) := by
    split at hq
    ·rename_i hwt
     obtain ⟨v, hv, hn⟩ := hq
     refine ⟨v, .inl ⟨hwt, fun w' hw' => ?_⟩, hn⟩
     have h1 := hv w' hw'
     unfold Oper.quietAt at h1
     cases hr1 : (execOp a.eval o).run P w' with
     | halt x w2 => rw [hr1] at h1; exact h1.elim
     | ok x w2 =>
      obtain ⟨u, rfl⟩ := plain_val hpl hr1
      rw [hr1] at h1
      obtain ⟨rfl, rfl⟩ := h1
      rfl
    ·rename_i hwt
     exact ⟨undef, .inr ⟨by simpa using hwt, rfl⟩, hq⟩
   obtain ⟨v, hy, hn⟩ := hyk
   have hs2 : sinkB l.toArray (L ++ tl) = true := by
    simp only [List.cons_append, sinkB, Bool.and_eq_true] at hs
    exact hs.2
   have hne : L ++ tl ≠ [] := by
    intro h0
    rw [List.cons_append, h0] at hl
    simp only [List.getLast?_singleton, Option.some.injEq] at hl
    exact hie hl
   have hl2 : (L ++ tl).getLast? = some e := by
    rw [List.cons_append] at hl
    obtain ⟨y, M, hM⟩ := List.exists_cons_of_ne_nil hne
    rw [hM] at hl ⊢
    rwa [List.getLast?_cons_cons] at hl
   rw [List.length_cons, show L.length + 1 + k = (L.length + k) + 1 by omega]
   refine anyS_first (T := Sat B HR) ho' hsel hQ (fun ls' w' hc' hun hS => hS ?_) (fun ls' w' hS he => hS (by rw [getD_set_ne false hie]; exact he)) (fun ls' w' hS he => hS (by rw [getD_set_ne false hie] at he; exact he)) _ ls a w hc
    (Region.free_spec ho' hf) hri hy (fun _ => hw) (anyS_takes hsel hQ tl L _ _ w ht hs2 hl2 (hc.set hri) hn hw hk)
   cases hec : ls'.getD e false with
   | false => rfl
   | true =>
    have h1 := sink_all hc' hec _ hs' hl i (by simp)
    rcases Nat.lt_or_ge i ls'.size with h' | h'
    ·simp [h'] at hun h1; rw [hun] at h1; cases h1
    ·simp [Array.getElem?_eq_none h'] at h1
end

theorem Sat.ones {B : World} {H Ps R : List HP} {w : World} (f : Fr H Ps R) (s : Sat B H w) : Sat B Ps w := by
 obtain ⟨h, a, hs⟩ := (s.fr f).heap
 obtain ⟨h1, h2, _, l1, _, sA, _⟩ := star_split _ _ h hs
 exact { s with heap := ⟨h1, fun b o e => a b o (l1 b o e), sA⟩ }
section
variable {P : Program} {B : World} {n : Fm} {E : Env} {H HR : List HP} {Q : Exit → Act → World → Prop}
/-- Only the end without a panic. -/
def NoPan (Q : Exit → Act → World → Prop) : Exit → Act → World → Prop := fun ex a w => ex = .normal ∧ Q .normal a w
def SF (B : World) (HR : List HP) (e : Nat) : Array Bool → World → Prop := fun ls w => ls.getD e false = false → Sat B HR w
/-- A region whose order is open, so much of it having come up. HR holds till e has come up. -/
def DT (B : World) (P : Program) (n : Fm) (l : List Oper) (HR : List HP) (e : Nat) (k : Nat) (ls : Array Bool) (E : Env) (H : List HP) (Q : Exit → Act → World → Prop) : Prop :=
 ∀ a w, Agr n E a → Sat B H w → anyS P l.toArray (NoPan Q) (SF B HR e) k ls a w
theorem CT.drawn {id : Nat} {l : List Oper} (HR : List HP) (e : Nat) (hm : P.follows .mixedOrders = true) (h : DT B P n l HR e l.length (Array.replicate l.length false) E H Q) (hro : n.ro = none := by rfl) : CT B P n (.region id l.toArray true) E H Q := by
 intro a w hA hS
 rw [Fm.wide hro]
 refine wpIn_wide.2 ?_
 refine wp_mono (Q := NoPan Q) ?_ (fun ex a w ⟨h1, h2⟩ => by subst h1; exact h2)
 refine wp_region_any hm (anyS_any (S := SF B HR e) _ _ _ _ ?_)
 have := h a { w with drawn := w.drawn + 1 } hA (hS.drawn _)
 simpa using this
/-- What stands behind the operations that were taken first. -/
def TakeQ (B : World) (P : Program) (l : List Oper) (HR H : List HP) (e : Nat) (k : Nat) (ls : Array Bool) (Q : Exit → Act → World → Prop) : Exit → Act → World → Prop := fun ex a _ =>
 match ex with
 | .normal => ∀ w, Sat B H w → anyS P l.toArray (NoPan Q) (SF B HR e) k ls a w
 | _ => False
theorem DT.takes {l : List Oper} {e k : Nat} {ls : Array Bool} (L tl : List Nat) (hm : ∀ w, Sat B H w → Sat B HR w) (hsel : Region.noSelect l.toArray = true) (ht : takesB l.toArray e ls L = true) (hs : sinkB l.toArray (L ++ tl) = true)
  (hl : (L ++ tl).getLast? = some e) (hc : Clos l.toArray ls) (h : RT B P n false l (opsAt l L) E HR (TakeQ B P l HR H e k (tick ls L) Q)) : DT B P n l HR e (L.length + k) ls E H Q := by
 intro a w hA hS
 exact anyS_takes (B := B) (HR := HR) (Q := NoPan Q) hsel (fun c a w hq => by cases hq.1) tl L ls a w ht hs hl hc (h a hA) (hm w hS) (fun a' hk => hk w (hm w hS) w hS)
theorem AtQ.take {l : List Oper} {e k : Nat} {ls : Array Bool} (h : DT B P n l HR e k ls E H Q) : AtQ B n E HR (TakeQ B P l HR H e k ls Q) .normal := fun a _ hA _ w hS => h a w hA hS
/-- What stands behind an operation that turned the heap. -/
def EffQ (B : World) (P : Program) (l : List Oper) (HR : List HP) (e : Nat) (k : Nat) (ls : Array Bool) (Q : Exit → Act → World → Prop) : Exit → Act → World → Prop := fun ex a w =>
 match ex with
 | .normal => SF B HR e ls w ∧ anyS P l.toArray (NoPan Q) (SF B HR e) k ls a w
 | _ => False
theorem wpO_mono {o : Oper} {a : Act} {w : World} {K : Act → World → Prop} {Q Q' : Exit → Act → World → Prop} (hQ : ∀ c a w, Q (.panic c) a w → Q' (.panic c) a w) (hL : LetsOut Q → LetsOut Q') (h : o.wp P a w K Q) : o.wp P a w K Q' := by
 unfold Oper.wp at *
 generalize (execOp a.eval o).run P w = r at *
 cases r with
 | ok x w' =>
  cases x <;> simp only [Oper.upon] at h ⊢ <;> try exact h
  all_goals exact Calls.mono h (fun e w'' he => by
   cases e with
   | returned v => exact he
   | panicked c => exact hQ _ _ _ he
   | outgrown => exact hL he)
 | halt x w' => cases x <;> simp only [Oper.upon] at h ⊢ <;> first | exact h | exact hQ _ _ _ h
theorem DT.eff {l : List Oper} {e k : Nat} {ls : Array Bool} (i : Nat) {o : Oper} (ho : l[i]? = some o) (hr : Region.ready .any l.toArray ls = [i])
  (h : RT B P n true l [o] E H (EffQ B P l HR e k (ls.setIfInBounds i true) Q)) : DT B P n l HR e (k + 1) ls E H Q := by
 intro a w hA hS
 refine ⟨fun h0 => (by rw [hr] at h0; cases h0), fun j hj => ?_⟩
 rw [hr, List.mem_singleton] at hj
 subst hj
 have h1 := h a w hA hS
 have ho' : l.toArray[j]? = some o := by simpa using ho
 unfold wpOp
 simp only [ho']
 unfold wpN at h1
 split at h1
 ·rename_i hw
  rw [if_pos hw]
  ·exact .inl (wpO_mono (Q := EffQ B P l HR e k (ls.setIfInBounds j true) Q) (fun c a w hq => False.elim hq) (fun ⟨_, _, hq⟩ => False.elim hq) (Oper.wp_mono (fun a w hk => hk) h1))
 ·rename_i hw
  rw [if_neg hw]
  exact h1
theorem AtQ.eff {l : List Oper} {e k : Nat} {ls : Array Bool} (hm : ∀ w, Sat B H w → Sat B HR w) (h : DT B P n l HR e k ls E H Q) : AtQ B n E H (EffQ B P l HR e k ls Q) .normal := fun a w hA hS => ⟨fun _ => hm w hS, h a w hA hS⟩
theorem AtQ.eff' {l : List Oper} {e k : Nat} {ls : Array Bool} (he : ls.getD e false = true) (h : DT B P n l HR e k ls E H Q) : AtQ B n E H (EffQ B P l HR e k ls Q) .normal := fun a w hA hS => ⟨fun h0 => (by rw [he] at h0; cases h0), h a w hA hS⟩
theorem DT.done {l : List Oper} {e k : Nat} {ls : Array Bool} (hr : Region.ready .any l.toArray ls = []) (h : AtQ B n E H Q .normal) : DT B P n l HR e k ls E H Q := by
 intro a w hA hS
 cases k with
 | zero => exact ⟨hr, rfl, h a w hA hS⟩
 | succ k => exact ⟨fun _ => ⟨rfl, h a w hA hS⟩, fun i hi => by rw [hr] at hi; cases hi⟩
end
end Go.Sk
end
section
namespace Go.Sk
open Go.RowKit
theorem setCells_row {g : Nat} {e : TypeId} : ∀ (vs : List Value) (o : Nat) (w : World) (l : List Value), w.heap[g]? = some (.cells l.toArray e (0, 0)) → o + vs.length ≤ l.length →
  (w.setCells g o vs).heap[g]? = some (.cells (l.take o ++ vs ++ l.drop (o + vs.length)).toArray e (0, 0))
 | [], o, w, l, h, _ => by simpa [World.setCells] using h
 | v :: vs, o, w, l, h, hl => by
  simp only [List.length_cons] at hl
  rw [World.setCells, setCells_row vs (o + 1) _ (l.set o v) (setCell_heap h) (by simp; omega)]
  congr 3
  have h1 : (l.set o v).take (o + 1) = l.take o ++ [v] := by
   rw [List.take_add_one, List.take_set_of_le (Nat.le_refl _), List.getElem?_set]
   simp [show o < l.length by omega]
  have h2 : (l.set o v).drop (o + 1 + vs.length) = l.drop (o + (vs.length + 1)) := by
   rw [List.drop_set_of_lt (by omega), show o + 1 + vs.length = o + (vs.length + 1) by omega]
  rw [h1, h2]
  simp
theorem setCells_rest {g : Nat} : ∀ (vs : List Value) (o : Nat) (w : World), (w.setCells g o vs).os = w.os ∧ (w.setCells g o vs).output = w.output ∧ (w.setCells g o vs).tape = w.tape ∧ (w.setCells g o vs).heap.size = w.heap.size ∧ ∀ x, x ≠ g → (w.setCells g o vs).heap[x]? = w.heap[x]?
 | [], _, _ => ⟨rfl, rfl, rfl, rfl, fun _ _ => rfl⟩
 | v :: vs, o, w => by
  obtain ⟨a, b, c, d, e⟩ := setCells_rest vs (o + 1) (w.setCell ⟨g, o, none⟩ v)
  rw [World.setCells]
  exact ⟨a, b, c, d.trans (setCell_size _ _ _), fun x hx => (e x hx).trans (setCell_ne _ _ _ _ hx)⟩
section
variable {B : World} {P : Program} {n : Fm} {m : Bool} {l0 rest : List Oper} {E : Env} {H R : List HP} {Q : Exit → Act → World → Prop} (T : Tab P)
variable {d : Nat} {ty : TypeId} {pos : String} {af : Array Edge} {g : Option (Nat × Bool)} {x y : Operand} {t : TypeId} {c : Code}
theorem cell_row {w : World} {gb j : Nat} {e : TypeId} {l : List Value} (h : w.heap[gb]? = some (.cells l.toArray e (0, 0))) : w.cell? ⟨gb, j, none⟩ = l[j]? := by
 rw [cell_of_row w gb j l.toArray e (0, 0) h]; simp
theorem frozen_row {w : World} {gb j : Nat} {e : TypeId} {l : Array Value} (h : w.heap[gb]? = some (.cells l e (0, 0))) : w.frozen? ⟨gb, j, none⟩ = false := by
 unfold World.frozen?; simp [h]
/-- copy(x, y): y's cells are laid over a part of an owned row. -/
theorem RT.copy {b bS : Option Addr} {c k e by_ i kd cd m2 c2 r : Nat} {xs ys : List Value} {H' : List HP}
  (hx : ev E x = some (.slice (asub b c 1 i) kd cd)) (hy : ev E y = some (.slice bS m2 c2)) (hr : Rep H (Own b c e 1 k xs) (Own b c e 1 k (xs.take i ++ ys.take r ++ xs.drop (i + r))) H')
  (hrr : r = min m2 kd) (h0 : 0 < r) (hik : i + kd ≤ k) (hs : Rd B H bS m2 c2 1 ys) (hone : ∀ v ∈ ys.take r, v.oneCell' = true) (ht : al T.slcs t = some (e, 1, by_)) (hw : wt l0 E g = some true) (hd : Nat.blt d n = true)
  (kk : RT B P n true l0 rest ((d, .int .i64 r) :: E) H' Q) :
  RT B P n true l0 (⟨some d, .call { callee := .builtin .copy, args := #[x, y], argTypes := #[t, t] }, ty, pos, af, g⟩ :: rest) E H Q :=
 RT.eff hw fun o a w K ho hty hdd hA hS hK => by
  obtain ⟨R, s1, s2⟩ := hr.sel
  obtain ⟨hl, hkc, hcm⟩ := Own.facts hS s1
  obtain ⟨ad, rfl, hcells⟩ := hs.cells hS (by omega)
  have hyl := hs.1
  rcases Own.to_row hS s1 with ⟨_, _, rfl, _⟩ | ⟨gb, cur, rfl, hg, hbg, hcs, htk⟩
  ·omega
  ·have hsub : asub (some (⟨gb, 0, none⟩ : Addr)) c 1 i = some ⟨gb, i, none⟩ := by
    unfold asub
    rw [if_neg (by omega)]
    simp [addr_add]
   rw [hsub] at hx
   obtain ⟨hu, inf, hi, hisz, _⟩ := slcB_spec (T.slc ht)
   have hcur : cur = cur.toList.toArray := by simp
   have hg' : w.heap[gb]? = some (.cells cur.toList.toArray e (0, 0)) := by rw [← hcur]; exact hg
   have hcl : cur.toList.length = c := by rw [Array.length_toList, hcs]; omega
   have htl : (ys.take r).length = r := by rw [List.length_take, hyl]; omega
   have hrun := run_copy_cells (P := P) w t t ty e gb i kd cd ad m2 c2 (ys.take r) hu (by rw [hi]; simp [hisz]) (by rw [htl, hrr])
    (fun j v hj => hcells j v (by
     have := (List.getElem?_eq_some_iff.1 hj).1
     rw [htl] at this
     rwa [List.getElem?_take_of_lt this] at hj))
    (fun j hj => by rw [htl] at hj; rw [cell_row hg', List.getElem?_eq_getElem (by omega)]; rfl) (fun j _ => frozen_row hg) hone
   unfold Oper.wp execOp
   simp only [ho, hty, resolve, invoke, builtin, Sem.run_bind, Sem.run_pure, Result.andThen_ok, List.map_toArray, List.map_cons, List.map_nil, hA.ev hx, hA.ev hy, hrun]
   simp only [Oper.upon, hdd, htl]
   obtain ⟨q1, q2, q3, q4, q5⟩ := setCells_rest (g := gb) (ys.take r) i w
   refine hK _ _ (kk _ _ (hA.put (by simpa [Nat.blt_eq] using hd) _) ?_)
   refine hS.upd (b := gb) hr (fun h hh => ?_) (fun h h' hh hne hb => ?_) q1 q2 q3 q4 (setCells_row (ys.take r) i w cur.toList hg' (by omega)) q5
   ·obtain ⟨_, _, _, hp⟩ := hh
    rcases hp with ⟨h, _⟩ | ⟨g', cur', h, hgg, _⟩
    ·cases h
    ·cases h; exact ⟨_, hgg⟩
   ·refine ⟨?_, hkc, hcm, .inr ⟨gb, _, rfl, hb, ?_, ?_⟩⟩
    ·simp only [List.length_append, List.length_take, List.length_drop, hl, hyl]; omega
    ·simp only [List.size_toArray, List.length_append, List.length_take, List.length_drop, hcl, hyl]; omega
    ·rw [htl]
     simp only
     rw [← htk]
     simp only [Nat.mul_one, List.append_assoc]
     rw [List.take_append, List.take_append, List.take_take, List.length_take, hcl, htl, List.take_take, List.drop_take, List.take_take, show min k i = i by omega, show min i c = i by omega, show min i k = i by omega, show min (k - i) r = r by omega, show k - i - r = k - (i + r) by omega]
/-- More of an owned row is looked at. -/
theorem Sat.ownMore {a : Option Addr} {c k k' : Nat} {e : TypeId} {xs : List Value} {w : World} {H' : List Value → List HP} (hS : Sat B H w) (hk : k ≤ k') (hk' : k' ≤ c)
  (hr : ∀ ys, Rep H (Own a c e 1 k xs) (Own a c e 1 k' (xs ++ ys)) (H' ys)) : ∃ ys, ys.length = k' - k ∧ Sat B (H' ys) w := by
 obtain ⟨R, s1, _⟩ := (hr []).sel
 obtain ⟨hl, hkc, hcm⟩ := Own.facts hS s1
 rcases Own.to_row hS s1 with ⟨rfl, rfl, rfl, rfl⟩ | ⟨gb, cur, rfl, hg, hbg, hcs, htk⟩
 ·refine ⟨[], by simp; omega, hS.mono fun h hh => ?_⟩
  obtain ⟨R2, q1, q2⟩ := (hr []).sel
  refine q2.of _ (star_head_mono (fun h hp => ?_) (q1.to _ hh))
  have : k' = 0 := by omega
  subst this
  simpa using hp
 ·have hcl : cur.toList.length = c := by rw [Array.length_toList, hcs]; omega
  refine ⟨(cur.toList.drop k).take (k' - k), by simp [hcl]; omega, ?_⟩
  obtain ⟨R2, q1, q2⟩ := (hr ((cur.toList.drop k).take (k' - k))).sel
  obtain ⟨h, ha, h1, h2, dj, l1, l2, hp, hrr⟩ := (hS.sel q1).heap
  refine Sat.unsel q2 { hS with heap := ⟨h, ha, h1, h2, dj, l1, l2, ?_, hrr⟩ }
  obtain ⟨p1, p2, p3, p4⟩ := hp
  rcases p4 with ⟨h, _⟩ | ⟨g', cur', he, hgg, hcs', htk'⟩
  ·cases h
  ·cases he
   have hsame : cur' = cur := by
    have := (ha gb _ (l1 gb _ hgg)).1
    rw [hg] at this
    cases this
    rfl
   subst hsame
   refine ⟨by simp [hl, hcl]; omega, hk', p3, .inr ⟨gb, cur', rfl, hgg, hcs', ?_⟩⟩
   rw [← htk', Nat.mul_one, Nat.mul_one, ← List.take_add, show k + (k' - k) = k' by omega]
theorem Own.less {a : Option Addr} {c k k' : Nat} {e : TypeId} {xs : List Value} {h : PH} (hp : Own a c e 1 k xs h) (hk : k' ≤ k) : Own a c e 1 k' (xs.take k') h := by
 obtain ⟨p1, p2, p3, p4⟩ := hp
 refine ⟨by rw [List.length_take, p1]; omega, by omega, p3, ?_⟩
 rcases p4 with ⟨h1, h2⟩ | ⟨g, cur, h1, h2, h3, h4⟩
 ·exact .inl ⟨h1, h2⟩
 ·refine .inr ⟨g, cur, h1, h2, h3, ?_⟩
  rw [← h4, List.take_take]
  congr 1
  omega
theorem Sat.ownLess {a : Option Addr} {c k k' : Nat} {e : TypeId} {xs : List Value} {w : World} {H' : List HP} (hS : Sat B H w) (hk : k' ≤ k) (hr : Rep H (Own a c e 1 k xs) (Own a c e 1 k' (xs.take k')) H') : Sat B H' w := by
 obtain ⟨R, s1, s2⟩ := hr.sel
 exact Sat.unsel s2 ((hS.sel s1).mono fun h hh => star_head_mono (fun h hp => Own.less hp hk) hh)
theorem RT.get {α : Type} {p : α → Prop} {f : α → List HP} (hm : ∀ w, Sat B H w → ∃ z, p z ∧ Sat B (f z) w) (h : ∀ z, p z → RT B P n true l0 rest E (f z) Q) : RT B P n true l0 rest E H Q := fun a w hA hS =>
 let ⟨z, hz, hs⟩ := hm w hS
 h z hz a w hA hs
theorem CT.get {α : Type} {p : α → Prop} {f : α → List HP} (hm : ∀ w, Sat B H w → ∃ z, p z ∧ Sat B (f z) w) (h : ∀ z, p z → CT B P n c E (f z) Q) : CT B P n c E H Q := fun a w hA hS =>
 let ⟨z, hz, hs⟩ := hm w hS
 h z hz a w hA hs
/-- append(x, make(..)...) where x has no room: a new row. -/
theorem RT.appz {a : Option Addr} {c k e by_ j : Nat} {tn : TypeId} {kk kn : IntKind} {z : Value} {xs : List Value} {i : Int}
  (hx : ev E x = some (.slice a k c)) (hy : ev E y = some (.int kk i)) (hi : i = j) (hj : 0 < j) (hg : c < k + j) (ht : al T.slcs t = some (e, 1, by_)) (htn : al T.ints tn = some kn) (hR : Rd B H a k c 1 xs)
  (hlen : k + j ≤ 140737488355328) (hby : (k + j) * by_ ≤ 140737488355328) (hz : al T.zers e = some z) (hzs : z.cells.size = 1) (hw : wt l0 E g = some true) (hd : Nat.blt d n = true)
  (kt : ∀ a' c' zs, zs.length = j → k + j ≤ c' → RT B P n true l0 rest ((d, .slice a' (k + j) c') :: E) (Own a' c' e 1 (k + j) (xs ++ zs) :: H) Q) :
  RT B P n true l0 (⟨some d, .call { callee := .builtin .append, args := #[x, y], argTypes := #[t, tn] }, ty, pos, af, g⟩ :: rest) E H Q :=
 RT.eff hw fun o aa w K ho hty hdd hA hS hK => by
  subst hi
  obtain ⟨hu, inf, hi, hisz, hiby⟩ := slcB_spec (T.slc ht)
  have hzi : inf.zero = some z := by have := T.zer hz; simpa [zerB, hi] using this
  have hun : P.underlying tn = some (.int kn) := by
   have := T.int htn
   unfold intB at this
   split at this
   ·rename_i h; cases this; exact h
   ·cases this
  have hxl := hR.1
  have hold : (Builtin.firstCells inf.size k (.slice a k c)).run P w.drew = .ok xs.toArray w.drew := by
   rw [hisz]
   rcases Nat.eq_zero_or_pos k with hk | hk
   ·subst hk
    have : xs = [] := List.eq_nil_of_length_eq_zero (by simpa using hxl)
    subst this
    cases a <;> simp [Builtin.firstCells, loadCells, loadCellsFrom]
   ·obtain ⟨ad, rfl, hc⟩ := hR.cells hS hk
    exact run_firstCells_some w.drew 1 k ad k c xs (by omega) (fun j v hj => hc j v hj)
  have hrun := Go.Lib.run_append_grow_zeros (P := P) w t tn ty e inf z kk kn hu hun hi hzi a k c xs hold j hj (by omega) hg (by omega) (by rw [hiby]; have := Nat.mul_le_mul_right by_ (Nat.le_add_left j k); omega) (by rw [hiby]; exact growslice_fits hg hby)
  unfold Oper.wp execOp
  simp only [ho, hty, resolve, invoke, builtin, Sem.run_bind, Sem.run_pure, Result.andThen_ok, List.map_toArray, List.map_cons, List.map_nil, hA.ev hx, hA.ev hy, hrun]
  simp only [Oper.upon, hdd]
  have hge := grownCap_ge w (k + j) c e
  have hcm := grownCap_le_maxLen w (k + j) c e (by unfold maxLen; omega)
  have hzl : (Builtin.zeroCells z.cells j).toList.length = j := by rw [Array.length_toList, size_zeroCells, hzs]; omega
  refine hK _ _ (kt _ _ (Builtin.zeroCells z.cells j).toList hzl hge _ _ (hA.put (by simpa [Nat.blt_eq] using hd) _) ?_)
  refine Sat.new (w := w) hS rfl rfl rfl rfl fun h _ hb => ⟨by rw [List.length_append, hxl, hzl]; omega, hge, hcm, .inr ⟨_, _, rfl, hb, ?_, ?_⟩⟩
  ·simp only [Array.size_append, List.size_toArray, size_zeroCells, hzs, hxl]; omega
  ·simp only [Array.toList_append]
   have : (xs ++ (Builtin.zeroCells z.cells j).toList).length = (k + j) * 1 := by rw [List.length_append, hxl, hzl]; omega
   rw [← this]
   exact List.take_left
theorem exec_ext {f : FuncId} {w : World} {xs : List Operand} {vs : List Value} {ats : Array TypeId} {o : Oper} {aa : Act} {v : Value}
  (ho : o.op = .call { callee := .value (.func f), args := xs.toArray, argTypes := ats }) (hA : Agr n E aa) (hv : evs E xs = some vs) (hf : (callFunc f vs.toArray).run P w = .ok (.value v) w) : (execOp aa.eval o).run P w = .ok (.value v) w := by
 unfold execOp
 have hm : xs.map aa.eval = vs := hA.evs hv
 simp only [ho, resolve, Sem.run_bind, List.map_toArray, hm, Act.eval, Deferred.ofValue, Sem.run_pure, Result.andThen_ok, invoke]
 simpa using hf
/-- Two owned rows that have cells lie apart. -/
theorem Own.apart {R2 : List HP} {a1 a2 : Option Addr} {c1 c2 e1 e2 z1 z2 k1 k2 : Nat} {xs1 xs2 : List Value} {w : World} (hS : Sat B H w) (s1 : Sel H (Own a1 c1 e1 z1 k1 xs1) R) (s2 : Sel R (Own a2 c2 e2 z2 k2 xs2) R2) (h1 : 0 < k1) (h2 : 0 < k2) :
  ∃ g1 g2 cur1 cur2, g1 ≠ g2 ∧ a1 = some ⟨g1, 0, none⟩ ∧ a2 = some ⟨g2, 0, none⟩ ∧ w.heap[g1]? = some (.cells cur1 e1 (0, 0)) ∧ w.heap[g2]? = some (.cells cur2 e2 (0, 0)) ∧ cur1.size = c1 * z1 ∧ cur2.size = c2 * z2 := by
 obtain ⟨h, ha, p1, p2, dj, l1, l2, hp, hr⟩ := (hS.sel s1).heap
 obtain ⟨q1, q2, dj2, m1, m2, hq, hr2⟩ := s2.to _ hr
 obtain ⟨_, hk1, _, hp⟩ := hp
 obtain ⟨_, hk2, _, hq⟩ := hq
 rcases hp with ⟨_, rfl⟩ | ⟨g1, cur1, rfl, hg1, hc1, _⟩
 ·omega
 ·rcases hq with ⟨_, rfl⟩ | ⟨g2, cur2, rfl, hg2, hc2, _⟩
  ·omega
  ·refine ⟨g1, g2, cur1, cur2, fun he => ?_, rfl, rfl, (ha _ _ (l1 _ _ hg1)).1, (ha _ _ (l2 _ _ (m1 _ _ hg2))).1, hc1, hc2⟩
   subst he
   rcases dj g1 with hn | hn
   ·rw [hg1] at hn; cases hn
   ·rw [m1 _ _ hg2] at hn; cases hn
theorem RT.over {f : FuncId} {fn : Func} {tR ts e e1 by_ : Nat} {R2 : List HP} {a1 a2 : Option Addr} {c1 c2 k1 k2 i lb cb : Nat} {xs1 xs2 : List Value}
  (hx : ev E x = some (.slice a1 k1 c1)) (hy : ev E y = some (.slice (asub a2 c2 1 i) lb cb)) (s1 : Sel H (Own a1 c1 e1 1 k1 xs1) R) (s2 : Sel R (Own a2 c2 e 1 k2 xs2) R2) (h1 : 0 < k1) (h2 : 0 < k2) (hi : i ≠ c2)
  (hf : P.funcs[f]? = some fn) (hname : (fn.name == "runtime.NumGoroutine") = false) (hb : fn.body.isNone = true) (hn : Extern.findNext fn = none) (he : Extern.find fn = some (Extern.SlicesOverlaps.overlaps #[ts, ts] #[tR]))
  (ht : al T.slcs ts = some (e, 1, by_)) (hz : al T.szs e = some (1, false)) (hw : wt l0 E g = some true) (hd : Nat.blt d n = true) {ats : Array TypeId} (kk : RT B P n m l0 rest ((d, .bool false) :: E) H Q) :
  RT B P n m l0 (⟨some d, .call { callee := .value (.func f), args := #[x, y], argTypes := ats }, ty, pos, af, g⟩ :: rest) E H Q := by
 refine RT.y hw (by simpa [Nat.blt_eq] using hd) (y_run fun o aa w ho _ hA hS => ?_) kk
 refine exec_ext (xs := [x, y]) (vs := [.slice a1 k1 c1, .slice (asub a2 c2 1 i) lb cb]) ho hA (by simp [evs, hx, hy]) ?_
 obtain ⟨g1, g2, cur1, cur2, hne, rfl, rfl, hg1, hg2, hc1, hc2⟩ := Own.apart hS s1 s2 h1 h2
 obtain ⟨_, hk2, _⟩ := Own.facts (hS.sel s1).tail s2
 have hsub : asub (some (⟨g2, 0, none⟩ : Addr)) c2 1 i = some ⟨g2, i, none⟩ := by
  unfold asub
  rw [if_neg (fun h => hi h.symm)]
  simp [addr_add]
 rw [hsub, run_callFunc_extern hf hname hb hn he]
 have := Go.Lib.run_overlaps_apart (P := P) w ts tR e (slcB_spec (T.slc ht)).1 1 (fun w => run_sizeB (T.sz hz).1) ⟨g1, 0, none⟩ ⟨g2, i, none⟩ k1 c1 lb cb hne e1 e cur1.size cur2.size (by simp [World.shape?, hg1]) (by simp [World.shape?, hg2]) (by omega) (frozen_row hg1) (frozen_row hg1)
 rw [this]
 rfl
end
end Go.Sk
end
section
namespace Go.Sk
open Go.RowKit
section
variable {B : World} {P : Program} {n : Nat} {E : Env} {H R : List HP} {fn : Func} {Post : Value → List HP → Prop}
theorem AtQ.fin3 {t u x : Nat} {v1 v2 v3 : Value} (hr : fn.results = #[.tmp t, .tmp u, .tmp x]) (he : lk E t = some v1) (he2 : lk E u = some v2) (he3 : lk E x = some v3) {H' : List HP} (hp : Post (.tuple #[v1, v2, v3]) H') (hs : ∀ w, Sat B H w → Sat B (H' ++ R) w) :
  AtQ B (.mk0 n) E H (FinQ B P fn R Post) .ret := by
 intro a w hA hS
 refine bodyPost_ret (v := .tuple #[a.tmps.getD t undef, a.tmps.getD u undef, a.tmps.getD x undef]) (by simp [results, hr]) hA.defers ⟨_, _, rfl, ?_, hs w hS⟩
 rw [show a.tmps.getD t undef = v1 by simp [Array.getD_eq_getD_getElem?, hA.get t v1 he], show a.tmps.getD u undef = v2 by simp [Array.getD_eq_getD_getElem?, hA.get u v2 he2], show a.tmps.getD x undef = v3 by simp [Array.getD_eq_getD_getElem?, hA.get x v3 he3]]
 exact hp
end
end Go.Sk
end
section
namespace Go.Sk
open Go.RowKit
section
variable {B : World} {P : Program} {n : Fm} {m : Bool} {l0 rest : List Oper} {E : Env} {H R : List HP} {Q : Exit → Act → World → Prop} (T : Tab P)
variable {d : Nat} {ty : TypeId} {pos : String} {af : Array Edge} {g : Option (Nat × Bool)} {x y : Operand} {t : TypeId}
end
end Go.Sk
end
section
namespace Go.Sk
open Go.RowKit
theorem flat_len {α : Type} {f : α → List Value} {z : Nat} (hz : ∀ x, (f x).length = z) : ∀ (l : List α), (l.flatMap f).length = l.length * z
 | [] => by simp
 | x :: l => by rw [List.flatMap_cons, List.length_append, hz, flat_len hz l, List.length_cons, Nat.add_mul, Nat.one_mul, Nat.add_comm]
theorem flat_sub {α : Type} {f : α → List Value} {z : Nat} (hz : ∀ x, (f x).length = z) : ∀ (l : List α) (i : Nat) (x : α), l[i]? = some x → ((l.flatMap f).drop (i * z)).take z = f x
 | [], i, x, h => by simp at h
 | y :: l, 0, x, h => by
  simp only [List.getElem?_cons_zero, Option.some.injEq] at h
  subst h
  rw [Nat.zero_mul, List.drop_zero, List.flatMap_cons]
  exact List.take_left' (hz y)
 | y :: l, i + 1, x, h => by
  rw [List.getElem?_cons_succ] at h
  rw [List.flatMap_cons, show (i + 1) * z = (f y).length + i * z by rw [hz, Nat.add_mul, Nat.one_mul, Nat.add_comm], ← List.drop_drop, List.drop_left]
  exact flat_sub hz l i x h
theorem flat_get {α : Type} {f : α → List Value} {z : Nat} (hz : ∀ x, (f x).length = z) {l : List α} {i j : Nat} {x : α} (h : l[i]? = some x) (hj : j < z) : (l.flatMap f)[i * z + j]? = (f x)[j]? := by
 rw [← flat_sub hz l i x h, List.getElem?_take_of_lt hj, List.getElem?_drop]
section
variable {B : World} {P : Program} {n : Fm} {m : Bool} {l0 rest : List Oper} {E : Env} {H R : List HP} {Q : Exit → Act → World → Prop} (T : Tab P)
variable {d : Nat} {ty : TypeId} {pos : String} {af : Array Edge} {g : Option (Nat × Bool)} {x y : Operand} {t : TypeId}
theorem RT.faA {f s off z : Nat} {gg : Bool} {ad : Addr} {j : Nat} (hx : ev E x = some (.pointer (some (ad.add j)))) (hf : al2 T.flds s f = some (off, z + 1, gg)) (hw : wt l0 E g = some true) (hd : Nat.blt d n = true)
  (k : RT B P n m l0 rest ((d, .pointer (some (ad.add (j + off)))) :: E) H Q) : RT B P n m l0 (⟨some d, .fieldAddr s x f, ty, pos, af, g⟩ :: rest) E H Q :=
 RT.y hw (by simpa [Nat.blt_eq] using hd) (y_faA T hf hx) k
theorem RT.ldra {k c z j m' : Nat} {a : Option Addr} {xs l : List Value} (hx : ev E x = some (.pointer (some ((adr a).add j)))) (hr : Rd B H a k c z xs) (hl : (xs.drop j).take m' = l) (hm : l.length = m') (ht : al T.szs t = some (m', true)) (hw : wt l0 E g = some true) (hd : Nat.blt d n = true)
  (kt : RT B P n m l0 rest ((d, .agg l.toArray) :: E) H Q) : RT B P n m l0 (⟨some d, .load t x, ty, pos, af, g⟩ :: rest) E H Q :=
 RT.y hw (by simpa [Nat.blt_eq] using hd) (y_ldra T ht hx hr hl hm) kt
/-- A whole struct into (a part of) a variable. -/
theorem RT.stagg {b off z : Nat} {e : TypeId} {l v l' : List Value} {H' : List HP} (hx : ev E x = some (.pointer (some ⟨b, off, none⟩))) (hy : ev E y = some (.agg v.toArray)) (h1 : v.all (fun u => u.oneCell') = true)
  (hr : Rep H (Cs b e l) (Cs b e l') H') (hl' : l.take off ++ v ++ l.drop (off + v.length) = l') (hl : Nat.ble (off + v.length) l.length = true) (hz : v.length = z) (ht : al T.szs t = some (z, true)) (hw : wt l0 E g = some true)
  (k : RT B P n true l0 rest E H' Q) : RT B P n true l0 (⟨none, .store t x y, ty, pos, af, g⟩ :: rest) E H Q :=
 RT.eff hw fun o a w K ho _ hd hA hS hK => by
  subst hl' hz
  have hl2 : off + v.length ≤ l.length := by simpa [Nat.ble_eq] using hl
  obtain ⟨R, s1, _⟩ := hr.sel
  have hb := (hS.cs s1).1
  have hrun := run_storeCells_at P b off e v 0 l.toArray w hb (by simpa using hl2) (fun u hu => List.all_eq_true.1 h1 u hu)
  unfold Oper.wp execOp
  have hsz := (T.sz ht).1
  simp only [ho, hA.ev hx, hA.ev hy, Instr.storeAt, Instr.sureAddr, Sem.run_bind, Sem.run_pure, Result.andThen_ok, storeVar, run_sizeB hsz, Value.cells]
  simp only [List.size_toArray, ne_eq, not_true, if_false, Sem.run_pure, Result.andThen_ok, hrun, Sem.run_bind]
  simp only [Oper.upon, hd, Act.put]
  refine hK _ _ (k _ _ hA ?_)
  refine hS.upd (b := b) hr (fun h hh => ⟨_, hh⟩) (fun _ _ _ _ hh => hh) rfl rfl rfl (by simp [World.setRow]) ?_ (fun x hx => setRow_other w b x _ hx)
  have := setRow_heap w b l.toArray (l.take (off + 0) ++ v ++ l.drop (off + 0 + v.length)).toArray e (0, 0) hb
  simpa using this
end
end Go.Sk
end
section
namespace Go.Sk
theorem star_keep (Ps Qs R : List HP) (h : PH) (s : star (Ps ++ (Qs ++ R)) h) : star (Ps ++ R) h := by
 obtain ⟨h1, h2, d, l1, l2, sA, sB⟩ := star_split _ _ _ s
 obtain ⟨k1, k2, d', m1, m2, _, sR⟩ := star_split _ _ _ sB
 exact star_app Ps R h1 k2 h (d.mono (Le.refl _) m2) l1 (m2.trans l2) sA sR
theorem Sat.frd {B : World} {H Ps Qs R : List HP} {w : World} (s : Sat B H w) (f : Fr H Ps (Qs ++ R)) : Sat B (Ps ++ R) w := (s.fr f).mono fun h hs => star_keep Ps Qs R h hs
end Go.Sk
end
section
namespace Go.Sk
open Go.RowKit
def b8 (x : Int) : UInt8 := UInt8.ofNat x.toNat
/-- The text of these bytes. -/
def str (l : List Int) : ByteArray := ⟨(l.map b8).toArray⟩
def isB (x : Int) : Prop := 0 ≤ x ∧ x < 256
def Byt (l : List Int) : Prop := ∀ x ∈ l, isB x
theorem b8_nat {x : Int} (h : isB x) : ((b8 x).toNat : Int) = x := by
 obtain ⟨h0, h1⟩ := h
 unfold b8
 rw [UInt8.toNat_ofNat']
 omega
theorem b8_of (b : UInt8) : b8 (b.toNat : Int) = b := by unfold b8; rw [Int.toNat_natCast]; exact UInt8.ofNat_toNat
theorem str_list (l : List Int) : (str l).data.toList = l.map b8 := by simp [str]
theorem str_size (l : List Int) : (str l).size = l.length := by show ((l.map b8).toArray).size = _; rw [List.size_toArray, List.length_map]
theorem str_of (s : ByteArray) : ∃ l, Byt l ∧ s = str l ∧ l.length = s.size := by
 refine ⟨s.data.toList.map fun b => (b.toNat : Int), fun x hx => ?_, ?_, by rw [List.length_map, Array.length_toList]; rfl⟩
 ·obtain ⟨b, _, rfl⟩ := List.mem_map.1 hx
  exact ⟨by omega, by have := b.toNat_lt; omega⟩
 ·unfold str
  rw [List.map_map]
  have : (b8 ∘ fun b : UInt8 => (b.toNat : Int)) = id := by funext b; exact b8_of b
  rw [this, List.map_id]
theorem map_b8_inj : ∀ {l l' : List Int}, Byt l → Byt l' → l.map b8 = l'.map b8 → l = l'
 | [], [], _, _, _ => rfl
 | [], _ :: _, _, _, h => by simp at h
 | _ :: _, [], _, _, h => by simp at h
 | x :: l, y :: l', h, h', e => by
  simp only [List.map_cons, List.cons.injEq] at e
  have hx := b8_nat (h x (by simp))
  have hy := b8_nat (h' y (by simp))
  rw [e.1] at hx
  rw [map_b8_inj (fun z hz => h z (by simp [hz])) (fun z hz => h' z (by simp [hz])) e.2, ← hx, hy]
theorem str_inj {l l' : List Int} (h : Byt l) (h' : Byt l') : str l = str l' ↔ l = l' := by
 refine ⟨fun e => map_b8_inj h h' ?_, fun e => by rw [e]⟩
 rw [← str_list, ← str_list, e]
theorem str_sub (l : List Int) (i j : Nat) : (str l).extract i j = str ((l.drop i).take (j - i)) := by
 apply ByteArray.ext
 rw [ByteArray.data_extract]
 apply Array.ext'
 rw [Array.toList_extract, str_list]
 simp [str, List.extract_eq_take_drop, List.map_drop, List.map_take]
theorem Byt.nil : Byt [] := fun _ h => by cases h
theorem Byt.app {l l' : List Int} (h : Byt l) (h' : Byt l') : Byt (l ++ l') := fun x hx => by
 rcases List.mem_append.1 hx with hx | hx
 ·exact h x hx
 ·exact h' x hx
theorem Byt.one {x : Int} (h : isB x) : Byt [x] := fun y hy => by simp at hy; subst hy; exact h
theorem Byt.cons {x : Int} {l : List Int} (h : isB x) (h' : Byt l) : Byt (x :: l) := fun y hy => by
 rcases List.mem_cons.1 hy with rfl | hy
 ·exact h
 ·exact h' y hy
theorem Byt.drop {l : List Int} (h : Byt l) (i : Nat) : Byt (l.drop i) := fun x hx => h x (List.mem_of_mem_drop hx)
theorem Byt.take {l : List Int} (h : Byt l) (i : Nat) : Byt (l.take i) := fun x hx => h x (List.mem_of_mem_take hx)
theorem Byt.get {l : List Int} (h : Byt l) {i : Nat} (hi : i < l.length) : isB (l.getD i 0) := by
 simp only [List.getD_eq_getElem?_getD, List.getElem?_eq_getElem hi, Option.getD_some]
 exact h _ (List.getElem_mem hi)
instance decIsB (x : Int) : Decidable (isB x) := inferInstanceAs (Decidable (0 ≤ x ∧ x < 256))
instance decByt : (l : List Int) → Decidable (Byt l)
 | [] => .isTrue Byt.nil
 | x :: l => match decIsB x, decByt l with
  | .isTrue a, .isTrue b => .isTrue (Byt.cons a b)
  | .isFalse a, _ => .isFalse fun h => a (h x (by simp))
  | _, .isFalse b => .isFalse fun h => b fun y hy => h y (by simp [hy])
section
variable {B : World} {P : Program} {n : Fm} {m : Bool} {l0 rest : List Oper} {E : Env} {H R : List HP} {Q : Exit → Act → World → Prop} (T : Tab P)
variable {d : Nat} {ty : TypeId} {pos : String} {af : Array Edge} {g : Option (Nat × Bool)} {x y y' : Operand} {t t' : TypeId}
theorem knd_string {t : Nat} (h : knd P t = some 2) : P.underlying t = some .string := by
 unfold knd at h
 split at h
 ·split at h <;> simp at h
 all_goals first | (rename_i hu; exact hu) | (simp at h; done) | cases h
theorem RT.lens {l : List Int} (hx : ev E x = some (.string (str l))) (ht : al T.kinds t = some 2) (hw : wt l0 E g = some true) (hd : Nat.blt d n = true)
  (k : RT B P n m l0 rest ((d, .int .i64 l.length) :: E) H Q) : RT B P n m l0 (⟨some d, .call { callee := .builtin .len, args := #[x], argTypes := #[t] }, ty, pos, af, g⟩ :: rest) E H Q :=
 RT.y hw (by simpa [Nat.blt_eq] using hd) (y_run fun o aa w ho _ hA _ => by
  have hu := knd_string (T.kind ht)
  unfold execOp
  simp only [ho, resolve, invoke, builtin, List.map_toArray, List.map_cons, List.map_nil, hA.ev hx, Builtin.len_, Sem.run_bind, Sem.run_pure, Result.andThen_ok, List.getElem?_toArray, List.getElem?_cons_zero, run_underlying hu]
  rw [str_size]
  rfl) k
theorem run_slS {w : World} {l : List Int} {i j : Nat} {lo hi : Option Value} (hu : P.underlying t = some .string)
  (hb : (Instr.sliceBounds false (str l).size (str l).size lo hi none).run P w = .ok (i, j, (str l).size) w) : (Instr.sliceAt t (.string (str l)) lo hi none).run P w = .ok (.string (str ((l.drop i).take (j - i)))) w := by
 simp only [Instr.sliceAt, Instr.slice, Sem.run_bind, run_underlying hu, Result.andThen_ok, Option.isSome_none, Bool.false_eq_true, if_false, Sem.run_pure, hb, str_sub]
theorem RT.slsL {l : List Int} {k : IntKind} {i : Int} {j : Nat} (hx : ev E x = some (.string (str l))) (hy : ev E y = some (.int k i)) (hi : i = j) (hj : j ≤ l.length) (ht : al T.kinds t = some 2) (hw : wt l0 E g = some true) (hd : Nat.blt d n = true)
  (kt : RT B P n m l0 rest ((d, .string (str (l.drop j))) :: E) H Q) : RT B P n m l0 (⟨some d, .slice t x (some y) none none, ty, pos, af, g⟩ :: rest) E H Q := by
 subst hi
 refine RT.y hw (by simpa [Nat.blt_eq] using hd) (y_run fun o aa w ho _ hA _ => ?_) kt
 have hb : (Instr.sliceBounds false (str l).size (str l).size (some (.int k (j : Int))) none none).run P w = .ok (j, l.length, (str l).size) w := by
  rw [str_size]
  simp only [Instr.sliceBounds, Instr.sliceBound, asIntOf, Sem.run_bind, Sem.run_pure, Result.andThen_ok]
  rw [if_pos ⟨by omega, by omega⟩]
  simp
 unfold execOp
 simp only [ho, hA.ev hx, hA.ev hy, Option.map_some, Option.map_none, Sem.run_bind, run_slS (knd_string (T.kind ht)) hb, Result.andThen_ok]
 rw [List.take_of_length_le (by rw [List.length_drop]; exact Nat.le_refl _)]
 rfl
theorem list_beq_iff {a b : List UInt8} : (a == b) = decide (a = b) := by
 by_cases h : a = b
 ·subst h; simp
 ·simp [h]
theorem RT.eqs {l l' : List Int} (hx : ev E x = some (.string (str l))) (hy : ev E y = some (.string (str l'))) (h : Byt l) (h' : Byt l') (hw : wt l0 E g = some true) (hd : Nat.blt d n = true)
  (k1 : l = l' → RT B P n m l0 rest ((d, .bool true) :: E) H Q) (k2 : l ≠ l' → RT B P n m l0 rest ((d, .bool false) :: E) H Q) : RT B P n m l0 (⟨some d, .binOp .eql t x y t', ty, pos, af, g⟩ :: rest) E H Q := by
 have hy2 : Yld B P n E H (.binOp .eql t x y t') ty (.bool (decide (l = l'))) := y_run fun o aa w ho _ hA _ => by
  unfold execOp
  simp only [ho, hA.ev hx, hA.ev hy, eqGuard, binOp, Op.stringOp, ByteArray.toList_eq, str_list, list_beq_iff]
  have : decide (l.map b8 = l'.map b8) = decide (l = l') := decide_eq_decide.2 ⟨map_b8_inj h h', fun e => by rw [e]⟩
  rw [this]
  rfl
 refine RT.y hw (by simpa [Nat.blt_eq] using hd) hy2 ?_
 by_cases he : l = l'
 ·rw [decide_eq_true he]; exact k1 he
 ·rw [decide_eq_false he]; exact k2 he
theorem RT.nes {l l' : List Int} (hx : ev E x = some (.string (str l))) (hy : ev E y = some (.string (str l'))) (h : Byt l) (h' : Byt l') (hw : wt l0 E g = some true) (hd : Nat.blt d n = true)
  (k1 : l = l' → RT B P n m l0 rest ((d, .bool false) :: E) H Q) (k2 : l ≠ l' → RT B P n m l0 rest ((d, .bool true) :: E) H Q) : RT B P n m l0 (⟨some d, .binOp .neq t x y t', ty, pos, af, g⟩ :: rest) E H Q := by
 have hy2 : Yld B P n E H (.binOp .neq t x y t') ty (.bool (!decide (l = l'))) := y_run fun o aa w ho _ hA _ => by
  unfold execOp
  simp only [ho, hA.ev hx, hA.ev hy, eqGuard, binOp, Op.stringOp, ByteArray.toList_eq, str_list, list_beq_iff]
  have : decide (l.map b8 = l'.map b8) = decide (l = l') := decide_eq_decide.2 ⟨map_b8_inj h h', fun e => by rw [e]⟩
  rw [this]
  rfl
 refine RT.y hw (by simpa [Nat.blt_eq] using hd) hy2 ?_
 by_cases he : l = l'
 ·rw [decide_eq_true he]; exact k1 he
 ·rw [decide_eq_false he]; exact k2 he
end
end Go.Sk
end
section
namespace Go.Sk
open Go.RowKit
theorem Sat.below {B : World} {H : List HP} {w w' : World} (s : Sat B H w) (h : Below w.heap.size w w') : Sat B H w' := by
 obtain ⟨g, a, hs⟩ := s.heap
 refine ⟨h.os.trans s.os, h.output.trans s.output, h.tape.trans s.tape, Nat.le_trans s.size h.size, fun x hx => (h.block x (by have := s.size; omega)).trans (s.base x hx), g, fun b o e => ?_, hs⟩
 have h1 := a b o e
 exact ⟨(h.block b (Array.getElem?_eq_some_iff.1 h1.1).1).trans h1.1, h1.2⟩
theorem strCells_str {l : List Int} (h : Byt l) : Lib.strCells (str l) = ints .u8 l := by
 unfold Lib.strCells
 rw [str_list, List.map_map]
 exact List.map_congr_left fun x hx => by simp only [Function.comp, b8_nat (h x hx)]
section
variable {B : World} {P : Program} {n : Fm} {m : Bool} {l0 rest : List Oper} {E : Env} {H R : List HP} {Q : Exit → Act → World → Prop} (T : Tab P)
variable {d : Nat} {ty : TypeId} {pos : String} {af : Array Edge} {g : Option (Nat × Bool)} {x y y' : Operand} {t t' : TypeId}
theorem QSp.below {f : FuncId} {vs : List Value} {v : Value} (h : ∀ w, Sat B H w → Calls P f vs.toArray w fun e w' => e = .returned v ∧ Below w.heap.size w w') : QSp B P f vs H v :=
 fun w hS => (h w hS).mono fun e w' ⟨he, hb⟩ => ⟨he, hS.below hb⟩
theorem QSp.same {f : FuncId} {vs : List Value} {v : Value} (h : ∀ w, Sat B H w → Calls P f vs.toArray w fun e w' => e = .returned v ∧ w' = w) : QSp B P f vs H v :=
 fun w hS => (h w hS).mono fun e w' ⟨he, hb⟩ => ⟨he, hb ▸ hS⟩
end
end Go.Sk
end
section
namespace Go.Sk
end Go.Sk
end
section
namespace Go.Sk
open Go.RowKit
/-- A cell of the base world. -/
theorem Sat.bcell {B : World} {H : List HP} {w : World} (s : Sat B H w) {b o : Nat} {v : Value} (h : B.cell? ⟨b, o, none⟩ = some v) : w.cell? ⟨b, o, none⟩ = some v := by
 have hlt : b < B.heap.size := by
  rcases Nat.lt_or_ge b B.heap.size with h' | h'
  ·exact h'
  ·simp [World.cell?, Array.getElem?_eq_none h'] at h
 rw [← h]
 simp only [World.cell?, s.base b hlt]
/-- The iterator of a text in block b. -/
def It (b : Nat) (s : ByteArray) (p : Nat) : HP := fun h => h b = some (.stringIter s p)
theorem It.at_ {B : World} {H R : List HP} {w : World} {b p : Nat} {s : ByteArray} (hS : Sat B H w) (hs : Sel H (It b s p) R) : w.heap[b]? = some (.stringIter s p) := by
 obtain ⟨h, a, hp⟩ := (hS.sel hs).head
 exact (a b _ hp).1
section
variable {B : World} {P : Program} {n : Fm} {m : Bool} {l0 rest : List Oper} {E : Env} {H R : List HP} {Q : Exit → Act → World → Prop} (T : Tab P)
variable {d : Nat} {ty : TypeId} {pos : String} {af : Array Edge} {g : Option (Nat × Bool)} {x y y' : Operand} {t t' : TypeId}
theorem RT.rng {s : ByteArray} (hx : ev E x = some (.string s)) (ht : al T.kinds t = some 2) (hw : wt l0 E g = some true) (hd : Nat.blt d n = true)
  (kk : ∀ b, RT B P n true l0 rest ((d, .pointer (some ⟨b, 0, none⟩)) :: E) (It b s 0 :: H) Q) : RT B P n true l0 (⟨some d, .range t x, ty, pos, af, g⟩ :: rest) E H Q :=
 RT.eff hw fun o aa w K ho hty hdd hA hS hK => by
  have hrun := run_range_string (P := P) w t s (knd_string (T.kind ht))
  unfold Oper.wp execOp
  simp only [ho, hA.ev hx, Sem.run_bind, hrun, Result.andThen_ok, Sem.run_pure]
  simp only [Oper.upon, hdd]
  exact hK _ _ (kk w.heap.size _ _ (hA.put (by simpa [Nat.blt_eq] using hd) _) (hS.new rfl rfl rfl rfl fun h _ hb => hb))
theorem RT.nxt {b p : Nat} {s : ByteArray} {H' : List HP} (hx : ev E x = some (.pointer (some ⟨b, 0, none⟩))) (hr : Rep H (It b s p) (It b s (p + (Utf8.decode s p).2)) H') (hw : wt l0 E g = some true) (hd : Nat.blt d n = true)
  (k1 : p < s.size → RT B P n true l0 rest ((d, .tuple #[.bool true, .int .i64 p, .int .i32 (Utf8.decode s p).1]) :: E) H' Q)
  (k2 : ¬ p < s.size → RT B P n true l0 rest ((d, .tuple #[.bool false]) :: E) H Q) : RT B P n true l0 (⟨some d, .next x true, ty, pos, af, g⟩ :: rest) E H Q :=
 RT.eff hw fun o aa w K ho hty hdd hA hS hK => by
  obtain ⟨Rr, s1, s2⟩ := hr.sel
  have hk := It.at_ hS s1
  unfold Oper.wp execOp
  by_cases h : p < s.size
  ·have hrun := Lib.run_next_any_at (P := P) w b s p o.type hk h
   simp only [ho, hA.ev hx, Sem.run_bind, hrun, Result.andThen_ok, Sem.run_pure]
   simp only [Oper.upon, hdd]
   refine hK _ _ (k1 h _ _ (hA.put (by simpa [Nat.blt_eq] using hd) _) (hS.upd (b := b) hr (fun h hh => ⟨_, hh⟩) (fun _ _ _ _ hh => hh) rfl rfl rfl (Lib.iterAt_size _ _ _ _) (Lib.iterAt_heap w b s p _ hk) (fun x hx => Lib.iterAt_other _ _ _ _ _ hx)))
  ·have hrun := Lib.run_next_end_at (P := P) w b s p o.type hk h
   simp only [ho, hA.ev hx, Sem.run_bind, hrun, Result.andThen_ok, Sem.run_pure]
   simp only [Oper.upon, hdd]
   exact hK _ _ (k2 h _ _ (hA.put (by simpa [Nat.blt_eq] using hd) _) hS)
/-- string(x) of bytes. -/
theorem RT.convBS {a : Option Addr} {k c e : Nat} {l : List Int} (hx : ev E x = some (.slice a k c)) (hr : Rd B H a k c 1 (ints .u8 l)) (hb : Byt l) (hs : P.underlying t = some (.slice e)) (he : P.underlying e = some (.int .u8)) (ht : al T.kinds t' = some 2) (hw : wt l0 E g = some true) (hd : Nat.blt d n = true)
  (kt : RT B P n m l0 rest ((d, .string (str l)) :: E) H Q) : RT B P n m l0 (⟨some d, .convert t t' x, ty, pos, af, g⟩ :: rest) E H Q :=
 RT.y hw (by simpa [Nat.blt_eq] using hd) (y_run fun o aa w ho _ hA hS => by
  have hd2 := knd_string (T.kind ht)
  have hlen : l.length = k := by have := hr.1; rw [ints_len] at this; omega
  have hrun : (convert t t' (.slice a k c)).run P w = .ok (.string (str l)) w := by
   rcases Nat.eq_zero_or_pos k with h0 | h0
   ·subst h0
    obtain rfl : l = [] := List.eq_nil_of_length_eq_zero hlen
    rw [run_convert_bytes_string w t t' e a 0 c hs he hd2]
    cases a with
    | none => rfl
    | some ad =>
     have := run_bytesToString (P := P) w ad 0 c [] (by simpa using run_loadCells_list (P := P) w ad [] (by simp))
     exact this
   ·obtain ⟨ad, rfl, hcells⟩ := hr.cells hS h0
    have := run_convert_bytes_back (P := P) w t t' e ad c (l.map b8) hs he hd2 (fun j hj => by
     rw [List.length_map] at hj
     have h1 := hcells j (.int .u8 l[j]) (by simp [ints, hj])
     rw [h1, List.getElem_map, b8_nat (hb _ (List.getElem_mem hj))])
    rw [List.length_map, hlen] at this
    exact this
  unfold execOp
  simp only [ho, hA.ev hx, Sem.run_bind, hrun, Result.andThen_ok]
  rfl) kt
/-- A row that is only read, whatever of it is frozen. -/
def Ro (a : Option Addr) (xs : List Value) : HP := fun h => ∃ g cur e fz, a = some ⟨g, 0, none⟩ ∧ h g = some (.cells cur e fz) ∧ cur.toList.take xs.length = xs
theorem Ro.rd {a : Option Addr} {c k : Nat} {xs : List Value} (hs : Sel H (Ro a xs) R) (hl : xs.length = k) (hc : k ≤ c) : Rd B H a k c 1 xs := by
 refine ⟨by omega, hc, fun w hS => ?_⟩
 obtain ⟨h, hh, g, cur, e, fz, rfl, hg, ht⟩ := (hS.sel hs).head
 refine ⟨fun _ => rfl, fun j u hj => ?_⟩
 rw [adr, Option.getD_some, addr_add, cell_of_row w g j cur e fz (hh g _ hg).1]
 rw [← ht, List.getElem?_take] at hj
 split at hj
 ·simpa using hj
 ·cases hj
end
end Go.Sk
end
section
namespace Go.Sk
open Go.RowKit
theorem star_perm {H H' : List HP} (p : H.Perm H') : ∀ h, star H h → star H' h := by
 induction p with
 | nil => exact fun _ h => h
 | cons x _ ih => exact fun h hs => star_cons_mono ih hs
 | swap x y l => exact fun h hs => star_swap hs
 | trans _ _ i1 i2 => exact fun h hs => i2 h (i1 h hs)
theorem flat_not {α : Type _} {i : Nat} {f f' : Nat → List α} (h3 : ∀ j, j ≠ i → f' j = f j) : ∀ L : List Nat, i ∉ L → L.flatMap f' = L.flatMap f
 | [], _ => rfl
 | j :: L, h => by
  rw [List.flatMap_cons, List.flatMap_cons, h3 j (fun e => h (by simp [e])), flat_not h3 L (fun e => h (by simp [e]))]
theorem flat_ins {α : Type _} {i : Nat} {g : List α} {f f' : Nat → List α} (h1 : f i = []) (h2 : f' i = g) (h3 : ∀ j, j ≠ i → f' j = f j) : ∀ L : List Nat, L.Nodup → i ∈ L → (g ++ L.flatMap f).Perm (L.flatMap f')
 | [], _, h => by cases h
 | j :: L, hn, h => by
  rw [List.nodup_cons] at hn
  rw [List.flatMap_cons, List.flatMap_cons]
  by_cases hj : j = i
  ·subst hj
   rw [h1, h2, flat_not h3 L hn.1, List.nil_append]
  ·rw [h3 j hj]
   have ih := flat_ins h1 h2 h3 L hn.2 ((List.mem_cons.1 h).resolve_left fun e => hj e.symm)
   rw [← List.append_assoc]
   refine (List.Perm.append_right _ (List.perm_append_comm)).trans ?_
   rw [List.append_assoc]
   exact List.Perm.append_left _ ih
theorem lk_append : ∀ (A C : Env) (t : Nat), lk (A ++ C) t = match lk A t with | some v => some v | none => lk C t
 | [], C, t => rfl
 | (s, v) :: A, C, t => by
  show (bif Nat.beq s t then some v else lk (A ++ C) t) = _
  rw [lk]
  cases Nat.beq s t with
  | true => rfl
  | false => exact lk_append A C t
def snapL : List Value → Nat → Env
 | [], _ => []
 | v :: vs, k => (k, v) :: snapL vs (k + 1)
theorem lk_snapL : ∀ (vs : List Value) (k t : Nat), k ≤ t → lk (snapL vs k) t = vs[t - k]?
 | [], k, t, _ => by simp [snapL, lk]
 | v :: vs, k, t, h => by
  rw [snapL, lk]
  by_cases hk : k = t
  ·subst hk
   simp
  ·have hb : Nat.beq k t = false := by cases hx : Nat.beq k t with
    | true => exact absurd (Nat.eq_of_beq_eq_true hx) hk
    | false => rfl
   rw [hb, cond_false, lk_snapL vs (k + 1) t (by omega), show t - k = (t - (k + 1)) + 1 by omega, List.getElem?_cons_succ]
def snap (a : Act) : Env := snapL a.tmps.toList 0
theorem lk_snap (a : Act) (t : Nat) : lk (snap a) t = a.tmps[t]? := by
 unfold snap
 rw [lk_snapL _ _ _ (Nat.zero_le _)]
 simp
theorem lk_map {D V : Nat → Value} {d : Nat → Nat} {t : Nat} {v : Value} : ∀ {L : List Nat}, lk (L.map fun j => (d j, V j)) t = some v → ∃ j ∈ L, t = d j ∧ v = V j
 | [], h => by cases h
 | j :: L, h => by
  rw [List.map_cons, lk] at h
  cases hb : Nat.beq (d j) t with
  | true => rw [hb] at h; cases h; exact ⟨j, by simp, (Nat.eq_of_beq_eq_true hb).symm, rfl⟩
  | false =>
   rw [hb] at h
   obtain ⟨i, h1, h2⟩ := lk_map (D := D) (L := L) h
   exact ⟨i, by simp [h1], h2⟩
/-- What is asked of one operation: its slot; which others it reads; what it hands back and lays down. -/
structure SpO where
 d : Nat
 deps : List Nat
 rel : List Value → Value → List HP → Prop
 ok : Value → Prop := fun _ => True
def dAt (S : List SpO) (i : Nat) : Nat := ((S[i]?).map SpO.d).getD 0
def depE (S : List SpO) (s : SpO) (V : Nat → Value) : Env := s.deps.map fun j => (dAt S j, V j)
/-- Behind one operation. -/
def OneQ (B : World) (n : Fm) (d : Nat) (Y : Env) (H : List HP) (rel : Value → List HP → Prop) : Exit → Act → World → Prop := fun ex a w =>
 ex = .normal ∧ ∃ v Ps, rel v Ps ∧ Agr n ((d, v) :: Y) a ∧ Sat B (Ps ++ H) w
theorem AtQ.one {B : World} {n : Fm} {d : Nat} {Y : Env} {H H1 : List HP} {rel : Value → List HP → Prop} {v : Value} (Ps : List HP) (hr : rel v Ps) (hH : ∀ w, Sat B H1 w → Sat B (Ps ++ H) w) :
  AtQ B n ((d, v) :: Y) H1 (OneQ B n d Y H rel) .normal := fun _ w hA hS => ⟨rfl, v, Ps, hr, hA, hH w hS⟩
/-- Each operation does what is asked of it. -/
def Steps (B : World) (P : Program) (n : Fm) (l : List Oper) (S : List SpO) (E : Env) : List SpO → List Oper → Prop
 | [], [] => True
 | s :: ss, o :: os => (∀ (V : Nat → Value) (X : Env) (H : List HP), RT B P n true l [o] (depE S s V ++ (E ++ X)) H (OneQ B n s.d (depE S s V ++ (E ++ X)) H (s.rel (s.deps.map V)))) ∧ Steps B P n l S E ss os
 | _, _ => False
theorem Steps.at {B : World} {P : Program} {n : Fm} {l : List Oper} {S : List SpO} {E : Env} : ∀ {ss : List SpO} {os : List Oper} {i : Nat} {s : SpO} {o : Oper}, Steps B P n l S E ss os → ss[i]? = some s → os[i]? = some o →
  ∀ (V : Nat → Value) (X : Env) (H : List HP), RT B P n true l [o] (depE S s V ++ (E ++ X)) H (OneQ B n s.d (depE S s V ++ (E ++ X)) H (s.rel (s.deps.map V)))
 | [], [], i, s, o, _, h1, _ => by simp at h1
 | s :: ss, o :: os, 0, s', o', h, h1, h2 => by
  simp only [List.getElem?_cons_zero, Option.some.injEq] at h1 h2
  subst h1 h2
  exact h.1
 | s :: ss, o :: os, i + 1, s', o', h, h1, h2 => by
  simp only [List.getElem?_cons_succ] at h1 h2
  exact Steps.at h.2 h1 h2
 | _ :: _, [], _, _, _, h, _, _ => False.elim h
 | [], _ :: _, _, _, _, h, _, _ => False.elim h
/-- Edges lead back. -/
def backB : Nat → List Oper → Bool
 | _, [] => true
 | k, o :: l => o.after.all (fun e => Nat.blt e.on k) && backB (k + 1) l
theorem backB_spec : ∀ {k : Nat} {l : List Oper} {i : Nat} {o : Oper}, backB k l = true → l[i]? = some o → ∀ e ∈ o.after, e.on < k + i
 | _, [], i, o, _, h2 => by simp at h2
 | k, o :: l, 0, o', h1, h2 => by
  simp only [List.getElem?_cons_zero, Option.some.injEq] at h2
  subst h2
  simp only [backB, Bool.and_eq_true] at h1
  intro e he
  have := Array.all_eq_true_iff_forall_mem.1 h1.1 e he
  simpa [Nat.blt_eq] using this
 | k, o :: l, i + 1, o', h1, h2 => by
  simp only [List.getElem?_cons_succ] at h2
  simp only [backB, Bool.and_eq_true] at h1
  intro e he
  have := backB_spec h1.2 h2 e he
  omega
/-- What an operation reads, it waits for. -/
def depsB : List SpO → List Oper → Bool
 | [], [] => true
 | s :: ss, o :: os => s.deps.all (fun j => o.after.any fun e => Nat.beq e.on j && Region.binds .any e) && depsB ss os
 | _, _ => false
theorem depsB_spec : ∀ {ss : List SpO} {os : List Oper} {i : Nat} {s : SpO} {o : Oper}, depsB ss os = true → ss[i]? = some s → os[i]? = some o → ∀ j ∈ s.deps, ∃ e ∈ o.after, e.on = j ∧ Region.binds .any e = true
 | [], [], i, s, o, _, h1, _ => by simp at h1
 | s :: ss, o :: os, 0, s', o', h, h1, h2 => by
  simp only [List.getElem?_cons_zero, Option.some.injEq] at h1 h2
  subst h1 h2
  simp only [depsB, Bool.and_eq_true] at h
  intro j hj
  have h3 := List.all_eq_true.1 h.1 j hj
  rw [Array.any_eq_true'] at h3
  obtain ⟨e, he, h4⟩ := h3
  simp only [Bool.and_eq_true] at h4
  exact ⟨e, he, Nat.eq_of_beq_eq_true h4.1, h4.2⟩
 | s :: ss, o :: os, i + 1, s', o', h, h1, h2 => by
  simp only [List.getElem?_cons_succ] at h1 h2
  simp only [depsB, Bool.and_eq_true] at h
  exact depsB_spec h.2 h1 h2
 | _ :: _, [], _, _, _, h, _, _ => by simp [depsB] at h
 | [], _ :: _, _, _, _, h, _, _ => by simp [depsB] at h
theorem all_up {l : List Oper} {ls : Array Bool} (hsz : ls.size = l.length) (hback : backB 0 l = true) (hr : Region.ready .any l.toArray ls = []) : ∀ k i, i < k → i < l.length → ls.getD i false = true
 | 0, _, h, _ => by omega
 | k + 1, i, h, hi => by
  have ih := all_up hsz hback hr k
  cases hx : ls.getD i false with
  | true => rfl
  | false =>
   exfalso
   have ho : l.toArray[i]? = some l[i] := by simp [hi]
   have hm : i ∈ Region.ready .any l.toArray ls := mem_ready.2 ⟨by
    have h1 : i < ls.size := by omega
    simp only [Array.getD, h1, dif_pos] at hx ⊢
    exact hx, l[i], ho, fun e he _ => by
    have := backB_spec hback (i := i) (o := l[i]) (by simp [hi]) e he
    exact ih e.on (by omega) (by omega)⟩
   rw [hr] at hm
   cases hm
def up (ls : Array Bool) (Ps : Nat → List HP) (i : Nat) : List HP := if ls.getD i false = true then Ps i else []
def lacks (ls : Array Bool) (i : Nat) : List Unit := if ls.getD i false = true then [] else [()]
theorem getD_set_self {ls : Array Bool} {i : Nat} (h : i < ls.size) : (ls.setIfInBounds i true).getD i false = true := by
 simp [Array.getD, h]
/-- So much having come up. -/
structure Inv (B : World) (n : Fm) (l : List Oper) (S : List SpO) (E : Env) (H : List HP) (k : Nat) (ls : Array Bool) (a : Act) (w : World) (V : Nat → Value) (Ps : Nat → List HP) : Prop where
 size : ls.size = l.length
 left : ((List.range l.length).flatMap (lacks ls)).length ≤ k
 deps : ∀ (i : Nat) (s : SpO), S[i]? = some s → ls.getD i false = true → ∀ j ∈ s.deps, ls.getD j false = true
 has : ∀ (i : Nat) (s : SpO), S[i]? = some s → ls.getD i false = true → a.tmps[s.d]? = some (V i) ∧ s.rel (s.deps.map V) (V i) (Ps i)
 env : Agr n E a
 sat : Sat B ((List.range l.length).flatMap (up ls Ps) ++ H) w
section
variable {P : Program} {B : World} {n : Fm} {E : Env} {H : List HP} {Q : Exit → Act → World → Prop}
theorem free_any {l : List Oper} {S : List SpO} (hlen : S.length = l.length) (hback : backB 0 l = true) (hdeps : depsB S l = true) (hinj : ∀ (i j : Nat) (s s' : SpO), S[i]? = some s → S[j]? = some s' → s.d = s'.d → i = j)
  (hE : ∀ (i : Nat) (s : SpO), S[i]? = some s → lk E s.d = none) (hstep : Steps B P n l S E S l)
  (fin : ∀ (V : Nat → Value) (Ps : Nat → List HP) (a : Act) (w : World), (∀ (i : Nat) (s : SpO), S[i]? = some s → a.tmps[s.d]? = some (V i) ∧ s.rel (s.deps.map V) (V i) (Ps i)) → Agr n E a → Sat B ((List.range l.length).flatMap Ps ++ H) w → Q .normal a w) :
  ∀ (k : Nat) (ls : Array Bool) (a : Act) (w : World) (V : Nat → Value) (Ps : Nat → List HP), Inv B n l S E H k ls a w V Ps → wpAny P .any l.toArray Q k ls a w := by
 have done : ∀ {k : Nat} {ls : Array Bool} {a : Act} {w : World} {V : Nat → Value} {Ps : Nat → List HP}, Inv B n l S E H k ls a w V Ps → (∀ i, i < l.length → ls.getD i false = true) → Q .normal a w := fun {k ls a w V Ps} I hall => by
  refine fin V Ps a w (fun i s hs => I.has i s hs (hall i ?_)) I.env ?_
  ·obtain ⟨h1, _⟩ := List.getElem?_eq_some_iff.1 hs
   omega
  ·have e : (List.range l.length).flatMap (up ls Ps) = (List.range l.length).flatMap Ps := by
    have : ∀ L : List Nat, (∀ i ∈ L, i < l.length) → L.flatMap (up ls Ps) = L.flatMap Ps := by
     intro L
     induction L with
     | nil => intro _; rfl
     | cons j L ih =>
      intro h
      rw [List.flatMap_cons, List.flatMap_cons, ih (fun i hi => h i (by simp [hi])), up, if_pos (hall j (h j (by simp)))]
    exact this _ (fun i hi => List.mem_range.1 hi)
   rw [← e]
   exact I.sat
 intro k
 induction k with
 | zero =>
  intro ls a w V Ps I
  have hall : ∀ i, i < l.length → ls.getD i false = true := by
   intro i hi
   cases hx : ls.getD i false with
   | true => rfl
   | false =>
    exfalso
    have h0 : (List.range l.length).flatMap (lacks ls) = [] := List.eq_nil_of_length_eq_zero (by have := I.left; omega)
    have := List.flatMap_eq_nil_iff.1 h0 i (List.mem_range.2 hi)
    unfold lacks at this
    rw [hx] at this
    cases this
  refine ⟨List.eq_nil_iff_forall_not_mem.2 fun i hi => ?_, done I hall⟩
  obtain ⟨h1, o, ho, _⟩ := mem_ready.1 hi
  have hil : i < l.length := by
   have := (Array.getElem?_eq_some_iff.1 ho).1
   simpa using this
  have h2 := hall i hil
  have h3 : i < ls.size := by rw [I.size]; exact hil
  simp only [Array.getD, h3, dif_pos] at h1 h2
  rw [h1] at h2
  cases h2
 | succ k ih =>
  intro ls a w V Ps I
  refine ⟨fun hr => done I fun i hi => all_up I.size hback hr (i + 1) i (by omega) hi, fun i hi => ?_⟩
  obtain ⟨hun, o, ho, haft⟩ := mem_ready.1 hi
  have hil : i < l.length := by
   have := (Array.getElem?_eq_some_iff.1 ho).1
   simpa using this
  have hls : i < ls.size := by rw [I.size]; exact hil
  have hun2 : ls.getD i false = false := by
   simp only [Array.getD, hls, dif_pos] at hun ⊢
   exact hun
  have ho2 : l[i]? = some o := by simpa using ho
  obtain ⟨s, hs⟩ : ∃ s, S[i]? = some s := ⟨S[i]'(by omega), List.getElem?_eq_getElem (by omega)⟩
  have hsd : ∀ j ∈ s.deps, ls.getD j false = true := fun j hj => by
   obtain ⟨e, he, h1, h2⟩ := depsB_spec hdeps hs ho2 j hj
   rw [← h1]
   exact haft e he h2
  have hdj : ∀ j ∈ s.deps, a.tmps[dAt S j]? = some (V j) := fun j hj => by
   have h1 := hsd j hj
   have hjl : j < l.length := by
    rcases Nat.lt_or_ge j ls.size with h | h
    ·rw [I.size] at h; exact h
    ·simp [Array.getD, Nat.not_lt.2 h] at h1
   have hs' : S[j]? = some (S[j]'(by omega)) := List.getElem?_eq_getElem (by omega)
   have := (I.has j _ hs' h1).1
   unfold dAt
   rw [hs']
   exact this
  have hA : Agr n (depE S s V ++ (E ++ snap a)) a := ⟨I.env.size, I.env.defers, fun t v h => by
   rw [lk_append] at h
   cases hx : lk (depE S s V) t with
   | some y =>
    rw [hx] at h
    cases h
    obtain ⟨j, hj, rfl, rfl⟩ := lk_map (D := V) hx
    exact hdj j hj
   | none =>
    rw [hx] at h
    simp only at h
    rw [lk_append] at h
    cases hy : lk E t with
    | some y => rw [hy] at h; cases h; exact I.env.get t _ hy
    | none => rw [hy] at h; simp only at h; rwa [lk_snap] at h⟩
  have h1 := (hstep.at hs ho2 V (snap a) _) a w hA I.sat
  have hnext : ∀ a' w', OneQ B n s.d (depE S s V ++ (E ++ snap a)) ((List.range l.length).flatMap (up ls Ps) ++ H) (s.rel (s.deps.map V)) .normal a' w' → wpAny P .any l.toArray Q k (ls.setIfInBounds i true) a' w' := fun a' w' h => by
   obtain ⟨_, v, Pi, hr, hA', hS'⟩ := h
   have keep : ∀ t x, t ≠ s.d → a.tmps[t]? = some x → a'.tmps[t]? = some x := fun t x ht hx => by
    obtain ⟨y, hy⟩ : ∃ y, lk (depE S s V ++ (E ++ snap a)) t = some y := by
     rw [lk_append]
     cases lk (depE S s V) t with
     | some y => exact ⟨y, rfl⟩
     | none =>
      simp only
      rw [lk_append]
      cases lk E t with
      | some y => exact ⟨y, rfl⟩
      | none => simp only; rw [lk_snap]; exact ⟨x, hx⟩
    have h2 := hA.get t y hy
    rw [hx] at h2
    cases h2
    refine hA'.get t x ?_
    rw [lk]
    have hb : Nat.beq s.d t = false := by
     cases hbb : Nat.beq s.d t with
     | true => exact absurd (Nat.eq_of_beq_eq_true hbb).symm ht
     | false => rfl
    rw [hb]
    exact hy
   have hVi : ∀ j s', S[j]? = some s' → ls.getD j false = true → s'.deps.map (fun x => if x = i then v else V x) = s'.deps.map V := fun j s' hs' hj => by
    refine List.map_congr_left fun x hx => if_neg fun e => ?_
    have := I.deps j s' hs' hj x hx
    rw [e, hun2] at this
    cases this
   have hVs : s.deps.map (fun x => if x = i then v else V x) = s.deps.map V := List.map_congr_left fun x hx => if_neg fun e => by
    have := hsd x hx
    rw [e, hun2] at this
    cases this
   refine ih (ls.setIfInBounds i true) a' w' (fun j => if j = i then v else V j) (fun j => if j = i then Pi else Ps j) ⟨by simp [I.size], ?_, ?_, ?_, ?_, ?_⟩
   ·have hp := flat_ins (i := i) (g := [()]) (f := lacks (ls.setIfInBounds i true)) (f' := lacks ls) (by unfold lacks; rw [getD_set_self hls]; rfl) (by unfold lacks; rw [hun2]; rfl) (fun j hj => by unfold lacks; rw [getD_set_ne false (Ne.symm hj)]) (List.range l.length) List.nodup_range (List.mem_range.2 hil)
    have h2 := hp.length_eq
    rw [List.length_append] at h2
    have := I.left
    simp only [List.length_cons, List.length_nil] at h2
    omega
   ·intro j s' hs' hj x hx
    by_cases hji : j = i
    ·subst hji
     rw [hs] at hs'
     cases hs'
     exact getD_set_true (hsd x hx)
    ·rw [getD_set_ne false (Ne.symm hji)] at hj
     exact getD_set_true (I.deps j s' hs' hj x hx)
   ·intro j s' hs' hj
    by_cases hji : j = i
    ·subst hji
     rw [hs] at hs'
     cases hs'
     rw [hVs]
     simp only [if_true]
     refine ⟨hA'.get _ _ ?_, hr⟩
     rw [lk, Nat.beq_refl]
     rfl
    ·rw [getD_set_ne false (Ne.symm hji)] at hj
     obtain ⟨h2, h3⟩ := I.has j s' hs' hj
     rw [hVi j s' hs' hj]
     simp only [if_neg hji]
     exact ⟨keep _ _ (fun e => hji (hinj j i s' s hs' hs e)) h2, h3⟩
   ·refine ⟨hA'.size, hA'.defers, fun t x hx => keep t x (fun e => ?_) (I.env.get t x hx)⟩
    rw [e, hE i s hs] at hx
    cases hx
   ·refine hS'.mono (star_perm ?_)
    rw [← List.append_assoc]
    exact List.Perm.append_right _ (flat_ins (by unfold up; rw [hun2]; rfl) (by unfold up; rw [getD_set_self hls]; simp) (fun j hj => by unfold up; rw [getD_set_ne false (Ne.symm hj)]; simp only [if_neg hj]) (List.range l.length) List.nodup_range (List.mem_range.2 hil))
  unfold wpOp
  simp only [ho]
  unfold wpN at h1
  split at h1
  ·rename_i hw
   rw [if_pos hw]
   exact .inl (wpO_mono (Q := OneQ B n s.d (depE S s V ++ (E ++ snap a)) ((List.range l.length).flatMap (up ls Ps) ++ H) (s.rel (s.deps.map V))) (fun c a w hq => by cases hq.1) (fun ⟨_, _, hq⟩ => by cases hq.1) (Oper.wp_mono (fun a' w' hk => hnext a' w' hk) h1))
  ·rename_i hw
   rw [if_neg hw]
   exact hnext _ _ h1
def injB : List Nat → Bool
 | [] => true
 | d :: L => !(L.any (Nat.beq d)) && injB L
theorem injB_spec : ∀ {L : List Nat} {i j d : Nat}, injB L = true → L[i]? = some d → L[j]? = some d → i = j
 | [], _, _, _, _, h, _ => by simp at h
 | x :: L, 0, 0, _, _, _, _ => rfl
 | x :: L, 0, j + 1, d, h, h1, h2 => by
  simp only [List.getElem?_cons_zero, Option.some.injEq, List.getElem?_cons_succ] at h1 h2
  subst h1
  simp only [injB, Bool.and_eq_true, Bool.not_eq_true'] at h
  have := List.any_eq_false.1 h.1 x (List.mem_of_getElem? h2)
  exact absurd (Nat.beq_refl x) this
 | x :: L, i + 1, 0, d, h, h1, h2 => by
  simp only [List.getElem?_cons_zero, Option.some.injEq, List.getElem?_cons_succ] at h1 h2
  subst h2
  simp only [injB, Bool.and_eq_true, Bool.not_eq_true'] at h
  have := List.any_eq_false.1 h.1 x (List.mem_of_getElem? h1)
  exact absurd (Nat.beq_refl x) this
 | x :: L, i + 1, j + 1, d, h, h1, h2 => by
  simp only [List.getElem?_cons_succ] at h1 h2
  simp only [injB, Bool.and_eq_true] at h
  rw [injB_spec h.2 h1 h2]
/-- A region whose order is open: each operation by itself; at the end all of them. -/
theorem CT.free {id : Nat} {l : List Oper} (S : List SpO) (hm : P.follows .mixedOrders = true) (hlen : S.length = l.length) (hback : backB 0 l = true) (hdeps : depsB S l = true) (hinj : injB (S.map SpO.d) = true) (hE : (S.all fun s => (lk E s.d).isNone) = true)
  (hstep : Steps B P n l S E S l)
  (fin : ∀ (V : Nat → Value) (Ps : Nat → List HP), (∀ (i : Nat) (s : SpO), S[i]? = some s → s.rel (s.deps.map V) (V i) (Ps i)) → AtQ B n (((List.range l.length).map fun i => (dAt S i, V i)) ++ E) ((List.range l.length).flatMap Ps ++ H) Q .normal)
  (hro : n.ro = none := by rfl) : CT B P n (.region id l.toArray true) E H Q := by
 intro a w hA hS
 rw [Fm.wide hro]
 refine wpIn_wide.2 ?_
 refine wp_region_any hm ?_
 refine free_any (B := B) (n := n) (E := E) (H := H) hlen hback hdeps (fun i j s s' h1 h2 h3 => ?_) (fun i s hs => ?_) hstep (fun V Ps a w h1 h2 h3 => fin V Ps (fun i s hs => (h1 i s hs).2) a w ⟨h2.size, h2.defers, fun t v h => ?_⟩ h3)
  _ _ _ _ (fun _ => undef) (fun _ => []) ⟨by simp, ?_, ?_, ?_, hA, ?_⟩
 ·refine injB_spec (d := s.d) hinj (by rw [List.getElem?_map, h1]; rfl) (by rw [List.getElem?_map, h2, h3]; rfl)
 ·have := List.all_eq_true.1 hE s (List.mem_of_getElem? hs)
  simpa using this
 ·rw [lk_append] at h
  cases hx : lk ((List.range l.length).map fun i => (dAt S i, V i)) t with
  | some y =>
   rw [hx] at h
   cases h
   obtain ⟨j, hj, rfl, rfl⟩ := lk_map (D := V) hx
   have hjl := List.mem_range.1 hj
   have hs' : S[j]? = some (S[j]'(by omega)) := List.getElem?_eq_getElem (by omega)
   have := (h1 j _ hs').1
   unfold dAt
   rw [hs']
   exact this
  | none => rw [hx] at h; exact h2.get t v h
 ·have : ∀ L : List Nat, (L.flatMap (lacks (Array.replicate l.length false))).length ≤ L.length := by
   intro L
   induction L with
   | nil => simp
   | cons j L ih =>
    rw [List.flatMap_cons, List.length_append, List.length_cons]
    unfold lacks
    split <;> simp only [List.length_nil, List.length_cons] <;> unfold lacks at ih <;> omega
  have h2 := this (List.range l.length)
  rw [List.length_range] at h2
  simpa using h2
 ·intro i s hs h
  exfalso
  rcases Nat.lt_or_ge i l.length with h2 | h2 <;> simp [Array.getD, h2] at h
 ·intro i s hs h
  exfalso
  rcases Nat.lt_or_ge i l.length with h2 | h2 <;> simp [Array.getD, h2] at h
 ·have e : (List.range l.length).flatMap (up (Array.replicate l.length false) fun _ => []) = [] := by
   rw [List.flatMap_eq_nil_iff]
   intro i _
   unfold up
   split <;> rfl
  rw [List.size_toArray, e]
  exact hS.drawn _
end
end Go.Sk
end
section
namespace Go.Sk
/-- The first region of a code. -/
def hd : Code → Nat
 | .region id _ _ => id
 | .seq a _ => hd a
 | .block _ c => hd c
 | .loop c => hd c
 | .rangeFunc _ _ a _ => hd a
 | _ => 0
end Go.Sk
end
section
namespace Go.Sk
open Go.RowKit
section
variable {B : World} {P : Program} {n : Fm} {m : Bool} {l0 rest : List Oper} {E : Env} {H R : List HP} {Q : Exit → Act → World → Prop} (T : Tab P)
variable {d : Nat} {ty : TypeId} {pos : String} {af : Array Edge} {g : Option (Nat × Bool)} {x y y' : Operand} {t t' : TypeId}
end
end Go.Sk
end
section
namespace Go.Sk
open Go.RowKit
section
variable {B : World} {P : Program} {n : Nat} {E : Env} {H R HH : List HP} {fn : Func} {Post : Value → List HP → Prop}
theorem res3 {fn : Func} {t u v : Nat} (h : fn.results = #[.tmp t, .tmp u, .tmp v]) (tmps : Array Value) (P : Program) (w : World) :
  (results fn tmps).run P w = .ok (.tuple #[tmps.getD t undef, tmps.getD u undef, tmps.getD v undef]) w := by
 simp [results, h]
theorem AtQ.f3 {t u s : Nat} {v1 v2 v3 u1 u2 u3 : Value} (hr : fn.results = #[.tmp t, .tmp u, .tmp s]) (he : lk E t = some v1) (he2 : lk E u = some v2) (he3 : lk E s = some v3) (h1 : v1 = u1) (h2 : v2 = u2) (h3 : v3 = u3) (hs : ∀ w, Sat B H w → Sat B (HH ++ R) w) :
  AtQ B (.mk0 n) E H (FinQ B P fn R (fun x H' => x = .tuple #[u1, u2, u3] ∧ H' = HH)) .ret := by
 subst h1 h2 h3
 intro a w hA hS
 refine bodyPost_ret (res3 hr _ _ _) hA.defers ⟨_, _, rfl, ⟨?_, rfl⟩, hs w hS⟩
 rw [show a.tmps.getD t undef = v1 by simp [Array.getD_eq_getD_getElem?, hA.get t v1 he], show a.tmps.getD u undef = v2 by simp [Array.getD_eq_getD_getElem?, hA.get u v2 he2], show a.tmps.getD s undef = v3 by simp [Array.getD_eq_getD_getElem?, hA.get s v3 he3]]
end
end Go.Sk
end
section
namespace Go.Sk
open Go.RowKit
section
variable {B : World} {P : Program} {n : Fm} {l0 rest : List Oper} {E : Env} {H R : List HP} {Q : Exit → Act → World → Prop} (T : Tab P)
variable {d : Nat} {ty : TypeId} {pos : String} {af : Array Edge} {g : Option (Nat × Bool)} {x y : Operand} {t : TypeId}
theorem RT.mk0 {e by_ c : Nat} {z : Value} {kl kc : IntKind} (hx : ev E x = some (.int kl 0)) (hy : ev E y = some (.int kc (c : Int))) (ht : al T.slcs t = some (e, 1, by_)) (hz : al T.zers e = some z) (hzs : z.cells.size = 1) (hby : by_ * c ≤ 281474976710656) (hc : c ≤ 140737488355328) (hw : wt l0 E g = some true) (hd : Nat.blt d n = true)
  (kt : ∀ a, RT B P n true l0 rest ((d, .slice a 0 c) :: E) (Own a c e 1 0 [] :: H) Q) : RT B P n true l0 (⟨some d, .makeSlice t x y, ty, pos, af, g⟩ :: rest) E H Q :=
 RT.eff hw fun o aa w K ho _ hdd hA hS hK => by
  obtain ⟨hu, i, hi, hisz, hiby⟩ := slcB_spec (T.slc ht)
  have hzi : i.zero = some z := by simpa [zerB, hi] using T.zer hz
  have hb' : (i.bytes : Int) * (c : Int) ≤ 281474976710656 := by
   rw [hiby]
   have h : ((by_ * c : Nat) : Int) ≤ 281474976710656 := by omega
   rwa [Int.natCast_mul] at h
  have hr := run_make (P := P) w t e i z hu hi hzi kl kc 0 c (Int.le_refl _) (by omega) hb' (by omega)
  simp only [Int.toNat_zero, Int.toNat_natCast] at hr
  unfold Oper.wp execOp
  simp only [ho, hA.ev hx, hA.ev hy, Sem.run_bind, hr, Result.andThen_ok, Sem.run_pure]
  simp only [Oper.upon, hdd]
  refine hK _ _ (kt _ _ _ (hA.put (by simpa [Nat.blt_eq] using hd) _) (hS.new rfl rfl rfl rfl fun h _ hb => ?_))
  exact ⟨rfl, Nat.zero_le _, by unfold maxLen; omega, .inr ⟨_, _, rfl, hb, by rw [hisz, size_madeCells, Nat.mul_one], by simp⟩⟩
end
end Go.Sk
end
section
namespace Go.Sk
open Go.RowKit
theorem asub_z (a : Option Addr) (c z : Nat) : asub a c z 0 = a := by
 unfold asub
 split
 ·rfl
 ·cases a with
  | none => rfl
  | some ad => simp [Addr.add]
end Go.Sk
end
section
namespace Go.Sk
open Go.RowKit
section
variable {B : World} {P : Program} {n : Fm} {m : Bool} {l0 rest : List Oper} {E : Env} {H : List HP} {Q : Exit → Act → World → Prop} {d : Nat} {ty t t' : TypeId} {pos : String} {af : Array Edge} {g : Option (Nat × Bool)} {x y : Operand}
theorem run_eqb {P : Program} {w : World} {t : TypeId} {b b' : Bool} (hu : P.underlying t = some .bool) : (Op.equal t (.bool b) (.bool b')).run P w = .ok (b == b') w := run_eqv fun d => by
 cases b <;> cases b' <;> (simp only [Op.equalIn, Sem.run_bind, run_underlying hu, Result.andThen_ok]; rfl)
theorem RT.eqb {b b' : Bool} (hu : P.underlying t = some .bool) (hx : ev E x = some (.bool b)) (hy : ev E y = some (.bool b')) (hw : wt l0 E g = some true) (hd : Nat.blt d n = true)
  (k1 : RT B P n m l0 rest ((d, .bool (b == b')) :: E) H Q) : RT B P n m l0 (⟨some d, .binOp .eql t x y t', ty, pos, af, g⟩ :: rest) E H Q := by
 have hy2 : Yld B P n E H (.binOp .eql t x y t') ty (.bool (b == b')) := y_run fun o aa w ho _ hA _ => by
  have h1 : binOp .eql t (.bool b) (.bool b') = (do pure (.bool (← Op.equal t (.bool b) (.bool b')))) := by cases b <;> cases b' <;> rfl
  have h2 : eqGuard .eql t x y (.bool b) (.bool b') = pure () := by cases b <;> cases b' <;> rfl
  unfold execOp
  simp only [ho, hA.ev hx, hA.ev hy, h1, h2, Sem.run_bind, Sem.run_pure, Result.andThen_ok, run_eqb hu]
 exact RT.y hw (by simpa [Nat.blt_eq] using hd) hy2 k1
end
end Go.Sk
end
section
namespace Go.Sk
open Go.RowKit

/-- What a loop's record holds, beside its state. -/
structure Lp where
 nn : Nat
 E : Env
 ps : Array Tmp
 assign : Code
 body : Code
 D : Nat
/-- Block l is that loop's record. -/
def Lo (l : Nat) (st : LoopState) (pe : Option Code) (x : Lp) : HP := fun h => ∃ r : Loop, h l = some (.loop r) ∧ r.state = st ∧ r.pending = pe ∧ r.params = x.ps ∧ r.assign = x.assign ∧ r.body = x.body ∧ r.defers = x.D ∧ Agr (.mk0 x.nn) x.E { tmps := r.tmps, defers := [] }
/-- Block D holds the deferred calls of rounds: none. -/
def Df (D : Nat) : HP := fun h => h D = some (.deferred (some []))
theorem Agr.to {n : Nat} {ds ds' : List Nat} {ro ro' : Option Nat} {E : Env} {a : Act} (h : Agr ⟨n, ds, ro, []⟩ E a) : Agr ⟨n, ds', ro', []⟩ E { a with defers := (Fm.mk n ds' ro' []).marks } := ⟨h.size, rfl, h.get⟩
section
variable {B : World} {P : Program} {n : Fm} {l0 rest : List Oper} {E : Env} {H R : List HP} {Q : Exit → Act → World → Prop}
theorem Lo.at_ {l : Nat} {st : LoopState} {pe : Option Code} {x : Lp} {w : World} (hS : Sat B H w) (hs : Sel H (Lo l st pe x) R) :
  ∃ r : Loop, w.heap[l]? = some (.loop r) ∧ r.state = st ∧ r.pending = pe ∧ r.params = x.ps ∧ r.assign = x.assign ∧ r.body = x.body ∧ r.defers = x.D ∧ Agr (.mk0 x.nn) x.E { tmps := r.tmps, defers := [] } := by
 obtain ⟨h, a, r, h1, h2⟩ := (hS.sel hs).head
 exact ⟨r, (a l _ h1).1, h2⟩
theorem Lo.set {l : Nat} {st st' : LoopState} {pe pe' : Option Code} {x : Lp} {w : World} {H' : List HP} {r : Loop} (hS : Sat B H w) (hr : Rep H (Lo l st pe x) (Lo l st' pe' x) H') (h : w.heap[l]? = some (.loop r)) :
  Sat B H' (w.putObj l (.loop { r with state := st', pending := pe' })) := by
 have hlt : l < w.heap.size := (Array.getElem?_eq_some_iff.1 h).1
 refine hS.upd hr (o' := .loop { r with state := st', pending := pe' }) (b := l) (fun h ⟨r, h1, _⟩ => ⟨_, h1⟩) (fun h1 h2 hp _ h3 => ?_) rfl rfl rfl (World.putObj_size) (World.putObj_heap_same hlt) (fun x hx => World.putObj_heap_other hx)
 exact ⟨_, h3, rfl, rfl, by
  obtain ⟨R, s1, _⟩ := hr.sel
  obtain ⟨r', h4, h5⟩ := Lo.at_ hS s1
  rw [h] at h4
  cases h4
  exact h5.2.2⟩
theorem Df.at_ {D : Nat} {w : World} (hS : Sat B H w) (hs : Sel H (Df D) R) : w.heap[D]? = some (.deferred (some [])) := by
 obtain ⟨h, a, h1⟩ := (hS.sel hs).head
 exact (a D _ h1).1
/-- A call of yield l at these values, from the pieces H. -/
def YJ (B : World) (P : Program) (l : Nat) (vs : List Value) (H : List HP) (Post : Bool → List HP → Prop) : Prop :=
 ∀ w, Sat B H w → ∃ fn tmps assign body, (Instr.yield l vs.toArray).run P w = .ok (.round l fn tmps assign body) w ∧
  RoundIn Fence.wide 0 P l fn tmps assign body w fun e w' => ∃ b H', e = .returned (.bool b) ∧ Post b H' ∧ Sat B H' w'
theorem YJ.mono {l : Nat} {vs : List Value} {Post Post' : Bool → List HP → Prop} (h : YJ B P l vs H Post) (hm : ∀ b H', Post b H' → Post' b H') : YJ B P l vs H Post' := fun w hS =>
 let ⟨fn, tmps, assign, body, h1, h2⟩ := h w hS
 ⟨fn, tmps, assign, body, h1, h2.mono fun _ _ ⟨b, H', a, c, d⟩ => ⟨b, H', a, hm _ _ c, d⟩⟩
def RndQ (B : World) (P : Program) (l : Nat) (Post : Bool → List HP → Prop) : Exit → Act → World → Prop := roundPost P l fun e w' => ∃ b H', e = .returned (.bool b) ∧ Post b H' ∧ Sat B H' w'
def AsgQ (B : World) (n : Fm) (E1 : Env) (H : List HP) : Exit → Act → World → Prop := Exit.then (fun a w => Agr n E1 a ∧ Sat B H w) (fun _ _ _ => False)
/-- A round, walked: the assignment, then the body. -/
theorem YJ.of {l : Nat} {x : Lp} {nn D : Nat} {E0 : Env} {p : Tmp} {assign body : Code} {v : Value} {E1 : Env} {H1 : List HP} {pe : Option Code} {Post : Bool → List HP → Prop} (hx : x = ⟨nn, E0, #[p], assign, body, D⟩) (hp : Nat.blt p nn = true) (hr : Rep H (Lo l .ready pe x) (Lo l .busy pe x) H1)
  (ha : CT B P ⟨nn, [], some l, []⟩ assign ((p, v) :: E0) H (AsgQ B ⟨nn, [], some l, []⟩ E1 H)) (hb : CT B P ⟨nn, [], some l, []⟩ body E1 H1 (RndQ B P l Post)) : YJ B P l [v] H Post := by
 intro w hS
 obtain ⟨R, s1, _⟩ := hr.sel
 obtain ⟨r, h1, h2, h3, h4, h5, h6, h7, h8⟩ := Lo.at_ hS s1
 have hps : x.ps = #[p] := by rw [hx]
 refine ⟨r.fn, _, _, _, run_yield h1 (by rw [h4, hps]; rfl), roundIn_of_wpIn trivial ?_⟩
 have hA : Agr ⟨nn, [], some l, []⟩ ((p, v) :: E0) { tmps := (r.params.zip [v].toArray).foldl (fun tmps (t, a) => tmps.setIfInBounds t a) r.tmps, defers := [] } := by
  rw [h4, hps]
  rw [hx] at h8
  have := h8.put (show p < nn by simpa [Nat.blt_eq] using hp) v
  have e : (#[p].zip [v].toArray).foldl (fun tmps (t, a) => tmps.setIfInBounds t a) r.tmps = r.tmps.setIfInBounds p v := by simp
  rw [e]
  exact ⟨this.size, rfl, this.get⟩
 rw [h5, h6, show x.assign = assign by rw [hx], show x.body = body by rw [hx]]
 refine wpIn_mono (ha _ w hA hS) ?_
 intro e a1 w1 hq
 cases e <;> try exact hq
 obtain ⟨hA1, hS1⟩ := hq
 obtain ⟨r1, g1, g2, g3, _⟩ := Lo.at_ hS1 s1
 refine ⟨_, run_beginRound g1 g2, hb a1 _ hA1 ?_⟩
 have := Lo.set (st' := .busy) (pe' := pe) hS1 hr g1
 rw [← g3] at this
 exact this
/-! ### a list of operations with a call of yield in it -/
/-! ### the statement -/
/-- What the iterator leaves: the record not busy; then on behind the statement, or by the round's jump. -/
def Lft (B : World) (P : Program) (n : Fm) (l : Nat) (x : Lp) (E : Env) (Q : Exit → Act → World → Prop) (H' : List HP) : Prop :=
 (∃ H1, Rep H' (Lo l .ready none x) (Lo l .exhausted none x) H1 ∧ AtQ B n E H1 Q .normal) ∨ ∃ c H1, Rep H' (Lo l .done (some c) x) (Lo l .exhausted (some c) x) H1 ∧ CT B P n c E H1 Q
theorem Lft.fin {l : Nat} {x : Lp} {H' H1 : List HP} (hr : Rep H' (Lo l .ready none x) (Lo l .exhausted none x) H1) (hq : AtQ B n E H1 Q .normal) : Lft B P n l x E Q H' := .inl ⟨H1, hr, hq⟩
end
end Go.Sk
end
section
namespace Go.Sk
open Go.RowKit
section
variable {B : World} {P : Program} {n : Fm} {E : Env} {H R : List HP} {Q : Exit → Act → World → Prop}
end
theorem Sp.weak {B : World} {P : Program} {f : FuncId} {vs : List Value} {R Pre Pre' : List HP} {Post : Value → List HP → Prop} (hm : ∀ w, Sat B (Pre ++ R) w → Sat B (Pre' ++ R) w) (h : Sp B P f vs R Pre' Post) : Sp B P f vs R Pre Post := fun w hS => h w (hm w hS)
/-! ### leaving with marks -/
def FinQM (B : World) (P : Program) (fn : Func) (R : List HP) (Post : Value → List HP → Prop) : Exit → Act → World → Prop :=
 bodyPostM Fence.wide 0 P fn fun e w' => ∃ v H', e = .returned v ∧ Post v H' ∧ Sat B (H' ++ R) w'
theorem Sp.bodyM {B : World} {P : Program} {f : FuncId} {fn : Func} {c : Code} {n : Nat} {vs : List Value} {R Pre : List HP} {Post : Value → List HP → Prop}
  (hf : P.funcs[f]? = some fn) (hb : fn.body = some c) (hn : fn.ntmps = n) (hl : vs.length ≤ n)
  (h : CT B P (.mk0 n) c (argE 0 vs) (Pre ++ R) (FinQM B P fn R Post)) : Sp B P f vs R Pre Post := by
 intro w hS
 refine callsIn_wide.1 (callsIn_of_wp_marks (n := 0) hf hb trivial (h _ w ⟨?_, rfl, fun t v e => ?_⟩ hS))
 ·simp [hn]; omega
 ·obtain ⟨_, e'⟩ := argE_lk vs 0 t v e
  have : t < vs.length := (List.getElem?_eq_some_iff.1 (by simpa using e')).1
  rw [Array.getElem?_append_left (by simpa using this)]
  simpa using e'
section
variable {B : World} {P : Program} {E : Env} {H H1 R : List HP} {fn : Func} {Post : Value → List HP → Prop} {nn : Nat}
theorem leaves_marks {tmps : Array Value} {RR : Ending → World → Prop} : ∀ (ds : List Nat) (w : World), Sat B (ds.map Df ++ H1) w → (∀ w, Sat B H1 w → ∃ v, (results fn tmps).run P w = .ok v w ∧ RR (.returned v) w) →
  LeavesInM Fence.wide 0 P fn tmps RR (ds.map fun D => { target := .collected D, args := #[] }) .returning w
 | [], w, hS, hk => hk w hS
 | D :: ds, w, hS, hk => by
  have h1 := Df.at_ hS .h
  have hlt : D < w.heap.size := (Array.getElem?_eq_some_iff.1 h1).1
  refine ⟨fun h => (by cases h), .inl ⟨D, _, rfl, run_takeDeferred h1, leaves_marks ds _ ?_ hk⟩⟩
  exact (hS.upd (w' := w.putObj D (.deferred none)) (p' := fun _ => True) .h (o' := .deferred none) (b := D) (fun h e => ⟨_, e⟩) (fun _ _ _ _ _ => trivial) rfl rfl rfl World.putObj_size (World.putObj_heap_same hlt) (fun x hx => World.putObj_heap_other hx)).tail
theorem AtQ.finM {ds : List Nat} {v : Value} {H' : List HP} (hs : ∀ w, Sat B H w → Sat B (ds.map Df ++ H1) w) (hres : ∀ a w, Agr ⟨nn, ds, none, []⟩ E a → Sat B H1 w → (results fn a.tmps).run P w = .ok v w)
  (hp : Post v H') (hs1 : ∀ w, Sat B H1 w → Sat B (H' ++ R) w) {ex : Exit} (hex : ex = .normal ∨ ex = .ret) : AtQ B ⟨nn, ds, none, []⟩ E H (FinQM B P fn R Post) ex := by
 intro a w hA hS
 have : LeavesInM Fence.wide 0 P fn a.tmps (fun e w' => ∃ v H', e = .returned v ∧ Post v H' ∧ Sat B (H' ++ R) w') a.defers .returning w := by
  rw [hA.defers]
  exact leaves_marks ds w (hs w hS) fun w' hS' => ⟨v, hres a w' hA hS', v, H', rfl, hp, hs1 w' hS'⟩
 rcases hex with rfl | rfl <;> exact this
end
end Go.Sk
end
section
namespace Go.Sk
open Go.RowKit
theorem foldSet : ∀ (cs : List Value) (j0 off : Nat) (cells : Array Value), off + j0 + cs.length ≤ cells.size →
  (List.foldl (fun (a : Array Value) (x : Value × Nat) => a.setIfInBounds (off + x.2) x.1) cells (cs.zipIdx j0)).toList = cells.toList.take (off + j0) ++ cs ++ cells.toList.drop (off + j0 + cs.length)
 | [], j0, off, cells, h => by simp
 | c :: cs, j0, off, cells, h => by
  rw [List.length_cons] at h
  rw [List.zipIdx_cons, List.foldl_cons, foldSet cs (j0 + 1) off _ (by simp; omega)]
  simp only [Array.toList_setIfInBounds, List.length_cons]
  rw [List.drop_set_of_lt (by omega), show off + (j0 + 1) = (off + j0) + 1 by omega, List.take_succ_eq_append_getElem (by simp; omega), List.take_set_of_le (Nat.le_refl _), List.getElem_set_self]
  simp [Nat.add_assoc, Nat.add_comm 1]
theorem fold_cells (cs : Array Value) (off : Nat) (cells : Array Value) (h : off + cs.size ≤ cells.size) :
  Array.foldl (fun (a : Array Value) (x : Value × Nat) => a.setIfInBounds (off + x.2) x.1) cells cs.zipIdx = (cells.toList.take off ++ cs.toList ++ cells.toList.drop (off + cs.size)).toArray := by
 apply Array.toList_inj.1
 rw [← Array.foldl_toList, Array.toList_zipIdx, foldSet cs.toList 0 off cells (by simpa using h)]
 simp
def rowA (E : Env) (z : Nat) : Nat → List (Nat × Operand) → Option (List Value)
 | _, [] => some []
 | k, (i, x) :: ps => bif Nat.beq i k then (match ev E x with
   | some (.agg cs) => bif Nat.beq cs.size z then (match rowA E z (k + 1) ps with
     | some l => some (cs.toList ++ l)
     | none => none) else none
   | _ => none) else none
variable {B : World} {P : Program} {n : Fm} {m : Bool} {l0 rest : List Oper} {E : Env} {H R : List HP} {Q : Exit → Act → World → Prop}
theorem rowA_spec {a : Act} {z : Nat} (hA : Agr n E a) : ∀ (ps : List (Nat × Operand)) (k : Nat) (l : List Value), rowA E z k ps = some l →
  l.length = ps.length * z ∧ ∀ (cells : Array Value), (k + ps.length) * z ≤ cells.size → Instr.fill (fun i => some (i * z, z)) cells (ps.map fun (i, x) => (i, a.eval x)) = some (cells.toList.take (k * z) ++ l ++ cells.toList.drop ((k + ps.length) * z)).toArray
 | [], k, l, h => by
  cases h
  exact ⟨by simp, fun cells _ => by simp [Instr.fill]⟩
 | (i, x) :: ps, k, l, h => by
  simp only [rowA] at h
  cases hb : Nat.beq i k with
  | false => rw [hb] at h; cases h
  | true =>
  rw [hb, cond_true] at h
  obtain rfl := Nat.eq_of_beq_eq_true hb
  split at h
  ·rename_i cs hv
   cases hz : Nat.beq cs.size z with
   | false => rw [hz] at h; cases h
   | true =>
   rw [hz, cond_true] at h
   obtain rfl := Nat.eq_of_beq_eq_true hz
   split at h
   ·rename_i l' hl'
    cases h
    obtain ⟨e1, e2⟩ := rowA_spec hA ps (i + 1) l' hl'
    refine ⟨by simp [e1, Nat.succ_mul, Nat.add_comm], fun cells hc => ?_⟩
    have hm : (i + (ps.length + 1)) * cs.size = i * cs.size + cs.size + ps.length * cs.size := by simp [Nat.add_mul]; omega
    have hm2 : (i + 1 + ps.length) * cs.size = i * cs.size + cs.size + ps.length * cs.size := by simp [Nat.add_mul]
    have hm3 : (i + 1) * cs.size = i * cs.size + cs.size := by simp [Nat.add_mul]
    simp only [List.length_cons] at hc ⊢
    rw [hm] at hc ⊢
    have hlen : (cells.toList.take (i * cs.size) ++ cs.toList ++ cells.toList.drop (i * cs.size + cs.size)).length = cells.size := by
     simp only [List.length_append, List.length_take, List.length_drop, Array.length_toList]; omega
    have htk : (cells.toList.take (i * cs.size) ++ cs.toList).length = i * cs.size + cs.size := by
     simp only [List.length_append, List.length_take, Array.length_toList]; omega
    simp only [List.map_cons, Instr.fill, hA.ev hv]
    rw [if_neg (by simp [Value.cells]; omega)]
    have hf := fold_cells cs (i * cs.size) cells (by omega)
    simp only [Value.cells] at hf ⊢
    rw [hf, e2 _ (by rw [hm2]; simp only [List.size_toArray, hlen]; omega), hm2, hm3]
    have hd : ∀ (A C : List Value) (k : Nat), (A ++ C).drop (A.length + k) = C.drop k := fun A C k => by rw [← List.drop_drop, List.drop_left]
    congr 2
    have h1 : (List.take (i * cs.size) cells.toList ++ cs.toList ++ List.drop (i * cs.size + cs.size) cells.toList).take (i * cs.size + cs.size) = List.take (i * cs.size) cells.toList ++ cs.toList := by rw [← htk, List.take_left]
    have h2 : (List.take (i * cs.size) cells.toList ++ cs.toList ++ List.drop (i * cs.size + cs.size) cells.toList).drop (i * cs.size + cs.size + ps.length * cs.size) = cells.toList.drop (i * cs.size + cs.size + ps.length * cs.size) := by
     have h3 := hd (List.take (i * cs.size) cells.toList ++ cs.toList) (List.drop (i * cs.size + cs.size) cells.toList) (ps.length * cs.size)
     rw [htk] at h3
     rw [h3, List.drop_drop]
    rw [h1, h2, List.append_assoc _ cs.toList l']
   ·cases h
  ·cases h
theorem run_bsA {w : World} {t e z bb k : Nat} {z0 : Value} {vs : List (Nat × Value)} {l : List Value} (ht : slcB P t = some (e, z, bb)) (hz : zerB P e = some z0) (hk : l.length = k * z) (hk0 : 0 < k * z) (hl : k * z ≤ 16777216)
  (hf : ∀ cells : Array Value, cells.size = k * z → Instr.fill (fun i => some (i * z, z)) cells vs = some l.toArray) :
  (Instr.buildSlice t k vs.toArray).run P w = .ok (.slice (some ⟨w.heap.size, 0, none⟩) k k) (w.alloc (.cells l.toArray e)) := by
 obtain ⟨hu, i, hi, hsz, _⟩ := slcB_spec ht
 have hs : (sizeOf e).run P w = .ok z w := run_sizeB (by simp [sizeB, hi, hsz])
 have hz1 := zerB_spec (P := P) (w := w) hz
 have hbig : ¬ (k * z > 2 ^ 24) := by omega
 simp only [Instr.buildSlice, Sem.run_bind, run_underlying hu, Result.andThen_ok, hs, if_neg hbig, Sem.run_pure]
 have h0 : ¬ k * z = 0 := by omega
 simp only [h0, if_false, Sem.run_bind, hz1, Result.andThen_ok, Sem.run_pure]
 have := hf (Array.map (fun x => z0.cells[x % z0.cells.size]!) (Array.range (k * z))) (by simp)
 simp only [this, newRow, Sem.run_bind]
 rfl
variable (T : Tab P) {d : Nat} {ty : TypeId} {pos : String} {af : Array Edge} {g : Option (Nat × Bool)} {t : TypeId}
/-- A slice's literal, of values of z cells each. -/
theorem RT.bsA {e bb k z : Nat} {z0 : Value} {parts : List (Nat × Operand)} {l : List Value} (hl : rowA E z 0 parts = some l) (hk : parts.length = k) (ht : al T.slcs t = some (e, z, bb)) (hz : al T.zers e = some z0) (hk0 : Nat.blt 0 (k * z) = true) (hlen : Nat.ble (k * z) 16777216 = true) (hw : wt l0 E g = some true) (hd : Nat.blt d n = true)
  (kt : ∀ a, RT B P n true l0 rest ((d, .slice a k k) :: E) (Own a k e z k l :: H) Q) : RT B P n true l0 (⟨some d, .buildSlice t k parts.toArray, ty, pos, af, g⟩ :: rest) E H Q :=
 RT.eff hw fun o aa w K ho _ hdd hA hS hK => by
  subst hk
  have hle : parts.length * z ≤ 16777216 := by simpa [Nat.ble_eq] using hlen
  have h00 : 0 < parts.length * z := by simpa [Nat.blt_eq] using hk0
  have hzp : 1 ≤ z := by
   rcases Nat.eq_zero_or_pos z with h | h
   ·rw [h, Nat.mul_zero] at h00; omega
   ·exact h
  have hpl : parts.length ≤ parts.length * z := Nat.le_mul_of_pos_right _ hzp
  obtain ⟨e1, e3⟩ := rowA_spec hA parts 0 l hl
  have hrun := run_bsA (P := P) (w := w) (vs := parts.map fun (i, x) => (i, aa.eval x)) (l := l) (T.slc ht) (T.zer hz) e1 h00 hle (fun cells hc => by
   rw [e3 cells (by rw [Nat.zero_add]; omega)]
   simp only [Nat.zero_mul, List.take_zero, List.nil_append, Nat.zero_add]
   rw [List.drop_eq_nil_of_le (by simp; omega), List.append_nil])
  unfold Oper.wp execOp
  have hm : (parts.toArray.map fun (i, x) => (i, aa.eval x)) = (parts.map fun (i, x) => (i, aa.eval x)).toArray := by simp
  simp only [ho, Sem.run_bind]
  rw [hm, hrun]
  simp only [Result.andThen_ok, Sem.run_pure, Oper.upon, hdd]
  refine hK _ _ (kt _ _ _ (hA.put (by simpa [Nat.blt_eq] using hd) _) (hS.new rfl rfl rfl rfl fun h _ hb => ?_))
  exact ⟨e1, Nat.le_refl _, by unfold maxLen; omega, .inr ⟨_, _, rfl, hb, by simp [e1], by rw [← e1]; simp⟩⟩
variable {fn : Func} {Post : Value → List HP → Prop} {nn : Nat} {H1 : List HP}
theorem res_agg {P : Program} (T : Tab P) {t ty b e z : Nat} {l : List Value} {R2 : List HP} {n : Fm} (hr : fn.results = #[.cell t ty]) (he : lk E t = some (.pointer (some ⟨b, 0, none⟩))) (ht : al T.szs ty = some (z, true)) (hz : l.length = z) (hs : Sel H1 (Cs b e l) R2) :
  ∀ a w, Agr n E a → Sat B H1 w → (results fn a.tmps).run P w = .ok (.agg l.toArray) w := fun a w hA hS => by
 subst hz
 have hg : a.tmps.getD t undef = .pointer (some ⟨b, 0, none⟩) := by simp [Array.getD_eq_getD_getElem?, hA.get t _ he]
 have hc : ∀ j v, l[j]? = some v → w.cell? ((⟨b, 0, none⟩ : Addr).add j) = some v := fun j v hj => by
  have : (⟨b, 0, none⟩ : Addr).add j = ⟨b, j, none⟩ := by unfold Addr.add; split <;> simp_all
  rw [this]; exact (cs_cell (hS.cs hs).1 j).trans hj
 have hl : (loadVar ty ⟨b, 0, none⟩).run P w = .ok (.agg l.toArray) w := by
  simp only [loadVar, Sem.run_bind, run_isAggB (T.sz ht).2, run_sizeB (T.sz ht).1, if_true, Result.andThen_ok, run_loadCells_list w _ l hc, Sem.run_pure]
 unfold results
 rw [hr]
 simp only [List.mapM_toArray, List.mapM_cons, List.mapM_nil, hg, asAddr, Sem.run_bind, Sem.run_pure, Result.andThen_ok, bind_assoc, pure_bind, map_eq_pure_bind, Sem.run_map, hl]
 rfl
/-- The end of a function whose result lies in a variable of several cells. -/
theorem AtQ.finA {P : Program} (T : Tab P) {t ty b e z : Nat} {l : List Value} {R2 H' : List HP} (hr : fn.results = #[.cell t ty]) (he : lk E t = some (.pointer (some ⟨b, 0, none⟩))) (ht : al T.szs ty = some (z, true)) (hz : l.length = z) (hsel : Sel H (Cs b e l) R2)
  (hp : Post (.agg l.toArray) H') (hs : ∀ w, Sat B H w → Sat B (H' ++ R) w) {ex : Exit} (hex : ex = .normal ∨ ex = .ret) :
  AtQ B (.mk0 nn) E H (FinQM B P fn R Post) ex := AtQ.finM (ds := []) (H1 := H) (fun _ h => h) (res_agg T hr he ht hz hsel) hp hs hex
end Go.Sk
end
section
namespace Go.Sk
open Go.RowKit
/-- The result: a variable of several cells, and a slot. -/
theorem res_aggT {B : World} {P : Program} (T : Tab P) {E : Env} {H1 : List HP} {fn : Func} {t ty b e z t2 : Nat} {l : List Value} {v2 : Value} {R2 : List HP} {n : Fm} (hr : fn.results = #[.cell t ty, .tmp t2]) (he : lk E t = some (.pointer (some ⟨b, 0, none⟩))) (he2 : lk E t2 = some v2) (ht : al T.szs ty = some (z, true)) (hz : l.length = z) (hs : Sel H1 (Cs b e l) R2) :
  ∀ a w, Agr n E a → Sat B H1 w → (results fn a.tmps).run P w = .ok (.tuple #[.agg l.toArray, v2]) w := fun a w hA hS => by
 subst hz
 have hg : a.tmps.getD t undef = .pointer (some ⟨b, 0, none⟩) := by simp [Array.getD_eq_getD_getElem?, hA.get t _ he]
 have hg2 : a.tmps.getD t2 undef = v2 := by simp [Array.getD_eq_getD_getElem?, hA.get t2 _ he2]
 have hc : ∀ j v, l[j]? = some v → w.cell? ((⟨b, 0, none⟩ : Addr).add j) = some v := fun j v hj => by
  have : (⟨b, 0, none⟩ : Addr).add j = ⟨b, j, none⟩ := by unfold Addr.add; split <;> simp_all
  rw [this]; exact (cs_cell (hS.cs hs).1 j).trans hj
 have hl : (loadVar ty ⟨b, 0, none⟩).run P w = .ok (.agg l.toArray) w := by
  simp only [loadVar, Sem.run_bind, run_isAggB (T.sz ht).2, run_sizeB (T.sz ht).1, if_true, Result.andThen_ok, run_loadCells_list w _ l hc, Sem.run_pure]
 unfold results
 rw [hr]
 simp only [List.mapM_toArray, List.mapM_cons, List.mapM_nil, hg, hg2, asAddr, Sem.run_bind, Sem.run_pure, Result.andThen_ok, bind_assoc, pure_bind, map_eq_pure_bind, Sem.run_map, hl]
 rfl
theorem AtQ.finAT {B : World} {R : List HP} {P : Program} (T : Tab P) {E : Env} {H : List HP} {fn : Func} {Post : Value → List HP → Prop} {nn t ty b e z t2 : Nat} {l : List Value} {v2 : Value} {R2 H' : List HP} (hr : fn.results = #[.cell t ty, .tmp t2]) (he : lk E t = some (.pointer (some ⟨b, 0, none⟩))) (he2 : lk E t2 = some v2) (ht : al T.szs ty = some (z, true)) (hz : l.length = z) (hsel : Sel H (Cs b e l) R2)
  (hp : Post (.tuple #[.agg l.toArray, v2]) H') (hs : ∀ w, Sat B H w → Sat B (H' ++ R) w) {ex : Exit} (hex : ex = .normal ∨ ex = .ret) :
  AtQ B (.mk0 nn) E H (FinQM B P fn R Post) ex := AtQ.finM (ds := []) (H1 := H) (fun _ h => h) (res_aggT T hr he he2 ht hz hsel) hp hs hex
section
variable {B : World} {P : Program} {n : Fm} {l0 rest : List Oper} {E : Env} {H : List HP} {Q : Exit → Act → World → Prop} (T : Tab P)
variable {pos : String} {af : Array Edge} {g : Option (Nat × Bool)} {x y : Operand} {t ty : TypeId}
/-- A whole struct into a whole variable. -/
theorem RT.staggW {b z : Nat} {e : TypeId} {l v : List Value} {H' : List HP} (hx : ev E x = some (.pointer (some ⟨b, 0, none⟩))) (hy : ev E y = some (.agg v.toArray)) (h1 : v.all (fun u => u.oneCell') = true)
  (hr : Rep H (Cs b e l) (Cs b e v) H') (hl : v.length = l.length) (hz : v.length = z) (ht : al T.szs t = some (z, true)) (hw : wt l0 E g = some true)
  (k : RT B P n true l0 rest E H' Q) : RT B P n true l0 (⟨none, .store t x y, ty, pos, af, g⟩ :: rest) E H Q :=
 RT.stagg T hx hy h1 hr (by simp [hl]) (by simp [Nat.ble_eq, hl]) hz ht hw k
end
theorem star_rot {p : HP} : ∀ {L : List HP} {h : PH}, star (p :: L) h → star (L ++ [p]) h
 | [], _, s => s
 | _ :: L, _, s => star_cons_mono (fun _ hs => star_rot (L := L) hs) (star_swap s)
theorem star_comm : ∀ {A C : List HP} {h : PH}, star (A ++ C) h → star (C ++ A) h
 | [], C, _, s => by rw [List.append_nil]; exact s
 | p :: A, C, h, s => by
  have h1 : star (A ++ (C ++ [p])) h := by
   have := star_rot (p := p) (L := A ++ C) s
   rwa [List.append_assoc] at this
  have := star_comm h1
  rw [List.append_assoc] at this
  exact this
section
variable {B : World} {P : Program} {n : Fm} {E : Env} {H R : List HP} {Q : Exit → Act → World → Prop}
end
end Go.Sk
end
section
namespace Go.Sk
open Go.RowKit
theorem star_glue : ∀ (A : List HP) {C : List HP} {h h1 h2 : PH}, Dj h1 h2 → Le h1 h → Le h2 h → star A h1 → star C h2 → star (A ++ C) h
 | [], C, _, _, _, _, _, l2, _, c => star_up C l2 c
 | _ :: A, C, h, h1, h2, d, l1, l2, ⟨x, y, dxy, lx, ly, hp, hA⟩, hC =>
  ⟨x, Un y h2, (Un.dj dxy.symm (d.mono lx (Le.refl _)).symm).symm, lx.trans l1, Un.le (ly.trans l1) l2, hp, star_glue A (d.mono ly (Le.refl _)) (Un.left _ _) (Un.right (d.mono ly (Le.refl _))) hA hC⟩
theorem star_cut : ∀ (A : List HP) {C : List HP} {h : PH}, star (A ++ C) h → ∃ h1 h2, Dj h1 h2 ∧ Le h1 h ∧ Le h2 h ∧ star A h1 ∧ star C h2
 | [], C, h, s => ⟨fun _ => none, h, fun _ => .inl rfl, fun _ _ e => (by cases e), Le.refl _, trivial, s⟩
 | _ :: A, C, h, ⟨x, y, d, lx, ly, hp, s⟩ =>
  let ⟨h1, h2, d', l1, l2, a, c⟩ := star_cut A s
  ⟨Un x h1, h2, Un.dj (d.mono (Le.refl _) l2) d', Un.le lx (l1.trans ly), l2.trans ly, ⟨x, h1, d.mono (Le.refl _) l1, Un.left _ _, Un.right (d.mono (Le.refl _) l1), hp, a⟩, c⟩
theorem star_mdl {p : HP} : ∀ {A C : List HP} {h : PH}, star (A ++ p :: C) h → star (p :: (A ++ C)) h
 | [], _, _, s => s
 | _ :: A, _, _, s => star_swap (star_cons_mono (fun _ hs => star_mdl (A := A) hs) s)
theorem star_mdr {p : HP} : ∀ {A C : List HP} {h : PH}, star (p :: (A ++ C)) h → star (A ++ p :: C) h
 | [], _, _, s => s
 | _ :: A, _, _, s => star_cons_mono (fun _ hs => star_mdr (A := A) hs) (star_swap s)
/-- Several pieces as one. -/
def Bag (ps : List HP) : HP := star ps
section
variable {B : World} {R : List HP} {w : World}
theorem Bag.open_ {ps : List HP} (s : Sat B (Bag ps :: R) w) : Sat B (ps ++ R) w := s.mono fun _ ⟨_, _, d, l1, l2, a, c⟩ => star_glue ps d l1 l2 a c
theorem Bag.close {ps : List HP} (s : Sat B (ps ++ R) w) : Sat B (Bag ps :: R) w := s.mono fun _ hs =>
 let ⟨h1, h2, d, l1, l2, a, c⟩ := star_cut ps hs
 ⟨h1, h2, d, l1, l2, a, c⟩
theorem Bag.nil_ (s : Sat B R w) : Sat B (Bag [] :: R) w := Bag.close s
/-- The first piece out of a bag. -/
theorem Bag.head {p : HP} {ps : List HP} (s : Sat B (Bag (p :: ps) :: R) w) : Sat B (p :: Bag ps :: R) w := by
 have h : Sat B (p :: (ps ++ R)) w := Bag.open_ s
 exact h.mono fun _ hs => star_cons_mono (fun h' hs' => by
  obtain ⟨h1, h2, d, l1, l2, a, c⟩ := star_cut ps hs'
  exact ⟨h1, h2, d, l1, l2, a, c⟩) hs
/-- A piece into a bag, behind all others. -/
theorem Bag.push {p : HP} {ps : List HP} (s : Sat B (p :: Bag ps :: R) w) : Sat B (Bag (ps ++ [p]) :: R) w := by
 refine Bag.close (s.mono fun h hs => ?_)
 have h1 : star (p :: (ps ++ R)) h := star_cons_mono (R := Bag ps :: R) (fun h' hs' => by
  obtain ⟨h1, h2, d, l1, l2, a, c⟩ := hs'
  exact star_glue ps d l1 l2 a c) hs
 rw [List.append_assoc]
 exact star_mdr h1
/-- The piece number i of a bag. -/
theorem Bag.at_ {ps : List HP} {i : Nat} {p : HP} (hp : ps[i]? = some p) (s : Sat B (Bag ps :: R) w) : Sat B (p :: Bag (ps.eraseIdx i) :: R) w := by
 obtain ⟨hi, rfl⟩ := List.getElem?_eq_some_iff.1 hp
 have h := Bag.open_ s
 have e : ps = ps.take i ++ ps[i] :: ps.drop (i + 1) := by rw [← List.drop_eq_getElem_cons hi, List.take_append_drop]
 refine h.mono fun h' hs => ?_
 rw [e, List.append_assoc] at hs
 have h2 : star (ps[i] :: (ps.take i ++ (ps.drop (i + 1) ++ R))) h' := star_mdl hs
 refine star_cons_mono (fun h3 hs3 => ?_) h2
 rw [List.eraseIdx_eq_take_drop_succ]
 rw [← List.append_assoc] at hs3
 obtain ⟨h1, h2, d, l1, l2, a, c⟩ := star_cut _ hs3
 exact ⟨h1, h2, d, l1, l2, a, c⟩
theorem Rd.bag {ps : List HP} {i : Nat} {p : HP} {a : Option Addr} {k c sz : Nat} {xs : List Value} (hp : ps[i]? = some p) (h : Rd B (p :: Bag (ps.eraseIdx i) :: R) a k c sz xs) : Rd B (Bag ps :: R) a k c sz xs := h.weak fun _ hs => Bag.at_ hp hs
/-- A piece out of H, the rest as it is. -/
theorem Own.full {a : Option Addr} {c : Nat} {e : TypeId} {sz k : Nat} {xs : List Value} {h : PH} (hh : Own a c e sz k xs h) : ∃ ys, Own a c e sz c (xs ++ ys) h := by
 obtain ⟨h1, h2, h3, h4⟩ := hh
 rcases h4 with ⟨rfl, rfl⟩ | ⟨g, cur, rfl, hg, hs, ht⟩
 ·have hk : k = 0 := by omega
  subst hk
  exact ⟨[], by simpa using h1, Nat.le_refl _, h3, .inl ⟨rfl, rfl⟩⟩
 ·refine ⟨cur.toList.drop (k * sz), ?_, Nat.le_refl _, h3, .inr ⟨g, cur, rfl, hg, hs, ?_⟩⟩
  ·rw [← ht, List.take_append_drop]; simpa using hs
  ·rw [← ht, List.take_append_drop, List.take_of_length_le (by simp [hs])]
theorem Own.short {a : Option Addr} {c : Nat} {e : TypeId} {sz k j : Nat} {xs : List Value} {h : PH} (hh : Own a c e sz k xs h) (hj : j ≤ k) : Own a c e sz j (xs.take (j * sz)) h := by
 obtain ⟨h1, h2, h3, h4⟩ := hh
 have hm : j * sz ≤ k * sz := Nat.mul_le_mul_right _ hj
 refine ⟨by rw [List.length_take]; omega, by omega, h3, ?_⟩
 rcases h4 with ⟨rfl, rfl⟩ | ⟨g, cur, rfl, hg, hs, ht⟩
 ·exact .inl ⟨rfl, rfl⟩
 ·exact .inr ⟨g, cur, rfl, hg, hs, by rw [← ht, List.take_take, Nat.min_eq_left hm]⟩
/-- An old slice (a, n, c) of the cells xs, and one that grew out of it (a', m, c'), of the cells ys: one row, or two. -/
def Twi (e : TypeId) (sz : Nat) (a : Option Addr) (n c : Nat) (xs : List Value) (a' : Option Addr) (m c' : Nat) (ys : List Value) : HP := fun h =>
 (a' = a ∧ c' = c ∧ n ≤ m ∧ ys.take (n * sz) = xs ∧ Own a c e sz m ys h) ∨ ∃ n' zs, n ≤ n' ∧ zs.take (n * sz) = xs ∧ star [Own a c e sz n' zs, Own a' c' e sz m ys] h
theorem Twi.cases {e : TypeId} {sz : Nat} {a : Option Addr} {n c : Nat} {xs : List Value} {a' : Option Addr} {m c' : Nat} {ys : List Value} (s : Sat B (Twi e sz a n c xs a' m c' ys :: R) w) :
  (a' = a ∧ c' = c ∧ n ≤ m ∧ ys.take (n * sz) = xs ∧ Sat B (Own a c e sz m ys :: R) w) ∨ ∃ n' zs, n ≤ n' ∧ zs.take (n * sz) = xs ∧ Sat B (Own a c e sz n' zs :: Own a' c' e sz m ys :: R) w := by
 obtain ⟨h, hh, h1, h2, d, l1, l2, ht, hr⟩ := s.heap
 rcases ht with ⟨e1, e2, e3, e4, ho⟩ | ⟨n', zs, e3, e4, ho⟩
 ·exact .inl ⟨e1, e2, e3, e4, { s with heap := ⟨h, hh, h1, h2, d, l1, l2, ho, hr⟩ }⟩
 ·exact .inr ⟨n', zs, e3, e4, { s with heap := ⟨h, hh, star_glue [_, _] d l1 l2 ho hr⟩ }⟩
theorem Twi.one {e : TypeId} {sz : Nat} {a : Option Addr} {n c : Nat} {xs : List Value} {m : Nat} {ys : List Value} (hn : n ≤ m) (hx : ys.take (n * sz) = xs) (s : Sat B (Own a c e sz m ys :: R) w) : Sat B (Twi e sz a n c xs a m c ys :: R) w :=
 s.mono fun _ hs => star_head_mono (fun _ ho => .inl ⟨rfl, rfl, hn, hx, ho⟩) hs
theorem Twi.two {e : TypeId} {sz : Nat} {a : Option Addr} {n c : Nat} {xs : List Value} {a' : Option Addr} {m c' n' : Nat} {ys zs : List Value} (hn : n ≤ n') (hx : zs.take (n * sz) = xs) (s : Sat B (Own a c e sz n' zs :: Own a' c' e sz m ys :: R) w) : Sat B (Twi e sz a n c xs a' m c' ys :: R) w :=
 s.mono fun _ hs =>
  let ⟨h1, h2, d, l1, l2, a, c⟩ := star_cut [_, _] hs
  ⟨h1, h2, d, l1, l2, .inr ⟨n', zs, hn, hx, a⟩, c⟩
end
section
variable {B : World} {P : Program} {n : Fm} {E : Env} {H R : List HP} {ty : TypeId}
end
section
variable {B : World} {P : Program} {n : Fm} {l0 rest : List Oper} {E : Env} {H R : List HP} {Q : Exit → Act → World → Prop} (T : Tab P)
variable {d : Nat} {ty : TypeId} {pos : String} {af : Array Edge} {g : Option (Nat × Bool)} {x y : Operand} {t : TypeId}
end
end Go.Sk
end
section
namespace Go.Sk
open Go.RowKit
section
variable {B : World} {P : Program} {n n' : Fm} {E : Env} {H : List HP} {Q : Exit → Act → World → Prop} {c : Code}
def LoopQ0 (Q : Exit → Act → World → Prop) : Exit → Act → World → Prop := Exit.then (fun _ _ => False) Q
theorem AE {id : Nat} (h : AtQ B n' E H Q (.exit id)) : AtQ B n' E H (LoopQ0 Q) (.exit id) := h
theorem AF (h : AtQ B n' E H Q .ret) : AtQ B n' E H (LoopQ0 Q) .ret := h
instance {id : Nat} : Nx (AtQ B n' E H (LoopQ0 Q) (.exit id)) (AtQ B n' E H Q (.exit id)) := ⟨AE⟩
instance : Nx (AtQ B n' E H (LoopQ0 Q) .ret) (AtQ B n' E H Q .ret) := ⟨AF⟩
end
end Go.Sk
end
section
namespace Go.Sk
open Go.RowKit
section
variable {B : World} {P : Program} {n : Fm} {m : Bool} {l0 rest : List Oper} {E : Env} {H R : List HP} {Q : Exit → Act → World → Prop}
variable {d : Nat} {ty : TypeId} {pos : String} {af : Array Edge} {g : Option (Nat × Bool)} {x y : Operand}
theorem YJ.fact {p : Prop} {l : Nat} {vs : List Value} {Post : Bool → List HP → Prop} (hp : ∀ w, Sat B H w → p) (h : p → YJ B P l vs H Post) : YJ B P l vs H Post := fun w hS => h (hp w hS) w hS
theorem YJ.weak {H' : List HP} {l : Nat} {vs : List Value} {Post : Bool → List HP → Prop} (hm : ∀ w, Sat B H w → Sat B H' w) (h : YJ B P l vs H' Post) : YJ B P l vs H Post := fun w hS => h w (hm w hS)
end
end Go.Sk
end
section
namespace Go.Sk
open Go.RowKit
section
variable {B : World} {P : Program} {n : Fm} {E : Env} {H : List HP} {Q : Exit → Act → World → Prop}
end
end Go.Sk
end
section
namespace Go.Sk
open Go.RowKit
/-- The chain of a panic that nobody has recovered. -/
abbrev pan (v : Value) : List PanicEntry := [{ v, recovered := false }]
/-- A function's contract: it returns such a value, or panics with such a one. -/
def SpP (B : World) (P : Program) (f : FuncId) (vs : List Value) (R Pre : List HP) (Post PP : Value → List HP → Prop) : Prop :=
 ∀ w, Sat B (Pre ++ R) w → Calls P f vs.toArray w fun e w' => (∃ v H', e = .returned v ∧ Post v H' ∧ Sat B (H' ++ R) w') ∨ ∃ v H', e = .panicked (pan v) ∧ PP v H' ∧ Sat B (H' ++ R) w'
def FinP (B : World) (P : Program) (fn : Func) (R : List HP) (Post PP : Value → List HP → Prop) : Exit → Act → World → Prop :=
 bodyPost P fn fun e w' => (∃ v H', e = .returned v ∧ Post v H' ∧ Sat B (H' ++ R) w') ∨ ∃ v H', e = .panicked (pan v) ∧ PP v H' ∧ Sat B (H' ++ R) w'
theorem SpP.body {B : World} {P : Program} {f : FuncId} {fn : Func} {c : Code} {n : Nat} {vs : List Value} {R Pre : List HP} {Post PP : Value → List HP → Prop}
  (hf : P.funcs[f]? = some fn) (hb : fn.body = some c) (hn : fn.ntmps = n) (hl : vs.length ≤ n)
  (h : CT B P (.mk0 n) c (argE 0 vs) (Pre ++ R) (FinP B P fn R Post PP)) : SpP B P f vs R Pre Post PP := by
 intro w hS
 refine calls_of_wp hf hb (wpIn_wide.1 (h _ w ⟨?_, rfl, fun t v e => ?_⟩ hS))
 ·simp [hn]; omega
 ·obtain ⟨_, e'⟩ := argE_lk vs 0 t v e
  have : t < vs.length := (List.getElem?_eq_some_iff.1 (by simpa using e')).1
  rw [Array.getElem?_append_left (by simpa using this)]
  simpa using e'
section
variable {B : World} {P : Program} {n : Nat} {E : Env} {H R : List HP} {fn : Func} {Post PP : Value → List HP → Prop}
/-- Behind a return all rules of a function that cannot panic serve. -/
theorem AtQ.ofFin (h : AtQ B (.mk0 n) E H (FinQ B P fn R Post) .ret) : AtQ B (.mk0 n) E H (FinP B P fn R Post PP) .ret := fun a w hA hS => by
 obtain ⟨h1, v, h2, h3⟩ := h a w hA hS
 exact ⟨h1, v, h2, .inl h3⟩
theorem AtQ.ofFinN (h : AtQ B (.mk0 n) E H (FinQ B P fn R Post) .normal) : AtQ B (.mk0 n) E H (FinP B P fn R Post PP) .normal := fun a w hA hS => by
 obtain ⟨h1, v, h2, h3⟩ := h a w hA hS
 exact ⟨h1, v, h2, .inl h3⟩
theorem AtQ.finP {v : Value} {H' : List HP} (hp : PP v H') (hs : ∀ w, Sat B H w → Sat B (H' ++ R) w) : AtQ B (.mk0 n) E H (FinP B P fn R Post PP) (.panic (pan v)) :=
 fun _ w hA hS => ⟨hA.defers, .inr ⟨v, H', rfl, hp, hs w hS⟩⟩
end
section
variable {B : World} {P : Program} {n n' : Fm} {E : Env} {H : List HP} {Q : Exit → Act → World → Prop} {c : Code} {id : Nat} {ch : List PanicEntry}
theorem AtQ.then_pan (h : AtQ B n' E H Q (.panic ch)) : AtQ B n' E H (Then n P c Q) (.panic ch) := h
theorem AtQ.block_pan (h : AtQ B n E H Q (.panic ch)) : AtQ B n E H (Exit.inBlock id Q) (.panic ch) := h
theorem AtQ.loop_pan {α : Type} {f : α → Env} {g : α → List HP} {μ : α → Nat} {z : α} (h : AtQ B n' E H Q (.panic ch)) : AtQ B n' E H (LoopQ B n f g μ z Q) (.panic ch) := h
theorem AtQ.cut_pan {α : Sort _} {f : α → Env} {g : α → List HP} (h : AtQ B n' E H Q (.panic ch)) : AtQ B n' E H (CutQ B n f g Q) (.panic ch) := h
instance : Nx (AtQ B n' E H (Then n P c Q) (.panic ch)) (AtQ B n' E H Q (.panic ch)) := ⟨AtQ.then_pan⟩
instance : Nx (AtQ B n E H (Exit.inBlock id Q) (.panic ch)) (AtQ B n E H Q (.panic ch)) := ⟨AtQ.block_pan⟩
instance {α : Type} {f : α → Env} {g : α → List HP} {μ : α → Nat} {z : α} : Nx (AtQ B n' E H (LoopQ B n f g μ z Q) (.panic ch)) (AtQ B n' E H Q (.panic ch)) := ⟨AtQ.loop_pan⟩
instance {α : Sort _} {f : α → Env} {g : α → List HP} : Nx (AtQ B n' E H (CutQ B n f g Q) (.panic ch)) (AtQ B n' E H Q (.panic ch)) := ⟨AtQ.cut_pan⟩
end
section
variable {B : World} {P : Program} {n : Fm} {E : Env} {H R : List HP} {ty : TypeId}
/-- A call of a function that may panic. -/
theorem x_callP (T : Tab P) {l0 rest : List Oper} {Q : Exit → Act → World → Prop} {d : Nat} {pos : String} {af : Array Edge} {g : Option (Nat × Bool)} {f : FuncId} {bb : Bool} {xs : List Operand} {vs : List Value} {ats : Array TypeId} {Pre : List HP} {Post PP : Value → List HP → Prop}
  (hw : wt l0 E g = some true) (hd : d < n.n) (hf : al T.funs f = some bb) (hv : evs E xs = some vs) (hq : SpP B P f vs R Pre Post PP) (hfr : Fr H Pre R)
  (kp : ∀ v H', PP v H' → AtQ B n E (H' ++ R) Q (.panic (pan v)))
  (k : ∀ v H', Post v H' → RT B P n true l0 rest ((d, v) :: E) (H' ++ R) Q) : RT B P n true l0 (⟨some d, .call { callee := .value (.func f), args := xs.toArray, argTypes := ats }, ty, pos, af, g⟩ :: rest) E H Q :=
 RT.eff hw fun o aa w K ho _ hdd hA hS hK => by
  unfold Oper.wp
  rw [exec_call T hf ho hA hv]
  simp only [Oper.upon, hdd]
  refine (hq w (hS.fr hfr)).mono fun e w' h => ?_
  rcases h with ⟨v, H', he, hp, hS'⟩ | ⟨v, H', he, hp, hS'⟩
  ·subst he
   exact hK _ _ (k v H' hp _ _ (hA.put hd _) hS')
  ·subst he
   exact kp v H' hp _ _ hA hS'
theorem RT.callP (T : Tab P) {l0 rest : List Oper} {Q : Exit → Act → World → Prop} {d : Nat} {pos : String} {af : Array Edge} {g : Option (Nat × Bool)} {f : FuncId} {bb : Bool} {xs : List Operand} {vs : List Value} {ats : Array TypeId} {Pre : List HP} {Post PP : Value → List HP → Prop}
  (qv : evs E xs = some vs) (qfr : Fr H Pre R) (qq : SpP B P f vs R Pre Post PP) (qf : al T.funs f = some bb) (qw : wt l0 E g = some true) (qd : Nat.blt d n.n = true)
  (kp : ∀ v H', PP v H' → AtQ B n E (H' ++ R) Q (.panic (pan v)))
  (qk : ∀ v H', Post v H' → RT B P n true l0 rest ((d, v) :: E) (H' ++ R) Q) : RT B P n true l0 (⟨some d, .call { callee := .value (.func f), args := xs.toArray, argTypes := ats }, ty, pos, af, g⟩ :: rest) E H Q :=
 x_callP T qw (by simpa [Nat.blt_eq] using qd) qf qv qq qfr kp qk
end
end Go.Sk
end
section
namespace Go.Sk
open Go.RowKit
section
variable {B : World} {P : Program} {n : Fm} {l0 rest : List Oper} {E : Env} {H R : List HP} {Q : Exit → Act → World → Prop} {d : Nat} {ty : TypeId} {pos : String} {af : Array Edge} {g : Option (Nat × Bool)} {x y z : Operand} {m : Bool}
/-- A call of a function value that holds something. -/
theorem RT.callC (T : Tab P) {f : FuncId} {bb : Bool} {xs : List Operand} {vs : List Value} {caps : List Value} {ats : Array TypeId} {Pre : List HP} {Post : Value → List HP → Prop}
  (qx : ev E x = some (.func (.func f) #[] caps.toArray)) (qv : evs E xs = some vs) (qfr : Fr H Pre R) (qq : Sp B P f (vs ++ caps) R Pre Post) (qf : al T.funs f = some bb) (qw : wt l0 E g = some true) (qd : Nat.blt d n = true)
  (qk : ∀ v H', Post v H' → RT B P n true l0 rest ((d, v) :: E) (H' ++ R) Q) : RT B P n true l0 (⟨some d, .call { callee := .value x, args := xs.toArray, argTypes := ats }, ty, pos, af, g⟩ :: rest) E H Q :=
 RT.eff qw fun o aa w K ho _ hdd hA hS hK => by
  have hrun : (execOp aa.eval o).run P w = .ok (.enter f (vs ++ caps).toArray) w := by
   unfold execOp
   have hm : xs.map aa.eval = vs := hA.evs qv
   simp only [ho, resolve, Sem.run_bind, List.map_toArray, hm, hA.ev qx, Deferred.ofValue, Sem.run_pure, Result.andThen_ok, invoke]
   simpa using run_call (T := T) qf
  unfold Oper.wp
  rw [hrun]
  simp only [Oper.upon, hdd]
  refine (qq w (hS.fr qfr)).mono fun e w' ⟨v, H', he, hp, hS'⟩ => ?_
  subst he
  exact hK _ _ (qk v H' hp _ _ (hA.put (by simpa [Nat.blt_eq] using qd) _) hS')
end
end Go.Sk
end
