/- Merged: Sk1, Sk2, Sk3, Sk4, Sk5, Sk6, Sk7, Sk8, Sk9, Sk10, Sk11, Sk12, Sk13, Sk14. -/
import Derived.WalkKit
import Derived.WalkSpells
import Derived.WalkLawsBesides
import Derived.Deep.Quiet
import Derived.ControlIn
import Derived.TacticsIn
import Derived.OrdersHeld
import Derived.StillTail
import Derived.Laws.IdiomCopy
import Derived.Lib.Overlaps
import Derived.Laws.Externs
import Derived.Lib.AppendZerosOnto
set_option linter.unusedVariables false
set_option linter.unusedSimpArgs false
section
/- The small separation logic that the walks of this claim stand on: partial heaps, lists of heap pieces, and when a world satisfies such a list over a base world. Plain theorems, no condition. -/
namespace Go.Sk
open Go.RowKit

/-- A part of a heap. -/
abbrev PH := Nat → Option Obj
/-- A piece: what is asked of a part. -/
abbrev HP := PH → Prop
def Le (h k : PH) : Prop := ∀ b o, h b = some o → k b = some o
def Dj (h k : PH) : Prop := ∀ b, h b = none ∨ k b = none
def Un (h k : PH) : PH := fun b => match h b with | some o => some o | none => k b

theorem Le.refl (h : PH) : Le h h := fun _ _ e => e
theorem Le.trans {h k l : PH} (a : Le h k) (b : Le k l) : Le h l := fun x o e => b x o (a x o e)
theorem Le.none_ {h k : PH} (a : Le h k) {b : Nat} (e : k b = none) : h b = none := by
  cases hh : h b with
  | none => rfl
  | some o => rw [a b o hh] at e; cases e
theorem Dj.symm {h k : PH} (d : Dj h k) : Dj k h := fun b => (d b).symm
theorem Dj.mono {h k h' k' : PH} (d : Dj h k) (a : Le h' h) (b : Le k' k) : Dj h' k' := fun x => (d x).imp a.none_ b.none_
theorem Un.left (h k : PH) : Le h (Un h k) := fun b o e => by simp [Un, e]
theorem Un.right {h k : PH} (d : Dj h k) : Le k (Un h k) := fun b o e => by
  rcases d b with hh | hk
  · simp [Un, hh, e]
  · rw [hk] at e; cases e
theorem Un.le {h k l : PH} (a : Le h l) (b : Le k l) : Le (Un h k) l := fun x o e => by
  unfold Un at e
  cases hh : h x with
  | some o' => rw [hh] at e; cases e; exact a x _ hh
  | none => rw [hh] at e; exact b x o e
theorem Un.dj {h k l : PH} (a : Dj h l) (b : Dj k l) : Dj (Un h k) l := fun x => by
  rcases a x with ha | ha
  · rcases b x with hb | hb
    · exact .inl (by simp [Un, ha, hb])
    · exact .inr hb
  · exact .inr ha

/-- Pieces side by side. -/
def star : List HP → HP
  | [] => fun _ => True
  | p :: ps => fun h => ∃ h1 h2, Dj h1 h2 ∧ Le h1 h ∧ Le h2 h ∧ p h1 ∧ star ps h2

theorem star_up : ∀ (H : List HP) {h k : PH}, Le h k → star H h → star H k
  | [], _, _, _, _ => trivial
  | _ :: _, _, _, l, ⟨h1, h2, d, a, b, p, q⟩ => ⟨h1, h2, d, a.trans l, b.trans l, p, q⟩

theorem star_swap {p q : HP} {R : List HP} {h : PH} (s : star (p :: q :: R) h) : star (q :: p :: R) h := by
  obtain ⟨h1, h2, d, a, b, hp, h3, h4, d', a', b', hq, hr⟩ := s
  refine ⟨h3, Un h1 h4, ?_, a'.trans b, Un.le a (b'.trans b), hq, h1, h4, d.mono (Le.refl _) b', Un.left _ _, Un.right (d.mono (Le.refl _) b'), hp, hr⟩
  exact (Un.dj (d.mono (Le.refl _) a') d'.symm).symm

theorem star_cons_mono {p : HP} {R R' : List HP} (hm : ∀ h, star R h → star R' h) {h : PH} (s : star (p :: R) h) : star (p :: R') h := by
  obtain ⟨h1, h2, d, a, b, hp, hr⟩ := s
  exact ⟨h1, h2, d, a, b, hp, hm _ hr⟩

theorem star_head_mono {p q : HP} {R : List HP} (hm : ∀ h, p h → q h) {h : PH} (s : star (p :: R) h) : star (q :: R) h := by
  obtain ⟨h1, h2, d, a, b, hp, hr⟩ := s
  exact ⟨h1, h2, d, a, b, hm _ hp, hr⟩

/-- H is p and R. -/
inductive Sel : List HP → HP → List HP → Prop
  | h {p : HP} {R : List HP} : Sel (p :: R) p R
  | t {x p : HP} {H R : List HP} : Sel H p R → Sel (x :: H) p (x :: R)

theorem Sel.to {H : List HP} {p : HP} {R : List HP} (s : Sel H p R) : ∀ h, star H h → star (p :: R) h := by
  induction s with
  | h => exact fun _ h => h
  | t _ ih => exact fun h hs => star_swap (star_cons_mono ih hs)
theorem Sel.of {H : List HP} {p : HP} {R : List HP} (s : Sel H p R) : ∀ h, star (p :: R) h → star H h := by
  induction s with
  | h => exact fun _ h => h
  | t _ ih => exact fun h hs => star_cons_mono ih (star_swap hs)

/-- In H stands p; in H' stands q in its place. -/
inductive Rep : List HP → HP → HP → List HP → Prop
  | h {p q : HP} {R : List HP} : Rep (p :: R) p q (q :: R)
  | t {x p q : HP} {H H' : List HP} : Rep H p q H' → Rep (x :: H) p q (x :: H')

theorem Rep.sel {H H' : List HP} {p q : HP} (r : Rep H p q H') : ∃ R, Sel H p R ∧ Sel H' q R := by
  induction r with
  | h => exact ⟨_, .h, .h⟩
  | t _ ih => obtain ⟨R, a, b⟩ := ih; exact ⟨_, .t a, .t b⟩

theorem Sel.i1 {x0 p : HP} {R : List HP} : Sel (x0 :: p :: R) p (x0 :: R) := .t .h
theorem Rep.i1 {x0 p q : HP} {R : List HP} : Rep (x0 :: p :: R) p q (x0 :: q :: R) := .t .h
theorem Sel.i2 {x0 x1 p : HP} {R : List HP} : Sel (x0 :: x1 :: p :: R) p (x0 :: x1 :: R) := .t (.t .h)
theorem Rep.i2 {x0 x1 p q : HP} {R : List HP} : Rep (x0 :: x1 :: p :: R) p q (x0 :: x1 :: q :: R) := .t (.t .h)
theorem Sel.i3 {x0 x1 x2 p : HP} {R : List HP} : Sel (x0 :: x1 :: x2 :: p :: R) p (x0 :: x1 :: x2 :: R) := .t (.t (.t .h))
theorem Rep.i3 {x0 x1 x2 p q : HP} {R : List HP} : Rep (x0 :: x1 :: x2 :: p :: R) p q (x0 :: x1 :: x2 :: q :: R) := .t (.t (.t .h))
theorem Sel.i4 {x0 x1 x2 x3 p : HP} {R : List HP} : Sel (x0 :: x1 :: x2 :: x3 :: p :: R) p (x0 :: x1 :: x2 :: x3 :: R) := .t (.t (.t (.t .h)))
theorem Rep.i4 {x0 x1 x2 x3 p q : HP} {R : List HP} : Rep (x0 :: x1 :: x2 :: x3 :: p :: R) p q (x0 :: x1 :: x2 :: x3 :: q :: R) := .t (.t (.t (.t .h)))
theorem Sel.i5 {x0 x1 x2 x3 x4 p : HP} {R : List HP} : Sel (x0 :: x1 :: x2 :: x3 :: x4 :: p :: R) p (x0 :: x1 :: x2 :: x3 :: x4 :: R) := .t (.t (.t (.t (.t .h))))
theorem Rep.i5 {x0 x1 x2 x3 x4 p q : HP} {R : List HP} : Rep (x0 :: x1 :: x2 :: x3 :: x4 :: p :: R) p q (x0 :: x1 :: x2 :: x3 :: x4 :: q :: R) := .t (.t (.t (.t (.t .h))))
theorem Sel.i6 {x0 x1 x2 x3 x4 x5 p : HP} {R : List HP} : Sel (x0 :: x1 :: x2 :: x3 :: x4 :: x5 :: p :: R) p (x0 :: x1 :: x2 :: x3 :: x4 :: x5 :: R) := .t (.t (.t (.t (.t (.t .h)))))
theorem Rep.i6 {x0 x1 x2 x3 x4 x5 p q : HP} {R : List HP} : Rep (x0 :: x1 :: x2 :: x3 :: x4 :: x5 :: p :: R) p q (x0 :: x1 :: x2 :: x3 :: x4 :: x5 :: q :: R) := .t (.t (.t (.t (.t (.t .h)))))
theorem Sel.i7 {x0 x1 x2 x3 x4 x5 x6 p : HP} {R : List HP} : Sel (x0 :: x1 :: x2 :: x3 :: x4 :: x5 :: x6 :: p :: R) p (x0 :: x1 :: x2 :: x3 :: x4 :: x5 :: x6 :: R) := .t (.t (.t (.t (.t (.t (.t .h))))))
theorem Rep.i7 {x0 x1 x2 x3 x4 x5 x6 p q : HP} {R : List HP} : Rep (x0 :: x1 :: x2 :: x3 :: x4 :: x5 :: x6 :: p :: R) p q (x0 :: x1 :: x2 :: x3 :: x4 :: x5 :: x6 :: q :: R) := .t (.t (.t (.t (.t (.t (.t .h))))))
theorem Sel.i8 {x0 x1 x2 x3 x4 x5 x6 x7 p : HP} {R : List HP} : Sel (x0 :: x1 :: x2 :: x3 :: x4 :: x5 :: x6 :: x7 :: p :: R) p (x0 :: x1 :: x2 :: x3 :: x4 :: x5 :: x6 :: x7 :: R) := .t (.t (.t (.t (.t (.t (.t (.t .h)))))))
theorem Rep.i8 {x0 x1 x2 x3 x4 x5 x6 x7 p q : HP} {R : List HP} : Rep (x0 :: x1 :: x2 :: x3 :: x4 :: x5 :: x6 :: x7 :: p :: R) p q (x0 :: x1 :: x2 :: x3 :: x4 :: x5 :: x6 :: x7 :: q :: R) := .t (.t (.t (.t (.t (.t (.t (.t .h)))))))
theorem Sel.i9 {x0 x1 x2 x3 x4 x5 x6 x7 x8 p : HP} {R : List HP} : Sel (x0 :: x1 :: x2 :: x3 :: x4 :: x5 :: x6 :: x7 :: x8 :: p :: R) p (x0 :: x1 :: x2 :: x3 :: x4 :: x5 :: x6 :: x7 :: x8 :: R) := .t (.t (.t (.t (.t (.t (.t (.t (.t .h))))))))
theorem Rep.i9 {x0 x1 x2 x3 x4 x5 x6 x7 x8 p q : HP} {R : List HP} : Rep (x0 :: x1 :: x2 :: x3 :: x4 :: x5 :: x6 :: x7 :: x8 :: p :: R) p q (x0 :: x1 :: x2 :: x3 :: x4 :: x5 :: x6 :: x7 :: x8 :: q :: R) := .t (.t (.t (.t (.t (.t (.t (.t (.t .h))))))))
theorem Sel.i10 {x0 x1 x2 x3 x4 x5 x6 x7 x8 x9 p : HP} {R : List HP} : Sel (x0 :: x1 :: x2 :: x3 :: x4 :: x5 :: x6 :: x7 :: x8 :: x9 :: p :: R) p (x0 :: x1 :: x2 :: x3 :: x4 :: x5 :: x6 :: x7 :: x8 :: x9 :: R) := .t (.t (.t (.t (.t (.t (.t (.t (.t (.t .h)))))))))
theorem Rep.i10 {x0 x1 x2 x3 x4 x5 x6 x7 x8 x9 p q : HP} {R : List HP} : Rep (x0 :: x1 :: x2 :: x3 :: x4 :: x5 :: x6 :: x7 :: x8 :: x9 :: p :: R) p q (x0 :: x1 :: x2 :: x3 :: x4 :: x5 :: x6 :: x7 :: x8 :: x9 :: q :: R) := .t (.t (.t (.t (.t (.t (.t (.t (.t (.t .h)))))))))
theorem Sel.i11 {x0 x1 x2 x3 x4 x5 x6 x7 x8 x9 x10 p : HP} {R : List HP} : Sel (x0 :: x1 :: x2 :: x3 :: x4 :: x5 :: x6 :: x7 :: x8 :: x9 :: x10 :: p :: R) p (x0 :: x1 :: x2 :: x3 :: x4 :: x5 :: x6 :: x7 :: x8 :: x9 :: x10 :: R) := .t (.t (.t (.t (.t (.t (.t (.t (.t (.t (.t .h))))))))))
theorem Rep.i11 {x0 x1 x2 x3 x4 x5 x6 x7 x8 x9 x10 p q : HP} {R : List HP} : Rep (x0 :: x1 :: x2 :: x3 :: x4 :: x5 :: x6 :: x7 :: x8 :: x9 :: x10 :: p :: R) p q (x0 :: x1 :: x2 :: x3 :: x4 :: x5 :: x6 :: x7 :: x8 :: x9 :: x10 :: q :: R) := .t (.t (.t (.t (.t (.t (.t (.t (.t (.t (.t .h))))))))))
theorem Sel.i12 {x0 x1 x2 x3 x4 x5 x6 x7 x8 x9 x10 x11 p : HP} {R : List HP} : Sel (x0 :: x1 :: x2 :: x3 :: x4 :: x5 :: x6 :: x7 :: x8 :: x9 :: x10 :: x11 :: p :: R) p (x0 :: x1 :: x2 :: x3 :: x4 :: x5 :: x6 :: x7 :: x8 :: x9 :: x10 :: x11 :: R) := .t (.t (.t (.t (.t (.t (.t (.t (.t (.t (.t (.t .h)))))))))))
theorem Rep.i12 {x0 x1 x2 x3 x4 x5 x6 x7 x8 x9 x10 x11 p q : HP} {R : List HP} : Rep (x0 :: x1 :: x2 :: x3 :: x4 :: x5 :: x6 :: x7 :: x8 :: x9 :: x10 :: x11 :: p :: R) p q (x0 :: x1 :: x2 :: x3 :: x4 :: x5 :: x6 :: x7 :: x8 :: x9 :: x10 :: x11 :: q :: R) := .t (.t (.t (.t (.t (.t (.t (.t (.t (.t (.t (.t .h)))))))))))
theorem S0 {p : HP} {R : List HP} : Sel (p :: R) p (R) := Sel.h
theorem Q0 {p q : HP} {R : List HP} : Rep (p :: R) p q (q :: R) := Rep.h
theorem S1 {x0 p : HP} {R : List HP} : Sel (x0 :: p :: R) p (x0 :: R) := Sel.i1
theorem Q1 {x0 p q : HP} {R : List HP} : Rep (x0 :: p :: R) p q (x0 :: q :: R) := Rep.i1
theorem S2 {x0 x1 p : HP} {R : List HP} : Sel (x0 :: x1 :: p :: R) p (x0 :: x1 :: R) := Sel.i2
theorem Q2 {x0 x1 p q : HP} {R : List HP} : Rep (x0 :: x1 :: p :: R) p q (x0 :: x1 :: q :: R) := Rep.i2
theorem S3 {x0 x1 x2 p : HP} {R : List HP} : Sel (x0 :: x1 :: x2 :: p :: R) p (x0 :: x1 :: x2 :: R) := Sel.i3
theorem Q3 {x0 x1 x2 p q : HP} {R : List HP} : Rep (x0 :: x1 :: x2 :: p :: R) p q (x0 :: x1 :: x2 :: q :: R) := Rep.i3
theorem S4 {x0 x1 x2 x3 p : HP} {R : List HP} : Sel (x0 :: x1 :: x2 :: x3 :: p :: R) p (x0 :: x1 :: x2 :: x3 :: R) := Sel.i4
theorem Q4 {x0 x1 x2 x3 p q : HP} {R : List HP} : Rep (x0 :: x1 :: x2 :: x3 :: p :: R) p q (x0 :: x1 :: x2 :: x3 :: q :: R) := Rep.i4
theorem S5 {x0 x1 x2 x3 x4 p : HP} {R : List HP} : Sel (x0 :: x1 :: x2 :: x3 :: x4 :: p :: R) p (x0 :: x1 :: x2 :: x3 :: x4 :: R) := Sel.i5
theorem Q5 {x0 x1 x2 x3 x4 p q : HP} {R : List HP} : Rep (x0 :: x1 :: x2 :: x3 :: x4 :: p :: R) p q (x0 :: x1 :: x2 :: x3 :: x4 :: q :: R) := Rep.i5
theorem S6 {x0 x1 x2 x3 x4 x5 p : HP} {R : List HP} : Sel (x0 :: x1 :: x2 :: x3 :: x4 :: x5 :: p :: R) p (x0 :: x1 :: x2 :: x3 :: x4 :: x5 :: R) := Sel.i6
theorem Q6 {x0 x1 x2 x3 x4 x5 p q : HP} {R : List HP} : Rep (x0 :: x1 :: x2 :: x3 :: x4 :: x5 :: p :: R) p q (x0 :: x1 :: x2 :: x3 :: x4 :: x5 :: q :: R) := Rep.i6
theorem S7 {x0 x1 x2 x3 x4 x5 x6 p : HP} {R : List HP} : Sel (x0 :: x1 :: x2 :: x3 :: x4 :: x5 :: x6 :: p :: R) p (x0 :: x1 :: x2 :: x3 :: x4 :: x5 :: x6 :: R) := Sel.i7
theorem Q7 {x0 x1 x2 x3 x4 x5 x6 p q : HP} {R : List HP} : Rep (x0 :: x1 :: x2 :: x3 :: x4 :: x5 :: x6 :: p :: R) p q (x0 :: x1 :: x2 :: x3 :: x4 :: x5 :: x6 :: q :: R) := Rep.i7
theorem S8 {x0 x1 x2 x3 x4 x5 x6 x7 p : HP} {R : List HP} : Sel (x0 :: x1 :: x2 :: x3 :: x4 :: x5 :: x6 :: x7 :: p :: R) p (x0 :: x1 :: x2 :: x3 :: x4 :: x5 :: x6 :: x7 :: R) := Sel.i8
theorem Q8 {x0 x1 x2 x3 x4 x5 x6 x7 p q : HP} {R : List HP} : Rep (x0 :: x1 :: x2 :: x3 :: x4 :: x5 :: x6 :: x7 :: p :: R) p q (x0 :: x1 :: x2 :: x3 :: x4 :: x5 :: x6 :: x7 :: q :: R) := Rep.i8
theorem S9 {x0 x1 x2 x3 x4 x5 x6 x7 x8 p : HP} {R : List HP} : Sel (x0 :: x1 :: x2 :: x3 :: x4 :: x5 :: x6 :: x7 :: x8 :: p :: R) p (x0 :: x1 :: x2 :: x3 :: x4 :: x5 :: x6 :: x7 :: x8 :: R) := Sel.i9
theorem Q9 {x0 x1 x2 x3 x4 x5 x6 x7 x8 p q : HP} {R : List HP} : Rep (x0 :: x1 :: x2 :: x3 :: x4 :: x5 :: x6 :: x7 :: x8 :: p :: R) p q (x0 :: x1 :: x2 :: x3 :: x4 :: x5 :: x6 :: x7 :: x8 :: q :: R) := Rep.i9
theorem S10 {x0 x1 x2 x3 x4 x5 x6 x7 x8 x9 p : HP} {R : List HP} : Sel (x0 :: x1 :: x2 :: x3 :: x4 :: x5 :: x6 :: x7 :: x8 :: x9 :: p :: R) p (x0 :: x1 :: x2 :: x3 :: x4 :: x5 :: x6 :: x7 :: x8 :: x9 :: R) := Sel.i10
theorem Q10 {x0 x1 x2 x3 x4 x5 x6 x7 x8 x9 p q : HP} {R : List HP} : Rep (x0 :: x1 :: x2 :: x3 :: x4 :: x5 :: x6 :: x7 :: x8 :: x9 :: p :: R) p q (x0 :: x1 :: x2 :: x3 :: x4 :: x5 :: x6 :: x7 :: x8 :: x9 :: q :: R) := Rep.i10
theorem S11 {x0 x1 x2 x3 x4 x5 x6 x7 x8 x9 x10 p : HP} {R : List HP} : Sel (x0 :: x1 :: x2 :: x3 :: x4 :: x5 :: x6 :: x7 :: x8 :: x9 :: x10 :: p :: R) p (x0 :: x1 :: x2 :: x3 :: x4 :: x5 :: x6 :: x7 :: x8 :: x9 :: x10 :: R) := Sel.i11
theorem Q11 {x0 x1 x2 x3 x4 x5 x6 x7 x8 x9 x10 p q : HP} {R : List HP} : Rep (x0 :: x1 :: x2 :: x3 :: x4 :: x5 :: x6 :: x7 :: x8 :: x9 :: x10 :: p :: R) p q (x0 :: x1 :: x2 :: x3 :: x4 :: x5 :: x6 :: x7 :: x8 :: x9 :: x10 :: q :: R) := Rep.i11
theorem S12 {x0 x1 x2 x3 x4 x5 x6 x7 x8 x9 x10 x11 p : HP} {R : List HP} : Sel (x0 :: x1 :: x2 :: x3 :: x4 :: x5 :: x6 :: x7 :: x8 :: x9 :: x10 :: x11 :: p :: R) p (x0 :: x1 :: x2 :: x3 :: x4 :: x5 :: x6 :: x7 :: x8 :: x9 :: x10 :: x11 :: R) := Sel.i12
theorem Q12 {x0 x1 x2 x3 x4 x5 x6 x7 x8 x9 x10 x11 p q : HP} {R : List HP} : Rep (x0 :: x1 :: x2 :: x3 :: x4 :: x5 :: x6 :: x7 :: x8 :: x9 :: x10 :: x11 :: p :: R) p q (x0 :: x1 :: x2 :: x3 :: x4 :: x5 :: x6 :: x7 :: x8 :: x9 :: x10 :: x11 :: q :: R) := Rep.i12
/-- H holds all of Pre, and R. -/
inductive Fr : List HP → List HP → List HP → Prop
  | nil {H : List HP} : Fr H [] H
  | cons {H H' : List HP} {p : HP} {Ps R : List HP} : Sel H p H' → Fr H' Ps R → Fr H (p :: Ps) R

theorem Fr.to {H Ps R : List HP} (f : Fr H Ps R) : ∀ h, star H h → star (Ps ++ R) h := by
  induction f with
  | nil => exact fun _ h => h
  | cons s _ ih => exact fun h hs => star_cons_mono ih (s.to h hs)

/-- The world w over the base world B, above which the pieces H lie. -/
structure Sat (B : World) (H : List HP) (w : World) : Prop where
  os : w.os = B.os
  output : w.output = B.output
  tape : w.tape = B.tape
  size : B.heap.size ≤ w.heap.size
  base : ∀ b, b < B.heap.size → w.heap[b]? = B.heap[b]?
  heap : ∃ h : PH, (∀ b o, h b = some o → w.heap[b]? = some o ∧ B.heap.size ≤ b) ∧ star H h

theorem Sat.mono {B : World} {H H' : List HP} {w : World} (s : Sat B H w) (m : ∀ h, star H h → star H' h) : Sat B H' w :=
  let ⟨h, a, b⟩ := s.heap
  { s with heap := ⟨h, a, m h b⟩ }
theorem Sat.fr {B : World} {H Ps R : List HP} {w : World} (s : Sat B H w) (f : Fr H Ps R) : Sat B (Ps ++ R) w := s.mono f.to
theorem Sat.tail {B : World} {p : HP} {H : List HP} {w : World} (s : Sat B (p :: H) w) : Sat B H w :=
  s.mono fun _ ⟨_, _, _, _, b, _, r⟩ => star_up _ b r
theorem Sat.drop_ {B : World} : ∀ {Ps H : List HP} {w : World}, Sat B (Ps ++ H) w → Sat B H w
  | [], _, _, s => s
  | _ :: _, _, _, s => Sat.drop_ (Sat.tail s)
theorem Sat.refl (B : World) : Sat B [] B := ⟨rfl, rfl, rfl, Nat.le_refl _, fun _ _ => rfl, fun _ => none, fun _ _ h => (by cases h), trivial⟩
theorem Sat.drawn {B : World} {H : List HP} {w : World} (s : Sat B H w) (d : Nat) : Sat B H { w with drawn := d } :=
  ⟨s.os, s.output, s.tape, s.size, s.base, s.heap⟩
/-- A pure fact may be taken out of a head piece. -/
theorem Sat.head {B : World} {p : HP} {H : List HP} {w : World} (s : Sat B (p :: H) w) : ∃ h, (∀ b o, h b = some o → w.heap[b]? = some o ∧ B.heap.size ≤ b) ∧ p h := by
  obtain ⟨h, a, h1, h2, d, l1, l2, hp, hr⟩ := s.heap
  exact ⟨h1, fun b o e => a b o (l1 b o e), hp⟩
theorem Sat.sel {B : World} {p : HP} {H R : List HP} {w : World} (s : Sat B H w) (r : Sel H p R) : Sat B (p :: R) w := s.mono r.to
theorem Sat.unsel {B : World} {p : HP} {H R : List HP} {w : World} (r : Sel H p R) (s : Sat B (p :: R) w) : Sat B H w := s.mono r.of

/-- An existential piece. -/
def Ex {α : Sort _} (f : α → List HP) : HP := fun h => ∃ x, star (f x) h
theorem star_app : ∀ (A R : List HP) (h1 h2 h : PH), Dj h1 h2 → Le h1 h → Le h2 h → star A h1 → star R h2 → star (A ++ R) h
  | [], R, _, _, _, _, _, l2, _, r => star_up R l2 r
  | p :: A, R, h1, h2, h, d, l1, l2, ⟨k1, k2, d', a, b, hp, hq⟩, r => by
    refine ⟨k1, Un k2 h2, ?_, a.trans l1, Un.le (b.trans l1) l2, hp, star_app A R k2 h2 _ (d.mono b (Le.refl _)) (Un.left _ _) (Un.right (d.mono b (Le.refl _))) hq r⟩
    exact (Un.dj d'.symm (d.mono a (Le.refl _)).symm).symm
theorem star_split : ∀ (A R : List HP) (h : PH), star (A ++ R) h → ∃ h1 h2, Dj h1 h2 ∧ Le h1 h ∧ Le h2 h ∧ star A h1 ∧ star R h2
  | [], _, h, s => ⟨fun _ => none, h, fun _ => .inl rfl, fun _ _ e => (by cases e), Le.refl _, trivial, s⟩
  | p :: A, R, h, ⟨k1, k2, d, a, b, hp, hq⟩ => by
    obtain ⟨h1, h2, d', l1, l2, sA, sR⟩ := star_split A R k2 hq
    refine ⟨Un k1 h1, h2, Un.dj (d.mono (Le.refl _) l2) d', Un.le a (l1.trans b), l2.trans b, ?_, sR⟩
    exact ⟨k1, h1, d.mono (Le.refl _) l1, Un.left _ _, Un.right (d.mono (Le.refl _) l1), hp, sA⟩
theorem Sat.ex_out {α : Sort _} {B : World} {f : α → List HP} {H : List HP} {w : World} (s : Sat B (Ex f :: H) w) : ∃ x, Sat B (f x ++ H) w := by
  obtain ⟨h, a, h1, h2, d, l1, l2, ⟨x, hx⟩, hr⟩ := s.heap
  exact ⟨x, { s with heap := ⟨h, a, star_app _ _ h1 h2 h d l1 l2 hx hr⟩ }⟩
theorem Sat.ex_in {α : Sort _} {B : World} {f : α → List HP} {H : List HP} {w : World} (x : α) (s : Sat B (f x ++ H) w) : Sat B (Ex f :: H) w := by
  obtain ⟨h, a, hs⟩ := s.heap
  obtain ⟨h1, h2, d, l1, l2, sA, sR⟩ := star_split _ _ h hs
  exact { s with heap := ⟨h, a, h1, h2, d, l1, l2, ⟨x, sA⟩, sR⟩ }
/-- A pure piece. -/
def Pu (p : Prop) : HP := fun _ => p
theorem Sat.pu_out {B : World} {p : Prop} {H : List HP} {w : World} (s : Sat B (Pu p :: H) w) : p := let ⟨_, _, hp⟩ := s.head; hp
theorem Sat.pu_in {B : World} {p : Prop} {H : List HP} {w : World} (hp : p) (s : Sat B H w) : Sat B (Pu p :: H) w := by
  obtain ⟨h, a, hs⟩ := s.heap
  exact { s with heap := ⟨h, a, fun _ => none, h, fun _ => .inl rfl, fun _ _ e => (by cases e), Le.refl _, hp, hs⟩ }

/-! ### cells -/
/-- Block b is these cells. -/
def Cs (b : Nat) (e : TypeId) (l : List Value) : HP := fun h => h b = some (.cells l.toArray e (0, 0))

theorem Sat.cs {B : World} {H R : List HP} {w : World} {b : Nat} {e : TypeId} {l : List Value} (s : Sat B H w) (r : Sel H (Cs b e l) R) :
    w.heap[b]? = some (.cells l.toArray e (0, 0)) ∧ B.heap.size ≤ b := by
  obtain ⟨h, a, hp⟩ := (s.sel r).head
  exact a b _ hp

/-- One block is turned: its piece with it. -/
theorem Sat.upd {B : World} {H H' : List HP} {w w' : World} {b : Nat} {o' : Obj} {p p' : HP} (s : Sat B H w) (r : Rep H p p' H')
    (hp : ∀ h, p h → ∃ o, h b = some o) (hp' : ∀ h h', p h → (∀ x, x ≠ b → h' x = h x) → h' b = some o' → p' h')
    (hos : w'.os = w.os) (hou : w'.output = w.output) (hta : w'.tape = w.tape) (hsz : w'.heap.size = w.heap.size)
    (hb : w'.heap[b]? = some o') (hx : ∀ x, x ≠ b → w'.heap[x]? = w.heap[x]?) : Sat B H' w' := by
  obtain ⟨R, s1, s2⟩ := r.sel
  obtain ⟨h, a, h1, h2, d, l1, l2, hpp, hr⟩ := (s.sel s1).heap
  obtain ⟨o, hb1⟩ := hp _ hpp
  have hge : B.heap.size ≤ b := (a b _ (l1 b _ hb1)).2
  have h2b : h2 b = none := by
    rcases d b with e | e
    · rw [hb1] at e; cases e
    · exact e
  refine Sat.unsel s2 ⟨hos.trans s.os, hou.trans s.output, hta.trans s.tape, by have := s.size; omega, fun x hxl => (hx x (by omega)).trans (s.base x hxl), ?_⟩
  let k1 : PH := fun x => if x = b then some o' else h1 x
  refine ⟨Un k1 h2, ?_, k1, h2, ?_, Un.left _ _, Un.right ?_, hp' h1 k1 hpp (fun x hne => by simp [k1, hne]) (by simp [k1]), hr⟩
  · intro x ox hox
    by_cases hxb : x = b
    · subst hxb
      simp [Un, k1] at hox
      subst hox
      exact ⟨hb, hge⟩
    · simp only [Un, k1, hxb, if_false] at hox
      rw [hx x hxb]
      cases e1 : h1 x with
      | some o1 => rw [e1] at hox; cases hox; exact a x _ (l1 x _ e1)
      | none => rw [e1] at hox; exact a x _ (l2 x _ hox)
  all_goals
    intro x
    by_cases hxb : x = b
    · exact .inr (hxb ▸ h2b)
    · rcases d x with e | e
      · exact .inl (by simp [k1, hxb, e])
      · exact .inr e

/-- A new block. -/
theorem Sat.new {B : World} {H : List HP} {w w' : World} {o : Obj} {p : HP} (s : Sat B H w)
    (hos : w'.os = w.os) (hou : w'.output = w.output) (hta : w'.tape = w.tape) (hh : w'.heap = w.heap.push o)
    (hp : ∀ h : PH, (∀ x, x ≠ w.heap.size → h x = none) → h w.heap.size = some o → p h) : Sat B (p :: H) w' := by
  obtain ⟨h, a, hs⟩ := s.heap
  have hold : ∀ x, x < w.heap.size → w'.heap[x]? = w.heap[x]? := fun x hx => by
    rw [hh, Array.getElem?_push]; simp [Nat.ne_of_lt hx]
  have hnew : w'.heap[w.heap.size]? = some o := by rw [hh]; simp
  have hlt : ∀ x o', h x = some o' → x < w.heap.size := fun x o' e => (Array.getElem?_eq_some_iff.1 (a x o' e).1).1
  have hno : h w.heap.size = none := by
    cases e : h w.heap.size with
    | none => rfl
    | some o' => exact absurd (hlt _ _ e) (Nat.lt_irrefl _)
  let k : PH := fun x => if x = w.heap.size then some o else none
  have hd : Dj k h := fun x => by
    by_cases e : x = w.heap.size
    · exact .inr (e ▸ hno)
    · exact .inl (by simp [k, e])
  refine ⟨hos.trans s.os, hou.trans s.output, hta.trans s.tape, ?_, fun x hx => (hold x (by have := s.size; omega)).trans (s.base x hx), Un k h, ?_, k, h, hd, Un.left _ _, Un.right hd, hp k (fun x hne => by simp [k, hne]) (by simp [k]), hs⟩
  · rw [hh]; have := s.size; simp; omega
  · intro x ox hox
    by_cases e : x = w.heap.size
    · subst e
      simp [Un, k] at hox
      subst hox
      exact ⟨hnew, s.size⟩
    · simp only [Un, k, e, if_false] at hox
      exact ⟨(hold x (hlt x ox hox)).trans (a x ox hox).1, (a x ox hox).2⟩

/-- Garbage above is nobody's. -/
theorem Sat.garbage {B : World} {H : List HP} {w w' : World} {o : Obj} (s : Sat B H w)
    (hos : w'.os = w.os) (hou : w'.output = w.output) (hta : w'.tape = w.tape) (hh : w'.heap = w.heap.push o) : Sat B H w' :=
  (s.new (p := fun _ => True) hos hou hta hh fun _ _ _ => trivial).tail

end Go.Sk
end
section
/- The stepping rules: one theorem for each kind of operation of the model, over a frame told as a list of slots and a heap told as a list of pieces. Plain theorems, no condition. -/
namespace Go.Sk
open Go.RowKit

/-- A frame's make: how many slots; the marks among its deferred calls; the round that it is of. -/
structure Fm where
  n : Nat
  ds : List Nat
  ro : Option Nat
instance : Coe Fm Nat := ⟨Fm.n⟩
abbrev Fm.mk0 (n : Nat) : Fm := ⟨n, [], none⟩
def Fm.fence (m : Fm) : Fence := { fn := fun _ => True, depth := none, alive := false, round := m.ro }
def Fm.marks (m : Fm) : List Deferred := m.ds.map fun D => { target := .collected D, args := #[] }
theorem Fm.wide {m : Fm} (h : m.ro = none) : m.fence = Fence.wide := by cases m; cases h; rfl
/-- The frame: which slot holds what, the last written first. -/
abbrev Env := List (Nat × Value)
def lk : Env → Nat → Option Value
  | [], _ => none
  | (s, v) :: E, t => bif Nat.beq s t then some v else lk E t

structure Agr (n : Fm) (E : Env) (a : Act) : Prop where
  size : a.tmps.size = n.n
  defers : a.defers = n.marks
  get : ∀ t v, lk E t = some v → a.tmps[t]? = some v

def ev (E : Env) : Operand → Option Value
  | .tmp t => lk E t
  | .const v => some v
  | .global g => some (.pointer (some ⟨g, 0, none⟩))
  | .func f => some (.func (.func f) #[] #[])

theorem Agr.ev {n : Fm} {E : Env} {a : Act} (h : Agr n E a) {x : Operand} {v : Value} (hx : ev E x = some v) : a.eval x = v := by
  cases x with
  | tmp t =>
    have := h.get t v hx
    simp [Act.eval, Array.getD_eq_getD_getElem?, this]
  | const u => simpa [Sk.ev, Act.eval] using hx
  | global g => simpa [Sk.ev, Act.eval] using hx
  | func f => simpa [Sk.ev, Act.eval] using hx

theorem Agr.put {n : Fm} {E : Env} {a : Act} (h : Agr n E a) {d : Nat} (hd : d < n.n) (v : Value) : Agr n ((d, v) :: E) (a.put (some d) v) := by
  refine ⟨by simp [Act.put, h.size], h.defers, fun t u hu => ?_⟩
  simp only [Act.put]
  by_cases e : d = t
  · subst e
    simp only [lk, show Nat.beq d d = true from Nat.beq_refl d, cond_true] at hu
    cases hu
    simp [h.size, hd]
  · have : Nat.beq d t = false := by rw [← Bool.not_eq_true, Nat.beq_eq]; exact e
    simp only [lk, this, cond_false] at hu
    rw [Array.getElem?_setIfInBounds_ne e]
    exact h.get t u hu

def evs (E : Env) : List Operand → Option (List Value)
  | [] => some []
  | x :: xs => match ev E x, evs E xs with
    | some v, some vs => some (v :: vs)
    | _, _ => none
theorem Agr.evs {n : Fm} {E : Env} {a : Act} (h : Agr n E a) : ∀ {xs : List Operand} {vs : List Value}, evs E xs = some vs → xs.map a.eval = vs
  | [], _, e => by cases e; rfl
  | x :: xs, vs, e => by
    simp only [Sk.evs] at e
    split at e
    · rename_i v vs' h1 h2
      cases e
      simp [h.ev h1, h.evs h2]
    · cases e

/-- Is the operation wanted? -/
def wt (l0 : List Oper) (E : Env) : Option (Nat × Bool) → Option Bool
  | none => some true
  | some (j, want) => match l0[j]? with
    | some o => match o.dst with
      | some t => match lk E t with
        | some (.bool b) => some (b == want)
        | some (.tuple _) => some false
        | _ => none
      | none => none
    | none => none
theorem wt_wanted {n : Fm} {E : Env} {a : Act} (h : Agr n E a) {l0 : List Oper} {o : Oper} {b : Bool} (hw : wt l0 E o.guard = some b) :
    Region.wanted o (yielded l0.toArray a.tmps) = b := by
  unfold wt at hw
  unfold Region.wanted
  cases hg : o.guard with
  | none => simpa [hg] using hw
  | some jw =>
    obtain ⟨j, want⟩ := jw
    simp only [hg] at hw
    cases hj : l0[j]? with
    | none => simp [hj] at hw
    | some oj =>
      simp only [hj] at hw
      cases hd : oj.dst with
      | none => simp [hd] at hw
      | some t =>
        simp only [hd] at hw
        cases hl : lk E t with
        | none => simp [hl] at hw
        | some u =>
          have hu := h.get t u hl
          cases u <;> simp only [hl] at hw <;> simp at hw <;> subst hw <;> simp [yielded, hj, hd, hu]

/-! ### the two judgements: a list of operations in its order (true), a list whose order is open and which leaves the pieces as they are (false) -/
section
/-- The walk through a list of operations. -/
def wpN (P : Program) (ops : Array Oper) (Q : Exit → Act → World → Prop) : List Oper → Act → World → Prop
  | [], a, w => Q .normal a w
  | o :: rest, a, w => if Region.wanted o (yielded ops a.tmps) then o.wp P a w (wpN P ops Q rest) Q else wpN P ops Q rest (a.put o.dst undef) w
theorem wpN_step {P : Program} {ops : Array Oper} {Q : Exit → Act → World → Prop} {a : Act} {w : World} {rest : List Oper} {o : Oper}
    (h : ∀ K : Act → World → Prop, (∀ a w, wpN P ops Q rest a w → K a w) → if Region.wanted o (yielded ops a.tmps) then o.wp P a w K Q else K (a.put o.dst undef) w) : wpN P ops Q (o :: rest) a w := h _ (fun _ _ h => h)
def noDefer (l : List Oper) : Bool := l.all fun o => match o.op with | .defer _ => false | _ => true
theorem callsIn_of {P : Program} {f : FuncId} {args : Array Value} {w : World} {R : Ending → World → Prop} (m : Fm) (h : Calls P f args w R) : CallsIn m.fence 0 P f args w R :=
  ⟨trivial, fun cs _ => let ⟨e, w', fr, r, s, x⟩ := h cs; ⟨e, w', fr, r, comesIn_wide.2 s, x⟩⟩
theorem rowsIn_of {P : Program} {row : String} {args : Array Value} {w : World} {R : Value → World → Prop} (m : Fm) (h : Rows P row args w R) : RowsIn m.fence 0 P row args w R :=
  fun c cs _ => let ⟨v, w', r, s⟩ := h c cs; ⟨v, w', r, stepsIn_wide.2 s⟩
theorem wpIn_of {P : Program} {o : Oper} {a : Act} {w : World} {K K' : Act → World → Prop} {Q : Exit → Act → World → Prop} (m : Fm) (hd : m.ro = none ∨ ∀ c, o.op ≠ .defer c) (hK : ∀ a w, K a w → K' a w) (h : o.wp P a w K Q) : o.wpIn m.fence 0 P a w K' Q := by
  unfold Oper.wpIn
  refine ⟨fun _ _ => trivial, ?_⟩
  have hs : o.semAt m.fence.round a.eval = execOp a.eval o := by
    rcases hd with hd | hd
    · show o.semAt m.ro a.eval = _
      rw [hd, Oper.semAt_none]
    · exact Oper.semAt_eq _ _ _ hd
  rw [hs]
  unfold Oper.wp at h
  generalize (execOp a.eval o).run P w = r at *
  cases r with
  | ok x w' =>
    cases x <;> simp only [Oper.upon, Oper.uponIn] at h ⊢ <;> try exact hK _ _ h
    · exact ⟨fun h => (by cases h), callsIn_of m (Calls.mono h fun e w'' he => by cases e <;> first | exact hK _ _ he | exact he)⟩
    · exact ⟨fun h => (by cases h), rowsIn_of m (Rows.mono h fun v w'' he => hK _ _ he)⟩
    all_goals exact h.elim
  | halt x w' => cases x <;> simp only [Oper.upon, Oper.uponIn] at h ⊢ <;> exact h
theorem wpN_In {P : Program} {ops : Array Oper} {Q : Exit → Act → World → Prop} (m : Fm) : ∀ (l : List Oper) (a : Act) (w : World), (m.ro = none ∨ noDefer l = true) → wpN P ops Q l a w → wpListIn m.fence 0 P ops Q l a w
  | [], _, _, _, h => h
  | o :: rest, a, w, hd, h => by
    unfold wpN at h
    unfold wpListIn
    have h1 : m.ro = none ∨ ∀ c, o.op ≠ .defer c := hd.imp id fun hn c hc => by simp [noDefer, hc] at hn
    have h2 : m.ro = none ∨ noDefer rest = true := hd.imp id fun hn => by
      unfold noDefer at hn ⊢
      rw [List.all_cons, Bool.and_eq_true] at hn
      exact hn.2
    split
    · rename_i hw
      rw [if_pos hw] at h
      exact wpIn_of m h1 (fun a w h => wpN_In m rest a w h2 h) h
    · rename_i hw
      rw [if_neg hw] at h
      exact ⟨fun _ _ => trivial, wpN_In m rest _ _ h2 h⟩
variable (B : World) (P : Program) (n : Fm)
def LJ (l0 l : List Oper) (E : Env) (H : List HP) (Q : Exit → Act → World → Prop) : Prop := ∀ a w, Agr n E a → Sat B H w → wpN P l0.toArray Q l a w
def QJ (l0 l : List Oper) (E : Env) (H : List HP) (Q : Exit → Act → World → Prop) : Prop :=
  ∀ a, Agr n E a → wpQuiet P l0.toArray (Sat B H) (fun a' => ∀ w, Sat B H w → Q .normal a' w) l a
def RT (m : Bool) (l0 l : List Oper) (E : Env) (H : List HP) (Q : Exit → Act → World → Prop) : Prop :=
  match m with
  | true => LJ B P n l0 l E H Q
  | false => QJ B P n l0 l E H Q
/-- What an operation yields in every such world, which it leaves such a world. -/
def Yld (E : Env) (H : List HP) (op : Op) (ty : TypeId) (v : Value) : Prop :=
  ∀ (o : Oper) a w, o.op = op → o.type = ty → Agr n E a → Sat B H w → Oper.quietAt P o a (Sat B H) w v
/-- Leaving by ex in this state is fine. -/
def AtQ (E : Env) (H : List HP) (Q : Exit → Act → World → Prop) (ex : Exit) : Prop := ∀ a w, Agr n E a → Sat B H w → Q ex a w
/-- Code, in a state. -/
def CT (c : Code) (E : Env) (H : List HP) (Q : Exit → Act → World → Prop) : Prop := ∀ a w, Agr n E a → Sat B H w → c.wpIn n.fence 0 P Q a w
end

section
variable {B : World} {P : Program} {n : Fm} {m : Bool} {l0 rest : List Oper} {E : Env} {H : List HP} {Q : Exit → Act → World → Prop}

theorem RT.nil (h : AtQ B n E H Q .normal) : RT B P n m l0 [] E H Q := by
  cases m
  · exact fun a hA => fun w hS => h a w hA hS
  · exact fun a w hA hS => h a w hA hS

theorem RT.skip {d : Nat} {op : Op} {ty : TypeId} {pos : String} {af : Array Edge} {g : Option (Nat × Bool)} (hw : wt l0 E g = some false) (hd : d < n.n)
    (k : RT B P n m l0 rest ((d, undef) :: E) H Q) : RT B P n m l0 (⟨some d, op, ty, pos, af, g⟩ :: rest) E H Q := by
  cases m
  · intro a hA
    have := wt_wanted hA (o := ⟨some d, op, ty, pos, af, g⟩) hw
    refine wpQuiet_step fun K hK => ?_
    rw [if_neg (by simp [this])]
    exact hK _ (k _ (hA.put hd _))
  · intro a w hA hS
    have := wt_wanted hA (o := ⟨some d, op, ty, pos, af, g⟩) hw
    refine wpN_step fun K hK => ?_
    rw [if_neg (by simp [this])]
    exact hK _ _ (k _ _ (hA.put hd _) hS)

theorem LJ_of_quietAt {K : Act → World → Prop} {o : Oper} {a : Act} {w : World} {v : Value} (h : Oper.quietAt P o a (Sat B H) w v) (hS : Sat B H w)
    (hk : ∀ w', Sat B H w' → K (a.put o.dst v) w') : o.wp P a w K Q := by
  unfold Oper.quietAt at h
  unfold Oper.wp
  cases hr : (execOp a.eval o).run P w with
  | halt x w' => rw [hr] at h; exact h.elim
  | ok x w' =>
    rw [hr] at h
    cases x <;> try exact h.elim
    · obtain ⟨rfl, rfl⟩ := h
      exact hk _ hS
    · obtain ⟨rfl, rfl⟩ := h
      exact hk _ hS
    · obtain ⟨rfl, hc⟩ := h
      exact hc.mono fun e w'' ⟨he, hC⟩ => by subst he; exact hk _ hC

theorem RT.y {d : Nat} {op : Op} {ty : TypeId} {pos : String} {af : Array Edge} {g : Option (Nat × Bool)} {v : Value} (hw : wt l0 E g = some true) (hd : d < n.n)
    (hy : Yld B P n E H op ty v) (k : RT B P n m l0 rest ((d, v) :: E) H Q) : RT B P n m l0 (⟨some d, op, ty, pos, af, g⟩ :: rest) E H Q := by
  cases m
  · intro a hA
    have := wt_wanted hA (o := ⟨some d, op, ty, pos, af, g⟩) hw
    refine wpQuiet_step fun K hK => ?_
    rw [if_pos this]
    exact ⟨v, fun w hS => hy _ a w rfl rfl hA hS, hK _ (k _ (hA.put hd _))⟩
  · intro a w hA hS
    have := wt_wanted hA (o := ⟨some d, op, ty, pos, af, g⟩) hw
    refine wpN_step fun K hK => ?_
    rw [if_pos this]
    exact LJ_of_quietAt (hy _ a w rfl rfl hA hS) hS fun w' hS' => hK _ _ (k _ _ (hA.put hd _) hS')

/-- An operation that turns the pieces (or yields what is not known ahead): in its order alone. -/
theorem RT.eff {dst : Option Nat} {op : Op} {ty : TypeId} {pos : String} {af : Array Edge} {g : Option (Nat × Bool)} (hw : wt l0 E g = some true)
    (h : ∀ (o : Oper) a w (K : Act → World → Prop), o.op = op → o.type = ty → o.dst = dst → Agr n E a → Sat B H w → (∀ a w, wpN P l0.toArray Q rest a w → K a w) → o.wp P a w K Q) :
    RT B P n true l0 (⟨dst, op, ty, pos, af, g⟩ :: rest) E H Q := by
  intro a w hA hS
  have := wt_wanted hA (o := ⟨dst, op, ty, pos, af, g⟩) hw
  refine wpN_step fun K hK => ?_
  rw [if_pos this]
  exact h _ a w K rfl rfl rfl hA hS hK

/-- A pure fact, or an existential's witness, is taken out of the head piece. -/
theorem RT.pu {p : Prop} (h : p → RT B P n true l0 rest E H Q) : RT B P n true l0 rest E (Pu p :: H) Q := fun a w hA hS => h hS.pu_out a w hA hS.tail
theorem RT.ex {α : Sort _} {f : α → List HP} (h : ∀ x, RT B P n true l0 rest E (f x ++ H) Q) : RT B P n true l0 rest E (Ex f :: H) Q := fun a w hA hS =>
  let ⟨x, hx⟩ := hS.ex_out
  h x a w hA hx
theorem RT.weak {H' : List HP} (hm : ∀ w, Sat B H w → Sat B H' w) (h : RT B P n true l0 rest E H' Q) : RT B P n true l0 rest E H Q := fun a w hA hS => h a w hA (hm w hS)

/-! ### code -/
variable {c x y : Code}
/-- What stands behind: y, then Q. -/
def Then (n : Fm) (P : Program) (y : Code) (Q : Exit → Act → World → Prop) : Exit → Act → World → Prop := Exit.then (y.wpIn n.fence 0 P Q) Q
theorem CT.seq (h : CT B P n x E H (Then n P y Q)) : CT B P n (.seq x y) E H Q := fun a w hA hS => wpIn_seq (h a w hA hS)
theorem CT.skip (h : AtQ B n E H Q .normal) : CT B P n .skip E H Q := fun a w hA hS => wpIn_skip (h a w hA hS)
theorem CT.ret (h : AtQ B n E H Q .ret) : CT B P n .ret E H Q := fun a w hA hS => wpIn_ret (h a w hA hS)
theorem CT.exit {id : Nat} (h : AtQ B n E H Q (.exit id)) : CT B P n (.exit id) E H Q := fun a w hA hS => wpIn_exit (h a w hA hS)
theorem CT.block {id : Nat} (h : CT B P n c E H (Exit.inBlock id Q)) : CT B P n (.block id c) E H Q := fun a w hA hS => wpIn_block (h a w hA hS)
theorem CT.cond_t {o : Operand} (he : ev E o = some (.bool true)) (h : CT B P n x E H Q) : CT B P n (.cond o x y) E H Q := fun a w hA hS => wpIn_cond_true (hA.ev he) (h a w hA hS)
theorem CT.cond_f {o : Operand} (he : ev E o = some (.bool false)) (h : CT B P n y E H Q) : CT B P n (.cond o x y) E H Q := fun a w hA hS => wpIn_cond_false (hA.ev he) (h a w hA hS)
theorem CT.cond {o : Operand} {b : Bool} (he : ev E o = some (.bool b)) (ht : b = true → CT B P n x E H Q) (hf : b = false → CT B P n y E H Q) : CT B P n (.cond o x y) E H Q :=
  fun a w hA hS => wpIn_cond_split (hA.ev he) (fun e => ht e a w hA hS) (fun e => hf e a w hA hS)
theorem CT.region {id : Nat} {l : List Oper} (h : RT B P n true l l E H Q) (hnd : n.ro = none ∨ noDefer l = true := by first | exact .inl rfl | exact .inr rfl) : CT B P n (.region id l.toArray false) E H Q := fun a w hA hS => wpIn_region_lit (wpN_In n l a w hnd (h a w hA hS))
theorem CT.quiet {id : Nat} {l : List Oper} (hm : P.follows .mixedOrders = true) (hB : Region.lexB .any l.toArray = true) (h : RT B P n false l l E H Q) (hro : n.ro = none := by rfl) : CT B P n (.region id l.toArray true) E H Q :=
  fun a w hA hS => by rw [Fm.wide hro]; exact wpIn_wide.2 (wp_region_quiet (C := Sat B H) hm hB (hS.drawn _) (by simpa using h a hA))
theorem CT.pu {p : Prop} (h : p → CT B P n c E H Q) : CT B P n c E (Pu p :: H) Q := fun a w hA hS => h hS.pu_out a w hA hS.tail
theorem CT.ex {α : Sort _} {f : α → List HP} (h : ∀ x, CT B P n c E (f x ++ H) Q) : CT B P n c E (Ex f :: H) Q := fun a w hA hS =>
  let ⟨x, hx⟩ := hS.ex_out
  h x a w hA hx
theorem CT.weak {H' : List HP} (hm : ∀ w, Sat B H w → Sat B H' w) (h : CT B P n c E H' Q) : CT B P n c E H Q := fun a w hA hS => h a w hA (hm w hS)
/-- A slot that is not read any more is forgotten; order does not matter. -/
def Env.sub (E E' : Env) : Prop := ∀ t v, lk E' t = some v → lk E t = some v
theorem Agr.sub {E' : Env} {a : Act} (h : Agr n E a) (hs : Env.sub E E') : Agr n E' a := ⟨h.size, h.defers, fun t v e => h.get t v (hs t v e)⟩
def subB (E : Env) : Env → Prop
  | [] => True
  | (t, v) :: E' => lk E t = some v ∧ subB E E'
theorem subB.sub : ∀ {E' : Env}, subB E E' → Env.sub E E'
  | [], _, _, _, e => by cases e
  | (s, u) :: E', h, t, v, e => by
    simp only [lk] at e
    cases hb : Nat.beq s t with
    | true => rw [hb] at e; cases e; rw [Nat.beq_eq] at hb; exact hb ▸ h.1
    | false => rw [hb] at e; exact subB.sub h.2 t v e
theorem CT.env {E' : Env} (hs : subB E E') (h : CT B P n c E' H Q) : CT B P n c E H Q := fun a w hA hS => h a w (hA.sub hs.sub) hS

theorem Fm.fence_eq {m m' : Fm} (h : m'.ro = m.ro) : m'.fence = m.fence := by unfold Fm.fence; rw [h]
theorem AtQ.then_ {n' : Fm} {K : Code} (h : CT B P n' K E H Q) (hro : n'.ro = n.ro := by rfl) : AtQ B n' E H (Then n P K Q) .normal := fun a w hA hS => by
  show K.wpIn n.fence 0 P Q a w
  rw [← Fm.fence_eq hro]
  exact h a w hA hS
theorem A0 {n' : Fm} {K : Code} (h : CT B P n' K E H Q) (hro : n'.ro = n.ro := by rfl) : AtQ B n' E H (Then n P K Q) .normal := AtQ.then_ h hro
theorem AtQ.then_exit {n' : Fm} {K : Code} {id : Nat} (h : AtQ B n' E H Q (.exit id)) : AtQ B n' E H (Then n P K Q) (.exit id) := h
theorem A1 {n' : Fm} {K : Code} {id : Nat} (h : AtQ B n' E H Q (.exit id)) : AtQ B n' E H (Then n P K Q) (.exit id) := AtQ.then_exit h
theorem AtQ.then_ret {n' : Fm} {K : Code} (h : AtQ B n' E H Q .ret) : AtQ B n' E H (Then n P K Q) .ret := h
theorem A2 {n' : Fm} {K : Code} (h : AtQ B n' E H Q .ret) : AtQ B n' E H (Then n P K Q) .ret := AtQ.then_ret h
/-- What stands behind a loop's round, begun in the state x. -/
def LoopQ {α : Type} (B : World) (n : Fm) (f : α → Env) (g : α → List HP) (μ : α → Nat) (x : α) (Q : Exit → Act → World → Prop) : Exit → Act → World → Prop :=
  Exit.then (fun a w => ∃ y, Agr n (f y) a ∧ Sat B (g y) w ∧ μ y < μ x) Q
theorem AtQ.loop {α : Type} {f : α → Env} {g : α → List HP} {μ : α → Nat} {x : α} (y : α) (hE : subB E (f y)) (hH : ∀ w, Sat B H w → Sat B (g y) w) (hμ : μ y < μ x) : AtQ B n E H (LoopQ B n f g μ x Q) .normal :=
  fun _ w hA hS => ⟨y, hA.sub hE.sub, hH w hS, hμ⟩
theorem AtQ.loop_exit {n' : Fm} {α : Type} {f : α → Env} {g : α → List HP} {μ : α → Nat} {x : α} {id : Nat} (h : AtQ B n' E H Q (.exit id)) : AtQ B n' E H (LoopQ B n f g μ x Q) (.exit id) := h
theorem A3 {n' : Fm} {α : Type} {f : α → Env} {g : α → List HP} {μ : α → Nat} {x : α} {id : Nat} (h : AtQ B n' E H Q (.exit id)) : AtQ B n' E H (LoopQ B n f g μ x Q) (.exit id) := AtQ.loop_exit h
theorem AtQ.loop_ret {n' : Fm} {α : Type} {f : α → Env} {g : α → List HP} {μ : α → Nat} {x : α} (h : AtQ B n' E H Q .ret) : AtQ B n' E H (LoopQ B n f g μ x Q) .ret := h
theorem A4 {n' : Fm} {α : Type} {f : α → Env} {g : α → List HP} {μ : α → Nat} {x : α} (h : AtQ B n' E H Q .ret) : AtQ B n' E H (LoopQ B n f g μ x Q) .ret := AtQ.loop_ret h
/-- What stands behind a piece of code whose ways meet again in the states x. -/
def CutQ {α : Sort _} (B : World) (n : Fm) (f : α → Env) (g : α → List HP) (Q : Exit → Act → World → Prop) : Exit → Act → World → Prop := Exit.then (fun a w => ∃ x, Agr n (f x) a ∧ Sat B (g x) w) Q
theorem AtQ.cut {α : Sort _} {f : α → Env} {g : α → List HP} (y : α) (hE : subB E (f y)) (hH : ∀ w, Sat B H w → Sat B (g y) w) : AtQ B n E H (CutQ B n f g Q) .normal :=
  fun _ w hA hS => ⟨y, hA.sub hE.sub, hH w hS⟩
theorem AtQ.cut_exit {n' : Fm} {α : Sort _} {f : α → Env} {g : α → List HP} {id : Nat} (h : AtQ B n' E H Q (.exit id)) : AtQ B n' E H (CutQ B n f g Q) (.exit id) := h
theorem A5 {n' : Fm} {α : Sort _} {f : α → Env} {g : α → List HP} {id : Nat} (h : AtQ B n' E H Q (.exit id)) : AtQ B n' E H (CutQ B n f g Q) (.exit id) := AtQ.cut_exit h
theorem AtQ.cut_ret {n' : Fm} {α : Sort _} {f : α → Env} {g : α → List HP} (h : AtQ B n' E H Q .ret) : AtQ B n' E H (CutQ B n f g Q) .ret := h
theorem A6 {n' : Fm} {α : Sort _} {f : α → Env} {g : α → List HP} (h : AtQ B n' E H Q .ret) : AtQ B n' E H (CutQ B n f g Q) .ret := AtQ.cut_ret h
theorem AtQ.in_n {id : Nat} (h : AtQ B n E H Q .normal) : AtQ B n E H (Exit.inBlock id Q) .normal := h
theorem A7 {id : Nat} (h : AtQ B n E H Q .normal) : AtQ B n E H (Exit.inBlock id Q) .normal := AtQ.in_n h
theorem AtQ.in_ret {id : Nat} (h : AtQ B n E H Q .ret) : AtQ B n E H (Exit.inBlock id Q) .ret := h
theorem A8 {id : Nat} (h : AtQ B n E H Q .ret) : AtQ B n E H (Exit.inBlock id Q) .ret := AtQ.in_ret h
theorem AtQ.in_eq {id : Nat} (h : AtQ B n E H Q .normal) : AtQ B n E H (Exit.inBlock id Q) (.exit id) := fun a w hA hS => by
  show (if id = id then _ else _)
  rw [if_pos rfl]
  exact h a w hA hS
theorem A9 {id : Nat} (h : AtQ B n E H Q .normal) : AtQ B n E H (Exit.inBlock id Q) (.exit id) := AtQ.in_eq h
theorem AtQ.in_ne {id id' : Nat} (hne : Nat.beq id' id = false) (h : AtQ B n E H Q (.exit id')) : AtQ B n E H (Exit.inBlock id Q) (.exit id') := fun a w hA hS => by
  show (if id' = id then _ else _)
  rw [if_neg (by rw [← Nat.beq_eq, hne]; simp)]
  exact h a w hA hS
theorem AtQ.env {E' : Env} {ex : Exit} (hs : subB E E') (h : AtQ B n E' H Q ex) : AtQ B n E H Q ex := fun a w hA hS => h a w (hA.sub hs.sub) hS
theorem AtQ.weak {H' : List HP} {ex : Exit} (hm : ∀ w, Sat B H w → Sat B H' w) (h : AtQ B n E H' Q ex) : AtQ B n E H Q ex := fun a w hA hS => h a w hA (hm w hS)

theorem least_ {S : Nat → Prop} (h : ∃ k, S k) : ∃ k, S k ∧ ∀ j, S j → k ≤ j := by
  obtain ⟨k, hk⟩ := h
  induction k using Nat.strongRecOn with
  | _ k ih =>
    by_cases hl : ∃ j, j < k ∧ S j
    · obtain ⟨j, hj, hs⟩ := hl
      exact ih j hj hs
    · exact ⟨k, hk, fun j hj => Nat.le_of_not_lt fun hlt => hl ⟨j, hlt, hj⟩⟩
/-- A loop: its states x, each a frame and pieces, and a measure. -/
theorem CT.loop {α : Type} (f : α → Env) (g : α → List HP) (μ : α → Nat) (x0 : α) (hE : subB E (f x0)) (hH : ∀ w, Sat B H w → Sat B (g x0) w)
    (round : ∀ x, CT B P n c (f x) (g x) (LoopQ B n f g μ x Q)) : CT B P n (.loop c) E H Q := by
  classical
  intro a w hA hS
  let S : Act → World → Nat → Prop := fun a w k => ∃ x, Agr n (f x) a ∧ Sat B (g x) w ∧ μ x = k
  let I : Act → World → Prop := fun a w => ∃ k, S a w k
  let M : Act → World → Nat := fun a w => if h : ∃ k, S a w k then Classical.choose (least_ h) else 0
  refine wpIn_loop I M ⟨_, x0, hA.sub hE.sub, hH w hS, rfl⟩ ?_
  intro a w hI
  have hM : M a w = Classical.choose (least_ hI) := by simp only [M]; rw [dif_pos hI]
  obtain ⟨x, hx, hs, hk⟩ := (Classical.choose_spec (least_ hI)).1
  refine wpIn_mono (round x a w hx hs) ?_
  intro e a' w' hq
  cases e <;> try exact hq
  obtain ⟨y, hy, hs', hlt⟩ := hq
  have hI' : ∃ k, S a' w' k := ⟨_, y, hy, hs', rfl⟩
  refine ⟨hI', ?_⟩
  have h1 : M a' w' = Classical.choose (least_ hI') := by simp only [M]; rw [dif_pos hI']
  have h2 : Classical.choose (least_ hI') ≤ μ y := (Classical.choose_spec (least_ hI')).2 _ ⟨y, hy, hs', rfl⟩
  omega

/-- The ways through c meet again in the states x. -/
theorem CT.cut {α : Sort _} (f : α → Env) (g : α → List HP) (hc : CT B P n c E H (CutQ B n f g Q)) (hk : ∀ x, AtQ B n (f x) (g x) Q .normal) : CT B P n c E H Q := by
  intro a w hA hS
  refine wpIn_mono (hc a w hA hS) ?_
  intro e a' w' hq
  cases e <;> try exact hq
  obtain ⟨x, hx, hs⟩ := hq
  exact hk x a' w' hx hs
end

/-! ### functions -/
/-- What a function does: of Pre, beside R, it makes a value and pieces as Post says; R stays. -/
def Sp (B : World) (P : Program) (f : FuncId) (vs : List Value) (R Pre : List HP) (Post : Value → List HP → Prop) : Prop :=
  ∀ w, Sat B (Pre ++ R) w → Calls P f vs.toArray w fun e w' => ∃ v H', e = .returned v ∧ Post v H' ∧ Sat B (H' ++ R) w'
def FinQ (B : World) (P : Program) (fn : Func) (R : List HP) (Post : Value → List HP → Prop) : Exit → Act → World → Prop :=
  bodyPost P fn fun e w' => ∃ v H', e = .returned v ∧ Post v H' ∧ Sat B (H' ++ R) w'
def argE : Nat → List Value → Env
  | _, [] => []
  | k, v :: vs => (k, v) :: argE (k + 1) vs
theorem argE_lk : ∀ (vs : List Value) (k t : Nat) (v : Value), lk (argE k vs) t = some v → k ≤ t ∧ vs[t - k]? = some v
  | [], _, _, _, e => by cases e
  | u :: vs, k, t, v, e => by
    simp only [argE, lk] at e
    cases hb : Nat.beq k t with
    | true => rw [hb] at e; cases e; rw [Nat.beq_eq] at hb; subst hb; simp
    | false =>
      rw [hb] at e
      have hne : k ≠ t := by intro h; rw [← Nat.beq_eq, hb] at h; cases h
      obtain ⟨h1, h2⟩ := argE_lk vs (k + 1) t v e
      refine ⟨by omega, ?_⟩
      obtain ⟨j, hj⟩ : ∃ j, t - k = j + 1 := ⟨t - k - 1, by omega⟩
      rw [hj, List.getElem?_cons_succ, show j = t - (k + 1) by omega]
      exact h2
theorem Sp.body {B : World} {P : Program} {f : FuncId} {fn : Func} {c : Code} {n : Nat} {vs : List Value} {R Pre : List HP} {Post : Value → List HP → Prop}
    (hf : P.funcs[f]? = some fn) (hb : fn.body = some c) (hn : fn.ntmps = n) (hl : vs.length ≤ n)
    (h : CT B P (.mk0 n) c (argE 0 vs) (Pre ++ R) (FinQ B P fn R Post)) : Sp B P f vs R Pre Post := by
  intro w hS
  refine calls_of_wp hf hb (wpIn_wide.1 (h _ w ⟨?_, rfl, fun t v e => ?_⟩ hS))
  · simp [hn]; omega
  · obtain ⟨_, e'⟩ := argE_lk vs 0 t v e
    have : t < vs.length := (List.getElem?_eq_some_iff.1 (by simpa using e')).1
    rw [Array.getElem?_append_left (by simpa using this)]
    simpa using e'
section
variable {B : World} {P : Program} {n : Nat} {E : Env} {H R : List HP} {fn : Func} {Post : Value → List HP → Prop}
theorem AtQ.fin0 (hr : fn.results = #[]) {H' : List HP} (hp : Post (.tuple #[]) H') (hs : ∀ w, Sat B H w → Sat B (H' ++ R) w) (ex : Exit) (hex : ex = .normal ∨ ex = .ret) :
    AtQ B (.mk0 n) E H (FinQ B P fn R Post) ex := by
  intro a w hA hS
  rcases hex with rfl | rfl
  · exact bodyPost_end (results_none hr _ _ _) hA.defers ⟨_, _, rfl, hp, hs w hS⟩
  · exact bodyPost_ret (results_none hr _ _ _) hA.defers ⟨_, _, rfl, hp, hs w hS⟩
theorem AtQ.fin1 {t : Nat} {v : Value} (hr : fn.results = #[.tmp t]) (he : lk E t = some v) {H' : List HP} (hp : Post v H') (hs : ∀ w, Sat B H w → Sat B (H' ++ R) w) :
    AtQ B (.mk0 n) E H (FinQ B P fn R Post) .ret := by
  intro a w hA hS
  refine bodyPost_ret (results_tmp hr _ _ _) hA.defers ⟨_, _, rfl, ?_, hs w hS⟩
  rw [show a.tmps.getD t undef = v by simp [Array.getD_eq_getD_getElem?, hA.get t v he]]
  exact hp
theorem AtQ.fin2 {t u : Nat} {v1 v2 : Value} (hr : fn.results = #[.tmp t, .tmp u]) (he : lk E t = some v1) (he2 : lk E u = some v2) {H' : List HP} (hp : Post (.tuple #[v1, v2]) H') (hs : ∀ w, Sat B H w → Sat B (H' ++ R) w) :
    AtQ B (.mk0 n) E H (FinQ B P fn R Post) .ret := by
  intro a w hA hS
  refine bodyPost_ret (results_tmp2 hr _ _ _) hA.defers ⟨_, _, rfl, ?_, hs w hS⟩
  rw [show a.tmps.getD t undef = v1 by simp [Array.getD_eq_getD_getElem?, hA.get t v1 he], show a.tmps.getD u undef = v2 by simp [Array.getD_eq_getD_getElem?, hA.get u v2 he2]]
  exact hp
end

end Go.Sk
end
section
/- The rules for single operations: copies, arithmetic, tests, fields, loads and stores of known cells, lengths, elements. Plain theorems over any program with a table of its types; no condition. -/
namespace Go.Sk
open Go.RowKit

/-! ### a table of the program's types, held against the program once -/
def al {β : Type} : List (Nat × β) → Nat → Option β
  | [], _ => none
  | (k, b) :: l, t => bif Nat.beq k t then some b else al l t
def al2 {β : Type} : List (Nat × Nat × β) → Nat → Nat → Option β
  | [], _, _ => none
  | (k, j, b) :: l, t, u => bif Nat.beq k t then (bif Nat.beq j u then some b else al2 l t u) else al2 l t u
theorem al_mem {β : Type} : ∀ {l : List (Nat × β)} {t : Nat} {b : β}, al l t = some b → (t, b) ∈ l
  | (k, c) :: l, t, b, h => by
    simp only [al] at h
    cases hb : Nat.beq k t with
    | true => rw [hb] at h; cases h; rw [Nat.beq_eq] at hb; subst hb; exact List.mem_cons_self
    | false => rw [hb] at h; exact List.mem_cons_of_mem _ (al_mem h)
theorem al2_mem {β : Type} : ∀ {l : List (Nat × Nat × β)} {t u : Nat} {b : β}, al2 l t u = some b → (t, u, b) ∈ l
  | (k, j, c) :: l, t, u, b, h => by
    simp only [al2] at h
    cases hb : Nat.beq k t with
    | true =>
      cases hj : Nat.beq j u with
      | true => rw [hb, hj] at h; cases h; rw [Nat.beq_eq] at hb hj; subst hb hj; exact List.mem_cons_self
      | false => rw [hb, hj] at h; exact List.mem_cons_of_mem _ (al2_mem h)
    | false => rw [hb] at h; exact List.mem_cons_of_mem _ (al2_mem h)

def isAggB (P : Program) (t : TypeId) : Option Bool :=
  match P.underlying t with
  | some (.struct _) | some (.array _ _) => some true
  | some _ => some false
  | none => none
def sizeB (P : Program) (t : TypeId) : Option Nat := (P.info? t).map (·.size)
/-- offset, size, is it an aggregate? -/
def fldB (P : Program) (s f : Nat) : Option (Nat × Nat × Bool) :=
  match P.underlying s with
  | some (.struct fs) => match fs[f]? with
    | some fi => match sizeB P fi.type, isAggB P fi.type with
      | some z, some g => some (fi.offset, z, g)
      | _, _ => none
    | none => none
  | _ => none
/-- element type, its size, its bytes. -/
def slcB (P : Program) (t : Nat) : Option (Nat × Nat × Nat) :=
  match P.underlying t with
  | some (.slice e) => match P.info? e with
    | some i => some (e, i.size, i.bytes)
    | none => none
  | _ => none
def zerB (P : Program) (t : Nat) : Option Value := (P.info? t).bind (·.zero)
def intB (P : Program) (t : Nat) : Option IntKind := match P.underlying t with | some (.int k) => some k | _ => none
/-- 1: a pointer type (to something that has cells); 2: string; 3: bool; 4: slice; 5: func. -/
def knd (P : Program) (t : Nat) : Option Nat := match P.underlying t with
  | some (.pointer e) => match sizeB P e with
    | some 0 => none
    | some _ => some 1
    | none => none
  | some .string => some 2 | some .bool => some 3 | some (.slice _) => some 4 | some (.func _ _ _) => some 5 | _ => none
def funB (P : Program) (f : Nat) : Option Bool := match P.funcs[f]? with
  | some fn => some (fn.name != "runtime.NumGoroutine" && fn.body.isSome)
  | none => none

/-- where a struct's fields lie, and how large they are. -/
def plB (P : Program) (t : Nat) : Option (List (Nat × Nat)) := match P.underlying t with
  | some (.struct fs) => fs.toList.mapM fun f => (P.info? f.type).map fun i => (f.offset, i.size)
  | _ => none

structure Tab (P : Program) where
  szs : List (Nat × Nat × Bool)
  szs_ok : szs.map (fun e => (sizeB P e.1, isAggB P e.1)) = szs.map (fun e => (some e.2.1, some e.2.2))
  flds : List (Nat × Nat × Nat × Nat × Bool)
  flds_ok : flds.map (fun e => fldB P e.1 e.2.1) = flds.map (fun e => some e.2.2)
  slcs : List (Nat × Nat × Nat × Nat)
  slcs_ok : slcs.map (fun e => slcB P e.1) = slcs.map (fun e => some e.2)
  zers : List (Nat × Value)
  zers_ok : zers.map (fun e => zerB P e.1) = zers.map (fun e => some e.2)
  plcs : List (Nat × List (Nat × Nat))
  plcs_ok : plcs.map (fun e => plB P e.1) = plcs.map (fun e => some e.2)
  ints : List (Nat × IntKind)
  ints_ok : ints.map (fun e => intB P e.1) = ints.map (fun e => some e.2)
  kinds : List (Nat × Nat)
  kinds_ok : kinds.map (fun e => knd P e.1) = kinds.map (fun e => some e.2)
  funs : List (Nat × Bool)
  funs_ok : ∀ e ∈ funs, ∀ args w, (callFunc e.1 args).run P w = .ok (.enter e.1 args) w

theorem mem_map_eq {α β : Type} {f g : α → β} : ∀ {l : List α}, l.map f = l.map g → ∀ x, x ∈ l → f x = g x
  | [], _, _, h => by cases h
  | y :: l, e, x, h => by
    simp only [List.map_cons, List.cons.injEq] at e
    rcases List.mem_cons.1 h with rfl | h
    · exact e.1
    · exact mem_map_eq e.2 x h

section
variable {P : Program} (T : Tab P)
theorem Tab.sz {t z : Nat} {g : Bool} (h : al T.szs t = some (z, g)) : sizeB P t = some z ∧ isAggB P t = some g := by
  have := mem_map_eq T.szs_ok _ (al_mem h)
  simpa using this
theorem Tab.fld {s f o z : Nat} {g : Bool} (h : al2 T.flds s f = some (o, z, g)) : fldB P s f = some (o, z, g) := mem_map_eq T.flds_ok _ (al2_mem h)
theorem Tab.slc {t e z b : Nat} (h : al T.slcs t = some (e, z, b)) : slcB P t = some (e, z, b) := mem_map_eq T.slcs_ok _ (al_mem h)
theorem Tab.zer {t : Nat} {v : Value} (h : al T.zers t = some v) : zerB P t = some v := mem_map_eq T.zers_ok _ (al_mem h)
theorem Tab.plc {t : Nat} {l : List (Nat × Nat)} (h : al T.plcs t = some l) : plB P t = some l := mem_map_eq T.plcs_ok _ (al_mem h)
theorem Tab.int {t : Nat} {k : IntKind} (h : al T.ints t = some k) : intB P t = some k := mem_map_eq T.ints_ok _ (al_mem h)
theorem Tab.kind {t k : Nat} (h : al T.kinds t = some k) : knd P t = some k := mem_map_eq T.kinds_ok _ (al_mem h)
end

section
variable {P : Program} {w : World}
theorem sizeB_info {t z : Nat} (h : sizeB P t = some z) : ∃ i, P.info? t = some i ∧ i.size = z := by
  unfold sizeB at h
  cases hi : P.info? t with
  | none => simp [hi] at h
  | some i => exact ⟨i, rfl, by simpa [hi] using h⟩
theorem run_sizeB {t z : Nat} (h : sizeB P t = some z) : (sizeOf t).run P w = .ok z w := by
  obtain ⟨i, hi, rfl⟩ := sizeB_info h
  simp [sizeOf, typeInfo, hi, go_sem]
theorem run_isAggB {t : Nat} {g : Bool} (h : isAggB P t = some g) : (isAgg t).run P w = .ok g w := by
  unfold isAggB at h
  cases hu : P.underlying t with
  | none => simp [hu] at h
  | some d => cases d <;> simp [hu] at h <;> subst h <;> simp [isAgg, run_underlying hu, go_sem]
theorem slcB_spec {t e z b : Nat} (h : slcB P t = some (e, z, b)) : P.underlying t = some (.slice e) ∧ ∃ i, P.info? e = some i ∧ i.size = z ∧ i.bytes = b := by
  unfold slcB at h
  split at h
  · rename_i e' hu
    split at h
    · rename_i i hi
      simp only [Option.some.injEq, Prod.mk.injEq] at h
      obtain ⟨rfl, rfl, rfl⟩ := h
      exact ⟨hu, i, hi, rfl, rfl⟩
    · cases h
  · cases h
theorem fldB_spec {s f o z : Nat} {g : Bool} (h : fldB P s f = some (o, z, g)) :
    ∃ fs fi, P.underlying s = some (.struct fs) ∧ fs[f]? = some fi ∧ fi.offset = o ∧ sizeB P fi.type = some z ∧ isAggB P fi.type = some g := by
  unfold fldB at h
  split at h
  · rename_i fs hu
    split at h
    · rename_i fi hf
      split at h
      · rename_i z' g' hz hg
        simp only [Option.some.injEq, Prod.mk.injEq] at h
        obtain ⟨rfl, rfl, rfl⟩ := h
        exact ⟨fs, fi, hu, hf, rfl, hz, hg⟩
      · cases h
    · cases h
  · cases h
theorem zerB_spec {t : Nat} {v : Value} (h : zerB P t = some v) : (zeroValue t).run P w = .ok v w := by
  unfold zerB at h
  cases hi : P.info? t with
  | none => simp [hi] at h
  | some i =>
    simp only [hi, Option.bind_some] at h
    simp [zeroValue, typeInfo, hi, h, go_sem]
theorem intB_spec {t : Nat} {k : IntKind} (h : intB P t = some k) : P.underlying t = some (.int k) := by
  unfold intB at h
  split at h
  · rename_i k' hu; cases h; exact hu
  · cases h
end

section
variable {B : World} {P : Program} {n : Fm} {E : Env} {H R : List HP} {ty : TypeId}

theorem qa_v {C : World → Prop} {w : World} {v : Value} {s : Sem Value} (h : s.run P w = .ok v w) :
    Oper.quietUpon P C w v ((do pure (Next.value (← s)) : Sem Next).run P w) := by
  simp only [Sem.run_bind, h, Result.andThen_ok]
  exact ⟨rfl, rfl⟩

/-- The common form: an operation that runs to a value, the world left. -/
theorem y_run {op : Op} {v : Value} (h : ∀ (o : Oper) a w, o.op = op → o.type = ty → Agr n E a → Sat B H w → (execOp a.eval o).run P w = .ok (.value v) w) : Yld B P n E H op ty v :=
  fun o a w ho ht hA hS => by unfold Oper.quietAt; rw [h o a w ho ht hA hS]; exact ⟨rfl, rfl⟩

theorem y_move {x : Operand} {v : Value} (hx : ev E x = some v) : Yld B P n E H (.move x) ty v :=
  y_run fun o a w ho _ hA _ => by unfold execOp; rw [ho, ← hA.ev hx]; rfl
theorem y_assign {x : Operand} {v : Value} (hx : ev E x = some v) : Yld B P n E H (.assign x) ty v :=
  y_run fun o a w ho _ hA _ => by unfold execOp; rw [ho, ← hA.ev hx]; rfl
theorem y_pick_t {c x y : Operand} {v : Value} (hc : ev E c = some (.bool true)) (hx : ev E x = some v) : Yld B P n E H (.pick c x y) ty v :=
  y_run fun o a w ho _ hA _ => by unfold execOp; simp only [ho, hA.ev hc, hA.ev hx]; rfl
theorem y_pick_f {c x y : Operand} {v : Value} (hc : ev E c = some (.bool false)) (hy : ev E y = some v) : Yld B P n E H (.pick c x y) ty v :=
  y_run fun o a w ho _ hA _ => by unfold execOp; simp only [ho, hA.ev hc, hA.ev hy]; rfl
theorem y_nil {x : Operand} {ad : Addr} (hx : ev E x = some (.pointer (some ad))) : Yld B P n E H (.nilCheck x) ty (.pointer (some ad)) :=
  y_run fun o a w ho _ hA _ => by unfold execOp; simp only [ho, hA.ev hx]; rfl
theorem y_extract {x : Operand} {l : List Value} {i : Nat} {v : Value} (hx : ev E x = some (.tuple l.toArray)) (hi : l[i]? = some v) : Yld B P n E H (.extract x i) ty v :=
  y_run fun o a w ho _ hA _ => by
    unfold execOp
    simp only [ho, hA.ev hx, Instr.extract, List.getElem?_toArray, hi]
    rfl
theorem y_not {x : Operand} {ty' : TypeId} {b r : Bool} (hx : ev E x = some (.bool b)) (hr : (!b) = r) : Yld B P n E H (.unOp .not ty' x) ty (.bool r) :=
  y_run fun o a w ho _ hA _ => by subst hr; unfold execOp; simp only [ho, hA.ev hx]; rfl
theorem y_neg {x : Operand} {ty' : TypeId} {k : IntKind} {i r : Int} (hx : ev E x = some (.int k i)) (hr : k.wrap (0 - i) = r) : Yld B P n E H (.unOp .neg ty' x) ty (.int k r) :=
  y_run fun o a w ho _ hA _ => by subst hr; unfold execOp; simp only [ho, hA.ev hx]; rfl
theorem y_xor1 {x : Operand} {ty' : TypeId} {k : IntKind} {i r : Int} (hx : ev E x = some (.int k i))
    (hr : k.wrap ((BitVec.ofInt k.bits (if k.signed then -1 else k.max) ^^^ BitVec.ofInt k.bits i).toNat : Int) = r) : Yld B P n E H (.unOp .xor ty' x) ty (.int k r) :=
  y_run fun o a w ho _ hA _ => by subst hr; unfold execOp; simp only [ho, hA.ev hx]; rfl

/-! ### arithmetic -/
section
variable {x y : Operand} {k : IntKind} {i j r : Int} {t t' : TypeId}
theorem y_add (hx : ev E x = some (.int k i)) (hy : ev E y = some (.int k j)) (hr : k.wrap (i + j) = r) : Yld B P n E H (.binOp .add t x y t') ty (.int k r) :=
  y_run fun o a w ho _ hA _ => by subst hr; unfold execOp; simp only [ho, hA.ev hx, hA.ev hy, eqGuard, binOp, ne_eq, not_true, if_false, Op.intArith]; rfl
theorem y_sub (hx : ev E x = some (.int k i)) (hy : ev E y = some (.int k j)) (hr : k.wrap (i - j) = r) : Yld B P n E H (.binOp .sub t x y t') ty (.int k r) :=
  y_run fun o a w ho _ hA _ => by subst hr; unfold execOp; simp only [ho, hA.ev hx, hA.ev hy, eqGuard, binOp, ne_eq, not_true, if_false, Op.intArith]; rfl
theorem y_mul (hx : ev E x = some (.int k i)) (hy : ev E y = some (.int k j)) (hr : k.wrap (i * j) = r) : Yld B P n E H (.binOp .mul t x y t') ty (.int k r) :=
  y_run fun o a w ho _ hA _ => by subst hr; unfold execOp; simp only [ho, hA.ev hx, hA.ev hy, eqGuard, binOp, ne_eq, not_true, if_false, Op.intArith]; rfl
theorem y_quo (hx : ev E x = some (.int k i)) (hy : ev E y = some (.int k j)) (h0 : j ≠ 0) (hr : k.wrap (i.tdiv j) = r) : Yld B P n E H (.binOp .quo t x y t') ty (.int k r) :=
  y_run fun o a w ho _ hA _ => by subst hr; unfold execOp; simp only [ho, hA.ev hx, hA.ev hy, eqGuard, binOp, ne_eq, not_true, if_false, Op.intDiv, if_neg h0]; rfl
theorem y_rem (hx : ev E x = some (.int k i)) (hy : ev E y = some (.int k j)) (h0 : j ≠ 0) (hr : i.tmod j = r) : Yld B P n E H (.binOp .rem t x y t') ty (.int k r) :=
  y_run fun o a w ho _ hA _ => by subst hr; unfold execOp; simp only [ho, hA.ev hx, hA.ev hy, eqGuard, binOp, ne_eq, not_true, if_false, Op.intDiv, if_neg h0]; rfl
theorem y_and (hx : ev E x = some (.int k i)) (hy : ev E y = some (.int k j)) (hr : k.wrap ((BitVec.ofInt k.bits i &&& BitVec.ofInt k.bits j).toNat : Int) = r) : Yld B P n E H (.binOp .and t x y t') ty (.int k r) :=
  y_run fun o a w ho _ hA _ => by subst hr; unfold execOp; simp only [ho, hA.ev hx, hA.ev hy, eqGuard, binOp, ne_eq, not_true, if_false, Op.intBits]; rfl
theorem y_or (hx : ev E x = some (.int k i)) (hy : ev E y = some (.int k j)) (hr : k.wrap ((BitVec.ofInt k.bits i ||| BitVec.ofInt k.bits j).toNat : Int) = r) : Yld B P n E H (.binOp .or t x y t') ty (.int k r) :=
  y_run fun o a w ho _ hA _ => by subst hr; unfold execOp; simp only [ho, hA.ev hx, hA.ev hy, eqGuard, binOp, ne_eq, not_true, if_false, Op.intBits]; rfl
theorem y_xor (hx : ev E x = some (.int k i)) (hy : ev E y = some (.int k j)) (hr : k.wrap ((BitVec.ofInt k.bits i ^^^ BitVec.ofInt k.bits j).toNat : Int) = r) : Yld B P n E H (.binOp .xor t x y t') ty (.int k r) :=
  y_run fun o a w ho _ hA _ => by subst hr; unfold execOp; simp only [ho, hA.ev hx, hA.ev hy, eqGuard, binOp, ne_eq, not_true, if_false, Op.intBits]; rfl
theorem y_shl {k' : IntKind} (hx : ev E x = some (.int k i)) (hy : ev E y = some (.int k' j)) (h0 : 0 ≤ j) (hr : k.wrap (i * 2 ^ (min j.toNat k.bits)) = r) : Yld B P n E H (.binOp .shl t x y t') ty (.int k r) :=
  y_run fun o a w ho _ hA _ => by subst hr; unfold execOp; simp only [ho, hA.ev hx, hA.ev hy, eqGuard, binOp, Op.shift, if_neg (Int.not_lt.2 h0)]; rfl
theorem y_shr {k' : IntKind} (hx : ev E x = some (.int k i)) (hy : ev E y = some (.int k' j)) (h0 : 0 ≤ j) (hr : i.fdiv (2 ^ (min j.toNat k.bits)) = r) : Yld B P n E H (.binOp .shr t x y t') ty (.int k r) :=
  y_run fun o a w ho _ hA _ => by subst hr; unfold execOp; simp only [ho, hA.ev hx, hA.ev hy, eqGuard, binOp, Op.shift, if_neg (Int.not_lt.2 h0)]; rfl
theorem y_conv (T : Tab P) {t : Nat} {k' : IntKind} {ks : IntKind} (ht : al T.ints t = some k') (hs : al T.ints t' = some ks) (hx : ev E x = some (.int k i)) (hr : k'.wrap i = r) : Yld B P n E H (.convert t' t x) ty (.int k' r) :=
  y_run fun o a w ho _ hA _ => by
    subst hr
    have h1 := intB_spec (T.int ht)
    have h2 := intB_spec (T.int hs)
    unfold execOp
    simp only [ho, hA.ev hx, convert, Sem.run_bind, run_underlying h1, run_underlying h2, Result.andThen_ok, Conv.intToInt]
    rfl
end

/-! ### tests: the ways part at once -/
section
variable {m : Bool} {l0 rest : List Oper} {Q : Exit → Act → World → Prop} {d : Nat} {pos : String} {af : Array Edge} {g : Option (Nat × Bool)} {x y : Operand} {k : IntKind} {i j : Int} {t t' : TypeId}
theorem RT.split {op : Op} {c : Prop} {b : Bool} (hw : wt l0 E g = some true) (hd : d < n) (hy : Yld B P n E H op ty (.bool b)) (hb : b = true ↔ c)
    (h1 : c → RT B P n m l0 rest ((d, .bool true) :: E) H Q) (h2 : ¬ c → RT B P n m l0 rest ((d, .bool false) :: E) H Q) : RT B P n m l0 (⟨some d, op, ty, pos, af, g⟩ :: rest) E H Q := by
  cases b with
  | true => exact RT.y hw hd hy (h1 (hb.1 rfl))
  | false => exact RT.y hw hd hy (h2 fun hc => by simpa using hb.2 hc)
theorem y_cmp {bo : BinOp} {b : Bool} (hx : ev E x = some (.int k i)) (hy : ev E y = some (.int k j))
    (hb : Op.intCmp bo i j = pure (.bool b)) (h1 : bo = .eql ∨ bo = .neq ∨ bo = .lss ∨ bo = .leq ∨ bo = .gtr ∨ bo = .geq) : Yld B P n E H (.binOp bo t x y t') ty (.bool b) :=
  y_run fun o a w ho _ hA _ => by
    unfold execOp
    have h2 : ∀ s : Sem Value, s = pure (.bool b) → Sem.run P (do pure (Next.value (← s)) : Sem Next) w = .ok (.value (.bool b)) w := fun s hs => by subst hs; rfl
    simp only [ho, hA.ev hx, hA.ev hy]
    refine h2 _ ?_
    rw [← hb]
    rcases h1 with rfl | rfl | rfl | rfl | rfl | rfl <;> simp [eqGuard, binOp] <;> rfl
theorem RT.lss (hw : wt l0 E g = some true) (hd : d < n) (hx : ev E x = some (.int k i)) (hy : ev E y = some (.int k j))
    (h1 : i < j → RT B P n m l0 rest ((d, .bool true) :: E) H Q) (h2 : ¬ i < j → RT B P n m l0 rest ((d, .bool false) :: E) H Q) : RT B P n m l0 (⟨some d, .binOp .lss t x y t', ty, pos, af, g⟩ :: rest) E H Q :=
  RT.split hw hd (y_cmp hx hy rfl (by simp)) (by simp) h1 h2
theorem RT.leq (hw : wt l0 E g = some true) (hd : d < n) (hx : ev E x = some (.int k i)) (hy : ev E y = some (.int k j))
    (h1 : i ≤ j → RT B P n m l0 rest ((d, .bool true) :: E) H Q) (h2 : ¬ i ≤ j → RT B P n m l0 rest ((d, .bool false) :: E) H Q) : RT B P n m l0 (⟨some d, .binOp .leq t x y t', ty, pos, af, g⟩ :: rest) E H Q :=
  RT.split hw hd (y_cmp hx hy rfl (by simp)) (by simp) h1 h2
theorem RT.gtr (hw : wt l0 E g = some true) (hd : d < n) (hx : ev E x = some (.int k i)) (hy : ev E y = some (.int k j))
    (h1 : j < i → RT B P n m l0 rest ((d, .bool true) :: E) H Q) (h2 : ¬ j < i → RT B P n m l0 rest ((d, .bool false) :: E) H Q) : RT B P n m l0 (⟨some d, .binOp .gtr t x y t', ty, pos, af, g⟩ :: rest) E H Q :=
  RT.split hw hd (y_cmp hx hy rfl (by simp)) (by simp) h1 h2
theorem RT.geq (hw : wt l0 E g = some true) (hd : d < n) (hx : ev E x = some (.int k i)) (hy : ev E y = some (.int k j))
    (h1 : j ≤ i → RT B P n m l0 rest ((d, .bool true) :: E) H Q) (h2 : ¬ j ≤ i → RT B P n m l0 rest ((d, .bool false) :: E) H Q) : RT B P n m l0 (⟨some d, .binOp .geq t x y t', ty, pos, af, g⟩ :: rest) E H Q :=
  RT.split hw hd (y_cmp hx hy rfl (by simp)) (by simp) h1 h2
theorem RT.eql (hw : wt l0 E g = some true) (hd : d < n) (hx : ev E x = some (.int k i)) (hy : ev E y = some (.int k j))
    (h1 : i = j → RT B P n m l0 rest ((d, .bool true) :: E) H Q) (h2 : ¬ i = j → RT B P n m l0 rest ((d, .bool false) :: E) H Q) : RT B P n m l0 (⟨some d, .binOp .eql t x y t', ty, pos, af, g⟩ :: rest) E H Q :=
  RT.split hw hd (y_cmp hx hy rfl (by simp)) (by simp) h1 h2
theorem RT.neq (hw : wt l0 E g = some true) (hd : d < n) (hx : ev E x = some (.int k i)) (hy : ev E y = some (.int k j))
    (h1 : ¬ i = j → RT B P n m l0 rest ((d, .bool true) :: E) H Q) (h2 : i = j → RT B P n m l0 rest ((d, .bool false) :: E) H Q) : RT B P n m l0 (⟨some d, .binOp .neq t x y t', ty, pos, af, g⟩ :: rest) E H Q :=
  RT.split hw hd (y_cmp hx hy rfl (by simp)) (by simp) h1 (fun h => h2 (Decidable.not_not.1 h))
end

/-! ### a pointer against nil; two bools; two strings -/
theorem knd_ptr {t : Nat} (h : knd P t = some 1) : ∃ e z, P.underlying t = some (.pointer e) ∧ sizeB P e = some z ∧ z ≠ 0 := by
  unfold knd at h
  split at h
  · rename_i e hu
    cases hz : sizeB P e with
    | none => simp [hz] at h
    | some z =>
      cases z with
      | zero => simp [hz] at h
      | succ z => exact ⟨e, z + 1, hu, hz, by omega⟩
  all_goals first | cases h | (simp at h)
theorem run_eqv {w : World} {t : TypeId} {x y : Value} {r : Bool} (h : ∀ d, (Op.equalIn (d + 1) t x y).run P w = .ok r w) : (Op.equal t x y).run P w = .ok r w := h 9999
theorem run_pnil {w : World} {t e : TypeId} (hu : P.underlying t = some (.pointer e)) (p : Option Addr) : (Op.equal t (.pointer p) (.pointer none)).run P w = .ok p.isNone w :=
  run_eqv fun d => by
    cases p <;> (simp only [Op.equalIn, Sem.run_bind, run_underlying hu, Result.andThen_ok]; rfl)
theorem y_pnil {x y : Operand} {t t' : TypeId} (T : Tab P) {p : Option Addr} {r : Bool} (ht : al T.kinds t = some 1) (hx : ev E x = some (.pointer p)) (hy : ev E y = some (.pointer none)) (hr : p.isNone = r) :
    Yld B P n E H (.binOp .eql t x y t') ty (.bool r) :=
  y_run fun o a w ho _ hA _ => by
    obtain ⟨e, z, hu, _, _⟩ := knd_ptr (T.kind ht)
    subst hr
    have h1 : binOp .eql t (.pointer p) (.pointer none) = (do pure (.bool (← Op.equal t (.pointer p) (.pointer none)))) := by cases p <;> rfl
    have h2 : eqGuard .eql t x y (.pointer p) (.pointer none) = pure () := by cases p <;> rfl
    unfold execOp
    simp only [ho, hA.ev hx, hA.ev hy, h1, h2, Sem.run_bind, Sem.run_pure, Result.andThen_ok, run_pnil hu]
theorem y_pnnil {x y : Operand} {t t' : TypeId} (T : Tab P) {p : Option Addr} {r : Bool} (ht : al T.kinds t = some 1) (hx : ev E x = some (.pointer p)) (hy : ev E y = some (.pointer none)) (hr : (!p.isNone) = r) :
    Yld B P n E H (.binOp .neq t x y t') ty (.bool r) :=
  y_run fun o a w ho _ hA _ => by
    obtain ⟨e, z, hu, _, _⟩ := knd_ptr (T.kind ht)
    subst hr
    have h1 : binOp .neq t (.pointer p) (.pointer none) = (do pure (.bool (!(← Op.equal t (.pointer p) (.pointer none))))) := by cases p <;> rfl
    have h2 : eqGuard .neq t x y (.pointer p) (.pointer none) = pure () := by cases p <;> rfl
    unfold execOp
    simp only [ho, hA.ev hx, hA.ev hy, h1, h2, Sem.run_bind, Sem.run_pure, Result.andThen_ok, run_pnil hu]

/-! ### addresses, known cells -/
theorem run_fa {w : World} {s f off z : Nat} {g : Bool} {ad : Addr} (h : fldB P s f = some (off, z + 1, g)) : (Instr.fieldAt s (.pointer (some ad)) f).run P w = .ok (.pointer (some (ad.add off))) w := by
  obtain ⟨fs, fi, hu, hfi, rfl, hz, _⟩ := fldB_spec h
  have hp : (fieldPlace ad fi).run P w = .ok (ad.add fi.offset) w := by
    unfold fieldPlace
    simp only [Sem.run_bind, run_sizeB hz, Result.andThen_ok]
    rfl
  simp only [Instr.fieldAt, Instr.sureAddr, Sem.run_bind, run_underlying hu, Result.andThen_ok, hfi, Sem.run_pure, hp]
theorem y_fa (T : Tab P) {x : Operand} {s f off z : Nat} {g : Bool} {b : Nat} (hf : al2 T.flds s f = some (off, z + 1, g)) (hx : ev E x = some (.pointer (some ⟨b, 0, none⟩))) :
    Yld B P n E H (.fieldAddr s x f) ty (.pointer (some ⟨b, off, none⟩)) :=
  y_run fun o a w ho _ hA _ => by
    have ha : (⟨b, 0, none⟩ : Addr).add off = ⟨b, off, none⟩ := by unfold Addr.add; split <;> simp_all
    unfold execOp
    simp only [ho, hA.ev hx, Sem.run_bind, run_fa (T.fld hf), Result.andThen_ok, ha]
    rfl
theorem y_faA (T : Tab P) {x : Operand} {s f off z : Nat} {g : Bool} {ad : Addr} {j : Nat} (hf : al2 T.flds s f = some (off, z + 1, g)) (hx : ev E x = some (.pointer (some (ad.add j)))) :
    Yld B P n E H (.fieldAddr s x f) ty (.pointer (some (ad.add (j + off)))) :=
  y_run fun o a w ho _ hA _ => by
    have ha : (ad.add j).add off = ad.add (j + off) := by
      unfold Addr.add
      by_cases h1 : j = 0 <;> by_cases h2 : off = 0 <;> simp [h1, h2, Nat.add_assoc]
    unfold execOp
    simp only [ho, hA.ev hx, Sem.run_bind, run_fa (T.fld hf), Result.andThen_ok, ha]
    rfl

theorem cs_cell {w : World} {b : Nat} {e : TypeId} {l : List Value} (h : w.heap[b]? = some (.cells l.toArray e (0, 0))) (i : Nat) : w.cell? ⟨b, i, none⟩ = l[i]? := by
  rw [cell_of_row w b i _ e (0, 0) h]; simp
theorem y_ld (T : Tab P) {x : Operand} {t b off : Nat} {e : TypeId} {l : List Value} {v : Value} (ht : al T.szs t = some (1, false)) (hx : ev E x = some (.pointer (some ⟨b, off, none⟩)))
    (hs : Sel H (Cs b e l) R) (hv : l[off]? = some v) : Yld B P n E H (.load t x) ty v :=
  y_run fun o a w ho _ hA hS => by
    have hc := (cs_cell (hS.cs hs).1 off).trans hv
    unfold execOp
    simp only [ho, hA.ev hx, Instr.loadAt, Instr.sureAddr, Sem.run_bind, Sem.run_pure, Result.andThen_ok, loadVar, run_isAggB (T.sz ht).2]
    simp [load, Sem.run, hc]
/-- A whole struct out of its variable. -/
theorem y_ldagg (T : Tab P) {x : Operand} {t b z : Nat} {e : TypeId} {l : List Value} (ht : al T.szs t = some (z, true)) (hx : ev E x = some (.pointer (some ⟨b, 0, none⟩)))
    (hs : Sel H (Cs b e l) R) (hz : l.length = z) : Yld B P n E H (.load t x) ty (.agg l.toArray) :=
  y_run fun o a w ho _ hA hS => by
    subst hz
    have hc : ∀ j v, l[j]? = some v → w.cell? ((⟨b, 0, none⟩ : Addr).add j) = some v := fun j v hj => by
      have : (⟨b, 0, none⟩ : Addr).add j = ⟨b, j, none⟩ := by unfold Addr.add; split <;> simp_all
      rw [this]; exact (cs_cell (hS.cs hs).1 j).trans hj
    unfold execOp
    simp only [ho, hA.ev hx, Instr.loadAt, Instr.sureAddr, Sem.run_bind, Sem.run_pure, Result.andThen_ok, loadVar, run_isAggB (T.sz ht).2, run_sizeB (T.sz ht).1, if_true, run_loadCells_list w _ l hc]

inductive SetN : List Value → Nat → Value → List Value → Prop
  | z {x v : Value} {l : List Value} : SetN (x :: l) 0 v (v :: l)
  | s {x v : Value} {l l' : List Value} {k : Nat} : SetN l k v l' → SetN (x :: l) (k + 1) v (x :: l')
theorem SetN.spec {l l' : List Value} {k : Nat} {v : Value} (h : SetN l k v l') : l' = l.set k v ∧ k < l.length := by
  induction h with
  | z => simp
  | s _ ih => simp [ih.1, ih.2]
/-- A value of one cell. -/
def one1 : Value → Bool
  | .agg _ | .tuple _ => false
  | _ => true
theorem one1_cells {v : Value} (h : one1 v = true) : v.cells = #[v] := by cases v <;> first | rfl | cases h
theorem run_store1 {w : World} {b off : Nat} {e : TypeId} {l : List Value} {v : Value} (h1 : one1 v = true) (hb : w.heap[b]? = some (.cells l.toArray e (0, 0))) (ho : off < l.length) :
    (store ⟨b, off, none⟩ v).run P w = .ok () (w.setCell ⟨b, off, none⟩ v) := by
  have hc : w.cell? ⟨b, off, none⟩ = some (l[off]) := by rw [cs_cell hb]; simp [ho]
  have hf : w.frozen? ⟨b, off, none⟩ = false := by simp [World.frozen?, hb]
  cases v <;> first | (cases h1; done) | (simp [store, Sem.run, hc, hf])
theorem addr_add0 (a : Addr) : a.add 0 = a := by simp [Addr.add]
theorem setCell_heap {w : World} {b off : Nat} {e : TypeId} {l : List Value} {v : Value} (hb : w.heap[b]? = some (.cells l.toArray e (0, 0))) :
    (w.setCell ⟨b, off, none⟩ v).heap[b]? = some (.cells (l.set off v).toArray e (0, 0)) := by
  simp [World.setCell, Array.getElem?_modify, hb]
theorem setCell_size (w : World) (p : Addr) (v : Value) : (w.setCell p v).heap.size = w.heap.size := by simp [World.setCell]
theorem setCell_ne (w : World) (p : Addr) (v : Value) (x : Nat) (h : x ≠ p.block) : (w.setCell p v).heap[x]? = w.heap[x]? := by
  simp only [World.setCell, Array.getElem?_modify]
  rw [if_neg (fun e => h e.symm)]
theorem Sat.setCs {w : World} {b off : Nat} {e : TypeId} {l : List Value} {v : Value} {H' : List HP} (hS : Sat B H w) (hr : Rep H (Cs b e l) (Cs b e (l.set off v)) H') :
    Sat B H' (w.setCell ⟨b, off, none⟩ v) := by
  obtain ⟨R, s1, _⟩ := hr.sel
  have hb := (hS.cs s1).1
  exact hS.upd (b := b) (o' := .cells (l.set off v).toArray e (0, 0)) hr (fun h hh => ⟨_, hh⟩) (fun _ _ _ _ hh => hh) rfl rfl rfl (setCell_size _ _ _) (setCell_heap hb) (fun x hx => setCell_ne _ _ _ _ hx)
theorem x_st (T : Tab P) {l0 rest : List Oper} {Q : Exit → Act → World → Prop} {pos : String} {af : Array Edge} {g : Option (Nat × Bool)} {x y : Operand} {t b off : Nat} {e : TypeId} {l l' : List Value} {v : Value} {H' : List HP}
    (hw : wt l0 E g = some true) (ht : al T.szs t = some (1, false)) (hx : ev E x = some (.pointer (some ⟨b, off, none⟩))) (hy : ev E y = some v) (h1 : one1 v = true)
    (hr : Rep H (Cs b e l) (Cs b e l') H') (hl : SetN l off v l') (k : RT B P n true l0 rest E H' Q) : RT B P n true l0 (⟨none, .store t x y, ty, pos, af, g⟩ :: rest) E H Q :=
  RT.eff hw fun o a w K ho _ hd hA hS hK => by
    obtain ⟨rfl, hlt⟩ := hl.spec
    obtain ⟨R, s1, _⟩ := hr.sel
    have hb := (hS.cs s1).1
    unfold Oper.wp execOp
    have hsz := (T.sz ht).1
    simp only [ho, hA.ev hx, hA.ev hy, Instr.storeAt, Instr.sureAddr, Sem.run_bind, Sem.run_pure, Result.andThen_ok, storeVar, run_sizeB hsz, one1_cells h1]
    simp only [List.size_toArray, List.length_cons, List.length_nil, Nat.zero_add, ne_eq, not_true, if_false, Sem.run_pure, Result.andThen_ok, storeCells, addr_add0, run_store1 h1 hb hlt, Sem.run_bind]
    simp only [Oper.upon, hd, Act.put]
    exact hK _ _ (k _ _ hA (hS.setCs hr))
end
end Go.Sk
end
section
/- The rules for slices (owned ones that grow, and ones that are only read), for new variables, and for calls. Plain theorems, no condition. -/
namespace Go.Sk
open Go.RowKit

def adr (a : Option Addr) : Addr := a.getD ⟨0, 0, none⟩
/-- The slice '.slice a n c' is the call's own: its cells are xs, then room. -/
def Own (a : Option Addr) (c : Nat) (e : TypeId) (sz n : Nat) (xs : List Value) : HP := fun h =>
  xs.length = n * sz ∧ n ≤ c ∧ c ≤ maxLen ∧ ((a = none ∧ c = 0) ∨ ∃ g cur, a = some ⟨g, 0, none⟩ ∧ h g = some (.cells cur e (0, 0)) ∧ cur.size = c * sz ∧ cur.toList.take (n * sz) = xs)
/-- The slice '.slice a n c' reads as the cells xs. -/
def Rd (B : World) (H : List HP) (a : Option Addr) (n c sz : Nat) (xs : List Value) : Prop :=
  xs.length = n * sz ∧ n ≤ c ∧ ∀ w, Sat B H w → (0 < n → a.isSome = true) ∧ ∀ j u, xs[j]? = some u → w.cell? ((adr a).add j) = some u

theorem addr_add (g j : Nat) : (⟨g, 0, none⟩ : Addr).add j = ⟨g, j, none⟩ := by unfold Addr.add; split <;> simp_all
theorem addr_addadd (ad : Addr) (i j : Nat) : (ad.add i).add j = ad.add (i + j) := by
  unfold Addr.add
  by_cases h1 : i = 0 <;> by_cases h2 : j = 0 <;> simp [h1, h2, Nat.add_assoc]

section
variable {B : World} {P : Program} {n : Fm} {E : Env} {H R : List HP} {ty : TypeId}

theorem Own.rd {a : Option Addr} {c : Nat} {e : TypeId} {sz k : Nat} {xs : List Value} (hs : Sel H (Own a c e sz k xs) R) (hl : xs.length = k * sz) (hc : k ≤ c) : Rd B H a k c sz xs := by
  refine ⟨hl, hc, fun w hS => ?_⟩
  obtain ⟨h, hh, _, _, _, hp⟩ := (hS.sel hs).head
  rcases hp with ⟨rfl, rfl⟩ | ⟨g, cur, rfl, hg, hcs, ht⟩
  · have hk : k = 0 := by omega
    subst hk
    refine ⟨fun h => absurd h (by omega), fun j u hj => ?_⟩
    have : xs = [] := List.eq_nil_of_length_eq_zero (by simpa using hl)
    subst this
    simp at hj
  · refine ⟨fun _ => rfl, fun j u hj => ?_⟩
    rw [adr, Option.getD_some, addr_add, cell_of_row w g j cur e (0, 0) (hh g _ hg).1]
    rw [← ht, List.getElem?_take] at hj
    split at hj
    · simpa using hj
    · cases hj
theorem Own.facts {a : Option Addr} {c : Nat} {e : TypeId} {sz k : Nat} {xs : List Value} {w : World} (hS : Sat B H w) (hs : Sel H (Own a c e sz k xs) R) : xs.length = k * sz ∧ k ≤ c ∧ c ≤ maxLen := by
  obtain ⟨h, hh, h1, h2, h3, hp⟩ := (hS.sel hs).head
  exact ⟨h1, h2, h3⟩
theorem Rd.cons {p : HP} {a : Option Addr} {k c sz : Nat} {xs : List Value} (h : Rd B H a k c sz xs) : Rd B (p :: H) a k c sz xs :=
  ⟨h.1, h.2.1, fun w hS => h.2.2 w hS.tail⟩
theorem Rd.app {Ps : List HP} {a : Option Addr} {k c sz : Nat} {xs : List Value} (h : Rd B H a k c sz xs) : Rd B (Ps ++ H) a k c sz xs :=
  ⟨h.1, h.2.1, fun w hS => h.2.2 w hS.drop_⟩
theorem Rd.weak {H' : List HP} {a : Option Addr} {k c sz : Nat} {xs : List Value} (h : Rd B H a k c sz xs) (hm : ∀ w, Sat B H' w → Sat B H w) : Rd B H' a k c sz xs :=
  ⟨h.1, h.2.1, fun w hS => h.2.2 w (hm w hS)⟩
theorem Rd.none_ {sz : Nat} : Rd B H none 0 0 sz [] := ⟨by simp, Nat.le_refl _, fun _ _ => ⟨fun h => absurd h (by omega), fun j u hj => by simp at hj⟩⟩
theorem Own.none_ {e : TypeId} {sz : Nat} {h : PH} : Own none 0 e sz 0 [] h := ⟨by simp, Nat.le_refl _, Nat.zero_le _, .inl ⟨rfl, rfl⟩⟩
theorem Sat.nilOwn {w : World} {e : TypeId} {sz : Nat} (hS : Sat B H w) : Sat B (Own none 0 e sz 0 [] :: H) w := by
  obtain ⟨h, a, hs⟩ := hS.heap
  exact { hS with heap := ⟨h, a, fun _ => none, h, fun _ => .inl rfl, fun _ _ e => (by cases e), Le.refl _, Own.none_, hs⟩ }

theorem Rd.len {a : Option Addr} {k c sz : Nat} {xs : List Value} (h : Rd B H a k c sz xs) : xs.length = k * sz := h.1
theorem Rd.le {a : Option Addr} {k c sz : Nat} {xs : List Value} (h : Rd B H a k c sz xs) : k ≤ c := h.2.1
theorem Rd.isSome {a : Option Addr} {k c sz : Nat} {xs : List Value} (h : Rd B H a k c sz xs) : ∀ w, Sat B H w → 0 < k → a.isSome = true := fun w hS => (h.2.2 w hS).1
/-- A part of a slice. -/
def asub (a : Option Addr) (c sz i : Nat) : Option Addr := if c = i then a else a.map (·.add (i * sz))
theorem Rd.sub {a : Option Addr} {k c sz i j : Nat} {xs : List Value} (h : Rd B H a k c sz xs) (h1 : i ≤ j) (h2 : j ≤ k) :
    Rd B H (asub a c sz i) (j - i) (c - i) sz ((xs.drop (i * sz)).take ((j - i) * sz)) := by
  obtain ⟨hl, hc, hw⟩ := h
  refine ⟨?_, by omega, fun w hS => ?_⟩
  · rw [List.length_take, List.length_drop, hl, ← Nat.sub_mul]
    exact Nat.min_eq_left (Nat.mul_le_mul_right _ (by omega))
  · obtain ⟨ha, hx⟩ := hw w hS
    refine ⟨fun hp => ?_, fun x u hu => ?_⟩
    · unfold asub
      split
      · exact ha (by omega)
      · rw [Option.isSome_map]; exact ha (by omega)
    · have hx1 : x < (j - i) * sz := by
        have := (List.getElem?_eq_some_iff.1 hu).1
        rw [List.length_take] at this; omega
      have hp : 0 < j - i := by
        rcases Nat.eq_zero_or_pos (j - i) with e | e
        · rw [e] at hx1; omega
        · exact e
      rw [List.getElem?_take_of_lt hx1, List.getElem?_drop] at hu
      obtain ⟨ad, rfl⟩ := Option.isSome_iff_exists.1 (ha (by omega))
      have := hx _ u hu
      unfold asub
      rw [if_neg (by omega)]
      simp only [adr, Option.map_some, Option.getD_some] at this ⊢
      rw [addr_addadd]
      exact this

/-! ### lengths, addresses of elements, elements -/
theorem y_len (T : Tab P) {x : Operand} {t k c : Nat} {e z bb : Nat} {a : Option Addr} (ht : al T.slcs t = some (e, z, bb)) (hx : ev E x = some (.slice a k c)) :
    Yld B P n E H (.call { callee := .builtin .len, args := #[x], argTypes := #[t] }) ty (.int .i64 k) :=
  y_run fun o aa w ho _ hA _ => by
    obtain ⟨hu, _⟩ := slcB_spec (T.slc ht)
    unfold execOp
    simp only [ho, resolve, invoke, builtin, List.map_toArray, List.map_cons, List.map_nil, hA.ev hx, Builtin.len_, Sem.run_bind, Sem.run_pure, Result.andThen_ok, List.getElem?_toArray, List.getElem?_cons_zero, run_underlying hu]
    rfl
theorem y_cap (T : Tab P) {x : Operand} {t k c : Nat} {e z bb : Nat} {a : Option Addr} (ht : al T.slcs t = some (e, z, bb)) (hx : ev E x = some (.slice a k c)) :
    Yld B P n E H (.call { callee := .builtin .cap, args := #[x], argTypes := #[t] }) ty (.int .i64 c) :=
  y_run fun o aa w ho _ hA _ => by
    obtain ⟨hu, _⟩ := slcB_spec (T.slc ht)
    unfold execOp
    simp only [ho, resolve, invoke, builtin, List.map_toArray, List.map_cons, List.map_nil, hA.ev hx, Builtin.cap_, Sem.run_bind, Sem.run_pure, Result.andThen_ok, List.getElem?_toArray, List.getElem?_cons_zero, run_underlying hu]
    rfl
/-- The address of an element: 'a' is some where the slice has one. -/
theorem run_ix {w : World} {t e z bb k c : Nat} {a : Option Addr} {kk : IntKind} {i : Int} (ht : slcB P t = some (e, z, bb)) (h0 : 0 ≤ i) (h1 : i < k) (ha : a.isSome = true) :
    (Instr.indexAt t (.slice a k c) (.int kk i)).run P w = .ok (.pointer (some ((adr a).add (i.toNat * z)))) w := by
  obtain ⟨hu, inf, hi, hz, _⟩ := slcB_spec ht
  obtain ⟨ad, rfl⟩ := Option.isSome_iff_exists.1 ha
  have hs : (sizeOf e).run P w = .ok z w := run_sizeB (by simp [sizeB, hi, hz])
  simp only [Instr.indexAt, asIntOf, Sem.run_bind, Sem.run_pure, Result.andThen_ok, run_underlying hu, h0, h1, and_self, if_true, hs, adr, Option.getD_some]
theorem y_ix (T : Tab P) {x y : Operand} {t k c e z bb : Nat} {a : Option Addr} {kk : IntKind} {i : Int} {xs : List Value} {j : Nat} (ht : al T.slcs t = some (e, z, bb)) (hx : ev E x = some (.slice a k c)) (hy : ev E y = some (.int kk i))
    (hr : Rd B H a k c z xs) (h0 : 0 ≤ i) (h1 : i < k) (hj : i.toNat * z = j) : Yld B P n E H (.indexAddr t x y) ty (.pointer (some ((adr a).add j))) :=
  y_run fun o aa w ho _ hA hS => by
    subst hj
    have ha := (hr.2.2 w hS).1 (by omega)
    unfold execOp
    simp only [ho, hA.ev hx, hA.ev hy, Sem.run_bind, run_ix (T.slc ht) h0 h1 ha, Result.andThen_ok]
    rfl
theorem y_ldr (T : Tab P) {x : Operand} {t k c z j : Nat} {a : Option Addr} {xs : List Value} {u : Value} (ht : al T.szs t = some (1, false)) (hx : ev E x = some (.pointer (some ((adr a).add j)))) (hr : Rd B H a k c z xs) (hu : xs[j]? = some u) :
    Yld B P n E H (.load t x) ty u :=
  y_run fun o aa w ho _ hA hS => by
    have hc := (hr.2.2 w hS).2 j u hu
    unfold execOp
    simp only [ho, hA.ev hx, Instr.loadAt, Instr.sureAddr, Sem.run_bind, Sem.run_pure, Result.andThen_ok, loadVar, run_isAggB (T.sz ht).2]
    simp [load, Sem.run, hc]
/-- A list of integers as cells. -/
def ints (k : IntKind) (l : List Int) : List Value := l.map (Value.int k)
theorem ints_get {k : IntKind} {l : List Int} {j : Nat} (h : j < l.length) : (ints k l)[j]? = some (.int k (l.getD j 0)) := by
  simp [ints, h]
theorem ints_len {k : IntKind} {l : List Int} : (ints k l).length = l.length := by simp [ints]
theorem y_ldi (T : Tab P) {x : Operand} {t k c z j : Nat} {a : Option Addr} {kk : IntKind} {l : List Int} (ht : al T.szs t = some (1, false)) (hx : ev E x = some (.pointer (some ((adr a).add j)))) (hr : Rd B H a k c z (ints kk l)) (hj : j < l.length) :
    Yld B P n E H (.load t x) ty (.int kk (l.getD j 0)) := y_ldr T ht hx hr (ints_get hj)
/-- A whole struct out of a row of structs. -/
theorem y_ldra (T : Tab P) {x : Operand} {t k c z j m : Nat} {a : Option Addr} {xs l : List Value} (ht : al T.szs t = some (m, true)) (hx : ev E x = some (.pointer (some ((adr a).add j)))) (hr : Rd B H a k c z xs)
    (hl : (xs.drop j).take m = l) (hm : l.length = m) : Yld B P n E H (.load t x) ty (.agg l.toArray) :=
  y_run fun o aa w ho _ hA hS => by
    subst hm
    have hc : ∀ i v, l[i]? = some v → w.cell? (((adr a).add j).add i) = some v := fun i v hv => by
      rw [addr_addadd]
      refine (hr.2.2 w hS).2 (j + i) v ?_
      have hi : i < l.length := (List.getElem?_eq_some_iff.1 hv).1
      rw [← hl, List.getElem?_take_of_lt hi, List.getElem?_drop] at hv
      exact hv
    unfold execOp
    simp only [ho, hA.ev hx, Instr.loadAt, Instr.sureAddr, Sem.run_bind, Sem.run_pure, Result.andThen_ok, loadVar, run_isAggB (T.sz ht).2, run_sizeB (T.sz ht).1, if_true, run_loadCells_list w _ l hc]

/-! ### a part of a slice -/
theorem run_sl {w : World} {t e z bb k c : Nat} {a : Option Addr} {lo hi : Option Value} {i j : Nat} (ht : slcB P t = some (e, z, bb))
    (hb : (Instr.sliceBounds true k c lo hi none).run P w = .ok (i, j, c) w) : (Instr.sliceAt t (.slice a k c) lo hi none).run P w = .ok (.slice (asub a c z i) (j - i) (c - i)) w := by
  obtain ⟨hu, inf, hi', hz, _⟩ := slcB_spec ht
  have hs : (sizeOf e).run P w = .ok z w := run_sizeB (by simp [sizeB, hi', hz])
  simp only [Instr.sliceAt, Instr.slice, Sem.run_bind, run_underlying hu, Result.andThen_ok, hb, hs, Sem.run_pure, asub]
theorem y_sl_hi (T : Tab P) {x y : Operand} {t e z bb k c : Nat} {a : Option Addr} {kk : IntKind} {j : Int} (ht : al T.slcs t = some (e, z, bb)) (hx : ev E x = some (.slice a k c)) (hy : ev E y = some (.int kk j)) (h0 : 0 ≤ j) (h1 : j ≤ c) :
    Yld B P n E H (.slice t x none (some y) none) ty (.slice (asub a c z 0) j.toNat c) :=
  y_run fun o aa w ho _ hA _ => by
    have hb : (Instr.sliceBounds true k c none (some (.int kk j)) none).run P w = .ok (0, j.toNat, c) w := by
      simp only [Instr.sliceBounds, Instr.sliceBound, asIntOf, Sem.run_bind, Sem.run_pure, Result.andThen_ok, h0, h1, and_self, if_true]
    unfold execOp
    simp only [ho, hA.ev hx, hA.ev hy, Option.map_some, Option.map_none, Sem.run_bind, run_sl (T.slc ht) hb, Result.andThen_ok, Nat.sub_zero]
    rfl
theorem y_sl_lo (T : Tab P) {x y : Operand} {t e z bb k c : Nat} {a : Option Addr} {kk : IntKind} {i : Int} (ht : al T.slcs t = some (e, z, bb)) (hx : ev E x = some (.slice a k c)) (hy : ev E y = some (.int kk i)) (h0 : 0 ≤ i) (h1 : i ≤ k) :
    Yld B P n E H (.slice t x (some y) none none) ty (.slice (asub a c z i.toNat) (k - i.toNat) (c - i.toNat)) :=
  y_run fun o aa w ho _ hA _ => by
    have hb : (Instr.sliceBounds true k c (some (.int kk i)) none none).run P w = .ok (i.toNat, k, c) w := by
      simp only [Instr.sliceBounds, Instr.sliceBound, asIntOf, Sem.run_bind, Sem.run_pure, Result.andThen_ok, h0, h1, and_self, if_true]
    unfold execOp
    simp only [ho, hA.ev hx, hA.ev hy, Option.map_some, Option.map_none, Sem.run_bind, run_sl (T.slc ht) hb, Result.andThen_ok]
    rfl
theorem y_sl_lh (T : Tab P) {x y y' : Operand} {t e z bb k c : Nat} {a : Option Addr} {kk kk' : IntKind} {i j : Int} (ht : al T.slcs t = some (e, z, bb)) (hx : ev E x = some (.slice a k c)) (hy : ev E y = some (.int kk i)) (hy' : ev E y' = some (.int kk' j))
    (h0 : 0 ≤ i) (h1 : i ≤ j) (h2 : j ≤ c) : Yld B P n E H (.slice t x (some y) (some y') none) ty (.slice (asub a c z i.toNat) (j.toNat - i.toNat) (c - i.toNat)) :=
  y_run fun o aa w ho _ hA _ => by
    have hj : ((j.toNat : Nat) : Int) = j := Int.toNat_of_nonneg (by omega)
    have hb : (Instr.sliceBounds true k c (some (.int kk i)) (some (.int kk' j)) none).run P w = .ok (i.toNat, j.toNat, c) w := by
      simp only [Instr.sliceBounds, Instr.sliceBound, asIntOf, Sem.run_bind, Sem.run_pure, Result.andThen_ok, show (0 ≤ j ∧ j ≤ (c : Int)) from ⟨by omega, h2⟩, and_self, if_true, hj, h0, h1]
    unfold execOp
    simp only [ho, hA.ev hx, hA.ev hy, hA.ev hy', Option.map_some, Option.map_none, Sem.run_bind, run_sl (T.slc ht) hb, Result.andThen_ok]
    rfl

/-! ### owned slices -/
theorem Own.to_row {w : World} {a : Option Addr} {c : Nat} {e : TypeId} {sz k : Nat} {xs : List Value} (hS : Sat B H w) (hs : Sel H (Own a c e sz k xs) R) :
    (a = none ∧ c = 0 ∧ k = 0 ∧ xs = []) ∨ ∃ g cur, a = some ⟨g, 0, none⟩ ∧ w.heap[g]? = some (.cells cur e (0, 0)) ∧ B.heap.size ≤ g ∧ cur.size = c * sz ∧ cur.toList.take (k * sz) = xs := by
  obtain ⟨h, hh, h1, h2, h3, hp⟩ := (hS.sel hs).head
  rcases hp with ⟨rfl, rfl⟩ | ⟨g, cur, rfl, hg, hcs, ht⟩
  · have hk : k = 0 := by omega
    subst hk
    exact .inl ⟨rfl, rfl, rfl, List.eq_nil_of_length_eq_zero (by simpa using h1)⟩
  · exact .inr ⟨g, cur, rfl, (hh g _ hg).1, (hh g _ hg).2, hcs, ht⟩
/-- The row of an owned slice is written: the piece is turned. -/
theorem Sat.ownRow {w : World} {g c c' : Nat} {e : TypeId} {sz k k' : Nat} {xs xs' : List Value} {cur cur' : Array Value} {H' : List HP} (hS : Sat B H w) (hr : Rep H (Own (some ⟨g, 0, none⟩) c e sz k xs) (Own (some ⟨g, 0, none⟩) c' e sz k' xs') H')
    (hg : w.heap[g]? = some (.cells cur e (0, 0))) (h1 : xs'.length = k' * sz) (h2 : k' ≤ c') (h3 : c' ≤ maxLen) (hcs : cur'.size = c' * sz) (ht : cur'.toList.take (k' * sz) = xs') : Sat B H' (w.setRow g cur') := by
  refine hS.upd (b := g) (o' := .cells cur' e (0, 0)) hr (fun h hh => ?_)
    (fun h h' _ _ hb => ⟨h1, h2, h3, .inr ⟨g, cur', rfl, hb, hcs, ht⟩⟩) rfl rfl rfl (by simp [World.setRow]) (setRow_heap w g cur cur' e _ hg) (fun x hx => setRow_other w g x _ hx)
  obtain ⟨_, _, _, hp⟩ := hh
  rcases hp with ⟨h, _⟩ | ⟨g', cur, h, hgg, _⟩
  · cases h
  · cases h; exact ⟨_, hgg⟩
/-- An owned slice takes another row, a new one: the old row is garbage. -/
theorem Sat.ownNew {w w' : World} {a : Option Addr} {c c' : Nat} {e : TypeId} {sz k k' : Nat} {xs xs' : List Value} {cur' : Array Value} {H' : List HP} (hS : Sat B H w)
    (hr : Rep H (Own a c e sz k xs) (Own (some ⟨w.heap.size, 0, none⟩) c' e sz k' xs') H')
    (hos : w'.os = w.os) (hou : w'.output = w.output) (hta : w'.tape = w.tape) (hh : w'.heap = w.heap.push (.cells cur' e (0, 0)))
    (h1 : xs'.length = k' * sz) (h2 : k' ≤ c') (h3 : c' ≤ maxLen) (hcs : cur'.size = c' * sz) (ht : cur'.toList.take (k' * sz) = xs') : Sat B H' w' := by
  obtain ⟨R, s1, s2⟩ := hr.sel
  refine Sat.unsel s2 ((hS.sel s1).tail.new hos hou hta hh fun h _ hb => ⟨h1, h2, h3, .inr ⟨_, cur', rfl, hb, hcs, ht⟩⟩)

/-! ### append -/
theorem Rd.cells {w : World} {a : Option Addr} {k c sz : Nat} {xs : List Value} (hr : Rd B H a k c sz xs) (hS : Sat B H w) (hk : 0 < k) : ∃ ad, a = some ad ∧ ∀ j u, xs[j]? = some u → w.cell? (ad.add j) = some u := by
  obtain ⟨h1, h2⟩ := hr.2.2 w hS
  obtain ⟨ad, rfl⟩ := Option.isSome_iff_exists.1 (h1 hk)
  exact ⟨ad, rfl, h2⟩
theorem run_append {w : World} {t ty e : TypeId} {sz by_ : Nat} {z : Value} {a b : Option Addr} {c k m c2 : Nat} {xs ys : List Value} {H' : Option Addr → Nat → List HP}
    (ht : slcB P t = some (e, sz, by_)) (hz : zerB P e = some z) (hzs : z.cells.size = sz) (hS : Sat B H w) (hr : ∀ a' c', Rep H (Own a c e sz k xs) (Own a' c' e sz (k + m) (xs ++ ys)) (H' a' c'))
    (hy : Rd B H b m c2 sz ys) (h1 : ∀ u ∈ ys, u.oneCell' = true) (hlen : k + m ≤ 140737488355328) (hby : (k + m) * by_ ≤ 140737488355328) :
    ∃ a' c' w', (Builtin.append_ #[t, t] ty #[.slice a k c, .slice b m c2]).run P w = .ok (.slice a' (k + m) c') w' ∧ Sat B (H' a' c') w' ∧ k + m ≤ c' := by
  obtain ⟨hu, i, hi, hisz, hiby⟩ := slcB_spec ht
  subst hisz hiby
  have hzi : i.zero = some z := by simpa [zerB, hi] using hz
  have hml : k + m ≤ maxLen := by unfold maxLen; omega
  have hsmall : k + m ≤ 9223372036854775807 := by omega
  obtain ⟨Rr, s1, _⟩ := (hr a c).sel
  obtain ⟨hxl, hkc, hcm⟩ := Own.facts hS s1
  have hyl := hy.1
  have hlen' : (xs ++ ys).length = (k + m) * i.size := by rw [List.length_append, hxl, hyl, Nat.add_mul]
  have fits : ∀ old, Builtin.nextslicecap (k + m) old * i.bytes ≤ 281474976710656 ∨ ¬ old < k + m := fun old => by
    by_cases ho : old < k + m
    · exact .inl (growslice_fits ho hby)
    · exact .inr ho
  have grown : ∀ (old : Nat), old < k + m →
      Sat B (H' (some ⟨w.heap.size, 0, none⟩) (grownCap w (k + m) old e)) (w.drew.alloc (.cells (xs.toArray ++ ys.toArray ++ Builtin.zeroCells z.cells (grownCap w (k + m) old e - (k + m))) e)) := by
    intro old ho
    have hge := grownCap_ge w (k + m) old e
    have hcm := grownCap_le_maxLen w (k + m) old e hml
    refine hS.ownNew (hr _ _) rfl rfl rfl rfl hlen' hge hcm ?_ ?_
    · simp only [Array.size_append, List.size_toArray, size_zeroCells, hzs, hxl, hyl, ← Nat.add_mul]
      congr 1
      omega
    · simp only [Array.toList_append, List.append_assoc]
      rw [← List.append_assoc, ← hlen']
      exact List.take_left
  rcases Nat.eq_zero_or_pos m with hm | hm
  · subst hm
    have hy0 : ys = [] := List.eq_nil_of_length_eq_zero (by simpa using hyl)
    subst hy0
    refine ⟨a, c, w, ?_, ?_, by omega⟩
    · cases a <;> cases b <;> simp [Builtin.append_, run_underlying hu, sizeOf, typeInfo, hi, Builtin.lenOf, hkc, Builtin.firstCells, loadCells, loadCellsFrom, storeCells]
    · have h := hr a c
      simp only [Nat.add_zero, List.append_nil] at h
      exact hS.mono fun h' hh => by
        obtain ⟨R2, q1, q2⟩ := h.sel
        have := q1.to _ hh
        exact q2.of _ this
  · obtain ⟨bd, rfl, hcells⟩ := hy.cells hS hm
    rcases Own.to_row hS s1 with ⟨rfl, rfl, rfl, rfl⟩ | ⟨g, cur, rfl, hg, hbg, hcs, ht'⟩
    · have hrun := run_append_nil (P := P) w t ty e i z hu hi hzi bd m c2 ys hyl hcells hm (by omega) (by simp only [Nat.zero_add] at hby; omega)
      have hgr := grown 0 (by omega)
      simp only [Nat.zero_add, Array.empty_append] at hgr hrun ⊢
      exact ⟨_, _, _, hrun, hgr, by have := grownCap_ge w m 0 e; omega⟩
    · by_cases hroom : k + m ≤ c
      · have hfit : k * i.size + ys.length ≤ cur.size := by rw [hyl, hcs, ← Nat.add_mul]; exact Nat.mul_le_mul_right _ hroom
        have hrun := run_append_room (P := P) w t ty e i hu hi g k c cur hg bd m c2 ys hyl hcells h1 hroom hfit
        refine ⟨_, _, _, hrun, hS.ownRow (hr _ _) hg hlen' hroom hcm ?_ ?_, hroom⟩
        · simp only [List.size_toArray, List.length_append, List.length_take, List.length_drop, Array.length_toList]
          omega
        · rw [ht', ← hlen']
          exact List.take_left
      · obtain ⟨ad, he, holds⟩ : ∃ ad, (some (⟨g, 0, none⟩ : Addr)) = some ad ∧ ∀ j u, xs[j]? = some u → w.cell? (ad.add j) = some u :=
          ⟨_, rfl, fun j u hu => by
            have := ((Own.rd s1 hxl hkc).2.2 w hS).2 j u hu
            simpa [adr] using this⟩
        cases he
        have hrun := run_append_grow (P := P) w t ty e i z hu hi hzi ⟨g, 0, none⟩ k c xs hxl holds bd m c2 ys hyl hcells (by omega) (by omega) (growslice_fits (by omega) hby)
        exact ⟨_, _, _, hrun, grown c (by omega), grownCap_ge w (k + m) c e⟩

theorem x_app (T : Tab P) {l0 rest : List Oper} {Q : Exit → Act → World → Prop} {d : Nat} {pos : String} {af : Array Edge} {g : Option (Nat × Bool)} {x y : Operand} {t e : TypeId} {sz by_ : Nat} {z : Value} {a b : Option Addr} {c k m c2 : Nat}
    {xs ys : List Value} {H' : Option Addr → Nat → List HP}
    (hw : wt l0 E g = some true) (hd : d < n) (ht : al T.slcs t = some (e, sz, by_)) (hz : al T.zers e = some z) (hzs : z.cells.size = sz)
    (hx : ev E x = some (.slice a k c)) (hy : ev E y = some (.slice b m c2)) (hr : ∀ a' c', Rep H (Own a c e sz k xs) (Own a' c' e sz (k + m) (xs ++ ys)) (H' a' c'))
    (hb : Rd B H b m c2 sz ys) (h1 : ∀ u ∈ ys, u.oneCell' = true) (hlen : k + m ≤ 140737488355328) (hby : (k + m) * by_ ≤ 140737488355328)
    (kk : ∀ a' c', k + m ≤ c' → RT B P n true l0 rest ((d, .slice a' (k + m) c') :: E) (H' a' c') Q) :
    RT B P n true l0 (⟨some d, .call { callee := .builtin .append, args := #[x, y], argTypes := #[t, t] }, ty, pos, af, g⟩ :: rest) E H Q :=
  RT.eff hw fun o aa w K ho hty hdd hA hS hK => by
    obtain ⟨a', c', w', hrun, hS', hkc⟩ := run_append (ty := ty) (T.slc ht) (T.zer hz) hzs hS hr hb h1 hlen hby
    unfold Oper.wp execOp
    simp only [ho, hty, resolve, invoke, builtin, Sem.run_bind, Sem.run_pure, Result.andThen_ok, List.map_toArray, List.map_cons, List.map_nil, hA.ev hx, hA.ev hy, hrun]
    simp only [Oper.upon, hdd]
    exact hK _ _ (kk a' c' hkc _ _ (hA.put hd _) hS')

/-! ### new variables -/
theorem Sat.newCs {w : World} {e : TypeId} {l : List Value} (hS : Sat B H w) : Sat B (Cs w.heap.size e l :: H) (w.alloc (.cells l.toArray e)) :=
  hS.new rfl rfl rfl rfl fun _ _ hb => hb
theorem x_box {l0 rest : List Oper} {Q : Exit → Act → World → Prop} {d : Nat} {pos : String} {af : Array Edge} {g : Option (Nat × Bool)} {x : Operand} {t : TypeId} {v : Value} {l : List Value}
    (hw : wt l0 E g = some true) (hd : d < n) (hx : ev E x = some v) (hv : v.cells = l.toArray)
    (k : ∀ b, RT B P n true l0 rest ((d, .pointer (some ⟨b, 0, none⟩)) :: E) (Cs b t l :: H) Q) : RT B P n true l0 (⟨some d, .box t x, ty, pos, af, g⟩ :: rest) E H Q :=
  RT.eff hw fun o aa w K ho _ hdd hA hS hK => by
    unfold Oper.wp execOp
    have hr : (Instr.box t v).run P w = .ok (.pointer (some ⟨w.heap.size, 0, none⟩)) (w.alloc (.cells l.toArray t)) := by
      simp only [Instr.box, newVar, newRow, Sem.run_bind, hv]; rfl
    simp only [ho, hA.ev hx, Sem.run_bind, hr, Result.andThen_ok, Sem.run_pure]
    simp only [Oper.upon, hdd]
    exact hK _ _ (k _ _ _ (hA.put hd _) hS.newCs)
theorem x_alloc (T : Tab P) {l0 rest : List Oper} {Q : Exit → Act → World → Prop} {d : Nat} {pos : String} {af : Array Edge} {g : Option (Nat × Bool)} {t : TypeId} {v : Value} {l : List Value}
    (hw : wt l0 E g = some true) (hd : d < n) (hz : al T.zers t = some v) (hv : v.cells = l.toArray)
    (k : ∀ b, RT B P n true l0 rest ((d, .pointer (some ⟨b, 0, none⟩)) :: E) (Cs b t l :: H) Q) : RT B P n true l0 (⟨some d, .alloc t, ty, pos, af, g⟩ :: rest) E H Q :=
  RT.eff hw fun o aa w K ho _ hdd hA hS hK => by
    unfold Oper.wp execOp
    have hr : (Instr.alloc t true (.tuple #[])).run P w = .ok (.pointer (some ⟨w.heap.size, 0, none⟩)) (w.alloc (.cells l.toArray t)) := by
      simp only [Instr.alloc, newVar, newRow, Sem.run_bind, zerB_spec (T.zer hz), Result.andThen_ok, hv]; rfl
    simp only [ho, Sem.run_bind, hr, Result.andThen_ok, Sem.run_pure]
    simp only [Oper.upon, hdd]
    exact hK _ _ (k _ _ _ (hA.put hd _) hS.newCs)

/-! ### calls -/
/-- A call that leaves the pieces as they are and hands back this value. -/
def QSp (B : World) (P : Program) (f : FuncId) (vs : List Value) (H : List HP) (v : Value) : Prop := ∀ w, Sat B H w → Calls P f vs.toArray w fun e w' => e = .returned v ∧ Sat B H w'
theorem run_call {T : Tab P} {f : FuncId} {bb : Bool} {w : World} {args : List Value} (hf : al T.funs f = some bb) : (callFunc f args.toArray).run P w = .ok (.enter f args.toArray) w := T.funs_ok (f, bb) (al_mem hf) _ _
theorem exec_call (T : Tab P) {f : FuncId} {bb : Bool} {w : World} {xs : List Operand} {vs : List Value} {ats : Array TypeId} {o : Oper} {aa : Act} (hf : al T.funs f = some bb)
    (ho : o.op = .call { callee := .value (.func f), args := xs.toArray, argTypes := ats }) (hA : Agr n E aa) (hv : evs E xs = some vs) : (execOp aa.eval o).run P w = .ok (.enter f vs.toArray) w := by
  unfold execOp
  have hm : xs.map aa.eval = vs := hA.evs hv
  simp only [ho, resolve, Sem.run_bind, List.map_toArray, hm, Act.eval, Deferred.ofValue, Sem.run_pure, Result.andThen_ok, invoke]
  simpa using run_call (T := T) hf
theorem y_call (T : Tab P) {f : FuncId} {bb : Bool} {xs : List Operand} {vs : List Value} {ats : Array TypeId} {v : Value} (hf : al T.funs f = some bb) (hv : evs E xs = some vs) (hq : QSp B P f vs H v) :
    Yld B P n E H (.call { callee := .value (.func f), args := xs.toArray, argTypes := ats }) ty v := fun o aa w ho _ hA hS => by
  unfold Oper.quietAt
  rw [exec_call T hf ho hA hv]
  exact ⟨rfl, hq w hS⟩
theorem x_call (T : Tab P) {l0 rest : List Oper} {Q : Exit → Act → World → Prop} {d : Nat} {pos : String} {af : Array Edge} {g : Option (Nat × Bool)} {f : FuncId} {bb : Bool} {xs : List Operand} {vs : List Value} {ats : Array TypeId} {Pre : List HP} {Post : Value → List HP → Prop}
    (hw : wt l0 E g = some true) (hd : d < n) (hf : al T.funs f = some bb) (hv : evs E xs = some vs) (hq : Sp B P f vs R Pre Post) (hfr : Fr H Pre R)
    (k : ∀ v H', Post v H' → RT B P n true l0 rest ((d, v) :: E) (H' ++ R) Q) : RT B P n true l0 (⟨some d, .call { callee := .value (.func f), args := xs.toArray, argTypes := ats }, ty, pos, af, g⟩ :: rest) E H Q :=
  RT.eff hw fun o aa w K ho _ hdd hA hS hK => by
    unfold Oper.wp
    rw [exec_call T hf ho hA hv]
    simp only [Oper.upon, hdd]
    refine (hq w (hS.fr hfr)).mono fun e w' ⟨v, H', he, hp, hS'⟩ => ?_
    subst he
    exact hK _ _ (k v H' hp _ _ (hA.put hd _) hS')
theorem Fr.back {H Ps R : List HP} (f : Fr H Ps R) : ∀ h, star (Ps ++ R) h → star H h := by
  induction f with
  | nil => exact fun _ h => h
  | cons s _ ih => exact fun h hs => s.of h (star_cons_mono ih hs)
/-- A function that gives back what it got: quiet. -/
theorem Sp.quiet {f : FuncId} {vs : List Value} {Pre : List HP} {v : Value} (h : Sp B P f vs R Pre (fun v' H' => v' = v ∧ H' = Pre)) (hfr : Fr H Pre R) : QSp B P f vs H v :=
  fun w hS => (h w (hS.fr hfr)).mono fun e w' ⟨_, _, he, ⟨hv, hh⟩, hS'⟩ => by subst hv hh; exact ⟨he, hS'.mono hfr.back⟩
end
end Go.Sk
end
section
/- Small facts on numbers that wrap. Plain theorems. -/
namespace Go.Sk
theorem wr_i64 {x : Int} (a : -9223372036854775808 ≤ x) (b : x ≤ 9223372036854775807) : IntKind.i64.wrap x = x := by
  simp only [IntKind.wrap, IntKind.bits, IntKind.signed, Bool.true_and, decide_eq_true_eq, ge_iff_le]
  split <;> omega
theorem wr_i32 {x : Int} (a : -2147483648 ≤ x) (b : x ≤ 2147483647) : IntKind.i32.wrap x = x := by
  simp only [IntKind.wrap, IntKind.bits, IntKind.signed, Bool.true_and, decide_eq_true_eq, ge_iff_le]
  split <;> omega
theorem wr_u64 {x : Int} (a : 0 ≤ x) (b : x ≤ 18446744073709551615) : IntKind.u64.wrap x = x := by
  simp only [IntKind.wrap, IntKind.bits, IntKind.signed, Bool.false_and]
  simp; omega
theorem wr_u32 {x : Int} (a : 0 ≤ x) (b : x ≤ 4294967295) : IntKind.u32.wrap x = x := by
  simp only [IntKind.wrap, IntKind.bits, IntKind.signed, Bool.false_and]
  simp; omega
theorem wr_u8 {x : Int} (a : 0 ≤ x) (b : x ≤ 255) : IntKind.u8.wrap x = x := by
  simp only [IntKind.wrap, IntKind.bits, IntKind.signed, Bool.false_and]
  simp; omega
theorem wr_u8m (x : Int) : IntKind.u8.wrap x = x % 256 := by simp [IntKind.wrap, IntKind.bits, IntKind.signed]
theorem wr_u32m (x : Int) : IntKind.u32.wrap x = x % 4294967296 := by simp [IntKind.wrap, IntKind.bits, IntKind.signed]
theorem wr_u64m (x : Int) : IntKind.u64.wrap x = x % 18446744073709551616 := by simp [IntKind.wrap, IntKind.bits, IntKind.signed]
end Go.Sk
namespace Go.Sk
theorem num_i64 {K : Int → Prop} {e : Int} (h0 : -9223372036854775808 ≤ e) (h1 : e ≤ 9223372036854775807) (k : K e) : ∀ r, IntKind.i64.wrap e = r → K r := fun r hr => by rw [wr_i64 h0 h1] at hr; exact hr ▸ k
theorem num_i32 {K : Int → Prop} {e : Int} (h0 : -2147483648 ≤ e) (h1 : e ≤ 2147483647) (k : K e) : ∀ r, IntKind.i32.wrap e = r → K r := fun r hr => by rw [wr_i32 h0 h1] at hr; exact hr ▸ k
theorem num_u64 {K : Int → Prop} {e : Int} (h0 : 0 ≤ e) (h1 : e ≤ 18446744073709551615) (k : K e) : ∀ r, IntKind.u64.wrap e = r → K r := fun r hr => by rw [wr_u64 h0 h1] at hr; exact hr ▸ k
theorem num_u32 {K : Int → Prop} {e : Int} (h0 : 0 ≤ e) (h1 : e ≤ 4294967295) (k : K e) : ∀ r, IntKind.u32.wrap e = r → K r := fun r hr => by rw [wr_u32 h0 h1] at hr; exact hr ▸ k
theorem num_u8 {K : Int → Prop} {e : Int} (h0 : 0 ≤ e) (h1 : e ≤ 255) (k : K e) : ∀ r, IntKind.u8.wrap e = r → K r := fun r hr => by rw [wr_u8 h0 h1] at hr; exact hr ▸ k
theorem num_u64m {K : Int → Prop} {e : Int} (k : ∀ r, e % 18446744073709551616 = r → K r) : ∀ r, IntKind.u64.wrap e = r → K r := fun r hr => k r (by rw [← wr_u64m]; exact hr)
theorem num_u32m {K : Int → Prop} {e : Int} (k : ∀ r, e % 4294967296 = r → K r) : ∀ r, IntKind.u32.wrap e = r → K r := fun r hr => k r (by rw [← wr_u32m]; exact hr)
theorem num_u8m {K : Int → Prop} {e : Int} (k : ∀ r, e % 256 = r → K r) : ∀ r, IntKind.u8.wrap e = r → K r := fun r hr => k r (by rw [← wr_u8m]; exact hr)
end Go.Sk
namespace Go.Sk
theorem dec_t {p : Prop} [Decidable p] (h : p) : Value.bool true = Value.bool (decide p) := by rw [decide_eq_true h]
theorem dec_f {p : Prop} [Decidable p] (h : ¬ p) : Value.bool false = Value.bool (decide p) := by rw [decide_eq_false h]
/-- Numbers of this kind that are in its range stay as they are. -/
class KR (k : IntKind) (lo hi : outParam Int) : Prop where
  ok : ∀ {e : Int}, lo ≤ e → e ≤ hi → k.wrap e = e
instance : KR .i64 (-9223372036854775808) 9223372036854775807 := ⟨wr_i64⟩
instance : KR .u64 0 18446744073709551615 := ⟨wr_u64⟩
instance : KR .u8 0 255 := ⟨wr_u8⟩
instance : KR .i32 (-2147483648) 2147483647 := ⟨wr_i32⟩
instance : KR .u32 0 4294967295 := ⟨wr_u32⟩
theorem num_k {k : IntKind} {lo hi : Int} [h : KR k lo hi] {K : Int → Prop} {e : Int} (h0 : lo ≤ e) (h1 : e ≤ hi) (kk : K e) : ∀ r, k.wrap e = r → K r := fun r hr => by rw [h.ok h0 h1] at hr; exact hr ▸ kk
class KM (k : IntKind) (m : outParam Int) : Prop where
  ok : ∀ {e : Int}, k.wrap e = e % m
instance : KM .u64 18446744073709551616 := ⟨wr_u64m _⟩
instance : KM .u8 256 := ⟨wr_u8m _⟩
instance : KM .u32 4294967296 := ⟨wr_u32m _⟩
theorem num_m {k : IntKind} {m : Int} [h : KM k m] {K : Int → Prop} {e : Int} (kk : ∀ r, e % m = r → K r) : ∀ r, k.wrap e = r → K r := fun r hr => kk r (by rw [← h.ok]; exact hr)
end Go.Sk
end
section
/- The walk by reckoning: a function that carries out the operations that need no memory and no thought, and asks at tests and sums. Plain theorems, no condition. -/
namespace Go.Sk
section
variable {P : Program} (T : Tab P)

/-- What such an operation yields. -/
def evalOp (E : Env) : Op → Option Value
  | .move x => ev E x
  | .assign x => ev E x
  | .nilCheck x => match ev E x with
    | some (.pointer (some a)) => some (.pointer (some a))
    | _ => none
  | .fieldAddr s x f => match ev E x with
    | some (.pointer (some ⟨b, 0, none⟩)) => match al2 T.flds s f with
      | some (off, _ + 1, _) => some (.pointer (some ⟨b, off, none⟩))
      | _ => none
    | _ => none
  | .extract x i => match ev E x with
    | some (.tuple ⟨l⟩) => l[i]?
    | _ => none
  | .pick c x y => match ev E c with
    | some (.bool true) => ev E x
    | some (.bool false) => ev E y
    | _ => none
  | .unOp .not _ x => match ev E x with
    | some (.bool true) => some (.bool false)
    | some (.bool false) => some (.bool true)
    | _ => none
  | .call ⟨.builtin .len, ⟨[x]⟩, ⟨[t]⟩⟩ => match ev E x with
    | some (.slice _ k _) => match al T.slcs t with
      | some _ => some (.int .i64 k)
      | none => none
    | _ => none
  | .call ⟨.builtin .cap, ⟨[x]⟩, ⟨[t]⟩⟩ => match ev E x with
    | some (.slice _ _ c) => match al T.slcs t with
      | some _ => some (.int .i64 c)
      | none => none
    | _ => none
  | _ => none

/-- Two ways, or a sum to be named. -/
inductive Ask where
  | no
  | two (c : Prop) (t f : Bool)
  | num (k : IntKind) (e : Int)

def askOp (E : Env) : Op → Ask
  | .binOp bo _ x y _ => match ev E x, ev E y with
    | some (.int k i), some (.int k' j) => bif decide (k = k') then (match bo with
      | .lss => .two (i < j) true false
      | .leq => .two (i ≤ j) true false
      | .gtr => .two (j < i) true false
      | .geq => .two (j ≤ i) true false
      | .eql => .two (i = j) true false
      | .neq => .two (i = j) false true
      | .add => .num k (i + j)
      | .sub => .num k (i - j)
      | .mul => .num k (i * j)
      | _ => .no) else .no
    | _, _ => .no
  | .convert t' t x => match ev E x with
    | some (.int _ i) => match al T.ints t', al T.ints t with
      | some _, some k' => .num k' i
      | _, _ => .no
    | _ => .no
  | _ => .no

def vc (n : Nat) (l0 : List Oper) (K : List Oper → Env → Prop) : List Oper → Env → Bool → Prop
  | [], E, b => bif b then K [] E else False
  | o :: rest, E, b => match o.dst with
    | some d => bif Nat.blt d n then
      match wt l0 E o.guard with
      | some false => vc n l0 K rest ((d, undef) :: E) true
      | some true => match evalOp T E o.op with
        | some v => vc n l0 K rest ((d, v) :: E) true
        | none => match askOp T E o.op with
          | .two c t f => (c → vc n l0 K rest ((d, .bool t) :: E) true) ∧ (¬ c → vc n l0 K rest ((d, .bool f) :: E) true)
          | .num k e => ∀ r, k.wrap e = r → vc n l0 K rest ((d, .int k r) :: E) true
          | .no => bif b then K (o :: rest) E else False
      | none => bif b then K (o :: rest) E else False
      else bif b then K (o :: rest) E else False
    | none => bif b then K (o :: rest) E else False
end

section
variable {B : World} {P : Program} {n : Fm} {m : Bool} {l0 rest : List Oper} {E : Env} {H : List HP} {Q : Exit → Act → World → Prop} (T : Tab P)

theorem evalOp_ok {op : Op} {ty : TypeId} {v : Value} (h : evalOp T E op = some v) : Yld B P n E H op ty v := by
  unfold evalOp at h
  split at h
  · exact y_move h
  · exact y_assign h
  · split at h
    · rename_i hx; cases h; exact y_nil hx
    · cases h
  · split at h
    · rename_i hx
      split at h
      · rename_i hf; cases h; exact y_fa T hf hx
      · cases h
    · cases h
  · split at h
    · rename_i l hx; exact y_extract hx h
    · cases h
  · split at h
    · rename_i hc; exact y_pick_t hc h
    · rename_i hc; exact y_pick_f hc h
    · cases h
  · split at h
    · rename_i hx; cases h; exact y_not hx rfl
    · rename_i hx; cases h; exact y_not hx rfl
    · cases h
  · split at h
    · rename_i hx
      split at h
      · rename_i ht; cases h; exact y_len T ht hx
      · cases h
    · cases h
  · split at h
    · rename_i hx
      split at h
      · rename_i ht; cases h; exact y_cap T ht hx
      · cases h
    · cases h
  · cases h

theorem askOp_two {op : Op} {ty : TypeId} {c : Prop} {t f : Bool} (h : askOp T E op = .two c t f) : (t = true ∧ f = false ∨ t = false ∧ f = true) ∧ ∃ b, Yld B P n E H op ty (.bool b) ∧ (b = t ↔ c) := by
  unfold askOp at h
  split at h
  · split at h
    · rename_i k i k' j hx hy
      cases hk : decide (k = k') with
      | false => simp [hk] at h
      | true =>
        have hkk : k = k' := of_decide_eq_true hk
        subst hkk
        simp only [hk, cond_true] at h
        split at h <;> cases h
        all_goals first
          | exact ⟨by simp, _, y_cmp hx hy rfl (by simp), by simp⟩
    · cases h
  · split at h
    · split at h <;> cases h
    · cases h
  · cases h
theorem askOp_num {op : Op} {ty : TypeId} {k : IntKind} {e : Int} (h : askOp T E op = .num k e) : Yld B P n E H op ty (.int k (k.wrap e)) := by
  unfold askOp at h
  split at h
  · split at h
    · rename_i k0 i k' j hx hy
      cases hk : decide (k0 = k') with
      | false => simp [hk] at h
      | true =>
        have hkk : k0 = k' := of_decide_eq_true hk
        subst hkk
        simp only [hk, cond_true] at h
        split at h <;> cases h
        · exact y_add hx hy rfl
        · exact y_sub hx hy rfl
        · exact y_mul hx hy rfl
    · cases h
  · split at h
    · rename_i hx
      split at h
      · rename_i hs ht
        cases h
        exact y_conv T ht hs hx rfl
      · cases h
    · cases h
  · cases h

theorem vc_ok : ∀ (l : List Oper) (E : Env) (b : Bool), vc T n l0 (fun rest E' => RT B P n m l0 rest E' H Q) l E b → RT B P n m l0 l E H Q
  | [], E, b, h => by
    cases b
    · exact h.elim
    · exact h
  | o :: rest, E, b, h => by
    have stop : (bif b then RT B P n m l0 (o :: rest) E H Q else False) → RT B P n m l0 (o :: rest) E H Q := fun h => by
      cases b
      · exact h.elim
      · exact h
    obtain ⟨dst, op, ty, pos, af, g⟩ := o
    simp only [vc] at h
    cases dst with
    | none => exact stop h
    | some d =>
      simp only at h
      cases hd : Nat.blt d n with
      | false => rw [hd] at h; exact stop h
      | true =>
        rw [hd] at h
        have hdn : d < n := by simpa [Nat.blt_eq] using hd
        simp only [cond_true] at h
        cases hw : wt l0 E g with
        | none => simp only [hw] at h; exact stop h
        | some bw =>
          cases bw with
          | false => simp only [hw] at h; exact RT.skip hw hdn (vc_ok rest _ _ h)
          | true =>
            simp only [hw] at h
            cases he : evalOp T E op with
            | some v => simp only [he] at h; exact RT.y hw hdn (evalOp_ok T he) (vc_ok rest _ _ h)
            | none =>
              simp only [he] at h
              cases ha : askOp T E op with
              | no => simp only [ha] at h; exact stop h
              | two c t f =>
                simp only [ha] at h
                obtain ⟨htf, bb, hy, hb⟩ := askOp_two (B := B) (n := n) (H := H) (ty := ty) T ha
                refine RT.y hw hdn hy ?_
                by_cases hc : c
                · have := hb.2 hc; subst this; exact vc_ok rest _ _ (h.1 hc)
                · have hne : bb ≠ t := fun e => hc (hb.1 e)
                  have : bb = f := by rcases htf with ⟨rfl, rfl⟩ | ⟨rfl, rfl⟩ <;> cases bb <;> simp_all
                  subst this
                  exact vc_ok rest _ _ (h.2 hc)
              | num k e =>
                simp only [ha] at h
                exact RT.y hw hdn (askOp_num T ha) (vc_ok rest _ _ (h _ rfl))
theorem RT.c (h : vc T n l0 (fun rest E' => RT B P n m l0 rest E' H Q) rest E false) : RT B P n m l0 rest E H Q := vc_ok T rest E false h
theorem RT.id (h : RT B P n m l0 rest E H Q) : RT B P n m l0 rest E H Q := h
/-- Go on behind a stop. -/
theorem RT.c1 (h : vc T n l0 (fun rest E' => RT B P n m l0 rest E' H Q) rest E true) : RT B P n m l0 rest E H Q := vc_ok T rest E true h
end
end Go.Sk
namespace Go.Sk
theorem vc_id {P : Program} {T : Tab P} {n : Nat} {l0 l : List Oper} {K : List Oper → Env → Prop} {E : Env} {b : Bool} (h : vc T n l0 K l E b) : vc T n l0 K l E b := h
end Go.Sk
namespace Go.Sk
theorem CT.id_ {B : World} {P : Program} {n : Fm} {c : Code} {E : Env} {H : List HP} {Q : Exit → Act → World → Prop} (h : CT B P n c E H Q) : CT B P n c E H Q := h
theorem AtQ.id_ {B : World} {n : Fm} {E : Env} {H : List HP} {Q : Exit → Act → World → Prop} {ex : Exit} (h : AtQ B n E H Q ex) : AtQ B n E H Q ex := h
end Go.Sk
namespace Go.Sk
section
variable {B : World} {P : Program} {n : Fm} {m : Bool} {l0 rest : List Oper} {E : Env} {H R : List HP} {Q : Exit → Act → World → Prop} (T : Tab P)
variable {d : Nat} {ty : TypeId} {pos : String} {af : Array Edge} {g : Option (Nat × Bool)} {x y : Operand} {t : TypeId}
theorem RT.ld {b off : Nat} {e : TypeId} {l : List Value} {v : Value} (hx : ev E x = some (.pointer (some ⟨b, off, none⟩))) (hs : Sel H (Cs b e l) R) (hv : l[off]? = some v) (ht : al T.szs t = some (1, false)) (hw : wt l0 E g = some true) (hd : Nat.blt d n = true)
    (k : RT B P n m l0 rest ((d, v) :: E) H Q) : RT B P n m l0 (⟨some d, .load t x, ty, pos, af, g⟩ :: rest) E H Q :=
  RT.y hw (by simpa [Nat.blt_eq] using hd) (y_ld T ht hx hs hv) k
theorem RT.ldagg {b z : Nat} {e : TypeId} {l : List Value} (hx : ev E x = some (.pointer (some ⟨b, 0, none⟩))) (hs : Sel H (Cs b e l) R) (ht : al T.szs t = some (z, true)) (hz : l.length = z) (hw : wt l0 E g = some true) (hd : Nat.blt d n = true)
    (k : RT B P n m l0 rest ((d, .agg l.toArray) :: E) H Q) : RT B P n m l0 (⟨some d, .load t x, ty, pos, af, g⟩ :: rest) E H Q :=
  RT.y hw (by simpa [Nat.blt_eq] using hd) (y_ldagg T ht hx hs hz) k
theorem RT.ix {k c e z bb : Nat} {a : Option Addr} {kk : IntKind} {i : Int} {xs : List Value} {j : Nat} (hx : ev E x = some (.slice a k c)) (hy : ev E y = some (.int kk i)) (ht : al T.slcs t = some (e, z, bb))
    (hr : Rd B H a k c z xs) (h0 : 0 ≤ i) (h1 : i < k) (hj : i.toNat * z = j) (hw : wt l0 E g = some true) (hd : Nat.blt d n = true)
    (kt : RT B P n m l0 rest ((d, .pointer (some ((adr a).add j))) :: E) H Q) : RT B P n m l0 (⟨some d, .indexAddr t x y, ty, pos, af, g⟩ :: rest) E H Q :=
  RT.y hw (by simpa [Nat.blt_eq] using hd) (y_ix T ht hx hy hr h0 h1 hj) kt
theorem RT.ldi {k c z j : Nat} {a : Option Addr} {kk : IntKind} {l : List Int} (hx : ev E x = some (.pointer (some ((adr a).add j)))) (hr : Rd B H a k c z (ints kk l)) (hj : j < l.length) (ht : al T.szs t = some (1, false)) (hw : wt l0 E g = some true) (hd : Nat.blt d n = true)
    (kt : RT B P n m l0 rest ((d, .int kk (l.getD j 0)) :: E) H Q) : RT B P n m l0 (⟨some d, .load t x, ty, pos, af, g⟩ :: rest) E H Q :=
  RT.y hw (by simpa [Nat.blt_eq] using hd) (y_ldi T ht hx hr hj) kt
theorem RT.ldr {k c z j : Nat} {a : Option Addr} {xs : List Value} {u : Value} (hx : ev E x = some (.pointer (some ((adr a).add j)))) (hr : Rd B H a k c z xs) (hu : xs[j]? = some u) (ht : al T.szs t = some (1, false)) (hw : wt l0 E g = some true) (hd : Nat.blt d n = true)
    (kt : RT B P n m l0 rest ((d, u) :: E) H Q) : RT B P n m l0 (⟨some d, .load t x, ty, pos, af, g⟩ :: rest) E H Q :=
  RT.y hw (by simpa [Nat.blt_eq] using hd) (y_ldr T ht hx hr hu) kt
theorem RT.st {b off : Nat} {e : TypeId} {l l' : List Value} {v : Value} {H' : List HP} (hx : ev E x = some (.pointer (some ⟨b, off, none⟩))) (hy : ev E y = some v) (h1 : one1 v = true)
    (hr : Rep H (Cs b e l) (Cs b e l') H') (hl : SetN l off v l') (ht : al T.szs t = some (1, false)) (hw : wt l0 E g = some true)
    (k : RT B P n true l0 rest E H' Q) : RT B P n true l0 (⟨none, .store t x y, ty, pos, af, g⟩ :: rest) E H Q := x_st T hw ht hx hy h1 hr hl k
theorem RT.box {v : Value} {l : List Value} (hx : ev E x = some v) (hv : v.cells = l.toArray) (hw : wt l0 E g = some true) (hd : Nat.blt d n = true)
    (k : ∀ b, RT B P n true l0 rest ((d, .pointer (some ⟨b, 0, none⟩)) :: E) (Cs b t l :: H) Q) : RT B P n true l0 (⟨some d, .box t x, ty, pos, af, g⟩ :: rest) E H Q :=
  x_box hw (by simpa [Nat.blt_eq] using hd) hx hv k
theorem RT.alloc {v : Value} {l : List Value} (hz : al T.zers t = some v) (hv : v.cells = l.toArray) (hw : wt l0 E g = some true) (hd : Nat.blt d n = true)
    (k : ∀ b, RT B P n true l0 rest ((d, .pointer (some ⟨b, 0, none⟩)) :: E) (Cs b t l :: H) Q) : RT B P n true l0 (⟨some d, .alloc t, ty, pos, af, g⟩ :: rest) E H Q :=
  x_alloc T hw (by simpa [Nat.blt_eq] using hd) hz hv k
theorem RT.call {f : FuncId} {bb : Bool} {xs : List Operand} {vs : List Value} {ats : Array TypeId} {Pre : List HP} {Post : Value → List HP → Prop}
    (qv : evs E xs = some vs) (qfr : Fr H Pre R) (qq : Sp B P f vs R Pre Post) (qf : al T.funs f = some bb) (qw : wt l0 E g = some true) (qd : Nat.blt d n = true)
    (qk : ∀ v H', Post v H' → RT B P n true l0 rest ((d, v) :: E) (H' ++ R) Q) : RT B P n true l0 (⟨some d, .call { callee := .value (.func f), args := xs.toArray, argTypes := ats }, ty, pos, af, g⟩ :: rest) E H Q :=
  x_call T qw (by simpa [Nat.blt_eq] using qd) qf qv qq qfr qk
theorem RT.qcall {f : FuncId} {bb : Bool} {xs : List Operand} {vs : List Value} {ats : Array TypeId} {v : Value} (qv : evs E xs = some vs) (qq : QSp B P f vs H v) (qf : al T.funs f = some bb) (qw : wt l0 E g = some true) (qd : Nat.blt d n = true)
    (qk : RT B P n m l0 rest ((d, v) :: E) H Q) : RT B P n m l0 (⟨some d, .call { callee := .value (.func f), args := xs.toArray, argTypes := ats }, ty, pos, af, g⟩ :: rest) E H Q :=
  RT.y qw (by simpa [Nat.blt_eq] using qd) (y_call T qf qv qq) qk
theorem QSp.of {f : FuncId} {vs : List Value} {Pre : List HP} {v : Value} (qfr : Fr H Pre R) (qq : Sp B P f vs R Pre (fun v' H' => v' = v ∧ H' = Pre)) : QSp B P f vs H v := Sp.quiet qq qfr
theorem RT.pnil {t' : TypeId} {p : Option Addr} {r : Bool} (hx : ev E x = some (.pointer p)) (hy : ev E y = some (.pointer none)) (hr : p.isNone = r) (ht : al T.kinds t = some 1) (hw : wt l0 E g = some true) (hd : Nat.blt d n = true)
    (k : RT B P n m l0 rest ((d, .bool r) :: E) H Q) : RT B P n m l0 (⟨some d, .binOp .eql t x y t', ty, pos, af, g⟩ :: rest) E H Q :=
  RT.y hw (by simpa [Nat.blt_eq] using hd) (y_pnil T ht hx hy hr) k
theorem RT.pnnil {t' : TypeId} {p : Option Addr} {r : Bool} (hx : ev E x = some (.pointer p)) (hy : ev E y = some (.pointer none)) (hr : (!p.isNone) = r) (ht : al T.kinds t = some 1) (hw : wt l0 E g = some true) (hd : Nat.blt d n = true)
    (k : RT B P n m l0 rest ((d, .bool r) :: E) H Q) : RT B P n m l0 (⟨some d, .binOp .neq t x y t', ty, pos, af, g⟩ :: rest) E H Q :=
  RT.y hw (by simpa [Nat.blt_eq] using hd) (y_pnnil T ht hx hy hr) k
/-- Arithmetic of two integers whose outcome is told by hand. -/
theorem RT.ar {bo : BinOp} {t' : TypeId} {k k' : IntKind} {i j r : Int} (hx : ev E x = some (.int k i)) (hy : ev E y = some (.int k' j)) (hr : Yld B P n E H (.binOp bo t x y t') ty (.int k r)) (hw : wt l0 E g = some true) (hd : Nat.blt d n = true)
    (kt : RT B P n m l0 rest ((d, .int k r) :: E) H Q) : RT B P n m l0 (⟨some d, .binOp bo t x y t', ty, pos, af, g⟩ :: rest) E H Q :=
  have _ := hx
  have _ := hy
  RT.y hw (by simpa [Nat.blt_eq] using hd) hr kt
theorem RT.app {e : TypeId} {sz by_ : Nat} {z : Value} {a b : Option Addr} {c k m c2 : Nat} {xs ys : List Value} {H' : Option Addr → Nat → List HP}
    (hx : ev E x = some (.slice a k c)) (hy : ev E y = some (.slice b m c2)) (ht : al T.slcs t = some (e, sz, by_)) (hr : ∀ a' c', Rep H (Own a c e sz k xs) (Own a' c' e sz (k + m) (xs ++ ys)) (H' a' c'))
    (hb : Rd B H b m c2 sz ys) (h1 : ∀ u ∈ ys, u.oneCell' = true) (hlen : k + m ≤ 140737488355328) (hby : (k + m) * by_ ≤ 140737488355328)
    (hz : al T.zers e = some z) (hzs : z.cells.size = sz) (hw : wt l0 E g = some true) (hd : Nat.blt d n = true)
    (kk : ∀ a' c', k + m ≤ c' → RT B P n true l0 rest ((d, .slice a' (k + m) c') :: E) (H' a' c') Q) :
    RT B P n true l0 (⟨some d, .call { callee := .builtin .append, args := #[x, y], argTypes := #[t, t] }, ty, pos, af, g⟩ :: rest) E H Q :=
  x_app T hw (by simpa [Nat.blt_eq] using hd) ht hz hzs hx hy hr hb h1 hlen hby kk
end
/-- One step that nothing has to be shown for. -/
class Nx (p : Prop) (q : outParam Prop) : Prop where
  imp : q → p
theorem nx {p q : Prop} [h : Nx p q] (k : q) : p := h.imp k
section
variable {B : World} {P : Program} {n n' : Fm} {E : Env} {H : List HP} {Q : Exit → Act → World → Prop} {x y c : Code} {id : Nat}
instance : Nx (CT B P n (.seq x y) E H Q) (CT B P n x E H (Then n P y Q)) := ⟨CT.seq⟩
instance : Nx (CT B P n .skip E H Q) (AtQ B n E H Q .normal) := ⟨CT.skip⟩
instance : Nx (CT B P n .ret E H Q) (AtQ B n E H Q .ret) := ⟨CT.ret⟩
instance : Nx (CT B P n (.exit id) E H Q) (AtQ B n E H Q (.exit id)) := ⟨CT.exit⟩
instance : Nx (CT B P n (.block id c) E H Q) (CT B P n c E H (Exit.inBlock id Q)) := ⟨CT.block⟩
instance : Nx (AtQ B n' E H (Then n P c Q) (.exit id)) (AtQ B n' E H Q (.exit id)) := ⟨A1⟩
instance : Nx (AtQ B n' E H (Then n P c Q) .ret) (AtQ B n' E H Q .ret) := ⟨A2⟩
section
variable {α : Type} {f : α → Env} {g : α → List HP} {μ : α → Nat} {z : α}
instance : Nx (AtQ B n' E H (LoopQ B n f g μ z Q) (.exit id)) (AtQ B n' E H Q (.exit id)) := ⟨A3⟩
instance : Nx (AtQ B n' E H (LoopQ B n f g μ z Q) .ret) (AtQ B n' E H Q .ret) := ⟨A4⟩
end
section
variable {α : Sort _} {f : α → Env} {g : α → List HP}
instance : Nx (AtQ B n' E H (CutQ B n f g Q) (.exit id)) (AtQ B n' E H Q (.exit id)) := ⟨A5⟩
instance : Nx (AtQ B n' E H (CutQ B n f g Q) .ret) (AtQ B n' E H Q .ret) := ⟨A6⟩
end
instance : Nx (AtQ B n E H (Exit.inBlock id Q) .normal) (AtQ B n E H Q .normal) := ⟨A7⟩
instance : Nx (AtQ B n E H (Exit.inBlock id Q) .ret) (AtQ B n E H Q .ret) := ⟨A8⟩
end
end Go.Sk
end
section
/- More rules: literals of structs and slices, a slice against nil, stores into owned slices, bytes of strings, division, copies. Plain theorems, no condition. -/
namespace Go.Sk
open Go.RowKit

/-! ### a struct's literal -/
def setL : List Value → Nat → Value → Option (List Value)
  | [], _, _ => none
  | _ :: l, 0, v => some (v :: l)
  | x :: l, k + 1, v => match setL l k v with
    | some l' => some (x :: l')
    | none => none
theorem setL_spec : ∀ {l l' : List Value} {k : Nat} {v : Value}, setL l k v = some l' → l' = l.set k v ∧ k < l.length
  | x :: l, l', 0, v, h => by cases h; simp
  | x :: l, l', k + 1, v, h => by
    simp only [setL] at h
    split at h
    · rename_i l2 h2
      cases h
      obtain ⟨rfl, hk⟩ := setL_spec h2
      simp [hk]
    · cases h
/-- The cells of a literal: each part of one cell. -/
def buildL (E : Env) (pl : List (Nat × Nat)) : List (Nat × Operand) → List Value → Option (List Value)
  | [], cells => some cells
  | (i, x) :: ps, cells => match pl[i]? with
    | some (off, 1) => match ev E x with
      | some v => match one1 v with
        | true => match setL cells off v with
          | some cells' => buildL E pl ps cells'
          | none => none
        | false => none
      | none => none
    | _ => none
/-- The cells of a slice's literal, its elements of one cell each, in their order. -/
def rowL (E : Env) : Nat → List (Nat × Operand) → Option (List Value)
  | _, [] => some []
  | k, (i, x) :: ps => match Nat.beq i k with
    | true => match ev E x with
      | some v => match one1 v with
        | true => match rowL E (k + 1) ps with
          | some l => some (v :: l)
          | none => none
        | false => none
      | none => none
    | false => none

section
variable {B : World} {P : Program} {n : Fm} {m : Bool} {l0 rest : List Oper} {E : Env} {H R : List HP} {Q : Exit → Act → World → Prop} (T : Tab P)
variable {d : Nat} {ty : TypeId} {pos : String} {af : Array Edge} {g : Option (Nat × Bool)} {x y : Operand} {t : TypeId}

theorem fold1 (v : Value) (h : one1 v = true) (off : Nat) (cells : Array Value) :
    v.cells.zipIdx.foldl (fun cs (c, j) => cs.setIfInBounds (off + j) c) cells = cells.setIfInBounds off v := by
  rw [one1_cells h]; simp
theorem fold1' (v : Value) (h : one1 v = true) (off : Nat) (cells : Array Value) :
    Array.foldl (fun cs x => cs.setIfInBounds (off + x.snd) x.fst) cells v.cells.zipIdx = cells.setIfInBounds off v := fold1 v h off cells
theorem buildL_fill {pl : List (Nat × Nat)} {a : Act} (hA : Agr n E a) :
    ∀ (ps : List (Nat × Operand)) (cells l : List Value), buildL E pl ps cells = some l →
      Instr.fill (fun i => pl[i]?) cells.toArray (ps.map fun (i, x) => (i, a.eval x)) = some l.toArray
  | [], cells, l, h => by cases h; rfl
  | (i, x) :: ps, cells, l, h => by
    simp only [buildL] at h
    split at h
    · rename_i off hp
      split at h
      · rename_i v hv
        split at h
        · rename_i h1
          split at h
          · rename_i cells' hs
            obtain ⟨rfl, hk⟩ := setL_spec hs
            have ih := buildL_fill hA ps _ l h
            simp only [List.map_cons, Instr.fill, hp, hA.ev hv]
            have hc : v.cells.size = 1 := by rw [one1_cells h1]; rfl
            rw [if_neg (by simp [hc]; omega)]
            rw [fold1' v h1]
            simpa using ih
          · cases h
        · cases h
      · cases h
    · cases h
theorem y_build {parts : List (Nat × Operand)} {pl : List (Nat × Nat)} {cells l : List Value} (hz : al T.zers t = some (.agg cells.toArray)) (hp : al T.plcs t = some pl) (hl : buildL E pl parts cells = some l) :
    Yld B P n E H (.build t parts.toArray) ty (.agg l.toArray) :=
  y_run fun o a w ho _ hA _ => by
    have hz' := T.zer hz
    have hp' := T.plc hp
    unfold zerB at hz'
    unfold plB at hp'
    cases hi : P.info? t with
    | none => simp [hi] at hz'
    | some it =>
      simp only [hi, Option.bind_some] at hz'
      split at hp'
      · rename_i fs hu
        have hb : P.built t (parts.map fun (i, x) => (i, a.eval x)) = some l.toArray := by
          unfold Program.built
          simp only [hi, hu, hz', hp', Value.cells]
          have := buildL_fill hA parts cells l hl
          simpa using this
        unfold execOp
        have hr := run_build w t (parts.toArray.map fun (i, x) => (i, a.eval x)) l.toArray (by simpa using hb)
        simp only [ho, Sem.run_bind, hr, Result.andThen_ok, Sem.run_pure]
      · cases hp'

/-! ### a slice's literal -/
theorem rowL_spec {a : Act} (hA : Agr n E a) : ∀ (ps : List (Nat × Operand)) (k : Nat) (l : List Value), rowL E k ps = some l →
    l.length = ps.length ∧ (∀ v ∈ l, one1 v = true) ∧ ∀ (cells : Array Value), k + ps.length ≤ cells.size → Instr.fill (fun i => some (i * 1, 1)) cells (ps.map fun (i, x) => (i, a.eval x)) = some (cells.toList.take k ++ l ++ cells.toList.drop (k + ps.length)).toArray
  | [], k, l, h => by
    cases h
    exact ⟨rfl, fun v hv => (by cases hv), fun cells _ => (by simp [Instr.fill])⟩
  | (i, x) :: ps, k, l, h => by
    simp only [rowL] at h
    split at h
    · rename_i hb
      rw [Nat.beq_eq] at hb
      subst hb
      split at h
      · rename_i v hv
        split at h
        · rename_i h1
          split at h
          · rename_i l' hl'
            cases h
            obtain ⟨e1, e2, e3⟩ := rowL_spec hA ps (i + 1) l' hl'
            refine ⟨by simp [e1], fun u hu => ?_, fun cells hc => ?_⟩
            · rcases List.mem_cons.1 hu with rfl | hu
              · exact h1
              · exact e2 u hu
            · have hc1 : v.cells.size = 1 := by rw [one1_cells h1]; rfl
              simp only [List.map_cons, Instr.fill, hA.ev hv, List.length_cons] at hc ⊢
              rw [if_neg (by simp [hc1]; omega), fold1' v h1, e3 _ (by simp; omega)]
              congr 1
              simp only [Nat.mul_one, Array.toList_setIfInBounds]
              rw [List.drop_set_of_lt (by omega), List.take_succ_eq_append_getElem (by simp; omega), List.take_set_of_le (Nat.le_refl _), List.getElem_set_self]
              simp [Nat.add_assoc, Nat.add_comm 1]
          · cases h
        · cases h
      · cases h
    · cases h
theorem run_bs {w : World} {t e z bb : Nat} {z0 : Value} {vs : List (Nat × Value)} {l : List Value} (ht : slcB P t = some (e, z, bb)) (hz : zerB P e = some z0) (h1 : z = 1) (hl : l.length ≤ 16777216)
    (hf : ∀ cells : Array Value, cells.size = l.length → Instr.fill (fun i => some (i * 1, 1)) cells vs = some l.toArray) :
    (Instr.buildSlice t l.length vs.toArray).run P w = .ok (.slice (some ⟨w.heap.size, 0, none⟩) l.length l.length) (w.alloc (.cells l.toArray e)) := by
  obtain ⟨hu, i, hi, hsz, _⟩ := slcB_spec ht
  subst h1
  have hs : (sizeOf e).run P w = .ok 1 w := run_sizeB (by simp [sizeB, hi, hsz])
  have hz1 := zerB_spec (P := P) (w := w) hz
  have hbig : ¬ (l.length * 1 > 2 ^ 24) := by omega
  simp only [Instr.buildSlice, Sem.run_bind, run_underlying hu, Result.andThen_ok, hs, if_neg hbig, Sem.run_pure]
  by_cases h0 : l.length * 1 = 0
  · simp only [h0, if_true, Sem.run_pure, Result.andThen_ok]
    have := hf (Array.map (fun x => (#[] : Array Value)[x % (#[] : Array Value).size]!) (Array.range 0)) (by simp; omega)
    have hp : (pure #[] : Sem (Array Value)).run P w = .ok #[] w := rfl
    simp only [Sem.run_bind, hp, Result.andThen_ok]
    rw [this]
    simp only [newRow, Sem.run_bind]
    rfl
  · simp only [h0, if_false, Sem.run_bind, hz1, Result.andThen_ok, Sem.run_pure]
    have := hf (Array.map (fun x => z0.cells[x % z0.cells.size]!) (Array.range (l.length * 1))) (by simp)
    simp only [this, newRow, Sem.run_bind]
    rfl
/-- A slice's literal: an owned slice. -/
theorem RT.bs {e bb k : Nat} {z0 : Value} {parts : List (Nat × Operand)} {l : List Value} (hl : rowL E 0 parts = some l) (hk : l.length = k) (ht : al T.slcs t = some (e, 1, bb)) (hz : al T.zers e = some z0) (hlen : Nat.ble k 16777216 = true) (hw : wt l0 E g = some true) (hd : Nat.blt d n = true)
    (kt : ∀ a c, k ≤ c → RT B P n true l0 rest ((d, .slice a k c) :: E) (Own a c e 1 k l :: H) Q) : RT B P n true l0 (⟨some d, .buildSlice t k parts.toArray, ty, pos, af, g⟩ :: rest) E H Q :=
  RT.eff hw fun o aa w K ho _ hdd hA hS hK => by
    subst hk
    have hle : l.length ≤ 16777216 := by simpa [Nat.ble_eq] using hlen
    obtain ⟨e1, _, e3⟩ := rowL_spec hA parts 0 l hl
    have hrun := run_bs (P := P) (w := w) (vs := parts.map fun (i, x) => (i, aa.eval x)) (l := l) (T.slc ht) (T.zer hz) rfl hle (fun cells hc => by
      rw [e3 cells (by omega)]
      simp only [List.take_zero, List.nil_append, Nat.zero_add]
      rw [List.drop_eq_nil_of_le (by simp; omega), List.append_nil])
    unfold Oper.wp execOp
    have hm : (parts.toArray.map fun (i, x) => (i, aa.eval x)) = (parts.map fun (i, x) => (i, aa.eval x)).toArray := by simp
    simp only [ho, Sem.run_bind]
    rw [hm, hrun]
    simp only [Result.andThen_ok, Sem.run_pure, Oper.upon, hdd]
    refine hK _ _ (kt _ _ (Nat.le_refl _) _ _ (hA.put (by simpa [Nat.blt_eq] using hd) _) (hS.new rfl rfl rfl rfl fun h _ hb => ?_))
    exact ⟨by simp, Nat.le_refl _, by unfold maxLen; omega, .inr ⟨_, _, rfl, hb, by simp, by simp⟩⟩
theorem RT.build {parts : List (Nat × Operand)} {pl : List (Nat × Nat)} {cells l : List Value} (hz : al T.zers t = some (.agg cells.toArray)) (hp : al T.plcs t = some pl) (hl : buildL E pl parts cells = some l) (hw : wt l0 E g = some true) (hd : Nat.blt d n = true)
    (k : RT B P n m l0 rest ((d, .agg l.toArray) :: E) H Q) : RT B P n m l0 (⟨some d, .build t parts.toArray, ty, pos, af, g⟩ :: rest) E H Q :=
  RT.y hw (by simpa [Nat.blt_eq] using hd) (y_build T hz hp hl) k

/-! ### a slice against nil -/
theorem knd_slice {t : Nat} (h : knd P t = some 4) : ∃ e, P.underlying t = some (.slice e) := by
  unfold knd at h
  split at h
  · split at h <;> simp at h
  all_goals first | (rename_i e hu; exact ⟨e, hu⟩) | (simp at h; done) | cases h
theorem run_snil {w : World} {t e : TypeId} (hu : P.underlying t = some (.slice e)) (a : Option Addr) (k c : Nat) : (Op.equal t (.slice a k c) (.slice none 0 0)).run P w = .ok a.isNone w :=
  run_eqv fun d => by
    cases a <;> (simp only [Op.equalIn, Sem.run_bind, run_underlying hu, Result.andThen_ok]; rfl)
theorem y_snil {t' : TypeId} {a : Option Addr} {k c : Nat} (ht : al T.kinds t = some 4) (hx : ev E x = some (.slice a k c)) (hy : ev E y = some (.slice none 0 0)) :
    Yld B P n E H (.binOp .eql t x y t') ty (.bool a.isNone) :=
  y_run fun o aa w ho _ hA _ => by
    obtain ⟨e, hu⟩ := knd_slice (T.kind ht)
    have h1 : binOp .eql t (.slice a k c) (.slice none 0 0) = (do pure (.bool (← Op.equal t (.slice a k c) (.slice none 0 0)))) := rfl
    have h2 : eqGuard .eql t x y (.slice a k c) (.slice none 0 0) = pure () := rfl
    unfold execOp
    simp only [ho, hA.ev hx, hA.ev hy, h1, h2, Sem.run_bind, Sem.run_pure, Result.andThen_ok, run_snil hu]
theorem RT.snil {t' : TypeId} {a : Option Addr} {k c : Nat} (hx : ev E x = some (.slice a k c)) (hy : ev E y = some (.slice none 0 0)) (ht : al T.kinds t = some 4) (hw : wt l0 E g = some true) (hd : Nat.blt d n = true)
    (k1 : a = none → RT B P n m l0 rest ((d, .bool true) :: E) H Q) (k2 : a.isSome = true → RT B P n m l0 rest ((d, .bool false) :: E) H Q) : RT B P n m l0 (⟨some d, .binOp .eql t x y t', ty, pos, af, g⟩ :: rest) E H Q := by
  refine RT.y hw (by simpa [Nat.blt_eq] using hd) (y_snil T ht hx hy) ?_
  cases a with
  | none => exact k1 rfl
  | some ad => exact k2 rfl

/-! ### a store into an owned slice -/
theorem RT.sto {b : Option Addr} {c k e j : Nat} {xs : List Value} {v : Value} {H' : List HP} (hx : ev E x = some (.pointer (some ((adr b).add j)))) (hy : ev E y = some v) (h1 : one1 v = true)
    (hr : Rep H (Own b c e 1 k xs) (Own b c e 1 k (xs.set j v)) H') (hj : j < xs.length) (ht : al T.szs t = some (1, false)) (hw : wt l0 E g = some true)
    (kt : RT B P n true l0 rest E H' Q) : RT B P n true l0 (⟨none, .store t x y, ty, pos, af, g⟩ :: rest) E H Q :=
  RT.eff hw fun o a w K ho _ hd hA hS hK => by
    obtain ⟨R, s1, s2⟩ := hr.sel
    obtain ⟨hl, hkc, hcm⟩ := Own.facts hS s1
    rcases Own.to_row hS s1 with ⟨_, _, _, rfl⟩ | ⟨gb, cur, rfl, hg, hbg, hcs, htk⟩
    · simp at hj
    · have hcur : cur = cur.toList.toArray := by simp
      have hg' : w.heap[gb]? = some (.cells cur.toList.toArray e (0, 0)) := by rw [← hcur]; exact hg
      have hjc : j < cur.toList.length := by
        rw [← htk] at hj
        have := List.length_take_le (k * 1) cur.toList
        rw [List.length_take] at hj
        omega
      have hs1 := run_store1 (P := P) h1 hg' hjc
      unfold Oper.wp execOp
      have hsz := (T.sz ht).1
      simp only [ho, hA.ev hx, hA.ev hy, Instr.storeAt, Instr.sureAddr, Sem.run_bind, Sem.run_pure, Result.andThen_ok, storeVar, run_sizeB hsz, one1_cells h1]
      simp only [List.size_toArray, List.length_cons, List.length_nil, Nat.zero_add, ne_eq, not_true, if_false, Sem.run_pure, Result.andThen_ok, storeCells, addr_add0, adr, Option.getD_some, addr_add, hs1, Sem.run_bind]
      simp only [Oper.upon, hd, Act.put]
      refine hK _ _ (kt _ _ hA ?_)
      refine hS.upd (b := gb) (o' := .cells (cur.toList.set j v).toArray e (0, 0)) hr (fun h hh => ?_) (fun h h' hh hne hb => ?_) rfl rfl rfl (setCell_size _ _ _) (setCell_heap hg') (fun z hz => setCell_ne _ _ _ _ hz)
      · obtain ⟨_, _, _, hp⟩ := hh
        rcases hp with ⟨h, _⟩ | ⟨g', cur', h, hgg, _⟩
        · cases h
        · cases h; exact ⟨_, hgg⟩
      · refine ⟨by simp [hl], hkc, hcm, .inr ⟨gb, _, rfl, hb, by simpa using hcs, ?_⟩⟩
        simp only
        rw [List.take_set, htk]
/-! ### division, a byte of a text -/
theorem RT.quo {t' : TypeId} {k : IntKind} {i j r : Int} (hx : ev E x = some (.int k i)) (hy : ev E y = some (.int k j)) (h0 : j ≠ 0) (hr : k.wrap (i.tdiv j) = r) (hw : wt l0 E g = some true) (hd : Nat.blt d n = true)
    (kt : RT B P n m l0 rest ((d, .int k r) :: E) H Q) : RT B P n m l0 (⟨some d, .binOp .quo t x y t', ty, pos, af, g⟩ :: rest) E H Q :=
  RT.y hw (by simpa [Nat.blt_eq] using hd) (y_quo hx hy h0 hr) kt
theorem RT.rem {t' : TypeId} {k : IntKind} {i j r : Int} (hx : ev E x = some (.int k i)) (hy : ev E y = some (.int k j)) (h0 : j ≠ 0) (hr : i.tmod j = r) (hw : wt l0 E g = some true) (hd : Nat.blt d n = true)
    (kt : RT B P n m l0 rest ((d, .int k r) :: E) H Q) : RT B P n m l0 (⟨some d, .binOp .rem t x y t', ty, pos, af, g⟩ :: rest) E H Q :=
  RT.y hw (by simpa [Nat.blt_eq] using hd) (y_rem hx hy h0 hr) kt
theorem RT.shr {t' : TypeId} {k k' : IntKind} {i j r : Int} (hx : ev E x = some (.int k i)) (hy : ev E y = some (.int k' j)) (h0 : 0 ≤ j) (hr : i.fdiv (2 ^ (min j.toNat k.bits)) = r) (hw : wt l0 E g = some true) (hd : Nat.blt d n = true)
    (kt : RT B P n m l0 rest ((d, .int k r) :: E) H Q) : RT B P n m l0 (⟨some d, .binOp .shr t x y t', ty, pos, af, g⟩ :: rest) E H Q :=
  RT.y hw (by simpa [Nat.blt_eq] using hd) (y_shr hx hy h0 hr) kt
theorem RT.neg {ty' : TypeId} {k : IntKind} {i r : Int} (hx : ev E x = some (.int k i)) (hr : k.wrap (0 - i) = r) (hw : wt l0 E g = some true) (hd : Nat.blt d n = true)
    (kt : RT B P n m l0 rest ((d, .int k r) :: E) H Q) : RT B P n m l0 (⟨some d, .unOp .neg ty' x, ty, pos, af, g⟩ :: rest) E H Q :=
  RT.y hw (by simpa [Nat.blt_eq] using hd) (y_neg hx hr) kt
theorem y_ixs {s : ByteArray} {k : IntKind} {i : Int} {b : UInt8} (ht : al T.kinds t = some 2) (hx : ev E x = some (.string s)) (hy : ev E y = some (.int k i)) (h0 : 0 ≤ i) (hb : s.data.toList[i.toNat]? = some b) :
    Yld B P n E H (.index t x y) ty (.int .u8 b.toNat) :=
  y_run fun o aa w ho _ hA _ => by
    have hu : P.underlying t = some .string := by
      have := T.kind ht
      unfold knd at this
      split at this
      · split at this <;> simp at this
      all_goals first | (rename_i hu; exact hu) | (simp at this; done) | cases this
    have hb' : s[i.toNat]? = some b := by
      have hlt : i.toNat < s.size := by have := (List.getElem?_eq_some_iff.1 hb).1; simpa using this
      have hval : s[i.toNat] = b := by have := (List.getElem?_eq_some_iff.1 hb).2; rw [← this]; rfl
      rw [getElem?_pos s i.toNat hlt, hval]
    unfold execOp
    simp only [ho, hA.ev hx, hA.ev hy, Instr.index, asIntOf, Sem.run_bind, Sem.run_pure, Result.andThen_ok, run_underlying hu, h0, if_true, hb']
end
end Go.Sk
end
section
/- append of one element; facts out of pieces; the pieces put in another order. Plain theorems, no condition. -/
namespace Go.Sk
open Go.RowKit
theorem ints_one (k : IntKind) (l : List Int) : ∀ u ∈ ints k l, u.oneCell' = true := fun u hu => by
  obtain ⟨x, _, rfl⟩ := List.mem_map.1 hu
  rfl
theorem one_one {v : Value} (h : one1 v = true) : v.oneCell' = true := by cases v <;> first | rfl | cases h
theorem ints_push {k : IntKind} {l : List Int} {v : Int} : ints k l ++ [.int k v] = ints k (l ++ [v]) := by simp [ints]
theorem ints_app {k : IntKind} {l l' : List Int} : ints k l ++ ints k l' = ints k (l ++ l') := by simp [ints]
theorem ints_nil {k : IntKind} : ints k [] = [] := rfl
theorem ints_sub {k : IntKind} {l : List Int} {i j : Nat} : ((ints k l).drop (i * 1)).take (j * 1) = ints k ((l.drop i).take j) := by simp [ints]
theorem ints_set {k : IntKind} {l : List Int} {j : Nat} {v : Int} : (ints k l).set j (.int k v) = ints k (l.set j v) := by simp [ints]
section
variable {B : World} {P : Program} {n : Fm} {m : Bool} {l0 rest : List Oper} {E : Env} {H R : List HP} {Q : Exit → Act → World → Prop} (T : Tab P)
variable {d : Nat} {ty : TypeId} {pos : String} {af : Array Edge} {g : Option (Nat × Bool)} {x y : Operand} {t : TypeId} {c : Code}

theorem RT.fact {p : Prop} (hp : ∀ w, Sat B H w → p) (h : p → RT B P n true l0 rest E H Q) : RT B P n true l0 rest E H Q := fun a w hA hS => h (hp w hS) a w hA hS
theorem CT.fact {p : Prop} (hp : ∀ w, Sat B H w → p) (h : p → CT B P n c E H Q) : CT B P n c E H Q := fun a w hA hS => h (hp w hS) a w hA hS
theorem AtQ.fact {p : Prop} {ex : Exit} (hp : ∀ w, Sat B H w → p) (h : p → AtQ B n E H Q ex) : AtQ B n E H Q ex := fun a w hA hS => h (hp w hS) a w hA hS
theorem Sp.fact {p : Prop} {f : FuncId} {vs : List Value} {Pre : List HP} {Post : Value → List HP → Prop} (hp : ∀ w, Sat B (Pre ++ R) w → p) (h : p → Sp B P f vs R Pre Post) : Sp B P f vs R Pre Post := fun w hS => h (hp w hS) w hS
theorem Sp.mono {f : FuncId} {vs : List Value} {Pre : List HP} {Post Post' : Value → List HP → Prop} (h : Sp B P f vs R Pre Post) (hm : ∀ v H', Post v H' → Post' v H') : Sp B P f vs R Pre Post' :=
  fun w hS => (h w hS).mono fun _ _ ⟨v, H', a, b, c⟩ => ⟨v, H', a, hm _ _ b, c⟩
theorem Sat.frb {Ps : List HP} {w : World} (s : Sat B (Ps ++ R) w) (f : Fr H Ps R) : Sat B H w := s.mono f.back
theorem ev_other {E : Env} {d : Nat} {u v : Value} {x : Operand} (hu : u = undef) (h : ev ((d, u) :: E) x = some v) (hv : ∀ l, v ≠ .tuple l) (u' : Value) : ev ((d, u') :: E) x = some v := by
  cases x with
  | tmp t =>
    simp only [ev, lk] at h ⊢
    cases hb : Nat.beq d t with
    | true => rw [hb] at h; simp only [cond_true, Option.some.injEq] at h; subst h; exact absurd hu (hv _)
    | false => rw [hb] at h; simpa using h
  | const w => exact h
  | global q => exact h
  | func q => exact h

/-- append(x, v): one element more. -/
theorem RT.push {d1 : Nat} {ty1 : TypeId} {pos1 : String} {af1 : Array Edge} {e by_ : Nat} {z : Value} {a : Option Addr} {c k : Nat} {xs : List Value} {v : Value} {H' : Option Addr → Nat → List HP}
    (hx : ev ((d1, undef) :: E) x = some (.slice a k c)) (hy : ev E y = some v) (h1 : one1 v = true) (ht : al T.slcs t = some (e, 1, by_))
    (hr : ∀ a' c', Rep H (Own a c e 1 k xs) (Own a' c' e 1 (k + 1) (xs ++ [v])) (H' a' c'))
    (hlen : k + 1 ≤ 140737488355328) (hby : (k + 1) * by_ ≤ 140737488355328) (hz : al T.zers e = some z) (hzs : z.cells.size = 1) (hd1 : Nat.blt d1 n = true) (hd : Nat.blt d n = true)
    (kk : ∀ a' c' b' c1, k + 1 ≤ c' → RT B P n true l0 rest ((d, .slice a' (k + 1) c') :: (d1, .slice b' 1 c1) :: E) (H' a' c') Q) :
    RT B P n true l0 (⟨some d1, .buildSlice t 1 #[(0, y)], ty1, pos1, af1, none⟩ :: ⟨some d, .call { callee := .builtin .append, args := #[x, .tmp d1], argTypes := #[t, t] }, ty, pos, af, none⟩ :: rest) E H Q := by
  refine RT.bs T (parts := [(0, y)]) (l := [v]) (by simp [rowL, hy, h1]) rfl ht hz rfl rfl hd1 (fun b' c1 hc1 => ?_)
  refine RT.app T (xs := xs) (ys := [v]) (H' := fun a' c' => Own b' c1 e 1 1 [v] :: H' a' c') (ev_other rfl hx (fun l => by simp) _) (by simp [ev, lk]) ht (fun a' c' => .t (hr a' c')) (Own.rd (R := H) .h rfl hc1) (fun u hu => by simp at hu; subst hu; exact one_one h1) hlen hby hz hzs rfl hd (fun a' c' hc => ?_)
  exact RT.weak (fun w h => h.tail) (kk a' c' b' c1 hc)
theorem RT.pushI {d1 : Nat} {ty1 : TypeId} {pos1 : String} {af1 : Array Edge} {e by_ : Nat} {z : Value} {a : Option Addr} {c k : Nat} {ki : IntKind} {l : List Int} {v : Int} {H' : Option Addr → Nat → List HP}
    (hx : ev ((d1, undef) :: E) x = some (.slice a k c)) (hy : ev E y = some (.int ki v)) (ht : al T.slcs t = some (e, 1, by_))
    (hr : ∀ a' c', Rep H (Own a c e 1 k (ints ki l)) (Own a' c' e 1 (k + 1) (ints ki (l ++ [v]))) (H' a' c'))
    (hlen : k + 1 ≤ 140737488355328) (hby : (k + 1) * by_ ≤ 140737488355328) (hz : al T.zers e = some z) (hzs : z.cells.size = 1) (hd1 : Nat.blt d1 n = true) (hd : Nat.blt d n = true)
    (kk : ∀ a' c' b' c1, k + 1 ≤ c' → RT B P n true l0 rest ((d, .slice a' (k + 1) c') :: (d1, .slice b' 1 c1) :: E) (H' a' c') Q) :
    RT B P n true l0 (⟨some d1, .buildSlice t 1 #[(0, y)], ty1, pos1, af1, none⟩ :: ⟨some d, .call { callee := .builtin .append, args := #[x, .tmp d1], argTypes := #[t, t] }, ty, pos, af, none⟩ :: rest) E H Q :=
  RT.push T hx hy rfl ht (fun a' c' => by rw [ints_push]; exact hr a' c') hlen hby hz hzs hd1 hd kk
/-- append(x, y...) of integers. -/
theorem RT.appI {e by_ : Nat} {z : Value} {a b : Option Addr} {c k m c2 : Nat} {ki : IntKind} {l l' : List Int} {H' : Option Addr → Nat → List HP}
    (hx : ev E x = some (.slice a k c)) (hy : ev E y = some (.slice b m c2)) (ht : al T.slcs t = some (e, 1, by_)) (hb : Rd B H b m c2 1 (ints ki l')) (hr : ∀ a' c', Rep H (Own a c e 1 k (ints ki l)) (Own a' c' e 1 (k + m) (ints ki (l ++ l'))) (H' a' c'))
    (hlen : k + m ≤ 140737488355328) (hby : (k + m) * by_ ≤ 140737488355328)
    (hz : al T.zers e = some z) (hzs : z.cells.size = 1) (hw : wt l0 E g = some true) (hd : Nat.blt d n = true)
    (kk : ∀ a' c', k + m ≤ c' → RT B P n true l0 rest ((d, .slice a' (k + m) c') :: E) (H' a' c') Q) :
    RT B P n true l0 (⟨some d, .call { callee := .builtin .append, args := #[x, y], argTypes := #[t, t] }, ty, pos, af, g⟩ :: rest) E H Q :=
  RT.app T hx hy ht (fun a' c' => by rw [ints_app]; exact hr a' c') hb (ints_one _ _) hlen hby hz hzs hw hd kk
theorem RT.stoI {b : Option Addr} {c k e j : Nat} {ki : IntKind} {l : List Int} {v : Int} {H' : List HP} (hx : ev E x = some (.pointer (some ((adr b).add j)))) (hy : ev E y = some (.int ki v))
    (hr : Rep H (Own b c e 1 k (ints ki l)) (Own b c e 1 k (ints ki (l.set j v))) H') (hj : j < l.length) (ht : al T.szs t = some (1, false)) (hw : wt l0 E g = some true)
    (kt : RT B P n true l0 rest E H' Q) : RT B P n true l0 (⟨none, .store t x y, ty, pos, af, g⟩ :: rest) E H Q :=
  RT.sto T hx hy rfl (by rw [ints_set]; exact hr) (by rw [ints_len]; exact hj) ht hw kt
theorem Own.rdI {a : Option Addr} {c : Nat} {e : TypeId} {k : Nat} {ki : IntKind} {l : List Int} (hs : Sel H (Own a c e 1 k (ints ki l)) R) (hl : l.length = k) (hc : k ≤ c) : Rd B H a k c 1 (ints ki l) :=
  Own.rd hs (by rw [ints_len, hl]; omega) hc
theorem Own.factsI {a : Option Addr} {c : Nat} {e : TypeId} {k : Nat} {ki : IntKind} {l : List Int} (hs : Sel H (Own a c e 1 k (ints ki l)) R) : ∀ w, Sat B H w → l.length = k ∧ k ≤ c ∧ c ≤ 9223372036854775807 := fun w hS => by
  obtain ⟨h1, h2, h3⟩ := Own.facts hS hs
  rw [ints_len] at h1
  unfold maxLen at h3
  exact ⟨by omega, h2, by omega⟩
theorem Rd.subI {a : Option Addr} {k c i j : Nat} {ki : IntKind} {l : List Int} (h : Rd B H a k c 1 (ints ki l)) (h1 : i ≤ j) (h2 : j ≤ k) : Rd B H (asub a c 1 i) (j - i) (c - i) 1 (ints ki ((l.drop i).take (j - i))) := by
  have := h.sub h1 h2
  rwa [ints_sub] at this
theorem Rd.lenI {a : Option Addr} {k c : Nat} {ki : IntKind} {l : List Int} (h : Rd B H a k c 1 (ints ki l)) : l.length = k := by
  have := h.len
  rw [ints_len] at this
  omega
end
end Go.Sk
namespace Go.Sk
section
variable {B : World} {P : Program} {n : Nat} {E : Env} {H R HH : List HP} {fn : Func} {v v0 v1 u1 v2 u2 : Value} {t t2 : Nat}
/-- The ends of functions whose contract tells the value and the pieces outright. -/
theorem AtQ.f0 (hr : fn.results = #[]) (hs : ∀ w, Sat B H w → Sat B (HH ++ R) w) {ex : Exit} (hex : ex = .normal ∨ ex = .ret) :
    AtQ B (.mk0 n) E H (FinQ B P fn R (fun u H' => u = .tuple #[] ∧ H' = HH)) ex := AtQ.fin0 hr ⟨rfl, rfl⟩ hs ex hex
theorem AtQ.f1 (hr : fn.results = #[.tmp t]) (he : lk E t = some v0) (hv : v0 = v) (hs : ∀ w, Sat B H w → Sat B (HH ++ R) w) :
    AtQ B (.mk0 n) E H (FinQ B P fn R (fun u H' => u = v ∧ H' = HH)) .ret := AtQ.fin1 hr he ⟨hv, rfl⟩ hs
theorem AtQ.f2 (hr : fn.results = #[.tmp t, .tmp t2]) (he : lk E t = some v1) (he2 : lk E t2 = some v2) (hv : v1 = u1) (hv2 : v2 = u2) (hs : ∀ w, Sat B H w → Sat B (HH ++ R) w) :
    AtQ B (.mk0 n) E H (FinQ B P fn R (fun u H' => u = .tuple #[u1, u2] ∧ H' = HH)) .ret := AtQ.fin2 hr he he2 ⟨by rw [hv, hv2], rfl⟩ hs
end
end Go.Sk
namespace Go.Sk
section
variable {B : World} {P : Program} {n : Fm} {m : Bool} {l0 rest : List Oper} {E : Env} {H R : List HP} {Q : Exit → Act → World → Prop} (T : Tab P)
variable {d : Nat} {ty : TypeId} {pos : String} {af : Array Edge} {g : Option (Nat × Bool)} {x y y' : Operand} {t : TypeId}
theorem RT.slhi {e z bb k c j : Nat} {a : Option Addr} {kk : IntKind} {i : Int} (hx : ev E x = some (.slice a k c)) (hy : ev E y = some (.int kk i)) (hi : i = j) (hj : j ≤ c) (ht : al T.slcs t = some (e, z, bb)) (hw : wt l0 E g = some true) (hd : Nat.blt d n = true)
    (kt : RT B P n m l0 rest ((d, .slice (asub a c z 0) j c) :: E) H Q) : RT B P n m l0 (⟨some d, .slice t x none (some y) none, ty, pos, af, g⟩ :: rest) E H Q := by
  subst hi
  exact RT.y hw (by simpa [Nat.blt_eq] using hd) (y_sl_hi T ht hx hy (by omega) (by omega)) kt
theorem RT.sllo {e z bb k c j : Nat} {a : Option Addr} {kk : IntKind} {i : Int} (hx : ev E x = some (.slice a k c)) (hy : ev E y = some (.int kk i)) (hi : i = j) (hj : j ≤ k) (ht : al T.slcs t = some (e, z, bb)) (hw : wt l0 E g = some true) (hd : Nat.blt d n = true)
    (kt : RT B P n m l0 rest ((d, .slice (asub a c z j) (k - j) (c - j)) :: E) H Q) : RT B P n m l0 (⟨some d, .slice t x (some y) none none, ty, pos, af, g⟩ :: rest) E H Q := by
  subst hi
  exact RT.y hw (by simpa [Nat.blt_eq] using hd) (y_sl_lo T ht hx hy (by omega) (by omega)) kt
theorem RT.sllh {e z bb k c j j' : Nat} {a : Option Addr} {kk kk' : IntKind} {i i' : Int} (hx : ev E x = some (.slice a k c)) (hy : ev E y = some (.int kk i)) (hy' : ev E y' = some (.int kk' i')) (hi : i = j) (hi' : i' = j') (hj : j ≤ j') (hj' : j' ≤ c) (ht : al T.slcs t = some (e, z, bb)) (hw : wt l0 E g = some true) (hd : Nat.blt d n = true)
    (kt : RT B P n m l0 rest ((d, .slice (asub a c z j) (j' - j) (c - j)) :: E) H Q) : RT B P n m l0 (⟨some d, .slice t x (some y) (some y') none, ty, pos, af, g⟩ :: rest) E H Q := by
  subst hi hi'
  exact RT.y hw (by simpa [Nat.blt_eq] using hd) (y_sl_lh T ht hx hy hy' (by omega) (by omega) (by omega)) kt
theorem Rd.subI0 {a : Option Addr} {k c j : Nat} {ki : IntKind} {l : List Int} (h : Rd B H a k c 1 (ints ki l)) (h2 : j ≤ k) : Rd B H (asub a c 1 0) j c 1 (ints ki (l.take j)) := by
  have := h.subI (Nat.zero_le j) h2
  simpa using this
end
end Go.Sk
namespace Go.Sk
theorem RT.env {B : World} {P : Program} {n : Fm} {m : Bool} {l0 rest : List Oper} {E E' : Env} {H : List HP} {Q : Exit → Act → World → Prop} (hs : subB E E') (h : RT B P n m l0 rest E' H Q) : RT B P n m l0 rest E H Q := by
  cases m
  · exact fun a hA => h a (hA.sub hs.sub)
  · exact fun a w hA hS => h a w (hA.sub hs.sub) hS
/-- Is it an append of one element? -/
theorem RT.isPush {B : World} {P : Program} {n : Fm} {l0 rest : List Oper} {E : Env} {H : List HP} {Q : Exit → Act → World → Prop} {d d1 : Nat} {t t2 t3 ty ty1 : TypeId} {pos pos1 : String} {af af1 : Array Edge} {x y z : Operand} {k : Nat}
    (h : RT B P n true l0 (⟨some d1, .buildSlice t k #[(0, y)], ty1, pos1, af1, none⟩ :: ⟨some d, .call { callee := .builtin .append, args := #[x, z], argTypes := #[t2, t3] }, ty, pos, af, none⟩ :: rest) E H Q) :
    RT B P n true l0 (⟨some d1, .buildSlice t k #[(0, y)], ty1, pos1, af1, none⟩ :: ⟨some d, .call { callee := .builtin .append, args := #[x, z], argTypes := #[t2, t3] }, ty, pos, af, none⟩ :: rest) E H Q := h
end Go.Sk
end
section
/- Regions whose order is open and which turn the heap: pure operations are taken first, what turns the heap comes in its order. Plain theorems, no condition. -/
namespace Go.Sk
open Go.RowKit

/-- Operations that hand back a value and leave the world alone, or fail. -/
def plainOp : Op → Bool
  | .move _ | .assign _ | .pick .. | .load .. | .binOp .. | .unOp .. | .convert .. | .slice .. | .fieldAddr .. | .field .. | .indexAddr .. | .index .. | .extract .. | .build .. => true
  | .nilCheck _ => true
  | .call c => match c.callee with
    | .builtin .len => true
    | .builtin .cap => true
    | _ => false
  | _ => false
section
variable {P : Program}
theorem v_val {s : Sem Value} {w w' : World} {r : Next} (hr : (do let x ← s; pure (Next.value x) : Sem Next).run P w = .ok r w') : ∃ v, r = .value v := by
  rw [Sem.run_bind] at hr
  cases h : s.run P w with
  | ok x w1 => rw [h] at hr; simp only [Result.andThen_ok, Sem.run_pure] at hr; cases hr; exact ⟨_, rfl⟩
  | halt x w1 => rw [h] at hr; simp [Result.andThen] at hr
theorem plain_val {o : Oper} (h : plainOp o.op = true) {ρ : Operand → Value} {w w' : World} {r : Next} (hr : (execOp ρ o).run P w = .ok r w') : ∃ v, r = .value v := by
  unfold execOp at hr
  cases ho : o.op <;> rw [ho] at h <;> simp only [plainOp] at h <;> try (cases h; done)
  all_goals simp only [ho] at hr
  case move => simp only [Sem.run_pure] at hr; cases hr; exact ⟨_, rfl⟩
  case assign => simp only [Sem.run_pure] at hr; cases hr; exact ⟨_, rfl⟩
  case pick c a b =>
    rw [Sem.run_bind] at hr
    cases h : (asBool (ρ c)).run P w with
    | ok x w1 => rw [h] at hr; simp only [Result.andThen_ok, Sem.run_pure] at hr; cases hr; exact ⟨_, rfl⟩
    | halt x w1 => rw [h] at hr; simp [Result.andThen] at hr
  case nilCheck x =>
    split at hr
    · simp [runtimePanic, Sem.run] at hr
    · simp [runtimePanic, Sem.run] at hr
    · simp [runtimePanic, Sem.run] at hr
    · split at hr
      · simp [runtimePanic, Sem.run] at hr
      · rw [Sem.run_bind] at hr
        revert hr
        generalize Sem.run P _ w = q
        intro hr
        cases q with
        | ok x w1 =>
          simp only [Result.andThen_ok] at hr
          rw [Sem.run_bind] at hr
          revert hr
          generalize Sem.run P _ w1 = q
          intro hr
          cases q with
          | halt x w1 => simp [Result.andThen] at hr
          | ok x w2 =>
          simp only [Result.andThen_ok] at hr
          split at hr
          · simp [unsupported, Sem.run] at hr
          · simp only [Sem.run_pure, Sem.run_bind, Result.andThen_ok] at hr; cases hr; exact ⟨_, rfl⟩
        | halt x w1 => simp [Result.andThen] at hr
      · simp only [Sem.run_pure] at hr; cases hr; exact ⟨_, rfl⟩
    · simp only [Sem.run_pure] at hr; cases hr; exact ⟨_, rfl⟩
  case call c =>
    cases hc : c.callee with
    | builtin b =>
      rw [hc] at h
      cases b <;> simp only at h <;> try (cases h; done)
      all_goals
        simp only [resolve, hc, Sem.run_bind, Sem.run_pure, Result.andThen_ok, invoke, builtin] at hr
        revert hr
        generalize Sem.run P _ w = q
        intro hr
        cases q with
        | ok x w1 => simp only [Result.andThen_ok] at hr; cases hr; exact ⟨_, rfl⟩
        | halt x w1 => simp [Result.andThen] at hr
    | invoke _ _ => rw [hc] at h; cases h
    | value _ => rw [hc] at h; cases h
  all_goals exact v_val hr

/-! ### whichever order is drawn: what must hold of the world as long as some operation has not come up -/
variable {ops : Array Oper} {Q : Exit → Act → World → Prop} {S : Array Bool → World → Prop}
def anyS (P : Program) (ops : Array Oper) (Q : Exit → Act → World → Prop) (S : Array Bool → World → Prop) : Nat → Array Bool → Act → World → Prop
  | 0, ls, a, w => Region.ready .any ops ls = [] ∧ Q .normal a w
  | k + 1, ls, a, w => (Region.ready .any ops ls = [] → Q .normal a w) ∧
    ∀ i ∈ Region.ready .any ops ls, wpOp P ops Q i (fun a' w' => S (ls.setIfInBounds i true) w' ∧ anyS P ops Q S k (ls.setIfInBounds i true) a' w') a w
theorem anyS_any : ∀ (k : Nat) (ls : Array Bool) (a : Act) (w : World), anyS P ops Q S k ls a w → wpAny P .any ops Q k ls a w
  | 0, _, _, _, h => h
  | k + 1, _, _, _, h => ⟨h.1, fun i hi => wpOp_mono (fun a' w' h' => anyS_any k _ a' w' h'.2) (h.2 i hi)⟩
/-- What has come up, all that it waits for has come up. -/
def Clos (ops : Array Oper) (ls : Array Bool) : Prop := ∀ j oj, ops[j]? = some oj → ls.getD j false = true → ∀ e ∈ oj.after, Region.binds .any e = true → ls.getD e.on false = true
theorem Clos.set {ls : Array Bool} {i : Nat} (h : Clos ops ls) (hi : i ∈ Region.ready .any ops ls) : Clos ops (ls.setIfInBounds i true) := by
  obtain ⟨_, oi, hoi, hall⟩ := mem_ready.1 hi
  intro j oj hj hl e he hb
  by_cases hij : i = j
  · subst hij
    rw [hoi] at hj
    cases hj
    exact getD_set_true (hall e he hb)
  · rw [getD_set_ne false hij] at hl
    exact getD_set_true (h j oj hj hl e he hb)
theorem Clos.none_ (k : Nat) : Clos ops (Array.replicate k false) := fun j _ _ hl => by
  rcases Nat.lt_or_ge j k with h | h <;> simp [h] at hl
def closB (ops : Array Oper) (ls : Array Bool) : Bool := (List.range ops.size).all fun j => match ops[j]? with
  | some oj => !ls.getD j false || oj.after.all fun e => !Region.binds .any e || ls.getD e.on false
  | none => true
theorem Clos.ofB {ls : Array Bool} (h : closB ops ls = true) : Clos ops ls := by
  intro j oj hj hl e he hb
  have h1 := List.all_eq_true.1 h j (List.mem_range.2 (Array.getElem?_eq_some_iff.1 hj).1)
  simp only [hj, hl, Bool.not_true, Bool.false_or] at h1
  have h2 := Array.all_eq_true'.1 h1 e he
  simpa [hb] using h2
/-- An operation that may come up and hands back v, come what may ahead of it, is taken first. -/
theorem anyS_first {T : World → Prop} {i : Nat} {oi : Oper} {v : Value} (hi : ops[i]? = some oi) (hsel : Region.noSelect ops = true) (hQ : ∀ c a w, ¬ Q (.panic c) a w)
    (hT : ∀ ls w, Clos ops ls → ls.getD i true = false → S ls w → T w) (hSi : ∀ ls w, S (ls.setIfInBounds i true) w → S ls w) (hSi' : ∀ ls w, S ls w → S (ls.setIfInBounds i true) w) :
    ∀ (k : Nat) (ls : Array Bool) (a : Act) (w : World), Clos ops ls →
      (∀ j oj, ops[j]? = some oj → j ≠ i → ls.getD j true = false → (∀ e ∈ oj.after, Region.binds .any e = true → e.on ≠ i) → oi.apart ops oj = true) →
      i ∈ Region.ready .any ops ls → YieldsIf P ops T oi v a → S ls w → anyS P ops Q S k (ls.setIfInBounds i true) (a.put oi.dst v) w → anyS P ops Q S (k + 1) ls a w := by
  have hno := Region.noSelect_spec hsel
  intro k
  induction k with
  | zero =>
    intro ls a w hc _ hr hy hS h
    refine ⟨fun e => (by rw [e] at hr; cases hr), fun j hj => ?_⟩
    have hji : j = i := by
      by_cases e : j = i
      · exact e
      · have := ready_mono hj e
        rw [h.1] at this
        cases this
    subst hji
    exact hy.wpOp hi (hT _ _ hc (mem_ready.1 hr).1 hS) ⟨hSi' _ _ hS, h⟩
  | succ k ih =>
    intro ls a w hc hfree hr hy hS h
    refine ⟨fun e => (by rw [e] at hr; cases hr), fun j hj => ?_⟩
    by_cases hji : j = i
    · subst hji
      exact hy.wpOp hi (hT _ _ hc (mem_ready.1 hr).1 hS) ⟨hSi' _ _ hS, h⟩
    · obtain ⟨hjun, oj, hoj, hall⟩ := mem_ready.1 hj
      have hiun := (mem_ready.1 hr).1
      have hnot : ∀ e ∈ oj.after, Region.binds .any e = true → e.on ≠ i := fun e he hb heq => by
        have h1 := hall e he hb
        rw [heq] at h1
        rcases Nat.lt_or_ge i ls.size with h' | h'
        · simp [h'] at hiun h1; rw [hiun] at h1; cases h1
        · simp [Array.getElem?_eq_none h'] at h1
      have h2 := wpOp_putIf hoj (hfree j oj hoj hji hjun hnot) (fun cs b => hno i oi cs b hi) (fun cs b => hno j oj cs b hoj) (fun c a w hq => absurd hq (hQ c _ w)) hy (h.2 j (ready_mono hj hji))
      refine wpOp_mono (fun a' w' h3 => ?_) h2
      have hS' : S (ls.setIfInBounds j true) w' := hSi _ _ (by rw [← Array.setIfInBounds_comm _ _ hji] at h3 <;> first | exact h3.2.1 | skip)
      refine ⟨hS', ih (ls.setIfInBounds j true) a' w' (hc.set hj) (fun l ol hol hli hun hno => ?_) (ready_mono hr (Ne.symm hji)) h3.1 hS' ?_⟩
      · refine hfree l ol hol hli ?_ hno
        by_cases hjl : j = l
        · subst hjl; exact hjun
        · rw [getD_set_ne true hjl] at hun; exact hun
      · rw [Array.setIfInBounds_comm _ _ hji]
        exact h3.2.2
/-- Each but the last is waited for by a later one. -/
def sinkB (ops : Array Oper) : List Nat → Bool
  | [] => true
  | i :: L => (L.isEmpty || L.any fun k => Region.waitsFor .any ops k i) && sinkB ops L
theorem sink_all {e : Nat} {ls : Array Bool} (hc : Clos ops ls) (he : ls.getD e false = true) : ∀ (L : List Nat), sinkB ops L = true → L.getLast? = some e → ∀ i ∈ L, ls.getD i false = true
  | [], _, h, _, _ => by cases h
  | [i], _, h, j, hj => by
    simp only [List.getLast?_singleton, Option.some.injEq] at h
    simp only [List.mem_singleton] at hj
    subst hj; subst h; exact he
  | i :: k :: L, hs, h, j, hj => by
    simp only [sinkB, Bool.and_eq_true] at hs
    have ih := sink_all hc he (k :: L) (by simp only [sinkB, Bool.and_eq_true]; exact hs.2) (by rw [List.getLast?_cons_cons] at h; exact h)
    rcases List.mem_cons.1 hj with rfl | hj
    · have h1 := hs.1
      simp only [List.isEmpty_cons, Bool.false_or] at h1
      obtain ⟨y, hy, hw⟩ := List.any_eq_true.1 h1
      obtain ⟨oj, hoj, ed, hed, hb, heq⟩ := Region.waitsFor_spec hw
      have := hc y oj hoj (ih y hy) ed hed hb
      rwa [heq] at this
    · exact ih j hj
def takesB (ops : Array Oper) (e : Nat) : Array Bool → List Nat → Bool
  | _, [] => true
  | ls, i :: L => (Region.ready .any ops ls).contains i && Region.free .any ops ls i && !(i == e) && ((ops[i]?).map fun o => plainOp o.op).getD false && takesB ops e (ls.setIfInBounds i true) L
def opsAt (l : List Oper) : List Nat → List Oper
  | [] => []
  | i :: L => match l[i]? with
    | some o => o :: opsAt l L
    | none => opsAt l L
def tick : Array Bool → List Nat → Array Bool
  | ls, [] => ls
  | ls, i :: L => tick (ls.setIfInBounds i true) L
theorem anyS_takes {B : World} {HR : List HP} {e : Nat} {l : List Oper} (hsel : Region.noSelect l.toArray = true) (hQ : ∀ c a w, ¬ Q (.panic c) a w) {k : Nat} (tl : List Nat) {K : Act → Prop} :
    ∀ (L : List Nat) (ls : Array Bool) (a : Act) (w : World), takesB l.toArray e ls L = true → sinkB l.toArray (L ++ tl) = true → (L ++ tl).getLast? = some e → Clos l.toArray ls →
      wpQuiet P l.toArray (Sat B HR) K (opsAt l L) a → Sat B HR w → (∀ a', K a' → anyS P l.toArray Q (fun ls w => ls.getD e false = false → Sat B HR w) k (tick ls L) a' w) →
      anyS P l.toArray Q (fun ls w => ls.getD e false = false → Sat B HR w) (L.length + k) ls a w
  | [], ls, a, w, _, _, _, _, hq, _, hk => by
    have := hk a hq
    rwa [List.length_nil, Nat.zero_add]
  | i :: L, ls, a, w, ht, hs, hl, hc, hq, hw, hk => by
    have hs' := hs
    simp only [takesB, Bool.and_eq_true, Bool.not_eq_true', beq_eq_false_iff_ne] at ht
    obtain ⟨⟨⟨⟨hr, hf⟩, hie⟩, hpl⟩, ht⟩ := ht
    cases ho : l[i]? with
    | none => simp [ho] at hpl
    | some o =>
      have ho' : l.toArray[i]? = some o := by simpa using ho
      rw [ho'] at hpl
      simp only [Option.map_some, Option.getD_some] at hpl
      have hri : i ∈ Region.ready .any l.toArray ls := by simpa using hr
      simp only [opsAt, ho, wpQuiet] at hq
      have hyk : ∃ v, YieldsIf P l.toArray (Sat B HR) o v a ∧ wpQuiet P l.toArray (Sat B HR) K (opsAt l L) (a.put o.dst v) := by
        split at hq
        · rename_i hwt
          obtain ⟨v, hv, hn⟩ := hq
          refine ⟨v, .inl ⟨hwt, fun w' hw' => ?_⟩, hn⟩
          have h1 := hv w' hw'
          unfold Oper.quietAt at h1
          cases hr1 : (execOp a.eval o).run P w' with
          | halt x w2 => rw [hr1] at h1; exact h1.elim
          | ok x w2 =>
            obtain ⟨u, rfl⟩ := plain_val hpl hr1
            rw [hr1] at h1
            obtain ⟨rfl, rfl⟩ := h1
            rfl
        · rename_i hwt
          exact ⟨undef, .inr ⟨by simpa using hwt, rfl⟩, hq⟩
      obtain ⟨v, hy, hn⟩ := hyk
      have hs2 : sinkB l.toArray (L ++ tl) = true := by
        simp only [List.cons_append, sinkB, Bool.and_eq_true] at hs
        exact hs.2
      have hne : L ++ tl ≠ [] := by
        intro h0
        rw [List.cons_append, h0] at hl
        simp only [List.getLast?_singleton, Option.some.injEq] at hl
        exact hie hl
      have hl2 : (L ++ tl).getLast? = some e := by
        rw [List.cons_append] at hl
        obtain ⟨y, M, hM⟩ := List.exists_cons_of_ne_nil hne
        rw [hM] at hl ⊢
        rwa [List.getLast?_cons_cons] at hl
      rw [List.length_cons, show L.length + 1 + k = (L.length + k) + 1 by omega]
      refine anyS_first (T := Sat B HR) ho' hsel hQ (fun ls' w' hc' hun hS => hS ?_) (fun ls' w' hS he => hS (by rw [getD_set_ne false hie]; exact he)) (fun ls' w' hS he => hS (by rw [getD_set_ne false hie] at he; exact he)) _ ls a w hc
        (Region.free_spec ho' hf) hri hy (fun _ => hw) (anyS_takes hsel hQ tl L _ _ w ht hs2 hl2 (hc.set hri) hn hw hk)
      cases hec : ls'.getD e false with
      | false => rfl
      | true =>
        have h1 := sink_all hc' hec _ hs' hl i (by simp)
        rcases Nat.lt_or_ge i ls'.size with h' | h'
        · simp [h'] at hun h1; rw [hun] at h1; cases h1
        · simp [Array.getElem?_eq_none h'] at h1
end

theorem Sat.ones {B : World} {H Ps R : List HP} {w : World} (f : Fr H Ps R) (s : Sat B H w) : Sat B Ps w := by
  obtain ⟨h, a, hs⟩ := (s.fr f).heap
  obtain ⟨h1, h2, _, l1, _, sA, _⟩ := star_split _ _ h hs
  exact { s with heap := ⟨h1, fun b o e => a b o (l1 b o e), sA⟩ }
section
variable {P : Program} {B : World} {n : Fm} {E : Env} {H HR : List HP} {Q : Exit → Act → World → Prop}
/-- Only the end without a panic. -/
def NoPan (Q : Exit → Act → World → Prop) : Exit → Act → World → Prop := fun ex a w => ex = .normal ∧ Q .normal a w
def SF (B : World) (HR : List HP) (e : Nat) : Array Bool → World → Prop := fun ls w => ls.getD e false = false → Sat B HR w
/-- A region whose order is open, so much of it having come up. HR holds till e has come up. -/
def DT (B : World) (P : Program) (n : Fm) (l : List Oper) (HR : List HP) (e : Nat) (k : Nat) (ls : Array Bool) (E : Env) (H : List HP) (Q : Exit → Act → World → Prop) : Prop :=
  ∀ a w, Agr n E a → Sat B H w → anyS P l.toArray (NoPan Q) (SF B HR e) k ls a w
theorem CT.drawn {id : Nat} {l : List Oper} (HR : List HP) (e : Nat) (hm : P.follows .mixedOrders = true) (h : DT B P n l HR e l.length (Array.replicate l.length false) E H Q) (hro : n.ro = none := by rfl) : CT B P n (.region id l.toArray true) E H Q := by
  intro a w hA hS
  rw [Fm.wide hro]
  refine wpIn_wide.2 ?_
  refine wp_mono (Q := NoPan Q) ?_ (fun ex a w ⟨h1, h2⟩ => by subst h1; exact h2)
  refine wp_region_any hm (anyS_any (S := SF B HR e) _ _ _ _ ?_)
  have := h a { w with drawn := w.drawn + 1 } hA (hS.drawn _)
  simpa using this
/-- What stands behind the operations that were taken first. -/
def TakeQ (B : World) (P : Program) (l : List Oper) (HR H : List HP) (e : Nat) (k : Nat) (ls : Array Bool) (Q : Exit → Act → World → Prop) : Exit → Act → World → Prop := fun ex a _ =>
  match ex with
  | .normal => ∀ w, Sat B H w → anyS P l.toArray (NoPan Q) (SF B HR e) k ls a w
  | _ => False
theorem DT.takes {l : List Oper} {e k : Nat} {ls : Array Bool} (L tl : List Nat) (hm : ∀ w, Sat B H w → Sat B HR w) (hsel : Region.noSelect l.toArray = true) (ht : takesB l.toArray e ls L = true) (hs : sinkB l.toArray (L ++ tl) = true)
    (hl : (L ++ tl).getLast? = some e) (hc : Clos l.toArray ls) (h : RT B P n false l (opsAt l L) E HR (TakeQ B P l HR H e k (tick ls L) Q)) : DT B P n l HR e (L.length + k) ls E H Q := by
  intro a w hA hS
  exact anyS_takes (B := B) (HR := HR) (Q := NoPan Q) hsel (fun c a w hq => by cases hq.1) tl L ls a w ht hs hl hc (h a hA) (hm w hS) (fun a' hk => hk w (hm w hS) w hS)
theorem AtQ.take {l : List Oper} {e k : Nat} {ls : Array Bool} (h : DT B P n l HR e k ls E H Q) : AtQ B n E HR (TakeQ B P l HR H e k ls Q) .normal := fun a _ hA _ w hS => h a w hA hS
/-- What stands behind an operation that turned the heap. -/
def EffQ (B : World) (P : Program) (l : List Oper) (HR : List HP) (e : Nat) (k : Nat) (ls : Array Bool) (Q : Exit → Act → World → Prop) : Exit → Act → World → Prop := fun ex a w =>
  match ex with
  | .normal => SF B HR e ls w ∧ anyS P l.toArray (NoPan Q) (SF B HR e) k ls a w
  | _ => False
theorem wpO_mono {o : Oper} {a : Act} {w : World} {K : Act → World → Prop} {Q Q' : Exit → Act → World → Prop} (hQ : ∀ c a w, Q (.panic c) a w → Q' (.panic c) a w) (hL : LetsOut Q → LetsOut Q') (h : o.wp P a w K Q) : o.wp P a w K Q' := by
  unfold Oper.wp at *
  generalize (execOp a.eval o).run P w = r at *
  cases r with
  | ok x w' =>
    cases x <;> simp only [Oper.upon] at h ⊢ <;> try exact h
    all_goals exact Calls.mono h (fun e w'' he => by
      cases e with
      | returned v => exact he
      | panicked c => exact hQ _ _ _ he
      | outgrown => exact hL he)
  | halt x w' => cases x <;> simp only [Oper.upon] at h ⊢ <;> first | exact h | exact hQ _ _ _ h
theorem DT.eff {l : List Oper} {e k : Nat} {ls : Array Bool} (i : Nat) {o : Oper} (ho : l[i]? = some o) (hr : Region.ready .any l.toArray ls = [i])
    (h : RT B P n true l [o] E H (EffQ B P l HR e k (ls.setIfInBounds i true) Q)) : DT B P n l HR e (k + 1) ls E H Q := by
  intro a w hA hS
  refine ⟨fun h0 => (by rw [hr] at h0; cases h0), fun j hj => ?_⟩
  rw [hr, List.mem_singleton] at hj
  subst hj
  have h1 := h a w hA hS
  have ho' : l.toArray[j]? = some o := by simpa using ho
  unfold wpOp
  simp only [ho']
  unfold wpN at h1
  split at h1
  · rename_i hw
    rw [if_pos hw]
    · exact .inl (wpO_mono (Q := EffQ B P l HR e k (ls.setIfInBounds j true) Q) (fun c a w hq => False.elim hq) (fun ⟨_, _, hq⟩ => False.elim hq) (Oper.wp_mono (fun a w hk => hk) h1))
  · rename_i hw
    rw [if_neg hw]
    exact h1
theorem AtQ.eff {l : List Oper} {e k : Nat} {ls : Array Bool} (hm : ∀ w, Sat B H w → Sat B HR w) (h : DT B P n l HR e k ls E H Q) : AtQ B n E H (EffQ B P l HR e k ls Q) .normal := fun a w hA hS => ⟨fun _ => hm w hS, h a w hA hS⟩
theorem AtQ.eff' {l : List Oper} {e k : Nat} {ls : Array Bool} (he : ls.getD e false = true) (h : DT B P n l HR e k ls E H Q) : AtQ B n E H (EffQ B P l HR e k ls Q) .normal := fun a w hA hS => ⟨fun h0 => (by rw [he] at h0; cases h0), h a w hA hS⟩
theorem DT.done {l : List Oper} {e k : Nat} {ls : Array Bool} (hr : Region.ready .any l.toArray ls = []) (h : AtQ B n E H Q .normal) : DT B P n l HR e k ls E H Q := by
  intro a w hA hS
  cases k with
  | zero => exact ⟨hr, rfl, h a w hA hS⟩
  | succ k => exact ⟨fun _ => ⟨rfl, h a w hA hS⟩, fun i hi => by rw [hr] at hi; cases hi⟩
end
end Go.Sk
end
section
/- The rules for copy, for an append of zeros into a new row, and for two slices that lie apart. Plain theorems, no condition. -/
namespace Go.Sk
open Go.RowKit
theorem setCells_row {g : Nat} {e : TypeId} : ∀ (vs : List Value) (o : Nat) (w : World) (l : List Value), w.heap[g]? = some (.cells l.toArray e (0, 0)) → o + vs.length ≤ l.length →
    (w.setCells g o vs).heap[g]? = some (.cells (l.take o ++ vs ++ l.drop (o + vs.length)).toArray e (0, 0))
  | [], o, w, l, h, _ => by simpa [World.setCells] using h
  | v :: vs, o, w, l, h, hl => by
    simp only [List.length_cons] at hl
    rw [World.setCells, setCells_row vs (o + 1) _ (l.set o v) (setCell_heap h) (by simp; omega)]
    congr 3
    have h1 : (l.set o v).take (o + 1) = l.take o ++ [v] := by
      rw [List.take_add_one, List.take_set_of_le (Nat.le_refl _), List.getElem?_set]
      simp [show o < l.length by omega]
    have h2 : (l.set o v).drop (o + 1 + vs.length) = l.drop (o + (vs.length + 1)) := by
      rw [List.drop_set_of_lt (by omega), show o + 1 + vs.length = o + (vs.length + 1) by omega]
    rw [h1, h2]
    simp
theorem setCells_rest {g : Nat} : ∀ (vs : List Value) (o : Nat) (w : World), (w.setCells g o vs).os = w.os ∧ (w.setCells g o vs).output = w.output ∧ (w.setCells g o vs).tape = w.tape ∧ (w.setCells g o vs).heap.size = w.heap.size ∧ ∀ x, x ≠ g → (w.setCells g o vs).heap[x]? = w.heap[x]?
  | [], _, _ => ⟨rfl, rfl, rfl, rfl, fun _ _ => rfl⟩
  | v :: vs, o, w => by
    obtain ⟨a, b, c, d, e⟩ := setCells_rest vs (o + 1) (w.setCell ⟨g, o, none⟩ v)
    rw [World.setCells]
    exact ⟨a, b, c, d.trans (setCell_size _ _ _), fun x hx => (e x hx).trans (setCell_ne _ _ _ _ hx)⟩
section
variable {B : World} {P : Program} {n : Fm} {m : Bool} {l0 rest : List Oper} {E : Env} {H R : List HP} {Q : Exit → Act → World → Prop} (T : Tab P)
variable {d : Nat} {ty : TypeId} {pos : String} {af : Array Edge} {g : Option (Nat × Bool)} {x y : Operand} {t : TypeId} {c : Code}
theorem cell_row {w : World} {gb j : Nat} {e : TypeId} {l : List Value} (h : w.heap[gb]? = some (.cells l.toArray e (0, 0))) : w.cell? ⟨gb, j, none⟩ = l[j]? := by
  rw [cell_of_row w gb j l.toArray e (0, 0) h]; simp
theorem frozen_row {w : World} {gb j : Nat} {e : TypeId} {l : Array Value} (h : w.heap[gb]? = some (.cells l e (0, 0))) : w.frozen? ⟨gb, j, none⟩ = false := by
  unfold World.frozen?; simp [h]
/-- copy(x, y): y's cells are laid over a part of an owned row. -/
theorem RT.copy {b bS : Option Addr} {c k e by_ i kd cd m2 c2 r : Nat} {xs ys : List Value} {H' : List HP}
    (hx : ev E x = some (.slice (asub b c 1 i) kd cd)) (hy : ev E y = some (.slice bS m2 c2)) (hr : Rep H (Own b c e 1 k xs) (Own b c e 1 k (xs.take i ++ ys.take r ++ xs.drop (i + r))) H')
    (hrr : r = min m2 kd) (h0 : 0 < r) (hik : i + kd ≤ k) (hs : Rd B H bS m2 c2 1 ys) (hone : ∀ v ∈ ys.take r, v.oneCell' = true) (ht : al T.slcs t = some (e, 1, by_)) (hw : wt l0 E g = some true) (hd : Nat.blt d n = true)
    (kk : RT B P n true l0 rest ((d, .int .i64 r) :: E) H' Q) :
    RT B P n true l0 (⟨some d, .call { callee := .builtin .copy, args := #[x, y], argTypes := #[t, t] }, ty, pos, af, g⟩ :: rest) E H Q :=
  RT.eff hw fun o a w K ho hty hdd hA hS hK => by
    obtain ⟨R, s1, s2⟩ := hr.sel
    obtain ⟨hl, hkc, hcm⟩ := Own.facts hS s1
    obtain ⟨ad, rfl, hcells⟩ := hs.cells hS (by omega)
    have hyl := hs.1
    rcases Own.to_row hS s1 with ⟨_, _, rfl, _⟩ | ⟨gb, cur, rfl, hg, hbg, hcs, htk⟩
    · omega
    · have hsub : asub (some (⟨gb, 0, none⟩ : Addr)) c 1 i = some ⟨gb, i, none⟩ := by
        unfold asub
        rw [if_neg (by omega)]
        simp [addr_add]
      rw [hsub] at hx
      obtain ⟨hu, inf, hi, hisz, _⟩ := slcB_spec (T.slc ht)
      have hcur : cur = cur.toList.toArray := by simp
      have hg' : w.heap[gb]? = some (.cells cur.toList.toArray e (0, 0)) := by rw [← hcur]; exact hg
      have hcl : cur.toList.length = c := by rw [Array.length_toList, hcs]; omega
      have htl : (ys.take r).length = r := by rw [List.length_take, hyl]; omega
      have hrun := run_copy_cells (P := P) w t t ty e gb i kd cd ad m2 c2 (ys.take r) hu (by rw [hi]; simp [hisz]) (by rw [htl, hrr])
        (fun j v hj => hcells j v (by
          have := (List.getElem?_eq_some_iff.1 hj).1
          rw [htl] at this
          rwa [List.getElem?_take_of_lt this] at hj))
        (fun j hj => by rw [htl] at hj; rw [cell_row hg', List.getElem?_eq_getElem (by omega)]; rfl) (fun j _ => frozen_row hg) hone
      unfold Oper.wp execOp
      simp only [ho, hty, resolve, invoke, builtin, Sem.run_bind, Sem.run_pure, Result.andThen_ok, List.map_toArray, List.map_cons, List.map_nil, hA.ev hx, hA.ev hy, hrun]
      simp only [Oper.upon, hdd, htl]
      obtain ⟨q1, q2, q3, q4, q5⟩ := setCells_rest (g := gb) (ys.take r) i w
      refine hK _ _ (kk _ _ (hA.put (by simpa [Nat.blt_eq] using hd) _) ?_)
      refine hS.upd (b := gb) hr (fun h hh => ?_) (fun h h' hh hne hb => ?_) q1 q2 q3 q4 (setCells_row (ys.take r) i w cur.toList hg' (by omega)) q5
      · obtain ⟨_, _, _, hp⟩ := hh
        rcases hp with ⟨h, _⟩ | ⟨g', cur', h, hgg, _⟩
        · cases h
        · cases h; exact ⟨_, hgg⟩
      · refine ⟨?_, hkc, hcm, .inr ⟨gb, _, rfl, hb, ?_, ?_⟩⟩
        · simp only [List.length_append, List.length_take, List.length_drop, hl, hyl]; omega
        · simp only [List.size_toArray, List.length_append, List.length_take, List.length_drop, hcl, hyl]; omega
        · rw [htl]
          simp only
          rw [← htk]
          simp only [Nat.mul_one, List.append_assoc]
          rw [List.take_append, List.take_append, List.take_take, List.length_take, hcl, htl, List.take_take, List.drop_take, List.take_take, show min k i = i by omega, show min i c = i by omega, show min i k = i by omega, show min (k - i) r = r by omega, show k - i - r = k - (i + r) by omega]
/-- More of an owned row is looked at. -/
theorem Sat.ownMore {a : Option Addr} {c k k' : Nat} {e : TypeId} {xs : List Value} {w : World} {H' : List Value → List HP} (hS : Sat B H w) (hk : k ≤ k') (hk' : k' ≤ c)
    (hr : ∀ ys, Rep H (Own a c e 1 k xs) (Own a c e 1 k' (xs ++ ys)) (H' ys)) : ∃ ys, ys.length = k' - k ∧ Sat B (H' ys) w := by
  obtain ⟨R, s1, _⟩ := (hr []).sel
  obtain ⟨hl, hkc, hcm⟩ := Own.facts hS s1
  rcases Own.to_row hS s1 with ⟨rfl, rfl, rfl, rfl⟩ | ⟨gb, cur, rfl, hg, hbg, hcs, htk⟩
  · refine ⟨[], by simp; omega, hS.mono fun h hh => ?_⟩
    obtain ⟨R2, q1, q2⟩ := (hr []).sel
    refine q2.of _ (star_head_mono (fun h hp => ?_) (q1.to _ hh))
    have : k' = 0 := by omega
    subst this
    simpa using hp
  · have hcl : cur.toList.length = c := by rw [Array.length_toList, hcs]; omega
    refine ⟨(cur.toList.drop k).take (k' - k), by simp [hcl]; omega, ?_⟩
    obtain ⟨R2, q1, q2⟩ := (hr ((cur.toList.drop k).take (k' - k))).sel
    obtain ⟨h, ha, h1, h2, dj, l1, l2, hp, hrr⟩ := (hS.sel q1).heap
    refine Sat.unsel q2 { hS with heap := ⟨h, ha, h1, h2, dj, l1, l2, ?_, hrr⟩ }
    obtain ⟨p1, p2, p3, p4⟩ := hp
    rcases p4 with ⟨h, _⟩ | ⟨g', cur', he, hgg, hcs', htk'⟩
    · cases h
    · cases he
      have hsame : cur' = cur := by
        have := (ha gb _ (l1 gb _ hgg)).1
        rw [hg] at this
        cases this
        rfl
      subst hsame
      refine ⟨by simp [hl, hcl]; omega, hk', p3, .inr ⟨gb, cur', rfl, hgg, hcs', ?_⟩⟩
      rw [← htk', Nat.mul_one, Nat.mul_one, ← List.take_add, show k + (k' - k) = k' by omega]
theorem Own.less {a : Option Addr} {c k k' : Nat} {e : TypeId} {xs : List Value} {h : PH} (hp : Own a c e 1 k xs h) (hk : k' ≤ k) : Own a c e 1 k' (xs.take k') h := by
  obtain ⟨p1, p2, p3, p4⟩ := hp
  refine ⟨by rw [List.length_take, p1]; omega, by omega, p3, ?_⟩
  rcases p4 with ⟨h1, h2⟩ | ⟨g, cur, h1, h2, h3, h4⟩
  · exact .inl ⟨h1, h2⟩
  · refine .inr ⟨g, cur, h1, h2, h3, ?_⟩
    rw [← h4, List.take_take]
    congr 1
    omega
theorem Sat.ownLess {a : Option Addr} {c k k' : Nat} {e : TypeId} {xs : List Value} {w : World} {H' : List HP} (hS : Sat B H w) (hk : k' ≤ k) (hr : Rep H (Own a c e 1 k xs) (Own a c e 1 k' (xs.take k')) H') : Sat B H' w := by
  obtain ⟨R, s1, s2⟩ := hr.sel
  exact Sat.unsel s2 ((hS.sel s1).mono fun h hh => star_head_mono (fun h hp => Own.less hp hk) hh)
theorem RT.get {α : Type} {p : α → Prop} {f : α → List HP} (hm : ∀ w, Sat B H w → ∃ z, p z ∧ Sat B (f z) w) (h : ∀ z, p z → RT B P n true l0 rest E (f z) Q) : RT B P n true l0 rest E H Q := fun a w hA hS =>
  let ⟨z, hz, hs⟩ := hm w hS
  h z hz a w hA hs
theorem CT.get {α : Type} {p : α → Prop} {f : α → List HP} (hm : ∀ w, Sat B H w → ∃ z, p z ∧ Sat B (f z) w) (h : ∀ z, p z → CT B P n c E (f z) Q) : CT B P n c E H Q := fun a w hA hS =>
  let ⟨z, hz, hs⟩ := hm w hS
  h z hz a w hA hs
/-- append(x, make(..)...) where x has no room: a new row. -/
theorem RT.appz {a : Option Addr} {c k e by_ j : Nat} {tn : TypeId} {kk kn : IntKind} {z : Value} {xs : List Value} {i : Int}
    (hx : ev E x = some (.slice a k c)) (hy : ev E y = some (.int kk i)) (hi : i = j) (hj : 0 < j) (hg : c < k + j) (ht : al T.slcs t = some (e, 1, by_)) (htn : al T.ints tn = some kn) (hR : Rd B H a k c 1 xs)
    (hlen : k + j ≤ 140737488355328) (hby : (k + j) * by_ ≤ 140737488355328) (hz : al T.zers e = some z) (hzs : z.cells.size = 1) (hw : wt l0 E g = some true) (hd : Nat.blt d n = true)
    (kt : ∀ a' c' zs, zs.length = j → k + j ≤ c' → RT B P n true l0 rest ((d, .slice a' (k + j) c') :: E) (Own a' c' e 1 (k + j) (xs ++ zs) :: H) Q) :
    RT B P n true l0 (⟨some d, .call { callee := .builtin .append, args := #[x, y], argTypes := #[t, tn] }, ty, pos, af, g⟩ :: rest) E H Q :=
  RT.eff hw fun o aa w K ho hty hdd hA hS hK => by
    subst hi
    obtain ⟨hu, inf, hi, hisz, hiby⟩ := slcB_spec (T.slc ht)
    have hzi : inf.zero = some z := by have := T.zer hz; simpa [zerB, hi] using this
    have hun : P.underlying tn = some (.int kn) := by
      have := T.int htn
      unfold intB at this
      split at this
      · rename_i h; cases this; exact h
      · cases this
    have hxl := hR.1
    have hold : (Builtin.firstCells inf.size k (.slice a k c)).run P w.drew = .ok xs.toArray w.drew := by
      rw [hisz]
      rcases Nat.eq_zero_or_pos k with hk | hk
      · subst hk
        have : xs = [] := List.eq_nil_of_length_eq_zero (by simpa using hxl)
        subst this
        cases a <;> simp [Builtin.firstCells, loadCells, loadCellsFrom]
      · obtain ⟨ad, rfl, hc⟩ := hR.cells hS hk
        exact run_firstCells_some w.drew 1 k ad k c xs (by omega) (fun j v hj => hc j v hj)
    have hrun := Go.Lib.run_append_grow_zeros (P := P) w t tn ty e inf z kk kn hu hun hi hzi a k c xs hold j hj (by omega) hg (by omega) (by rw [hiby]; have := Nat.mul_le_mul_right by_ (Nat.le_add_left j k); omega) (by rw [hiby]; exact growslice_fits hg hby)
    unfold Oper.wp execOp
    simp only [ho, hty, resolve, invoke, builtin, Sem.run_bind, Sem.run_pure, Result.andThen_ok, List.map_toArray, List.map_cons, List.map_nil, hA.ev hx, hA.ev hy, hrun]
    simp only [Oper.upon, hdd]
    have hge := grownCap_ge w (k + j) c e
    have hcm := grownCap_le_maxLen w (k + j) c e (by unfold maxLen; omega)
    have hzl : (Builtin.zeroCells z.cells j).toList.length = j := by rw [Array.length_toList, size_zeroCells, hzs]; omega
    refine hK _ _ (kt _ _ (Builtin.zeroCells z.cells j).toList hzl hge _ _ (hA.put (by simpa [Nat.blt_eq] using hd) _) ?_)
    refine Sat.new (w := w) hS rfl rfl rfl rfl fun h _ hb => ⟨by rw [List.length_append, hxl, hzl]; omega, hge, hcm, .inr ⟨_, _, rfl, hb, ?_, ?_⟩⟩
    · simp only [Array.size_append, List.size_toArray, size_zeroCells, hzs, hxl]; omega
    · simp only [Array.toList_append]
      have : (xs ++ (Builtin.zeroCells z.cells j).toList).length = (k + j) * 1 := by rw [List.length_append, hxl, hzl]; omega
      rw [← this]
      exact List.take_left
theorem exec_ext {f : FuncId} {w : World} {xs : List Operand} {vs : List Value} {ats : Array TypeId} {o : Oper} {aa : Act} {v : Value}
    (ho : o.op = .call { callee := .value (.func f), args := xs.toArray, argTypes := ats }) (hA : Agr n E aa) (hv : evs E xs = some vs) (hf : (callFunc f vs.toArray).run P w = .ok (.value v) w) : (execOp aa.eval o).run P w = .ok (.value v) w := by
  unfold execOp
  have hm : xs.map aa.eval = vs := hA.evs hv
  simp only [ho, resolve, Sem.run_bind, List.map_toArray, hm, Act.eval, Deferred.ofValue, Sem.run_pure, Result.andThen_ok, invoke]
  simpa using hf
/-- Two owned rows that have cells lie apart. -/
theorem Own.apart {R2 : List HP} {a1 a2 : Option Addr} {c1 c2 e1 e2 z1 z2 k1 k2 : Nat} {xs1 xs2 : List Value} {w : World} (hS : Sat B H w) (s1 : Sel H (Own a1 c1 e1 z1 k1 xs1) R) (s2 : Sel R (Own a2 c2 e2 z2 k2 xs2) R2) (h1 : 0 < k1) (h2 : 0 < k2) :
    ∃ g1 g2 cur1 cur2, g1 ≠ g2 ∧ a1 = some ⟨g1, 0, none⟩ ∧ a2 = some ⟨g2, 0, none⟩ ∧ w.heap[g1]? = some (.cells cur1 e1 (0, 0)) ∧ w.heap[g2]? = some (.cells cur2 e2 (0, 0)) ∧ cur1.size = c1 * z1 ∧ cur2.size = c2 * z2 := by
  obtain ⟨h, ha, p1, p2, dj, l1, l2, hp, hr⟩ := (hS.sel s1).heap
  obtain ⟨q1, q2, dj2, m1, m2, hq, hr2⟩ := s2.to _ hr
  obtain ⟨_, hk1, _, hp⟩ := hp
  obtain ⟨_, hk2, _, hq⟩ := hq
  rcases hp with ⟨_, rfl⟩ | ⟨g1, cur1, rfl, hg1, hc1, _⟩
  · omega
  · rcases hq with ⟨_, rfl⟩ | ⟨g2, cur2, rfl, hg2, hc2, _⟩
    · omega
    · refine ⟨g1, g2, cur1, cur2, fun he => ?_, rfl, rfl, (ha _ _ (l1 _ _ hg1)).1, (ha _ _ (l2 _ _ (m1 _ _ hg2))).1, hc1, hc2⟩
      subst he
      rcases dj g1 with hn | hn
      · rw [hg1] at hn; cases hn
      · rw [m1 _ _ hg2] at hn; cases hn
theorem RT.over {f : FuncId} {fn : Func} {tR ts e e1 by_ : Nat} {R2 : List HP} {a1 a2 : Option Addr} {c1 c2 k1 k2 i lb cb : Nat} {xs1 xs2 : List Value}
    (hx : ev E x = some (.slice a1 k1 c1)) (hy : ev E y = some (.slice (asub a2 c2 1 i) lb cb)) (s1 : Sel H (Own a1 c1 e1 1 k1 xs1) R) (s2 : Sel R (Own a2 c2 e 1 k2 xs2) R2) (h1 : 0 < k1) (h2 : 0 < k2) (hi : i ≠ c2)
    (hf : P.funcs[f]? = some fn) (hname : (fn.name == "runtime.NumGoroutine") = false) (hb : fn.body.isNone = true) (hn : Extern.findNext fn = none) (he : Extern.find fn = some (Extern.SlicesOverlaps.overlaps #[ts, ts] #[tR]))
    (ht : al T.slcs ts = some (e, 1, by_)) (hz : al T.szs e = some (1, false)) (hw : wt l0 E g = some true) (hd : Nat.blt d n = true) {ats : Array TypeId} (kk : RT B P n m l0 rest ((d, .bool false) :: E) H Q) :
    RT B P n m l0 (⟨some d, .call { callee := .value (.func f), args := #[x, y], argTypes := ats }, ty, pos, af, g⟩ :: rest) E H Q := by
  refine RT.y hw (by simpa [Nat.blt_eq] using hd) (y_run fun o aa w ho _ hA hS => ?_) kk
  refine exec_ext (xs := [x, y]) (vs := [.slice a1 k1 c1, .slice (asub a2 c2 1 i) lb cb]) ho hA (by simp [evs, hx, hy]) ?_
  obtain ⟨g1, g2, cur1, cur2, hne, rfl, rfl, hg1, hg2, hc1, hc2⟩ := Own.apart hS s1 s2 h1 h2
  obtain ⟨_, hk2, _⟩ := Own.facts (hS.sel s1).tail s2
  have hsub : asub (some (⟨g2, 0, none⟩ : Addr)) c2 1 i = some ⟨g2, i, none⟩ := by
    unfold asub
    rw [if_neg (fun h => hi h.symm)]
    simp [addr_add]
  rw [hsub, run_callFunc_extern hf hname hb hn he]
  have := Go.Lib.run_overlaps_apart (P := P) w ts tR e (slcB_spec (T.slc ht)).1 1 (fun w => run_sizeB (T.sz hz).1) ⟨g1, 0, none⟩ ⟨g2, i, none⟩ k1 c1 lb cb hne e1 e cur1.size cur2.size (by simp [World.shape?, hg1]) (by simp [World.shape?, hg2]) (by omega) (frozen_row hg1) (frozen_row hg1)
  rw [this]
  rfl
end
end Go.Sk
end
section
/- The ends of functions of three and of four results. Plain theorems, no condition. -/
namespace Go.Sk
open Go.RowKit
section
variable {B : World} {P : Program} {n : Nat} {E : Env} {H R : List HP} {fn : Func} {Post : Value → List HP → Prop}
theorem AtQ.fin3 {t u x : Nat} {v1 v2 v3 : Value} (hr : fn.results = #[.tmp t, .tmp u, .tmp x]) (he : lk E t = some v1) (he2 : lk E u = some v2) (he3 : lk E x = some v3) {H' : List HP} (hp : Post (.tuple #[v1, v2, v3]) H') (hs : ∀ w, Sat B H w → Sat B (H' ++ R) w) :
    AtQ B (.mk0 n) E H (FinQ B P fn R Post) .ret := by
  intro a w hA hS
  refine bodyPost_ret (v := .tuple #[a.tmps.getD t undef, a.tmps.getD u undef, a.tmps.getD x undef]) (by simp [results, hr]) hA.defers ⟨_, _, rfl, ?_, hs w hS⟩
  rw [show a.tmps.getD t undef = v1 by simp [Array.getD_eq_getD_getElem?, hA.get t v1 he], show a.tmps.getD u undef = v2 by simp [Array.getD_eq_getD_getElem?, hA.get u v2 he2], show a.tmps.getD x undef = v3 by simp [Array.getD_eq_getD_getElem?, hA.get x v3 he3]]
  exact hp
theorem AtQ.fin4 {t u x y : Nat} {v1 v2 v3 v4 : Value} (hr : fn.results = #[.tmp t, .tmp u, .tmp x, .tmp y]) (he : lk E t = some v1) (he2 : lk E u = some v2) (he3 : lk E x = some v3) (he4 : lk E y = some v4) {H' : List HP} (hp : Post (.tuple #[v1, v2, v3, v4]) H')
    (hs : ∀ w, Sat B H w → Sat B (H' ++ R) w) : AtQ B (.mk0 n) E H (FinQ B P fn R Post) .ret := by
  intro a w hA hS
  refine bodyPost_ret (v := .tuple #[a.tmps.getD t undef, a.tmps.getD u undef, a.tmps.getD x undef, a.tmps.getD y undef]) (by simp [results, hr]) hA.defers ⟨_, _, rfl, ?_, hs w hS⟩
  rw [show a.tmps.getD t undef = v1 by simp [Array.getD_eq_getD_getElem?, hA.get t v1 he], show a.tmps.getD u undef = v2 by simp [Array.getD_eq_getD_getElem?, hA.get u v2 he2], show a.tmps.getD x undef = v3 by simp [Array.getD_eq_getD_getElem?, hA.get x v3 he3],
    show a.tmps.getD y undef = v4 by simp [Array.getD_eq_getD_getElem?, hA.get y v4 he4]]
  exact hp
end
end Go.Sk
end
section
/- A slice's literal whose elements are structs; append of one struct. Plain theorems, no condition. -/
namespace Go.Sk
open Go.RowKit
/-- The cells of a slice's literal, its elements of so many cells each, in their order. -/
def rowG (sz : Nat) (E : Env) : Nat → List (Nat × Operand) → Option (List Value)
  | _, [] => some []
  | k, (i, x) :: ps => match Nat.beq i k with
    | true => match ev E x with
      | some v => match Nat.beq v.cells.size sz with
        | true => match rowG sz E (k + 1) ps with
          | some l => some (v.cells.toList ++ l)
          | none => none
        | false => none
      | none => none
    | false => none
theorem fold_set : ∀ (xs : List Value) (off k : Nat) (cells : Array Value), off + k + xs.length ≤ cells.size →
    (xs.zipIdx k).foldl (fun (cs : Array Value) (c : Value × Nat) => cs.setIfInBounds (off + c.2) c.1) cells = (cells.toList.take (off + k) ++ xs ++ cells.toList.drop (off + k + xs.length)).toArray
  | [], off, k, cells, h => by simp
  | x :: xs, off, k, cells, h => by
    simp only [List.length_cons] at h
    rw [List.zipIdx_cons, List.foldl_cons, fold_set xs off (k + 1) _ (by simp; omega)]
    congr 1
    simp only [Array.toList_setIfInBounds, List.length_cons]
    rw [List.drop_set_of_lt (by omega), show off + (k + 1) = (off + k) + 1 by omega, List.take_succ_eq_append_getElem (by simp; omega), List.take_set_of_le (Nat.le_refl _), List.getElem_set_self]
    simp [Nat.add_assoc, Nat.add_comm 1, Nat.add_left_comm]
section
variable {B : World} {P : Program} {n : Fm} {m : Bool} {l0 rest : List Oper} {E : Env} {H R : List HP} {Q : Exit → Act → World → Prop} (T : Tab P)
variable {d : Nat} {ty : TypeId} {pos : String} {af : Array Edge} {g : Option (Nat × Bool)} {x y : Operand} {t : TypeId}
theorem rowG_spec {sz : Nat} {a : Act} (hA : Agr n E a) : ∀ (ps : List (Nat × Operand)) (k : Nat) (l : List Value), rowG sz E k ps = some l →
    l.length = ps.length * sz ∧ ∀ (cells : Array Value), (k + ps.length) * sz ≤ cells.size → Instr.fill (fun i => some (i * sz, sz)) cells (ps.map fun (i, x) => (i, a.eval x)) = some (cells.toList.take (k * sz) ++ l ++ cells.toList.drop ((k + ps.length) * sz)).toArray
  | [], k, l, h => by
    cases h
    exact ⟨by simp, fun cells _ => (by simp [Instr.fill])⟩
  | (i, x) :: ps, k, l, h => by
    simp only [rowG] at h
    split at h
    · rename_i hb
      rw [Nat.beq_eq] at hb
      subst hb
      split at h
      · rename_i v hv
        split at h
        · rename_i h1
          rw [Nat.beq_eq] at h1
          split at h
          · rename_i l' hl'
            cases h
            obtain ⟨e1, e3⟩ := rowG_spec hA ps (i + 1) l' hl'
            have hvl : v.cells.toList.length = sz := by simpa using h1
            refine ⟨by rw [List.length_append, e1, hvl, List.length_cons, Nat.add_mul, Nat.one_mul, Nat.add_comm], fun cells hc => ?_⟩
            have hm : (i + (ps.length + 1)) * sz = i * sz + (sz + ps.length * sz) := by rw [Nat.add_mul, Nat.add_mul, Nat.one_mul, Nat.add_comm sz]
            simp only [List.map_cons, Instr.fill, hA.ev hv, List.length_cons] at hc ⊢
            rw [hm] at hc
            rw [if_neg (by simp only [Bool.or_eq_true, decide_eq_true_eq, not_or, h1]; exact ⟨fun hh => hh rfl, by omega⟩)]
            have hf : (Array.foldl (fun (cs : Array Value) (x : Value × Nat) => cs.setIfInBounds (i * sz + x.2) x.1) cells v.cells.zipIdx) = (cells.toList.take (i * sz) ++ v.cells.toList ++ cells.toList.drop (i * sz + sz)).toArray := by
              have := fold_set v.cells.toList (i * sz) 0 cells (by rw [hvl]; omega)
              rw [Nat.add_zero, hvl] at this
              rw [← this, ← Array.foldl_toList, Array.toList_zipIdx]
            rw [hf, e3 _ (by simp only [List.size_toArray, List.length_append, List.length_take, List.length_drop, hvl, Array.length_toList]; rw [show (i + 1 + ps.length) * sz = i * sz + (sz + ps.length * sz) by rw [Nat.add_mul, Nat.add_mul, Nat.one_mul, Nat.add_assoc]]; omega)]
            congr 1
            have hlen : (cells.toList.take (i * sz) ++ v.cells.toList).length = (i + 1) * sz := by
              rw [List.length_append, List.length_take, hvl, Array.length_toList, Nat.add_mul, Nat.one_mul]; omega
            simp only
            rw [List.take_left' hlen, show (i + 1 + ps.length) * sz = (i + 1) * sz + ps.length * sz by rw [Nat.add_mul], ← List.drop_drop, List.drop_left' hlen, List.drop_drop]
            simp only [List.append_assoc]
            congr 3
            rw [Nat.add_assoc, hm]
          · cases h
        · cases h
      · cases h
    · cases h
theorem run_bsG {w : World} {t e z bb k : Nat} {z0 : Value} {vs : List (Nat × Value)} {l : List Value} (ht : slcB P t = some (e, z, bb)) (hz : zerB P e = some z0) (hl : l.length = k * z) (hlen : k * z ≤ 16777216)
    (hf : ∀ cells : Array Value, cells.size = k * z → Instr.fill (fun i => some (i * z, z)) cells vs = some l.toArray) :
    (Instr.buildSlice t k vs.toArray).run P w = .ok (.slice (some ⟨w.heap.size, 0, none⟩) k k) (w.alloc (.cells l.toArray e)) := by
  obtain ⟨hu, i, hi, hsz, _⟩ := slcB_spec ht
  subst hsz
  have hs : (sizeOf e).run P w = .ok i.size w := run_sizeB (by simp [sizeB, hi])
  have hz1 := zerB_spec (P := P) (w := w) hz
  have hbig : ¬ (k * i.size > 2 ^ 24) := by omega
  simp only [Instr.buildSlice, Sem.run_bind, run_underlying hu, Result.andThen_ok, hs, if_neg hbig, Sem.run_pure]
  by_cases h0 : k * i.size = 0
  · simp only [h0, if_true, Sem.run_pure, Result.andThen_ok]
    have := hf (Array.map (fun x => (#[] : Array Value)[x % (#[] : Array Value).size]!) (Array.range 0)) (by simp; omega)
    have hp : (pure #[] : Sem (Array Value)).run P w = .ok #[] w := rfl
    simp only [Sem.run_bind, hp, Result.andThen_ok]
    rw [this]
    simp only [newRow, Sem.run_bind]
    rfl
  · simp only [h0, if_false, Sem.run_bind, hz1, Result.andThen_ok, Sem.run_pure]
    have := hf (Array.map (fun x => z0.cells[x % z0.cells.size]!) (Array.range (k * i.size))) (by simp)
    simp only [this, newRow, Sem.run_bind]
    rfl
/-- A slice's literal of elements of z cells each: an owned slice. -/
theorem RT.bsG {e bb k z : Nat} {z0 : Value} {parts : List (Nat × Operand)} {l : List Value} (ht : al T.slcs t = some (e, z, bb)) (hl : rowG z E 0 parts = some l) (hk : parts.length = k) (hz : al T.zers e = some z0) (hlen : Nat.ble (k * z) 16777216 = true) (hw : wt l0 E g = some true) (hd : Nat.blt d n = true)
    (hml : k ≤ 16777216) (kt : ∀ a c, k ≤ c → RT B P n true l0 rest ((d, .slice a k c) :: E) (Own a c e z k l :: H) Q) : RT B P n true l0 (⟨some d, .buildSlice t k parts.toArray, ty, pos, af, g⟩ :: rest) E H Q :=
  RT.eff hw fun o aa w K ho _ hdd hA hS hK => by
    subst hk
    have hle : parts.length * z ≤ 16777216 := by simpa [Nat.ble_eq] using hlen
    obtain ⟨e1, e3⟩ := rowG_spec hA parts 0 l hl
    have hrun := run_bsG (P := P) (w := w) (vs := parts.map fun (i, x) => (i, aa.eval x)) (l := l) (T.slc ht) (T.zer hz) e1 hle (fun cells hc => by
      rw [e3 cells (by rw [Nat.zero_add]; omega)]
      simp only [Nat.zero_mul, List.take_zero, List.nil_append, Nat.zero_add]
      rw [List.drop_eq_nil_of_le (by simp; omega), List.append_nil])
    unfold Oper.wp execOp
    have hm : (parts.toArray.map fun (i, x) => (i, aa.eval x)) = (parts.map fun (i, x) => (i, aa.eval x)).toArray := by simp
    simp only [ho, Sem.run_bind]
    rw [hm, hrun]
    simp only [Result.andThen_ok, Sem.run_pure, Oper.upon, hdd]
    refine hK _ _ (kt _ _ (Nat.le_refl _) _ _ (hA.put (by simpa [Nat.blt_eq] using hd) _) (hS.new rfl rfl rfl rfl fun h _ hb => ?_))
    exact ⟨e1, Nat.le_refl _, by unfold maxLen; omega, .inr ⟨_, _, rfl, hb, by simp [e1], by simp only []; rw [← e1]; exact List.take_length⟩⟩
/-- append(x, v): one struct more. -/
theorem RT.pushG {d1 : Nat} {ty1 : TypeId} {pos1 : String} {af1 : Array Edge} {e by_ sz : Nat} {z : Value} {a : Option Addr} {c k : Nat} {xs l : List Value} {H' : Option Addr → Nat → List HP}
    (hx : ev ((d1, undef) :: E) x = some (.slice a k c)) (hy : ev E y = some (.agg l.toArray)) (h1 : ∀ u ∈ l, u.oneCell' = true) (ht : al T.slcs t = some (e, sz, by_)) (hls : l.length = sz)
    (hr : ∀ a' c', Rep H (Own a c e sz k xs) (Own a' c' e sz (k + 1) (xs ++ l)) (H' a' c'))
    (hlen : k + 1 ≤ 140737488355328) (hby : (k + 1) * by_ ≤ 140737488355328) (hz : al T.zers e = some z) (hzs : z.cells.size = sz) (hsz : sz ≤ 16777216) (hd1 : Nat.blt d1 n = true) (hd : Nat.blt d n = true)
    (kk : ∀ a' c' b' c1, k + 1 ≤ c' → RT B P n true l0 rest ((d, .slice a' (k + 1) c') :: (d1, .slice b' 1 c1) :: E) (H' a' c') Q) :
    RT B P n true l0 (⟨some d1, .buildSlice t 1 #[(0, y)], ty1, pos1, af1, none⟩ :: ⟨some d, .call { callee := .builtin .append, args := #[x, .tmp d1], argTypes := #[t, t] }, ty, pos, af, none⟩ :: rest) E H Q := by
  refine RT.bsG T (parts := [(0, y)]) (l := l) ht (by simp [rowG, hy, Value.cells, hls]) rfl hz (by simpa [Nat.ble_eq] using hsz) rfl hd1 (by omega) (fun b' c1 hc1 => ?_)
  refine RT.app T (xs := xs) (ys := l) (H' := fun a' c' => Own b' c1 e sz 1 l :: H' a' c') (ev_other rfl hx (fun l => by simp) _) (by simp [ev, lk]) ht (fun a' c' => .t (hr a' c')) (Own.rd (R := H) .h (by omega) hc1) h1 hlen hby hz hzs rfl hd (fun a' c' hc => ?_)
  exact RT.weak (fun w h => h.tail) (kk a' c' b' c1 hc)
end
end Go.Sk
end
section
/- Structs within slices: their fields' addresses, whole structs out of a slice and into a variable; lists of equal parts. Plain theorems, no condition. -/
namespace Go.Sk
open Go.RowKit
theorem flat_len {α : Type} {f : α → List Value} {z : Nat} (hz : ∀ x, (f x).length = z) : ∀ (l : List α), (l.flatMap f).length = l.length * z
  | [] => by simp
  | x :: l => by rw [List.flatMap_cons, List.length_append, hz, flat_len hz l, List.length_cons, Nat.add_mul, Nat.one_mul, Nat.add_comm]
theorem flat_sub {α : Type} {f : α → List Value} {z : Nat} (hz : ∀ x, (f x).length = z) : ∀ (l : List α) (i : Nat) (x : α), l[i]? = some x → ((l.flatMap f).drop (i * z)).take z = f x
  | [], i, x, h => by simp at h
  | y :: l, 0, x, h => by
    simp only [List.getElem?_cons_zero, Option.some.injEq] at h
    subst h
    rw [Nat.zero_mul, List.drop_zero, List.flatMap_cons]
    exact List.take_left' (hz y)
  | y :: l, i + 1, x, h => by
    rw [List.getElem?_cons_succ] at h
    rw [List.flatMap_cons, show (i + 1) * z = (f y).length + i * z by rw [hz, Nat.add_mul, Nat.one_mul, Nat.add_comm], ← List.drop_drop, List.drop_left]
    exact flat_sub hz l i x h
theorem flat_get {α : Type} {f : α → List Value} {z : Nat} (hz : ∀ x, (f x).length = z) {l : List α} {i j : Nat} {x : α} (h : l[i]? = some x) (hj : j < z) : (l.flatMap f)[i * z + j]? = (f x)[j]? := by
  rw [← flat_sub hz l i x h, List.getElem?_take_of_lt hj, List.getElem?_drop]
theorem drop_at {α : Type} {l : List α} {i : Nat} (h : i < l.length) : l.drop i = l[i] :: l.drop (i + 1) := List.drop_eq_getElem_cons h
section
variable {B : World} {P : Program} {n : Fm} {m : Bool} {l0 rest : List Oper} {E : Env} {H R : List HP} {Q : Exit → Act → World → Prop} (T : Tab P)
variable {d : Nat} {ty : TypeId} {pos : String} {af : Array Edge} {g : Option (Nat × Bool)} {x y : Operand} {t : TypeId}
theorem RT.faA {f s off z : Nat} {gg : Bool} {ad : Addr} {j : Nat} (hx : ev E x = some (.pointer (some (ad.add j)))) (hf : al2 T.flds s f = some (off, z + 1, gg)) (hw : wt l0 E g = some true) (hd : Nat.blt d n = true)
    (k : RT B P n m l0 rest ((d, .pointer (some (ad.add (j + off)))) :: E) H Q) : RT B P n m l0 (⟨some d, .fieldAddr s x f, ty, pos, af, g⟩ :: rest) E H Q :=
  RT.y hw (by simpa [Nat.blt_eq] using hd) (y_faA T hf hx) k
theorem RT.ldra {k c z j m' : Nat} {a : Option Addr} {xs l : List Value} (hx : ev E x = some (.pointer (some ((adr a).add j)))) (hr : Rd B H a k c z xs) (hl : (xs.drop j).take m' = l) (hm : l.length = m') (ht : al T.szs t = some (m', true)) (hw : wt l0 E g = some true) (hd : Nat.blt d n = true)
    (kt : RT B P n m l0 rest ((d, .agg l.toArray) :: E) H Q) : RT B P n m l0 (⟨some d, .load t x, ty, pos, af, g⟩ :: rest) E H Q :=
  RT.y hw (by simpa [Nat.blt_eq] using hd) (y_ldra T ht hx hr hl hm) kt
/-- A whole struct into (a part of) a variable. -/
theorem RT.stagg {b off z : Nat} {e : TypeId} {l v l' : List Value} {H' : List HP} (hx : ev E x = some (.pointer (some ⟨b, off, none⟩))) (hy : ev E y = some (.agg v.toArray)) (h1 : v.all (fun u => u.oneCell') = true)
    (hr : Rep H (Cs b e l) (Cs b e l') H') (hl' : l.take off ++ v ++ l.drop (off + v.length) = l') (hl : Nat.ble (off + v.length) l.length = true) (hz : v.length = z) (ht : al T.szs t = some (z, true)) (hw : wt l0 E g = some true)
    (k : RT B P n true l0 rest E H' Q) : RT B P n true l0 (⟨none, .store t x y, ty, pos, af, g⟩ :: rest) E H Q :=
  RT.eff hw fun o a w K ho _ hd hA hS hK => by
    subst hl' hz
    have hl2 : off + v.length ≤ l.length := by simpa [Nat.ble_eq] using hl
    obtain ⟨R, s1, _⟩ := hr.sel
    have hb := (hS.cs s1).1
    have hrun := run_storeCells_at P b off e v 0 l.toArray w hb (by simpa using hl2) (fun u hu => List.all_eq_true.1 h1 u hu)
    unfold Oper.wp execOp
    have hsz := (T.sz ht).1
    simp only [ho, hA.ev hx, hA.ev hy, Instr.storeAt, Instr.sureAddr, Sem.run_bind, Sem.run_pure, Result.andThen_ok, storeVar, run_sizeB hsz, Value.cells]
    simp only [List.size_toArray, ne_eq, not_true, if_false, Sem.run_pure, Result.andThen_ok, hrun, Sem.run_bind]
    simp only [Oper.upon, hd, Act.put]
    refine hK _ _ (k _ _ hA ?_)
    refine hS.upd (b := b) hr (fun h hh => ⟨_, hh⟩) (fun _ _ _ _ hh => hh) rfl rfl rfl (by simp [World.setRow]) ?_ (fun x hx => setRow_other w b x _ hx)
    have := setRow_heap w b l.toArray (l.take (off + 0) ++ v ++ l.drop (off + 0 + v.length)).toArray e (0, 0) hb
    simpa using this
end
end Go.Sk
end
section
/- Some pieces kept, others let go. Plain theorems, no condition. -/
namespace Go.Sk
theorem star_keep (Ps Qs R : List HP) (h : PH) (s : star (Ps ++ (Qs ++ R)) h) : star (Ps ++ R) h := by
  obtain ⟨h1, h2, d, l1, l2, sA, sB⟩ := star_split _ _ _ s
  obtain ⟨k1, k2, d', m1, m2, _, sR⟩ := star_split _ _ _ sB
  exact star_app Ps R h1 k2 h (d.mono (Le.refl _) m2) l1 (m2.trans l2) sA sR
theorem Sat.frd {B : World} {H Ps Qs R : List HP} {w : World} (s : Sat B H w) (f : Fr H Ps (Qs ++ R)) : Sat B (Ps ++ R) w := (s.fr f).mono fun h hs => star_keep Ps Qs R h hs
end Go.Sk
end
