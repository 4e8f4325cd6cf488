/- The small separation logic that the walks of this claim stand on: partial heaps, lists of heap pieces, and when a world satisfies such a list over a base world. Plain theorems, no condition. -/
import Derived.WalkKit
import Derived.WalkSpells
import Derived.WalkLawsBesides
import Derived.Deep.Quiet
set_option linter.unusedVariables false
set_option linter.unusedSimpArgs false
namespace Go.Sk
open Go.RowKit

/-- A part of a heap. -/
abbrev PH := Nat → Option Obj
/-- A piece: what is asked of a part. -/
abbrev HP := PH → Prop
def Le (h k : PH) : Prop := ∀ b o, h b = some o → k b = some o
def Dj (h k : PH) : Prop := ∀ b, h b = none ∨ k b = none
def Un (h k : PH) : PH := fun b => match h b with | some o => some o | none => k b

theorem Le.refl (h : PH) : Le h h := fun _ _ e => e
theorem Le.trans {h k l : PH} (a : Le h k) (b : Le k l) : Le h l := fun x o e => b x o (a x o e)
theorem Le.none_ {h k : PH} (a : Le h k) {b : Nat} (e : k b = none) : h b = none := by
  cases hh : h b with
  | none => rfl
  | some o => rw [a b o hh] at e; cases e
theorem Dj.symm {h k : PH} (d : Dj h k) : Dj k h := fun b => (d b).symm
theorem Dj.mono {h k h' k' : PH} (d : Dj h k) (a : Le h' h) (b : Le k' k) : Dj h' k' := fun x => (d x).imp a.none_ b.none_
theorem Un.left (h k : PH) : Le h (Un h k) := fun b o e => by simp [Un, e]
theorem Un.right {h k : PH} (d : Dj h k) : Le k (Un h k) := fun b o e => by
  rcases d b with hh | hk
  · simp [Un, hh, e]
  · rw [hk] at e; cases e
theorem Un.le {h k l : PH} (a : Le h l) (b : Le k l) : Le (Un h k) l := fun x o e => by
  unfold Un at e
  cases hh : h x with
  | some o' => rw [hh] at e; cases e; exact a x _ hh
  | none => rw [hh] at e; exact b x o e
theorem Un.dj {h k l : PH} (a : Dj h l) (b : Dj k l) : Dj (Un h k) l := fun x => by
  rcases a x with ha | ha
  · rcases b x with hb | hb
    · exact .inl (by simp [Un, ha, hb])
    · exact .inr hb
  · exact .inr ha

/-- Pieces side by side. -/
def star : List HP → HP
  | [] => fun _ => True
  | p :: ps => fun h => ∃ h1 h2, Dj h1 h2 ∧ Le h1 h ∧ Le h2 h ∧ p h1 ∧ star ps h2

theorem star_up : ∀ (H : List HP) {h k : PH}, Le h k → star H h → star H k
  | [], _, _, _, _ => trivial
  | _ :: _, _, _, l, ⟨h1, h2, d, a, b, p, q⟩ => ⟨h1, h2, d, a.trans l, b.trans l, p, q⟩

theorem star_swap {p q : HP} {R : List HP} {h : PH} (s : star (p :: q :: R) h) : star (q :: p :: R) h := by
  obtain ⟨h1, h2, d, a, b, hp, h3, h4, d', a', b', hq, hr⟩ := s
  refine ⟨h3, Un h1 h4, ?_, a'.trans b, Un.le a (b'.trans b), hq, h1, h4, d.mono (Le.refl _) b', Un.left _ _, Un.right (d.mono (Le.refl _) b'), hp, hr⟩
  exact (Un.dj (d.mono (Le.refl _) a') d'.symm).symm

theorem star_cons_mono {p : HP} {R R' : List HP} (hm : ∀ h, star R h → star R' h) {h : PH} (s : star (p :: R) h) : star (p :: R') h := by
  obtain ⟨h1, h2, d, a, b, hp, hr⟩ := s
  exact ⟨h1, h2, d, a, b, hp, hm _ hr⟩

theorem star_head_mono {p q : HP} {R : List HP} (hm : ∀ h, p h → q h) {h : PH} (s : star (p :: R) h) : star (q :: R) h := by
  obtain ⟨h1, h2, d, a, b, hp, hr⟩ := s
  exact ⟨h1, h2, d, a, b, hm _ hp, hr⟩

/-- H is p and R. -/
inductive Sel : List HP → HP → List HP → Prop
  | h {p : HP} {R : List HP} : Sel (p :: R) p R
  | t {x p : HP} {H R : List HP} : Sel H p R → Sel (x :: H) p (x :: R)

theorem Sel.to {H : List HP} {p : HP} {R : List HP} (s : Sel H p R) : ∀ h, star H h → star (p :: R) h := by
  induction s with
  | h => exact fun _ h => h
  | t _ ih => exact fun h hs => star_swap (star_cons_mono ih hs)
theorem Sel.of {H : List HP} {p : HP} {R : List HP} (s : Sel H p R) : ∀ h, star (p :: R) h → star H h := by
  induction s with
  | h => exact fun _ h => h
  | t _ ih => exact fun h hs => star_cons_mono ih (star_swap hs)

/-- In H stands p; in H' stands q in its place. -/
inductive Rep : List HP → HP → HP → List HP → Prop
  | h {p q : HP} {R : List HP} : Rep (p :: R) p q (q :: R)
  | t {x p q : HP} {H H' : List HP} : Rep H p q H' → Rep (x :: H) p q (x :: H')

theorem Rep.sel {H H' : List HP} {p q : HP} (r : Rep H p q H') : ∃ R, Sel H p R ∧ Sel H' q R := by
  induction r with
  | h => exact ⟨_, .h, .h⟩
  | t _ ih => obtain ⟨R, a, b⟩ := ih; exact ⟨_, .t a, .t b⟩

theorem Sel.i1 {x0 p : HP} {R : List HP} : Sel (x0 :: p :: R) p (x0 :: R) := .t .h
theorem Rep.i1 {x0 p q : HP} {R : List HP} : Rep (x0 :: p :: R) p q (x0 :: q :: R) := .t .h
theorem Sel.i2 {x0 x1 p : HP} {R : List HP} : Sel (x0 :: x1 :: p :: R) p (x0 :: x1 :: R) := .t (.t .h)
theorem Rep.i2 {x0 x1 p q : HP} {R : List HP} : Rep (x0 :: x1 :: p :: R) p q (x0 :: x1 :: q :: R) := .t (.t .h)
theorem Sel.i3 {x0 x1 x2 p : HP} {R : List HP} : Sel (x0 :: x1 :: x2 :: p :: R) p (x0 :: x1 :: x2 :: R) := .t (.t (.t .h))
theorem Rep.i3 {x0 x1 x2 p q : HP} {R : List HP} : Rep (x0 :: x1 :: x2 :: p :: R) p q (x0 :: x1 :: x2 :: q :: R) := .t (.t (.t .h))
theorem Sel.i4 {x0 x1 x2 x3 p : HP} {R : List HP} : Sel (x0 :: x1 :: x2 :: x3 :: p :: R) p (x0 :: x1 :: x2 :: x3 :: R) := .t (.t (.t (.t .h)))
theorem Rep.i4 {x0 x1 x2 x3 p q : HP} {R : List HP} : Rep (x0 :: x1 :: x2 :: x3 :: p :: R) p q (x0 :: x1 :: x2 :: x3 :: q :: R) := .t (.t (.t (.t .h)))
theorem Sel.i5 {x0 x1 x2 x3 x4 p : HP} {R : List HP} : Sel (x0 :: x1 :: x2 :: x3 :: x4 :: p :: R) p (x0 :: x1 :: x2 :: x3 :: x4 :: R) := .t (.t (.t (.t (.t .h))))
theorem Rep.i5 {x0 x1 x2 x3 x4 p q : HP} {R : List HP} : Rep (x0 :: x1 :: x2 :: x3 :: x4 :: p :: R) p q (x0 :: x1 :: x2 :: x3 :: x4 :: q :: R) := .t (.t (.t (.t (.t .h))))
theorem Sel.i6 {x0 x1 x2 x3 x4 x5 p : HP} {R : List HP} : Sel (x0 :: x1 :: x2 :: x3 :: x4 :: x5 :: p :: R) p (x0 :: x1 :: x2 :: x3 :: x4 :: x5 :: R) := .t (.t (.t (.t (.t (.t .h)))))
theorem Rep.i6 {x0 x1 x2 x3 x4 x5 p q : HP} {R : List HP} : Rep (x0 :: x1 :: x2 :: x3 :: x4 :: x5 :: p :: R) p q (x0 :: x1 :: x2 :: x3 :: x4 :: x5 :: q :: R) := .t (.t (.t (.t (.t (.t .h)))))
theorem Sel.i7 {x0 x1 x2 x3 x4 x5 x6 p : HP} {R : List HP} : Sel (x0 :: x1 :: x2 :: x3 :: x4 :: x5 :: x6 :: p :: R) p (x0 :: x1 :: x2 :: x3 :: x4 :: x5 :: x6 :: R) := .t (.t (.t (.t (.t (.t (.t .h))))))
theorem Rep.i7 {x0 x1 x2 x3 x4 x5 x6 p q : HP} {R : List HP} : Rep (x0 :: x1 :: x2 :: x3 :: x4 :: x5 :: x6 :: p :: R) p q (x0 :: x1 :: x2 :: x3 :: x4 :: x5 :: x6 :: q :: R) := .t (.t (.t (.t (.t (.t (.t .h))))))
theorem Sel.i8 {x0 x1 x2 x3 x4 x5 x6 x7 p : HP} {R : List HP} : Sel (x0 :: x1 :: x2 :: x3 :: x4 :: x5 :: x6 :: x7 :: p :: R) p (x0 :: x1 :: x2 :: x3 :: x4 :: x5 :: x6 :: x7 :: R) := .t (.t (.t (.t (.t (.t (.t (.t .h)))))))
theorem Rep.i8 {x0 x1 x2 x3 x4 x5 x6 x7 p q : HP} {R : List HP} : Rep (x0 :: x1 :: x2 :: x3 :: x4 :: x5 :: x6 :: x7 :: p :: R) p q (x0 :: x1 :: x2 :: x3 :: x4 :: x5 :: x6 :: x7 :: q :: R) := .t (.t (.t (.t (.t (.t (.t (.t .h)))))))
theorem Sel.i9 {x0 x1 x2 x3 x4 x5 x6 x7 x8 p : HP} {R : List HP} : Sel (x0 :: x1 :: x2 :: x3 :: x4 :: x5 :: x6 :: x7 :: x8 :: p :: R) p (x0 :: x1 :: x2 :: x3 :: x4 :: x5 :: x6 :: x7 :: x8 :: R) := .t (.t (.t (.t (.t (.t (.t (.t (.t .h))))))))
theorem Rep.i9 {x0 x1 x2 x3 x4 x5 x6 x7 x8 p q : HP} {R : List HP} : Rep (x0 :: x1 :: x2 :: x3 :: x4 :: x5 :: x6 :: x7 :: x8 :: p :: R) p q (x0 :: x1 :: x2 :: x3 :: x4 :: x5 :: x6 :: x7 :: x8 :: q :: R) := .t (.t (.t (.t (.t (.t (.t (.t (.t .h))))))))
theorem Sel.i10 {x0 x1 x2 x3 x4 x5 x6 x7 x8 x9 p : HP} {R : List HP} : Sel (x0 :: x1 :: x2 :: x3 :: x4 :: x5 :: x6 :: x7 :: x8 :: x9 :: p :: R) p (x0 :: x1 :: x2 :: x3 :: x4 :: x5 :: x6 :: x7 :: x8 :: x9 :: R) := .t (.t (.t (.t (.t (.t (.t (.t (.t (.t .h)))))))))
theorem Rep.i10 {x0 x1 x2 x3 x4 x5 x6 x7 x8 x9 p q : HP} {R : List HP} : Rep (x0 :: x1 :: x2 :: x3 :: x4 :: x5 :: x6 :: x7 :: x8 :: x9 :: p :: R) p q (x0 :: x1 :: x2 :: x3 :: x4 :: x5 :: x6 :: x7 :: x8 :: x9 :: q :: R) := .t (.t (.t (.t (.t (.t (.t (.t (.t (.t .h)))))))))
theorem Sel.i11 {x0 x1 x2 x3 x4 x5 x6 x7 x8 x9 x10 p : HP} {R : List HP} : Sel (x0 :: x1 :: x2 :: x3 :: x4 :: x5 :: x6 :: x7 :: x8 :: x9 :: x10 :: p :: R) p (x0 :: x1 :: x2 :: x3 :: x4 :: x5 :: x6 :: x7 :: x8 :: x9 :: x10 :: R) := .t (.t (.t (.t (.t (.t (.t (.t (.t (.t (.t .h))))))))))
theorem Rep.i11 {x0 x1 x2 x3 x4 x5 x6 x7 x8 x9 x10 p q : HP} {R : List HP} : Rep (x0 :: x1 :: x2 :: x3 :: x4 :: x5 :: x6 :: x7 :: x8 :: x9 :: x10 :: p :: R) p q (x0 :: x1 :: x2 :: x3 :: x4 :: x5 :: x6 :: x7 :: x8 :: x9 :: x10 :: q :: R) := .t (.t (.t (.t (.t (.t (.t (.t (.t (.t (.t .h))))))))))
theorem Sel.i12 {x0 x1 x2 x3 x4 x5 x6 x7 x8 x9 x10 x11 p : HP} {R : List HP} : Sel (x0 :: x1 :: x2 :: x3 :: x4 :: x5 :: x6 :: x7 :: x8 :: x9 :: x10 :: x11 :: p :: R) p (x0 :: x1 :: x2 :: x3 :: x4 :: x5 :: x6 :: x7 :: x8 :: x9 :: x10 :: x11 :: R) := .t (.t (.t (.t (.t (.t (.t (.t (.t (.t (.t (.t .h)))))))))))
theorem Rep.i12 {x0 x1 x2 x3 x4 x5 x6 x7 x8 x9 x10 x11 p q : HP} {R : List HP} : Rep (x0 :: x1 :: x2 :: x3 :: x4 :: x5 :: x6 :: x7 :: x8 :: x9 :: x10 :: x11 :: p :: R) p q (x0 :: x1 :: x2 :: x3 :: x4 :: x5 :: x6 :: x7 :: x8 :: x9 :: x10 :: x11 :: q :: R) := .t (.t (.t (.t (.t (.t (.t (.t (.t (.t (.t (.t .h)))))))))))
theorem S0 {p : HP} {R : List HP} : Sel (p :: R) p (R) := Sel.h
theorem Q0 {p q : HP} {R : List HP} : Rep (p :: R) p q (q :: R) := Rep.h
theorem S1 {x0 p : HP} {R : List HP} : Sel (x0 :: p :: R) p (x0 :: R) := Sel.i1
theorem Q1 {x0 p q : HP} {R : List HP} : Rep (x0 :: p :: R) p q (x0 :: q :: R) := Rep.i1
theorem S2 {x0 x1 p : HP} {R : List HP} : Sel (x0 :: x1 :: p :: R) p (x0 :: x1 :: R) := Sel.i2
theorem Q2 {x0 x1 p q : HP} {R : List HP} : Rep (x0 :: x1 :: p :: R) p q (x0 :: x1 :: q :: R) := Rep.i2
theorem S3 {x0 x1 x2 p : HP} {R : List HP} : Sel (x0 :: x1 :: x2 :: p :: R) p (x0 :: x1 :: x2 :: R) := Sel.i3
theorem Q3 {x0 x1 x2 p q : HP} {R : List HP} : Rep (x0 :: x1 :: x2 :: p :: R) p q (x0 :: x1 :: x2 :: q :: R) := Rep.i3
theorem S4 {x0 x1 x2 x3 p : HP} {R : List HP} : Sel (x0 :: x1 :: x2 :: x3 :: p :: R) p (x0 :: x1 :: x2 :: x3 :: R) := Sel.i4
theorem Q4 {x0 x1 x2 x3 p q : HP} {R : List HP} : Rep (x0 :: x1 :: x2 :: x3 :: p :: R) p q (x0 :: x1 :: x2 :: x3 :: q :: R) := Rep.i4
theorem S5 {x0 x1 x2 x3 x4 p : HP} {R : List HP} : Sel (x0 :: x1 :: x2 :: x3 :: x4 :: p :: R) p (x0 :: x1 :: x2 :: x3 :: x4 :: R) := Sel.i5
theorem Q5 {x0 x1 x2 x3 x4 p q : HP} {R : List HP} : Rep (x0 :: x1 :: x2 :: x3 :: x4 :: p :: R) p q (x0 :: x1 :: x2 :: x3 :: x4 :: q :: R) := Rep.i5
theorem S6 {x0 x1 x2 x3 x4 x5 p : HP} {R : List HP} : Sel (x0 :: x1 :: x2 :: x3 :: x4 :: x5 :: p :: R) p (x0 :: x1 :: x2 :: x3 :: x4 :: x5 :: R) := Sel.i6
theorem Q6 {x0 x1 x2 x3 x4 x5 p q : HP} {R : List HP} : Rep (x0 :: x1 :: x2 :: x3 :: x4 :: x5 :: p :: R) p q (x0 :: x1 :: x2 :: x3 :: x4 :: x5 :: q :: R) := Rep.i6
theorem S7 {x0 x1 x2 x3 x4 x5 x6 p : HP} {R : List HP} : Sel (x0 :: x1 :: x2 :: x3 :: x4 :: x5 :: x6 :: p :: R) p (x0 :: x1 :: x2 :: x3 :: x4 :: x5 :: x6 :: R) := Sel.i7
theorem Q7 {x0 x1 x2 x3 x4 x5 x6 p q : HP} {R : List HP} : Rep (x0 :: x1 :: x2 :: x3 :: x4 :: x5 :: x6 :: p :: R) p q (x0 :: x1 :: x2 :: x3 :: x4 :: x5 :: x6 :: q :: R) := Rep.i7
theorem S8 {x0 x1 x2 x3 x4 x5 x6 x7 p : HP} {R : List HP} : Sel (x0 :: x1 :: x2 :: x3 :: x4 :: x5 :: x6 :: x7 :: p :: R) p (x0 :: x1 :: x2 :: x3 :: x4 :: x5 :: x6 :: x7 :: R) := Sel.i8
theorem Q8 {x0 x1 x2 x3 x4 x5 x6 x7 p q : HP} {R : List HP} : Rep (x0 :: x1 :: x2 :: x3 :: x4 :: x5 :: x6 :: x7 :: p :: R) p q (x0 :: x1 :: x2 :: x3 :: x4 :: x5 :: x6 :: x7 :: q :: R) := Rep.i8
theorem S9 {x0 x1 x2 x3 x4 x5 x6 x7 x8 p : HP} {R : List HP} : Sel (x0 :: x1 :: x2 :: x3 :: x4 :: x5 :: x6 :: x7 :: x8 :: p :: R) p (x0 :: x1 :: x2 :: x3 :: x4 :: x5 :: x6 :: x7 :: x8 :: R) := Sel.i9
theorem Q9 {x0 x1 x2 x3 x4 x5 x6 x7 x8 p q : HP} {R : List HP} : Rep (x0 :: x1 :: x2 :: x3 :: x4 :: x5 :: x6 :: x7 :: x8 :: p :: R) p q (x0 :: x1 :: x2 :: x3 :: x4 :: x5 :: x6 :: x7 :: x8 :: q :: R) := Rep.i9
theorem S10 {x0 x1 x2 x3 x4 x5 x6 x7 x8 x9 p : HP} {R : List HP} : Sel (x0 :: x1 :: x2 :: x3 :: x4 :: x5 :: x6 :: x7 :: x8 :: x9 :: p :: R) p (x0 :: x1 :: x2 :: x3 :: x4 :: x5 :: x6 :: x7 :: x8 :: x9 :: R) := Sel.i10
theorem Q10 {x0 x1 x2 x3 x4 x5 x6 x7 x8 x9 p q : HP} {R : List HP} : Rep (x0 :: x1 :: x2 :: x3 :: x4 :: x5 :: x6 :: x7 :: x8 :: x9 :: p :: R) p q (x0 :: x1 :: x2 :: x3 :: x4 :: x5 :: x6 :: x7 :: x8 :: x9 :: q :: R) := Rep.i10
theorem S11 {x0 x1 x2 x3 x4 x5 x6 x7 x8 x9 x10 p : HP} {R : List HP} : Sel (x0 :: x1 :: x2 :: x3 :: x4 :: x5 :: x6 :: x7 :: x8 :: x9 :: x10 :: p :: R) p (x0 :: x1 :: x2 :: x3 :: x4 :: x5 :: x6 :: x7 :: x8 :: x9 :: x10 :: R) := Sel.i11
theorem Q11 {x0 x1 x2 x3 x4 x5 x6 x7 x8 x9 x10 p q : HP} {R : List HP} : Rep (x0 :: x1 :: x2 :: x3 :: x4 :: x5 :: x6 :: x7 :: x8 :: x9 :: x10 :: p :: R) p q (x0 :: x1 :: x2 :: x3 :: x4 :: x5 :: x6 :: x7 :: x8 :: x9 :: x10 :: q :: R) := Rep.i11
theorem S12 {x0 x1 x2 x3 x4 x5 x6 x7 x8 x9 x10 x11 p : HP} {R : List HP} : Sel (x0 :: x1 :: x2 :: x3 :: x4 :: x5 :: x6 :: x7 :: x8 :: x9 :: x10 :: x11 :: p :: R) p (x0 :: x1 :: x2 :: x3 :: x4 :: x5 :: x6 :: x7 :: x8 :: x9 :: x10 :: x11 :: R) := Sel.i12
theorem Q12 {x0 x1 x2 x3 x4 x5 x6 x7 x8 x9 x10 x11 p q : HP} {R : List HP} : Rep (x0 :: x1 :: x2 :: x3 :: x4 :: x5 :: x6 :: x7 :: x8 :: x9 :: x10 :: x11 :: p :: R) p q (x0 :: x1 :: x2 :: x3 :: x4 :: x5 :: x6 :: x7 :: x8 :: x9 :: x10 :: x11 :: q :: R) := Rep.i12
/-- H holds all of Pre, and R. -/
inductive Fr : List HP → List HP → List HP → Prop
  | nil {H : List HP} : Fr H [] H
  | cons {H H' : List HP} {p : HP} {Ps R : List HP} : Sel H p H' → Fr H' Ps R → Fr H (p :: Ps) R

theorem Fr.to {H Ps R : List HP} (f : Fr H Ps R) : ∀ h, star H h → star (Ps ++ R) h := by
  induction f with
  | nil => exact fun _ h => h
  | cons s _ ih => exact fun h hs => star_cons_mono ih (s.to h hs)

/-- The world w over the base world B, above which the pieces H lie. -/
structure Sat (B : World) (H : List HP) (w : World) : Prop where
  os : w.os = B.os
  output : w.output = B.output
  tape : w.tape = B.tape
  size : B.heap.size ≤ w.heap.size
  base : ∀ b, b < B.heap.size → w.heap[b]? = B.heap[b]?
  heap : ∃ h : PH, (∀ b o, h b = some o → w.heap[b]? = some o ∧ B.heap.size ≤ b) ∧ star H h

theorem Sat.mono {B : World} {H H' : List HP} {w : World} (s : Sat B H w) (m : ∀ h, star H h → star H' h) : Sat B H' w :=
  let ⟨h, a, b⟩ := s.heap
  { s with heap := ⟨h, a, m h b⟩ }
theorem Sat.fr {B : World} {H Ps R : List HP} {w : World} (s : Sat B H w) (f : Fr H Ps R) : Sat B (Ps ++ R) w := s.mono f.to
theorem Sat.tail {B : World} {p : HP} {H : List HP} {w : World} (s : Sat B (p :: H) w) : Sat B H w :=
  s.mono fun _ ⟨_, _, _, _, b, _, r⟩ => star_up _ b r
theorem Sat.drop_ {B : World} : ∀ {Ps H : List HP} {w : World}, Sat B (Ps ++ H) w → Sat B H w
  | [], _, _, s => s
  | _ :: _, _, _, s => Sat.drop_ (Sat.tail s)
theorem Sat.refl (B : World) : Sat B [] B := ⟨rfl, rfl, rfl, Nat.le_refl _, fun _ _ => rfl, fun _ => none, fun _ _ h => (by cases h), trivial⟩
theorem Sat.drawn {B : World} {H : List HP} {w : World} (s : Sat B H w) (d : Nat) : Sat B H { w with drawn := d } :=
  ⟨s.os, s.output, s.tape, s.size, s.base, s.heap⟩
/-- A pure fact may be taken out of a head piece. -/
theorem Sat.head {B : World} {p : HP} {H : List HP} {w : World} (s : Sat B (p :: H) w) : ∃ h, (∀ b o, h b = some o → w.heap[b]? = some o ∧ B.heap.size ≤ b) ∧ p h := by
  obtain ⟨h, a, h1, h2, d, l1, l2, hp, hr⟩ := s.heap
  exact ⟨h1, fun b o e => a b o (l1 b o e), hp⟩
theorem Sat.sel {B : World} {p : HP} {H R : List HP} {w : World} (s : Sat B H w) (r : Sel H p R) : Sat B (p :: R) w := s.mono r.to
theorem Sat.unsel {B : World} {p : HP} {H R : List HP} {w : World} (r : Sel H p R) (s : Sat B (p :: R) w) : Sat B H w := s.mono r.of

/-- An existential piece. -/
def Ex {α : Sort _} (f : α → List HP) : HP := fun h => ∃ x, star (f x) h
theorem star_app : ∀ (A R : List HP) (h1 h2 h : PH), Dj h1 h2 → Le h1 h → Le h2 h → star A h1 → star R h2 → star (A ++ R) h
  | [], R, _, _, _, _, _, l2, _, r => star_up R l2 r
  | p :: A, R, h1, h2, h, d, l1, l2, ⟨k1, k2, d', a, b, hp, hq⟩, r => by
    refine ⟨k1, Un k2 h2, ?_, a.trans l1, Un.le (b.trans l1) l2, hp, star_app A R k2 h2 _ (d.mono b (Le.refl _)) (Un.left _ _) (Un.right (d.mono b (Le.refl _))) hq r⟩
    exact (Un.dj d'.symm (d.mono a (Le.refl _)).symm).symm
theorem star_split : ∀ (A R : List HP) (h : PH), star (A ++ R) h → ∃ h1 h2, Dj h1 h2 ∧ Le h1 h ∧ Le h2 h ∧ star A h1 ∧ star R h2
  | [], _, h, s => ⟨fun _ => none, h, fun _ => .inl rfl, fun _ _ e => (by cases e), Le.refl _, trivial, s⟩
  | p :: A, R, h, ⟨k1, k2, d, a, b, hp, hq⟩ => by
    obtain ⟨h1, h2, d', l1, l2, sA, sR⟩ := star_split A R k2 hq
    refine ⟨Un k1 h1, h2, Un.dj (d.mono (Le.refl _) l2) d', Un.le a (l1.trans b), l2.trans b, ?_, sR⟩
    exact ⟨k1, h1, d.mono (Le.refl _) l1, Un.left _ _, Un.right (d.mono (Le.refl _) l1), hp, sA⟩
theorem Sat.ex_out {α : Sort _} {B : World} {f : α → List HP} {H : List HP} {w : World} (s : Sat B (Ex f :: H) w) : ∃ x, Sat B (f x ++ H) w := by
  obtain ⟨h, a, h1, h2, d, l1, l2, ⟨x, hx⟩, hr⟩ := s.heap
  exact ⟨x, { s with heap := ⟨h, a, star_app _ _ h1 h2 h d l1 l2 hx hr⟩ }⟩
theorem Sat.ex_in {α : Sort _} {B : World} {f : α → List HP} {H : List HP} {w : World} (x : α) (s : Sat B (f x ++ H) w) : Sat B (Ex f :: H) w := by
  obtain ⟨h, a, hs⟩ := s.heap
  obtain ⟨h1, h2, d, l1, l2, sA, sR⟩ := star_split _ _ h hs
  exact { s with heap := ⟨h, a, h1, h2, d, l1, l2, ⟨x, sA⟩, sR⟩ }
/-- A pure piece. -/
def Pu (p : Prop) : HP := fun _ => p
theorem Sat.pu_out {B : World} {p : Prop} {H : List HP} {w : World} (s : Sat B (Pu p :: H) w) : p := let ⟨_, _, hp⟩ := s.head; hp
theorem Sat.pu_in {B : World} {p : Prop} {H : List HP} {w : World} (hp : p) (s : Sat B H w) : Sat B (Pu p :: H) w := by
  obtain ⟨h, a, hs⟩ := s.heap
  exact { s with heap := ⟨h, a, fun _ => none, h, fun _ => .inl rfl, fun _ _ e => (by cases e), Le.refl _, hp, hs⟩ }

/-! ### cells -/
/-- Block b is these cells. -/
def Cs (b : Nat) (e : TypeId) (l : List Value) : HP := fun h => h b = some (.cells l.toArray e (0, 0))

theorem Sat.cs {B : World} {H R : List HP} {w : World} {b : Nat} {e : TypeId} {l : List Value} (s : Sat B H w) (r : Sel H (Cs b e l) R) :
    w.heap[b]? = some (.cells l.toArray e (0, 0)) ∧ B.heap.size ≤ b := by
  obtain ⟨h, a, hp⟩ := (s.sel r).head
  exact a b _ hp

/-- One block is turned: its piece with it. -/
theorem Sat.upd {B : World} {H H' : List HP} {w w' : World} {b : Nat} {o' : Obj} {p p' : HP} (s : Sat B H w) (r : Rep H p p' H')
    (hp : ∀ h, p h → ∃ o, h b = some o) (hp' : ∀ h h', p h → (∀ x, x ≠ b → h' x = h x) → h' b = some o' → p' h')
    (hos : w'.os = w.os) (hou : w'.output = w.output) (hta : w'.tape = w.tape) (hsz : w'.heap.size = w.heap.size)
    (hb : w'.heap[b]? = some o') (hx : ∀ x, x ≠ b → w'.heap[x]? = w.heap[x]?) : Sat B H' w' := by
  obtain ⟨R, s1, s2⟩ := r.sel
  obtain ⟨h, a, h1, h2, d, l1, l2, hpp, hr⟩ := (s.sel s1).heap
  obtain ⟨o, hb1⟩ := hp _ hpp
  have hge : B.heap.size ≤ b := (a b _ (l1 b _ hb1)).2
  have h2b : h2 b = none := by
    rcases d b with e | e
    · rw [hb1] at e; cases e
    · exact e
  refine Sat.unsel s2 ⟨hos.trans s.os, hou.trans s.output, hta.trans s.tape, by have := s.size; omega, fun x hxl => (hx x (by omega)).trans (s.base x hxl), ?_⟩
  let k1 : PH := fun x => if x = b then some o' else h1 x
  refine ⟨Un k1 h2, ?_, k1, h2, ?_, Un.left _ _, Un.right ?_, hp' h1 k1 hpp (fun x hne => by simp [k1, hne]) (by simp [k1]), hr⟩
  · intro x ox hox
    by_cases hxb : x = b
    · subst hxb
      simp [Un, k1] at hox
      subst hox
      exact ⟨hb, hge⟩
    · simp only [Un, k1, hxb, if_false] at hox
      rw [hx x hxb]
      cases e1 : h1 x with
      | some o1 => rw [e1] at hox; cases hox; exact a x _ (l1 x _ e1)
      | none => rw [e1] at hox; exact a x _ (l2 x _ hox)
  all_goals
    intro x
    by_cases hxb : x = b
    · exact .inr (hxb ▸ h2b)
    · rcases d x with e | e
      · exact .inl (by simp [k1, hxb, e])
      · exact .inr e

/-- A new block. -/
theorem Sat.new {B : World} {H : List HP} {w w' : World} {o : Obj} {p : HP} (s : Sat B H w)
    (hos : w'.os = w.os) (hou : w'.output = w.output) (hta : w'.tape = w.tape) (hh : w'.heap = w.heap.push o)
    (hp : ∀ h : PH, (∀ x, x ≠ w.heap.size → h x = none) → h w.heap.size = some o → p h) : Sat B (p :: H) w' := by
  obtain ⟨h, a, hs⟩ := s.heap
  have hold : ∀ x, x < w.heap.size → w'.heap[x]? = w.heap[x]? := fun x hx => by
    rw [hh, Array.getElem?_push]; simp [Nat.ne_of_lt hx]
  have hnew : w'.heap[w.heap.size]? = some o := by rw [hh]; simp
  have hlt : ∀ x o', h x = some o' → x < w.heap.size := fun x o' e => (Array.getElem?_eq_some_iff.1 (a x o' e).1).1
  have hno : h w.heap.size = none := by
    cases e : h w.heap.size with
    | none => rfl
    | some o' => exact absurd (hlt _ _ e) (Nat.lt_irrefl _)
  let k : PH := fun x => if x = w.heap.size then some o else none
  have hd : Dj k h := fun x => by
    by_cases e : x = w.heap.size
    · exact .inr (e ▸ hno)
    · exact .inl (by simp [k, e])
  refine ⟨hos.trans s.os, hou.trans s.output, hta.trans s.tape, ?_, fun x hx => (hold x (by have := s.size; omega)).trans (s.base x hx), Un k h, ?_, k, h, hd, Un.left _ _, Un.right hd, hp k (fun x hne => by simp [k, hne]) (by simp [k]), hs⟩
  · rw [hh]; have := s.size; simp; omega
  · intro x ox hox
    by_cases e : x = w.heap.size
    · subst e
      simp [Un, k] at hox
      subst hox
      exact ⟨hnew, s.size⟩
    · simp only [Un, k, e, if_false] at hox
      exact ⟨(hold x (hlt x ox hox)).trans (a x ox hox).1, (a x ox hox).2⟩

/-- Garbage above is nobody's. -/
theorem Sat.garbage {B : World} {H : List HP} {w w' : World} {o : Obj} (s : Sat B H w)
    (hos : w'.os = w.os) (hou : w'.output = w.output) (hta : w'.tape = w.tape) (hh : w'.heap = w.heap.push o) : Sat B H w' :=
  (s.new (p := fun _ => True) hos hou hta hh fun _ _ _ => trivial).tail

end Go.Sk
