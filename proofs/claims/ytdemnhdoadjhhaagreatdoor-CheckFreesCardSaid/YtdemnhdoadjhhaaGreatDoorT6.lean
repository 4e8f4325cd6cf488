/- How lent trees are read. -/
import Derived.Test.YtdemnhdoadjhhaaGreatDoorT5
set_option linter.unusedVariables false
set_option linter.unusedSimpArgs false
namespace Go.Proofs.YtdemnhdoadjhhaaGreatDoor
open Go.Sk
set_option maxRecDepth 100000
/-- A row with the room behind it. -/
def row5 {α : Type} (X : Option Addr → Nat → Nat → Nat → List Value → Prop) (z : Nat) (f : α → List Value) (x : α) (a : Option Addr) (c : Nat) (l : List α) : Prop := X a (l.length + 5) c z ((l ++ List.replicate 5 x).flatMap f)
def tx5 (X : Option Addr → Nat → Nat → Nat → List Value → Prop) (r : Rw Txt) : Prop := X r.a (r.l.length + 2) r.c 1 (strs (r.l ++ [own2, own2]))
def e5 (X : Option Addr → Nat → Nat → Nat → List Value → Prop) (e : EnumT) : Prop := row5 X 2 EValT.cells lentEV e.vals.a e.vals.c e.vals.l ∧ row5 X 2 SpanT.cells lentSp e.res.a e.res.c e.res.l ∧ tx5 X e.names
mutual
def m5 (X : Option Addr → Nat → Nat → Nat → List Value → Prop) : MsgT → Prop
  | .mk _ fields oneofs ma mc msgs enums res names => row5 X 9 FieldT.cells lentF fields.a fields.c fields.l ∧ row5 X 2 SpanT.cells lentSp res.a res.c res.l ∧ tx5 X oneofs ∧ tx5 X names ∧
    row5 X 7 MsgT.cells lentM ma mc msgs ∧ m5L X msgs ∧ row5 X 5 EnumT.cells lentE enums.a enums.c enums.l ∧ ∀ e ∈ enums.l, e5 X e
def m5L (X : Option Addr → Nat → Nat → Nat → List Value → Prop) : List MsgT → Prop
  | [] => True
  | m :: l => m5 X m ∧ m5L X l
end
theorem m5L_mem {X : Option Addr → Nat → Nat → Nat → List Value → Prop} : ∀ {l : List MsgT} {m : MsgT}, m5L X l → m ∈ l → m5 X m
  | [], _, _, h => by cases h
  | x :: l, m, hl, h => by
    unfold m5L at hl
    rcases List.mem_cons.1 h with rfl | h
    · exact hl.1
    · exact m5L_mem hl.2 h
structure f5 (X : Option Addr → Nat → Nat → Nat → List Value → Prop) (f : FileT) : Prop where
  imps : row5 X 2 ImpT.cells lentIm f.imps.a f.imps.c f.imps.l
  msgs : row5 X 7 MsgT.cells lentM f.ma f.mc f.msgs
  sub : m5L X f.msgs
  enums : row5 X 5 EnumT.cells lentE f.enums.a f.enums.c f.enums.l
  esub : ∀ e ∈ f.enums.l, e5 X e
section
variable {B : World} {H : List HP} {w : World}
/-- A piece lies somewhere in H. -/
def Has (B : World) (H : List HP) (p : HP) : Prop := ∀ w, Sat B H w → ∃ R, Sat B (p :: R) w
theorem Has.sel {p : HP} {R : List HP} (s : Sel H p R) : Has B H p := fun w h => ⟨R, h.sel s⟩
theorem Has.bag {p : HP} {ps : List HP} (h : Has B H (Bag ps)) (hp : p ∈ ps) : Has B H p := fun w hS => by
  obtain ⟨R, h1⟩ := h w hS
  obtain ⟨i, hi⟩ := List.getElem?_of_mem hp
  exact ⟨_, Bag.at_ hi h1⟩
theorem Has.rd {a : Option Addr} {c : Nat} {e : TypeId} {sz k : Nat} {xs : List Value} (h : Has B H (Own a c e sz k xs)) (hS : Sat B H w) : Rd B H a k c sz xs := by
  obtain ⟨R, h1⟩ := h w hS
  obtain ⟨f1, f2, _⟩ := Own.facts h1 .h
  exact ⟨f1, f2, fun w' hS' => by
    obtain ⟨R', h2⟩ := h w' hS'
    exact (Own.rd (H := _ :: R') .h f1 f2).2.2 w' h2⟩
theorem e5_of (hS : Sat B H w) {e : EnumT} (h : ∀ p ∈ eRows e, Has B H p) : e5 (Rd B H) e := by
  unfold eRows at h
  simp only [List.forall_mem_cons] at h
  obtain ⟨h1, h2, h3, _⟩ := h
  exact ⟨Has.rd h1 hS, Has.rd h2 hS, Has.rd h3 hS⟩
theorem e5L_of (hS : Sat B H w) {l : List EnumT} (h : Has B H (Bag (l.flatMap eRows))) : ∀ e ∈ l, e5 (Rd B H) e := fun e he => e5_of hS fun p hp => h.bag (List.mem_flatMap.2 ⟨e, he, hp⟩)
mutual
theorem m5_of (hS : Sat B H w) : ∀ {m : MsgT}, (∀ p ∈ mRows m, Has B H p) → m5 (Rd B H) m
  | .mk nm fields oneofs ma mc msgs enums res names, h => by
    unfold mRows at h
    unfold m5
    simp only [List.forall_mem_cons] at h
    obtain ⟨h1, h2, h3, h4, h5, h6, h7, h8, _⟩ := h
    exact ⟨Has.rd h1 hS, Has.rd h2 hS, Has.rd h3 hS, Has.rd h4 hS, Has.rd h5 hS, m5L_of hS h6, Has.rd h7 hS, e5L_of hS h8⟩
theorem m5L_of (hS : Sat B H w) : ∀ {l : List MsgT}, Has B H (Bag (mRowsL l)) → m5L (Rd B H) l
  | [], _ => by unfold m5L; trivial
  | m :: l, h => by
    unfold m5L
    unfold mRowsL at h
    exact ⟨m5_of hS fun p hp => h.bag (List.mem_append_left _ hp), m5L_of hS fun w' hS' => by
      obtain ⟨R, h1⟩ := h w' hS'
      have h2 : Sat B (mRows m ++ (mRowsL l ++ R)) w' := by
        have := Bag.open_ h1
        rwa [List.append_assoc] at this
      exact ⟨mRows m ++ R, Bag.close (h2.mono fun hh hs => by
        have h3 : star ((mRowsL l ++ R) ++ mRows m) hh := star_comm hs
        rw [List.append_assoc] at h3
        obtain ⟨x, y, d, lx, ly, hb, hr⟩ := star_cut _ h3
        exact star_glue _ d lx ly hb (star_comm hr))⟩⟩
end
theorem f5_of (hS : Sat B H w) {l : List FileT} (h : Has B H (Bag (l.flatMap fRows))) : ∀ f ∈ l, f5 (Rd B H) f := fun f hf => by
  have hm : ∀ p ∈ fRows f, Has B H p := fun p hp => h.bag (List.mem_flatMap.2 ⟨f, hf, hp⟩)
  unfold fRows at hm
  simp only [List.forall_mem_cons] at hm
  obtain ⟨h1, h2, h3, h4, h5, _⟩ := hm
  exact ⟨Has.rd h1 hS, Has.rd h2 hS, m5L_of hS (by rw [mRowsL_flat]; exact h3), Has.rd h4 hS, e5L_of hS h5⟩
end
end Go.Proofs.YtdemnhdoadjhhaaGreatDoor
