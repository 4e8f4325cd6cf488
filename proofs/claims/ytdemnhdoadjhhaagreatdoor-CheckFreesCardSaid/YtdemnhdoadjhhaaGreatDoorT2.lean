/- What lent rows are; where they lie. -/
import Derived.Test.YtdemnhdoadjhhaaGreatDoorT1
import Derived.Test.YtdemnhdoadjhhaaGreatDoorG4
import Derived.Test.YtdemnhdoadjhhaaGreatDoorSkB
set_option linter.unusedVariables false
set_option linter.unusedSimpArgs false
namespace Go.Proofs.YtdemnhdoadjhhaaGreatDoor
open Go.Sk
set_option maxRecDepth 100000
def lentT : Txt := [108, 101, 110, 116]
def lentEV : EValT := ⟨lentT, 0⟩
def lentSp : SpanT := ⟨-77, -77⟩
def lentF : FieldT := ⟨lentT, 0, 0, 0, [], 0, 0, 0, []⟩
def lentIm : ImpT := ⟨lentT, false⟩
def nilR {α : Type} : Rw α := ⟨none, 0, []⟩
def lentE : EnumT := ⟨lentT, nilR, false, nilR, nilR⟩
def lentM : MsgT := .mk lentT nilR nilR none 0 [] nilR nilR nilR
def lentFl : FileT := ⟨lentT, [], nilR, none, 0, [], nilR⟩
def rowH {α : Type} (e z : Nat) (f : α → List Value) (x : α) (a : Option Addr) (c : Nat) (l : List α) : HP := Own a c e z (l.length + 5) ((l ++ List.replicate 5 x).flatMap f)
def txH (r : Rw Txt) : HP := Own r.a r.c 9 1 (r.l.length + 2) (strs (r.l ++ [own2, own2]))
def eRows (e : EnumT) : List HP := [rowH 111 2 EValT.cells lentEV e.vals.a e.vals.c e.vals.l, rowH 158 2 SpanT.cells lentSp e.res.a e.res.c e.res.l, txH e.names]
def barR {α : Type} (r : Rw α) : Rw α := ⟨none, 0, r.l⟩
/-- An enum without its places. -/
def EnumT.er (e : EnumT) : EnumT := ⟨e.nm, barR e.vals, e.ali, barR e.res, barR e.names⟩
mutual
/-- A message without its places. -/
def mEr : MsgT → MsgT
  | .mk nm fields oneofs _ _ msgs enums res names => .mk nm (barR fields) (barR oneofs) none 0 (mErL msgs) ⟨none, 0, enums.l.map EnumT.er⟩ (barR res) (barR names)
def mErL : List MsgT → List MsgT
  | [] => []
  | m :: l => mEr m :: mErL l
end
theorem mErL_map : ∀ l : List MsgT, mErL l = l.map mEr
  | [] => by unfold mErL; rfl
  | m :: l => by unfold mErL; rw [mErL_map l]; rfl
mutual
/-- The rows of a message that is lent. -/
def mRows : MsgT → List HP
  | .mk _ fields oneofs ma mc msgs enums res names => [rowH 87 9 FieldT.cells lentF fields.a fields.c fields.l, rowH 158 2 SpanT.cells lentSp res.a res.c res.l, txH oneofs, txH names,
      rowH 72 7 MsgT.cells lentM ma mc msgs, Bag (mRowsL msgs), rowH 109 5 EnumT.cells lentE enums.a enums.c enums.l, Bag (enums.l.flatMap eRows)]
def mRowsL : List MsgT → List HP
  | [] => []
  | m :: l => mRows m ++ mRowsL l
end
theorem mRowsL_flat : ∀ l : List MsgT, mRowsL l = l.flatMap mRows
  | [] => by unfold mRowsL; rfl
  | m :: l => by unfold mRowsL; rw [mRowsL_flat l, List.flatMap_cons]
theorem rep_snoc {α : Type} {l : List α} {x : α} {k : Nat} : (l ++ List.replicate k x) ++ [x] = l ++ List.replicate (k + 1) x := by
  rw [List.append_assoc, List.replicate_succ']
theorem flat_app {α : Type} {f : α → List Value} {l : List α} {x : α} : l.flatMap f ++ f x = (l ++ [x]).flatMap f := by simp
theorem one_flat {α : Type} {f : α → List Value} (h : ∀ x, ∀ u ∈ f x, u.oneCell' = true) (l : List α) : ∀ u ∈ l.flatMap f, u.oneCell' = true := fun u hu => by
  obtain ⟨x, _, hx⟩ := List.mem_flatMap.1 hu
  exact h x u hx
theorem one_ev (x : EValT) : ∀ u ∈ x.cells, u.oneCell' = true := List.all_eq_true.1 (rfl : x.cells.all (·.oneCell') = true)
theorem one_sp (x : SpanT) : ∀ u ∈ x.cells, u.oneCell' = true := List.all_eq_true.1 (rfl : x.cells.all (·.oneCell') = true)
theorem one_fd (x : FieldT) : ∀ u ∈ x.cells, u.oneCell' = true := List.all_eq_true.1 (rfl : x.cells.all (·.oneCell') = true)
theorem one_im (x : ImpT) : ∀ u ∈ x.cells, u.oneCell' = true := List.all_eq_true.1 (rfl : x.cells.all (·.oneCell') = true)
theorem one_en (x : EnumT) : ∀ u ∈ x.cells, u.oneCell' = true := List.all_eq_true.1 (rfl : x.cells.all (·.oneCell') = true)
theorem one_ms (x : MsgT) : ∀ u ∈ x.cells, u.oneCell' = true := List.all_eq_true.1 (rfl : x.cells.all (·.oneCell') = true)
theorem one_fl (x : FileT) : ∀ u ∈ x.cells, u.oneCell' = true := List.all_eq_true.1 (rfl : x.cells.all (·.oneCell') = true)
variable {B : World} {R : List HP} {w : World}
/-- Pieces into a bag. -/
theorem Bag.add {qs ps : List HP} (s : Sat B (qs ++ (Bag ps :: R)) w) : Sat B (Bag (ps ++ qs) :: R) w := by
  refine Bag.close (s.mono fun h hs => ?_)
  have h1 : star ((Bag ps :: R) ++ qs) h := star_comm hs
  obtain ⟨x, y, d, lx, ly, hb, hr⟩ := h1
  have h2 : star (qs ++ R) y := star_comm hr
  rw [List.append_assoc]
  exact star_glue ps d lx ly hb h2
theorem Rd.under {a : Option Addr} {k c sz : Nat} {xs : List Value} (h : Rd B R a k c sz xs) : ∀ H, Rd B (H ++ R) a k c sz xs
  | [] => h
  | _ :: H => Rd.cons (Rd.under h H)
end Go.Proofs.YtdemnhdoadjhhaaGreatDoor
