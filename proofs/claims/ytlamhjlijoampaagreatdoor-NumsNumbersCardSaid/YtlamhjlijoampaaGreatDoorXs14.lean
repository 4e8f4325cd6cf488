/- Regions whose order is open: the tests, and what such a region comes to. Plain theorems, no condition. -/
import Derived.Test.YtlamhjlijoampaaGreatDoorXs13
set_option linter.unusedVariables false
set_option linter.unusedSimpArgs false
namespace Go.Xs
open Go.RowKit

/-- the operations that turn the heap: where, and how many stand ahead -/
def effL : Nat → Nat → List Oper → List (Nat × Nat)
  | _, _, [] => []
  | i, c, o :: l => bif effB o.op then (i, c) :: effL (i + 1) (c + 1) l else effL (i + 1) c l
/-- i may come up behind k of them -/
def okK (M : List Nat) (i k : Nat) : List (Nat × Nat) → Bool
  | [] => true
  | (e, c) :: es => (bif anc M i e then Nat.blt c k else true) && (bif anc M e i then Nat.ble k c else true) && okK M i k es
/-- the slot t is written ahead, or not at all -/
def wrB (M : List Nat) (i t : Nat) : Nat → List Oper → Bool
  | _, [] => true
  | j, o :: l => (match o.dst with
    | some u => bif Nat.beq u t then Nat.blt j i && anc M i j else true
    | none => true) && wrB M i t (j + 1) l
def noDst (t : Nat) : List Oper → Bool
  | [] => true
  | o :: l => (match o.dst with
    | some u => !Nat.beq u t
    | none => true) && noDst t l
def dstB : List Oper → Bool
  | [] => true
  | o :: l => (match o.dst with
    | some u => noDst u l
    | none => true) && dstB l
def rdB (M : List Nat) (l0 : List Oper) : Nat → List Oper → Bool
  | _, [] => true
  | i, o :: l => (readsX l0 o).all (fun t => wrB M i t 0 l0) && (directs o).all (fun d => Nat.blt d i) && rdB M l0 (i + 1) l
/-- these two come in the order of the text -/
def effO (M : List Nat) : List (Nat × Nat) → Bool
  | [] => true
  | (e, _) :: es => es.all (fun x => anc M x.1 e) && effO M es
def statB (l : List Oper) (M : List Nat) : Bool := dstB l && rdB M l 0 l && effO M (effL 0 0 l)
/-- all behind m wait for m -/
def ancB (M : List Nat) (m : Nat) : Nat → Nat → Bool
  | _, 0 => true
  | j, k + 1 => (bif Nat.blt m j then anc M j m else true) && ancB M m (j + 1) k
/-- seen with any of the heaps, it yields the same -/
def chkH (C : Ctx) (M : List Nat) (es : List (Nat × Nat)) (i : Nat) (er : Env) (v : Value) (o : Oper) : Nat → List Hp → Bool
  | _, [] => true
  | k, H :: Hs => (bif okK M i k es then match xq C er H o with
      | some v' => eqV v' v
      | none => false
    else true) && chkH C M es i er v o (k + 1) Hs
def chkS (C : Ctx) (M : List Nat) (es : List (Nat × Nat)) (l0 : List Oper) (Hs : List Hp) : Nat → List Oper → List Step → Bool
  | i, o :: l, s :: ss => (bif lookB o.op && !effB o.op then match wtX l0 s.er o.guard with
      | some true => chkH C M es i s.er s.v o 0 Hs
      | _ => true
    else true) && chkS C M es l0 Hs (i + 1) l ss
  | _, _, _ => true
def delD : List Oper → Env → Env
  | [], E => E
  | o :: l, E => match o.dst with
    | some t => delD l (Tr.del E t)
    | none => delD l E
/-- A region whose order is open. -/
def runOpen (C : Ctx) (n : Nat) (call : Nat → List Value → Hp → FR) (l : List Oper) (E : Env) (ds : List SDef) (h : Hp) : CR :=
  bif statB l (masks l []) then match canon C n call l 0 l E h with
    | .fin ss E' h' => bif chkS C (masks l []) (effL 0 0 l) l (h :: fmX l ss) 0 l ss then .ok .normal E' ds h' else .no [101]
    | .pan ss v h' => bif chkS C (masks l []) (effL 0 0 l) l (h :: fmX l ss) 0 l ss && ancB (masks l []) ss.length 0 l.length then .ok (.pan v) (delD l E) ds h' else .no [102]
    | .no t => .no (103 :: t)
  else .no [104]
end Go.Xs
