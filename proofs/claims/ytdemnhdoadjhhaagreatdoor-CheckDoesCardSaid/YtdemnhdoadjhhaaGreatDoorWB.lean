/- Merged: H2, H3, B18, H4, H5, B15, B16r, P21, P20, P22, B18r, Y1, Y2, A1, A2, B17r, A3, H6, H7, H8, H9, H10, Y3, Z0, Y4, Y7, B20, B21. -/
import Derived.Test.YtdemnhdoadjhhaaGreatDoorWA
import Derived.Test.YtdemnhdoadjhhaaGreatDoorSkB
import Derived.Lib.Bytealg
import Derived.Test.YtdemnhdoadjhhaaGreatDoorSkA
set_option linter.unusedVariables false
set_option linter.unusedSimpArgs false
section
namespace Go.Proofs.YtdemnhdoadjhhaaGreatDoor
open Go.Sk
set_option maxRecDepth 100000
theorem frS : ∀ {Ps R : List HP}, Fr (Ps ++ R) Ps R
 | [], _ => .nil
 | _ :: _, _ => .cons .h frS
/-- The first place at which p holds; -1. -/
def ixp {α : Type} (p : α → Bool) : List α → Nat → Int
 | [], _ => -1
 | s :: l, i => if p s = true then (i : Int) else ixp p l (i + 1)
theorem ixp_drop {α : Type} {p : α → Bool} {l : List α} {i : Nat} (h : i < l.length) : ixp p (l.drop i) i = if p l[i] = true then (i : Int) else ixp p (l.drop (i + 1)) (i + 1) := by
 rw [List.drop_eq_getElem_cons h]
 rfl
theorem ixp_any {α : Type} {p : α → Bool} : ∀ {l : List α} {i : Nat}, decide (0 ≤ ixp p l i) = l.any p
 | [], _ => rfl
 | s :: l, i => by
  unfold ixp
  rw [List.any_cons]
  cases h : p s
  ·rw [if_neg (by decide), ixp_any]; rfl
  ·rw [if_pos rfl]; simp
attribute [local irreducible] Cs Own Ex Pu Yld RT LJ QJ AtQ CT Rd QSp Sp FinQ Then LoopQ CutQ DT TakeQ EffQ
variable {B : World} {R : List HP}
set_option maxHeartbeats 1000000 in
theorem indexS_fn {a : Option Addr} {k c : Nat} {l : List SpanT} {p : SpanT → Bool} {f : FuncId} {bb : Bool} {caps : List Value} {Pre : List HP} (hl : l.length = k) (hk : k ≤ 140737488355328) (hR : Rd B (Pre ++ R) a k c 2 (l.flatMap SpanT.cells)) (hfn : al T.funs f = some bb)
  (hf : ∀ s ∈ l, Sp B Tryz.prog f ([.agg s.cells.toArray] ++ caps) R Pre (fun v H' => v = .bool (p s) ∧ H' = Pre)) :
  Sp B Tryz.prog 80 [.slice a k c, .func (.func f) #[] caps.toArray] R Pre (fun v H' => v = .int .i64 (ixp p l 0) ∧ H' = Pre) := by
 refine Sp.body Tryz.func80 rfl Tryz.ntmps80 (by simp) ?_
 simp only [argE, List.cons_append, List.nil_append, Nat.zero_add, Nat.reduceAdd]
 try refine gL ?_
 refine CT.loop (α := Nat) (fun i => [(0, .slice a k c), (1, .func (.func f) #[] caps.toArray), (7, .int .i64 k), (8, .int .i64 i)]) (fun i => Pu (i ≤ k ∧ ixp p l 0 = ixp p (l.drop i) i) :: (Pre ++ R)) (fun i => k - i) 0
  ⟨rfl, rfl, rfl, rfl, trivial⟩ (fun w h => Sat.pu_in ⟨Nat.zero_le _, rfl⟩ h) (fun i => ?_)
 refine CT.pu fun ⟨hi, hix⟩ => ?_
 repeat' (first|refine gL ?_|(refine gv ?_;(refine⟨fun hc=>?_,fun hc=>?_⟩<;>first|(exfalso;omega)|skip))|fail)
 ·refine RT.ix T (j := i * 2) rfl rfl rfl hR (by omega) (by omega) (by omega) rfl rfl ?_
  have hil : i < l.length := by omega
  refine RT.ldra T rfl hR (l := l[i].cells) (flat_sub (f := SpanT.cells) (z := 2) (fun _ => rfl) l i _ (List.getElem?_eq_getElem hil)) rfl rfl rfl rfl ?_
  refine RT.callC T (caps := caps) rfl rfl frS (hf l[i] (List.getElem_mem hil)) hfn rfl rfl ?_
  rintro _ _ ⟨rfl, rfl⟩
  rw [ixp_drop hil] at hix
  cases hin : p l[i] with
  | true =>
   rw [hin, if_pos rfl] at hix
   try refine gL ?_
   exact AtQ.f1 Tryz.results80 rfl (by rw [hix]) (fun _ h => h)
  | false =>
   rw [hin, if_neg (by decide)] at hix
   repeat' (first|refine gL ?_|(refine gv ?_;refine gk ?_)|fail)
   exact AtQ.loop (i + 1) ⟨rfl, rfl, rfl, rfl, trivial⟩ (fun w h => Sat.pu_in ⟨by omega, hix⟩ h) (by omega)
 ·refine AtQ.f1 Tryz.results80 rfl ?_ (fun _ h => h)
  rw [hix, List.drop_of_length_le (by omega)]
  rfl
theorem contfS_fn {a : Option Addr} {k c : Nat} {l : List SpanT} {p : SpanT → Bool} {f : FuncId} {bb : Bool} {caps : List Value} {Pre : List HP} (hl : l.length = k) (hk : k ≤ 140737488355328) (hR : Rd B (Pre ++ R) a k c 2 (l.flatMap SpanT.cells)) (hfn : al T.funs f = some bb)
  (hf : ∀ s ∈ l, Sp B Tryz.prog f ([.agg s.cells.toArray] ++ caps) R Pre (fun v H' => v = .bool (p s) ∧ H' = Pre)) :
  Sp B Tryz.prog 152 [.slice a k c, .func (.func f) #[] caps.toArray] R Pre (fun v H' => v = .bool (l.any p) ∧ H' = Pre) := by
 refine Sp.body Tryz.func152 rfl Tryz.ntmps152 (by simp) ?_
 simp only [argE, List.cons_append, List.nil_append, Nat.zero_add, Nat.reduceAdd]
 try refine gL ?_
 refine RT.call T rfl frS (indexS_fn hl hk hR hfn hf) rfl rfl rfl ?_
 rintro _ _ ⟨rfl, rfl⟩
 have hlt := ixp_any (p := p) (l := l) (i := 0)
 repeat' (first|refine gL ?_|(refine gv ?_;(refine⟨fun hc=>?_,fun hc=>?_⟩<;>first|(exfalso;omega)|skip))|fail)
 all_goals (refine AtQ.f1 Tryz.results152 rfl ?_ (fun _ h => h); rw [← hlt]; congr 1; symm; first | (refine decide_eq_true ?_; omega) | (refine decide_eq_false ?_; omega))
set_option maxHeartbeats 1000000 in
theorem indexF_fn {a : Option Addr} {k c : Nat} {l : List FieldT} {p : FieldT → Bool} {f : FuncId} {bb : Bool} {caps : List Value} {Pre : List HP} (hl : l.length = k) (hk : k ≤ 140737488355328) (hR : Rd B (Pre ++ R) a k c 9 (l.flatMap FieldT.cells)) (hfn : al T.funs f = some bb)
  (hf : ∀ s ∈ l, Sp B Tryz.prog f ([.agg s.cells.toArray] ++ caps) R Pre (fun v H' => v = .bool (p s) ∧ H' = Pre)) :
  Sp B Tryz.prog 150 [.slice a k c, .func (.func f) #[] caps.toArray] R Pre (fun v H' => v = .int .i64 (ixp p l 0) ∧ H' = Pre) := by
 refine Sp.body Tryz.func150 rfl Tryz.ntmps150 (by simp) ?_
 simp only [argE, List.cons_append, List.nil_append, Nat.zero_add, Nat.reduceAdd]
 try refine gL ?_
 refine CT.loop (α := Nat) (fun i => [(0, .slice a k c), (1, .func (.func f) #[] caps.toArray), (7, .int .i64 k), (8, .int .i64 i)]) (fun i => Pu (i ≤ k ∧ ixp p l 0 = ixp p (l.drop i) i) :: (Pre ++ R)) (fun i => k - i) 0
  ⟨rfl, rfl, rfl, rfl, trivial⟩ (fun w h => Sat.pu_in ⟨Nat.zero_le _, rfl⟩ h) (fun i => ?_)
 refine CT.pu fun ⟨hi, hix⟩ => ?_
 repeat' (first|refine gL ?_|(refine gv ?_;(refine⟨fun hc=>?_,fun hc=>?_⟩<;>first|(exfalso;omega)|skip))|fail)
 ·refine RT.ix T (j := i * 9) rfl rfl rfl hR (by omega) (by omega) (by omega) rfl rfl ?_
  have hil : i < l.length := by omega
  refine RT.ldra T rfl hR (l := l[i].cells) (flat_sub (f := FieldT.cells) (z := 9) (fun _ => rfl) l i _ (List.getElem?_eq_getElem hil)) rfl rfl rfl rfl ?_
  refine RT.callC T (caps := caps) rfl rfl frS (hf l[i] (List.getElem_mem hil)) hfn rfl rfl ?_
  rintro _ _ ⟨rfl, rfl⟩
  rw [ixp_drop hil] at hix
  cases hin : p l[i] with
  | true =>
   rw [hin, if_pos rfl] at hix
   try refine gL ?_
   exact AtQ.f1 Tryz.results150 rfl (by rw [hix]) (fun _ h => h)
  | false =>
   rw [hin, if_neg (by decide)] at hix
   repeat' (first|refine gL ?_|(refine gv ?_;refine gk ?_)|fail)
   exact AtQ.loop (i + 1) ⟨rfl, rfl, rfl, rfl, trivial⟩ (fun w h => Sat.pu_in ⟨by omega, hix⟩ h) (by omega)
 ·refine AtQ.f1 Tryz.results150 rfl ?_ (fun _ h => h)
  rw [hix, List.drop_of_length_le (by omega)]
  rfl
theorem contfF_fn {a : Option Addr} {k c : Nat} {l : List FieldT} {p : FieldT → Bool} {f : FuncId} {bb : Bool} {caps : List Value} {Pre : List HP} (hl : l.length = k) (hk : k ≤ 140737488355328) (hR : Rd B (Pre ++ R) a k c 9 (l.flatMap FieldT.cells)) (hfn : al T.funs f = some bb)
  (hf : ∀ s ∈ l, Sp B Tryz.prog f ([.agg s.cells.toArray] ++ caps) R Pre (fun v H' => v = .bool (p s) ∧ H' = Pre)) :
  Sp B Tryz.prog 119 [.slice a k c, .func (.func f) #[] caps.toArray] R Pre (fun v H' => v = .bool (l.any p) ∧ H' = Pre) := by
 refine Sp.body Tryz.func119 rfl Tryz.ntmps119 (by simp) ?_
 simp only [argE, List.cons_append, List.nil_append, Nat.zero_add, Nat.reduceAdd]
 try refine gL ?_
 refine RT.call T rfl frS (indexF_fn hl hk hR hfn hf) rfl rfl rfl ?_
 rintro _ _ ⟨rfl, rfl⟩
 have hlt := ixp_any (p := p) (l := l) (i := 0)
 repeat' (first|refine gL ?_|(refine gv ?_;(refine⟨fun hc=>?_,fun hc=>?_⟩<;>first|(exfalso;omega)|skip))|fail)
 all_goals (refine AtQ.f1 Tryz.results119 rfl ?_ (fun _ h => h); rw [← hlt]; congr 1; symm; first | (refine decide_eq_true ?_; omega) | (refine decide_eq_false ?_; omega))
set_option maxHeartbeats 1000000 in
theorem indexV_fn {a : Option Addr} {k c : Nat} {l : List EValT} {p : EValT → Bool} {f : FuncId} {bb : Bool} {caps : List Value} {Pre : List HP} (hl : l.length = k) (hk : k ≤ 140737488355328) (hR : Rd B (Pre ++ R) a k c 2 (l.flatMap EValT.cells)) (hfn : al T.funs f = some bb)
  (hf : ∀ s ∈ l, Sp B Tryz.prog f ([.agg s.cells.toArray] ++ caps) R Pre (fun v H' => v = .bool (p s) ∧ H' = Pre)) :
  Sp B Tryz.prog 154 [.slice a k c, .func (.func f) #[] caps.toArray] R Pre (fun v H' => v = .int .i64 (ixp p l 0) ∧ H' = Pre) := by
 refine Sp.body Tryz.func154 rfl Tryz.ntmps154 (by simp) ?_
 simp only [argE, List.cons_append, List.nil_append, Nat.zero_add, Nat.reduceAdd]
 try refine gL ?_
 refine CT.loop (α := Nat) (fun i => [(0, .slice a k c), (1, .func (.func f) #[] caps.toArray), (7, .int .i64 k), (8, .int .i64 i)]) (fun i => Pu (i ≤ k ∧ ixp p l 0 = ixp p (l.drop i) i) :: (Pre ++ R)) (fun i => k - i) 0
  ⟨rfl, rfl, rfl, rfl, trivial⟩ (fun w h => Sat.pu_in ⟨Nat.zero_le _, rfl⟩ h) (fun i => ?_)
 refine CT.pu fun ⟨hi, hix⟩ => ?_
 repeat' (first|refine gL ?_|(refine gv ?_;(refine⟨fun hc=>?_,fun hc=>?_⟩<;>first|(exfalso;omega)|skip))|fail)
 ·refine RT.ix T (j := i * 2) rfl rfl rfl hR (by omega) (by omega) (by omega) rfl rfl ?_
  have hil : i < l.length := by omega
  refine RT.ldra T rfl hR (l := l[i].cells) (flat_sub (f := EValT.cells) (z := 2) (fun _ => rfl) l i _ (List.getElem?_eq_getElem hil)) rfl rfl rfl rfl ?_
  refine RT.callC T (caps := caps) rfl rfl frS (hf l[i] (List.getElem_mem hil)) hfn rfl rfl ?_
  rintro _ _ ⟨rfl, rfl⟩
  rw [ixp_drop hil] at hix
  cases hin : p l[i] with
  | true =>
   rw [hin, if_pos rfl] at hix
   try refine gL ?_
   exact AtQ.f1 Tryz.results154 rfl (by rw [hix]) (fun _ h => h)
  | false =>
   rw [hin, if_neg (by decide)] at hix
   repeat' (first|refine gL ?_|(refine gv ?_;refine gk ?_)|fail)
   exact AtQ.loop (i + 1) ⟨rfl, rfl, rfl, rfl, trivial⟩ (fun w h => Sat.pu_in ⟨by omega, hix⟩ h) (by omega)
 ·refine AtQ.f1 Tryz.results154 rfl ?_ (fun _ h => h)
  rw [hix, List.drop_of_length_le (by omega)]
  rfl
theorem contfV_fn {a : Option Addr} {k c : Nat} {l : List EValT} {p : EValT → Bool} {f : FuncId} {bb : Bool} {caps : List Value} {Pre : List HP} (hl : l.length = k) (hk : k ≤ 140737488355328) (hR : Rd B (Pre ++ R) a k c 2 (l.flatMap EValT.cells)) (hfn : al T.funs f = some bb)
  (hf : ∀ s ∈ l, Sp B Tryz.prog f ([.agg s.cells.toArray] ++ caps) R Pre (fun v H' => v = .bool (p s) ∧ H' = Pre)) :
  Sp B Tryz.prog 123 [.slice a k c, .func (.func f) #[] caps.toArray] R Pre (fun v H' => v = .bool (l.any p) ∧ H' = Pre) := by
 refine Sp.body Tryz.func123 rfl Tryz.ntmps123 (by simp) ?_
 simp only [argE, List.cons_append, List.nil_append, Nat.zero_add, Nat.reduceAdd]
 try refine gL ?_
 refine RT.call T rfl frS (indexV_fn hl hk hR hfn hf) rfl rfl rfl ?_
 rintro _ _ ⟨rfl, rfl⟩
 have hlt := ixp_any (p := p) (l := l) (i := 0)
 repeat' (first|refine gL ?_|(refine gv ?_;(refine⟨fun hc=>?_,fun hc=>?_⟩<;>first|(exfalso;omega)|skip))|fail)
 all_goals (refine AtQ.f1 Tryz.results123 rfl ?_ (fun _ h => h); rw [← hlt]; congr 1; symm; first | (refine decide_eq_true ?_; omega) | (refine decide_eq_false ?_; omega))
theorem within1_fn {s : SpanT} {x : Int} {b : Nat} : Sp B Tryz.prog 153 ([.agg s.cells.toArray] ++ [.pointer (some ⟨b, 0, none⟩)]) R [Cs b 21 [.int .i32 x]] (fun v H' => v = .bool (inS s x) ∧ H' = [Cs b 21 [.int .i32 x]]) := by
 refine Sp.body Tryz.func153 rfl Tryz.ntmps153 (by simp) ?_
 simp only [argE, List.cons_append, List.nil_append, Nat.zero_add, Nat.reduceAdd]
 repeat' (first|refine gL ?_|(refine gv ?_;(refine⟨fun hc=>?_,fun hc=>?_⟩<;>first|(exfalso;omega)|skip))|(refine gb ?_;intro b)|fail)
 all_goals (refine AtQ.f1 Tryz.results153 rfl ?_ (fun _ h => h.tail); congr 1; unfold inS; symm)
 all_goals first | (refine decide_eq_true ?_; omega) | (refine decide_eq_false ?_; omega)
theorem within_fn {r : Rw SpanT} {x : Int} (hR : Rd B R r.a r.l.length r.c 2 (r.l.flatMap SpanT.cells)) (hk : r.l.length ≤ 140737488355328) : Sp B Tryz.prog 122 [r.v, .int .i32 x] R [] (fun v H' => v = .bool (anyS r.l x) ∧ H' = []) := by
 obtain ⟨a, c, l⟩ := r
 refine Sp.body Tryz.func122 rfl Tryz.ntmps122 (by simp) ?_
 simp only [argE, List.cons_append, List.nil_append, Nat.zero_add, Nat.reduceAdd]
 repeat' (first|refine gL ?_|(refine gb ?_;intro b)|fail)
 refine RT.mkF rfl rfl rfl ?_
 skip
 refine RT.call T rfl fR_ (contfS_fn (B := B) (R := R) (p := fun s => inS s x) (f := 153) (caps := [.pointer (some ⟨b, 0, none⟩)]) (Pre := [Cs b 21 [.int .i32 x]]) rfl hk (Rd.cons hR) rfl (fun s _ => within1_fn)) rfl rfl rfl ?_
 rintro _ _ ⟨rfl, rfl⟩
 try refine gL ?_
 exact AtQ.f1 Tryz.results122 rfl rfl (fun _ h => h.tail)
theorem message1_fn {f : FieldT} {i : Nat} {b : Nat} (hi : i ≤ 140737488355328) : Sp B Tryz.prog 120 ([.agg f.cells.toArray] ++ [.pointer (some ⟨b, 0, none⟩)]) R [Cs b 3 [.int .i64 i]] (fun v H' => v = .bool (decide (f.oneof = (i : Int) + 1)) ∧ H' = [Cs b 3 [.int .i64 i]]) := by
 refine Sp.body Tryz.func120 rfl Tryz.ntmps120 (by simp) ?_
 simp only [argE, List.cons_append, List.nil_append, Nat.zero_add, Nat.reduceAdd]
 repeat' (first|refine gL ?_|(refine gv ?_;first|(refine⟨fun hc=>?_,fun hc=>?_⟩<;>first|(exfalso;omega)|skip)|refine gk ?_)|(refine gb ?_;intro b)|fail)
 all_goals (refine AtQ.f1 Tryz.results120 rfl ?_ (fun _ h => h.tail); first | rfl | (congr 1; symm; first | (refine decide_eq_true ?_; omega) | (refine decide_eq_false ?_; omega)))
theorem field1_fn {f g : FieldT} {b : Nat} : Sp B Tryz.prog 141 ([.agg g.cells.toArray] ++ [.pointer (some ⟨b, 0, none⟩)]) R [Cs b 87 f.cells] (fun v H' => v = .bool (decide (g.num = f.num)) ∧ H' = [Cs b 87 f.cells]) := by
 refine Sp.body Tryz.func141 rfl Tryz.ntmps141 (by simp) ?_
 simp only [argE, List.cons_append, List.nil_append, Nat.zero_add, Nat.reduceAdd]
 repeat' (first|refine gL ?_|(refine gv ?_;(refine⟨fun hc=>?_,fun hc=>?_⟩<;>first|(exfalso;omega)|skip))|(refine gb ?_;intro b)|fail)
 all_goals (refine AtQ.f1 Tryz.results141 rfl ?_ (fun _ h => h.tail); first | rfl | (congr 1; symm; first | (refine decide_eq_true ?_; omega) | (refine decide_eq_false ?_; omega)))
theorem enum1_fn {f g : EValT} {b : Nat} : Sp B Tryz.prog 124 ([.agg g.cells.toArray] ++ [.pointer (some ⟨b, 0, none⟩)]) R [Cs b 111 f.cells] (fun v H' => v = .bool (decide (g.num = f.num)) ∧ H' = [Cs b 111 f.cells]) := by
 refine Sp.body Tryz.func124 rfl Tryz.ntmps124 (by simp) ?_
 simp only [argE, List.cons_append, List.nil_append, Nat.zero_add, Nat.reduceAdd]
 repeat' (first|refine gL ?_|(refine gv ?_;(refine⟨fun hc=>?_,fun hc=>?_⟩<;>first|(exfalso;omega)|skip))|(refine gb ?_;intro b)|fail)
 all_goals (refine AtQ.f1 Tryz.results124 rfl ?_ (fun _ h => h.tail); first | rfl | (congr 1; symm; first | (refine decide_eq_true ?_; omega) | (refine decide_eq_false ?_; omega)))
set_option maxHeartbeats 1000000 in
theorem indexT_fn {a : Option Addr} {k c : Nat} {l : List Txt} {x : Txt} (hl : l.length = k) (hk : k ≤ 140737488355328) (hR : Rd B R a k c 1 (l.map vS)) (hb : ∀ t ∈ l, Byt t) (hx : Byt x) :
  Sp B Tryz.prog 151 [.slice a k c, vS x] R [] (fun v H' => v = .int .i64 (ixp (fun t => decide (t = x)) l 0) ∧ H' = []) := by
 refine Sp.body Tryz.func151 rfl Tryz.ntmps151 (by simp) ?_
 simp only [argE, List.cons_append, List.nil_append, Nat.zero_add, Nat.reduceAdd]
 try refine gL ?_
 refine CT.loop (α := Nat) (fun i => [(0, .slice a k c), (1, vS x), (7, .int .i64 k), (8, .int .i64 i)]) (fun i => Pu (i ≤ k ∧ ixp (fun t => decide (t = x)) l 0 = ixp (fun t => decide (t = x)) (l.drop i) i) :: R) (fun i => k - i) 0
  ⟨rfl, rfl, rfl, rfl, trivial⟩ (fun w h => Sat.pu_in ⟨Nat.zero_le _, rfl⟩ h) (fun i => ?_)
 refine CT.pu fun ⟨hi, hix⟩ => ?_
 repeat' (first|refine gL ?_|(refine gv ?_;(refine⟨fun hc=>?_,fun hc=>?_⟩<;>first|(exfalso;omega)|skip))|fail)
 ·have hil : i < l.length := by omega
  refine RT.ix T (j := i) rfl rfl rfl hR (by omega) (by omega) (by omega) rfl rfl ?_
  refine RT.ldr T rfl hR (u := vS l[i]) (by rw [List.getElem?_map, List.getElem?_eq_getElem hil]; rfl) rfl rfl rfl ?_
  rw [ixp_drop hil] at hix
  refine RT.eqs (l := x) (l' := l[i]) rfl rfl hx (hb _ (List.getElem_mem hil)) rfl rfl (fun h => ?_) (fun h => ?_)
  ·rw [if_pos (decide_eq_true h.symm)] at hix
   try refine gL ?_
   exact AtQ.f1 Tryz.results151 rfl (by rw [hix]) (fun _ h => h)
  ·rw [if_neg (by simp only [decide_eq_true_eq]; exact fun e => h e.symm)] at hix
   repeat' (first|refine gL ?_|(refine gv ?_;refine gk ?_)|fail)
   exact AtQ.loop (i + 1) ⟨rfl, rfl, rfl, rfl, trivial⟩ (fun w h => Sat.pu_in ⟨by omega, hix⟩ h) (by omega)
 ·refine AtQ.f1 Tryz.results151 rfl ?_ (fun _ h => h)
  rw [hix, List.drop_of_length_le (by omega)]
  rfl
theorem any_mem {l : List Txt} {x : Txt} : l.any (fun t => decide (t = x)) = decide (x ∈ l) := by
 rw [Bool.eq_iff_iff]
 simp
theorem contT_fn {a : Option Addr} {k c : Nat} {l : List Txt} {x : Txt} (hl : l.length = k) (hk : k ≤ 140737488355328) (hR : Rd B R a k c 1 (l.map vS)) (hb : ∀ t ∈ l, Byt t) (hx : Byt x) :
  Sp B Tryz.prog 121 [.slice a k c, vS x] R [] (fun v H' => v = .bool (decide (x ∈ l)) ∧ H' = []) := by
 refine Sp.body Tryz.func121 rfl Tryz.ntmps121 (by simp) ?_
 simp only [argE, List.cons_append, List.nil_append, Nat.zero_add, Nat.reduceAdd]
 try refine gL ?_
 (refine RT.call T rfl fR_ (indexT_fn hl hk hR hb hx) rfl rfl rfl ?_; rintro _ _ ⟨rfl, rfl⟩; try simp only [List.cons_append, List.nil_append])
 have hlt := ixp_any (p := fun t => decide (t = x)) (l := l) (i := 0)
 rw [any_mem] at hlt
 repeat' (first|refine gL ?_|(refine gv ?_;(refine⟨fun hc=>?_,fun hc=>?_⟩<;>first|(exfalso;omega)|skip))|fail)
 all_goals (refine AtQ.f1 Tryz.results121 rfl ?_ (fun _ h => h); rw [← hlt]; congr 1; symm; first | (refine decide_eq_true ?_; omega) | (refine decide_eq_false ?_; omega))
end Go.Proofs.YtdemnhdoadjhhaaGreatDoor
end
section
namespace Go.Proofs.YtdemnhdoadjhhaaGreatDoor
open Go.Sk
set_option maxRecDepth 100000
/-- That some byte is among them. -/
theorem idx_mem {l : List Int} (hb : Byt l) {c : Int} (hc : 0 ≤ c ∧ c ≤ 255) : decide (0 ≤ Lib.indexByte (str l).data.toList c.toNat.toUInt8) = decide (c ∈ l) := by
 have key : ∀ (m : List Int), Byt m → (0 ≤ Lib.indexByte ((str m).data.toList) c.toNat.toUInt8 ↔ c ∈ m) := by
  intro m
  induction m with
  | nil => intro _; simp [str, Lib.indexByte]
  | cons x m ih =>
   intro hm
   have hx := hm x (by simp)
   unfold isB at hx
   have ihm := ih (fun y hy => hm y (by simp [hy]))
   have hge := Lib.indexByte_ge ((str m).data.toList) c.toNat.toUInt8
   have hcons : (str (x :: m)).data.toList = x.toNat.toUInt8 :: (str m).data.toList := by rw [str_list, str_list]; rfl
   rw [hcons, Lib.indexByte]
   have heq : (x.toNat.toUInt8 == c.toNat.toUInt8) = decide (x = c) := by
    rw [Bool.eq_iff_iff, beq_iff_eq, decide_eq_true_eq]
    constructor
    ·intro h
     have := congrArg UInt8.toNat h
     simp at this
     omega
    ·rintro rfl; rfl
   rw [heq]
   by_cases h : x = c
   ·rw [decide_eq_true h]; simp [h]
   ·rw [decide_eq_false h]
    simp only [List.mem_cons]
    rw [if_neg (by decide)]
    constructor
    ·intro h2
     right
     apply ihm.1
     split at h2
     ·omega
     ·rename_i hne
      rw [beq_iff_eq] at hne
      omega
    ·rintro (h2 | h2)
     ·exact absurd h2.symm h
     ·have := ihm.2 h2
      rw [if_neg (by rw [beq_iff_eq]; omega)]
      omega
 rw [Bool.eq_iff_iff, decide_eq_true_eq, decide_eq_true_eq]
 exact key l hb
attribute [local irreducible] Cs Own Ex Pu Yld RT LJ QJ AtQ CT Rd QSp Sp FinQ Then LoopQ CutQ DT TakeQ EffQ
variable {B : World} {R : List HP}
section
variable {n : Fm} {m : Bool} {l0 rest : List Oper} {E : Env} {H : List HP} {Q : Exit → Act → World → Prop} {d : Nat} {ty : TypeId} {pos : String} {af : Array Edge} {g : Option (Nat × Bool)} {x y : Operand} {ats : Array TypeId}
theorem RT.ibyte {s : ByteArray} {c : Int} (hx : ev E x = some (.string s)) (hy : ev E y = some (.int .u8 c)) (hw : wt l0 E g = some true) (hd : Nat.blt d n = true)
  (kk : RT B Tryz.prog n m l0 rest ((d, .int .i64 (Lib.indexByte s.data.toList c.toNat.toUInt8)) :: E) H Q) :
  RT B Tryz.prog n m l0 (⟨some d, .call { callee := .value (.func 182), args := #[x, y], argTypes := ats }, ty, pos, af, g⟩ :: rest) E H Q :=
 RT.y hw (by simpa [Nat.blt_eq] using hd) (y_run fun o aa w ho _ hA _ => by
  have hcall : (callFunc 182 #[.string s, .int .u8 c]).run Tryz.prog w = .ok (.value (.int .i64 (Lib.indexByte s.data.toList c.toNat.toUInt8))) w := by
   rw [run_callFunc_extern Tryz.func182 (by kernel_rfl) (by kernel_rfl) (by kernel_rfl) (e := Extern.BytealgIndexByte.indexByte) (by kernel_rfl), Lib.run_indexByteString]
   rfl
  unfold execOp
  simp only [ho, resolve, Sem.run_bind, List.map_toArray, List.map_cons, List.map_nil, hA.ev hx, hA.ev hy, Sem.run_pure, Result.andThen_ok]
  simp only [Act.eval, Deferred.ofValue, invoke]
  simpa using hcall) kk
end
theorem ibyte_fn {l : List Int} {c : Int} : Sp B Tryz.prog 177 [vS l, .int .u8 c] R [] (fun v H' => v = .int .i64 (Lib.indexByte (str l).data.toList c.toNat.toUInt8) ∧ H' = []) := by
 refine Sp.body Tryz.func177 rfl Tryz.ntmps177 (by simp) ?_
 simp only [argE, List.cons_append, List.nil_append, Nat.zero_add, Nat.reduceAdd]
 try refine gL ?_
 refine RT.ibyte rfl rfl rfl rfl ?_
 try refine gL ?_
 exact AtQ.f1 Tryz.results177 rfl rfl (fun _ h => h)
theorem sindex_fn {l sep : List Int} (hsep : sep = [64]) (hb : Byt l) : Sp B Tryz.prog 172 [vS l, vS sep] R [] (fun v H' => v = .int .i64 (Lib.indexByte (str l).data.toList 64) ∧ H' = []) := by
 refine Sp.body Tryz.func172 rfl Tryz.ntmps172 (by simp) ?_
 simp only [argE, List.cons_append, List.nil_append, Nat.zero_add, Nat.reduceAdd]
 have hsl : sep.length = 1 := by rw [hsep]; rfl
 have hsb : Byt sep := by rw [hsep]; exact Byt.one (by unfold isB; decide)
 repeat' (first|refine gL ?_|(refine gv ?_;(refine⟨fun hc=>?_,fun hc=>?_⟩<;>first|(exfalso;omega)|skip))|fail)
 refine RT.eqs (l := sep) (l' := l) rfl rfl hsb hb rfl rfl (fun h => ?_) (fun h => ?_)
 ·try refine gL ?_
  exact AtQ.f1 Tryz.results172 rfl (by rw [← h, hsep]; rfl) (fun _ h => h)
 ·repeat' (first|refine gL ?_|(refine gv ?_;(refine⟨fun hc=>?_,fun hc=>?_⟩<;>first|(exfalso;omega)|skip))|fail)
  (refine RT.ixs T (j := 0) rfl rfl (by omega) (by omega) (by assumption) rfl rfl rfl ?_)
  have h0 : sep.getD 0 0 = 64 := by rw [hsep]; rfl
  rw [h0]
  (refine RT.call T rfl fR_ (ibyte_fn (l := l) (c := 64)) rfl rfl rfl ?_; rintro _ _ ⟨rfl, rfl⟩; try simp only [List.cons_append, List.nil_append])
  try refine gL ?_
  exact AtQ.f1 Tryz.results172 rfl rfl (fun _ h => h)
theorem contains_fn {l : List Int} (hb : Byt l) : Sp B Tryz.prog 148 [vS l, vS [64]] R [] (fun v H' => v = .bool (decide ((64 : Int) ∈ l)) ∧ H' = []) := by
 have hsx : ∀ R, Sp B Tryz.prog 162 [vS l, vS [64]] R [] (fun v H' => v = .int .i64 (Lib.indexByte (str l).data.toList 64) ∧ H' = []) := fun R => by
  refine Sp.body Tryz.func162 rfl Tryz.ntmps162 (by simp) ?_
  simp only [argE, List.cons_append, List.nil_append, Nat.zero_add, Nat.reduceAdd]
  try refine gL ?_
  (refine RT.call T rfl fR_ (sindex_fn (l := l) (sep := [64]) rfl hb) rfl rfl rfl ?_; rintro _ _ ⟨rfl, rfl⟩; try simp only [List.cons_append, List.nil_append])
  try refine gL ?_
  exact AtQ.f1 Tryz.results162 rfl rfl (fun _ h => h)
 refine Sp.body Tryz.func148 rfl Tryz.ntmps148 (by simp) ?_
 simp only [argE, List.cons_append, List.nil_append, Nat.zero_add, Nat.reduceAdd]
 try refine gL ?_
 (refine RT.call T rfl fR_ (hsx _) rfl rfl rfl ?_; rintro _ _ ⟨rfl, rfl⟩; try simp only [List.cons_append, List.nil_append])
 have hm := idx_mem hb (c := 64) (by decide)
 rw [show (64 : Int).toNat.toUInt8 = 64 from rfl] at hm
 generalize Lib.indexByte (str l).data.toList 64 = q at *
 repeat' (first|refine gL ?_|(refine gv ?_;(refine⟨fun hc=>?_,fun hc=>?_⟩<;>first|(exfalso;omega)|skip))|fail)
 all_goals (refine AtQ.f1 Tryz.results148 rfl ?_ (fun _ h => h); rw [← hm]; congr 1; symm; first | (refine decide_eq_true ?_; omega) | (refine decide_eq_false ?_; omega))
theorem json_fn {f : FieldT} (hb : Byt f.js) (hn : Byt f.nm) (hl : f.nm.length ≤ 16777216) : Sp B Tryz.prog 149 [.agg f.cells.toArray] R [] (fun v H' => v = vS (jsonL f) ∧ H' = []) := by
 refine Sp.body Tryz.func149 rfl Tryz.ntmps149 (by simp) ?_
 simp only [argE, List.cons_append, List.nil_append, Nat.zero_add, Nat.reduceAdd]
 repeat' (first|refine gL ?_|(refine gb ?_;intro b)|fail)
 refine RT.nes (l := f.js) (l' := []) rfl rfl hb Byt.nil rfl rfl (fun he => ?_) (fun he => ?_)
 ·try refine gL ?_
  (refine RT.call T rfl fR_ (camel_fn (l := f.nm) hn (by omega)) rfl rfl rfl ?_; rintro _ _ ⟨rfl, rfl⟩; try simp only [List.cons_append, List.nil_append])
  try refine gL ?_
  exact AtQ.f1 Tryz.results149 rfl (by unfold jsonL; rw [if_pos he]) (fun _ h => h.tail)
 ·try refine gL ?_
  exact AtQ.f1 Tryz.results149 rfl (by unfold jsonL; rw [if_neg he]) (fun _ h => h.tail)
/-! ### references -/
theorem hasp_fn {l sep : List Int} (hsep : sep = [46]) (hb : Byt l) (hl : l.length ≤ 140737488355328) : Sp B Tryz.prog 181 [vS l, vS sep] R [] (fun v H' => v = .bool (decide (l.getD 0 0 = 46)) ∧ H' = []) := by
 refine Sp.body Tryz.func181 rfl Tryz.ntmps181 (by simp) ?_
 simp only [argE, List.cons_append, List.nil_append, Nat.zero_add, Nat.reduceAdd]
 have hsl : sep.length = 1 := by rw [hsep]; rfl
 have hsb : Byt sep := by rw [hsep]; exact Byt.one (by unfold isB; decide)
 repeat' (first|refine gL ?_|(refine gv ?_;(refine⟨fun hc=>?_,fun hc=>?_⟩<;>first|(exfalso;omega)|skip))|fail)
 ·refine RT.slsH T (j := 1) rfl rfl (by omega) (by omega) rfl rfl rfl ?_
  try refine gL ?_
  cases l with
  | nil => exfalso; simp only [List.length_nil] at *; omega
  | cons x m =>
   refine RT.eqs (l := [x]) (l' := sep) rfl rfl (hb.take 1) hsb rfl rfl (fun h => ?_) (fun h => ?_)
   ·try refine gL ?_
    exact AtQ.f1 Tryz.results181 rfl (by rw [hsep] at h; simp at h; subst h; rfl) (fun _ h => h)
   ·try refine gL ?_
    exact AtQ.f1 Tryz.results181 rfl (by rw [hsep] at h; simp at h; congr 1; symm; simpa using h) (fun _ h => h)
 ·have : l = [] := List.eq_nil_of_length_eq_zero (by omega)
  subst this
  exact AtQ.f1 Tryz.results181 rfl rfl (fun _ h => h)
theorem cutp_fn {l sep : List Int} (hsep : sep = [46]) (hb : Byt l) (hl : l.length ≤ 140737488355328) : Sp B Tryz.prog 173 [vS l, vS sep] R [] (fun v H' => v = .tuple #[vS (if l.getD 0 0 = 46 then l.drop 1 else l), .bool (decide (l.getD 0 0 = 46))] ∧ H' = []) := by
 refine Sp.body Tryz.func173 rfl Tryz.ntmps173 (by simp) ?_
 simp only [argE, List.cons_append, List.nil_append, Nat.zero_add, Nat.reduceAdd]
 have hsl : sep.length = 1 := by rw [hsep]; rfl
 try refine gL ?_
 (refine RT.call T rfl fR_ (hasp_fn hsep hb hl) rfl rfl rfl ?_; rintro _ _ ⟨rfl, rfl⟩; try simp only [List.cons_append, List.nil_append])
 by_cases h : l.getD 0 0 = 46
 ·rw [decide_eq_true h]
  have h0 : 1 ≤ l.length := by
   cases l with
   | nil => simp at h
   | cons x m => simp
  try refine gL ?_
  refine RT.slsL T (j := 1) rfl rfl (by omega) (by omega) rfl rfl rfl ?_
  try refine gL ?_
  exact AtQ.f2 Tryz.results173 rfl rfl (by rw [if_pos h]) rfl (fun _ h => h)
 ·rw [decide_eq_false h]
  try refine gL ?_
  exact AtQ.f2 Tryz.results173 rfl rfl (by rw [if_neg h]) rfl (fun _ h => h)
theorem cutprefix_fn {l : List Int} (hb : Byt l) (hl : l.length ≤ 140737488355328) : Sp B Tryz.prog 163 [vS l, vS [46]] R [] (fun v H' => v = .tuple #[vS (if l.getD 0 0 = 46 then l.drop 1 else l), .bool (decide (l.getD 0 0 = 46))] ∧ H' = []) := by
 refine Sp.body Tryz.func163 rfl Tryz.ntmps163 (by simp) ?_
 simp only [argE, List.cons_append, List.nil_append, Nat.zero_add, Nat.reduceAdd]
 try refine gL ?_
 (refine RT.call T rfl fR_ (cutp_fn (sep := [46]) rfl hb hl) rfl rfl rfl ?_; rintro _ _ ⟨rfl, rfl⟩; try simp only [List.cons_append, List.nil_append])
 try refine gL ?_
 exact AtQ.f2 Tryz.results163 rfl rfl rfl rfl (fun _ h => h)
theorem ref_fn {l : List Int} {m : Int} (hM : B.cell? ⟨0, 0, none⟩ = some (.int .i64 m)) (hb : Byt l) (hl : l.length ≤ 16777216) : Sp B Tryz.prog 144 [vS l] R [] (fun v H' => v = .bool (refB l) ∧ H' = []) := by
 refine Sp.body Tryz.func144 rfl Tryz.ntmps144 (by simp) ?_
 simp only [argE, List.cons_append, List.nil_append, Nat.zero_add, Nat.reduceAdd]
 try refine gL ?_
 (refine RT.call T rfl fR_ (cutprefix_fn hb (by omega)) rfl rfl rfl ?_; rintro _ _ ⟨rfl, rfl⟩; try simp only [List.cons_append, List.nil_append])
 by_cases h : l.getD 0 0 = 46
 ·rw [decide_eq_true h, if_pos h]
  have hd : (l.drop 1).length ≤ l.length := by rw [List.length_drop]; omega
  try refine gL ?_
  (refine RT.call T rfl fR_ (full_fn hM (hb.drop 1) (by omega)) rfl rfl rfl ?_; rintro _ _ ⟨rfl, rfl⟩; try simp only [List.cons_append, List.nil_append])
  cases hf : fullB (l.drop 1)
  ·try refine gL ?_
   exact AtQ.f1 Tryz.results144 rfl (by unfold refB; rw [if_pos h, hf]; rfl) (fun _ h => h)
  ·repeat' (first|refine gL ?_|(refine gv ?_;(refine⟨fun hc=>?_,fun hc=>?_⟩<;>first|(exfalso;omega)|skip))|fail)
   all_goals (refine AtQ.f1 Tryz.results144 rfl ?_ (fun _ h => h); unfold refB; rw [if_pos h, hf, Bool.true_and]; congr 1; symm; first | (refine decide_eq_true ?_; omega) | (refine decide_eq_false ?_; omega))
 ·rw [decide_eq_false h, if_neg h]
  try refine gL ?_
  (refine RT.call T rfl fR_ (full_fn hM hb (by omega)) rfl rfl rfl ?_; rintro _ _ ⟨rfl, rfl⟩; try simp only [List.cons_append, List.nil_append])
  try refine gL ?_
  exact AtQ.f1 Tryz.results144 rfl (by unfold refB; rw [if_neg h]) (fun _ h => h)
end Go.Proofs.YtdemnhdoadjhhaaGreatDoor
end
section
namespace Go.Proofs.YtdemnhdoadjhhaaGreatDoor
open Go.Sk
set_option maxRecDepth 100000
theorem joinS_snoc : ∀ (F : List (List Int)) (x : List Int), F ≠ [] → joinS (F ++ [x]) = joinS F ++ [46] ++ x
 | [], x, h => absurd rfl h
 | y :: r, x, _ => by simp [joinS, dotted]
theorem joinS_pos {F : List (List Int)} (h : F ≠ []) (hne : ∀ l ∈ F, l ≠ []) : 0 < (joinS F).length := by
 cases F with
 | nil => exact absurd rfl h
 | cons y r =>
  have := List.length_pos_iff.2 (hne y (by simp))
  simp only [joinS, List.length_append]
  omega
theorem filt_ne (ls : List (List Int)) : ∀ l ∈ filt ls, l ≠ [] := fun l hl h => by
 have := (List.mem_filter.1 hl).2
 rw [h] at this
 simp at this
theorem joinS_len : ∀ (F : List (List Int)), (joinS F).length ≤ sumL F + F.length
 | [] => by simp [joinS]
 | y :: r => by
  have := dotted_len r
  simp only [joinS, List.length_append, this, sumL, List.map_cons, List.sum_cons, List.length_cons]
  omega
theorem joinS_byt {F : List (List Int)} (h : ∀ l ∈ F, Byt l) : Byt (joinS F) := by
 cases F with
 | nil => exact Byt.nil
 | cons y r => exact (h y (by simp)).app (dotted_byt fun l hl => h l (by simp [hl]))
end Go.Proofs.YtdemnhdoadjhhaaGreatDoor
end
section
namespace Go.Proofs.YtdemnhdoadjhhaaGreatDoor
open Go.Sk
set_option maxRecDepth 100000
theorem Rd.pre {B : World} {H : List HP} {a : Option Addr} {k c sz j : Nat} {xs : List Value} (h : Rd B H a k c sz xs) (hj : j ≤ k) : Rd B H a j c sz (xs.take (j * sz)) := by
 have := Rd.sub (i := 0) (j := j) h (Nat.zero_le _) hj
 rw [asub_z] at this
 simpa using this
theorem flat_take {α : Type} {f : α → List Value} {z : Nat} (hz : ∀ x, (f x).length = z) {l : List α} {i : Nat} (h : i ≤ l.length) : (l.flatMap f).take (i * z) = (l.take i).flatMap f := by
 have h1 : l.flatMap f = (l.take i).flatMap f ++ (l.drop i).flatMap f := by rw [← List.flatMap_append, List.take_append_drop]
 have h2 : ((l.take i).flatMap f).length = i * z := by rw [flat_len hz, List.length_take, Nat.min_eq_left h]
 rw [h1, ← h2, List.take_left']
 rfl
theorem Rd.flatPre {B : World} {H : List HP} {α : Type} {f : α → List Value} {a : Option Addr} {k c sz j : Nat} {l : List α} (hz : ∀ x, (f x).length = sz) (h : Rd B H a k c sz (l.flatMap f)) (hk : l.length = k) (hj : j ≤ k) : Rd B H a j c sz ((l.take j).flatMap f) := by
 have := Rd.pre h hj
 rwa [flat_take hz (by omega)] at this
/-- Names that are given, as a map that counts. -/
def gvl (g : List Txt) : List (Value × Value) := g.map fun x => (vS x, .int .i64 1)
theorem gv_in {g : List Txt} {x : Txt} (h : x ∈ g) : ∃ i : Nat, (gvl g)[i]? = some (vS x, Value.int .i64 1) := by
 obtain ⟨i, hi, rfl⟩ := List.getElem_of_mem h
 exact ⟨i, by unfold gvl; rw [List.getElem?_map, List.getElem?_eq_getElem hi]; rfl⟩
theorem vS_inj {x y : Txt} (hx : Byt x) (hy : Byt y) (h : vS x = vS y) : x = y := by
 injection h with h
 exact (str_inj hx hy).1 h
theorem gv_no {g : List Txt} {x : Txt} (hg : ∀ y ∈ g, Byt y) (hx : Byt x) (h : x ∉ g) : MGet (gvl g) (vS x) none := fun y hy => by
 unfold gvl at hy
 obtain ⟨z, hz, rfl⟩ := List.mem_map.1 hy
 intro e
 exact h (vS_inj (hg z hz) hx e ▸ hz)
theorem gv_push {g : List Txt} {x : Txt} : gvl g ++ [(vS x, .int .i64 1)] = gvl (g ++ [x]) := by simp [gvl]
/-- The reader and its map. -/
abbrev rdr (br bm : Nat) : HP := Cs br 104 [.map (some bm)]
abbrev giv (bm : Nat) (g : List Txt) : HP := Mp .string bm (gvl g)
abbrev BL (l : List Txt) : Prop := ∀ y ∈ l, Byt y
theorem BL.push {l : List Txt} {x : Txt} (h : BL l) (hx : Byt x) : BL (l ++ [x]) := fun y hy => by
 rcases List.mem_append.1 hy with hy | hy
 ·exact h y hy
 ·rw [List.mem_singleton.1 hy]; exact hx
theorem b2 {x y : Txt} (hx : Byt x) (hy : Byt y) : ∀ l ∈ [x, y], Byt l := fun l hl => by
 rcases List.mem_cons.1 hl with rfl | hl
 ·exact hx
 ·rw [List.mem_singleton.1 hl]; exact hy
theorem j2_byt {x y : Txt} (hx : Byt x) (hy : Byt y) : Byt (joinL [x, y]) := joinS_byt (filt_mem (b2 hx hy))
theorem s2 (x y : Txt) : sumL [x, y] = x.length + y.length := by simp [sumL]
theorem j2_len {x y : Txt} : (joinL [x, y]).length ≤ x.length + y.length + 2 := by
 have h1 := joinS_len (filt [x, y])
 obtain ⟨h2, h3⟩ := filt_sum [x, y]
 rw [h2, s2] at h1
 unfold joinL
 simp only [List.length_cons, List.length_nil] at h3
 omega
/-- It goes on with more names given, or is given up. -/
abbrev PostR (r : Rs) (ps : List HP) (bm : Nat) : Value → List HP → Prop := fun _ H' => ∃ g, r = .ok g ∧ BL g ∧ H' = ps ++ [giv bm g]
abbrev PPR (r : Rs) : Value → List HP → Prop := fun v H' => ∃ e t, r = .error (e, t) ∧ v = wv e t ∧ H' = []
abbrev PostO (r : Option Flt) : Value → List HP → Prop := fun _ H' => r = none ∧ H' = []
abbrev PPO (r : Option Flt) : Value → List HP → Prop := fun v H' => ∃ e t, r = some (e, t) ∧ v = wv e t ∧ H' = []
attribute [local irreducible] Cs Own Ex Pu Yld RT LJ QJ AtQ CT Rd QSp Sp FinQ Then LoopQ CutQ DT TakeQ EffQ
variable {B : World} {R : List HP}
set_option maxHeartbeats 1000000 in
theorem give_fn {br bm : Nat} {g : List Txt} {nm full : Txt} (hg : BL g) (hn : Byt nm) (hf : Byt full) (hnl : nm.length ≤ 16777216) (hfl : full.length ≤ 140737488355327) :
  SpP B Tryz.prog 115 [ptr br, vS nm, vS full] R [rdr br bm, giv bm g] (PostR (giveR nm full g) [rdr br bm] bm) (PPR (giveR nm full g)) := by
 refine SpP.body Tryz.func115 rfl Tryz.ntmps115 (by simp) ?_
 simp only [argE, List.cons_append, List.nil_append, Nat.zero_add, Nat.reduceAdd]
 try refine gL ?_
 (refine RT.call T rfl fR_ (ident_fn hn (by omega)) rfl rfl rfl ?_; rintro _ _ ⟨rfl, rfl⟩; try simp only [List.cons_append, List.nil_append])
 cases hi : identB nm
 ·try refine gL ?_
  (refine RT.callP T rfl fR_ (must_fn (p := false) (e := 60) (t := full)) rfl rfl rfl (fun v H1 hp => ?_) (fun v H1 hp => ?_))
  ·obtain ⟨_, rfl, rfl⟩ := hp
   ((repeat refine nx ?_); exact AtQ.finP (H' := []) ⟨60, full, by unfold giveR; rw [hi]; rfl, rfl, rfl⟩ dR_)
  ·cases hp.1
 ·repeat' (first|refine gL ?_|(refine gv ?_;(refine⟨fun hc=>?_,fun hc=>?_⟩<;>first|(exfalso;omega)|skip))|fail)
  ·(refine RT.callP T rfl fR_ (must_fn (p := true) (e := 60) (t := full)) rfl rfl rfl (fun v H1 hp => ?_) (fun v H1 hp => ?_))
   ·cases hp.1
   ·obtain ⟨_, rfl⟩ := hp
    have hG : giveR nm full g = must (decide (full ∉ g)) 61 full (.ok (g ++ [full])) := by
     unfold giveR
     rw [must_t (by rw [hi, decide_eq_true (by omega)]; rfl)]
    simp only [List.cons_append, List.nil_append]
    try refine gL ?_
    by_cases hm : full ∈ g
    ·obtain ⟨i, hgi⟩ := gv_in hm
     refine RT.lookup (dk := .string) (r := some (.int .i64 1)) T rfl rfl sE_ trivial ⟨i, hgi⟩ Tryz.underlying102 Tryz.underlying9 rfl rfl rfl ?_
     dsimp only [Option.getD]
     repeat' (first|refine gL ?_|(refine gv ?_;refine gk ?_)|fail)
     refine RT.mapSet (dk := .string) (l := gvl g) rfl rfl rfl (by ((repeat constructor);done)) trivial hgi Tryz.underlying102 Tryz.underlying9 rfl ?_
     try refine gL ?_
     refine RT.lookup (dk := .string) (r := some (.int .i64 2)) T rfl rfl sE_ trivial ⟨i, by rw [List.getElem?_set_self (List.getElem?_eq_some_iff.1 hgi).1]; rfl⟩ Tryz.underlying102 Tryz.underlying9 rfl rfl rfl ?_
     dsimp only [Option.getD]
     repeat' (first|refine gL ?_|(refine gv ?_;(refine⟨fun hc=>?_,fun hc=>?_⟩<;>first|(exfalso;omega)|skip))|fail)
     (refine RT.callP T rfl fR_ (must_fn (p := false) (e := 61) (t := full)) rfl rfl rfl (fun v H1 hp => ?_) (fun v H1 hp => ?_))
     ·obtain ⟨_, rfl, rfl⟩ := hp
      ((repeat refine nx ?_); exact AtQ.finP (H' := []) ⟨61, full, by rw [hG]; exact must_f (decide_eq_false (fun h => h hm)), rfl, rfl⟩ dR_)
     ·cases hp.1
    ·refine RT.lookup (dk := .string) (r := none) T rfl rfl sE_ trivial (gv_no hg hf hm) Tryz.underlying102 Tryz.underlying9 rfl rfl rfl ?_
     dsimp only [Option.getD]
     repeat' (first|refine gL ?_|(refine gv ?_;refine gk ?_)|fail)
     refine RT.mapNew (dk := .string) (l := gvl g) rfl rfl rfl (by ((repeat constructor);done)) trivial (gv_no hg hf hm) Tryz.underlying102 Tryz.underlying9 rfl ?_
     rw [show (0 : Int) + 1 = 1 from rfl, gv_push]
     obtain ⟨i, hgi⟩ := gv_in (g := g ++ [full]) (x := full) (by simp)
     try refine gL ?_
     refine RT.lookup (dk := .string) (r := some (.int .i64 1)) T rfl rfl sE_ trivial ⟨i, hgi⟩ Tryz.underlying102 Tryz.underlying9 rfl rfl rfl ?_
     dsimp only [Option.getD]
     repeat' (first|refine gL ?_|(refine gv ?_;(refine⟨fun hc=>?_,fun hc=>?_⟩<;>first|(exfalso;omega)|skip))|fail)
     (refine RT.callP T rfl fR_ (must_fn (p := true) (e := 61) (t := full)) rfl rfl rfl (fun v H1 hp => ?_) (fun v H1 hp => ?_))
     ·cases hp.1
     ·obtain ⟨_, rfl⟩ := hp
      try refine gL ?_
      exact AtQ.ofFinN (AtQ.fin0 Tryz.results115 (H' := [rdr br bm, giv bm (g ++ [full])]) ⟨g ++ [full], by rw [hG]; exact must_t (decide_eq_true hm), hg.push hf, rfl⟩ (fun w h => h) _ (.inl rfl))
  ·(refine RT.callP T rfl fR_ (must_fn (p := false) (e := 60) (t := full)) rfl rfl rfl (fun v H1 hp => ?_) (fun v H1 hp => ?_))
   ·obtain ⟨_, rfl, rfl⟩ := hp
    ((repeat refine nx ?_); exact AtQ.finP (H' := []) ⟨60, full, by unfold giveR; exact must_f (by rw [decide_eq_false (by omega)]; simp), rfl, rfl⟩ dR_)
   ·cases hp.1
set_option maxHeartbeats 1000000 in
theorem spans_fn {r : Rw SpanT} {lo hi : Int} {t : Txt} (hR : Rd B R r.a r.l.length r.c 2 (r.l.flatMap SpanT.cells)) (hk : r.l.length ≤ 140737488355328) :
  SpP B Tryz.prog 116 [r.v, .int .i32 lo, .int .i32 hi, vS t] R [] (PostO (spansF lo hi t [] r.l)) (PPO (spansF lo hi t [] r.l)) := by
 obtain ⟨a, c, l⟩ := r
 simp only [Rw.v] at *
 refine SpP.body Tryz.func116 rfl Tryz.ntmps116 (by simp) ?_
 simp only [argE, List.cons_append, List.nil_append, Nat.zero_add, Nat.reduceAdd]
 try refine gL ?_
 refine CT.loop (α := Nat) (fun i => [(0, .slice a l.length c), (1, .int .i32 lo), (2, .int .i32 hi), (3, vS t), (12, .slice a l.length c), (13, .int .i64 l.length), (14, .int .i64 i)]) (fun i => Pu (i ≤ l.length ∧ spansF lo hi t [] l = spansF lo hi t (l.take i) (l.drop i)) :: R) (fun i => l.length - i) 0
  ⟨rfl, rfl, rfl, rfl, rfl, rfl, rfl, trivial⟩ (fun w h => Sat.pu_in ⟨Nat.zero_le _, rfl⟩ h) (fun i => CT.pu fun ⟨hil, hF⟩ => ?_)
 repeat' (first|refine gL ?_|(refine gv ?_;(refine⟨fun hc=>?_,fun hc=>?_⟩<;>first|(exfalso;omega)|skip))|fail)
 ·have hi' : i < l.length := by omega
  rw [List.drop_eq_getElem_cons hi', spansF] at hF
  have hgi := List.getElem?_eq_getElem hi'
  have htk : l.take i ++ [l[i]] = l.take (i + 1) := by rw [List.take_add_one, hgi]; rfl
  rw [htk] at hF
  revert hF hgi htk
  generalize l[i] = s
  intro hF hgi htk
  refine RT.ix T (j := i * 2) rfl rfl rfl (by exact hR) (by omega) (by omega) (by omega) rfl rfl ?_
  refine RT.ldra T rfl (by exact hR) (l := s.cells) (flat_sub (f := SpanT.cells) (z := 2) (fun _ => rfl) l i _ hgi) rfl rfl rfl rfl ?_
  repeat' (first|refine gM ?_|(refine gv ?_;(refine⟨fun hc=>?_,fun hc=>?_⟩<;>first|(exfalso;omega)|skip))|(refine gb ?_;intro b)|fail)
  ·(refine RT.callP T rfl fR_ (must_fn (p := true) (e := 63) (t := t)) rfl rfl rfl (fun v H1 hp => ?_) (fun v H1 hp => ?_))
   ·cases hp.1
   obtain ⟨_, rfl⟩ := hp
   try refine gL ?_
   refine RT.slhi T (j := i) rfl rfl rfl (by have := Rd.le hR; omega) rfl rfl rfl ?_
   rw [asub_z]
   have hA := Rd.flatPre (f := SpanT.cells) (j := i) (fun _ => rfl) hR rfl hil
   have hAl : (l.take i).length = i := by rw [List.length_take]; omega
   generalize l.take i = ah at *
   simp only [List.nil_append]
   try refine gL ?_
   refine CT.loop (α := Nat) (fun k => [(0, .slice a l.length c), (1, .int .i32 lo), (2, .int .i32 hi), (3, vS t), (9, .pointer (some ⟨b, 0, none⟩)), (12, .slice a l.length c), (13, .int .i64 l.length), (14, .int .i64 i), (40, .slice a i c), (41, .int .i64 i), (42, .int .i64 k)])
    (fun k => Pu (k ≤ i ∧ ∀ o ∈ ah.take k, s.t < o.f ∨ o.t < s.f) :: Cs b 158 s.cells :: R) (fun k => i - k) 0
    ⟨rfl, rfl, rfl, rfl, rfl, rfl, rfl, rfl, rfl, rfl, rfl, trivial⟩ (fun w h => Sat.pu_in ⟨Nat.zero_le _, fun o ho => by simp at ho⟩ h) (fun k => CT.pu fun ⟨hki, hko⟩ => ?_)
   repeat' (first|refine gL ?_|(refine gv ?_;first|(refine⟨fun hc=>?_,fun hc=>?_⟩<;>first|(exfalso;omega)|skip)|refine gk ?_)|fail)
   ·have hka : k < ah.length := by omega
    have hgk := List.getElem?_eq_getElem hka
    revert hgk
    generalize ah[k] = o
    intro hgk
    refine RT.ix T (j := k * 2) rfl rfl rfl (by exact Rd.cons hA) (by omega) (by omega) (by omega) rfl rfl ?_
    refine RT.ldra T rfl (by exact Rd.cons hA) (l := o.cells) (flat_sub (f := SpanT.cells) (z := 2) (fun _ => rfl) ah k _ hgk) rfl rfl rfl rfl ?_
    repeat' (first|refine gM ?_|(refine gv ?_;(refine⟨fun hc=>?_,fun hc=>?_⟩<;>first|(exfalso;omega)|skip))|(refine gb ?_;intro b)|fail)
    ·(refine RT.callP T rfl fR_ (must_fn (p := true) (e := 63) (t := t)) rfl rfl rfl (fun v H1 hp => ?_) (fun v H1 hp => ?_))
     ·cases hp.1
     ·obtain ⟨_, rfl⟩ := hp
      repeat' (first|refine gL ?_|(refine gv ?_;refine gk ?_)|fail)
      exact AtQ.loop (k + 1) ⟨rfl, rfl, rfl, rfl, rfl, rfl, rfl, rfl, rfl, rfl, rfl, trivial⟩ (fun w h => Sat.pu_in ⟨by omega, sm_take hgk hko (by omega)⟩ h.tail) (by omega)
    ·(refine RT.callP T rfl fR_ (must_fn (p := true) (e := 63) (t := t)) rfl rfl rfl (fun v H1 hp => ?_) (fun v H1 hp => ?_))
     ·cases hp.1
     ·obtain ⟨_, rfl⟩ := hp
      repeat' (first|refine gL ?_|(refine gv ?_;refine gk ?_)|fail)
      exact AtQ.loop (k + 1) ⟨rfl, rfl, rfl, rfl, rfl, rfl, rfl, rfl, rfl, rfl, rfl, trivial⟩ (fun w h => Sat.pu_in ⟨by omega, sm_take hgk hko (by omega)⟩ h.tail) (by omega)
    ·(refine RT.callP T rfl fR_ (must_fn (p := false) (e := 63) (t := t)) rfl rfl rfl (fun v H1 hp => ?_) (fun v H1 hp => ?_))
     ·obtain ⟨_, rfl, rfl⟩ := hp
      ((repeat refine nx ?_); exact AtQ.finP (H' := []) ⟨63, t, by rw [hF, if_neg (by rintro ⟨h1, h2, h3, h4⟩; have := h4 o (List.mem_of_getElem? hgk); omega)], rfl, rfl⟩ dR_)
     ·cases hp.1
   ·have hke : k = i := by omega
    subst hke
    rw [List.take_of_length_le (by omega)] at hko
    rw [if_pos ⟨by omega, by omega, by omega, hko⟩] at hF
    exact AtQ.loop (k + 1) ⟨rfl, rfl, rfl, rfl, rfl, rfl, rfl, trivial⟩ (fun w h => Sat.pu_in ⟨by omega, hF⟩ h.tail) (by omega)
  all_goals
   (refine RT.callP T rfl fR_ (must_fn (p := false) (e := 63) (t := t)) rfl rfl rfl (fun v H1 hp => ?_) (fun v H1 hp => ?_))
   ·obtain ⟨_, rfl, rfl⟩ := hp
    ((repeat refine nx ?_); exact AtQ.finP (H' := []) ⟨63, t, by rw [hF, if_neg (by rintro ⟨h1, h2, h3, _⟩; omega)], rfl, rfl⟩ dR_)
   ·cases hp.1
 ·refine AtQ.ofFinN (AtQ.fin0 Tryz.results116 (H' := []) ⟨?_, rfl⟩ (fun w h => h) _ (.inl rfl))
  rw [hF, List.drop_of_length_le (by omega)]
  cases l.take i <;> rfl
end Go.Proofs.YtdemnhdoadjhhaaGreatDoor
end
section
namespace Go.Proofs.YtdemnhdoadjhhaaGreatDoor
open Go.Sk
set_option maxRecDepth 100000
/-- Texts that can be read, are bytes and short. -/
structure TxR (B : World) (R : List HP) (r : Rw Txt) : Prop where
 rd : Rd B R r.a r.l.length r.c 1 (r.l.map vS)
 len : r.l.length ≤ 140737488355328
 byt : BL r.l
 sm : SmT r.l
theorem s2l {x y : Txt} (h1 : x.length ≤ 16777216) (h2 : y.length ≤ 16777216) : sumL [x, y] + [x, y].length ≤ 1000000000000 := by
 rw [s2]
 simp only [List.length_cons, List.length_nil]
 omega
theorem map_take {l : List Txt} {j : Nat} : (l.map vS).take (j * 1) = (l.take j).map vS := by rw [Nat.mul_one, List.map_take]
theorem Rd.txtPre {B : World} {H : List HP} {a : Option Addr} {k c j : Nat} {l : List Txt} (h : Rd B H a k c 1 (l.map vS)) (hj : j ≤ k) : Rd B H a j c 1 ((l.take j).map vS) := by
 have := Rd.pre h hj
 rwa [map_take] at this
attribute [local irreducible] Cs Own Ex Pu Yld RT LJ QJ AtQ CT Rd QSp Sp FinQ Then LoopQ CutQ DT TakeQ EffQ
variable {B : World} {R : List HP}
set_option maxHeartbeats 1000000 in
theorem reserved_fn {r : Rw Txt} {sc : Txt} (hr : TxR B R r) (hs : Byt sc) (hsl : sc.length ≤ 16777216) :
  SpP B Tryz.prog 117 [r.v, vS sc] R [] (PostO (namesF sc [] r.l)) (PPO (namesF sc [] r.l)) := by
 obtain ⟨a, c, l⟩ := r
 obtain ⟨hR, hk, hb, hsm⟩ := hr
 simp only [Rw.v] at *
 refine SpP.body Tryz.func117 rfl Tryz.ntmps117 (by simp) ?_
 simp only [argE, List.cons_append, List.nil_append, Nat.zero_add, Nat.reduceAdd]
 try refine gL ?_
 refine CT.loop (α := Nat) (fun i => [(0, .slice a l.length c), (1, vS sc), (7, .slice a l.length c), (8, .int .i64 l.length), (9, .int .i64 i)]) (fun i => Pu (i ≤ l.length ∧ namesF sc [] l = namesF sc (l.take i) (l.drop i)) :: R) (fun i => l.length - i) 0
  ⟨rfl, rfl, rfl, rfl, rfl, trivial⟩ (fun w h => Sat.pu_in ⟨Nat.zero_le _, rfl⟩ h) (fun i => CT.pu fun ⟨hil, hF⟩ => ?_)
 repeat' (first|refine gL ?_|(refine gv ?_;(refine⟨fun hc=>?_,fun hc=>?_⟩<;>first|(exfalso;omega)|skip))|fail)
 ·have hi' : i < l.length := by omega
  have hgi := List.getElem?_eq_getElem hi'
  rw [List.drop_eq_getElem_cons hi', namesF] at hF
  have htk : l.take i ++ [l[i]] = l.take (i + 1) := by rw [List.take_add_one, hgi]; rfl
  rw [htk] at hF
  have hbn := hb _ (List.getElem_mem hi')
  have hsn := hsm _ (List.getElem_mem hi')
  revert hF hgi htk hbn hsn
  generalize l[i] = n
  intro hF hgi htk hbn hsn
  refine RT.ix T (j := i) rfl rfl rfl (by exact hR) (by omega) (by omega) (by omega) rfl rfl ?_
  refine RT.ldr T rfl (by exact hR) (u := vS n) (by rw [List.getElem?_map, hgi]; rfl) rfl rfl rfl ?_
  try refine gL ?_
  (refine RT.bs T (l := strs [sc,  n]) rfl rfl rfl rfl rfl rfl rfl (fun a9 c9 h9 => ?_); (refine RT.call T rfl fR_ (join_fn (ls := [sc,  n]) (Own.rd (by ((repeat constructor);done)) rfl h9) rfl (b2  hs  hbn) ( s2l hsl hsn)) rfl rfl rfl ?_; rintro _ _ ⟨rfl, rfl⟩; try simp only [List.cons_append, List.nil_append]); refine RT.weak (fun w h => h.tail) ?_)
  try refine gL ?_
  (refine RT.call T rfl fR_ (ident_fn hbn (by omega)) rfl rfl rfl ?_; rintro _ _ ⟨rfl, rfl⟩; try simp only [List.cons_append, List.nil_append])
  try refine gL ?_
  cases hid : identB n
  ·rw [hid, if_neg (by decide)] at hF
   (refine RT.callP T rfl fR_ (must_fn (p := false) (e := 60) (t := joinL [sc, n])) rfl rfl rfl (fun v H1 hp => ?_) (fun v H1 hp => ?_))
   ·obtain ⟨_, rfl, rfl⟩ := hp
    ((repeat refine nx ?_); exact AtQ.finP (H' := []) ⟨60, joinL [sc, n], hF, rfl, rfl⟩ dR_)
   ·cases hp.1
  ·rw [hid, if_pos rfl] at hF
   (refine RT.callP T rfl fR_ (must_fn (p := true) (e := 60) (t := joinL [sc, n])) rfl rfl rfl (fun v H1 hp => ?_) (fun v H1 hp => ?_))
   ·cases hp.1
   ·obtain ⟨_, rfl⟩ := hp
    try refine gL ?_
    refine RT.slhi T (j := i) rfl rfl rfl (by have := Rd.le hR; omega) rfl rfl rfl ?_
    rw [asub_z]
    have hA := Rd.txtPre (j := i) hR hil
    have hAl : (l.take i).length = i := by rw [List.length_take]; omega
    have hAb : BL (l.take i) := fun t ht => hb t (List.mem_of_mem_take ht)
    simp only [List.nil_append]
    try refine gL ?_
    (refine RT.call T rfl fR_ (contT_fn hAl (by omega) hA hAb hbn) rfl rfl rfl ?_; rintro _ _ ⟨rfl, rfl⟩; try simp only [List.cons_append, List.nil_append])
    by_cases hm : n ∈ l.take i
    ·rw [decide_eq_true hm]
     rw [if_pos hm] at hF
     try refine gL ?_
     (refine RT.callP T rfl fR_ (must_fn (p := false) (e := 61) (t := joinL [sc, n])) rfl rfl rfl (fun v H1 hp => ?_) (fun v H1 hp => ?_))
     ·obtain ⟨_, rfl, rfl⟩ := hp
      ((repeat refine nx ?_); exact AtQ.finP (H' := []) ⟨61, joinL [sc, n], hF, rfl, rfl⟩ dR_)
     ·cases hp.1
    ·rw [decide_eq_false hm]
     rw [if_neg hm] at hF
     try refine gL ?_
     (refine RT.callP T rfl fR_ (must_fn (p := true) (e := 61) (t := joinL [sc, n])) rfl rfl rfl (fun v H1 hp => ?_) (fun v H1 hp => ?_))
     ·cases hp.1
     ·obtain ⟨_, rfl⟩ := hp
      repeat' (first|refine gL ?_|(refine gv ?_;refine gk ?_)|fail)
      exact AtQ.loop (i + 1) ⟨rfl, rfl, rfl, rfl, rfl, trivial⟩ (fun w h => Sat.pu_in ⟨by omega, hF⟩ h) (by omega)
 ·refine AtQ.ofFinN (AtQ.fin0 Tryz.results117 (H' := []) ⟨?_, rfl⟩ (fun w h => h) _ (.inl rfl))
  rw [hF, List.drop_of_length_le (by omega)]
  cases l.take i <;> rfl
end Go.Proofs.YtdemnhdoadjhhaaGreatDoor
end
section
namespace Go.Proofs.YtdemnhdoadjhhaaGreatDoor
open Go.Sk
set_option maxRecDepth 100000
attribute [local irreducible] Cs Own Ex Pu Yld RT LJ QJ AtQ CT Rd QSp Sp FinQ Then LoopQ CutQ DT TakeQ EffQ
attribute [local irreducible] Bd
variable {B : World} {R : List HP}
theorem rin_fn {x lo hi : Int} : Sp B Tryz.prog 112 [.int .u8 x, .int .u8 lo, .int .u8 hi] R [] (fun v H' => v = .bool (decide (lo ≤ x ∧ x ≤ hi)) ∧ H' = []) := by
 refine Sp.body Tryz.func112 rfl Tryz.ntmps112 (by simp) ?_
 simp only [argE, List.cons_append, List.nil_append, Nat.zero_add, Nat.reduceAdd]
 repeat' (first|refine gL ?_|(refine gv ?_;(refine⟨fun hc=>?_,fun hc=>?_⟩<;>first|(exfalso;omega)|skip))|fail)
 all_goals exact AtQ.f1 Tryz.results112 rfl (by first | (apply dec_t; omega) | (apply dec_f; omega)) (fun w h => h)
theorem rsmall_fn {x : Int} : Sp B Tryz.prog 110 [.int .u8 x] R [] (fun v H' => v = .bool (decide (97 ≤ x ∧ x ≤ 122)) ∧ H' = []) := by
 refine Sp.body Tryz.func110 rfl Tryz.ntmps110 (by simp) ?_
 simp only [argE, List.cons_append, List.nil_append, Nat.zero_add, Nat.reduceAdd]
 try refine gL ?_
 (refine RT.call T rfl fR_ (rin_fn) rfl rfl rfl ?_; rintro _ _ ⟨rfl, rfl⟩; try simp only [List.cons_append, List.nil_append])
 try refine gL ?_
 exact AtQ.f1 Tryz.results110 rfl rfl (fun w h => h)
theorem rcapital_fn {x : Int} : Sp B Tryz.prog 111 [.int .u8 x] R [] (fun v H' => v = .bool (decide (65 ≤ x ∧ x ≤ 90)) ∧ H' = []) := by
 refine Sp.body Tryz.func111 rfl Tryz.ntmps111 (by simp) ?_
 simp only [argE, List.cons_append, List.nil_append, Nat.zero_add, Nat.reduceAdd]
 try refine gL ?_
 (refine RT.call T rfl fR_ (rin_fn) rfl rfl rfl ?_; rintro _ _ ⟨rfl, rfl⟩; try simp only [List.cons_append, List.nil_append])
 try refine gL ?_
 exact AtQ.f1 Tryz.results111 rfl rfl (fun w h => h)
theorem rdigit_fn {x : Int} : Sp B Tryz.prog 85 [.int .u8 x] R [] (fun v H' => v = .bool (decide (48 ≤ x ∧ x ≤ 57)) ∧ H' = []) := by
 refine Sp.body Tryz.func85 rfl Tryz.ntmps85 (by simp) ?_
 simp only [argE, List.cons_append, List.nil_append, Nat.zero_add, Nat.reduceAdd]
 try refine gL ?_
 (refine RT.call T rfl fR_ (rin_fn) rfl rfl rfl ?_; rintro _ _ ⟨rfl, rfl⟩; try simp only [List.cons_append, List.nil_append])
 try refine gL ?_
 exact AtQ.f1 Tryz.results85 rfl rfl (fun w h => h)
theorem rletter_fn {x : Int} : Sp B Tryz.prog 84 [.int .u8 x] R [] (fun v H' => v = .bool (decide (isLet x)) ∧ H' = []) := by
 refine Sp.body Tryz.func84 rfl Tryz.ntmps84 (by simp) ?_
 simp only [argE, List.cons_append, List.nil_append, Nat.zero_add, Nat.reduceAdd]
 try refine gL ?_
 (refine RT.call T rfl fR_ (rsmall_fn) rfl rfl rfl ?_; rintro _ _ ⟨rfl, rfl⟩; try simp only [List.cons_append, List.nil_append])
 by_cases ha : 97 ≤ x ∧ x ≤ 122
 ·rw [decide_eq_true ha]
  try refine gL ?_
  exact AtQ.f1 Tryz.results84 rfl (by rw [decide_eq_true (show isLet x from .inl ha)]) (fun w h => h)
 ·rw [decide_eq_false ha]
  try refine gL ?_
  (refine RT.qcall T rfl (QSp.of fR_ (rcapital_fn)) rfl rfl rfl ?_)
  by_cases hA : 65 ≤ x ∧ x ≤ 90
  ·rw [decide_eq_true hA]
   try refine gL ?_
   exact AtQ.f1 Tryz.results84 rfl (by rw [decide_eq_true (show isLet x from .inr (.inl hA))]) (fun w h => h)
  ·rw [decide_eq_false hA]
   repeat' (first|refine gL ?_|(refine gv ?_;(refine⟨fun hc=>?_,fun hc=>?_⟩<;>first|(exfalso;omega)|skip))|fail)
   ·exact AtQ.f1 Tryz.results84 rfl (by rw [decide_eq_true (show isLet x from .inr (.inr (by assumption)))]) (fun w h => h)
   ·exact AtQ.f1 Tryz.results84 rfl (by rw [decide_eq_false (show ¬ isLet x from by rintro (h | h | h); exact ha h; exact hA h; exact absurd h (by assumption))]) (fun w h => h)
set_option maxHeartbeats 1000000 in
theorem rcamel_fn {l : List Int} (hb : Byt l) (hl : l.length ≤ 140737488355327) : Sp B Tryz.prog 86 [.string (str l)] R [] (fun v H' => v = .string (str (camelL l)) ∧ H' = []) := by
 refine Sp.body Tryz.func86 rfl Tryz.ntmps86 (by simp) ?_
 simp only [argE, List.cons_append, List.nil_append, Nat.zero_add, Nat.reduceAdd]
 try refine gL ?_
 refine CT.weak (fun w h => Sat.nilOwn (e := 5) (sz := 1) h) ?_
 refine CT.loop (α := Nat × Bool × List Int × Option Addr × Nat) (fun s => [(0, .string (str l)), (3, .slice s.2.2.2.1 s.2.2.1.length s.2.2.2.2), (4, .bool s.2.1), (5, .int .i64 s.1)]) (fun s => Pu (CamI l s.1 s.2.1 s.2.2.1) :: own8 s.2.2.2.1 s.2.2.2.2 s.2.2.1 :: R) (fun s => l.length - s.1) (0, false, [], none, 0) ⟨rfl, rfl, rfl, rfl, trivial⟩
  (fun w h => Sat.pu_in ⟨by simp, rfl, Byt.nil, by simp⟩ h) (fun s => CT.pu fun hs => ?_)
 obtain ⟨i, bb, out, a, c⟩ := s
 have hi := hs.1
 simp only at hs hi ⊢
 have hlo := hs.2.2.2
 have fin : ∀ (x : Int) (a' : Option Addr) (c' : Nat) (w : World), Sat B (Own a' c' 5 1 (out.length + 1) (ints .u8 (out ++ [x])) :: R) w → Sat B (own8 a' c' (out ++ [x]) :: R) w := fun x a' c' w h => by
  rw [show out.length + 1 = (out ++ [x]).length by simp] at h
  exact h
 cases bb
 all_goals repeat' (first|refine gL ?_|(refine gv ?_;(refine⟨fun hc=>?_,fun hc=>?_⟩<;>first|(exfalso;omega)|skip))|fail)
 ·(refine RT.ixs T (j := i) rfl rfl (by omega) (by omega) (by assumption) rfl rfl rfl ?_)
  obtain ⟨h0, h1⟩ := hb.get (i := i) (by omega)
  repeat' (first|refine gL ?_|(refine gv ?_;first|(refine⟨fun hc=>?_,fun hc=>?_⟩<;>first|(exfalso;omega)|skip)|refine gk ?_)|fail)
  ·exact AtQ.loop (i + 1, true, out, a, c) ⟨rfl, rfl, rfl, rfl, trivial⟩ (fun w h => Sat.pu_in (hs.a (by omega) (by assumption)) h) (by simp only; omega)
  ·(refine RT.call T rfl fR_ (rsmall_fn) rfl rfl rfl ?_; rintro _ _ ⟨rfl, rfl⟩; try simp only [List.cons_append, List.nil_append])
   repeat' (first|refine gL ?_|(refine gv ?_;refine gk ?_)|(refine RT.isPush ?_;refine gp ?_;intro a' c' b' c1' hac)|fail)
   exact AtQ.loop (i + 1, false, out ++ [l.getD i 0], a', c') ⟨rfl, by simp only [List.length_append, List.length_singleton]; rfl, rfl, rfl, trivial⟩ (fun w h => Sat.pu_in (hs.c hb (by omega) (by assumption) (by simp)) (fin _ _ _ _ (h.frd (Ps := [_]) (Qs := []) fR_))) (by simp only; omega)
 ·obtain rfl : i = l.length := by omega
  have he : out = camelL l := by have := hs.2.1; simpa [camelF] using this
  refine RT.fact (p := out.length ≤ c) (fun w h => (Own.facts h sE_).2.1) fun hoc => ?_
  refine RT.convBS T rfl (Own.rdI sE_ rfl hoc) hs.2.2.1 Tryz.underlying162 Tryz.underlying5 rfl rfl rfl ?_
  try refine gL ?_
  exact AtQ.f1 Tryz.results86 rfl (by rw [he]) (fun w h => h.tail)
 ·(refine RT.ixs T (j := i) rfl rfl (by omega) (by omega) (by assumption) rfl rfl rfl ?_)
  obtain ⟨h0, h1⟩ := hb.get (i := i) (by omega)
  repeat' (first|refine gL ?_|(refine gv ?_;first|(refine⟨fun hc=>?_,fun hc=>?_⟩<;>first|(exfalso;omega)|skip)|refine gk ?_)|fail)
  ·exact AtQ.loop (i + 1, true, out, a, c) ⟨rfl, rfl, rfl, rfl, trivial⟩ (fun w h => Sat.pu_in (hs.a (by omega) (by assumption)) h) (by simp only; omega)
  ·(refine RT.call T rfl fR_ (rsmall_fn) rfl rfl rfl ?_; rintro _ _ ⟨rfl, rfl⟩; try simp only [List.cons_append, List.nil_append])
   by_cases hsm : 97 ≤ l.getD i 0 ∧ l.getD i 0 ≤ 122
   ·rw [decide_eq_true hsm]
    repeat' (first|refine gL ?_|(refine gv ?_;refine gk ?_)|(refine RT.isPush ?_;refine gp ?_;intro a' c' b' c1' hac)|fail)
    exact AtQ.loop (i + 1, false, out ++ [l.getD i 0 - 32], a', c') ⟨rfl, by simp only [List.length_append, List.length_singleton]; rfl, rfl, rfl, trivial⟩ (fun w h => Sat.pu_in (hs.b hb (by omega) (by assumption) hsm) (fin _ _ _ _ (h.frd (Ps := [_]) (Qs := []) fR_))) (by simp only; omega)
   ·rw [decide_eq_false hsm]
    repeat' (first|refine gL ?_|(refine gv ?_;refine gk ?_)|(refine RT.isPush ?_;refine gp ?_;intro a' c' b' c1' hac)|fail)
    exact AtQ.loop (i + 1, false, out ++ [l.getD i 0], a', c') ⟨rfl, by simp only [List.length_append, List.length_singleton]; rfl, rfl, rfl, trivial⟩ (fun w h => Sat.pu_in (hs.c hb (by omega) (by assumption) (fun h => hsm h.2)) (fin _ _ _ _ (h.frd (Ps := [_]) (Qs := []) fR_))) (by simp only; omega)
 ·obtain rfl : i = l.length := by omega
  have he : out = camelL l := by have := hs.2.1; simpa [camelF] using this
  refine RT.fact (p := out.length ≤ c) (fun w h => (Own.facts h sE_).2.1) fun hoc => ?_
  refine RT.convBS T rfl (Own.rdI sE_ rfl hoc) hs.2.2.1 Tryz.underlying162 Tryz.underlying5 rfl rfl rfl ?_
  try refine gL ?_
  exact AtQ.f1 Tryz.results86 rfl (by rw [he]) (fun w h => h.tail)
end Go.Proofs.YtdemnhdoadjhhaaGreatDoor
end
section
namespace Go.Proofs.YtdemnhdoadjhhaaGreatDoor
open Go.Sk
set_option maxRecDepth 100000
attribute [local irreducible] Cs Own Ex Pu Yld RT LJ QJ AtQ CT Rd QSp Sp FinQ Then LoopQ CutQ DT TakeQ EffQ
attribute [local irreducible] Bd
variable {B : World} {R : List HP}
set_option maxHeartbeats 1000000 in
theorem rident_fn {l : List Int} (hb : Byt l) (hl : l.length ≤ 140737488355328) : Sp B Tryz.prog 27 [.string (str l)] R [] (fun v H' => v = .bool (identB l) ∧ H' = []) := by
 refine Sp.body Tryz.func27 rfl Tryz.ntmps27 (by simp) ?_
 simp only [argE, List.cons_append, List.nil_append, Nat.zero_add, Nat.reduceAdd]
 repeat' (first|refine gL ?_|(refine gv ?_;(refine⟨fun hc=>?_,fun hc=>?_⟩<;>first|(exfalso;omega)|skip))|fail)
 ·exact AtQ.f1 Tryz.results27 rfl (by rw [identB_f (by rintro ⟨h0, _⟩; omega)]) (fun w h => h)
 ·exact AtQ.f1 Tryz.results27 rfl (by rw [identB_f (by rintro ⟨_, h0, _⟩; omega)]) (fun w h => h)
 ·refine CT.loop (α := Nat) (fun i => [(0, .string (str l)), (3, .int .i64 i)]) (fun i => Pu (i ≤ l.length ∧ (∀ j, j < i → okC (l.getD j 0)) ∧ (0 < i → ¬ isDig (l.getD 0 0))) :: R) (fun i => l.length - i) 0 ⟨rfl, rfl, trivial⟩
   (fun w h => Sat.pu_in ⟨Nat.zero_le _, fun j hj => absurd hj (by omega), fun h => absurd h (by omega)⟩ h) (fun i => CT.pu fun ⟨hi, ho, hz⟩ => ?_)
  have next : okC (l.getD i 0) → ∀ j, j < i + 1 → okC (l.getD j 0) := fun h j hj => by
   by_cases hji : j = i
   ·rw [hji]; exact h
   ·exact ho j (by omega)
  repeat' (first|refine gL ?_|(refine gv ?_;(refine⟨fun hc=>?_,fun hc=>?_⟩<;>first|(exfalso;omega)|skip))|fail)
  ·(refine RT.ixs T (j := i) rfl rfl (by omega) (by omega) (by assumption) rfl rfl rfl ?_)
   obtain ⟨c0, c1⟩ := hb.get (i := i) (by omega)
   have bad : ¬ okC (l.getD i 0) → identB l = false := fun h => identB_f (by rintro ⟨_, _, _, h0⟩; exact h (h0 i (by omega)))
   have bad0 : i = 0 → isDig (l.getD i 0) → identB l = false := fun h hd => identB_f (by rintro ⟨_, _, h0, _⟩; rw [h] at hd; exact h0 hd)
   have hz0 : ¬ isDig (l.getD i 0) → 0 < i + 1 → ¬ isDig (l.getD 0 0) := fun h _ => by
    by_cases h0 : i = 0
    ·rw [h0] at h; exact h
    ·exact hz (by omega)
   have hz1 : ¬ i = 0 → 0 < i + 1 → ¬ isDig (l.getD 0 0) := fun h _ => hz (by omega)
   (refine RT.call T rfl fR_ (rletter_fn) rfl rfl rfl ?_; rintro _ _ ⟨rfl, rfl⟩; try simp only [List.cons_append, List.nil_append])
   try refine gL ?_
   (refine RT.ixs T (j := i) rfl rfl (by omega) (by omega) (by assumption) rfl rfl rfl ?_)
   (refine RT.call T rfl fR_ (rdigit_fn) rfl rfl rfl ?_; rintro _ _ ⟨rfl, rfl⟩; try simp only [List.cons_append, List.nil_append])
   generalize hcc : l.getD i 0 = c at *
   by_cases ha : isLet c
   ·have hnd : ¬ isDig c := by
     rintro ⟨d0, d1⟩
     rcases ha with h | h | h <;> omega
    rw [decide_eq_true ha]
    repeat' (first|refine gL ?_|(refine gv ?_;refine gk ?_)|fail)
    exact AtQ.loop (i + 1) ⟨rfl, rfl, trivial⟩ (fun w h => Sat.pu_in ⟨by omega, next (.inl ha), hz0 hnd⟩ h) (by omega)
   ·rw [decide_eq_false ha]
    by_cases hd : 48 ≤ c ∧ c ≤ 57
    ·rw [decide_eq_true hd]
     repeat' (first|refine gL ?_|(refine gv ?_;first|(refine⟨fun hc=>?_,fun hc=>?_⟩<;>first|(exfalso;omega)|skip)|refine gk ?_)|fail)
     ·have hi0 : i = 0 := by omega
      exact AtQ.f1 Tryz.results27 rfl (by rw [bad0 hi0 hd]) (fun w h => h)
     ·exact AtQ.loop (i + 1) ⟨rfl, rfl, trivial⟩ (fun w h => Sat.pu_in ⟨by omega, next (.inr hd), hz1 (by omega)⟩ h) (by omega)
    ·rw [decide_eq_false hd]
     try refine gL ?_
     exact AtQ.f1 Tryz.results27 rfl (by rw [bad (by rintro (h | h); exact ha h; exact hd h)]) (fun w h => h)
  ·have hie : i = l.length := by omega
   subst hie
   exact AtQ.f1 Tryz.results27 rfl (by rw [identB_t ⟨by omega, by omega, hz (by omega), ho⟩]) (fun w h => h)
end Go.Proofs.YtdemnhdoadjhhaaGreatDoor
end
section
namespace Go.Proofs.YtdemnhdoadjhhaaGreatDoor
open Go.Sk
/-! ### symbols -/
structure SymT where
 full : Txt
 sort : Int
 file : Txt
def SymT.cells (s : SymT) : List Value := [vS s.full, .int .u8 s.sort, vS s.file]
noncomputable def symE (fl sc : Txt) (e : EnumT) : List SymT := ⟨joinL [sc, e.nm], 2, fl⟩ :: e.vals.l.map (fun v => ⟨joinL [sc, v.nm], 3, fl⟩)
mutual
noncomputable def symM (fl : Txt) : MsgT → Txt → List SymT
 | .mk nm fields oneofs _ _ msgs enums _ _, sc =>
  ⟨joinL [sc, nm], 1, fl⟩ :: (fields.l.map (fun f => ⟨joinL [joinL [sc, nm], f.nm], 4, fl⟩) ++ (oneofs.l.map (fun o => ⟨joinL [joinL [sc, nm], o], 5, fl⟩) ++
   (symMs fl msgs (joinL [sc, nm]) ++ enums.l.flatMap (symE fl (joinL [sc, nm])))))
noncomputable def symMs (fl : Txt) : List MsgT → Txt → List SymT
 | [], _ => []
 | m :: l, sc => symM fl m sc ++ symMs fl l sc
end
noncomputable def symF (f : FileT) : List SymT := symMs f.path f.msgs f.pack ++ f.enums.l.flatMap (symE f.path f.pack)
/-! ### joining -/
theorem J_def (a b : Txt) : joinL [a, b] = if a = [] then b else if b = [] then a else a ++ 46 :: b := by
 cases a <;> cases b <;> simp [joinL, filt, joinS, dotted]
theorem J_assoc (a b c : Txt) : joinL [joinL [a, b], c] = joinL [a, joinL [b, c]] := by
 simp only [J_def]
 by_cases h1 : a = [] <;> by_cases h2 : b = [] <;> by_cases h3 : c = [] <;> simp [h1, h2, h3]
theorem J_inj {a b c : Txt} (h : joinL [a, b] = joinL [a, c]) : b = c := by
 simp only [J_def] at h
 by_cases h1 : a = []
 ·simpa [h1] using h
 ·by_cases h2 : b = [] <;> by_cases h3 : c = [] <;> simp [h1, h2, h3] at h ⊢
  exact h
/-! ### two runs that agree -/
def Ag2 (p p' : Txt) (r r' : Rs) : Prop := match r, r' with
 | .ok g, .ok g' => ∃ rs : List Txt, g = rs.map (fun x => joinL [p, x]) ∧ g' = rs.map (fun x => joinL [p', x])
 | .error x, .error y => x.1 = y.1
 | _, _ => False
def Ag (p p' : Txt) (F F' : List Txt → Rs) : Prop := ∀ rs : List Txt, Ag2 p p' (F (rs.map (fun x => joinL [p, x]))) (F' (rs.map (fun x => joinL [p', x])))
def OA (o o' : Option Flt) : Prop := match o, o' with
 | none, none => True
 | some x, some y => x.1 = y.1
 | _, _ => False
section
variable {p p' : Txt}
theorem Ag.ok : Ag p p' .ok .ok := fun rs => ⟨rs, rfl, rfl⟩
theorem Ag.must {b : Bool} {e : Int} {t t' : Txt} {K K' : List Txt → Rs} (h : Ag p p' K K') : Ag p p' (fun g => must b e t (K g)) (fun g => must b e t' (K' g)) := fun rs => by
 cases b
 ·exact rfl
 ·exact h rs
theorem Ag.opt {o o' : Option Flt} {K K' : List Txt → Rs} (ho : OA o o') (h : Ag p p' K K') : Ag p p' (fun g => opt o (K g)) (fun g => opt o' (K' g)) := fun rs => by
 cases o <;> cases o' <;> first | exact h rs | exact ho | exact ho.elim
theorem Ag.bnd {F F' K K' : List Txt → Rs} (hF : Ag p p' F F') (hK : Ag p p' K K') : Ag p p' (fun g => bnd (F g) K) (fun g => bnd (F' g) K') := fun rs => by
 have h := hF rs
 dsimp only
 cases h1 : F (rs.map (fun x => joinL [p, x])) with
 | ok g =>
  cases h2 : F' (rs.map (fun x => joinL [p', x])) with
  | ok g' =>
   rw [h1, h2] at h
   obtain ⟨rs2, rfl, rfl⟩ := h
   exact hK rs2
  | error x => rw [h1, h2] at h; exact h.elim
 | error x =>
  cases h2 : F' (rs.map (fun x => joinL [p', x])) with
  | ok g' => rw [h1, h2] at h; exact h.elim
  | error y => rw [h1, h2] at h; exact h
/-- A name that is short in both. -/
def Sh (p p' r : Txt) : Prop := (joinL [p, r]).length ≤ 255 ∧ (joinL [p', r]).length ≤ 255
theorem ag_give {nm r : Txt} (h : Sh p p' r) : Ag p p' (giveR nm (joinL [p, r])) (giveR nm (joinL [p', r])) := fun rs => by
 unfold giveR
 have e1 : decide ((joinL [p, r]).length ≤ 255) = true := decide_eq_true h.1
 have e2 : decide ((joinL [p', r]).length ≤ 255) = true := decide_eq_true h.2
 rw [e1, e2]
 cases hi : identB nm
 ·exact rfl
 ·simp only [Bool.and_true]
  by_cases hm : r ∈ rs
  ·have m1 : joinL [p, r] ∈ rs.map (fun x => joinL [p, x]) := List.mem_map.2 ⟨r, hm, rfl⟩
   have m2 : joinL [p', r] ∈ rs.map (fun x => joinL [p', x]) := List.mem_map.2 ⟨r, hm, rfl⟩
   rw [must_t rfl, must_t rfl, must_f (by simpa using m1), must_f (by simpa using m2)]
   exact rfl
  ·have m1 : joinL [p, r] ∉ rs.map (fun x => joinL [p, x]) := fun h => by
    obtain ⟨x, hx, e⟩ := List.mem_map.1 h
    exact hm (J_inj e ▸ hx)
   have m2 : joinL [p', r] ∉ rs.map (fun x => joinL [p', x]) := fun h => by
    obtain ⟨x, hx, e⟩ := List.mem_map.1 h
    exact hm (J_inj e ▸ hx)
   rw [must_t rfl, must_t rfl, must_t (by simpa using m1), must_t (by simpa using m2)]
   exact ⟨rs ++ [r], by simp, by simp⟩
theorem oa_spans {lo hi : Int} {t t' : Txt} : ∀ {l ah : List SpanT}, OA (spansF lo hi t ah l) (spansF lo hi t' ah l)
 | [], ah => by cases ah <;> exact trivial
 | s :: l, ah => by
  unfold spansF
  split
  ·exact oa_spans
  ·exact rfl
theorem oa_names {sc sc' : Txt} : ∀ {l ah : List Txt}, OA (namesF sc ah l) (namesF sc' ah l)
 | [], ah => by cases ah <;> exact trivial
 | s :: l, ah => by
  unfold namesF
  split
  ·split
   ·exact rfl
   ·exact oa_names
  ·exact rfl
theorem ag_field {names : List Txt} {res : List SpanT} {no : Nat} {r : Txt} {ah : List FieldT} {f : FieldT} (h : Sh p p' (joinL [r, f.nm])) : Ag p p' (fieldR names res no (joinL [p, r]) ah f) (fieldR names res no (joinL [p', r]) ah f) := by
 unfold fieldR
 rw [J_assoc, J_assoc]
 unfold fieldR7 fieldR8 fieldR11 fieldR14 fieldR15 fieldR16 fieldR17
 refine Ag.bnd (ag_give h) ?_
 repeat (first | exact Ag.ok | refine Ag.must ?_)
theorem ag_fields {names : List Txt} {res : List SpanT} {no : Nat} {r : Txt} : ∀ {l ah : List FieldT}, (∀ f ∈ l, Sh p p' (joinL [r, f.nm])) → Ag p p' (fieldsR names res no (joinL [p, r]) ah l) (fieldsR names res no (joinL [p', r]) ah l)
 | [], ah, _ => by cases ah <;> exact Ag.ok
 | f :: l, ah, h => by
  have e : ∀ q : Txt, fieldsR names res no q ah (f :: l) = fun g => bnd (fieldR names res no q ah f g) (fieldsR names res no q (ah ++ [f]) l) := fun q => by funext g; rw [fieldsR]
  rw [e, e]
  exact Ag.bnd (ag_field (h f List.mem_cons_self)) (ag_fields fun x hx => h x (List.mem_cons_of_mem _ hx))
theorem ag_oneofs {fields : List FieldT} {r : Txt} : ∀ {l : List Txt} {i : Nat}, (∀ o ∈ l, Sh p p' (joinL [r, o])) → Ag p p' (oneofsR fields (joinL [p, r]) i l) (oneofsR fields (joinL [p', r]) i l)
 | [], i, _ => Ag.ok
 | o :: l, i, h => by
  have e : ∀ q : Txt, oneofsR fields q i (o :: l) = fun g => bnd (giveR o (joinL [q, o]) g) fun g => Go.Proofs.YtdemnhdoadjhhaaGreatDoor.must (decide (∃ f ∈ fields, f.oneof = (i : Int) + 1)) 64 (joinL [q, o]) (oneofsR fields q (i + 1) l g) := fun q => by funext g; rw [oneofsR]
  rw [e, e, J_assoc, J_assoc]
  exact Ag.bnd (ag_give (h o List.mem_cons_self)) (Ag.must (ag_oneofs fun x hx => h x (List.mem_cons_of_mem _ hx)))
theorem ag_vals {names : List Txt} {res : List SpanT} {ali : Bool} {r : Txt} : ∀ {l ah : List EValT}, (∀ v ∈ l, Sh p p' (joinL [r, v.nm])) → Ag p p' (valsR names res ali (joinL [p, r]) ah l) (valsR names res ali (joinL [p', r]) ah l)
 | [], ah, _ => by cases ah <;> exact Ag.ok
 | v :: l, ah, h => by
  have e : ∀ q : Txt, valsR names res ali q ah (v :: l) = fun g => bnd (giveR v.nm (joinL [q, v.nm]) g) fun g => Go.Proofs.YtdemnhdoadjhhaaGreatDoor.must (decide (v.nm ∉ names) && !anyS res v.num) 63 (joinL [q, v.nm]) (Go.Proofs.YtdemnhdoadjhhaaGreatDoor.must (ali || decide (∀ o ∈ ah, o.num ≠ v.num)) 66 (joinL [q, v.nm]) (valsR names res ali q (ah ++ [v]) l g)) := fun q => by funext g; rw [valsR]
  rw [e, e, J_assoc, J_assoc]
  exact Ag.bnd (ag_give (h v List.mem_cons_self)) (Ag.must (Ag.must (ag_vals fun x hx => h x (List.mem_cons_of_mem _ hx))))
theorem ag_enum {e : EnumT} {r fl fl' : Txt} (h : ∀ s ∈ symE fl (joinL [p, r]) e, s.full.length ≤ 255) (h' : ∀ s ∈ symE fl' (joinL [p', r]) e, s.full.length ≤ 255) : Ag p p' (enumR e (joinL [p, r])) (enumR e (joinL [p', r])) := by
 unfold enumR
 have a1 := h _ List.mem_cons_self
 have a2 := h' _ List.mem_cons_self
 dsimp only at a1 a2
 rw [J_assoc] at a1 a2
 rw [J_assoc, J_assoc]
 refine Ag.bnd (ag_give ⟨a1, a2⟩) (Ag.must (Ag.must (Ag.opt oa_spans (Ag.opt oa_names (ag_vals fun v hv => ?_)))))
 have b1 := h _ (List.mem_cons_of_mem _ (List.mem_map.2 ⟨v, hv, rfl⟩))
 have b2 := h' _ (List.mem_cons_of_mem _ (List.mem_map.2 ⟨v, hv, rfl⟩))
 dsimp only at b1 b2
 rw [J_assoc] at b1 b2
 exact ⟨b1, b2⟩
theorem ag_enums {r fl fl' : Txt} : ∀ {l : List EnumT}, (∀ s ∈ l.flatMap (symE fl (joinL [p, r])), s.full.length ≤ 255) → (∀ s ∈ l.flatMap (symE fl' (joinL [p', r])), s.full.length ≤ 255) → Ag p p' (enumsR (joinL [p, r]) l) (enumsR (joinL [p', r]) l)
 | [], _, _ => Ag.ok
 | e :: l, h, h' => by
  have ee : ∀ q : Txt, enumsR q (e :: l) = fun g => bnd (enumR e q g) (enumsR q l) := fun q => by funext g; rw [enumsR]
  rw [ee, ee]
  rw [List.flatMap_cons] at h h'
  exact Ag.bnd (ag_enum (fun s hs => h s (List.mem_append_left _ hs)) (fun s hs => h' s (List.mem_append_left _ hs))) (ag_enums (fun s hs => h s (List.mem_append_right _ hs)) (fun s hs => h' s (List.mem_append_right _ hs)))
mutual
theorem ag_msg {fl fl' : Txt} : ∀ {m : MsgT} {r : Txt} {deep : Nat}, (∀ s ∈ symM fl m (joinL [p, r]), s.full.length ≤ 255) → (∀ s ∈ symM fl' m (joinL [p', r]), s.full.length ≤ 255) → Ag p p' (msgR m (joinL [p, r]) deep) (msgR m (joinL [p', r]) deep)
 | .mk nm fields oneofs ma mc msgs enums res names, r, deep, h, h' => by
  have ee : ∀ q : Txt, msgR (.mk nm fields oneofs ma mc msgs enums res names) q deep = fun g =>
   bnd (giveR nm (joinL [q, nm]) g) fun g =>
   Go.Proofs.YtdemnhdoadjhhaaGreatDoor.must (decide (deep < 16) && decide (fields.l.length ≤ 1000)) 68 (joinL [q, nm]) <|
   Go.Proofs.YtdemnhdoadjhhaaGreatDoor.opt (spansF 1 536870911 (joinL [q, nm]) [] res.l) <|
   Go.Proofs.YtdemnhdoadjhhaaGreatDoor.opt (namesF (joinL [q, nm]) [] names.l) <|
   bnd (fieldsR names.l res.l oneofs.l.length (joinL [q, nm]) [] fields.l g) fun g =>
   bnd (oneofsR fields.l (joinL [q, nm]) 0 oneofs.l g) fun g =>
   bnd (msgsR msgs (joinL [q, nm]) (deep + 1) g) fun g =>
   enumsR (joinL [q, nm]) enums.l g := fun q => by funext g; rw [msgR]
  rw [ee, ee, J_assoc, J_assoc]
  unfold symM at h h'
  rw [J_assoc] at h h'
  refine Ag.bnd (ag_give ⟨h _ List.mem_cons_self, h' _ List.mem_cons_self⟩) (Ag.must (Ag.opt oa_spans (Ag.opt oa_names (Ag.bnd (ag_fields fun f hf => ?_) (Ag.bnd (ag_oneofs fun o ho => ?_) (Ag.bnd (ag_msgs (fl := fl) (fl' := fl') (fun s hs => ?_) (fun s hs => ?_)) (ag_enums (fl := fl) (fl' := fl') (fun s hs => ?_) (fun s hs => ?_))))))))
  ·have b1 := h _ (List.mem_cons_of_mem _ (List.mem_append_left _ (List.mem_map.2 ⟨f, hf, rfl⟩)))
   have b2 := h' _ (List.mem_cons_of_mem _ (List.mem_append_left _ (List.mem_map.2 ⟨f, hf, rfl⟩)))
   dsimp only at b1 b2
   rw [J_assoc] at b1 b2
   exact ⟨b1, b2⟩
  ·have b1 := h _ (List.mem_cons_of_mem _ (List.mem_append_right _ (List.mem_append_left _ (List.mem_map.2 ⟨o, ho, rfl⟩))))
   have b2 := h' _ (List.mem_cons_of_mem _ (List.mem_append_right _ (List.mem_append_left _ (List.mem_map.2 ⟨o, ho, rfl⟩))))
   dsimp only at b1 b2
   rw [J_assoc] at b1 b2
   exact ⟨b1, b2⟩
  ·exact h _ (List.mem_cons_of_mem _ (List.mem_append_right _ (List.mem_append_right _ (List.mem_append_left _ hs))))
  ·exact h' _ (List.mem_cons_of_mem _ (List.mem_append_right _ (List.mem_append_right _ (List.mem_append_left _ hs))))
  ·exact h _ (List.mem_cons_of_mem _ (List.mem_append_right _ (List.mem_append_right _ (List.mem_append_right _ hs))))
  ·exact h' _ (List.mem_cons_of_mem _ (List.mem_append_right _ (List.mem_append_right _ (List.mem_append_right _ hs))))
theorem ag_msgs {fl fl' : Txt} : ∀ {l : List MsgT} {r : Txt} {deep : Nat}, (∀ s ∈ symMs fl l (joinL [p, r]), s.full.length ≤ 255) → (∀ s ∈ symMs fl' l (joinL [p', r]), s.full.length ≤ 255) → Ag p p' (msgsR l (joinL [p, r]) deep) (msgsR l (joinL [p', r]) deep)
 | [], r, deep, _, _ => by
  have ee : ∀ q : Txt, msgsR [] q deep = .ok := fun q => by funext g; rw [msgsR]
  rw [ee, ee]; exact Ag.ok
 | m :: l, r, deep, h, h' => by
  have ee : ∀ q : Txt, msgsR (m :: l) q deep = fun g => bnd (msgR m q deep g) fun g => msgsR l q deep g := fun q => by funext g; rw [msgsR]
  rw [ee, ee]
  unfold symMs at h h'
  exact Ag.bnd (ag_msg (fun s hs => h s (List.mem_append_left _ hs)) (fun s hs => h' s (List.mem_append_left _ hs))) (ag_msgs (fun s hs => h s (List.mem_append_right _ hs)) (fun s hs => h' s (List.mem_append_right _ hs)))
end
end
/-! ### CheckMoved -/
end Go.Proofs.YtdemnhdoadjhhaaGreatDoor
end
section
namespace Go.Proofs.YtdemnhdoadjhhaaGreatDoor
open Go.Sk
/-! ### errors are not nought -/
def NZ (r : Rs) : Prop := ∀ e t, r = .error (e, t) → e ≠ 0
def NZo (r : Option Flt) : Prop := ∀ e t, r = some (e, t) → e ≠ 0
theorem NZ.ok {g : List Txt} : NZ (.ok g) := fun e t h => by cases h
theorem NZ.must {p : Bool} {e : Int} {t : Txt} {k : Rs} (he : e ≠ 0) (h : NZ k) : NZ (must p e t k) := fun e' t' h' => by
 unfold Go.Proofs.YtdemnhdoadjhhaaGreatDoor.must at h'
 split at h'
 ·exact h e' t' h'
 ·cases h'; exact he
theorem NZ.bnd {r : Rs} {k : List Txt → Rs} (h : NZ r) (hk : ∀ g, NZ (k g)) : NZ (bnd r k) := fun e t h' => by
 cases r with
 | ok g => exact hk g e t h'
 | error x => cases h'; exact h e t rfl
theorem NZ.opt {o : Option Flt} {k : Rs} (h : NZo o) (hk : NZ k) : NZ (opt o k) := fun e t h' => by
 cases o with
 | none => exact hk e t h'
 | some x => cases h'; exact h e t rfl
theorem nz_give {nm full : Txt} {g : List Txt} : NZ (giveR nm full g) := NZ.must (by decide) (NZ.must (by decide) NZ.ok)
theorem nz_spans {lo hi : Int} {t : Txt} : ∀ {l ah : List SpanT}, NZo (spansF lo hi t ah l)
 | [], ah => fun e t h => by cases ah <;> cases h
 | s :: l, ah => fun e t' h => by
  unfold spansF at h
  split at h
  ·exact nz_spans e t' h
  ·cases h; decide
theorem nz_names {sc : Txt} : ∀ {l ah : List Txt}, NZo (namesF sc ah l)
 | [], ah => fun e t h => by cases ah <;> cases h
 | s :: l, ah => fun e t' h => by
  unfold namesF at h
  split at h
  ·split at h
   ·cases h; decide
   ·exact nz_names e t' h
  ·cases h; decide
theorem nz_imps : ∀ {l : List ImpT} {ah : List Txt}, NZo (impsF ah l)
 | [], ah => fun e t h => by cases ah <;> cases h
 | s :: l, ah => fun e t' h => by
  unfold impsF at h
  split at h
  ·split at h
   ·cases h; decide
   ·exact nz_imps e t' h
  ·cases h; decide
theorem nz_field {names : List Txt} {res : List SpanT} {no : Nat} {full : Txt} {ah : List FieldT} {f : FieldT} {g : List Txt} : NZ (fieldR names res no full ah f g) := by
 unfold fieldR fieldR7 fieldR8 fieldR11 fieldR14 fieldR15 fieldR16 fieldR17
 refine NZ.bnd nz_give fun g => ?_
 repeat (first | exact NZ.ok | refine NZ.must (by decide) ?_)
theorem nz_fields {names : List Txt} {res : List SpanT} {no : Nat} {full : Txt} : ∀ {l ah : List FieldT} {g : List Txt}, NZ (fieldsR names res no full ah l g)
 | [], ah, g => by cases ah <;> exact NZ.ok
 | f :: l, ah, g => by unfold fieldsR; exact NZ.bnd nz_field fun g => nz_fields
theorem nz_oneofs {fields : List FieldT} {full : Txt} : ∀ {l : List Txt} {i : Nat} {g : List Txt}, NZ (oneofsR fields full i l g)
 | [], i, g => NZ.ok
 | o :: l, i, g => by unfold oneofsR; exact NZ.bnd nz_give fun g => NZ.must (by decide) nz_oneofs
theorem nz_vals {names : List Txt} {res : List SpanT} {ali : Bool} {sc : Txt} : ∀ {l ah : List EValT} {g : List Txt}, NZ (valsR names res ali sc ah l g)
 | [], ah, g => by cases ah <;> exact NZ.ok
 | v :: l, ah, g => by unfold valsR; exact NZ.bnd nz_give fun g => NZ.must (by decide) (NZ.must (by decide) nz_vals)
theorem nz_enum {e : EnumT} {sc : Txt} {g : List Txt} : NZ (enumR e sc g) := by
 unfold enumR
 exact NZ.bnd nz_give fun g => NZ.must (by decide) (NZ.must (by decide) (NZ.opt nz_spans (NZ.opt nz_names nz_vals)))
theorem nz_enums {sc : Txt} : ∀ {l : List EnumT} {g : List Txt}, NZ (enumsR sc l g)
 | [], g => NZ.ok
 | e :: l, g => by unfold enumsR; exact NZ.bnd nz_enum fun g => nz_enums
mutual
theorem nz_msg : ∀ {m : MsgT} {sc : Txt} {deep : Nat} {g : List Txt}, NZ (msgR m sc deep g)
 | .mk nm fields oneofs ma mc msgs enums res names, sc, deep, g => by
  unfold msgR
  exact NZ.bnd nz_give fun g => NZ.must (by decide) (NZ.opt nz_spans (NZ.opt nz_names (NZ.bnd nz_fields fun g => NZ.bnd nz_oneofs fun g => NZ.bnd nz_msgs fun g => nz_enums)))
theorem nz_msgs : ∀ {l : List MsgT} {sc : Txt} {deep : Nat} {g : List Txt}, NZ (msgsR l sc deep g)
 | [], sc, deep, g => by unfold msgsR; exact NZ.ok
 | m :: l, sc, deep, g => by unfold msgsR; exact NZ.bnd nz_msg fun g => nz_msgs
end
theorem nz_file {f : FileT} : NZ (fileR f) := by
 unfold fileR
 exact NZ.must (by decide) (NZ.must (by decide) (NZ.must (by decide) (NZ.opt nz_imps (NZ.bnd nz_msgs fun g => nz_enums))))
/-! ### more names given -/
/-- What is right with some names given is right with more, or gives a name twice. -/
def Sim (F : List Txt → Rs) : Prop := ∀ g' g, (∀ x ∈ g', x ∈ g) → ∀ h', F g' = .ok h' → (∃ h, F g = .ok h ∧ ∀ x ∈ h', x ∈ h) ∨ ∃ t, F g = .error (61, t)
theorem Sim.ok : Sim .ok := fun g' g hs h' h => by cases h; exact .inl ⟨g, rfl, hs⟩
theorem Sim.must {p : Bool} {e : Int} {t : Txt} {K : List Txt → Rs} (hK : Sim K) : Sim (fun g => must p e t (K g)) := fun g' g hs h' h => by
 cases p
 ·cases h
 ·exact hK g' g hs h' h
theorem Sim.opt {o : Option Flt} {K : List Txt → Rs} (hK : Sim K) : Sim (fun g => opt o (K g)) := fun g' g hs h' h => by
 cases o with
 | none => exact hK g' g hs h' h
 | some x => cases h
theorem Sim.bnd {F K : List Txt → Rs} (hF : Sim F) (hK : Sim K) : Sim (fun g => bnd (F g) K) := fun g' g hs h' h => by
 dsimp only at h ⊢
 cases hf : F g' with
 | error x => rw [hf] at h; cases h
 | ok g2' =>
  rw [hf] at h
  rcases hF g' g hs g2' hf with ⟨g2, h2, hs2⟩ | ⟨t, h2⟩
  ·rw [h2]
   exact hK g2' g2 hs2 h' h
  ·rw [h2]
   exact .inr ⟨t, rfl⟩
/-! ### CheckFirst -/
section
variable {path pack : Txt} {imps : Rw ImpT} {ma : Option Addr} {mc : Nat} {msgs : List MsgT} {enums en2 en3 : Rw EnumT} {more : List EnumT}
end
end Go.Proofs.YtdemnhdoadjhhaaGreatDoor
end
section
namespace Go.Proofs.YtdemnhdoadjhhaaGreatDoor
open Go.Sk
theorem give_ok {nm full : Txt} {g g' : List Txt} (h : giveR nm full g = .ok g') : identB nm = true ∧ full.length ≤ 255 ∧ full ∉ g ∧ g' = g ++ [full] := by
 unfold giveR must at h
 split at h
 ·rename_i h1
  rw [Bool.and_eq_true, decide_eq_true_eq] at h1
  split at h
  ·rename_i h2
   cases h
   exact ⟨h1.1, h1.2, of_decide_eq_true h2, rfl⟩
  ·cases h
 ·cases h
theorem give_to {nm full : Txt} {g : List Txt} (h1 : identB nm = true) (h2 : full.length ≤ 255) (h3 : full ∉ g) : giveR nm full g = .ok (g ++ [full]) := by
 unfold giveR
 rw [must_t (by rw [h1, decide_eq_true h2]; rfl), must_t (decide_eq_true h3)]
/-- What is given stays, is one of N, and nothing hangs on t. -/
def EG (t : Txt) (N : Txt → Prop) (F : List Txt → Rs) : Prop := ∀ g h, F g = .ok h → (∀ y ∈ g, y ∈ h) ∧ (∀ y ∈ h, y ∈ g ∨ N y) ∧ (t ∉ h → ∀ g2 : List Txt, (∀ y, y ∈ g2 ↔ y ∈ g ∨ y = t) → ∃ h2, F g2 = .ok h2 ∧ ∀ y, y ∈ h2 ↔ y ∈ h ∨ y = t)
section
variable {t : Txt} {N : Txt → Prop}
theorem EG.ok : EG t N .ok := fun g h e => by cases e; exact ⟨fun y h => h, fun y h => .inl h, fun _ g2 h2 => ⟨g2, rfl, h2⟩⟩
theorem EG.must {b : Bool} {e : Int} {t' : Txt} {K : List Txt → Rs} (h : EG t N K) : EG t N (fun g => must b e t' (K g)) := fun g h' eq => by
 cases b
 ·cases eq
 ·exact h g h' eq
theorem EG.opt {o : Option Flt} {K : List Txt → Rs} (h : EG t N K) : EG t N (fun g => opt o (K g)) := fun g h' eq => by
 cases o with
 | none => exact h g h' eq
 | some x => cases eq
theorem EG.bnd {F K : List Txt → Rs} (hF : EG t N F) (hK : EG t N K) : EG t N (fun g => bnd (F g) K) := fun g h eq => by
 dsimp only at eq
 cases e1 : F g with
 | error x => rw [e1] at eq; cases eq
 | ok g1 =>
  rw [e1, bnd_ok] at eq
  obtain ⟨a1, a2, a3⟩ := hF g g1 e1
  obtain ⟨b1, b2, b3⟩ := hK g1 h eq
  refine ⟨fun y hy => b1 y (a1 y hy), fun y hy => (b2 y hy).elim (fun hy => a2 y hy) .inr, fun ht g2 hg2 => ?_⟩
  obtain ⟨h2, e2, c2⟩ := a3 (fun hh => ht (b1 t hh)) g2 hg2
  obtain ⟨h3, e3, c3⟩ := b3 ht h2 c2
  exact ⟨h3, by dsimp only; rw [e2, bnd_ok, e3], c3⟩
theorem eg_give {nm full : Txt} (hN : N full) : EG t N (giveR nm full) := fun g h e => by
 obtain ⟨h1, h2, h3, rfl⟩ := give_ok e
 refine ⟨fun y hy => List.mem_append_left _ hy, fun y hy => (List.mem_append.1 hy).elim .inl fun hy => .inr (by rw [List.mem_singleton.1 hy]; exact hN), fun ht g2 hg2 => ?_⟩
 have hne : full ≠ t := fun e => ht (by rw [← e]; simp)
 refine ⟨g2 ++ [full], give_to h1 h2 (fun hh => ?_), fun y => ?_⟩
 ·rcases (hg2 full).1 hh with hh | hh
  ·exact h3 hh
  ·exact hne hh
 ·simp only [List.mem_append, List.mem_singleton, hg2]
  constructor
  ·rintro ((h | h) | h)
   ·exact .inl (.inl h)
   ·exact .inr h
   ·exact .inl (.inr h)
  ·rintro ((h | h) | h)
   ·exact .inl (.inl h)
   ·exact .inr h
   ·exact .inl (.inr h)
theorem eg_field {names : List Txt} {res : List SpanT} {no : Nat} {full : Txt} {ah : List FieldT} {f : FieldT} (h : N (joinL [full, f.nm])) : EG t N (fieldR names res no full ah f) := by
 unfold fieldR fieldR7 fieldR8 fieldR11 fieldR14 fieldR15 fieldR16 fieldR17
 refine EG.bnd (eg_give h) ?_
 repeat (first | exact EG.ok | refine EG.must ?_)
theorem eg_fields {names : List Txt} {res : List SpanT} {no : Nat} {full : Txt} : ∀ {l ah : List FieldT}, (∀ f ∈ l, N (joinL [full, f.nm])) → EG t N (fieldsR names res no full ah l)
 | [], ah, _ => by cases ah <;> exact EG.ok
 | f :: l, ah, h => by
  have e : fieldsR names res no full ah (f :: l) = fun g => bnd (fieldR names res no full ah f g) (fieldsR names res no full (ah ++ [f]) l) := by funext g; rw [fieldsR]
  rw [e]
  exact EG.bnd (eg_field (h f List.mem_cons_self)) (eg_fields fun x hx => h x (List.mem_cons_of_mem _ hx))
theorem eg_oneofs {fields : List FieldT} {full : Txt} : ∀ {l : List Txt} {i : Nat}, (∀ o ∈ l, N (joinL [full, o])) → EG t N (oneofsR fields full i l)
 | [], i, _ => EG.ok
 | o :: l, i, h => by
  have e : oneofsR fields full i (o :: l) = fun g => bnd (giveR o (joinL [full, o]) g) fun g => Go.Proofs.YtdemnhdoadjhhaaGreatDoor.must (decide (∃ f ∈ fields, f.oneof = (i : Int) + 1)) 64 (joinL [full, o]) (oneofsR fields full (i + 1) l g) := by funext g; rw [oneofsR]
  rw [e]
  exact EG.bnd (eg_give (h o List.mem_cons_self)) (EG.must (eg_oneofs fun x hx => h x (List.mem_cons_of_mem _ hx)))
theorem eg_vals {names : List Txt} {res : List SpanT} {ali : Bool} {sc : Txt} : ∀ {l ah : List EValT}, (∀ v ∈ l, N (joinL [sc, v.nm])) → EG t N (valsR names res ali sc ah l)
 | [], ah, _ => by cases ah <;> exact EG.ok
 | v :: l, ah, h => by
  have e : valsR names res ali sc ah (v :: l) = fun g => bnd (giveR v.nm (joinL [sc, v.nm]) g) fun g => Go.Proofs.YtdemnhdoadjhhaaGreatDoor.must (decide (v.nm ∉ names) && !anyS res v.num) 63 (joinL [sc, v.nm]) (Go.Proofs.YtdemnhdoadjhhaaGreatDoor.must (ali || decide (∀ o ∈ ah, o.num ≠ v.num)) 66 (joinL [sc, v.nm]) (valsR names res ali sc (ah ++ [v]) l g)) := by funext g; rw [valsR]
  rw [e]
  exact EG.bnd (eg_give (h v List.mem_cons_self)) (EG.must (EG.must (eg_vals fun x hx => h x (List.mem_cons_of_mem _ hx))))
theorem eg_enum {e : EnumT} {sc fl : Txt} (h : ∀ s ∈ symE fl sc e, N s.full) : EG t N (enumR e sc) := by
 unfold enumR
 refine EG.bnd (eg_give (h _ List.mem_cons_self)) (EG.must (EG.must (EG.opt (EG.opt (eg_vals fun v hv => ?_)))))
 exact h _ (List.mem_cons_of_mem _ (List.mem_map.2 ⟨v, hv, rfl⟩))
theorem eg_enums {sc fl : Txt} : ∀ {l : List EnumT}, (∀ s ∈ l.flatMap (symE fl sc), N s.full) → EG t N (enumsR sc l)
 | [], _ => EG.ok
 | e :: l, h => by
  have ee : enumsR sc (e :: l) = fun g => bnd (enumR e sc g) (enumsR sc l) := by funext g; rw [enumsR]
  rw [ee]
  rw [List.flatMap_cons] at h
  exact EG.bnd (eg_enum (fun s hs => h s (List.mem_append_left _ hs))) (eg_enums (fun s hs => h s (List.mem_append_right _ hs)))
mutual
theorem eg_msg {fl : Txt} : ∀ {m : MsgT} {sc : Txt} {deep : Nat}, (∀ s ∈ symM fl m sc, N s.full) → EG t N (msgR m sc deep)
 | .mk nm fields oneofs ma mc msgs enums res names, sc, deep, h => by
  have ee : msgR (.mk nm fields oneofs ma mc msgs enums res names) sc deep = fun g =>
   bnd (giveR nm (joinL [sc, nm]) g) fun g =>
   Go.Proofs.YtdemnhdoadjhhaaGreatDoor.must (decide (deep < 16) && decide (fields.l.length ≤ 1000)) 68 (joinL [sc, nm]) <|
   Go.Proofs.YtdemnhdoadjhhaaGreatDoor.opt (spansF 1 536870911 (joinL [sc, nm]) [] res.l) <|
   Go.Proofs.YtdemnhdoadjhhaaGreatDoor.opt (namesF (joinL [sc, nm]) [] names.l) <|
   bnd (fieldsR names.l res.l oneofs.l.length (joinL [sc, nm]) [] fields.l g) fun g =>
   bnd (oneofsR fields.l (joinL [sc, nm]) 0 oneofs.l g) fun g =>
   bnd (msgsR msgs (joinL [sc, nm]) (deep + 1) g) fun g =>
   enumsR (joinL [sc, nm]) enums.l g := by funext g; rw [msgR]
  rw [ee]
  unfold symM at h
  refine EG.bnd (eg_give (h _ List.mem_cons_self)) (EG.must (EG.opt (EG.opt (EG.bnd (eg_fields fun f hf => ?_) (EG.bnd (eg_oneofs fun o ho => ?_) (EG.bnd (eg_msgs (fl := fl) (fun s hs => ?_)) (eg_enums (fl := fl) (fun s hs => ?_))))))))
  ·exact h _ (List.mem_cons_of_mem _ (List.mem_append_left _ (List.mem_map.2 ⟨f, hf, rfl⟩)))
  ·exact h _ (List.mem_cons_of_mem _ (List.mem_append_right _ (List.mem_append_left _ (List.mem_map.2 ⟨o, ho, rfl⟩))))
  ·exact h _ (List.mem_cons_of_mem _ (List.mem_append_right _ (List.mem_append_right _ (List.mem_append_left _ hs))))
  ·exact h _ (List.mem_cons_of_mem _ (List.mem_append_right _ (List.mem_append_right _ (List.mem_append_right _ hs))))
theorem eg_msgs {fl : Txt} : ∀ {l : List MsgT} {sc : Txt} {deep : Nat}, (∀ s ∈ symMs fl l sc, N s.full) → EG t N (msgsR l sc deep)
 | [], sc, deep, _ => by
  have ee : msgsR [] sc deep = .ok := by funext g; rw [msgsR]
  rw [ee]; exact EG.ok
 | m :: l, sc, deep, h => by
  have ee : msgsR (m :: l) sc deep = fun g => bnd (msgR m sc deep g) fun g => msgsR l sc deep g := by funext g; rw [msgsR]
  rw [ee]
  unfold symMs at h
  exact EG.bnd (eg_msg (fun s hs => h s (List.mem_append_left _ hs))) (eg_msgs (fun s hs => h s (List.mem_append_right _ hs)))
end
end
/-! ### the fields of the first message, taken out -/
theorem bnd_bnd {r : Rs} {k k2 : List Txt → Rs} : bnd (bnd r k) k2 = bnd r (fun g => bnd (k g) k2) := by cases r <;> rfl
theorem bnd_must {b : Bool} {e : Int} {t : Txt} {r : Rs} {k : List Txt → Rs} : bnd (must b e t r) k = must b e t (bnd r k) := by cases b <;> rfl
theorem bnd_opt {o : Option Flt} {r : Rs} {k : List Txt → Rs} : bnd (opt o r) k = opt o (bnd r k) := by cases o <;> rfl
theorem fields_app {names : List Txt} {res : List SpanT} {no : Nat} {full : Txt} : ∀ {a b ah : List FieldT} {g : List Txt}, fieldsR names res no full ah (a ++ b) g = bnd (fieldsR names res no full ah a g) (fieldsR names res no full (ah ++ a) b)
 | [], b, ah, g => by
  have e : fieldsR names res no full ah [] g = .ok g := by cases ah <;> rfl
  rw [List.nil_append, e, bnd_ok, List.append_nil]
 | f :: a, b, ah, g => by
  rw [List.cons_append, fieldsR, fieldsR, bnd_bnd]
  congr 1
  funext g
  rw [fields_app, List.append_assoc]
  rfl
/-! ### CheckRoom -/
/-- A field of an int32. -/
structure NewF (x : FieldT) : Prop where
 card : x.card = 1
 kind : x.kind = 5
 ty : x.ty = []
 key : x.key = 0
 oneof : x.oneof = 0
 packed : x.packed = 0
 js : x.js = []
/-! ### which numbers are told -/
end Go.Proofs.YtdemnhdoadjhhaaGreatDoor
end
section
namespace Go.Proofs.YtdemnhdoadjhhaaGreatDoor
open Go.Sk
set_option maxRecDepth 100000
attribute [local irreducible] Cs Own Ex Pu Yld RT LJ QJ AtQ CT Rd QSp Sp FinQ Then LoopQ CutQ DT TakeQ EffQ
attribute [local irreducible] Bd
variable {B : World} {R : List HP}
set_option maxHeartbeats 1000000 in
theorem rjoin_big {a : Option Addr} {k c : Nat} {ls : List (List Int)} (hR : Rd B R a k c 1 (strs ls)) (hk : k = ls.length) (hB : ∀ l ∈ ls, Byt l) (hb : sumL ls + ls.length ≤ 190000000000000) (hb2 : ∀ i, i < ls.length → sumL (ls.take i) + ls.length ≤ 140737488355000) :
  Sp B Tryz.prog 26 [.slice a k c] R [] (fun v H' => v = .string (str (joinL ls)) ∧ H' = []) := by
 refine Sp.body Tryz.func26 rfl Tryz.ntmps26 (by simp) ?_
 simp only [argE, List.cons_append, List.nil_append, Nat.zero_add, Nat.reduceAdd]
 subst hk
 have hget : ∀ i, i < ls.length → Byt (ls.getD i []) := fun i hi => by
  rw [List.getD_eq_getElem?_getD, List.getElem?_eq_getElem hi]
  exact hB _ (List.getElem_mem hi)
 try refine gL ?_
 refine CT.weak (fun w h => Sat.nilOwn (e := 5) (sz := 1) h) ?_
 refine CT.loop (α := Nat × Option Addr × Nat) (fun s => [(0, .slice a ls.length c), (3, .slice s.2.1 (joinS (filt (ls.take s.1))).length s.2.2), (4, .int .i64 s.1)]) (fun s => Pu (s.1 ≤ ls.length) :: own8 s.2.1 s.2.2 (joinS (filt (ls.take s.1))) :: R) (fun s => ls.length - s.1) (0, none, 0) ⟨rfl, rfl, rfl, trivial⟩
  (fun w h => Sat.pu_in (Nat.zero_le _) h) (fun s => CT.pu fun hi => ?_)
 obtain ⟨i, a1, c1⟩ := s
 simp only at hi ⊢
 have hfs := filt_sum (ls.take i)
 have hb2i := hb2 i
 have hst := sumL_take ls i
 have htl : (ls.take i).length ≤ ls.length := by rw [List.length_take]; omega
 have hjl := joinS_len (filt (ls.take i))
 repeat' (first|refine gL ?_|(refine gv ?_;(refine⟨fun hc=>?_,fun hc=>?_⟩<;>first|(exfalso;omega)|skip))|fail)
 ·refine RT.ix T (j := i) rfl rfl rfl (rD (hR)) (by omega) (by omega) (by omega) rfl rfl ?_
  refine RT.ldr T rfl (rD (hR)) (strs_get (i := i) (by omega)) rfl rfl rfl ?_
  refine RT.eqs (l := ls.getD i []) (l' := []) rfl rfl (hget i (by omega)) Byt.nil rfl rfl (fun he => ?_) (fun he => ?_)
  ·repeat' (first|refine gL ?_|(refine gv ?_;refine gk ?_)|fail)
   have hf := filt_out (ls := ls) (i := i) (by omega) he
   exact AtQ.loop (i + 1, a1, c1) ⟨rfl, by simp only; rw [hf]; rfl, rfl, trivial⟩ (fun w h => Sat.pu_in (by simp only; omega) (by simp only; rw [hf]; exact h)) (by simp only; omega)
  ·have hf := filt_in (ls := ls) (i := i) (by omega) he
   have hsum := sumL_succ (ls := ls) (i := i) (by omega)
   have hst2 := sumL_take ls (i + 1)
   repeat' (first|refine gL ?_|(refine gv ?_;(refine⟨fun hc=>?_,fun hc=>?_⟩<;>first|(exfalso;omega)|skip))|(refine RT.isPush ?_;refine gp ?_;intro a' c' b' c1' hac)|fail)
   ·have hFne : filt (ls.take i) ≠ [] := by
     intro h0
     have hc2 : 0 < (joinS (filt (ls.take i))).length := by omega
     rw [h0] at hc2
     simp [joinS] at hc2
    have e := joinS_snoc (filt (ls.take i)) (ls.getD i []) hFne
    rw [← hf] at e
    refine RT.ix T (j := i) rfl rfl rfl (rD (hR)) (by omega) (by omega) (by omega) rfl rfl ?_
    refine RT.ldr T rfl (rD (hR)) (strs_get (i := i) (by omega)) rfl rfl rfl ?_
    refine RT.appS T (l := joinS (filt (ls.take i)) ++ [46]) (l' := ls.getD i []) rfl rfl (hget i (by omega)) rfl rfl (fun a' c' => by ((repeat constructor);done)) (by omega) rfl rfl rfl (fun a2 c2 hac => ?_)
    repeat' (first|refine gL ?_|(refine gv ?_;refine gk ?_)|fail)
    have hlen : (joinS (filt (ls.take (i + 1)))).length = (joinS (filt (ls.take i))).length + 1 + (ls.getD i []).length := by rw [e]; simp; omega
    refine AtQ.loop (i + 1, a2, c2) ⟨rfl, by simp only; rw [hlen]; rfl, rfl, trivial⟩ (fun w h => Sat.pu_in (by simp only; omega) ?_) (by simp only; omega)
    have h2 := h.frd (Ps := [Own a2 c2 5 1 ((joinS (filt (ls.take i))).length + 1 + (ls.getD i []).length) (ints .u8 (joinS (filt (ls.take i)) ++ [46] ++ ls.getD i []))]) (Qs := []) fR_
    rw [← e, ← hlen] at h2
    exact h2
   ·have hF : filt (ls.take i) = [] := by
     by_cases h0 : filt (ls.take i) = []
     ·exact h0
     ·have := joinS_pos h0 (filt_ne _); omega
    rw [hF, List.nil_append] at hf
    have hj0 : joinS (filt (ls.take i)) = [] := by rw [hF]; rfl
    have e : joinS (filt (ls.take (i + 1))) = joinS (filt (ls.take i)) ++ ls.getD i [] := by rw [hf, hj0]; simp [joinS, dotted]
    refine RT.ix T (j := i) rfl rfl rfl (rD (hR)) (by omega) (by omega) (by omega) rfl rfl ?_
    refine RT.ldr T rfl (rD (hR)) (strs_get (i := i) (by omega)) rfl rfl rfl ?_
    refine RT.appS T (l := joinS (filt (ls.take i))) (l' := ls.getD i []) rfl rfl (hget i (by omega)) rfl rfl (fun a' c' => by ((repeat constructor);done)) (by omega) rfl rfl rfl (fun a2 c2 hac => ?_)
    repeat' (first|refine gL ?_|(refine gv ?_;refine gk ?_)|fail)
    have hlen : (joinS (filt (ls.take (i + 1)))).length = (joinS (filt (ls.take i))).length + (ls.getD i []).length := by rw [e]; simp
    refine AtQ.loop (i + 1, a2, c2) ⟨rfl, by simp only; rw [hlen]; rfl, rfl, trivial⟩ (fun w h => Sat.pu_in (by simp only; omega) ?_) (by simp only; omega)
    have h2 := h.frd (Ps := [Own a2 c2 5 1 ((joinS (filt (ls.take i))).length + (ls.getD i []).length) (ints .u8 (joinS (filt (ls.take i)) ++ ls.getD i []))]) (Qs := []) fR_
    rw [← e, ← hlen] at h2
    exact h2
 ·have hie : i = ls.length := by omega
  subst hie
  rw [List.take_length] at *
  refine RT.fact (p := (joinS (filt ls)).length ≤ c1) (fun w h => (Own.facts h sE_).2.1) fun hoc => ?_
  refine RT.convBS T rfl (Own.rdI sE_ rfl hoc) (joinS_byt (filt_mem hB)) Tryz.underlying162 Tryz.underlying5 rfl rfl rfl ?_
  try refine gL ?_
  exact AtQ.f1 Tryz.results26 rfl rfl (fun w h => h.tail)
theorem rjoin_fn {a : Option Addr} {k c : Nat} {ls : List (List Int)} (hR : Rd B R a k c 1 (strs ls)) (hk : k = ls.length) (hB : ∀ l ∈ ls, Byt l) (hb : sumL ls + ls.length ≤ 1000000000000) :
  Sp B Tryz.prog 26 [.slice a k c] R [] (fun v H' => v = .string (str (joinL ls)) ∧ H' = []) :=
 rjoin_big hR hk hB (by omega) (fun i _ => by have := sumL_take ls i; omega)
end Go.Proofs.YtdemnhdoadjhhaaGreatDoor
end
section
namespace Go.Proofs.YtdemnhdoadjhhaaGreatDoor
open Go.Sk
set_option maxRecDepth 100000
def befB (s t : SymT) : Bool := if s.full = t.full then decide (s.sort < t.sort) else ltL s.full t.full
def SymT.Ok (s : SymT) : Prop := Byt s.full ∧ U8 s.sort ∧ Byt s.file
attribute [local irreducible] Cs Own Ex Pu Yld RT LJ QJ AtQ CT Rd QSp Sp FinQ Then LoopQ CutQ DT TakeQ EffQ
variable {B : World} {R : List HP}
theorem rpath_fn {s : Txt} (hb : Byt s) (hl : s.length ≤ 140737488355328) : Sp B Tryz.prog 24 [vS s] R [] (fun v H' => v = .bool (pathB s) ∧ H' = []) := by
 refine Sp.body Tryz.func24 rfl Tryz.ntmps24 (by simp) ?_
 simp only [argE, List.cons_append, List.nil_append, Nat.zero_add, Nat.reduceAdd]
 repeat' (first|refine gL ?_|(refine gv ?_;(refine⟨fun hc=>?_,fun hc=>?_⟩<;>first|(exfalso;omega)|skip))|fail)
 ·have h0 : s = [] := List.eq_nil_of_length_eq_zero (by omega)
  exact AtQ.f1 Tryz.results24 rfl (by subst h0; rfl) (fun _ h => h)
 ·exact AtQ.f1 Tryz.results24 rfl (by unfold pathB; rw [decide_eq_false (by omega)]; rfl) (fun _ h => h)
 have h0 : s ≠ [] := fun h => by subst h; simp at *
 refine CT.loop (α := Nat) (fun i => [(0, vS s), (3, .int .i64 i)]) (fun i => Pu (i ≤ s.length ∧ ∀ j, j < i → pathC (s.getD j 0) = true) :: R) (fun i => s.length - i) 0 ⟨rfl, rfl, trivial⟩
  (fun w h => Sat.pu_in ⟨Nat.zero_le _, fun j hj => absurd hj (by omega)⟩ h) (fun i => CT.pu fun ⟨hi, ho⟩ => ?_)
 repeat' (first|refine gL ?_|(refine gv ?_;(refine⟨fun hc=>?_,fun hc=>?_⟩<;>first|(exfalso;omega)|skip))|fail)
 ·(refine RT.ixs T (j := i) rfl rfl (by omega) (by omega) (by assumption) rfl rfl rfl ?_)
  have hbi := hb.get (i := i) (by omega)
  repeat' (first|refine gL ?_|(refine gv ?_;(refine⟨fun hc=>?_,fun hc=>?_⟩<;>first|(exfalso;omega)|skip))|fail)
  all_goals try ((refine RT.ixs T (j := i) rfl rfl (by omega) (by omega) (by assumption) rfl rfl rfl ?_); repeat' (first|refine gL ?_|(refine gv ?_;(refine⟨fun hc=>?_,fun hc=>?_⟩<;>first|(exfalso;omega)|skip))|fail))
  all_goals try ((refine RT.ixs T (j := i) rfl rfl (by omega) (by omega) (by assumption) rfl rfl rfl ?_); repeat' (first|refine gL ?_|(refine gv ?_;(refine⟨fun hc=>?_,fun hc=>?_⟩<;>first|(exfalso;omega)|skip))|fail))
  all_goals try ((refine RT.ixs T (j := i) rfl rfl (by omega) (by omega) (by assumption) rfl rfl rfl ?_); repeat' (first|refine gL ?_|(refine gv ?_;first|(refine⟨fun hc=>?_,fun hc=>?_⟩<;>first|(exfalso;omega)|skip)|refine gk ?_)|fail))
  all_goals first
   | exact AtQ.f1 Tryz.results24 rfl (by rw [pathB_f (j := i) (by omega) (by unfold pathC; refine decide_eq_false ?_; omega)]) (fun _ h => h)
   | exact AtQ.loop (i + 1) ⟨rfl, rfl, trivial⟩ (fun w h => Sat.pu_in ⟨by omega, fun j hj => by
     by_cases hji : j = i
     ·rw [hji]; unfold pathC; refine decide_eq_true ?_; omega
     ·exact ho j (by omega)⟩ h) (by omega)
 ·have hie : i = s.length := by omega
  subst hie
  exact AtQ.f1 Tryz.results24 rfl (by rw [pathB_t h0 (by omega) ho]) (fun _ h => h)
theorem before_fn {s t : SymT} (hs : s.Ok) (ht : t.Ok) : Sp B Tryz.prog 56 [.agg s.cells.toArray, .agg t.cells.toArray] R [] (fun v H' => v = .bool (befB s t) ∧ H' = []) := by
 obtain ⟨sf, sk, sl⟩ := s
 obtain ⟨tf, tk, tl⟩ := t
 obtain ⟨s1, s2, s3⟩ := hs
 obtain ⟨t1, t2, t3⟩ := ht
 unfold U8 at s2 t2
 dsimp only [SymT.cells] at *
 unfold befB
 dsimp only
 refine Sp.body Tryz.func56 rfl Tryz.ntmps56 (by simp) ?_
 simp only [argE, List.cons_append, List.nil_append, Nat.zero_add, Nat.reduceAdd]
 repeat' (first|refine gL ?_|(refine gb ?_;intro b)|fail)
 refine RT.nes (l := sf) (l' := tf) rfl rfl s1 t1 rfl rfl (fun he => ?_) (fun he => ?_)
 ·rw [if_pos he]
  repeat' (first|refine gL ?_|(refine gv ?_;(refine⟨fun hc=>?_,fun hc=>?_⟩<;>first|(exfalso;omega)|skip))|fail)
  all_goals exact AtQ.f1 (HH := []) Tryz.results56 rfl (by first | rw [decide_eq_true (by omega)] | rw [decide_eq_false (by omega)]) dR_
 ·rw [if_neg he]
  try refine gL ?_
  refine RT.lts (l := sf) (l' := tf) rfl rfl s1 t1 rfl rfl ?_
  try refine gL ?_
  exact AtQ.f1 (HH := []) Tryz.results56 rfl rfl dR_
/-- A list of symbols as they are come to. -/
abbrev lst (b : Nat) (fl : Txt) (a : Option Addr) (c : Nat) (l : List SymT) : List HP := [Cs b 130 [.slice a l.length c, vS fl], Own a c 79 3 l.length (l.flatMap SymT.cells)]
theorem one_sym (x : SymT) : ∀ u ∈ x.cells, u.oneCell' = true := List.all_eq_true.1 (rfl : x.cells.all (·.oneCell') = true)
set_option maxHeartbeats 2000000 in
theorem put_fn {b : Nat} {fl s : Txt} {k : Int} {a : Option Addr} {c : Nat} {l : List SymT} (hl : l.length ≤ 1073741824) :
  Sp B Tryz.prog 108 [ptr b, vS s, .int .u8 k] R (lst b fl a c l) (fun v H' => v = .tuple #[] ∧ ∃ a' c', H' = lst b fl a' c' (l ++ [⟨s, k, fl⟩])) := by
 refine Sp.body Tryz.func108 rfl Tryz.ntmps108 (by simp) ?_
 simp only [argE, List.cons_append, List.nil_append, Nat.zero_add, Nat.reduceAdd]
 refine CT.drawn [Cs b 130 [.slice a l.length c, vS fl]] 16 mixed ?_
 (refine DT.takes (k := 5) [0, 1, 2, 3, 4, 5, 6, 7, 8, 9, 10, 11] [12, 13, 14, 15, 16] (fun w h => Sat.ones (by (repeat (first|exact Fr.nil|(apply Fr.cons;focus ((repeat constructor);done))))) h) (by kernel_rfl) (by kernel_rfl) (by kernel_rfl) rfl (Clos.ofB (by kernel_rfl)) ?_)
 try refine gL ?_
 refine AtQ.take ?_
 (refine DT.eff 12 rfl (by kernel_rfl) ?_)
 refine RT.bsA T (l := [vS s, .int .u8 k, vS fl]) rfl rfl rfl rfl rfl rfl rfl rfl (fun b' => ?_)
 (refine RT.nil ?_; refine AtQ.eff (fun w h => Sat.ones fR_ h) ?_)
 (refine DT.eff 13 rfl (by kernel_rfl) ?_)
 refine RT.app T (xs := l.flatMap SymT.cells) (ys := (⟨s, k, fl⟩ : SymT).cells) rfl rfl rfl (fun a' c' => by ((repeat constructor);done)) (Own.rd sE_ rfl (Nat.le_refl _)) (one_sym _) (by omega) (by omega) rfl rfl rfl rfl (fun a' c' hac => ?_)
 (refine RT.nil ?_; refine AtQ.eff (fun w h => Sat.ones fR_ h) ?_)
 (refine DT.takes (k := 1) [14, 15] [16] (fun w h => Sat.ones (by (repeat (first|exact Fr.nil|(apply Fr.cons;focus ((repeat constructor);done))))) h) (by kernel_rfl) (by kernel_rfl) (by kernel_rfl) rfl (Clos.ofB (by kernel_rfl)) ?_)
 try refine gL ?_
 refine AtQ.take ?_
 (refine DT.eff 16 rfl (by kernel_rfl) ?_)
 try refine gL ?_
 refine AtQ.eff' (by kernel_rfl) ?_
 (refine DT.done (by kernel_rfl) ?_)
 skip
 refine AtQ.fin0 Tryz.results108 (H' := lst b fl a' c' (l ++ [⟨s, k, fl⟩])) ⟨rfl, a', c', rfl⟩ (fun w h => ?_) _ (by first | exact .inl rfl | exact .inr rfl)
 unfold lst
 rw [List.length_append, List.length_singleton, List.flatMap_append, List.flatMap_singleton]
 exact h.tail
end Go.Proofs.YtdemnhdoadjhhaaGreatDoor
end
section
namespace Go.Proofs.YtdemnhdoadjhhaaGreatDoor
open Go.Sk
set_option maxRecDepth 100000
attribute [local irreducible] Cs Own Ex Pu Yld RT LJ QJ AtQ CT Rd QSp Sp FinQ Then LoopQ CutQ DT TakeQ EffQ
variable {B : World} {R : List HP}
theorem symE_len (fl sc : Txt) (e : EnumT) : (symE fl sc e).length = cntE e := by unfold symE cntE; simp; omega
theorem symEs_len (fl sc : Txt) (l : List EnumT) : (l.flatMap (symE fl sc)).length = (l.map cntE).sum := by
 induction l with
 | nil => rfl
 | cons e l ih => rw [List.flatMap_cons, List.length_append, ih, symE_len, List.map_cons, List.sum_cons]
mutual
theorem symM_len (fl : Txt) : ∀ (m : MsgT) (sc : Txt), (symM fl m sc).length = cntM m
 | .mk nm fields oneofs ma mc msgs enums res names, sc => by
  unfold symM cntM
  simp only [List.length_cons, List.length_append, List.length_map, symMs_len fl msgs, symEs_len]
  omega
theorem symMs_len (fl : Txt) : ∀ (l : List MsgT) (sc : Txt), (symMs fl l sc).length = cntMs l
 | [], sc => by unfold symMs cntMs; rfl
 | m :: l, sc => by unfold symMs cntMs; rw [List.length_append, symM_len fl m, symMs_len fl l]
end
theorem len_snoc {α : Type} {l : List α} {x : α} {i : Nat} (h : l[i]? = some x) : l.take i ++ [x] = l.take (i + 1) := by rw [List.take_add_one, h]; rfl
theorem map_snoc {α β : Type} {f : α → β} {l : List α} {x : α} {i : Nat} (h : l[i]? = some x) : (l.take i).map f ++ [f x] = (l.take (i + 1)).map f := by rw [List.take_add_one, h]; simp
set_option maxHeartbeats 4000000 in
theorem senum_fn {xb : Nat} {fl : Txt} {a : Option Addr} {c : Nat} {l : List SymT} {e : EnumT} {sc : Txt} (hin : e.In (Rd B R)) (hok : e.Ok) (hnm : ENm e) (hs : Byt sc) (hsl : sc.length ≤ 16777216) (hl : l.length + cntE e ≤ 1073741824) :
  Sp B Tryz.prog 55 [ptr xb, .agg e.cells.toArray, vS sc] R (lst xb fl a c l) (fun v H' => v = .tuple #[] ∧ ∃ a' c', H' = lst xb fl a' c' (l ++ symE fl sc e)) := by
 obtain ⟨nm, ⟨va, vc, vl⟩, ali, ⟨ra, rc, rl⟩, ⟨na, nc, nl⟩⟩ := e
 obtain ⟨hv, _, _⟩ := hin
 obtain ⟨⟨ho1, _⟩, ⟨ho2, _⟩, ho3, _, _, _, _⟩ := hok
 obtain ⟨hm1, hm2, _⟩ := hnm
 unfold cntE at hl
 dsimp only at hv ho1 ho2 ho3 hm1 hm2 hl
 unfold symE
 dsimp only [EnumT.cells, Rw.v]
 refine Sp.body Tryz.func55 rfl Tryz.ntmps55 (by simp) ?_
 simp only [argE, List.cons_append, List.nil_append, Nat.zero_add, Nat.reduceAdd]
 repeat' (first|refine gL ?_|(refine gb ?_;intro b)|fail)
 revert b
 intro eb
 (refine RT.bs T (l := strs [sc,  nm]) rfl rfl rfl rfl rfl rfl rfl (fun a9 c9 h9 => ?_); (refine RT.call T rfl fR_ (rjoin_fn (ls := [sc,  nm]) (Own.rd (by ((repeat constructor);done)) rfl h9) rfl (b2  hs  ho1) ( s2l hsl hm1)) rfl rfl rfl ?_; rintro _ _ ⟨rfl, rfl⟩; try simp only [List.cons_append, List.nil_append]); refine RT.weak (fun w h => h.tail) ?_)
 try refine gL ?_
 have hjl := @j2_len sc nm
 refine RT.call T rfl fR_ (put_fn (b := xb) (fl := fl) (s := joinL [sc, nm]) (k := 2) (a := a) (c := c) (l := l) (by omega)) rfl rfl rfl ?_
 rintro _ _ ⟨rfl, a1, c1, rfl⟩
 simp only [List.cons_append, List.nil_append]
 try refine gL ?_
 obtain ⟨es, hes⟩ : ∃ es, es = [vS nm, Value.slice va vl.length vc, Value.bool ali, Value.slice ra rl.length rc, Value.slice na nl.length nc] := ⟨_, rfl⟩
 rw [← hes]
 refine CT.loop (α := Nat × Option Addr × Nat) (fun s => [(0, ptr xb), (2, vS sc), (4, .pointer (some ⟨eb, 0, none⟩)), (7, .int .i64 s.1)])
  (fun s => Pu (s.1 ≤ vl.length) :: (lst xb fl s.2.1 s.2.2 (l ++ [⟨joinL [sc, nm], 2, fl⟩] ++ (vl.take s.1).map (fun v => ⟨joinL [sc, v.nm], 3, fl⟩)) ++ Cs eb 109 es :: R)) (fun s => vl.length - s.1) (0, a1, c1)
  ⟨rfl, rfl, rfl, rfl, trivial⟩ (fun w h => Sat.pu_in (Nat.zero_le _) (by dsimp only; rw [List.take_zero, List.map_nil, List.append_nil]; exact h)) (fun ⟨i, a2, c2⟩ => CT.pu fun hil => ?_)
 dsimp only at hil ⊢
 subst hes
 simp only [List.cons_append, List.nil_append]
 repeat' (first|refine gL ?_|(refine gv ?_;(refine⟨fun hc=>?_,fun hc=>?_⟩<;>first|(exfalso;omega)|skip))|fail)
 ·have hi' : i < vl.length := by omega
  have hgi := List.getElem?_eq_getElem hi'
  revert hgi
  generalize vl[i] = ev
  intro hgi
  have hme := List.mem_of_getElem? hgi
  have hvb := (ho3 ev hme).1.1
  have hvs := hm2 ev hme
  refine RT.ix T (j := i * 2) rfl rfl rfl (rD (hv)) (by omega) (by omega) (by omega) rfl rfl ?_
  refine RT.faA T rfl rfl rfl rfl ?_
  refine RT.ldr (u := vS ev.nm) T rfl (rD (hv)) (by rw [flat_get (f := EValT.cells) (z := 2) (fun _ => rfl) hgi (by decide)]; rfl) rfl rfl rfl ?_
  (refine RT.bs T (l := strs [sc,  ev.nm]) rfl rfl rfl rfl rfl rfl rfl (fun a9 c9 h9 => ?_); (refine RT.call T rfl fR_ (rjoin_fn (ls := [sc,  ev.nm]) (Own.rd (by ((repeat constructor);done)) rfl h9) rfl (b2  hs  hvb) ( s2l hsl hvs)) rfl rfl rfl ?_; rintro _ _ ⟨rfl, rfl⟩; try simp only [List.cons_append, List.nil_append]); refine RT.weak (fun w h => h.tail) ?_)
  try refine gL ?_
  refine RT.call T rfl fR_ (put_fn (b := xb) (fl := fl) (s := joinL [sc, ev.nm]) (k := 3) (by simp; omega)) rfl rfl rfl ?_
  rintro _ _ ⟨rfl, a3, c3, rfl⟩
  simp only [List.cons_append, List.nil_append]
  repeat' (first|refine gL ?_|(refine gv ?_;refine gk ?_)|fail)
  refine AtQ.loop (i + 1, a3, c3) ⟨rfl, rfl, rfl, rfl, trivial⟩ (fun w h => Sat.pu_in (by dsimp only; omega) ?_) (by dsimp only; omega)
  dsimp only
  rw [← map_snoc hgi, ← List.append_assoc]
  exact h
 ·refine AtQ.fin0 Tryz.results55 (H' := lst xb fl a2 c2 (l ++ (⟨joinL [sc, nm], 2, fl⟩ :: vl.map (fun v => ⟨joinL [sc, v.nm], 3, fl⟩)))) ⟨rfl, a2, c2, rfl⟩ (fun w h => ?_) _ (by first | exact .inl rfl | exact .inr rfl)
  rw [List.take_of_length_le (by omega), List.append_assoc] at h
  exact h.frd (Ps := [_, _]) (Qs := [_]) fR_
end Go.Proofs.YtdemnhdoadjhhaaGreatDoor
end
section
namespace Go.Proofs.YtdemnhdoadjhhaaGreatDoor
open Go.Sk
set_option maxRecDepth 100000
abbrev wk (wb : Nat) (e : Int) (t : Txt) (a : Option Addr) (c : Nat) (g : List Txt) : List HP := [Cs wb 125 [.int .i64 e, vS t, .slice a g.length c], Own a c 9 1 g.length (strs g)]
/-- The walk's state is what r says. -/
def WS (r : Rs) (e : Int) (t : Txt) (g : List Txt) : Prop := match r with
 | .ok g' => e = 0 ∧ t = [] ∧ g = g'
 | .error x => x.1 ≠ 0 ∧ e = x.1 ∧ t = x.2
theorem WS.start : WS (.ok []) 0 [] [] := ⟨rfl, rfl, rfl⟩
theorem WS.mt {r : Rs} {e err : Int} {t tx : Txt} {g : List Txt} {p : List Txt → Bool} (h : WS r e t g) (hb : p g = true) : WS (bnd r fun g => must (p g) err tx (.ok g)) e t g := by
 cases r with
 | error x => exact h
 | ok g' =>
  obtain ⟨h1, h2, rfl⟩ := h
  rw [bnd_ok, must_t hb]
  exact ⟨h1, h2, rfl⟩
theorem WS.mf {r : Rs} {e e0 err : Int} {t t0 tx : Txt} {g : List Txt} {p : List Txt → Bool} (h : WS (bnd r fun _ => .error (err, tx)) e t g) (h0 : WS r e0 t0 g) (hb : p g = false) : WS (bnd r fun g => must (p g) err tx (.ok g)) e t g := by
 cases r with
 | error x => exact h
 | ok g' =>
  obtain ⟨h1, h2, rfl⟩ := h0
  rw [bnd_ok, must_f hb]
  exact h
theorem WS.over {r : Rs} {e : Int} {t : Txt} {g : List Txt} (h : WS r e t g) (he : e ≠ 0) (K : List Txt → Rs) : bnd r K = r := by
 cases r with
 | error x => rfl
 | ok g' => exact absurd h.1 he
theorem WS.on {r : Rs} {t : Txt} {g : List Txt} (h : WS r 0 t g) : r = .ok g := by
 cases r with
 | error x => exact absurd h.2.1.symm h.1
 | ok g' => rw [h.2.2]
attribute [local irreducible] Cs Own Ex Pu Yld RT LJ QJ AtQ CT Rd QSp Sp FinQ Then LoopQ CutQ DT TakeQ EffQ
variable {B : World} {R : List HP}
theorem wrong_fn {wb : Nat} {e err : Int} {t tx : Txt} {a : Option Addr} {c : Nat} {g : List Txt} {r : Rs} (hr : WS r e t g) (hk : err ≠ 0) :
  Sp B Tryz.prog 50 [ptr wb, .int .i64 err, vS tx] R (wk wb e t a c g) (fun v H' => v = .tuple #[] ∧ ∃ e' t', H' = wk wb e' t' a c g ∧ WS (bnd r fun _ => .error (err, tx)) e' t' g) := by
 refine Sp.body Tryz.func50 rfl Tryz.ntmps50 (by simp) ?_
 simp only [argE, List.cons_append, List.nil_append, Nat.zero_add, Nat.reduceAdd]
 repeat' (first|refine gL ?_|(refine gv ?_;(refine⟨fun hc=>?_,fun hc=>?_⟩<;>first|(exfalso;omega)|skip))|fail)
 ·refine RT.stagg T (v := [.int .i64 err, vS tx]) rfl rfl rfl (by ((repeat constructor);done)) rfl rfl rfl rfl rfl ?_
  try refine gL ?_
  refine AtQ.fin0 Tryz.results50 (H' := wk wb err tx a c g) ⟨rfl, err, tx, rfl, ?_⟩ (fun w h => h) _ (by first | exact .inl rfl | exact .inr rfl)
  cases r with
  | error x => exact absurd (hr.2.1.symm.trans hc) hr.1
  | ok g' => exact ⟨hk, rfl, rfl⟩
 ·refine AtQ.fin0 Tryz.results50 (H' := wk wb e t a c g) ⟨rfl, e, t, rfl, ?_⟩ (fun w h => h) _ (by first | exact .inl rfl | exact .inr rfl)
  rw [hr.over (by assumption)]
  exact hr
theorem over_fn {wb : Nat} {e : Int} {t : Txt} {a : Option Addr} {c : Nat} {g : List Txt} :
  Sp B Tryz.prog 51 [ptr wb] R (wk wb e t a c g) (fun v H' => v = .bool (decide (e ≠ 0)) ∧ H' = wk wb e t a c g) := by
 refine Sp.body Tryz.func51 rfl Tryz.ntmps51 (by simp) ?_
 simp only [argE, List.cons_append, List.nil_append, Nat.zero_add, Nat.reduceAdd]
 repeat' (first|refine gL ?_|(refine gv ?_;(refine⟨fun hc=>?_,fun hc=>?_⟩<;>first|(exfalso;omega)|skip))|fail)
 ·exact AtQ.f1 (HH := wk wb e t a c g) Tryz.results51 rfl (by rw [decide_eq_false (by omega)]) (fun w h => h)
 ·exact AtQ.f1 (HH := wk wb e t a c g) Tryz.results51 rfl (by rw [decide_eq_true (by omega)]) (fun w h => h)
theorem has_fn {a : Option Addr} {k c : Nat} {l : List Txt} {s : Txt} (hR : Rd B R a k c 1 (strs l)) (hk : k = l.length) (hkm : k ≤ 140737488355328) (hb : BL l) (hs : Byt s) :
  Sp B Tryz.prog 106 [.slice a k c, vS s] R [] (fun v H' => v = .bool (decide (s ∈ l)) ∧ H' = []) := by
 subst hk
 refine Sp.body Tryz.func106 rfl Tryz.ntmps106 (by simp) ?_
 simp only [argE, List.cons_append, List.nil_append, Nat.zero_add, Nat.reduceAdd]
 try refine gL ?_
 refine CT.loop (α := Nat) (fun i => [(0, .slice a l.length c), (1, vS s), (5, .int .i64 i)]) (fun i => Pu (i ≤ l.length ∧ s ∉ l.take i) :: R) (fun i => l.length - i) 0 ⟨rfl, rfl, rfl, trivial⟩
  (fun w h => Sat.pu_in ⟨Nat.zero_le _, by simp⟩ h) (fun i => CT.pu fun ⟨hi, hno⟩ => ?_)
 repeat' (first|refine gL ?_|(refine gv ?_;(refine⟨fun hc=>?_,fun hc=>?_⟩<;>first|(exfalso;omega)|skip))|fail)
 ·have hi' : i < l.length := by omega
  have hgi := List.getElem?_eq_getElem hi'
  revert hgi
  generalize l[i] = x
  intro hgi
  have hxm := List.mem_of_getElem? hgi
  refine RT.ix T (j := i) rfl rfl rfl (rD (hR)) (by omega) (by omega) (by omega) rfl rfl ?_
  refine RT.ldr (u := vS x) T rfl (rD (hR)) (by unfold strs; rw [List.getElem?_map, hgi]; rfl) rfl rfl rfl ?_
  try refine gL ?_
  refine RT.eqs (l := x) (l' := s) rfl rfl (hb x hxm) hs rfl rfl (fun he => ?_) (fun he => ?_)
  ·try refine gL ?_
   exact AtQ.f1 (HH := []) Tryz.results106 rfl (by rw [decide_eq_true (he ▸ hxm)]) dR_
  ·repeat' (first|refine gL ?_|(refine gv ?_;refine gk ?_)|fail)
   refine AtQ.loop (i + 1) ⟨rfl, rfl, rfl, trivial⟩ (fun w h => Sat.pu_in ⟨by omega, fun hm => ?_⟩ h) (by omega)
   rw [← len_snoc hgi] at hm
   rcases List.mem_append.1 hm with hm | hm
   ·exact hno hm
   ·exact he (List.mem_singleton.1 hm).symm
 ·rw [List.take_of_length_le (by omega)] at hno
  exact AtQ.f1 (HH := []) Tryz.results106 rfl (by rw [decide_eq_false hno]) dR_
theorem wnamed_fn {wb : Nat} {e : Int} {t nm full : Txt} {a : Option Addr} {c : Nat} {g : List Txt} {r : Rs} (hr : WS r e t g) (hn : Byt nm) (hl : nm.length ≤ 16777216) (hfl : full.length ≤ 140737488355328) :
  Sp B Tryz.prog 131 [ptr wb, vS full, vS nm] R (wk wb e t a c g) (fun v H' => v = .tuple #[] ∧ ∃ e' t', H' = wk wb e' t' a c g ∧ WS (bnd r fun g => must (identB nm && decide (full.length ≤ 255)) 60 full (.ok g)) e' t' g) := by
 refine Sp.body Tryz.func131 rfl Tryz.ntmps131 (by simp) ?_
 simp only [argE, List.cons_append, List.nil_append, Nat.zero_add, Nat.reduceAdd]
 try refine gL ?_
 (refine RT.call T rfl fR_ (rident_fn hn (by omega)) rfl rfl rfl ?_; rintro _ _ ⟨rfl, rfl⟩; try simp only [List.cons_append, List.nil_append])
 cases hi : identB nm
 all_goals repeat' (first|refine gL ?_|(refine gv ?_;(refine⟨fun hc=>?_,fun hc=>?_⟩<;>first|(exfalso;omega)|skip))|fail)
 rotate_left
 rotate_left
 ·exact AtQ.fin0 Tryz.results131 (H' := wk wb e t a c g) ⟨rfl, e, t, rfl, hr.mt (by rw [decide_eq_true (by omega)]; rfl)⟩ (fun w h => h) _ (by first | exact .inl rfl | exact .inr rfl)
 all_goals
  refine RT.call T rfl fR_ (wrong_fn (wb := wb) (e := e) (err := 60) (t := t) (tx := full) (a := a) (c := c) (g := g) hr (by decide)) rfl rfl rfl ?_
  rintro _ _ ⟨rfl, e', t', rfl, hw⟩
  simp only [List.cons_append, List.nil_append]
  try refine gL ?_
  exact AtQ.fin0 Tryz.results131 (H' := wk wb e' t' a c g) ⟨rfl, e', t', rfl, hw.mf hr (by first | rfl | (rw [decide_eq_false (by omega)]; rfl))⟩ (fun w h => h) _ (by first | exact .inl rfl | exact .inr rfl)
theorem giveR_eq {r : Rs} {nm full : Txt} : bnd (bnd (bnd r fun g => must (identB nm && decide (full.length ≤ 255)) 60 full (.ok g)) fun g => must (decide (full ∉ g)) 61 full (.ok g)) (fun g => .ok (g ++ [full])) = bnd r (giveR nm full) := by
 rw [bnd_bnd, bnd_bnd]
 congr 1
 funext g
 unfold giveR
 rw [bnd_must, bnd_ok, bnd_must, bnd_ok]
set_option maxHeartbeats 1000000 in
theorem wgive_fn {wb : Nat} {e : Int} {t nm full : Txt} {a : Option Addr} {c : Nat} {g : List Txt} {r : Rs} (hr : WS r e t g) (hb : BL g) (hg : g.length ≤ 1073741824) (hn : Byt nm) (hf : Byt full) (hl : nm.length ≤ 16777216) (hfl : full.length ≤ 140737488355328) :
  Sp B Tryz.prog 101 [ptr wb, vS full, vS nm] R (wk wb e t a c g) (fun v H' => v = .tuple #[] ∧ ∃ e' t' a' c', H' = wk wb e' t' a' c' (g ++ [full]) ∧ WS (bnd r (giveR nm full)) e' t' (g ++ [full])) := by
 refine Sp.body Tryz.func101 rfl Tryz.ntmps101 (by simp) ?_
 simp only [argE, List.cons_append, List.nil_append, Nat.zero_add, Nat.reduceAdd]
 try refine gL ?_
 refine RT.call T rfl fR_ (wnamed_fn (wb := wb) (a := a) (c := c) hr hn hl hfl) rfl rfl rfl ?_
 rintro _ _ ⟨rfl, e1, t1, rfl, h1⟩
 simp only [List.cons_append, List.nil_append]
 try refine gL ?_
 refine RT.fact (p := g.length ≤ c) (fun w h => (Own.facts h sE_).2.1) fun hgc => ?_
 have hst : (strs g).length = g.length * 1 := by rw [strs_len, Nat.mul_one]
 refine RT.call T rfl fR_ (has_fn (l := g) (s := full) (Own.rd sE_ hst hgc) rfl (by omega) hb hf) rfl rfl rfl ?_
 rintro _ _ ⟨rfl, rfl⟩
 simp only [List.nil_append]
 have fin : ∀ {e2 : Int} {t2 : Txt}, WS (bnd (bnd r fun g => must (identB nm && decide (full.length ≤ 255)) 60 full (.ok g)) fun g => must (decide (full ∉ g)) 61 full (.ok g)) e2 t2 g → WS (bnd r (giveR nm full)) e2 t2 (g ++ [full]) := fun h => by
  rw [← giveR_eq]
  revert h
  generalize bnd (bnd r fun g => must (identB nm && decide (full.length ≤ 255)) 60 full (.ok g)) (fun g => must (decide (full ∉ g)) 61 full (.ok g)) = q
  intro h
  cases q with
  | error x => exact h
  | ok g' => exact ⟨h.1, h.2.1, by rw [h.2.2]⟩
 have hap : ∀ (a' : Option Addr) (c' : Nat), Own a' c' 9 1 (g.length + 1) (strs g ++ [vS full]) = Own a' c' 9 1 (g ++ [full]).length (strs (g ++ [full])) := fun a' c' => by
  rw [List.length_append, List.length_singleton]
  unfold strs
  rw [List.map_append]
  rfl
 cases hin : decide (full ∈ g)
 ·have hfin := fin (h1.mt (by rw [decide_eq_true (of_decide_eq_false hin)]))
  try refine gL ?_
  refine RT.bs T (l := [vS full]) rfl rfl rfl rfl rfl rfl rfl (fun a9 c9 h9 => ?_)
  refine RT.app T (xs := strs g) (ys := [vS full]) rfl rfl rfl (fun a' c' => by ((repeat constructor);done)) (Own.rd sE_ rfl h9) (fun u hu => by rw [List.mem_singleton.1 hu]; rfl) (by omega) (by omega) rfl rfl rfl rfl (fun a' c' hac => ?_)
  rw [hap]
  try refine gL ?_
  exact AtQ.fin0 Tryz.results101 (H' := wk wb e1 t1 a' c' (g ++ [full])) ⟨rfl, e1, t1, a', c', rfl, hfin⟩ (fun w h => by unfold wk; rw [List.length_append, List.length_singleton] at h ⊢; exact h.frd (Ps := [_, _]) (Qs := [_]) fR_) _ (by first | exact .inl rfl | exact .inr rfl)
 ·try refine gL ?_
  refine RT.call T rfl fR_ (wrong_fn (wb := wb) (e := e1) (err := 61) (t := t1) (tx := full) (a := a) (c := c) (g := g) h1 (by decide)) rfl rfl rfl ?_
  rintro _ _ ⟨rfl, e2, t2, rfl, h2⟩
  simp only [List.cons_append, List.nil_append]
  have hfin := fin (h2.mf h1 (by rw [decide_eq_false (fun h => h (of_decide_eq_true hin))]))
  try refine gL ?_
  refine RT.bs T (l := [vS full]) rfl rfl rfl rfl rfl rfl rfl (fun a9 c9 h9 => ?_)
  refine RT.app T (xs := strs g) (ys := [vS full]) rfl rfl rfl (fun a' c' => by ((repeat constructor);done)) (Own.rd sE_ rfl h9) (fun u hu => by rw [List.mem_singleton.1 hu]; rfl) (by omega) (by omega) rfl rfl rfl rfl (fun a' c' hac => ?_)
  rw [hap]
  try refine gL ?_
  exact AtQ.fin0 Tryz.results101 (H' := wk wb e2 t2 a' c' (g ++ [full])) ⟨rfl, e2, t2, a', c', rfl, hfin⟩ (fun w h => by unfold wk; rw [List.length_append, List.length_singleton] at h ⊢; exact h.frd (Ps := [_, _]) (Qs := [_]) fR_) _ (by first | exact .inl rfl | exact .inr rfl)
end Go.Proofs.YtdemnhdoadjhhaaGreatDoor
end
section
namespace Go.Proofs.YtdemnhdoadjhhaaGreatDoor
open Go.Sk
set_option maxRecDepth 100000
def goodS (lo hi : Int) (ah : List SpanT) (s : SpanT) : Bool := decide (lo ≤ s.f ∧ s.f ≤ s.t ∧ s.t ≤ hi ∧ ∀ o ∈ ah, s.t < o.f ∨ o.t < s.f)
theorem spansF_step {lo hi : Int} {t : Txt} : ∀ {l ah : List SpanT} {s : SpanT} {g : List Txt}, opt (spansF lo hi t ah (l ++ [s])) (.ok g) = bnd (opt (spansF lo hi t ah l) (.ok g)) (fun g => must (goodS lo hi (ah ++ l) s) 63 t (.ok g))
 | [], ah, s, g => by
  rw [List.nil_append, List.append_nil]
  unfold spansF spansF goodS
  rw [opt_none, bnd_ok]
  by_cases h : lo ≤ s.f ∧ s.f ≤ s.t ∧ s.t ≤ hi ∧ ∀ o ∈ ah, s.t < o.f ∨ o.t < s.f
  ·rw [if_pos h, decide_eq_true h, must_t rfl, opt_none]
  ·rw [if_neg h, decide_eq_false h, must_f rfl]; rfl
 | x :: l, ah, s, g => by
  rw [List.cons_append, spansF, spansF]
  by_cases h : lo ≤ x.f ∧ x.f ≤ x.t ∧ x.t ≤ hi ∧ ∀ o ∈ ah, x.t < o.f ∨ o.t < x.f
  ·rw [if_pos h, if_pos h, spansF_step, List.append_assoc]; rfl
  ·rw [if_neg h, if_neg h]; rfl
theorem goodS_nil {lo hi : Int} {s : SpanT} : goodS lo hi [] s = decide (lo ≤ s.f ∧ s.f ≤ s.t ∧ s.t ≤ hi) := by unfold goodS; simp
theorem goodS_snoc {lo hi : Int} {l : List SpanT} {o s : SpanT} : goodS lo hi (l ++ [o]) s = (goodS lo hi l s && decide (s.t < o.f ∨ o.t < s.f)) := by
 unfold goodS
 rw [← Bool.decide_and]
 refine decide_eq_decide.2 ⟨fun ⟨h1, h2, h3, h4⟩ => ⟨⟨h1, h2, h3, fun x hx => h4 x (List.mem_append_left _ hx)⟩, h4 o (by simp)⟩, fun ⟨⟨h1, h2, h3, h4⟩, h5⟩ => ⟨h1, h2, h3, fun x hx => ?_⟩⟩
 rcases List.mem_append.1 hx with hx | hx
 ·exact h4 x hx
 ·rw [List.mem_singleton.1 hx]; exact h5
attribute [local irreducible] Cs Own Ex Pu Yld RT LJ QJ AtQ CT Rd QSp Sp FinQ Then LoopQ CutQ DT TakeQ EffQ
variable {B : World} {R : List HP}
set_option maxHeartbeats 8000000 in
theorem wspans_fn {wb : Nat} {e : Int} {t tx : Txt} {a : Option Addr} {c : Nat} {g : List Txt} {r : Rs} {ra : Option Addr} {rc : Nat} {l : List SpanT} {lo hi : Int} (hr : WS r e t g) (hR : Rd B R ra l.length rc 2 (l.flatMap SpanT.cells)) (hl : l.length ≤ 1000000000) :
  Sp B Tryz.prog 102 [ptr wb, .slice ra l.length rc, .int .i32 lo, .int .i32 hi, vS tx] R (wk wb e t a c g)
   (fun v H' => v = .tuple #[] ∧ ∃ e' t', H' = wk wb e' t' a c g ∧ WS (bnd r fun g => opt (spansF lo hi tx [] l) (.ok g)) e' t' g) := by
 refine Sp.body Tryz.func102 rfl Tryz.ntmps102 (by simp) ?_
 simp only [argE, List.cons_append, List.nil_append, Nat.zero_add, Nat.reduceAdd]
 try refine gL ?_
 refine CT.loop (α := Nat × Int × Txt) (fun s => [(0, ptr wb), (1, .slice ra l.length rc), (2, .int .i32 lo), (3, .int .i32 hi), (4, vS tx), (10, .int .i64 s.1)])
  (fun s => Pu (s.1 ≤ l.length ∧ WS (bnd r fun g => opt (spansF lo hi tx [] (l.take s.1)) (.ok g)) s.2.1 s.2.2 g) :: (wk wb s.2.1 s.2.2 a c g ++ R)) (fun s => l.length - s.1) (0, e, t)
  ⟨rfl, rfl, rfl, rfl, rfl, rfl, trivial⟩ (fun w h => Sat.pu_in ⟨Nat.zero_le _, by dsimp only; rw [List.take_zero]; unfold spansF; cases r <;> exact hr⟩ h) (fun s => CT.pu fun hh => ?_)
 obtain ⟨i, e1, t1⟩ := s
 obtain ⟨hi1, h1⟩ := hh
 dsimp only at hi1 h1 ⊢
 simp only [List.cons_append, List.nil_append]
 repeat' (first|refine gS ?_|(refine gv ?_;(refine⟨fun hc=>?_,fun hc=>?_⟩<;>first|(exfalso;omega)|skip))|(refine CT.id_ ?_;first|refine CT.seqN 3 rfl ?_|refine CT.region ?_|refine CT.cond_t rfl ?_|refine CT.cond_f rfl ?_|refine CT.skip ?_|refine CT.exit ?_))
 ·have hi' : i < l.length := by omega
  obtain ⟨s, hs⟩ : ∃ s, l[i]? = some s := ⟨_, List.getElem?_eq_getElem hi'⟩
  refine CT.seq ?_
  refine CT.block ?_
  (repeat refine CT.seq ?_)
  refine CT.cut (α := Unit) (fun _ => [(0, ptr wb), (1, .slice ra l.length rc), (2, .int .i32 lo), (3, .int .i32 hi), (4, vS tx), (10, .int .i64 i), (11, .bool (!goodS lo hi [] s))]) (fun _ => wk wb e1 t1 a c g ++ R) ?_ (fun _ => ?_)
  ·try refine gL ?_
   ((refine RT.ix T (j := (i) * 2) rfl rfl rfl (rD (hR)) (by omega) (by omega) (by omega) rfl rfl ?_); (refine RT.faA T rfl rfl rfl rfl ?_); (refine RT.ldr (u := .int .i32 s.f) T rfl (rD (hR)) (by rw [flat_get (f := SpanT.cells) (z := 2) (fun _ => rfl) hs (by decide)]; rfl) rfl rfl rfl ?_))
   repeat' (first|refine gL ?_|(refine gv ?_;(refine⟨fun hc=>?_,fun hc=>?_⟩<;>first|(exfalso;omega)|skip))|fail)
   ·exact AtQ.cut () ⟨rfl, rfl, rfl, rfl, rfl, rfl, congrArg (fun z => some (Value.bool z)) (by rw [goodS_nil, decide_eq_false (by omega)]; rfl), trivial⟩ (fun _ h => h)
   ((refine RT.ix T (j := (i) * 2) rfl rfl rfl (rD (hR)) (by omega) (by omega) (by omega) rfl rfl ?_); (refine RT.faA T rfl rfl rfl rfl ?_); (refine RT.ldr (u := .int .i32 s.t) T rfl (rD (hR)) (by rw [flat_get (f := SpanT.cells) (z := 2) (fun _ => rfl) hs (by decide)]; rfl) rfl rfl rfl ?_))
   try refine gL ?_
   ((refine RT.ix T (j := (i) * 2) rfl rfl rfl (rD (hR)) (by omega) (by omega) (by omega) rfl rfl ?_); (refine RT.faA T rfl rfl rfl rfl ?_); (refine RT.ldr (u := .int .i32 s.f) T rfl (rD (hR)) (by rw [flat_get (f := SpanT.cells) (z := 2) (fun _ => rfl) hs (by decide)]; rfl) rfl rfl rfl ?_))
   repeat' (first|refine gL ?_|(refine gv ?_;(refine⟨fun hc=>?_,fun hc=>?_⟩<;>first|(exfalso;omega)|skip))|fail)
   ·exact AtQ.cut () ⟨rfl, rfl, rfl, rfl, rfl, rfl, congrArg (fun z => some (Value.bool z)) (by rw [goodS_nil, decide_eq_false (by omega)]; rfl), trivial⟩ (fun _ h => h)
   ((refine RT.ix T (j := (i) * 2) rfl rfl rfl (rD (hR)) (by omega) (by omega) (by omega) rfl rfl ?_); (refine RT.faA T rfl rfl rfl rfl ?_); (refine RT.ldr (u := .int .i32 s.t) T rfl (rD (hR)) (by rw [flat_get (f := SpanT.cells) (z := 2) (fun _ => rfl) hs (by decide)]; rfl) rfl rfl rfl ?_))
   repeat' (first|refine gL ?_|(refine gv ?_;(refine⟨fun hc=>?_,fun hc=>?_⟩<;>first|(exfalso;omega)|skip))|fail)
   ·exact AtQ.cut () ⟨rfl, rfl, rfl, rfl, rfl, rfl, congrArg (fun z => some (Value.bool z)) (by rw [goodS_nil, decide_eq_false (by omega)]; rfl), trivial⟩ (fun _ h => h)
   ·exact AtQ.cut () ⟨rfl, rfl, rfl, rfl, rfl, rfl, congrArg (fun z => some (Value.bool z)) (by rw [goodS_nil, decide_eq_true (by omega)]; rfl), trivial⟩ (fun _ h => h)
  refine A0 ?_
  repeat' (first|refine gS ?_|(refine CT.id_ ?_;first|refine CT.seqN 5 rfl ?_|refine CT.region ?_))
  refine CT.block ?_
  refine CT.loop (α := Nat) (fun k => [(0, ptr wb), (1, .slice ra l.length rc), (2, .int .i32 lo), (3, .int .i32 hi), (4, vS tx), (10, .int .i64 i), (11, .bool (!goodS lo hi (l.take k) s)), (12, .int .i64 k)])
   (fun k => Pu (k ≤ i) :: (wk wb e1 t1 a c g ++ R)) (fun k => i - k) 0
   ⟨rfl, rfl, rfl, rfl, rfl, rfl, rfl, rfl, trivial⟩ (fun w h => Sat.pu_in (Nat.zero_le _) h) (fun k => CT.pu fun hk => ?_)
  simp only [List.cons_append, List.nil_append]
  repeat' (first|refine gS ?_|(refine gv ?_;(refine⟨fun hc=>?_,fun hc=>?_⟩<;>first|(exfalso;omega)|skip))|(refine CT.id_ ?_;first|refine CT.seqN 8 rfl ?_|refine CT.blockN 8 rfl ?_|refine CT.region ?_|refine CT.quiet mixed (by kernel_rfl) ?_|refine CT.cond_t rfl ?_|refine CT.cond_f rfl ?_|refine CT.skip ?_|refine CT.exit ?_))
  ·obtain ⟨o, ho⟩ : ∃ o, l[k]? = some o := ⟨_, List.getElem?_eq_getElem (by omega)⟩
   have hsn : goodS lo hi (l.take (k + 1)) s = (goodS lo hi (l.take k) s && decide (s.t < o.f ∨ o.t < s.f)) := by rw [← goodS_snoc, len_snoc ho]
   cases hgd : goodS lo hi (l.take k) s
   ·rw [hgd, Bool.false_and] at hsn
    repeat' (first|refine gL ?_|(refine gv ?_;refine gk ?_)|fail)
    exact AtQ.loop (k + 1) ⟨rfl, rfl, rfl, rfl, rfl, rfl, congrArg (fun z => some (Value.bool z)) (by rw [hsn]; rfl), rfl, trivial⟩ (fun _ h => Sat.pu_in (by omega) h) (by omega)
   ·rw [hgd, Bool.true_and] at hsn
    try refine gL ?_
    ((refine RT.ix T (j := (i) * 2) rfl rfl rfl (rD (hR)) (by omega) (by omega) (by omega) rfl rfl ?_); (refine RT.faA T rfl rfl rfl rfl ?_); (refine RT.ldr (u := .int .i32 s.f) T rfl (rD (hR)) (by rw [flat_get (f := SpanT.cells) (z := 2) (fun _ => rfl) hs (by decide)]; rfl) rfl rfl rfl ?_))
    try refine gL ?_
    ((refine RT.ix T (j := (k) * 2) rfl rfl rfl (rD (hR)) (by omega) (by omega) (by omega) rfl rfl ?_); (refine RT.faA T rfl rfl rfl rfl ?_); (refine RT.ldr (u := .int .i32 o.t) T rfl (rD (hR)) (by rw [flat_get (f := SpanT.cells) (z := 2) (fun _ => rfl) ho (by decide)]; rfl) rfl rfl rfl ?_))
    repeat' (first|refine gL ?_|(refine gv ?_;first|(refine⟨fun hc=>?_,fun hc=>?_⟩<;>first|(exfalso;omega)|skip)|refine gk ?_)|fail)
    ·((refine RT.ix T (j := (k) * 2) rfl rfl rfl (rD (hR)) (by omega) (by omega) (by omega) rfl rfl ?_); (refine RT.faA T rfl rfl rfl rfl ?_); (refine RT.ldr (u := .int .i32 o.f) T rfl (rD (hR)) (by rw [flat_get (f := SpanT.cells) (z := 2) (fun _ => rfl) ho (by decide)]; rfl) rfl rfl rfl ?_))
     try refine gL ?_
     ((refine RT.ix T (j := (i) * 2) rfl rfl rfl (rD (hR)) (by omega) (by omega) (by omega) rfl rfl ?_); (refine RT.faA T rfl rfl rfl rfl ?_); (refine RT.ldr (u := .int .i32 s.t) T rfl (rD (hR)) (by rw [flat_get (f := SpanT.cells) (z := 2) (fun _ => rfl) hs (by decide)]; rfl) rfl rfl rfl ?_))
     repeat' (first|refine gL ?_|(refine gv ?_;first|(refine⟨fun hc=>?_,fun hc=>?_⟩<;>first|(exfalso;omega)|skip)|refine gk ?_)|fail)
     ·exact AtQ.loop (k + 1) ⟨rfl, rfl, rfl, rfl, rfl, rfl, congrArg (fun z => some (Value.bool z)) (by rw [hsn, decide_eq_false (by omega)]; rfl), rfl, trivial⟩ (fun _ h => Sat.pu_in (by omega) h) (by omega)
     ·exact AtQ.loop (k + 1) ⟨rfl, rfl, rfl, rfl, rfl, rfl, congrArg (fun z => some (Value.bool z)) (by rw [hsn, decide_eq_true (by omega)]; rfl), rfl, trivial⟩ (fun _ h => Sat.pu_in (by omega) h) (by omega)
    ·exact AtQ.loop (k + 1) ⟨rfl, rfl, rfl, rfl, rfl, rfl, congrArg (fun z => some (Value.bool z)) (by rw [hsn, decide_eq_true (by omega)]; rfl), rfl, trivial⟩ (fun _ h => Sat.pu_in (by omega) h) (by omega)
  obtain rfl : k = i := by omega
  have key : bnd (bnd r fun g => opt (spansF lo hi tx [] (l.take k)) (.ok g)) (fun g => must (goodS lo hi (l.take k) s) 63 tx (.ok g)) = bnd r fun g => opt (spansF lo hi tx [] (l.take (k + 1))) (.ok g) := by
   rw [bnd_bnd, ← len_snoc hs]
   congr 1
   funext g
   rw [spansF_step, List.nil_append]
  cases hgd : goodS lo hi (l.take k) s
  ·try refine gL ?_
   refine RT.call T rfl fR_ (wrong_fn (wb := wb) (e := e1) (err := 63) (t := t1) (tx := tx) (a := a) (c := c) (g := g) h1 (by decide)) rfl rfl rfl ?_
   rintro _ _ ⟨rfl, e2, t2, rfl, h2⟩
   simp only [List.cons_append, List.nil_append]
   repeat' (first|refine gL ?_|(refine gv ?_;refine gk ?_)|fail)
   exact AtQ.loop (k + 1, e2, t2) ⟨rfl, rfl, rfl, rfl, rfl, rfl, trivial⟩ (fun _ h => Sat.pu_in ⟨by dsimp only; omega, by dsimp only; rw [← key]; exact h2.mf (p := fun _ => goodS lo hi (l.take k) s) h1 hgd⟩ h) (by dsimp only; omega)
  ·repeat' (first|refine gL ?_|(refine gv ?_;refine gk ?_)|fail)
   exact AtQ.loop (k + 1, e1, t1) ⟨rfl, rfl, rfl, rfl, rfl, rfl, trivial⟩ (fun _ h => Sat.pu_in ⟨by dsimp only; omega, by dsimp only; rw [← key]; exact h1.mt (p := fun _ => goodS lo hi (l.take k) s) hgd⟩ h) (by dsimp only; omega)
 ·rw [List.take_of_length_le (by omega)] at h1
  exact AtQ.fin0 Tryz.results102 (H' := wk wb e1 t1 a c g) ⟨rfl, e1, t1, rfl, h1⟩ (fun _ h => h) _ (by first | exact .inl rfl | exact .inr rfl)
end Go.Proofs.YtdemnhdoadjhhaaGreatDoor
end
section
namespace Go.Proofs.YtdemnhdoadjhhaaGreatDoor
open Go.Sk
set_option maxRecDepth 100000
/-- A state of the document's Parts. -/
def ParI (l : List Int) (i from_ : Nat) (out : List (List Int)) : Prop := from_ ≤ i ∧ i ≤ l.length + 1 ∧ out.length ≤ i ∧ (i ≤ l.length → partsL l = out ++ partsF (l.drop i) ((l.drop from_).take (i - from_))) ∧ (l.length < i → out = partsL l)
theorem take_snoc {l : List Int} {i from_ : Nat} (h1 : from_ ≤ i) (h2 : i < l.length) : (l.drop from_).take (i + 1 - from_) = (l.drop from_).take (i - from_) ++ [l.getD i 0] := by
 rw [show i + 1 - from_ = (i - from_) + 1 by omega, List.take_add_one, List.getElem?_drop, show from_ + (i - from_) = i by omega, List.getElem?_eq_getElem h2]
 simp [List.getElem?_eq_getElem h2]
theorem ParI.dot {l : List Int} {i from_ : Nat} {out : List (List Int)} (h : ParI l i from_ out) (hi : i ≤ l.length) (hc : i = l.length ∨ l.getD i 0 = 46) : ParI l (i + 1) (i + 1) (out ++ [(l.drop from_).take (i - from_)]) := by
 obtain ⟨h1, h2, h3, h4, h5⟩ := h
 have h4' := h4 hi
 refine ⟨Nat.le_refl _, by omega, by simp; omega, fun h => ?_, fun h => ?_⟩
 ·rw [drop_get (by omega), partsF, if_pos (by rcases hc with hc | hc; omega; exact hc)] at h4'
  rw [h4']
  simp
 ·rw [show i = l.length by omega, List.drop_length, partsF] at h4'
  rw [h4', show i = l.length by omega]
theorem ParI.go {l : List Int} {i from_ : Nat} {out : List (List Int)} (h : ParI l i from_ out) (hi : i < l.length) (hc : l.getD i 0 ≠ 46) : ParI l (i + 1) from_ out := by
 obtain ⟨h1, h2, h3, h4, h5⟩ := h
 have h4' := h4 (by omega)
 refine ⟨by omega, by omega, by omega, fun h => ?_, fun h => absurd h (by omega)⟩
 rw [drop_get hi, partsF, if_neg hc] at h4'
 rw [take_snoc h1 hi]
 exact h4'
attribute [local irreducible] Cs Own Ex Pu Yld RT LJ QJ AtQ CT Rd QSp Sp FinQ Then LoopQ CutQ DT TakeQ EffQ
attribute [local irreducible] Bd
variable {B : World} {R : List HP}
set_option maxHeartbeats 1000000 in
theorem rparts_fn {l : List Int} (hb : Byt l) (hl : l.length ≤ 1000000000000) : Sp B Tryz.prog 83 [.string (str l)] R [] (fun v H' => ∃ a c, v = .slice a (partsL l).length c ∧ H' = [Own a c 9 1 (partsL l).length (strs (partsL l))]) := by
 refine Sp.body Tryz.func83 rfl Tryz.ntmps83 (by simp) ?_
 simp only [argE, List.cons_append, List.nil_append, Nat.zero_add, Nat.reduceAdd]
 try refine gL ?_
 refine CT.weak (fun w h => Sat.nilOwn (e := 9) (sz := 1) h) ?_
 refine CT.loop (α := Nat × Nat × List (List Int) × Option Addr × Nat) (fun s => [(0, .string (str l)), (3, .slice s.2.2.2.1 s.2.2.1.length s.2.2.2.2), (4, .int .i64 s.2.1), (5, .int .i64 s.1)]) (fun s => Pu (ParI l s.1 s.2.1 s.2.2.1) :: Own s.2.2.2.1 s.2.2.2.2 9 1 s.2.2.1.length (strs s.2.2.1) :: R) (fun s => l.length + 1 - s.1) (0, 0, [], none, 0) ⟨rfl, rfl, rfl, rfl, trivial⟩
  (fun w h => Sat.pu_in ⟨Nat.le_refl _, by simp, by simp, fun _ => by simp [partsL], fun h => absurd h (by simp)⟩ h) (fun s => CT.pu fun hs => ?_)
 obtain ⟨i, from_, out, a, c⟩ := s
 simp only at hs ⊢
 obtain ⟨hs1, hs2, hs3, hs4, hs5⟩ := id hs
 have push : ∀ (y : List Int) (a' : Option Addr) (c' : Nat) (w : World), Sat B (Own a' c' 9 1 (out.length + 1) (strs out ++ [.string (str y)]) :: R) w → Sat B (Own a' c' 9 1 (out ++ [y]).length (strs (out ++ [y])) :: R) w := fun y a' c' w h => by
  have e : strs out ++ [.string (str y)] = strs (out ++ [y]) := by simp [strs]
  rw [e, show out.length + 1 = (out ++ [y]).length by simp] at h
  exact h
 repeat' (first|refine gL ?_|(refine gv ?_;(refine⟨fun hc=>?_,fun hc=>?_⟩<;>first|(exfalso;omega)|skip))|fail)
 ·refine RT.slsB T (j := from_) (j' := i) rfl rfl rfl rfl rfl hs1 (by omega) rfl rfl rfl ?_
  refine RT.push T rfl rfl rfl rfl (fun a' c' => by ((repeat constructor);done)) (by omega) (by omega) rfl rfl rfl rfl (fun a' c' b' c1' hac => ?_)
  repeat' (first|refine gL ?_|(refine gv ?_;refine gk ?_)|fail)
  exact AtQ.loop (i + 1, i + 1, out ++ [(l.drop from_).take (i - from_)], a', c') ⟨rfl, by simp only [List.length_append, List.length_singleton]; rfl, rfl, rfl, trivial⟩ (fun w h => Sat.pu_in (hs.dot (by omega) (.inl (by omega))) (push _ _ _ _ (h.frd (Ps := [_]) (Qs := []) fR_))) (by simp only; omega)
 ·(refine RT.ixs T (j := i) rfl rfl (by omega) (by omega) (by assumption) rfl rfl rfl ?_)
  repeat' (first|refine gL ?_|(refine gv ?_;first|(refine⟨fun hc=>?_,fun hc=>?_⟩<;>first|(exfalso;omega)|skip)|refine gk ?_)|fail)
  ·refine RT.slsB T (j := from_) (j' := i) rfl rfl rfl rfl rfl hs1 (by omega) rfl rfl rfl ?_
   refine RT.push T rfl rfl rfl rfl (fun a' c' => by ((repeat constructor);done)) (by omega) (by omega) rfl rfl rfl rfl (fun a' c' b' c1' hac => ?_)
   repeat' (first|refine gL ?_|(refine gv ?_;refine gk ?_)|fail)
   exact AtQ.loop (i + 1, i + 1, out ++ [(l.drop from_).take (i - from_)], a', c') ⟨rfl, by simp only [List.length_append, List.length_singleton]; rfl, rfl, rfl, trivial⟩ (fun w h => Sat.pu_in (hs.dot (by omega) (.inr (by assumption))) (push _ _ _ _ (h.frd (Ps := [_]) (Qs := []) fR_))) (by simp only; omega)
  ·exact AtQ.loop (i + 1, from_, out, a, c) ⟨rfl, rfl, rfl, rfl, trivial⟩ (fun w h => Sat.pu_in (hs.go (by omega) (by assumption)) h) (by simp only; omega)
 ·have he := hs5 (by omega)
  subst he
  refine AtQ.fin1 (H' := [Own a c 9 1 (partsL l).length (strs (partsL l))]) Tryz.results83 rfl ?_ (fun _ h => h)
  exact ⟨a, c, rfl, rfl⟩
set_option maxHeartbeats 1000000 in
theorem rfull_fn {l : List Int} (hb : Byt l) (hl : l.length ≤ 140737488355328) : Sp B Tryz.prog 23 [.string (str l)] R [] (fun v H' => v = .bool (fullB l) ∧ H' = []) := by
 refine Sp.body Tryz.func23 rfl Tryz.ntmps23 (by simp) ?_
 simp only [argE, List.cons_append, List.nil_append, Nat.zero_add, Nat.reduceAdd]
 repeat' (first|refine gL ?_|(refine gv ?_;(refine⟨fun hc=>?_,fun hc=>?_⟩<;>first|(exfalso;omega)|skip))|fail)
 ·exact AtQ.f1 Tryz.results23 rfl (by rw [fullB_f (by rintro ⟨h, _⟩; omega)]) (fun w h => h)
 ·refine RT.call T rfl fR_ (rparts_fn hb (by omega)) rfl rfl rfl ?_
  rintro _ _ ⟨a, c, rfl, rfl⟩
  simp only [List.cons_append, List.nil_append]
  have hpl := (partsF_len l []).1
  have hpb := partsF_byt l [] hb Byt.nil
  have hpl2 := (partsF_len l []).2
  refine RT.fact (p := (partsL l).length ≤ c) (fun w h => (Own.facts h sE_).2.1) fun hpc => ?_
  have hget : ∀ j, j < (partsL l).length → Byt ((partsL l).getD j []) ∧ ((partsL l).getD j []).length ≤ l.length := fun j hj => by
   rw [List.getD_eq_getElem?_getD, List.getElem?_eq_getElem hj]
   have := hpl2 _ (List.getElem_mem hj)
   exact ⟨hpb _ (List.getElem_mem hj), by simpa using this⟩
  try refine gL ?_
  refine CT.loop (α := Nat) (fun i => [(3, .slice a (partsL l).length c), (4, .int .i64 i)]) (fun i => Pu (i ≤ (partsL l).length ∧ ∀ j, j < i → identP ((partsL l).getD j [])) :: Own a c 9 1 (partsL l).length (strs (partsL l)) :: R) (fun i => (partsL l).length - i) 0 ⟨rfl, rfl, trivial⟩
   (fun w h => Sat.pu_in ⟨Nat.zero_le _, fun j hj => absurd hj (by omega)⟩ h) (fun i => CT.pu fun ⟨hi, ho⟩ => ?_)
  have hpl' : (partsL l).length ≤ l.length + 1 := hpl
  repeat' (first|refine gL ?_|(refine gv ?_;(refine⟨fun hc=>?_,fun hc=>?_⟩<;>first|(exfalso;omega)|skip))|fail)
  ·obtain ⟨g1, g2⟩ := hget i (by omega)
   refine RT.ix T (j := i) rfl rfl rfl (Own.rd sE_ (by rw [strs_len, Nat.mul_one]) hpc) (by omega) (by omega) (by omega) rfl rfl ?_
   refine RT.ldr T rfl (Own.rd sE_ (by rw [strs_len, Nat.mul_one]) hpc) (strs_get (i := i) (by omega)) rfl rfl rfl ?_
   (refine RT.call T rfl fR_ (rident_fn g1 (by omega)) rfl rfl rfl ?_; rintro _ _ ⟨rfl, rfl⟩; try simp only [List.cons_append, List.nil_append])
   rcases identB_cases ((partsL l).getD i []) with ⟨e, hp⟩ | ⟨e, hp⟩
   ·rw [e]
    repeat' (first|refine gL ?_|(refine gv ?_;refine gk ?_)|fail)
    exact AtQ.loop (i + 1) ⟨rfl, rfl, trivial⟩ (fun w h => Sat.pu_in ⟨by omega, fun j hj => by
     by_cases hji : j = i
     ·rw [hji]; exact hp
     ·exact ho j (by omega)⟩ h) (by omega)
   ·rw [e]
    try refine gL ?_
    exact AtQ.f1 Tryz.results23 rfl (by rw [fullB_f (fun h => hp (h.2 i (by omega)))]) (fun w h => h.tail)
  ·have hie : i = (partsL l).length := by omega
   subst hie
   exact AtQ.f1 Tryz.results23 rfl (by rw [fullB_t ⟨by omega, ho⟩]) (fun w h => h.tail)
end Go.Proofs.YtdemnhdoadjhhaaGreatDoor
end
section
namespace Go.Proofs.YtdemnhdoadjhhaaGreatDoor
open Go.Sk
set_option maxRecDepth 100000
def kindA (f : FieldT) : Bool := decide (1 ≤ f.card ∧ f.card ≤ 4) && (decide (f.kind = 0) || kindB f.kind)
noncomputable def kindF (f : FieldT) : Bool := kindA f && (if namedB f.kind = true then refB f.ty else decide (f.ty = []))
theorem kindA_f {f : FieldT} (h : f.card < 1 ∨ 4 < f.card ∨ 18 < f.kind ∨ f.kind = 10) : kindA f = false := by
 unfold kindA kindB
 by_cases h1 : 1 ≤ f.card ∧ f.card ≤ 4
 ·rw [decide_eq_false (p := f.kind = 0) (by omega), decide_eq_false (p := 1 ≤ f.kind ∧ f.kind ≤ 18 ∧ f.kind ≠ 10) (by omega)]
  simp
 ·rw [decide_eq_false h1]; rfl
theorem kindA_t {f : FieldT} (h0 : 0 ≤ f.kind) (h : ¬ (f.card < 1) ∧ ¬ (4 < f.card) ∧ ¬ (18 < f.kind) ∧ f.kind ≠ 10) : kindA f = true := by
 unfold kindA kindB
 rw [decide_eq_true (p := 1 ≤ f.card ∧ f.card ≤ 4) (by omega)]
 by_cases h1 : f.kind = 0
 ·rw [decide_eq_true h1]; rfl
 ·rw [decide_eq_false h1, decide_eq_true (p := 1 ≤ f.kind ∧ f.kind ≤ 18 ∧ f.kind ≠ 10) (by omega)]; rfl
theorem namesF_step {sc : Txt} : ∀ {l ah : List Txt} {n : Txt} {g : List Txt}, opt (namesF sc ah (l ++ [n])) (.ok g) = bnd (bnd (opt (namesF sc ah l) (.ok g)) (fun g => must (identB n) 60 (joinL [sc, n]) (.ok g))) (fun g => must (decide (n ∉ ah ++ l)) 61 (joinL [sc, n]) (.ok g))
 | [], ah, n, g => by
  rw [List.nil_append, List.append_nil]
  unfold namesF namesF
  rw [opt_none, bnd_ok]
  cases h : identB n
  ·rfl
  ·rw [must_t rfl, bnd_ok, if_pos rfl]
   by_cases h2 : n ∈ ah
   ·rw [if_pos h2, decide_eq_false (fun h => h h2), must_f rfl]; rfl
   ·rw [if_neg h2, decide_eq_true h2, must_t rfl]; rfl
 | x :: l, ah, n, g => by
  rw [List.cons_append, namesF, namesF]
  cases h : identB x
  ·rfl
  ·rw [if_pos rfl, if_pos rfl]
   by_cases h2 : x ∈ ah
   ·rw [if_pos h2, if_pos h2]; rfl
   ·rw [if_neg h2, if_neg h2, namesF_step, List.append_assoc]; rfl
attribute [local irreducible] Cs Own Ex Pu Yld RT LJ QJ AtQ CT Rd QSp Sp FinQ Then LoopQ CutQ DT TakeQ EffQ
variable {B : World} {R : List HP}
theorem wmay_fn {x : Int} : Sp B Tryz.prog 132 [.int .i32 x] R [] (fun v H' => v = .bool (mayB x) ∧ H' = []) := by
 refine Sp.body Tryz.func132 rfl Tryz.ntmps132 (by simp) ?_
 simp only [argE, List.cons_append, List.nil_append, Nat.zero_add, Nat.reduceAdd]
 unfold mayB
 repeat' (first|refine gL ?_|(refine gv ?_;(refine⟨fun hc=>?_,fun hc=>?_⟩<;>first|(exfalso;omega)|skip))|fail)
 all_goals exact AtQ.f1 (HH := []) Tryz.results132 rfl (by first | rw [decide_eq_true (by omega)] | rw [decide_eq_false (by omega)]) (fun _ h => h)
theorem wkeyed_fn {x : Int} (hx : U8 x) : Sp B Tryz.prog 134 [.int .u8 x] R [] (fun v H' => v = .bool (keyB x) ∧ H' = []) := by
 unfold U8 at hx
 refine Sp.body Tryz.func134 rfl Tryz.ntmps134 (by simp) ?_
 simp only [argE, List.cons_append, List.nil_append, Nat.zero_add, Nat.reduceAdd]
 have ht : (x = 3 ∨ x = 4 ∨ x = 5 ∨ x = 6 ∨ x = 7 ∨ x = 8 ∨ x = 9 ∨ x = 13 ∨ x = 15 ∨ x = 16 ∨ x = 17 ∨ x = 18) → keyB x = true := fun h => by
  rcases h with rfl | rfl | rfl | rfl | rfl | rfl | rfl | rfl | rfl | rfl | rfl | rfl <;> decide
 have hf : ¬ (x = 3 ∨ x = 4 ∨ x = 5 ∨ x = 6 ∨ x = 7 ∨ x = 8 ∨ x = 9 ∨ x = 13 ∨ x = 15 ∨ x = 16 ∨ x = 17 ∨ x = 18) → keyB x = false := fun h => by
  unfold keyB kindB
  rw [← Bool.decide_and]
  exact decide_eq_false (by omega)
 generalize keyB x = kb at ht hf ⊢
 repeat' (first|refine gL ?_|(refine gv ?_;(refine⟨fun hc=>?_,fun hc=>?_⟩<;>first|(exfalso;omega)|skip))|fail)
 all_goals exact AtQ.f1 (HH := []) Tryz.results134 rfl (by first | rw [ht (by omega)] | rw [hf (by omega)]) (fun _ h => h)
theorem wpacks_fn {x : Int} : Sp B Tryz.prog 135 [.int .u8 x] R [] (fun v H' => v = .bool (packsB x) ∧ H' = []) := by
 refine Sp.body Tryz.func135 rfl Tryz.ntmps135 (by simp) ?_
 simp only [argE, List.cons_append, List.nil_append, Nat.zero_add, Nat.reduceAdd]
 unfold packsB
 repeat' (first|refine gL ?_|(refine gv ?_;(refine⟨fun hc=>?_,fun hc=>?_⟩<;>first|(exfalso;omega)|skip))|fail)
 all_goals exact AtQ.f1 (HH := []) Tryz.results135 rfl (by first | rw [decide_eq_true (by omega)] | rw [decide_eq_false (by omega)]) (fun _ h => h)
theorem wref_fn {s : Txt} (hb : Byt s) (hl : s.length ≤ 140737488355328) : Sp B Tryz.prog 158 [vS s] R [] (fun v H' => v = .bool (refB s) ∧ H' = []) := by
 refine Sp.body Tryz.func158 rfl Tryz.ntmps158 (by simp) ?_
 simp only [argE, List.cons_append, List.nil_append, Nat.zero_add, Nat.reduceAdd]
 unfold refB
 have hd : Byt (s.drop 1) := fun x hx => hb x (List.mem_of_mem_drop hx)
 have hdl : (s.drop 1).length = s.length - 1 := List.length_drop
 repeat' (first|refine gL ?_|(refine gv ?_;(refine⟨fun hc=>?_,fun hc=>?_⟩<;>first|(exfalso;omega)|skip))|fail)
 ·(refine RT.ixs T (j := 0) rfl rfl (by omega) (by omega) (by assumption) rfl rfl rfl ?_)
  repeat' (first|refine gL ?_|(refine gv ?_;(refine⟨fun hc=>?_,fun hc=>?_⟩<;>first|(exfalso;omega)|skip))|fail)
  ·rw [if_pos (by omega)]
   refine RT.slsL T (j := 1) rfl rfl rfl (by omega) rfl rfl rfl ?_
   (refine RT.call T rfl fR_ (rfull_fn hd (by omega)) rfl rfl rfl ?_; rintro _ _ ⟨rfl, rfl⟩; try simp only [List.cons_append, List.nil_append])
   try refine gL ?_
   exact AtQ.f1 (HH := []) Tryz.results158 rfl (by rw [decide_eq_true (by omega), Bool.and_true]) (fun _ h => h)
  ·rw [if_pos (by omega)]
   exact AtQ.f1 (HH := []) Tryz.results158 rfl (by rw [decide_eq_false (by omega), Bool.and_false]) (fun _ h => h)
  ·rw [if_neg (by omega)]
   (refine RT.call T rfl fR_ (rfull_fn hb hl) rfl rfl rfl ?_; rintro _ _ ⟨rfl, rfl⟩; try simp only [List.cons_append, List.nil_append])
   try refine gL ?_
   exact AtQ.f1 (HH := []) Tryz.results158 rfl rfl (fun _ h => h)
 ·have h0 : s = [] := List.eq_nil_of_length_eq_zero (by omega)
  subst h0
  rw [if_neg (by decide)]
  (refine RT.call T rfl fR_ (rfull_fn hb hl) rfl rfl rfl ?_; rintro _ _ ⟨rfl, rfl⟩; try simp only [List.cons_append, List.nil_append])
  try refine gL ?_
  exact AtQ.f1 (HH := []) Tryz.results158 rfl rfl (fun _ h => h)
theorem wkind_fn {f : FieldT} (hf : f.Ok) : Sp B Tryz.prog 133 [.agg f.cells.toArray] R [] (fun v H' => v = .bool (kindF f) ∧ H' = []) := by
 have hkt := kindA_t (f := f)
 have hkf := kindA_f (f := f)
 obtain ⟨f1, f2, f3, f4, f5, f6, f7, f8, f9⟩ := hf
 unfold U8 at f3 f4
 unfold kindF
 generalize kindA f = ka at *
 obtain ⟨nm, num, card, kind, ty, key, oneof, packed, js⟩ := f
 dsimp only [FieldT.cells] at *
 refine Sp.body Tryz.func133 rfl Tryz.ntmps133 (by simp) ?_
 simp only [argE, List.cons_append, List.nil_append, Nat.zero_add, Nat.reduceAdd]
 repeat' (first|refine gL ?_|(refine gv ?_;(refine⟨fun hc=>?_,fun hc=>?_⟩<;>first|(exfalso;omega)|skip))|(refine gb ?_;intro b)|fail)
 ·exact AtQ.f1 (HH := []) Tryz.results133 rfl (by rw [hkf (by omega)]; rfl) dR_
 ·exact AtQ.f1 (HH := []) Tryz.results133 rfl (by rw [hkf (by omega)]; rfl) dR_
 ·exact AtQ.f1 (HH := []) Tryz.results133 rfl (by rw [hkf (by omega)]; rfl) dR_
 ·exact AtQ.f1 (HH := []) Tryz.results133 rfl (by rw [hkf (by omega)]; rfl) dR_
 ·(refine RT.call T rfl fR_ (wref_fn f5.1 f5.2) rfl rfl rfl ?_; rintro _ _ ⟨rfl, rfl⟩; try simp only [List.cons_append, List.nil_append])
  try refine gL ?_
  exact AtQ.f1 (HH := []) Tryz.results133 rfl (by rw [hkt (by omega) (by omega), if_pos (by unfold namedB; exact decide_eq_true (by omega))]; rfl) dR_
 ·(refine RT.call T rfl fR_ (wref_fn f5.1 f5.2) rfl rfl rfl ?_; rintro _ _ ⟨rfl, rfl⟩; try simp only [List.cons_append, List.nil_append])
  try refine gL ?_
  exact AtQ.f1 (HH := []) Tryz.results133 rfl (by rw [hkt (by omega) (by omega), if_pos (by unfold namedB; exact decide_eq_true (by omega))]; rfl) dR_
 ·(refine RT.call T rfl fR_ (wref_fn f5.1 f5.2) rfl rfl rfl ?_; rintro _ _ ⟨rfl, rfl⟩; try simp only [List.cons_append, List.nil_append])
  try refine gL ?_
  exact AtQ.f1 (HH := []) Tryz.results133 rfl (by rw [hkt (by omega) (by omega), if_pos (by unfold namedB; exact decide_eq_true (by omega))]; rfl) dR_
 ·have hk : (if namedB kind = true then refB ty else decide (ty = [])) = decide (ty = []) := if_neg (by unfold namedB; rw [decide_eq_false (by omega)]; decide)
  rw [hk, hkt (by omega) (by omega), Bool.true_and]
  refine RT.eqs (l := ty) (l' := []) rfl rfl f5.1 Byt.nil rfl rfl (fun he => ?_) (fun he => ?_)
  ·try refine gL ?_
   exact AtQ.f1 (HH := []) Tryz.results133 rfl (by rw [decide_eq_true he]) dR_
  ·try refine gL ?_
   exact AtQ.f1 (HH := []) Tryz.results133 rfl (by rw [decide_eq_false he]) dR_
theorem wamong_fn {ra : Option Addr} {rc : Nat} {l : List SpanT} {x : Int} (hR : Rd B R ra l.length rc 2 (l.flatMap SpanT.cells)) (hl : l.length ≤ 1000000000) : Sp B Tryz.prog 107 [.slice ra l.length rc, .int .i32 x] R [] (fun v H' => v = .bool (anyS l x) ∧ H' = []) := by
 refine Sp.body Tryz.func107 rfl Tryz.ntmps107 (by simp) ?_
 simp only [argE, List.cons_append, List.nil_append, Nat.zero_add, Nat.reduceAdd]
 try refine gL ?_
 refine CT.loop (α := Nat) (fun i => [(0, .slice ra l.length rc), (1, .int .i32 x), (5, .int .i64 i)]) (fun i => Pu (i ≤ l.length ∧ anyS (l.take i) x = false) :: R) (fun i => l.length - i) 0 ⟨rfl, rfl, rfl, trivial⟩
  (fun w h => Sat.pu_in ⟨Nat.zero_le _, rfl⟩ h) (fun i => CT.pu fun ⟨hi, hno⟩ => ?_)
 repeat' (first|refine gL ?_|(refine gv ?_;(refine⟨fun hc=>?_,fun hc=>?_⟩<;>first|(exfalso;omega)|skip))|fail)
 ·obtain ⟨s, hs⟩ : ∃ s, l[i]? = some s := ⟨_, List.getElem?_eq_getElem (by omega)⟩
  have hsm := List.mem_of_getElem? hs
  have hst : anyS (l.take (i + 1)) x = inS s x := by
   unfold anyS at hno ⊢
   rw [← len_snoc hs, List.any_append, hno]
   simp
  have hany : inS s x = true → anyS l x = true := fun h => List.any_eq_true.2 ⟨s, hsm, h⟩
  ((refine RT.ix T (j := (i) * 2) rfl rfl rfl (rD (hR)) (by omega) (by omega) (by omega) rfl rfl ?_); (refine RT.faA T rfl rfl rfl rfl ?_); (refine RT.ldr (u := .int .i32 s.f) T rfl (rD (hR)) (by rw [flat_get (f := SpanT.cells) (z := 2) (fun _ => rfl) hs (by decide)]; rfl) rfl rfl rfl ?_))
  repeat' (first|refine gL ?_|(refine gv ?_;first|(refine⟨fun hc=>?_,fun hc=>?_⟩<;>first|(exfalso;omega)|skip)|refine gk ?_)|fail)
  ·((refine RT.ix T (j := (i) * 2) rfl rfl rfl (rD (hR)) (by omega) (by omega) (by omega) rfl rfl ?_); (refine RT.faA T rfl rfl rfl rfl ?_); (refine RT.ldr (u := .int .i32 s.t) T rfl (rD (hR)) (by rw [flat_get (f := SpanT.cells) (z := 2) (fun _ => rfl) hs (by decide)]; rfl) rfl rfl rfl ?_))
   repeat' (first|refine gL ?_|(refine gv ?_;first|(refine⟨fun hc=>?_,fun hc=>?_⟩<;>first|(exfalso;omega)|skip)|refine gk ?_)|fail)
   ·exact AtQ.f1 (HH := []) Tryz.results107 rfl (by rw [hany (by unfold inS; exact decide_eq_true (by omega))]) dR_
   ·exact AtQ.loop (i + 1) ⟨rfl, rfl, rfl, trivial⟩ (fun w h => Sat.pu_in ⟨by omega, by rw [hst]; unfold inS; exact decide_eq_false (by omega)⟩ h) (by omega)
  ·exact AtQ.loop (i + 1) ⟨rfl, rfl, rfl, trivial⟩ (fun w h => Sat.pu_in ⟨by omega, by rw [hst]; unfold inS; exact decide_eq_false (by omega)⟩ h) (by omega)
 ·rw [List.take_of_length_le (by omega)] at hno
  exact AtQ.f1 (HH := []) Tryz.results107 rfl (by rw [hno]) dR_
set_option maxHeartbeats 4000000 in
theorem wnames_fn {wb : Nat} {e : Int} {t sc : Txt} {a : Option Addr} {c : Nat} {g : List Txt} {r : Rs} {na : Option Addr} {nc : Nat} {l : List Txt} (hr : WS r e t g) (hR : Rd B R na l.length nc 1 (l.map vS)) (hl : l.length ≤ 1000000000) (hs : Byt sc) (hsl : sc.length ≤ 16777216) (hb : BL l) (hbl : ∀ n ∈ l, n.length ≤ 16777216) :
  Sp B Tryz.prog 103 [ptr wb, .slice na l.length nc, vS sc] R (wk wb e t a c g)
   (fun v H' => v = .tuple #[] ∧ ∃ e' t', H' = wk wb e' t' a c g ∧ WS (bnd r fun g => opt (namesF sc [] l) (.ok g)) e' t' g) := by
 refine Sp.body Tryz.func103 rfl Tryz.ntmps103 (by simp) ?_
 simp only [argE, List.cons_append, List.nil_append, Nat.zero_add, Nat.reduceAdd]
 try refine gL ?_
 refine CT.loop (α := Nat × Int × Txt) (fun s => [(0, ptr wb), (1, .slice na l.length nc), (2, vS sc), (6, .int .i64 s.1)])
  (fun s => Pu (s.1 ≤ l.length ∧ WS (bnd r fun g => opt (namesF sc [] (l.take s.1)) (.ok g)) s.2.1 s.2.2 g) :: (wk wb s.2.1 s.2.2 a c g ++ R)) (fun s => l.length - s.1) (0, e, t)
  ⟨rfl, rfl, rfl, rfl, trivial⟩ (fun w h => Sat.pu_in ⟨Nat.zero_le _, by dsimp only; rw [List.take_zero]; unfold namesF; cases r <;> exact hr⟩ h) (fun s => CT.pu fun hh => ?_)
 obtain ⟨i, e1, t1⟩ := s
 obtain ⟨hi1, h1⟩ := hh
 dsimp only at hi1 h1 ⊢
 simp only [List.cons_append, List.nil_append]
 repeat' (first|refine gL ?_|(refine gv ?_;(refine⟨fun hc=>?_,fun hc=>?_⟩<;>first|(exfalso;omega)|skip))|fail)
 ·obtain ⟨n, hn⟩ : ∃ n, l[i]? = some n := ⟨_, List.getElem?_eq_getElem (by omega)⟩
  have hnm := List.mem_of_getElem? hn
  have hnb := hb n hnm
  have hnl := hbl n hnm
  have hld : (l.map vS)[i]? = some (vS n) := by rw [List.getElem?_map, hn]; rfl
  have hjl := @j2_len sc n
  refine RT.ix T (j := i) rfl rfl rfl (rD (hR)) (by omega) (by omega) (by omega) rfl rfl ?_
  refine RT.ldr (u := vS n) T rfl (rD (hR)) hld rfl rfl rfl ?_
  (refine RT.bs T (l := strs [sc,  n]) rfl rfl rfl rfl rfl rfl rfl (fun a9 c9 h9 => ?_); (refine RT.call T rfl fR_ (rjoin_fn (ls := [sc,  n]) (Own.rd (by ((repeat constructor);done)) rfl h9) rfl (b2  hs  hnb) ( s2l hsl hnl)) rfl rfl rfl ?_; rintro _ _ ⟨rfl, rfl⟩; try simp only [List.cons_append, List.nil_append]); refine RT.weak (fun w h => h.tail) ?_)
  try refine gL ?_
  refine RT.ix T (j := i) rfl rfl rfl (rD (hR)) (by omega) (by omega) (by omega) rfl rfl ?_
  refine RT.ldr (u := vS n) T rfl (rD (hR)) hld rfl rfl rfl ?_
  (refine RT.call T rfl fR_ (rident_fn hnb (by omega)) rfl rfl rfl ?_; rintro _ _ ⟨rfl, rfl⟩; try simp only [List.cons_append, List.nil_append])
  have key : bnd (bnd (bnd r fun g => opt (namesF sc [] (l.take i)) (.ok g)) (fun g => must (identB n) 60 (joinL [sc, n]) (.ok g))) (fun g => must (decide (n ∉ l.take i)) 61 (joinL [sc, n]) (.ok g)) = bnd r fun g => opt (namesF sc [] (l.take (i + 1))) (.ok g) := by
   rw [bnd_bnd, bnd_bnd, ← len_snoc hn]
   congr 1
   funext g
   rw [namesF_step, List.nil_append, bnd_bnd]
  cases hi : identB n
  ·try refine gL ?_
   refine RT.call T rfl fR_ (wrong_fn (wb := wb) (e := e1) (err := 60) (t := t1) (tx := joinL [sc, n]) (a := a) (c := c) (g := g) h1 (by decide)) rfl rfl rfl ?_
   rintro _ _ ⟨rfl, e2, t2, rfl, h2⟩
   simp only [List.cons_append, List.nil_append]
   replace h2 := h2.mf (p := fun _ => identB n) h1 hi
   try refine gQ ?_
   clear h1
   refine CT.tail 7 mixed (by kernel_rfl) ?_
   dsimp only [List.take_succ_cons, List.take_zero]
   try refine gL ?_
   refine RT.slhi T (j := i) rfl rfl rfl (by have := Rd.le hR; omega) rfl rfl rfl ?_
   rw [asub_z]
   try refine gL ?_
   refine RT.ix T (j := i) rfl rfl rfl (rD (hR)) (by omega) (by omega) (by omega) rfl rfl ?_
   refine RT.ldr (u := vS n) T rfl (rD (hR)) hld rfl rfl rfl ?_
   try refine gL ?_
   refine AtQ.tail ?_
   refine RT.call T rfl fR_ (has_fn (l := l.take i) (s := n) (k := i) (c := nc) (Rd.txtPre (l := l) (k := l.length) (rD (hR)) (by omega)) (by rw [List.length_take]; omega) (by omega) (fun y hy => hb y (List.mem_of_mem_take hy)) hnb) rfl rfl rfl ?_
   rintro _ _ ⟨rfl, rfl⟩
   simp only [List.nil_append]
   cases hin : decide (n ∈ l.take i)
   ·repeat' (first|refine gL ?_|(refine gv ?_;refine gk ?_)|fail)
    exact AtQ.loop (i + 1, e2, t2) ⟨rfl, rfl, rfl, rfl, trivial⟩ (fun _ h => Sat.pu_in ⟨by dsimp only; omega, by dsimp only; rw [← key]; exact h2.mt (p := fun _ => decide (n ∉ l.take i)) (decide_eq_true (of_decide_eq_false hin))⟩ h) (by dsimp only; omega)
   ·try refine gL ?_
    refine RT.call T rfl fR_ (wrong_fn (wb := wb) (e := e2) (err := 61) (t := t2) (tx := joinL [sc, n]) (a := a) (c := c) (g := g) h2 (by decide)) rfl rfl rfl ?_
    rintro _ _ ⟨rfl, e3, t3, rfl, h3⟩
    simp only [List.cons_append, List.nil_append]
    repeat' (first|refine gL ?_|(refine gv ?_;refine gk ?_)|fail)
    exact AtQ.loop (i + 1, e3, t3) ⟨rfl, rfl, rfl, rfl, trivial⟩ (fun _ h => Sat.pu_in ⟨by dsimp only; omega, by dsimp only; rw [← key]; exact h3.mf (p := fun _ => decide (n ∉ l.take i)) h2 (decide_eq_false (fun h => h (of_decide_eq_true hin)))⟩ h) (by dsimp only; omega)
  ·have h2 := h1.mt (err := 60) (tx := joinL [sc, n]) (p := fun _ => identB n) hi
   revert h1 h2
   generalize e1 = e2
   generalize t1 = t2
   intro h1 h2
   try refine gQ ?_
   clear h1
   refine CT.tail 7 mixed (by kernel_rfl) ?_
   dsimp only [List.take_succ_cons, List.take_zero]
   try refine gL ?_
   refine RT.slhi T (j := i) rfl rfl rfl (by have := Rd.le hR; omega) rfl rfl rfl ?_
   rw [asub_z]
   try refine gL ?_
   refine RT.ix T (j := i) rfl rfl rfl (rD (hR)) (by omega) (by omega) (by omega) rfl rfl ?_
   refine RT.ldr (u := vS n) T rfl (rD (hR)) hld rfl rfl rfl ?_
   try refine gL ?_
   refine AtQ.tail ?_
   refine RT.call T rfl fR_ (has_fn (l := l.take i) (s := n) (k := i) (c := nc) (Rd.txtPre (l := l) (k := l.length) (rD (hR)) (by omega)) (by rw [List.length_take]; omega) (by omega) (fun y hy => hb y (List.mem_of_mem_take hy)) hnb) rfl rfl rfl ?_
   rintro _ _ ⟨rfl, rfl⟩
   simp only [List.nil_append]
   cases hin : decide (n ∈ l.take i)
   ·repeat' (first|refine gL ?_|(refine gv ?_;refine gk ?_)|fail)
    exact AtQ.loop (i + 1, e2, t2) ⟨rfl, rfl, rfl, rfl, trivial⟩ (fun _ h => Sat.pu_in ⟨by dsimp only; omega, by dsimp only; rw [← key]; exact h2.mt (p := fun _ => decide (n ∉ l.take i)) (decide_eq_true (of_decide_eq_false hin))⟩ h) (by dsimp only; omega)
   ·try refine gL ?_
    refine RT.call T rfl fR_ (wrong_fn (wb := wb) (e := e2) (err := 61) (t := t2) (tx := joinL [sc, n]) (a := a) (c := c) (g := g) h2 (by decide)) rfl rfl rfl ?_
    rintro _ _ ⟨rfl, e3, t3, rfl, h3⟩
    simp only [List.cons_append, List.nil_append]
    repeat' (first|refine gL ?_|(refine gv ?_;refine gk ?_)|fail)
    exact AtQ.loop (i + 1, e3, t3) ⟨rfl, rfl, rfl, rfl, trivial⟩ (fun _ h => Sat.pu_in ⟨by dsimp only; omega, by dsimp only; rw [← key]; exact h3.mf (p := fun _ => decide (n ∉ l.take i)) h2 (decide_eq_false (fun h => h (of_decide_eq_true hin)))⟩ h) (by dsimp only; omega)
 ·rw [List.take_of_length_le (by omega)] at h1
  exact AtQ.fin0 Tryz.results103 (H' := wk wb e1 t1 a c g) ⟨rfl, e1, t1, rfl, h1⟩ (fun _ h => h) _ (by first | exact .inl rfl | exact .inr rfl)
end Go.Proofs.YtdemnhdoadjhhaaGreatDoor
end
section
namespace Go.Proofs.YtdemnhdoadjhhaaGreatDoor
open Go.Sk
set_option maxRecDepth 100000
theorem map_getT {l : List Txt} {j : Nat} {x : Txt} (h : l[j]? = some x) : (l.map vS)[j]? = some (vS x) := by rw [List.getElem?_map, h]; rfl
attribute [local irreducible] Cs Own Ex Pu Yld RT LJ QJ AtQ CT Rd QSp Sp FinQ Then LoopQ CutQ DT TakeQ EffQ
variable {B : World} {R : List HP}
set_option maxHeartbeats 4000000 in
theorem enum_fn {br bm : Nat} {g : List Txt} {e : EnumT} {sc : Txt} (hin : e.In (Rd B R)) (hok : e.Ok) (hnm : ENm e) (hg : BL g) (hs : Byt sc) (hsl : sc.length ≤ 16777216) :
  SpP B Tryz.prog 93 [ptr br, .agg e.cells.toArray, vS sc] R [rdr br bm, giv bm g] (PostR (enumR e sc g) [rdr br bm] bm) (PPR (enumR e sc g)) := by
 obtain ⟨nm, ⟨va, vc, vl⟩, ali, ⟨ra, rc, rl⟩, ⟨na, nc, nl⟩⟩ := e
 obtain ⟨hv, hr, hn⟩ := hin
 obtain ⟨⟨ho1, _⟩, ⟨ho2, _⟩, ho3, ⟨ho4, _⟩, ho5, ⟨ho6, _⟩, ho7⟩ := hok
 obtain ⟨hm1, hm2, hm3⟩ := hnm
 dsimp only at hv hr hn ho1 ho2 ho3 ho4 ho5 ho6 ho7 hm1 hm2 hm3
 have hT : enumR ⟨nm, ⟨va, vc, vl⟩, ali, ⟨ra, rc, rl⟩, ⟨na, nc, nl⟩⟩ sc g = enumR ⟨nm, ⟨va, vc, vl⟩, ali, ⟨ra, rc, rl⟩, ⟨na, nc, nl⟩⟩ sc g := rfl
 conv at hT => rhs; unfold enumR
 dsimp only at hT
 generalize enumR ⟨nm, ⟨va, vc, vl⟩, ali, ⟨ra, rc, rl⟩, ⟨na, nc, nl⟩⟩ sc g = TT at *
 dsimp only [EnumT.cells, Rw.v]
 refine SpP.body Tryz.func93 rfl Tryz.ntmps93 (by simp) ?_
 simp only [argE, List.cons_append, List.nil_append, Nat.zero_add, Nat.reduceAdd]
 repeat' (first|refine gL ?_|(refine gb ?_;intro b)|fail)
 revert b
 intro eb
 (refine RT.bs T (l := strs [sc,  nm]) rfl rfl rfl rfl rfl rfl rfl (fun a9 c9 h9 => ?_); (refine RT.call T rfl fR_ (join_fn (ls := [sc,  nm]) (Own.rd (by ((repeat constructor);done)) rfl h9) rfl (b2  hs  ho1) ( s2l hsl hm1)) rfl rfl rfl ?_; rintro _ _ ⟨rfl, rfl⟩; try simp only [List.cons_append, List.nil_append]); refine RT.weak (fun w h => h.tail) ?_)
 try refine gL ?_
 have hjl := @j2_len sc nm
 (refine RT.callP T rfl fR_ (give_fn (br := br) (bm := bm) hg ho1 (j2_byt hs ho1) hm1 (show (joinL [sc, nm]).length ≤ 140737488355327 by omega)) rfl rfl rfl (fun v H1 hp => ?_) (fun v H1 hp => ?_))
 ·obtain ⟨e, t, h1, rfl, rfl⟩ := hp
  ((repeat refine nx ?_); exact AtQ.finP (H' := []) ⟨e, t, by rw [hT, h1]; rfl, rfl, rfl⟩ dR_)
 obtain ⟨g1, h1, hb1, rfl⟩ := hp
 rw [h1] at hT
 rw [bnd_ok] at hT
 simp only [List.cons_append, List.nil_append]
 repeat' (first|refine gL ?_|(refine gv ?_;(refine⟨fun hc=>?_,fun hc=>?_⟩<;>first|(exfalso;omega)|skip))|fail)
 rotate_left
 ·(refine RT.callP T rfl fR_ (must_fn (p := false) (e := 68) (t := joinL [sc, nm])) rfl rfl rfl (fun v H1 hp => ?_) (fun v H1 hp => ?_))
  ·obtain ⟨_, rfl, rfl⟩ := hp
   ((repeat refine nx ?_); exact AtQ.finP (H' := []) ⟨68, joinL [sc, nm], by rw [hT]; exact must_f (decide_eq_false (by omega)), rfl, rfl⟩ dR_)
  ·cases hp.1
 rw [must_t (decide_eq_true (by omega))] at hT
 (refine RT.callP T rfl fR_ (must_fn (p := true) (e := 68) (t := joinL [sc, nm])) rfl rfl rfl (fun v H1 hp => ?_) (fun v H1 hp => ?_))
 ·cases hp.1
 obtain ⟨_, rfl⟩ := hp
 simp only [List.nil_append]
 repeat' (first|refine gL ?_|(refine gv ?_;(refine⟨fun hc=>?_,fun hc=>?_⟩<;>first|(exfalso;omega)|skip))|fail)
 ·have hl0 : 0 < vl.length := by omega
  have hg0 := List.getElem?_eq_getElem hl0
  revert hg0
  generalize vl[0] = v0
  intro hg0
  refine RT.ix T (j := 0) rfl rfl rfl (rD (hv)) (by omega) (by omega) rfl rfl rfl ?_
  refine RT.faA T rfl rfl rfl rfl ?_
  refine RT.ldr (u := .int .i32 v0.num) T rfl (rD (hv)) (by rw [show (0 + 1 : Nat) = 0 * 2 + 1 from rfl, flat_get (f := EValT.cells) (z := 2) (fun _ => rfl) hg0 (by decide)]; rfl) rfl rfl rfl ?_
  repeat' (first|refine gL ?_|(refine gv ?_;(refine⟨fun hc=>?_,fun hc=>?_⟩<;>first|(exfalso;omega)|skip))|fail)
  rotate_left
  ·(refine RT.callP T rfl fR_ (must_fn (p := false) (e := 66) (t := joinL [sc, nm])) rfl rfl rfl (fun v H1 hp => ?_) (fun v H1 hp => ?_))
   ·obtain ⟨_, rfl, rfl⟩ := hp
    ((repeat refine nx ?_); exact AtQ.finP (H' := []) ⟨66, joinL [sc, nm], by rw [hT]; exact must_f (decide_eq_false (by rintro ⟨v, hv, h0⟩; rw [hg0] at hv; cases hv; omega)), rfl, rfl⟩ dR_)
   ·cases hp.1
  rw [must_t (decide_eq_true ⟨v0, hg0, by omega⟩)] at hT
  (refine RT.callP T rfl fR_ (must_fn (p := true) (e := 66) (t := joinL [sc, nm])) rfl rfl rfl (fun v H1 hp => ?_) (fun v H1 hp => ?_))
  ·cases hp.1
  obtain ⟨_, rfl⟩ := hp
  simp only [List.nil_append]
  try refine gL ?_
  (refine RT.callP T rfl fR_ (spans_fn (r := ⟨ra, rc, rl⟩) (lo := -2147483648) (hi := 2147483647) (t := joinL [sc, nm]) (rD (hr)) ho4) rfl rfl rfl (fun v H1 hp => ?_) (fun v H1 hp => ?_))
  ·obtain ⟨e, t, h2, rfl, rfl⟩ := hp
   ((repeat refine nx ?_); exact AtQ.finP (H' := []) ⟨e, t, by rw [hT, h2]; rfl, rfl, rfl⟩ dR_)
  obtain ⟨h2, rfl⟩ := hp
  rw [h2] at hT
  rw [opt_none] at hT
  simp only [List.nil_append]
  try refine gL ?_
  (refine RT.callP T rfl fR_ (reserved_fn (r := ⟨na, nc, nl⟩) (sc := sc) ⟨(rD (hn)), ho6, fun t ht => (ho7 t ht).1, hm3⟩ hs hsl) rfl rfl rfl (fun v H1 hp => ?_) (fun v H1 hp => ?_))
  ·obtain ⟨e, t, h3, rfl, rfl⟩ := hp
   ((repeat refine nx ?_); exact AtQ.finP (H' := []) ⟨e, t, by rw [hT, h3]; try rfl, rfl, rfl⟩ dR_)
  obtain ⟨h3, rfl⟩ := hp
  rw [h3] at hT
  rw [opt_none] at hT
  simp only [List.nil_append]
  try refine gL ?_
  clear h1 h2 h3 hg0
  obtain ⟨es, hes⟩ : ∃ es, es = [vS nm, Value.slice va vl.length vc, Value.bool ali, Value.slice ra rl.length rc, Value.slice na nl.length nc] := ⟨_, rfl⟩
  rw [← hes]
  refine CT.loop (α := Nat × List Txt) (fun s => [(0, ptr br), (2, vS sc), (4, .pointer (some ⟨eb, 0, none⟩)), (49, .slice va vl.length vc), (50, .int .i64 vl.length), (51, .int .i64 s.1)])
   (fun s => Pu (s.1 ≤ vl.length ∧ BL s.2 ∧ TT = valsR nl rl ali sc (vl.take s.1) (vl.drop s.1) s.2) :: rdr br bm :: giv bm s.2 :: Cs eb 109 es :: R) (fun s => vl.length - s.1) (0, g1)
   ⟨rfl, rfl, rfl, rfl, rfl, rfl, trivial⟩ (fun w h => Sat.pu_in ⟨Nat.zero_le _, hb1, hT⟩ h) (fun ⟨i, gi⟩ => CT.pu fun ⟨hil, hbi, hTi⟩ => ?_)
  dsimp only at hil hbi hTi ⊢
  clear hT hb1
  subst hes
  repeat' (first|refine gL ?_|(refine gv ?_;(refine⟨fun hc=>?_,fun hc=>?_⟩<;>first|(exfalso;omega)|skip))|fail)
  ·have hi' : i < vl.length := by omega
   have hgi := List.getElem?_eq_getElem hi'
   rw [List.drop_eq_getElem_cons hi', valsR] at hTi
   have htk : vl.take i ++ [vl[i]] = vl.take (i + 1) := by rw [List.take_add_one, hgi]; rfl
   rw [htk] at hTi
   clear htk
   revert hTi hgi
   generalize vl[i] = ev
   intro hTi hgi
   have hme := List.mem_of_getElem? hgi
   have hvb := (ho3 ev hme).1.1
   have hvs := hm2 ev hme
   refine RT.ix T (j := i * 2) rfl rfl rfl (rD (hv)) (by omega) (by omega) (by omega) rfl rfl ?_
   refine RT.ldra T rfl (rD (hv)) (l := ev.cells) (flat_sub (f := EValT.cells) (z := 2) (fun _ => rfl) vl i _ hgi) rfl rfl rfl rfl ?_
   repeat' (first|refine gM ?_|(refine gb ?_;intro b)|fail)
   (refine RT.bs T (l := strs [sc,  ev.nm]) rfl rfl rfl rfl rfl rfl rfl (fun a9 c9 h9 => ?_); (refine RT.call T rfl fR_ (join_fn (ls := [sc,  ev.nm]) (Own.rd (by ((repeat constructor);done)) rfl h9) rfl (b2  hs  hvb) ( s2l hsl hvs)) rfl rfl rfl ?_; rintro _ _ ⟨rfl, rfl⟩; try simp only [List.cons_append, List.nil_append]); refine RT.weak (fun w h => h.tail) ?_)
   try refine gL ?_
   have hjv := @j2_len sc ev.nm
   have hjb := j2_byt hs hvb
   generalize joinL [sc, ev.nm] = at_ at *
   (refine RT.callP T rfl fR_ (give_fn (br := br) (bm := bm) (g := gi) hbi hvb hjb hvs (show at_.length ≤ 140737488355327 by omega)) rfl rfl rfl (fun v H1 hp => ?_) (fun v H1 hp => ?_))
   ·obtain ⟨e, t, h4, rfl, rfl⟩ := hp
    ((repeat refine nx ?_); exact AtQ.finP (H' := []) ⟨e, t, by rw [hTi, h4]; rfl, rfl, rfl⟩ dR_)
   obtain ⟨g2, h4, hb2, rfl⟩ := hp
   rw [h4] at hTi
   rw [bnd_ok] at hTi
   simp only [List.cons_append, List.nil_append]
   try refine gL ?_
   (refine RT.call T rfl fR_ (contT_fn (l := nl) (x := ev.nm) rfl ho6 (rD (hn)) (fun t ht => (ho7 t ht).1) hvb) rfl rfl rfl ?_; rintro _ _ ⟨rfl, rfl⟩; try simp only [List.cons_append, List.nil_append])
   have pan63 : (decide (ev.nm ∉ nl) && !anyS rl ev.num) = false → TT = .error (63, at_) := fun h => by rw [hTi]; exact must_f h
   by_cases hmn : ev.nm ∈ nl
   ·rw [decide_eq_true hmn]
    try refine gL ?_
    (refine RT.callP T rfl fR_ (must_fn (p := false) (e := 63) (t := at_)) rfl rfl rfl (fun v H1 hp => ?_) (fun v H1 hp => ?_))
    ·obtain ⟨_, rfl, rfl⟩ := hp
     ((repeat refine nx ?_); exact AtQ.finP (H' := []) ⟨63, at_, pan63 (by rw [decide_eq_false (fun h => h hmn)]; rfl), rfl, rfl⟩ dR_)
    ·cases hp.1
   ·rw [decide_eq_false hmn]
    try refine gL ?_
    (refine RT.call T rfl fR_ (within_fn (r := ⟨ra, rc, rl⟩) (x := ev.num) (rD (hr)) ho4) rfl rfl rfl ?_; rintro _ _ ⟨rfl, rfl⟩; try simp only [List.cons_append, List.nil_append])
    cases han : anyS rl ev.num
    rotate_left
    ·try refine gL ?_
     (refine RT.callP T rfl fR_ (must_fn (p := false) (e := 63) (t := at_)) rfl rfl rfl (fun v H1 hp => ?_) (fun v H1 hp => ?_))
     ·obtain ⟨_, rfl, rfl⟩ := hp
      ((repeat refine nx ?_); exact AtQ.finP (H' := []) ⟨63, at_, pan63 (by rw [han, decide_eq_true hmn]; rfl), rfl, rfl⟩ dR_)
     ·cases hp.1
    ·try refine gL ?_
     (refine RT.callP T rfl fR_ (must_fn (p := true) (e := 63) (t := at_)) rfl rfl rfl (fun v H1 hp => ?_) (fun v H1 hp => ?_))
     ·cases hp.1
     obtain ⟨_, rfl⟩ := hp
     rw [must_t (by rw [han, decide_eq_true hmn]; rfl)] at hTi
     simp only [List.nil_append]
     cases hal : ali
     ·subst hal
      try refine gL ?_
      refine RT.slhi T (j := i) rfl rfl rfl (by have := Rd.le hv; omega) rfl rfl rfl ?_
      rw [asub_z]
      have hA := Rd.flatPre (f := EValT.cells) (j := i) (fun _ => rfl) hv rfl hil
      have hAl : (vl.take i).length = i := by rw [List.length_take]; omega
      skip
      refine RT.mkF rfl rfl rfl ?_
      skip
      refine RT.call T rfl fR_ (contfV_fn (l := vl.take i) (p := fun o => decide (o.num = ev.num)) (f := 124) (caps := [.pointer (some ⟨b, 0, none⟩)]) (Pre := [Cs b 111 ev.cells]) hAl (by omega) (rD (hA)) rfl (fun s _ => enum1_fn)) rfl rfl rfl ?_
      rintro _ _ ⟨rfl, rfl⟩
      simp only [List.cons_append, List.nil_append]
      have hany : decide (∀ o ∈ vl.take i, o.num ≠ ev.num) = !((vl.take i).any fun o => decide (o.num = ev.num)) := by
       rw [Bool.eq_iff_iff]
       simp
      rw [Bool.false_or, hany] at hTi
      cases hq : (vl.take i).any fun o => decide (o.num = ev.num)
      ·rw [hq] at hTi
       try refine gL ?_
       (refine RT.callP T rfl fR_ (must_fn (p := true) (e := 66) (t := at_)) rfl rfl rfl (fun v H1 hp => ?_) (fun v H1 hp => ?_))
       ·cases hp.1
       obtain ⟨_, rfl⟩ := hp
       rw [must_t (p := !false) rfl] at hTi
       repeat' (first|refine gL ?_|(refine gv ?_;refine gk ?_)|fail)
       exact AtQ.loop (i + 1, g2) ⟨rfl, rfl, rfl, rfl, rfl, rfl, trivial⟩ (fun w h => Sat.pu_in ⟨by omega, hb2, hTi⟩ (h.frd (Ps := [rdr br bm, giv bm g2, Cs eb 109 _]) (Qs := [_]) fR_)) (by dsimp only; omega)
      ·rw [hq] at hTi
       try refine gL ?_
       (refine RT.callP T rfl fR_ (must_fn (p := false) (e := 66) (t := at_)) rfl rfl rfl (fun v H1 hp => ?_) (fun v H1 hp => ?_))
       ·obtain ⟨_, rfl, rfl⟩ := hp
        ((repeat refine nx ?_); exact AtQ.finP (H' := []) ⟨66, at_, by rw [hTi]; exact must_f rfl, rfl, rfl⟩ dR_)
       ·cases hp.1
     ·subst hal
      rw [Bool.true_or, must_t rfl] at hTi
      try refine gL ?_
      (refine RT.callP T rfl fR_ (must_fn (p := true) (e := 66) (t := at_)) rfl rfl rfl (fun v H1 hp => ?_) (fun v H1 hp => ?_))
      ·cases hp.1
      obtain ⟨_, rfl⟩ := hp
      repeat' (first|refine gL ?_|(refine gv ?_;refine gk ?_)|fail)
      exact AtQ.loop (i + 1, g2) ⟨rfl, rfl, rfl, rfl, rfl, rfl, trivial⟩ (fun w h => Sat.pu_in ⟨by omega, hb2, hTi⟩ (h.frd (Ps := [rdr br bm, giv bm g2, Cs eb 109 _]) (Qs := [_]) fR_)) (by dsimp only; omega)
  ·refine AtQ.ofFinN (AtQ.fin0 Tryz.results93 (H' := [rdr br bm, giv bm gi]) ⟨gi, ?_, hbi, rfl⟩ (fun w h => h.frd (Ps := [rdr br bm, giv bm gi]) (Qs := [_]) fR_) _ (.inl rfl))
   rw [hTi, List.drop_of_length_le (by omega)]
   cases vl.take i <;> rfl
 ·(refine RT.callP T rfl fR_ (must_fn (p := false) (e := 66) (t := joinL [sc, nm])) rfl rfl rfl (fun v H1 hp => ?_) (fun v H1 hp => ?_))
  ·obtain ⟨_, rfl, rfl⟩ := hp
   ((repeat refine nx ?_); exact AtQ.finP (H' := []) ⟨66, joinL [sc, nm], by rw [hT]; exact must_f (decide_eq_false (by rintro ⟨v, hv, h0⟩; have := (List.getElem?_eq_some_iff.1 hv).1; omega)), rfl, rfl⟩ dR_)
  ·cases hp.1
end Go.Proofs.YtdemnhdoadjhhaaGreatDoor
end
section
namespace Go.Proofs.YtdemnhdoadjhhaaGreatDoor
open Go.Sk
set_option maxRecDepth 100000
theorem camelF_byt : ∀ {l : List Int} {b : Bool}, Byt l → Byt (camelF b l)
 | [], _, _ => Byt.nil
 | c :: r, b, h => by
  have hc := h c (by simp)
  have hr : Byt r := fun x hx => h x (by simp [hx])
  unfold isB at hc
  unfold camelF
  split
  ·exact camelF_byt hr
  ·intro x hx
   rcases List.mem_cons.1 hx with rfl | hx
   ·unfold isB
    split <;> omega
   ·exact camelF_byt hr x hx
theorem json_byt {f : FieldT} (hj : Byt f.js) (hn : Byt f.nm) : Byt (jsonL f) := by
 unfold jsonL
 split
 ·exact camelF_byt hn
 ·exact hj
/-- A message's rows, as check.field reads them. -/
structure MR (B : World) (R : List HP) (fields : Rw FieldT) (oneofs names : Rw Txt) (res : Rw SpanT) : Prop where
 rf : Rd B R fields.a fields.l.length fields.c 9 (fields.l.flatMap FieldT.cells)
 rs : Rd B R res.a res.l.length res.c 2 (res.l.flatMap SpanT.cells)
 rn : TxR B R names
 ro : TxR B R oneofs
 lf : fields.l.length ≤ 140737488355328
 ls : res.l.length ≤ 140737488355328
 fo : ∀ f ∈ fields.l, f.Ok ∧ FNm f
attribute [local irreducible] Cs Own Ex Pu Yld RT LJ QJ AtQ CT Rd QSp Sp FinQ Then LoopQ CutQ DT TakeQ EffQ
variable {B : World} {R : List HP}
set_option maxHeartbeats 8000000 in
theorem field_fn {mM : Int} (hU : Lib.Utf8Tabs 1 2 B) (hM : B.cell? ⟨0, 0, none⟩ = some (.int .i64 mM)) {br bm i : Nat} {g : List Txt} {fields : Rw FieldT} {oneofs names : Rw Txt} {res : Rw SpanT} {n0 ms es : Value} {f : FieldT} {full : Txt}
  (hm : MR B R fields oneofs names res) (hgf : fields.l[i]? = some f) (hg : BL g) (hs : Byt full) (hsl : full.length ≤ 16777216) :
  SpP B Tryz.prog 118 [ptr br, .agg #[n0, fields.v, oneofs.v, ms, es, res.v, names.v], .int .i64 i, vS full] R [rdr br bm, giv bm g] (PostR (fieldR names.l res.l oneofs.l.length full (fields.l.take i) f g) [rdr br bm] bm) (PPR (fieldR names.l res.l oneofs.l.length full (fields.l.take i) f g)) := by
 obtain ⟨fa, fc, fl⟩ := fields
 obtain ⟨oa, oc, ol⟩ := oneofs
 obtain ⟨na, nc, nl⟩ := names
 obtain ⟨ra, rc, rl⟩ := res
 obtain ⟨rf, rs, ⟨hn, ho6, hnb, hnm⟩, ⟨_, ho8, _, _⟩, lf, ls, fo⟩ := hm
 dsimp only at rf rs hn ho6 hnb hnm ho8 lf ls fo hgf
 obtain ⟨⟨⟨fnb, _⟩, fnum, fcard, fkind, ⟨ftb, _⟩, fkey, foo, fpk, ⟨fjb, _⟩⟩, fns, fts, fjs⟩ := fo f (List.mem_of_getElem? hgf)
 have hT : fieldR nl rl ol.length full (fl.take i) f g = fieldR nl rl ol.length full (fl.take i) f g := rfl
 conv at hT => rhs; unfold fieldR
 have hil : i < fl.length := (List.getElem?_eq_some_iff.1 hgf).1
 dsimp only [Rw.v]
 generalize hah : fl.take i = ah at *
 generalize fieldR nl rl ol.length full ah f g = TT at *
 refine SpP.body Tryz.func118 rfl Tryz.ntmps118 (by simp) ?_
 simp only [argE, List.cons_append, List.nil_append, Nat.zero_add, Nat.reduceAdd]
 try refine gR ?_
 first | (refine CT.region ?_) | (refine CT.quiet mixed (by kernel_rfl) ?_)
 repeat' (first|refine gR ?_|(refine gb ?_;intro b)|fail)
 revert b
 intro mb
 refine CT.drawn (Cs mb 72 [n0, .slice fa fl.length fc, .slice oa ol.length oc, ms, es, .slice ra rl.length rc, .slice na nl.length nc] :: rdr br bm :: giv bm g :: R) 11 mixed ?_
 refine DT.takes (k := 3) [0, 1, 2, 3, 4, 5, 6, 7, 8] [9, 10, 11] (fun w h => h) (by kernel_rfl) (by kernel_rfl) (by kernel_rfl) rfl (Clos.ofB (by kernel_rfl)) ?_
 try refine gL ?_
 refine RT.ix T (j := i * 9) rfl rfl rfl (rD (rf)) (by omega) (by omega) (by omega) rfl rfl ?_
 refine RT.ldra T rfl (rD (rf)) (l := f.cells) (flat_sub (f := FieldT.cells) (z := 9) (fun _ => rfl) fl i _ hgf) rfl rfl rfl rfl ?_
 try refine gL ?_
 refine RT.slhi T (j := i) rfl rfl rfl (by have := Rd.le rf; omega) rfl rfl rfl ?_
 rw [asub_z]
 try refine gL ?_
 refine AtQ.take ?_
 (refine DT.eff 9 rfl (by kernel_rfl) ?_)
 repeat' (first|refine gM ?_|(refine gb ?_;intro b)|fail)
 revert b
 intro fb
 refine AtQ.eff (fun w h => h.tail) ?_
 (refine DT.eff 10 rfl (by kernel_rfl) ?_)
 try refine gM ?_
 refine AtQ.eff (fun w h => h.tail) ?_
 (refine DT.eff 11 rfl (by kernel_rfl) ?_)
 try refine gL ?_
 refine AtQ.eff' (by kernel_rfl) ?_
 (refine DT.done (by kernel_rfl) ?_)
 try refine gL ?_
 (refine RT.bs T (l := strs [full,  f.nm]) rfl rfl rfl rfl rfl rfl rfl (fun a9 c9 h9 => ?_); (refine RT.call T rfl fR_ (join_fn (ls := [full,  f.nm]) (Own.rd (by ((repeat constructor);done)) rfl h9) rfl (b2  hs  fnb) ( s2l hsl fns)) rfl rfl rfl ?_; rintro _ _ ⟨rfl, rfl⟩; try simp only [List.cons_append, List.nil_append]); refine RT.weak (fun w h => h.tail) ?_)
 try refine gL ?_
 have hjl := @j2_len full f.nm
 have hjb := j2_byt hs fnb
 generalize joinL [full, f.nm] = at_ at *
 (refine RT.callP T rfl fR_ (give_fn (br := br) (bm := bm) (g := g) hg fnb hjb fns (show at_.length ≤ 140737488355327 by omega)) rfl rfl rfl (fun v H1 hp => ?_) (fun v H1 hp => ?_))
 ·obtain ⟨e, t, h4, rfl, rfl⟩ := hp
  ((repeat refine nx ?_); exact AtQ.finP (H' := []) ⟨e, t, by rw [hT, h4]; rfl, rfl, rfl⟩ dR_)
 obtain ⟨g2, h4, hb2, rfl⟩ := hp
 rw [h4] at hT
 rw [bnd_ok] at hT
 simp only [List.cons_append, List.nil_append]
 clear h4
 try refine gL ?_
 (refine RT.call T rfl fR_ (contT_fn (l := nl) (x := f.nm) rfl ho6 (rD (hn)) hnb fnb) rfl rfl rfl ?_; rintro _ _ ⟨rfl, rfl⟩; try simp only [List.cons_append, List.nil_append])
 skip
 have hA := Rd.flatPre (f := FieldT.cells) (j := i) (fun _ => rfl) rf rfl (Nat.le_of_lt hil)
 rw [hah] at hA
 have hAl : ah.length = i := by rw [← hah, List.length_take]; omega
 by_cases hmn : f.nm ∈ nl
 ·rw [decide_eq_true hmn]
  try refine gL ?_
  (refine RT.callP T rfl fR_ (must_fn (p := false) (e := 63) (t := at_)) rfl rfl rfl (fun v H1 hp => ?_) (fun v H1 hp => absurd hp.1 (by decide)); obtain ⟨_, rfl, rfl⟩ := hp; (repeat refine nx ?_); exact AtQ.finP (H' := []) ⟨63, at_, by rw [hT]; exact must_f (decide_eq_false (fun h => h hmn)), rfl, rfl⟩ dR_)
 rw [decide_eq_false hmn]
 rw [must_t (decide_eq_true hmn)] at hT
 try refine gL ?_
 (refine RT.callP T rfl fR_ (must_fn (p := true) (e := 63) (t := at_)) rfl rfl rfl (fun v H1 hp => absurd hp.1 (by decide)) (fun v H1 hp => ?_); obtain ⟨_, rfl⟩ := hp; try simp only [List.nil_append])
 (refine RT.env (E' := [(0, _), (5, _), (8, _), (9, _), (10, _)]) ⟨rfl, rfl, rfl, rfl, rfl, trivial⟩ ?_)
 try refine gL ?_
 (refine RT.call T rfl fR_ (may_fn (n := f.num)) rfl rfl rfl ?_; rintro _ _ ⟨rfl, rfl⟩; try simp only [List.cons_append, List.nil_append])
 cases hmay : mayB f.num
 ·try refine gL ?_
  (refine RT.callP T rfl fR_ (must_fn (p := false) (e := 62) (t := at_)) rfl rfl rfl (fun v H1 hp => ?_) (fun v H1 hp => absurd hp.1 (by decide)); obtain ⟨_, rfl, rfl⟩ := hp; (repeat refine nx ?_); exact AtQ.finP (H' := []) ⟨62, at_, by rw [hT, hmay]; exact must_f rfl, rfl, rfl⟩ dR_)
 rw [hmay, Bool.true_and] at hT
 try refine gL ?_
 refine RT.mkF rfl rfl rfl ?_
 skip
 refine RT.call T rfl fR_ (contfF_fn (l := ah) (p := fun o => decide (o.num = f.num)) (f := 141) (caps := [.pointer (some ⟨fb, 0, none⟩)]) (Pre := [Cs fb 87 f.cells]) hAl (by omega) (rD (hA)) rfl (fun s _ => field1_fn)) rfl rfl rfl ?_
 rintro _ _ ⟨rfl, rfl⟩
 simp only [List.cons_append, List.nil_append]
 have hany : decide (∀ o ∈ ah, o.num ≠ f.num) = !(ah.any fun o => decide (o.num = f.num)) := by
  rw [Bool.eq_iff_iff]
  simp
 rw [hany] at hT
 cases hq : ah.any fun o => decide (o.num = f.num)
 rotate_left
 ·try refine gL ?_
  (refine RT.callP T rfl fR_ (must_fn (p := false) (e := 62) (t := at_)) rfl rfl rfl (fun v H1 hp => ?_) (fun v H1 hp => absurd hp.1 (by decide)); obtain ⟨_, rfl, rfl⟩ := hp; (repeat refine nx ?_); exact AtQ.finP (H' := []) ⟨62, at_, by rw [hT, hq]; exact must_f rfl, rfl, rfl⟩ dR_)
 rw [hq, must_t (p := !false) rfl] at hT
 try refine gL ?_
 (refine RT.callP T rfl fR_ (must_fn (p := true) (e := 62) (t := at_)) rfl rfl rfl (fun v H1 hp => absurd hp.1 (by decide)) (fun v H1 hp => ?_); obtain ⟨_, rfl⟩ := hp; try simp only [List.nil_append])
 clear hany hq
 (refine RT.env (E' := [(0, _), (5, _), (8, _), (9, _), (10, _)]) ⟨rfl, rfl, rfl, rfl, rfl, trivial⟩ ?_)
 try refine gL ?_
 (refine RT.call T rfl fR_ (within_fn (r := ⟨ra, rc, rl⟩) (x := f.num) (rD (rs)) ls) rfl rfl rfl ?_; rintro _ _ ⟨rfl, rfl⟩; try simp only [List.cons_append, List.nil_append])
 cases han : anyS rl f.num
 rotate_left
 ·try refine gL ?_
  (refine RT.callP T rfl fR_ (must_fn (p := false) (e := 63) (t := at_)) rfl rfl rfl (fun v H1 hp => ?_) (fun v H1 hp => absurd hp.1 (by decide)); obtain ⟨_, rfl, rfl⟩ := hp; (repeat refine nx ?_); exact AtQ.finP (H' := []) ⟨63, at_, by rw [hT, han]; exact must_f rfl, rfl, rfl⟩ dR_)
 rw [han, must_t (p := !false) rfl] at hT
 try refine gL ?_
 (refine RT.callP T rfl fR_ (must_fn (p := true) (e := 63) (t := at_)) rfl rfl rfl (fun v H1 hp => absurd hp.1 (by decide)) (fun v H1 hp => ?_); obtain ⟨_, rfl⟩ := hp; try simp only [List.nil_append])
 (refine RT.env (E' := [(0, _), (5, _), (8, _), (9, _), (10, _)]) ⟨rfl, rfl, rfl, rfl, rfl, trivial⟩ ?_)
 try refine gR ?_
 refine CT.cut (α := Unit) (fun _ => [(0, ptr br), (5, .pointer (some ⟨mb, 0, none⟩)), (8, .pointer (some ⟨fb, 0, none⟩)), (9, .slice fa i fc), (10, vS at_)]) (fun _ => Pu (TT = fieldR8 ol.length ah f at_ g2) :: rdr br bm :: giv bm g2 :: Cs fb 87 f.cells :: Cs mb 72 [n0, .slice fa fl.length fc, .slice oa ol.length oc, ms, es, .slice ra rl.length rc, .slice na nl.length nc] :: R) ?_ (fun _ => ?_)
 ·unfold fieldR7 at hT
  repeat' (first|refine gL ?_|(refine gv ?_;(refine⟨fun hc=>?_,fun hc=>?_⟩<;>first|(exfalso;omega)|skip))|fail)
  ·rw [must_t (by rw [decide_eq_true ⟨by omega, by omega⟩, decide_eq_true (by omega)]; rfl)] at hT
   (refine RT.callP T rfl fR_ (must_fn (p := true) (e := 69) (t := at_)) rfl rfl rfl (fun v H1 hp => absurd hp.1 (by decide)) (fun v H1 hp => ?_); obtain ⟨_, rfl⟩ := hp; try simp only [List.nil_append])
   try refine gL ?_
   exact AtQ.cut () ⟨rfl, rfl, rfl, rfl, rfl, trivial⟩ (fun w h => Sat.pu_in hT (h.frd (Ps := [rdr br bm, giv bm g2, Cs fb 87 f.cells, Cs mb 72 _]) (Qs := []) fR_))
  ·(refine RT.call T rfl fR_ (kind_fn (k := f.kind)) rfl rfl rfl ?_; rintro _ _ ⟨rfl, rfl⟩; try simp only [List.cons_append, List.nil_append])
   cases hk : kindB f.kind
   ·try refine gL ?_
    (refine RT.callP T rfl fR_ (must_fn (p := false) (e := 69) (t := at_)) rfl rfl rfl (fun v H1 hp => ?_) (fun v H1 hp => absurd hp.1 (by decide)); obtain ⟨_, rfl, rfl⟩ := hp; (repeat refine nx ?_); exact AtQ.finP (H' := []) ⟨69, at_, by rw [hT, hk]; exact must_f (by rw [decide_eq_false (p := f.kind = 0) (by omega)]; simp), rfl, rfl⟩ dR_)
   ·rw [must_t (by rw [decide_eq_true ⟨by omega, by omega⟩, hk]; simp)] at hT
    try refine gL ?_
    (refine RT.callP T rfl fR_ (must_fn (p := true) (e := 69) (t := at_)) rfl rfl rfl (fun v H1 hp => absurd hp.1 (by decide)) (fun v H1 hp => ?_); obtain ⟨_, rfl⟩ := hp; try simp only [List.nil_append])
    try refine gL ?_
    exact AtQ.cut () ⟨rfl, rfl, rfl, rfl, rfl, trivial⟩ (fun w h => Sat.pu_in hT (h.frd (Ps := [rdr br bm, giv bm g2, Cs fb 87 f.cells, Cs mb 72 _]) (Qs := []) fR_))
  ·(refine RT.callP T rfl fR_ (must_fn (p := false) (e := 69) (t := at_)) rfl rfl rfl (fun v H1 hp => ?_) (fun v H1 hp => absurd hp.1 (by decide)); obtain ⟨_, rfl, rfl⟩ := hp; (repeat refine nx ?_); exact AtQ.finP (H' := []) ⟨69, at_, by rw [hT]; exact must_f (by rw [decide_eq_false (p := 1 ≤ f.card ∧ f.card ≤ 4) (by omega)]; rfl), rfl, rfl⟩ dR_)
  ·(refine RT.callP T rfl fR_ (must_fn (p := false) (e := 69) (t := at_)) rfl rfl rfl (fun v H1 hp => ?_) (fun v H1 hp => absurd hp.1 (by decide)); obtain ⟨_, rfl, rfl⟩ := hp; (repeat refine nx ?_); exact AtQ.finP (H' := []) ⟨69, at_, by rw [hT]; exact must_f (by rw [decide_eq_false (p := 1 ≤ f.card ∧ f.card ≤ 4) (by omega)]; rfl), rfl, rfl⟩ dR_)
 clear hT
 refine A0 ?_
 refine CT.pu fun hT => ?_
 unfold fieldR8 at hT
 try refine gR ?_
 first | (refine CT.region ?_) | (refine CT.quiet mixed (by kernel_rfl) ?_)
 try refine gR ?_
 (refine RT.call T rfl fR_ (named_fn (k := f.kind)) rfl rfl rfl ?_; rintro _ _ ⟨rfl, rfl⟩; try simp only [List.cons_append, List.nil_append])
 try refine gR ?_
 refine CT.cut (α := Unit) (fun _ => [(0, ptr br), (5, .pointer (some ⟨mb, 0, none⟩)), (8, .pointer (some ⟨fb, 0, none⟩)), (9, .slice fa i fc), (10, vS at_)]) (fun _ => Pu (TT = fieldR11 ol.length ah f at_ g2) :: rdr br bm :: giv bm g2 :: Cs fb 87 f.cells :: Cs mb 72 [n0, .slice fa fl.length fc, .slice oa ol.length oc, ms, es, .slice ra rl.length rc, .slice na nl.length nc] :: R) ?_ (fun _ => ?_)
 ·cases hnk : namedB f.kind
  ·try refine gL ?_
   refine RT.eqs (l := f.ty) (l' := []) rfl rfl ftb Byt.nil rfl rfl (fun he => ?_) (fun he => ?_)
   ·rw [must_t (by rw [hnk, if_neg (by decide)]; exact decide_eq_true he)] at hT
    try refine gL ?_
    (refine RT.callP T rfl fR_ (must_fn (p := true) (e := 69) (t := at_)) rfl rfl rfl (fun v H1 hp => absurd hp.1 (by decide)) (fun v H1 hp => ?_); obtain ⟨_, rfl⟩ := hp; try simp only [List.nil_append])
    try refine gL ?_
    exact AtQ.cut () ⟨rfl, rfl, rfl, rfl, rfl, trivial⟩ (fun w h => Sat.pu_in hT (h.frd (Ps := [rdr br bm, giv bm g2, Cs fb 87 f.cells, Cs mb 72 _]) (Qs := []) fR_))
   ·try refine gL ?_
    (refine RT.callP T rfl fR_ (must_fn (p := false) (e := 69) (t := at_)) rfl rfl rfl (fun v H1 hp => ?_) (fun v H1 hp => absurd hp.1 (by decide)); obtain ⟨_, rfl, rfl⟩ := hp; (repeat refine nx ?_); exact AtQ.finP (H' := []) ⟨69, at_, by rw [hT]; exact must_f (by rw [hnk, if_neg (by decide)]; exact decide_eq_false he), rfl, rfl⟩ dR_)
  ·try refine gL ?_
   (refine RT.call T rfl fR_ (ref_fn (l := f.ty) hM ftb fts) rfl rfl rfl ?_; rintro _ _ ⟨rfl, rfl⟩; try simp only [List.cons_append, List.nil_append])
   cases hrf : refB f.ty
   ·try refine gL ?_
    (refine RT.callP T rfl fR_ (must_fn (p := false) (e := 69) (t := at_)) rfl rfl rfl (fun v H1 hp => ?_) (fun v H1 hp => absurd hp.1 (by decide)); obtain ⟨_, rfl, rfl⟩ := hp; (repeat refine nx ?_); exact AtQ.finP (H' := []) ⟨69, at_, by rw [hT]; exact must_f (by rw [hnk, if_pos rfl]; exact hrf), rfl, rfl⟩ dR_)
   ·rw [must_t (by rw [hnk, if_pos rfl]; exact hrf)] at hT
    try refine gL ?_
    (refine RT.callP T rfl fR_ (must_fn (p := true) (e := 69) (t := at_)) rfl rfl rfl (fun v H1 hp => absurd hp.1 (by decide)) (fun v H1 hp => ?_); obtain ⟨_, rfl⟩ := hp; try simp only [List.nil_append])
    try refine gL ?_
    exact AtQ.cut () ⟨rfl, rfl, rfl, rfl, rfl, trivial⟩ (fun w h => Sat.pu_in hT (h.frd (Ps := [rdr br bm, giv bm g2, Cs fb 87 f.cells, Cs mb 72 _]) (Qs := []) fR_))
 clear hT
 refine A0 ?_
 refine CT.pu fun hT => ?_
 unfold fieldR11 at hT
 try refine gR ?_
 refine CT.cut (α := Bool) (fun q => [(94, .bool q), (0, ptr br), (5, .pointer (some ⟨mb, 0, none⟩)), (8, .pointer (some ⟨fb, 0, none⟩)), (9, .slice fa i fc), (10, vS at_)]) (fun q => Pu (q = decide (f.card = 4)) :: rdr br bm :: giv bm g2 :: Cs fb 87 f.cells :: Cs mb 72 [n0, .slice fa fl.length fc, .slice oa ol.length oc, ms, es, .slice ra rl.length rc, .slice na nl.length nc] :: R) ?_ (fun q => ?_)
 ·repeat' (first|refine gL ?_|(refine gv ?_;(refine⟨fun hc=>?_,fun hc=>?_⟩<;>first|(exfalso;omega)|skip))|fail)
  ·exact AtQ.cut true ⟨rfl, rfl, rfl, rfl, rfl, rfl, trivial⟩ (fun w h => Sat.pu_in (decide_eq_true (by omega)).symm h)
  ·exact AtQ.cut false ⟨rfl, rfl, rfl, rfl, rfl, rfl, trivial⟩ (fun w h => Sat.pu_in (decide_eq_false (by omega)).symm h)
 refine A0 ?_
 refine CT.pu fun hq => ?_
 skip
 refine CT.cut (α := Unit) (fun _ => [(0, ptr br), (5, .pointer (some ⟨mb, 0, none⟩)), (8, .pointer (some ⟨fb, 0, none⟩)), (9, .slice fa i fc), (10, vS at_)]) (fun _ => Pu (TT = fieldR14 ol.length ah f at_ g2) :: rdr br bm :: giv bm g2 :: Cs fb 87 f.cells :: Cs mb 72 [n0, .slice fa fl.length fc, .slice oa ol.length oc, ms, es, .slice ra rl.length rc, .slice na nl.length nc] :: R) ?_ (fun _ => ?_)
 ·cases hq4 : q
  ·rw [hq4] at hq
   have hne := of_decide_eq_false hq.symm
   rw [if_neg hne] at hT
   repeat' (first|refine gL ?_|(refine gv ?_;(refine⟨fun hc=>?_,fun hc=>?_⟩<;>first|(exfalso;omega)|skip))|fail)
   ·rw [must_t (decide_eq_true (by omega))] at hT
    (refine RT.callP T rfl fR_ (must_fn (p := true) (e := 65) (t := at_)) rfl rfl rfl (fun v H1 hp => absurd hp.1 (by decide)) (fun v H1 hp => ?_); obtain ⟨_, rfl⟩ := hp; try simp only [List.nil_append])
    try refine gL ?_
    exact AtQ.cut () ⟨rfl, rfl, rfl, rfl, rfl, trivial⟩ (fun w h => Sat.pu_in hT (h.frd (Ps := [rdr br bm, giv bm g2, Cs fb 87 f.cells, Cs mb 72 _]) (Qs := []) fR_))
   ·(refine RT.callP T rfl fR_ (must_fn (p := false) (e := 65) (t := at_)) rfl rfl rfl (fun v H1 hp => ?_) (fun v H1 hp => absurd hp.1 (by decide)); obtain ⟨_, rfl, rfl⟩ := hp; (repeat refine nx ?_); exact AtQ.finP (H' := []) ⟨65, at_, by rw [hT]; exact must_f (decide_eq_false (by omega)), rfl, rfl⟩ dR_)
  ·rw [hq4] at hq
   have hne := of_decide_eq_true hq.symm
   rw [if_pos hne] at hT
   try refine gL ?_
   (refine RT.call T rfl fR_ (key_fn (k := f.key)) rfl rfl rfl ?_; rintro _ _ ⟨rfl, rfl⟩; try simp only [List.cons_append, List.nil_append])
   cases hk : keyB f.key
   ·try refine gL ?_
    (refine RT.callP T rfl fR_ (must_fn (p := false) (e := 65) (t := at_)) rfl rfl rfl (fun v H1 hp => ?_) (fun v H1 hp => absurd hp.1 (by decide)); obtain ⟨_, rfl, rfl⟩ := hp; (repeat refine nx ?_); exact AtQ.finP (H' := []) ⟨65, at_, by rw [hT]; exact must_f hk, rfl, rfl⟩ dR_)
   ·rw [must_t hk] at hT
    try refine gL ?_
    (refine RT.callP T rfl fR_ (must_fn (p := true) (e := 65) (t := at_)) rfl rfl rfl (fun v H1 hp => absurd hp.1 (by decide)) (fun v H1 hp => ?_); obtain ⟨_, rfl⟩ := hp; try simp only [List.nil_append])
    try refine gL ?_
    exact AtQ.cut () ⟨rfl, rfl, rfl, rfl, rfl, trivial⟩ (fun w h => Sat.pu_in hT (h.frd (Ps := [rdr br bm, giv bm g2, Cs fb 87 f.cells, Cs mb 72 _]) (Qs := []) fR_))
 clear hT hq
 refine A0 ?_
 refine CT.pu fun hT => ?_
 unfold fieldR14 at hT
 try refine gR ?_
 refine CT.cut (α := Unit) (fun _ => [(0, ptr br), (5, .pointer (some ⟨mb, 0, none⟩)), (8, .pointer (some ⟨fb, 0, none⟩)), (9, .slice fa i fc), (10, vS at_)]) (fun _ => Pu (TT = fieldR15 ah f at_ g2) :: rdr br bm :: giv bm g2 :: Cs fb 87 f.cells :: Cs mb 72 [n0, .slice fa fl.length fc, .slice oa ol.length oc, ms, es, .slice ra rl.length rc, .slice na nl.length nc] :: R) ?_ (fun _ => ?_)
 ·have pan : (decide (0 ≤ f.oneof ∧ f.oneof ≤ ol.length) && decide (f.oneof = 0 ∨ f.card = 1)) = false → TT = .error (64, at_) := fun h => by rw [hT]; exact must_f h
  have go : (decide (0 ≤ f.oneof ∧ f.oneof ≤ ol.length) && decide (f.oneof = 0 ∨ f.card = 1)) = true → TT = fieldR15 ah f at_ g2 := fun h => by rw [hT]; exact must_t h
  clear hT
  repeat' (first|refine gL ?_|(refine gv ?_;(refine⟨fun hc=>?_,fun hc=>?_⟩<;>first|(exfalso;omega)|skip))|fail)
  ·(refine RT.callP T rfl fR_ (must_fn (p := true) (e := 64) (t := at_)) rfl rfl rfl (fun v H1 hp => absurd hp.1 (by decide)) (fun v H1 hp => ?_); obtain ⟨_, rfl⟩ := hp; try simp only [List.nil_append])
   try refine gL ?_
   exact AtQ.cut () ⟨rfl, rfl, rfl, rfl, rfl, trivial⟩ (fun w h => Sat.pu_in (go (by rw [Bool.and_eq_true, decide_eq_true_eq, decide_eq_true_eq]; omega)) (h.frd (Ps := [rdr br bm, giv bm g2, Cs fb 87 f.cells, Cs mb 72 _]) (Qs := []) fR_))
  ·(refine RT.callP T rfl fR_ (must_fn (p := true) (e := 64) (t := at_)) rfl rfl rfl (fun v H1 hp => absurd hp.1 (by decide)) (fun v H1 hp => ?_); obtain ⟨_, rfl⟩ := hp; try simp only [List.nil_append])
   try refine gL ?_
   exact AtQ.cut () ⟨rfl, rfl, rfl, rfl, rfl, trivial⟩ (fun w h => Sat.pu_in (go (by rw [Bool.and_eq_true, decide_eq_true_eq, decide_eq_true_eq]; omega)) (h.frd (Ps := [rdr br bm, giv bm g2, Cs fb 87 f.cells, Cs mb 72 _]) (Qs := []) fR_))
  ·(refine RT.callP T rfl fR_ (must_fn (p := false) (e := 64) (t := at_)) rfl rfl rfl (fun v H1 hp => ?_) (fun v H1 hp => absurd hp.1 (by decide)); obtain ⟨_, rfl, rfl⟩ := hp; (repeat refine nx ?_); exact AtQ.finP (H' := []) ⟨64, at_, pan (by rw [Bool.and_eq_false_iff, decide_eq_false_iff_not, decide_eq_false_iff_not]; omega), rfl, rfl⟩ dR_)
  ·(refine RT.callP T rfl fR_ (must_fn (p := false) (e := 64) (t := at_)) rfl rfl rfl (fun v H1 hp => ?_) (fun v H1 hp => absurd hp.1 (by decide)); obtain ⟨_, rfl, rfl⟩ := hp; (repeat refine nx ?_); exact AtQ.finP (H' := []) ⟨64, at_, pan (by rw [Bool.and_eq_false_iff, decide_eq_false_iff_not, decide_eq_false_iff_not]; omega), rfl, rfl⟩ dR_)
  ·(refine RT.callP T rfl fR_ (must_fn (p := false) (e := 64) (t := at_)) rfl rfl rfl (fun v H1 hp => ?_) (fun v H1 hp => absurd hp.1 (by decide)); obtain ⟨_, rfl, rfl⟩ := hp; (repeat refine nx ?_); exact AtQ.finP (H' := []) ⟨64, at_, pan (by rw [Bool.and_eq_false_iff, decide_eq_false_iff_not, decide_eq_false_iff_not]; omega), rfl, rfl⟩ dR_)
 clear hT
 refine A0 ?_
 refine CT.pu fun hT => ?_
 unfold fieldR15 at hT
 try refine gR ?_
 refine CT.cut (α := Unit) (fun _ => [(0, ptr br), (5, .pointer (some ⟨mb, 0, none⟩)), (8, .pointer (some ⟨fb, 0, none⟩)), (9, .slice fa i fc), (10, vS at_)]) (fun _ => Pu (TT = fieldR16 ah f at_ g2) :: rdr br bm :: giv bm g2 :: Cs fb 87 f.cells :: Cs mb 72 [n0, .slice fa fl.length fc, .slice oa ol.length oc, ms, es, .slice ra rl.length rc, .slice na nl.length nc] :: R) ?_ (fun _ => ?_)
 ·have pan : (decide (f.packed ≤ 2) && (decide (f.packed = 0) || decide (f.card = 3) && packsB f.kind)) = false → TT = .error (67, at_) := fun h => by rw [hT]; exact must_f h
  have go : (decide (f.packed ≤ 2) && (decide (f.packed = 0) || decide (f.card = 3) && packsB f.kind)) = true → TT = fieldR16 ah f at_ g2 := fun h => by rw [hT]; exact must_t h
  clear hT
  repeat' (first|refine gL ?_|(refine gv ?_;(refine⟨fun hc=>?_,fun hc=>?_⟩<;>first|(exfalso;omega)|skip))|fail)
  ·(refine RT.callP T rfl fR_ (must_fn (p := true) (e := 67) (t := at_)) rfl rfl rfl (fun v H1 hp => absurd hp.1 (by decide)) (fun v H1 hp => ?_); obtain ⟨_, rfl⟩ := hp; try simp only [List.nil_append])
   try refine gL ?_
   exact AtQ.cut () ⟨rfl, rfl, rfl, rfl, rfl, trivial⟩ (fun w h => Sat.pu_in (go (by rw [decide_eq_true (p := f.packed ≤ 2) (by omega), decide_eq_true (p := f.packed = 0) (by omega)]; rfl)) (h.frd (Ps := [rdr br bm, giv bm g2, Cs fb 87 f.cells, Cs mb 72 _]) (Qs := []) fR_))
  ·(refine RT.call T rfl fR_ (packs_fn (k := f.kind)) rfl rfl rfl ?_; rintro _ _ ⟨rfl, rfl⟩; try simp only [List.cons_append, List.nil_append])
   cases hk : packsB f.kind
   ·try refine gL ?_
    (refine RT.callP T rfl fR_ (must_fn (p := false) (e := 67) (t := at_)) rfl rfl rfl (fun v H1 hp => ?_) (fun v H1 hp => absurd hp.1 (by decide)); obtain ⟨_, rfl, rfl⟩ := hp; (repeat refine nx ?_); exact AtQ.finP (H' := []) ⟨67, at_, pan (by rw [hk, decide_eq_false (p := f.packed = 0) (by omega)]; simp), rfl, rfl⟩ dR_)
   ·try refine gL ?_
    (refine RT.callP T rfl fR_ (must_fn (p := true) (e := 67) (t := at_)) rfl rfl rfl (fun v H1 hp => absurd hp.1 (by decide)) (fun v H1 hp => ?_); obtain ⟨_, rfl⟩ := hp; try simp only [List.nil_append])
    try refine gL ?_
    exact AtQ.cut () ⟨rfl, rfl, rfl, rfl, rfl, trivial⟩ (fun w h => Sat.pu_in (go (by rw [hk, decide_eq_true (p := f.packed ≤ 2) (by omega), decide_eq_true (p := f.card = 3) (by omega)]; simp)) (h.frd (Ps := [rdr br bm, giv bm g2, Cs fb 87 f.cells, Cs mb 72 _]) (Qs := []) fR_))
  ·(refine RT.callP T rfl fR_ (must_fn (p := false) (e := 67) (t := at_)) rfl rfl rfl (fun v H1 hp => ?_) (fun v H1 hp => absurd hp.1 (by decide)); obtain ⟨_, rfl, rfl⟩ := hp; (repeat refine nx ?_); exact AtQ.finP (H' := []) ⟨67, at_, pan (by rw [decide_eq_false (p := f.packed = 0) (by omega), decide_eq_false (p := f.card = 3) (by omega)]; simp), rfl, rfl⟩ dR_)
  ·(refine RT.callP T rfl fR_ (must_fn (p := false) (e := 67) (t := at_)) rfl rfl rfl (fun v H1 hp => ?_) (fun v H1 hp => absurd hp.1 (by decide)); obtain ⟨_, rfl, rfl⟩ := hp; (repeat refine nx ?_); exact AtQ.finP (H' := []) ⟨67, at_, pan (by rw [decide_eq_false (p := f.packed ≤ 2) (by omega)]; rfl), rfl, rfl⟩ dR_)
 clear hT
 refine A0 ?_
 refine CT.pu fun hT => ?_
 unfold fieldR16 at hT
 try refine gL ?_
 (refine RT.call T rfl fR_ (goodS_fn hU fjb (by omega)) rfl rfl rfl ?_; rintro _ _ ⟨rfl, rfl⟩; try simp only [List.cons_append, List.nil_append])
 have pan : (decide (goodL f.js < 0) && decide (f.js.length ≤ 255) && decide ((64 : Int) ∉ f.js)) = false → TT = .error (60, at_) := fun h => by rw [hT]; exact must_f h
 have go : (decide (goodL f.js < 0) && decide (f.js.length ≤ 255) && decide ((64 : Int) ∉ f.js)) = true → TT = fieldR17 ah f at_ g2 := fun h => by rw [hT]; exact must_t h
 clear hT
 generalize hgl : goodL f.js = gl at *
 repeat' (first|refine gL ?_|(refine gv ?_;(refine⟨fun hc=>?_,fun hc=>?_⟩<;>first|(exfalso;omega)|skip))|fail)
 rotate_left
 ·(refine RT.callP T rfl fR_ (must_fn (p := false) (e := 60) (t := at_)) rfl rfl rfl (fun v H1 hp => ?_) (fun v H1 hp => absurd hp.1 (by decide)); obtain ⟨_, rfl, rfl⟩ := hp; (repeat refine nx ?_); exact AtQ.finP (H' := []) ⟨60, at_, pan (by rw [decide_eq_false (p := f.js.length ≤ 255) (by omega)]; simp), rfl, rfl⟩ dR_)
 ·(refine RT.callP T rfl fR_ (must_fn (p := false) (e := 60) (t := at_)) rfl rfl rfl (fun v H1 hp => ?_) (fun v H1 hp => absurd hp.1 (by decide)); obtain ⟨_, rfl, rfl⟩ := hp; (repeat refine nx ?_); exact AtQ.finP (H' := []) ⟨60, at_, pan (by rw [decide_eq_false (p := gl < 0) (by omega)]; rfl), rfl, rfl⟩ dR_)
 (refine RT.call T rfl fR_ (contains_fn (l := f.js) fjb) rfl rfl rfl ?_; rintro _ _ ⟨rfl, rfl⟩; try simp only [List.cons_append, List.nil_append])
 by_cases hat : (64 : Int) ∈ f.js
 ·rw [decide_eq_true hat]
  try refine gL ?_
  (refine RT.callP T rfl fR_ (must_fn (p := false) (e := 60) (t := at_)) rfl rfl rfl (fun v H1 hp => ?_) (fun v H1 hp => absurd hp.1 (by decide)); obtain ⟨_, rfl, rfl⟩ := hp; (repeat refine nx ?_); exact AtQ.finP (H' := []) ⟨60, at_, pan (by rw [decide_eq_false (p := (64 : Int) ∉ f.js) (fun h => h hat)]; simp), rfl, rfl⟩ dR_)
 rw [decide_eq_false hat]
 try refine gL ?_
 (refine RT.callP T rfl fR_ (must_fn (p := true) (e := 60) (t := at_)) rfl rfl rfl (fun v H1 hp => absurd hp.1 (by decide)) (fun v H1 hp => ?_); obtain ⟨_, rfl⟩ := hp; try simp only [List.nil_append])
 have hT := go (by rw [decide_eq_true (p := gl < 0) (by omega), decide_eq_true (p := f.js.length ≤ 255) (by omega), decide_eq_true hat]; rfl)
 clear go pan
 unfold fieldR17 at hT
 (refine RT.env (E' := [(0, _), (5, _), (8, _), (9, _), (10, _)]) ⟨rfl, rfl, rfl, rfl, rfl, trivial⟩ ?_)
 try refine gL ?_
 refine CT.loop (α := Nat) (fun k => [(8, .pointer (some ⟨fb, 0, none⟩)), (10, vS at_), (166, .slice fa i fc), (167, .int .i64 i), (168, .int .i64 k)]) (fun k => Pu (k ≤ i ∧ ∀ o ∈ ah.take k, jsonL o ≠ jsonL f ∧ jsonL o ≠ f.nm ∧ o.nm ≠ jsonL f) :: rdr br bm :: giv bm g2 :: Cs fb 87 f.cells :: R) (fun k => i - k) 0
  ⟨rfl, rfl, rfl, rfl, rfl, trivial⟩ (fun w h => Sat.pu_in ⟨Nat.zero_le _, fun o ho => by simp at ho⟩ (h.frd (Ps := [rdr br bm, giv bm g2, Cs fb 87 f.cells]) (Qs := [_]) fR_)) (fun k => CT.pu fun ⟨hki, hko⟩ => ?_)
 try refine gR ?_
 first | (refine CT.region ?_) | (refine CT.quiet mixed (by kernel_rfl) ?_)
 repeat' (first|refine gR ?_|(refine gv ?_;(refine⟨fun hc=>?_,fun hc=>?_⟩<;>first|(exfalso;omega)|skip))|fail)
 try refine gL ?_
 ·have hka : k < ah.length := by omega
  have hgk := List.getElem?_eq_getElem hka
  revert hgk
  generalize ah[k] = o
  intro hgk
  have hof : o ∈ fl := List.mem_of_mem_take (by rw [hah]; exact List.mem_of_getElem? hgk)
  obtain ⟨⟨⟨onb, _⟩, _, _, _, _, _, _, _, ⟨ojb, _⟩⟩, ons, _, ojs⟩ := fo o hof
  refine RT.ix T (j := k * 9) rfl rfl rfl (rD (hA)) (by omega) (by omega) (by omega) rfl rfl ?_
  refine RT.ldra T rfl (rD (hA)) (l := o.cells) (flat_sub (f := FieldT.cells) (z := 9) (fun _ => rfl) ah k _ hgk) rfl rfl rfl rfl ?_
  repeat' (first|(refine gb ?_;intro b)|fail)
  (apply RT.staggW T;exact rfl;exact rfl;exact rfl;(focus ((repeat constructor);done));iterate 4 exact rfl)
  try refine gR ?_
  revert b
  intro ob
  refine CT.tail 20 mixed (by kernel_rfl) ?_
  dsimp only [List.take_succ_cons, List.take_zero]
  try refine gM ?_
  (refine RT.qcall T rfl (QSp.of fR_ (json_fn (f := o) ojb onb ons)) rfl rfl rfl ?_)
  try refine gM ?_
  (refine RT.qcall T rfl (QSp.of fR_ (json_fn (f := f) fjb fnb fns)) rfl rfl rfl ?_)
  skip
  have hjo := json_byt ojb onb
  have hjf := json_byt fjb fnb
  have pan : ∀ o ∈ ah, ¬(jsonL o ≠ jsonL f ∧ jsonL o ≠ f.nm ∧ o.nm ≠ jsonL f) → TT = .error (61, at_) := fun o ho h => by rw [hT]; exact must_f (decide_eq_false fun h2 => h (h2 o ho))
  refine RT.nes (l := jsonL o) (l' := jsonL f) rfl rfl hjo hjf rfl rfl (fun he1 => ?_) (fun he1 => ?_)
  ·try refine gM ?_
   refine AtQ.tail ?_
   (refine RT.callP T rfl fR_ (must_fn (p := false) (e := 61) (t := at_)) rfl rfl rfl (fun v H1 hp => ?_) (fun v H1 hp => absurd hp.1 (by decide)); obtain ⟨_, rfl, rfl⟩ := hp; (repeat refine nx ?_); exact AtQ.finP (H' := []) ⟨61, at_, pan o (List.mem_of_getElem? hgk) (fun h => h.1 he1), rfl, rfl⟩ dR_)
  ·try refine gM ?_
   (refine RT.qcall T rfl (QSp.of fR_ (json_fn (f := o) ojb onb ons)) rfl rfl rfl ?_)
   try refine gM ?_
   refine RT.nes (l := jsonL o) (l' := f.nm) rfl rfl hjo fnb rfl rfl (fun he2 => ?_) (fun he2 => ?_)
   ·try refine gM ?_
    refine AtQ.tail ?_
    (refine RT.callP T rfl fR_ (must_fn (p := false) (e := 61) (t := at_)) rfl rfl rfl (fun v H1 hp => ?_) (fun v H1 hp => absurd hp.1 (by decide)); obtain ⟨_, rfl, rfl⟩ := hp; (repeat refine nx ?_); exact AtQ.finP (H' := []) ⟨61, at_, pan o (List.mem_of_getElem? hgk) (fun h => h.2.1 he2), rfl, rfl⟩ dR_)
   ·try refine gM ?_
    (refine RT.qcall T rfl (QSp.of fR_ (json_fn (f := f) fjb fnb fns)) rfl rfl rfl ?_)
    refine RT.nes (l := o.nm) (l' := jsonL f) rfl rfl onb hjf rfl rfl (fun he3 => ?_) (fun he3 => ?_)
    ·try refine gM ?_
     refine AtQ.tail ?_
     (refine RT.callP T rfl fR_ (must_fn (p := false) (e := 61) (t := at_)) rfl rfl rfl (fun v H1 hp => ?_) (fun v H1 hp => absurd hp.1 (by decide)); obtain ⟨_, rfl, rfl⟩ := hp; (repeat refine nx ?_); exact AtQ.finP (H' := []) ⟨61, at_, pan o (List.mem_of_getElem? hgk) (fun h => h.2.2 he3), rfl, rfl⟩ dR_)
    ·try refine gM ?_
     refine AtQ.tail ?_
     (refine RT.callP T rfl fR_ (must_fn (p := true) (e := 61) (t := at_)) rfl rfl rfl (fun v H1 hp => absurd hp.1 (by decide)) (fun v H1 hp => ?_); obtain ⟨_, rfl⟩ := hp; try simp only [List.nil_append])
     repeat' (first|refine gL ?_|(refine gv ?_;refine gk ?_)|fail)
     exact AtQ.loop (k + 1) ⟨rfl, rfl, rfl, rfl, rfl, trivial⟩ (fun w h => Sat.pu_in ⟨by omega, sm_take hgk hko ⟨he1, he2, he3⟩⟩ (h.frd (Ps := [rdr br bm, giv bm g2, Cs fb 87 f.cells]) (Qs := [_]) fR_)) (by omega)
 ·have hke : k = i := by omega
  rw [List.take_of_length_le (by omega)] at hko
  refine AtQ.ofFinN (AtQ.fin0 Tryz.results118 (H' := [rdr br bm, giv bm g2]) ⟨g2, by rw [hT]; exact must_t (decide_eq_true hko), hb2, rfl⟩ (fun w h => h.frd (Ps := [rdr br bm, giv bm g2]) (Qs := [_]) fR_) _ (.inl rfl))
end Go.Proofs.YtdemnhdoadjhhaaGreatDoor
end
section
namespace Go.Proofs.YtdemnhdoadjhhaaGreatDoor
open Go.Sk
set_option maxRecDepth 100000
theorem giveR_ok {nm full : Txt} {g g' : List Txt} (h : giveR nm full g = .ok g') : identB nm = true ∧ full.length ≤ 255 ∧ full ∉ g ∧ g' = g ++ [full] := by
 unfold giveR must at h
 split at h
 ·rename_i h1
  rw [Bool.and_eq_true, decide_eq_true_eq] at h1
  split at h
  ·rename_i h2
   cases h
   exact ⟨h1.1, h1.2, of_decide_eq_true h2, rfl⟩
  ·cases h
 ·cases h
theorem drop_eq {α : Type} {l : List α} {i : Nat} {x : α} (h : l[i]? = some x) : l.drop i = x :: l.drop (i + 1) := by
 obtain ⟨hi, rfl⟩ := List.getElem?_eq_some_iff.1 h
 exact List.drop_eq_getElem_cons hi
theorem take_eq {α : Type} {l : List α} {i : Nat} {x : α} (h : l[i]? = some x) : l.take i ++ [x] = l.take (i + 1) := by
 rw [List.take_add_one, h]
 rfl
attribute [local irreducible] Cs Own Ex Pu Yld RT LJ QJ AtQ CT Rd QSp Sp FinQ Then LoopQ CutQ DT TakeQ EffQ
variable {B : World}
set_option maxHeartbeats 16000000 in
theorem message_fn {mM : Int} (hU : Lib.Utf8Tabs 1 2 B) (hM : B.cell? ⟨0, 0, none⟩ = some (.int .i64 mM)) {br bm : Nat} (d : Nat) :
  ∀ {R : List HP} {m : MsgT} {sc : Txt} {deep : Nat} {g : List Txt}, m.deep ≤ d → m.In (Rd B R) → m.Ok → m.Nm → BL g → Byt sc → sc.length ≤ 16777216 → deep ≤ 16 →
  SpP B Tryz.prog 92 [ptr br, .agg m.cells.toArray, vS sc, .int .i64 deep] R [rdr br bm, giv bm g] (PostR (msgR m sc deep g) [rdr br bm] bm) (PPR (msgR m sc deep g)) := by
 induction d using Nat.strongRecOn with
 | _ d ih =>
 intro R m sc deep g hd hin hok hnm hg hs hsl hdp
 obtain ⟨nm, ⟨fa, fc, fl⟩, ⟨oa, oc, ol⟩, ma, mc, msgs, ⟨ea, ec, el⟩, ⟨ra, rc, rl⟩, ⟨na, nc, nl⟩⟩ := m
 unfold MsgT.In at hin
 unfold MsgT.Ok at hok
 unfold MsgT.Nm at hnm
 unfold MsgT.deep at hd
 obtain ⟨rf, ro, rm, re, re2, rs, rn, rm2⟩ := hin
 obtain ⟨⟨ho1, _⟩, ⟨⟨lf, _⟩, of_⟩, ⟨⟨lo, _⟩, oo⟩, ⟨lm, _⟩, ⟨⟨le, _⟩, oe⟩, ⟨⟨ls, _⟩, os⟩, ⟨⟨ln, _⟩, on_⟩, om⟩ := hok
 obtain ⟨hm1, hmf, hmo, hmn, hme, hmm⟩ := hnm
 dsimp only at rf ro rm re re2 rs rn lf of_ lo oo lm le oe ls os ln on_ hmf hmo hmn hme
 have hT : msgR (.mk nm ⟨fa, fc, fl⟩ ⟨oa, oc, ol⟩ ma mc msgs ⟨ea, ec, el⟩ ⟨ra, rc, rl⟩ ⟨na, nc, nl⟩) sc deep g = msgR (.mk nm ⟨fa, fc, fl⟩ ⟨oa, oc, ol⟩ ma mc msgs ⟨ea, ec, el⟩ ⟨ra, rc, rl⟩ ⟨na, nc, nl⟩) sc deep g := rfl
 conv at hT => rhs; unfold msgR
 dsimp only at hT
 generalize msgR (.mk nm ⟨fa, fc, fl⟩ ⟨oa, oc, ol⟩ ma mc msgs ⟨ea, ec, el⟩ ⟨ra, rc, rl⟩ ⟨na, nc, nl⟩) sc deep g = TT at *
 dsimp only [MsgT.cells, Rw.v, MsgT.nm, MsgT.fields, MsgT.oneofs, MsgT.ma, MsgT.mc, MsgT.msgs, MsgT.enums, MsgT.res, MsgT.names]
 refine SpP.body Tryz.func92 rfl Tryz.ntmps92 (by simp) ?_
 simp only [argE, List.cons_append, List.nil_append, Nat.zero_add, Nat.reduceAdd]
 repeat' (first|refine gL ?_|(refine gb ?_;intro b)|fail)
 revert b
 intro mb
 (refine RT.bs T (l := strs [sc,  nm]) rfl rfl rfl rfl rfl rfl rfl (fun a9 c9 h9 => ?_); (refine RT.call T rfl fR_ (join_fn (ls := [sc,  nm]) (Own.rd (by ((repeat constructor);done)) rfl h9) rfl (b2  hs  ho1) ( s2l hsl hm1)) rfl rfl rfl ?_; rintro _ _ ⟨rfl, rfl⟩; try simp only [List.cons_append, List.nil_append]); refine RT.weak (fun w h => h.tail) ?_)
 try refine gL ?_
 have hjl := @j2_len sc nm
 have hjb := j2_byt hs ho1
 generalize joinL [sc, nm] = full at *
 (refine RT.callP T rfl fR_ (give_fn (br := br) (bm := bm) (g := g) hg ho1 hjb hm1 (show full.length ≤ 140737488355327 by omega)) rfl rfl rfl (fun v H1 hp => ?_) (fun v H1 hp => ?_))
 ·obtain ⟨e, t, h4, rfl, rfl⟩ := hp
  ((repeat refine nx ?_); exact AtQ.finP (H' := []) ⟨e, t, by rw [hT, h4]; rfl, rfl, rfl⟩ dR_)
 obtain ⟨g1, h4, hb1, rfl⟩ := hp
 rw [h4] at hT
 rw [bnd_ok] at hT
 obtain ⟨_, hfl, _, _⟩ := giveR_ok h4
 clear h4 hjl
 simp only [List.cons_append, List.nil_append]
 repeat' (first|refine gL ?_|(refine gv ?_;(refine⟨fun hc=>?_,fun hc=>?_⟩<;>first|(exfalso;omega)|skip))|fail)
 rotate_left
 ·(refine RT.callP T rfl fR_ (must_fn (p := false) (e := 68) (t := full)) rfl rfl rfl (fun v H1 hp => ?_) (fun v H1 hp => absurd hp.1 (by decide)); obtain ⟨_, rfl, rfl⟩ := hp; (repeat refine nx ?_); exact AtQ.finP (H' := []) ⟨68, full, by rw [hT]; exact must_f (by rw [decide_eq_false (p := fl.length ≤ 1000) (by omega)]; simp), rfl, rfl⟩ dR_)
 ·(refine RT.callP T rfl fR_ (must_fn (p := false) (e := 68) (t := full)) rfl rfl rfl (fun v H1 hp => ?_) (fun v H1 hp => absurd hp.1 (by decide)); obtain ⟨_, rfl, rfl⟩ := hp; (repeat refine nx ?_); exact AtQ.finP (H' := []) ⟨68, full, by rw [hT]; exact must_f (by rw [decide_eq_false (p := deep < 16) (by omega)]; rfl), rfl, rfl⟩ dR_)
 (refine RT.callP T rfl fR_ (must_fn (p := true) (e := 68) (t := full)) rfl rfl rfl (fun v H1 hp => absurd hp.1 (by decide)) (fun v H1 hp => ?_); obtain ⟨_, rfl⟩ := hp; try simp only [List.nil_append])
 rw [must_t (by rw [decide_eq_true (p := deep < 16) (by omega), decide_eq_true (p := fl.length ≤ 1000) (by omega)]; rfl)] at hT
 (refine RT.env (E' := [(0, _), (3, _), (5, _), (8, _)]) ⟨rfl, rfl, rfl, rfl, trivial⟩ ?_)
 try refine gL ?_
 (refine RT.callP T rfl fR_ (spans_fn (r := ⟨ra, rc, rl⟩) (lo := 1) (hi := 536870911) (t := full) (rD (rs)) ls) rfl rfl rfl (fun v H1 hp => ?_) (fun v H1 hp => ?_))
 ·obtain ⟨e, t, h2, rfl, rfl⟩ := hp
  ((repeat refine nx ?_); exact AtQ.finP (H' := []) ⟨e, t, by rw [hT, h2]; try rfl, rfl, rfl⟩ dR_)
 obtain ⟨h2, rfl⟩ := hp
 rw [h2] at hT
 rw [opt_none] at hT
 simp only [List.nil_append]
 try refine gL ?_
 (refine RT.callP T rfl fR_ (reserved_fn (r := ⟨na, nc, nl⟩) (sc := full) ⟨(rD (rn)), ln, fun t ht => (on_ t ht).1, hmn⟩ hjb (by omega)) rfl rfl rfl (fun v H1 hp => ?_) (fun v H1 hp => ?_))
 ·obtain ⟨e, t, h3, rfl, rfl⟩ := hp
  ((repeat refine nx ?_); exact AtQ.finP (H' := []) ⟨e, t, by rw [hT, h3]; try rfl, rfl, rfl⟩ dR_)
 obtain ⟨h3, rfl⟩ := hp
 rw [h3] at hT
 rw [opt_none] at hT
 simp only [List.nil_append]
 clear h2 h3
 try refine gL ?_
 generalize hK : (fun g => bnd (oneofsR fl full 0 ol g) fun g => bnd (msgsR msgs full (deep + 1) g) fun g => enumsR full el g) = K at hT
 obtain ⟨mcl, hmcl⟩ : ∃ mcl, mcl = [vS nm, Value.slice fa fl.length fc, Value.slice oa ol.length oc, Value.slice ma msgs.length mc, Value.slice ea el.length ec, Value.slice ra rl.length rc, Value.slice na nl.length nc] := ⟨_, rfl⟩
 rw [← hmcl]
 refine CT.loop (α := Nat × List Txt) (fun s => [(0, ptr br), (3, .int .i64 deep), (5, .pointer (some ⟨mb, 0, none⟩)), (8, vS full), (47, .int .i64 fl.length), (48, .int .i64 s.1)])
  (fun s => Pu (s.1 ≤ fl.length ∧ BL s.2 ∧ TT = bnd (fieldsR nl rl ol.length full (fl.take s.1) (fl.drop s.1) s.2) K) :: rdr br bm :: giv bm s.2 :: Cs mb 72 mcl :: R) (fun s => fl.length - s.1) (0, g1)
  ⟨rfl, rfl, rfl, rfl, rfl, rfl, trivial⟩ (fun w h => Sat.pu_in ⟨Nat.zero_le _, hb1, hT⟩ h) (fun ⟨k, gk9⟩ => CT.pu fun ⟨hkl, hbk, hTk⟩ => ?_)
 clear hT hb1
 dsimp only at hkl hbk hTk ⊢
 subst hmcl
 try refine gR ?_
 first | (refine CT.region ?_) | (refine CT.quiet mixed (by kernel_rfl) ?_)
 repeat' (first|refine gL ?_|(refine gv ?_;(refine⟨fun hc=>?_,fun hc=>?_⟩<;>first|(exfalso;omega)|skip))|fail)
 ·have hk' : k < fl.length := by omega
  have hgk := List.getElem?_eq_getElem hk'
  revert hgk
  generalize fl[k] = f
  intro hgk
  rw [drop_eq hgk, fieldsR] at hTk
  try refine gM ?_
  (refine RT.callP T rfl fR_ (field_fn (fields := ⟨fa, fc, fl⟩) (oneofs := ⟨oa, oc, ol⟩) (names := ⟨na, nc, nl⟩) (res := ⟨ra, rc, rl⟩) (n0 := vS nm) (ms := .slice ma msgs.length mc) (es := .slice ea el.length ec) (full := full) (br := br) (bm := bm) (g := gk9) hU hM ⟨(rD (rf)), (rD (rs)), ⟨(rD (rn)), ln, fun t ht => (on_ t ht).1, hmn⟩, ⟨(rD (ro)), lo, fun t ht => (oo t ht).1, hmo⟩, lf, ls, fun f hf => ⟨of_ f hf, hmf f hf⟩⟩ hgk hbk hjb (by omega)) rfl rfl rfl (fun v H1 hp => ?_) (fun v H1 hp => ?_))
  ·obtain ⟨e, t, h5, rfl, rfl⟩ := hp
   ((repeat refine nx ?_); exact AtQ.finP (H' := []) ⟨e, t, by rw [hTk, h5]; try rfl, rfl, rfl⟩ dR_)
  obtain ⟨g3, h5, hb3, rfl⟩ := hp
  rw [h5, take_eq hgk] at hTk
  rw [bnd_ok] at hTk
  simp only [List.cons_append, List.nil_append]
  clear h5
  repeat' (first|refine gL ?_|(refine gv ?_;refine gk ?_)|fail)
  exact AtQ.loop (k + 1, g3) ⟨rfl, rfl, rfl, rfl, rfl, rfl, trivial⟩ (fun w h => Sat.pu_in ⟨by omega, hb3, hTk⟩ h) (by dsimp only; omega)
 rw [List.drop_of_length_le (by omega), fieldsR] at hTk
 rw [bnd_ok] at hTk
 subst hK
 dsimp only at hTk
 skip
 clear hkl
 obtain ⟨mcl, hmcl⟩ : ∃ mcl, mcl = [vS nm, Value.slice fa fl.length fc, Value.slice oa ol.length oc, Value.slice ma msgs.length mc, Value.slice ea el.length ec, Value.slice ra rl.length rc, Value.slice na nl.length nc] := ⟨_, rfl⟩
 rw [← hmcl]
 refine CT.loop (α := Nat × List Txt) (fun s => [(0, ptr br), (3, .int .i64 deep), (5, .pointer (some ⟨mb, 0, none⟩)), (8, vS full), (58, .slice oa ol.length oc), (59, .int .i64 ol.length), (60, .int .i64 s.1)])
  (fun s => Pu (s.1 ≤ ol.length ∧ BL s.2 ∧ TT = bnd (oneofsR fl full s.1 (ol.drop s.1) s.2) fun g => bnd (msgsR msgs full (deep + 1) g) fun g => enumsR full el g) :: rdr br bm :: giv bm s.2 :: Cs mb 72 mcl :: R) (fun s => ol.length - s.1) (0, gk9)
  ⟨rfl, rfl, rfl, rfl, rfl, rfl, rfl, trivial⟩ (fun w h => Sat.pu_in ⟨Nat.zero_le _, hbk, hTk⟩ h) (fun ⟨k, gk9⟩ => CT.pu fun ⟨hkl, hbk, hTk⟩ => ?_)
 dsimp only at hkl hbk hTk ⊢
 subst hmcl
 try refine gR ?_
 first | (refine CT.region ?_) | (refine CT.quiet mixed (by kernel_rfl) ?_)
 repeat' (first|refine gL ?_|(refine gv ?_;(refine⟨fun hc=>?_,fun hc=>?_⟩<;>first|(exfalso;omega)|skip))|fail)
 ·have hk' : k < ol.length := by omega
  have hgk := List.getElem?_eq_getElem hk'
  revert hgk
  generalize ol[k] = o
  intro hgk
  rw [drop_eq hgk, oneofsR] at hTk
  have hob := (oo o (List.mem_of_getElem? hgk)).1
  have hos := hmo o (List.mem_of_getElem? hgk)
  refine RT.ix T (j := k) rfl rfl rfl (rD (ro)) (by omega) (by omega) (by omega) rfl rfl ?_
  refine RT.ldr T rfl (rD (ro)) (map_getT hgk) rfl rfl rfl ?_
  repeat' (first|refine gL ?_|(refine gb ?_;intro b)|fail)
  (refine RT.bs T (l := strs [full,  o]) rfl rfl rfl rfl rfl rfl rfl (fun a9 c9 h9 => ?_); (refine RT.call T rfl fR_ (join_fn (ls := [full,  o]) (Own.rd (by ((repeat constructor);done)) rfl h9) rfl (b2  hjb  hob) ( s2l (by omega) hos)) rfl rfl rfl ?_; rintro _ _ ⟨rfl, rfl⟩; try simp only [List.cons_append, List.nil_append]); refine RT.weak (fun w h => h.tail) ?_)
  try refine gL ?_
  have hjl := @j2_len full o
  have hjo := j2_byt hjb hob
  generalize joinL [full, o] = at_ at *
  (refine RT.callP T rfl fR_ (give_fn (br := br) (bm := bm) (g := gk9) hbk hob hjo hos (show at_.length ≤ 140737488355327 by omega)) rfl rfl rfl (fun v H1 hp => ?_) (fun v H1 hp => ?_))
  ·obtain ⟨e, t, h5, rfl, rfl⟩ := hp
   ((repeat refine nx ?_); exact AtQ.finP (H' := []) ⟨e, t, by rw [hTk, h5]; try rfl, rfl, rfl⟩ dR_)
  obtain ⟨g3, h5, hb3, rfl⟩ := hp
  rw [h5, bnd_ok] at hTk
  simp only [List.cons_append, List.nil_append]
  clear h5
  try refine gL ?_
  refine RT.mkF rfl rfl rfl ?_
  skip
  refine RT.call T rfl fR_ (contfF_fn (l := fl) (p := fun f => decide (f.oneof = (k : Int) + 1)) (f := 120) (caps := [.pointer (some ⟨b, 0, none⟩)]) (Pre := [Cs b 3 [.int .i64 k]]) rfl (by omega) (rD (rf)) rfl (fun s _ => message1_fn (by omega))) rfl rfl rfl ?_
  rintro _ _ ⟨rfl, rfl⟩
  simp only [List.cons_append, List.nil_append]
  have hany : decide (∃ f ∈ fl, f.oneof = (k : Int) + 1) = (fl.any fun f => decide (f.oneof = (k : Int) + 1)) := by
   rw [Bool.eq_iff_iff]
   simp
  rw [hany] at hTk
  cases hq : fl.any fun f => decide (f.oneof = (k : Int) + 1)
  ·try refine gL ?_
   (refine RT.callP T rfl fR_ (must_fn (p := false) (e := 64) (t := at_)) rfl rfl rfl (fun v H1 hp => ?_) (fun v H1 hp => absurd hp.1 (by decide)); obtain ⟨_, rfl, rfl⟩ := hp; (repeat refine nx ?_); exact AtQ.finP (H' := []) ⟨64, at_, by rw [hTk, hq, must_f rfl]; rfl, rfl, rfl⟩ dR_)
  rw [hq, must_t rfl] at hTk
  try refine gL ?_
  (refine RT.callP T rfl fR_ (must_fn (p := true) (e := 64) (t := at_)) rfl rfl rfl (fun v H1 hp => absurd hp.1 (by decide)) (fun v H1 hp => ?_); obtain ⟨_, rfl⟩ := hp; try simp only [List.nil_append])
  repeat' (first|refine gL ?_|(refine gv ?_;refine gk ?_)|fail)
  exact AtQ.loop (k + 1, g3) ⟨rfl, rfl, rfl, rfl, rfl, rfl, rfl, trivial⟩ (fun w h => Sat.pu_in ⟨by omega, hb3, hTk⟩ (h.frd (Ps := [rdr br bm, giv bm g3, Cs mb 72 _]) (Qs := [_]) fR_)) (by dsimp only; omega)
 rw [List.drop_of_length_le (by omega), oneofsR] at hTk
 rw [bnd_ok] at hTk
 skip
 clear hkl
 obtain ⟨mcl, hmcl⟩ : ∃ mcl, mcl = [vS nm, Value.slice fa fl.length fc, Value.slice oa ol.length oc, Value.slice ma msgs.length mc, Value.slice ea el.length ec, Value.slice ra rl.length rc, Value.slice na nl.length nc] := ⟨_, rfl⟩
 rw [← hmcl]
 refine CT.loop (α := Nat × List Txt) (fun s => [(0, ptr br), (3, .int .i64 deep), (5, .pointer (some ⟨mb, 0, none⟩)), (8, vS full), (81, .slice ma msgs.length mc), (82, .int .i64 msgs.length), (83, .int .i64 s.1)])
  (fun s => Pu (s.1 ≤ msgs.length ∧ BL s.2 ∧ TT = bnd (msgsR (msgs.drop s.1) full (deep + 1) s.2) fun g => enumsR full el g) :: rdr br bm :: giv bm s.2 :: Cs mb 72 mcl :: R) (fun s => msgs.length - s.1) (0, gk9)
  ⟨rfl, rfl, rfl, rfl, rfl, rfl, rfl, trivial⟩ (fun w h => Sat.pu_in ⟨Nat.zero_le _, hbk, hTk⟩ h) (fun ⟨k, gk9⟩ => CT.pu fun ⟨hkl, hbk, hTk⟩ => ?_)
 dsimp only at hkl hbk hTk ⊢
 subst hmcl
 try refine gR ?_
 first | (refine CT.region ?_) | (refine CT.quiet mixed (by kernel_rfl) ?_)
 repeat' (first|refine gL ?_|(refine gv ?_;(refine⟨fun hc=>?_,fun hc=>?_⟩<;>first|(exfalso;omega)|skip))|fail)
 ·have hk' : k < msgs.length := by omega
  have hgk := List.getElem?_eq_getElem hk'
  revert hgk
  generalize msgs[k] = m2
  intro hgk
  rw [drop_eq hgk, msgsR] at hTk
  have hme2 := List.mem_of_getElem? hgk
  have hmd := MsgT.deep_mem hme2
  refine RT.ix T (j := k * 7) rfl rfl rfl (rD (rm)) (by omega) (by omega) (by omega) rfl rfl ?_
  refine RT.ldra T rfl (rD (rm)) (l := m2.cells) (flat_sub (f := MsgT.cells) (z := 7) (fun _ => rfl) msgs k _ hgk) rfl rfl rfl rfl ?_
  repeat' (first|refine gM ?_|(refine gv ?_;refine gk ?_)|(refine gb ?_;intro b)|fail)
  rw [show (deep : Int) + 1 = ((deep + 1 : Nat) : Int) by omega]
  (refine RT.callP T rfl fR_ (@ih m2.deep (by omega) _ m2 full (deep + 1) gk9 (Nat.le_refl _) (MsgT.In.mono (fun _ _ _ _ _ h => (rD (h))) (MsgT.inL_mem rm2 hme2)) (MsgT.okL_mem om hme2) (MsgT.nmL_mem hmm hme2) hbk hjb (by omega) (by omega)) rfl rfl rfl (fun v H1 hp => ?_) (fun v H1 hp => ?_))
  ·obtain ⟨e, t, h5, rfl, rfl⟩ := hp
   ((repeat refine nx ?_); exact AtQ.finP (H' := []) ⟨e, t, by rw [hTk, h5]; try rfl, rfl, rfl⟩ dR_)
  obtain ⟨g3, h5, hb3, rfl⟩ := hp
  rw [h5, bnd_ok] at hTk
  simp only [List.cons_append, List.nil_append]
  clear h5
  repeat' (first|refine gL ?_|(refine gv ?_;refine gk ?_)|fail)
  exact AtQ.loop (k + 1, g3) ⟨rfl, rfl, rfl, rfl, rfl, rfl, rfl, trivial⟩ (fun w h => Sat.pu_in ⟨by omega, hb3, hTk⟩ (h.frd (Ps := [rdr br bm, giv bm g3, Cs mb 72 _]) (Qs := [_]) fR_)) (by dsimp only; omega)
 rw [List.drop_of_length_le (by omega), msgsR] at hTk
 rw [bnd_ok] at hTk
 skip
 clear hkl
 obtain ⟨mcl, hmcl⟩ : ∃ mcl, mcl = [vS nm, Value.slice fa fl.length fc, Value.slice oa ol.length oc, Value.slice ma msgs.length mc, Value.slice ea el.length ec, Value.slice ra rl.length rc, Value.slice na nl.length nc] := ⟨_, rfl⟩
 rw [← hmcl]
 refine CT.loop (α := Nat × List Txt) (fun s => [(0, ptr br), (3, .int .i64 deep), (5, .pointer (some ⟨mb, 0, none⟩)), (8, vS full), (95, .slice ea el.length ec), (96, .int .i64 el.length), (97, .int .i64 s.1)])
  (fun s => Pu (s.1 ≤ el.length ∧ BL s.2 ∧ TT = enumsR full (el.drop s.1) s.2) :: rdr br bm :: giv bm s.2 :: Cs mb 72 mcl :: R) (fun s => el.length - s.1) (0, gk9)
  ⟨rfl, rfl, rfl, rfl, rfl, rfl, rfl, trivial⟩ (fun w h => Sat.pu_in ⟨Nat.zero_le _, hbk, hTk⟩ h) (fun ⟨k, gk9⟩ => CT.pu fun ⟨hkl, hbk, hTk⟩ => ?_)
 dsimp only at hkl hbk hTk ⊢
 subst hmcl
 try refine gR ?_
 first | (refine CT.region ?_) | (refine CT.quiet mixed (by kernel_rfl) ?_)
 repeat' (first|refine gL ?_|(refine gv ?_;(refine⟨fun hc=>?_,fun hc=>?_⟩<;>first|(exfalso;omega)|skip))|fail)
 ·have hk' : k < el.length := by omega
  have hgk := List.getElem?_eq_getElem hk'
  revert hgk
  generalize el[k] = e2
  intro hgk
  rw [drop_eq hgk, enumsR] at hTk
  have hme2 := List.mem_of_getElem? hgk
  refine RT.ix T (j := k * 5) rfl rfl rfl (rD (re)) (by omega) (by omega) (by omega) rfl rfl ?_
  refine RT.ldra T rfl (rD (re)) (l := e2.cells) (flat_sub (f := EnumT.cells) (z := 5) (fun _ => rfl) el k _ hgk) rfl rfl rfl rfl ?_
  repeat' (first|refine gM ?_|(refine gb ?_;intro b)|fail)
  (refine RT.callP T rfl fR_ (enum_fn (e := e2) (sc := full) (g := gk9) (EnumT.In.mono (fun _ _ _ _ _ h => (rD (h))) (re2 e2 hme2)) (oe e2 hme2) (hme e2 hme2) hbk hjb (by omega)) rfl rfl rfl (fun v H1 hp => ?_) (fun v H1 hp => ?_))
  ·obtain ⟨e, t, h5, rfl, rfl⟩ := hp
   ((repeat refine nx ?_); exact AtQ.finP (H' := []) ⟨e, t, by rw [hTk, h5]; try rfl, rfl, rfl⟩ dR_)
  obtain ⟨g3, h5, hb3, rfl⟩ := hp
  rw [h5, bnd_ok] at hTk
  simp only [List.cons_append, List.nil_append]
  clear h5
  repeat' (first|refine gL ?_|(refine gv ?_;refine gk ?_)|fail)
  exact AtQ.loop (k + 1, g3) ⟨rfl, rfl, rfl, rfl, rfl, rfl, rfl, trivial⟩ (fun w h => Sat.pu_in ⟨by omega, hb3, hTk⟩ (h.frd (Ps := [rdr br bm, giv bm g3, Cs mb 72 _]) (Qs := [_]) fR_)) (by dsimp only; omega)
 rw [List.drop_of_length_le (by omega), enumsR] at hTk
 exact AtQ.ofFinN (AtQ.fin0 Tryz.results92 (H' := [rdr br bm, giv bm gk9]) ⟨gk9, hTk, hbk, rfl⟩ (fun w h => h.frd (Ps := [rdr br bm, giv bm gk9]) (Qs := [_]) fR_) _ (.inl rfl))
end Go.Proofs.YtdemnhdoadjhhaaGreatDoor
end
section
namespace Go.Proofs.YtdemnhdoadjhhaaGreatDoor
open Go.Sk
set_option maxRecDepth 100000
theorem fullB_len {l : Txt} (h : fullB l = true) : l.length ≤ 255 := by
 by_cases hp : fullP l
 ·exact hp.1
 ·rw [fullB_f hp] at h
  cases h
attribute [local irreducible] Cs Own Ex Pu Yld RT LJ QJ AtQ CT Rd QSp Sp FinQ Then LoopQ CutQ DT TakeQ EffQ
variable {B : World} {R : List HP}
set_option maxHeartbeats 16000000 in
theorem file_fn {mM : Int} (hU : Lib.Utf8Tabs 1 2 B) (hM : B.cell? ⟨0, 0, none⟩ = some (.int .i64 mM)) {br bm : Nat} {f : FileT} (hin : f.In (Rd B R)) (hok : f.Ok) (hsm : FNs f) :
  SpP B Tryz.prog 36 [ptr br, .agg f.cells.toArray] R [rdr br bm, giv bm []] (PostR (fileR f) [rdr br bm] bm) (PPR (fileR f)) := by
 obtain ⟨path, pack, ⟨ia, ic, il⟩, ma, mc, msgs, ⟨ea, ec, el⟩⟩ := f
 obtain ⟨ri, rm, rm2, re, re2⟩ := hin
 obtain ⟨⟨pb, pl⟩, ⟨kb, _⟩, ⟨⟨li, _⟩, oi⟩, ⟨⟨lm, _⟩, om⟩, ⟨⟨le, _⟩, oe⟩⟩ := hok
 obtain ⟨nms, pk, enm⟩ := hsm
 dsimp only at ri rm rm2 re re2 pb pl kb li oi lm om le oe nms pk enm
 have hT : fileR ⟨path, pack, ⟨ia, ic, il⟩, ma, mc, msgs, ⟨ea, ec, el⟩⟩ = fileR ⟨path, pack, ⟨ia, ic, il⟩, ma, mc, msgs, ⟨ea, ec, el⟩⟩ := rfl
 conv at hT => rhs; unfold fileR
 dsimp only at hT
 generalize fileR ⟨path, pack, ⟨ia, ic, il⟩, ma, mc, msgs, ⟨ea, ec, el⟩⟩ = TT at *
 dsimp only [FileT.cells, Rw.v]
 refine SpP.body Tryz.func36 rfl Tryz.ntmps36 (by simp) ?_
 simp only [argE, List.cons_append, List.nil_append, Nat.zero_add, Nat.reduceAdd]
 try refine gR ?_
 first | (refine CT.region ?_) | (refine CT.quiet mixed (by kernel_rfl) ?_)
 repeat' (first|refine gR ?_|(refine gb ?_;intro b)|fail)
 revert b
 intro xb
 refine CT.tail 5 mixed (by kernel_rfl) ?_
 dsimp only [List.take_succ_cons, List.take_zero]
 try refine gL ?_
 (refine RT.qcall T rfl (QSp.of fR_ (path_fn (s := path) pb pl)) rfl rfl rfl ?_)
 try refine gL ?_
 refine AtQ.tail ?_
 cases hpb : pathB path
 ·(refine RT.callP T rfl fR_ (must_fn (p := false) (e := 60) (t := path)) rfl rfl rfl (fun v H1 hp => ?_) (fun v H1 hp => absurd hp.1 (by decide)); obtain ⟨_, rfl, rfl⟩ := hp; (repeat refine nx ?_); exact AtQ.finP (H' := []) ⟨60, path, by rw [hT]; exact must_f hpb, rfl, rfl⟩ dR_)
 rw [must_t hpb] at hT
 (refine RT.callP T rfl fR_ (must_fn (p := true) (e := 60) (t := path)) rfl rfl rfl (fun v H1 hp => absurd hp.1 (by decide)) (fun v H1 hp => ?_); obtain ⟨_, rfl⟩ := hp; try simp only [List.nil_append])
 try refine gR ?_
 have hcut : fullB pack = true ∨ pack = [] → pack.length ≤ 255 := fun h => h.elim fullB_len fun h => by rw [h]; decide
 refine CT.cut (α := Unit) (fun _ => [(0, ptr br), (3, .pointer (some ⟨xb, 0, none⟩))]) (fun _ => Pu ((decide (pack = []) || fullB pack) = true) :: Cs xb 26 [vS path, vS pack, .slice ia il.length ic, .slice ma msgs.length mc, .slice ea el.length ec] :: rdr br bm :: giv bm [] :: R) ?_ (fun _ => ?_)
 ·refine CT.tail 10 mixed (by kernel_rfl) ?_
  dsimp only [List.take_succ_cons, List.take_zero]
  try refine gL ?_
  refine RT.eqs (l := pack) (l' := []) rfl rfl kb Byt.nil rfl rfl (fun he => ?_) (fun he => ?_)
  ·try refine gL ?_
   refine AtQ.tail ?_
   (refine RT.callP T rfl fR_ (must_fn (p := true) (e := 60) (t := pack)) rfl rfl rfl (fun v H1 hp => absurd hp.1 (by decide)) (fun v H1 hp => ?_); obtain ⟨_, rfl⟩ := hp; try simp only [List.nil_append])
   try refine gL ?_
   exact AtQ.cut () ⟨rfl, rfl, trivial⟩ (fun w h => Sat.pu_in (by rw [decide_eq_true he]; rfl) h)
  ·try refine gL ?_
   (refine RT.qcall T rfl (QSp.of fR_ (full_fn (l := pack) hM kb (by omega))) rfl rfl rfl ?_)
   try refine gL ?_
   refine AtQ.tail ?_
   cases hfk : fullB pack
   ·(refine RT.callP T rfl fR_ (must_fn (p := false) (e := 60) (t := pack)) rfl rfl rfl (fun v H1 hp => ?_) (fun v H1 hp => absurd hp.1 (by decide)); obtain ⟨_, rfl, rfl⟩ := hp; (repeat refine nx ?_); exact AtQ.finP (H' := []) ⟨60, pack, by rw [hT]; exact must_f (by rw [hfk, decide_eq_false he]; rfl), rfl, rfl⟩ dR_)
   ·(refine RT.callP T rfl fR_ (must_fn (p := true) (e := 60) (t := pack)) rfl rfl rfl (fun v H1 hp => absurd hp.1 (by decide)) (fun v H1 hp => ?_); obtain ⟨_, rfl⟩ := hp; try simp only [List.nil_append])
    try refine gL ?_
    exact AtQ.cut () ⟨rfl, rfl, trivial⟩ (fun w h => Sat.pu_in (by simp) h)
 refine A0 ?_
 refine CT.pu fun hpk => ?_
 rw [must_t hpk] at hT
 have hkl : pack.length ≤ 255 := hcut (by rw [Bool.or_eq_true, decide_eq_true_eq] at hpk; exact hpk.symm)
 clear hcut hpk
 repeat' (first|refine gL ?_|(refine gv ?_;(refine⟨fun hc=>?_,fun hc=>?_⟩<;>first|(exfalso;omega)|skip))|fail)
 rotate_left
 ·(refine RT.callP T rfl fR_ (must_fn (p := false) (e := 68) (t := path)) rfl rfl rfl (fun v H1 hp => ?_) (fun v H1 hp => absurd hp.1 (by decide)); obtain ⟨_, rfl, rfl⟩ := hp; (repeat refine nx ?_); exact AtQ.finP (H' := []) ⟨68, path, by rw [hT]; exact must_f (decide_eq_false (by omega)), rfl, rfl⟩ dR_)
 rw [must_t (decide_eq_true (by omega))] at hT
 (refine RT.callP T rfl fR_ (must_fn (p := true) (e := 68) (t := path)) rfl rfl rfl (fun v H1 hp => absurd hp.1 (by decide)) (fun v H1 hp => ?_); obtain ⟨_, rfl⟩ := hp; try simp only [List.nil_append])
 try refine gL ?_
 refine RT.mkmap .string rfl rfl (fun sb => ?_)
 try refine gL ?_
 generalize hK : (bnd (msgsR msgs pack 0 []) fun g => enumsR pack el g) = K at hT
 refine CT.loop (α := Nat) (fun k => [(0, ptr br), (3, .pointer (some ⟨xb, 0, none⟩)), (4, .map (some sb)), (37, .slice ia il.length ic), (38, .int .i64 il.length), (39, .int .i64 k)])
  (fun k => Pu (k ≤ il.length ∧ TT = opt (impsF ((il.take k).map ImpT.path) (il.drop k)) K) :: giv sb ((il.take k).map ImpT.path) :: Cs xb 26 [vS path, vS pack, Value.slice ia il.length ic, Value.slice ma msgs.length mc, Value.slice ea el.length ec] :: rdr br bm :: giv bm [] :: R) (fun k => il.length - k) 0
  ⟨rfl, rfl, rfl, rfl, rfl, rfl, trivial⟩ (fun w h => Sat.pu_in ⟨Nat.zero_le _, hT⟩ h) (fun k => CT.pu fun ⟨hkl3, hTk⟩ => ?_)
 clear hT
 try refine gR ?_
 first | (refine CT.region ?_) | (refine CT.quiet mixed (by kernel_rfl) ?_)
 repeat' (first|refine gR ?_|(refine gv ?_;(refine⟨fun hc=>?_,fun hc=>?_⟩<;>first|(exfalso;omega)|skip))|fail)
 ·have hk' : k < il.length := by omega
  have hgk := List.getElem?_eq_getElem hk'
  revert hgk
  generalize il[k] = im
  intro hgk
  rw [drop_eq hgk, impsF] at hTk
  have hib := oi im (List.mem_of_getElem? hgk)
  have htk : (il.take (k + 1)).map ImpT.path = (il.take k).map ImpT.path ++ [im.path] := by rw [← take_eq hgk, List.map_append]; rfl
  have hpbl : BL ((il.take k).map ImpT.path) := fun t ht => by
   obtain ⟨i, hi, rfl⟩ := List.mem_map.1 ht
   exact (oi i (List.mem_of_mem_take hi)).1
  rw [← htk] at hTk
  generalize (il.take k).map ImpT.path = ah at *
  skip
  first | (refine CT.region ?_) | (refine CT.quiet mixed (by kernel_rfl) ?_)
  skip
  refine RT.ix T (j := k * 2) rfl rfl rfl (rD (ri)) (by omega) (by omega) (by omega) rfl rfl ?_
  refine RT.ldra T rfl (rD (ri)) (l := im.cells) (flat_sub (f := ImpT.cells) (z := 2) (fun _ => rfl) il k _ hgk) rfl rfl rfl rfl ?_
  repeat' (first|(refine gb ?_;intro b)|fail)
  (apply RT.staggW T;exact rfl;exact rfl;exact rfl;(focus ((repeat constructor);done));iterate 4 exact rfl)
  try refine gR ?_
  refine CT.tail 5 mixed (by kernel_rfl) ?_
  dsimp only [List.take_succ_cons, List.take_zero]
  try refine gL ?_
  (refine RT.qcall T rfl (QSp.of fR_ (path_fn (s := im.path) hib.1 hib.2)) rfl rfl rfl ?_)
  try refine gL ?_
  refine AtQ.tail ?_
  cases hpi : pathB im.path
  ·(refine RT.callP T rfl fR_ (must_fn (p := false) (e := 60) (t := im.path)) rfl rfl rfl (fun v H1 hp => ?_) (fun v H1 hp => absurd hp.1 (by decide)); obtain ⟨_, rfl, rfl⟩ := hp; (repeat refine nx ?_); exact AtQ.finP (H' := []) ⟨60, im.path, by rw [hTk, hpi, if_neg (by decide)]; rfl, rfl, rfl⟩ dR_)
  rw [hpi, if_pos rfl] at hTk
  (refine RT.callP T rfl fR_ (must_fn (p := true) (e := 60) (t := im.path)) rfl rfl rfl (fun v H1 hp => absurd hp.1 (by decide)) (fun v H1 hp => ?_); obtain ⟨_, rfl⟩ := hp; try simp only [List.nil_append])
  try refine gL ?_
  by_cases hm : im.path ∈ ah
  ·rw [if_pos hm] at hTk
   obtain ⟨i, hgi⟩ := gv_in hm
   refine RT.lookup (dk := .string) (r := some (.int .i64 1)) T rfl rfl sE_ trivial ⟨i, hgi⟩ Tryz.underlying102 Tryz.underlying9 rfl rfl rfl ?_
   dsimp only [Option.getD]
   repeat' (first|refine gL ?_|(refine gv ?_;refine gk ?_)|fail)
   refine RT.mapSet (dk := .string) (l := gvl ah) rfl rfl rfl (by ((repeat constructor);done)) trivial hgi Tryz.underlying102 Tryz.underlying9 rfl ?_
   try refine gL ?_
   refine RT.lookup (dk := .string) (r := some (.int .i64 2)) T rfl rfl sE_ trivial ⟨i, by rw [List.getElem?_set_self (List.getElem?_eq_some_iff.1 hgi).1]; rfl⟩ Tryz.underlying102 Tryz.underlying9 rfl rfl rfl ?_
   dsimp only [Option.getD]
   repeat' (first|refine gL ?_|(refine gv ?_;(refine⟨fun hc=>?_,fun hc=>?_⟩<;>first|(exfalso;omega)|skip))|fail)
   (refine RT.callP T rfl fR_ (must_fn (p := false) (e := 61) (t := im.path)) rfl rfl rfl (fun v H1 hp => ?_) (fun v H1 hp => absurd hp.1 (by decide)); obtain ⟨_, rfl, rfl⟩ := hp; (repeat refine nx ?_); exact AtQ.finP (H' := []) ⟨61, im.path, by rw [hTk]; rfl, rfl, rfl⟩ dR_)
  ·rw [if_neg hm] at hTk
   refine RT.lookup (dk := .string) (r := none) T rfl rfl sE_ trivial (gv_no hpbl hib.1 hm) Tryz.underlying102 Tryz.underlying9 rfl rfl rfl ?_
   dsimp only [Option.getD]
   repeat' (first|refine gL ?_|(refine gv ?_;refine gk ?_)|fail)
   refine RT.mapNew (dk := .string) (l := gvl ah) rfl rfl rfl (by ((repeat constructor);done)) trivial (gv_no hpbl hib.1 hm) Tryz.underlying102 Tryz.underlying9 rfl ?_
   rw [show (0 : Int) + 1 = 1 from rfl, gv_push, ← htk]
   obtain ⟨i, hgi⟩ := gv_in (g := (il.take (k + 1)).map ImpT.path) (x := im.path) (by rw [htk]; simp)
   try refine gL ?_
   refine RT.lookup (dk := .string) (r := some (.int .i64 1)) T rfl rfl sE_ trivial ⟨i, hgi⟩ Tryz.underlying102 Tryz.underlying9 rfl rfl rfl ?_
   dsimp only [Option.getD]
   repeat' (first|refine gL ?_|(refine gv ?_;(refine⟨fun hc=>?_,fun hc=>?_⟩<;>first|(exfalso;omega)|skip))|fail)
   (refine RT.callP T rfl fR_ (must_fn (p := true) (e := 61) (t := im.path)) rfl rfl rfl (fun v H1 hp => absurd hp.1 (by decide)) (fun v H1 hp => ?_); obtain ⟨_, rfl⟩ := hp; try simp only [List.nil_append])
   repeat' (first|refine gL ?_|(refine gv ?_;refine gk ?_)|fail)
   exact AtQ.loop (k + 1) ⟨rfl, rfl, rfl, rfl, rfl, rfl, trivial⟩ (fun w h => Sat.pu_in ⟨by omega, hTk⟩ (h.frd (Ps := [giv sb ((il.take (k + 1)).map ImpT.path), Cs xb 26 _, rdr br bm, giv bm []]) (Qs := [_]) fR_)) (by omega)
 rw [List.drop_of_length_le (by omega), impsF, opt_none] at hTk
 subst hK
 try refine gL ?_
 refine CT.loop (α := Nat × List Txt) (fun s => [(0, ptr br), (3, .pointer (some ⟨xb, 0, none⟩)), (64, .slice ma msgs.length mc), (65, .int .i64 msgs.length), (66, .int .i64 s.1)])
  (fun s => Pu (s.1 ≤ msgs.length ∧ BL s.2 ∧ TT = bnd (msgsR (msgs.drop s.1) pack 0 s.2) fun g => enumsR pack el g) :: rdr br bm :: giv bm s.2 :: Cs xb 26 [vS path, vS pack, Value.slice ia il.length ic, Value.slice ma msgs.length mc, Value.slice ea el.length ec] :: R) (fun s => msgs.length - s.1) (0, [])
  ⟨rfl, rfl, rfl, rfl, rfl, trivial⟩ (fun w h => Sat.pu_in ⟨Nat.zero_le _, (fun y hy => by cases hy), hTk⟩ (h.frd (Ps := [rdr br bm, giv bm [], Cs xb 26 _]) (Qs := [_]) fR_)) (fun ⟨k, gk9⟩ => CT.pu fun ⟨hkl2, hbk, hTk⟩ => ?_)
 dsimp only at hkl2 hbk hTk ⊢
 try refine gR ?_
 first | (refine CT.region ?_) | (refine CT.quiet mixed (by kernel_rfl) ?_)
 repeat' (first|refine gL ?_|(refine gv ?_;(refine⟨fun hc=>?_,fun hc=>?_⟩<;>first|(exfalso;omega)|skip))|fail)
 ·have hk' : k < msgs.length := by omega
  have hgk := List.getElem?_eq_getElem hk'
  revert hgk
  generalize msgs[k] = m2
  intro hgk
  rw [drop_eq hgk, msgsR] at hTk
  have hme2 := List.mem_of_getElem? hgk
  refine RT.ix T (j := k * 7) rfl rfl rfl (rD (rm)) (by omega) (by omega) (by omega) rfl rfl ?_
  refine RT.ldra T rfl (rD (rm)) (l := m2.cells) (flat_sub (f := MsgT.cells) (z := 7) (fun _ => rfl) msgs k _ hgk) rfl rfl rfl rfl ?_
  repeat' (first|refine gM ?_|(refine gb ?_;intro b)|fail)
  (refine RT.callP T rfl fR_ (@message_fn _ _ hU hM br bm m2.deep _ m2 pack 0 gk9 (Nat.le_refl _) (MsgT.In.mono (fun _ _ _ _ _ h => (rD (h))) (rm2 m2 hme2)) (om m2 hme2) (MsgT.nmL_mem nms hme2) hbk kb (by omega) (by omega)) rfl rfl rfl (fun v H1 hp => ?_) (fun v H1 hp => ?_))
  ·obtain ⟨e, t, h5, rfl, rfl⟩ := hp
   ((repeat refine nx ?_); exact AtQ.finP (H' := []) ⟨e, t, by rw [hTk, h5]; try rfl, rfl, rfl⟩ dR_)
  obtain ⟨g3, h5, hb3, rfl⟩ := hp
  rw [h5, bnd_ok] at hTk
  simp only [List.cons_append, List.nil_append]
  clear h5
  repeat' (first|refine gL ?_|(refine gv ?_;refine gk ?_)|fail)
  exact AtQ.loop (k + 1, g3) ⟨rfl, rfl, rfl, rfl, rfl, trivial⟩ (fun w h => Sat.pu_in ⟨by omega, hb3, hTk⟩ (h.frd (Ps := [rdr br bm, giv bm g3, Cs xb 26 _]) (Qs := [_]) fR_)) (by dsimp only; omega)
 rw [List.drop_of_length_le (by omega), msgsR] at hTk
 rw [bnd_ok] at hTk
 skip
 refine CT.loop (α := Nat × List Txt) (fun s => [(0, ptr br), (3, .pointer (some ⟨xb, 0, none⟩)), (77, .slice ea el.length ec), (78, .int .i64 el.length), (79, .int .i64 s.1)])
  (fun s => Pu (s.1 ≤ el.length ∧ BL s.2 ∧ TT = enumsR pack (el.drop s.1) s.2) :: rdr br bm :: giv bm s.2 :: Cs xb 26 [vS path, vS pack, Value.slice ia il.length ic, Value.slice ma msgs.length mc, Value.slice ea el.length ec] :: R) (fun s => el.length - s.1) (0, gk9)
  ⟨rfl, rfl, rfl, rfl, rfl, trivial⟩ (fun w h => Sat.pu_in ⟨Nat.zero_le _, hbk, hTk⟩ (h.frd (Ps := [rdr br bm, giv bm gk9, Cs xb 26 _]) (Qs := []) fR_)) (fun ⟨k, gk9⟩ => CT.pu fun ⟨hkl2, hbk, hTk⟩ => ?_)
 dsimp only at hkl2 hbk hTk ⊢
 try refine gR ?_
 first | (refine CT.region ?_) | (refine CT.quiet mixed (by kernel_rfl) ?_)
 repeat' (first|refine gL ?_|(refine gv ?_;(refine⟨fun hc=>?_,fun hc=>?_⟩<;>first|(exfalso;omega)|skip))|fail)
 ·have hk' : k < el.length := by omega
  have hgk := List.getElem?_eq_getElem hk'
  revert hgk
  generalize el[k] = e2
  intro hgk
  rw [drop_eq hgk, enumsR] at hTk
  have hme2 := List.mem_of_getElem? hgk
  refine RT.ix T (j := k * 5) rfl rfl rfl (rD (re)) (by omega) (by omega) (by omega) rfl rfl ?_
  refine RT.ldra T rfl (rD (re)) (l := e2.cells) (flat_sub (f := EnumT.cells) (z := 5) (fun _ => rfl) el k _ hgk) rfl rfl rfl rfl ?_
  repeat' (first|refine gM ?_|(refine gb ?_;intro b)|fail)
  (refine RT.callP T rfl fR_ (enum_fn (e := e2) (sc := pack) (g := gk9) (EnumT.In.mono (fun _ _ _ _ _ h => (rD (h))) (re2 e2 hme2)) (oe e2 hme2) (enm e2 hme2) hbk kb (by omega)) rfl rfl rfl (fun v H1 hp => ?_) (fun v H1 hp => ?_))
  ·obtain ⟨e, t, h5, rfl, rfl⟩ := hp
   ((repeat refine nx ?_); exact AtQ.finP (H' := []) ⟨e, t, by rw [hTk, h5]; try rfl, rfl, rfl⟩ dR_)
  obtain ⟨g3, h5, hb3, rfl⟩ := hp
  rw [h5, bnd_ok] at hTk
  simp only [List.cons_append, List.nil_append]
  clear h5
  repeat' (first|refine gL ?_|(refine gv ?_;refine gk ?_)|fail)
  exact AtQ.loop (k + 1, g3) ⟨rfl, rfl, rfl, rfl, rfl, trivial⟩ (fun w h => Sat.pu_in ⟨by omega, hb3, hTk⟩ (h.frd (Ps := [rdr br bm, giv bm g3, Cs xb 26 _]) (Qs := [_]) fR_)) (by dsimp only; omega)
 rw [List.drop_of_length_le (by omega), enumsR] at hTk
 exact AtQ.ofFinN (AtQ.fin0 Tryz.results36 (H' := [rdr br bm, giv bm gk9]) ⟨gk9, hTk, hbk, rfl⟩ (fun w h => h.frd (Ps := [rdr br bm, giv bm gk9]) (Qs := [_]) fR_) _ (.inl rfl))
end Go.Proofs.YtdemnhdoadjhhaaGreatDoor
end
section
namespace Go.Proofs.YtdemnhdoadjhhaaGreatDoor
open Go.Sk
set_option maxRecDepth 100000
attribute [local irreducible] Cs Own Ex Pu Yld RT LJ QJ AtQ CT Rd QSp Sp FinQ Then LoopQ CutQ DT TakeQ EffQ
attribute [local irreducible] FinD SpD RecQ
variable {B : World} {R : List HP}
theorem chk1_ret {cb : Nat} {l : List Value} : SpD B Tryz.prog 35 [ptr cb] .returning .returning R [Cs cb 33 l] [Cs cb 33 l] := by
 refine SpD.body Tryz.func35 rfl Tryz.results35 Tryz.ntmps35 (by simp) (by decide) (.inl ⟨rfl, rfl, rfl⟩) ?_
 simp only [argE, List.cons_append, List.nil_append, Nat.zero_add, Nat.reduceAdd]
 try refine gL ?_
 refine RT.inil rfl ⟨_, Tryz.underlying20⟩ (.inl ⟨rfl, rfl⟩) rfl rfl ?_
 try refine gL ?_
 exact AtQ.rec_ (.inl rfl) (fun w h => h)
theorem chk1_pan {cb : Nat} {e : Int} {t : Txt} : SpD B Tryz.prog 35 [ptr cb] (.panicking (pan (wv e t))) (.panicking [{ v := wv e t, recovered := true }]) R [Cs cb 33 [.int .i64 0, .string ByteArray.empty]] [Cs cb 33 [.int .i64 e, vS t]] := by
 refine SpD.body Tryz.func35 rfl Tryz.results35 Tryz.ntmps35 (by simp) (by decide) (.inr ⟨_, rfl, rfl, rfl⟩) ?_
 simp only [argE, List.cons_append, List.nil_append, Nat.zero_add, Nat.reduceAdd]
 try refine gL ?_
 refine RT.inil rfl ⟨_, Tryz.underlying20⟩ (.inr ⟨_, _, rfl, rfl⟩) rfl rfl ?_
 try refine gL ?_
 refine RT.tassert rfl Tryz.underlying100 (by intro b h; cases h) rfl rfl ?_
 repeat' (first|refine gM ?_|(refine gb ?_;intro b)|fail)
 exact AtQ.rec_ (.inl rfl) (fun w h => h.frd (Ps := [Cs cb 33 _]) (Qs := [_]) fR_)
theorem checkL_ok {f : FileT} {g : List Txt} (h : fileR f = .ok g) : checkL f = (0, []) := by
 unfold checkL
 rw [h]
theorem checkL_err {f : FileT} {e : Int} {t : Txt} (h : fileR f = .error (e, t)) : checkL f = (e, t) := by
 unfold checkL
 rw [h]
set_option maxHeartbeats 1000000 in
theorem checkC_fn {mM : Int} (hU : Lib.Utf8Tabs 1 2 B) (hM : B.cell? ⟨0, 0, none⟩ = some (.int .i64 mM)) {f : FileT} (hin : f.In (Rd B R)) (hok : f.Ok) (hsm : FNs f) :
  Sp B Tryz.prog 11 [.agg f.cells.toArray] R [] (fun v H' => v = .agg #[.int .i64 (checkL f).1, vS (checkL f).2] ∧ H' = []) := by
 refine Sp.bodyD Tryz.func11 rfl Tryz.ntmps11 (by simp) ?_
 simp only [argE, List.cons_append, List.nil_append, Nat.zero_add, Nat.reduceAdd]
 try refine gR ?_
 first | (refine CT.region ?_) | (refine CT.quiet mixed (by kernel_rfl) ?_)
 repeat' (first|refine gR ?_|(refine gb ?_;intro b)|fail)
 rename_i xb
 revert b
 intro cb
 first | (refine CT.region ?_) | (refine CT.quiet mixed (by kernel_rfl) ?_)
 skip
 refine RT.mkF rfl rfl rfl ?_
 refine RT.defer (caps := [ptr cb]) rfl rfl rfl ?_
 try refine gL ?_
 refine RT.mkmap .string rfl rfl (fun bm => ?_)
 repeat' (first|refine gL ?_|(refine gb ?_;intro b)|fail)
 revert b
 intro br
 try refine gM ?_
 (refine RT.callP T rfl fR_ (file_fn (br := br) (bm := bm) (f := f) hU hM (FileT.In.mono (fun _ _ _ _ _ h => (rD (h))) hin) hok hsm) rfl rfl rfl (fun v H1 hp => ?_) (fun v H1 hp => ?_))
 ·obtain ⟨e, t, h1, rfl, rfl⟩ := hp
  (repeat refine nx ?_)
  exact AtQ.finDp (n := 12) (R2 := Cs xb 26 f.cells :: R) (fun args w => run_call (T := T) rfl) chk1_pan fR_ (res_agg T Tryz.results11 rfl rfl rfl .h) ⟨by rw [checkL_err h1], rfl⟩ (fun w h => h.tail.tail)
 obtain ⟨g1, h1, hb1, rfl⟩ := hp
 simp only [List.cons_append, List.nil_append]
 try refine gL ?_
 try refine gM ?_
 exact AtQ.finD (n := 12) (Hf := []) (R2 := rdr br bm :: giv bm g1 :: Cs xb 26 f.cells :: R) (fun args w => run_call (T := T) rfl) chk1_ret fR_ (res_agg T Tryz.results11 rfl rfl rfl .h) ⟨by rw [checkL_ok h1]; rfl, rfl⟩ (fun w h => h.tail.tail.tail.tail) (.inr rfl)
end Go.Proofs.YtdemnhdoadjhhaaGreatDoor
end
section
namespace Go.Proofs.YtdemnhdoadjhhaaGreatDoor
open Go.Sk
set_option maxRecDepth 100000
theorem sum_snoc {α : Type} {f : α → Nat} {l : List α} {i : Nat} {x : α} (h : l[i]? = some x) : ((l.take i).map f).sum + f x ≤ (l.map f).sum := by
 have h2 : l = l.take i ++ x :: l.drop (i + 1) := by
  obtain ⟨hi, rfl⟩ := List.getElem?_eq_some_iff.1 h
  rw [← List.drop_eq_getElem_cons hi, List.take_append_drop]
 have h3 := congrArg (fun l => (l.map f).sum) h2
 simp only [List.map_append, List.map_cons, List.sum_append, List.sum_cons] at h3
 omega
theorem symMs_app (fl sc : Txt) : ∀ a b : List MsgT, symMs fl (a ++ b) sc = symMs fl a sc ++ symMs fl b sc
 | [], b => by rw [List.nil_append, show symMs fl [] sc = [] by rw [symMs], List.nil_append]
 | m :: a, b => by rw [List.cons_append, symMs, symMs, symMs_app fl sc a b, List.append_assoc]
theorem symMs_snoc {fl sc : Txt} {l : List MsgT} {x : MsgT} {i : Nat} (h : l[i]? = some x) : symMs fl (l.take i) sc ++ symM fl x sc = symMs fl (l.take (i + 1)) sc := by
 rw [List.take_add_one, h, symMs_app]
 congr 1
 show _ = symMs fl [x] sc
 rw [symMs, symMs, List.append_nil]
theorem flat_snoc {α β : Type} {f : α → List β} {l : List α} {x : α} {i : Nat} (h : l[i]? = some x) : (l.take i).flatMap f ++ f x = (l.take (i + 1)).flatMap f := by rw [List.take_add_one, h]; simp
theorem j2_len' {x y : Txt} : (joinL [x, y]).length ≤ x.length + y.length + 1 := by
 rw [J_def]
 split
 ·omega
 ·split
  ·omega
  ·rw [List.length_append, List.length_cons]; omega
theorem symM_eq (fl nm : Txt) (fields : Rw FieldT) (oneofs : Rw Txt) (ma : Option Addr) (mc : Nat) (msgs : List MsgT) (enums : Rw EnumT) (res : Rw SpanT) (names : Rw Txt) (sc full : Txt) (hf : full = joinL [sc, nm]) (l : List SymT) :
  l ++ symM fl (.mk nm fields oneofs ma mc msgs enums res names) sc = l ++ [⟨full, 1, fl⟩] ++ fields.l.map (fun f => ⟨joinL [full, f.nm], 4, fl⟩) ++ oneofs.l.map (fun o => ⟨joinL [full, o], 5, fl⟩) ++ symMs fl msgs full ++ enums.l.flatMap (symE fl full) := by
 subst hf
 unfold symM
 simp only [List.append_assoc, List.cons_append, List.nil_append]
attribute [local irreducible] Cs Own Ex Pu Yld RT LJ QJ AtQ CT Rd QSp Sp FinQ Then LoopQ CutQ DT TakeQ EffQ
variable {B : World}
set_option maxHeartbeats 8000000 in
theorem smsg_fn (d : Nat) : ∀ {R : List HP} {xb : Nat} {fl : Txt} {a : Option Addr} {c : Nat} {l : List SymT} {m : MsgT} {sc : Txt} {ah : Int}, m.deep ≤ d → m.In (Rd B R) → m.Ok → m.Nm → m.Ful ah → Byt sc → (sc.length : Int) ≤ ah → l.length + cntM m ≤ 1073741824 →
  Sp B Tryz.prog 54 [ptr xb, .agg m.cells.toArray, vS sc] R (lst xb fl a c l) (fun v H' => v = .tuple #[] ∧ ∃ a' c', H' = lst xb fl a' c' (l ++ symM fl m sc)) := by
 induction d using Nat.strongRecOn with
 | _ d ih =>
 intro R xb fl a c l m sc ah hd hin hok hnm hful hs hsa hl
 obtain ⟨nm, ⟨fa, fc, fs⟩, ⟨oa, oc, os⟩, ma, mc, msgs, ⟨ea, ec, es⟩, ⟨ra, rc, rs⟩, ⟨na, nc, ns⟩⟩ := m
 unfold MsgT.In at hin
 unfold MsgT.Ok at hok
 unfold MsgT.Nm at hnm
 unfold MsgT.deep at hd
 unfold MsgT.Ful at hful
 unfold cntM at hl
 obtain ⟨rf, ro, rm, re, re2, _, _, rm2⟩ := hin
 obtain ⟨⟨ho1, _⟩, ⟨⟨lf, _⟩, of_⟩, ⟨⟨lo, _⟩, oo⟩, ⟨lm, _⟩, ⟨⟨le, _⟩, oe⟩, _, _, om⟩ := hok
 obtain ⟨hm1, hmf, hmo, _, hme, hmm⟩ := hnm
 obtain ⟨hf1, hf2⟩ := hful
 dsimp only at rf ro rm re re2 lf of_ lo oo lm le oe hmf hmo hme hl
 dsimp only [MsgT.cells, Rw.v, MsgT.nm, MsgT.fields, MsgT.oneofs, MsgT.ma, MsgT.mc, MsgT.msgs, MsgT.enums, MsgT.res, MsgT.names]
 refine Sp.body Tryz.func54 rfl Tryz.ntmps54 (by simp) ?_
 simp only [argE, List.cons_append, List.nil_append, Nat.zero_add, Nat.reduceAdd]
 repeat' (first|refine gL ?_|(refine gb ?_;intro b)|fail)
 revert b
 intro mb
 (refine RT.bs T (l := strs [sc,  nm]) rfl rfl rfl rfl rfl rfl rfl (fun a9 c9 h9 => ?_); (refine RT.call T rfl fR_ (rjoin_fn (ls := [sc,  nm]) (Own.rd (by ((repeat constructor);done)) rfl h9) rfl (b2  hs  ho1) ( s2l (by omega) hm1)) rfl rfl rfl ?_; rintro _ _ ⟨rfl, rfl⟩; try simp only [List.cons_append, List.nil_append]); refine RT.weak (fun w h => h.tail) ?_)
 try refine gL ?_
 have hjl := @j2_len' sc nm
 have hjb := j2_byt hs ho1
 have hsy := symM_eq fl nm ⟨fa, fc, fs⟩ ⟨oa, oc, os⟩ ma mc msgs ⟨ea, ec, es⟩ ⟨ra, rc, rs⟩ ⟨na, nc, ns⟩ sc _ rfl l
 rw [hsy]
 clear hsy
 dsimp only
 generalize joinL [sc, nm] = full at *
 have hfl : full.length ≤ 16777216 := by omega
 refine RT.call T rfl fR_ (put_fn (b := xb) (fl := fl) (s := full) (k := 1) (a := a) (c := c) (l := l) (by omega)) rfl rfl rfl ?_
 rintro _ _ ⟨rfl, a1, c1, rfl⟩
 simp only [List.cons_append, List.nil_append]
 try refine gL ?_
 obtain ⟨mcl, hmcl⟩ : ∃ mcl, mcl = [vS nm, Value.slice fa fs.length fc, Value.slice oa os.length oc, Value.slice ma msgs.length mc, Value.slice ea es.length ec, Value.slice ra rs.length rc, Value.slice na ns.length nc] := ⟨_, rfl⟩
 rw [← hmcl]
 generalize hL1 : l ++ [⟨full, 1, fl⟩] = L1
 have hl1 : L1.length = l.length + 1 := by rw [← hL1]; simp
 refine CT.loop (α := Nat × Option Addr × Nat) (fun s => [(0, ptr xb), (4, .pointer (some ⟨mb, 0, none⟩)), (6, vS full), (7, .int .i64 s.1)])
  (fun s => Pu (s.1 ≤ fs.length) :: (lst xb fl s.2.1 s.2.2 (L1 ++ (fs.take s.1).map (fun f => ⟨joinL [full, f.nm], 4, fl⟩)) ++ Cs mb 72 mcl :: R)) (fun s => fs.length - s.1) (0, a1, c1)
  ⟨rfl, rfl, rfl, rfl, trivial⟩ (fun w h => Sat.pu_in (Nat.zero_le _) (by dsimp only; rw [List.take_zero, List.map_nil, List.append_nil]; exact h)) (fun ⟨i, a2, c2⟩ => CT.pu fun hil => ?_)
 dsimp only at hil ⊢
 subst hmcl
 simp only [List.cons_append, List.nil_append]
 repeat' (first|refine gL ?_|(refine gv ?_;(refine⟨fun hc=>?_,fun hc=>?_⟩<;>first|(exfalso;omega)|skip))|fail)
 ·have hi' : i < fs.length := by omega
  have hgi := List.getElem?_eq_getElem hi'
  revert hgi
  generalize fs[i] = f2
  intro hgi
  have hme2 := List.mem_of_getElem? hgi
  have hvb := (of_ f2 hme2).1.1
  have hvs := (hmf f2 hme2).1
  refine RT.ix T (j := i * 9) rfl rfl rfl (rD (rf)) (by omega) (by omega) (by omega) rfl rfl ?_
  refine RT.faA T rfl rfl rfl rfl ?_
  refine RT.ldr (u := vS f2.nm) T rfl (rD (rf)) (by rw [flat_get (f := FieldT.cells) (z := 9) (fun _ => rfl) hgi (by decide)]; rfl) rfl rfl rfl ?_
  (refine RT.bs T (l := strs [full,  f2.nm]) rfl rfl rfl rfl rfl rfl rfl (fun a9 c9 h9 => ?_); (refine RT.call T rfl fR_ (rjoin_fn (ls := [full,  f2.nm]) (Own.rd (by ((repeat constructor);done)) rfl h9) rfl (b2  hjb  hvb) ( s2l hfl hvs)) rfl rfl rfl ?_; rintro _ _ ⟨rfl, rfl⟩; try simp only [List.cons_append, List.nil_append]); refine RT.weak (fun w h => h.tail) ?_)
  try refine gL ?_
  refine RT.call T rfl fR_ (put_fn (b := xb) (fl := fl) (s := joinL [full, f2.nm]) (k := 4) (by simp; omega)) rfl rfl rfl ?_
  rintro _ _ ⟨rfl, a3, c3, rfl⟩
  simp only [List.cons_append, List.nil_append]
  repeat' (first|refine gL ?_|(refine gv ?_;refine gk ?_)|fail)
  refine AtQ.loop (i + 1, a3, c3) ⟨rfl, rfl, rfl, rfl, trivial⟩ (fun w h => Sat.pu_in (by dsimp only; omega) ?_) (by dsimp only; omega)
  dsimp only
  rw [← map_snoc hgi, ← List.append_assoc]
  exact h
 rw [List.take_of_length_le (by omega)]
 clear hil rf
 generalize hL2 : L1 ++ List.map (fun f : FieldT => (⟨joinL [full, f.nm], 4, fl⟩ : SymT)) fs = L2
 have hl2 : L2.length = l.length + 1 + fs.length := by rw [← hL2]; simp; omega
 obtain ⟨mcl, hmcl⟩ : ∃ mcl, mcl = [vS nm, Value.slice fa fs.length fc, Value.slice oa os.length oc, Value.slice ma msgs.length mc, Value.slice ea es.length ec, Value.slice ra rs.length rc, Value.slice na ns.length nc] := ⟨_, rfl⟩
 rw [← hmcl]
 refine CT.loop (α := Nat × Option Addr × Nat) (fun s => [(0, ptr xb), (4, .pointer (some ⟨mb, 0, none⟩)), (6, vS full), (9, .int .i64 s.1)])
  (fun s => Pu (s.1 ≤ os.length) :: (lst xb fl s.2.1 s.2.2 (L2 ++ (os.take s.1).map (fun o => ⟨joinL [full, o], 5, fl⟩)) ++ Cs mb 72 mcl :: R)) (fun s => os.length - s.1) (0, a2, c2)
  ⟨rfl, rfl, rfl, rfl, trivial⟩ (fun w h => Sat.pu_in (Nat.zero_le _) (by dsimp only; rw [List.take_zero, List.map_nil, List.append_nil]; exact h)) (fun ⟨i, a2, c2⟩ => CT.pu fun hil => ?_)
 dsimp only at hil ⊢
 subst hmcl
 simp only [List.cons_append, List.nil_append]
 repeat' (first|refine gL ?_|(refine gv ?_;(refine⟨fun hc=>?_,fun hc=>?_⟩<;>first|(exfalso;omega)|skip))|fail)
 ·have hi' : i < os.length := by omega
  have hgi := List.getElem?_eq_getElem hi'
  revert hgi
  generalize os[i] = o2
  intro hgi
  have hme2 := List.mem_of_getElem? hgi
  have hvb := (oo o2 hme2).1
  have hvs := hmo o2 hme2
  refine RT.ix T (j := i) rfl rfl rfl (rD (ro)) (by omega) (by omega) (by omega) rfl rfl ?_
  refine RT.ldr T rfl (rD (ro)) (by rw [List.getElem?_map, hgi]; rfl) rfl rfl rfl ?_
  (refine RT.bs T (l := strs [full,  o2]) rfl rfl rfl rfl rfl rfl rfl (fun a9 c9 h9 => ?_); (refine RT.call T rfl fR_ (rjoin_fn (ls := [full,  o2]) (Own.rd (by ((repeat constructor);done)) rfl h9) rfl (b2  hjb  hvb) ( s2l hfl hvs)) rfl rfl rfl ?_; rintro _ _ ⟨rfl, rfl⟩; try simp only [List.cons_append, List.nil_append]); refine RT.weak (fun w h => h.tail) ?_)
  try refine gL ?_
  refine RT.call T rfl fR_ (put_fn (b := xb) (fl := fl) (s := joinL [full, o2]) (k := 5) (by simp; omega)) rfl rfl rfl ?_
  rintro _ _ ⟨rfl, a3, c3, rfl⟩
  simp only [List.cons_append, List.nil_append]
  repeat' (first|refine gL ?_|(refine gv ?_;refine gk ?_)|fail)
  refine AtQ.loop (i + 1, a3, c3) ⟨rfl, rfl, rfl, rfl, trivial⟩ (fun w h => Sat.pu_in (by dsimp only; omega) ?_) (by dsimp only; omega)
  dsimp only
  rw [← map_snoc hgi, ← List.append_assoc]
  exact h
 rw [List.take_of_length_le (by omega)]
 clear hil ro
 generalize hL3 : L2 ++ List.map (fun o : Txt => (⟨joinL [full, o], 5, fl⟩ : SymT)) os = L3
 have hl3 : L3.length = l.length + 1 + fs.length + os.length := by rw [← hL3]; simp; omega
 obtain ⟨mcl, hmcl⟩ : ∃ mcl, mcl = [vS nm, Value.slice fa fs.length fc, Value.slice oa os.length oc, Value.slice ma msgs.length mc, Value.slice ea es.length ec, Value.slice ra rs.length rc, Value.slice na ns.length nc] := ⟨_, rfl⟩
 rw [← hmcl]
 refine CT.loop (α := Nat × Option Addr × Nat) (fun s => [(0, ptr xb), (4, .pointer (some ⟨mb, 0, none⟩)), (6, vS full), (11, .int .i64 s.1)])
  (fun s => Pu (s.1 ≤ msgs.length) :: (lst xb fl s.2.1 s.2.2 (L3 ++ symMs fl (msgs.take s.1) full) ++ Cs mb 72 mcl :: R)) (fun s => msgs.length - s.1) (0, a2, c2)
  ⟨rfl, rfl, rfl, rfl, trivial⟩ (fun w h => Sat.pu_in (Nat.zero_le _) (by dsimp only; rw [List.take_zero, symMs, List.append_nil]; exact h)) (fun ⟨i, a2, c2⟩ => CT.pu fun hil => ?_)
 dsimp only at hil ⊢
 subst hmcl
 simp only [List.cons_append, List.nil_append]
 repeat' (first|refine gL ?_|(refine gv ?_;(refine⟨fun hc=>?_,fun hc=>?_⟩<;>first|(exfalso;omega)|skip))|fail)
 ·have hi' : i < msgs.length := by omega
  have hgi := List.getElem?_eq_getElem hi'
  revert hgi
  generalize msgs[i] = m2
  intro hgi
  have hme2 := List.mem_of_getElem? hgi
  have hmd := MsgT.deep_mem hme2
  have hcn := sum_snoc (f := cntM) hgi
  rw [← cntMs_eq, ← cntMs_eq] at hcn
  refine RT.ix T (j := i * 7) rfl rfl rfl (rD (rm)) (by omega) (by omega) (by omega) rfl rfl ?_
  refine RT.ldra T rfl (rD (rm)) (l := m2.cells) (flat_sub (f := MsgT.cells) (z := 7) (fun _ => rfl) msgs i _ hgi) rfl rfl rfl rfl ?_
  try refine gM ?_
  refine RT.call T rfl fR_ (@ih m2.deep (by omega) _ xb fl a2 c2 (L3 ++ symMs fl (msgs.take i) full) m2 full _ (Nat.le_refl _) (MsgT.In.mono (fun _ _ _ _ _ h => (rD (h))) (MsgT.inL_mem rm2 hme2)) (MsgT.okL_mem om hme2) (MsgT.nmL_mem hmm hme2) (MsgT.fulL_mem hf2 hme2) hjb (by omega) (by rw [List.length_append, symMs_len]; omega)) rfl rfl rfl ?_
  rintro _ _ ⟨rfl, a3, c3, rfl⟩
  simp only [List.cons_append, List.nil_append]
  repeat' (first|refine gL ?_|(refine gv ?_;refine gk ?_)|fail)
  refine AtQ.loop (i + 1, a3, c3) ⟨rfl, rfl, rfl, rfl, trivial⟩ (fun w h => Sat.pu_in (by dsimp only; omega) ?_) (by dsimp only; omega)
  dsimp only
  rw [← symMs_snoc hgi, ← List.append_assoc]
  exact h
 rw [List.take_of_length_le (by omega)]
 clear hil rm
 generalize hL4 : L3 ++ symMs fl msgs full = L4
 have hl4 : L4.length = l.length + 1 + fs.length + os.length + cntMs msgs := by rw [← hL4, List.length_append, symMs_len]; omega
 obtain ⟨mcl, hmcl⟩ : ∃ mcl, mcl = [vS nm, Value.slice fa fs.length fc, Value.slice oa os.length oc, Value.slice ma msgs.length mc, Value.slice ea es.length ec, Value.slice ra rs.length rc, Value.slice na ns.length nc] := ⟨_, rfl⟩
 rw [← hmcl]
 refine CT.loop (α := Nat × Option Addr × Nat) (fun s => [(0, ptr xb), (4, .pointer (some ⟨mb, 0, none⟩)), (6, vS full), (12, .int .i64 s.1)])
  (fun s => Pu (s.1 ≤ es.length) :: (lst xb fl s.2.1 s.2.2 (L4 ++ (es.take s.1).flatMap (symE fl full)) ++ Cs mb 72 mcl :: R)) (fun s => es.length - s.1) (0, a2, c2)
  ⟨rfl, rfl, rfl, rfl, trivial⟩ (fun w h => Sat.pu_in (Nat.zero_le _) (by dsimp only; rw [List.take_zero, List.flatMap_nil, List.append_nil]; exact h)) (fun ⟨i, a2, c2⟩ => CT.pu fun hil => ?_)
 dsimp only at hil ⊢
 subst hmcl
 simp only [List.cons_append, List.nil_append]
 repeat' (first|refine gL ?_|(refine gv ?_;(refine⟨fun hc=>?_,fun hc=>?_⟩<;>first|(exfalso;omega)|skip))|fail)
 ·have hi' : i < es.length := by omega
  have hgi := List.getElem?_eq_getElem hi'
  revert hgi
  generalize es[i] = e2
  intro hgi
  have hme2 := List.mem_of_getElem? hgi
  have hcn := sum_snoc (f := cntE) hgi
  refine RT.ix T (j := i * 5) rfl rfl rfl (rD (re)) (by omega) (by omega) (by omega) rfl rfl ?_
  refine RT.ldra T rfl (rD (re)) (l := e2.cells) (flat_sub (f := EnumT.cells) (z := 5) (fun _ => rfl) es i _ hgi) rfl rfl rfl rfl ?_
  try refine gM ?_
  refine RT.call T rfl fR_ (senum_fn (xb := xb) (fl := fl) (a := a2) (c := c2) (l := L4 ++ (es.take i).flatMap (symE fl full)) (e := e2) (sc := full) (EnumT.In.mono (fun _ _ _ _ _ h => (rD (h))) (re2 e2 hme2)) (oe e2 hme2) (hme e2 hme2) hjb hfl (by rw [List.length_append, symEs_len]; omega)) rfl rfl rfl ?_
  rintro _ _ ⟨rfl, a3, c3, rfl⟩
  simp only [List.cons_append, List.nil_append]
  repeat' (first|refine gL ?_|(refine gv ?_;refine gk ?_)|fail)
  refine AtQ.loop (i + 1, a3, c3) ⟨rfl, rfl, rfl, rfl, trivial⟩ (fun w h => Sat.pu_in (by dsimp only; omega) ?_) (by dsimp only; omega)
  dsimp only
  rw [← flat_snoc hgi, ← List.append_assoc]
  exact h
 rw [List.take_of_length_le (by omega)]
 refine AtQ.fin0 Tryz.results54 (H' := lst xb fl a2 c2 (L4 ++ es.flatMap (symE fl full))) ⟨rfl, a2, c2, rfl⟩ (fun w h => ?_) _ (by first | exact .inl rfl | exact .inr rfl)
 exact h.frd (Ps := [_, _]) (Qs := [_]) fR_
end Go.Proofs.YtdemnhdoadjhhaaGreatDoor
end
section
namespace Go.Proofs.YtdemnhdoadjhhaaGreatDoor
open Go.Sk
set_option maxRecDepth 100000
theorem flat_set {α : Type} {f : α → List Value} {z : Nat} (hz : ∀ x, (f x).length = z) : ∀ {l : List α} {k : Nat} (y : α), k < l.length → (l.flatMap f).take (k * z) ++ f y ++ (l.flatMap f).drop (k * z + z) = (l.set k y).flatMap f
 | [], k, y, h => by simp at h
 | x :: l, 0, y, h => by
  rw [Nat.zero_mul, List.take_zero, Nat.zero_add, List.set_cons_zero, List.flatMap_cons, List.flatMap_cons, List.nil_append]
  congr 1
  exact List.drop_left' (hz x)
 | x :: l, k + 1, y, h => by
  have e : (k + 1) * z = z + k * z := by rw [Nat.add_mul, Nat.one_mul, Nat.add_comm]
  rw [List.set_cons_succ, List.flatMap_cons, List.flatMap_cons, ← flat_set hz y (show k < l.length by simp at h; omega), e]
  have e1 : (f x ++ l.flatMap f).take (z + k * z) = f x ++ (l.flatMap f).take (k * z) := by
   rw [List.take_append, hz, Nat.add_sub_cancel_left, List.take_of_length_le (by rw [hz]; omega)]
  have e2 : (f x ++ l.flatMap f).drop (z + k * z + z) = (l.flatMap f).drop (k * z + z) := by
   rw [List.drop_append, hz, List.drop_of_length_le (by rw [hz]; omega), List.nil_append]
   congr 1
   omega
  rw [e1, e2]
  simp only [List.append_assoc]
theorem sym_len (x : SymT) : x.cells.length = 3 := rfl
theorem own_rd {B : World} {H R : List HP} {a : Option Addr} {c : Nat} {e : TypeId} {l : List SymT} (hs : Sel H (Own a c e 3 l.length (l.flatMap SymT.cells)) R) (hc : l.length ≤ c) : Rd B H a l.length c 3 (l.flatMap SymT.cells) := Own.rd hs (flat_len sym_len l) hc
/-! ### symbols are texts -/
end Go.Proofs.YtdemnhdoadjhhaaGreatDoor
end
section
namespace Go.Proofs.YtdemnhdoadjhhaaGreatDoor
open Go.Sk
set_option maxRecDepth 100000
theorem symE_ok {fl sc : Txt} {e : EnumT} (hf : Byt fl) (hs : Byt sc) (ho : e.Ok) : ∀ s ∈ symE fl sc e, s.Ok := fun s h => by
 unfold symE at h
 rcases List.mem_cons.1 h with rfl | h
 ·exact ⟨j2_byt hs ho.1.1, by unfold U8; dsimp only; omega, hf⟩
 ·obtain ⟨v, hv, rfl⟩ := List.mem_map.1 h
  exact ⟨j2_byt hs (ho.2.2.1 v hv).1.1, by unfold U8; dsimp only; omega, hf⟩
theorem symEs_ok {fl sc : Txt} {l : List EnumT} (hf : Byt fl) (hs : Byt sc) (ho : ∀ e ∈ l, e.Ok) : ∀ s ∈ l.flatMap (symE fl sc), s.Ok := fun s h => by
 obtain ⟨e, he, h⟩ := List.mem_flatMap.1 h
 exact symE_ok hf hs (ho e he) s h
mutual
theorem symM_ok {fl : Txt} (hf : Byt fl) : ∀ {m : MsgT} {sc : Txt}, Byt sc → m.Ok → ∀ s ∈ symM fl m sc, s.Ok
 | .mk nm fields oneofs ma mc msgs enums res names, sc, hs, ho => fun s h => by
  unfold MsgT.Ok at ho
  obtain ⟨⟨o1, _⟩, ⟨_, o2⟩, ⟨_, o3⟩, _, ⟨_, o4⟩, _, _, o5⟩ := ho
  have hb := j2_byt hs o1
  unfold symM at h
  rcases List.mem_cons.1 h with rfl | h
  ·exact ⟨hb, by unfold U8; dsimp only; omega, hf⟩
  rcases List.mem_append.1 h with h | h
  ·obtain ⟨v, hv, rfl⟩ := List.mem_map.1 h
   exact ⟨j2_byt hb (o2 v hv).1.1, by unfold U8; dsimp only; omega, hf⟩
  rcases List.mem_append.1 h with h | h
  ·obtain ⟨v, hv, rfl⟩ := List.mem_map.1 h
   exact ⟨j2_byt hb (o3 v hv).1, by unfold U8; dsimp only; omega, hf⟩
  rcases List.mem_append.1 h with h | h
  ·exact symMs_ok hf hb o5 s h
  ·exact symEs_ok hf hb o4 s h
theorem symMs_ok {fl : Txt} (hf : Byt fl) : ∀ {l : List MsgT} {sc : Txt}, Byt sc → MsgT.OkL l → ∀ s ∈ symMs fl l sc, s.Ok
 | [], sc, hs, ho => fun s h => by unfold symMs at h; cases h
 | m :: l, sc, hs, ho => fun s h => by
  unfold symMs at h
  unfold MsgT.OkL at ho
  rcases List.mem_append.1 h with h | h
  ·exact symM_ok hf hs ho.1 s h
  ·exact symMs_ok hf hs ho.2 s h
end
theorem symF_ok {f : FileT} (ho : f.Ok) : ∀ s ∈ symF f, s.Ok := fun s h => by
 unfold symF at h
 rcases List.mem_append.1 h with h | h
 ·exact symMs_ok ho.path.1 ho.pack.1 (MsgT.okL_of ho.msgs.2) s h
 ·exact symEs_ok ho.path.1 ho.pack.1 ho.enums.2 s h
theorem symF_len (f : FileT) : (symF f).length = cntMs f.msgs + (f.enums.l.map cntE).sum := by unfold symF; rw [List.length_append, symMs_len, symEs_len]
/-! ### putting one in -/
theorem shift_start {out : List SymT} {y : SymT} : out ++ [y] = out.take out.length ++ y :: out.drop out.length := by simp
theorem shift_len {out : List SymT} {y : SymT} {k : Nat} (h : k ≤ out.length) : (out.take k ++ y :: out.drop k).length = out.length + 1 := by
 simp only [List.length_append, List.length_cons, List.length_take, List.length_drop]; omega
theorem shift_set {out : List SymT} {y z : SymT} {k : Nat} (h : k ≤ out.length) : (out.take k ++ y :: out.drop k).set k z = out.take k ++ z :: out.drop k := by
 have h1 : (out.take k).length = k := by rw [List.length_take]; omega
 rw [List.set_append, if_neg (by omega), h1, Nat.sub_self, List.set_cons_zero]
theorem shift_get {out : List SymT} {y : SymT} {k : Nat} (h : k < out.length) : (out.take (k + 1) ++ y :: out.drop (k + 1))[k]? = some out[k] := by
 rw [List.getElem?_append_left (by simp; omega), List.getElem?_take_of_lt (by omega), List.getElem?_eq_getElem h]
theorem shift_down {out : List SymT} {y : SymT} {k : Nat} (h : k < out.length) : (out.take (k + 1) ++ y :: out.drop (k + 1)).set (k + 1) out[k] = out.take k ++ out[k] :: out.drop k := by
 rw [shift_set (by omega), List.drop_eq_getElem_cons h, List.take_add_one, List.getElem?_eq_getElem h]
 simp only [Option.toList_some, List.append_assoc, List.cons_append, List.nil_append]
theorem shift_perm {out L : List SymT} {x : SymT} {k i : Nat} (hp : out.Perm (L.take i)) (hx : L[i]? = some x) : (out.take k ++ x :: out.drop k).Perm (L.take (i + 1)) := by
 rw [← len_snoc hx]
 refine List.perm_middle.trans ?_
 rw [List.take_append_drop]
 exact (List.Perm.cons x hp).trans (List.perm_append_comm (l₁ := [x]))
attribute [local irreducible] Cs Own Ex Pu Yld RT LJ QJ AtQ CT Rd QSp Sp FinQ Then LoopQ CutQ DT TakeQ EffQ
variable {B : World} {R : List HP}
end Go.Proofs.YtdemnhdoadjhhaaGreatDoor
end
section
namespace Go.Proofs.YtdemnhdoadjhhaaGreatDoor
open Go.Sk
set_option maxRecDepth 100000
attribute [local irreducible] Cs Own Ex Pu Yld RT LJ QJ AtQ CT Rd QSp Sp FinQ Then LoopQ CutQ DT TakeQ EffQ
variable {B : World} {R : List HP}
theorem rjson_fn {x : FieldT} (hn : Byt x.nm) (hl : x.nm.length ≤ 140737488355327) (hj : Byt x.js) :
  Sp B Tryz.prog 28 [.agg x.cells.toArray] R [] (fun v H' => v = vS (jsonL x) ∧ H' = []) := by
 obtain ⟨nm, num, card, kind, ty, key, oneof, packed, js⟩ := x
 dsimp only [FieldT.cells] at *
 unfold jsonL
 dsimp only
 refine Sp.body Tryz.func28 rfl Tryz.ntmps28 (by simp) ?_
 simp only [argE, List.cons_append, List.nil_append, Nat.zero_add, Nat.reduceAdd]
 repeat' (first|refine gL ?_|(refine gb ?_;intro b)|fail)
 refine RT.nes (l := js) (l' := []) rfl rfl hj Byt.nil rfl rfl (fun he => ?_) (fun he => ?_)
 ·rw [if_pos he]
  try refine gL ?_
  (refine RT.call T rfl fR_ (rcamel_fn hn hl) rfl rfl rfl ?_; rintro _ _ ⟨rfl, rfl⟩; try simp only [List.cons_append, List.nil_append])
  try refine gL ?_
  exact AtQ.f1 (HH := []) Tryz.results28 rfl rfl dR_
 ·rw [if_neg he]
  try refine gL ?_
  exact AtQ.f1 (HH := []) Tryz.results28 rfl rfl dR_
end Go.Proofs.YtdemnhdoadjhhaaGreatDoor
end
section
namespace Go.Proofs.YtdemnhdoadjhhaaGreatDoor
open Go.Sk
set_option maxRecDepth 100000
def restL (c : Int) : Int × Int × Int :=
 if c < 128 then (0, 0, 0) else if 194 ≤ c ∧ c ≤ 223 then (1, 128, 191) else if c = 224 then (2, 160, 191) else if c = 237 then (2, 128, 159) else if 225 ≤ c ∧ c ≤ 239 then (2, 128, 191)
 else if c = 240 then (3, 144, 191) else if 241 ≤ c ∧ c ≤ 243 then (3, 128, 191) else if c = 244 then (3, 128, 143) else (-1, 0, 0)
attribute [local irreducible] Cs Own Ex Pu Yld RT LJ QJ AtQ CT Rd QSp Sp FinQ Then LoopQ CutQ DT TakeQ EffQ
attribute [local irreducible] Bd
variable {B : World} {R : List HP}
set_option maxHeartbeats 2000000 in
theorem rest_fn {c : Int} (h0 : 0 ≤ c) (h1 : c < 256) : Sp B Tryz.prog 176 [.int .u8 c] R [] (fun v H' => v = .tuple #[.int .i64 (restL c).1, .int .u8 (restL c).2.1, .int .u8 (restL c).2.2] ∧ H' = []) := by
 refine Sp.body Tryz.func176 rfl Tryz.ntmps176 (by simp) ?_
 simp only [argE, List.cons_append, List.nil_append, Nat.zero_add, Nat.reduceAdd]
 have fin : ∀ x : Int × Int × Int, restL c = x → restL c = x := fun _ h => h
 repeat' (first|refine gL ?_|(refine gv ?_;(refine⟨fun hc=>?_,fun hc=>?_⟩<;>first|(exfalso;omega)|skip))|fail)
 ·have e : restL c = (0, 0, 0) := by unfold restL; rw [if_pos (by omega)]
  exact AtQ.f3 Tryz.results176 rfl rfl rfl (by rw [e]) (by rw [e]) (by rw [e]) (fun w h => h)
 ·(refine RT.call T rfl fR_ (rin_fn) rfl rfl rfl ?_; rintro _ _ ⟨rfl, rfl⟩; try simp only [List.cons_append, List.nil_append])
  by_cases a1 : 194 ≤ c ∧ c ≤ 223
  ·rw [decide_eq_true a1]
   try refine gL ?_
   have e : restL c = (1, 128, 191) := by unfold restL; rw [if_neg (by omega), if_pos a1]
   exact AtQ.f3 Tryz.results176 rfl rfl rfl (by rw [e]) (by rw [e]) (by rw [e]) (fun w h => h)
  ·rw [decide_eq_false a1]
   repeat' (first|refine gL ?_|(refine gv ?_;(refine⟨fun hc=>?_,fun hc=>?_⟩<;>first|(exfalso;omega)|skip))|fail)
   ·have e : restL c = (2, 160, 191) := by unfold restL; rw [if_neg (by omega), if_neg a1, if_pos (by omega)]
    exact AtQ.f3 Tryz.results176 rfl rfl rfl (by rw [e]) (by rw [e]) (by rw [e]) (fun w h => h)
   ·have e : restL c = (2, 128, 159) := by unfold restL; rw [if_neg (by omega), if_neg a1, if_neg (by omega), if_pos (by omega)]
    exact AtQ.f3 Tryz.results176 rfl rfl rfl (by rw [e]) (by rw [e]) (by rw [e]) (fun w h => h)
   ·(refine RT.call T rfl fR_ (rin_fn) rfl rfl rfl ?_; rintro _ _ ⟨rfl, rfl⟩; try simp only [List.cons_append, List.nil_append])
    by_cases a2 : 225 ≤ c ∧ c ≤ 239
    ·rw [decide_eq_true a2]
     try refine gL ?_
     have e : restL c = (2, 128, 191) := by unfold restL; rw [if_neg (by omega), if_neg a1, if_neg (by omega), if_neg (by omega), if_pos a2]
     exact AtQ.f3 Tryz.results176 rfl rfl rfl (by rw [e]) (by rw [e]) (by rw [e]) (fun w h => h)
    ·rw [decide_eq_false a2]
     repeat' (first|refine gL ?_|(refine gv ?_;(refine⟨fun hc=>?_,fun hc=>?_⟩<;>first|(exfalso;omega)|skip))|fail)
     ·have e : restL c = (3, 144, 191) := by unfold restL; rw [if_neg (by omega), if_neg a1, if_neg (by omega), if_neg (by omega), if_neg a2, if_pos (by omega)]
      exact AtQ.f3 Tryz.results176 rfl rfl rfl (by rw [e]) (by rw [e]) (by rw [e]) (fun w h => h)
     ·(refine RT.call T rfl fR_ (rin_fn) rfl rfl rfl ?_; rintro _ _ ⟨rfl, rfl⟩; try simp only [List.cons_append, List.nil_append])
      by_cases a3 : 241 ≤ c ∧ c ≤ 243
      ·rw [decide_eq_true a3]
       try refine gL ?_
       have e : restL c = (3, 128, 191) := by unfold restL; rw [if_neg (by omega), if_neg a1, if_neg (by omega), if_neg (by omega), if_neg a2, if_neg (by omega), if_pos a3]
       exact AtQ.f3 Tryz.results176 rfl rfl rfl (by rw [e]) (by rw [e]) (by rw [e]) (fun w h => h)
      ·rw [decide_eq_false a3]
       repeat' (first|refine gL ?_|(refine gv ?_;(refine⟨fun hc=>?_,fun hc=>?_⟩<;>first|(exfalso;omega)|skip))|fail)
       ·have e : restL c = (3, 128, 143) := by unfold restL; rw [if_neg (by omega), if_neg a1, if_neg (by omega), if_neg (by omega), if_neg a2, if_neg (by omega), if_neg a3, if_pos (by omega)]
        exact AtQ.f3 Tryz.results176 rfl rfl rfl (by rw [e]) (by rw [e]) (by rw [e]) (fun w h => h)
       ·have e : restL c = (-1, 0, 0) := by unfold restL; rw [if_neg (by omega), if_neg a1, if_neg (by omega), if_neg (by omega), if_neg a2, if_neg (by omega), if_neg a3, if_neg (by omega)]
        exact AtQ.f3 Tryz.results176 rfl rfl rfl (by rw [e]) (by rw [e]) (by rw [e]) (fun w h => h)
end Go.Proofs.YtdemnhdoadjhhaaGreatDoor
end
section
namespace Go.Proofs.YtdemnhdoadjhhaaGreatDoor
open Go.Sk
set_option maxRecDepth 100000
theorem rest_range (c : Int) : -1 ≤ (restL c).1 ∧ (restL c).1 ≤ 3 := by
 unfold restL
 repeat' split
 all_goals simp
/-- The i-th byte goes on. -/
def contP (l : List Int) (at_ : Nat) (lo hi : Int) (i : Nat) : Prop := (if i = 1 then lo else 128) ≤ l.getD (at_ + i) 0 ∧ l.getD (at_ + i) 0 ≤ (if i = 1 then hi else 191)
open Classical in
noncomputable def sizeL (l : List Int) (at_ : Nat) : Int :=
 if (restL (l.getD at_ 0)).1 < 0 ∨ (l.length : Int) ≤ at_ + (restL (l.getD at_ 0)).1 then 0
 else if ∀ i : Nat, 1 ≤ i → (i : Int) ≤ (restL (l.getD at_ 0)).1 → contP l at_ (restL (l.getD at_ 0)).2.1 (restL (l.getD at_ 0)).2.2 i then (restL (l.getD at_ 0)).1 + 1 else 0
theorem sizeL_0 {l : List Int} {at_ : Nat} (h : (restL (l.getD at_ 0)).1 < 0 ∨ (l.length : Int) ≤ at_ + (restL (l.getD at_ 0)).1) : sizeL l at_ = 0 := by unfold sizeL; rw [if_pos h]
theorem sizeL_bad {l : List Int} {at_ i : Nat} (h1 : 1 ≤ i) (h2 : (i : Int) ≤ (restL (l.getD at_ 0)).1) (h : ¬ contP l at_ (restL (l.getD at_ 0)).2.1 (restL (l.getD at_ 0)).2.2 i) : sizeL l at_ = 0 := by
 unfold sizeL
 split
 ·rfl
 ·rw [if_neg (fun hall => h (hall i h1 h2))]
theorem sizeL_ok {l : List Int} {at_ : Nat} (h : ¬ ((restL (l.getD at_ 0)).1 < 0 ∨ (l.length : Int) ≤ at_ + (restL (l.getD at_ 0)).1)) (hall : ∀ i : Nat, 1 ≤ i → (i : Int) ≤ (restL (l.getD at_ 0)).1 → contP l at_ (restL (l.getD at_ 0)).2.1 (restL (l.getD at_ 0)).2.2 i) : sizeL l at_ = (restL (l.getD at_ 0)).1 + 1 := by
 unfold sizeL
 rw [if_neg h, if_pos hall]
attribute [local irreducible] Cs Own Ex Pu Yld RT LJ QJ AtQ CT Rd QSp Sp FinQ Then LoopQ CutQ DT TakeQ EffQ
attribute [local irreducible] Bd
variable {B : World} {R : List HP}
set_option maxHeartbeats 2000000 in
theorem size_fn {l : List Int} {at_ : Nat} (hb : Byt l) (hat : at_ < l.length) (hl : l.length ≤ 140737488355328) : Sp B Tryz.prog 169 [.string (str l), .int .i64 at_] R [] (fun v H' => v = .int .i64 (sizeL l at_) ∧ H' = []) := by
 refine Sp.body Tryz.func169 rfl Tryz.ntmps169 (by simp) ?_
 simp only [argE, List.cons_append, List.nil_append, Nat.zero_add, Nat.reduceAdd]
 try refine gL ?_
 (refine RT.ixs T (j := at_) rfl rfl (by omega) (by omega) (by assumption) rfl rfl rfl ?_)
 obtain ⟨h0, h1⟩ := hb.get (i := at_) (by omega)
 (refine RT.call T rfl fR_ (rest_fn h0 h1) rfl rfl rfl ?_; rintro _ _ ⟨rfl, rfl⟩; try simp only [List.cons_append, List.nil_append])
 have hr := rest_range (l.getD at_ 0)
 have z0 := sizeL_0 (l := l) (at_ := at_)
 have zb := fun i => sizeL_bad (l := l) (at_ := at_) (i := i)
 have zo := sizeL_ok (l := l) (at_ := at_)
 generalize (restL (l.getD at_ 0)).1 = n at *
 generalize (restL (l.getD at_ 0)).2.1 = lo at *
 generalize (restL (l.getD at_ 0)).2.2 = hi at *
 repeat' (first|refine gL ?_|(refine gv ?_;first|(refine⟨fun hc=>?_,fun hc=>?_⟩<;>first|(exfalso;omega)|skip)|refine gk ?_)|fail)
 ·exact AtQ.f1 Tryz.results169 rfl (by rw [z0 (.inl (by assumption))]) (fun w h => h)
 ·exact AtQ.f1 Tryz.results169 rfl (by rw [z0 (.inr (by assumption))]) (fun w h => h)
 ·refine CT.loop (α := Nat) (fun i => [(0, .string (str l)), (1, .int .i64 at_), (5, .int .i64 n), (6, .int .u8 (if i = 1 then lo else 128)), (7, .int .u8 (if i = 1 then hi else 191)), (8, .int .i64 i)]) (fun i => Pu (1 ≤ i ∧ (i : Int) ≤ n + 1 ∧ ∀ j, 1 ≤ j → j < i → contP l at_ lo hi j) :: R) (fun i => 5 - i) 1 ⟨rfl, rfl, rfl, rfl, rfl, rfl, trivial⟩
   (fun w h => Sat.pu_in ⟨Nat.le_refl _, by omega, fun j h1 h2 => absurd h2 (by omega)⟩ h) (fun i => CT.pu fun ⟨hi1, hi2, ho⟩ => ?_)
  repeat' (first|refine gL ?_|(refine gv ?_;first|(refine⟨fun hc=>?_,fun hc=>?_⟩<;>first|(exfalso;omega)|skip)|refine gk ?_)|fail)
  ·refine RT.ixs T (j := at_ + i) rfl rfl (by omega) (by omega) hb rfl rfl rfl ?_
   try refine gL ?_
   (refine RT.call T rfl fR_ (rin_fn) rfl rfl rfl ?_; rintro _ _ ⟨rfl, rfl⟩; try simp only [List.cons_append, List.nil_append])
   by_cases hc : contP l at_ lo hi i
   ·rw [decide_eq_true (show _ ∧ _ from hc)]
    repeat' (first|refine gL ?_|(refine gv ?_;refine gk ?_)|fail)
    exact AtQ.loop (i + 1) ⟨rfl, rfl, rfl, by rw [if_neg (show ¬ i + 1 = 1 by omega)]; rfl, by rw [if_neg (show ¬ i + 1 = 1 by omega)]; rfl, rfl, trivial⟩ (fun w h => Sat.pu_in ⟨by omega, by omega, fun j h1 h2 => by
     by_cases hji : j = i
     ·rw [hji]; exact hc
     ·exact ho j h1 (by omega)⟩ h) (by omega)
   ·rw [decide_eq_false (show ¬ (_ ∧ _) from hc)]
    try refine gL ?_
    exact AtQ.f1 Tryz.results169 rfl (by rw [zb i hi1 (by omega) hc]) (fun w h => h)
  ·exact AtQ.f1 Tryz.results169 rfl (by rw [zo (by omega) (fun j h1 h2 => ho j h1 (by omega))]) (fun w h => h)
end Go.Proofs.YtdemnhdoadjhhaaGreatDoor
end
