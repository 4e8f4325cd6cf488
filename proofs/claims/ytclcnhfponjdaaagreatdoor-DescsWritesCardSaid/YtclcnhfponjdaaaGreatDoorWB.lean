/- Merged: E4, W1, W2, W3, B15, B20, B21, B22, Pb2, Pb5, O1, O2, O3, E5, E6, E7, E8, O4, O5, E9, E10, G50, G51, G52, G53. -/
import Derived.Test.YtclcnhfponjdaaaGreatDoorWA
import Derived.Test.YtclcnhfponjdaaaGreatDoorTb
import Derived.Test.YtclcnhfponjdaaaGreatDoorSkA
import Derived.Lib.TrimUEq
import Derived.Test.YtclcnhfponjdaaaGreatDoorSkB
set_option linter.unusedVariables false
set_option linter.unusedSimpArgs false
section
namespace Go.Proofs.YtclcnhfponjdaaaGreatDoor
open Go.Sk
set_option maxRecDepth 100000
theorem fTexts_snoc {num : Int} {l : List Txt} {i : Nat} {x : Txt} (h : l[i]? = some x) : fTexts num (l.take (i + 1)) = fTexts num (l.take i) ++ fBytes num x := by
 unfold fTexts
 rw [List.take_add_one, h, List.flatMap_append]
 simp
theorem fRecs_snoc {α : Type} {num : Int} {f : α → Txt} {l : List α} {i : Nat} {x : α} (h : l[i]? = some x) : fRecs num f (l.take (i + 1)) = fRecs num f (l.take i) ++ fBytes num (f x) := by
 unfold fRecs
 rw [List.take_add_one, h, List.flatMap_append]
 simp
theorem map_get {l : List Txt} {j : Nat} (h : j < l.length) : (l.map vS)[j]? = some (vS l[j]) := by rw [List.getElem?_map, List.getElem?_eq_getElem h]; rfl
attribute [local irreducible] Cs Own Ex Pu Yld RT LJ QJ AtQ CT Rd QSp Sp FinQ Then LoopQ CutQ DT TakeQ EffQ
attribute [local irreducible] Wr StAt
variable {B : World} {R : List HP} {pe pw bn bo off k : Nat} {num : Int} {g : FuncId} {gb : Bool} {ad : Addr} {xs : List Value} {S : WS}
set_option maxHeartbeats 1000000 in
theorem someTexts_EnumDef_put {v : Rw Txt} (hO : Rd B R (some ⟨pe, 0, none⟩) 1 1 2 [ptr pw, .int .i64 0]) (hn : Rd B R (some ⟨bn, 0, none⟩) 1 1 1 [.int .i32 num]) (ho : Rd B R (some ⟨bo, 0, none⟩) 1 1 1 [.func (.func g) #[] #[]]) (hg : al T.funs g = some gb) (hof : ∀ R, Sp B Tryz.prog g [.pointer (some ad)] R [] (fun v H' => v = .pointer (some (ad.add off)) ∧ H' = [])) (hx : StAt B R ad xs) (h1 : 1 ≤ num) (h2 : num ≤ 15) (hu : xs[off]? = some v.v) (hv : ∀ t ∈ v.l, OkT t) (hvl : v.l.length ≤ 140737488355328) (hvR : Rd B R v.a v.l.length v.c 1 (v.l.map vS)) (hS : S.ok) :
  Sp B Tryz.prog 203 [ptr pe, .pointer (some ad), ptr bo, ptr bn] R [Wr pw S] (fun u H' => u = .tuple #[] ∧ ∃ S', Wrt k S (fTexts num v.l) S' ∧ H' = [Wr pw S']) := by
 obtain ⟨va, vc, l⟩ := v
 simp only [Rw.v] at *
 refine Sp.body Tryz.func203 rfl Tryz.ntmps203 (by simp) ?_
 simp only [argE, List.cons_append, List.nil_append, Nat.zero_add, Nat.reduceAdd]
 try refine gL ?_
 refine RT.ldB T rfl (rD (ho)) rfl rfl rfl rfl ?_
 try refine gL ?_
 refine RT.callC T (caps := []) rfl rfl fR_ (hof _) hg rfl rfl ?_
 rintro _ _ ⟨rfl, rfl⟩
 simp only [List.nil_append]
 refine RT.nilG rfl rfl rfl ?_
 refine RT.ldS T rfl hx.cons hu rfl rfl rfl ?_
 try refine gL ?_
 refine CT.loop (α := Nat × WS) (fun s => [(0, ptr pe), (1, .pointer (some ad)), (2, ptr bo), (3, ptr bn), (12, .slice va l.length vc), (13, .int .i64 l.length), (14, .int .i64 s.1)]) (fun s => Pu (s.1 ≤ l.length ∧ Wrt k S (fTexts num (l.take s.1)) s.2) :: Wr pw s.2 :: R) (fun s => l.length - s.1) (0, S)
  ⟨rfl, rfl, rfl, rfl, rfl, rfl, rfl, trivial⟩ (fun w h => Sat.pu_in ⟨Nat.zero_le _, by rw [List.take_zero]; exact Wrt.nil hS⟩ h) (fun ⟨i, S1⟩ => CT.pu fun ⟨hi, hw⟩ => ?_)
 dsimp only at hi hw ⊢
 have hS := hw.ok
 repeat' (first|refine gL ?_|(refine gv ?_;(refine⟨fun hc=>?_,fun hc=>?_⟩<;>first|(exfalso;omega)|skip))|fail)
 ·have hil : i < l.length := by omega
  have hgi := List.getElem?_eq_getElem hil
  have hto := hv l[i] (List.getElem_mem hil)
  refine RT.ix T (j := i) rfl rfl rfl (rD (hvR)) (by omega) (by omega) (by omega) rfl rfl ?_
  refine RT.ldr T rfl (rD (hvR)) (map_get hil) rfl rfl rfl ?_
  revert hgi hto
  generalize l[i] = t
  intro hgi hto
  obtain ⟨v0, v1⟩ := hto
  try refine gQ ?_
  refine CT.tail 5 mixed (by kernel_rfl) ?_
  dsimp only [List.take_succ_cons, List.take_zero, List.drop_succ_cons, List.drop_zero]
  try refine gL ?_
  refine RT.ldB T rfl (rD (hO)) rfl rfl rfl rfl ?_
  skip
  refine RT.ldB T rfl (rD (hn)) rfl rfl rfl rfl ?_
  try refine gL ?_
  refine AtQ.tail ?_
  refine RT.call T rfl fR_ (tag_fn (n := num) (k := 2) hS (by decide) (by decide) (by omega) (by omega)) rfl rfl rfl ?_
  rintro _ _ ⟨rfl, rfl⟩
  rw [wsTag_put (k := 2) h1 (by omega) (by decide)]
  simp only [List.cons_append, List.nil_append]
  try refine gQ ?_
  refine RT.ldB T rfl (rD (hO)) rfl rfl rfl rfl ?_
  try refine gL ?_
  refine RT.convSB T rfl v0 rfl Tryz.underlying23 Tryz.underlying5 rfl rfl (fun a' c' hc' => ?_)
  refine RT.call T rfl fR_ (wbytes_fn (WS.put_ok hS _) (Ro.rd sE_ (by rw [ints_len]) hc') (by omega)) rfl rfl rfl ?_
  rintro _ _ ⟨rfl, rfl⟩
  simp only [List.cons_append, List.nil_append]
  repeat' (first|refine gL ?_|(refine gv ?_;refine gk ?_)|fail)
  refine AtQ.loop (i + 1, (S1.put _).put _) ⟨rfl, rfl, rfl, rfl, rfl, rfl, rfl, trivial⟩ (fun w h => Sat.pu_in ⟨by omega, by rw [fTexts_snoc hgi]; exact hw.app ((Wrt.put hS _).app (Wrt.put (WS.put_ok hS _) _))⟩ (h.frd (Ps := [_]) (Qs := [_]) fR_)) (by dsimp only; omega)
 ·obtain rfl : i = l.length := by omega
  rw [List.take_length] at hw
  exact AtQ.fin0 (H' := [Wr pw S1]) Tryz.results203 ⟨rfl, S1, hw, rfl⟩ (fun w h => h) _ (by first | exact .inl rfl | exact .inr rfl)
set_option maxHeartbeats 1000000 in
theorem someTexts_MessageDef_put {v : Rw Txt} (hO : Rd B R (some ⟨pe, 0, none⟩) 1 1 2 [ptr pw, .int .i64 0]) (hn : Rd B R (some ⟨bn, 0, none⟩) 1 1 1 [.int .i32 num]) (ho : Rd B R (some ⟨bo, 0, none⟩) 1 1 1 [.func (.func g) #[] #[]]) (hg : al T.funs g = some gb) (hof : ∀ R, Sp B Tryz.prog g [.pointer (some ad)] R [] (fun v H' => v = .pointer (some (ad.add off)) ∧ H' = [])) (hx : StAt B R ad xs) (h1 : 1 ≤ num) (h2 : num ≤ 15) (hu : xs[off]? = some v.v) (hv : ∀ t ∈ v.l, OkT t) (hvl : v.l.length ≤ 140737488355328) (hvR : Rd B R v.a v.l.length v.c 1 (v.l.map vS)) (hS : S.ok) :
  Sp B Tryz.prog 223 [ptr pe, .pointer (some ad), ptr bo, ptr bn] R [Wr pw S] (fun u H' => u = .tuple #[] ∧ ∃ S', Wrt k S (fTexts num v.l) S' ∧ H' = [Wr pw S']) := by
 obtain ⟨va, vc, l⟩ := v
 simp only [Rw.v] at *
 refine Sp.body Tryz.func223 rfl Tryz.ntmps223 (by simp) ?_
 simp only [argE, List.cons_append, List.nil_append, Nat.zero_add, Nat.reduceAdd]
 try refine gL ?_
 refine RT.ldB T rfl (rD (ho)) rfl rfl rfl rfl ?_
 try refine gL ?_
 refine RT.callC T (caps := []) rfl rfl fR_ (hof _) hg rfl rfl ?_
 rintro _ _ ⟨rfl, rfl⟩
 simp only [List.nil_append]
 refine RT.nilG rfl rfl rfl ?_
 refine RT.ldS T rfl hx.cons hu rfl rfl rfl ?_
 try refine gL ?_
 refine CT.loop (α := Nat × WS) (fun s => [(0, ptr pe), (1, .pointer (some ad)), (2, ptr bo), (3, ptr bn), (12, .slice va l.length vc), (13, .int .i64 l.length), (14, .int .i64 s.1)]) (fun s => Pu (s.1 ≤ l.length ∧ Wrt k S (fTexts num (l.take s.1)) s.2) :: Wr pw s.2 :: R) (fun s => l.length - s.1) (0, S)
  ⟨rfl, rfl, rfl, rfl, rfl, rfl, rfl, trivial⟩ (fun w h => Sat.pu_in ⟨Nat.zero_le _, by rw [List.take_zero]; exact Wrt.nil hS⟩ h) (fun ⟨i, S1⟩ => CT.pu fun ⟨hi, hw⟩ => ?_)
 dsimp only at hi hw ⊢
 have hS := hw.ok
 repeat' (first|refine gL ?_|(refine gv ?_;(refine⟨fun hc=>?_,fun hc=>?_⟩<;>first|(exfalso;omega)|skip))|fail)
 ·have hil : i < l.length := by omega
  have hgi := List.getElem?_eq_getElem hil
  have hto := hv l[i] (List.getElem_mem hil)
  refine RT.ix T (j := i) rfl rfl rfl (rD (hvR)) (by omega) (by omega) (by omega) rfl rfl ?_
  refine RT.ldr T rfl (rD (hvR)) (map_get hil) rfl rfl rfl ?_
  revert hgi hto
  generalize l[i] = t
  intro hgi hto
  obtain ⟨v0, v1⟩ := hto
  try refine gQ ?_
  refine CT.tail 5 mixed (by kernel_rfl) ?_
  dsimp only [List.take_succ_cons, List.take_zero, List.drop_succ_cons, List.drop_zero]
  try refine gL ?_
  refine RT.ldB T rfl (rD (hO)) rfl rfl rfl rfl ?_
  skip
  refine RT.ldB T rfl (rD (hn)) rfl rfl rfl rfl ?_
  try refine gL ?_
  refine AtQ.tail ?_
  refine RT.call T rfl fR_ (tag_fn (n := num) (k := 2) hS (by decide) (by decide) (by omega) (by omega)) rfl rfl rfl ?_
  rintro _ _ ⟨rfl, rfl⟩
  rw [wsTag_put (k := 2) h1 (by omega) (by decide)]
  simp only [List.cons_append, List.nil_append]
  try refine gQ ?_
  refine RT.ldB T rfl (rD (hO)) rfl rfl rfl rfl ?_
  try refine gL ?_
  refine RT.convSB T rfl v0 rfl Tryz.underlying23 Tryz.underlying5 rfl rfl (fun a' c' hc' => ?_)
  refine RT.call T rfl fR_ (wbytes_fn (WS.put_ok hS _) (Ro.rd sE_ (by rw [ints_len]) hc') (by omega)) rfl rfl rfl ?_
  rintro _ _ ⟨rfl, rfl⟩
  simp only [List.cons_append, List.nil_append]
  repeat' (first|refine gL ?_|(refine gv ?_;refine gk ?_)|fail)
  refine AtQ.loop (i + 1, (S1.put _).put _) ⟨rfl, rfl, rfl, rfl, rfl, rfl, rfl, trivial⟩ (fun w h => Sat.pu_in ⟨by omega, by rw [fTexts_snoc hgi]; exact hw.app ((Wrt.put hS _).app (Wrt.put (WS.put_ok hS _) _))⟩ (h.frd (Ps := [_]) (Qs := [_]) fR_)) (by dsimp only; omega)
 ·obtain rfl : i = l.length := by omega
  rw [List.take_length] at hw
  exact AtQ.fin0 (H' := [Wr pw S1]) Tryz.results223 ⟨rfl, S1, hw, rfl⟩ (fun w h => h) _ (by first | exact .inl rfl | exact .inr rfl)
end Go.Proofs.YtclcnhfponjdaaaGreatDoor
end
section
namespace Go.Proofs.YtclcnhfponjdaaaGreatDoor
open Go.Sk
set_option maxRecDepth 100000
attribute [local irreducible] Cs Own Ex Pu Yld RT LJ QJ AtQ CT Rd QSp Sp FinQ Then LoopQ CutQ DT TakeQ EffQ
variable {B : World} {R : List HP}
set_option maxHeartbeats 4000000 in
theorem mtexts_fn {a : Option Addr} {c : Nat} {l : List Txt} (hR : Rd B R a l.length c 1 (l.map vS)) (hl : l.length ≤ 140737488355328) (hok : ∀ t ∈ l, OkT t) :
  Sp B Tryz.prog 157 [.slice a l.length c] R [] (fun v H' => v = .int .i64 (mT l 0) ∧ H' = []) := by
 refine Sp.body Tryz.func157 rfl Tryz.ntmps157 (by simp) ?_
 simp only [argE, List.cons_append, List.nil_append, Nat.zero_add, Nat.reduceAdd]
 try refine gL ?_
 refine CT.loop (α := Nat × Int) (fun s => [(0, .slice a l.length c), (3, .int .i64 s.2), (4, .int .i64 s.1)]) (fun s => Pu (s.1 ≤ l.length ∧ 0 ≤ s.2 ∧ s.2 ≤ 140737600000000 ∧ mT l 0 = mT (l.drop s.1) s.2) :: R) (fun s => l.length - s.1) (0, 0)
  ⟨rfl, rfl, rfl, trivial⟩ (fun w h => Sat.pu_in ⟨Nat.zero_le _, by decide, by decide, rfl⟩ h) (fun ⟨i, q⟩ => CT.pu fun ⟨hi, hq1, hq2, hq3⟩ => ?_)
 dsimp only at hi hq1 hq2 hq3 ⊢
 repeat' (first|refine gL ?_|(refine gv ?_;first|(refine⟨fun hc=>?_,fun hc=>?_⟩<;>first|(exfalso;omega)|skip)|refine gk ?_)|fail)
 ·have hil : i < l.length := by omega
  have hto := (hok l[i] (List.getElem_mem hil)).2
  refine RT.ix T (j := i) rfl rfl rfl (by exact hR) (by omega) (by omega) (by omega) rfl rfl ?_
  refine RT.ldr T rfl (by exact hR) (map_get hil) rfl rfl rfl ?_
  rw [List.drop_eq_getElem_cons hil, mT, if_pos (by omega)] at hq3
  revert hto hq3
  generalize l[i] = t
  intro hq3 hto
  repeat' (first|refine gL ?_|(refine gv ?_;refine gk ?_)|fail)
  exact AtQ.loop (i + 1, q + 8 + (t.length : Int)) ⟨rfl, rfl, rfl, trivial⟩ (fun w h => Sat.pu_in ⟨by omega, by dsimp only; omega, by dsimp only; omega, hq3⟩ h) (by dsimp only; omega)
 ·have hil : i < l.length := by omega
  rw [List.drop_eq_getElem_cons hil, mT, if_neg (by omega)] at hq3
  exact AtQ.f1 Tryz.results157 rfl (by rw [hq3]) (fun w h => h)
 ·rw [List.drop_eq_nil_of_le (by omega), mT] at hq3
  exact AtQ.f1 Tryz.results157 rfl (by rw [hq3]) (fun w h => h)
set_option maxHeartbeats 8000000 in
theorem menums_fn {a : Option Addr} {c : Nat} {l : List EnumT} (hR : Rd B R a l.length c 5 (l.flatMap EnumT.cells)) (hk : l.length ≤ 140737488355328) (hin : ∀ e ∈ l, e.In (Rd B R)) (hok : ∀ e ∈ l, e.Ok) :
  Sp B Tryz.prog 64 [.slice a l.length c] R [] (fun v H' => v = .int .i64 (mE l 0) ∧ H' = []) := by
 refine Sp.body Tryz.func64 rfl Tryz.ntmps64 (by simp) ?_
 simp only [argE, List.cons_append, List.nil_append, Nat.zero_add, Nat.reduceAdd]
 try refine gL ?_
 refine CT.loop (α := Nat × Int) (fun s => [(0, .slice a l.length c), (3, .int .i64 s.2), (4, .int .i64 s.1)]) (fun s => Pu (s.1 ≤ l.length ∧ 0 ≤ s.2 ∧ s.2 ≤ 1688849994022912 ∧ mE l 0 = mE (l.drop s.1) s.2) :: R) (fun s => l.length - s.1) (0, 0)
  ⟨rfl, rfl, rfl, trivial⟩ (fun w h => Sat.pu_in ⟨Nat.zero_le _, by decide, by decide, rfl⟩ h) (fun ⟨i, q⟩ => CT.pu fun ⟨hi, hq1, hq2, hq3⟩ => ?_)
 dsimp only at hi hq1 hq2 hq3 ⊢
 repeat' (first|refine gL ?_|(refine gv ?_;first|(refine⟨fun hc=>?_,fun hc=>?_⟩<;>first|(exfalso;omega)|skip)|refine gk ?_)|fail)
 ·have hil : i < l.length := by omega
  have hgi := List.getElem?_eq_getElem hil
  rw [List.drop_eq_getElem_cons hil, mE, if_pos (by omega)] at hq3
  revert hgi hq3
  generalize l[i] = e
  intro hq3 hgi
  have hme := List.mem_of_getElem? hgi
  obtain ⟨en1, ⟨en2, _⟩, en3, ⟨en4, _⟩, en5, ⟨en6, _⟩, en7⟩ := hok e hme
  obtain ⟨ei1, ei2, ei3⟩ := hin e hme
  have en1 := en1.2
  have t1 := mT_law e.names.l 0
  have t2 := mT_hi e.names.l 0 en7
  ((refine RT.ix T (j := (i) * 5) rfl rfl rfl (rD (hR)) (by omega) (by omega) (by omega) rfl rfl ?_); (refine RT.faA T rfl rfl rfl rfl ?_); (refine RT.ldr (u := vS e.nm) T rfl (rD (hR)) (by rw [flat_get (f := EnumT.cells) (z := 5) (fun _ => rfl) hgi (by decide)]; rfl) rfl rfl rfl ?_))
  repeat' (first|refine gL ?_|(refine gv ?_;refine gk ?_)|fail)
  ((refine RT.ix T (j := (i) * 5) rfl rfl rfl (rD (hR)) (by omega) (by omega) (by omega) rfl rfl ?_); (refine RT.faA T rfl rfl rfl rfl ?_); (refine RT.ldr (u := e.res.v) T rfl (rD (hR)) (by rw [flat_get (f := EnumT.cells) (z := 5) (fun _ => rfl) hgi (by decide)]; rfl) rfl rfl rfl ?_))
  repeat' (first|refine gL ?_|(refine gv ?_;refine gk ?_)|fail)
  ((refine RT.ix T (j := (i) * 5) rfl rfl rfl (rD (hR)) (by omega) (by omega) (by omega) rfl rfl ?_); (refine RT.faA T rfl rfl rfl rfl ?_); (refine RT.ldr (u := e.names.v) T rfl (rD (hR)) (by rw [flat_get (f := EnumT.cells) (z := 5) (fun _ => rfl) hgi (by decide)]; rfl) rfl rfl rfl ?_))
  (refine RT.qcall T rfl (QSp.of fR_ (mtexts_fn ei3 en6 en7)) rfl rfl rfl ?_)
  repeat' (first|refine gL ?_|(refine gv ?_;refine gk ?_)|fail)
  obtain ⟨q0, hq0⟩ : ∃ q0, q0 = q + 32 + (e.nm.length : Int) + 8 * (e.res.l.length : Int) + mT e.names.l 0 := ⟨_, rfl⟩
  rw [← hq0] at hq3 ⊢
  refine CT.loop (α := Nat × Int) (fun s => [(0, .slice a l.length c), (3, .int .i64 s.2), (4, .int .i64 i), (5, .int .i64 s.1)]) (fun s => Pu (s.1 ≤ e.vals.l.length ∧ q0 ≤ s.2 ∧ s.2 ≤ 1688849994022912 ∧ mV e.vals.l q0 = mV (e.vals.l.drop s.1) s.2) :: R) (fun s => e.vals.l.length - s.1) (0, q0)
   ⟨rfl, rfl, rfl, rfl, trivial⟩ (fun w h => Sat.pu_in ⟨Nat.zero_le _, by dsimp only; omega, by dsimp only; omega, rfl⟩ h) (fun ⟨k, p⟩ => CT.pu fun ⟨hk1, hp1, hp2, hp3⟩ => ?_)
  dsimp only at hk1 hp1 hp2 hp3 ⊢
  try refine gL ?_
  ((refine RT.ix T (j := (i) * 5) rfl rfl rfl (rD (hR)) (by omega) (by omega) (by omega) rfl rfl ?_); (refine RT.faA T rfl rfl rfl rfl ?_); (refine RT.ldr (u := e.vals.v) T rfl (rD (hR)) (by rw [flat_get (f := EnumT.cells) (z := 5) (fun _ => rfl) hgi (by decide)]; rfl) rfl rfl rfl ?_))
  repeat' (first|refine gL ?_|(refine gv ?_;first|(refine⟨fun hc=>?_,fun hc=>?_⟩<;>first|(exfalso;omega)|skip)|refine gk ?_)|fail)
  ·have hkl : k < e.vals.l.length := by omega
   have hgk := List.getElem?_eq_getElem hkl
   rw [List.drop_eq_getElem_cons hkl, mV, if_pos (by omega)] at hp3
   revert hgk hp3
   generalize e.vals.l[k] = ev
   intro hp3 hgk
   have hv := (en3 ev (List.mem_of_getElem? hgk)).1.2
   ((refine RT.ix T (j := (i) * 5) rfl rfl rfl (rD (hR)) (by omega) (by omega) (by omega) rfl rfl ?_); (refine RT.faA T rfl rfl rfl rfl ?_); (refine RT.ldr (u := e.vals.v) T rfl (rD (hR)) (by rw [flat_get (f := EnumT.cells) (z := 5) (fun _ => rfl) hgi (by decide)]; rfl) rfl rfl rfl ?_))
   try refine gL ?_
   ((refine RT.ix T (j := (k) * 2) rfl rfl rfl (rD (ei1)) (by omega) (by omega) (by omega) rfl rfl ?_); (refine RT.faA T rfl rfl rfl rfl ?_); (refine RT.ldr (u := vS ev.nm) T rfl (rD (ei1)) (by rw [flat_get (f := EValT.cells) (z := 2) (fun _ => rfl) hgk (by decide)]; rfl) rfl rfl rfl ?_))
   repeat' (first|refine gL ?_|(refine gv ?_;refine gk ?_)|fail)
   exact AtQ.loop (k + 1, p + 16 + (ev.nm.length : Int)) ⟨rfl, rfl, rfl, rfl, trivial⟩ (fun w h => Sat.pu_in ⟨by omega, by dsimp only; omega, by dsimp only; omega, hp3⟩ h) (by dsimp only; omega)
  ·have hkl : k < e.vals.l.length := by omega
   rw [List.drop_eq_getElem_cons hkl, mV, if_neg (by omega)] at hp3
   rw [hp3] at hq3
   exact AtQ.loop (i + 1, p) ⟨rfl, rfl, rfl, trivial⟩ (fun w h => Sat.pu_in ⟨by omega, by dsimp only; omega, by dsimp only; omega, hq3⟩ h) (by dsimp only; omega)
  ·rw [List.drop_eq_nil_of_le (by omega), mV] at hp3
   rw [hp3] at hq3
   exact AtQ.loop (i + 1, p) ⟨rfl, rfl, rfl, trivial⟩ (fun w h => Sat.pu_in ⟨by omega, by dsimp only; omega, by dsimp only; omega, hq3⟩ h) (by dsimp only; omega)
 ·have hil : i < l.length := by omega
  rw [List.drop_eq_getElem_cons hil, mE, if_neg (by omega)] at hq3
  exact AtQ.f1 Tryz.results64 rfl (by rw [hq3]) (fun w h => h)
 ·rw [List.drop_eq_nil_of_le (by omega), mE] at hq3
  exact AtQ.f1 Tryz.results64 rfl (by rw [hq3]) (fun w h => h)
end Go.Proofs.YtclcnhfponjdaaaGreatDoor
end
section
namespace Go.Proofs.YtclcnhfponjdaaaGreatDoor
open Go.Sk
set_option maxRecDepth 100000
attribute [local irreducible] Cs Own Ex Pu Yld RT LJ QJ AtQ CT Rd QSp Sp FinQ Then LoopQ CutQ DT TakeQ EffQ
variable {B : World}
set_option maxHeartbeats 16000000 in
theorem mmsgs_fn (n : Nat) : ∀ {R : List HP} {a : Option Addr} {c : Nat} {l : List MsgT} {d : Nat}, 5001 ≤ n + d → d ≤ 5001 → Rd B R a l.length c 7 (l.flatMap MsgT.cells) → l.length ≤ 140737488355328 → MsgT.InL (Rd B R) l → MsgT.OkL l →
  Sp B Tryz.prog 65 [.slice a l.length c, .int .i64 d] R [] (fun v H' => v = .int .i64 (mMs l d) ∧ H' = []) := by
 induction n with
 | zero =>
  intro R a c l d hd hd1 hR hk hin hok
  obtain rfl : d = 5001 := by omega
  refine Sp.body Tryz.func65 rfl Tryz.ntmps65 (by simp) ?_
  simp only [argE, List.cons_append, List.nil_append, Nat.zero_add, Nat.reduceAdd]
  repeat' (first|refine gL ?_|(refine gv ?_;(refine⟨fun hc=>?_,fun hc=>?_⟩<;>first|(exfalso;omega)|skip))|fail)
  have e : mMs l 5001 = 33554433 := by unfold mMs; rw [if_pos (by omega)]
  exact AtQ.fin1 (H' := []) Tryz.results65 rfl ⟨by rw [e], rfl⟩ (fun w h => h)
 | succ n ih =>
  intro R a c l d hd hd1 hR hk hin hok
  by_cases hd2 : d = 5001
  ·subst hd2
   refine Sp.body Tryz.func65 rfl Tryz.ntmps65 (by simp) ?_
   simp only [argE, List.cons_append, List.nil_append, Nat.zero_add, Nat.reduceAdd]
   repeat' (first|refine gL ?_|(refine gv ?_;(refine⟨fun hc=>?_,fun hc=>?_⟩<;>first|(exfalso;omega)|skip))|fail)
   have e : mMs l 5001 = 33554433 := by unfold mMs; rw [if_pos (by omega)]
   exact AtQ.fin1 (H' := []) Tryz.results65 rfl ⟨by rw [e], rfl⟩ (fun w h => h)
  have eM : mMs l d = mML l d 0 := by unfold mMs; rw [if_neg (by omega)]
  rw [eM]
  refine Sp.body Tryz.func65 rfl Tryz.ntmps65 (by simp) ?_
  simp only [argE, List.cons_append, List.nil_append, Nat.zero_add, Nat.reduceAdd]
  repeat' (first|refine gL ?_|(refine gv ?_;(refine⟨fun hc=>?_,fun hc=>?_⟩<;>first|(exfalso;omega)|skip))|fail)
  refine CT.loop (α := Nat × Int) (fun s => [(0, .slice a l.length c), (1, .int .i64 d), (5, .int .i64 s.2), (6, .int .i64 s.1)]) (fun s => Pu (s.1 ≤ l.length ∧ 0 ≤ s.2 ∧ s.2 ≤ 4672000000000000 ∧ mML l d 0 = mML (l.drop s.1) d s.2) :: R) (fun s => l.length - s.1) (0, 0)
   ⟨rfl, rfl, rfl, rfl, trivial⟩ (fun w h => Sat.pu_in ⟨Nat.zero_le _, by decide, by decide, rfl⟩ h) (fun ⟨i, q⟩ => CT.pu fun ⟨hi, hq1, hq2, hq3⟩ => ?_)
  dsimp only at hi hq1 hq2 hq3 ⊢
  repeat' (first|refine gL ?_|(refine gv ?_;first|(refine⟨fun hc=>?_,fun hc=>?_⟩<;>first|(exfalso;omega)|skip)|refine gk ?_)|fail)
  ·have hil : i < l.length := by omega
   have hgi := List.getElem?_eq_getElem hil
   rw [List.drop_eq_getElem_cons hil, mML, if_pos (by omega)] at hq3
   revert hgi hq3
   generalize l[i] = m
   intro hq3 hgi
   have hme := List.mem_of_getElem? hgi
   have hmo := MsgT.okL_mem hok hme
   have hmi := MsgT.inL_mem hin hme
   have hsub : MsgT.OkL m.msgs := by
    cases m with | mk nm fields oneofs ma mc msgs enums res names =>
    unfold MsgT.Ok at hmo
    exact hmo.2.2.2.2.2.2.2
   have hbd := mM1_le (d := d) hmo hq1 (by omega) (mMs_hi 5001 m.msgs (d + 1) (by omega) hsub) (by omega)
   have hlo := (mM1_law m d q hq1).1
   obtain ⟨nm, ⟨fa, fc, fl⟩, ⟨oa, oc, ol⟩, ma, mc, msgs, ⟨ea, ec, el⟩, ⟨ra, rc, rl⟩, ⟨na, nc, nl⟩⟩ := m
   have e1 : mM1 (.mk nm ⟨fa, fc, fl⟩ ⟨oa, oc, ol⟩ ma mc msgs ⟨ea, ec, el⟩ ⟨ra, rc, rl⟩ ⟨na, nc, nl⟩) d q = plusM (mFd fl (q + 64 + nm.length + mT ol 0 + 8 * (rl.length : Int) + mT nl 0 + mE el 0)) (mMs msgs (d + 1)) := by rw [mM1]; rfl
   rw [e1] at hq3 hbd hlo
   clear e1
   unfold MsgT.Ok at hmo
   unfold MsgT.In at hmi
   obtain ⟨⟨_, o1⟩, ⟨⟨o2, _⟩, o2'⟩, ⟨⟨o3, _⟩, o3'⟩, ⟨o4, _⟩, ⟨⟨o5, _⟩, o5'⟩, ⟨⟨o6, _⟩, o6'⟩, ⟨⟨o7, _⟩, o7'⟩, o8⟩ := hmo
   obtain ⟨i1, i2, i3, i4, i5, i6, i7, i8⟩ := hmi
   dsimp only at o1 o2 o2' o3 o3' o4 o5 o5' o6 o6' o7 o7' i1 i2 i3 i4 i5 i6 i7
   have t1 := mT_hi ol 0 o3'
   have t2 := mT_hi nl 0 o7'
   have t3 := mE_hi el 0 o5'
   have u1 := (mT_law ol 0).1
   have u2 := (mT_law nl 0).1
   have u3 := (mE_law el 0 (Int.le_refl 0)).1
   have hfl : ∀ j : Nat, j < 7 → (l.flatMap MsgT.cells)[i * 7 + j]? = [vS nm, .slice fa fl.length fc, .slice oa ol.length oc, .slice ma msgs.length mc, .slice ea el.length ec, .slice ra rl.length rc, .slice na nl.length nc][j]? := fun j hj => flat_get (f := MsgT.cells) (z := 7) (fun _ => rfl) hgi hj
   refine RT.ix T (j := i * 7) rfl rfl rfl (rD (hR)) (by omega) (by omega) (by omega) rfl rfl ?_; refine RT.faA T rfl rfl rfl rfl ?_; refine RT.ldr (u := vS nm) T rfl (rD (hR)) ((hfl 0 (by decide)).trans rfl) rfl rfl rfl ?_
   repeat' (first|refine gL ?_|(refine gv ?_;refine gk ?_)|fail)
   refine RT.ix T (j := i * 7) rfl rfl rfl (rD (hR)) (by omega) (by omega) (by omega) rfl rfl ?_; refine RT.faA T rfl rfl rfl rfl ?_; refine RT.ldr (u := .slice oa ol.length oc) T rfl (rD (hR)) ((hfl 2 (by decide)).trans rfl) rfl rfl rfl ?_
   (refine RT.qcall T rfl (QSp.of fR_ (mtexts_fn (l := ol) i2 o3 o3')) rfl rfl rfl ?_)
   repeat' (first|refine gL ?_|(refine gv ?_;refine gk ?_)|fail)
   refine RT.ix T (j := i * 7) rfl rfl rfl (rD (hR)) (by omega) (by omega) (by omega) rfl rfl ?_; refine RT.faA T rfl rfl rfl rfl ?_; refine RT.ldr (u := .slice ra rl.length rc) T rfl (rD (hR)) ((hfl 5 (by decide)).trans rfl) rfl rfl rfl ?_
   repeat' (first|refine gL ?_|(refine gv ?_;refine gk ?_)|fail)
   refine RT.ix T (j := i * 7) rfl rfl rfl (rD (hR)) (by omega) (by omega) (by omega) rfl rfl ?_; refine RT.faA T rfl rfl rfl rfl ?_; refine RT.ldr (u := .slice na nl.length nc) T rfl (rD (hR)) ((hfl 6 (by decide)).trans rfl) rfl rfl rfl ?_
   (refine RT.qcall T rfl (QSp.of fR_ (mtexts_fn (l := nl) i7 o7 o7')) rfl rfl rfl ?_)
   repeat' (first|refine gL ?_|(refine gv ?_;refine gk ?_)|fail)
   refine RT.ix T (j := i * 7) rfl rfl rfl (rD (hR)) (by omega) (by omega) (by omega) rfl rfl ?_; refine RT.faA T rfl rfl rfl rfl ?_; refine RT.ldr (u := .slice ea el.length ec) T rfl (rD (hR)) ((hfl 4 (by decide)).trans rfl) rfl rfl rfl ?_
   (refine RT.qcall T rfl (QSp.of fR_ (menums_fn (l := el) i4 o5 i5 o5')) rfl rfl rfl ?_)
   repeat' (first|refine gL ?_|(refine gv ?_;refine gk ?_)|fail)
   obtain ⟨q0, hq0⟩ : ∃ q0, q0 = q + 64 + (nm.length : Int) + mT ol 0 + 8 * (rl.length : Int) + mT nl 0 + mE el 0 := ⟨_, rfl⟩
   rw [← hq0] at hq3 hbd hlo ⊢
   refine CT.loop (α := Nat × Int) (fun s => [(0, .slice a l.length c), (1, .int .i64 d), (5, .int .i64 s.2), (6, .int .i64 i), (7, .int .i64 s.1)]) (fun s => Pu (s.1 ≤ fl.length ∧ q0 ≤ s.2 ∧ s.2 ≤ 4672000000000000 ∧ mFd fl q0 = mFd (fl.drop s.1) s.2) :: R) (fun s => fl.length - s.1) (0, q0)
    ⟨rfl, rfl, rfl, rfl, rfl, trivial⟩ (fun w h => Sat.pu_in ⟨Nat.zero_le _, by dsimp only; omega, by dsimp only; omega, rfl⟩ h) (fun ⟨k, p⟩ => CT.pu fun ⟨hk1, hp1, hp2, hp3⟩ => ?_)
   dsimp only at hk1 hp1 hp2 hp3 ⊢
   try refine gL ?_
   refine RT.ix T (j := i * 7) rfl rfl rfl (rD (hR)) (by omega) (by omega) (by omega) rfl rfl ?_; refine RT.faA T rfl rfl rfl rfl ?_; refine RT.ldr (u := .slice fa fl.length fc) T rfl (rD (hR)) ((hfl 1 (by decide)).trans rfl) rfl rfl rfl ?_
   repeat' (first|refine gL ?_|(refine gv ?_;first|(refine⟨fun hc=>?_,fun hc=>?_⟩<;>first|(exfalso;omega)|skip)|refine gk ?_)|fail)
   ·have hkl : k < fl.length := by omega
    have hgk := List.getElem?_eq_getElem hkl
    rw [List.drop_eq_getElem_cons hkl, mFd, if_pos (by omega)] at hp3
    revert hgk hp3
    generalize fl[k] = f
    intro hp3 hgk
    obtain ⟨⟨_, f1⟩, _, _, _, ⟨_, f2⟩, _, _, _, ⟨_, f3⟩⟩ := o2' f (List.mem_of_getElem? hgk)
    refine RT.ix T (j := i * 7) rfl rfl rfl (rD (hR)) (by omega) (by omega) (by omega) rfl rfl ?_; refine RT.faA T rfl rfl rfl rfl ?_; refine RT.ldr (u := .slice fa fl.length fc) T rfl (rD (hR)) ((hfl 1 (by decide)).trans rfl) rfl rfl rfl ?_
    try refine gL ?_
    refine RT.ix T (j := k * 9) rfl rfl rfl (by exact i1) (by omega) (by omega) (by omega) rfl rfl ?_
    refine RT.ldra T rfl (by exact i1) (l := f.cells) (flat_sub (f := FieldT.cells) (z := 9) (fun _ => rfl) fl k _ hgk) rfl rfl rfl rfl ?_
    repeat' (first|refine gM ?_|(refine gv ?_;refine gk ?_)|(refine gb ?_;intro b)|fail)
    revert b
    intro b8
    skip
    exact AtQ.loop (k + 1, p + 64 + (f.nm.length : Int) + (f.ty.length : Int) + (f.js.length : Int)) ⟨rfl, rfl, rfl, rfl, rfl, trivial⟩ (fun w h => Sat.pu_in ⟨by omega, by dsimp only; omega, by dsimp only; omega, hp3⟩ h.tail) (by dsimp only; omega)
   ·have hkl : k < fl.length := by omega
    rw [List.drop_eq_getElem_cons hkl, mFd, if_neg (by omega)] at hp3
    have hpl : plusM p (mMs msgs (d + 1)) = p := by unfold plusM; rw [if_neg (by omega)]
    rw [hp3, hpl] at hq3 hbd hlo
    skip
    exact AtQ.loop (i + 1, p) ⟨rfl, rfl, rfl, rfl, trivial⟩ (fun w h => Sat.pu_in ⟨by omega, by dsimp only; omega, by dsimp only; omega, hq3⟩ h) (by dsimp only; omega)
   ·rw [List.drop_eq_nil_of_le (by omega), mFd] at hp3
    rw [hp3] at hq3 hbd hlo
    have hpl : plusM p (mMs msgs (d + 1)) = p + mMs msgs (d + 1) := by unfold plusM; rw [if_pos (by omega)]
    rw [hpl] at hq3 hbd hlo
    refine RT.ix T (j := i * 7) rfl rfl rfl (rD (hR)) (by omega) (by omega) (by omega) rfl rfl ?_; refine RT.faA T rfl rfl rfl rfl ?_; refine RT.ldr (u := .slice ma msgs.length mc) T rfl (rD (hR)) ((hfl 3 (by decide)).trans rfl) rfl rfl rfl ?_
    repeat' (first|refine gL ?_|(refine gv ?_;refine gk ?_)|fail)
    (refine RT.call T rfl fR_ (ih (l := msgs) (d := d + 1) (by omega) (by omega) i3 o4 i8 o8) rfl rfl rfl ?_; rintro _ _ ⟨rfl, rfl⟩; try simp only [List.cons_append, List.nil_append])
    repeat' (first|refine gL ?_|(refine gv ?_;refine gk ?_)|fail)
    exact AtQ.loop (i + 1, p + mMs msgs (d + 1)) ⟨rfl, rfl, rfl, rfl, trivial⟩ (fun w h => Sat.pu_in ⟨by omega, by dsimp only; omega, by dsimp only; omega, hq3⟩ h) (by dsimp only; omega)
   ·rw [List.drop_eq_nil_of_le (by omega), mFd] at hp3
    rw [hp3] at hq3 hbd hlo
    have hpl : plusM p (mMs msgs (d + 1)) = p := by unfold plusM; rw [if_neg (by omega)]
    rw [hpl] at hq3 hbd hlo
    exact AtQ.loop (i + 1, p) ⟨rfl, rfl, rfl, rfl, trivial⟩ (fun w h => Sat.pu_in ⟨by omega, by dsimp only; omega, by dsimp only; omega, hq3⟩ h) (by dsimp only; omega)
  ·have hil : i < l.length := by omega
   rw [List.drop_eq_getElem_cons hil, mML, if_neg (by omega)] at hq3
   exact AtQ.f1 Tryz.results65 rfl (by rw [hq3]) (fun w h => h)
  ·rw [List.drop_eq_nil_of_le (by omega), mML] at hq3
   exact AtQ.f1 Tryz.results65 rfl (by rw [hq3]) (fun w h => h)
end Go.Proofs.YtclcnhfponjdaaaGreatDoor
end
section
namespace Go.Proofs.YtclcnhfponjdaaaGreatDoor
open Go.Sk
set_option maxRecDepth 100000
attribute [local irreducible] Cs Own Ex Pu Yld RT LJ QJ AtQ CT Rd QSp Sp FinQ Then LoopQ CutQ DT TakeQ EffQ
variable {B : World} {R : List HP}
set_option maxHeartbeats 16000000 in
theorem much_fn {a : Option Addr} {c : Nat} {l : List FileT} (hR : Rd B R a l.length c 5 (l.flatMap FileT.cells)) (hk : l.length ≤ 140737488355328) (hin : ∀ f ∈ l, f.In (Rd B R)) (hok : ∀ f ∈ l, f.Ok) :
  Sp B Tryz.prog 20 [.slice a l.length c] R [] (fun v H' => v = .int .i64 (mFs l 0) ∧ H' = []) := by
 refine Sp.body Tryz.func20 rfl Tryz.ntmps20 (by simp) ?_
 simp only [argE, List.cons_append, List.nil_append, Nat.zero_add, Nat.reduceAdd]
 try refine gL ?_
 refine CT.loop (α := Nat × Int) (fun s => [(0, .slice a l.length c), (3, .int .i64 s.2), (4, .int .i64 s.1)]) (fun s => Pu (s.1 ≤ l.length ∧ 0 ≤ s.2 ∧ s.2 ≤ 4672000000000000 ∧ mFs l 0 = mFs (l.drop s.1) s.2) :: R) (fun s => l.length - s.1) (0, 0)
  ⟨rfl, rfl, rfl, trivial⟩ (fun w h => Sat.pu_in ⟨Nat.zero_le _, by decide, by decide, rfl⟩ h) (fun ⟨i, q⟩ => CT.pu fun ⟨hi, hq1, hq2, hq3⟩ => ?_)
 dsimp only at hi hq1 hq2 hq3 ⊢
 repeat' (first|refine gL ?_|(refine gv ?_;first|(refine⟨fun hc=>?_,fun hc=>?_⟩<;>first|(exfalso;omega)|skip)|refine gk ?_)|fail)
 ·have hil : i < l.length := by omega
  have hgi := List.getElem?_eq_getElem hil
  rw [List.drop_eq_getElem_cons hil, mFs, if_pos (by omega)] at hq3
  revert hgi hq3
  generalize l[i] = f
  intro hq3 hgi
  have hme := List.mem_of_getElem? hgi
  obtain ⟨⟨_, o1⟩, ⟨_, o2⟩, ⟨⟨o3, _⟩, o3'⟩, ⟨⟨o4, _⟩, o4'⟩, ⟨⟨o5, _⟩, o5'⟩⟩ := hok f hme
  obtain ⟨i1, i2, i3, i4, i5⟩ := hin f hme
  dsimp only at o4
  have t3 := mE_hi f.enums.l 0 o5'
  have u3 := (mE_law f.enums.l 0 (Int.le_refl 0)).1
  have hmm := mMs_hi 5001 f.msgs 0 (by omega) (MsgT.okL_of o4')
  have hml : 0 ≤ mMs f.msgs 0 := (mML_law f.msgs 0 0 (Int.le_refl 0)).1
  have e1 : mF1 f q = plusM (mI f.imps.l (q + 64 + f.path.length + f.pack.length + mE f.enums.l 0)) (mMs f.msgs 0) := rfl
  rw [e1] at hq3
  ((refine RT.ix T (j := (i) * 5) rfl rfl rfl (rD (hR)) (by omega) (by omega) (by omega) rfl rfl ?_); (refine RT.faA T rfl rfl rfl rfl ?_); (refine RT.ldr (u := vS f.path) T rfl (rD (hR)) (by rw [flat_get (f := FileT.cells) (z := 5) (fun _ => rfl) hgi (by decide)]; rfl) rfl rfl rfl ?_))
  repeat' (first|refine gL ?_|(refine gv ?_;refine gk ?_)|fail)
  ((refine RT.ix T (j := (i) * 5) rfl rfl rfl (rD (hR)) (by omega) (by omega) (by omega) rfl rfl ?_); (refine RT.faA T rfl rfl rfl rfl ?_); (refine RT.ldr (u := vS f.pack) T rfl (rD (hR)) (by rw [flat_get (f := FileT.cells) (z := 5) (fun _ => rfl) hgi (by decide)]; rfl) rfl rfl rfl ?_))
  repeat' (first|refine gL ?_|(refine gv ?_;refine gk ?_)|fail)
  ((refine RT.ix T (j := (i) * 5) rfl rfl rfl (rD (hR)) (by omega) (by omega) (by omega) rfl rfl ?_); (refine RT.faA T rfl rfl rfl rfl ?_); (refine RT.ldr (u := f.enums.v) T rfl (rD (hR)) (by rw [flat_get (f := FileT.cells) (z := 5) (fun _ => rfl) hgi (by decide)]; rfl) rfl rfl rfl ?_))
  (refine RT.qcall T rfl (QSp.of fR_ (menums_fn (l := f.enums.l) i4 o5 i5 o5')) rfl rfl rfl ?_)
  repeat' (first|refine gL ?_|(refine gv ?_;refine gk ?_)|fail)
  obtain ⟨q0, hq0⟩ : ∃ q0, q0 = q + 64 + (f.path.length : Int) + (f.pack.length : Int) + mE f.enums.l 0 := ⟨_, rfl⟩
  rw [← hq0] at hq3 ⊢
  refine CT.loop (α := Nat × Int) (fun s => [(0, .slice a l.length c), (3, .int .i64 s.2), (4, .int .i64 i), (5, .int .i64 s.1)]) (fun s => Pu (s.1 ≤ f.imps.l.length ∧ q0 ≤ s.2 ∧ s.2 ≤ 4672000000000000 ∧ mI f.imps.l q0 = mI (f.imps.l.drop s.1) s.2) :: R) (fun s => f.imps.l.length - s.1) (0, q0)
   ⟨rfl, rfl, rfl, rfl, trivial⟩ (fun w h => Sat.pu_in ⟨Nat.zero_le _, by dsimp only; omega, by dsimp only; omega, rfl⟩ h) (fun ⟨k, p⟩ => CT.pu fun ⟨hk1, hp1, hp2, hp3⟩ => ?_)
  dsimp only at hk1 hp1 hp2 hp3 ⊢
  try refine gL ?_
  ((refine RT.ix T (j := (i) * 5) rfl rfl rfl (rD (hR)) (by omega) (by omega) (by omega) rfl rfl ?_); (refine RT.faA T rfl rfl rfl rfl ?_); (refine RT.ldr (u := f.imps.v) T rfl (rD (hR)) (by rw [flat_get (f := FileT.cells) (z := 5) (fun _ => rfl) hgi (by decide)]; rfl) rfl rfl rfl ?_))
  repeat' (first|refine gL ?_|(refine gv ?_;first|(refine⟨fun hc=>?_,fun hc=>?_⟩<;>first|(exfalso;omega)|skip)|refine gk ?_)|fail)
  ·have hkl : k < f.imps.l.length := by omega
   have hgk := List.getElem?_eq_getElem hkl
   rw [List.drop_eq_getElem_cons hkl, mI, if_pos (by omega)] at hp3
   revert hgk hp3
   generalize f.imps.l[k] = ev
   intro hp3 hgk
   have hv := (show OkT ev.path from o3' ev (List.mem_of_getElem? hgk)).2
   ((refine RT.ix T (j := (i) * 5) rfl rfl rfl (rD (hR)) (by omega) (by omega) (by omega) rfl rfl ?_); (refine RT.faA T rfl rfl rfl rfl ?_); (refine RT.ldr (u := f.imps.v) T rfl (rD (hR)) (by rw [flat_get (f := FileT.cells) (z := 5) (fun _ => rfl) hgi (by decide)]; rfl) rfl rfl rfl ?_))
   try refine gL ?_
   ((refine RT.ix T (j := (k) * 2) rfl rfl rfl (rD (i1)) (by omega) (by omega) (by omega) rfl rfl ?_); (refine RT.faA T rfl rfl rfl rfl ?_); (refine RT.ldr (u := vS ev.path) T rfl (rD (i1)) (by rw [flat_get (f := ImpT.cells) (z := 2) (fun _ => rfl) hgk (by decide)]; rfl) rfl rfl rfl ?_))
   repeat' (first|refine gL ?_|(refine gv ?_;refine gk ?_)|fail)
   exact AtQ.loop (k + 1, p + 16 + (ev.path.length : Int)) ⟨rfl, rfl, rfl, rfl, trivial⟩ (fun w h => Sat.pu_in ⟨by omega, by dsimp only; omega, by dsimp only; omega, hp3⟩ h) (by dsimp only; omega)
  ·have hkl : k < f.imps.l.length := by omega
   rw [List.drop_eq_getElem_cons hkl, mI, if_neg (by omega)] at hp3
   have hpl : plusM p (mMs f.msgs 0) = p := by unfold plusM; rw [if_neg (by omega)]
   rw [hp3, hpl] at hq3
   exact AtQ.loop (i + 1, p) ⟨rfl, rfl, rfl, trivial⟩ (fun w h => Sat.pu_in ⟨by omega, by dsimp only; omega, by dsimp only; omega, hq3⟩ h) (by dsimp only; omega)
  ·rw [List.drop_eq_nil_of_le (by omega), mI] at hp3
   rw [hp3] at hq3
   have hpl : plusM p (mMs f.msgs 0) = p + mMs f.msgs 0 := by unfold plusM; rw [if_pos (by omega)]
   rw [hpl] at hq3
   ((refine RT.ix T (j := (i) * 5) rfl rfl rfl (rD (hR)) (by omega) (by omega) (by omega) rfl rfl ?_); (refine RT.faA T rfl rfl rfl rfl ?_); (refine RT.ldr (u := .slice f.ma f.msgs.length f.mc) T rfl (rD (hR)) (by rw [flat_get (f := FileT.cells) (z := 5) (fun _ => rfl) hgi (by decide)]; rfl) rfl rfl rfl ?_))
   skip
   (refine RT.call T rfl fR_ (mmsgs_fn 5001 (l := f.msgs) (d := 0) (by omega) (by omega) i2 o4 (MsgT.inL_of i3) (MsgT.okL_of o4')) rfl rfl rfl ?_; rintro _ _ ⟨rfl, rfl⟩; try simp only [List.cons_append, List.nil_append])
   repeat' (first|refine gL ?_|(refine gv ?_;refine gk ?_)|fail)
   exact AtQ.loop (i + 1, p + mMs f.msgs 0) ⟨rfl, rfl, rfl, trivial⟩ (fun w h => Sat.pu_in ⟨by omega, by dsimp only; omega, by dsimp only; omega, hq3⟩ h) (by dsimp only; omega)
  ·rw [List.drop_eq_nil_of_le (by omega), mI] at hp3
   rw [hp3] at hq3
   have hpl : plusM p (mMs f.msgs 0) = p := by unfold plusM; rw [if_neg (by omega)]
   rw [hpl] at hq3
   exact AtQ.loop (i + 1, p) ⟨rfl, rfl, rfl, trivial⟩ (fun w h => Sat.pu_in ⟨by omega, by dsimp only; omega, by dsimp only; omega, hq3⟩ h) (by dsimp only; omega)
 ·have hil : i < l.length := by omega
  rw [List.drop_eq_getElem_cons hil, mFs, if_neg (by omega)] at hq3
  exact AtQ.f1 Tryz.results20 rfl (by rw [hq3]) (fun w h => h)
 ·rw [List.drop_eq_nil_of_le (by omega), mFs] at hq3
  exact AtQ.f1 Tryz.results20 rfl (by rw [hq3]) (fun w h => h)
end Go.Proofs.YtclcnhfponjdaaaGreatDoor
end
section
namespace Go.Proofs.YtclcnhfponjdaaaGreatDoor
open Go.Sk
set_option maxRecDepth 100000
attribute [local irreducible] Cs Own Ex Pu Yld RT LJ QJ AtQ CT Rd QSp Sp FinQ Then LoopQ CutQ DT TakeQ EffQ
variable {B : World} {R : List HP}
theorem rin_fn {x lo hi : Int} : Sp B Tryz.prog 273 [.int .u8 x, .int .u8 lo, .int .u8 hi] R [] (fun v H' => v = .bool (decide (lo ≤ x ∧ x ≤ hi)) ∧ H' = []) := by
 refine Sp.body Tryz.func273 rfl Tryz.ntmps273 (by simp) ?_
 simp only [argE, List.cons_append, List.nil_append, Nat.zero_add, Nat.reduceAdd]
 repeat' (first|refine gL ?_|(refine gv ?_;(refine⟨fun hc=>?_,fun hc=>?_⟩<;>first|(exfalso;omega)|skip))|fail)
 all_goals exact AtQ.f1 Tryz.results273 rfl (by first | (apply dec_t; omega) | (apply dec_f; omega)) (fun w h => h)
end Go.Proofs.YtclcnhfponjdaaaGreatDoor
end
section
namespace Go.Proofs.YtclcnhfponjdaaaGreatDoor
open Go.Sk
set_option maxRecDepth 100000
def restL (c : Int) : Int × Int × Int :=
 if c < 128 then (0, 0, 0) else if 194 ≤ c ∧ c ≤ 223 then (1, 128, 191) else if c = 224 then (2, 160, 191) else if c = 237 then (2, 128, 159) else if 225 ≤ c ∧ c ≤ 239 then (2, 128, 191)
 else if c = 240 then (3, 144, 191) else if 241 ≤ c ∧ c ≤ 243 then (3, 128, 191) else if c = 244 then (3, 128, 143) else (-1, 0, 0)
attribute [local irreducible] Cs Own Ex Pu Yld RT LJ QJ AtQ CT Rd QSp Sp FinQ Then LoopQ CutQ DT TakeQ EffQ
variable {B : World} {R : List HP}
set_option maxHeartbeats 2000000 in
theorem rest_fn {c : Int} (h0 : 0 ≤ c) (h1 : c < 256) : Sp B Tryz.prog 272 [.int .u8 c] R [] (fun v H' => v = .tuple #[.int .i64 (restL c).1, .int .u8 (restL c).2.1, .int .u8 (restL c).2.2] ∧ H' = []) := by
 refine Sp.body Tryz.func272 rfl Tryz.ntmps272 (by simp) ?_
 simp only [argE, List.cons_append, List.nil_append, Nat.zero_add, Nat.reduceAdd]
 have fin : ∀ x : Int × Int × Int, restL c = x → restL c = x := fun _ h => h
 repeat' (first|refine gL ?_|(refine gv ?_;(refine⟨fun hc=>?_,fun hc=>?_⟩<;>first|(exfalso;omega)|skip))|fail)
 ·have e : restL c = (0, 0, 0) := by unfold restL; rw [if_pos (by omega)]
  exact AtQ.f3 Tryz.results272 rfl rfl rfl (by rw [e]) (by rw [e]) (by rw [e]) (fun w h => h)
 ·(refine RT.call T rfl fR_ (rin_fn) rfl rfl rfl ?_; rintro _ _ ⟨rfl, rfl⟩; try simp only [List.cons_append, List.nil_append])
  by_cases a1 : 194 ≤ c ∧ c ≤ 223
  ·rw [decide_eq_true a1]
   try refine gL ?_
   have e : restL c = (1, 128, 191) := by unfold restL; rw [if_neg (by omega), if_pos a1]
   exact AtQ.f3 Tryz.results272 rfl rfl rfl (by rw [e]) (by rw [e]) (by rw [e]) (fun w h => h)
  ·rw [decide_eq_false a1]
   repeat' (first|refine gL ?_|(refine gv ?_;(refine⟨fun hc=>?_,fun hc=>?_⟩<;>first|(exfalso;omega)|skip))|fail)
   ·have e : restL c = (2, 160, 191) := by unfold restL; rw [if_neg (by omega), if_neg a1, if_pos (by omega)]
    exact AtQ.f3 Tryz.results272 rfl rfl rfl (by rw [e]) (by rw [e]) (by rw [e]) (fun w h => h)
   ·have e : restL c = (2, 128, 159) := by unfold restL; rw [if_neg (by omega), if_neg a1, if_neg (by omega), if_pos (by omega)]
    exact AtQ.f3 Tryz.results272 rfl rfl rfl (by rw [e]) (by rw [e]) (by rw [e]) (fun w h => h)
   ·(refine RT.call T rfl fR_ (rin_fn) rfl rfl rfl ?_; rintro _ _ ⟨rfl, rfl⟩; try simp only [List.cons_append, List.nil_append])
    by_cases a2 : 225 ≤ c ∧ c ≤ 239
    ·rw [decide_eq_true a2]
     try refine gL ?_
     have e : restL c = (2, 128, 191) := by unfold restL; rw [if_neg (by omega), if_neg a1, if_neg (by omega), if_neg (by omega), if_pos a2]
     exact AtQ.f3 Tryz.results272 rfl rfl rfl (by rw [e]) (by rw [e]) (by rw [e]) (fun w h => h)
    ·rw [decide_eq_false a2]
     repeat' (first|refine gL ?_|(refine gv ?_;(refine⟨fun hc=>?_,fun hc=>?_⟩<;>first|(exfalso;omega)|skip))|fail)
     ·have e : restL c = (3, 144, 191) := by unfold restL; rw [if_neg (by omega), if_neg a1, if_neg (by omega), if_neg (by omega), if_neg a2, if_pos (by omega)]
      exact AtQ.f3 Tryz.results272 rfl rfl rfl (by rw [e]) (by rw [e]) (by rw [e]) (fun w h => h)
     ·(refine RT.call T rfl fR_ (rin_fn) rfl rfl rfl ?_; rintro _ _ ⟨rfl, rfl⟩; try simp only [List.cons_append, List.nil_append])
      by_cases a3 : 241 ≤ c ∧ c ≤ 243
      ·rw [decide_eq_true a3]
       try refine gL ?_
       have e : restL c = (3, 128, 191) := by unfold restL; rw [if_neg (by omega), if_neg a1, if_neg (by omega), if_neg (by omega), if_neg a2, if_neg (by omega), if_pos a3]
       exact AtQ.f3 Tryz.results272 rfl rfl rfl (by rw [e]) (by rw [e]) (by rw [e]) (fun w h => h)
      ·rw [decide_eq_false a3]
       repeat' (first|refine gL ?_|(refine gv ?_;(refine⟨fun hc=>?_,fun hc=>?_⟩<;>first|(exfalso;omega)|skip))|fail)
       ·have e : restL c = (3, 128, 143) := by unfold restL; rw [if_neg (by omega), if_neg a1, if_neg (by omega), if_neg (by omega), if_neg a2, if_neg (by omega), if_neg a3, if_pos (by omega)]
        exact AtQ.f3 Tryz.results272 rfl rfl rfl (by rw [e]) (by rw [e]) (by rw [e]) (fun w h => h)
       ·have e : restL c = (-1, 0, 0) := by unfold restL; rw [if_neg (by omega), if_neg a1, if_neg (by omega), if_neg (by omega), if_neg a2, if_neg (by omega), if_neg a3, if_neg (by omega)]
        exact AtQ.f3 Tryz.results272 rfl rfl rfl (by rw [e]) (by rw [e]) (by rw [e]) (fun w h => h)
end Go.Proofs.YtclcnhfponjdaaaGreatDoor
end
section
namespace Go.Proofs.YtclcnhfponjdaaaGreatDoor
open Go.Sk
set_option maxRecDepth 100000
theorem rest_range (c : Int) : -1 ≤ (restL c).1 ∧ (restL c).1 ≤ 3 := by
 unfold restL
 repeat' split
 all_goals simp
/-- The i-th byte goes on. -/
def contP (l : List Int) (at_ : Nat) (lo hi : Int) (i : Nat) : Prop := (if i = 1 then lo else 128) ≤ l.getD (at_ + i) 0 ∧ l.getD (at_ + i) 0 ≤ (if i = 1 then hi else 191)
open Classical in
noncomputable def sizeL (l : List Int) (at_ : Nat) : Int :=
 if (restL (l.getD at_ 0)).1 < 0 ∨ (l.length : Int) ≤ at_ + (restL (l.getD at_ 0)).1 then 0
 else if ∀ i : Nat, 1 ≤ i → (i : Int) ≤ (restL (l.getD at_ 0)).1 → contP l at_ (restL (l.getD at_ 0)).2.1 (restL (l.getD at_ 0)).2.2 i then (restL (l.getD at_ 0)).1 + 1 else 0
theorem sizeL_0 {l : List Int} {at_ : Nat} (h : (restL (l.getD at_ 0)).1 < 0 ∨ (l.length : Int) ≤ at_ + (restL (l.getD at_ 0)).1) : sizeL l at_ = 0 := by unfold sizeL; rw [if_pos h]
theorem sizeL_bad {l : List Int} {at_ i : Nat} (h1 : 1 ≤ i) (h2 : (i : Int) ≤ (restL (l.getD at_ 0)).1) (h : ¬ contP l at_ (restL (l.getD at_ 0)).2.1 (restL (l.getD at_ 0)).2.2 i) : sizeL l at_ = 0 := by
 unfold sizeL
 split
 ·rfl
 ·rw [if_neg (fun hall => h (hall i h1 h2))]
theorem sizeL_ok {l : List Int} {at_ : Nat} (h : ¬ ((restL (l.getD at_ 0)).1 < 0 ∨ (l.length : Int) ≤ at_ + (restL (l.getD at_ 0)).1)) (hall : ∀ i : Nat, 1 ≤ i → (i : Int) ≤ (restL (l.getD at_ 0)).1 → contP l at_ (restL (l.getD at_ 0)).2.1 (restL (l.getD at_ 0)).2.2 i) : sizeL l at_ = (restL (l.getD at_ 0)).1 + 1 := by
 unfold sizeL
 rw [if_neg h, if_pos hall]
attribute [local irreducible] Cs Own Ex Pu Yld RT LJ QJ AtQ CT Rd QSp Sp FinQ Then LoopQ CutQ DT TakeQ EffQ
variable {B : World} {R : List HP}
set_option maxHeartbeats 2000000 in
theorem rtsize_fn {l : List Int} {at_ : Nat} (hb : Byt l) (hat : at_ < l.length) (hl : l.length ≤ 140737488355328) : Sp B Tryz.prog 171 [.string (str l), .int .i64 at_] R [] (fun v H' => v = .int .i64 (sizeL l at_) ∧ H' = []) := by
 refine Sp.body Tryz.func171 rfl Tryz.ntmps171 (by simp) ?_
 simp only [argE, List.cons_append, List.nil_append, Nat.zero_add, Nat.reduceAdd]
 try refine gL ?_
 (refine RT.ixs T (j := at_) rfl rfl (by omega) (by omega) (by assumption) rfl rfl rfl ?_)
 obtain ⟨h0, h1⟩ := hb.get (i := at_) (by omega)
 (refine RT.call T rfl fR_ (rest_fn h0 h1) rfl rfl rfl ?_; rintro _ _ ⟨rfl, rfl⟩; try simp only [List.cons_append, List.nil_append])
 have hr := rest_range (l.getD at_ 0)
 have z0 := sizeL_0 (l := l) (at_ := at_)
 have zb := fun i => sizeL_bad (l := l) (at_ := at_) (i := i)
 have zo := sizeL_ok (l := l) (at_ := at_)
 generalize (restL (l.getD at_ 0)).1 = n at *
 generalize (restL (l.getD at_ 0)).2.1 = lo at *
 generalize (restL (l.getD at_ 0)).2.2 = hi at *
 repeat' (first|refine gL ?_|(refine gv ?_;first|(refine⟨fun hc=>?_,fun hc=>?_⟩<;>first|(exfalso;omega)|skip)|refine gk ?_)|fail)
 ·exact AtQ.f1 Tryz.results171 rfl (by rw [z0 (.inl (by assumption))]) (fun w h => h)
 ·exact AtQ.f1 Tryz.results171 rfl (by rw [z0 (.inr (by assumption))]) (fun w h => h)
 ·refine CT.loop (α := Nat) (fun i => [(0, .string (str l)), (1, .int .i64 at_), (5, .int .i64 n), (6, .int .u8 (if i = 1 then lo else 128)), (7, .int .u8 (if i = 1 then hi else 191)), (8, .int .i64 i)]) (fun i => Pu (1 ≤ i ∧ (i : Int) ≤ n + 1 ∧ ∀ j, 1 ≤ j → j < i → contP l at_ lo hi j) :: R) (fun i => 5 - i) 1 ⟨rfl, rfl, rfl, rfl, rfl, rfl, trivial⟩
   (fun w h => Sat.pu_in ⟨Nat.le_refl _, by omega, fun j h1 h2 => absurd h2 (by omega)⟩ h) (fun i => CT.pu fun ⟨hi1, hi2, ho⟩ => ?_)
  repeat' (first|refine gL ?_|(refine gv ?_;first|(refine⟨fun hc=>?_,fun hc=>?_⟩<;>first|(exfalso;omega)|skip)|refine gk ?_)|fail)
  ·refine RT.ixs T (j := at_ + i) rfl rfl (by omega) (by omega) hb rfl rfl rfl ?_
   try refine gL ?_
   (refine RT.call T rfl fR_ (rin_fn) rfl rfl rfl ?_; rintro _ _ ⟨rfl, rfl⟩; try simp only [List.cons_append, List.nil_append])
   by_cases hc : contP l at_ lo hi i
   ·rw [decide_eq_true (show _ ∧ _ from hc)]
    repeat' (first|refine gL ?_|(refine gv ?_;refine gk ?_)|fail)
    exact AtQ.loop (i + 1) ⟨rfl, rfl, rfl, by rw [if_neg (show ¬ i + 1 = 1 by omega)]; rfl, by rw [if_neg (show ¬ i + 1 = 1 by omega)]; rfl, rfl, trivial⟩ (fun w h => Sat.pu_in ⟨by omega, by omega, fun j h1 h2 => by
     by_cases hji : j = i
     ·rw [hji]; exact hc
     ·exact ho j h1 (by omega)⟩ h) (by omega)
   ·rw [decide_eq_false (show ¬ (_ ∧ _) from hc)]
    try refine gL ?_
    exact AtQ.f1 Tryz.results171 rfl (by rw [zb i hi1 (by omega) hc]) (fun w h => h)
  ·exact AtQ.f1 Tryz.results171 rfl (by rw [zo (by omega) (fun j h1 h2 => ho j h1 (by omega))]) (fun w h => h)
end Go.Proofs.YtclcnhfponjdaaaGreatDoor
end
section
namespace Go.Proofs.YtclcnhfponjdaaaGreatDoor
open Go.Sk
set_option maxRecDepth 100000
/-- What the plain law of sizes says of a text. -/
def SizeLaw (l : List Int) : Prop := ∀ p, p < l.length → (((Utf8.decode (str l) p).1 = 65533 ∧ (Utf8.decode (str l) p).2 = 1) → sizeL l p = 0) ∧ (¬ ((Utf8.decode (str l) p).1 = 65533 ∧ (Utf8.decode (str l) p).2 = 1) → sizeL l p = (Utf8.decode (str l) p).2 ∧ p + (Utf8.decode (str l) p).2 ≤ l.length)
attribute [local irreducible] Cs Own Ex Pu Yld RT LJ QJ AtQ CT Rd QSp Sp FinQ Then LoopQ CutQ DT TakeQ EffQ
variable {B : World} {R : List HP}
set_option maxHeartbeats 1000000 in
theorem rgood_fn {l : List Int} (hz : SizeLaw l) (hb : Byt l) (hl : l.length ≤ 140737488355328) : Sp B Tryz.prog 79 [.string (str l)] R [] (fun v H' => v = .int .i64 (goodL l) ∧ H' = []) := by
 refine Sp.body Tryz.func79 rfl Tryz.ntmps79 (by simp) ?_
 simp only [argE, List.cons_append, List.nil_append, Nat.zero_add, Nat.reduceAdd]
 try refine gL ?_
 refine CT.loop (α := Nat) (fun p => [(0, .string (str l)), (3, .int .i64 p)]) (fun p => Pu (GooI l p ∧ p ≤ l.length) :: R) (fun p => l.length - p) 0 ⟨rfl, rfl, trivial⟩
  (fun w h => Sat.pu_in ⟨GooI.z l, Nat.zero_le _⟩ h) (fun p => CT.pu fun ⟨hp, hpl⟩ => ?_)
 have hdp := dec_pos (str l) p
 repeat' (first|refine gL ?_|(refine gv ?_;(refine⟨fun hc=>?_,fun hc=>?_⟩<;>first|(exfalso;omega)|skip))|fail)
 ·obtain ⟨z1, z2⟩ := hz p (by omega)
  (refine RT.call T rfl fR_ (rtsize_fn hb (by omega) hl) rfl rfl rfl ?_; rintro _ _ ⟨rfl, rfl⟩; try simp only [List.cons_append, List.nil_append])
  by_cases hbad : (Utf8.decode (str l) p).1 = 65533 ∧ (Utf8.decode (str l) p).2 = 1
  ·rw [z1 hbad]
   repeat' (first|refine gL ?_|(refine gv ?_;(refine⟨fun hc=>?_,fun hc=>?_⟩<;>first|(exfalso;omega)|skip))|fail)
   exact AtQ.f1 Tryz.results79 rfl (by rw [hp.bad (by omega) hbad]) (fun w h => h)
  ·obtain ⟨z3, z4⟩ := z2 hbad
   rw [z3]
   repeat' (first|refine gL ?_|(refine gv ?_;first|(refine⟨fun hc=>?_,fun hc=>?_⟩<;>first|(exfalso;omega)|skip)|refine gk ?_)|fail)
   exact AtQ.loop (p + (Utf8.decode (str l) p).2) ⟨rfl, rfl, trivial⟩ (fun w h => Sat.pu_in ⟨hp.go (by omega) hbad, z4⟩ h) (by omega)
 ·exact AtQ.f1 Tryz.results79 rfl (by rw [hp.end_ (by omega)]) (fun w h => h)
end Go.Proofs.YtclcnhfponjdaaaGreatDoor
end
section
namespace Go.Proofs.YtclcnhfponjdaaaGreatDoor
open Go.Sk Go.Lib
set_option maxRecDepth 100000
def BadN (x : Nat × Nat) : Prop := x.1 = 65533 ∧ x.2 = 1
instance (x : Nat × Nat) : Decidable (BadN x) := inferInstanceAs (Decidable (_ ∧ _))
abbrev D (m : List UInt8) : Nat × Nat := decodeL m
def gd : Nat → List UInt8 → Option Nat
 | 0, _ => none
 | f + 1, m => if m = [] then none else if BadN (D m) then some 0 else (gd f (m.drop (D m).2)).map (· + (D m).2)
def G (m : List UInt8) : Option Nat := gd m.length m
end Go.Proofs.YtclcnhfponjdaaaGreatDoor
end
section
namespace Go.Proofs.YtclcnhfponjdaaaGreatDoor
open Go.Sk Go.Lib
set_option maxRecDepth 100000
theorem dec_at (l : List Int) (hb : Byt l) (p : Nat) (hp : p < l.length) : ∃ b0 b1 b2 b3 : Nat, Utf8.decode (str l) p = decodeN (l.length - p) b0 b1 b2 b3 ∧ (b0 : Int) = l.getD p 0 ∧ (p + 1 < l.length → (b1 : Int) = l.getD (p + 1) 0) ∧ (p + 2 < l.length → (b2 : Int) = l.getD (p + 2) 0) ∧ (p + 3 < l.length → (b3 : Int) = l.getD (p + 3) 0) := by
 have hg : ∀ j, j < l.length → ((((str l).data.toList.getD j 0).toNat : Nat) : Int) = l.getD j 0 := fun j hj => by
  rw [str_list]
  have : (l.map b8).getD j 0 = b8 (l.getD j 0) := by simp [List.getD_eq_getElem?_getD, hj]
  rw [this, b8_nat (hb.get hj)]
 refine ⟨_, _, _, _, ?_, hg p hp, hg (p + 1), hg (p + 2), hg (p + 3)⟩
 rw [decode_N, str_list, List.length_map]
def decBad (x : Nat × Nat) : Prop := x.1 = 65533 ∧ x.2 = 1
theorem size1 {l : List Int} {p b0 b1 b2 b3 : Nat} (hp : p < l.length) (e0 : (b0 : Int) = l.getD p 0) (e1 : p + 1 < l.length → (b1 : Int) = l.getD (p + 1) 0) (h0 : 194 ≤ b0) (h1 : b0 ≤ 223) :
  (decBad (decodeN (l.length - p) b0 b1 b2 b3) → sizeL l p = 0) ∧ (¬ decBad (decodeN (l.length - p) b0 b1 b2 b3) → sizeL l p = (decodeN (l.length - p) b0 b1 b2 b3).2 ∧ p + (decodeN (l.length - p) b0 b1 b2 b3).2 ≤ l.length) := by
 have hr : restL (l.getD p 0) = (1, 128, 191) := by unfold restL; rw [if_neg (by omega), if_pos (by omega)]
 by_cases hroom : p + 1 < l.length
 ·have e1' := e1 hroom
  by_cases hc : 128 ≤ b1 ∧ b1 ≤ 191
  ·have hd : decodeN (l.length - p) b0 b1 b2 b3 = (b0 % 32 * 64 + b1 % 64, 2) := by
    unfold decodeN
    rw [if_neg (by omega), if_pos (by omega), if_pos (by omega)]
   have hz : sizeL l p = 2 := by
    rw [sizeL_ok (by rw [hr]; simp only; omega) (by
     rw [hr]
     intro i h1 h2
     simp only at h2
     obtain rfl : i = 1 := by omega
     unfold contP
     simp only [if_true]
     omega), hr]
    rfl
   rw [hd, hz]
   refine ⟨fun h => ?_, fun _ => ⟨rfl, by simp only; omega⟩⟩
   unfold decBad at h
   simp at h
  ·have hd : decodeN (l.length - p) b0 b1 b2 b3 = (65533, 1) := by
    unfold decodeN
    rw [if_neg (by omega), if_neg (by omega), if_neg (by omega), if_neg (by omega)]
   have hz : sizeL l p = 0 := sizeL_bad (i := 1) (Nat.le_refl _) (by rw [hr]; simp) (by rw [hr]; unfold contP; simp only [if_true]; omega)
   rw [hd, hz]
   exact ⟨fun _ => rfl, fun h => absurd ⟨rfl, rfl⟩ h⟩
 ·have hd : decodeN (l.length - p) b0 b1 b2 b3 = (65533, 1) := by
   unfold decodeN
   rw [if_neg (by omega), if_neg (by omega), if_neg (by omega), if_neg (by omega)]
  have hz : sizeL l p = 0 := sizeL_0 (.inr (by rw [hr]; simp only; omega))
  rw [hd, hz]
  exact ⟨fun _ => rfl, fun h => absurd ⟨rfl, rfl⟩ h⟩
set_option maxHeartbeats 2000000 in
theorem size2 {l : List Int} {p b0 b1 b2 b3 : Nat} {lo hi : Int} (hp : p < l.length) (e1 : p + 1 < l.length → (b1 : Int) = l.getD (p + 1) 0) (e2 : p + 2 < l.length → (b2 : Int) = l.getD (p + 2) 0) (hr : restL (l.getD p 0) = (2, lo, hi))
  (h : (b0 = 224 ∧ lo = 160 ∧ hi = 191) ∨ (b0 = 237 ∧ lo = 128 ∧ hi = 159) ∨ (225 ≤ b0 ∧ b0 ≤ 239 ∧ b0 ≠ 237 ∧ lo = 128 ∧ hi = 191)) :
  (decBad (decodeN (l.length - p) b0 b1 b2 b3) → sizeL l p = 0) ∧ (¬ decBad (decodeN (l.length - p) b0 b1 b2 b3) → sizeL l p = (decodeN (l.length - p) b0 b1 b2 b3).2 ∧ p + (decodeN (l.length - p) b0 b1 b2 b3).2 ≤ l.length) := by
 by_cases hroom : p + 2 < l.length
 ·have e1' := e1 (by omega)
  have e2' := e2 hroom
  by_cases hc : (lo ≤ b1 ∧ (b1 : Int) ≤ hi) ∧ (128 ≤ b2 ∧ b2 ≤ 191)
  ·have hd : decodeN (l.length - p) b0 b1 b2 b3 = (b0 % 16 * 4096 + b1 % 64 * 64 + b2 % 64, 3) := by
    unfold decodeN
    rw [if_neg (by omega), if_neg (by omega), if_pos (by omega), if_pos (by omega)]
   have hz : sizeL l p = 3 := by
    rw [sizeL_ok (by rw [hr]; simp only; omega) (by
     rw [hr]
     intro i h1 h2
     simp only at h2
     have h12 : i = 1 ∨ i = 2 := by omega
     rcases h12 with rfl | rfl
     ·unfold contP
      simp only [if_true]
      omega
     ·unfold contP
      simp only [show ¬ (2 = 1) by decide, if_false]
      omega), hr]
    rfl
   rw [hd, hz]
   refine ⟨fun h => ?_, fun _ => ⟨rfl, by simp only; omega⟩⟩
   unfold decBad at h
   simp at h
  ·have hd : decodeN (l.length - p) b0 b1 b2 b3 = (65533, 1) := by
    unfold decodeN
    rw [if_neg (by omega), if_neg (by omega)]
    split
    ·rw [if_neg (by omega)]
    ·rw [if_neg (by omega)]
   have hz : sizeL l p = 0 := by
    by_cases hc1 : lo ≤ b1 ∧ (b1 : Int) ≤ hi
    ·refine sizeL_bad (i := 2) (by decide) (by rw [hr]; simp) (by rw [hr]; unfold contP; simp only [show ¬ (2 = 1) by decide, if_false]; omega)
    ·refine sizeL_bad (i := 1) (Nat.le_refl _) (by rw [hr]; simp) (by rw [hr]; unfold contP; simp only [if_true]; omega)
   rw [hd, hz]
   exact ⟨fun _ => rfl, fun h => absurd ⟨rfl, rfl⟩ h⟩
 ·have hd : decodeN (l.length - p) b0 b1 b2 b3 = (65533, 1) := by
   unfold decodeN
   rw [if_neg (by omega), if_neg (by omega), if_neg (by omega), if_neg (by omega)]
  have hz : sizeL l p = 0 := sizeL_0 (.inr (by rw [hr]; simp only; omega))
  rw [hd, hz]
  exact ⟨fun _ => rfl, fun h => absurd ⟨rfl, rfl⟩ h⟩
set_option maxHeartbeats 2000000 in
theorem size3 {l : List Int} {p b0 b1 b2 b3 : Nat} {lo hi : Int} (hp : p < l.length) (e1 : p + 1 < l.length → (b1 : Int) = l.getD (p + 1) 0) (e2 : p + 2 < l.length → (b2 : Int) = l.getD (p + 2) 0) (e3 : p + 3 < l.length → (b3 : Int) = l.getD (p + 3) 0) (hr : restL (l.getD p 0) = (3, lo, hi))
  (h : (b0 = 240 ∧ lo = 144 ∧ hi = 191) ∨ (b0 = 244 ∧ lo = 128 ∧ hi = 143) ∨ (241 ≤ b0 ∧ b0 ≤ 243 ∧ lo = 128 ∧ hi = 191)) :
  (decBad (decodeN (l.length - p) b0 b1 b2 b3) → sizeL l p = 0) ∧ (¬ decBad (decodeN (l.length - p) b0 b1 b2 b3) → sizeL l p = (decodeN (l.length - p) b0 b1 b2 b3).2 ∧ p + (decodeN (l.length - p) b0 b1 b2 b3).2 ≤ l.length) := by
 by_cases hroom : p + 3 < l.length
 ·have e1' := e1 (by omega)
  have e2' := e2 (by omega)
  have e3' := e3 hroom
  by_cases hc : (lo ≤ b1 ∧ (b1 : Int) ≤ hi) ∧ (128 ≤ b2 ∧ b2 ≤ 191) ∧ (128 ≤ b3 ∧ b3 ≤ 191)
  ·have hd : decodeN (l.length - p) b0 b1 b2 b3 = (b0 % 8 * 262144 + b1 % 64 * 4096 + b2 % 64 * 64 + b3 % 64, 4) := by
    unfold decodeN
    rw [if_neg (by omega), if_neg (by omega), if_neg (by omega), if_pos (by omega), if_pos (by omega)]
   have hz : sizeL l p = 4 := by
    rw [sizeL_ok (by rw [hr]; simp only; omega) (by
     rw [hr]
     intro i h1 h2
     simp only at h2
     have h12 : i = 1 ∨ i = 2 ∨ i = 3 := by omega
     rcases h12 with rfl | rfl | rfl
     ·unfold contP
      simp only [if_true]
      omega
     ·unfold contP
      simp only [show ¬ (2 = 1) by decide, if_false]
      omega
     ·unfold contP
      simp only [show ¬ (3 = 1) by decide, if_false]
      omega), hr]
    rfl
   rw [hd, hz]
   refine ⟨fun h => ?_, fun _ => ⟨rfl, by simp only; omega⟩⟩
   unfold decBad at h
   simp at h
  ·have hd : decodeN (l.length - p) b0 b1 b2 b3 = (65533, 1) := by
    unfold decodeN
    rw [if_neg (by omega), if_neg (by omega), if_neg (by omega)]
    split
    ·rw [if_neg (by omega)]
    ·rfl
   have hz : sizeL l p = 0 := by
    by_cases hc1 : lo ≤ b1 ∧ (b1 : Int) ≤ hi
    ·by_cases hc2 : 128 ≤ b2 ∧ b2 ≤ 191
     ·refine sizeL_bad (i := 3) (by decide) (by rw [hr]; simp) (by rw [hr]; unfold contP; simp only [show ¬ (3 = 1) by decide, if_false]; omega)
     ·refine sizeL_bad (i := 2) (by decide) (by rw [hr]; simp) (by rw [hr]; unfold contP; simp only [show ¬ (2 = 1) by decide, if_false]; omega)
    ·refine sizeL_bad (i := 1) (Nat.le_refl _) (by rw [hr]; simp) (by rw [hr]; unfold contP; simp only [if_true]; omega)
   rw [hd, hz]
   exact ⟨fun _ => rfl, fun h => absurd ⟨rfl, rfl⟩ h⟩
 ·have hd : decodeN (l.length - p) b0 b1 b2 b3 = (65533, 1) := by
   unfold decodeN
   rw [if_neg (by omega), if_neg (by omega), if_neg (by omega), if_neg (by omega)]
  have hz : sizeL l p = 0 := sizeL_0 (.inr (by rw [hr]; simp only; omega))
  rw [hd, hz]
  exact ⟨fun _ => rfl, fun h => absurd ⟨rfl, rfl⟩ h⟩
theorem size_law {l : List Int} (hb : Byt l) : SizeLaw l := by
 intro p hp
 obtain ⟨b0, b1, b2, b3, hd, e0, e1, e2, e3⟩ := dec_at l hb p hp
 obtain ⟨c0, c1⟩ := hb.get hp
 rw [hd]
 by_cases h1 : b0 < 128
 ·have hr : restL (l.getD p 0) = (0, 0, 0) := by unfold restL; rw [if_pos (by omega)]
  have hx : decodeN (l.length - p) b0 b1 b2 b3 = (b0, 1) := by unfold decodeN; rw [if_pos h1]
  have hz : sizeL l p = 1 := by
   rw [sizeL_ok (by rw [hr]; simp only; omega) (by rw [hr]; intro i h1 h2; simp only at h2; omega), hr]
   rfl
  rw [hx, hz]
  exact ⟨fun h => by simp only at h; omega, fun _ => ⟨rfl, by simp only; omega⟩⟩
 ·by_cases h2 : 194 ≤ b0 ∧ b0 ≤ 223
  ·exact size1 hp e0 e1 h2.1 h2.2
  ·by_cases h3 : 224 ≤ b0 ∧ b0 ≤ 239
   ·by_cases h4 : b0 = 224
    ·exact size2 (lo := 160) (hi := 191) hp e1 e2 (by unfold restL; rw [if_neg (by omega), if_neg (by omega), if_pos (by omega)]) (by omega)
    ·by_cases h5 : b0 = 237
     ·exact size2 (lo := 128) (hi := 159) hp e1 e2 (by unfold restL; rw [if_neg (by omega), if_neg (by omega), if_neg (by omega), if_pos (by omega)]) (by omega)
     ·exact size2 (lo := 128) (hi := 191) hp e1 e2 (by unfold restL; rw [if_neg (by omega), if_neg (by omega), if_neg (by omega), if_neg (by omega), if_pos (by omega)]) (by omega)
   ·by_cases h6 : 240 ≤ b0 ∧ b0 ≤ 244
    ·by_cases h7 : b0 = 240
     ·exact size3 (lo := 144) (hi := 191) hp e1 e2 e3 (by unfold restL; rw [if_neg (by omega), if_neg (by omega), if_neg (by omega), if_neg (by omega), if_neg (by omega), if_pos (by omega)]) (by omega)
     ·by_cases h8 : b0 = 244
      ·exact size3 (lo := 128) (hi := 143) hp e1 e2 e3 (by unfold restL; rw [if_neg (by omega), if_neg (by omega), if_neg (by omega), if_neg (by omega), if_neg (by omega), if_neg (by omega), if_neg (by omega), if_pos (by omega)]) (by omega)
      ·exact size3 (lo := 128) (hi := 191) hp e1 e2 e3 (by unfold restL; rw [if_neg (by omega), if_neg (by omega), if_neg (by omega), if_neg (by omega), if_neg (by omega), if_neg (by omega), if_pos (by omega)]) (by omega)
    ·have hr : restL (l.getD p 0) = (-1, 0, 0) := by unfold restL; rw [if_neg (by omega), if_neg (by omega), if_neg (by omega), if_neg (by omega), if_neg (by omega), if_neg (by omega), if_neg (by omega), if_neg (by omega)]
     have hz : sizeL l p = 0 := sizeL_0 (.inl (by rw [hr]; simp))
     have hx : decodeN (l.length - p) b0 b1 b2 b3 = (65533, 1) := by
      unfold decodeN
      rw [if_neg h1]
      split
      ·rw [if_neg (by omega)]
      ·split
       ·exfalso; omega
       ·split
        ·rw [if_neg (by omega)]
        ·rfl
     rw [hx, hz]
     exact ⟨fun _ => rfl, fun h => absurd ⟨rfl, rfl⟩ h⟩
end Go.Proofs.YtclcnhfponjdaaaGreatDoor
end
section
namespace Go.Proofs.YtclcnhfponjdaaaGreatDoor
open Go.Sk
set_option maxRecDepth 100000
theorem enc_small {x : Int} (h : x < 128) : enc x = [x] := by
 unfold enc
 rw [encF, if_pos h]
abbrev outp (p : Nat) (a : Option Addr) (n c : Nat) (bad : Bool) : HP := Cs p 167 [.slice a n c, .bool bad]
/-- An Out in memory. -/
def OutP (p : Nat) (b : Txt) (bad : Bool) : HP := Ex fun x : Option Addr × Nat => [outp p x.1 b.length x.2 bad, own8 x.1 x.2 b b.length]
section
variable {B : World}
theorem CT.outp {n : Fm} {p : Nat} {c : Code} {E : Env} {H : List HP} {Q : Exit → Act → World → Prop} {b : Txt} {bad : Bool} (h : ∀ x : Option Addr × Nat, CT B Tryz.prog n c E (outp p x.1 b.length x.2 bad :: own8 x.1 x.2 b b.length :: H) Q) : CT B Tryz.prog n c E (OutP p b bad :: H) Q := CT.ex h
theorem OutP.in_ {p : Nat} {b : Txt} {bad : Bool} {H : List HP} {w : World} (a : Option Addr) (c : Nat) (h : Sat B (outp p a b.length c bad :: own8 a c b b.length :: H) w) : Sat B (OutP p b bad :: H) w :=
 Sat.ex_in (f := fun x : Option Addr × Nat => [outp p x.1 b.length x.2 bad, own8 x.1 x.2 b b.length]) (a, c) h
end
attribute [local irreducible] Cs Own Ex Pu Yld RT LJ QJ AtQ CT Rd QSp Sp FinQ Then LoopQ CutQ DT TakeQ EffQ
attribute [local irreducible] OutP
variable {B : World} {R : List HP}
set_option maxHeartbeats 1000000 in
theorem onum_fn {p : Nat} {num v : Int} {b : Txt} {bad : Bool} (h1 : 1 ≤ num) (h2 : num ≤ 15) (hv : V64 v) (hb : b.length ≤ 1000000000000) :
  Sp B Tryz.prog 261 [ptr p, .int .i64 num, .int .u64 v] R [OutP p b bad] (fun u H' => u = .tuple #[] ∧ H' = [OutP p (b ++ fSmall num v) bad]) := by
 have hel := enc_len hv
 refine Sp.body Tryz.func261 rfl Tryz.ntmps261 (by simp) ?_
 simp only [argE, List.cons_append, List.nil_append, Nat.zero_add, Nat.reduceAdd]
 refine CT.outp fun x => ?_
 repeat' (first|refine gQ ?_|(refine gv ?_;first|(refine⟨fun hc=>?_,fun hc=>?_⟩<;>first|(exfalso;omega)|skip)|refine gk ?_)|(refine RT.isPush ?_;refine gp ?_;intro a' c' b' c1' hac)|fail)
 ·refine AtQ.f0 Tryz.results261 (fun w h => ?_) (by first | exact .inl rfl | exact .inr rfl)
  unfold fSmall
  rw [if_pos hc, List.append_nil]
  exact OutP.in_ x.1 x.2 h
 ·refine CT.drawn [outp p a' (b.length + 1) c' bad] 10 mixed ?_
  (refine DT.takes (k := 5) [0, 1, 2, 3, 4, 5] [6, 7, 8, 9, 10] (fun w h => Sat.ones (by (repeat (first|exact Fr.nil|(apply Fr.cons;focus ((repeat constructor);done))))) h) (by kernel_rfl) (by kernel_rfl) (by kernel_rfl) rfl (Clos.ofB (by kernel_rfl)) ?_)
  try refine gL ?_
  refine AtQ.take ?_
  (refine DT.eff 6 rfl (by kernel_rfl) ?_)
  refine RT.call T rfl fR_ (shortest_fn hv) rfl rfl rfl ?_
  rintro _ _ ⟨a2, c2, rfl, rfl⟩
  simp only [List.cons_append, List.nil_append]
  refine RT.fact (p := (enc v).length ≤ c2) (fun w h => (Own.facts h .h).2.1) fun hc2 => ?_
  (refine RT.nil ?_; refine AtQ.eff (fun w h => Sat.ones fR_ h) ?_)
  (refine DT.eff 7 rfl (by kernel_rfl) ?_)
  refine RT.appI T (l := b ++ [8 * num]) (l' := enc v) rfl rfl rfl (Own.rdI sE_ rfl hc2) (fun a' c' => by ((repeat constructor);done)) (by omega) (by omega) rfl rfl rfl rfl (fun a3 c3 hc3 => ?_)
  (refine RT.nil ?_; refine AtQ.eff (fun w h => Sat.ones fR_ h) ?_)
  (refine DT.takes (k := 1) [8, 9] [10] (fun w h => Sat.ones (by (repeat (first|exact Fr.nil|(apply Fr.cons;focus ((repeat constructor);done))))) h) (by kernel_rfl) (by kernel_rfl) (by kernel_rfl) rfl (Clos.ofB (by kernel_rfl)) ?_)
  try refine gL ?_
  refine AtQ.take ?_
  (refine DT.eff 10 rfl (by kernel_rfl) ?_)
  try refine gL ?_
  refine AtQ.eff' (by kernel_rfl) ?_
  (refine DT.done (by kernel_rfl) ?_)
  skip
  refine AtQ.f0 Tryz.results261 (fun w h => ?_) (by first | exact .inl rfl | exact .inr rfl)
  have e : b ++ fSmall num v = b ++ [8 * num] ++ enc v := by
   unfold fSmall
   rw [if_neg hc, enc_small (by omega), show num * 8 + 0 = 8 * num by omega, List.append_assoc]
  have el : (b ++ [8 * num] ++ enc v).length = b.length + 1 + (enc v).length := by simp only [List.length_append, List.length_singleton]
  rw [e]
  refine OutP.in_ a3 c3 ?_
  rw [el]
  exact h.frd (Ps := [_, _]) (Qs := [_]) fR_
theorem osigned_fn {p : Nat} {num v : Int} {b : Txt} {bad : Bool} (h1 : 1 ≤ num) (h2 : num ≤ 15) (hv : I64 v) (hb : b.length ≤ 1000000000000) :
  Sp B Tryz.prog 264 [ptr p, .int .i64 num, .int .i64 v] R [OutP p b bad] (fun u H' => u = .tuple #[] ∧ H' = [OutP p (b ++ fSign num v) bad]) := by
 refine Sp.body Tryz.func264 rfl Tryz.ntmps264 (by simp) ?_
 simp only [argE, List.cons_append, List.nil_append, Nat.zero_add, Nat.reduceAdd]
 try refine gL ?_
 (refine RT.qcall T rfl (QSp.of fR_ (rzigzag_fn hv)) rfl rfl rfl ?_)
 skip
 (refine RT.call T rfl fR_ (onum_fn h1 h2 (zig_ok hv) hb) rfl rfl rfl ?_; rintro _ _ ⟨rfl, rfl⟩; try simp only [List.cons_append, List.nil_append])
 try refine gL ?_
 refine AtQ.f0 Tryz.results264 (fun w h => ?_) (by first | exact .inl rfl | exact .inr rfl)
 have e : fSmall num (zig v) = fSign num v := by
  unfold fSmall fSign
  by_cases h0 : v = 0
  ·subst h0; rfl
  ·rw [if_neg h0, if_neg (by unfold zig; split <;> omega)]
 rw [← e]
 exact h
theorem oyes_fn {p : Nat} {num : Int} {v : Bool} {b : Txt} {bad : Bool} (h1 : 1 ≤ num) (h2 : num ≤ 15) (hb : b.length ≤ 1000000000000) :
  Sp B Tryz.prog 161 [ptr p, .int .i64 num, .bool v] R [OutP p b bad] (fun u H' => u = .tuple #[] ∧ H' = [OutP p (b ++ fTruth num v) bad]) := by
 refine Sp.body Tryz.func161 rfl Tryz.ntmps161 (by simp) ?_
 simp only [argE, List.cons_append, List.nil_append, Nat.zero_add, Nat.reduceAdd]
 cases v
 ·try refine gL ?_
  refine AtQ.f0 Tryz.results161 (fun w h => ?_) (by first | exact .inl rfl | exact .inr rfl)
  unfold fTruth
  rw [if_neg (by decide), List.append_nil]
  exact h
 ·try refine gL ?_
  (refine RT.call T rfl fR_ (onum_fn h1 h2 (v := 1) ⟨by decide, by decide⟩ hb) rfl rfl rfl ?_; rintro _ _ ⟨rfl, rfl⟩; try simp only [List.cons_append, List.nil_append])
  try refine gL ?_
  exact AtQ.f0 Tryz.results161 (fun w h => by rw [show fTruth num true = fSmall num 1 from rfl]; exact h) (by first | exact .inl rfl | exact .inr rfl)
set_option maxHeartbeats 1000000 in
theorem obytes_fn {p : Nat} {num : Int} {b : Txt} {bad : Bool} {a2 : Option Addr} {k c2 : Nat} {l : Txt} (h1 : 1 ≤ num) (h2 : num ≤ 15) (hR : Rd B R a2 k c2 1 (ints .u8 l)) (hl : l.length ≤ 1000000000000) (hb : b.length ≤ 1000000000000) :
  Sp B Tryz.prog 159 [ptr p, .int .i64 num, .slice a2 k c2] R [OutP p b bad] (fun u H' => u = .tuple #[] ∧ H' = [OutP p (b ++ fBytes num l) bad]) := by
 have hkl := hR.lenI
 have hv : V64 (k : Int) := ⟨by omega, by omega⟩
 have hel := enc_len hv
 refine Sp.body Tryz.func159 rfl Tryz.ntmps159 (by simp) ?_
 simp only [argE, List.cons_append, List.nil_append, Nat.zero_add, Nat.reduceAdd]
 refine CT.outp fun x => ?_
 repeat' (first|refine gQ ?_|(refine gv ?_;refine gk ?_)|(refine RT.isPush ?_;refine gp ?_;intro a' c' b' c1' hac)|fail)
 refine CT.drawn [outp p a' (b.length + 1) c' bad] 12 mixed ?_
 (refine DT.takes (k := 5) [0, 1, 2, 3, 4, 5, 6, 7] [8, 9, 10, 11, 12] (fun w h => Sat.ones (by (repeat (first|exact Fr.nil|(apply Fr.cons;focus ((repeat constructor);done))))) h) (by kernel_rfl) (by kernel_rfl) (by kernel_rfl) rfl (Clos.ofB (by kernel_rfl)) ?_)
 repeat' (first|refine gL ?_|(refine gv ?_;refine gk ?_)|fail)
 refine AtQ.take ?_
 (refine DT.eff 8 rfl (by kernel_rfl) ?_)
 refine RT.call T rfl fR_ (shortest_fn hv) rfl rfl rfl ?_
 rintro _ _ ⟨a4, c4, rfl, rfl⟩
 simp only [List.cons_append, List.nil_append]
 refine RT.fact (p := (enc k).length ≤ c4) (fun w h => (Own.facts h .h).2.1) fun hc2 => ?_
 (refine RT.nil ?_; refine AtQ.eff (fun w h => Sat.ones fR_ h) ?_)
 (refine DT.eff 9 rfl (by kernel_rfl) ?_)
 refine RT.appI T (l := b ++ [8 * num + 2]) (l' := enc k) rfl rfl rfl (Own.rdI sE_ rfl hc2) (fun a' c' => by ((repeat constructor);done)) (by omega) (by omega) rfl rfl rfl rfl (fun a3 c3 hc3 => ?_)
 (refine RT.nil ?_; refine AtQ.eff (fun w h => Sat.ones fR_ h) ?_)
 (refine DT.takes (k := 1) [10, 11] [12] (fun w h => Sat.ones (by (repeat (first|exact Fr.nil|(apply Fr.cons;focus ((repeat constructor);done))))) h) (by kernel_rfl) (by kernel_rfl) (by kernel_rfl) rfl (Clos.ofB (by kernel_rfl)) ?_)
 try refine gL ?_
 refine AtQ.take ?_
 (refine DT.eff 12 rfl (by kernel_rfl) ?_)
 try refine gL ?_
 refine AtQ.eff' (by kernel_rfl) ?_
 (refine DT.done (by kernel_rfl) ?_)
 try refine gL ?_
 refine RT.appI T (l := b ++ [8 * num + 2] ++ enc k) (l' := l) rfl rfl rfl (rD (hR)) (fun a' c' => by ((repeat constructor);done)) (by omega) (by omega) rfl rfl rfl rfl (fun a5 c5 hc5 => ?_)
 try refine gL ?_
 refine AtQ.f0 Tryz.results159 (fun w h => ?_) (by first | exact .inl rfl | exact .inr rfl)
 have e : b ++ fBytes num l = b ++ [8 * num + 2] ++ enc k ++ l := by
  unfold fBytes
  rw [enc_small (by omega), show num * 8 + 2 = 8 * num + 2 by omega, hkl]
  simp
 have el : (b ++ [8 * num + 2] ++ enc k ++ l).length = b.length + 1 + (enc k).length + k := by simp only [List.length_append, List.length_singleton, hkl]
 rw [e]
 refine OutP.in_ a5 c5 ?_
 rw [el]
 exact h.frd (Ps := [_, _]) (Qs := [_]) fR_
set_option maxHeartbeats 1000000 in
theorem olisted_fn {p : Nat} {num : Int} {b t : Txt} {bad : Bool} (h1 : 1 ≤ num) (h2 : num ≤ 15) (ht : OkT t) (hl : t.length ≤ 100000000000) (hb : b.length ≤ 1000000000000) :
  Sp B Tryz.prog 260 [ptr p, .int .i64 num, vS t] R [OutP p b bad] (fun u H' => u = .tuple #[] ∧ H' = [OutP p (b ++ fBytes num t) (bad || !goodT t)]) := by
 obtain ⟨v0, v1⟩ := ht
 refine Sp.body Tryz.func260 rfl Tryz.ntmps260 (by simp) ?_
 simp only [argE, List.cons_append, List.nil_append, Nat.zero_add, Nat.reduceAdd]
 refine CT.outp fun x => ?_
 refine CT.seq ?_
 refine CT.cut (α := Unit) (fun _ => [(0, ptr p), (1, .int .i64 num), (2, vS t)]) (fun _ => OutP p b (bad || !goodT t) :: R) ?_ (fun _ => ?_)
 ·cases bad
  ·try refine gL ?_
   (refine RT.qcall T rfl (QSp.of fR_ (rgood_fn (l := t) (size_law v0) v0 (by omega))) rfl rfl rfl ?_)
   repeat' (first|refine gL ?_|(refine gv ?_;(refine⟨fun hc=>?_,fun hc=>?_⟩<;>first|(exfalso;omega)|skip))|fail)
   ·exact AtQ.cut () ⟨rfl, rfl, rfl, trivial⟩ (fun w h => by rw [show goodT t = false by unfold goodT; exact decide_eq_false (by omega)]; exact OutP.in_ x.1 x.2 h)
   ·exact AtQ.cut () ⟨rfl, rfl, rfl, trivial⟩ (fun w h => by rw [show goodT t = true by unfold goodT; exact decide_eq_true (by omega)]; exact OutP.in_ x.1 x.2 h)
  ·try refine gL ?_
   exact AtQ.cut () ⟨rfl, rfl, rfl, trivial⟩ (fun w h => OutP.in_ x.1 x.2 h)
 ·refine A0 ?_
  try refine gL ?_
  refine RT.convSB T rfl v0 rfl Tryz.underlying23 Tryz.underlying5 rfl rfl (fun a' c' hc' => ?_)
  (refine RT.call T rfl fR_ (obytes_fn (l := t) (b := b) h1 h2 (Ro.rd sE_ (by rw [ints_len]) hc') (by omega) hb) rfl rfl rfl ?_; rintro _ _ ⟨rfl, rfl⟩; try simp only [List.cons_append, List.nil_append])
  try refine gL ?_
  exact AtQ.f0 Tryz.results260 (fun w h => h.frd (Ps := [_]) (Qs := [_]) fR_) (by first | exact .inl rfl | exact .inr rfl)
theorem otext_fn {p : Nat} {num : Int} {b t : Txt} {bad : Bool} (h1 : 1 ≤ num) (h2 : num ≤ 15) (ht : OkT t) (hl : t.length ≤ 100000000000) (hb : b.length ≤ 1000000000000) :
  Sp B Tryz.prog 160 [ptr p, .int .i64 num, vS t] R [OutP p b bad] (fun u H' => u = .tuple #[] ∧ H' = [OutP p (b ++ fText num t) (bad || !goodT t)]) := by
 have ht' := ht
 obtain ⟨v0, v1⟩ := ht'
 refine Sp.body Tryz.func160 rfl Tryz.ntmps160 (by simp) ?_
 simp only [argE, List.cons_append, List.nil_append, Nat.zero_add, Nat.reduceAdd]
 try refine gL ?_
 refine RT.nes (l := t) (l' := []) rfl rfl v0 (fun _ h => by cases h) rfl rfl (fun hc => ?_) (fun hc => ?_)
 ·try refine gL ?_
  refine AtQ.f0 Tryz.results160 (fun w h => ?_) (by first | exact .inl rfl | exact .inr rfl)
  subst hc
  have e : (bad || !goodT []) = bad := by rw [show goodT [] = true from rfl]; simp
  rw [e]
  unfold fText
  rw [if_pos rfl, List.append_nil]
  exact h
 ·try refine gL ?_
  (refine RT.call T rfl fR_ (olisted_fn h1 h2 ht hl hb) rfl rfl rfl ?_; rintro _ _ ⟨rfl, rfl⟩; try simp only [List.cons_append, List.nil_append])
  try refine gL ?_
  refine AtQ.f0 Tryz.results160 (fun w h => ?_) (by first | exact .inl rfl | exact .inr rfl)
  unfold fText
  rw [if_neg hc]
  exact h
set_option maxHeartbeats 1000000 in
theorem orecord_fn {p q : Nat} {num : Int} {b b2 : Txt} {bad bad2 : Bool} (h1 : 1 ≤ num) (h2 : num ≤ 15) (hl : b2.length ≤ 100000000000) (hb : b.length ≤ 1000000000000) :
  Sp B Tryz.prog 68 [ptr p, .int .i64 num, ptr q] R [OutP p b bad, OutP q b2 bad2] (fun u H' => u = .tuple #[] ∧ H' = [OutP p (b ++ fBytes num b2) (bad || bad2)]) := by
 refine Sp.body Tryz.func68 rfl Tryz.ntmps68 (by simp) ?_
 simp only [argE, List.cons_append, List.nil_append, Nat.zero_add, Nat.reduceAdd]
 refine CT.outp fun x => ?_
 refine CT.weak (fun w h => h.sel (p := OutP q b2 bad2) sE_) ?_
 refine CT.outp fun y => ?_
 refine CT.seq ?_
 refine CT.cut (α := Unit) (fun _ => [(0, ptr p), (1, .int .i64 num), (2, ptr q)]) (fun _ => OutP p b (bad || bad2) :: outp q y.1 b2.length y.2 bad2 :: own8 y.1 y.2 b2 b2.length :: R) ?_ (fun _ => ?_)
 ·cases bad <;> cases bad2
  all_goals
   try refine gL ?_
   exact AtQ.cut () ⟨rfl, rfl, rfl, trivial⟩ (fun w h => OutP.in_ x.1 x.2 (h.frd (Ps := [_, _, _, _]) (Qs := []) fR_))
 ·refine A0 ?_
  refine CT.fact (p := b2.length ≤ y.2) (fun w h => (Own.facts h (.t (.t .h))).2.1) fun hc2 => ?_
  try refine gL ?_
  (refine RT.call T rfl fR_ (obytes_fn (l := b2) (b := b) h1 h2 (Own.rdI sE_ rfl hc2) (by omega) hb) rfl rfl rfl ?_; rintro _ _ ⟨rfl, rfl⟩; try simp only [List.cons_append, List.nil_append])
  try refine gL ?_
  exact AtQ.f0 Tryz.results68 (fun w h => h.frd (Ps := [_]) (Qs := [_, _]) fR_) (by first | exact .inl rfl | exact .inr rfl)
end Go.Proofs.YtclcnhfponjdaaaGreatDoor
end
section
namespace Go.Proofs.YtclcnhfponjdaaaGreatDoor
open Go.Sk
set_option maxRecDepth 100000
theorem take_le {α : Type} {f : α → Txt} (l : List α) (i : Nat) : ((l.take i).flatMap f).length ≤ (l.flatMap f).length := by
 conv => rhs; rw [← List.take_append_drop i l, List.flatMap_append]
 simp
theorem or_all {α : Type} {f : α → Bool} {l : List α} {i : Nat} {x : α} (b : Bool) (h : l[i]? = some x) : ((b || !(l.take i).all f) || !f x) = (b || !(l.take (i + 1)).all f) := by
 rw [List.take_add_one, h, List.all_append]
 simp only [Option.toList_some, List.all_cons, List.all_nil, Bool.and_true]
 cases b <;> cases (l.take i).all f <;> cases f x <;> rfl
theorem newOut {B : World} {b : Nat} {H : List HP} {w : World} (h : Sat B (Cs b 167 [.slice none 0 0, .bool false] :: H) w) : Sat B (OutP b [] false :: H) w :=
 OutP.in_ none 0 ((Sat.nilOwn (e := 5) (sz := 1) h).sel (.t .h))
attribute [local irreducible] Cs Own Ex Pu Yld RT LJ QJ AtQ CT Rd QSp Sp FinQ Then LoopQ CutQ DT TakeQ EffQ
attribute [local irreducible] OutP
variable {B : World} {R : List HP}
set_option maxHeartbeats 1000000 in
theorem ospans_fn {p : Nat} {num : Int} {b : Txt} {bad : Bool} {a : Option Addr} {c : Nat} {l : List SpanT} (h1 : 1 ≤ num) (h2 : num ≤ 15) (hR : Rd B R a l.length c 2 (l.flatMap SpanT.cells)) (ho : ∀ s ∈ l, s.Ok) (hl : l.length ≤ 100000000) (hb : b.length ≤ 100000000000) :
  Sp B Tryz.prog 263 [ptr p, .int .i64 num, .slice a l.length c] R [OutP p b bad] (fun u H' => u = .tuple #[] ∧ H' = [OutP p (b ++ fRecs num spanB l) bad]) := by
 have hsl := spans_le num l
 refine Sp.body Tryz.func263 rfl Tryz.ntmps263 (by simp) ?_
 simp only [argE, List.cons_append, List.nil_append, Nat.zero_add, Nat.reduceAdd]
 try refine gL ?_
 refine CT.loop (α := Nat) (fun i => [(0, ptr p), (1, .int .i64 num), (2, .slice a l.length c), (6, .int .i64 i)]) (fun i => Pu (i ≤ l.length) :: OutP p (b ++ fRecs num spanB (l.take i)) bad :: R) (fun i => l.length - i) 0
  ⟨rfl, rfl, rfl, rfl, trivial⟩ (fun w h => Sat.pu_in (Nat.zero_le _) (by rw [show fRecs num spanB (l.take 0) = [] from rfl, List.append_nil]; exact h)) (fun i => CT.pu fun hil => ?_)
 have htl : (fRecs num spanB (l.take i)).length ≤ 64 * l.length := Nat.le_trans (take_le (f := fun x => fBytes num (spanB x)) l i) hsl
 repeat' (first|refine gL ?_|(refine gv ?_;(refine⟨fun hc=>?_,fun hc=>?_⟩<;>first|(exfalso;omega)|skip))|(refine gb ?_;intro b)|fail)
 ·have hi' : i < l.length := by omega
  have hgi := List.getElem?_eq_getElem hi'
  revert hgi
  generalize l[i] = s
  intro hgi
  obtain ⟨⟨s1, s1'⟩, s2, s2'⟩ := ho s (List.mem_of_getElem? hgi)
  revert b
  intro bo
  refine RT.weak (fun w h => newOut h) ?_
  ((refine RT.ix T (j := (i) * 2) rfl rfl rfl (rD (hR)) (by omega) (by omega) (by omega) rfl rfl ?_); (refine RT.faA T rfl rfl rfl rfl ?_); (refine RT.ldr (u := .int .i32 s.f) T rfl (rD (hR)) (by rw [flat_get (f := SpanT.cells) (z := 2) (fun _ => rfl) hgi (by decide)]; rfl) rfl rfl rfl ?_))
  repeat' (first|refine gL ?_|(refine gv ?_;refine gk ?_)|fail)
  (refine RT.call T rfl fR_ (osigned_fn (num := 1) (v := s.f) (b := []) (by decide) (by decide) ⟨by omega, by omega⟩ (by simp)) rfl rfl rfl ?_; rintro _ _ ⟨rfl, rfl⟩; try simp only [List.cons_append, List.nil_append])
  try refine gL ?_
  ((refine RT.ix T (j := (i) * 2) rfl rfl rfl (rD (hR)) (by omega) (by omega) (by omega) rfl rfl ?_); (refine RT.faA T rfl rfl rfl rfl ?_); (refine RT.ldr (u := .int .i32 s.t) T rfl (rD (hR)) (by rw [flat_get (f := SpanT.cells) (z := 2) (fun _ => rfl) hgi (by decide)]; rfl) rfl rfl rfl ?_))
  repeat' (first|refine gL ?_|(refine gv ?_;refine gk ?_)|fail)
  have q1 := fSign_le 1 s.f
  have q2 := fSign_le 2 s.t
  (refine RT.call T rfl fR_ (osigned_fn (num := 2) (v := s.t) (b := fSign 1 s.f) (by decide) (by decide) ⟨by omega, by omega⟩ (by omega)) rfl rfl rfl ?_; rintro _ _ ⟨rfl, rfl⟩; try simp only [List.cons_append, List.nil_append])
  try refine gL ?_
  (refine RT.call T rfl fR_ (orecord_fn (b := b ++ fRecs num spanB (l.take i)) h1 h2 (by simp only [List.length_append]; omega) (by simp only [List.length_append]; omega)) rfl rfl rfl ?_; rintro _ _ ⟨rfl, rfl⟩; try simp only [List.cons_append, List.nil_append])
  repeat' (first|refine gL ?_|(refine gv ?_;refine gk ?_)|fail)
  exact AtQ.loop (i + 1) ⟨rfl, rfl, rfl, rfl, trivial⟩ (fun w h => Sat.pu_in (by omega) (by rw [fRecs_snoc hgi, ← List.append_assoc]; simpa [spanB] using h)) (by omega)
 ·obtain rfl : i = l.length := by omega
  rw [List.take_length]
  exact AtQ.f0 (HH := [OutP p (b ++ fRecs num spanB l) bad]) Tryz.results263 (fun w h => h) (by first | exact .inl rfl | exact .inr rfl)
set_option maxHeartbeats 4000000 in
theorem ofield_fn {x : FieldT} (ho : x.Ok) (hw : wFd x ≤ 33554432) :
  Sp B Tryz.prog 262 [.agg x.cells.toArray] R [] (fun u H' => ∃ p, u = ptr p ∧ H' = [OutP p (fieldB x) (!goodFd x)]) := by
 obtain ⟨nm, num, card, kind, ty, key, oneof, packed, js⟩ := x
 obtain ⟨o1, ⟨o2, o2'⟩, ⟨o3, o3'⟩, ⟨o4, o4'⟩, o5, ⟨o6, o6'⟩, ⟨o7, o7'⟩, ⟨o8, o8'⟩, o9⟩ := ho
 unfold wFd at hw
 dsimp only at o1 o2 o2' o3 o3' o4 o4' o5 o6 o6' o7 o7' o8 o8' o9 hw
 have q1 := fText_le 1 nm
 have q2 := fSign_le 2 num
 have q3 := fSmall_le 3 card
 have q4 := fSmall_le 4 kind
 have q5 := fText_le 5 ty
 have q6 := fSmall_le 6 key
 have q7 := fSign_le 7 oneof
 have q8 := fSmall_le 8 packed
 dsimp only [FieldT.cells]
 refine Sp.body Tryz.func262 rfl Tryz.ntmps262 (by simp) ?_
 simp only [argE, List.cons_append, List.nil_append, Nat.zero_add, Nat.reduceAdd]
 repeat' (first|refine gL ?_|(refine gb ?_;intro b)|fail)
 rename_i b1
 revert b
 intro bo
 refine RT.weak (fun w h => newOut h) ?_
 (refine RT.call T rfl fR_ (otext_fn (num := 1) (t := nm) (b := []) (by decide) (by decide) o1 (by omega) (by simp)) rfl rfl rfl ?_; rintro _ _ ⟨rfl, rfl⟩; try simp only [List.cons_append, List.nil_append])
 repeat' (first|refine gL ?_|(refine gv ?_;refine gk ?_)|fail)
 (refine RT.call T rfl fR_ (osigned_fn (num := 2) (v := num) (b := fText 1 nm) (by decide) (by decide) ⟨by omega, by omega⟩ (by omega)) rfl rfl rfl ?_; rintro _ _ ⟨rfl, rfl⟩; try simp only [List.cons_append, List.nil_append])
 repeat' (first|refine gL ?_|(refine gv ?_;refine gk ?_)|fail)
 (refine RT.call T rfl fR_ (onum_fn (num := 3) (v := card) (b := fText 1 nm ++ fSign 2 num) (by decide) (by decide) ⟨by omega, by omega⟩ (by simp only [List.length_append]; omega)) rfl rfl rfl ?_; rintro _ _ ⟨rfl, rfl⟩; try simp only [List.cons_append, List.nil_append])
 repeat' (first|refine gL ?_|(refine gv ?_;refine gk ?_)|fail)
 (refine RT.call T rfl fR_ (onum_fn (num := 4) (v := kind) (b := fText 1 nm ++ fSign 2 num ++ fSmall 3 card) (by decide) (by decide) ⟨by omega, by omega⟩ (by simp only [List.length_append]; omega)) rfl rfl rfl ?_; rintro _ _ ⟨rfl, rfl⟩; try simp only [List.cons_append, List.nil_append])
 try refine gL ?_
 (refine RT.call T rfl fR_ (otext_fn (num := 5) (t := ty) (b := fText 1 nm ++ fSign 2 num ++ fSmall 3 card ++ fSmall 4 kind) (by decide) (by decide) o5 (by omega) (by simp only [List.length_append]; omega)) rfl rfl rfl ?_; rintro _ _ ⟨rfl, rfl⟩; try simp only [List.cons_append, List.nil_append])
 repeat' (first|refine gL ?_|(refine gv ?_;refine gk ?_)|fail)
 (refine RT.call T rfl fR_ (onum_fn (num := 6) (v := key) (b := fText 1 nm ++ fSign 2 num ++ fSmall 3 card ++ fSmall 4 kind ++ fText 5 ty) (by decide) (by decide) ⟨by omega, by omega⟩ (by simp only [List.length_append]; omega)) rfl rfl rfl ?_; rintro _ _ ⟨rfl, rfl⟩; try simp only [List.cons_append, List.nil_append])
 try refine gL ?_
 (refine RT.call T rfl fR_ (osigned_fn (num := 7) (v := oneof) (b := fText 1 nm ++ fSign 2 num ++ fSmall 3 card ++ fSmall 4 kind ++ fText 5 ty ++ fSmall 6 key) (by decide) (by decide) ⟨by omega, by omega⟩ (by simp only [List.length_append]; omega)) rfl rfl rfl ?_; rintro _ _ ⟨rfl, rfl⟩; try simp only [List.cons_append, List.nil_append])
 repeat' (first|refine gL ?_|(refine gv ?_;refine gk ?_)|fail)
 (refine RT.call T rfl fR_ (onum_fn (num := 8) (v := packed) (b := fText 1 nm ++ fSign 2 num ++ fSmall 3 card ++ fSmall 4 kind ++ fText 5 ty ++ fSmall 6 key ++ fSign 7 oneof) (by decide) (by decide) ⟨by omega, by omega⟩ (by simp only [List.length_append]; omega)) rfl rfl rfl ?_; rintro _ _ ⟨rfl, rfl⟩; try simp only [List.cons_append, List.nil_append])
 try refine gL ?_
 (refine RT.call T rfl fR_ (otext_fn (num := 9) (t := js) (b := fText 1 nm ++ fSign 2 num ++ fSmall 3 card ++ fSmall 4 kind ++ fText 5 ty ++ fSmall 6 key ++ fSign 7 oneof ++ fSmall 8 packed) (by decide) (by decide) o9 (by omega) (by simp only [List.length_append]; omega)) rfl rfl rfl ?_; rintro _ _ ⟨rfl, rfl⟩; try simp only [List.cons_append, List.nil_append])
 try refine gL ?_
 refine AtQ.fin1 (H' := [OutP bo (fieldB ⟨nm, num, card, kind, ty, key, oneof, packed, js⟩) (!goodFd ⟨nm, num, card, kind, ty, key, oneof, packed, js⟩)]) Tryz.results262 rfl ⟨bo, rfl, rfl⟩ (fun w h => ?_)
 have e1 : fieldB ⟨nm, num, card, kind, ty, key, oneof, packed, js⟩ = fText 1 nm ++ fSign 2 num ++ fSmall 3 card ++ fSmall 4 kind ++ fText 5 ty ++ fSmall 6 key ++ fSign 7 oneof ++ fSmall 8 packed ++ fText 9 js := by
  unfold fieldB
  simp only [List.append_assoc]
 have e2 : (!goodFd ⟨nm, num, card, kind, ty, key, oneof, packed, js⟩) = (((false || !goodT nm) || !goodT ty) || !goodT js) := by
  unfold goodFd
  dsimp only
  cases goodT nm <;> cases goodT ty <;> cases goodT js <;> rfl
 rw [e1, e2]
 exact h.frd (Ps := [_]) (Qs := [_]) fR_
end Go.Proofs.YtclcnhfponjdaaaGreatDoor
end
section
namespace Go.Proofs.YtclcnhfponjdaaaGreatDoor
open Go.Sk
set_option maxRecDepth 100000
theorem vals_le (n : Int) (l : List EValT) : (fRecs n valB l).length ≤ 8 * (l.map fun v => 16 + v.nm.length).sum := flat_le (fun x => by
 have h1 := fBytes_le n (valB x)
 have h2 := fText_le 1 x.nm
 have h3 := fSign_le 2 x.num
 unfold valB at h1 ⊢
 simp only [List.length_append] at h1
 omega) l
theorem mem_len {l : List Txt} {t : Txt} (h : t ∈ l) : t.length ≤ wT l := by
 have := sum_mem (f := fun t : Txt => 8 + t.length) h
 unfold wT
 omega
attribute [local irreducible] Cs Own Ex Pu Yld RT LJ QJ AtQ CT Rd QSp Sp FinQ Then LoopQ CutQ DT TakeQ EffQ
attribute [local irreducible] OutP
variable {B : World} {R : List HP}
set_option maxHeartbeats 4000000 in
theorem oenum_fn {e : EnumT} (hin : e.In (Rd B R)) (ho : e.Ok) (hw : wE e ≤ 33554432) :
  Sp B Tryz.prog 163 [.agg e.cells.toArray] R [] (fun u H' => ∃ p, u = ptr p ∧ H' = [OutP p (enumB e) (!goodEn e)]) := by
 obtain ⟨nm, ⟨va, vc, vl⟩, ali, ⟨ra, rc, rl⟩, ⟨na, nc, nl⟩⟩ := e
 obtain ⟨o1, ⟨o2, _⟩, o3, ⟨o4, _⟩, o5, ⟨o6, _⟩, o7⟩ := ho
 obtain ⟨i1, i2, i3⟩ := hin
 unfold wE at hw
 dsimp only at o1 o2 o3 o4 o5 o6 o7 i1 i2 i3 hw
 have q1 := fText_le 1 nm
 have q2 := vals_le 2 vl
 have q3 := fTruth_le 3 ali
 have q4 := spans_le 4 rl
 have q5 := fTexts_le 5 nl
 dsimp only [EnumT.cells, Rw.v]
 refine Sp.body Tryz.func163 rfl Tryz.ntmps163 (by simp) ?_
 simp only [argE, List.cons_append, List.nil_append, Nat.zero_add, Nat.reduceAdd]
 repeat' (first|refine gL ?_|(refine gb ?_;intro b)|fail)
 rename_i b1
 revert b
 intro bo
 refine RT.weak (fun w h => newOut h) ?_
 (refine RT.call T rfl fR_ (otext_fn (num := 1) (t := nm) (b := []) (by decide) (by decide) o1 (by omega) (by simp)) rfl rfl rfl ?_; rintro _ _ ⟨rfl, rfl⟩; try simp only [List.cons_append, List.nil_append])
 try refine gL ?_
 refine CT.loop (α := Nat) (fun i => [(1, .pointer (some ⟨b1, 0, none⟩)), (3, .pointer (some ⟨bo, 0, none⟩)), (4, .int .i64 i)])
  (fun i => Pu (i ≤ vl.length) :: OutP bo (fText 1 nm ++ fRecs 2 valB (vl.take i)) ((false || !goodT nm) || !((vl.take i).all fun v => goodT v.nm)) :: Cs b1 85 [vS nm, .slice va vl.length vc, .bool ali, .slice ra rl.length rc, .slice na nl.length nc] :: R) (fun i => vl.length - i) 0
  ⟨rfl, rfl, rfl, trivial⟩ (fun w h => Sat.pu_in (Nat.zero_le _) (by rw [show fRecs 2 valB (vl.take 0) = [] from rfl, List.append_nil, show ((vl.take 0).all fun v => goodT v.nm) = true from rfl, Bool.not_true, Bool.or_false]; exact h)) (fun i => CT.pu fun hil => ?_)
 have htl : (fRecs 2 valB (vl.take i)).length ≤ (fRecs 2 valB vl).length := take_le (f := fun x => fBytes 2 (valB x)) vl i
 repeat' (first|refine gL ?_|(refine gv ?_;(refine⟨fun hc=>?_,fun hc=>?_⟩<;>first|(exfalso;omega)|skip))|(refine gb ?_;intro b)|fail)
 ·have hi' : i < vl.length := by omega
  have hgi := List.getElem?_eq_getElem hi'
  revert hgi
  generalize vl[i] = s
  intro hgi
  obtain ⟨s1, s2, s3⟩ := o3 s (List.mem_of_getElem? hgi)
  have hsm := sum_mem (f := fun v : EValT => 16 + v.nm.length) (List.mem_of_getElem? hgi)
  revert b
  intro bi
  refine RT.weak (fun w h => newOut h) ?_
  ((refine RT.ix T (j := (i) * 2) rfl rfl rfl (rD (i1)) (by omega) (by omega) (by omega) rfl rfl ?_); (refine RT.faA T rfl rfl rfl rfl ?_); (refine RT.ldr (u := vS s.nm) T rfl (rD (i1)) (by rw [flat_get (f := EValT.cells) (z := 2) (fun _ => rfl) hgi (by decide)]; rfl) rfl rfl rfl ?_))
  skip
  (refine RT.call T rfl fR_ (otext_fn (num := 1) (t := s.nm) (b := []) (by decide) (by decide) s1 (by omega) (by simp)) rfl rfl rfl ?_; rintro _ _ ⟨rfl, rfl⟩; try simp only [List.cons_append, List.nil_append])
  try refine gL ?_
  ((refine RT.ix T (j := (i) * 2) rfl rfl rfl (rD (i1)) (by omega) (by omega) (by omega) rfl rfl ?_); (refine RT.faA T rfl rfl rfl rfl ?_); (refine RT.ldr (u := .int .i32 s.num) T rfl (rD (i1)) (by rw [flat_get (f := EValT.cells) (z := 2) (fun _ => rfl) hgi (by decide)]; rfl) rfl rfl rfl ?_))
  repeat' (first|refine gL ?_|(refine gv ?_;refine gk ?_)|fail)
  have w1 := fText_le 1 s.nm
  have w2 := fSign_le 2 s.num
  (refine RT.call T rfl fR_ (osigned_fn (num := 2) (v := s.num) (b := fText 1 s.nm) (by decide) (by decide) ⟨by omega, by omega⟩ (by omega)) rfl rfl rfl ?_; rintro _ _ ⟨rfl, rfl⟩; try simp only [List.cons_append, List.nil_append])
  try refine gL ?_
  (refine RT.call T rfl fR_ (orecord_fn (num := 2) (b := fText 1 nm ++ fRecs 2 valB (vl.take i)) (by decide) (by decide) (by simp only [List.length_append]; omega) (by simp only [List.length_append]; omega)) rfl rfl rfl ?_; rintro _ _ ⟨rfl, rfl⟩; try simp only [List.cons_append, List.nil_append])
  repeat' (first|refine gL ?_|(refine gv ?_;refine gk ?_)|fail)
  exact AtQ.loop (i + 1) ⟨rfl, rfl, rfl, trivial⟩ (fun w h => Sat.pu_in (by omega) (by rw [fRecs_snoc hgi, ← or_all (f := fun v : EValT => goodT v.nm) _ hgi, ← List.append_assoc]; simpa [valB] using h)) (by omega)
 obtain rfl : i = vl.length := by omega
 rw [List.take_length]
 (refine RT.call T rfl fR_ (oyes_fn (num := 3) (v := ali) (b := fText 1 nm ++ fRecs 2 valB vl) (by decide) (by decide) (by simp only [List.length_append]; omega)) rfl rfl rfl ?_; rintro _ _ ⟨rfl, rfl⟩; try simp only [List.cons_append, List.nil_append])
 try refine gL ?_
 (refine RT.call T rfl fR_ (ospans_fn (num := 4) (l := rl) (b := fText 1 nm ++ fRecs 2 valB vl ++ fTruth 3 ali) (by decide) (by decide) (rD (i2)) o5 (by omega) (by simp only [List.length_append]; omega)) rfl rfl rfl ?_; rintro _ _ ⟨rfl, rfl⟩; try simp only [List.cons_append, List.nil_append])
 try refine gL ?_
 refine CT.loop (α := Nat) (fun i => [(1, .pointer (some ⟨b1, 0, none⟩)), (3, .pointer (some ⟨bo, 0, none⟩)), (6, .int .i64 i)])
  (fun i => Pu (i ≤ nl.length) :: OutP bo (fText 1 nm ++ fRecs 2 valB vl ++ fTruth 3 ali ++ fRecs 4 spanB rl ++ fTexts 5 (nl.take i)) (((false || !goodT nm) || !(vl.all fun v => goodT v.nm)) || !(nl.take i).all goodT) :: Cs b1 85 [vS nm, .slice va vl.length vc, .bool ali, .slice ra rl.length rc, .slice na nl.length nc] :: R) (fun i => nl.length - i) 0
  ⟨rfl, rfl, rfl, trivial⟩ (fun w h => Sat.pu_in (Nat.zero_le _) (by rw [show fTexts 5 (nl.take 0) = [] from rfl, List.append_nil, show (nl.take 0).all goodT = true from rfl, Bool.not_true, Bool.or_false]; exact h)) (fun i => CT.pu fun hil => ?_)
 have htl : (fTexts 5 (nl.take i)).length ≤ (fTexts 5 nl).length := take_le (f := fBytes 5) nl i
 repeat' (first|refine gL ?_|(refine gv ?_;(refine⟨fun hc=>?_,fun hc=>?_⟩<;>first|(exfalso;omega)|skip))|fail)
 ·have hi' : i < nl.length := by omega
  have hgi := List.getElem?_eq_getElem hi'
  have hml := mem_len (List.getElem_mem hi')
  have hto := o7 _ (List.getElem_mem hi')
  refine RT.ix T (j := i) rfl rfl rfl (rD (i3)) (by omega) (by omega) (by omega) rfl rfl ?_
  refine RT.ldr T rfl (rD (i3)) (map_get hi') rfl rfl rfl ?_
  revert hgi hml hto
  generalize nl[i] = s
  intro hgi hml hto
  skip
  (refine RT.call T rfl fR_ (olisted_fn (num := 5) (t := s) (b := fText 1 nm ++ fRecs 2 valB vl ++ fTruth 3 ali ++ fRecs 4 spanB rl ++ fTexts 5 (nl.take i)) (by decide) (by decide) hto (by omega) (by simp only [List.length_append]; omega)) rfl rfl rfl ?_; rintro _ _ ⟨rfl, rfl⟩; try simp only [List.cons_append, List.nil_append])
  repeat' (first|refine gL ?_|(refine gv ?_;refine gk ?_)|fail)
  exact AtQ.loop (i + 1) ⟨rfl, rfl, rfl, trivial⟩ (fun w h => Sat.pu_in (by omega) (by rw [fTexts_snoc hgi, ← or_all (f := goodT) _ hgi, ← List.append_assoc]; exact h)) (by omega)
 obtain rfl : i = nl.length := by omega
 rw [List.take_length]
 refine AtQ.fin1 (H' := [OutP bo (enumB ⟨nm, ⟨va, vc, vl⟩, ali, ⟨ra, rc, rl⟩, ⟨na, nc, nl⟩⟩) (!goodEn ⟨nm, ⟨va, vc, vl⟩, ali, ⟨ra, rc, rl⟩, ⟨na, nc, nl⟩⟩)]) Tryz.results163 rfl ⟨bo, rfl, rfl⟩ (fun w h => ?_)
 have e1 : enumB ⟨nm, ⟨va, vc, vl⟩, ali, ⟨ra, rc, rl⟩, ⟨na, nc, nl⟩⟩ = fText 1 nm ++ fRecs 2 valB vl ++ fTruth 3 ali ++ fRecs 4 spanB rl ++ fTexts 5 nl := by
  unfold enumB
  simp only [List.append_assoc]
 have e2 : (!goodEn ⟨nm, ⟨va, vc, vl⟩, ali, ⟨ra, rc, rl⟩, ⟨na, nc, nl⟩⟩) = (((false || !goodT nm) || !(vl.all fun v => goodT v.nm)) || !nl.all goodT) := by
  unfold goodEn
  dsimp only
  cases goodT nm <;> cases (vl.all fun v => goodT v.nm) <;> cases nl.all goodT <;> rfl
 rw [e1, e2]
 exact h.frd (Ps := [_]) (Qs := [_]) fR_
end Go.Proofs.YtclcnhfponjdaaaGreatDoor
end
section
namespace Go.Proofs.YtclcnhfponjdaaaGreatDoor
open Go.Sk
set_option maxRecDepth 100000
attribute [local irreducible] Cs Own Ex Pu Yld RT LJ QJ AtQ CT Rd QSp Sp FinQ Then LoopQ CutQ DT TakeQ EffQ
attribute [local irreducible] Wr StAt
variable {B : World} {R : List HP} {pe pw bn bo off k : Nat} {num : Int} {g : FuncId} {gb : Bool} {ad : Addr} {xs : List Value} {S : WS}
variable {bl : Nat} {fa : Addr} {fl : List Value}
set_option maxHeartbeats 2000000 in
theorem some_EnumDef_EnumValue_put {α : Type} {cl : α → List Value} {bs : α → Txt} {p rn rc : Nat} {ra : Option Addr} {v : Rw α} (hO : Rd B R (some ⟨pe, 0, none⟩) 1 1 2 [ptr pw, .int .i64 0]) (hn : Rd B R (some ⟨bn, 0, none⟩) 1 1 1 [.int .i32 num]) (ho : Rd B R (some ⟨bo, 0, none⟩) 1 1 1 [.func (.func g) #[] #[]]) (hg : al T.funs g = some gb) (hof : ∀ R, Sp B Tryz.prog g [.pointer (some ad)] R [] (fun v H' => v = .pointer (some (ad.add off)) ∧ H' = [])) (hx : StAt B R ad xs) (h1 : 1 ≤ num) (h2 : num ≤ 15)
  (hb : Rd B R (some ⟨bl, 0, none⟩) 1 1 1 [.pointer (some ⟨p, 6, none⟩)]) (hF : Rd B R (some ⟨p, 0, none⟩) 1 1 8 fl) (hfl : fl[6]? = some (.slice ra rn rc)) (hcl : ∀ x, (cl x).length = 2)
  (hu : xs[off]? = some v.v) (hvl : v.l.length ≤ 140737488355328) (hvR : Rd B R v.a v.l.length v.c 2 (v.l.flatMap cl))
  (hall : ∀ (i : Nat) (x : α), v.l[i]? = some x → ∀ (H : List HP) (S : WS), Wok k S → Sp B Tryz.prog 192 [.slice ra rn rc, ptr pe, .pointer (some ((adr v.a).add (i * 2)))] (H ++ R) [Wr pw S] (fun u H' => u = .tuple #[] ∧ ∃ S', Wrt k S (bs x) S' ∧ H' = [Wr pw S'])) (hS : Wok (k + 1) S) :
  Sp B Tryz.prog 190 [ptr pe, .pointer (some ad), ptr bo, ptr bn, ptr bl] R [Wr pw S] (fun u H' => u = .tuple #[] ∧ ∃ S', Wrt (k + 1) S (fRecs num bs v.l) S' ∧ H' = [Wr pw S']) := by
 obtain ⟨va, vc, l⟩ := v
 simp only [Rw.v] at *
 refine Sp.body Tryz.func190 rfl Tryz.ntmps190 (by simp) ?_
 simp only [argE, List.cons_append, List.nil_append, Nat.zero_add, Nat.reduceAdd]
 try refine gL ?_
 refine RT.ldB T rfl (rD (ho)) rfl rfl rfl rfl ?_
 try refine gL ?_
 refine RT.callC T (caps := []) rfl rfl fR_ (hof _) hg rfl rfl ?_
 rintro _ _ ⟨rfl, rfl⟩
 simp only [List.nil_append]
 refine RT.nilG rfl rfl rfl ?_
 refine RT.ldS T rfl hx.cons hu rfl rfl rfl ?_
 try refine gL ?_
 refine CT.loop (α := Nat × WS) (fun s => [(0, ptr pe), (1, .pointer (some ad)), (2, ptr bo), (3, ptr bn), (4, ptr bl), (14, .int .i64 l.length), (15, .int .i64 s.1)]) (fun s => Pu (s.1 ≤ l.length ∧ Wrt (k + 1) S (fRecs num bs (l.take s.1)) s.2) :: Wr pw s.2 :: R) (fun s => l.length - s.1) (0, S)
  ⟨rfl, rfl, rfl, rfl, rfl, rfl, rfl, trivial⟩ (fun w h => Sat.pu_in ⟨Nat.zero_le _, by rw [List.take_zero]; exact Wrt.nil hS.1⟩ h) (fun ⟨i, S1⟩ => CT.pu fun ⟨hi, hw⟩ => ?_)
 dsimp only at hi hw ⊢
 have hS1 := hw.wok hS
 have hS := hS1.1
 repeat' (first|refine gQ ?_|(refine gv ?_;(refine⟨fun hc=>?_,fun hc=>?_⟩<;>first|(exfalso;omega)|skip))|fail)
 ·have hil : i < l.length := by omega
  have hgi := List.getElem?_eq_getElem hil
  revert hgi
  generalize l[i] = x
  intro hgi
  refine CT.tail 5 mixed (by kernel_rfl) ?_
  dsimp only [List.take_succ_cons, List.take_zero, List.drop_succ_cons, List.drop_zero]
  try refine gL ?_
  refine RT.ldB T rfl (rD (hO)) rfl rfl rfl rfl ?_
  skip
  refine RT.ldB T rfl (rD (hn)) rfl rfl rfl rfl ?_
  try refine gL ?_
  refine AtQ.tail ?_
  refine RT.call T rfl fR_ (tag_fn (n := num) (k := 2) hS (by decide) (by decide) (by omega) (by omega)) rfl rfl rfl ?_
  rintro _ _ ⟨rfl, rfl⟩
  rw [wsTag_put (k := 2) h1 (by omega) (by decide)]
  simp only [List.cons_append, List.nil_append]
  try refine gQ ?_
  refine RT.ldB T rfl (rD (hO)) rfl rfl rfl rfl ?_
  have hS2 := hS1.put (enc (num * 8 + 2))
  refine RT.call T rfl fR_ (open_fn (by have := hS2.1; unfold WS.ok at this; omega) (by have := hS2.2.1; omega)) rfl rfl rfl ?_
  rintro _ _ ⟨rfl, rfl⟩
  simp only [List.cons_append, List.nil_append]
  try refine gQ ?_
  refine CT.tail 11 mixed (by kernel_rfl) ?_
  dsimp only [List.take_succ_cons, List.take_zero, List.drop_succ_cons, List.drop_zero]
  skip
  refine RT.ldB T rfl (rD (hb)) rfl rfl rfl rfl ?_
  refine RT.nilG rfl rfl rfl ?_
  refine RT.ldB T rfl (rD (hF)) hfl rfl rfl rfl ?_
  try refine gL ?_
  refine RT.ldB T rfl (rD (ho)) rfl rfl rfl rfl ?_
  refine RT.mv1 rfl rfl rfl ?_
  refine RT.qcallC T (caps := []) rfl rfl (QSp.of fR_ (hof _)) hg rfl rfl ?_
  refine RT.nilG rfl rfl rfl ?_
  refine RT.ldS T rfl hx.cons hu rfl rfl rfl ?_
  try refine gL ?_
  refine RT.ix T (j := i * 2) rfl rfl rfl (rD (hvR)) (by omega) (by omega) (by omega) rfl rfl ?_
  try refine gL ?_
  refine AtQ.tail ?_
  refine RT.call T rfl fR_ (hall i x hgi [] _ hS2.open_) rfl rfl rfl ?_
  rintro _ _ ⟨rfl, S3, hS3, rfl⟩
  simp only [List.cons_append, List.nil_append]
  have hS4 := hS3.wok hS2.open_
  try refine gL ?_
  refine RT.ldB T rfl (rD (hO)) rfl rfl rfl rfl ?_
  try refine gL ?_
  refine RT.call T rfl fR_ (shut_fn hS4.1 (by have := hS4.2.1; omega) (fun he => (hS4.2.2 he).1)) rfl rfl rfl ?_
  rintro _ _ ⟨rfl, rfl⟩
  simp only [List.cons_append, List.nil_append]
  repeat' (first|refine gL ?_|(refine gv ?_;refine gk ?_)|fail)
  refine AtQ.loop (i + 1, _) ⟨rfl, rfl, rfl, rfl, rfl, rfl, rfl, trivial⟩ (fun w h => Sat.pu_in ⟨by omega, by rw [fRecs_snoc hgi]; exact hw.app (Wrt.record hS1 hS3)⟩ h) (by dsimp only; omega)
 ·obtain rfl : i = l.length := by omega
  rw [List.take_length] at hw
  exact AtQ.fin0 (H' := [Wr pw S1]) Tryz.results190 ⟨rfl, S1, hw, rfl⟩ (fun w h => h) _ (by first | exact .inl rfl | exact .inr rfl)
set_option maxHeartbeats 2000000 in
theorem some_EnumDef_Span_put {α : Type} {cl : α → List Value} {bs : α → Txt} {p rn rc : Nat} {ra : Option Addr} {v : Rw α} (hO : Rd B R (some ⟨pe, 0, none⟩) 1 1 2 [ptr pw, .int .i64 0]) (hn : Rd B R (some ⟨bn, 0, none⟩) 1 1 1 [.int .i32 num]) (ho : Rd B R (some ⟨bo, 0, none⟩) 1 1 1 [.func (.func g) #[] #[]]) (hg : al T.funs g = some gb) (hof : ∀ R, Sp B Tryz.prog g [.pointer (some ad)] R [] (fun v H' => v = .pointer (some (ad.add off)) ∧ H' = [])) (hx : StAt B R ad xs) (h1 : 1 ≤ num) (h2 : num ≤ 15)
  (hb : Rd B R (some ⟨bl, 0, none⟩) 1 1 1 [.pointer (some ⟨p, 7, none⟩)]) (hF : Rd B R (some ⟨p, 0, none⟩) 1 1 8 fl) (hfl : fl[7]? = some (.slice ra rn rc)) (hcl : ∀ x, (cl x).length = 2)
  (hu : xs[off]? = some v.v) (hvl : v.l.length ≤ 140737488355328) (hvR : Rd B R v.a v.l.length v.c 2 (v.l.flatMap cl))
  (hall : ∀ (i : Nat) (x : α), v.l[i]? = some x → ∀ (H : List HP) (S : WS), Wok k S → Sp B Tryz.prog 200 [.slice ra rn rc, ptr pe, .pointer (some ((adr v.a).add (i * 2)))] (H ++ R) [Wr pw S] (fun u H' => u = .tuple #[] ∧ ∃ S', Wrt k S (bs x) S' ∧ H' = [Wr pw S'])) (hS : Wok (k + 1) S) :
  Sp B Tryz.prog 199 [ptr pe, .pointer (some ad), ptr bo, ptr bn, ptr bl] R [Wr pw S] (fun u H' => u = .tuple #[] ∧ ∃ S', Wrt (k + 1) S (fRecs num bs v.l) S' ∧ H' = [Wr pw S']) := by
 obtain ⟨va, vc, l⟩ := v
 simp only [Rw.v] at *
 refine Sp.body Tryz.func199 rfl Tryz.ntmps199 (by simp) ?_
 simp only [argE, List.cons_append, List.nil_append, Nat.zero_add, Nat.reduceAdd]
 try refine gL ?_
 refine RT.ldB T rfl (rD (ho)) rfl rfl rfl rfl ?_
 try refine gL ?_
 refine RT.callC T (caps := []) rfl rfl fR_ (hof _) hg rfl rfl ?_
 rintro _ _ ⟨rfl, rfl⟩
 simp only [List.nil_append]
 refine RT.nilG rfl rfl rfl ?_
 refine RT.ldS T rfl hx.cons hu rfl rfl rfl ?_
 try refine gL ?_
 refine CT.loop (α := Nat × WS) (fun s => [(0, ptr pe), (1, .pointer (some ad)), (2, ptr bo), (3, ptr bn), (4, ptr bl), (14, .int .i64 l.length), (15, .int .i64 s.1)]) (fun s => Pu (s.1 ≤ l.length ∧ Wrt (k + 1) S (fRecs num bs (l.take s.1)) s.2) :: Wr pw s.2 :: R) (fun s => l.length - s.1) (0, S)
  ⟨rfl, rfl, rfl, rfl, rfl, rfl, rfl, trivial⟩ (fun w h => Sat.pu_in ⟨Nat.zero_le _, by rw [List.take_zero]; exact Wrt.nil hS.1⟩ h) (fun ⟨i, S1⟩ => CT.pu fun ⟨hi, hw⟩ => ?_)
 dsimp only at hi hw ⊢
 have hS1 := hw.wok hS
 have hS := hS1.1
 repeat' (first|refine gQ ?_|(refine gv ?_;(refine⟨fun hc=>?_,fun hc=>?_⟩<;>first|(exfalso;omega)|skip))|fail)
 ·have hil : i < l.length := by omega
  have hgi := List.getElem?_eq_getElem hil
  revert hgi
  generalize l[i] = x
  intro hgi
  refine CT.tail 5 mixed (by kernel_rfl) ?_
  dsimp only [List.take_succ_cons, List.take_zero, List.drop_succ_cons, List.drop_zero]
  try refine gL ?_
  refine RT.ldB T rfl (rD (hO)) rfl rfl rfl rfl ?_
  skip
  refine RT.ldB T rfl (rD (hn)) rfl rfl rfl rfl ?_
  try refine gL ?_
  refine AtQ.tail ?_
  refine RT.call T rfl fR_ (tag_fn (n := num) (k := 2) hS (by decide) (by decide) (by omega) (by omega)) rfl rfl rfl ?_
  rintro _ _ ⟨rfl, rfl⟩
  rw [wsTag_put (k := 2) h1 (by omega) (by decide)]
  simp only [List.cons_append, List.nil_append]
  try refine gQ ?_
  refine RT.ldB T rfl (rD (hO)) rfl rfl rfl rfl ?_
  have hS2 := hS1.put (enc (num * 8 + 2))
  refine RT.call T rfl fR_ (open_fn (by have := hS2.1; unfold WS.ok at this; omega) (by have := hS2.2.1; omega)) rfl rfl rfl ?_
  rintro _ _ ⟨rfl, rfl⟩
  simp only [List.cons_append, List.nil_append]
  try refine gQ ?_
  refine CT.tail 11 mixed (by kernel_rfl) ?_
  dsimp only [List.take_succ_cons, List.take_zero, List.drop_succ_cons, List.drop_zero]
  skip
  refine RT.ldB T rfl (rD (hb)) rfl rfl rfl rfl ?_
  refine RT.nilG rfl rfl rfl ?_
  refine RT.ldB T rfl (rD (hF)) hfl rfl rfl rfl ?_
  try refine gL ?_
  refine RT.ldB T rfl (rD (ho)) rfl rfl rfl rfl ?_
  refine RT.mv1 rfl rfl rfl ?_
  refine RT.qcallC T (caps := []) rfl rfl (QSp.of fR_ (hof _)) hg rfl rfl ?_
  refine RT.nilG rfl rfl rfl ?_
  refine RT.ldS T rfl hx.cons hu rfl rfl rfl ?_
  try refine gL ?_
  refine RT.ix T (j := i * 2) rfl rfl rfl (rD (hvR)) (by omega) (by omega) (by omega) rfl rfl ?_
  try refine gL ?_
  refine AtQ.tail ?_
  refine RT.call T rfl fR_ (hall i x hgi [] _ hS2.open_) rfl rfl rfl ?_
  rintro _ _ ⟨rfl, S3, hS3, rfl⟩
  simp only [List.cons_append, List.nil_append]
  have hS4 := hS3.wok hS2.open_
  try refine gL ?_
  refine RT.ldB T rfl (rD (hO)) rfl rfl rfl rfl ?_
  try refine gL ?_
  refine RT.call T rfl fR_ (shut_fn hS4.1 (by have := hS4.2.1; omega) (fun he => (hS4.2.2 he).1)) rfl rfl rfl ?_
  rintro _ _ ⟨rfl, rfl⟩
  simp only [List.cons_append, List.nil_append]
  repeat' (first|refine gL ?_|(refine gv ?_;refine gk ?_)|fail)
  refine AtQ.loop (i + 1, _) ⟨rfl, rfl, rfl, rfl, rfl, rfl, rfl, trivial⟩ (fun w h => Sat.pu_in ⟨by omega, by rw [fRecs_snoc hgi]; exact hw.app (Wrt.record hS1 hS3)⟩ h) (by dsimp only; omega)
 ·obtain rfl : i = l.length := by omega
  rw [List.take_length] at hw
  exact AtQ.fin0 (H' := [Wr pw S1]) Tryz.results199 ⟨rfl, S1, hw, rfl⟩ (fun w h => h) _ (by first | exact .inl rfl | exact .inr rfl)
set_option maxHeartbeats 2000000 in
theorem some_MessageDef_FieldDef_put {α : Type} {cl : α → List Value} {bs : α → Txt} {p rn rc : Nat} {ra : Option Addr} {v : Rw α} (hO : Rd B R (some ⟨pe, 0, none⟩) 1 1 2 [ptr pw, .int .i64 0]) (hn : Rd B R (some ⟨bn, 0, none⟩) 1 1 1 [.int .i32 num]) (ho : Rd B R (some ⟨bo, 0, none⟩) 1 1 1 [.func (.func g) #[] #[]]) (hg : al T.funs g = some gb) (hof : ∀ R, Sp B Tryz.prog g [.pointer (some ad)] R [] (fun v H' => v = .pointer (some (ad.add off)) ∧ H' = [])) (hx : StAt B R ad xs) (h1 : 1 ≤ num) (h2 : num ≤ 15)
  (hb : Rd B R (some ⟨bl, 0, none⟩) 1 1 1 [.pointer (some ⟨p, 4, none⟩)]) (hF : Rd B R (some ⟨p, 0, none⟩) 1 1 8 fl) (hfl : fl[4]? = some (.slice ra rn rc)) (hcl : ∀ x, (cl x).length = 9)
  (hu : xs[off]? = some v.v) (hvl : v.l.length ≤ 140737488355328) (hvR : Rd B R v.a v.l.length v.c 9 (v.l.flatMap cl))
  (hall : ∀ (i : Nat) (x : α), v.l[i]? = some x → ∀ (H : List HP) (S : WS), Wok k S → Sp B Tryz.prog 220 [.slice ra rn rc, ptr pe, .pointer (some ((adr v.a).add (i * 9)))] (H ++ R) [Wr pw S] (fun u H' => u = .tuple #[] ∧ ∃ S', Wrt k S (bs x) S' ∧ H' = [Wr pw S'])) (hS : Wok (k + 1) S) :
  Sp B Tryz.prog 219 [ptr pe, .pointer (some ad), ptr bo, ptr bn, ptr bl] R [Wr pw S] (fun u H' => u = .tuple #[] ∧ ∃ S', Wrt (k + 1) S (fRecs num bs v.l) S' ∧ H' = [Wr pw S']) := by
 obtain ⟨va, vc, l⟩ := v
 simp only [Rw.v] at *
 refine Sp.body Tryz.func219 rfl Tryz.ntmps219 (by simp) ?_
 simp only [argE, List.cons_append, List.nil_append, Nat.zero_add, Nat.reduceAdd]
 try refine gL ?_
 refine RT.ldB T rfl (rD (ho)) rfl rfl rfl rfl ?_
 try refine gL ?_
 refine RT.callC T (caps := []) rfl rfl fR_ (hof _) hg rfl rfl ?_
 rintro _ _ ⟨rfl, rfl⟩
 simp only [List.nil_append]
 refine RT.nilG rfl rfl rfl ?_
 refine RT.ldS T rfl hx.cons hu rfl rfl rfl ?_
 try refine gL ?_
 refine CT.loop (α := Nat × WS) (fun s => [(0, ptr pe), (1, .pointer (some ad)), (2, ptr bo), (3, ptr bn), (4, ptr bl), (14, .int .i64 l.length), (15, .int .i64 s.1)]) (fun s => Pu (s.1 ≤ l.length ∧ Wrt (k + 1) S (fRecs num bs (l.take s.1)) s.2) :: Wr pw s.2 :: R) (fun s => l.length - s.1) (0, S)
  ⟨rfl, rfl, rfl, rfl, rfl, rfl, rfl, trivial⟩ (fun w h => Sat.pu_in ⟨Nat.zero_le _, by rw [List.take_zero]; exact Wrt.nil hS.1⟩ h) (fun ⟨i, S1⟩ => CT.pu fun ⟨hi, hw⟩ => ?_)
 dsimp only at hi hw ⊢
 have hS1 := hw.wok hS
 have hS := hS1.1
 repeat' (first|refine gQ ?_|(refine gv ?_;(refine⟨fun hc=>?_,fun hc=>?_⟩<;>first|(exfalso;omega)|skip))|fail)
 ·have hil : i < l.length := by omega
  have hgi := List.getElem?_eq_getElem hil
  revert hgi
  generalize l[i] = x
  intro hgi
  refine CT.tail 5 mixed (by kernel_rfl) ?_
  dsimp only [List.take_succ_cons, List.take_zero, List.drop_succ_cons, List.drop_zero]
  try refine gL ?_
  refine RT.ldB T rfl (rD (hO)) rfl rfl rfl rfl ?_
  skip
  refine RT.ldB T rfl (rD (hn)) rfl rfl rfl rfl ?_
  try refine gL ?_
  refine AtQ.tail ?_
  refine RT.call T rfl fR_ (tag_fn (n := num) (k := 2) hS (by decide) (by decide) (by omega) (by omega)) rfl rfl rfl ?_
  rintro _ _ ⟨rfl, rfl⟩
  rw [wsTag_put (k := 2) h1 (by omega) (by decide)]
  simp only [List.cons_append, List.nil_append]
  try refine gQ ?_
  refine RT.ldB T rfl (rD (hO)) rfl rfl rfl rfl ?_
  have hS2 := hS1.put (enc (num * 8 + 2))
  refine RT.call T rfl fR_ (open_fn (by have := hS2.1; unfold WS.ok at this; omega) (by have := hS2.2.1; omega)) rfl rfl rfl ?_
  rintro _ _ ⟨rfl, rfl⟩
  simp only [List.cons_append, List.nil_append]
  try refine gQ ?_
  refine CT.tail 11 mixed (by kernel_rfl) ?_
  dsimp only [List.take_succ_cons, List.take_zero, List.drop_succ_cons, List.drop_zero]
  skip
  refine RT.ldB T rfl (rD (hb)) rfl rfl rfl rfl ?_
  refine RT.nilG rfl rfl rfl ?_
  refine RT.ldB T rfl (rD (hF)) hfl rfl rfl rfl ?_
  try refine gL ?_
  refine RT.ldB T rfl (rD (ho)) rfl rfl rfl rfl ?_
  refine RT.mv1 rfl rfl rfl ?_
  refine RT.qcallC T (caps := []) rfl rfl (QSp.of fR_ (hof _)) hg rfl rfl ?_
  refine RT.nilG rfl rfl rfl ?_
  refine RT.ldS T rfl hx.cons hu rfl rfl rfl ?_
  try refine gL ?_
  refine RT.ix T (j := i * 9) rfl rfl rfl (rD (hvR)) (by omega) (by omega) (by omega) rfl rfl ?_
  try refine gL ?_
  refine AtQ.tail ?_
  refine RT.call T rfl fR_ (hall i x hgi [] _ hS2.open_) rfl rfl rfl ?_
  rintro _ _ ⟨rfl, S3, hS3, rfl⟩
  simp only [List.cons_append, List.nil_append]
  have hS4 := hS3.wok hS2.open_
  try refine gL ?_
  refine RT.ldB T rfl (rD (hO)) rfl rfl rfl rfl ?_
  try refine gL ?_
  refine RT.call T rfl fR_ (shut_fn hS4.1 (by have := hS4.2.1; omega) (fun he => (hS4.2.2 he).1)) rfl rfl rfl ?_
  rintro _ _ ⟨rfl, rfl⟩
  simp only [List.cons_append, List.nil_append]
  repeat' (first|refine gL ?_|(refine gv ?_;refine gk ?_)|fail)
  refine AtQ.loop (i + 1, _) ⟨rfl, rfl, rfl, rfl, rfl, rfl, rfl, trivial⟩ (fun w h => Sat.pu_in ⟨by omega, by rw [fRecs_snoc hgi]; exact hw.app (Wrt.record hS1 hS3)⟩ h) (by dsimp only; omega)
 ·obtain rfl : i = l.length := by omega
  rw [List.take_length] at hw
  exact AtQ.fin0 (H' := [Wr pw S1]) Tryz.results219 ⟨rfl, S1, hw, rfl⟩ (fun w h => h) _ (by first | exact .inl rfl | exact .inr rfl)
set_option maxHeartbeats 2000000 in
theorem some_MessageDef_MessageDef_put {α : Type} {cl : α → List Value} {bs : α → Txt} {p rn rc : Nat} {ra : Option Addr} {v : Rw α} (hO : Rd B R (some ⟨pe, 0, none⟩) 1 1 2 [ptr pw, .int .i64 0]) (hn : Rd B R (some ⟨bn, 0, none⟩) 1 1 1 [.int .i32 num]) (ho : Rd B R (some ⟨bo, 0, none⟩) 1 1 1 [.func (.func g) #[] #[]]) (hg : al T.funs g = some gb) (hof : ∀ R, Sp B Tryz.prog g [.pointer (some ad)] R [] (fun v H' => v = .pointer (some (ad.add off)) ∧ H' = [])) (hx : StAt B R ad xs) (h1 : 1 ≤ num) (h2 : num ≤ 15)
  (hb : Rd B R (some ⟨bl, 0, none⟩) 1 1 1 [.pointer (some ⟨p, 3, none⟩)]) (hF : Rd B R (some ⟨p, 0, none⟩) 1 1 8 fl) (hfl : fl[3]? = some (.slice ra rn rc)) (hcl : ∀ x, (cl x).length = 7)
  (hu : xs[off]? = some v.v) (hvl : v.l.length ≤ 140737488355328) (hvR : Rd B R v.a v.l.length v.c 7 (v.l.flatMap cl))
  (hall : ∀ (i : Nat) (x : α), v.l[i]? = some x → ∀ (H : List HP) (S : WS), Wok k S → Sp B Tryz.prog 226 [.slice ra rn rc, ptr pe, .pointer (some ((adr v.a).add (i * 7)))] (H ++ R) [Wr pw S] (fun u H' => u = .tuple #[] ∧ ∃ S', Wrt k S (bs x) S' ∧ H' = [Wr pw S'])) (hS : Wok (k + 1) S) :
  Sp B Tryz.prog 225 [ptr pe, .pointer (some ad), ptr bo, ptr bn, ptr bl] R [Wr pw S] (fun u H' => u = .tuple #[] ∧ ∃ S', Wrt (k + 1) S (fRecs num bs v.l) S' ∧ H' = [Wr pw S']) := by
 obtain ⟨va, vc, l⟩ := v
 simp only [Rw.v] at *
 refine Sp.body Tryz.func225 rfl Tryz.ntmps225 (by simp) ?_
 simp only [argE, List.cons_append, List.nil_append, Nat.zero_add, Nat.reduceAdd]
 try refine gL ?_
 refine RT.ldB T rfl (rD (ho)) rfl rfl rfl rfl ?_
 try refine gL ?_
 refine RT.callC T (caps := []) rfl rfl fR_ (hof _) hg rfl rfl ?_
 rintro _ _ ⟨rfl, rfl⟩
 simp only [List.nil_append]
 refine RT.nilG rfl rfl rfl ?_
 refine RT.ldS T rfl hx.cons hu rfl rfl rfl ?_
 try refine gL ?_
 refine CT.loop (α := Nat × WS) (fun s => [(0, ptr pe), (1, .pointer (some ad)), (2, ptr bo), (3, ptr bn), (4, ptr bl), (14, .int .i64 l.length), (15, .int .i64 s.1)]) (fun s => Pu (s.1 ≤ l.length ∧ Wrt (k + 1) S (fRecs num bs (l.take s.1)) s.2) :: Wr pw s.2 :: R) (fun s => l.length - s.1) (0, S)
  ⟨rfl, rfl, rfl, rfl, rfl, rfl, rfl, trivial⟩ (fun w h => Sat.pu_in ⟨Nat.zero_le _, by rw [List.take_zero]; exact Wrt.nil hS.1⟩ h) (fun ⟨i, S1⟩ => CT.pu fun ⟨hi, hw⟩ => ?_)
 dsimp only at hi hw ⊢
 have hS1 := hw.wok hS
 have hS := hS1.1
 repeat' (first|refine gQ ?_|(refine gv ?_;(refine⟨fun hc=>?_,fun hc=>?_⟩<;>first|(exfalso;omega)|skip))|fail)
 ·have hil : i < l.length := by omega
  have hgi := List.getElem?_eq_getElem hil
  revert hgi
  generalize l[i] = x
  intro hgi
  refine CT.tail 5 mixed (by kernel_rfl) ?_
  dsimp only [List.take_succ_cons, List.take_zero, List.drop_succ_cons, List.drop_zero]
  try refine gL ?_
  refine RT.ldB T rfl (rD (hO)) rfl rfl rfl rfl ?_
  skip
  refine RT.ldB T rfl (rD (hn)) rfl rfl rfl rfl ?_
  try refine gL ?_
  refine AtQ.tail ?_
  refine RT.call T rfl fR_ (tag_fn (n := num) (k := 2) hS (by decide) (by decide) (by omega) (by omega)) rfl rfl rfl ?_
  rintro _ _ ⟨rfl, rfl⟩
  rw [wsTag_put (k := 2) h1 (by omega) (by decide)]
  simp only [List.cons_append, List.nil_append]
  try refine gQ ?_
  refine RT.ldB T rfl (rD (hO)) rfl rfl rfl rfl ?_
  have hS2 := hS1.put (enc (num * 8 + 2))
  refine RT.call T rfl fR_ (open_fn (by have := hS2.1; unfold WS.ok at this; omega) (by have := hS2.2.1; omega)) rfl rfl rfl ?_
  rintro _ _ ⟨rfl, rfl⟩
  simp only [List.cons_append, List.nil_append]
  try refine gQ ?_
  refine CT.tail 11 mixed (by kernel_rfl) ?_
  dsimp only [List.take_succ_cons, List.take_zero, List.drop_succ_cons, List.drop_zero]
  skip
  refine RT.ldB T rfl (rD (hb)) rfl rfl rfl rfl ?_
  refine RT.nilG rfl rfl rfl ?_
  refine RT.ldB T rfl (rD (hF)) hfl rfl rfl rfl ?_
  try refine gL ?_
  refine RT.ldB T rfl (rD (ho)) rfl rfl rfl rfl ?_
  refine RT.mv1 rfl rfl rfl ?_
  refine RT.qcallC T (caps := []) rfl rfl (QSp.of fR_ (hof _)) hg rfl rfl ?_
  refine RT.nilG rfl rfl rfl ?_
  refine RT.ldS T rfl hx.cons hu rfl rfl rfl ?_
  try refine gL ?_
  refine RT.ix T (j := i * 7) rfl rfl rfl (rD (hvR)) (by omega) (by omega) (by omega) rfl rfl ?_
  try refine gL ?_
  refine AtQ.tail ?_
  refine RT.call T rfl fR_ (hall i x hgi [] _ hS2.open_) rfl rfl rfl ?_
  rintro _ _ ⟨rfl, S3, hS3, rfl⟩
  simp only [List.cons_append, List.nil_append]
  have hS4 := hS3.wok hS2.open_
  try refine gL ?_
  refine RT.ldB T rfl (rD (hO)) rfl rfl rfl rfl ?_
  try refine gL ?_
  refine RT.call T rfl fR_ (shut_fn hS4.1 (by have := hS4.2.1; omega) (fun he => (hS4.2.2 he).1)) rfl rfl rfl ?_
  rintro _ _ ⟨rfl, rfl⟩
  simp only [List.cons_append, List.nil_append]
  repeat' (first|refine gL ?_|(refine gv ?_;refine gk ?_)|fail)
  refine AtQ.loop (i + 1, _) ⟨rfl, rfl, rfl, rfl, rfl, rfl, rfl, trivial⟩ (fun w h => Sat.pu_in ⟨by omega, by rw [fRecs_snoc hgi]; exact hw.app (Wrt.record hS1 hS3)⟩ h) (by dsimp only; omega)
 ·obtain rfl : i = l.length := by omega
  rw [List.take_length] at hw
  exact AtQ.fin0 (H' := [Wr pw S1]) Tryz.results225 ⟨rfl, S1, hw, rfl⟩ (fun w h => h) _ (by first | exact .inl rfl | exact .inr rfl)
set_option maxHeartbeats 2000000 in
theorem some_MessageDef_EnumDef_put {α : Type} {cl : α → List Value} {bs : α → Txt} {p rn rc : Nat} {ra : Option Addr} {v : Rw α} (hO : Rd B R (some ⟨pe, 0, none⟩) 1 1 2 [ptr pw, .int .i64 0]) (hn : Rd B R (some ⟨bn, 0, none⟩) 1 1 1 [.int .i32 num]) (ho : Rd B R (some ⟨bo, 0, none⟩) 1 1 1 [.func (.func g) #[] #[]]) (hg : al T.funs g = some gb) (hof : ∀ R, Sp B Tryz.prog g [.pointer (some ad)] R [] (fun v H' => v = .pointer (some (ad.add off)) ∧ H' = [])) (hx : StAt B R ad xs) (h1 : 1 ≤ num) (h2 : num ≤ 15)
  (hb : Rd B R (some ⟨bl, 0, none⟩) 1 1 1 [.pointer (some ⟨p, 5, none⟩)]) (hF : Rd B R (some ⟨p, 0, none⟩) 1 1 8 fl) (hfl : fl[5]? = some (.slice ra rn rc)) (hcl : ∀ x, (cl x).length = 5)
  (hu : xs[off]? = some v.v) (hvl : v.l.length ≤ 140737488355328) (hvR : Rd B R v.a v.l.length v.c 5 (v.l.flatMap cl))
  (hall : ∀ (i : Nat) (x : α), v.l[i]? = some x → ∀ (H : List HP) (S : WS), Wok k S → Sp B Tryz.prog 230 [.slice ra rn rc, ptr pe, .pointer (some ((adr v.a).add (i * 5)))] (H ++ R) [Wr pw S] (fun u H' => u = .tuple #[] ∧ ∃ S', Wrt k S (bs x) S' ∧ H' = [Wr pw S'])) (hS : Wok (k + 1) S) :
  Sp B Tryz.prog 229 [ptr pe, .pointer (some ad), ptr bo, ptr bn, ptr bl] R [Wr pw S] (fun u H' => u = .tuple #[] ∧ ∃ S', Wrt (k + 1) S (fRecs num bs v.l) S' ∧ H' = [Wr pw S']) := by
 obtain ⟨va, vc, l⟩ := v
 simp only [Rw.v] at *
 refine Sp.body Tryz.func229 rfl Tryz.ntmps229 (by simp) ?_
 simp only [argE, List.cons_append, List.nil_append, Nat.zero_add, Nat.reduceAdd]
 try refine gL ?_
 refine RT.ldB T rfl (rD (ho)) rfl rfl rfl rfl ?_
 try refine gL ?_
 refine RT.callC T (caps := []) rfl rfl fR_ (hof _) hg rfl rfl ?_
 rintro _ _ ⟨rfl, rfl⟩
 simp only [List.nil_append]
 refine RT.nilG rfl rfl rfl ?_
 refine RT.ldS T rfl hx.cons hu rfl rfl rfl ?_
 try refine gL ?_
 refine CT.loop (α := Nat × WS) (fun s => [(0, ptr pe), (1, .pointer (some ad)), (2, ptr bo), (3, ptr bn), (4, ptr bl), (14, .int .i64 l.length), (15, .int .i64 s.1)]) (fun s => Pu (s.1 ≤ l.length ∧ Wrt (k + 1) S (fRecs num bs (l.take s.1)) s.2) :: Wr pw s.2 :: R) (fun s => l.length - s.1) (0, S)
  ⟨rfl, rfl, rfl, rfl, rfl, rfl, rfl, trivial⟩ (fun w h => Sat.pu_in ⟨Nat.zero_le _, by rw [List.take_zero]; exact Wrt.nil hS.1⟩ h) (fun ⟨i, S1⟩ => CT.pu fun ⟨hi, hw⟩ => ?_)
 dsimp only at hi hw ⊢
 have hS1 := hw.wok hS
 have hS := hS1.1
 repeat' (first|refine gQ ?_|(refine gv ?_;(refine⟨fun hc=>?_,fun hc=>?_⟩<;>first|(exfalso;omega)|skip))|fail)
 ·have hil : i < l.length := by omega
  have hgi := List.getElem?_eq_getElem hil
  revert hgi
  generalize l[i] = x
  intro hgi
  refine CT.tail 5 mixed (by kernel_rfl) ?_
  dsimp only [List.take_succ_cons, List.take_zero, List.drop_succ_cons, List.drop_zero]
  try refine gL ?_
  refine RT.ldB T rfl (rD (hO)) rfl rfl rfl rfl ?_
  skip
  refine RT.ldB T rfl (rD (hn)) rfl rfl rfl rfl ?_
  try refine gL ?_
  refine AtQ.tail ?_
  refine RT.call T rfl fR_ (tag_fn (n := num) (k := 2) hS (by decide) (by decide) (by omega) (by omega)) rfl rfl rfl ?_
  rintro _ _ ⟨rfl, rfl⟩
  rw [wsTag_put (k := 2) h1 (by omega) (by decide)]
  simp only [List.cons_append, List.nil_append]
  try refine gQ ?_
  refine RT.ldB T rfl (rD (hO)) rfl rfl rfl rfl ?_
  have hS2 := hS1.put (enc (num * 8 + 2))
  refine RT.call T rfl fR_ (open_fn (by have := hS2.1; unfold WS.ok at this; omega) (by have := hS2.2.1; omega)) rfl rfl rfl ?_
  rintro _ _ ⟨rfl, rfl⟩
  simp only [List.cons_append, List.nil_append]
  try refine gQ ?_
  refine CT.tail 11 mixed (by kernel_rfl) ?_
  dsimp only [List.take_succ_cons, List.take_zero, List.drop_succ_cons, List.drop_zero]
  skip
  refine RT.ldB T rfl (rD (hb)) rfl rfl rfl rfl ?_
  refine RT.nilG rfl rfl rfl ?_
  refine RT.ldB T rfl (rD (hF)) hfl rfl rfl rfl ?_
  try refine gL ?_
  refine RT.ldB T rfl (rD (ho)) rfl rfl rfl rfl ?_
  refine RT.mv1 rfl rfl rfl ?_
  refine RT.qcallC T (caps := []) rfl rfl (QSp.of fR_ (hof _)) hg rfl rfl ?_
  refine RT.nilG rfl rfl rfl ?_
  refine RT.ldS T rfl hx.cons hu rfl rfl rfl ?_
  try refine gL ?_
  refine RT.ix T (j := i * 5) rfl rfl rfl (rD (hvR)) (by omega) (by omega) (by omega) rfl rfl ?_
  try refine gL ?_
  refine AtQ.tail ?_
  refine RT.call T rfl fR_ (hall i x hgi [] _ hS2.open_) rfl rfl rfl ?_
  rintro _ _ ⟨rfl, S3, hS3, rfl⟩
  simp only [List.cons_append, List.nil_append]
  have hS4 := hS3.wok hS2.open_
  try refine gL ?_
  refine RT.ldB T rfl (rD (hO)) rfl rfl rfl rfl ?_
  try refine gL ?_
  refine RT.call T rfl fR_ (shut_fn hS4.1 (by have := hS4.2.1; omega) (fun he => (hS4.2.2 he).1)) rfl rfl rfl ?_
  rintro _ _ ⟨rfl, rfl⟩
  simp only [List.cons_append, List.nil_append]
  repeat' (first|refine gL ?_|(refine gv ?_;refine gk ?_)|fail)
  refine AtQ.loop (i + 1, _) ⟨rfl, rfl, rfl, rfl, rfl, rfl, rfl, trivial⟩ (fun w h => Sat.pu_in ⟨by omega, by rw [fRecs_snoc hgi]; exact hw.app (Wrt.record hS1 hS3)⟩ h) (by dsimp only; omega)
 ·obtain rfl : i = l.length := by omega
  rw [List.take_length] at hw
  exact AtQ.fin0 (H' := [Wr pw S1]) Tryz.results229 ⟨rfl, S1, hw, rfl⟩ (fun w h => h) _ (by first | exact .inl rfl | exact .inr rfl)
set_option maxHeartbeats 2000000 in
theorem some_MessageDef_Span_put {α : Type} {cl : α → List Value} {bs : α → Txt} {p rn rc : Nat} {ra : Option Addr} {v : Rw α} (hO : Rd B R (some ⟨pe, 0, none⟩) 1 1 2 [ptr pw, .int .i64 0]) (hn : Rd B R (some ⟨bn, 0, none⟩) 1 1 1 [.int .i32 num]) (ho : Rd B R (some ⟨bo, 0, none⟩) 1 1 1 [.func (.func g) #[] #[]]) (hg : al T.funs g = some gb) (hof : ∀ R, Sp B Tryz.prog g [.pointer (some ad)] R [] (fun v H' => v = .pointer (some (ad.add off)) ∧ H' = [])) (hx : StAt B R ad xs) (h1 : 1 ≤ num) (h2 : num ≤ 15)
  (hb : Rd B R (some ⟨bl, 0, none⟩) 1 1 1 [.pointer (some ⟨p, 7, none⟩)]) (hF : Rd B R (some ⟨p, 0, none⟩) 1 1 8 fl) (hfl : fl[7]? = some (.slice ra rn rc)) (hcl : ∀ x, (cl x).length = 2)
  (hu : xs[off]? = some v.v) (hvl : v.l.length ≤ 140737488355328) (hvR : Rd B R v.a v.l.length v.c 2 (v.l.flatMap cl))
  (hall : ∀ (i : Nat) (x : α), v.l[i]? = some x → ∀ (H : List HP) (S : WS), Wok k S → Sp B Tryz.prog 200 [.slice ra rn rc, ptr pe, .pointer (some ((adr v.a).add (i * 2)))] (H ++ R) [Wr pw S] (fun u H' => u = .tuple #[] ∧ ∃ S', Wrt k S (bs x) S' ∧ H' = [Wr pw S'])) (hS : Wok (k + 1) S) :
  Sp B Tryz.prog 233 [ptr pe, .pointer (some ad), ptr bo, ptr bn, ptr bl] R [Wr pw S] (fun u H' => u = .tuple #[] ∧ ∃ S', Wrt (k + 1) S (fRecs num bs v.l) S' ∧ H' = [Wr pw S']) := by
 obtain ⟨va, vc, l⟩ := v
 simp only [Rw.v] at *
 refine Sp.body Tryz.func233 rfl Tryz.ntmps233 (by simp) ?_
 simp only [argE, List.cons_append, List.nil_append, Nat.zero_add, Nat.reduceAdd]
 try refine gL ?_
 refine RT.ldB T rfl (rD (ho)) rfl rfl rfl rfl ?_
 try refine gL ?_
 refine RT.callC T (caps := []) rfl rfl fR_ (hof _) hg rfl rfl ?_
 rintro _ _ ⟨rfl, rfl⟩
 simp only [List.nil_append]
 refine RT.nilG rfl rfl rfl ?_
 refine RT.ldS T rfl hx.cons hu rfl rfl rfl ?_
 try refine gL ?_
 refine CT.loop (α := Nat × WS) (fun s => [(0, ptr pe), (1, .pointer (some ad)), (2, ptr bo), (3, ptr bn), (4, ptr bl), (14, .int .i64 l.length), (15, .int .i64 s.1)]) (fun s => Pu (s.1 ≤ l.length ∧ Wrt (k + 1) S (fRecs num bs (l.take s.1)) s.2) :: Wr pw s.2 :: R) (fun s => l.length - s.1) (0, S)
  ⟨rfl, rfl, rfl, rfl, rfl, rfl, rfl, trivial⟩ (fun w h => Sat.pu_in ⟨Nat.zero_le _, by rw [List.take_zero]; exact Wrt.nil hS.1⟩ h) (fun ⟨i, S1⟩ => CT.pu fun ⟨hi, hw⟩ => ?_)
 dsimp only at hi hw ⊢
 have hS1 := hw.wok hS
 have hS := hS1.1
 repeat' (first|refine gQ ?_|(refine gv ?_;(refine⟨fun hc=>?_,fun hc=>?_⟩<;>first|(exfalso;omega)|skip))|fail)
 ·have hil : i < l.length := by omega
  have hgi := List.getElem?_eq_getElem hil
  revert hgi
  generalize l[i] = x
  intro hgi
  refine CT.tail 5 mixed (by kernel_rfl) ?_
  dsimp only [List.take_succ_cons, List.take_zero, List.drop_succ_cons, List.drop_zero]
  try refine gL ?_
  refine RT.ldB T rfl (rD (hO)) rfl rfl rfl rfl ?_
  skip
  refine RT.ldB T rfl (rD (hn)) rfl rfl rfl rfl ?_
  try refine gL ?_
  refine AtQ.tail ?_
  refine RT.call T rfl fR_ (tag_fn (n := num) (k := 2) hS (by decide) (by decide) (by omega) (by omega)) rfl rfl rfl ?_
  rintro _ _ ⟨rfl, rfl⟩
  rw [wsTag_put (k := 2) h1 (by omega) (by decide)]
  simp only [List.cons_append, List.nil_append]
  try refine gQ ?_
  refine RT.ldB T rfl (rD (hO)) rfl rfl rfl rfl ?_
  have hS2 := hS1.put (enc (num * 8 + 2))
  refine RT.call T rfl fR_ (open_fn (by have := hS2.1; unfold WS.ok at this; omega) (by have := hS2.2.1; omega)) rfl rfl rfl ?_
  rintro _ _ ⟨rfl, rfl⟩
  simp only [List.cons_append, List.nil_append]
  try refine gQ ?_
  refine CT.tail 11 mixed (by kernel_rfl) ?_
  dsimp only [List.take_succ_cons, List.take_zero, List.drop_succ_cons, List.drop_zero]
  skip
  refine RT.ldB T rfl (rD (hb)) rfl rfl rfl rfl ?_
  refine RT.nilG rfl rfl rfl ?_
  refine RT.ldB T rfl (rD (hF)) hfl rfl rfl rfl ?_
  try refine gL ?_
  refine RT.ldB T rfl (rD (ho)) rfl rfl rfl rfl ?_
  refine RT.mv1 rfl rfl rfl ?_
  refine RT.qcallC T (caps := []) rfl rfl (QSp.of fR_ (hof _)) hg rfl rfl ?_
  refine RT.nilG rfl rfl rfl ?_
  refine RT.ldS T rfl hx.cons hu rfl rfl rfl ?_
  try refine gL ?_
  refine RT.ix T (j := i * 2) rfl rfl rfl (rD (hvR)) (by omega) (by omega) (by omega) rfl rfl ?_
  try refine gL ?_
  refine AtQ.tail ?_
  refine RT.call T rfl fR_ (hall i x hgi [] _ hS2.open_) rfl rfl rfl ?_
  rintro _ _ ⟨rfl, S3, hS3, rfl⟩
  simp only [List.cons_append, List.nil_append]
  have hS4 := hS3.wok hS2.open_
  try refine gL ?_
  refine RT.ldB T rfl (rD (hO)) rfl rfl rfl rfl ?_
  try refine gL ?_
  refine RT.call T rfl fR_ (shut_fn hS4.1 (by have := hS4.2.1; omega) (fun he => (hS4.2.2 he).1)) rfl rfl rfl ?_
  rintro _ _ ⟨rfl, rfl⟩
  simp only [List.cons_append, List.nil_append]
  repeat' (first|refine gL ?_|(refine gv ?_;refine gk ?_)|fail)
  refine AtQ.loop (i + 1, _) ⟨rfl, rfl, rfl, rfl, rfl, rfl, rfl, trivial⟩ (fun w h => Sat.pu_in ⟨by omega, by rw [fRecs_snoc hgi]; exact hw.app (Wrt.record hS1 hS3)⟩ h) (by dsimp only; omega)
 ·obtain rfl : i = l.length := by omega
  rw [List.take_length] at hw
  exact AtQ.fin0 (H' := [Wr pw S1]) Tryz.results233 ⟨rfl, S1, hw, rfl⟩ (fun w h => h) _ (by first | exact .inl rfl | exact .inr rfl)
set_option maxHeartbeats 2000000 in
theorem some_File_Import_put {α : Type} {cl : α → List Value} {bs : α → Txt} {p rn rc : Nat} {ra : Option Addr} {v : Rw α} (hO : Rd B R (some ⟨pe, 0, none⟩) 1 1 2 [ptr pw, .int .i64 0]) (hn : Rd B R (some ⟨bn, 0, none⟩) 1 1 1 [.int .i32 num]) (ho : Rd B R (some ⟨bo, 0, none⟩) 1 1 1 [.func (.func g) #[] #[]]) (hg : al T.funs g = some gb) (hof : ∀ R, Sp B Tryz.prog g [.pointer (some ad)] R [] (fun v H' => v = .pointer (some (ad.add off)) ∧ H' = [])) (hx : StAt B R ad xs) (h1 : 1 ≤ num) (h2 : num ≤ 15)
  (hb : Rd B R (some ⟨bl, 0, none⟩) 1 1 1 [.pointer (some ⟨p, 2, none⟩)]) (hF : Rd B R (some ⟨p, 0, none⟩) 1 1 8 fl) (hfl : fl[2]? = some (.slice ra rn rc)) (hcl : ∀ x, (cl x).length = 2)
  (hu : xs[off]? = some v.v) (hvl : v.l.length ≤ 140737488355328) (hvR : Rd B R v.a v.l.length v.c 2 (v.l.flatMap cl))
  (hall : ∀ (i : Nat) (x : α), v.l[i]? = some x → ∀ (H : List HP) (S : WS), Wok k S → Sp B Tryz.prog 242 [.slice ra rn rc, ptr pe, .pointer (some ((adr v.a).add (i * 2)))] (H ++ R) [Wr pw S] (fun u H' => u = .tuple #[] ∧ ∃ S', Wrt k S (bs x) S' ∧ H' = [Wr pw S'])) (hS : Wok (k + 1) S) :
  Sp B Tryz.prog 241 [ptr pe, .pointer (some ad), ptr bo, ptr bn, ptr bl] R [Wr pw S] (fun u H' => u = .tuple #[] ∧ ∃ S', Wrt (k + 1) S (fRecs num bs v.l) S' ∧ H' = [Wr pw S']) := by
 obtain ⟨va, vc, l⟩ := v
 simp only [Rw.v] at *
 refine Sp.body Tryz.func241 rfl Tryz.ntmps241 (by simp) ?_
 simp only [argE, List.cons_append, List.nil_append, Nat.zero_add, Nat.reduceAdd]
 try refine gL ?_
 refine RT.ldB T rfl (rD (ho)) rfl rfl rfl rfl ?_
 try refine gL ?_
 refine RT.callC T (caps := []) rfl rfl fR_ (hof _) hg rfl rfl ?_
 rintro _ _ ⟨rfl, rfl⟩
 simp only [List.nil_append]
 refine RT.nilG rfl rfl rfl ?_
 refine RT.ldS T rfl hx.cons hu rfl rfl rfl ?_
 try refine gL ?_
 refine CT.loop (α := Nat × WS) (fun s => [(0, ptr pe), (1, .pointer (some ad)), (2, ptr bo), (3, ptr bn), (4, ptr bl), (14, .int .i64 l.length), (15, .int .i64 s.1)]) (fun s => Pu (s.1 ≤ l.length ∧ Wrt (k + 1) S (fRecs num bs (l.take s.1)) s.2) :: Wr pw s.2 :: R) (fun s => l.length - s.1) (0, S)
  ⟨rfl, rfl, rfl, rfl, rfl, rfl, rfl, trivial⟩ (fun w h => Sat.pu_in ⟨Nat.zero_le _, by rw [List.take_zero]; exact Wrt.nil hS.1⟩ h) (fun ⟨i, S1⟩ => CT.pu fun ⟨hi, hw⟩ => ?_)
 dsimp only at hi hw ⊢
 have hS1 := hw.wok hS
 have hS := hS1.1
 repeat' (first|refine gQ ?_|(refine gv ?_;(refine⟨fun hc=>?_,fun hc=>?_⟩<;>first|(exfalso;omega)|skip))|fail)
 ·have hil : i < l.length := by omega
  have hgi := List.getElem?_eq_getElem hil
  revert hgi
  generalize l[i] = x
  intro hgi
  refine CT.tail 5 mixed (by kernel_rfl) ?_
  dsimp only [List.take_succ_cons, List.take_zero, List.drop_succ_cons, List.drop_zero]
  try refine gL ?_
  refine RT.ldB T rfl (rD (hO)) rfl rfl rfl rfl ?_
  skip
  refine RT.ldB T rfl (rD (hn)) rfl rfl rfl rfl ?_
  try refine gL ?_
  refine AtQ.tail ?_
  refine RT.call T rfl fR_ (tag_fn (n := num) (k := 2) hS (by decide) (by decide) (by omega) (by omega)) rfl rfl rfl ?_
  rintro _ _ ⟨rfl, rfl⟩
  rw [wsTag_put (k := 2) h1 (by omega) (by decide)]
  simp only [List.cons_append, List.nil_append]
  try refine gQ ?_
  refine RT.ldB T rfl (rD (hO)) rfl rfl rfl rfl ?_
  have hS2 := hS1.put (enc (num * 8 + 2))
  refine RT.call T rfl fR_ (open_fn (by have := hS2.1; unfold WS.ok at this; omega) (by have := hS2.2.1; omega)) rfl rfl rfl ?_
  rintro _ _ ⟨rfl, rfl⟩
  simp only [List.cons_append, List.nil_append]
  try refine gQ ?_
  refine CT.tail 11 mixed (by kernel_rfl) ?_
  dsimp only [List.take_succ_cons, List.take_zero, List.drop_succ_cons, List.drop_zero]
  skip
  refine RT.ldB T rfl (rD (hb)) rfl rfl rfl rfl ?_
  refine RT.nilG rfl rfl rfl ?_
  refine RT.ldB T rfl (rD (hF)) hfl rfl rfl rfl ?_
  try refine gL ?_
  refine RT.ldB T rfl (rD (ho)) rfl rfl rfl rfl ?_
  refine RT.mv1 rfl rfl rfl ?_
  refine RT.qcallC T (caps := []) rfl rfl (QSp.of fR_ (hof _)) hg rfl rfl ?_
  refine RT.nilG rfl rfl rfl ?_
  refine RT.ldS T rfl hx.cons hu rfl rfl rfl ?_
  try refine gL ?_
  refine RT.ix T (j := i * 2) rfl rfl rfl (rD (hvR)) (by omega) (by omega) (by omega) rfl rfl ?_
  try refine gL ?_
  refine AtQ.tail ?_
  refine RT.call T rfl fR_ (hall i x hgi [] _ hS2.open_) rfl rfl rfl ?_
  rintro _ _ ⟨rfl, S3, hS3, rfl⟩
  simp only [List.cons_append, List.nil_append]
  have hS4 := hS3.wok hS2.open_
  try refine gL ?_
  refine RT.ldB T rfl (rD (hO)) rfl rfl rfl rfl ?_
  try refine gL ?_
  refine RT.call T rfl fR_ (shut_fn hS4.1 (by have := hS4.2.1; omega) (fun he => (hS4.2.2 he).1)) rfl rfl rfl ?_
  rintro _ _ ⟨rfl, rfl⟩
  simp only [List.cons_append, List.nil_append]
  repeat' (first|refine gL ?_|(refine gv ?_;refine gk ?_)|fail)
  refine AtQ.loop (i + 1, _) ⟨rfl, rfl, rfl, rfl, rfl, rfl, rfl, trivial⟩ (fun w h => Sat.pu_in ⟨by omega, by rw [fRecs_snoc hgi]; exact hw.app (Wrt.record hS1 hS3)⟩ h) (by dsimp only; omega)
 ·obtain rfl : i = l.length := by omega
  rw [List.take_length] at hw
  exact AtQ.fin0 (H' := [Wr pw S1]) Tryz.results241 ⟨rfl, S1, hw, rfl⟩ (fun w h => h) _ (by first | exact .inl rfl | exact .inr rfl)
set_option maxHeartbeats 2000000 in
theorem some_File_MessageDef_put {α : Type} {cl : α → List Value} {bs : α → Txt} {p rn rc : Nat} {ra : Option Addr} {v : Rw α} (hO : Rd B R (some ⟨pe, 0, none⟩) 1 1 2 [ptr pw, .int .i64 0]) (hn : Rd B R (some ⟨bn, 0, none⟩) 1 1 1 [.int .i32 num]) (ho : Rd B R (some ⟨bo, 0, none⟩) 1 1 1 [.func (.func g) #[] #[]]) (hg : al T.funs g = some gb) (hof : ∀ R, Sp B Tryz.prog g [.pointer (some ad)] R [] (fun v H' => v = .pointer (some (ad.add off)) ∧ H' = [])) (hx : StAt B R ad xs) (h1 : 1 ≤ num) (h2 : num ≤ 15)
  (hb : Rd B R (some ⟨bl, 0, none⟩) 1 1 1 [.pointer (some ⟨p, 3, none⟩)]) (hF : Rd B R (some ⟨p, 0, none⟩) 1 1 8 fl) (hfl : fl[3]? = some (.slice ra rn rc)) (hcl : ∀ x, (cl x).length = 7)
  (hu : xs[off]? = some v.v) (hvl : v.l.length ≤ 140737488355328) (hvR : Rd B R v.a v.l.length v.c 7 (v.l.flatMap cl))
  (hall : ∀ (i : Nat) (x : α), v.l[i]? = some x → ∀ (H : List HP) (S : WS), Wok k S → Sp B Tryz.prog 226 [.slice ra rn rc, ptr pe, .pointer (some ((adr v.a).add (i * 7)))] (H ++ R) [Wr pw S] (fun u H' => u = .tuple #[] ∧ ∃ S', Wrt k S (bs x) S' ∧ H' = [Wr pw S'])) (hS : Wok (k + 1) S) :
  Sp B Tryz.prog 245 [ptr pe, .pointer (some ad), ptr bo, ptr bn, ptr bl] R [Wr pw S] (fun u H' => u = .tuple #[] ∧ ∃ S', Wrt (k + 1) S (fRecs num bs v.l) S' ∧ H' = [Wr pw S']) := by
 obtain ⟨va, vc, l⟩ := v
 simp only [Rw.v] at *
 refine Sp.body Tryz.func245 rfl Tryz.ntmps245 (by simp) ?_
 simp only [argE, List.cons_append, List.nil_append, Nat.zero_add, Nat.reduceAdd]
 try refine gL ?_
 refine RT.ldB T rfl (rD (ho)) rfl rfl rfl rfl ?_
 try refine gL ?_
 refine RT.callC T (caps := []) rfl rfl fR_ (hof _) hg rfl rfl ?_
 rintro _ _ ⟨rfl, rfl⟩
 simp only [List.nil_append]
 refine RT.nilG rfl rfl rfl ?_
 refine RT.ldS T rfl hx.cons hu rfl rfl rfl ?_
 try refine gL ?_
 refine CT.loop (α := Nat × WS) (fun s => [(0, ptr pe), (1, .pointer (some ad)), (2, ptr bo), (3, ptr bn), (4, ptr bl), (14, .int .i64 l.length), (15, .int .i64 s.1)]) (fun s => Pu (s.1 ≤ l.length ∧ Wrt (k + 1) S (fRecs num bs (l.take s.1)) s.2) :: Wr pw s.2 :: R) (fun s => l.length - s.1) (0, S)
  ⟨rfl, rfl, rfl, rfl, rfl, rfl, rfl, trivial⟩ (fun w h => Sat.pu_in ⟨Nat.zero_le _, by rw [List.take_zero]; exact Wrt.nil hS.1⟩ h) (fun ⟨i, S1⟩ => CT.pu fun ⟨hi, hw⟩ => ?_)
 dsimp only at hi hw ⊢
 have hS1 := hw.wok hS
 have hS := hS1.1
 repeat' (first|refine gQ ?_|(refine gv ?_;(refine⟨fun hc=>?_,fun hc=>?_⟩<;>first|(exfalso;omega)|skip))|fail)
 ·have hil : i < l.length := by omega
  have hgi := List.getElem?_eq_getElem hil
  revert hgi
  generalize l[i] = x
  intro hgi
  refine CT.tail 5 mixed (by kernel_rfl) ?_
  dsimp only [List.take_succ_cons, List.take_zero, List.drop_succ_cons, List.drop_zero]
  try refine gL ?_
  refine RT.ldB T rfl (rD (hO)) rfl rfl rfl rfl ?_
  skip
  refine RT.ldB T rfl (rD (hn)) rfl rfl rfl rfl ?_
  try refine gL ?_
  refine AtQ.tail ?_
  refine RT.call T rfl fR_ (tag_fn (n := num) (k := 2) hS (by decide) (by decide) (by omega) (by omega)) rfl rfl rfl ?_
  rintro _ _ ⟨rfl, rfl⟩
  rw [wsTag_put (k := 2) h1 (by omega) (by decide)]
  simp only [List.cons_append, List.nil_append]
  try refine gQ ?_
  refine RT.ldB T rfl (rD (hO)) rfl rfl rfl rfl ?_
  have hS2 := hS1.put (enc (num * 8 + 2))
  refine RT.call T rfl fR_ (open_fn (by have := hS2.1; unfold WS.ok at this; omega) (by have := hS2.2.1; omega)) rfl rfl rfl ?_
  rintro _ _ ⟨rfl, rfl⟩
  simp only [List.cons_append, List.nil_append]
  try refine gQ ?_
  refine CT.tail 11 mixed (by kernel_rfl) ?_
  dsimp only [List.take_succ_cons, List.take_zero, List.drop_succ_cons, List.drop_zero]
  skip
  refine RT.ldB T rfl (rD (hb)) rfl rfl rfl rfl ?_
  refine RT.nilG rfl rfl rfl ?_
  refine RT.ldB T rfl (rD (hF)) hfl rfl rfl rfl ?_
  try refine gL ?_
  refine RT.ldB T rfl (rD (ho)) rfl rfl rfl rfl ?_
  refine RT.mv1 rfl rfl rfl ?_
  refine RT.qcallC T (caps := []) rfl rfl (QSp.of fR_ (hof _)) hg rfl rfl ?_
  refine RT.nilG rfl rfl rfl ?_
  refine RT.ldS T rfl hx.cons hu rfl rfl rfl ?_
  try refine gL ?_
  refine RT.ix T (j := i * 7) rfl rfl rfl (rD (hvR)) (by omega) (by omega) (by omega) rfl rfl ?_
  try refine gL ?_
  refine AtQ.tail ?_
  refine RT.call T rfl fR_ (hall i x hgi [] _ hS2.open_) rfl rfl rfl ?_
  rintro _ _ ⟨rfl, S3, hS3, rfl⟩
  simp only [List.cons_append, List.nil_append]
  have hS4 := hS3.wok hS2.open_
  try refine gL ?_
  refine RT.ldB T rfl (rD (hO)) rfl rfl rfl rfl ?_
  try refine gL ?_
  refine RT.call T rfl fR_ (shut_fn hS4.1 (by have := hS4.2.1; omega) (fun he => (hS4.2.2 he).1)) rfl rfl rfl ?_
  rintro _ _ ⟨rfl, rfl⟩
  simp only [List.cons_append, List.nil_append]
  repeat' (first|refine gL ?_|(refine gv ?_;refine gk ?_)|fail)
  refine AtQ.loop (i + 1, _) ⟨rfl, rfl, rfl, rfl, rfl, rfl, rfl, trivial⟩ (fun w h => Sat.pu_in ⟨by omega, by rw [fRecs_snoc hgi]; exact hw.app (Wrt.record hS1 hS3)⟩ h) (by dsimp only; omega)
 ·obtain rfl : i = l.length := by omega
  rw [List.take_length] at hw
  exact AtQ.fin0 (H' := [Wr pw S1]) Tryz.results245 ⟨rfl, S1, hw, rfl⟩ (fun w h => h) _ (by first | exact .inl rfl | exact .inr rfl)
set_option maxHeartbeats 2000000 in
theorem some_File_EnumDef_put {α : Type} {cl : α → List Value} {bs : α → Txt} {p rn rc : Nat} {ra : Option Addr} {v : Rw α} (hO : Rd B R (some ⟨pe, 0, none⟩) 1 1 2 [ptr pw, .int .i64 0]) (hn : Rd B R (some ⟨bn, 0, none⟩) 1 1 1 [.int .i32 num]) (ho : Rd B R (some ⟨bo, 0, none⟩) 1 1 1 [.func (.func g) #[] #[]]) (hg : al T.funs g = some gb) (hof : ∀ R, Sp B Tryz.prog g [.pointer (some ad)] R [] (fun v H' => v = .pointer (some (ad.add off)) ∧ H' = [])) (hx : StAt B R ad xs) (h1 : 1 ≤ num) (h2 : num ≤ 15)
  (hb : Rd B R (some ⟨bl, 0, none⟩) 1 1 1 [.pointer (some ⟨p, 5, none⟩)]) (hF : Rd B R (some ⟨p, 0, none⟩) 1 1 8 fl) (hfl : fl[5]? = some (.slice ra rn rc)) (hcl : ∀ x, (cl x).length = 5)
  (hu : xs[off]? = some v.v) (hvl : v.l.length ≤ 140737488355328) (hvR : Rd B R v.a v.l.length v.c 5 (v.l.flatMap cl))
  (hall : ∀ (i : Nat) (x : α), v.l[i]? = some x → ∀ (H : List HP) (S : WS), Wok k S → Sp B Tryz.prog 230 [.slice ra rn rc, ptr pe, .pointer (some ((adr v.a).add (i * 5)))] (H ++ R) [Wr pw S] (fun u H' => u = .tuple #[] ∧ ∃ S', Wrt k S (bs x) S' ∧ H' = [Wr pw S'])) (hS : Wok (k + 1) S) :
  Sp B Tryz.prog 247 [ptr pe, .pointer (some ad), ptr bo, ptr bn, ptr bl] R [Wr pw S] (fun u H' => u = .tuple #[] ∧ ∃ S', Wrt (k + 1) S (fRecs num bs v.l) S' ∧ H' = [Wr pw S']) := by
 obtain ⟨va, vc, l⟩ := v
 simp only [Rw.v] at *
 refine Sp.body Tryz.func247 rfl Tryz.ntmps247 (by simp) ?_
 simp only [argE, List.cons_append, List.nil_append, Nat.zero_add, Nat.reduceAdd]
 try refine gL ?_
 refine RT.ldB T rfl (rD (ho)) rfl rfl rfl rfl ?_
 try refine gL ?_
 refine RT.callC T (caps := []) rfl rfl fR_ (hof _) hg rfl rfl ?_
 rintro _ _ ⟨rfl, rfl⟩
 simp only [List.nil_append]
 refine RT.nilG rfl rfl rfl ?_
 refine RT.ldS T rfl hx.cons hu rfl rfl rfl ?_
 try refine gL ?_
 refine CT.loop (α := Nat × WS) (fun s => [(0, ptr pe), (1, .pointer (some ad)), (2, ptr bo), (3, ptr bn), (4, ptr bl), (14, .int .i64 l.length), (15, .int .i64 s.1)]) (fun s => Pu (s.1 ≤ l.length ∧ Wrt (k + 1) S (fRecs num bs (l.take s.1)) s.2) :: Wr pw s.2 :: R) (fun s => l.length - s.1) (0, S)
  ⟨rfl, rfl, rfl, rfl, rfl, rfl, rfl, trivial⟩ (fun w h => Sat.pu_in ⟨Nat.zero_le _, by rw [List.take_zero]; exact Wrt.nil hS.1⟩ h) (fun ⟨i, S1⟩ => CT.pu fun ⟨hi, hw⟩ => ?_)
 dsimp only at hi hw ⊢
 have hS1 := hw.wok hS
 have hS := hS1.1
 repeat' (first|refine gQ ?_|(refine gv ?_;(refine⟨fun hc=>?_,fun hc=>?_⟩<;>first|(exfalso;omega)|skip))|fail)
 ·have hil : i < l.length := by omega
  have hgi := List.getElem?_eq_getElem hil
  revert hgi
  generalize l[i] = x
  intro hgi
  refine CT.tail 5 mixed (by kernel_rfl) ?_
  dsimp only [List.take_succ_cons, List.take_zero, List.drop_succ_cons, List.drop_zero]
  try refine gL ?_
  refine RT.ldB T rfl (rD (hO)) rfl rfl rfl rfl ?_
  skip
  refine RT.ldB T rfl (rD (hn)) rfl rfl rfl rfl ?_
  try refine gL ?_
  refine AtQ.tail ?_
  refine RT.call T rfl fR_ (tag_fn (n := num) (k := 2) hS (by decide) (by decide) (by omega) (by omega)) rfl rfl rfl ?_
  rintro _ _ ⟨rfl, rfl⟩
  rw [wsTag_put (k := 2) h1 (by omega) (by decide)]
  simp only [List.cons_append, List.nil_append]
  try refine gQ ?_
  refine RT.ldB T rfl (rD (hO)) rfl rfl rfl rfl ?_
  have hS2 := hS1.put (enc (num * 8 + 2))
  refine RT.call T rfl fR_ (open_fn (by have := hS2.1; unfold WS.ok at this; omega) (by have := hS2.2.1; omega)) rfl rfl rfl ?_
  rintro _ _ ⟨rfl, rfl⟩
  simp only [List.cons_append, List.nil_append]
  try refine gQ ?_
  refine CT.tail 11 mixed (by kernel_rfl) ?_
  dsimp only [List.take_succ_cons, List.take_zero, List.drop_succ_cons, List.drop_zero]
  skip
  refine RT.ldB T rfl (rD (hb)) rfl rfl rfl rfl ?_
  refine RT.nilG rfl rfl rfl ?_
  refine RT.ldB T rfl (rD (hF)) hfl rfl rfl rfl ?_
  try refine gL ?_
  refine RT.ldB T rfl (rD (ho)) rfl rfl rfl rfl ?_
  refine RT.mv1 rfl rfl rfl ?_
  refine RT.qcallC T (caps := []) rfl rfl (QSp.of fR_ (hof _)) hg rfl rfl ?_
  refine RT.nilG rfl rfl rfl ?_
  refine RT.ldS T rfl hx.cons hu rfl rfl rfl ?_
  try refine gL ?_
  refine RT.ix T (j := i * 5) rfl rfl rfl (rD (hvR)) (by omega) (by omega) (by omega) rfl rfl ?_
  try refine gL ?_
  refine AtQ.tail ?_
  refine RT.call T rfl fR_ (hall i x hgi [] _ hS2.open_) rfl rfl rfl ?_
  rintro _ _ ⟨rfl, S3, hS3, rfl⟩
  simp only [List.cons_append, List.nil_append]
  have hS4 := hS3.wok hS2.open_
  try refine gL ?_
  refine RT.ldB T rfl (rD (hO)) rfl rfl rfl rfl ?_
  try refine gL ?_
  refine RT.call T rfl fR_ (shut_fn hS4.1 (by have := hS4.2.1; omega) (fun he => (hS4.2.2 he).1)) rfl rfl rfl ?_
  rintro _ _ ⟨rfl, rfl⟩
  simp only [List.cons_append, List.nil_append]
  repeat' (first|refine gL ?_|(refine gv ?_;refine gk ?_)|fail)
  refine AtQ.loop (i + 1, _) ⟨rfl, rfl, rfl, rfl, rfl, rfl, rfl, trivial⟩ (fun w h => Sat.pu_in ⟨by omega, by rw [fRecs_snoc hgi]; exact hw.app (Wrt.record hS1 hS3)⟩ h) (by dsimp only; omega)
 ·obtain rfl : i = l.length := by omega
  rw [List.take_length] at hw
  exact AtQ.fin0 (H' := [Wr pw S1]) Tryz.results247 ⟨rfl, S1, hw, rfl⟩ (fun w h => h) _ (by first | exact .inl rfl | exact .inr rfl)
set_option maxHeartbeats 2000000 in
theorem some_set_File_put {α : Type} {cl : α → List Value} {bs : α → Txt} {p rn rc : Nat} {ra : Option Addr} {v : Rw α} (hO : Rd B R (some ⟨pe, 0, none⟩) 1 1 2 [ptr pw, .int .i64 0]) (hn : Rd B R (some ⟨bn, 0, none⟩) 1 1 1 [.int .i32 num]) (ho : Rd B R (some ⟨bo, 0, none⟩) 1 1 1 [.func (.func g) #[] #[]]) (hg : al T.funs g = some gb) (hof : ∀ R, Sp B Tryz.prog g [.pointer (some ad)] R [] (fun v H' => v = .pointer (some (ad.add off)) ∧ H' = [])) (hx : StAt B R ad xs) (h1 : 1 ≤ num) (h2 : num ≤ 15)
  (hb : Rd B R (some ⟨bl, 0, none⟩) 1 1 1 [.pointer (some ⟨p, 1, none⟩)]) (hF : Rd B R (some ⟨p, 0, none⟩) 1 1 8 fl) (hfl : fl[1]? = some (.slice ra rn rc)) (hcl : ∀ x, (cl x).length = 5)
  (hu : xs[off]? = some v.v) (hvl : v.l.length ≤ 140737488355328) (hvR : Rd B R v.a v.l.length v.c 5 (v.l.flatMap cl))
  (hall : ∀ (i : Nat) (x : α), v.l[i]? = some x → ∀ (H : List HP) (S : WS), Wok k S → Sp B Tryz.prog 250 [.slice ra rn rc, ptr pe, .pointer (some ((adr v.a).add (i * 5)))] (H ++ R) [Wr pw S] (fun u H' => u = .tuple #[] ∧ ∃ S', Wrt k S (bs x) S' ∧ H' = [Wr pw S'])) (hS : Wok (k + 1) S) :
  Sp B Tryz.prog 249 [ptr pe, .pointer (some ad), ptr bo, ptr bn, ptr bl] R [Wr pw S] (fun u H' => u = .tuple #[] ∧ ∃ S', Wrt (k + 1) S (fRecs num bs v.l) S' ∧ H' = [Wr pw S']) := by
 obtain ⟨va, vc, l⟩ := v
 simp only [Rw.v] at *
 refine Sp.body Tryz.func249 rfl Tryz.ntmps249 (by simp) ?_
 simp only [argE, List.cons_append, List.nil_append, Nat.zero_add, Nat.reduceAdd]
 try refine gL ?_
 refine RT.ldB T rfl (rD (ho)) rfl rfl rfl rfl ?_
 try refine gL ?_
 refine RT.callC T (caps := []) rfl rfl fR_ (hof _) hg rfl rfl ?_
 rintro _ _ ⟨rfl, rfl⟩
 simp only [List.nil_append]
 refine RT.nilG rfl rfl rfl ?_
 refine RT.ldS T rfl hx.cons hu rfl rfl rfl ?_
 try refine gL ?_
 refine CT.loop (α := Nat × WS) (fun s => [(0, ptr pe), (1, .pointer (some ad)), (2, ptr bo), (3, ptr bn), (4, ptr bl), (14, .int .i64 l.length), (15, .int .i64 s.1)]) (fun s => Pu (s.1 ≤ l.length ∧ Wrt (k + 1) S (fRecs num bs (l.take s.1)) s.2) :: Wr pw s.2 :: R) (fun s => l.length - s.1) (0, S)
  ⟨rfl, rfl, rfl, rfl, rfl, rfl, rfl, trivial⟩ (fun w h => Sat.pu_in ⟨Nat.zero_le _, by rw [List.take_zero]; exact Wrt.nil hS.1⟩ h) (fun ⟨i, S1⟩ => CT.pu fun ⟨hi, hw⟩ => ?_)
 dsimp only at hi hw ⊢
 have hS1 := hw.wok hS
 have hS := hS1.1
 repeat' (first|refine gQ ?_|(refine gv ?_;(refine⟨fun hc=>?_,fun hc=>?_⟩<;>first|(exfalso;omega)|skip))|fail)
 ·have hil : i < l.length := by omega
  have hgi := List.getElem?_eq_getElem hil
  revert hgi
  generalize l[i] = x
  intro hgi
  refine CT.tail 5 mixed (by kernel_rfl) ?_
  dsimp only [List.take_succ_cons, List.take_zero, List.drop_succ_cons, List.drop_zero]
  try refine gL ?_
  refine RT.ldB T rfl (rD (hO)) rfl rfl rfl rfl ?_
  skip
  refine RT.ldB T rfl (rD (hn)) rfl rfl rfl rfl ?_
  try refine gL ?_
  refine AtQ.tail ?_
  refine RT.call T rfl fR_ (tag_fn (n := num) (k := 2) hS (by decide) (by decide) (by omega) (by omega)) rfl rfl rfl ?_
  rintro _ _ ⟨rfl, rfl⟩
  rw [wsTag_put (k := 2) h1 (by omega) (by decide)]
  simp only [List.cons_append, List.nil_append]
  try refine gQ ?_
  refine RT.ldB T rfl (rD (hO)) rfl rfl rfl rfl ?_
  have hS2 := hS1.put (enc (num * 8 + 2))
  refine RT.call T rfl fR_ (open_fn (by have := hS2.1; unfold WS.ok at this; omega) (by have := hS2.2.1; omega)) rfl rfl rfl ?_
  rintro _ _ ⟨rfl, rfl⟩
  simp only [List.cons_append, List.nil_append]
  try refine gQ ?_
  refine CT.tail 11 mixed (by kernel_rfl) ?_
  dsimp only [List.take_succ_cons, List.take_zero, List.drop_succ_cons, List.drop_zero]
  skip
  refine RT.ldB T rfl (rD (hb)) rfl rfl rfl rfl ?_
  refine RT.nilG rfl rfl rfl ?_
  refine RT.ldB T rfl (rD (hF)) hfl rfl rfl rfl ?_
  try refine gL ?_
  refine RT.ldB T rfl (rD (ho)) rfl rfl rfl rfl ?_
  refine RT.mv1 rfl rfl rfl ?_
  refine RT.qcallC T (caps := []) rfl rfl (QSp.of fR_ (hof _)) hg rfl rfl ?_
  refine RT.nilG rfl rfl rfl ?_
  refine RT.ldS T rfl hx.cons hu rfl rfl rfl ?_
  try refine gL ?_
  refine RT.ix T (j := i * 5) rfl rfl rfl (rD (hvR)) (by omega) (by omega) (by omega) rfl rfl ?_
  try refine gL ?_
  refine AtQ.tail ?_
  refine RT.call T rfl fR_ (hall i x hgi [] _ hS2.open_) rfl rfl rfl ?_
  rintro _ _ ⟨rfl, S3, hS3, rfl⟩
  simp only [List.cons_append, List.nil_append]
  have hS4 := hS3.wok hS2.open_
  try refine gL ?_
  refine RT.ldB T rfl (rD (hO)) rfl rfl rfl rfl ?_
  try refine gL ?_
  refine RT.call T rfl fR_ (shut_fn hS4.1 (by have := hS4.2.1; omega) (fun he => (hS4.2.2 he).1)) rfl rfl rfl ?_
  rintro _ _ ⟨rfl, rfl⟩
  simp only [List.cons_append, List.nil_append]
  repeat' (first|refine gL ?_|(refine gv ?_;refine gk ?_)|fail)
  refine AtQ.loop (i + 1, _) ⟨rfl, rfl, rfl, rfl, rfl, rfl, rfl, trivial⟩ (fun w h => Sat.pu_in ⟨by omega, by rw [fRecs_snoc hgi]; exact hw.app (Wrt.record hS1 hS3)⟩ h) (by dsimp only; omega)
 ·obtain rfl : i = l.length := by omega
  rw [List.take_length] at hw
  exact AtQ.fin0 (H' := [Wr pw S1]) Tryz.results249 ⟨rfl, S1, hw, rfl⟩ (fun w h => h) _ (by first | exact .inl rfl | exact .inr rfl)
end Go.Proofs.YtclcnhfponjdaaaGreatDoor
end
section
namespace Go.Proofs.YtclcnhfponjdaaaGreatDoor
open Go.Sk
set_option maxRecDepth 100000
theorem flat_snoc {α : Type} {f : α → Txt} {l : List α} {i : Nat} {x : α} (h : l[i]? = some x) : (l.take (i + 1)).flatMap f = (l.take i).flatMap f ++ f x := by
 rw [List.take_add_one, h, List.flatMap_append]
 simp
theorem fp_len (q : FP × Txt) : q.1.cells.length = 5 := rfl
attribute [local irreducible] Cs Own Ex Pu Yld RT LJ QJ AtQ CT Rd QSp Sp FinQ Then LoopQ CutQ DT TakeQ EffQ
attribute [local irreducible] Wr StAt
variable {B : World} {R : List HP} {pe pw k : Nat} {ad : Addr} {S : WS}
set_option maxHeartbeats 1000000 in
theorem sets_all {fs : List (FP × Txt)} {a : Option Addr} {c : Nat} (hR : Rd B R a fs.length c 5 (fs.flatMap fun q => q.1.cells)) (hn : fs.length ≤ 100)
  (hput : ∀ q ∈ fs, (∃ bb, al T.funs q.1.fp = some bb) ∧ ∀ (H : List HP) (S : WS), Wok k S → Sp B Tryz.prog q.1.fp ([ptr pe, .pointer (some ad)] ++ q.1.cp) (H ++ R) [Wr pw S] (fun u H' => u = .tuple #[] ∧ ∃ S', Wrt k S q.2 S' ∧ H' = [Wr pw S'])) (hS : Wok k S) :
  Sp B Tryz.prog 62 [.slice a fs.length c, ptr pe, .pointer (some ad)] R [Wr pw S] (fun u H' => u = .tuple #[] ∧ ∃ S', Wrt k S (fs.flatMap (·.2)) S' ∧ H' = [Wr pw S']) := by
 refine Sp.body Tryz.func62 rfl Tryz.ntmps62 (by simp) ?_
 simp only [argE, List.cons_append, List.nil_append, Nat.zero_add, Nat.reduceAdd]
 try refine gL ?_
 refine CT.loop (α := Nat × WS) (fun s => [(0, .slice a fs.length c), (1, ptr pe), (2, .pointer (some ad)), (8, .slice a fs.length c), (9, .int .i64 fs.length), (10, .int .i64 s.1)]) (fun s => Pu (s.1 ≤ fs.length ∧ Wrt k S ((fs.take s.1).flatMap (·.2)) s.2) :: Wr pw s.2 :: R) (fun s => fs.length - s.1) (0, S)
  ⟨rfl, rfl, rfl, rfl, rfl, rfl, trivial⟩ (fun w h => Sat.pu_in ⟨Nat.zero_le _, by rw [List.take_zero]; exact Wrt.nil hS.1⟩ h) (fun ⟨i, S1⟩ => CT.pu fun ⟨hi, hw⟩ => ?_)
 dsimp only at hi hw ⊢
 have hS1 := hw.wok hS
 repeat' (first|refine gL ?_|(refine gv ?_;(refine⟨fun hc=>?_,fun hc=>?_⟩<;>first|(exfalso;omega)|skip))|fail)
 ·have hil : i < fs.length := by omega
  have hgi := List.getElem?_eq_getElem hil
  revert hgi
  generalize fs[i] = q
  intro hgi
  obtain ⟨⟨bb, hbb⟩, hq⟩ := hput q (List.mem_of_getElem? hgi)
  refine RT.ix T (j := i * 5) rfl rfl rfl (rD (hR)) (by omega) (by omega) (by omega) rfl rfl ?_
  refine RT.ldra T rfl (rD (hR)) (l := q.1.cells) (flat_sub (f := fun q : FP × Txt => q.1.cells) (z := 5) fp_len fs i _ hgi) rfl rfl rfl rfl ?_
  repeat' (first|refine gM ?_|(refine gb ?_;intro b)|fail)
  revert b
  intro b0
  refine RT.callC T (caps := q.1.cp) rfl rfl (Pre := [Wr pw S1]) fR_ (hq [Cs b0 306 q.1.cells] S1 hS1) hbb rfl rfl ?_
  rintro _ _ ⟨rfl, S2, hS2, rfl⟩
  simp only [List.cons_append, List.nil_append]
  repeat' (first|refine gL ?_|(refine gv ?_;refine gk ?_)|fail)
  refine AtQ.loop (i + 1, S2) ⟨rfl, rfl, rfl, rfl, rfl, rfl, trivial⟩ (fun w h => Sat.pu_in ⟨by omega, by rw [flat_snoc hgi]; exact hw.app hS2⟩ (h.frd (Ps := [_]) (Qs := [_]) fR_)) (by dsimp only; omega)
 ·obtain rfl : i = fs.length := by omega
  rw [List.take_length] at hw
  exact AtQ.fin0 (H' := [Wr pw S1]) Tryz.results62 ⟨rfl, S1, hw, rfl⟩ (fun w h => h) _ (by first | exact .inl rfl | exact .inr rfl)
set_option maxHeartbeats 1000000 in
theorem files_all {fs : List (FP × Txt)} {a : Option Addr} {c : Nat} (hR : Rd B R a fs.length c 5 (fs.flatMap fun q => q.1.cells)) (hn : fs.length ≤ 100)
  (hput : ∀ q ∈ fs, (∃ bb, al T.funs q.1.fp = some bb) ∧ ∀ (H : List HP) (S : WS), Wok k S → Sp B Tryz.prog q.1.fp ([ptr pe, .pointer (some ad)] ++ q.1.cp) (H ++ R) [Wr pw S] (fun u H' => u = .tuple #[] ∧ ∃ S', Wrt k S q.2 S' ∧ H' = [Wr pw S'])) (hS : Wok k S) :
  Sp B Tryz.prog 250 [.slice a fs.length c, ptr pe, .pointer (some ad)] R [Wr pw S] (fun u H' => u = .tuple #[] ∧ ∃ S', Wrt k S (fs.flatMap (·.2)) S' ∧ H' = [Wr pw S']) := by
 refine Sp.body Tryz.func250 rfl Tryz.ntmps250 (by simp) ?_
 simp only [argE, List.cons_append, List.nil_append, Nat.zero_add, Nat.reduceAdd]
 try refine gL ?_
 refine CT.loop (α := Nat × WS) (fun s => [(0, .slice a fs.length c), (1, ptr pe), (2, .pointer (some ad)), (8, .slice a fs.length c), (9, .int .i64 fs.length), (10, .int .i64 s.1)]) (fun s => Pu (s.1 ≤ fs.length ∧ Wrt k S ((fs.take s.1).flatMap (·.2)) s.2) :: Wr pw s.2 :: R) (fun s => fs.length - s.1) (0, S)
  ⟨rfl, rfl, rfl, rfl, rfl, rfl, trivial⟩ (fun w h => Sat.pu_in ⟨Nat.zero_le _, by rw [List.take_zero]; exact Wrt.nil hS.1⟩ h) (fun ⟨i, S1⟩ => CT.pu fun ⟨hi, hw⟩ => ?_)
 dsimp only at hi hw ⊢
 have hS1 := hw.wok hS
 repeat' (first|refine gL ?_|(refine gv ?_;(refine⟨fun hc=>?_,fun hc=>?_⟩<;>first|(exfalso;omega)|skip))|fail)
 ·have hil : i < fs.length := by omega
  have hgi := List.getElem?_eq_getElem hil
  revert hgi
  generalize fs[i] = q
  intro hgi
  obtain ⟨⟨bb, hbb⟩, hq⟩ := hput q (List.mem_of_getElem? hgi)
  refine RT.ix T (j := i * 5) rfl rfl rfl (rD (hR)) (by omega) (by omega) (by omega) rfl rfl ?_
  refine RT.ldra T rfl (rD (hR)) (l := q.1.cells) (flat_sub (f := fun q : FP × Txt => q.1.cells) (z := 5) fp_len fs i _ hgi) rfl rfl rfl rfl ?_
  repeat' (first|refine gM ?_|(refine gb ?_;intro b)|fail)
  revert b
  intro b0
  refine RT.callC T (caps := q.1.cp) rfl rfl (Pre := [Wr pw S1]) fR_ (hq [Cs b0 292 q.1.cells] S1 hS1) hbb rfl rfl ?_
  rintro _ _ ⟨rfl, S2, hS2, rfl⟩
  simp only [List.cons_append, List.nil_append]
  repeat' (first|refine gL ?_|(refine gv ?_;refine gk ?_)|fail)
  refine AtQ.loop (i + 1, S2) ⟨rfl, rfl, rfl, rfl, rfl, rfl, trivial⟩ (fun w h => Sat.pu_in ⟨by omega, by rw [flat_snoc hgi]; exact hw.app hS2⟩ (h.frd (Ps := [_]) (Qs := [_]) fR_)) (by dsimp only; omega)
 ·obtain rfl : i = fs.length := by omega
  rw [List.take_length] at hw
  exact AtQ.fin0 (H' := [Wr pw S1]) Tryz.results250 ⟨rfl, S1, hw, rfl⟩ (fun w h => h) _ (by first | exact .inl rfl | exact .inr rfl)
set_option maxHeartbeats 1000000 in
theorem imports_all {fs : List (FP × Txt)} {a : Option Addr} {c : Nat} (hR : Rd B R a fs.length c 5 (fs.flatMap fun q => q.1.cells)) (hn : fs.length ≤ 100)
  (hput : ∀ q ∈ fs, (∃ bb, al T.funs q.1.fp = some bb) ∧ ∀ (H : List HP) (S : WS), Wok k S → Sp B Tryz.prog q.1.fp ([ptr pe, .pointer (some ad)] ++ q.1.cp) (H ++ R) [Wr pw S] (fun u H' => u = .tuple #[] ∧ ∃ S', Wrt k S q.2 S' ∧ H' = [Wr pw S'])) (hS : Wok k S) :
  Sp B Tryz.prog 242 [.slice a fs.length c, ptr pe, .pointer (some ad)] R [Wr pw S] (fun u H' => u = .tuple #[] ∧ ∃ S', Wrt k S (fs.flatMap (·.2)) S' ∧ H' = [Wr pw S']) := by
 refine Sp.body Tryz.func242 rfl Tryz.ntmps242 (by simp) ?_
 simp only [argE, List.cons_append, List.nil_append, Nat.zero_add, Nat.reduceAdd]
 try refine gL ?_
 refine CT.loop (α := Nat × WS) (fun s => [(0, .slice a fs.length c), (1, ptr pe), (2, .pointer (some ad)), (8, .slice a fs.length c), (9, .int .i64 fs.length), (10, .int .i64 s.1)]) (fun s => Pu (s.1 ≤ fs.length ∧ Wrt k S ((fs.take s.1).flatMap (·.2)) s.2) :: Wr pw s.2 :: R) (fun s => fs.length - s.1) (0, S)
  ⟨rfl, rfl, rfl, rfl, rfl, rfl, trivial⟩ (fun w h => Sat.pu_in ⟨Nat.zero_le _, by rw [List.take_zero]; exact Wrt.nil hS.1⟩ h) (fun ⟨i, S1⟩ => CT.pu fun ⟨hi, hw⟩ => ?_)
 dsimp only at hi hw ⊢
 have hS1 := hw.wok hS
 repeat' (first|refine gL ?_|(refine gv ?_;(refine⟨fun hc=>?_,fun hc=>?_⟩<;>first|(exfalso;omega)|skip))|fail)
 ·have hil : i < fs.length := by omega
  have hgi := List.getElem?_eq_getElem hil
  revert hgi
  generalize fs[i] = q
  intro hgi
  obtain ⟨⟨bb, hbb⟩, hq⟩ := hput q (List.mem_of_getElem? hgi)
  refine RT.ix T (j := i * 5) rfl rfl rfl (rD (hR)) (by omega) (by omega) (by omega) rfl rfl ?_
  refine RT.ldra T rfl (rD (hR)) (l := q.1.cells) (flat_sub (f := fun q : FP × Txt => q.1.cells) (z := 5) fp_len fs i _ hgi) rfl rfl rfl rfl ?_
  repeat' (first|refine gM ?_|(refine gb ?_;intro b)|fail)
  revert b
  intro b0
  refine RT.callC T (caps := q.1.cp) rfl rfl (Pre := [Wr pw S1]) fR_ (hq [Cs b0 283 q.1.cells] S1 hS1) hbb rfl rfl ?_
  rintro _ _ ⟨rfl, S2, hS2, rfl⟩
  simp only [List.cons_append, List.nil_append]
  repeat' (first|refine gL ?_|(refine gv ?_;refine gk ?_)|fail)
  refine AtQ.loop (i + 1, S2) ⟨rfl, rfl, rfl, rfl, rfl, rfl, trivial⟩ (fun w h => Sat.pu_in ⟨by omega, by rw [flat_snoc hgi]; exact hw.app hS2⟩ (h.frd (Ps := [_]) (Qs := [_]) fR_)) (by dsimp only; omega)
 ·obtain rfl : i = fs.length := by omega
  rw [List.take_length] at hw
  exact AtQ.fin0 (H' := [Wr pw S1]) Tryz.results242 ⟨rfl, S1, hw, rfl⟩ (fun w h => h) _ (by first | exact .inl rfl | exact .inr rfl)
set_option maxHeartbeats 1000000 in
theorem messages_all {fs : List (FP × Txt)} {a : Option Addr} {c : Nat} (hR : Rd B R a fs.length c 5 (fs.flatMap fun q => q.1.cells)) (hn : fs.length ≤ 100)
  (hput : ∀ q ∈ fs, (∃ bb, al T.funs q.1.fp = some bb) ∧ ∀ (H : List HP) (S : WS), Wok k S → Sp B Tryz.prog q.1.fp ([ptr pe, .pointer (some ad)] ++ q.1.cp) (H ++ R) [Wr pw S] (fun u H' => u = .tuple #[] ∧ ∃ S', Wrt k S q.2 S' ∧ H' = [Wr pw S'])) (hS : Wok k S) :
  Sp B Tryz.prog 226 [.slice a fs.length c, ptr pe, .pointer (some ad)] R [Wr pw S] (fun u H' => u = .tuple #[] ∧ ∃ S', Wrt k S (fs.flatMap (·.2)) S' ∧ H' = [Wr pw S']) := by
 refine Sp.body Tryz.func226 rfl Tryz.ntmps226 (by simp) ?_
 simp only [argE, List.cons_append, List.nil_append, Nat.zero_add, Nat.reduceAdd]
 try refine gL ?_
 refine CT.loop (α := Nat × WS) (fun s => [(0, .slice a fs.length c), (1, ptr pe), (2, .pointer (some ad)), (8, .slice a fs.length c), (9, .int .i64 fs.length), (10, .int .i64 s.1)]) (fun s => Pu (s.1 ≤ fs.length ∧ Wrt k S ((fs.take s.1).flatMap (·.2)) s.2) :: Wr pw s.2 :: R) (fun s => fs.length - s.1) (0, S)
  ⟨rfl, rfl, rfl, rfl, rfl, rfl, trivial⟩ (fun w h => Sat.pu_in ⟨Nat.zero_le _, by rw [List.take_zero]; exact Wrt.nil hS.1⟩ h) (fun ⟨i, S1⟩ => CT.pu fun ⟨hi, hw⟩ => ?_)
 dsimp only at hi hw ⊢
 have hS1 := hw.wok hS
 repeat' (first|refine gL ?_|(refine gv ?_;(refine⟨fun hc=>?_,fun hc=>?_⟩<;>first|(exfalso;omega)|skip))|fail)
 ·have hil : i < fs.length := by omega
  have hgi := List.getElem?_eq_getElem hil
  revert hgi
  generalize fs[i] = q
  intro hgi
  obtain ⟨⟨bb, hbb⟩, hq⟩ := hput q (List.mem_of_getElem? hgi)
  refine RT.ix T (j := i * 5) rfl rfl rfl (rD (hR)) (by omega) (by omega) (by omega) rfl rfl ?_
  refine RT.ldra T rfl (rD (hR)) (l := q.1.cells) (flat_sub (f := fun q : FP × Txt => q.1.cells) (z := 5) fp_len fs i _ hgi) rfl rfl rfl rfl ?_
  repeat' (first|refine gM ?_|(refine gb ?_;intro b)|fail)
  revert b
  intro b0
  refine RT.callC T (caps := q.1.cp) rfl rfl (Pre := [Wr pw S1]) fR_ (hq [Cs b0 260 q.1.cells] S1 hS1) hbb rfl rfl ?_
  rintro _ _ ⟨rfl, S2, hS2, rfl⟩
  simp only [List.cons_append, List.nil_append]
  repeat' (first|refine gL ?_|(refine gv ?_;refine gk ?_)|fail)
  refine AtQ.loop (i + 1, S2) ⟨rfl, rfl, rfl, rfl, rfl, rfl, trivial⟩ (fun w h => Sat.pu_in ⟨by omega, by rw [flat_snoc hgi]; exact hw.app hS2⟩ (h.frd (Ps := [_]) (Qs := [_]) fR_)) (by dsimp only; omega)
 ·obtain rfl : i = fs.length := by omega
  rw [List.take_length] at hw
  exact AtQ.fin0 (H' := [Wr pw S1]) Tryz.results226 ⟨rfl, S1, hw, rfl⟩ (fun w h => h) _ (by first | exact .inl rfl | exact .inr rfl)
set_option maxHeartbeats 1000000 in
theorem fields_all {fs : List (FP × Txt)} {a : Option Addr} {c : Nat} (hR : Rd B R a fs.length c 5 (fs.flatMap fun q => q.1.cells)) (hn : fs.length ≤ 100)
  (hput : ∀ q ∈ fs, (∃ bb, al T.funs q.1.fp = some bb) ∧ ∀ (H : List HP) (S : WS), Wok k S → Sp B Tryz.prog q.1.fp ([ptr pe, .pointer (some ad)] ++ q.1.cp) (H ++ R) [Wr pw S] (fun u H' => u = .tuple #[] ∧ ∃ S', Wrt k S q.2 S' ∧ H' = [Wr pw S'])) (hS : Wok k S) :
  Sp B Tryz.prog 220 [.slice a fs.length c, ptr pe, .pointer (some ad)] R [Wr pw S] (fun u H' => u = .tuple #[] ∧ ∃ S', Wrt k S (fs.flatMap (·.2)) S' ∧ H' = [Wr pw S']) := by
 refine Sp.body Tryz.func220 rfl Tryz.ntmps220 (by simp) ?_
 simp only [argE, List.cons_append, List.nil_append, Nat.zero_add, Nat.reduceAdd]
 try refine gL ?_
 refine CT.loop (α := Nat × WS) (fun s => [(0, .slice a fs.length c), (1, ptr pe), (2, .pointer (some ad)), (8, .slice a fs.length c), (9, .int .i64 fs.length), (10, .int .i64 s.1)]) (fun s => Pu (s.1 ≤ fs.length ∧ Wrt k S ((fs.take s.1).flatMap (·.2)) s.2) :: Wr pw s.2 :: R) (fun s => fs.length - s.1) (0, S)
  ⟨rfl, rfl, rfl, rfl, rfl, rfl, trivial⟩ (fun w h => Sat.pu_in ⟨Nat.zero_le _, by rw [List.take_zero]; exact Wrt.nil hS.1⟩ h) (fun ⟨i, S1⟩ => CT.pu fun ⟨hi, hw⟩ => ?_)
 dsimp only at hi hw ⊢
 have hS1 := hw.wok hS
 repeat' (first|refine gL ?_|(refine gv ?_;(refine⟨fun hc=>?_,fun hc=>?_⟩<;>first|(exfalso;omega)|skip))|fail)
 ·have hil : i < fs.length := by omega
  have hgi := List.getElem?_eq_getElem hil
  revert hgi
  generalize fs[i] = q
  intro hgi
  obtain ⟨⟨bb, hbb⟩, hq⟩ := hput q (List.mem_of_getElem? hgi)
  refine RT.ix T (j := i * 5) rfl rfl rfl (rD (hR)) (by omega) (by omega) (by omega) rfl rfl ?_
  refine RT.ldra T rfl (rD (hR)) (l := q.1.cells) (flat_sub (f := fun q : FP × Txt => q.1.cells) (z := 5) fp_len fs i _ hgi) rfl rfl rfl rfl ?_
  repeat' (first|refine gM ?_|(refine gb ?_;intro b)|fail)
  revert b
  intro b0
  refine RT.callC T (caps := q.1.cp) rfl rfl (Pre := [Wr pw S1]) fR_ (hq [Cs b0 234 q.1.cells] S1 hS1) hbb rfl rfl ?_
  rintro _ _ ⟨rfl, S2, hS2, rfl⟩
  simp only [List.cons_append, List.nil_append]
  repeat' (first|refine gL ?_|(refine gv ?_;refine gk ?_)|fail)
  refine AtQ.loop (i + 1, S2) ⟨rfl, rfl, rfl, rfl, rfl, rfl, trivial⟩ (fun w h => Sat.pu_in ⟨by omega, by rw [flat_snoc hgi]; exact hw.app hS2⟩ (h.frd (Ps := [_]) (Qs := [_]) fR_)) (by dsimp only; omega)
 ·obtain rfl : i = fs.length := by omega
  rw [List.take_length] at hw
  exact AtQ.fin0 (H' := [Wr pw S1]) Tryz.results220 ⟨rfl, S1, hw, rfl⟩ (fun w h => h) _ (by first | exact .inl rfl | exact .inr rfl)
set_option maxHeartbeats 1000000 in
theorem enums_all {fs : List (FP × Txt)} {a : Option Addr} {c : Nat} (hR : Rd B R a fs.length c 5 (fs.flatMap fun q => q.1.cells)) (hn : fs.length ≤ 100)
  (hput : ∀ q ∈ fs, (∃ bb, al T.funs q.1.fp = some bb) ∧ ∀ (H : List HP) (S : WS), Wok k S → Sp B Tryz.prog q.1.fp ([ptr pe, .pointer (some ad)] ++ q.1.cp) (H ++ R) [Wr pw S] (fun u H' => u = .tuple #[] ∧ ∃ S', Wrt k S q.2 S' ∧ H' = [Wr pw S'])) (hS : Wok k S) :
  Sp B Tryz.prog 230 [.slice a fs.length c, ptr pe, .pointer (some ad)] R [Wr pw S] (fun u H' => u = .tuple #[] ∧ ∃ S', Wrt k S (fs.flatMap (·.2)) S' ∧ H' = [Wr pw S']) := by
 refine Sp.body Tryz.func230 rfl Tryz.ntmps230 (by simp) ?_
 simp only [argE, List.cons_append, List.nil_append, Nat.zero_add, Nat.reduceAdd]
 try refine gL ?_
 refine CT.loop (α := Nat × WS) (fun s => [(0, .slice a fs.length c), (1, ptr pe), (2, .pointer (some ad)), (8, .slice a fs.length c), (9, .int .i64 fs.length), (10, .int .i64 s.1)]) (fun s => Pu (s.1 ≤ fs.length ∧ Wrt k S ((fs.take s.1).flatMap (·.2)) s.2) :: Wr pw s.2 :: R) (fun s => fs.length - s.1) (0, S)
  ⟨rfl, rfl, rfl, rfl, rfl, rfl, trivial⟩ (fun w h => Sat.pu_in ⟨Nat.zero_le _, by rw [List.take_zero]; exact Wrt.nil hS.1⟩ h) (fun ⟨i, S1⟩ => CT.pu fun ⟨hi, hw⟩ => ?_)
 dsimp only at hi hw ⊢
 have hS1 := hw.wok hS
 repeat' (first|refine gL ?_|(refine gv ?_;(refine⟨fun hc=>?_,fun hc=>?_⟩<;>first|(exfalso;omega)|skip))|fail)
 ·have hil : i < fs.length := by omega
  have hgi := List.getElem?_eq_getElem hil
  revert hgi
  generalize fs[i] = q
  intro hgi
  obtain ⟨⟨bb, hbb⟩, hq⟩ := hput q (List.mem_of_getElem? hgi)
  refine RT.ix T (j := i * 5) rfl rfl rfl (rD (hR)) (by omega) (by omega) (by omega) rfl rfl ?_
  refine RT.ldra T rfl (rD (hR)) (l := q.1.cells) (flat_sub (f := fun q : FP × Txt => q.1.cells) (z := 5) fp_len fs i _ hgi) rfl rfl rfl rfl ?_
  repeat' (first|refine gM ?_|(refine gb ?_;intro b)|fail)
  revert b
  intro b0
  refine RT.callC T (caps := q.1.cp) rfl rfl (Pre := [Wr pw S1]) fR_ (hq [Cs b0 213 q.1.cells] S1 hS1) hbb rfl rfl ?_
  rintro _ _ ⟨rfl, S2, hS2, rfl⟩
  simp only [List.cons_append, List.nil_append]
  repeat' (first|refine gL ?_|(refine gv ?_;refine gk ?_)|fail)
  refine AtQ.loop (i + 1, S2) ⟨rfl, rfl, rfl, rfl, rfl, rfl, trivial⟩ (fun w h => Sat.pu_in ⟨by omega, by rw [flat_snoc hgi]; exact hw.app hS2⟩ (h.frd (Ps := [_]) (Qs := [_]) fR_)) (by dsimp only; omega)
 ·obtain rfl : i = fs.length := by omega
  rw [List.take_length] at hw
  exact AtQ.fin0 (H' := [Wr pw S1]) Tryz.results230 ⟨rfl, S1, hw, rfl⟩ (fun w h => h) _ (by first | exact .inl rfl | exact .inr rfl)
set_option maxHeartbeats 1000000 in
theorem values_all {fs : List (FP × Txt)} {a : Option Addr} {c : Nat} (hR : Rd B R a fs.length c 5 (fs.flatMap fun q => q.1.cells)) (hn : fs.length ≤ 100)
  (hput : ∀ q ∈ fs, (∃ bb, al T.funs q.1.fp = some bb) ∧ ∀ (H : List HP) (S : WS), Wok k S → Sp B Tryz.prog q.1.fp ([ptr pe, .pointer (some ad)] ++ q.1.cp) (H ++ R) [Wr pw S] (fun u H' => u = .tuple #[] ∧ ∃ S', Wrt k S q.2 S' ∧ H' = [Wr pw S'])) (hS : Wok k S) :
  Sp B Tryz.prog 192 [.slice a fs.length c, ptr pe, .pointer (some ad)] R [Wr pw S] (fun u H' => u = .tuple #[] ∧ ∃ S', Wrt k S (fs.flatMap (·.2)) S' ∧ H' = [Wr pw S']) := by
 refine Sp.body Tryz.func192 rfl Tryz.ntmps192 (by simp) ?_
 simp only [argE, List.cons_append, List.nil_append, Nat.zero_add, Nat.reduceAdd]
 try refine gL ?_
 refine CT.loop (α := Nat × WS) (fun s => [(0, .slice a fs.length c), (1, ptr pe), (2, .pointer (some ad)), (8, .slice a fs.length c), (9, .int .i64 fs.length), (10, .int .i64 s.1)]) (fun s => Pu (s.1 ≤ fs.length ∧ Wrt k S ((fs.take s.1).flatMap (·.2)) s.2) :: Wr pw s.2 :: R) (fun s => fs.length - s.1) (0, S)
  ⟨rfl, rfl, rfl, rfl, rfl, rfl, trivial⟩ (fun w h => Sat.pu_in ⟨Nat.zero_le _, by rw [List.take_zero]; exact Wrt.nil hS.1⟩ h) (fun ⟨i, S1⟩ => CT.pu fun ⟨hi, hw⟩ => ?_)
 dsimp only at hi hw ⊢
 have hS1 := hw.wok hS
 repeat' (first|refine gL ?_|(refine gv ?_;(refine⟨fun hc=>?_,fun hc=>?_⟩<;>first|(exfalso;omega)|skip))|fail)
 ·have hil : i < fs.length := by omega
  have hgi := List.getElem?_eq_getElem hil
  revert hgi
  generalize fs[i] = q
  intro hgi
  obtain ⟨⟨bb, hbb⟩, hq⟩ := hput q (List.mem_of_getElem? hgi)
  refine RT.ix T (j := i * 5) rfl rfl rfl (rD (hR)) (by omega) (by omega) (by omega) rfl rfl ?_
  refine RT.ldra T rfl (rD (hR)) (l := q.1.cells) (flat_sub (f := fun q : FP × Txt => q.1.cells) (z := 5) fp_len fs i _ hgi) rfl rfl rfl rfl ?_
  repeat' (first|refine gM ?_|(refine gb ?_;intro b)|fail)
  revert b
  intro b0
  refine RT.callC T (caps := q.1.cp) rfl rfl (Pre := [Wr pw S1]) fR_ (hq [Cs b0 203 q.1.cells] S1 hS1) hbb rfl rfl ?_
  rintro _ _ ⟨rfl, S2, hS2, rfl⟩
  simp only [List.cons_append, List.nil_append]
  repeat' (first|refine gL ?_|(refine gv ?_;refine gk ?_)|fail)
  refine AtQ.loop (i + 1, S2) ⟨rfl, rfl, rfl, rfl, rfl, rfl, trivial⟩ (fun w h => Sat.pu_in ⟨by omega, by rw [flat_snoc hgi]; exact hw.app hS2⟩ (h.frd (Ps := [_]) (Qs := [_]) fR_)) (by dsimp only; omega)
 ·obtain rfl : i = fs.length := by omega
  rw [List.take_length] at hw
  exact AtQ.fin0 (H' := [Wr pw S1]) Tryz.results192 ⟨rfl, S1, hw, rfl⟩ (fun w h => h) _ (by first | exact .inl rfl | exact .inr rfl)
set_option maxHeartbeats 1000000 in
theorem spans_all {fs : List (FP × Txt)} {a : Option Addr} {c : Nat} (hR : Rd B R a fs.length c 5 (fs.flatMap fun q => q.1.cells)) (hn : fs.length ≤ 100)
  (hput : ∀ q ∈ fs, (∃ bb, al T.funs q.1.fp = some bb) ∧ ∀ (H : List HP) (S : WS), Wok k S → Sp B Tryz.prog q.1.fp ([ptr pe, .pointer (some ad)] ++ q.1.cp) (H ++ R) [Wr pw S] (fun u H' => u = .tuple #[] ∧ ∃ S', Wrt k S q.2 S' ∧ H' = [Wr pw S'])) (hS : Wok k S) :
  Sp B Tryz.prog 200 [.slice a fs.length c, ptr pe, .pointer (some ad)] R [Wr pw S] (fun u H' => u = .tuple #[] ∧ ∃ S', Wrt k S (fs.flatMap (·.2)) S' ∧ H' = [Wr pw S']) := by
 refine Sp.body Tryz.func200 rfl Tryz.ntmps200 (by simp) ?_
 simp only [argE, List.cons_append, List.nil_append, Nat.zero_add, Nat.reduceAdd]
 try refine gL ?_
 refine CT.loop (α := Nat × WS) (fun s => [(0, .slice a fs.length c), (1, ptr pe), (2, .pointer (some ad)), (8, .slice a fs.length c), (9, .int .i64 fs.length), (10, .int .i64 s.1)]) (fun s => Pu (s.1 ≤ fs.length ∧ Wrt k S ((fs.take s.1).flatMap (·.2)) s.2) :: Wr pw s.2 :: R) (fun s => fs.length - s.1) (0, S)
  ⟨rfl, rfl, rfl, rfl, rfl, rfl, trivial⟩ (fun w h => Sat.pu_in ⟨Nat.zero_le _, by rw [List.take_zero]; exact Wrt.nil hS.1⟩ h) (fun ⟨i, S1⟩ => CT.pu fun ⟨hi, hw⟩ => ?_)
 dsimp only at hi hw ⊢
 have hS1 := hw.wok hS
 repeat' (first|refine gL ?_|(refine gv ?_;(refine⟨fun hc=>?_,fun hc=>?_⟩<;>first|(exfalso;omega)|skip))|fail)
 ·have hil : i < fs.length := by omega
  have hgi := List.getElem?_eq_getElem hil
  revert hgi
  generalize fs[i] = q
  intro hgi
  obtain ⟨⟨bb, hbb⟩, hq⟩ := hput q (List.mem_of_getElem? hgi)
  refine RT.ix T (j := i * 5) rfl rfl rfl (rD (hR)) (by omega) (by omega) (by omega) rfl rfl ?_
  refine RT.ldra T rfl (rD (hR)) (l := q.1.cells) (flat_sub (f := fun q : FP × Txt => q.1.cells) (z := 5) fp_len fs i _ hgi) rfl rfl rfl rfl ?_
  repeat' (first|refine gM ?_|(refine gb ?_;intro b)|fail)
  revert b
  intro b0
  refine RT.callC T (caps := q.1.cp) rfl rfl (Pre := [Wr pw S1]) fR_ (hq [Cs b0 193 q.1.cells] S1 hS1) hbb rfl rfl ?_
  rintro _ _ ⟨rfl, S2, hS2, rfl⟩
  simp only [List.cons_append, List.nil_append]
  repeat' (first|refine gL ?_|(refine gv ?_;refine gk ?_)|fail)
  refine AtQ.loop (i + 1, S2) ⟨rfl, rfl, rfl, rfl, rfl, rfl, trivial⟩ (fun w h => Sat.pu_in ⟨by omega, by rw [flat_snoc hgi]; exact hw.app hS2⟩ (h.frd (Ps := [_]) (Qs := [_]) fR_)) (by dsimp only; omega)
 ·obtain rfl : i = fs.length := by omega
  rw [List.take_length] at hw
  exact AtQ.fin0 (H' := [Wr pw S1]) Tryz.results200 ⟨rfl, S1, hw, rfl⟩ (fun w h => h) _ (by first | exact .inl rfl | exact .inr rfl)
end Go.Proofs.YtclcnhfponjdaaaGreatDoor
end
section
namespace Go.Proofs.YtclcnhfponjdaaaGreatDoor
open Go.Sk
set_option maxRecDepth 100000
attribute [local irreducible] Cs Own Ex Pu Yld RT LJ QJ AtQ CT Rd QSp Sp FinQ Then LoopQ CutQ DT TakeQ EffQ
attribute [local irreducible] Wr StAt
variable {B : World} {R : List HP} {pe pw k : Nat} {ad : Addr} {S : WS} {t : TB}
theorem span_w (hF : Facts B R t) (hO : Rd B R (some ⟨pe, 0, none⟩) 1 1 2 [ptr pw, .int .i64 0]) {x : SpanT} (hx : StAt B R ad x.cells) (ho : x.Ok) (hS : Wok k S) :
  Sp B Tryz.prog 200 [t.sl 7 2, ptr pe, .pointer (some ad)] R [Wr pw S] (fun u H' => u = .tuple #[] ∧ ∃ S', Wrt k S (spanB x) S' ∧ H' = [Wr pw S']) := by
 have e : (([(⟨1, 0, false, 175, [t.bp 1, t.bp 0], 179, [t.bp 1]⟩, fSign 1 x.f), (⟨2, 0, false, 175, [t.bp 3, t.bp 2], 179, [t.bp 3]⟩, fSign 2 x.t)] : List (FP × Txt))).flatMap (·.2) = spanB x := by
  unfold spanB
  simp only [List.flatMap_cons, List.flatMap_nil, List.append_nil]
 rw [← e]
 refine spans_all (fs := ([(⟨1, 0, false, 175, [t.bp 1, t.bp 0], 179, [t.bp 1]⟩, fSign 1 x.f), (⟨2, 0, false, 175, [t.bp 3, t.bp 2], 179, [t.bp 3]⟩, fSign 2 x.t)] : List (FP × Txt))) (a := t.ra 7) (c := t.rc 7) (k := k) (pe := pe) (pw := pw) (ad := ad) (S := S) (R := R) hF.r7 (Nat.le_of_ble_eq_true rfl) ?_ hS
 exact List.forall_mem_cons.2 ⟨⟨⟨_, rfl⟩, fun H S hS => signed_Span_int32_put (Rd.under hO H) ((hF.under H).box 0 _ _ _ rfl) ((hF.under H).box 1 _ _ _ rfl) rfl (of1_fn ad) (StAt.under hx H) (by decide) (by decide) (v := x.f) rfl ho.1 hS.1⟩,
  List.forall_mem_cons.2 ⟨⟨⟨_, rfl⟩, fun H S hS => signed_Span_int32_put (Rd.under hO H) ((hF.under H).box 2 _ _ _ rfl) ((hF.under H).box 3 _ _ _ rfl) rfl (of2_fn ad) (StAt.under hx H) (by decide) (by decide) (v := x.t) rfl ho.2 hS.1⟩,
  fun _ h => by cases h⟩⟩
theorem value_w (hF : Facts B R t) (hO : Rd B R (some ⟨pe, 0, none⟩) 1 1 2 [ptr pw, .int .i64 0]) {x : EValT} (hx : StAt B R ad x.cells) (ho : x.Ok) (hS : Wok k S) :
  Sp B Tryz.prog 192 [t.sl 6 2, ptr pe, .pointer (some ad)] R [Wr pw S] (fun u H' => u = .tuple #[] ∧ ∃ S', Wrt k S (valB x) S' ∧ H' = [Wr pw S']) := by
 have e : (([(⟨1, 2, false, 182, [t.bp 5, t.bp 4], 184, [t.bp 5]⟩, fText 1 x.nm), (⟨2, 0, false, 186, [t.bp 7, t.bp 6], 187, [t.bp 7]⟩, fSign 2 x.num)] : List (FP × Txt))).flatMap (·.2) = valB x := by
  unfold valB
  simp only [List.flatMap_cons, List.flatMap_nil, List.append_nil]
 rw [← e]
 refine values_all (fs := ([(⟨1, 2, false, 182, [t.bp 5, t.bp 4], 184, [t.bp 5]⟩, fText 1 x.nm), (⟨2, 0, false, 186, [t.bp 7, t.bp 6], 187, [t.bp 7]⟩, fSign 2 x.num)] : List (FP × Txt))) (a := t.ra 6) (c := t.rc 6) (k := k) (pe := pe) (pw := pw) (ad := ad) (S := S) (R := R) hF.r6 (Nat.le_of_ble_eq_true rfl) ?_ hS
 exact List.forall_mem_cons.2 ⟨⟨⟨_, rfl⟩, fun H S hS => oneText_EnumValue_put (Rd.under hO H) ((hF.under H).box 4 _ _ _ rfl) ((hF.under H).box 5 _ _ _ rfl) rfl (of3_fn ad) (StAt.under hx H) (by decide) (by decide) (v := x.nm) rfl ho.1 hS.1⟩,
  List.forall_mem_cons.2 ⟨⟨⟨_, rfl⟩, fun H S hS => signed_EnumValue_int32_put (Rd.under hO H) ((hF.under H).box 6 _ _ _ rfl) ((hF.under H).box 7 _ _ _ rfl) rfl (of4_fn ad) (StAt.under hx H) (by decide) (by decide) (v := x.num) rfl ho.2 hS.1⟩,
  fun _ h => by cases h⟩⟩
theorem import_w (hF : Facts B R t) (hO : Rd B R (some ⟨pe, 0, none⟩) 1 1 2 [ptr pw, .int .i64 0]) {x : ImpT} (hx : StAt B R ad x.cells) (ho : x.Ok) (hS : Wok k S) :
  Sp B Tryz.prog 242 [t.sl 2 2, ptr pe, .pointer (some ad)] R [Wr pw S] (fun u H' => u = .tuple #[] ∧ ∃ S', Wrt k S (impB x) S' ∧ H' = [Wr pw S']) := by
 have e : (([(⟨1, 2, false, 235, [t.bp 63, t.bp 62], 236, [t.bp 63]⟩, fText 1 x.path), (⟨2, 0, false, 237, [t.bp 65, t.bp 64], 238, [t.bp 65]⟩, fTruth 2 x.pub)] : List (FP × Txt))).flatMap (·.2) = impB x := by
  unfold impB
  simp only [List.flatMap_cons, List.flatMap_nil, List.append_nil]
 rw [← e]
 refine imports_all (fs := ([(⟨1, 2, false, 235, [t.bp 63, t.bp 62], 236, [t.bp 63]⟩, fText 1 x.path), (⟨2, 0, false, 237, [t.bp 65, t.bp 64], 238, [t.bp 65]⟩, fTruth 2 x.pub)] : List (FP × Txt))) (a := t.ra 2) (c := t.rc 2) (k := k) (pe := pe) (pw := pw) (ad := ad) (S := S) (R := R) hF.r2 (Nat.le_of_ble_eq_true rfl) ?_ hS
 exact List.forall_mem_cons.2 ⟨⟨⟨_, rfl⟩, fun H S hS => oneText_Import_put (Rd.under hO H) ((hF.under H).box 62 _ _ _ rfl) ((hF.under H).box 63 _ _ _ rfl) rfl (of26_fn ad) (StAt.under hx H) (by decide) (by decide) (v := x.path) rfl ho hS.1⟩,
  List.forall_mem_cons.2 ⟨⟨⟨_, rfl⟩, fun H S hS => truth_Import_put (Rd.under hO H) ((hF.under H).box 64 _ _ _ rfl) ((hF.under H).box 65 _ _ _ rfl) rfl (of27_fn ad) (StAt.under hx H) (by decide) (by decide) (v := x.pub) rfl hS.1⟩,
  fun _ h => by cases h⟩⟩
theorem field_w (hF : Facts B R t) (hO : Rd B R (some ⟨pe, 0, none⟩) 1 1 2 [ptr pw, .int .i64 0]) {x : FieldT} (hx : StAt B R ad x.cells) (ho : x.Ok) (hS : Wok k S) :
  Sp B Tryz.prog 220 [t.sl 4 9, ptr pe, .pointer (some ad)] R [Wr pw S] (fun u H' => u = .tuple #[] ∧ ∃ S', Wrt k S (fieldB x) S' ∧ H' = [Wr pw S']) := by
 have e : (([(⟨1, 2, false, 205, [t.bp 23, t.bp 22], 206, [t.bp 23]⟩, fText 1 x.nm), (⟨2, 0, false, 207, [t.bp 25, t.bp 24], 208, [t.bp 25]⟩, fSign 2 x.num), (⟨3, 0, false, 209, [t.bp 27, t.bp 26], 210, [t.bp 27]⟩, fSmall 3 x.card), (⟨4, 0, false, 211, [t.bp 29, t.bp 28], 212, [t.bp 29]⟩, fSmall 4 x.kind), (⟨5, 2, false, 205, [t.bp 31, t.bp 30], 206, [t.bp 31]⟩, fText 5 x.ty), (⟨6, 0, false, 211, [t.bp 33, t.bp 32], 212, [t.bp 33]⟩, fSmall 6 x.key), (⟨7, 0, false, 213, [t.bp 35, t.bp 34], 214, [t.bp 35]⟩, fSign 7 x.oneof), (⟨8, 0, false, 215, [t.bp 37, t.bp 36], 216, [t.bp 37]⟩, fSmall 8 x.packed), (⟨9, 2, false, 205, [t.bp 39, t.bp 38], 206, [t.bp 39]⟩, fText 9 x.js)] : List (FP × Txt))).flatMap (·.2) = fieldB x := by
  unfold fieldB
  simp only [List.flatMap_cons, List.flatMap_nil, List.append_nil]
 rw [← e]
 refine fields_all (fs := ([(⟨1, 2, false, 205, [t.bp 23, t.bp 22], 206, [t.bp 23]⟩, fText 1 x.nm), (⟨2, 0, false, 207, [t.bp 25, t.bp 24], 208, [t.bp 25]⟩, fSign 2 x.num), (⟨3, 0, false, 209, [t.bp 27, t.bp 26], 210, [t.bp 27]⟩, fSmall 3 x.card), (⟨4, 0, false, 211, [t.bp 29, t.bp 28], 212, [t.bp 29]⟩, fSmall 4 x.kind), (⟨5, 2, false, 205, [t.bp 31, t.bp 30], 206, [t.bp 31]⟩, fText 5 x.ty), (⟨6, 0, false, 211, [t.bp 33, t.bp 32], 212, [t.bp 33]⟩, fSmall 6 x.key), (⟨7, 0, false, 213, [t.bp 35, t.bp 34], 214, [t.bp 35]⟩, fSign 7 x.oneof), (⟨8, 0, false, 215, [t.bp 37, t.bp 36], 216, [t.bp 37]⟩, fSmall 8 x.packed), (⟨9, 2, false, 205, [t.bp 39, t.bp 38], 206, [t.bp 39]⟩, fText 9 x.js)] : List (FP × Txt))) (a := t.ra 4) (c := t.rc 4) (k := k) (pe := pe) (pw := pw) (ad := ad) (S := S) (R := R) hF.r4 (Nat.le_of_ble_eq_true rfl) ?_ hS
 exact List.forall_mem_cons.2 ⟨⟨⟨_, rfl⟩, fun H S hS => oneText_FieldDef_put (Rd.under hO H) ((hF.under H).box 22 _ _ _ rfl) ((hF.under H).box 23 _ _ _ rfl) rfl (of10_fn ad) (StAt.under hx H) (by decide) (by decide) (v := x.nm) rfl ho.1 hS.1⟩,
  List.forall_mem_cons.2 ⟨⟨⟨_, rfl⟩, fun H S hS => signed_FieldDef_int32_put (Rd.under hO H) ((hF.under H).box 24 _ _ _ rfl) ((hF.under H).box 25 _ _ _ rfl) rfl (of11_fn ad) (StAt.under hx H) (by decide) (by decide) (v := x.num) rfl ho.2.1 hS.1⟩,
  List.forall_mem_cons.2 ⟨⟨⟨_, rfl⟩, fun H S hS => small_FieldDef_Card_put (Rd.under hO H) ((hF.under H).box 26 _ _ _ rfl) ((hF.under H).box 27 _ _ _ rfl) rfl (of12_fn ad) (StAt.under hx H) (by decide) (by decide) (v := x.card) rfl ho.2.2.1 hS.1⟩,
  List.forall_mem_cons.2 ⟨⟨⟨_, rfl⟩, fun H S hS => small_FieldDef_Kind_put (Rd.under hO H) ((hF.under H).box 28 _ _ _ rfl) ((hF.under H).box 29 _ _ _ rfl) rfl (of13_fn ad) (StAt.under hx H) (by decide) (by decide) (v := x.kind) rfl ho.2.2.2.1 hS.1⟩,
  List.forall_mem_cons.2 ⟨⟨⟨_, rfl⟩, fun H S hS => oneText_FieldDef_put (Rd.under hO H) ((hF.under H).box 30 _ _ _ rfl) ((hF.under H).box 31 _ _ _ rfl) rfl (of14_fn ad) (StAt.under hx H) (by decide) (by decide) (v := x.ty) rfl ho.2.2.2.2.1 hS.1⟩,
  List.forall_mem_cons.2 ⟨⟨⟨_, rfl⟩, fun H S hS => small_FieldDef_Kind_put (Rd.under hO H) ((hF.under H).box 32 _ _ _ rfl) ((hF.under H).box 33 _ _ _ rfl) rfl (of15_fn ad) (StAt.under hx H) (by decide) (by decide) (v := x.key) rfl ho.2.2.2.2.2.1 hS.1⟩,
  List.forall_mem_cons.2 ⟨⟨⟨_, rfl⟩, fun H S hS => signed_FieldDef_int_put (Rd.under hO H) ((hF.under H).box 34 _ _ _ rfl) ((hF.under H).box 35 _ _ _ rfl) rfl (of16_fn ad) (StAt.under hx H) (by decide) (by decide) (v := x.oneof) rfl ho.2.2.2.2.2.2.1 hS.1⟩,
  List.forall_mem_cons.2 ⟨⟨⟨_, rfl⟩, fun H S hS => small_FieldDef_Tri_put (Rd.under hO H) ((hF.under H).box 36 _ _ _ rfl) ((hF.under H).box 37 _ _ _ rfl) rfl (of17_fn ad) (StAt.under hx H) (by decide) (by decide) (v := x.packed) rfl ho.2.2.2.2.2.2.2.1 hS.1⟩,
  List.forall_mem_cons.2 ⟨⟨⟨_, rfl⟩, fun H S hS => oneText_FieldDef_put (Rd.under hO H) ((hF.under H).box 38 _ _ _ rfl) ((hF.under H).box 39 _ _ _ rfl) rfl (of18_fn ad) (StAt.under hx H) (by decide) (by decide) (v := x.js) rfl ho.2.2.2.2.2.2.2.2 hS.1⟩,
  fun _ h => by cases h⟩⟩⟩⟩⟩⟩⟩⟩⟩
theorem enum_w (hF : Facts B R t) (hO : Rd B R (some ⟨pe, 0, none⟩) 1 1 2 [ptr pw, .int .i64 0]) {x : EnumT} (hx : StAt B R ad x.cells) (ho : x.Ok) (hin : x.In (Rd B R)) (hS : Wok (k + 1) S) :
  Sp B Tryz.prog 230 [t.sl 5 5, ptr pe, .pointer (some ad)] R [Wr pw S] (fun u H' => u = .tuple #[] ∧ ∃ S', Wrt (k + 1) S (enumB x) S' ∧ H' = [Wr pw S']) := by
 have e : (([(⟨1, 2, false, 188, [t.bp 9, t.bp 8], 189, [t.bp 9]⟩, fText 1 x.nm), (⟨2, 2, true, 190, [t.bp 13, t.bp 10, t.bp 11], 194, [t.bp 12, t.bp 13, t.bp 11]⟩, fRecs 2 valB x.vals.l), (⟨3, 0, false, 197, [t.bp 15, t.bp 14], 198, [t.bp 15]⟩, fTruth 3 x.ali), (⟨4, 2, true, 199, [t.bp 19, t.bp 16, t.bp 17], 201, [t.bp 18, t.bp 19, t.bp 17]⟩, fRecs 4 spanB x.res.l), (⟨5, 2, true, 203, [t.bp 21, t.bp 20], 204, [t.bp 21]⟩, fTexts 5 x.names.l)] : List (FP × Txt))).flatMap (·.2) = enumB x := by
  unfold enumB
  simp only [List.flatMap_cons, List.flatMap_nil, List.append_nil]
 rw [← e]
 refine enums_all (fs := ([(⟨1, 2, false, 188, [t.bp 9, t.bp 8], 189, [t.bp 9]⟩, fText 1 x.nm), (⟨2, 2, true, 190, [t.bp 13, t.bp 10, t.bp 11], 194, [t.bp 12, t.bp 13, t.bp 11]⟩, fRecs 2 valB x.vals.l), (⟨3, 0, false, 197, [t.bp 15, t.bp 14], 198, [t.bp 15]⟩, fTruth 3 x.ali), (⟨4, 2, true, 199, [t.bp 19, t.bp 16, t.bp 17], 201, [t.bp 18, t.bp 19, t.bp 17]⟩, fRecs 4 spanB x.res.l), (⟨5, 2, true, 203, [t.bp 21, t.bp 20], 204, [t.bp 21]⟩, fTexts 5 x.names.l)] : List (FP × Txt))) (a := t.ra 5) (c := t.rc 5) (k := (k + 1)) (pe := pe) (pw := pw) (ad := ad) (S := S) (R := R) hF.r5 (Nat.le_of_ble_eq_true rfl) ?_ hS
 exact List.forall_mem_cons.2 ⟨⟨⟨_, rfl⟩, fun H S hS => oneText_EnumDef_put (Rd.under hO H) ((hF.under H).box 8 _ _ _ rfl) ((hF.under H).box 9 _ _ _ rfl) rfl (of5_fn ad) (StAt.under hx H) (by decide) (by decide) (v := x.nm) rfl ho.1 hS.1⟩,
  List.forall_mem_cons.2 ⟨⟨⟨_, rfl⟩, fun H S hS => some_EnumDef_EnumValue_put (v := x.vals) (cl := EValT.cells) (bs := valB) (Rd.under hO H) ((hF.under H).box 10 _ _ _ rfl) ((hF.under H).box 13 _ _ _ rfl) rfl (of6_fn ad) (StAt.under hx H) (by decide) (by decide) ((hF.under H).box 11 _ _ _ rfl) (hF.under H).forms rfl (fun _ => rfl) rfl ho.2.1.1 (Rd.under hin.1 H) (fun i x hi H2 S hS => value_w (Facts.under (hF.under H) H2) (Rd.under (Rd.under hO H) H2) (StAt.row (Rd.under (Rd.under hin.1 H) H2) (flat_sub (f := EValT.cells) (z := 2) (fun _ => rfl) _ i x hi)) (ho.2.2.1 x (List.mem_of_getElem? hi)) hS) hS⟩,
  List.forall_mem_cons.2 ⟨⟨⟨_, rfl⟩, fun H S hS => truth_EnumDef_put (Rd.under hO H) ((hF.under H).box 14 _ _ _ rfl) ((hF.under H).box 15 _ _ _ rfl) rfl (of7_fn ad) (StAt.under hx H) (by decide) (by decide) (v := x.ali) rfl hS.1⟩,
  List.forall_mem_cons.2 ⟨⟨⟨_, rfl⟩, fun H S hS => some_EnumDef_Span_put (v := x.res) (cl := SpanT.cells) (bs := spanB) (Rd.under hO H) ((hF.under H).box 16 _ _ _ rfl) ((hF.under H).box 19 _ _ _ rfl) rfl (of8_fn ad) (StAt.under hx H) (by decide) (by decide) ((hF.under H).box 17 _ _ _ rfl) (hF.under H).forms rfl (fun _ => rfl) rfl ho.2.2.2.1.1 (Rd.under hin.2.1 H) (fun i x hi H2 S hS => span_w (Facts.under (hF.under H) H2) (Rd.under (Rd.under hO H) H2) (StAt.row (Rd.under (Rd.under hin.2.1 H) H2) (flat_sub (f := SpanT.cells) (z := 2) (fun _ => rfl) _ i x hi)) (ho.2.2.2.2.1 x (List.mem_of_getElem? hi)) hS) hS⟩,
  List.forall_mem_cons.2 ⟨⟨⟨_, rfl⟩, fun H S hS => someTexts_EnumDef_put (Rd.under hO H) ((hF.under H).box 20 _ _ _ rfl) ((hF.under H).box 21 _ _ _ rfl) rfl (of9_fn ad) (StAt.under hx H) (by decide) (by decide) (v := x.names) rfl ho.2.2.2.2.2.2 ho.2.2.2.2.2.1.1 (Rd.under hin.2.2 H) hS.1⟩,
  fun _ h => by cases h⟩⟩⟩⟩⟩
end Go.Proofs.YtclcnhfponjdaaaGreatDoor
end
section
namespace Go.Proofs.YtclcnhfponjdaaaGreatDoor
open Go.Sk
set_option maxRecDepth 100000
theorem goodMsL_mem {d : Nat} : ∀ {l : List MsgT} {m : MsgT}, goodMsL l d = true → m ∈ l → goodMs m d = true
 | [], _, _, h => by cases h
 | x :: l, m, hl, h => by
  unfold goodMsL at hl
  rw [Bool.and_eq_true] at hl
  rcases List.mem_cons.1 h with rfl | h
  ·exact hl.1
  ·exact goodMsL_mem hl.2 h
theorem goodMs_le {m : MsgT} {d : Nat} (h : goodMs m d = true) : d ≤ 99 ∧ goodMsL m.msgs (d + 1) = true := by
 cases m with | mk nm fields oneofs ma mc msgs enums res names =>
 unfold goodMs at h
 simp only [Bool.and_eq_true, decide_eq_true_eq] at h
 exact ⟨h.1.1.1.1.1.1, h.1.2⟩
theorem goodMs_deep : ∀ (n : Nat) {m : MsgT} {d : Nat}, 100 ≤ n + d → goodMs m d = true → m.deep ≤ n
 | 0, m, d, hn, h => by have := (goodMs_le h).1; omega
 | n + 1, m, d, hn, h => by
  obtain ⟨h1, h2⟩ := goodMs_le h
  cases m with | mk nm fields oneofs ma mc msgs enums res names =>
  unfold MsgT.deep
  have h3 : ∀ l : List MsgT, goodMsL l (d + 1) = true → MsgT.deepL l ≤ n := fun l => by
   induction l with
   | nil => intro _; unfold MsgT.deepL; omega
   | cons x l ih =>
    intro hl
    unfold goodMsL at hl
    rw [Bool.and_eq_true] at hl
    unfold MsgT.deepL
    exact Nat.max_le.2 ⟨goodMs_deep n (by omega) hl.1, ih hl.2⟩
  have := h3 msgs h2
  omega
theorem msgB_mk {nm : Txt} {fields : Rw FieldT} {oneofs : Rw Txt} {ma : Option Addr} {mc : Nat} {msgs : List MsgT} {enums : Rw EnumT} {res : Rw SpanT} {names : Rw Txt} {d : Nat} (h : d ≤ 99) : msgB (.mk nm fields oneofs ma mc msgs enums res names) d =
  fText 1 nm ++ (fRecs 2 fieldB fields.l ++ (fTexts 3 oneofs.l ++ (fRecs 4 (fun m => msgB m (d + 1)) msgs ++ (fRecs 5 enumB enums.l ++ (fRecs 6 spanB res.l ++ fTexts 7 names.l))))) := by
 rw [msgB, if_neg (by omega), msgsB_eq]
attribute [local irreducible] Cs Own Ex Pu Yld RT LJ QJ AtQ CT Rd QSp Sp FinQ Then LoopQ CutQ DT TakeQ EffQ
attribute [local irreducible] Wr StAt
variable {B : World} {pe pw : Nat} {t : TB}
theorem message_w (n : Nat) : ∀ {R : List HP} {ad : Addr} {S : WS} {m : MsgT} {d : Nat}, m.deep ≤ n → goodMs m d = true → Facts B R t → Rd B R (some ⟨pe, 0, none⟩) 1 1 2 [ptr pw, .int .i64 0] → StAt B R ad m.cells → m.Ok → m.In (Rd B R) → Wok (n + 2) S →
  Sp B Tryz.prog 226 [t.sl 3 7, ptr pe, .pointer (some ad)] R [Wr pw S] (fun u H' => u = .tuple #[] ∧ ∃ S', Wrt (n + 2) S (msgB m d) S' ∧ H' = [Wr pw S']) := by
 induction n with
 | zero =>
  intro R ad S m d hd
  exact absurd hd (by cases m; unfold MsgT.deep; omega)
 | succ n message_w =>
  intro R ad S m d hd hg hF hO hx ho hin hS
  obtain ⟨hd9, hg⟩ := goodMs_le hg
  obtain ⟨nm, fields, oneofs, ma, mc, msgs, enums, res, names⟩ := m
  unfold MsgT.Ok at ho
  unfold MsgT.In at hin
  unfold MsgT.deep at hd
  replace hd : MsgT.deepL msgs ≤ n := by omega
  obtain ⟨o1, ⟨o2, o2'⟩, ⟨o3, o3'⟩, o4, ⟨o5, o5'⟩, ⟨o6, o6'⟩, ⟨o7, o7'⟩, o8⟩ := ho
  obtain ⟨i1, i2, i3, i4, i5, i6, i7, i8⟩ := hin
  have e : (([(⟨1, 2, false, 217, [t.bp 41, t.bp 40], 218, [t.bp 41]⟩, fText 1 nm), (⟨2, 2, true, 219, [t.bp 45, t.bp 42, t.bp 43], 221, [t.bp 44, t.bp 45, t.bp 43]⟩, fRecs 2 fieldB fields.l), (⟨3, 2, true, 223, [t.bp 47, t.bp 46], 224, [t.bp 47]⟩, fTexts 3 oneofs.l), (⟨4, 2, true, 225, [t.bp 51, t.bp 48, t.bp 49], 227, [t.bp 50, t.bp 51, t.bp 49]⟩, fRecs 4 (fun m => msgB m (d + 1)) msgs), (⟨5, 2, true, 229, [t.bp 55, t.bp 52, t.bp 53], 231, [t.bp 54, t.bp 55, t.bp 53]⟩, fRecs 5 enumB enums.l), (⟨6, 2, true, 233, [t.bp 59, t.bp 56, t.bp 57], 234, [t.bp 58, t.bp 59, t.bp 57]⟩, fRecs 6 spanB res.l), (⟨7, 2, true, 223, [t.bp 61, t.bp 60], 224, [t.bp 61]⟩, fTexts 7 names.l)] : List (FP × Txt))).flatMap (·.2) = msgB (.mk nm fields oneofs ma mc msgs enums res names) d := by
   rw [msgB_mk hd9]
   simp only [List.flatMap_cons, List.flatMap_nil, List.append_nil]
  rw [← e]
  refine messages_all (fs := ([(⟨1, 2, false, 217, [t.bp 41, t.bp 40], 218, [t.bp 41]⟩, fText 1 nm), (⟨2, 2, true, 219, [t.bp 45, t.bp 42, t.bp 43], 221, [t.bp 44, t.bp 45, t.bp 43]⟩, fRecs 2 fieldB fields.l), (⟨3, 2, true, 223, [t.bp 47, t.bp 46], 224, [t.bp 47]⟩, fTexts 3 oneofs.l), (⟨4, 2, true, 225, [t.bp 51, t.bp 48, t.bp 49], 227, [t.bp 50, t.bp 51, t.bp 49]⟩, fRecs 4 (fun m => msgB m (d + 1)) msgs), (⟨5, 2, true, 229, [t.bp 55, t.bp 52, t.bp 53], 231, [t.bp 54, t.bp 55, t.bp 53]⟩, fRecs 5 enumB enums.l), (⟨6, 2, true, 233, [t.bp 59, t.bp 56, t.bp 57], 234, [t.bp 58, t.bp 59, t.bp 57]⟩, fRecs 6 spanB res.l), (⟨7, 2, true, 223, [t.bp 61, t.bp 60], 224, [t.bp 61]⟩, fTexts 7 names.l)] : List (FP × Txt))) (a := t.ra 3) (c := t.rc 3) (k := n + 2 + 1) (pe := pe) (pw := pw) (ad := ad) (S := S) (R := R) hF.r3 (Nat.le_of_ble_eq_true rfl) ?_ hS
  exact List.forall_mem_cons.2 ⟨⟨⟨_, rfl⟩, fun H S hS => oneText_MessageDef_put (Rd.under hO H) ((hF.under H).box 40 _ _ _ rfl) ((hF.under H).box 41 _ _ _ rfl) rfl (of19_fn ad) (StAt.under hx H) (by decide) (by decide) (v := nm) rfl o1 hS.1⟩,
    List.forall_mem_cons.2 ⟨⟨⟨_, rfl⟩, fun H S hS => some_MessageDef_FieldDef_put (v := fields) (cl := FieldT.cells) (bs := fieldB) (Rd.under hO H) ((hF.under H).box 42 _ _ _ rfl) ((hF.under H).box 45 _ _ _ rfl) rfl (of20_fn ad) (StAt.under hx H) (by decide) (by decide) ((hF.under H).box 43 _ _ _ rfl) (hF.under H).forms rfl (fun _ => rfl) rfl o2.1 (Rd.under i1 H) (fun i x hi H2 S hS => field_w (Facts.under (hF.under H) H2) (Rd.under (Rd.under hO H) H2) (StAt.row (Rd.under (Rd.under i1 H) H2) (flat_sub (f := FieldT.cells) (z := 9) (fun _ => rfl) _ i x hi)) (o2' x (List.mem_of_getElem? hi)) hS) hS⟩,
    List.forall_mem_cons.2 ⟨⟨⟨_, rfl⟩, fun H S hS => someTexts_MessageDef_put (Rd.under hO H) ((hF.under H).box 46 _ _ _ rfl) ((hF.under H).box 47 _ _ _ rfl) rfl (of21_fn ad) (StAt.under hx H) (by decide) (by decide) (v := oneofs) rfl o3' o3.1 (Rd.under i2 H) hS.1⟩,
    List.forall_mem_cons.2 ⟨⟨⟨_, rfl⟩, fun H S hS => some_MessageDef_MessageDef_put (v := ⟨ma, mc, msgs⟩) (cl := MsgT.cells) (bs := (fun m => msgB m (d + 1))) (Rd.under hO H) ((hF.under H).box 48 _ _ _ rfl) ((hF.under H).box 51 _ _ _ rfl) rfl (of22_fn ad) (StAt.under hx H) (by decide) (by decide) ((hF.under H).box 49 _ _ _ rfl) (hF.under H).forms rfl (fun _ => rfl) rfl o4.1 (Rd.under i3 H) (fun i x hi H2 S hS => message_w (MsgT.deep_mem (List.mem_of_getElem? hi) |> fun q => Nat.le_trans q hd) (goodMsL_mem hg (List.mem_of_getElem? hi)) (Facts.under (hF.under H) H2) (Rd.under (Rd.under hO H) H2) (StAt.row (Rd.under (Rd.under i3 H) H2) (flat_sub (f := MsgT.cells) (z := 7) (fun _ => rfl) _ i x hi)) (MsgT.okL_mem o8 (List.mem_of_getElem? hi)) (MsgT.In.mono (fun _ _ _ _ _ h => Rd.under (Rd.under h H) H2) (MsgT.inL_mem i8 (List.mem_of_getElem? hi))) hS) hS⟩,
    List.forall_mem_cons.2 ⟨⟨⟨_, rfl⟩, fun H S hS => some_MessageDef_EnumDef_put (v := enums) (cl := EnumT.cells) (bs := enumB) (Rd.under hO H) ((hF.under H).box 52 _ _ _ rfl) ((hF.under H).box 55 _ _ _ rfl) rfl (of23_fn ad) (StAt.under hx H) (by decide) (by decide) ((hF.under H).box 53 _ _ _ rfl) (hF.under H).forms rfl (fun _ => rfl) rfl o5.1 (Rd.under i4 H) (fun i x hi H2 S hS => enum_w (k := n + 1) (Facts.under (hF.under H) H2) (Rd.under (Rd.under hO H) H2) (StAt.row (Rd.under (Rd.under i4 H) H2) (flat_sub (f := EnumT.cells) (z := 5) (fun _ => rfl) _ i x hi)) (o5' x (List.mem_of_getElem? hi)) (EnumT.In.mono (fun _ _ _ _ _ h => Rd.under (Rd.under h H) H2) (i5 x (List.mem_of_getElem? hi))) hS) hS⟩,
    List.forall_mem_cons.2 ⟨⟨⟨_, rfl⟩, fun H S hS => some_MessageDef_Span_put (v := res) (cl := SpanT.cells) (bs := spanB) (Rd.under hO H) ((hF.under H).box 56 _ _ _ rfl) ((hF.under H).box 59 _ _ _ rfl) rfl (of24_fn ad) (StAt.under hx H) (by decide) (by decide) ((hF.under H).box 57 _ _ _ rfl) (hF.under H).forms rfl (fun _ => rfl) rfl o6.1 (Rd.under i6 H) (fun i x hi H2 S hS => span_w (Facts.under (hF.under H) H2) (Rd.under (Rd.under hO H) H2) (StAt.row (Rd.under (Rd.under i6 H) H2) (flat_sub (f := SpanT.cells) (z := 2) (fun _ => rfl) _ i x hi)) (o6' x (List.mem_of_getElem? hi)) hS) hS⟩,
    List.forall_mem_cons.2 ⟨⟨⟨_, rfl⟩, fun H S hS => someTexts_MessageDef_put (Rd.under hO H) ((hF.under H).box 60 _ _ _ rfl) ((hF.under H).box 61 _ _ _ rfl) rfl (of25_fn ad) (StAt.under hx H) (by decide) (by decide) (v := names) rfl o7' o7.1 (Rd.under i7 H) hS.1⟩,
    fun _ h => by cases h⟩⟩⟩⟩⟩⟩⟩
theorem file_w {R : List HP} {ad : Addr} {S : WS} (hF : Facts B R t) (hO : Rd B R (some ⟨pe, 0, none⟩) 1 1 2 [ptr pw, .int .i64 0]) {x : FileT} (hx : StAt B R ad x.cells) (ho : x.Ok) (hin : x.In (Rd B R)) (hg : goodMsL x.msgs 0 = true) (hS : Wok 103 S) :
  Sp B Tryz.prog 250 [t.sl 1 5, ptr pe, .pointer (some ad)] R [Wr pw S] (fun u H' => u = .tuple #[] ∧ ∃ S', Wrt 103 S (fileB x) S' ∧ H' = [Wr pw S']) := by
 have e : (([(⟨1, 2, false, 239, [t.bp 67, t.bp 66], 240, [t.bp 67]⟩, fText 1 x.path), (⟨2, 2, false, 239, [t.bp 69, t.bp 68], 240, [t.bp 69]⟩, fText 2 x.pack), (⟨3, 2, true, 241, [t.bp 73, t.bp 70, t.bp 71], 243, [t.bp 72, t.bp 73, t.bp 71]⟩, fRecs 3 impB x.imps.l), (⟨4, 2, true, 245, [t.bp 77, t.bp 74, t.bp 75], 246, [t.bp 76, t.bp 77, t.bp 75]⟩, fRecs 4 (fun m => msgB m 0) x.msgs), (⟨5, 2, true, 247, [t.bp 81, t.bp 78, t.bp 79], 248, [t.bp 80, t.bp 81, t.bp 79]⟩, fRecs 5 enumB x.enums.l)] : List (FP × Txt))).flatMap (·.2) = fileB x := by
  unfold fileB
  rw [msgsB_eq]
  simp only [List.flatMap_cons, List.flatMap_nil, List.append_nil]
 rw [← e]
 refine files_all (fs := ([(⟨1, 2, false, 239, [t.bp 67, t.bp 66], 240, [t.bp 67]⟩, fText 1 x.path), (⟨2, 2, false, 239, [t.bp 69, t.bp 68], 240, [t.bp 69]⟩, fText 2 x.pack), (⟨3, 2, true, 241, [t.bp 73, t.bp 70, t.bp 71], 243, [t.bp 72, t.bp 73, t.bp 71]⟩, fRecs 3 impB x.imps.l), (⟨4, 2, true, 245, [t.bp 77, t.bp 74, t.bp 75], 246, [t.bp 76, t.bp 77, t.bp 75]⟩, fRecs 4 (fun m => msgB m 0) x.msgs), (⟨5, 2, true, 247, [t.bp 81, t.bp 78, t.bp 79], 248, [t.bp 80, t.bp 81, t.bp 79]⟩, fRecs 5 enumB x.enums.l)] : List (FP × Txt))) (a := t.ra 1) (c := t.rc 1) (k := 103) (pe := pe) (pw := pw) (ad := ad) (S := S) (R := R) hF.r1 (Nat.le_of_ble_eq_true rfl) ?_ hS
 exact List.forall_mem_cons.2 ⟨⟨⟨_, rfl⟩, fun H S hS => oneText_File_put (Rd.under hO H) ((hF.under H).box 66 _ _ _ rfl) ((hF.under H).box 67 _ _ _ rfl) rfl (of28_fn ad) (StAt.under hx H) (by decide) (by decide) (v := x.path) rfl ho.path hS.1⟩,
  List.forall_mem_cons.2 ⟨⟨⟨_, rfl⟩, fun H S hS => oneText_File_put (Rd.under hO H) ((hF.under H).box 68 _ _ _ rfl) ((hF.under H).box 69 _ _ _ rfl) rfl (of29_fn ad) (StAt.under hx H) (by decide) (by decide) (v := x.pack) rfl ho.pack hS.1⟩,
  List.forall_mem_cons.2 ⟨⟨⟨_, rfl⟩, fun H S hS => some_File_Import_put (v := x.imps) (cl := ImpT.cells) (bs := impB) (Rd.under hO H) ((hF.under H).box 70 _ _ _ rfl) ((hF.under H).box 73 _ _ _ rfl) rfl (of30_fn ad) (StAt.under hx H) (by decide) (by decide) ((hF.under H).box 71 _ _ _ rfl) (hF.under H).forms rfl (fun _ => rfl) rfl ho.imps.1.1 (Rd.under hin.imps H) (fun i x hi H2 S hS => import_w (Facts.under (hF.under H) H2) (Rd.under (Rd.under hO H) H2) (StAt.row (Rd.under (Rd.under hin.imps H) H2) (flat_sub (f := ImpT.cells) (z := 2) (fun _ => rfl) _ i x hi)) (ho.imps.2 x (List.mem_of_getElem? hi)) hS) hS⟩,
  List.forall_mem_cons.2 ⟨⟨⟨_, rfl⟩, fun H S hS => some_File_MessageDef_put (v := ⟨x.ma, x.mc, x.msgs⟩) (cl := MsgT.cells) (bs := (fun m => msgB m 0)) (Rd.under hO H) ((hF.under H).box 74 _ _ _ rfl) ((hF.under H).box 77 _ _ _ rfl) rfl (of31_fn ad) (StAt.under hx H) (by decide) (by decide) ((hF.under H).box 75 _ _ _ rfl) (hF.under H).forms rfl (fun _ => rfl) rfl ho.msgs.1.1 (Rd.under hin.msgs H) (fun i x hi H2 S hS => message_w 100 (d := 0) (goodMs_deep 100 (by omega) (goodMsL_mem hg (List.mem_of_getElem? hi))) (goodMsL_mem hg (List.mem_of_getElem? hi)) (Facts.under (hF.under H) H2) (Rd.under (Rd.under hO H) H2) (StAt.row (Rd.under (Rd.under hin.msgs H) H2) (flat_sub (f := MsgT.cells) (z := 7) (fun _ => rfl) _ i x hi)) (ho.msgs.2 x (List.mem_of_getElem? hi)) (MsgT.In.mono (fun _ _ _ _ _ h => Rd.under (Rd.under h H) H2) (hin.sub x (List.mem_of_getElem? hi))) hS) hS⟩,
  List.forall_mem_cons.2 ⟨⟨⟨_, rfl⟩, fun H S hS => some_File_EnumDef_put (v := x.enums) (cl := EnumT.cells) (bs := enumB) (Rd.under hO H) ((hF.under H).box 78 _ _ _ rfl) ((hF.under H).box 81 _ _ _ rfl) rfl (of32_fn ad) (StAt.under hx H) (by decide) (by decide) ((hF.under H).box 79 _ _ _ rfl) (hF.under H).forms rfl (fun _ => rfl) rfl ho.enums.1.1 (Rd.under hin.enums H) (fun i x hi H2 S hS => enum_w (k := 101) (Facts.under (hF.under H) H2) (Rd.under (Rd.under hO H) H2) (StAt.row (Rd.under (Rd.under hin.enums H) H2) (flat_sub (f := EnumT.cells) (z := 5) (fun _ => rfl) _ i x hi)) (ho.enums.2 x (List.mem_of_getElem? hi)) (EnumT.In.mono (fun _ _ _ _ _ h => Rd.under (Rd.under h H) H2) (hin.esub x (List.mem_of_getElem? hi))) hS) hS⟩,
  fun _ h => by cases h⟩⟩⟩⟩⟩
theorem set_w {R : List HP} {ad : Addr} {S : WS} (hF : Facts B R t) (hO : Rd B R (some ⟨pe, 0, none⟩) 1 1 2 [ptr pw, .int .i64 0]) {v : Rw FileT} (hx : StAt B R ad [v.v]) (hvl : v.l.length ≤ 140737488355328) (hv : Rd B R v.a v.l.length v.c 5 (v.l.flatMap FileT.cells)) (ho : ∀ x ∈ v.l, x.Ok) (hin : ∀ x ∈ v.l, x.In (Rd B R)) (hg : ∀ x ∈ v.l, goodMsL x.msgs 0 = true) (hS : Wok 104 S) :
  Sp B Tryz.prog 62 [t.sl 0 1, ptr pe, .pointer (some ad)] R [Wr pw S] (fun u H' => u = .tuple #[] ∧ ∃ S', Wrt 104 S (setB v.l) S' ∧ H' = [Wr pw S']) := by
 have e : (([(⟨1, 2, true, 249, [t.bp 85, t.bp 82, t.bp 83], 251, [t.bp 84, t.bp 85, t.bp 83]⟩, fRecs 1 fileB v.l)] : List (FP × Txt))).flatMap (·.2) = setB v.l := by
  unfold setB
  simp only [List.flatMap_cons, List.flatMap_nil, List.append_nil]
 rw [← e]
 refine sets_all (fs := ([(⟨1, 2, true, 249, [t.bp 85, t.bp 82, t.bp 83], 251, [t.bp 84, t.bp 85, t.bp 83]⟩, fRecs 1 fileB v.l)] : List (FP × Txt))) (a := t.ra 0) (c := t.rc 0) (k := 104) (pe := pe) (pw := pw) (ad := ad) (S := S) (R := R) hF.r0 (Nat.le_of_ble_eq_true rfl) ?_ hS
 exact List.forall_mem_cons.2 ⟨⟨⟨_, rfl⟩, fun H S hS => some_set_File_put (v := v) (cl := FileT.cells) (bs := fileB) (Rd.under hO H) ((hF.under H).box 82 _ _ _ rfl) ((hF.under H).box 85 _ _ _ rfl) rfl (of33_fn ad) (StAt.under hx H) (by decide) (by decide) ((hF.under H).box 83 _ _ _ rfl) (hF.under H).forms rfl (fun _ => rfl) rfl hvl (Rd.under hv H) (fun i x hi H2 S hS => file_w (Facts.under (hF.under H) H2) (Rd.under (Rd.under hO H) H2) (StAt.row (Rd.under (Rd.under hv H) H2) (flat_sub (f := FileT.cells) (z := 5) (fun _ => rfl) _ i x hi)) (ho x (List.mem_of_getElem? hi)) (FileT.In.mono (fun _ _ _ _ _ h => Rd.under (Rd.under h H) H2) (hin x (List.mem_of_getElem? hi))) (hg x (List.mem_of_getElem? hi)) hS) hS⟩,
  fun _ h => by cases h⟩
end Go.Proofs.YtclcnhfponjdaaaGreatDoor
end
section
namespace Go.Proofs.YtclcnhfponjdaaaGreatDoor
open Go.Sk
set_option maxRecDepth 100000
theorem fieldB_le (x : FieldT) : (fieldB x).length ≤ 8 * wFd x := by
 have h2 := fText_le 1 x.nm
 have h3 := fSign_le 2 x.num
 have h4 := fSmall_le 3 x.card
 have h5 := fSmall_le 4 x.kind
 have h6 := fText_le 5 x.ty
 have h7 := fSmall_le 6 x.key
 have h8 := fSign_le 7 x.oneof
 have h9 := fSmall_le 8 x.packed
 have h10 := fText_le 9 x.js
 unfold fieldB wFd
 simp only [List.length_append]
 omega
theorem enumB_le (x : EnumT) : (enumB x).length ≤ 8 * wE x := by
 have h2 := fText_le 1 x.nm
 have h3 := vals_le 2 x.vals.l
 have h4 := fTruth_le 3 x.ali
 have h5 := spans_le 4 x.res.l
 have h6 := fTexts_le 5 x.names.l
 unfold enumB wE
 simp only [List.length_append]
 omega
theorem newOutB {B : World} {b : Nat} {H : List HP} {w : World} (h : Sat B (Cs b 167 [.slice none 0 0, .bool true] :: H) w) : Sat B (OutP b [] true :: H) w :=
 OutP.in_ none 0 ((Sat.nilOwn (e := 5) (sz := 1) h).sel (.t .h))
theorem goodMsL_all (d : Nat) : ∀ l : List MsgT, goodMsL l d = l.all fun m => goodMs m d
 | [] => by unfold goodMsL; rfl
 | x :: l => by unfold goodMsL; rw [goodMsL_all d l]; rfl
attribute [local irreducible] Cs Own Ex Pu Yld RT LJ QJ AtQ CT Rd QSp Sp FinQ Then LoopQ CutQ DT TakeQ EffQ
attribute [local irreducible] OutP
variable {B : World}
set_option maxHeartbeats 8000000 in
theorem omsg_fn (n : Nat) : ∀ {R : List HP} {m : MsgT} {d : Nat}, 100 ≤ n + d → d ≤ 100 → m.In (Rd B R) → m.Ok → wM m ≤ 33554432 →
  Sp B Tryz.prog 162 [.agg m.cells.toArray, .int .i64 d] R [] (fun u H' => ∃ p, u = ptr p ∧ H' = [OutP p (msgB m d) (!goodMs m d)]) := by
 induction n with
 | zero =>
  intro R m d hd hd1 hin hok hw
  obtain rfl : d = 100 := by omega
  have e1 : msgB m 100 = [] := by cases m; unfold msgB; rw [if_pos (by omega)]
  have e2 : goodMs m 100 = false := by cases m; unfold goodMs; simp
  rw [e1, e2]
  refine Sp.body Tryz.func162 rfl Tryz.ntmps162 (by simp) ?_
  simp only [argE, List.cons_append, List.nil_append, Nat.zero_add, Nat.reduceAdd]
  repeat' (first|refine gL ?_|(refine gv ?_;(refine⟨fun hc=>?_,fun hc=>?_⟩<;>first|(exfalso;omega)|skip))|(refine gb ?_;intro b)|fail)
  rename_i b2
  revert b
  intro bo
  exact AtQ.fin1 (H' := [OutP bo [] true]) Tryz.results162 rfl ⟨bo, rfl, rfl⟩ (fun w h => newOutB (h.frd (Ps := [_]) (Qs := [_]) fR_))
 | succ n ih =>
  intro R m d hd hd1 hin hok hw
  by_cases hd2 : d = 100
  ·subst hd2
   have e1 : msgB m 100 = [] := by cases m; unfold msgB; rw [if_pos (by omega)]
   have e2 : goodMs m 100 = false := by cases m; unfold goodMs; simp
   rw [e1, e2]
   refine Sp.body Tryz.func162 rfl Tryz.ntmps162 (by simp) ?_
   simp only [argE, List.cons_append, List.nil_append, Nat.zero_add, Nat.reduceAdd]
   repeat' (first|refine gL ?_|(refine gv ?_;(refine⟨fun hc=>?_,fun hc=>?_⟩<;>first|(exfalso;omega)|skip))|(refine gb ?_;intro b)|fail)
   rename_i b2
   revert b
   intro bo
   exact AtQ.fin1 (H' := [OutP bo [] true]) Tryz.results162 rfl ⟨bo, rfl, rfl⟩ (fun w h => newOutB (h.frd (Ps := [_]) (Qs := [_]) fR_))
  obtain ⟨nm, ⟨fa, fc, fl⟩, ⟨oa, oc, ol⟩, ma, mc, msgs, ⟨ea, ec, el⟩, ⟨ra, rc, rl⟩, ⟨na, nc, nl⟩⟩ := m
  unfold MsgT.Ok at hok
  unfold MsgT.In at hin
  unfold wM at hw
  obtain ⟨o1, ⟨⟨o2, _⟩, o2'⟩, ⟨⟨o3, _⟩, o3'⟩, ⟨o4, _⟩, ⟨⟨o5, _⟩, o5'⟩, ⟨⟨o6, _⟩, o6'⟩, ⟨⟨o7, _⟩, o7'⟩, o8⟩ := hok
  obtain ⟨i1, i2, i3, i4, i5, i6, i7, i8⟩ := hin
  dsimp only at o1 o2 o2' o3 o3' o4 o5 o5' o6 o6' o7 o7' i1 i2 i3 i4 i5 i6 i7 hw
  have q1 := fText_le 1 nm
  have q2 := fields_le 2 fl
  have q3 := fTexts_le 3 ol
  have q4 := msgs_le msgs (d + 1)
  rw [msgsB_eq] at q4
  have q5 := enums_le 5 el
  have q6 := spans_le 6 rl
  have q7 := fTexts_le 7 nl
  rw [wMs_eq] at hw q4
  have hG : goodMs (.mk nm ⟨fa, fc, fl⟩ ⟨oa, oc, ol⟩ ma mc msgs ⟨ea, ec, el⟩ ⟨ra, rc, rl⟩ ⟨na, nc, nl⟩) d = (goodT nm && ol.all goodT && nl.all goodT && fl.all goodFd && (msgs.all fun m => goodMs m (d + 1)) && el.all goodEn) := by
   rw [goodMs, decide_eq_true (by omega : d ≤ 99), Bool.true_and, goodMsL_all]
  have hB : msgB (.mk nm ⟨fa, fc, fl⟩ ⟨oa, oc, ol⟩ ma mc msgs ⟨ea, ec, el⟩ ⟨ra, rc, rl⟩ ⟨na, nc, nl⟩) d = fText 1 nm ++ fRecs 2 fieldB fl ++ fTexts 3 ol ++ fRecs 4 (fun m => msgB m (d + 1)) msgs ++ fRecs 5 enumB el ++ fRecs 6 spanB rl ++ fTexts 7 nl := by
   rw [msgB_mk (by omega)]
   simp only [List.append_assoc]
  rw [hG, hB]
  clear hG hB
  dsimp only [MsgT.cells, MsgT.nm, MsgT.fields, MsgT.oneofs, MsgT.ma, MsgT.mc, MsgT.msgs, MsgT.enums, MsgT.res, MsgT.names, Rw.v]
  refine Sp.body Tryz.func162 rfl Tryz.ntmps162 (by simp) ?_
  simp only [argE, List.cons_append, List.nil_append, Nat.zero_add, Nat.reduceAdd]
  repeat' (first|refine gL ?_|(refine gv ?_;(refine⟨fun hc=>?_,fun hc=>?_⟩<;>first|(exfalso;omega)|skip))|(refine gb ?_;intro b)|fail)
  rename_i b2
  revert b
  intro bo
  refine RT.weak (fun w h => newOut h) ?_
  (refine RT.call T rfl fR_ (otext_fn (num := 1) (t := nm) (b := []) (by decide) (by decide) o1 (by omega) (by simp)) rfl rfl rfl ?_; rintro _ _ ⟨rfl, rfl⟩; try simp only [List.cons_append, List.nil_append])
  try refine gL ?_
  refine CT.loop (α := Nat) (fun i => [(1, .int .i64 d), (2, .pointer (some ⟨b2, 0, none⟩)), (5, .pointer (some ⟨bo, 0, none⟩)), (6, .int .i64 i)])
   (fun i => Pu (i ≤ fl.length) :: OutP bo (fText 1 nm ++ fRecs 2 fieldB (fl.take i)) ((false || !goodT nm) || !(fl.take i).all goodFd) :: Cs b2 187 [vS nm, .slice fa fl.length fc, .slice oa ol.length oc, .slice ma msgs.length mc, .slice ea el.length ec, .slice ra rl.length rc, .slice na nl.length nc] :: R) (fun i => fl.length - i) 0
   ⟨rfl, rfl, rfl, rfl, trivial⟩ (fun w h => Sat.pu_in (Nat.zero_le _) (by rw [show fRecs 2 fieldB (fl.take 0) = [] from rfl, List.append_nil, show (fl.take 0).all goodFd = true from rfl, Bool.not_true, Bool.or_false]; exact h)) (fun i => CT.pu fun hil => ?_)
  have htl : (fRecs 2 fieldB (fl.take i)).length ≤ (fRecs 2 fieldB fl).length := take_le (f := fun x => fBytes 2 (fieldB x)) fl i
  repeat' (first|refine gL ?_|(refine gv ?_;(refine⟨fun hc=>?_,fun hc=>?_⟩<;>first|(exfalso;omega)|skip))|fail)
  ·have hi' : i < fl.length := by omega
   have hgi := List.getElem?_eq_getElem hi'
   revert hgi
   generalize fl[i] = s
   intro hgi
   have hme := List.mem_of_getElem? hgi
   have hws := sum_mem (f := wFd) hme
   refine RT.ix T (j := i * 9) rfl rfl rfl (rD (i1)) (by omega) (by omega) (by omega) rfl rfl ?_
   refine RT.ldra T rfl (rD (i1)) (l := s.cells) (flat_sub (f := FieldT.cells) (z := 9) (fun _ => rfl) fl i _ hgi) rfl rfl rfl rfl ?_
   skip
   refine RT.call T rfl fR_ (ofield_fn (x := s) (o2' s hme) (by omega)) rfl rfl rfl ?_
   rintro _ _ ⟨bi, rfl, rfl⟩
   simp only [List.cons_append, List.nil_append]
   skip
   have hbl := fieldB_le s
   (refine RT.call T rfl fR_ (orecord_fn (num := 2) (b := fText 1 nm ++ fRecs 2 fieldB (fl.take i)) (by decide) (by decide) (by omega) (by simp only [List.length_append]; omega)) rfl rfl rfl ?_; rintro _ _ ⟨rfl, rfl⟩; try simp only [List.cons_append, List.nil_append])
   repeat' (first|refine gL ?_|(refine gv ?_;refine gk ?_)|fail)
   exact AtQ.loop (i + 1) ⟨rfl, rfl, rfl, rfl, trivial⟩ (fun w h => Sat.pu_in (by omega) (by rw [fRecs_snoc hgi, ← or_all (f := goodFd) _ hgi, ← List.append_assoc]; exact h.frd (Ps := [_, _]) (Qs := []) fR_)) (by omega)
  obtain rfl : i = fl.length := by omega
  rw [List.take_length]
  refine CT.loop (α := Nat) (fun i => [(1, .int .i64 d), (2, .pointer (some ⟨b2, 0, none⟩)), (5, .pointer (some ⟨bo, 0, none⟩)), (7, .int .i64 i)])
   (fun i => Pu (i ≤ ol.length) :: OutP bo (fText 1 nm ++ fRecs 2 fieldB fl ++ fTexts 3 (ol.take i)) (((false || !goodT nm) || !fl.all goodFd) || !(ol.take i).all goodT) :: Cs b2 187 [vS nm, .slice fa fl.length fc, .slice oa ol.length oc, .slice ma msgs.length mc, .slice ea el.length ec, .slice ra rl.length rc, .slice na nl.length nc] :: R) (fun i => ol.length - i) 0
   ⟨rfl, rfl, rfl, rfl, trivial⟩ (fun w h => Sat.pu_in (Nat.zero_le _) (by rw [show fTexts 3 (ol.take 0) = [] from rfl, List.append_nil, show (ol.take 0).all goodT = true from rfl, Bool.not_true, Bool.or_false]; exact h)) (fun i => CT.pu fun hil => ?_)
  have htl : (fTexts 3 (ol.take i)).length ≤ (fTexts 3 ol).length := take_le (f := fBytes 3) ol i
  repeat' (first|refine gL ?_|(refine gv ?_;(refine⟨fun hc=>?_,fun hc=>?_⟩<;>first|(exfalso;omega)|skip))|fail)
  ·have hi' : i < ol.length := by omega
   have hgi := List.getElem?_eq_getElem hi'
   have hml := mem_len (List.getElem_mem hi')
   have hto := o3' _ (List.getElem_mem hi')
   refine RT.ix T (j := i) rfl rfl rfl (rD (i2)) (by omega) (by omega) (by omega) rfl rfl ?_
   refine RT.ldr T rfl (rD (i2)) (map_get hi') rfl rfl rfl ?_
   revert hgi hml hto
   generalize ol[i] = s
   intro hgi hml hto
   skip
   (refine RT.call T rfl fR_ (olisted_fn (num := 3) (t := s) (b := fText 1 nm ++ fRecs 2 fieldB fl ++ fTexts 3 (ol.take i)) (by decide) (by decide) hto (by omega) (by simp only [List.length_append]; omega)) rfl rfl rfl ?_; rintro _ _ ⟨rfl, rfl⟩; try simp only [List.cons_append, List.nil_append])
   repeat' (first|refine gL ?_|(refine gv ?_;refine gk ?_)|fail)
   exact AtQ.loop (i + 1) ⟨rfl, rfl, rfl, rfl, trivial⟩ (fun w h => Sat.pu_in (by omega) (by rw [fTexts_snoc hgi, ← or_all (f := goodT) _ hgi, ← List.append_assoc]; exact h)) (by omega)
  obtain rfl : i = ol.length := by omega
  rw [List.take_length]
  refine CT.loop (α := Nat) (fun i => [(1, .int .i64 d), (2, .pointer (some ⟨b2, 0, none⟩)), (5, .pointer (some ⟨bo, 0, none⟩)), (8, .int .i64 i)])
   (fun i => Pu (i ≤ msgs.length) :: OutP bo (fText 1 nm ++ fRecs 2 fieldB fl ++ fTexts 3 ol ++ fRecs 4 (fun m => msgB m (d + 1)) (msgs.take i)) ((((false || !goodT nm) || !fl.all goodFd) || !ol.all goodT) || !(msgs.take i).all (fun m => goodMs m (d + 1))) :: Cs b2 187 [vS nm, .slice fa fl.length fc, .slice oa ol.length oc, .slice ma msgs.length mc, .slice ea el.length ec, .slice ra rl.length rc, .slice na nl.length nc] :: R) (fun i => msgs.length - i) 0
   ⟨rfl, rfl, rfl, rfl, trivial⟩ (fun w h => Sat.pu_in (Nat.zero_le _) (by rw [show fRecs 4 (fun m => msgB m (d + 1)) (msgs.take 0) = [] from rfl, List.append_nil, show (msgs.take 0).all (fun m => goodMs m (d + 1)) = true from rfl, Bool.not_true, Bool.or_false]; exact h)) (fun i => CT.pu fun hil => ?_)
  have htl : (fRecs 4 (fun m => msgB m (d + 1)) (msgs.take i)).length ≤ (fRecs 4 (fun m => msgB m (d + 1)) msgs).length := take_le (f := fun x => fBytes 4 ((fun m => msgB m (d + 1)) x)) msgs i
  repeat' (first|refine gL ?_|(refine gv ?_;(refine⟨fun hc=>?_,fun hc=>?_⟩<;>first|(exfalso;omega)|skip))|fail)
  ·have hi' : i < msgs.length := by omega
   have hgi := List.getElem?_eq_getElem hi'
   revert hgi
   generalize msgs[i] = s
   intro hgi
   have hme := List.mem_of_getElem? hgi
   have hws := sum_mem (f := wM) hme
   refine RT.ix T (j := i * 7) rfl rfl rfl (rD (i3)) (by omega) (by omega) (by omega) rfl rfl ?_
   refine RT.ldra T rfl (rD (i3)) (l := s.cells) (flat_sub (f := MsgT.cells) (z := 7) (fun _ => rfl) msgs i _ hgi) rfl rfl rfl rfl ?_
   repeat' (first|refine gL ?_|(refine gv ?_;refine gk ?_)|fail)
   refine RT.call T rfl fR_ (ih (m := s) (d := d + 1) (by omega) (by omega) (MsgT.In.mono (fun _ _ _ _ _ h => (rD (h))) (MsgT.inL_mem i8 hme)) (MsgT.okL_mem o8 hme) (by omega)) rfl rfl rfl ?_
   rintro _ _ ⟨bi, rfl, rfl⟩
   simp only [List.cons_append, List.nil_append]
   skip
   have hbl := msg_le 4 s (d + 1)
   (refine RT.call T rfl fR_ (orecord_fn (num := 4) (b := fText 1 nm ++ fRecs 2 fieldB fl ++ fTexts 3 ol ++ fRecs 4 (fun m => msgB m (d + 1)) (msgs.take i)) (by decide) (by decide) (by omega) (by simp only [List.length_append]; omega)) rfl rfl rfl ?_; rintro _ _ ⟨rfl, rfl⟩; try simp only [List.cons_append, List.nil_append])
   repeat' (first|refine gL ?_|(refine gv ?_;refine gk ?_)|fail)
   exact AtQ.loop (i + 1) ⟨rfl, rfl, rfl, rfl, trivial⟩ (fun w h => Sat.pu_in (by omega) (by rw [fRecs_snoc hgi, ← or_all (f := (fun m => goodMs m (d + 1))) _ hgi, ← List.append_assoc]; exact h.frd (Ps := [_, _]) (Qs := []) fR_)) (by omega)
  obtain rfl : i = msgs.length := by omega
  rw [List.take_length]
  refine CT.loop (α := Nat) (fun i => [(1, .int .i64 d), (2, .pointer (some ⟨b2, 0, none⟩)), (5, .pointer (some ⟨bo, 0, none⟩)), (9, .int .i64 i)])
   (fun i => Pu (i ≤ el.length) :: OutP bo (fText 1 nm ++ fRecs 2 fieldB fl ++ fTexts 3 ol ++ fRecs 4 (fun m => msgB m (d + 1)) msgs ++ fRecs 5 enumB (el.take i)) (((((false || !goodT nm) || !fl.all goodFd) || !ol.all goodT) || !msgs.all (fun m => goodMs m (d + 1))) || !(el.take i).all goodEn) :: Cs b2 187 [vS nm, .slice fa fl.length fc, .slice oa ol.length oc, .slice ma msgs.length mc, .slice ea el.length ec, .slice ra rl.length rc, .slice na nl.length nc] :: R) (fun i => el.length - i) 0
   ⟨rfl, rfl, rfl, rfl, trivial⟩ (fun w h => Sat.pu_in (Nat.zero_le _) (by rw [show fRecs 5 enumB (el.take 0) = [] from rfl, List.append_nil, show (el.take 0).all goodEn = true from rfl, Bool.not_true, Bool.or_false]; exact h)) (fun i => CT.pu fun hil => ?_)
  have htl : (fRecs 5 enumB (el.take i)).length ≤ (fRecs 5 enumB el).length := take_le (f := fun x => fBytes 5 (enumB x)) el i
  repeat' (first|refine gL ?_|(refine gv ?_;(refine⟨fun hc=>?_,fun hc=>?_⟩<;>first|(exfalso;omega)|skip))|fail)
  ·have hi' : i < el.length := by omega
   have hgi := List.getElem?_eq_getElem hi'
   revert hgi
   generalize el[i] = s
   intro hgi
   have hme := List.mem_of_getElem? hgi
   have hws := sum_mem (f := wE) hme
   refine RT.ix T (j := i * 5) rfl rfl rfl (rD (i4)) (by omega) (by omega) (by omega) rfl rfl ?_
   refine RT.ldra T rfl (rD (i4)) (l := s.cells) (flat_sub (f := EnumT.cells) (z := 5) (fun _ => rfl) el i _ hgi) rfl rfl rfl rfl ?_
   skip
   refine RT.call T rfl fR_ (oenum_fn (e := s) (EnumT.In.mono (fun _ _ _ _ _ h => (rD (h))) (i5 s hme)) (o5' s hme) (by omega)) rfl rfl rfl ?_
   rintro _ _ ⟨bi, rfl, rfl⟩
   simp only [List.cons_append, List.nil_append]
   skip
   have hbl := enumB_le s
   (refine RT.call T rfl fR_ (orecord_fn (num := 5) (b := fText 1 nm ++ fRecs 2 fieldB fl ++ fTexts 3 ol ++ fRecs 4 (fun m => msgB m (d + 1)) msgs ++ fRecs 5 enumB (el.take i)) (by decide) (by decide) (by omega) (by simp only [List.length_append]; omega)) rfl rfl rfl ?_; rintro _ _ ⟨rfl, rfl⟩; try simp only [List.cons_append, List.nil_append])
   repeat' (first|refine gL ?_|(refine gv ?_;refine gk ?_)|fail)
   exact AtQ.loop (i + 1) ⟨rfl, rfl, rfl, rfl, trivial⟩ (fun w h => Sat.pu_in (by omega) (by rw [fRecs_snoc hgi, ← or_all (f := goodEn) _ hgi, ← List.append_assoc]; exact h.frd (Ps := [_, _]) (Qs := []) fR_)) (by omega)
  obtain rfl : i = el.length := by omega
  rw [List.take_length]
  (refine RT.call T rfl fR_ (ospans_fn (num := 6) (l := rl) (b := fText 1 nm ++ fRecs 2 fieldB fl ++ fTexts 3 ol ++ fRecs 4 (fun m => msgB m (d + 1)) msgs ++ fRecs 5 enumB el) (by decide) (by decide) (rD (i6)) o6' (by omega) (by simp only [List.length_append]; omega)) rfl rfl rfl ?_; rintro _ _ ⟨rfl, rfl⟩; try simp only [List.cons_append, List.nil_append])
  try refine gL ?_
  refine CT.loop (α := Nat) (fun i => [(1, .int .i64 d), (2, .pointer (some ⟨b2, 0, none⟩)), (5, .pointer (some ⟨bo, 0, none⟩)), (10, .int .i64 i)])
   (fun i => Pu (i ≤ nl.length) :: OutP bo (fText 1 nm ++ fRecs 2 fieldB fl ++ fTexts 3 ol ++ fRecs 4 (fun m => msgB m (d + 1)) msgs ++ fRecs 5 enumB el ++ fRecs 6 spanB rl ++ fTexts 7 (nl.take i)) ((((((false || !goodT nm) || !fl.all goodFd) || !ol.all goodT) || !msgs.all (fun m => goodMs m (d + 1))) || !el.all goodEn) || !(nl.take i).all goodT) :: Cs b2 187 [vS nm, .slice fa fl.length fc, .slice oa ol.length oc, .slice ma msgs.length mc, .slice ea el.length ec, .slice ra rl.length rc, .slice na nl.length nc] :: R) (fun i => nl.length - i) 0
   ⟨rfl, rfl, rfl, rfl, trivial⟩ (fun w h => Sat.pu_in (Nat.zero_le _) (by rw [show fTexts 7 (nl.take 0) = [] from rfl, List.append_nil, show (nl.take 0).all goodT = true from rfl, Bool.not_true, Bool.or_false]; exact h)) (fun i => CT.pu fun hil => ?_)
  have htl : (fTexts 7 (nl.take i)).length ≤ (fTexts 7 nl).length := take_le (f := fBytes 7) nl i
  repeat' (first|refine gL ?_|(refine gv ?_;(refine⟨fun hc=>?_,fun hc=>?_⟩<;>first|(exfalso;omega)|skip))|fail)
  ·have hi' : i < nl.length := by omega
   have hgi := List.getElem?_eq_getElem hi'
   have hml := mem_len (List.getElem_mem hi')
   have hto := o7' _ (List.getElem_mem hi')
   refine RT.ix T (j := i) rfl rfl rfl (rD (i7)) (by omega) (by omega) (by omega) rfl rfl ?_
   refine RT.ldr T rfl (rD (i7)) (map_get hi') rfl rfl rfl ?_
   revert hgi hml hto
   generalize nl[i] = s
   intro hgi hml hto
   skip
   (refine RT.call T rfl fR_ (olisted_fn (num := 7) (t := s) (b := fText 1 nm ++ fRecs 2 fieldB fl ++ fTexts 3 ol ++ fRecs 4 (fun m => msgB m (d + 1)) msgs ++ fRecs 5 enumB el ++ fRecs 6 spanB rl ++ fTexts 7 (nl.take i)) (by decide) (by decide) hto (by omega) (by simp only [List.length_append]; omega)) rfl rfl rfl ?_; rintro _ _ ⟨rfl, rfl⟩; try simp only [List.cons_append, List.nil_append])
   repeat' (first|refine gL ?_|(refine gv ?_;refine gk ?_)|fail)
   exact AtQ.loop (i + 1) ⟨rfl, rfl, rfl, rfl, trivial⟩ (fun w h => Sat.pu_in (by omega) (by rw [fTexts_snoc hgi, ← or_all (f := goodT) _ hgi, ← List.append_assoc]; exact h)) (by omega)
  obtain rfl : i = nl.length := by omega
  rw [List.take_length]
  refine AtQ.fin1 (H' := [OutP bo _ _]) Tryz.results162 rfl ⟨bo, rfl, rfl⟩ (fun w h => ?_)
  have e2 : (!(goodT nm && ol.all goodT && nl.all goodT && fl.all goodFd && (msgs.all fun m => goodMs m (d + 1)) && el.all goodEn)) = ((((((false || !goodT nm) || !fl.all goodFd) || !ol.all goodT) || !msgs.all (fun m => goodMs m (d + 1))) || !el.all goodEn) || !nl.all goodT) := by
   cases goodT nm <;> cases fl.all goodFd <;> cases ol.all goodT <;> cases (msgs.all fun m => goodMs m (d + 1)) <;> cases el.all goodEn <;> cases nl.all goodT <;> rfl
  rw [e2]
  exact h.frd (Ps := [_]) (Qs := [_]) fR_
end Go.Proofs.YtclcnhfponjdaaaGreatDoor
end
section
namespace Go.Proofs.YtclcnhfponjdaaaGreatDoor
open Go.Sk
set_option maxRecDepth 100000
theorem imps_le (n : Int) (l : List ImpT) : (fRecs n impB l).length ≤ 8 * (l.map wI).sum := flat_le (fun x => by
 have h1 := fBytes_le n (impB x)
 have h2 := fText_le 1 x.path
 have h3 := fTruth_le 2 x.pub
 unfold impB at h1 ⊢
 simp only [List.length_append] at h1
 unfold wI
 omega) l
attribute [local irreducible] Cs Own Ex Pu Yld RT LJ QJ AtQ CT Rd QSp Sp FinQ Then LoopQ CutQ DT TakeQ EffQ
attribute [local irreducible] OutP
variable {B : World} {R : List HP}
set_option maxHeartbeats 8000000 in
theorem ofile_fn {f : FileT} (hin : f.In (Rd B R)) (hok : f.Ok) (hw : wF f ≤ 33554432) :
  Sp B Tryz.prog 69 [.agg f.cells.toArray] R [] (fun u H' => ∃ p, u = ptr p ∧ H' = [OutP p (fileB f) (!goodFl f)]) := by
 obtain ⟨path, pack, ⟨ia, ic, il⟩, ma, mc, msgs, ⟨ea, ec, el⟩⟩ := f
 obtain ⟨o1, o2, ⟨⟨o3, _⟩, o3'⟩, ⟨⟨o4, _⟩, o4'⟩, ⟨⟨o5, _⟩, o5'⟩⟩ := hok
 obtain ⟨i1, i2, i3, i4, i5⟩ := hin
 unfold wF at hw
 dsimp only at o1 o2 o3 o3' o4 o4' o5 o5' i1 i2 i3 i4 i5 hw
 have q1 := fText_le 1 path
 have q2 := fText_le 2 pack
 have q3 := imps_le 3 il
 have q4 := msgs_le msgs 0
 rw [msgsB_eq] at q4
 have q5 := enums_le 5 el
 rw [wMs_eq] at hw q4
 have hG : goodFl ⟨path, pack, ⟨ia, ic, il⟩, ma, mc, msgs, ⟨ea, ec, el⟩⟩ = (goodT path && goodT pack && (il.all fun i => goodT i.path) && (msgs.all fun m => goodMs m 0) && el.all goodEn) := by
  unfold goodFl
  dsimp only
  rw [goodMsL_all]
 have hB : fileB ⟨path, pack, ⟨ia, ic, il⟩, ma, mc, msgs, ⟨ea, ec, el⟩⟩ = fText 1 path ++ fText 2 pack ++ fRecs 3 impB il ++ fRecs 4 (fun m => msgB m 0) msgs ++ fRecs 5 enumB el := by
  unfold fileB
  dsimp only
  rw [msgsB_eq]
  simp only [List.append_assoc]
 rw [hG, hB]
 clear hG hB
 dsimp only [FileT.cells, Rw.v]
 refine Sp.body Tryz.func69 rfl Tryz.ntmps69 (by simp) ?_
 simp only [argE, List.cons_append, List.nil_append, Nat.zero_add, Nat.reduceAdd]
 repeat' (first|refine gL ?_|(refine gb ?_;intro b)|fail)
 rename_i b2
 revert b
 intro bo
 refine RT.weak (fun w h => newOut h) ?_
 (refine RT.call T rfl fR_ (otext_fn (num := 1) (t := path) (b := []) (by decide) (by decide) o1 (by omega) (by simp)) rfl rfl rfl ?_; rintro _ _ ⟨rfl, rfl⟩; try simp only [List.cons_append, List.nil_append])
 try refine gL ?_
 (refine RT.call T rfl fR_ (otext_fn (num := 2) (t := pack) (b := fText 1 path) (by decide) (by decide) o2 (by omega) (by omega)) rfl rfl rfl ?_; rintro _ _ ⟨rfl, rfl⟩; try simp only [List.cons_append, List.nil_append])
 try refine gL ?_
 refine CT.loop (α := Nat) (fun i => [(1, .pointer (some ⟨b2, 0, none⟩)), (3, .pointer (some ⟨bo, 0, none⟩)), (4, .int .i64 i)])
  (fun i => Pu (i ≤ il.length) :: OutP bo (fText 1 path ++ fText 2 pack ++ fRecs 3 impB (il.take i)) (((false || !goodT path) || !goodT pack) || !(il.take i).all (fun i : ImpT => goodT i.path)) :: Cs b2 75 [vS path, vS pack, .slice ia il.length ic, .slice ma msgs.length mc, .slice ea el.length ec] :: R) (fun i => il.length - i) 0
  ⟨rfl, rfl, rfl, trivial⟩ (fun w h => Sat.pu_in (Nat.zero_le _) (by rw [show fRecs 3 impB (il.take 0) = [] from rfl, List.append_nil, show (il.take 0).all (fun i : ImpT => goodT i.path) = true from rfl, Bool.not_true, Bool.or_false]; exact h)) (fun i => CT.pu fun hil => ?_)
 have htl : (fRecs 3 impB (il.take i)).length ≤ (fRecs 3 impB il).length := take_le (f := fun x => fBytes 3 (impB x)) il i
 repeat' (first|refine gL ?_|(refine gv ?_;(refine⟨fun hc=>?_,fun hc=>?_⟩<;>first|(exfalso;omega)|skip))|(refine gb ?_;intro b)|fail)
 ·have hi' : i < il.length := by omega
  have hgi := List.getElem?_eq_getElem hi'
  revert hgi
  generalize il[i] = s
  intro hgi
  have hme := List.mem_of_getElem? hgi
  have s1 : OkT s.path := o3' s hme
  have hws := sum_mem (f := wI) hme
  unfold wI at hws
  revert b
  intro bi
  refine RT.weak (fun w h => newOut h) ?_
  ((refine RT.ix T (j := (i) * 2) rfl rfl rfl (rD (i1)) (by omega) (by omega) (by omega) rfl rfl ?_); (refine RT.faA T rfl rfl rfl rfl ?_); (refine RT.ldr (u := vS s.path) T rfl (rD (i1)) (by rw [flat_get (f := ImpT.cells) (z := 2) (fun _ => rfl) hgi (by decide)]; rfl) rfl rfl rfl ?_))
  skip
  (refine RT.call T rfl fR_ (otext_fn (num := 1) (t := s.path) (b := []) (by decide) (by decide) s1 (by unfold wI at hw; omega) (by simp)) rfl rfl rfl ?_; rintro _ _ ⟨rfl, rfl⟩; try simp only [List.cons_append, List.nil_append])
  try refine gL ?_
  ((refine RT.ix T (j := (i) * 2) rfl rfl rfl (rD (i1)) (by omega) (by omega) (by omega) rfl rfl ?_); (refine RT.faA T rfl rfl rfl rfl ?_); (refine RT.ldr (u := .bool s.pub) T rfl (rD (i1)) (by rw [flat_get (f := ImpT.cells) (z := 2) (fun _ => rfl) hgi (by decide)]; rfl) rfl rfl rfl ?_))
  skip
  have w1 := fText_le 1 s.path
  have w2 := fTruth_le 2 s.pub
  unfold wI at hw
  (refine RT.call T rfl fR_ (oyes_fn (num := 2) (v := s.pub) (b := fText 1 s.path) (by decide) (by decide) (by omega)) rfl rfl rfl ?_; rintro _ _ ⟨rfl, rfl⟩; try simp only [List.cons_append, List.nil_append])
  try refine gL ?_
  (refine RT.call T rfl fR_ (orecord_fn (num := 3) (b := fText 1 path ++ fText 2 pack ++ fRecs 3 impB (il.take i)) (by decide) (by decide) (by simp only [List.length_append]; omega) (by unfold wI at q3; simp only [List.length_append]; omega)) rfl rfl rfl ?_; rintro _ _ ⟨rfl, rfl⟩; try simp only [List.cons_append, List.nil_append])
  repeat' (first|refine gL ?_|(refine gv ?_;refine gk ?_)|fail)
  exact AtQ.loop (i + 1) ⟨rfl, rfl, rfl, trivial⟩ (fun w h => Sat.pu_in (by omega) (by rw [fRecs_snoc hgi, ← or_all (f := (fun i : ImpT => goodT i.path)) _ hgi, ← List.append_assoc]; simpa [impB] using h)) (by omega)
 obtain rfl : i = il.length := by omega
 rw [List.take_length]
 refine CT.loop (α := Nat) (fun i => [(1, .pointer (some ⟨b2, 0, none⟩)), (3, .pointer (some ⟨bo, 0, none⟩)), (6, .int .i64 i)])
  (fun i => Pu (i ≤ msgs.length) :: OutP bo (fText 1 path ++ fText 2 pack ++ fRecs 3 impB il ++ fRecs 4 (fun m => msgB m 0) (msgs.take i)) ((((false || !goodT path) || !goodT pack) || !il.all (fun i : ImpT => goodT i.path)) || !(msgs.take i).all (fun m => goodMs m 0)) :: Cs b2 75 [vS path, vS pack, .slice ia il.length ic, .slice ma msgs.length mc, .slice ea el.length ec] :: R) (fun i => msgs.length - i) 0
  ⟨rfl, rfl, rfl, trivial⟩ (fun w h => Sat.pu_in (Nat.zero_le _) (by rw [show fRecs 4 (fun m => msgB m 0) (msgs.take 0) = [] from rfl, List.append_nil, show (msgs.take 0).all (fun m => goodMs m 0) = true from rfl, Bool.not_true, Bool.or_false]; exact h)) (fun i => CT.pu fun hil => ?_)
 have htl : (fRecs 4 (fun m => msgB m 0) (msgs.take i)).length ≤ (fRecs 4 (fun m => msgB m 0) msgs).length := take_le (f := fun x => fBytes 4 ((fun m => msgB m 0) x)) msgs i
 repeat' (first|refine gL ?_|(refine gv ?_;(refine⟨fun hc=>?_,fun hc=>?_⟩<;>first|(exfalso;omega)|skip))|fail)
 ·have hi' : i < msgs.length := by omega
  have hgi := List.getElem?_eq_getElem hi'
  revert hgi
  generalize msgs[i] = s
  intro hgi
  have hme := List.mem_of_getElem? hgi
  have hws := sum_mem (f := wM) hme
  refine RT.ix T (j := i * 7) rfl rfl rfl (rD (i2)) (by omega) (by omega) (by omega) rfl rfl ?_
  refine RT.ldra T rfl (rD (i2)) (l := s.cells) (flat_sub (f := MsgT.cells) (z := 7) (fun _ => rfl) msgs i _ hgi) rfl rfl rfl rfl ?_
  skip
  refine RT.call T rfl fR_ (omsg_fn 100 (m := s) (d := 0) (by omega) (by omega) (MsgT.In.mono (fun _ _ _ _ _ h => (rD (h))) (i3 s hme)) (o4' s hme) (by omega)) rfl rfl rfl ?_
  rintro _ _ ⟨bi, rfl, rfl⟩
  simp only [List.cons_append, List.nil_append]
  skip
  have hbl := msg_le 4 s 0
  (refine RT.call T rfl fR_ (orecord_fn (num := 4) (b := fText 1 path ++ fText 2 pack ++ fRecs 3 impB il ++ fRecs 4 (fun m => msgB m 0) (msgs.take i)) (by decide) (by decide) (by omega) (by simp only [List.length_append]; omega)) rfl rfl rfl ?_; rintro _ _ ⟨rfl, rfl⟩; try simp only [List.cons_append, List.nil_append])
  repeat' (first|refine gL ?_|(refine gv ?_;refine gk ?_)|fail)
  exact AtQ.loop (i + 1) ⟨rfl, rfl, rfl, trivial⟩ (fun w h => Sat.pu_in (by omega) (by rw [fRecs_snoc hgi, ← or_all (f := (fun m => goodMs m 0)) _ hgi, ← List.append_assoc]; exact h.frd (Ps := [_, _]) (Qs := []) fR_)) (by omega)
 obtain rfl : i = msgs.length := by omega
 rw [List.take_length]
 refine CT.loop (α := Nat) (fun i => [(1, .pointer (some ⟨b2, 0, none⟩)), (3, .pointer (some ⟨bo, 0, none⟩)), (7, .int .i64 i)])
  (fun i => Pu (i ≤ el.length) :: OutP bo (fText 1 path ++ fText 2 pack ++ fRecs 3 impB il ++ fRecs 4 (fun m => msgB m 0) msgs ++ fRecs 5 enumB (el.take i)) (((((false || !goodT path) || !goodT pack) || !il.all (fun i : ImpT => goodT i.path)) || !msgs.all (fun m => goodMs m 0)) || !(el.take i).all goodEn) :: Cs b2 75 [vS path, vS pack, .slice ia il.length ic, .slice ma msgs.length mc, .slice ea el.length ec] :: R) (fun i => el.length - i) 0
  ⟨rfl, rfl, rfl, trivial⟩ (fun w h => Sat.pu_in (Nat.zero_le _) (by rw [show fRecs 5 enumB (el.take 0) = [] from rfl, List.append_nil, show (el.take 0).all goodEn = true from rfl, Bool.not_true, Bool.or_false]; exact h)) (fun i => CT.pu fun hil => ?_)
 have htl : (fRecs 5 enumB (el.take i)).length ≤ (fRecs 5 enumB el).length := take_le (f := fun x => fBytes 5 (enumB x)) el i
 repeat' (first|refine gL ?_|(refine gv ?_;(refine⟨fun hc=>?_,fun hc=>?_⟩<;>first|(exfalso;omega)|skip))|fail)
 ·have hi' : i < el.length := by omega
  have hgi := List.getElem?_eq_getElem hi'
  revert hgi
  generalize el[i] = s
  intro hgi
  have hme := List.mem_of_getElem? hgi
  have hws := sum_mem (f := wE) hme
  refine RT.ix T (j := i * 5) rfl rfl rfl (rD (i4)) (by omega) (by omega) (by omega) rfl rfl ?_
  refine RT.ldra T rfl (rD (i4)) (l := s.cells) (flat_sub (f := EnumT.cells) (z := 5) (fun _ => rfl) el i _ hgi) rfl rfl rfl rfl ?_
  skip
  refine RT.call T rfl fR_ (oenum_fn (e := s) (EnumT.In.mono (fun _ _ _ _ _ h => (rD (h))) (i5 s hme)) (o5' s hme) (by omega)) rfl rfl rfl ?_
  rintro _ _ ⟨bi, rfl, rfl⟩
  simp only [List.cons_append, List.nil_append]
  skip
  have hbl := enumB_le s
  (refine RT.call T rfl fR_ (orecord_fn (num := 5) (b := fText 1 path ++ fText 2 pack ++ fRecs 3 impB il ++ fRecs 4 (fun m => msgB m 0) msgs ++ fRecs 5 enumB (el.take i)) (by decide) (by decide) (by omega) (by simp only [List.length_append]; omega)) rfl rfl rfl ?_; rintro _ _ ⟨rfl, rfl⟩; try simp only [List.cons_append, List.nil_append])
  repeat' (first|refine gL ?_|(refine gv ?_;refine gk ?_)|fail)
  exact AtQ.loop (i + 1) ⟨rfl, rfl, rfl, trivial⟩ (fun w h => Sat.pu_in (by omega) (by rw [fRecs_snoc hgi, ← or_all (f := goodEn) _ hgi, ← List.append_assoc]; exact h.frd (Ps := [_, _]) (Qs := []) fR_)) (by omega)
 obtain rfl : i = el.length := by omega
 rw [List.take_length]
 refine AtQ.fin1 (H' := [OutP bo _ _]) Tryz.results69 rfl ⟨bo, rfl, rfl⟩ (fun w h => ?_)
 have e2 : (!(goodT path && goodT pack && (il.all fun i => goodT i.path) && (msgs.all fun m => goodMs m 0) && el.all goodEn)) = (((((false || !goodT path) || !goodT pack) || !il.all (fun i : ImpT => goodT i.path)) || !msgs.all (fun m => goodMs m 0)) || !el.all goodEn) := by
  cases goodT path <;> cases goodT pack <;> cases (il.all fun i => goodT i.path) <;> cases (msgs.all fun m => goodMs m 0) <;> cases el.all goodEn <;> rfl
 rw [e2]
 exact h.frd (Ps := [_]) (Qs := [_]) fR_
end Go.Proofs.YtclcnhfponjdaaaGreatDoor
end
section
namespace Go.Proofs.YtclcnhfponjdaaaGreatDoor
open Go.Sk
set_option maxRecDepth 100000
theorem Sat.eqH {B : World} {X Y : List HP} {w : World} (h : Sat B X w) (e : X = Y) : Sat B Y w := e ▸ h
def tblH (t : TB) : List HP := [Bag ((boxes t).map fun q => Cs q.1 q.2.1 [q.2.2]), Own (t.ra 0) (t.rc 0) 306 5 1 ((fs0 t).flatMap FP.cells), Own (t.ra 1) (t.rc 1) 292 5 5 ((fs1 t).flatMap FP.cells), Own (t.ra 2) (t.rc 2) 283 5 2 ((fs2 t).flatMap FP.cells), Own (t.ra 3) (t.rc 3) 260 5 7 ((fs3 t).flatMap FP.cells), Own (t.ra 4) (t.rc 4) 234 5 9 ((fs4 t).flatMap FP.cells), Own (t.ra 5) (t.rc 5) 213 5 5 ((fs5 t).flatMap FP.cells), Own (t.ra 6) (t.rc 6) 203 5 2 ((fs6 t).flatMap FP.cells), Own (t.ra 7) (t.rc 7) 193 5 2 ((fs7 t).flatMap FP.cells), Cs t.p 116 t.forms]
attribute [local irreducible] Cs Own Ex Pu Yld RT LJ QJ AtQ CT Rd QSp Sp FinQ Then LoopQ CutQ DT TakeQ EffQ
attribute [local irreducible] Bag
variable {B : World} {R : List HP}
set_option maxHeartbeats 16000000 in
theorem tables_fn : Sp B Tryz.prog 31 [] R [] (fun v H' => ∃ t : TB, v = ptr t.p ∧ H' = tblH t) := by
 refine Sp.body Tryz.func31 rfl Tryz.ntmps31 (by simp) ?_
 simp only [argE, List.cons_append, List.nil_append, Nat.zero_add, Nat.reduceAdd]
 repeat' (first|refine gQ ?_|(refine gb ?_;intro b)|fail)
 revert b
 intro p
 refine RT.weak (fun w h => Bag.nil_ h) ?_
 skip
 refine RT.call T rfl fR_ (signed_Span_int32_fn) rfl rfl rfl ?_
 rintro _ _ ⟨b0, b1, rfl, rfl⟩
 refine RT.weak (fun w h => Bag.add (qs := [_, _]) h) ?_
 skip
 refine RT.call T rfl fR_ (signed_Span_int32_fn) rfl rfl rfl ?_
 rintro _ _ ⟨b2, b3, rfl, rfl⟩
 refine RT.weak (fun w h => Bag.add (qs := [_, _]) h) ?_
 refine RT.bsA T (l := [.int .i32 1, .int .u8 0, .bool false, .func (.func 175) #[] #[ptr b1, ptr b0], .func (.func 179) #[] #[ptr b1], .int .i32 2, .int .u8 0, .bool false, .func (.func 175) #[] #[ptr b3, ptr b2], .func (.func 179) #[] #[ptr b3]]) rfl rfl rfl rfl rfl rfl rfl rfl (fun a7 => ?_)
 try refine gQ ?_
 refine RT.weak (fun w h => h.sel (p := Bag _) sE_) ?_
 refine RT.call T rfl fR_ (oneText_EnumValue_fn) rfl rfl rfl ?_
 rintro _ _ ⟨b4, b5, rfl, rfl⟩
 refine RT.weak (fun w h => Bag.add (qs := [_, _]) h) ?_
 skip
 refine RT.call T rfl fR_ (signed_EnumValue_int32_fn) rfl rfl rfl ?_
 rintro _ _ ⟨b6, b7, rfl, rfl⟩
 refine RT.weak (fun w h => Bag.add (qs := [_, _]) h) ?_
 refine RT.bsA T (l := [.int .i32 1, .int .u8 2, .bool false, .func (.func 182) #[] #[ptr b5, ptr b4], .func (.func 184) #[] #[ptr b5], .int .i32 2, .int .u8 0, .bool false, .func (.func 186) #[] #[ptr b7, ptr b6], .func (.func 187) #[] #[ptr b7]]) rfl rfl rfl rfl rfl rfl rfl rfl (fun a6 => ?_)
 try refine gQ ?_
 refine CT.weak (fun w h => h.sel (p := Bag _) sE_) ?_
 refine CT.drawn [] 15 mixed ?_
 (refine DT.takes (k := 9) [0, 2, 3, 4, 7, 8, 9] [1, 5, 6, 10, 11, 12, 13, 14, 15] (fun w h => Sat.ones (by (repeat (first|exact Fr.nil|(apply Fr.cons;focus ((repeat constructor);done))))) h) (by kernel_rfl) (by kernel_rfl) (by kernel_rfl) rfl (Clos.ofB (by kernel_rfl)) ?_)
 try refine gL ?_
 refine AtQ.take ?_
 (refine DT.eff 1 rfl (by kernel_rfl) ?_)
 refine RT.call T rfl fR_ (oneText_EnumDef_fn) rfl rfl rfl ?_
 rintro _ _ ⟨b8, b9, rfl, rfl⟩
 refine RT.weak (fun w h => Bag.add (qs := [_, _]) h) ?_
 (refine RT.nil ?_; refine AtQ.eff (fun w h => Sat.ones fR_ h) ?_)
 (refine DT.eff 5 rfl (by kernel_rfl) ?_)
 refine RT.call T rfl fR_ (some_EnumDef_EnumValue_fn) rfl rfl rfl ?_
 rintro _ _ ⟨b10, b11, b12, b13, rfl, rfl⟩
 refine RT.weak (fun w h => Bag.add (qs := [_, _, _, _]) h) ?_
 (refine RT.nil ?_; refine AtQ.eff (fun w h => Sat.ones fR_ h) ?_)
 (refine DT.eff 6 rfl (by kernel_rfl) ?_)
 refine RT.call T rfl fR_ (truth_EnumDef_fn) rfl rfl rfl ?_
 rintro _ _ ⟨b14, b15, rfl, rfl⟩
 refine RT.weak (fun w h => Bag.add (qs := [_, _]) h) ?_
 (refine RT.nil ?_; refine AtQ.eff (fun w h => Sat.ones fR_ h) ?_)
 (refine DT.eff 10 rfl (by kernel_rfl) ?_)
 refine RT.call T rfl fR_ (some_EnumDef_Span_fn) rfl rfl rfl ?_
 rintro _ _ ⟨b16, b17, b18, b19, rfl, rfl⟩
 refine RT.weak (fun w h => Bag.add (qs := [_, _, _, _]) h) ?_
 (refine RT.nil ?_; refine AtQ.eff (fun w h => Sat.ones fR_ h) ?_)
 (refine DT.eff 11 rfl (by kernel_rfl) ?_)
 refine RT.call T rfl fR_ (someTexts_EnumDef_fn) rfl rfl rfl ?_
 rintro _ _ ⟨b20, b21, rfl, rfl⟩
 refine RT.weak (fun w h => Bag.add (qs := [_, _]) h) ?_
 (refine RT.nil ?_; refine AtQ.eff (fun w h => Sat.ones fR_ h) ?_)
 (refine DT.eff 12 rfl (by kernel_rfl) ?_)
 refine RT.bsA T (l := [.int .i32 1, .int .u8 2, .bool false, .func (.func 188) #[] #[ptr b9, ptr b8], .func (.func 189) #[] #[ptr b9], .int .i32 2, .int .u8 2, .bool true, .func (.func 190) #[] #[ptr b13, ptr b10, ptr b11], .func (.func 194) #[] #[ptr b12, ptr b13, ptr b11], .int .i32 3, .int .u8 0, .bool false, .func (.func 197) #[] #[ptr b15, ptr b14], .func (.func 198) #[] #[ptr b15], .int .i32 4, .int .u8 2, .bool true, .func (.func 199) #[] #[ptr b19, ptr b16, ptr b17], .func (.func 201) #[] #[ptr b18, ptr b19, ptr b17], .int .i32 5, .int .u8 2, .bool true, .func (.func 203) #[] #[ptr b21, ptr b20], .func (.func 204) #[] #[ptr b21]]) rfl rfl rfl rfl rfl rfl rfl rfl (fun a5 => ?_)
 (refine RT.nil ?_; refine AtQ.eff (fun w h => Sat.ones fR_ h) ?_)
 (refine DT.takes (k := 1) [13, 14] [15] (fun w h => Sat.ones (by (repeat (first|exact Fr.nil|(apply Fr.cons;focus ((repeat constructor);done))))) h) (by kernel_rfl) (by kernel_rfl) (by kernel_rfl) rfl (Clos.ofB (by kernel_rfl)) ?_)
 try refine gL ?_
 refine AtQ.take ?_
 (refine DT.eff 15 rfl (by kernel_rfl) ?_)
 try refine gL ?_
 refine AtQ.eff' (by kernel_rfl) ?_
 (refine DT.done (by kernel_rfl) ?_)
 try refine gQ ?_
 refine RT.weak (fun w h => h.sel (p := Bag _) sE_) ?_
 refine RT.call T rfl fR_ (oneText_FieldDef_fn) rfl rfl rfl ?_
 rintro _ _ ⟨b22, b23, rfl, rfl⟩
 refine RT.weak (fun w h => Bag.add (qs := [_, _]) h) ?_
 skip
 refine RT.call T rfl fR_ (signed_FieldDef_int32_fn) rfl rfl rfl ?_
 rintro _ _ ⟨b24, b25, rfl, rfl⟩
 refine RT.weak (fun w h => Bag.add (qs := [_, _]) h) ?_
 skip
 refine RT.call T rfl fR_ (small_FieldDef_Card_fn) rfl rfl rfl ?_
 rintro _ _ ⟨b26, b27, rfl, rfl⟩
 refine RT.weak (fun w h => Bag.add (qs := [_, _]) h) ?_
 skip
 refine RT.call T rfl fR_ (small_FieldDef_Kind_fn) rfl rfl rfl ?_
 rintro _ _ ⟨b28, b29, rfl, rfl⟩
 refine RT.weak (fun w h => Bag.add (qs := [_, _]) h) ?_
 skip
 refine RT.call T rfl fR_ (oneText_FieldDef_fn) rfl rfl rfl ?_
 rintro _ _ ⟨b30, b31, rfl, rfl⟩
 refine RT.weak (fun w h => Bag.add (qs := [_, _]) h) ?_
 skip
 refine RT.call T rfl fR_ (small_FieldDef_Kind_fn) rfl rfl rfl ?_
 rintro _ _ ⟨b32, b33, rfl, rfl⟩
 refine RT.weak (fun w h => Bag.add (qs := [_, _]) h) ?_
 skip
 refine RT.call T rfl fR_ (signed_FieldDef_int_fn) rfl rfl rfl ?_
 rintro _ _ ⟨b34, b35, rfl, rfl⟩
 refine RT.weak (fun w h => Bag.add (qs := [_, _]) h) ?_
 skip
 refine RT.call T rfl fR_ (small_FieldDef_Tri_fn) rfl rfl rfl ?_
 rintro _ _ ⟨b36, b37, rfl, rfl⟩
 refine RT.weak (fun w h => Bag.add (qs := [_, _]) h) ?_
 skip
 refine RT.call T rfl fR_ (oneText_FieldDef_fn) rfl rfl rfl ?_
 rintro _ _ ⟨b38, b39, rfl, rfl⟩
 refine RT.weak (fun w h => Bag.add (qs := [_, _]) h) ?_
 refine RT.bsA T (l := [.int .i32 1, .int .u8 2, .bool false, .func (.func 205) #[] #[ptr b23, ptr b22], .func (.func 206) #[] #[ptr b23], .int .i32 2, .int .u8 0, .bool false, .func (.func 207) #[] #[ptr b25, ptr b24], .func (.func 208) #[] #[ptr b25], .int .i32 3, .int .u8 0, .bool false, .func (.func 209) #[] #[ptr b27, ptr b26], .func (.func 210) #[] #[ptr b27], .int .i32 4, .int .u8 0, .bool false, .func (.func 211) #[] #[ptr b29, ptr b28], .func (.func 212) #[] #[ptr b29], .int .i32 5, .int .u8 2, .bool false, .func (.func 205) #[] #[ptr b31, ptr b30], .func (.func 206) #[] #[ptr b31], .int .i32 6, .int .u8 0, .bool false, .func (.func 211) #[] #[ptr b33, ptr b32], .func (.func 212) #[] #[ptr b33], .int .i32 7, .int .u8 0, .bool false, .func (.func 213) #[] #[ptr b35, ptr b34], .func (.func 214) #[] #[ptr b35], .int .i32 8, .int .u8 0, .bool false, .func (.func 215) #[] #[ptr b37, ptr b36], .func (.func 216) #[] #[ptr b37], .int .i32 9, .int .u8 2, .bool false, .func (.func 205) #[] #[ptr b39, ptr b38], .func (.func 206) #[] #[ptr b39]]) rfl rfl rfl rfl rfl rfl rfl rfl (fun a4 => ?_)
 try refine gQ ?_
 refine CT.weak (fun w h => h.sel (p := Bag _) sE_) ?_
 refine CT.drawn [] 23 mixed ?_
 (refine DT.takes (k := 11) [0, 2, 3, 4, 7, 8, 9, 11, 12, 13, 15, 16, 17] [1, 5, 6, 10, 14, 18, 19, 20, 21, 22, 23] (fun w h => Sat.ones (by (repeat (first|exact Fr.nil|(apply Fr.cons;focus ((repeat constructor);done))))) h) (by kernel_rfl) (by kernel_rfl) (by kernel_rfl) rfl (Clos.ofB (by kernel_rfl)) ?_)
 try refine gL ?_
 refine AtQ.take ?_
 (refine DT.eff 1 rfl (by kernel_rfl) ?_)
 refine RT.call T rfl fR_ (oneText_MessageDef_fn) rfl rfl rfl ?_
 rintro _ _ ⟨b40, b41, rfl, rfl⟩
 refine RT.weak (fun w h => Bag.add (qs := [_, _]) h) ?_
 (refine RT.nil ?_; refine AtQ.eff (fun w h => Sat.ones fR_ h) ?_)
 (refine DT.eff 5 rfl (by kernel_rfl) ?_)
 refine RT.call T rfl fR_ (some_MessageDef_FieldDef_fn) rfl rfl rfl ?_
 rintro _ _ ⟨b42, b43, b44, b45, rfl, rfl⟩
 refine RT.weak (fun w h => Bag.add (qs := [_, _, _, _]) h) ?_
 (refine RT.nil ?_; refine AtQ.eff (fun w h => Sat.ones fR_ h) ?_)
 (refine DT.eff 6 rfl (by kernel_rfl) ?_)
 refine RT.call T rfl fR_ (someTexts_MessageDef_fn) rfl rfl rfl ?_
 rintro _ _ ⟨b46, b47, rfl, rfl⟩
 refine RT.weak (fun w h => Bag.add (qs := [_, _]) h) ?_
 (refine RT.nil ?_; refine AtQ.eff (fun w h => Sat.ones fR_ h) ?_)
 (refine DT.eff 10 rfl (by kernel_rfl) ?_)
 refine RT.call T rfl fR_ (some_MessageDef_MessageDef_fn) rfl rfl rfl ?_
 rintro _ _ ⟨b48, b49, b50, b51, rfl, rfl⟩
 refine RT.weak (fun w h => Bag.add (qs := [_, _, _, _]) h) ?_
 (refine RT.nil ?_; refine AtQ.eff (fun w h => Sat.ones fR_ h) ?_)
 (refine DT.eff 14 rfl (by kernel_rfl) ?_)
 refine RT.call T rfl fR_ (some_MessageDef_EnumDef_fn) rfl rfl rfl ?_
 rintro _ _ ⟨b52, b53, b54, b55, rfl, rfl⟩
 refine RT.weak (fun w h => Bag.add (qs := [_, _, _, _]) h) ?_
 (refine RT.nil ?_; refine AtQ.eff (fun w h => Sat.ones fR_ h) ?_)
 (refine DT.eff 18 rfl (by kernel_rfl) ?_)
 refine RT.call T rfl fR_ (some_MessageDef_Span_fn) rfl rfl rfl ?_
 rintro _ _ ⟨b56, b57, b58, b59, rfl, rfl⟩
 refine RT.weak (fun w h => Bag.add (qs := [_, _, _, _]) h) ?_
 (refine RT.nil ?_; refine AtQ.eff (fun w h => Sat.ones fR_ h) ?_)
 (refine DT.eff 19 rfl (by kernel_rfl) ?_)
 refine RT.call T rfl fR_ (someTexts_MessageDef_fn) rfl rfl rfl ?_
 rintro _ _ ⟨b60, b61, rfl, rfl⟩
 refine RT.weak (fun w h => Bag.add (qs := [_, _]) h) ?_
 (refine RT.nil ?_; refine AtQ.eff (fun w h => Sat.ones fR_ h) ?_)
 (refine DT.eff 20 rfl (by kernel_rfl) ?_)
 refine RT.bsA T (l := [.int .i32 1, .int .u8 2, .bool false, .func (.func 217) #[] #[ptr b41, ptr b40], .func (.func 218) #[] #[ptr b41], .int .i32 2, .int .u8 2, .bool true, .func (.func 219) #[] #[ptr b45, ptr b42, ptr b43], .func (.func 221) #[] #[ptr b44, ptr b45, ptr b43], .int .i32 3, .int .u8 2, .bool true, .func (.func 223) #[] #[ptr b47, ptr b46], .func (.func 224) #[] #[ptr b47], .int .i32 4, .int .u8 2, .bool true, .func (.func 225) #[] #[ptr b51, ptr b48, ptr b49], .func (.func 227) #[] #[ptr b50, ptr b51, ptr b49], .int .i32 5, .int .u8 2, .bool true, .func (.func 229) #[] #[ptr b55, ptr b52, ptr b53], .func (.func 231) #[] #[ptr b54, ptr b55, ptr b53], .int .i32 6, .int .u8 2, .bool true, .func (.func 233) #[] #[ptr b59, ptr b56, ptr b57], .func (.func 234) #[] #[ptr b58, ptr b59, ptr b57], .int .i32 7, .int .u8 2, .bool true, .func (.func 223) #[] #[ptr b61, ptr b60], .func (.func 224) #[] #[ptr b61]]) rfl rfl rfl rfl rfl rfl rfl rfl (fun a3 => ?_)
 (refine RT.nil ?_; refine AtQ.eff (fun w h => Sat.ones fR_ h) ?_)
 (refine DT.takes (k := 1) [21, 22] [23] (fun w h => Sat.ones (by (repeat (first|exact Fr.nil|(apply Fr.cons;focus ((repeat constructor);done))))) h) (by kernel_rfl) (by kernel_rfl) (by kernel_rfl) rfl (Clos.ofB (by kernel_rfl)) ?_)
 try refine gL ?_
 refine AtQ.take ?_
 (refine DT.eff 23 rfl (by kernel_rfl) ?_)
 try refine gL ?_
 refine AtQ.eff' (by kernel_rfl) ?_
 (refine DT.done (by kernel_rfl) ?_)
 try refine gQ ?_
 refine RT.weak (fun w h => h.sel (p := Bag _) sE_) ?_
 refine RT.call T rfl fR_ (oneText_Import_fn) rfl rfl rfl ?_
 rintro _ _ ⟨b62, b63, rfl, rfl⟩
 refine RT.weak (fun w h => Bag.add (qs := [_, _]) h) ?_
 skip
 refine RT.call T rfl fR_ (truth_Import_fn) rfl rfl rfl ?_
 rintro _ _ ⟨b64, b65, rfl, rfl⟩
 refine RT.weak (fun w h => Bag.add (qs := [_, _]) h) ?_
 refine RT.bsA T (l := [.int .i32 1, .int .u8 2, .bool false, .func (.func 235) #[] #[ptr b63, ptr b62], .func (.func 236) #[] #[ptr b63], .int .i32 2, .int .u8 0, .bool false, .func (.func 237) #[] #[ptr b65, ptr b64], .func (.func 238) #[] #[ptr b65]]) rfl rfl rfl rfl rfl rfl rfl rfl (fun a2 => ?_)
 try refine gQ ?_
 refine CT.weak (fun w h => h.sel (p := Bag _) sE_) ?_
 refine CT.drawn [] 18 mixed ?_
 (refine DT.takes (k := 9) [0, 3, 4, 5, 7, 8, 9, 11, 12, 13] [1, 2, 6, 10, 14, 15, 16, 17, 18] (fun w h => Sat.ones (by (repeat (first|exact Fr.nil|(apply Fr.cons;focus ((repeat constructor);done))))) h) (by kernel_rfl) (by kernel_rfl) (by kernel_rfl) rfl (Clos.ofB (by kernel_rfl)) ?_)
 try refine gL ?_
 refine AtQ.take ?_
 (refine DT.eff 1 rfl (by kernel_rfl) ?_)
 refine RT.call T rfl fR_ (oneText_File_fn) rfl rfl rfl ?_
 rintro _ _ ⟨b66, b67, rfl, rfl⟩
 refine RT.weak (fun w h => Bag.add (qs := [_, _]) h) ?_
 (refine RT.nil ?_; refine AtQ.eff (fun w h => Sat.ones fR_ h) ?_)
 (refine DT.eff 2 rfl (by kernel_rfl) ?_)
 refine RT.call T rfl fR_ (oneText_File_fn) rfl rfl rfl ?_
 rintro _ _ ⟨b68, b69, rfl, rfl⟩
 refine RT.weak (fun w h => Bag.add (qs := [_, _]) h) ?_
 (refine RT.nil ?_; refine AtQ.eff (fun w h => Sat.ones fR_ h) ?_)
 (refine DT.eff 6 rfl (by kernel_rfl) ?_)
 refine RT.call T rfl fR_ (some_File_Import_fn) rfl rfl rfl ?_
 rintro _ _ ⟨b70, b71, b72, b73, rfl, rfl⟩
 refine RT.weak (fun w h => Bag.add (qs := [_, _, _, _]) h) ?_
 (refine RT.nil ?_; refine AtQ.eff (fun w h => Sat.ones fR_ h) ?_)
 (refine DT.eff 10 rfl (by kernel_rfl) ?_)
 refine RT.call T rfl fR_ (some_File_MessageDef_fn) rfl rfl rfl ?_
 rintro _ _ ⟨b74, b75, b76, b77, rfl, rfl⟩
 refine RT.weak (fun w h => Bag.add (qs := [_, _, _, _]) h) ?_
 (refine RT.nil ?_; refine AtQ.eff (fun w h => Sat.ones fR_ h) ?_)
 (refine DT.eff 14 rfl (by kernel_rfl) ?_)
 refine RT.call T rfl fR_ (some_File_EnumDef_fn) rfl rfl rfl ?_
 rintro _ _ ⟨b78, b79, b80, b81, rfl, rfl⟩
 refine RT.weak (fun w h => Bag.add (qs := [_, _, _, _]) h) ?_
 (refine RT.nil ?_; refine AtQ.eff (fun w h => Sat.ones fR_ h) ?_)
 (refine DT.eff 15 rfl (by kernel_rfl) ?_)
 refine RT.bsA T (l := [.int .i32 1, .int .u8 2, .bool false, .func (.func 239) #[] #[ptr b67, ptr b66], .func (.func 240) #[] #[ptr b67], .int .i32 2, .int .u8 2, .bool false, .func (.func 239) #[] #[ptr b69, ptr b68], .func (.func 240) #[] #[ptr b69], .int .i32 3, .int .u8 2, .bool true, .func (.func 241) #[] #[ptr b73, ptr b70, ptr b71], .func (.func 243) #[] #[ptr b72, ptr b73, ptr b71], .int .i32 4, .int .u8 2, .bool true, .func (.func 245) #[] #[ptr b77, ptr b74, ptr b75], .func (.func 246) #[] #[ptr b76, ptr b77, ptr b75], .int .i32 5, .int .u8 2, .bool true, .func (.func 247) #[] #[ptr b81, ptr b78, ptr b79], .func (.func 248) #[] #[ptr b80, ptr b81, ptr b79]]) rfl rfl rfl rfl rfl rfl rfl rfl (fun a1 => ?_)
 (refine RT.nil ?_; refine AtQ.eff (fun w h => Sat.ones fR_ h) ?_)
 (refine DT.takes (k := 1) [16, 17] [18] (fun w h => Sat.ones (by (repeat (first|exact Fr.nil|(apply Fr.cons;focus ((repeat constructor);done))))) h) (by kernel_rfl) (by kernel_rfl) (by kernel_rfl) rfl (Clos.ofB (by kernel_rfl)) ?_)
 try refine gL ?_
 refine AtQ.take ?_
 (refine DT.eff 18 rfl (by kernel_rfl) ?_)
 try refine gL ?_
 refine AtQ.eff' (by kernel_rfl) ?_
 (refine DT.done (by kernel_rfl) ?_)
 try refine gQ ?_
 refine RT.weak (fun w h => h.sel (p := Bag _) sE_) ?_
 refine RT.call T rfl fR_ (some_set_File_fn) rfl rfl rfl ?_
 rintro _ _ ⟨b82, b83, b84, b85, rfl, rfl⟩
 refine RT.weak (fun w h => Bag.add (qs := [_, _, _, _]) h) ?_
 refine RT.bsA T (l := [.int .i32 1, .int .u8 2, .bool true, .func (.func 249) #[] #[ptr b85, ptr b82, ptr b83], .func (.func 251) #[] #[ptr b84, ptr b85, ptr b83]]) rfl rfl rfl rfl rfl rfl rfl rfl (fun a0 => ?_)
 try refine gQ ?_
 refine AtQ.fin1 (H' := tblH ⟨p, [(a0, 1), (a1, 5), (a2, 2), (a3, 7), (a4, 9), (a5, 5), (a6, 2), (a7, 2)], [b0, b1, b2, b3, b4, b5, b6, b7, b8, b9, b10, b11, b12, b13, b14, b15, b16, b17, b18, b19, b20, b21, b22, b23, b24, b25, b26, b27, b28, b29, b30, b31, b32, b33, b34, b35, b36, b37, b38, b39, b40, b41, b42, b43, b44, b45, b46, b47, b48, b49, b50, b51, b52, b53, b54, b55, b56, b57, b58, b59, b60, b61, b62, b63, b64, b65, b66, b67, b68, b69, b70, b71, b72, b73, b74, b75, b76, b77, b78, b79, b80, b81, b82, b83, b84, b85]⟩) Tryz.results31 rfl ⟨⟨p, [(a0, 1), (a1, 5), (a2, 2), (a3, 7), (a4, 9), (a5, 5), (a6, 2), (a7, 2)], [b0, b1, b2, b3, b4, b5, b6, b7, b8, b9, b10, b11, b12, b13, b14, b15, b16, b17, b18, b19, b20, b21, b22, b23, b24, b25, b26, b27, b28, b29, b30, b31, b32, b33, b34, b35, b36, b37, b38, b39, b40, b41, b42, b43, b44, b45, b46, b47, b48, b49, b50, b51, b52, b53, b54, b55, b56, b57, b58, b59, b60, b61, b62, b63, b64, b65, b66, b67, b68, b69, b70, b71, b72, b73, b74, b75, b76, b77, b78, b79, b80, b81, b82, b83, b84, b85]⟩, rfl, rfl⟩ (fun w h => ?_)
 have h2 := h.sel (p := Bag _) sE_
 exact Sat.eqH h2 (by kernel_rfl)
end Go.Proofs.YtclcnhfponjdaaaGreatDoor
end
section
namespace Go.Proofs.YtclcnhfponjdaaaGreatDoor
open Go.Sk
set_option maxRecDepth 100000
theorem selApp {p : HP} {X : List HP} : ∀ A : List HP, Sel (A ++ p :: X) p (A ++ X)
 | [] => .h
 | _ :: A => .t (selApp A)
variable {B : World} {R : List HP} {w : World} {t : TB}
theorem bagRd {ps : List HP} {b : Nat} {ty : TypeId} {v : Value} {k : Nat} (hk : ps[k]? = some (Cs b ty [v])) : Rd B (Bag ps :: R) (some ⟨b, 0, none⟩) 1 1 1 [v] :=
 ⟨rfl, Nat.le_refl _, fun w hS => ⟨fun _ => rfl, fun j u hj => by
  have h2 := Bag.at_ hk hS
  rw [adr, Option.getD_some, addr_add, cs_cell (h2.cs .h).1]
  exact hj⟩⟩
theorem facts_of (hS : Sat B (tblH t ++ R) w) : Facts B (tblH t ++ R) t where
 forms := Cs.rd (l := t.forms) (.t (.t (.t (.t (.t (.t (.t (.t (.t .h)))))))))
 r0 := Own.rd (xs := (fs0 t).flatMap FP.cells) (k := 1) (.t .h) rfl (Own.facts hS (.t .h)).2.1
 r1 := Own.rd (xs := (fs1 t).flatMap FP.cells) (k := 5) (.t (.t .h)) rfl (Own.facts hS (.t (.t .h))).2.1
 r2 := Own.rd (xs := (fs2 t).flatMap FP.cells) (k := 2) (.t (.t (.t .h))) rfl (Own.facts hS (.t (.t (.t .h)))).2.1
 r3 := Own.rd (xs := (fs3 t).flatMap FP.cells) (k := 7) (.t (.t (.t (.t .h)))) rfl (Own.facts hS (.t (.t (.t (.t .h))))).2.1
 r4 := Own.rd (xs := (fs4 t).flatMap FP.cells) (k := 9) (.t (.t (.t (.t (.t .h))))) rfl (Own.facts hS (.t (.t (.t (.t (.t .h)))))).2.1
 r5 := Own.rd (xs := (fs5 t).flatMap FP.cells) (k := 5) (.t (.t (.t (.t (.t (.t .h)))))) rfl (Own.facts hS (.t (.t (.t (.t (.t (.t .h))))))).2.1
 r6 := Own.rd (xs := (fs6 t).flatMap FP.cells) (k := 2) (.t (.t (.t (.t (.t (.t (.t .h))))))) rfl (Own.facts hS (.t (.t (.t (.t (.t (.t (.t .h)))))))).2.1
 r7 := Own.rd (xs := (fs7 t).flatMap FP.cells) (k := 2) (.t (.t (.t (.t (.t (.t (.t (.t .h)))))))) rfl (Own.facts hS (.t (.t (.t (.t (.t (.t (.t (.t .h))))))))).2.1
 box := fun k b ty v e => bagRd (k := k) (ty := ty) (by rw [List.getElem?_map, e]; rfl)
end Go.Proofs.YtclcnhfponjdaaaGreatDoor
end
section
namespace Go.Proofs.YtclcnhfponjdaaaGreatDoor
open Go.Sk
set_option maxRecDepth 100000
/-- What a set is given up by. -/
abbrev rfv : Value := .iface 148 (.agg #[])
abbrev PostG (p : Bool) : Value → List HP → Prop := fun _ H' => p = true ∧ H' = []
abbrev PPG (p : Bool) : Value → List HP → Prop := fun v H' => p = false ∧ v = rfv ∧ H' = []
theorem all_take {α : Type} {f : α → Bool} {l : List α} {i : Nat} {x : α} (hx : l[i]? = some x) (h : (l.take i).all f = true) (h2 : f x = true) : (l.take (i + 1)).all f = true := by
 rw [List.take_add_one, hx, List.all_append, h]
 simp [h2]
theorem all_not {α : Type} {f : α → Bool} {l : List α} {i : Nat} {x : α} (hx : l[i]? = some x) (h2 : f x = false) : l.all f = false := by
 rw [List.all_eq_false]
 exact ⟨x, List.mem_of_getElem? hx, by simp [h2]⟩
attribute [local irreducible] Cs Own Ex Pu Yld RT LJ QJ AtQ CT Rd QSp Sp FinQ Then LoopQ CutQ DT TakeQ EffQ
variable {B : World} {R : List HP}
theorem goods_fn (hT : Lib.Utf8Tabs 0 1 B) {a : Option Addr} {c : Nat} {l : List Txt} (hR : Rd B R a l.length c 1 (l.map vS)) (hb : ∀ t ∈ l, OkT t) (hl : l.length ≤ 140737488355328) :
  SpP B Tryz.prog 154 [.slice a l.length c] R [] (PostG (l.all goodT)) (PPG (l.all goodT)) := by
 refine SpP.body Tryz.func154 rfl Tryz.ntmps154 (by simp) ?_
 simp only [argE, List.cons_append, List.nil_append, Nat.zero_add, Nat.reduceAdd]
 try refine gL ?_
 refine CT.loop (α := Nat) (fun i => [(4, .slice a l.length c), (5, .int .i64 l.length), (6, .int .i64 i)]) (fun i => Pu (i ≤ l.length ∧ (l.take i).all goodT = true) :: R) (fun i => l.length - i) 0
  ⟨rfl, rfl, rfl, trivial⟩ (fun w h => Sat.pu_in ⟨Nat.zero_le _, rfl⟩ h) (fun i => CT.pu fun ⟨hil, hF⟩ => ?_)
 repeat' (first|refine gL ?_|(refine gv ?_;(refine⟨fun hc=>?_,fun hc=>?_⟩<;>first|(exfalso;omega)|skip))|fail)
 ·have hi' : i < l.length := by omega
  have hgi := List.getElem?_eq_getElem hi'
  have hbn := hb _ (List.getElem_mem hi')
  refine RT.ix T (j := i) rfl rfl rfl (by exact hR) (by omega) (by omega) (by omega) rfl rfl ?_
  refine RT.ldr T rfl (by exact hR) (map_get hi') rfl rfl rfl ?_
  revert hgi hbn
  generalize l[i] = t
  intro hgi hbn
  obtain ⟨v0, v1⟩ := hbn
  try refine gL ?_
  (refine RT.call T rfl fR_ (goodS_fn (l := t) hT v0 (by omega)) rfl rfl rfl ?_; rintro _ _ ⟨rfl, rfl⟩; try simp only [List.cons_append, List.nil_append])
  repeat' (first|refine gL ?_|(refine gv ?_;first|(refine⟨fun hc=>?_,fun hc=>?_⟩<;>first|(exfalso;omega)|skip)|refine gk ?_)|fail)
  ·refine RT.mkI rfl Tryz.underlying148 (by intro b h; cases h) rfl rfl ?_
   refine RT.panic rfl rfl ?_
   ((repeat refine nx ?_); exact AtQ.finP (H' := []) ⟨all_not hgi (by unfold goodT; exact decide_eq_false (by omega)), rfl, rfl⟩ dR_)
  ·exact AtQ.loop (i + 1) ⟨rfl, rfl, rfl, trivial⟩ (fun w h => Sat.pu_in ⟨by omega, all_take hgi hF (by unfold goodT; exact decide_eq_true (by omega))⟩ h) (by omega)
 ·obtain rfl : i = l.length := by omega
  rw [List.take_length] at hF
  exact AtQ.ofFinN (AtQ.fin0 Tryz.results154 (H' := []) ⟨hF, rfl⟩ (fun w h => h) _ (.inl rfl))
end Go.Proofs.YtclcnhfponjdaaaGreatDoor
end
section
namespace Go.Proofs.YtclcnhfponjdaaaGreatDoor
open Go.Sk
set_option maxRecDepth 100000
attribute [local irreducible] Cs Own Ex Pu Yld RT LJ QJ AtQ CT Rd QSp Sp FinQ Then LoopQ CutQ DT TakeQ EffQ
variable {B : World} {R : List HP}
set_option maxHeartbeats 1000000 in
theorem goodEn_fn (hT : Lib.Utf8Tabs 0 1 B) {e : EnumT} (hin : e.In (Rd B R)) (hok : e.Ok) :
  SpP B Tryz.prog 156 [.agg e.cells.toArray] R [] (PostG (goodEn e)) (PPG (goodEn e)) := by
 obtain ⟨o1, o2, o3, o4, o5, o6, o7⟩ := hok
 obtain ⟨i1, i2, i3⟩ := hin
 have hvl := o2.1
 have hgE : goodEn e = (goodT e.nm && e.names.l.all goodT && e.vals.l.all fun v => goodT v.nm) := rfl
 refine SpP.body Tryz.func156 rfl Tryz.ntmps156 (by simp) ?_
 simp only [argE, List.cons_append, List.nil_append, Nat.zero_add, Nat.reduceAdd]
 repeat' (first|refine gL ?_|(refine gb ?_;intro b)|fail)
 revert b
 intro b1
 refine RT.bs T (l := [e.nm].map vS) rfl rfl rfl rfl rfl rfl rfl (fun a9 c9 h9 => ?_)
 (refine RT.callP T rfl fR_ (goods_fn hT (l := [e.nm]) (Own.rd sE_ rfl h9) (by simpa using o1) (by simp)) rfl rfl rfl (fun v H1 hp => ?_) (fun v H1 hp => ?_))
 ·obtain ⟨h1, rfl, rfl⟩ := hp
  ((repeat refine nx ?_); exact AtQ.finP (H' := []) ⟨by rw [hgE]; simp at h1; rw [h1]; rfl, rfl, rfl⟩ dR_)
 obtain ⟨h1, rfl⟩ := hp
 refine RT.weak (fun w h => h.tail) ?_
 try refine gL ?_
 (refine RT.callP T rfl fR_ (goods_fn hT (l := e.names.l) (rD (i3)) o7 o6.1) rfl rfl rfl (fun v H1 hp => ?_) (fun v H1 hp => ?_))
 ·obtain ⟨h2, rfl, rfl⟩ := hp
  ((repeat refine nx ?_); exact AtQ.finP (H' := []) ⟨by rw [hgE, h2]; simp, rfl, rfl⟩ dR_)
 obtain ⟨h2, rfl⟩ := hp
 simp only [List.nil_append]
 try refine gL ?_
 refine CT.loop (α := Nat) (fun i => [(1, .pointer (some ⟨b1, 0, none⟩)), (12, e.vals.v), (13, .int .i64 e.vals.l.length), (14, .int .i64 i)]) (fun i => Pu (i ≤ e.vals.l.length ∧ ((e.vals.l.take i).all fun v => goodT v.nm) = true) :: Cs b1 85 e.cells :: R) (fun i => e.vals.l.length - i) 0
  ⟨rfl, rfl, rfl, rfl, trivial⟩ (fun w h => Sat.pu_in ⟨Nat.zero_le _, rfl⟩ h) (fun i => CT.pu fun ⟨hil, hF⟩ => ?_)
 repeat' (first|refine gL ?_|(refine gv ?_;(refine⟨fun hc=>?_,fun hc=>?_⟩<;>first|(exfalso;omega)|skip))|fail)
 ·have hi' : i < e.vals.l.length := by omega
  have hgi := List.getElem?_eq_getElem hi'
  have hbn := (o3 _ (List.getElem_mem hi')).1
  revert hgi hbn
  generalize e.vals.l[i] = v
  intro hgi hbn
  refine RT.ix T (j := i * 2) rfl rfl rfl (rD (i1)) (by omega) (by omega) (by omega) rfl rfl ?_
  refine RT.ldra T rfl (rD (i1)) (l := v.cells) (flat_sub (f := EValT.cells) (z := 2) (fun _ => rfl) e.vals.l i _ hgi) rfl rfl rfl rfl ?_
  repeat' (first|refine gM ?_|(refine gb ?_;intro b)|fail)
  revert b
  intro b3
  skip
  refine RT.bs T (l := [v.nm].map vS) rfl rfl rfl rfl rfl rfl rfl (fun a8 c8 h8 => ?_)
  (refine RT.callP T rfl fR_ (goods_fn hT (l := [v.nm]) (Own.rd sE_ rfl h8) (by simpa using hbn) (by simp)) rfl rfl rfl (fun v H1 hp => ?_) (fun v H1 hp => ?_))
  ·obtain ⟨h3, rfl, rfl⟩ := hp
   simp only [List.all_cons, List.all_nil, Bool.and_true] at h3
   ((repeat refine nx ?_); exact AtQ.finP (H' := []) ⟨by rw [hgE, all_not hgi h3]; simp, rfl, rfl⟩ dR_)
  obtain ⟨h3, rfl⟩ := hp
  simp only [List.all_cons, List.all_nil, Bool.and_true] at h3
  simp only [List.nil_append]
  repeat' (first|refine gL ?_|(refine gv ?_;refine gk ?_)|fail)
  exact AtQ.loop (i + 1) ⟨rfl, rfl, rfl, rfl, trivial⟩ (fun w h => Sat.pu_in ⟨by omega, all_take hgi hF h3⟩ h.tail.tail) (by omega)
 ·obtain rfl : i = e.vals.l.length := by omega
  rw [List.take_length] at hF
  exact AtQ.ofFinN (AtQ.fin0 Tryz.results156 (H' := []) ⟨by rw [hgE, hF, h2]; simp at h1; rw [h1]; rfl, rfl⟩ (fun w h => h.tail) _ (.inl rfl))
end Go.Proofs.YtclcnhfponjdaaaGreatDoor
end
section
namespace Go.Proofs.YtclcnhfponjdaaaGreatDoor
open Go.Sk
set_option maxRecDepth 100000
attribute [local irreducible] Cs Own Ex Pu Yld RT LJ QJ AtQ CT Rd QSp Sp FinQ Then LoopQ CutQ DT TakeQ EffQ
variable {B : World}
set_option maxHeartbeats 4000000 in
theorem goodMs_fn (hT : Lib.Utf8Tabs 0 1 B) (n : Nat) : ∀ {R : List HP} {m : MsgT} {d : Nat}, 100 ≤ n + d → d ≤ 100 → m.In (Rd B R) → m.Ok →
  SpP B Tryz.prog 155 [.agg m.cells.toArray, .int .i64 d] R [] (PostG (goodMs m d)) (PPG (goodMs m d)) := by
 induction n with
 | zero =>
  intro R m d hd hd1 hin hok
  obtain rfl : d = 100 := by omega
  obtain ⟨nm, fields, oneofs, ma, mc, msgs, enums, res, names⟩ := m
  refine SpP.body Tryz.func155 rfl Tryz.ntmps155 (by simp) ?_
  simp only [argE, List.cons_append, List.nil_append, Nat.zero_add, Nat.reduceAdd]
  repeat' (first|refine gL ?_|(refine gv ?_;(refine⟨fun hc=>?_,fun hc=>?_⟩<;>first|(exfalso;omega)|skip))|(refine gb ?_;intro b)|fail)
  refine RT.mkI rfl Tryz.underlying148 (by intro b h; cases h) rfl rfl ?_
  refine RT.panic rfl rfl ?_
  ((repeat refine nx ?_); exact AtQ.finP (H' := []) ⟨by unfold goodMs; simp, rfl, rfl⟩ dR_)
 | succ n ih =>
  intro R m d hd hd1 hin hok
  by_cases hd2 : d = 100
  ·subst hd2
   obtain ⟨nm, fields, oneofs, ma, mc, msgs, enums, res, names⟩ := m
   refine SpP.body Tryz.func155 rfl Tryz.ntmps155 (by simp) ?_
   simp only [argE, List.cons_append, List.nil_append, Nat.zero_add, Nat.reduceAdd]
   repeat' (first|refine gL ?_|(refine gv ?_;(refine⟨fun hc=>?_,fun hc=>?_⟩<;>first|(exfalso;omega)|skip))|(refine gb ?_;intro b)|fail)
   refine RT.mkI rfl Tryz.underlying148 (by intro b h; cases h) rfl rfl ?_
   refine RT.panic rfl rfl ?_
   ((repeat refine nx ?_); exact AtQ.finP (H' := []) ⟨by unfold goodMs; simp, rfl, rfl⟩ dR_)
  obtain ⟨nm, fields, oneofs, ma, mc, msgs, enums, res, names⟩ := m
  unfold MsgT.Ok at hok
  unfold MsgT.In at hin
  obtain ⟨o1, ⟨o2, o2'⟩, ⟨o3, o3'⟩, o4, ⟨o5, o5'⟩, ⟨o6, o6'⟩, ⟨o7, o7'⟩, o8⟩ := hok
  obtain ⟨i1, i2, i3, i4, i5, i6, i7, i8⟩ := hin
  have l1 := o2.1
  have l2 := o4.1
  have l3 := o5.1
  dsimp only at l2
  have hgM : goodMs (.mk nm fields oneofs ma mc msgs enums res names) d = (decide (d ≤ 99) && goodT nm && oneofs.l.all goodT && names.l.all goodT && fields.l.all goodFd && goodMsL msgs (d + 1) && enums.l.all goodEn) := by unfold goodMs; rfl
  rw [decide_eq_true (by omega : d ≤ 99), Bool.true_and] at hgM
  have hgL : goodMsL msgs (d + 1) = msgs.all fun m => goodMs m (d + 1) := by
   clear hgM l1 l2 l3 o1 o2 o2' o3 o3' o4 o5 o5' o6 o6' o7 o7' o8 i1 i2 i3 i4 i5 i6 i7 i8
   induction msgs with
   | nil => unfold goodMsL; rfl
   | cons x l ihl => unfold goodMsL; rw [ihl]; rfl
  rw [hgL] at hgM
  generalize hgG : goodMs (.mk nm fields oneofs ma mc msgs enums res names) d = G at hgM ⊢
  dsimp only [MsgT.cells, MsgT.nm, MsgT.fields, MsgT.oneofs, MsgT.ma, MsgT.mc, MsgT.msgs, MsgT.enums, MsgT.res, MsgT.names, Rw.v]
  refine SpP.body Tryz.func155 rfl Tryz.ntmps155 (by simp) ?_
  simp only [argE, List.cons_append, List.nil_append, Nat.zero_add, Nat.reduceAdd]
  repeat' (first|refine gL ?_|(refine gv ?_;(refine⟨fun hc=>?_,fun hc=>?_⟩<;>first|(exfalso;omega)|skip))|(refine gb ?_;intro b)|fail)
  revert b
  intro b2
  refine RT.bs T (l := [nm].map vS) rfl rfl rfl rfl rfl rfl rfl (fun a9 c9 h9 => ?_)
  (refine RT.callP T rfl fR_ (goods_fn hT (l := [nm]) (Own.rd sE_ rfl h9) (by simpa using o1) (by simp)) rfl rfl rfl (fun v H1 hp => ?_) (fun v H1 hp => ?_))
  ·obtain ⟨h1, rfl, rfl⟩ := hp
   simp only [List.all_cons, List.all_nil, Bool.and_true] at h1
   ((repeat refine nx ?_); exact AtQ.finP (H' := []) ⟨by rw [hgM, h1]; simp, rfl, rfl⟩ dR_)
  obtain ⟨h1, rfl⟩ := hp
  simp only [List.all_cons, List.all_nil, Bool.and_true] at h1
  refine RT.weak (fun w h => h.tail) ?_
  try refine gL ?_
  (refine RT.callP T rfl fR_ (goods_fn hT (l := oneofs.l) (rD (i2)) o3' o3.1) rfl rfl rfl (fun v H1 hp => ?_) (fun v H1 hp => ?_))
  ·obtain ⟨h2, rfl, rfl⟩ := hp
   ((repeat refine nx ?_); exact AtQ.finP (H' := []) ⟨by rw [hgM, h2]; simp, rfl, rfl⟩ dR_)
  obtain ⟨h2, rfl⟩ := hp
  simp only [List.nil_append]
  try refine gL ?_
  (refine RT.callP T rfl fR_ (goods_fn hT (l := names.l) (rD (i7)) o7' o7.1) rfl rfl rfl (fun v H1 hp => ?_) (fun v H1 hp => ?_))
  ·obtain ⟨h3, rfl, rfl⟩ := hp
   ((repeat refine nx ?_); exact AtQ.finP (H' := []) ⟨by rw [hgM, h3]; simp, rfl, rfl⟩ dR_)
  obtain ⟨h3, rfl⟩ := hp
  simp only [List.nil_append]
  try refine gL ?_
  refine CT.loop (α := Nat) (fun i => [(1, .int .i64 d), (2, .pointer (some ⟨b2, 0, none⟩)), (25, .slice fields.a fields.l.length fields.c), (26, .int .i64 fields.l.length), (27, .int .i64 i)]) (fun i => Pu (i ≤ fields.l.length ∧ (fields.l.take i).all goodFd = true) :: Cs b2 187 [vS nm, .slice fields.a fields.l.length fields.c, .slice oneofs.a oneofs.l.length oneofs.c, .slice ma msgs.length mc, .slice enums.a enums.l.length enums.c, .slice res.a res.l.length res.c, .slice names.a names.l.length names.c] :: R) (fun i => fields.l.length - i) 0
   ⟨rfl, rfl, rfl, rfl, rfl, trivial⟩ (fun w h => Sat.pu_in ⟨Nat.zero_le _, rfl⟩ h) (fun i => CT.pu fun ⟨hil, hF⟩ => ?_)
  repeat' (first|refine gL ?_|(refine gv ?_;(refine⟨fun hc=>?_,fun hc=>?_⟩<;>first|(exfalso;omega)|skip))|fail)
  ·have hi' : i < fields.l.length := by omega
   have hgi := List.getElem?_eq_getElem hi'
   have hbn := o2' _ (List.getElem_mem hi')
   revert hgi hbn
   generalize fields.l[i] = v
   intro hgi hbn
   obtain ⟨f1, _, _, _, f2, _, _, _, f3⟩ := hbn
   refine RT.ix T (j := i * 9) rfl rfl rfl (rD (i1)) (by omega) (by omega) (by omega) rfl rfl ?_
   refine RT.ldra T rfl (rD (i1)) (l := v.cells) (flat_sub (f := FieldT.cells) (z := 9) (fun _ => rfl) fields.l i _ hgi) rfl rfl rfl rfl ?_
   repeat' (first|refine gM ?_|(refine gb ?_;intro b)|fail)
   revert b
   intro b3
   skip
   refine RT.bs T (l := [v.nm, v.ty, v.js].map vS) rfl rfl rfl rfl rfl rfl rfl (fun a8 c8 h8 => ?_)
   (refine RT.callP T rfl fR_ (goods_fn hT (l := [v.nm, v.ty, v.js]) (Own.rd sE_ rfl h8) (by simpa using ⟨f1, f2, f3⟩) (by simp)) rfl rfl rfl (fun v H1 hp => ?_) (fun v H1 hp => ?_))
   ·obtain ⟨h4, rfl, rfl⟩ := hp
    ((repeat refine nx ?_); exact AtQ.finP (H' := []) ⟨by rw [hgM, all_not hgi (by unfold goodFd; simpa [Bool.and_assoc] using h4)]; simp, rfl, rfl⟩ dR_)
   obtain ⟨h4, rfl⟩ := hp
   simp only [List.nil_append]
   repeat' (first|refine gL ?_|(refine gv ?_;refine gk ?_)|fail)
   exact AtQ.loop (i + 1) ⟨rfl, rfl, rfl, rfl, rfl, trivial⟩ (fun w h => Sat.pu_in ⟨by omega, all_take hgi hF (by unfold goodFd; simpa [Bool.and_assoc] using h4)⟩ h.tail.tail) (by omega)
  obtain rfl : i = fields.l.length := by omega
  rw [List.take_length] at hF
  refine CT.loop (α := Nat) (fun i => [(1, .int .i64 d), (2, .pointer (some ⟨b2, 0, none⟩)), (41, .slice ma msgs.length mc), (42, .int .i64 msgs.length), (43, .int .i64 i)]) (fun i => Pu (i ≤ msgs.length ∧ ((msgs.take i).all fun m => goodMs m (d + 1)) = true) :: Cs b2 187 [vS nm, .slice fields.a fields.l.length fields.c, .slice oneofs.a oneofs.l.length oneofs.c, .slice ma msgs.length mc, .slice enums.a enums.l.length enums.c, .slice res.a res.l.length res.c, .slice names.a names.l.length names.c] :: R) (fun i => msgs.length - i) 0
   ⟨rfl, rfl, rfl, rfl, rfl, trivial⟩ (fun w h => Sat.pu_in ⟨Nat.zero_le _, rfl⟩ h) (fun i => CT.pu fun ⟨hil, hFm⟩ => ?_)
  repeat' (first|refine gL ?_|(refine gv ?_;(refine⟨fun hc=>?_,fun hc=>?_⟩<;>first|(exfalso;omega)|skip))|fail)
  ·have hi' : i < msgs.length := by omega
   have hgi := List.getElem?_eq_getElem hi'
   revert hgi
   generalize msgs[i] = v
   intro hgi
   have hme := List.mem_of_getElem? hgi
   refine RT.ix T (j := i * 7) rfl rfl rfl (rD (i3)) (by omega) (by omega) (by omega) rfl rfl ?_
   refine RT.ldra T rfl (rD (i3)) (l := v.cells) (flat_sub (f := MsgT.cells) (z := 7) (fun _ => rfl) msgs i _ hgi) rfl rfl rfl rfl ?_
   repeat' (first|refine gM ?_|(refine gv ?_;refine gk ?_)|(refine gb ?_;intro b)|fail)
   revert b
   intro b3
   skip
   (refine RT.callP T rfl fR_ (ih (m := v) (d := d + 1) (by omega) (by omega) (MsgT.In.mono (fun _ _ _ _ _ h => (rD (h))) (MsgT.inL_mem i8 hme)) (MsgT.okL_mem o8 hme)) rfl rfl rfl (fun v H1 hp => ?_) (fun v H1 hp => ?_))
   ·obtain ⟨h4, rfl, rfl⟩ := hp
    ((repeat refine nx ?_); exact AtQ.finP (H' := []) ⟨by rw [hgM, all_not (f := fun m => goodMs m (d + 1)) hgi h4]; simp, rfl, rfl⟩ dR_)
   obtain ⟨h4, rfl⟩ := hp
   simp only [List.nil_append]
   repeat' (first|refine gL ?_|(refine gv ?_;refine gk ?_)|fail)
   exact AtQ.loop (i + 1) ⟨rfl, rfl, rfl, rfl, rfl, trivial⟩ (fun w h => Sat.pu_in ⟨by omega, all_take (f := fun m => goodMs m (d + 1)) hgi hFm h4⟩ h.tail) (by omega)
  obtain rfl : i = msgs.length := by omega
  rw [List.take_length] at hFm
  refine CT.loop (α := Nat) (fun i => [(1, .int .i64 d), (2, .pointer (some ⟨b2, 0, none⟩)), (53, .slice enums.a enums.l.length enums.c), (54, .int .i64 enums.l.length), (55, .int .i64 i)]) (fun i => Pu (i ≤ enums.l.length ∧ (enums.l.take i).all goodEn = true) :: Cs b2 187 [vS nm, .slice fields.a fields.l.length fields.c, .slice oneofs.a oneofs.l.length oneofs.c, .slice ma msgs.length mc, .slice enums.a enums.l.length enums.c, .slice res.a res.l.length res.c, .slice names.a names.l.length names.c] :: R) (fun i => enums.l.length - i) 0
   ⟨rfl, rfl, rfl, rfl, rfl, trivial⟩ (fun w h => Sat.pu_in ⟨Nat.zero_le _, rfl⟩ h) (fun i => CT.pu fun ⟨hil, hFe⟩ => ?_)
  repeat' (first|refine gL ?_|(refine gv ?_;(refine⟨fun hc=>?_,fun hc=>?_⟩<;>first|(exfalso;omega)|skip))|fail)
  ·have hi' : i < enums.l.length := by omega
   have hgi := List.getElem?_eq_getElem hi'
   revert hgi
   generalize enums.l[i] = v
   intro hgi
   have hme := List.mem_of_getElem? hgi
   refine RT.ix T (j := i * 5) rfl rfl rfl (rD (i4)) (by omega) (by omega) (by omega) rfl rfl ?_
   refine RT.ldra T rfl (rD (i4)) (l := v.cells) (flat_sub (f := EnumT.cells) (z := 5) (fun _ => rfl) enums.l i _ hgi) rfl rfl rfl rfl ?_
   repeat' (first|refine gM ?_|(refine gb ?_;intro b)|fail)
   revert b
   intro b3
   skip
   (refine RT.callP T rfl fR_ (goodEn_fn hT (e := v) (EnumT.In.mono (fun _ _ _ _ _ h => (rD (h))) (i5 v hme)) (o5' v hme)) rfl rfl rfl (fun v H1 hp => ?_) (fun v H1 hp => ?_))
   ·obtain ⟨h4, rfl, rfl⟩ := hp
    ((repeat refine nx ?_); exact AtQ.finP (H' := []) ⟨by rw [hgM, all_not hgi h4]; simp, rfl, rfl⟩ dR_)
   obtain ⟨h4, rfl⟩ := hp
   simp only [List.nil_append]
   repeat' (first|refine gL ?_|(refine gv ?_;refine gk ?_)|fail)
   exact AtQ.loop (i + 1) ⟨rfl, rfl, rfl, rfl, rfl, trivial⟩ (fun w h => Sat.pu_in ⟨by omega, all_take hgi hFe h4⟩ h.tail) (by omega)
  obtain rfl : i = enums.l.length := by omega
  rw [List.take_length] at hFe
  exact AtQ.ofFinN (AtQ.fin0 Tryz.results155 (H' := []) ⟨by rw [hgM, h1, h2, h3, hF, hFm, hFe]; rfl, rfl⟩ (fun w h => h.tail) _ (.inl rfl))
end Go.Proofs.YtclcnhfponjdaaaGreatDoor
end
section
namespace Go.Proofs.YtclcnhfponjdaaaGreatDoor
open Go.Sk
set_option maxRecDepth 100000
attribute [local irreducible] Cs Own Ex Pu Yld RT LJ QJ AtQ CT Rd QSp Sp FinQ Then LoopQ CutQ DT TakeQ EffQ
variable {B : World} {R : List HP}
set_option maxHeartbeats 4000000 in
theorem goodFl_fn (hT : Lib.Utf8Tabs 0 1 B) {f : FileT} (hin : f.In (Rd B R)) (hok : f.Ok) :
  SpP B Tryz.prog 60 [.agg f.cells.toArray] R [] (PostG (goodFl f)) (PPG (goodFl f)) := by
 have hi3 := hin.imps
 have hi4 := hin.msgs
 have hi5 := hin.enums
 have l1 := hok.imps.1.1
 have l2 := hok.msgs.1.1
 have l3 := hok.enums.1.1
 dsimp only at l2
 have hgM : goodFl f = (goodT f.path && goodT f.pack && (f.imps.l.all fun i => goodT i.path) && goodMsL f.msgs 0 && f.enums.l.all goodEn) := rfl
 have hgL : ∀ l : List MsgT, goodMsL l 0 = l.all fun m => goodMs m 0 := fun l => by
  induction l with
  | nil => unfold goodMsL; rfl
  | cons x l ihl => unfold goodMsL; rw [ihl]; rfl
 rw [hgL] at hgM
 generalize hG : goodFl f = G at hgM ⊢
 refine SpP.body Tryz.func60 rfl Tryz.ntmps60 (by simp) ?_
 simp only [argE, List.cons_append, List.nil_append, Nat.zero_add, Nat.reduceAdd]
 repeat' (first|refine gL ?_|(refine gb ?_;intro b)|fail)
 revert b
 intro b1
 refine RT.bs T (l := [f.path, f.pack].map vS) rfl rfl rfl rfl rfl rfl rfl (fun a9 c9 h9 => ?_)
 (refine RT.callP T rfl fR_ (goods_fn hT (l := [f.path, f.pack]) (Own.rd sE_ rfl h9) (by simpa using ⟨hok.path, hok.pack⟩) (by simp)) rfl rfl rfl (fun v H1 hp => ?_) (fun v H1 hp => ?_))
 ·obtain ⟨h1, rfl, rfl⟩ := hp
  simp only [List.all_cons, List.all_nil, Bool.and_true] at h1
  ((repeat refine nx ?_); exact AtQ.finP (H' := []) ⟨by rw [hgM, h1]; simp, rfl, rfl⟩ dR_)
 obtain ⟨h1, rfl⟩ := hp
 simp only [List.all_cons, List.all_nil, Bool.and_true] at h1
 refine RT.weak (fun w h => h.tail) ?_
 try refine gL ?_
 refine CT.loop (α := Nat) (fun i => [(1, .pointer (some ⟨b1, 0, none⟩)), (15, f.imps.v), (16, .int .i64 f.imps.l.length), (17, .int .i64 i)]) (fun i => Pu (i ≤ f.imps.l.length ∧ ((f.imps.l.take i).all fun i => goodT i.path) = true) :: Cs b1 75 f.cells :: R) (fun i => f.imps.l.length - i) 0
  ⟨rfl, rfl, rfl, rfl, trivial⟩ (fun w h => Sat.pu_in ⟨Nat.zero_le _, rfl⟩ h) (fun i => CT.pu fun ⟨hil, hF⟩ => ?_)
 repeat' (first|refine gL ?_|(refine gv ?_;(refine⟨fun hc=>?_,fun hc=>?_⟩<;>first|(exfalso;omega)|skip))|fail)
 ·have hi' : i < f.imps.l.length := by omega
  have hgi := List.getElem?_eq_getElem hi'
  have hbn := hok.imps.2 _ (List.getElem_mem hi')
  revert hgi hbn
  generalize f.imps.l[i] = v
  intro hgi hbn
  refine RT.ix T (j := i * 2) rfl rfl rfl (rD (hi3)) (by omega) (by omega) (by omega) rfl rfl ?_
  refine RT.ldra T rfl (rD (hi3)) (l := v.cells) (flat_sub (f := ImpT.cells) (z := 2) (fun _ => rfl) f.imps.l i _ hgi) rfl rfl rfl rfl ?_
  repeat' (first|refine gM ?_|(refine gb ?_;intro b)|fail)
  revert b
  intro b3
  skip
  refine RT.bs T (l := [v.path].map vS) rfl rfl rfl rfl rfl rfl rfl (fun a8 c8 h8 => ?_)
  (refine RT.callP T rfl fR_ (goods_fn hT (l := [v.path]) (Own.rd sE_ rfl h8) (by simpa using (show OkT v.path from hbn)) (by simp)) rfl rfl rfl (fun v H1 hp => ?_) (fun v H1 hp => ?_))
  ·obtain ⟨h3, rfl, rfl⟩ := hp
   simp only [List.all_cons, List.all_nil, Bool.and_true] at h3
   ((repeat refine nx ?_); exact AtQ.finP (H' := []) ⟨by rw [hgM, all_not (f := fun i : ImpT => goodT i.path) hgi h3]; simp, rfl, rfl⟩ dR_)
  obtain ⟨h3, rfl⟩ := hp
  simp only [List.all_cons, List.all_nil, Bool.and_true] at h3
  simp only [List.nil_append]
  repeat' (first|refine gL ?_|(refine gv ?_;refine gk ?_)|fail)
  exact AtQ.loop (i + 1) ⟨rfl, rfl, rfl, rfl, trivial⟩ (fun w h => Sat.pu_in ⟨by omega, all_take (f := fun i : ImpT => goodT i.path) hgi hF h3⟩ h.tail.tail) (by omega)
 obtain rfl : i = f.imps.l.length := by omega
 rw [List.take_length] at hF
 refine CT.loop (α := Nat) (fun i => [(1, .pointer (some ⟨b1, 0, none⟩)), (27, .slice f.ma f.msgs.length f.mc), (28, .int .i64 f.msgs.length), (29, .int .i64 i)]) (fun i => Pu (i ≤ f.msgs.length ∧ ((f.msgs.take i).all fun m => goodMs m 0) = true) :: Cs b1 75 f.cells :: R) (fun i => f.msgs.length - i) 0
  ⟨rfl, rfl, rfl, rfl, trivial⟩ (fun w h => Sat.pu_in ⟨Nat.zero_le _, rfl⟩ h) (fun i => CT.pu fun ⟨hil, hFm⟩ => ?_)
 repeat' (first|refine gL ?_|(refine gv ?_;(refine⟨fun hc=>?_,fun hc=>?_⟩<;>first|(exfalso;omega)|skip))|fail)
 ·have hi' : i < f.msgs.length := by omega
  have hgi := List.getElem?_eq_getElem hi'
  revert hgi
  generalize f.msgs[i] = v
  intro hgi
  have hme := List.mem_of_getElem? hgi
  refine RT.ix T (j := i * 7) rfl rfl rfl (rD (hi4)) (by omega) (by omega) (by omega) rfl rfl ?_
  refine RT.ldra T rfl (rD (hi4)) (l := v.cells) (flat_sub (f := MsgT.cells) (z := 7) (fun _ => rfl) f.msgs i _ hgi) rfl rfl rfl rfl ?_
  repeat' (first|refine gM ?_|(refine gb ?_;intro b)|fail)
  revert b
  intro b3
  skip
  (refine RT.callP T rfl fR_ (goodMs_fn hT 100 (m := v) (d := 0) (by omega) (by omega) (MsgT.In.mono (fun _ _ _ _ _ h => (rD (h))) (hin.sub v hme)) (hok.msgs.2 v hme)) rfl rfl rfl (fun v H1 hp => ?_) (fun v H1 hp => ?_))
  ·obtain ⟨h4, rfl, rfl⟩ := hp
   ((repeat refine nx ?_); exact AtQ.finP (H' := []) ⟨by rw [hgM, all_not (f := fun m => goodMs m 0) hgi h4]; simp, rfl, rfl⟩ dR_)
  obtain ⟨h4, rfl⟩ := hp
  simp only [List.nil_append]
  repeat' (first|refine gL ?_|(refine gv ?_;refine gk ?_)|fail)
  exact AtQ.loop (i + 1) ⟨rfl, rfl, rfl, rfl, trivial⟩ (fun w h => Sat.pu_in ⟨by omega, all_take (f := fun m => goodMs m 0) hgi hFm h4⟩ h.tail) (by omega)
 obtain rfl : i = f.msgs.length := by omega
 rw [List.take_length] at hFm
 refine CT.loop (α := Nat) (fun i => [(1, .pointer (some ⟨b1, 0, none⟩)), (37, f.enums.v), (38, .int .i64 f.enums.l.length), (39, .int .i64 i)]) (fun i => Pu (i ≤ f.enums.l.length ∧ (f.enums.l.take i).all goodEn = true) :: Cs b1 75 f.cells :: R) (fun i => f.enums.l.length - i) 0
  ⟨rfl, rfl, rfl, rfl, trivial⟩ (fun w h => Sat.pu_in ⟨Nat.zero_le _, rfl⟩ h) (fun i => CT.pu fun ⟨hil, hFe⟩ => ?_)
 repeat' (first|refine gL ?_|(refine gv ?_;(refine⟨fun hc=>?_,fun hc=>?_⟩<;>first|(exfalso;omega)|skip))|fail)
 ·have hi' : i < f.enums.l.length := by omega
  have hgi := List.getElem?_eq_getElem hi'
  revert hgi
  generalize f.enums.l[i] = v
  intro hgi
  have hme := List.mem_of_getElem? hgi
  refine RT.ix T (j := i * 5) rfl rfl rfl (rD (hi5)) (by omega) (by omega) (by omega) rfl rfl ?_
  refine RT.ldra T rfl (rD (hi5)) (l := v.cells) (flat_sub (f := EnumT.cells) (z := 5) (fun _ => rfl) f.enums.l i _ hgi) rfl rfl rfl rfl ?_
  repeat' (first|refine gM ?_|(refine gb ?_;intro b)|fail)
  revert b
  intro b3
  skip
  (refine RT.callP T rfl fR_ (goodEn_fn hT (e := v) (EnumT.In.mono (fun _ _ _ _ _ h => (rD (h))) (hin.esub v hme)) (hok.enums.2 v hme)) rfl rfl rfl (fun v H1 hp => ?_) (fun v H1 hp => ?_))
  ·obtain ⟨h4, rfl, rfl⟩ := hp
   ((repeat refine nx ?_); exact AtQ.finP (H' := []) ⟨by rw [hgM, all_not hgi h4]; simp, rfl, rfl⟩ dR_)
  obtain ⟨h4, rfl⟩ := hp
  simp only [List.nil_append]
  repeat' (first|refine gL ?_|(refine gv ?_;refine gk ?_)|fail)
  exact AtQ.loop (i + 1) ⟨rfl, rfl, rfl, rfl, trivial⟩ (fun w h => Sat.pu_in ⟨by omega, all_take hgi hFe h4⟩ h.tail) (by omega)
 obtain rfl : i = f.enums.l.length := by omega
 rw [List.take_length] at hFe
 exact AtQ.ofFinN (AtQ.fin0 Tryz.results60 (H' := []) ⟨by rw [hgM, h1, hF, hFm, hFe]; rfl, rfl⟩ (fun w h => h.tail) _ (.inl rfl))
end Go.Proofs.YtclcnhfponjdaaaGreatDoor
end
