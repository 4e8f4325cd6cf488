/- Merged: E6, E7, E8, E9, E10, G50, G51, G52, G53, E11, J50, Q3, Y10, Q4, Q1, Q2, V9, R10, V10, R11, V11, V15, V16, R15, R16, P62. -/
import Derived.Test.YtclcnhfponjdaaaGreatDoorWC
import Derived.Test.YtclcnhfponjdaaaGreatDoorWA
import Derived.Test.YtclcnhfponjdaaaGreatDoorSkA
import Derived.Test.YtclcnhfponjdaaaGreatDoorSkB
import Derived.Test.YtclcnhfponjdaaaGreatDoorWB
set_option linter.unusedVariables false
set_option linter.unusedSimpArgs false
section
namespace Go.Proofs.YtclcnhfponjdaaaGreatDoor
open Go.Sk
set_option maxRecDepth 100000
theorem flat_snoc {α : Type} {f : α → Txt} {l : List α} {i : Nat} {x : α} (h : l[i]? = some x) : (l.take (i + 1)).flatMap f = (l.take i).flatMap f ++ f x := by
 rw [List.take_add_one, h, List.flatMap_append]
 simp
theorem fp_len (q : FP × Txt) : q.1.cells.length = 5 := rfl
attribute [local irreducible] Cs Own Ex Pu Yld RT LJ QJ AtQ CT Rd QSp Sp FinQ Then LoopQ CutQ DT TakeQ EffQ
attribute [local irreducible] Wr StAt
variable {B : World} {R : List HP} {pe pw k : Nat} {ad : Addr} {S : WS}
set_option maxHeartbeats 1000000 in
theorem sets_all {fs : List (FP × Txt)} {a : Option Addr} {c : Nat} (hR : Rd B R a fs.length c 5 (fs.flatMap fun q => q.1.cells)) (hn : fs.length ≤ 100)
  (hput : ∀ q ∈ fs, (∃ bb, al T.funs q.1.fp = some bb) ∧ ∀ (H : List HP) (S : WS), Wok k S → Sp B Tryz.prog q.1.fp ([ptr pe, .pointer (some ad)] ++ q.1.cp) (H ++ R) [Wr pw S] (fun u H' => u = .tuple #[] ∧ ∃ S', Wrt k S q.2 S' ∧ H' = [Wr pw S'])) (hS : Wok k S) :
  Sp B Tryz.prog 62 [.slice a fs.length c, ptr pe, .pointer (some ad)] R [Wr pw S] (fun u H' => u = .tuple #[] ∧ ∃ S', Wrt k S (fs.flatMap (·.2)) S' ∧ H' = [Wr pw S']) := by
 refine Sp.body Tryz.func62 rfl Tryz.ntmps62 (by simp) ?_
 simp only [argE, List.cons_append, List.nil_append, Nat.zero_add, Nat.reduceAdd]
 try refine gL ?_
 refine CT.loop (α := Nat × WS) (fun s => [(0, .slice a fs.length c), (1, ptr pe), (2, .pointer (some ad)), (8, .slice a fs.length c), (9, .int .i64 fs.length), (10, .int .i64 s.1)]) (fun s => Pu (s.1 ≤ fs.length ∧ Wrt k S ((fs.take s.1).flatMap (·.2)) s.2) :: Wr pw s.2 :: R) (fun s => fs.length - s.1) (0, S)
  ⟨rfl, rfl, rfl, rfl, rfl, rfl, trivial⟩ (fun w h => Sat.pu_in ⟨Nat.zero_le _, by rw [List.take_zero]; exact Wrt.nil hS.1⟩ h) (fun ⟨i, S1⟩ => CT.pu fun ⟨hi, hw⟩ => ?_)
 dsimp only at hi hw ⊢
 have hS1 := hw.wok hS
 repeat' (first|refine gL ?_|(refine gv ?_;(refine⟨fun hc=>?_,fun hc=>?_⟩<;>first|(exfalso;omega)|skip))|fail)
 ·have hil : i < fs.length := by omega
  have hgi := List.getElem?_eq_getElem hil
  revert hgi
  generalize fs[i] = q
  intro hgi
  obtain ⟨⟨bb, hbb⟩, hq⟩ := hput q (List.mem_of_getElem? hgi)
  refine RT.ix T (j := i * 5) rfl rfl rfl (rD (hR)) (by omega) (by omega) (by omega) rfl rfl ?_
  refine RT.ldra T rfl (rD (hR)) (l := q.1.cells) (flat_sub (f := fun q : FP × Txt => q.1.cells) (z := 5) fp_len fs i _ hgi) rfl rfl rfl rfl ?_
  repeat' (first|refine gM ?_|(refine gb ?_;intro b)|fail)
  revert b
  intro b0
  refine RT.callC T (caps := q.1.cp) rfl rfl (Pre := [Wr pw S1]) fR_ (hq [Cs b0 306 q.1.cells] S1 hS1) hbb rfl rfl ?_
  rintro _ _ ⟨rfl, S2, hS2, rfl⟩
  simp only [List.cons_append, List.nil_append]
  repeat' (first|refine gL ?_|(refine gv ?_;refine gk ?_)|fail)
  refine AtQ.loop (i + 1, S2) ⟨rfl, rfl, rfl, rfl, rfl, rfl, trivial⟩ (fun w h => Sat.pu_in ⟨by omega, by rw [flat_snoc hgi]; exact hw.app hS2⟩ (h.frd (Ps := [_]) (Qs := [_]) fR_)) (by dsimp only; omega)
 ·obtain rfl : i = fs.length := by omega
  rw [List.take_length] at hw
  exact AtQ.fin0 (H' := [Wr pw S1]) Tryz.results62 ⟨rfl, S1, hw, rfl⟩ (fun w h => h) _ (by first | exact .inl rfl | exact .inr rfl)
set_option maxHeartbeats 1000000 in
theorem files_all {fs : List (FP × Txt)} {a : Option Addr} {c : Nat} (hR : Rd B R a fs.length c 5 (fs.flatMap fun q => q.1.cells)) (hn : fs.length ≤ 100)
  (hput : ∀ q ∈ fs, (∃ bb, al T.funs q.1.fp = some bb) ∧ ∀ (H : List HP) (S : WS), Wok k S → Sp B Tryz.prog q.1.fp ([ptr pe, .pointer (some ad)] ++ q.1.cp) (H ++ R) [Wr pw S] (fun u H' => u = .tuple #[] ∧ ∃ S', Wrt k S q.2 S' ∧ H' = [Wr pw S'])) (hS : Wok k S) :
  Sp B Tryz.prog 250 [.slice a fs.length c, ptr pe, .pointer (some ad)] R [Wr pw S] (fun u H' => u = .tuple #[] ∧ ∃ S', Wrt k S (fs.flatMap (·.2)) S' ∧ H' = [Wr pw S']) := by
 refine Sp.body Tryz.func250 rfl Tryz.ntmps250 (by simp) ?_
 simp only [argE, List.cons_append, List.nil_append, Nat.zero_add, Nat.reduceAdd]
 try refine gL ?_
 refine CT.loop (α := Nat × WS) (fun s => [(0, .slice a fs.length c), (1, ptr pe), (2, .pointer (some ad)), (8, .slice a fs.length c), (9, .int .i64 fs.length), (10, .int .i64 s.1)]) (fun s => Pu (s.1 ≤ fs.length ∧ Wrt k S ((fs.take s.1).flatMap (·.2)) s.2) :: Wr pw s.2 :: R) (fun s => fs.length - s.1) (0, S)
  ⟨rfl, rfl, rfl, rfl, rfl, rfl, trivial⟩ (fun w h => Sat.pu_in ⟨Nat.zero_le _, by rw [List.take_zero]; exact Wrt.nil hS.1⟩ h) (fun ⟨i, S1⟩ => CT.pu fun ⟨hi, hw⟩ => ?_)
 dsimp only at hi hw ⊢
 have hS1 := hw.wok hS
 repeat' (first|refine gL ?_|(refine gv ?_;(refine⟨fun hc=>?_,fun hc=>?_⟩<;>first|(exfalso;omega)|skip))|fail)
 ·have hil : i < fs.length := by omega
  have hgi := List.getElem?_eq_getElem hil
  revert hgi
  generalize fs[i] = q
  intro hgi
  obtain ⟨⟨bb, hbb⟩, hq⟩ := hput q (List.mem_of_getElem? hgi)
  refine RT.ix T (j := i * 5) rfl rfl rfl (rD (hR)) (by omega) (by omega) (by omega) rfl rfl ?_
  refine RT.ldra T rfl (rD (hR)) (l := q.1.cells) (flat_sub (f := fun q : FP × Txt => q.1.cells) (z := 5) fp_len fs i _ hgi) rfl rfl rfl rfl ?_
  repeat' (first|refine gM ?_|(refine gb ?_;intro b)|fail)
  revert b
  intro b0
  refine RT.callC T (caps := q.1.cp) rfl rfl (Pre := [Wr pw S1]) fR_ (hq [Cs b0 292 q.1.cells] S1 hS1) hbb rfl rfl ?_
  rintro _ _ ⟨rfl, S2, hS2, rfl⟩
  simp only [List.cons_append, List.nil_append]
  repeat' (first|refine gL ?_|(refine gv ?_;refine gk ?_)|fail)
  refine AtQ.loop (i + 1, S2) ⟨rfl, rfl, rfl, rfl, rfl, rfl, trivial⟩ (fun w h => Sat.pu_in ⟨by omega, by rw [flat_snoc hgi]; exact hw.app hS2⟩ (h.frd (Ps := [_]) (Qs := [_]) fR_)) (by dsimp only; omega)
 ·obtain rfl : i = fs.length := by omega
  rw [List.take_length] at hw
  exact AtQ.fin0 (H' := [Wr pw S1]) Tryz.results250 ⟨rfl, S1, hw, rfl⟩ (fun w h => h) _ (by first | exact .inl rfl | exact .inr rfl)
set_option maxHeartbeats 1000000 in
theorem imports_all {fs : List (FP × Txt)} {a : Option Addr} {c : Nat} (hR : Rd B R a fs.length c 5 (fs.flatMap fun q => q.1.cells)) (hn : fs.length ≤ 100)
  (hput : ∀ q ∈ fs, (∃ bb, al T.funs q.1.fp = some bb) ∧ ∀ (H : List HP) (S : WS), Wok k S → Sp B Tryz.prog q.1.fp ([ptr pe, .pointer (some ad)] ++ q.1.cp) (H ++ R) [Wr pw S] (fun u H' => u = .tuple #[] ∧ ∃ S', Wrt k S q.2 S' ∧ H' = [Wr pw S'])) (hS : Wok k S) :
  Sp B Tryz.prog 242 [.slice a fs.length c, ptr pe, .pointer (some ad)] R [Wr pw S] (fun u H' => u = .tuple #[] ∧ ∃ S', Wrt k S (fs.flatMap (·.2)) S' ∧ H' = [Wr pw S']) := by
 refine Sp.body Tryz.func242 rfl Tryz.ntmps242 (by simp) ?_
 simp only [argE, List.cons_append, List.nil_append, Nat.zero_add, Nat.reduceAdd]
 try refine gL ?_
 refine CT.loop (α := Nat × WS) (fun s => [(0, .slice a fs.length c), (1, ptr pe), (2, .pointer (some ad)), (8, .slice a fs.length c), (9, .int .i64 fs.length), (10, .int .i64 s.1)]) (fun s => Pu (s.1 ≤ fs.length ∧ Wrt k S ((fs.take s.1).flatMap (·.2)) s.2) :: Wr pw s.2 :: R) (fun s => fs.length - s.1) (0, S)
  ⟨rfl, rfl, rfl, rfl, rfl, rfl, trivial⟩ (fun w h => Sat.pu_in ⟨Nat.zero_le _, by rw [List.take_zero]; exact Wrt.nil hS.1⟩ h) (fun ⟨i, S1⟩ => CT.pu fun ⟨hi, hw⟩ => ?_)
 dsimp only at hi hw ⊢
 have hS1 := hw.wok hS
 repeat' (first|refine gL ?_|(refine gv ?_;(refine⟨fun hc=>?_,fun hc=>?_⟩<;>first|(exfalso;omega)|skip))|fail)
 ·have hil : i < fs.length := by omega
  have hgi := List.getElem?_eq_getElem hil
  revert hgi
  generalize fs[i] = q
  intro hgi
  obtain ⟨⟨bb, hbb⟩, hq⟩ := hput q (List.mem_of_getElem? hgi)
  refine RT.ix T (j := i * 5) rfl rfl rfl (rD (hR)) (by omega) (by omega) (by omega) rfl rfl ?_
  refine RT.ldra T rfl (rD (hR)) (l := q.1.cells) (flat_sub (f := fun q : FP × Txt => q.1.cells) (z := 5) fp_len fs i _ hgi) rfl rfl rfl rfl ?_
  repeat' (first|refine gM ?_|(refine gb ?_;intro b)|fail)
  revert b
  intro b0
  refine RT.callC T (caps := q.1.cp) rfl rfl (Pre := [Wr pw S1]) fR_ (hq [Cs b0 283 q.1.cells] S1 hS1) hbb rfl rfl ?_
  rintro _ _ ⟨rfl, S2, hS2, rfl⟩
  simp only [List.cons_append, List.nil_append]
  repeat' (first|refine gL ?_|(refine gv ?_;refine gk ?_)|fail)
  refine AtQ.loop (i + 1, S2) ⟨rfl, rfl, rfl, rfl, rfl, rfl, trivial⟩ (fun w h => Sat.pu_in ⟨by omega, by rw [flat_snoc hgi]; exact hw.app hS2⟩ (h.frd (Ps := [_]) (Qs := [_]) fR_)) (by dsimp only; omega)
 ·obtain rfl : i = fs.length := by omega
  rw [List.take_length] at hw
  exact AtQ.fin0 (H' := [Wr pw S1]) Tryz.results242 ⟨rfl, S1, hw, rfl⟩ (fun w h => h) _ (by first | exact .inl rfl | exact .inr rfl)
set_option maxHeartbeats 1000000 in
theorem messages_all {fs : List (FP × Txt)} {a : Option Addr} {c : Nat} (hR : Rd B R a fs.length c 5 (fs.flatMap fun q => q.1.cells)) (hn : fs.length ≤ 100)
  (hput : ∀ q ∈ fs, (∃ bb, al T.funs q.1.fp = some bb) ∧ ∀ (H : List HP) (S : WS), Wok k S → Sp B Tryz.prog q.1.fp ([ptr pe, .pointer (some ad)] ++ q.1.cp) (H ++ R) [Wr pw S] (fun u H' => u = .tuple #[] ∧ ∃ S', Wrt k S q.2 S' ∧ H' = [Wr pw S'])) (hS : Wok k S) :
  Sp B Tryz.prog 226 [.slice a fs.length c, ptr pe, .pointer (some ad)] R [Wr pw S] (fun u H' => u = .tuple #[] ∧ ∃ S', Wrt k S (fs.flatMap (·.2)) S' ∧ H' = [Wr pw S']) := by
 refine Sp.body Tryz.func226 rfl Tryz.ntmps226 (by simp) ?_
 simp only [argE, List.cons_append, List.nil_append, Nat.zero_add, Nat.reduceAdd]
 try refine gL ?_
 refine CT.loop (α := Nat × WS) (fun s => [(0, .slice a fs.length c), (1, ptr pe), (2, .pointer (some ad)), (8, .slice a fs.length c), (9, .int .i64 fs.length), (10, .int .i64 s.1)]) (fun s => Pu (s.1 ≤ fs.length ∧ Wrt k S ((fs.take s.1).flatMap (·.2)) s.2) :: Wr pw s.2 :: R) (fun s => fs.length - s.1) (0, S)
  ⟨rfl, rfl, rfl, rfl, rfl, rfl, trivial⟩ (fun w h => Sat.pu_in ⟨Nat.zero_le _, by rw [List.take_zero]; exact Wrt.nil hS.1⟩ h) (fun ⟨i, S1⟩ => CT.pu fun ⟨hi, hw⟩ => ?_)
 dsimp only at hi hw ⊢
 have hS1 := hw.wok hS
 repeat' (first|refine gL ?_|(refine gv ?_;(refine⟨fun hc=>?_,fun hc=>?_⟩<;>first|(exfalso;omega)|skip))|fail)
 ·have hil : i < fs.length := by omega
  have hgi := List.getElem?_eq_getElem hil
  revert hgi
  generalize fs[i] = q
  intro hgi
  obtain ⟨⟨bb, hbb⟩, hq⟩ := hput q (List.mem_of_getElem? hgi)
  refine RT.ix T (j := i * 5) rfl rfl rfl (rD (hR)) (by omega) (by omega) (by omega) rfl rfl ?_
  refine RT.ldra T rfl (rD (hR)) (l := q.1.cells) (flat_sub (f := fun q : FP × Txt => q.1.cells) (z := 5) fp_len fs i _ hgi) rfl rfl rfl rfl ?_
  repeat' (first|refine gM ?_|(refine gb ?_;intro b)|fail)
  revert b
  intro b0
  refine RT.callC T (caps := q.1.cp) rfl rfl (Pre := [Wr pw S1]) fR_ (hq [Cs b0 260 q.1.cells] S1 hS1) hbb rfl rfl ?_
  rintro _ _ ⟨rfl, S2, hS2, rfl⟩
  simp only [List.cons_append, List.nil_append]
  repeat' (first|refine gL ?_|(refine gv ?_;refine gk ?_)|fail)
  refine AtQ.loop (i + 1, S2) ⟨rfl, rfl, rfl, rfl, rfl, rfl, trivial⟩ (fun w h => Sat.pu_in ⟨by omega, by rw [flat_snoc hgi]; exact hw.app hS2⟩ (h.frd (Ps := [_]) (Qs := [_]) fR_)) (by dsimp only; omega)
 ·obtain rfl : i = fs.length := by omega
  rw [List.take_length] at hw
  exact AtQ.fin0 (H' := [Wr pw S1]) Tryz.results226 ⟨rfl, S1, hw, rfl⟩ (fun w h => h) _ (by first | exact .inl rfl | exact .inr rfl)
set_option maxHeartbeats 1000000 in
theorem fields_all {fs : List (FP × Txt)} {a : Option Addr} {c : Nat} (hR : Rd B R a fs.length c 5 (fs.flatMap fun q => q.1.cells)) (hn : fs.length ≤ 100)
  (hput : ∀ q ∈ fs, (∃ bb, al T.funs q.1.fp = some bb) ∧ ∀ (H : List HP) (S : WS), Wok k S → Sp B Tryz.prog q.1.fp ([ptr pe, .pointer (some ad)] ++ q.1.cp) (H ++ R) [Wr pw S] (fun u H' => u = .tuple #[] ∧ ∃ S', Wrt k S q.2 S' ∧ H' = [Wr pw S'])) (hS : Wok k S) :
  Sp B Tryz.prog 220 [.slice a fs.length c, ptr pe, .pointer (some ad)] R [Wr pw S] (fun u H' => u = .tuple #[] ∧ ∃ S', Wrt k S (fs.flatMap (·.2)) S' ∧ H' = [Wr pw S']) := by
 refine Sp.body Tryz.func220 rfl Tryz.ntmps220 (by simp) ?_
 simp only [argE, List.cons_append, List.nil_append, Nat.zero_add, Nat.reduceAdd]
 try refine gL ?_
 refine CT.loop (α := Nat × WS) (fun s => [(0, .slice a fs.length c), (1, ptr pe), (2, .pointer (some ad)), (8, .slice a fs.length c), (9, .int .i64 fs.length), (10, .int .i64 s.1)]) (fun s => Pu (s.1 ≤ fs.length ∧ Wrt k S ((fs.take s.1).flatMap (·.2)) s.2) :: Wr pw s.2 :: R) (fun s => fs.length - s.1) (0, S)
  ⟨rfl, rfl, rfl, rfl, rfl, rfl, trivial⟩ (fun w h => Sat.pu_in ⟨Nat.zero_le _, by rw [List.take_zero]; exact Wrt.nil hS.1⟩ h) (fun ⟨i, S1⟩ => CT.pu fun ⟨hi, hw⟩ => ?_)
 dsimp only at hi hw ⊢
 have hS1 := hw.wok hS
 repeat' (first|refine gL ?_|(refine gv ?_;(refine⟨fun hc=>?_,fun hc=>?_⟩<;>first|(exfalso;omega)|skip))|fail)
 ·have hil : i < fs.length := by omega
  have hgi := List.getElem?_eq_getElem hil
  revert hgi
  generalize fs[i] = q
  intro hgi
  obtain ⟨⟨bb, hbb⟩, hq⟩ := hput q (List.mem_of_getElem? hgi)
  refine RT.ix T (j := i * 5) rfl rfl rfl (rD (hR)) (by omega) (by omega) (by omega) rfl rfl ?_
  refine RT.ldra T rfl (rD (hR)) (l := q.1.cells) (flat_sub (f := fun q : FP × Txt => q.1.cells) (z := 5) fp_len fs i _ hgi) rfl rfl rfl rfl ?_
  repeat' (first|refine gM ?_|(refine gb ?_;intro b)|fail)
  revert b
  intro b0
  refine RT.callC T (caps := q.1.cp) rfl rfl (Pre := [Wr pw S1]) fR_ (hq [Cs b0 234 q.1.cells] S1 hS1) hbb rfl rfl ?_
  rintro _ _ ⟨rfl, S2, hS2, rfl⟩
  simp only [List.cons_append, List.nil_append]
  repeat' (first|refine gL ?_|(refine gv ?_;refine gk ?_)|fail)
  refine AtQ.loop (i + 1, S2) ⟨rfl, rfl, rfl, rfl, rfl, rfl, trivial⟩ (fun w h => Sat.pu_in ⟨by omega, by rw [flat_snoc hgi]; exact hw.app hS2⟩ (h.frd (Ps := [_]) (Qs := [_]) fR_)) (by dsimp only; omega)
 ·obtain rfl : i = fs.length := by omega
  rw [List.take_length] at hw
  exact AtQ.fin0 (H' := [Wr pw S1]) Tryz.results220 ⟨rfl, S1, hw, rfl⟩ (fun w h => h) _ (by first | exact .inl rfl | exact .inr rfl)
set_option maxHeartbeats 1000000 in
theorem enums_all {fs : List (FP × Txt)} {a : Option Addr} {c : Nat} (hR : Rd B R a fs.length c 5 (fs.flatMap fun q => q.1.cells)) (hn : fs.length ≤ 100)
  (hput : ∀ q ∈ fs, (∃ bb, al T.funs q.1.fp = some bb) ∧ ∀ (H : List HP) (S : WS), Wok k S → Sp B Tryz.prog q.1.fp ([ptr pe, .pointer (some ad)] ++ q.1.cp) (H ++ R) [Wr pw S] (fun u H' => u = .tuple #[] ∧ ∃ S', Wrt k S q.2 S' ∧ H' = [Wr pw S'])) (hS : Wok k S) :
  Sp B Tryz.prog 230 [.slice a fs.length c, ptr pe, .pointer (some ad)] R [Wr pw S] (fun u H' => u = .tuple #[] ∧ ∃ S', Wrt k S (fs.flatMap (·.2)) S' ∧ H' = [Wr pw S']) := by
 refine Sp.body Tryz.func230 rfl Tryz.ntmps230 (by simp) ?_
 simp only [argE, List.cons_append, List.nil_append, Nat.zero_add, Nat.reduceAdd]
 try refine gL ?_
 refine CT.loop (α := Nat × WS) (fun s => [(0, .slice a fs.length c), (1, ptr pe), (2, .pointer (some ad)), (8, .slice a fs.length c), (9, .int .i64 fs.length), (10, .int .i64 s.1)]) (fun s => Pu (s.1 ≤ fs.length ∧ Wrt k S ((fs.take s.1).flatMap (·.2)) s.2) :: Wr pw s.2 :: R) (fun s => fs.length - s.1) (0, S)
  ⟨rfl, rfl, rfl, rfl, rfl, rfl, trivial⟩ (fun w h => Sat.pu_in ⟨Nat.zero_le _, by rw [List.take_zero]; exact Wrt.nil hS.1⟩ h) (fun ⟨i, S1⟩ => CT.pu fun ⟨hi, hw⟩ => ?_)
 dsimp only at hi hw ⊢
 have hS1 := hw.wok hS
 repeat' (first|refine gL ?_|(refine gv ?_;(refine⟨fun hc=>?_,fun hc=>?_⟩<;>first|(exfalso;omega)|skip))|fail)
 ·have hil : i < fs.length := by omega
  have hgi := List.getElem?_eq_getElem hil
  revert hgi
  generalize fs[i] = q
  intro hgi
  obtain ⟨⟨bb, hbb⟩, hq⟩ := hput q (List.mem_of_getElem? hgi)
  refine RT.ix T (j := i * 5) rfl rfl rfl (rD (hR)) (by omega) (by omega) (by omega) rfl rfl ?_
  refine RT.ldra T rfl (rD (hR)) (l := q.1.cells) (flat_sub (f := fun q : FP × Txt => q.1.cells) (z := 5) fp_len fs i _ hgi) rfl rfl rfl rfl ?_
  repeat' (first|refine gM ?_|(refine gb ?_;intro b)|fail)
  revert b
  intro b0
  refine RT.callC T (caps := q.1.cp) rfl rfl (Pre := [Wr pw S1]) fR_ (hq [Cs b0 213 q.1.cells] S1 hS1) hbb rfl rfl ?_
  rintro _ _ ⟨rfl, S2, hS2, rfl⟩
  simp only [List.cons_append, List.nil_append]
  repeat' (first|refine gL ?_|(refine gv ?_;refine gk ?_)|fail)
  refine AtQ.loop (i + 1, S2) ⟨rfl, rfl, rfl, rfl, rfl, rfl, trivial⟩ (fun w h => Sat.pu_in ⟨by omega, by rw [flat_snoc hgi]; exact hw.app hS2⟩ (h.frd (Ps := [_]) (Qs := [_]) fR_)) (by dsimp only; omega)
 ·obtain rfl : i = fs.length := by omega
  rw [List.take_length] at hw
  exact AtQ.fin0 (H' := [Wr pw S1]) Tryz.results230 ⟨rfl, S1, hw, rfl⟩ (fun w h => h) _ (by first | exact .inl rfl | exact .inr rfl)
set_option maxHeartbeats 1000000 in
theorem values_all {fs : List (FP × Txt)} {a : Option Addr} {c : Nat} (hR : Rd B R a fs.length c 5 (fs.flatMap fun q => q.1.cells)) (hn : fs.length ≤ 100)
  (hput : ∀ q ∈ fs, (∃ bb, al T.funs q.1.fp = some bb) ∧ ∀ (H : List HP) (S : WS), Wok k S → Sp B Tryz.prog q.1.fp ([ptr pe, .pointer (some ad)] ++ q.1.cp) (H ++ R) [Wr pw S] (fun u H' => u = .tuple #[] ∧ ∃ S', Wrt k S q.2 S' ∧ H' = [Wr pw S'])) (hS : Wok k S) :
  Sp B Tryz.prog 192 [.slice a fs.length c, ptr pe, .pointer (some ad)] R [Wr pw S] (fun u H' => u = .tuple #[] ∧ ∃ S', Wrt k S (fs.flatMap (·.2)) S' ∧ H' = [Wr pw S']) := by
 refine Sp.body Tryz.func192 rfl Tryz.ntmps192 (by simp) ?_
 simp only [argE, List.cons_append, List.nil_append, Nat.zero_add, Nat.reduceAdd]
 try refine gL ?_
 refine CT.loop (α := Nat × WS) (fun s => [(0, .slice a fs.length c), (1, ptr pe), (2, .pointer (some ad)), (8, .slice a fs.length c), (9, .int .i64 fs.length), (10, .int .i64 s.1)]) (fun s => Pu (s.1 ≤ fs.length ∧ Wrt k S ((fs.take s.1).flatMap (·.2)) s.2) :: Wr pw s.2 :: R) (fun s => fs.length - s.1) (0, S)
  ⟨rfl, rfl, rfl, rfl, rfl, rfl, trivial⟩ (fun w h => Sat.pu_in ⟨Nat.zero_le _, by rw [List.take_zero]; exact Wrt.nil hS.1⟩ h) (fun ⟨i, S1⟩ => CT.pu fun ⟨hi, hw⟩ => ?_)
 dsimp only at hi hw ⊢
 have hS1 := hw.wok hS
 repeat' (first|refine gL ?_|(refine gv ?_;(refine⟨fun hc=>?_,fun hc=>?_⟩<;>first|(exfalso;omega)|skip))|fail)
 ·have hil : i < fs.length := by omega
  have hgi := List.getElem?_eq_getElem hil
  revert hgi
  generalize fs[i] = q
  intro hgi
  obtain ⟨⟨bb, hbb⟩, hq⟩ := hput q (List.mem_of_getElem? hgi)
  refine RT.ix T (j := i * 5) rfl rfl rfl (rD (hR)) (by omega) (by omega) (by omega) rfl rfl ?_
  refine RT.ldra T rfl (rD (hR)) (l := q.1.cells) (flat_sub (f := fun q : FP × Txt => q.1.cells) (z := 5) fp_len fs i _ hgi) rfl rfl rfl rfl ?_
  repeat' (first|refine gM ?_|(refine gb ?_;intro b)|fail)
  revert b
  intro b0
  refine RT.callC T (caps := q.1.cp) rfl rfl (Pre := [Wr pw S1]) fR_ (hq [Cs b0 203 q.1.cells] S1 hS1) hbb rfl rfl ?_
  rintro _ _ ⟨rfl, S2, hS2, rfl⟩
  simp only [List.cons_append, List.nil_append]
  repeat' (first|refine gL ?_|(refine gv ?_;refine gk ?_)|fail)
  refine AtQ.loop (i + 1, S2) ⟨rfl, rfl, rfl, rfl, rfl, rfl, trivial⟩ (fun w h => Sat.pu_in ⟨by omega, by rw [flat_snoc hgi]; exact hw.app hS2⟩ (h.frd (Ps := [_]) (Qs := [_]) fR_)) (by dsimp only; omega)
 ·obtain rfl : i = fs.length := by omega
  rw [List.take_length] at hw
  exact AtQ.fin0 (H' := [Wr pw S1]) Tryz.results192 ⟨rfl, S1, hw, rfl⟩ (fun w h => h) _ (by first | exact .inl rfl | exact .inr rfl)
set_option maxHeartbeats 1000000 in
theorem spans_all {fs : List (FP × Txt)} {a : Option Addr} {c : Nat} (hR : Rd B R a fs.length c 5 (fs.flatMap fun q => q.1.cells)) (hn : fs.length ≤ 100)
  (hput : ∀ q ∈ fs, (∃ bb, al T.funs q.1.fp = some bb) ∧ ∀ (H : List HP) (S : WS), Wok k S → Sp B Tryz.prog q.1.fp ([ptr pe, .pointer (some ad)] ++ q.1.cp) (H ++ R) [Wr pw S] (fun u H' => u = .tuple #[] ∧ ∃ S', Wrt k S q.2 S' ∧ H' = [Wr pw S'])) (hS : Wok k S) :
  Sp B Tryz.prog 200 [.slice a fs.length c, ptr pe, .pointer (some ad)] R [Wr pw S] (fun u H' => u = .tuple #[] ∧ ∃ S', Wrt k S (fs.flatMap (·.2)) S' ∧ H' = [Wr pw S']) := by
 refine Sp.body Tryz.func200 rfl Tryz.ntmps200 (by simp) ?_
 simp only [argE, List.cons_append, List.nil_append, Nat.zero_add, Nat.reduceAdd]
 try refine gL ?_
 refine CT.loop (α := Nat × WS) (fun s => [(0, .slice a fs.length c), (1, ptr pe), (2, .pointer (some ad)), (8, .slice a fs.length c), (9, .int .i64 fs.length), (10, .int .i64 s.1)]) (fun s => Pu (s.1 ≤ fs.length ∧ Wrt k S ((fs.take s.1).flatMap (·.2)) s.2) :: Wr pw s.2 :: R) (fun s => fs.length - s.1) (0, S)
  ⟨rfl, rfl, rfl, rfl, rfl, rfl, trivial⟩ (fun w h => Sat.pu_in ⟨Nat.zero_le _, by rw [List.take_zero]; exact Wrt.nil hS.1⟩ h) (fun ⟨i, S1⟩ => CT.pu fun ⟨hi, hw⟩ => ?_)
 dsimp only at hi hw ⊢
 have hS1 := hw.wok hS
 repeat' (first|refine gL ?_|(refine gv ?_;(refine⟨fun hc=>?_,fun hc=>?_⟩<;>first|(exfalso;omega)|skip))|fail)
 ·have hil : i < fs.length := by omega
  have hgi := List.getElem?_eq_getElem hil
  revert hgi
  generalize fs[i] = q
  intro hgi
  obtain ⟨⟨bb, hbb⟩, hq⟩ := hput q (List.mem_of_getElem? hgi)
  refine RT.ix T (j := i * 5) rfl rfl rfl (rD (hR)) (by omega) (by omega) (by omega) rfl rfl ?_
  refine RT.ldra T rfl (rD (hR)) (l := q.1.cells) (flat_sub (f := fun q : FP × Txt => q.1.cells) (z := 5) fp_len fs i _ hgi) rfl rfl rfl rfl ?_
  repeat' (first|refine gM ?_|(refine gb ?_;intro b)|fail)
  revert b
  intro b0
  refine RT.callC T (caps := q.1.cp) rfl rfl (Pre := [Wr pw S1]) fR_ (hq [Cs b0 193 q.1.cells] S1 hS1) hbb rfl rfl ?_
  rintro _ _ ⟨rfl, S2, hS2, rfl⟩
  simp only [List.cons_append, List.nil_append]
  repeat' (first|refine gL ?_|(refine gv ?_;refine gk ?_)|fail)
  refine AtQ.loop (i + 1, S2) ⟨rfl, rfl, rfl, rfl, rfl, rfl, trivial⟩ (fun w h => Sat.pu_in ⟨by omega, by rw [flat_snoc hgi]; exact hw.app hS2⟩ (h.frd (Ps := [_]) (Qs := [_]) fR_)) (by dsimp only; omega)
 ·obtain rfl : i = fs.length := by omega
  rw [List.take_length] at hw
  exact AtQ.fin0 (H' := [Wr pw S1]) Tryz.results200 ⟨rfl, S1, hw, rfl⟩ (fun w h => h) _ (by first | exact .inl rfl | exact .inr rfl)
end Go.Proofs.YtclcnhfponjdaaaGreatDoor
end
section
namespace Go.Proofs.YtclcnhfponjdaaaGreatDoor
open Go.Sk
set_option maxRecDepth 100000
attribute [local irreducible] Cs Own Ex Pu Yld RT LJ QJ AtQ CT Rd QSp Sp FinQ Then LoopQ CutQ DT TakeQ EffQ
attribute [local irreducible] Wr StAt
variable {B : World} {R : List HP} {pe pw k : Nat} {ad : Addr} {S : WS} {t : TB}
theorem span_w (hF : Facts B R t) (hO : Rd B R (some ⟨pe, 0, none⟩) 1 1 2 [ptr pw, .int .i64 0]) {x : SpanT} (hx : StAt B R ad x.cells) (ho : x.Ok) (hS : Wok k S) :
  Sp B Tryz.prog 200 [t.sl 7 2, ptr pe, .pointer (some ad)] R [Wr pw S] (fun u H' => u = .tuple #[] ∧ ∃ S', Wrt k S (spanB x) S' ∧ H' = [Wr pw S']) := by
 have e : (([(⟨1, 0, false, 175, [t.bp 1, t.bp 0], 179, [t.bp 1]⟩, fSign 1 x.f), (⟨2, 0, false, 175, [t.bp 3, t.bp 2], 179, [t.bp 3]⟩, fSign 2 x.t)] : List (FP × Txt))).flatMap (·.2) = spanB x := by
  unfold spanB
  simp only [List.flatMap_cons, List.flatMap_nil, List.append_nil]
 rw [← e]
 refine spans_all (fs := ([(⟨1, 0, false, 175, [t.bp 1, t.bp 0], 179, [t.bp 1]⟩, fSign 1 x.f), (⟨2, 0, false, 175, [t.bp 3, t.bp 2], 179, [t.bp 3]⟩, fSign 2 x.t)] : List (FP × Txt))) (a := t.ra 7) (c := t.rc 7) (k := k) (pe := pe) (pw := pw) (ad := ad) (S := S) (R := R) hF.r7 (Nat.le_of_ble_eq_true rfl) ?_ hS
 exact List.forall_mem_cons.2 ⟨⟨⟨_, rfl⟩, fun H S hS => signed_Span_int32_put (Rd.under hO H) ((hF.under H).box 0 _ _ _ rfl) ((hF.under H).box 1 _ _ _ rfl) rfl (of1_fn ad) (StAt.under hx H) (by decide) (by decide) (v := x.f) rfl ho.1 hS.1⟩,
  List.forall_mem_cons.2 ⟨⟨⟨_, rfl⟩, fun H S hS => signed_Span_int32_put (Rd.under hO H) ((hF.under H).box 2 _ _ _ rfl) ((hF.under H).box 3 _ _ _ rfl) rfl (of2_fn ad) (StAt.under hx H) (by decide) (by decide) (v := x.t) rfl ho.2 hS.1⟩,
  fun _ h => by cases h⟩⟩
theorem value_w (hF : Facts B R t) (hO : Rd B R (some ⟨pe, 0, none⟩) 1 1 2 [ptr pw, .int .i64 0]) {x : EValT} (hx : StAt B R ad x.cells) (ho : x.Ok) (hS : Wok k S) :
  Sp B Tryz.prog 192 [t.sl 6 2, ptr pe, .pointer (some ad)] R [Wr pw S] (fun u H' => u = .tuple #[] ∧ ∃ S', Wrt k S (valB x) S' ∧ H' = [Wr pw S']) := by
 have e : (([(⟨1, 2, false, 182, [t.bp 5, t.bp 4], 184, [t.bp 5]⟩, fText 1 x.nm), (⟨2, 0, false, 186, [t.bp 7, t.bp 6], 187, [t.bp 7]⟩, fSign 2 x.num)] : List (FP × Txt))).flatMap (·.2) = valB x := by
  unfold valB
  simp only [List.flatMap_cons, List.flatMap_nil, List.append_nil]
 rw [← e]
 refine values_all (fs := ([(⟨1, 2, false, 182, [t.bp 5, t.bp 4], 184, [t.bp 5]⟩, fText 1 x.nm), (⟨2, 0, false, 186, [t.bp 7, t.bp 6], 187, [t.bp 7]⟩, fSign 2 x.num)] : List (FP × Txt))) (a := t.ra 6) (c := t.rc 6) (k := k) (pe := pe) (pw := pw) (ad := ad) (S := S) (R := R) hF.r6 (Nat.le_of_ble_eq_true rfl) ?_ hS
 exact List.forall_mem_cons.2 ⟨⟨⟨_, rfl⟩, fun H S hS => oneText_EnumValue_put (Rd.under hO H) ((hF.under H).box 4 _ _ _ rfl) ((hF.under H).box 5 _ _ _ rfl) rfl (of3_fn ad) (StAt.under hx H) (by decide) (by decide) (v := x.nm) rfl ho.1 hS.1⟩,
  List.forall_mem_cons.2 ⟨⟨⟨_, rfl⟩, fun H S hS => signed_EnumValue_int32_put (Rd.under hO H) ((hF.under H).box 6 _ _ _ rfl) ((hF.under H).box 7 _ _ _ rfl) rfl (of4_fn ad) (StAt.under hx H) (by decide) (by decide) (v := x.num) rfl ho.2 hS.1⟩,
  fun _ h => by cases h⟩⟩
theorem import_w (hF : Facts B R t) (hO : Rd B R (some ⟨pe, 0, none⟩) 1 1 2 [ptr pw, .int .i64 0]) {x : ImpT} (hx : StAt B R ad x.cells) (ho : x.Ok) (hS : Wok k S) :
  Sp B Tryz.prog 242 [t.sl 2 2, ptr pe, .pointer (some ad)] R [Wr pw S] (fun u H' => u = .tuple #[] ∧ ∃ S', Wrt k S (impB x) S' ∧ H' = [Wr pw S']) := by
 have e : (([(⟨1, 2, false, 235, [t.bp 63, t.bp 62], 236, [t.bp 63]⟩, fText 1 x.path), (⟨2, 0, false, 237, [t.bp 65, t.bp 64], 238, [t.bp 65]⟩, fTruth 2 x.pub)] : List (FP × Txt))).flatMap (·.2) = impB x := by
  unfold impB
  simp only [List.flatMap_cons, List.flatMap_nil, List.append_nil]
 rw [← e]
 refine imports_all (fs := ([(⟨1, 2, false, 235, [t.bp 63, t.bp 62], 236, [t.bp 63]⟩, fText 1 x.path), (⟨2, 0, false, 237, [t.bp 65, t.bp 64], 238, [t.bp 65]⟩, fTruth 2 x.pub)] : List (FP × Txt))) (a := t.ra 2) (c := t.rc 2) (k := k) (pe := pe) (pw := pw) (ad := ad) (S := S) (R := R) hF.r2 (Nat.le_of_ble_eq_true rfl) ?_ hS
 exact List.forall_mem_cons.2 ⟨⟨⟨_, rfl⟩, fun H S hS => oneText_Import_put (Rd.under hO H) ((hF.under H).box 62 _ _ _ rfl) ((hF.under H).box 63 _ _ _ rfl) rfl (of26_fn ad) (StAt.under hx H) (by decide) (by decide) (v := x.path) rfl ho hS.1⟩,
  List.forall_mem_cons.2 ⟨⟨⟨_, rfl⟩, fun H S hS => truth_Import_put (Rd.under hO H) ((hF.under H).box 64 _ _ _ rfl) ((hF.under H).box 65 _ _ _ rfl) rfl (of27_fn ad) (StAt.under hx H) (by decide) (by decide) (v := x.pub) rfl hS.1⟩,
  fun _ h => by cases h⟩⟩
theorem field_w (hF : Facts B R t) (hO : Rd B R (some ⟨pe, 0, none⟩) 1 1 2 [ptr pw, .int .i64 0]) {x : FieldT} (hx : StAt B R ad x.cells) (ho : x.Ok) (hS : Wok k S) :
  Sp B Tryz.prog 220 [t.sl 4 9, ptr pe, .pointer (some ad)] R [Wr pw S] (fun u H' => u = .tuple #[] ∧ ∃ S', Wrt k S (fieldB x) S' ∧ H' = [Wr pw S']) := by
 have e : (([(⟨1, 2, false, 205, [t.bp 23, t.bp 22], 206, [t.bp 23]⟩, fText 1 x.nm), (⟨2, 0, false, 207, [t.bp 25, t.bp 24], 208, [t.bp 25]⟩, fSign 2 x.num), (⟨3, 0, false, 209, [t.bp 27, t.bp 26], 210, [t.bp 27]⟩, fSmall 3 x.card), (⟨4, 0, false, 211, [t.bp 29, t.bp 28], 212, [t.bp 29]⟩, fSmall 4 x.kind), (⟨5, 2, false, 205, [t.bp 31, t.bp 30], 206, [t.bp 31]⟩, fText 5 x.ty), (⟨6, 0, false, 211, [t.bp 33, t.bp 32], 212, [t.bp 33]⟩, fSmall 6 x.key), (⟨7, 0, false, 213, [t.bp 35, t.bp 34], 214, [t.bp 35]⟩, fSign 7 x.oneof), (⟨8, 0, false, 215, [t.bp 37, t.bp 36], 216, [t.bp 37]⟩, fSmall 8 x.packed), (⟨9, 2, false, 205, [t.bp 39, t.bp 38], 206, [t.bp 39]⟩, fText 9 x.js)] : List (FP × Txt))).flatMap (·.2) = fieldB x := by
  unfold fieldB
  simp only [List.flatMap_cons, List.flatMap_nil, List.append_nil]
 rw [← e]
 refine fields_all (fs := ([(⟨1, 2, false, 205, [t.bp 23, t.bp 22], 206, [t.bp 23]⟩, fText 1 x.nm), (⟨2, 0, false, 207, [t.bp 25, t.bp 24], 208, [t.bp 25]⟩, fSign 2 x.num), (⟨3, 0, false, 209, [t.bp 27, t.bp 26], 210, [t.bp 27]⟩, fSmall 3 x.card), (⟨4, 0, false, 211, [t.bp 29, t.bp 28], 212, [t.bp 29]⟩, fSmall 4 x.kind), (⟨5, 2, false, 205, [t.bp 31, t.bp 30], 206, [t.bp 31]⟩, fText 5 x.ty), (⟨6, 0, false, 211, [t.bp 33, t.bp 32], 212, [t.bp 33]⟩, fSmall 6 x.key), (⟨7, 0, false, 213, [t.bp 35, t.bp 34], 214, [t.bp 35]⟩, fSign 7 x.oneof), (⟨8, 0, false, 215, [t.bp 37, t.bp 36], 216, [t.bp 37]⟩, fSmall 8 x.packed), (⟨9, 2, false, 205, [t.bp 39, t.bp 38], 206, [t.bp 39]⟩, fText 9 x.js)] : List (FP × Txt))) (a := t.ra 4) (c := t.rc 4) (k := k) (pe := pe) (pw := pw) (ad := ad) (S := S) (R := R) hF.r4 (Nat.le_of_ble_eq_true rfl) ?_ hS
 exact List.forall_mem_cons.2 ⟨⟨⟨_, rfl⟩, fun H S hS => oneText_FieldDef_put (Rd.under hO H) ((hF.under H).box 22 _ _ _ rfl) ((hF.under H).box 23 _ _ _ rfl) rfl (of10_fn ad) (StAt.under hx H) (by decide) (by decide) (v := x.nm) rfl ho.1 hS.1⟩,
  List.forall_mem_cons.2 ⟨⟨⟨_, rfl⟩, fun H S hS => signed_FieldDef_int32_put (Rd.under hO H) ((hF.under H).box 24 _ _ _ rfl) ((hF.under H).box 25 _ _ _ rfl) rfl (of11_fn ad) (StAt.under hx H) (by decide) (by decide) (v := x.num) rfl ho.2.1 hS.1⟩,
  List.forall_mem_cons.2 ⟨⟨⟨_, rfl⟩, fun H S hS => small_FieldDef_Card_put (Rd.under hO H) ((hF.under H).box 26 _ _ _ rfl) ((hF.under H).box 27 _ _ _ rfl) rfl (of12_fn ad) (StAt.under hx H) (by decide) (by decide) (v := x.card) rfl ho.2.2.1 hS.1⟩,
  List.forall_mem_cons.2 ⟨⟨⟨_, rfl⟩, fun H S hS => small_FieldDef_Kind_put (Rd.under hO H) ((hF.under H).box 28 _ _ _ rfl) ((hF.under H).box 29 _ _ _ rfl) rfl (of13_fn ad) (StAt.under hx H) (by decide) (by decide) (v := x.kind) rfl ho.2.2.2.1 hS.1⟩,
  List.forall_mem_cons.2 ⟨⟨⟨_, rfl⟩, fun H S hS => oneText_FieldDef_put (Rd.under hO H) ((hF.under H).box 30 _ _ _ rfl) ((hF.under H).box 31 _ _ _ rfl) rfl (of14_fn ad) (StAt.under hx H) (by decide) (by decide) (v := x.ty) rfl ho.2.2.2.2.1 hS.1⟩,
  List.forall_mem_cons.2 ⟨⟨⟨_, rfl⟩, fun H S hS => small_FieldDef_Kind_put (Rd.under hO H) ((hF.under H).box 32 _ _ _ rfl) ((hF.under H).box 33 _ _ _ rfl) rfl (of15_fn ad) (StAt.under hx H) (by decide) (by decide) (v := x.key) rfl ho.2.2.2.2.2.1 hS.1⟩,
  List.forall_mem_cons.2 ⟨⟨⟨_, rfl⟩, fun H S hS => signed_FieldDef_int_put (Rd.under hO H) ((hF.under H).box 34 _ _ _ rfl) ((hF.under H).box 35 _ _ _ rfl) rfl (of16_fn ad) (StAt.under hx H) (by decide) (by decide) (v := x.oneof) rfl ho.2.2.2.2.2.2.1 hS.1⟩,
  List.forall_mem_cons.2 ⟨⟨⟨_, rfl⟩, fun H S hS => small_FieldDef_Tri_put (Rd.under hO H) ((hF.under H).box 36 _ _ _ rfl) ((hF.under H).box 37 _ _ _ rfl) rfl (of17_fn ad) (StAt.under hx H) (by decide) (by decide) (v := x.packed) rfl ho.2.2.2.2.2.2.2.1 hS.1⟩,
  List.forall_mem_cons.2 ⟨⟨⟨_, rfl⟩, fun H S hS => oneText_FieldDef_put (Rd.under hO H) ((hF.under H).box 38 _ _ _ rfl) ((hF.under H).box 39 _ _ _ rfl) rfl (of18_fn ad) (StAt.under hx H) (by decide) (by decide) (v := x.js) rfl ho.2.2.2.2.2.2.2.2 hS.1⟩,
  fun _ h => by cases h⟩⟩⟩⟩⟩⟩⟩⟩⟩
theorem enum_w (hF : Facts B R t) (hO : Rd B R (some ⟨pe, 0, none⟩) 1 1 2 [ptr pw, .int .i64 0]) {x : EnumT} (hx : StAt B R ad x.cells) (ho : x.Ok) (hin : x.In (Rd B R)) (hS : Wok (k + 1) S) :
  Sp B Tryz.prog 230 [t.sl 5 5, ptr pe, .pointer (some ad)] R [Wr pw S] (fun u H' => u = .tuple #[] ∧ ∃ S', Wrt (k + 1) S (enumB x) S' ∧ H' = [Wr pw S']) := by
 have e : (([(⟨1, 2, false, 188, [t.bp 9, t.bp 8], 189, [t.bp 9]⟩, fText 1 x.nm), (⟨2, 2, true, 190, [t.bp 13, t.bp 10, t.bp 11], 194, [t.bp 12, t.bp 13, t.bp 11]⟩, fRecs 2 valB x.vals.l), (⟨3, 0, false, 197, [t.bp 15, t.bp 14], 198, [t.bp 15]⟩, fTruth 3 x.ali), (⟨4, 2, true, 199, [t.bp 19, t.bp 16, t.bp 17], 201, [t.bp 18, t.bp 19, t.bp 17]⟩, fRecs 4 spanB x.res.l), (⟨5, 2, true, 203, [t.bp 21, t.bp 20], 204, [t.bp 21]⟩, fTexts 5 x.names.l)] : List (FP × Txt))).flatMap (·.2) = enumB x := by
  unfold enumB
  simp only [List.flatMap_cons, List.flatMap_nil, List.append_nil]
 rw [← e]
 refine enums_all (fs := ([(⟨1, 2, false, 188, [t.bp 9, t.bp 8], 189, [t.bp 9]⟩, fText 1 x.nm), (⟨2, 2, true, 190, [t.bp 13, t.bp 10, t.bp 11], 194, [t.bp 12, t.bp 13, t.bp 11]⟩, fRecs 2 valB x.vals.l), (⟨3, 0, false, 197, [t.bp 15, t.bp 14], 198, [t.bp 15]⟩, fTruth 3 x.ali), (⟨4, 2, true, 199, [t.bp 19, t.bp 16, t.bp 17], 201, [t.bp 18, t.bp 19, t.bp 17]⟩, fRecs 4 spanB x.res.l), (⟨5, 2, true, 203, [t.bp 21, t.bp 20], 204, [t.bp 21]⟩, fTexts 5 x.names.l)] : List (FP × Txt))) (a := t.ra 5) (c := t.rc 5) (k := (k + 1)) (pe := pe) (pw := pw) (ad := ad) (S := S) (R := R) hF.r5 (Nat.le_of_ble_eq_true rfl) ?_ hS
 exact List.forall_mem_cons.2 ⟨⟨⟨_, rfl⟩, fun H S hS => oneText_EnumDef_put (Rd.under hO H) ((hF.under H).box 8 _ _ _ rfl) ((hF.under H).box 9 _ _ _ rfl) rfl (of5_fn ad) (StAt.under hx H) (by decide) (by decide) (v := x.nm) rfl ho.1 hS.1⟩,
  List.forall_mem_cons.2 ⟨⟨⟨_, rfl⟩, fun H S hS => some_EnumDef_EnumValue_put (v := x.vals) (cl := EValT.cells) (bs := valB) (Rd.under hO H) ((hF.under H).box 10 _ _ _ rfl) ((hF.under H).box 13 _ _ _ rfl) rfl (of6_fn ad) (StAt.under hx H) (by decide) (by decide) ((hF.under H).box 11 _ _ _ rfl) (hF.under H).forms rfl (fun _ => rfl) rfl ho.2.1.1 (Rd.under hin.1 H) (fun i x hi H2 S hS => value_w (Facts.under (hF.under H) H2) (Rd.under (Rd.under hO H) H2) (StAt.row (Rd.under (Rd.under hin.1 H) H2) (flat_sub (f := EValT.cells) (z := 2) (fun _ => rfl) _ i x hi)) (ho.2.2.1 x (List.mem_of_getElem? hi)) hS) hS⟩,
  List.forall_mem_cons.2 ⟨⟨⟨_, rfl⟩, fun H S hS => truth_EnumDef_put (Rd.under hO H) ((hF.under H).box 14 _ _ _ rfl) ((hF.under H).box 15 _ _ _ rfl) rfl (of7_fn ad) (StAt.under hx H) (by decide) (by decide) (v := x.ali) rfl hS.1⟩,
  List.forall_mem_cons.2 ⟨⟨⟨_, rfl⟩, fun H S hS => some_EnumDef_Span_put (v := x.res) (cl := SpanT.cells) (bs := spanB) (Rd.under hO H) ((hF.under H).box 16 _ _ _ rfl) ((hF.under H).box 19 _ _ _ rfl) rfl (of8_fn ad) (StAt.under hx H) (by decide) (by decide) ((hF.under H).box 17 _ _ _ rfl) (hF.under H).forms rfl (fun _ => rfl) rfl ho.2.2.2.1.1 (Rd.under hin.2.1 H) (fun i x hi H2 S hS => span_w (Facts.under (hF.under H) H2) (Rd.under (Rd.under hO H) H2) (StAt.row (Rd.under (Rd.under hin.2.1 H) H2) (flat_sub (f := SpanT.cells) (z := 2) (fun _ => rfl) _ i x hi)) (ho.2.2.2.2.1 x (List.mem_of_getElem? hi)) hS) hS⟩,
  List.forall_mem_cons.2 ⟨⟨⟨_, rfl⟩, fun H S hS => someTexts_EnumDef_put (Rd.under hO H) ((hF.under H).box 20 _ _ _ rfl) ((hF.under H).box 21 _ _ _ rfl) rfl (of9_fn ad) (StAt.under hx H) (by decide) (by decide) (v := x.names) rfl ho.2.2.2.2.2.2 ho.2.2.2.2.2.1.1 (Rd.under hin.2.2 H) hS.1⟩,
  fun _ h => by cases h⟩⟩⟩⟩⟩
end Go.Proofs.YtclcnhfponjdaaaGreatDoor
end
section
namespace Go.Proofs.YtclcnhfponjdaaaGreatDoor
open Go.Sk
set_option maxRecDepth 100000
theorem goodMsL_mem {d : Nat} : ∀ {l : List MsgT} {m : MsgT}, goodMsL l d = true → m ∈ l → goodMs m d = true
 | [], _, _, h => by cases h
 | x :: l, m, hl, h => by
  unfold goodMsL at hl
  rw [Bool.and_eq_true] at hl
  rcases List.mem_cons.1 h with rfl | h
  ·exact hl.1
  ·exact goodMsL_mem hl.2 h
theorem goodMs_le {m : MsgT} {d : Nat} (h : goodMs m d = true) : d ≤ 99 ∧ goodMsL m.msgs (d + 1) = true := by
 cases m with | mk nm fields oneofs ma mc msgs enums res names =>
 unfold goodMs at h
 simp only [Bool.and_eq_true, decide_eq_true_eq] at h
 exact ⟨h.1.1.1.1.1.1, h.1.2⟩
theorem goodMs_deep : ∀ (n : Nat) {m : MsgT} {d : Nat}, 100 ≤ n + d → goodMs m d = true → m.deep ≤ n
 | 0, m, d, hn, h => by have := (goodMs_le h).1; omega
 | n + 1, m, d, hn, h => by
  obtain ⟨h1, h2⟩ := goodMs_le h
  cases m with | mk nm fields oneofs ma mc msgs enums res names =>
  unfold MsgT.deep
  have h3 : ∀ l : List MsgT, goodMsL l (d + 1) = true → MsgT.deepL l ≤ n := fun l => by
   induction l with
   | nil => intro _; unfold MsgT.deepL; omega
   | cons x l ih =>
    intro hl
    unfold goodMsL at hl
    rw [Bool.and_eq_true] at hl
    unfold MsgT.deepL
    exact Nat.max_le.2 ⟨goodMs_deep n (by omega) hl.1, ih hl.2⟩
  have := h3 msgs h2
  omega
theorem msgB_mk {nm : Txt} {fields : Rw FieldT} {oneofs : Rw Txt} {ma : Option Addr} {mc : Nat} {msgs : List MsgT} {enums : Rw EnumT} {res : Rw SpanT} {names : Rw Txt} {d : Nat} (h : d ≤ 99) : msgB (.mk nm fields oneofs ma mc msgs enums res names) d =
  fText 1 nm ++ (fRecs 2 fieldB fields.l ++ (fTexts 3 oneofs.l ++ (fRecs 4 (fun m => msgB m (d + 1)) msgs ++ (fRecs 5 enumB enums.l ++ (fRecs 6 spanB res.l ++ fTexts 7 names.l))))) := by
 rw [msgB, if_neg (by omega), msgsB_eq]
attribute [local irreducible] Cs Own Ex Pu Yld RT LJ QJ AtQ CT Rd QSp Sp FinQ Then LoopQ CutQ DT TakeQ EffQ
attribute [local irreducible] Wr StAt
variable {B : World} {pe pw : Nat} {t : TB}
theorem message_w (n : Nat) : ∀ {R : List HP} {ad : Addr} {S : WS} {m : MsgT} {d : Nat}, m.deep ≤ n → goodMs m d = true → Facts B R t → Rd B R (some ⟨pe, 0, none⟩) 1 1 2 [ptr pw, .int .i64 0] → StAt B R ad m.cells → m.Ok → m.In (Rd B R) → Wok (n + 2) S →
  Sp B Tryz.prog 226 [t.sl 3 7, ptr pe, .pointer (some ad)] R [Wr pw S] (fun u H' => u = .tuple #[] ∧ ∃ S', Wrt (n + 2) S (msgB m d) S' ∧ H' = [Wr pw S']) := by
 induction n with
 | zero =>
  intro R ad S m d hd
  exact absurd hd (by cases m; unfold MsgT.deep; omega)
 | succ n message_w =>
  intro R ad S m d hd hg hF hO hx ho hin hS
  obtain ⟨hd9, hg⟩ := goodMs_le hg
  obtain ⟨nm, fields, oneofs, ma, mc, msgs, enums, res, names⟩ := m
  unfold MsgT.Ok at ho
  unfold MsgT.In at hin
  unfold MsgT.deep at hd
  replace hd : MsgT.deepL msgs ≤ n := by omega
  obtain ⟨o1, ⟨o2, o2'⟩, ⟨o3, o3'⟩, o4, ⟨o5, o5'⟩, ⟨o6, o6'⟩, ⟨o7, o7'⟩, o8⟩ := ho
  obtain ⟨i1, i2, i3, i4, i5, i6, i7, i8⟩ := hin
  have e : (([(⟨1, 2, false, 217, [t.bp 41, t.bp 40], 218, [t.bp 41]⟩, fText 1 nm), (⟨2, 2, true, 219, [t.bp 45, t.bp 42, t.bp 43], 221, [t.bp 44, t.bp 45, t.bp 43]⟩, fRecs 2 fieldB fields.l), (⟨3, 2, true, 223, [t.bp 47, t.bp 46], 224, [t.bp 47]⟩, fTexts 3 oneofs.l), (⟨4, 2, true, 225, [t.bp 51, t.bp 48, t.bp 49], 227, [t.bp 50, t.bp 51, t.bp 49]⟩, fRecs 4 (fun m => msgB m (d + 1)) msgs), (⟨5, 2, true, 229, [t.bp 55, t.bp 52, t.bp 53], 231, [t.bp 54, t.bp 55, t.bp 53]⟩, fRecs 5 enumB enums.l), (⟨6, 2, true, 233, [t.bp 59, t.bp 56, t.bp 57], 234, [t.bp 58, t.bp 59, t.bp 57]⟩, fRecs 6 spanB res.l), (⟨7, 2, true, 223, [t.bp 61, t.bp 60], 224, [t.bp 61]⟩, fTexts 7 names.l)] : List (FP × Txt))).flatMap (·.2) = msgB (.mk nm fields oneofs ma mc msgs enums res names) d := by
   rw [msgB_mk hd9]
   simp only [List.flatMap_cons, List.flatMap_nil, List.append_nil]
  rw [← e]
  refine messages_all (fs := ([(⟨1, 2, false, 217, [t.bp 41, t.bp 40], 218, [t.bp 41]⟩, fText 1 nm), (⟨2, 2, true, 219, [t.bp 45, t.bp 42, t.bp 43], 221, [t.bp 44, t.bp 45, t.bp 43]⟩, fRecs 2 fieldB fields.l), (⟨3, 2, true, 223, [t.bp 47, t.bp 46], 224, [t.bp 47]⟩, fTexts 3 oneofs.l), (⟨4, 2, true, 225, [t.bp 51, t.bp 48, t.bp 49], 227, [t.bp 50, t.bp 51, t.bp 49]⟩, fRecs 4 (fun m => msgB m (d + 1)) msgs), (⟨5, 2, true, 229, [t.bp 55, t.bp 52, t.bp 53], 231, [t.bp 54, t.bp 55, t.bp 53]⟩, fRecs 5 enumB enums.l), (⟨6, 2, true, 233, [t.bp 59, t.bp 56, t.bp 57], 234, [t.bp 58, t.bp 59, t.bp 57]⟩, fRecs 6 spanB res.l), (⟨7, 2, true, 223, [t.bp 61, t.bp 60], 224, [t.bp 61]⟩, fTexts 7 names.l)] : List (FP × Txt))) (a := t.ra 3) (c := t.rc 3) (k := n + 2 + 1) (pe := pe) (pw := pw) (ad := ad) (S := S) (R := R) hF.r3 (Nat.le_of_ble_eq_true rfl) ?_ hS
  exact List.forall_mem_cons.2 ⟨⟨⟨_, rfl⟩, fun H S hS => oneText_MessageDef_put (Rd.under hO H) ((hF.under H).box 40 _ _ _ rfl) ((hF.under H).box 41 _ _ _ rfl) rfl (of19_fn ad) (StAt.under hx H) (by decide) (by decide) (v := nm) rfl o1 hS.1⟩,
    List.forall_mem_cons.2 ⟨⟨⟨_, rfl⟩, fun H S hS => some_MessageDef_FieldDef_put (v := fields) (cl := FieldT.cells) (bs := fieldB) (Rd.under hO H) ((hF.under H).box 42 _ _ _ rfl) ((hF.under H).box 45 _ _ _ rfl) rfl (of20_fn ad) (StAt.under hx H) (by decide) (by decide) ((hF.under H).box 43 _ _ _ rfl) (hF.under H).forms rfl (fun _ => rfl) rfl o2.1 (Rd.under i1 H) (fun i x hi H2 S hS => field_w (Facts.under (hF.under H) H2) (Rd.under (Rd.under hO H) H2) (StAt.row (Rd.under (Rd.under i1 H) H2) (flat_sub (f := FieldT.cells) (z := 9) (fun _ => rfl) _ i x hi)) (o2' x (List.mem_of_getElem? hi)) hS) hS⟩,
    List.forall_mem_cons.2 ⟨⟨⟨_, rfl⟩, fun H S hS => someTexts_MessageDef_put (Rd.under hO H) ((hF.under H).box 46 _ _ _ rfl) ((hF.under H).box 47 _ _ _ rfl) rfl (of21_fn ad) (StAt.under hx H) (by decide) (by decide) (v := oneofs) rfl o3' o3.1 (Rd.under i2 H) hS.1⟩,
    List.forall_mem_cons.2 ⟨⟨⟨_, rfl⟩, fun H S hS => some_MessageDef_MessageDef_put (v := ⟨ma, mc, msgs⟩) (cl := MsgT.cells) (bs := (fun m => msgB m (d + 1))) (Rd.under hO H) ((hF.under H).box 48 _ _ _ rfl) ((hF.under H).box 51 _ _ _ rfl) rfl (of22_fn ad) (StAt.under hx H) (by decide) (by decide) ((hF.under H).box 49 _ _ _ rfl) (hF.under H).forms rfl (fun _ => rfl) rfl o4.1 (Rd.under i3 H) (fun i x hi H2 S hS => message_w (MsgT.deep_mem (List.mem_of_getElem? hi) |> fun q => Nat.le_trans q hd) (goodMsL_mem hg (List.mem_of_getElem? hi)) (Facts.under (hF.under H) H2) (Rd.under (Rd.under hO H) H2) (StAt.row (Rd.under (Rd.under i3 H) H2) (flat_sub (f := MsgT.cells) (z := 7) (fun _ => rfl) _ i x hi)) (MsgT.okL_mem o8 (List.mem_of_getElem? hi)) (MsgT.In.mono (fun _ _ _ _ _ h => Rd.under (Rd.under h H) H2) (MsgT.inL_mem i8 (List.mem_of_getElem? hi))) hS) hS⟩,
    List.forall_mem_cons.2 ⟨⟨⟨_, rfl⟩, fun H S hS => some_MessageDef_EnumDef_put (v := enums) (cl := EnumT.cells) (bs := enumB) (Rd.under hO H) ((hF.under H).box 52 _ _ _ rfl) ((hF.under H).box 55 _ _ _ rfl) rfl (of23_fn ad) (StAt.under hx H) (by decide) (by decide) ((hF.under H).box 53 _ _ _ rfl) (hF.under H).forms rfl (fun _ => rfl) rfl o5.1 (Rd.under i4 H) (fun i x hi H2 S hS => enum_w (k := n + 1) (Facts.under (hF.under H) H2) (Rd.under (Rd.under hO H) H2) (StAt.row (Rd.under (Rd.under i4 H) H2) (flat_sub (f := EnumT.cells) (z := 5) (fun _ => rfl) _ i x hi)) (o5' x (List.mem_of_getElem? hi)) (EnumT.In.mono (fun _ _ _ _ _ h => Rd.under (Rd.under h H) H2) (i5 x (List.mem_of_getElem? hi))) hS) hS⟩,
    List.forall_mem_cons.2 ⟨⟨⟨_, rfl⟩, fun H S hS => some_MessageDef_Span_put (v := res) (cl := SpanT.cells) (bs := spanB) (Rd.under hO H) ((hF.under H).box 56 _ _ _ rfl) ((hF.under H).box 59 _ _ _ rfl) rfl (of24_fn ad) (StAt.under hx H) (by decide) (by decide) ((hF.under H).box 57 _ _ _ rfl) (hF.under H).forms rfl (fun _ => rfl) rfl o6.1 (Rd.under i6 H) (fun i x hi H2 S hS => span_w (Facts.under (hF.under H) H2) (Rd.under (Rd.under hO H) H2) (StAt.row (Rd.under (Rd.under i6 H) H2) (flat_sub (f := SpanT.cells) (z := 2) (fun _ => rfl) _ i x hi)) (o6' x (List.mem_of_getElem? hi)) hS) hS⟩,
    List.forall_mem_cons.2 ⟨⟨⟨_, rfl⟩, fun H S hS => someTexts_MessageDef_put (Rd.under hO H) ((hF.under H).box 60 _ _ _ rfl) ((hF.under H).box 61 _ _ _ rfl) rfl (of25_fn ad) (StAt.under hx H) (by decide) (by decide) (v := names) rfl o7' o7.1 (Rd.under i7 H) hS.1⟩,
    fun _ h => by cases h⟩⟩⟩⟩⟩⟩⟩
theorem file_w {R : List HP} {ad : Addr} {S : WS} (hF : Facts B R t) (hO : Rd B R (some ⟨pe, 0, none⟩) 1 1 2 [ptr pw, .int .i64 0]) {x : FileT} (hx : StAt B R ad x.cells) (ho : x.Ok) (hin : x.In (Rd B R)) (hg : goodMsL x.msgs 0 = true) (hS : Wok 103 S) :
  Sp B Tryz.prog 250 [t.sl 1 5, ptr pe, .pointer (some ad)] R [Wr pw S] (fun u H' => u = .tuple #[] ∧ ∃ S', Wrt 103 S (fileB x) S' ∧ H' = [Wr pw S']) := by
 have e : (([(⟨1, 2, false, 239, [t.bp 67, t.bp 66], 240, [t.bp 67]⟩, fText 1 x.path), (⟨2, 2, false, 239, [t.bp 69, t.bp 68], 240, [t.bp 69]⟩, fText 2 x.pack), (⟨3, 2, true, 241, [t.bp 73, t.bp 70, t.bp 71], 243, [t.bp 72, t.bp 73, t.bp 71]⟩, fRecs 3 impB x.imps.l), (⟨4, 2, true, 245, [t.bp 77, t.bp 74, t.bp 75], 246, [t.bp 76, t.bp 77, t.bp 75]⟩, fRecs 4 (fun m => msgB m 0) x.msgs), (⟨5, 2, true, 247, [t.bp 81, t.bp 78, t.bp 79], 248, [t.bp 80, t.bp 81, t.bp 79]⟩, fRecs 5 enumB x.enums.l)] : List (FP × Txt))).flatMap (·.2) = fileB x := by
  unfold fileB
  rw [msgsB_eq]
  simp only [List.flatMap_cons, List.flatMap_nil, List.append_nil]
 rw [← e]
 refine files_all (fs := ([(⟨1, 2, false, 239, [t.bp 67, t.bp 66], 240, [t.bp 67]⟩, fText 1 x.path), (⟨2, 2, false, 239, [t.bp 69, t.bp 68], 240, [t.bp 69]⟩, fText 2 x.pack), (⟨3, 2, true, 241, [t.bp 73, t.bp 70, t.bp 71], 243, [t.bp 72, t.bp 73, t.bp 71]⟩, fRecs 3 impB x.imps.l), (⟨4, 2, true, 245, [t.bp 77, t.bp 74, t.bp 75], 246, [t.bp 76, t.bp 77, t.bp 75]⟩, fRecs 4 (fun m => msgB m 0) x.msgs), (⟨5, 2, true, 247, [t.bp 81, t.bp 78, t.bp 79], 248, [t.bp 80, t.bp 81, t.bp 79]⟩, fRecs 5 enumB x.enums.l)] : List (FP × Txt))) (a := t.ra 1) (c := t.rc 1) (k := 103) (pe := pe) (pw := pw) (ad := ad) (S := S) (R := R) hF.r1 (Nat.le_of_ble_eq_true rfl) ?_ hS
 exact List.forall_mem_cons.2 ⟨⟨⟨_, rfl⟩, fun H S hS => oneText_File_put (Rd.under hO H) ((hF.under H).box 66 _ _ _ rfl) ((hF.under H).box 67 _ _ _ rfl) rfl (of28_fn ad) (StAt.under hx H) (by decide) (by decide) (v := x.path) rfl ho.path hS.1⟩,
  List.forall_mem_cons.2 ⟨⟨⟨_, rfl⟩, fun H S hS => oneText_File_put (Rd.under hO H) ((hF.under H).box 68 _ _ _ rfl) ((hF.under H).box 69 _ _ _ rfl) rfl (of29_fn ad) (StAt.under hx H) (by decide) (by decide) (v := x.pack) rfl ho.pack hS.1⟩,
  List.forall_mem_cons.2 ⟨⟨⟨_, rfl⟩, fun H S hS => some_File_Import_put (v := x.imps) (cl := ImpT.cells) (bs := impB) (Rd.under hO H) ((hF.under H).box 70 _ _ _ rfl) ((hF.under H).box 73 _ _ _ rfl) rfl (of30_fn ad) (StAt.under hx H) (by decide) (by decide) ((hF.under H).box 71 _ _ _ rfl) (hF.under H).forms rfl (fun _ => rfl) rfl ho.imps.1.1 (Rd.under hin.imps H) (fun i x hi H2 S hS => import_w (Facts.under (hF.under H) H2) (Rd.under (Rd.under hO H) H2) (StAt.row (Rd.under (Rd.under hin.imps H) H2) (flat_sub (f := ImpT.cells) (z := 2) (fun _ => rfl) _ i x hi)) (ho.imps.2 x (List.mem_of_getElem? hi)) hS) hS⟩,
  List.forall_mem_cons.2 ⟨⟨⟨_, rfl⟩, fun H S hS => some_File_MessageDef_put (v := ⟨x.ma, x.mc, x.msgs⟩) (cl := MsgT.cells) (bs := (fun m => msgB m 0)) (Rd.under hO H) ((hF.under H).box 74 _ _ _ rfl) ((hF.under H).box 77 _ _ _ rfl) rfl (of31_fn ad) (StAt.under hx H) (by decide) (by decide) ((hF.under H).box 75 _ _ _ rfl) (hF.under H).forms rfl (fun _ => rfl) rfl ho.msgs.1.1 (Rd.under hin.msgs H) (fun i x hi H2 S hS => message_w 100 (d := 0) (goodMs_deep 100 (by omega) (goodMsL_mem hg (List.mem_of_getElem? hi))) (goodMsL_mem hg (List.mem_of_getElem? hi)) (Facts.under (hF.under H) H2) (Rd.under (Rd.under hO H) H2) (StAt.row (Rd.under (Rd.under hin.msgs H) H2) (flat_sub (f := MsgT.cells) (z := 7) (fun _ => rfl) _ i x hi)) (ho.msgs.2 x (List.mem_of_getElem? hi)) (MsgT.In.mono (fun _ _ _ _ _ h => Rd.under (Rd.under h H) H2) (hin.sub x (List.mem_of_getElem? hi))) hS) hS⟩,
  List.forall_mem_cons.2 ⟨⟨⟨_, rfl⟩, fun H S hS => some_File_EnumDef_put (v := x.enums) (cl := EnumT.cells) (bs := enumB) (Rd.under hO H) ((hF.under H).box 78 _ _ _ rfl) ((hF.under H).box 81 _ _ _ rfl) rfl (of32_fn ad) (StAt.under hx H) (by decide) (by decide) ((hF.under H).box 79 _ _ _ rfl) (hF.under H).forms rfl (fun _ => rfl) rfl ho.enums.1.1 (Rd.under hin.enums H) (fun i x hi H2 S hS => enum_w (k := 101) (Facts.under (hF.under H) H2) (Rd.under (Rd.under hO H) H2) (StAt.row (Rd.under (Rd.under hin.enums H) H2) (flat_sub (f := EnumT.cells) (z := 5) (fun _ => rfl) _ i x hi)) (ho.enums.2 x (List.mem_of_getElem? hi)) (EnumT.In.mono (fun _ _ _ _ _ h => Rd.under (Rd.under h H) H2) (hin.esub x (List.mem_of_getElem? hi))) hS) hS⟩,
  fun _ h => by cases h⟩⟩⟩⟩⟩
theorem set_w {R : List HP} {ad : Addr} {S : WS} (hF : Facts B R t) (hO : Rd B R (some ⟨pe, 0, none⟩) 1 1 2 [ptr pw, .int .i64 0]) {v : Rw FileT} (hx : StAt B R ad [v.v]) (hvl : v.l.length ≤ 140737488355328) (hv : Rd B R v.a v.l.length v.c 5 (v.l.flatMap FileT.cells)) (ho : ∀ x ∈ v.l, x.Ok) (hin : ∀ x ∈ v.l, x.In (Rd B R)) (hg : ∀ x ∈ v.l, goodMsL x.msgs 0 = true) (hS : Wok 104 S) :
  Sp B Tryz.prog 62 [t.sl 0 1, ptr pe, .pointer (some ad)] R [Wr pw S] (fun u H' => u = .tuple #[] ∧ ∃ S', Wrt 104 S (setB v.l) S' ∧ H' = [Wr pw S']) := by
 have e : (([(⟨1, 2, true, 249, [t.bp 85, t.bp 82, t.bp 83], 251, [t.bp 84, t.bp 85, t.bp 83]⟩, fRecs 1 fileB v.l)] : List (FP × Txt))).flatMap (·.2) = setB v.l := by
  unfold setB
  simp only [List.flatMap_cons, List.flatMap_nil, List.append_nil]
 rw [← e]
 refine sets_all (fs := ([(⟨1, 2, true, 249, [t.bp 85, t.bp 82, t.bp 83], 251, [t.bp 84, t.bp 85, t.bp 83]⟩, fRecs 1 fileB v.l)] : List (FP × Txt))) (a := t.ra 0) (c := t.rc 0) (k := 104) (pe := pe) (pw := pw) (ad := ad) (S := S) (R := R) hF.r0 (Nat.le_of_ble_eq_true rfl) ?_ hS
 exact List.forall_mem_cons.2 ⟨⟨⟨_, rfl⟩, fun H S hS => some_set_File_put (v := v) (cl := FileT.cells) (bs := fileB) (Rd.under hO H) ((hF.under H).box 82 _ _ _ rfl) ((hF.under H).box 85 _ _ _ rfl) rfl (of33_fn ad) (StAt.under hx H) (by decide) (by decide) ((hF.under H).box 83 _ _ _ rfl) (hF.under H).forms rfl (fun _ => rfl) rfl hvl (Rd.under hv H) (fun i x hi H2 S hS => file_w (Facts.under (hF.under H) H2) (Rd.under (Rd.under hO H) H2) (StAt.row (Rd.under (Rd.under hv H) H2) (flat_sub (f := FileT.cells) (z := 5) (fun _ => rfl) _ i x hi)) (ho x (List.mem_of_getElem? hi)) (FileT.In.mono (fun _ _ _ _ _ h => Rd.under (Rd.under h H) H2) (hin x (List.mem_of_getElem? hi))) (hg x (List.mem_of_getElem? hi)) hS) hS⟩,
  fun _ h => by cases h⟩
end Go.Proofs.YtclcnhfponjdaaaGreatDoor
end
section
namespace Go.Proofs.YtclcnhfponjdaaaGreatDoor
open Go.Sk
set_option maxRecDepth 100000
theorem Sat.eqH {B : World} {X Y : List HP} {w : World} (h : Sat B X w) (e : X = Y) : Sat B Y w := e ▸ h
def tblH (t : TB) : List HP := [Bag ((boxes t).map fun q => Cs q.1 q.2.1 [q.2.2]), Own (t.ra 0) (t.rc 0) 306 5 1 ((fs0 t).flatMap FP.cells), Own (t.ra 1) (t.rc 1) 292 5 5 ((fs1 t).flatMap FP.cells), Own (t.ra 2) (t.rc 2) 283 5 2 ((fs2 t).flatMap FP.cells), Own (t.ra 3) (t.rc 3) 260 5 7 ((fs3 t).flatMap FP.cells), Own (t.ra 4) (t.rc 4) 234 5 9 ((fs4 t).flatMap FP.cells), Own (t.ra 5) (t.rc 5) 213 5 5 ((fs5 t).flatMap FP.cells), Own (t.ra 6) (t.rc 6) 203 5 2 ((fs6 t).flatMap FP.cells), Own (t.ra 7) (t.rc 7) 193 5 2 ((fs7 t).flatMap FP.cells), Cs t.p 116 t.forms]
attribute [local irreducible] Cs Own Ex Pu Yld RT LJ QJ AtQ CT Rd QSp Sp FinQ Then LoopQ CutQ DT TakeQ EffQ
attribute [local irreducible] Bag
variable {B : World} {R : List HP}
set_option maxHeartbeats 16000000 in
theorem tables_fn : Sp B Tryz.prog 31 [] R [] (fun v H' => ∃ t : TB, v = ptr t.p ∧ H' = tblH t) := by
 refine Sp.body Tryz.func31 rfl Tryz.ntmps31 (by simp) ?_
 simp only [argE, List.cons_append, List.nil_append, Nat.zero_add, Nat.reduceAdd]
 repeat' (first|refine gQ ?_|(refine gb ?_;intro b)|fail)
 revert b
 intro p
 refine RT.weak (fun w h => Bag.nil_ h) ?_
 skip
 refine RT.call T rfl fR_ (signed_Span_int32_fn) rfl rfl rfl ?_
 rintro _ _ ⟨b0, b1, rfl, rfl⟩
 refine RT.weak (fun w h => Bag.add (qs := [_, _]) h) ?_
 skip
 refine RT.call T rfl fR_ (signed_Span_int32_fn) rfl rfl rfl ?_
 rintro _ _ ⟨b2, b3, rfl, rfl⟩
 refine RT.weak (fun w h => Bag.add (qs := [_, _]) h) ?_
 refine RT.bsA T (l := [.int .i32 1, .int .u8 0, .bool false, .func (.func 175) #[] #[ptr b1, ptr b0], .func (.func 179) #[] #[ptr b1], .int .i32 2, .int .u8 0, .bool false, .func (.func 175) #[] #[ptr b3, ptr b2], .func (.func 179) #[] #[ptr b3]]) rfl rfl rfl rfl rfl rfl rfl rfl (fun a7 => ?_)
 try refine gQ ?_
 refine RT.weak (fun w h => h.sel (p := Bag _) sE_) ?_
 refine RT.call T rfl fR_ (oneText_EnumValue_fn) rfl rfl rfl ?_
 rintro _ _ ⟨b4, b5, rfl, rfl⟩
 refine RT.weak (fun w h => Bag.add (qs := [_, _]) h) ?_
 skip
 refine RT.call T rfl fR_ (signed_EnumValue_int32_fn) rfl rfl rfl ?_
 rintro _ _ ⟨b6, b7, rfl, rfl⟩
 refine RT.weak (fun w h => Bag.add (qs := [_, _]) h) ?_
 refine RT.bsA T (l := [.int .i32 1, .int .u8 2, .bool false, .func (.func 182) #[] #[ptr b5, ptr b4], .func (.func 184) #[] #[ptr b5], .int .i32 2, .int .u8 0, .bool false, .func (.func 186) #[] #[ptr b7, ptr b6], .func (.func 187) #[] #[ptr b7]]) rfl rfl rfl rfl rfl rfl rfl rfl (fun a6 => ?_)
 try refine gQ ?_
 refine CT.weak (fun w h => h.sel (p := Bag _) sE_) ?_
 refine CT.drawn [] 15 mixed ?_
 (refine DT.takes (k := 9) [0, 2, 3, 4, 7, 8, 9] [1, 5, 6, 10, 11, 12, 13, 14, 15] (fun w h => Sat.ones (by (repeat (first|exact Fr.nil|(apply Fr.cons;focus ((repeat constructor);done))))) h) (by kernel_rfl) (by kernel_rfl) (by kernel_rfl) rfl (Clos.ofB (by kernel_rfl)) ?_)
 try refine gL ?_
 refine AtQ.take ?_
 (refine DT.eff 1 rfl (by kernel_rfl) ?_)
 refine RT.call T rfl fR_ (oneText_EnumDef_fn) rfl rfl rfl ?_
 rintro _ _ ⟨b8, b9, rfl, rfl⟩
 refine RT.weak (fun w h => Bag.add (qs := [_, _]) h) ?_
 (refine RT.nil ?_; refine AtQ.eff (fun w h => Sat.ones fR_ h) ?_)
 (refine DT.eff 5 rfl (by kernel_rfl) ?_)
 refine RT.call T rfl fR_ (some_EnumDef_EnumValue_fn) rfl rfl rfl ?_
 rintro _ _ ⟨b10, b11, b12, b13, rfl, rfl⟩
 refine RT.weak (fun w h => Bag.add (qs := [_, _, _, _]) h) ?_
 (refine RT.nil ?_; refine AtQ.eff (fun w h => Sat.ones fR_ h) ?_)
 (refine DT.eff 6 rfl (by kernel_rfl) ?_)
 refine RT.call T rfl fR_ (truth_EnumDef_fn) rfl rfl rfl ?_
 rintro _ _ ⟨b14, b15, rfl, rfl⟩
 refine RT.weak (fun w h => Bag.add (qs := [_, _]) h) ?_
 (refine RT.nil ?_; refine AtQ.eff (fun w h => Sat.ones fR_ h) ?_)
 (refine DT.eff 10 rfl (by kernel_rfl) ?_)
 refine RT.call T rfl fR_ (some_EnumDef_Span_fn) rfl rfl rfl ?_
 rintro _ _ ⟨b16, b17, b18, b19, rfl, rfl⟩
 refine RT.weak (fun w h => Bag.add (qs := [_, _, _, _]) h) ?_
 (refine RT.nil ?_; refine AtQ.eff (fun w h => Sat.ones fR_ h) ?_)
 (refine DT.eff 11 rfl (by kernel_rfl) ?_)
 refine RT.call T rfl fR_ (someTexts_EnumDef_fn) rfl rfl rfl ?_
 rintro _ _ ⟨b20, b21, rfl, rfl⟩
 refine RT.weak (fun w h => Bag.add (qs := [_, _]) h) ?_
 (refine RT.nil ?_; refine AtQ.eff (fun w h => Sat.ones fR_ h) ?_)
 (refine DT.eff 12 rfl (by kernel_rfl) ?_)
 refine RT.bsA T (l := [.int .i32 1, .int .u8 2, .bool false, .func (.func 188) #[] #[ptr b9, ptr b8], .func (.func 189) #[] #[ptr b9], .int .i32 2, .int .u8 2, .bool true, .func (.func 190) #[] #[ptr b13, ptr b10, ptr b11], .func (.func 194) #[] #[ptr b12, ptr b13, ptr b11], .int .i32 3, .int .u8 0, .bool false, .func (.func 197) #[] #[ptr b15, ptr b14], .func (.func 198) #[] #[ptr b15], .int .i32 4, .int .u8 2, .bool true, .func (.func 199) #[] #[ptr b19, ptr b16, ptr b17], .func (.func 201) #[] #[ptr b18, ptr b19, ptr b17], .int .i32 5, .int .u8 2, .bool true, .func (.func 203) #[] #[ptr b21, ptr b20], .func (.func 204) #[] #[ptr b21]]) rfl rfl rfl rfl rfl rfl rfl rfl (fun a5 => ?_)
 (refine RT.nil ?_; refine AtQ.eff (fun w h => Sat.ones fR_ h) ?_)
 (refine DT.takes (k := 1) [13, 14] [15] (fun w h => Sat.ones (by (repeat (first|exact Fr.nil|(apply Fr.cons;focus ((repeat constructor);done))))) h) (by kernel_rfl) (by kernel_rfl) (by kernel_rfl) rfl (Clos.ofB (by kernel_rfl)) ?_)
 try refine gL ?_
 refine AtQ.take ?_
 (refine DT.eff 15 rfl (by kernel_rfl) ?_)
 try refine gL ?_
 refine AtQ.eff' (by kernel_rfl) ?_
 (refine DT.done (by kernel_rfl) ?_)
 try refine gQ ?_
 refine RT.weak (fun w h => h.sel (p := Bag _) sE_) ?_
 refine RT.call T rfl fR_ (oneText_FieldDef_fn) rfl rfl rfl ?_
 rintro _ _ ⟨b22, b23, rfl, rfl⟩
 refine RT.weak (fun w h => Bag.add (qs := [_, _]) h) ?_
 skip
 refine RT.call T rfl fR_ (signed_FieldDef_int32_fn) rfl rfl rfl ?_
 rintro _ _ ⟨b24, b25, rfl, rfl⟩
 refine RT.weak (fun w h => Bag.add (qs := [_, _]) h) ?_
 skip
 refine RT.call T rfl fR_ (small_FieldDef_Card_fn) rfl rfl rfl ?_
 rintro _ _ ⟨b26, b27, rfl, rfl⟩
 refine RT.weak (fun w h => Bag.add (qs := [_, _]) h) ?_
 skip
 refine RT.call T rfl fR_ (small_FieldDef_Kind_fn) rfl rfl rfl ?_
 rintro _ _ ⟨b28, b29, rfl, rfl⟩
 refine RT.weak (fun w h => Bag.add (qs := [_, _]) h) ?_
 skip
 refine RT.call T rfl fR_ (oneText_FieldDef_fn) rfl rfl rfl ?_
 rintro _ _ ⟨b30, b31, rfl, rfl⟩
 refine RT.weak (fun w h => Bag.add (qs := [_, _]) h) ?_
 skip
 refine RT.call T rfl fR_ (small_FieldDef_Kind_fn) rfl rfl rfl ?_
 rintro _ _ ⟨b32, b33, rfl, rfl⟩
 refine RT.weak (fun w h => Bag.add (qs := [_, _]) h) ?_
 skip
 refine RT.call T rfl fR_ (signed_FieldDef_int_fn) rfl rfl rfl ?_
 rintro _ _ ⟨b34, b35, rfl, rfl⟩
 refine RT.weak (fun w h => Bag.add (qs := [_, _]) h) ?_
 skip
 refine RT.call T rfl fR_ (small_FieldDef_Tri_fn) rfl rfl rfl ?_
 rintro _ _ ⟨b36, b37, rfl, rfl⟩
 refine RT.weak (fun w h => Bag.add (qs := [_, _]) h) ?_
 skip
 refine RT.call T rfl fR_ (oneText_FieldDef_fn) rfl rfl rfl ?_
 rintro _ _ ⟨b38, b39, rfl, rfl⟩
 refine RT.weak (fun w h => Bag.add (qs := [_, _]) h) ?_
 refine RT.bsA T (l := [.int .i32 1, .int .u8 2, .bool false, .func (.func 205) #[] #[ptr b23, ptr b22], .func (.func 206) #[] #[ptr b23], .int .i32 2, .int .u8 0, .bool false, .func (.func 207) #[] #[ptr b25, ptr b24], .func (.func 208) #[] #[ptr b25], .int .i32 3, .int .u8 0, .bool false, .func (.func 209) #[] #[ptr b27, ptr b26], .func (.func 210) #[] #[ptr b27], .int .i32 4, .int .u8 0, .bool false, .func (.func 211) #[] #[ptr b29, ptr b28], .func (.func 212) #[] #[ptr b29], .int .i32 5, .int .u8 2, .bool false, .func (.func 205) #[] #[ptr b31, ptr b30], .func (.func 206) #[] #[ptr b31], .int .i32 6, .int .u8 0, .bool false, .func (.func 211) #[] #[ptr b33, ptr b32], .func (.func 212) #[] #[ptr b33], .int .i32 7, .int .u8 0, .bool false, .func (.func 213) #[] #[ptr b35, ptr b34], .func (.func 214) #[] #[ptr b35], .int .i32 8, .int .u8 0, .bool false, .func (.func 215) #[] #[ptr b37, ptr b36], .func (.func 216) #[] #[ptr b37], .int .i32 9, .int .u8 2, .bool false, .func (.func 205) #[] #[ptr b39, ptr b38], .func (.func 206) #[] #[ptr b39]]) rfl rfl rfl rfl rfl rfl rfl rfl (fun a4 => ?_)
 try refine gQ ?_
 refine CT.weak (fun w h => h.sel (p := Bag _) sE_) ?_
 refine CT.drawn [] 23 mixed ?_
 (refine DT.takes (k := 11) [0, 2, 3, 4, 7, 8, 9, 11, 12, 13, 15, 16, 17] [1, 5, 6, 10, 14, 18, 19, 20, 21, 22, 23] (fun w h => Sat.ones (by (repeat (first|exact Fr.nil|(apply Fr.cons;focus ((repeat constructor);done))))) h) (by kernel_rfl) (by kernel_rfl) (by kernel_rfl) rfl (Clos.ofB (by kernel_rfl)) ?_)
 try refine gL ?_
 refine AtQ.take ?_
 (refine DT.eff 1 rfl (by kernel_rfl) ?_)
 refine RT.call T rfl fR_ (oneText_MessageDef_fn) rfl rfl rfl ?_
 rintro _ _ ⟨b40, b41, rfl, rfl⟩
 refine RT.weak (fun w h => Bag.add (qs := [_, _]) h) ?_
 (refine RT.nil ?_; refine AtQ.eff (fun w h => Sat.ones fR_ h) ?_)
 (refine DT.eff 5 rfl (by kernel_rfl) ?_)
 refine RT.call T rfl fR_ (some_MessageDef_FieldDef_fn) rfl rfl rfl ?_
 rintro _ _ ⟨b42, b43, b44, b45, rfl, rfl⟩
 refine RT.weak (fun w h => Bag.add (qs := [_, _, _, _]) h) ?_
 (refine RT.nil ?_; refine AtQ.eff (fun w h => Sat.ones fR_ h) ?_)
 (refine DT.eff 6 rfl (by kernel_rfl) ?_)
 refine RT.call T rfl fR_ (someTexts_MessageDef_fn) rfl rfl rfl ?_
 rintro _ _ ⟨b46, b47, rfl, rfl⟩
 refine RT.weak (fun w h => Bag.add (qs := [_, _]) h) ?_
 (refine RT.nil ?_; refine AtQ.eff (fun w h => Sat.ones fR_ h) ?_)
 (refine DT.eff 10 rfl (by kernel_rfl) ?_)
 refine RT.call T rfl fR_ (some_MessageDef_MessageDef_fn) rfl rfl rfl ?_
 rintro _ _ ⟨b48, b49, b50, b51, rfl, rfl⟩
 refine RT.weak (fun w h => Bag.add (qs := [_, _, _, _]) h) ?_
 (refine RT.nil ?_; refine AtQ.eff (fun w h => Sat.ones fR_ h) ?_)
 (refine DT.eff 14 rfl (by kernel_rfl) ?_)
 refine RT.call T rfl fR_ (some_MessageDef_EnumDef_fn) rfl rfl rfl ?_
 rintro _ _ ⟨b52, b53, b54, b55, rfl, rfl⟩
 refine RT.weak (fun w h => Bag.add (qs := [_, _, _, _]) h) ?_
 (refine RT.nil ?_; refine AtQ.eff (fun w h => Sat.ones fR_ h) ?_)
 (refine DT.eff 18 rfl (by kernel_rfl) ?_)
 refine RT.call T rfl fR_ (some_MessageDef_Span_fn) rfl rfl rfl ?_
 rintro _ _ ⟨b56, b57, b58, b59, rfl, rfl⟩
 refine RT.weak (fun w h => Bag.add (qs := [_, _, _, _]) h) ?_
 (refine RT.nil ?_; refine AtQ.eff (fun w h => Sat.ones fR_ h) ?_)
 (refine DT.eff 19 rfl (by kernel_rfl) ?_)
 refine RT.call T rfl fR_ (someTexts_MessageDef_fn) rfl rfl rfl ?_
 rintro _ _ ⟨b60, b61, rfl, rfl⟩
 refine RT.weak (fun w h => Bag.add (qs := [_, _]) h) ?_
 (refine RT.nil ?_; refine AtQ.eff (fun w h => Sat.ones fR_ h) ?_)
 (refine DT.eff 20 rfl (by kernel_rfl) ?_)
 refine RT.bsA T (l := [.int .i32 1, .int .u8 2, .bool false, .func (.func 217) #[] #[ptr b41, ptr b40], .func (.func 218) #[] #[ptr b41], .int .i32 2, .int .u8 2, .bool true, .func (.func 219) #[] #[ptr b45, ptr b42, ptr b43], .func (.func 221) #[] #[ptr b44, ptr b45, ptr b43], .int .i32 3, .int .u8 2, .bool true, .func (.func 223) #[] #[ptr b47, ptr b46], .func (.func 224) #[] #[ptr b47], .int .i32 4, .int .u8 2, .bool true, .func (.func 225) #[] #[ptr b51, ptr b48, ptr b49], .func (.func 227) #[] #[ptr b50, ptr b51, ptr b49], .int .i32 5, .int .u8 2, .bool true, .func (.func 229) #[] #[ptr b55, ptr b52, ptr b53], .func (.func 231) #[] #[ptr b54, ptr b55, ptr b53], .int .i32 6, .int .u8 2, .bool true, .func (.func 233) #[] #[ptr b59, ptr b56, ptr b57], .func (.func 234) #[] #[ptr b58, ptr b59, ptr b57], .int .i32 7, .int .u8 2, .bool true, .func (.func 223) #[] #[ptr b61, ptr b60], .func (.func 224) #[] #[ptr b61]]) rfl rfl rfl rfl rfl rfl rfl rfl (fun a3 => ?_)
 (refine RT.nil ?_; refine AtQ.eff (fun w h => Sat.ones fR_ h) ?_)
 (refine DT.takes (k := 1) [21, 22] [23] (fun w h => Sat.ones (by (repeat (first|exact Fr.nil|(apply Fr.cons;focus ((repeat constructor);done))))) h) (by kernel_rfl) (by kernel_rfl) (by kernel_rfl) rfl (Clos.ofB (by kernel_rfl)) ?_)
 try refine gL ?_
 refine AtQ.take ?_
 (refine DT.eff 23 rfl (by kernel_rfl) ?_)
 try refine gL ?_
 refine AtQ.eff' (by kernel_rfl) ?_
 (refine DT.done (by kernel_rfl) ?_)
 try refine gQ ?_
 refine RT.weak (fun w h => h.sel (p := Bag _) sE_) ?_
 refine RT.call T rfl fR_ (oneText_Import_fn) rfl rfl rfl ?_
 rintro _ _ ⟨b62, b63, rfl, rfl⟩
 refine RT.weak (fun w h => Bag.add (qs := [_, _]) h) ?_
 skip
 refine RT.call T rfl fR_ (truth_Import_fn) rfl rfl rfl ?_
 rintro _ _ ⟨b64, b65, rfl, rfl⟩
 refine RT.weak (fun w h => Bag.add (qs := [_, _]) h) ?_
 refine RT.bsA T (l := [.int .i32 1, .int .u8 2, .bool false, .func (.func 235) #[] #[ptr b63, ptr b62], .func (.func 236) #[] #[ptr b63], .int .i32 2, .int .u8 0, .bool false, .func (.func 237) #[] #[ptr b65, ptr b64], .func (.func 238) #[] #[ptr b65]]) rfl rfl rfl rfl rfl rfl rfl rfl (fun a2 => ?_)
 try refine gQ ?_
 refine CT.weak (fun w h => h.sel (p := Bag _) sE_) ?_
 refine CT.drawn [] 18 mixed ?_
 (refine DT.takes (k := 9) [0, 3, 4, 5, 7, 8, 9, 11, 12, 13] [1, 2, 6, 10, 14, 15, 16, 17, 18] (fun w h => Sat.ones (by (repeat (first|exact Fr.nil|(apply Fr.cons;focus ((repeat constructor);done))))) h) (by kernel_rfl) (by kernel_rfl) (by kernel_rfl) rfl (Clos.ofB (by kernel_rfl)) ?_)
 try refine gL ?_
 refine AtQ.take ?_
 (refine DT.eff 1 rfl (by kernel_rfl) ?_)
 refine RT.call T rfl fR_ (oneText_File_fn) rfl rfl rfl ?_
 rintro _ _ ⟨b66, b67, rfl, rfl⟩
 refine RT.weak (fun w h => Bag.add (qs := [_, _]) h) ?_
 (refine RT.nil ?_; refine AtQ.eff (fun w h => Sat.ones fR_ h) ?_)
 (refine DT.eff 2 rfl (by kernel_rfl) ?_)
 refine RT.call T rfl fR_ (oneText_File_fn) rfl rfl rfl ?_
 rintro _ _ ⟨b68, b69, rfl, rfl⟩
 refine RT.weak (fun w h => Bag.add (qs := [_, _]) h) ?_
 (refine RT.nil ?_; refine AtQ.eff (fun w h => Sat.ones fR_ h) ?_)
 (refine DT.eff 6 rfl (by kernel_rfl) ?_)
 refine RT.call T rfl fR_ (some_File_Import_fn) rfl rfl rfl ?_
 rintro _ _ ⟨b70, b71, b72, b73, rfl, rfl⟩
 refine RT.weak (fun w h => Bag.add (qs := [_, _, _, _]) h) ?_
 (refine RT.nil ?_; refine AtQ.eff (fun w h => Sat.ones fR_ h) ?_)
 (refine DT.eff 10 rfl (by kernel_rfl) ?_)
 refine RT.call T rfl fR_ (some_File_MessageDef_fn) rfl rfl rfl ?_
 rintro _ _ ⟨b74, b75, b76, b77, rfl, rfl⟩
 refine RT.weak (fun w h => Bag.add (qs := [_, _, _, _]) h) ?_
 (refine RT.nil ?_; refine AtQ.eff (fun w h => Sat.ones fR_ h) ?_)
 (refine DT.eff 14 rfl (by kernel_rfl) ?_)
 refine RT.call T rfl fR_ (some_File_EnumDef_fn) rfl rfl rfl ?_
 rintro _ _ ⟨b78, b79, b80, b81, rfl, rfl⟩
 refine RT.weak (fun w h => Bag.add (qs := [_, _, _, _]) h) ?_
 (refine RT.nil ?_; refine AtQ.eff (fun w h => Sat.ones fR_ h) ?_)
 (refine DT.eff 15 rfl (by kernel_rfl) ?_)
 refine RT.bsA T (l := [.int .i32 1, .int .u8 2, .bool false, .func (.func 239) #[] #[ptr b67, ptr b66], .func (.func 240) #[] #[ptr b67], .int .i32 2, .int .u8 2, .bool false, .func (.func 239) #[] #[ptr b69, ptr b68], .func (.func 240) #[] #[ptr b69], .int .i32 3, .int .u8 2, .bool true, .func (.func 241) #[] #[ptr b73, ptr b70, ptr b71], .func (.func 243) #[] #[ptr b72, ptr b73, ptr b71], .int .i32 4, .int .u8 2, .bool true, .func (.func 245) #[] #[ptr b77, ptr b74, ptr b75], .func (.func 246) #[] #[ptr b76, ptr b77, ptr b75], .int .i32 5, .int .u8 2, .bool true, .func (.func 247) #[] #[ptr b81, ptr b78, ptr b79], .func (.func 248) #[] #[ptr b80, ptr b81, ptr b79]]) rfl rfl rfl rfl rfl rfl rfl rfl (fun a1 => ?_)
 (refine RT.nil ?_; refine AtQ.eff (fun w h => Sat.ones fR_ h) ?_)
 (refine DT.takes (k := 1) [16, 17] [18] (fun w h => Sat.ones (by (repeat (first|exact Fr.nil|(apply Fr.cons;focus ((repeat constructor);done))))) h) (by kernel_rfl) (by kernel_rfl) (by kernel_rfl) rfl (Clos.ofB (by kernel_rfl)) ?_)
 try refine gL ?_
 refine AtQ.take ?_
 (refine DT.eff 18 rfl (by kernel_rfl) ?_)
 try refine gL ?_
 refine AtQ.eff' (by kernel_rfl) ?_
 (refine DT.done (by kernel_rfl) ?_)
 try refine gQ ?_
 refine RT.weak (fun w h => h.sel (p := Bag _) sE_) ?_
 refine RT.call T rfl fR_ (some_set_File_fn) rfl rfl rfl ?_
 rintro _ _ ⟨b82, b83, b84, b85, rfl, rfl⟩
 refine RT.weak (fun w h => Bag.add (qs := [_, _, _, _]) h) ?_
 refine RT.bsA T (l := [.int .i32 1, .int .u8 2, .bool true, .func (.func 249) #[] #[ptr b85, ptr b82, ptr b83], .func (.func 251) #[] #[ptr b84, ptr b85, ptr b83]]) rfl rfl rfl rfl rfl rfl rfl rfl (fun a0 => ?_)
 try refine gQ ?_
 refine AtQ.fin1 (H' := tblH ⟨p, [(a0, 1), (a1, 5), (a2, 2), (a3, 7), (a4, 9), (a5, 5), (a6, 2), (a7, 2)], [b0, b1, b2, b3, b4, b5, b6, b7, b8, b9, b10, b11, b12, b13, b14, b15, b16, b17, b18, b19, b20, b21, b22, b23, b24, b25, b26, b27, b28, b29, b30, b31, b32, b33, b34, b35, b36, b37, b38, b39, b40, b41, b42, b43, b44, b45, b46, b47, b48, b49, b50, b51, b52, b53, b54, b55, b56, b57, b58, b59, b60, b61, b62, b63, b64, b65, b66, b67, b68, b69, b70, b71, b72, b73, b74, b75, b76, b77, b78, b79, b80, b81, b82, b83, b84, b85]⟩) Tryz.results31 rfl ⟨⟨p, [(a0, 1), (a1, 5), (a2, 2), (a3, 7), (a4, 9), (a5, 5), (a6, 2), (a7, 2)], [b0, b1, b2, b3, b4, b5, b6, b7, b8, b9, b10, b11, b12, b13, b14, b15, b16, b17, b18, b19, b20, b21, b22, b23, b24, b25, b26, b27, b28, b29, b30, b31, b32, b33, b34, b35, b36, b37, b38, b39, b40, b41, b42, b43, b44, b45, b46, b47, b48, b49, b50, b51, b52, b53, b54, b55, b56, b57, b58, b59, b60, b61, b62, b63, b64, b65, b66, b67, b68, b69, b70, b71, b72, b73, b74, b75, b76, b77, b78, b79, b80, b81, b82, b83, b84, b85]⟩, rfl, rfl⟩ (fun w h => ?_)
 have h2 := h.sel (p := Bag _) sE_
 exact Sat.eqH h2 (by kernel_rfl)
end Go.Proofs.YtclcnhfponjdaaaGreatDoor
end
section
namespace Go.Proofs.YtclcnhfponjdaaaGreatDoor
open Go.Sk
set_option maxRecDepth 100000
theorem selApp {p : HP} {X : List HP} : ∀ A : List HP, Sel (A ++ p :: X) p (A ++ X)
 | [] => .h
 | _ :: A => .t (selApp A)
variable {B : World} {R : List HP} {w : World} {t : TB}
theorem bagRd {ps : List HP} {b : Nat} {ty : TypeId} {v : Value} {k : Nat} (hk : ps[k]? = some (Cs b ty [v])) : Rd B (Bag ps :: R) (some ⟨b, 0, none⟩) 1 1 1 [v] :=
 ⟨rfl, Nat.le_refl _, fun w hS => ⟨fun _ => rfl, fun j u hj => by
  have h2 := Bag.at_ hk hS
  rw [adr, Option.getD_some, addr_add, cs_cell (h2.cs .h).1]
  exact hj⟩⟩
theorem facts_of (hS : Sat B (tblH t ++ R) w) : Facts B (tblH t ++ R) t where
 forms := Cs.rd (l := t.forms) (.t (.t (.t (.t (.t (.t (.t (.t (.t .h)))))))))
 r0 := Own.rd (xs := (fs0 t).flatMap FP.cells) (k := 1) (.t .h) rfl (Own.facts hS (.t .h)).2.1
 r1 := Own.rd (xs := (fs1 t).flatMap FP.cells) (k := 5) (.t (.t .h)) rfl (Own.facts hS (.t (.t .h))).2.1
 r2 := Own.rd (xs := (fs2 t).flatMap FP.cells) (k := 2) (.t (.t (.t .h))) rfl (Own.facts hS (.t (.t (.t .h)))).2.1
 r3 := Own.rd (xs := (fs3 t).flatMap FP.cells) (k := 7) (.t (.t (.t (.t .h)))) rfl (Own.facts hS (.t (.t (.t (.t .h))))).2.1
 r4 := Own.rd (xs := (fs4 t).flatMap FP.cells) (k := 9) (.t (.t (.t (.t (.t .h))))) rfl (Own.facts hS (.t (.t (.t (.t (.t .h)))))).2.1
 r5 := Own.rd (xs := (fs5 t).flatMap FP.cells) (k := 5) (.t (.t (.t (.t (.t (.t .h)))))) rfl (Own.facts hS (.t (.t (.t (.t (.t (.t .h))))))).2.1
 r6 := Own.rd (xs := (fs6 t).flatMap FP.cells) (k := 2) (.t (.t (.t (.t (.t (.t (.t .h))))))) rfl (Own.facts hS (.t (.t (.t (.t (.t (.t (.t .h)))))))).2.1
 r7 := Own.rd (xs := (fs7 t).flatMap FP.cells) (k := 2) (.t (.t (.t (.t (.t (.t (.t (.t .h)))))))) rfl (Own.facts hS (.t (.t (.t (.t (.t (.t (.t (.t .h))))))))).2.1
 box := fun k b ty v e => bagRd (k := k) (ty := ty) (by rw [List.getElem?_map, e]; rfl)
end Go.Proofs.YtclcnhfponjdaaaGreatDoor
end
section
namespace Go.Proofs.YtclcnhfponjdaaaGreatDoor
open Go.Sk
set_option maxRecDepth 100000
/-- What a set is given up by. -/
abbrev rfv : Value := .iface 148 (.agg #[])
abbrev PostG (p : Bool) : Value → List HP → Prop := fun _ H' => p = true ∧ H' = []
abbrev PPG (p : Bool) : Value → List HP → Prop := fun v H' => p = false ∧ v = rfv ∧ H' = []
theorem all_take {α : Type} {f : α → Bool} {l : List α} {i : Nat} {x : α} (hx : l[i]? = some x) (h : (l.take i).all f = true) (h2 : f x = true) : (l.take (i + 1)).all f = true := by
 rw [List.take_add_one, hx, List.all_append, h]
 simp [h2]
theorem all_not {α : Type} {f : α → Bool} {l : List α} {i : Nat} {x : α} (hx : l[i]? = some x) (h2 : f x = false) : l.all f = false := by
 rw [List.all_eq_false]
 exact ⟨x, List.mem_of_getElem? hx, by simp [h2]⟩
attribute [local irreducible] Cs Own Ex Pu Yld RT LJ QJ AtQ CT Rd QSp Sp FinQ Then LoopQ CutQ DT TakeQ EffQ
variable {B : World} {R : List HP}
theorem goods_fn (hT : Lib.Utf8Tabs 0 1 B) {a : Option Addr} {c : Nat} {l : List Txt} (hR : Rd B R a l.length c 1 (l.map vS)) (hb : ∀ t ∈ l, OkT t) (hl : l.length ≤ 140737488355328) :
  SpP B Tryz.prog 154 [.slice a l.length c] R [] (PostG (l.all goodT)) (PPG (l.all goodT)) := by
 refine SpP.body Tryz.func154 rfl Tryz.ntmps154 (by simp) ?_
 simp only [argE, List.cons_append, List.nil_append, Nat.zero_add, Nat.reduceAdd]
 try refine gL ?_
 refine CT.loop (α := Nat) (fun i => [(4, .slice a l.length c), (5, .int .i64 l.length), (6, .int .i64 i)]) (fun i => Pu (i ≤ l.length ∧ (l.take i).all goodT = true) :: R) (fun i => l.length - i) 0
  ⟨rfl, rfl, rfl, trivial⟩ (fun w h => Sat.pu_in ⟨Nat.zero_le _, rfl⟩ h) (fun i => CT.pu fun ⟨hil, hF⟩ => ?_)
 repeat' (first|refine gL ?_|(refine gv ?_;(refine⟨fun hc=>?_,fun hc=>?_⟩<;>first|(exfalso;omega)|skip))|fail)
 ·have hi' : i < l.length := by omega
  have hgi := List.getElem?_eq_getElem hi'
  have hbn := hb _ (List.getElem_mem hi')
  refine RT.ix T (j := i) rfl rfl rfl (by exact hR) (by omega) (by omega) (by omega) rfl rfl ?_
  refine RT.ldr T rfl (by exact hR) (map_get hi') rfl rfl rfl ?_
  revert hgi hbn
  generalize l[i] = t
  intro hgi hbn
  obtain ⟨v0, v1⟩ := hbn
  try refine gL ?_
  (refine RT.call T rfl fR_ (goodS_fn (l := t) hT v0 (by omega)) rfl rfl rfl ?_; rintro _ _ ⟨rfl, rfl⟩; try simp only [List.cons_append, List.nil_append])
  repeat' (first|refine gL ?_|(refine gv ?_;first|(refine⟨fun hc=>?_,fun hc=>?_⟩<;>first|(exfalso;omega)|skip)|refine gk ?_)|fail)
  ·refine RT.mkI rfl Tryz.underlying148 (by intro b h; cases h) rfl rfl ?_
   refine RT.panic rfl rfl ?_
   ((repeat refine nx ?_); exact AtQ.finP (H' := []) ⟨all_not hgi (by unfold goodT; exact decide_eq_false (by omega)), rfl, rfl⟩ dR_)
  ·exact AtQ.loop (i + 1) ⟨rfl, rfl, rfl, trivial⟩ (fun w h => Sat.pu_in ⟨by omega, all_take hgi hF (by unfold goodT; exact decide_eq_true (by omega))⟩ h) (by omega)
 ·obtain rfl : i = l.length := by omega
  rw [List.take_length] at hF
  exact AtQ.ofFinN (AtQ.fin0 Tryz.results154 (H' := []) ⟨hF, rfl⟩ (fun w h => h) _ (.inl rfl))
end Go.Proofs.YtclcnhfponjdaaaGreatDoor
end
section
namespace Go.Proofs.YtclcnhfponjdaaaGreatDoor
open Go.Sk
set_option maxRecDepth 100000
attribute [local irreducible] Cs Own Ex Pu Yld RT LJ QJ AtQ CT Rd QSp Sp FinQ Then LoopQ CutQ DT TakeQ EffQ
variable {B : World} {R : List HP}
set_option maxHeartbeats 1000000 in
theorem goodEn_fn (hT : Lib.Utf8Tabs 0 1 B) {e : EnumT} (hin : e.In (Rd B R)) (hok : e.Ok) :
  SpP B Tryz.prog 156 [.agg e.cells.toArray] R [] (PostG (goodEn e)) (PPG (goodEn e)) := by
 obtain ⟨o1, o2, o3, o4, o5, o6, o7⟩ := hok
 obtain ⟨i1, i2, i3⟩ := hin
 have hvl := o2.1
 have hgE : goodEn e = (goodT e.nm && e.names.l.all goodT && e.vals.l.all fun v => goodT v.nm) := rfl
 refine SpP.body Tryz.func156 rfl Tryz.ntmps156 (by simp) ?_
 simp only [argE, List.cons_append, List.nil_append, Nat.zero_add, Nat.reduceAdd]
 repeat' (first|refine gL ?_|(refine gb ?_;intro b)|fail)
 revert b
 intro b1
 refine RT.bs T (l := [e.nm].map vS) rfl rfl rfl rfl rfl rfl rfl (fun a9 c9 h9 => ?_)
 (refine RT.callP T rfl fR_ (goods_fn hT (l := [e.nm]) (Own.rd sE_ rfl h9) (by simpa using o1) (by simp)) rfl rfl rfl (fun v H1 hp => ?_) (fun v H1 hp => ?_))
 ·obtain ⟨h1, rfl, rfl⟩ := hp
  ((repeat refine nx ?_); exact AtQ.finP (H' := []) ⟨by rw [hgE]; simp at h1; rw [h1]; rfl, rfl, rfl⟩ dR_)
 obtain ⟨h1, rfl⟩ := hp
 refine RT.weak (fun w h => h.tail) ?_
 try refine gL ?_
 (refine RT.callP T rfl fR_ (goods_fn hT (l := e.names.l) (rD (i3)) o7 o6.1) rfl rfl rfl (fun v H1 hp => ?_) (fun v H1 hp => ?_))
 ·obtain ⟨h2, rfl, rfl⟩ := hp
  ((repeat refine nx ?_); exact AtQ.finP (H' := []) ⟨by rw [hgE, h2]; simp, rfl, rfl⟩ dR_)
 obtain ⟨h2, rfl⟩ := hp
 simp only [List.nil_append]
 try refine gL ?_
 refine CT.loop (α := Nat) (fun i => [(1, .pointer (some ⟨b1, 0, none⟩)), (12, e.vals.v), (13, .int .i64 e.vals.l.length), (14, .int .i64 i)]) (fun i => Pu (i ≤ e.vals.l.length ∧ ((e.vals.l.take i).all fun v => goodT v.nm) = true) :: Cs b1 85 e.cells :: R) (fun i => e.vals.l.length - i) 0
  ⟨rfl, rfl, rfl, rfl, trivial⟩ (fun w h => Sat.pu_in ⟨Nat.zero_le _, rfl⟩ h) (fun i => CT.pu fun ⟨hil, hF⟩ => ?_)
 repeat' (first|refine gL ?_|(refine gv ?_;(refine⟨fun hc=>?_,fun hc=>?_⟩<;>first|(exfalso;omega)|skip))|fail)
 ·have hi' : i < e.vals.l.length := by omega
  have hgi := List.getElem?_eq_getElem hi'
  have hbn := (o3 _ (List.getElem_mem hi')).1
  revert hgi hbn
  generalize e.vals.l[i] = v
  intro hgi hbn
  refine RT.ix T (j := i * 2) rfl rfl rfl (rD (i1)) (by omega) (by omega) (by omega) rfl rfl ?_
  refine RT.ldra T rfl (rD (i1)) (l := v.cells) (flat_sub (f := EValT.cells) (z := 2) (fun _ => rfl) e.vals.l i _ hgi) rfl rfl rfl rfl ?_
  repeat' (first|refine gM ?_|(refine gb ?_;intro b)|fail)
  revert b
  intro b3
  skip
  refine RT.bs T (l := [v.nm].map vS) rfl rfl rfl rfl rfl rfl rfl (fun a8 c8 h8 => ?_)
  (refine RT.callP T rfl fR_ (goods_fn hT (l := [v.nm]) (Own.rd sE_ rfl h8) (by simpa using hbn) (by simp)) rfl rfl rfl (fun v H1 hp => ?_) (fun v H1 hp => ?_))
  ·obtain ⟨h3, rfl, rfl⟩ := hp
   simp only [List.all_cons, List.all_nil, Bool.and_true] at h3
   ((repeat refine nx ?_); exact AtQ.finP (H' := []) ⟨by rw [hgE, all_not hgi h3]; simp, rfl, rfl⟩ dR_)
  obtain ⟨h3, rfl⟩ := hp
  simp only [List.all_cons, List.all_nil, Bool.and_true] at h3
  simp only [List.nil_append]
  repeat' (first|refine gL ?_|(refine gv ?_;refine gk ?_)|fail)
  exact AtQ.loop (i + 1) ⟨rfl, rfl, rfl, rfl, trivial⟩ (fun w h => Sat.pu_in ⟨by omega, all_take hgi hF h3⟩ h.tail.tail) (by omega)
 ·obtain rfl : i = e.vals.l.length := by omega
  rw [List.take_length] at hF
  exact AtQ.ofFinN (AtQ.fin0 Tryz.results156 (H' := []) ⟨by rw [hgE, hF, h2]; simp at h1; rw [h1]; rfl, rfl⟩ (fun w h => h.tail) _ (.inl rfl))
end Go.Proofs.YtclcnhfponjdaaaGreatDoor
end
section
namespace Go.Proofs.YtclcnhfponjdaaaGreatDoor
open Go.Sk
set_option maxRecDepth 100000
attribute [local irreducible] Cs Own Ex Pu Yld RT LJ QJ AtQ CT Rd QSp Sp FinQ Then LoopQ CutQ DT TakeQ EffQ
variable {B : World}
set_option maxHeartbeats 4000000 in
theorem goodMs_fn (hT : Lib.Utf8Tabs 0 1 B) (n : Nat) : ∀ {R : List HP} {m : MsgT} {d : Nat}, 100 ≤ n + d → d ≤ 100 → m.In (Rd B R) → m.Ok →
  SpP B Tryz.prog 155 [.agg m.cells.toArray, .int .i64 d] R [] (PostG (goodMs m d)) (PPG (goodMs m d)) := by
 induction n with
 | zero =>
  intro R m d hd hd1 hin hok
  obtain rfl : d = 100 := by omega
  obtain ⟨nm, fields, oneofs, ma, mc, msgs, enums, res, names⟩ := m
  refine SpP.body Tryz.func155 rfl Tryz.ntmps155 (by simp) ?_
  simp only [argE, List.cons_append, List.nil_append, Nat.zero_add, Nat.reduceAdd]
  repeat' (first|refine gL ?_|(refine gv ?_;(refine⟨fun hc=>?_,fun hc=>?_⟩<;>first|(exfalso;omega)|skip))|(refine gb ?_;intro b)|fail)
  refine RT.mkI rfl Tryz.underlying148 (by intro b h; cases h) rfl rfl ?_
  refine RT.panic rfl rfl ?_
  ((repeat refine nx ?_); exact AtQ.finP (H' := []) ⟨by unfold goodMs; simp, rfl, rfl⟩ dR_)
 | succ n ih =>
  intro R m d hd hd1 hin hok
  by_cases hd2 : d = 100
  ·subst hd2
   obtain ⟨nm, fields, oneofs, ma, mc, msgs, enums, res, names⟩ := m
   refine SpP.body Tryz.func155 rfl Tryz.ntmps155 (by simp) ?_
   simp only [argE, List.cons_append, List.nil_append, Nat.zero_add, Nat.reduceAdd]
   repeat' (first|refine gL ?_|(refine gv ?_;(refine⟨fun hc=>?_,fun hc=>?_⟩<;>first|(exfalso;omega)|skip))|(refine gb ?_;intro b)|fail)
   refine RT.mkI rfl Tryz.underlying148 (by intro b h; cases h) rfl rfl ?_
   refine RT.panic rfl rfl ?_
   ((repeat refine nx ?_); exact AtQ.finP (H' := []) ⟨by unfold goodMs; simp, rfl, rfl⟩ dR_)
  obtain ⟨nm, fields, oneofs, ma, mc, msgs, enums, res, names⟩ := m
  unfold MsgT.Ok at hok
  unfold MsgT.In at hin
  obtain ⟨o1, ⟨o2, o2'⟩, ⟨o3, o3'⟩, o4, ⟨o5, o5'⟩, ⟨o6, o6'⟩, ⟨o7, o7'⟩, o8⟩ := hok
  obtain ⟨i1, i2, i3, i4, i5, i6, i7, i8⟩ := hin
  have l1 := o2.1
  have l2 := o4.1
  have l3 := o5.1
  dsimp only at l2
  have hgM : goodMs (.mk nm fields oneofs ma mc msgs enums res names) d = (decide (d ≤ 99) && goodT nm && oneofs.l.all goodT && names.l.all goodT && fields.l.all goodFd && goodMsL msgs (d + 1) && enums.l.all goodEn) := by unfold goodMs; rfl
  rw [decide_eq_true (by omega : d ≤ 99), Bool.true_and] at hgM
  have hgL : goodMsL msgs (d + 1) = msgs.all fun m => goodMs m (d + 1) := by
   clear hgM l1 l2 l3 o1 o2 o2' o3 o3' o4 o5 o5' o6 o6' o7 o7' o8 i1 i2 i3 i4 i5 i6 i7 i8
   induction msgs with
   | nil => unfold goodMsL; rfl
   | cons x l ihl => unfold goodMsL; rw [ihl]; rfl
  rw [hgL] at hgM
  generalize hgG : goodMs (.mk nm fields oneofs ma mc msgs enums res names) d = G at hgM ⊢
  dsimp only [MsgT.cells, MsgT.nm, MsgT.fields, MsgT.oneofs, MsgT.ma, MsgT.mc, MsgT.msgs, MsgT.enums, MsgT.res, MsgT.names, Rw.v]
  refine SpP.body Tryz.func155 rfl Tryz.ntmps155 (by simp) ?_
  simp only [argE, List.cons_append, List.nil_append, Nat.zero_add, Nat.reduceAdd]
  repeat' (first|refine gL ?_|(refine gv ?_;(refine⟨fun hc=>?_,fun hc=>?_⟩<;>first|(exfalso;omega)|skip))|(refine gb ?_;intro b)|fail)
  revert b
  intro b2
  refine RT.bs T (l := [nm].map vS) rfl rfl rfl rfl rfl rfl rfl (fun a9 c9 h9 => ?_)
  (refine RT.callP T rfl fR_ (goods_fn hT (l := [nm]) (Own.rd sE_ rfl h9) (by simpa using o1) (by simp)) rfl rfl rfl (fun v H1 hp => ?_) (fun v H1 hp => ?_))
  ·obtain ⟨h1, rfl, rfl⟩ := hp
   simp only [List.all_cons, List.all_nil, Bool.and_true] at h1
   ((repeat refine nx ?_); exact AtQ.finP (H' := []) ⟨by rw [hgM, h1]; simp, rfl, rfl⟩ dR_)
  obtain ⟨h1, rfl⟩ := hp
  simp only [List.all_cons, List.all_nil, Bool.and_true] at h1
  refine RT.weak (fun w h => h.tail) ?_
  try refine gL ?_
  (refine RT.callP T rfl fR_ (goods_fn hT (l := oneofs.l) (rD (i2)) o3' o3.1) rfl rfl rfl (fun v H1 hp => ?_) (fun v H1 hp => ?_))
  ·obtain ⟨h2, rfl, rfl⟩ := hp
   ((repeat refine nx ?_); exact AtQ.finP (H' := []) ⟨by rw [hgM, h2]; simp, rfl, rfl⟩ dR_)
  obtain ⟨h2, rfl⟩ := hp
  simp only [List.nil_append]
  try refine gL ?_
  (refine RT.callP T rfl fR_ (goods_fn hT (l := names.l) (rD (i7)) o7' o7.1) rfl rfl rfl (fun v H1 hp => ?_) (fun v H1 hp => ?_))
  ·obtain ⟨h3, rfl, rfl⟩ := hp
   ((repeat refine nx ?_); exact AtQ.finP (H' := []) ⟨by rw [hgM, h3]; simp, rfl, rfl⟩ dR_)
  obtain ⟨h3, rfl⟩ := hp
  simp only [List.nil_append]
  try refine gL ?_
  refine CT.loop (α := Nat) (fun i => [(1, .int .i64 d), (2, .pointer (some ⟨b2, 0, none⟩)), (25, .slice fields.a fields.l.length fields.c), (26, .int .i64 fields.l.length), (27, .int .i64 i)]) (fun i => Pu (i ≤ fields.l.length ∧ (fields.l.take i).all goodFd = true) :: Cs b2 187 [vS nm, .slice fields.a fields.l.length fields.c, .slice oneofs.a oneofs.l.length oneofs.c, .slice ma msgs.length mc, .slice enums.a enums.l.length enums.c, .slice res.a res.l.length res.c, .slice names.a names.l.length names.c] :: R) (fun i => fields.l.length - i) 0
   ⟨rfl, rfl, rfl, rfl, rfl, trivial⟩ (fun w h => Sat.pu_in ⟨Nat.zero_le _, rfl⟩ h) (fun i => CT.pu fun ⟨hil, hF⟩ => ?_)
  repeat' (first|refine gL ?_|(refine gv ?_;(refine⟨fun hc=>?_,fun hc=>?_⟩<;>first|(exfalso;omega)|skip))|fail)
  ·have hi' : i < fields.l.length := by omega
   have hgi := List.getElem?_eq_getElem hi'
   have hbn := o2' _ (List.getElem_mem hi')
   revert hgi hbn
   generalize fields.l[i] = v
   intro hgi hbn
   obtain ⟨f1, _, _, _, f2, _, _, _, f3⟩ := hbn
   refine RT.ix T (j := i * 9) rfl rfl rfl (rD (i1)) (by omega) (by omega) (by omega) rfl rfl ?_
   refine RT.ldra T rfl (rD (i1)) (l := v.cells) (flat_sub (f := FieldT.cells) (z := 9) (fun _ => rfl) fields.l i _ hgi) rfl rfl rfl rfl ?_
   repeat' (first|refine gM ?_|(refine gb ?_;intro b)|fail)
   revert b
   intro b3
   skip
   refine RT.bs T (l := [v.nm, v.ty, v.js].map vS) rfl rfl rfl rfl rfl rfl rfl (fun a8 c8 h8 => ?_)
   (refine RT.callP T rfl fR_ (goods_fn hT (l := [v.nm, v.ty, v.js]) (Own.rd sE_ rfl h8) (by simpa using ⟨f1, f2, f3⟩) (by simp)) rfl rfl rfl (fun v H1 hp => ?_) (fun v H1 hp => ?_))
   ·obtain ⟨h4, rfl, rfl⟩ := hp
    ((repeat refine nx ?_); exact AtQ.finP (H' := []) ⟨by rw [hgM, all_not hgi (by unfold goodFd; simpa [Bool.and_assoc] using h4)]; simp, rfl, rfl⟩ dR_)
   obtain ⟨h4, rfl⟩ := hp
   simp only [List.nil_append]
   repeat' (first|refine gL ?_|(refine gv ?_;refine gk ?_)|fail)
   exact AtQ.loop (i + 1) ⟨rfl, rfl, rfl, rfl, rfl, trivial⟩ (fun w h => Sat.pu_in ⟨by omega, all_take hgi hF (by unfold goodFd; simpa [Bool.and_assoc] using h4)⟩ h.tail.tail) (by omega)
  obtain rfl : i = fields.l.length := by omega
  rw [List.take_length] at hF
  refine CT.loop (α := Nat) (fun i => [(1, .int .i64 d), (2, .pointer (some ⟨b2, 0, none⟩)), (41, .slice ma msgs.length mc), (42, .int .i64 msgs.length), (43, .int .i64 i)]) (fun i => Pu (i ≤ msgs.length ∧ ((msgs.take i).all fun m => goodMs m (d + 1)) = true) :: Cs b2 187 [vS nm, .slice fields.a fields.l.length fields.c, .slice oneofs.a oneofs.l.length oneofs.c, .slice ma msgs.length mc, .slice enums.a enums.l.length enums.c, .slice res.a res.l.length res.c, .slice names.a names.l.length names.c] :: R) (fun i => msgs.length - i) 0
   ⟨rfl, rfl, rfl, rfl, rfl, trivial⟩ (fun w h => Sat.pu_in ⟨Nat.zero_le _, rfl⟩ h) (fun i => CT.pu fun ⟨hil, hFm⟩ => ?_)
  repeat' (first|refine gL ?_|(refine gv ?_;(refine⟨fun hc=>?_,fun hc=>?_⟩<;>first|(exfalso;omega)|skip))|fail)
  ·have hi' : i < msgs.length := by omega
   have hgi := List.getElem?_eq_getElem hi'
   revert hgi
   generalize msgs[i] = v
   intro hgi
   have hme := List.mem_of_getElem? hgi
   refine RT.ix T (j := i * 7) rfl rfl rfl (rD (i3)) (by omega) (by omega) (by omega) rfl rfl ?_
   refine RT.ldra T rfl (rD (i3)) (l := v.cells) (flat_sub (f := MsgT.cells) (z := 7) (fun _ => rfl) msgs i _ hgi) rfl rfl rfl rfl ?_
   repeat' (first|refine gM ?_|(refine gv ?_;refine gk ?_)|(refine gb ?_;intro b)|fail)
   revert b
   intro b3
   skip
   (refine RT.callP T rfl fR_ (ih (m := v) (d := d + 1) (by omega) (by omega) (MsgT.In.mono (fun _ _ _ _ _ h => (rD (h))) (MsgT.inL_mem i8 hme)) (MsgT.okL_mem o8 hme)) rfl rfl rfl (fun v H1 hp => ?_) (fun v H1 hp => ?_))
   ·obtain ⟨h4, rfl, rfl⟩ := hp
    ((repeat refine nx ?_); exact AtQ.finP (H' := []) ⟨by rw [hgM, all_not (f := fun m => goodMs m (d + 1)) hgi h4]; simp, rfl, rfl⟩ dR_)
   obtain ⟨h4, rfl⟩ := hp
   simp only [List.nil_append]
   repeat' (first|refine gL ?_|(refine gv ?_;refine gk ?_)|fail)
   exact AtQ.loop (i + 1) ⟨rfl, rfl, rfl, rfl, rfl, trivial⟩ (fun w h => Sat.pu_in ⟨by omega, all_take (f := fun m => goodMs m (d + 1)) hgi hFm h4⟩ h.tail) (by omega)
  obtain rfl : i = msgs.length := by omega
  rw [List.take_length] at hFm
  refine CT.loop (α := Nat) (fun i => [(1, .int .i64 d), (2, .pointer (some ⟨b2, 0, none⟩)), (53, .slice enums.a enums.l.length enums.c), (54, .int .i64 enums.l.length), (55, .int .i64 i)]) (fun i => Pu (i ≤ enums.l.length ∧ (enums.l.take i).all goodEn = true) :: Cs b2 187 [vS nm, .slice fields.a fields.l.length fields.c, .slice oneofs.a oneofs.l.length oneofs.c, .slice ma msgs.length mc, .slice enums.a enums.l.length enums.c, .slice res.a res.l.length res.c, .slice names.a names.l.length names.c] :: R) (fun i => enums.l.length - i) 0
   ⟨rfl, rfl, rfl, rfl, rfl, trivial⟩ (fun w h => Sat.pu_in ⟨Nat.zero_le _, rfl⟩ h) (fun i => CT.pu fun ⟨hil, hFe⟩ => ?_)
  repeat' (first|refine gL ?_|(refine gv ?_;(refine⟨fun hc=>?_,fun hc=>?_⟩<;>first|(exfalso;omega)|skip))|fail)
  ·have hi' : i < enums.l.length := by omega
   have hgi := List.getElem?_eq_getElem hi'
   revert hgi
   generalize enums.l[i] = v
   intro hgi
   have hme := List.mem_of_getElem? hgi
   refine RT.ix T (j := i * 5) rfl rfl rfl (rD (i4)) (by omega) (by omega) (by omega) rfl rfl ?_
   refine RT.ldra T rfl (rD (i4)) (l := v.cells) (flat_sub (f := EnumT.cells) (z := 5) (fun _ => rfl) enums.l i _ hgi) rfl rfl rfl rfl ?_
   repeat' (first|refine gM ?_|(refine gb ?_;intro b)|fail)
   revert b
   intro b3
   skip
   (refine RT.callP T rfl fR_ (goodEn_fn hT (e := v) (EnumT.In.mono (fun _ _ _ _ _ h => (rD (h))) (i5 v hme)) (o5' v hme)) rfl rfl rfl (fun v H1 hp => ?_) (fun v H1 hp => ?_))
   ·obtain ⟨h4, rfl, rfl⟩ := hp
    ((repeat refine nx ?_); exact AtQ.finP (H' := []) ⟨by rw [hgM, all_not hgi h4]; simp, rfl, rfl⟩ dR_)
   obtain ⟨h4, rfl⟩ := hp
   simp only [List.nil_append]
   repeat' (first|refine gL ?_|(refine gv ?_;refine gk ?_)|fail)
   exact AtQ.loop (i + 1) ⟨rfl, rfl, rfl, rfl, rfl, trivial⟩ (fun w h => Sat.pu_in ⟨by omega, all_take hgi hFe h4⟩ h.tail) (by omega)
  obtain rfl : i = enums.l.length := by omega
  rw [List.take_length] at hFe
  exact AtQ.ofFinN (AtQ.fin0 Tryz.results155 (H' := []) ⟨by rw [hgM, h1, h2, h3, hF, hFm, hFe]; rfl, rfl⟩ (fun w h => h.tail) _ (.inl rfl))
end Go.Proofs.YtclcnhfponjdaaaGreatDoor
end
section
namespace Go.Proofs.YtclcnhfponjdaaaGreatDoor
open Go.Sk
set_option maxRecDepth 100000
attribute [local irreducible] Cs Own Ex Pu Yld RT LJ QJ AtQ CT Rd QSp Sp FinQ Then LoopQ CutQ DT TakeQ EffQ
variable {B : World} {R : List HP}
set_option maxHeartbeats 4000000 in
theorem goodFl_fn (hT : Lib.Utf8Tabs 0 1 B) {f : FileT} (hin : f.In (Rd B R)) (hok : f.Ok) :
  SpP B Tryz.prog 60 [.agg f.cells.toArray] R [] (PostG (goodFl f)) (PPG (goodFl f)) := by
 have hi3 := hin.imps
 have hi4 := hin.msgs
 have hi5 := hin.enums
 have l1 := hok.imps.1.1
 have l2 := hok.msgs.1.1
 have l3 := hok.enums.1.1
 dsimp only at l2
 have hgM : goodFl f = (goodT f.path && goodT f.pack && (f.imps.l.all fun i => goodT i.path) && goodMsL f.msgs 0 && f.enums.l.all goodEn) := rfl
 have hgL : ∀ l : List MsgT, goodMsL l 0 = l.all fun m => goodMs m 0 := fun l => by
  induction l with
  | nil => unfold goodMsL; rfl
  | cons x l ihl => unfold goodMsL; rw [ihl]; rfl
 rw [hgL] at hgM
 generalize hG : goodFl f = G at hgM ⊢
 refine SpP.body Tryz.func60 rfl Tryz.ntmps60 (by simp) ?_
 simp only [argE, List.cons_append, List.nil_append, Nat.zero_add, Nat.reduceAdd]
 repeat' (first|refine gL ?_|(refine gb ?_;intro b)|fail)
 revert b
 intro b1
 refine RT.bs T (l := [f.path, f.pack].map vS) rfl rfl rfl rfl rfl rfl rfl (fun a9 c9 h9 => ?_)
 (refine RT.callP T rfl fR_ (goods_fn hT (l := [f.path, f.pack]) (Own.rd sE_ rfl h9) (by simpa using ⟨hok.path, hok.pack⟩) (by simp)) rfl rfl rfl (fun v H1 hp => ?_) (fun v H1 hp => ?_))
 ·obtain ⟨h1, rfl, rfl⟩ := hp
  simp only [List.all_cons, List.all_nil, Bool.and_true] at h1
  ((repeat refine nx ?_); exact AtQ.finP (H' := []) ⟨by rw [hgM, h1]; simp, rfl, rfl⟩ dR_)
 obtain ⟨h1, rfl⟩ := hp
 simp only [List.all_cons, List.all_nil, Bool.and_true] at h1
 refine RT.weak (fun w h => h.tail) ?_
 try refine gL ?_
 refine CT.loop (α := Nat) (fun i => [(1, .pointer (some ⟨b1, 0, none⟩)), (15, f.imps.v), (16, .int .i64 f.imps.l.length), (17, .int .i64 i)]) (fun i => Pu (i ≤ f.imps.l.length ∧ ((f.imps.l.take i).all fun i => goodT i.path) = true) :: Cs b1 75 f.cells :: R) (fun i => f.imps.l.length - i) 0
  ⟨rfl, rfl, rfl, rfl, trivial⟩ (fun w h => Sat.pu_in ⟨Nat.zero_le _, rfl⟩ h) (fun i => CT.pu fun ⟨hil, hF⟩ => ?_)
 repeat' (first|refine gL ?_|(refine gv ?_;(refine⟨fun hc=>?_,fun hc=>?_⟩<;>first|(exfalso;omega)|skip))|fail)
 ·have hi' : i < f.imps.l.length := by omega
  have hgi := List.getElem?_eq_getElem hi'
  have hbn := hok.imps.2 _ (List.getElem_mem hi')
  revert hgi hbn
  generalize f.imps.l[i] = v
  intro hgi hbn
  refine RT.ix T (j := i * 2) rfl rfl rfl (rD (hi3)) (by omega) (by omega) (by omega) rfl rfl ?_
  refine RT.ldra T rfl (rD (hi3)) (l := v.cells) (flat_sub (f := ImpT.cells) (z := 2) (fun _ => rfl) f.imps.l i _ hgi) rfl rfl rfl rfl ?_
  repeat' (first|refine gM ?_|(refine gb ?_;intro b)|fail)
  revert b
  intro b3
  skip
  refine RT.bs T (l := [v.path].map vS) rfl rfl rfl rfl rfl rfl rfl (fun a8 c8 h8 => ?_)
  (refine RT.callP T rfl fR_ (goods_fn hT (l := [v.path]) (Own.rd sE_ rfl h8) (by simpa using (show OkT v.path from hbn)) (by simp)) rfl rfl rfl (fun v H1 hp => ?_) (fun v H1 hp => ?_))
  ·obtain ⟨h3, rfl, rfl⟩ := hp
   simp only [List.all_cons, List.all_nil, Bool.and_true] at h3
   ((repeat refine nx ?_); exact AtQ.finP (H' := []) ⟨by rw [hgM, all_not (f := fun i : ImpT => goodT i.path) hgi h3]; simp, rfl, rfl⟩ dR_)
  obtain ⟨h3, rfl⟩ := hp
  simp only [List.all_cons, List.all_nil, Bool.and_true] at h3
  simp only [List.nil_append]
  repeat' (first|refine gL ?_|(refine gv ?_;refine gk ?_)|fail)
  exact AtQ.loop (i + 1) ⟨rfl, rfl, rfl, rfl, trivial⟩ (fun w h => Sat.pu_in ⟨by omega, all_take (f := fun i : ImpT => goodT i.path) hgi hF h3⟩ h.tail.tail) (by omega)
 obtain rfl : i = f.imps.l.length := by omega
 rw [List.take_length] at hF
 refine CT.loop (α := Nat) (fun i => [(1, .pointer (some ⟨b1, 0, none⟩)), (27, .slice f.ma f.msgs.length f.mc), (28, .int .i64 f.msgs.length), (29, .int .i64 i)]) (fun i => Pu (i ≤ f.msgs.length ∧ ((f.msgs.take i).all fun m => goodMs m 0) = true) :: Cs b1 75 f.cells :: R) (fun i => f.msgs.length - i) 0
  ⟨rfl, rfl, rfl, rfl, trivial⟩ (fun w h => Sat.pu_in ⟨Nat.zero_le _, rfl⟩ h) (fun i => CT.pu fun ⟨hil, hFm⟩ => ?_)
 repeat' (first|refine gL ?_|(refine gv ?_;(refine⟨fun hc=>?_,fun hc=>?_⟩<;>first|(exfalso;omega)|skip))|fail)
 ·have hi' : i < f.msgs.length := by omega
  have hgi := List.getElem?_eq_getElem hi'
  revert hgi
  generalize f.msgs[i] = v
  intro hgi
  have hme := List.mem_of_getElem? hgi
  refine RT.ix T (j := i * 7) rfl rfl rfl (rD (hi4)) (by omega) (by omega) (by omega) rfl rfl ?_
  refine RT.ldra T rfl (rD (hi4)) (l := v.cells) (flat_sub (f := MsgT.cells) (z := 7) (fun _ => rfl) f.msgs i _ hgi) rfl rfl rfl rfl ?_
  repeat' (first|refine gM ?_|(refine gb ?_;intro b)|fail)
  revert b
  intro b3
  skip
  (refine RT.callP T rfl fR_ (goodMs_fn hT 100 (m := v) (d := 0) (by omega) (by omega) (MsgT.In.mono (fun _ _ _ _ _ h => (rD (h))) (hin.sub v hme)) (hok.msgs.2 v hme)) rfl rfl rfl (fun v H1 hp => ?_) (fun v H1 hp => ?_))
  ·obtain ⟨h4, rfl, rfl⟩ := hp
   ((repeat refine nx ?_); exact AtQ.finP (H' := []) ⟨by rw [hgM, all_not (f := fun m => goodMs m 0) hgi h4]; simp, rfl, rfl⟩ dR_)
  obtain ⟨h4, rfl⟩ := hp
  simp only [List.nil_append]
  repeat' (first|refine gL ?_|(refine gv ?_;refine gk ?_)|fail)
  exact AtQ.loop (i + 1) ⟨rfl, rfl, rfl, rfl, trivial⟩ (fun w h => Sat.pu_in ⟨by omega, all_take (f := fun m => goodMs m 0) hgi hFm h4⟩ h.tail) (by omega)
 obtain rfl : i = f.msgs.length := by omega
 rw [List.take_length] at hFm
 refine CT.loop (α := Nat) (fun i => [(1, .pointer (some ⟨b1, 0, none⟩)), (37, f.enums.v), (38, .int .i64 f.enums.l.length), (39, .int .i64 i)]) (fun i => Pu (i ≤ f.enums.l.length ∧ (f.enums.l.take i).all goodEn = true) :: Cs b1 75 f.cells :: R) (fun i => f.enums.l.length - i) 0
  ⟨rfl, rfl, rfl, rfl, trivial⟩ (fun w h => Sat.pu_in ⟨Nat.zero_le _, rfl⟩ h) (fun i => CT.pu fun ⟨hil, hFe⟩ => ?_)
 repeat' (first|refine gL ?_|(refine gv ?_;(refine⟨fun hc=>?_,fun hc=>?_⟩<;>first|(exfalso;omega)|skip))|fail)
 ·have hi' : i < f.enums.l.length := by omega
  have hgi := List.getElem?_eq_getElem hi'
  revert hgi
  generalize f.enums.l[i] = v
  intro hgi
  have hme := List.mem_of_getElem? hgi
  refine RT.ix T (j := i * 5) rfl rfl rfl (rD (hi5)) (by omega) (by omega) (by omega) rfl rfl ?_
  refine RT.ldra T rfl (rD (hi5)) (l := v.cells) (flat_sub (f := EnumT.cells) (z := 5) (fun _ => rfl) f.enums.l i _ hgi) rfl rfl rfl rfl ?_
  repeat' (first|refine gM ?_|(refine gb ?_;intro b)|fail)
  revert b
  intro b3
  skip
  (refine RT.callP T rfl fR_ (goodEn_fn hT (e := v) (EnumT.In.mono (fun _ _ _ _ _ h => (rD (h))) (hin.esub v hme)) (hok.enums.2 v hme)) rfl rfl rfl (fun v H1 hp => ?_) (fun v H1 hp => ?_))
  ·obtain ⟨h4, rfl, rfl⟩ := hp
   ((repeat refine nx ?_); exact AtQ.finP (H' := []) ⟨by rw [hgM, all_not hgi h4]; simp, rfl, rfl⟩ dR_)
  obtain ⟨h4, rfl⟩ := hp
  simp only [List.nil_append]
  repeat' (first|refine gL ?_|(refine gv ?_;refine gk ?_)|fail)
  exact AtQ.loop (i + 1) ⟨rfl, rfl, rfl, rfl, trivial⟩ (fun w h => Sat.pu_in ⟨by omega, all_take hgi hFe h4⟩ h.tail) (by omega)
 obtain rfl : i = f.enums.l.length := by omega
 rw [List.take_length] at hFe
 exact AtQ.ofFinN (AtQ.fin0 Tryz.results60 (H' := []) ⟨by rw [hgM, h1, hF, hFm, hFe]; rfl, rfl⟩ (fun w h => h.tail) _ (.inl rfl))
end Go.Proofs.YtclcnhfponjdaaaGreatDoor
end
section
namespace Go.Proofs.YtclcnhfponjdaaaGreatDoor
open Go.Sk
set_option maxRecDepth 100000
def encB (l : List FileT) : Txt := (encodeL l).1.getD []
theorem encodeL_bad {l : List FileT} (h : l.all goodFl = false) : encodeL l = (none, 70) := by unfold encodeL; rw [if_neg (by rw [h]; decide)]
theorem encodeL_ok {l : List FileT} (h : l.all goodFl = true) (h2 : (setB l).length ≤ 16777216) : encodeL l = (some (setB l), 0) := by unfold encodeL; rw [if_pos h, if_pos h2]
theorem encodeL_full {l : List FileT} (h : l.all goodFl = true) (h2 : ¬ (setB l).length ≤ 16777216) : encodeL l = (none, 71) := by unfold encodeL; rw [if_pos h, if_neg h2]
attribute [local irreducible] Cs Own Ex Pu Yld RT LJ QJ AtQ CT Rd QSp Sp FinQ Then LoopQ CutQ DT TakeQ EffQ
attribute [local irreducible] FinD SpD RecQ Bag Wr StAt
variable {B : World} {R : List HP}
theorem enc1_ret {cb ce : Nat} : SpD B Tryz.prog 59 [ptr cb, ptr ce] .returning .returning R [] [] := by
 refine SpD.body2 Tryz.func59 rfl Tryz.results59 Tryz.ntmps59 (by simp) (by decide) (by decide) (.inl ⟨rfl, rfl, rfl⟩) ?_
 simp only [argE, List.cons_append, List.nil_append, Nat.zero_add, Nat.reduceAdd]
 try refine gL ?_
 refine RT.innil rfl ⟨_, Tryz.underlying20⟩ (.inl ⟨rfl, rfl⟩) rfl rfl ?_
 try refine gL ?_
 exact AtQ.rec_ (.inl rfl) (fun w h => h)
theorem enc1_pan {cb ce : Nat} {x y : Value} : SpD B Tryz.prog 59 [ptr cb, ptr ce] (.panicking (pan rfv)) (.panicking [{ v := rfv, recovered := true }]) R [Cs cb 23 [x], Cs ce 29 [y]] [Cs cb 23 [.slice none 0 0], Cs ce 29 [.int .i64 70]] := by
 refine SpD.body2 Tryz.func59 rfl Tryz.results59 Tryz.ntmps59 (by simp) (by decide) (by decide) (.inr ⟨_, rfl, rfl, rfl⟩) ?_
 simp only [argE, List.cons_append, List.nil_append, Nat.zero_add, Nat.reduceAdd]
 try refine gL ?_
 refine RT.innil rfl ⟨_, Tryz.underlying20⟩ (.inr ⟨_, _, rfl, rfl⟩) rfl rfl ?_
 try refine gL ?_
 refine RT.tassert rfl Tryz.underlying148 (by intro b h; cases h) rfl rfl ?_
 repeat' (first|refine gM ?_|(refine gb ?_;intro b)|fail)
 exact AtQ.rec_ (.inl rfl) (fun w h => h.frd (Ps := [_, _]) (Qs := [_]) fR_)
theorem star_drop {X : List HP} {h : PH} (A : List HP) (s : star (A ++ X) h) : star X h := by
 obtain ⟨_, _, _, _, l2, _, sR⟩ := star_split A X h s
 exact star_up X l2 sR
theorem Sat.dropMid {p : HP} {X : List HP} {w : World} (A : List HP) (s : Sat B (p :: (A ++ X)) w) : Sat B (p :: X) w := s.mono fun _ hs => star_cons_mono (fun _ hs => star_drop A hs) hs
theorem goodFl_ms {f : FileT} (h : goodFl f = true) : goodMsL f.msgs 0 = true := by
 unfold goodFl at h
 simp only [Bool.and_eq_true] at h
 exact h.1.2
set_option maxHeartbeats 8000000 in
theorem encode_fn (hT : Lib.Utf8Tabs 0 1 B) {a : Option Addr} {c : Nat} {l : List FileT} (hR : Rd B R a l.length c 5 (l.flatMap FileT.cells)) (hin : ∀ f ∈ l, f.In (Rd B R)) (hok : ∀ f ∈ l, f.Ok) (hl : l.length ≤ 140737488355328) :
  Sp B Tryz.prog 18 [.slice a l.length c] R [] (fun v H' => ∃ a2 c2, v = .tuple #[.slice a2 (encB l).length c2, .int .i64 (encodeL l).2] ∧ H' = [own8 a2 c2 (encB l) (encB l).length]) := by
 refine Sp.bodyD Tryz.func18 rfl Tryz.ntmps18 (by simp) ?_
 simp only [argE, List.cons_append, List.nil_append, Nat.zero_add, Nat.reduceAdd]
 repeat' (first|refine gL ?_|(refine gb ?_;intro b)|fail)
 rename_i cb
 revert b
 intro ce
 refine RT.mkF rfl rfl rfl ?_
 refine RT.defer (caps := [ptr cb, ptr ce]) rfl rfl rfl ?_
 try refine gL ?_
 refine CT.loop (α := Nat) (fun i => [(0, .slice a l.length c), (2, ptr cb), (3, ptr ce), (9, .slice a l.length c), (10, .int .i64 l.length), (11, .int .i64 i)]) (fun i => Pu (i ≤ l.length ∧ (l.take i).all goodFl = true) :: Cs ce 29 [.int .i64 0] :: Cs cb 23 [.slice none 0 0] :: R) (fun i => l.length - i) 0
  ⟨rfl, rfl, rfl, rfl, rfl, rfl, trivial⟩ (fun w h => Sat.pu_in ⟨Nat.zero_le _, rfl⟩ h) (fun i => CT.pu fun ⟨hil, hF⟩ => ?_)
 repeat' (first|refine gL ?_|(refine gv ?_;(refine⟨fun hc=>?_,fun hc=>?_⟩<;>first|(exfalso;omega)|skip))|fail)
 ·have hi' : i < l.length := by omega
  have hgi := List.getElem?_eq_getElem hi'
  revert hgi
  generalize l[i] = f
  intro hgi
  have hme := List.mem_of_getElem? hgi
  refine RT.ix T (j := i * 5) rfl rfl rfl (rD (hR)) (by omega) (by omega) (by omega) rfl rfl ?_
  refine RT.ldra T rfl (rD (hR)) (l := f.cells) (flat_sub (f := FileT.cells) (z := 5) (fun _ => rfl) l i _ hgi) rfl rfl rfl rfl ?_
  repeat' (first|refine gM ?_|(refine gb ?_;intro b)|fail)
  revert b
  intro b5
  skip
  (refine RT.callP T rfl fR_ (goodFl_fn hT (f := f) (FileT.In.mono (fun _ _ _ _ _ h => (rD (h))) (hin f hme)) (hok f hme)) rfl rfl rfl (fun v H1 hp => ?_) (fun v H1 hp => ?_))
  ·obtain ⟨h4, rfl, rfl⟩ := hp
   (repeat refine nx ?_)
   have hb := all_not (f := goodFl) hgi h4
   exact AtQ.finDp (n := 41) (R2 := Cs b5 75 f.cells :: R) (Hf := [own8 none 0 [] 0]) (fun args w => run_call (T := T) rfl) enc1_pan fR_ (res_two T Tryz.results18 rfl rfl sE_ rfl rfl sE_) ⟨none, 0, by unfold encB; rw [encodeL_bad hb]; rfl, by unfold encB; rw [encodeL_bad hb]; rfl⟩ (fun w h => Sat.nilOwn h.tail.tail.tail)
  obtain ⟨h4, rfl⟩ := hp
  simp only [List.nil_append]
  repeat' (first|refine gL ?_|(refine gv ?_;refine gk ?_)|fail)
  exact AtQ.loop (i + 1) ⟨rfl, rfl, rfl, rfl, rfl, rfl, trivial⟩ (fun w h => Sat.pu_in ⟨by omega, all_take hgi hF h4⟩ h.tail) (by omega)
 obtain rfl : i = l.length := by omega
 rw [List.take_length] at hF
 refine RT.call T rfl fR_ (newWriter_ok (by decide) (by decide)) rfl rfl rfl ?_
 rintro _ _ ⟨pw, rfl, rfl⟩
 simp only [List.cons_append, List.nil_append]
 try refine gL ?_
 refine RT.call T rfl fR_ tables_fn rfl rfl rfl ?_
 rintro _ _ ⟨t, rfl, rfl⟩
 refine RT.weak (fun w h => h.sel (selApp (tblH t))) ?_
 refine RT.fact (p := Facts B (tblH t ++ (Cs ce 29 [.int .i64 0] :: Cs cb 23 [.slice none 0 0] :: R)) t) (fun w h => facts_of h.tail) (fun hT => ?_)
 repeat' (first|refine gL ?_|(refine gb ?_;intro b)|fail)
 rename_i bo
 revert b
 intro bs
 have hO : Rd B (Cs bs 98 [.slice a l.length c] :: Cs bo 156 [ptr pw, .int .i64 0] :: (tblH t ++ (Cs ce 29 [.int .i64 0] :: Cs cb 23 [.slice none 0 0] :: R))) (some ⟨bo, 0, none⟩) 1 1 2 [ptr pw, .int .i64 0] := Cs.rd (.t .h)
 have hX : StAt B (Cs bs 98 [.slice a l.length c] :: Cs bo 156 [ptr pw, .int .i64 0] :: (tblH t ++ (Cs ce 29 [.int .i64 0] :: Cs cb 23 [.slice none 0 0] :: R))) ⟨bs, 0, none⟩ [.slice a l.length c] := StAt.cs (Cs.rd (l := [.slice a l.length c]) .h)
 have hu2 : ∀ {a' k' c' z' xs'}, Rd B R a' k' c' z' xs' → Rd B (Cs bs 98 [.slice a l.length c] :: Cs bo 156 [ptr pw, .int .i64 0] :: (tblH t ++ (Cs ce 29 [.int .i64 0] :: Cs cb 23 [.slice none 0 0] :: R))) a' k' c' z' xs' := fun h => ((Rd.under h.cons.cons (tblH t)).cons).cons
 have hS0 : Wok 104 ⟨[], 16777216, [], 0⟩ := ⟨⟨by decide, by decide, by decide⟩, by decide, fun _ => ⟨fun x h => (by cases h), by decide⟩⟩
 refine RT.call T rfl fR_ (set_w (pe := bo) (pw := pw) (ad := ⟨bs, 0, none⟩) (v := ⟨a, c, l⟩) hT.cons.cons hO hX hl (hu2 hR) hok (fun f hf => FileT.In.mono (fun _ _ _ _ _ h => hu2 h) (hin f hf)) (fun f hf => goodFl_ms (List.all_eq_true.1 hF f hf)) hS0) rfl rfl rfl ?_
 rintro _ _ ⟨rfl, S1, hW, rfl⟩
 simp only [List.cons_append, List.nil_append]
 refine RT.weak (fun w h => Sat.dropMid (Cs bs 98 [.slice a l.length c] :: Cs bo 156 [ptr pw, .int .i64 0] :: tblH t) h) ?_
 clear hT hO hX hu2
 dsimp only at hW
 try refine gL ?_
 by_cases hfit : (setB l).length ≤ 16777216
 ·have e1 := hW.fits rfl (by simp only [List.length_nil]; omega)
  have hd : WS.done S1 = (setB l, 0) := by rw [e1]; rfl
  refine RT.call T rfl fR_ (done_fn hW.ok (by have := (hW.wok hS0).2.1; omega)) rfl rfl rfl ?_
  rw [hd]
  rintro _ _ ⟨a2, c2, rfl, rfl⟩
  simp only [List.cons_append, List.nil_append]
  repeat' (first|refine gL ?_|(refine gv ?_;(refine⟨fun hc=>?_,fun hc=>?_⟩<;>first|(exfalso;omega)|skip))|fail)
  exact AtQ.finD (n := 41) (R2 := own8 a2 c2 (setB l) (setB l).length :: Wr pw S1 :: Cs ce 29 [.int .i64 0] :: Cs cb 23 [.slice a2 (setB l).length c2] :: R) (Hf := [own8 a2 c2 (setB l) (setB l).length]) (fun args w => run_call (T := T) rfl) enc1_ret fR_ (res_two T Tryz.results18 rfl rfl sE_ rfl rfl sE_)
   ⟨a2, c2, by unfold encB; rw [encodeL_ok hF hfit]; rfl, by unfold encB; rw [encodeL_ok hF hfit]; rfl⟩ (fun w h => h.frd (Ps := [_]) (Qs := [_, _, _]) fR_) (.inr rfl)
 ·have e1 := hW.not rfl (by simp only [List.length_nil]; omega)
  have hne := e1.1
  have hd : WS.done S1 = ([], S1.e) := by unfold WS.done; rw [if_neg hne]
  refine RT.call T rfl fR_ (done_fn hW.ok (by have := (hW.wok hS0).2.1; omega)) rfl rfl rfl ?_
  rw [hd]
  rintro _ _ ⟨a2, c2, rfl, rfl⟩
  simp only [List.cons_append, List.nil_append]
  repeat' (first|refine gL ?_|(refine gv ?_;(refine⟨fun hc=>?_,fun hc=>?_⟩<;>first|(exfalso;omega)|skip))|fail)
  exact AtQ.finD (n := 41) (R2 := own8 a2 c2 [] 0 :: Wr pw S1 :: Cs ce 29 [.int .i64 71] :: Cs cb 23 [.slice none 0 0] :: R) (Hf := [own8 none 0 [] 0]) (fun args w => run_call (T := T) rfl) enc1_ret fR_ (res_two T Tryz.results18 rfl rfl sE_ rfl rfl sE_)
   ⟨none, 0, by unfold encB; rw [encodeL_full hF hfit]; rfl, by unfold encB; rw [encodeL_full hF hfit]; rfl⟩ (fun w h => Sat.nilOwn h.tail.tail.tail.tail) (.inr rfl)
end Go.Proofs.YtclcnhfponjdaaaGreatDoor
end
section
namespace Go.Proofs.YtclcnhfponjdaaaGreatDoor
open Go.Sk
set_option maxRecDepth 100000
section
variable {B : World} {H : List HP} {w : World}
/-- A row that can be read, with a room as it is. -/
def RdC (B : World) (H : List HP) : Option Addr → Nat → Nat → Nat → List Value → Prop := fun a k c z xs => Rd B H a k c z xs ∧ c ≤ 9223372036854775807
theorem Has.rdc {a : Option Addr} {c : Nat} {e : TypeId} {sz k : Nat} {xs : List Value} (h : Has B H (Own a c e sz k xs)) (hS : Sat B H w) : RdC B H a k c sz xs :=
 ⟨h.rd hS, by obtain ⟨R, h1⟩ := h w hS; exact (Own.facts h1 .h).2.2⟩
theorem e5c_of (hS : Sat B H w) {e : EnumT} (h : ∀ p ∈ eRows e, Has B H p) : e5 (RdC B H) e := by
 unfold eRows at h
 simp only [List.forall_mem_cons] at h
 obtain ⟨h1, h2, h3, _⟩ := h
 exact ⟨Has.rdc h1 hS, Has.rdc h2 hS, Has.rdc h3 hS⟩
theorem e5cL_of (hS : Sat B H w) {l : List EnumT} (h : Has B H (Bag (l.flatMap eRows))) : ∀ e ∈ l, e5 (RdC B H) e := fun e he => e5c_of hS fun p hp => h.bag (List.mem_flatMap.2 ⟨e, he, hp⟩)
mutual
theorem m5c_of (hS : Sat B H w) : ∀ {m : MsgT}, (∀ p ∈ mRows m, Has B H p) → m5 (RdC B H) m
 | .mk nm fields oneofs ma mc msgs enums res names, h => by
  unfold mRows at h
  unfold m5
  simp only [List.forall_mem_cons] at h
  obtain ⟨h1, h2, h3, h4, h5, h6, h7, h8, _⟩ := h
  exact ⟨Has.rdc h1 hS, Has.rdc h2 hS, Has.rdc h3 hS, Has.rdc h4 hS, Has.rdc h5 hS, m5cL_of hS h6, Has.rdc h7 hS, e5cL_of hS h8⟩
theorem m5cL_of (hS : Sat B H w) : ∀ {l : List MsgT}, Has B H (Bag (mRowsL l)) → m5L (RdC B H) l
 | [], _ => by unfold m5L; trivial
 | m :: l, h => by
  unfold m5L
  unfold mRowsL at h
  exact ⟨m5c_of hS fun p hp => h.bag (List.mem_append_left _ hp), m5cL_of hS fun w' hS' => by
   obtain ⟨R, h1⟩ := h w' hS'
   have h2 : Sat B (mRows m ++ (mRowsL l ++ R)) w' := by
    have := Bag.open_ h1
    rwa [List.append_assoc] at this
   exact ⟨mRows m ++ R, Bag.close (h2.mono fun hh hs => by
    have h3 : star ((mRowsL l ++ R) ++ mRows m) hh := star_comm hs
    rw [List.append_assoc] at h3
    obtain ⟨x, y, d, lx, ly, hb, hr⟩ := star_cut _ h3
    exact star_glue _ d lx ly hb (star_comm hr))⟩⟩
end
theorem row5_in {α : Type} {f : α → List Value} {z c : Nat} {a : Option Addr} {l : List α} {x : α} (h : row5 (RdC B H) z f x a c l) (hz : ∀ x, (f x).length = z) : Rd B H a l.length c z (l.flatMap f) ∧ l.length ≤ c ∧ c ≤ 9223372036854775807 :=
 ⟨row5_pre hz h.1, by have := h.1.le; omega, h.2⟩
theorem tx5_in {r : Rw Txt} (h : tx5 (RdC B H) r) : Rd B H r.a r.l.length r.c 1 (r.l.map vS) ∧ r.l.length ≤ r.c ∧ r.c ≤ 9223372036854775807 := by
 refine ⟨?_, by have := h.1.le; omega, h.2⟩
 have h2 := Rd.subT (j := r.l.length) h.1 (by omega)
 rwa [List.take_left] at h2
theorem e5_in {e : EnumT} (h : e5 (RdC B H) e) : e.In (Rd B H) := ⟨(row5_in h.1 (fun _ => rfl)).1, (row5_in h.2.1 (fun _ => rfl)).1, (tx5_in h.2.2).1⟩
theorem e5_ok {e e0 : EnumT} (h : e5 (RdC B H) e) (he : EnumT.er e = EnumT.er e0) (ho : e0.Ok) : e.Ok := by
 obtain ⟨h1, h2, h3⟩ := h
 simp only [EnumT.er, barR, EnumT.mk.injEq, Rw.mk.injEq, true_and] at he
 obtain ⟨q1, q2, q3, q4, q5⟩ := he
 obtain ⟨o1, o2, o3, o4, o5, o6, o7⟩ := ho
 refine ⟨q1 ▸ o1, ⟨q2 ▸ o2.1, (row5_in h1 (fun _ => rfl)).2⟩, q2 ▸ o3, ⟨q4 ▸ o4.1, (row5_in h2 (fun _ => rfl)).2⟩, q4 ▸ o5, ⟨q5 ▸ o6.1, (tx5_in h3).2⟩, q5 ▸ o7⟩
theorem e5L_ok : ∀ {l l0 : List EnumT}, (∀ e ∈ l, e5 (RdC B H) e) → l.map EnumT.er = l0.map EnumT.er → (∀ e ∈ l0, e.Ok) → ∀ e ∈ l, e.Ok
 | [], _, _, _, _ => fun e he => by cases he
 | x :: l, [], _, h, _ => by cases h
 | x :: l, y :: l0, h, he, ho => by
  simp only [List.map_cons, List.cons.injEq] at he
  intro e hm
  rcases List.mem_cons.1 hm with rfl | hm
  ·exact e5_ok (h _ List.mem_cons_self) he.1 (ho _ List.mem_cons_self)
  ·exact e5L_ok (fun e he => h e (List.mem_cons_of_mem _ he)) he.2 (fun e he => ho e (List.mem_cons_of_mem _ he)) e hm
mutual
theorem m5_in : ∀ {m : MsgT}, m5 (RdC B H) m → m.In (Rd B H)
 | .mk nm fields oneofs ma mc msgs enums res names, h => by
  unfold m5 at h
  unfold MsgT.In
  obtain ⟨h1, h2, h3, h4, h5, h6, h7, h8⟩ := h
  exact ⟨(row5_in h1 (fun _ => rfl)).1, (tx5_in h3).1, (row5_in h5 (fun _ => rfl)).1, (row5_in h7 (fun _ => rfl)).1, fun e he => e5_in (h8 e he), (row5_in h2 (fun _ => rfl)).1, (tx5_in h4).1, m5L_in h6⟩
theorem m5L_in : ∀ {l : List MsgT}, m5L (RdC B H) l → MsgT.InL (Rd B H) l
 | [], _ => by unfold MsgT.InL; trivial
 | m :: l, h => by
  unfold m5L at h
  unfold MsgT.InL
  exact ⟨m5_in h.1, m5L_in h.2⟩
end
theorem mEr_len {l l0 : List MsgT} (h : mErL l = mErL l0) : l.length = l0.length := by
 rw [mErL_map, mErL_map] at h
 have := congrArg List.length h
 simpa using this
theorem er_len {l l0 : List EnumT} (h : l.map EnumT.er = l0.map EnumT.er) : l.length = l0.length := by
 have := congrArg List.length h
 simpa using this
mutual
theorem m5_ok : ∀ {m m0 : MsgT}, m5 (RdC B H) m → mEr m = mEr m0 → m0.Ok → m.Ok
 | .mk nm fields oneofs ma mc msgs enums res names, .mk nm0 fields0 oneofs0 ma0 mc0 msgs0 enums0 res0 names0, h, he, ho => by
  unfold m5 at h
  unfold mEr at he
  unfold MsgT.Ok at ho ⊢
  obtain ⟨h1, h2, h3, h4, h5, h6, h7, h8⟩ := h
  obtain ⟨o1, ⟨o2, o2'⟩, ⟨o3, o3'⟩, o4, ⟨o5, o5'⟩, ⟨o6, o6'⟩, ⟨o7, o7'⟩, o8⟩ := ho
  simp only [barR, MsgT.mk.injEq, Rw.mk.injEq, true_and] at he
  obtain ⟨q1, q2, q3, q4, q5, q6, q7⟩ := he
  exact ⟨q1 ▸ o1, ⟨⟨q2 ▸ o2.1, (row5_in h1 (fun _ => rfl)).2⟩, q2 ▸ o2'⟩, ⟨⟨q3 ▸ o3.1, (tx5_in h3).2⟩, q3 ▸ o3'⟩, ⟨by dsimp only; rw [mEr_len q4]; exact o4.1, (row5_in h5 (fun _ => rfl)).2⟩,
   ⟨⟨by rw [er_len q5]; exact o5.1, (row5_in h7 (fun _ => rfl)).2⟩, e5L_ok h8 q5 o5'⟩, ⟨⟨q6 ▸ o6.1, (row5_in h2 (fun _ => rfl)).2⟩, q6 ▸ o6'⟩, ⟨⟨q7 ▸ o7.1, (tx5_in h4).2⟩, q7 ▸ o7'⟩, m5L_ok h6 q4 o8⟩
theorem m5L_ok : ∀ {l l0 : List MsgT}, m5L (RdC B H) l → mErL l = mErL l0 → MsgT.OkL l0 → MsgT.OkL l
 | [], _, _, _, _ => by unfold MsgT.OkL; trivial
 | m :: l, [], _, he, _ => by unfold mErL at he; cases he
 | m :: l, m0 :: l0, h, he, ho => by
  unfold m5L at h
  unfold mErL at he
  unfold MsgT.OkL at ho ⊢
  simp only [List.cons.injEq] at he
  exact ⟨m5_ok h.1 he.1 ho.1, m5L_ok h.2 he.2 ho.2⟩
end
end
/-! ### without places the bytes are the same -/
mutual
theorem msgB_er : ∀ (m : MsgT) (d : Nat), msgB (mEr m) d = msgB m d
 | .mk nm fields oneofs ma mc msgs enums res names, d => by
  rw [mEr, msgB, msgB]
  have h1 := msgsB_er msgs (d + 1)
  have h2 : fRecs 5 enumB (enums.l.map EnumT.er) = fRecs 5 enumB enums.l := by unfold fRecs; rw [List.flatMap_map]; rfl
  simp only [barR, h1, h2]
theorem msgsB_er : ∀ (l : List MsgT) (d : Nat), msgsB (mErL l) d = msgsB l d
 | [], d => by unfold mErL; rfl
 | m :: l, d => by rw [mErL, msgsB, msgsB, msgB_er m d, msgsB_er l d]
end
mutual
theorem goodMs_er : ∀ (m : MsgT) (d : Nat), goodMs (mEr m) d = goodMs m d
 | .mk nm fields oneofs ma mc msgs enums res names, d => by
  rw [mEr, goodMs, goodMs]
  have h1 := goodMsL_er msgs (d + 1)
  have h2 : (enums.l.map EnumT.er).all goodEn = enums.l.all goodEn := by rw [List.all_map]; rfl
  simp only [barR, h1, h2]
theorem goodMsL_er : ∀ (l : List MsgT) (d : Nat), goodMsL (mErL l) d = goodMsL l d
 | [], d => by unfold mErL; rfl
 | m :: l, d => by rw [mErL, goodMsL, goodMsL, goodMs_er m d, goodMsL_er l d]
end
theorem fileB_er (f : FileT) : fileB (fEr f) = fileB f := by
 unfold fileB fEr
 have h2 : fRecs 5 enumB (f.enums.l.map EnumT.er) = fRecs 5 enumB f.enums.l := by unfold fRecs; rw [List.flatMap_map]; rfl
 simp only [barR, h2, ← mErL_map, msgsB_er]
theorem goodFl_er (f : FileT) : goodFl (fEr f) = goodFl f := by
 unfold goodFl fEr
 have h2 : (f.enums.l.map EnumT.er).all goodEn = f.enums.l.all goodEn := by rw [List.all_map]; rfl
 simp only [barR, h2, ← mErL_map, goodMsL_er]
theorem encodeL_er (l : List FileT) : encodeL (l.map fEr) = encodeL l := by
 have h1 : (l.map fEr).all goodFl = l.all goodFl := by rw [List.all_map]; congr 1; funext f; exact goodFl_er f
 have h2 : setB (l.map fEr) = setB l := by unfold setB fRecs; rw [List.flatMap_map]; congr 1; funext f; rw [fileB_er]
 unfold encodeL
 rw [h1, h2]
theorem encodeL_same {l l' : List FileT} (h : l.map fEr = l'.map fEr) : encodeL l = encodeL l' := by rw [← encodeL_er l, h, encodeL_er]
end Go.Proofs.YtclcnhfponjdaaaGreatDoor
end
section
namespace Go.Proofs.YtclcnhfponjdaaaGreatDoor
open Go.Sk
set_option maxRecDepth 100000
section
variable {B : World} {H : List HP} {w : World}
/-! ### what is owned can be read -/
theorem eIn_of (hS : Sat B H w) {e : EnumT} (h : ∀ p ∈ eOw e, Has B H p) : e.In (RdC B H) := by
 unfold eOw at h
 simp only [List.forall_mem_cons] at h
 obtain ⟨h1, _, h3, _, h5, _⟩ := h
 exact ⟨h1.rdc hS, h3.rdc hS, Has.rdc h5 hS⟩
theorem eInL_of (hS : Sat B H w) {l : List EnumT} (h : Has B H (Bag (l.flatMap eOw))) : ∀ e ∈ l, e.In (RdC B H) := fun e he => eIn_of hS fun p hp => h.bag (List.mem_flatMap.2 ⟨e, he, hp⟩)
theorem Has.bagl {A C : List HP} (h : Has B H (Bag (A ++ C))) : Has B H (Bag A) := fun w hS => by
 obtain ⟨R, h1⟩ := h w hS
 have h2 : Sat B (A ++ (C ++ R)) w := by have := Bag.open_ h1; rwa [List.append_assoc] at this
 exact ⟨C ++ R, Bag.close h2⟩
theorem Has.bagr {A C : List HP} (h : Has B H (Bag (A ++ C))) : Has B H (Bag C) := fun w hS => by
 obtain ⟨R, h1⟩ := h w hS
 have h2 : Sat B (A ++ (C ++ R)) w := by have := Bag.open_ h1; rwa [List.append_assoc] at this
 exact ⟨A ++ R, Bag.close (h2.perm (by rw [← List.append_assoc, ← List.append_assoc]; exact List.perm_append_comm.append_right R))⟩
mutual
theorem mIn_of (hS : Sat B H w) : ∀ (m : MsgT), (∀ p ∈ mOw m, Has B H p) → m.In (RdC B H)
 | .mk nm fields oneofs ma mc msgs enums res names, h => by
  unfold mOw at h
  unfold MsgT.In
  simp only [List.forall_mem_cons] at h
  obtain ⟨h1, _, h3, h4, h5, h6, h7, h8, _, h10, _⟩ := h
  exact ⟨h1.rdc hS, Has.rdc h3 hS, h4.rdc hS, h6.rdc hS, eInL_of hS h7, h8.rdc hS, Has.rdc h10 hS, mInL_of hS msgs h5⟩
theorem mInL_of (hS : Sat B H w) : ∀ (l : List MsgT), Has B H (Bag (mOwL l)) → MsgT.InL (RdC B H) l
 | [], _ => by unfold MsgT.InL; trivial
 | m :: l, h => by
  unfold MsgT.InL
  unfold mOwL at h
  exact ⟨mIn_of hS m fun p hp => h.bagl.bag hp, mInL_of hS l h.bagr⟩
end
theorem fIn_of (hS : Sat B H w) {f : FileT} (h : ∀ p ∈ fOw f, Has B H p) : f.In (RdC B H) := by
 unfold fOw at h
 simp only [List.forall_mem_cons] at h
 obtain ⟨h1, _, h3, h4, h5, h6, _⟩ := h
 exact ⟨h1.rdc hS, h3.rdc hS, fun m hm => MsgT.inL_mem (mInL_of hS f.msgs (by rw [mOwL_flat]; exact h4)) hm, h5.rdc hS, eInL_of hS h6⟩
theorem sIn_of (hS : Sat B H w) {r : Rw FileT} (h : Has B H (Bag (sOw r))) : RdC B H r.a r.l.length r.c 5 (r.l.flatMap FileT.cells) ∧ ∀ f ∈ r.l, f.In (RdC B H) := by
 have h1 : ∀ p ∈ sOw r, Has B H p := fun p hp => h.bag hp
 unfold sOw at h1
 simp only [List.forall_mem_cons] at h1
 obtain ⟨h2, h3, _⟩ := h1
 exact ⟨h2.rdc hS, fun f hf => fIn_of hS fun p hp => h3.bag (List.mem_flatMap.2 ⟨f, hf, hp⟩)⟩
end
/-! ### what is right of a tree is right of it with its places -/
theorem EnumC_er {e : EnumT} (h : EnumC (EnumT.er e)) : EnumC e := h
mutual
theorem MsgC_er : ∀ (m : MsgT) (d : Nat), MsgC (mEr m) d → MsgC m d
 | .mk nm fields oneofs ma mc msgs enums res names, d, h => by
  unfold mEr at h
  unfold MsgC at h ⊢
  obtain ⟨h0, h1, h2, h3, h4, h5, h6, h7⟩ := h
  exact ⟨h0, h1, h2, h3, MsgCL_er msgs (d + 1) h4, fun e he => EnumC_er (h5 _ (List.mem_map_of_mem he)), h6, h7⟩
theorem MsgCL_er : ∀ (l : List MsgT) (d : Nat), MsgCL (mErL l) d → MsgCL l d
 | [], _, _ => by unfold MsgCL; trivial
 | m :: l, d, h => by
  unfold mErL at h
  unfold MsgCL at h ⊢
  exact ⟨MsgC_er m d h.1, MsgCL_er l d h.2⟩
end
theorem FileC_er {f : FileT} (h : FileC (fEr f)) : FileC f := by
 obtain ⟨h1, h2, h3, h4, h5⟩ := h
 exact ⟨h1, h2, h3, fun m hm => MsgC_er m 0 (h4 _ (List.mem_map_of_mem hm)), fun e he => EnumC_er (h5 _ (List.mem_map_of_mem he))⟩
theorem EnumT.er_er (e : EnumT) : EnumT.er (EnumT.er e) = EnumT.er e := rfl
mutual
theorem mEr_mEr : ∀ m : MsgT, mEr (mEr m) = mEr m
 | .mk nm fields oneofs ma mc msgs enums res names => by
  simp only [mEr, barR, mErL_mErL msgs, List.map_map]
  rfl
theorem mErL_mErL : ∀ l : List MsgT, mErL (mErL l) = mErL l
 | [] => by simp only [mErL]
 | m :: l => by simp only [mErL, mEr_mEr m, mErL_mErL l]
end
theorem fEr_fEr (f : FileT) : fEr (fEr f) = fEr f := by
 simp only [fEr, barR, FileT.mk.injEq, Rw.mk.injEq, true_and, List.map_map]
 exact ⟨List.map_congr_left fun m _ => mEr_mEr m, List.map_congr_left fun e _ => EnumT.er_er e⟩
/-! ### how many -/
theorem enc_pos (v : Int) : 1 ≤ (enc v).length := by
 unfold enc encF
 split <;> simp
theorem fBytes_ge (k : Int) (b : Txt) : b.length + 1 ≤ (fBytes k b).length := by
 have := enc_pos (k * 8 + 2)
 unfold fBytes
 simp only [List.length_append]
 omega
theorem fRecs_ge {α : Type} (f : α → Txt) (k : Int) : ∀ l : List α, l.length ≤ (fRecs k f l).length ∧ ∀ x ∈ l, (f x).length ≤ (fRecs k f l).length
 | [] => ⟨Nat.zero_le _, fun _ h => by cases h⟩
 | x :: l => by
  have h1 := fBytes_ge k (f x)
  obtain ⟨h2, h3⟩ := fRecs_ge f k l
  have e : (fRecs k f (x :: l)).length = (fBytes k (f x)).length + (fRecs k f l).length := by simp [fRecs]
  rw [e, List.length_cons]
  refine ⟨by omega, fun y hy => ?_⟩
  rcases List.mem_cons.1 hy with rfl | hy
  ·omega
  ·have := h3 y hy; omega
theorem fTexts_ge (k : Int) (l : List Txt) : l.length ≤ (fTexts k l).length := (fRecs_ge id k l).1
def EnumK (K : Nat) (e : EnumT) : Prop := e.vals.l.length ≤ K ∧ e.res.l.length ≤ K ∧ e.names.l.length ≤ K
mutual
def MsgK (K : Nat) : MsgT → Prop
 | .mk _ fields oneofs _ _ msgs enums res names => fields.l.length ≤ K ∧ oneofs.l.length ≤ K ∧ msgs.length ≤ K ∧ enums.l.length ≤ K ∧ res.l.length ≤ K ∧ names.l.length ≤ K ∧ (∀ e ∈ enums.l, EnumK K e) ∧ MsgKL K msgs
def MsgKL (K : Nat) : List MsgT → Prop
 | [] => True
 | m :: l => MsgK K m ∧ MsgKL K l
end
theorem MsgKL_mem {K : Nat} : ∀ {l : List MsgT} {m : MsgT}, MsgKL K l → m ∈ l → MsgK K m
 | x :: l, m, h, hm => by
  unfold MsgKL at h
  rcases List.mem_cons.1 hm with rfl | hm
  ·exact h.1
  ·exact MsgKL_mem h.2 hm
theorem enumK {K : Nat} {e : EnumT} (h : (enumB e).length ≤ K) : EnumK K e := by
 have h1 := (fRecs_ge valB 2 e.vals.l).1
 have h2 := (fRecs_ge spanB 4 e.res.l).1
 have h3 := fTexts_ge 5 e.names.l
 unfold enumB at h
 simp only [List.length_append] at h
 exact ⟨by omega, by omega, by omega⟩
mutual
theorem msgK {K : Nat} : ∀ (m : MsgT) (d : Nat), MsgC m d → (msgB m d).length ≤ K → MsgK K m
 | .mk nm fields oneofs ma mc msgs enums res names, d, hc, h => by
  unfold MsgC at hc
  rw [msgB_pr hc.1] at h
  simp only [List.length_append, MsgT.nm, MsgT.fields, MsgT.oneofs, MsgT.msgs, MsgT.enums, MsgT.res, MsgT.names] at h
  have h1 := (fRecs_ge fieldB 2 fields.l).1
  have h2 := fTexts_ge 3 oneofs.l
  obtain ⟨h3, h3b⟩ := fRecs_ge (fun y => msgB y (d + 1)) 4 msgs
  obtain ⟨h4, h4b⟩ := fRecs_ge enumB 5 enums.l
  have h5 := (fRecs_ge spanB 6 res.l).1
  have h6 := fTexts_ge 7 names.l
  unfold MsgK
  exact ⟨by omega, by omega, by omega, by omega, by omega, by omega, fun e he => enumK (by have := h4b e he; omega), msgKL msgs (d + 1) hc.2.2.2.2.1 fun m hm => by have := h3b m hm; omega⟩
theorem msgKL {K : Nat} : ∀ (l : List MsgT) (d : Nat), MsgCL l d → (∀ m ∈ l, (msgB m d).length ≤ K) → MsgKL K l
 | [], _, _, _ => by unfold MsgKL; trivial
 | m :: l, d, hc, h => by
  unfold MsgCL at hc
  unfold MsgKL
  exact ⟨msgK m d hc.1 (h m List.mem_cons_self), msgKL l d hc.2 fun x hx => h x (List.mem_cons_of_mem _ hx)⟩
end
structure FileK (K : Nat) (f : FileT) : Prop where
 imps : f.imps.l.length ≤ K
 msgs : f.msgs.length ≤ K
 enums : f.enums.l.length ≤ K
 sub : MsgKL K f.msgs
 esub : ∀ e ∈ f.enums.l, EnumK K e
theorem fileK {K : Nat} {f : FileT} (hc : FileC f) (h : (fileB f).length ≤ K) : FileK K f := by
 unfold fileB at h
 rw [msgsB_eq] at h
 simp only [List.length_append] at h
 have h1 := (fRecs_ge impB 3 f.imps.l).1
 obtain ⟨h3, h3b⟩ := fRecs_ge (fun y => msgB y 0) 4 f.msgs
 obtain ⟨h4, h4b⟩ := fRecs_ge enumB 5 f.enums.l
 exact ⟨by omega, by omega, by omega, msgKL f.msgs 0 (MsgCL_iff.2 hc.2.2.2.1) fun m hm => by have := h3b m hm; omega, fun e he => enumK (by have := h4b e he; omega)⟩
/-! ### right, small, readable: such trees are as the walks want them -/
section
variable {B : World} {H : List HP} {K : Nat}
theorem RdC.ok {a : Option Addr} {k c z : Nat} {xs : List Value} (h : RdC B H a k c z xs) (hk : k ≤ K) (hK : K ≤ 140737488355328) : k ≤ 140737488355328 ∧ k ≤ c ∧ c ≤ 9223372036854775807 := ⟨by omega, h.1.le, h.2⟩
theorem enumOk {e : EnumT} (hi : e.In (RdC B H)) (hc : EnumC e) (hk : EnumK K e) (hK : K ≤ 140737488355328) : e.Ok :=
 ⟨hc.1.2, RdC.ok hi.1 hk.1 hK, fun v hv => ⟨(hc.2.1 v hv).1.2, (hc.2.1 v hv).2⟩, RdC.ok hi.2.1 hk.2.1 hK, fun s hs => hc.2.2.2.1 s hs, RdC.ok hi.2.2 hk.2.2 hK, fun t ht => (hc.2.2.2.2 t ht).2⟩
theorem fieldOk {f : FieldT} (h : FieldC f) : f.Ok := ⟨h.1.2, h.2.1, h.2.2.1, h.2.2.2.1, h.2.2.2.2.1.2, h.2.2.2.2.2.1, h.2.2.2.2.2.2.1, h.2.2.2.2.2.2.2.1, h.2.2.2.2.2.2.2.2.2⟩
mutual
theorem msgOk (hK : K ≤ 140737488355328) : ∀ (m : MsgT) (d : Nat), m.In (RdC B H) → MsgC m d → MsgK K m → m.Ok
 | .mk nm fields oneofs ma mc msgs enums res names, d, hi, hc, hk => by
  unfold MsgT.In at hi
  unfold MsgC at hc
  unfold MsgK at hk
  unfold MsgT.Ok
  obtain ⟨i1, i2, i3, i4, i5, i6, i7, i8⟩ := hi
  obtain ⟨c0, c1, c2, c3, c4, c5, c6, c7⟩ := hc
  obtain ⟨k1, k2, k3, k4, k5, k6, k7, k8⟩ := hk
  exact ⟨c1.2, ⟨RdC.ok i1 k1 hK, fun f hf => fieldOk (c2 f hf)⟩, ⟨RdC.ok i2 k2 hK, fun t ht => (c3 t ht).2⟩, RdC.ok i3 k3 hK, ⟨RdC.ok i4 k4 hK, fun e he => enumOk (i5 e he) (c5 e he) (k7 e he) hK⟩, ⟨RdC.ok i6 k5 hK, fun s hs => c6 s hs⟩, ⟨RdC.ok i7 k6 hK, fun t ht => (c7 t ht).2⟩, msgOkL hK msgs (d + 1) i8 c4 k8⟩
theorem msgOkL (hK : K ≤ 140737488355328) : ∀ (l : List MsgT) (d : Nat), MsgT.InL (RdC B H) l → MsgCL l d → MsgKL K l → MsgT.OkL l
 | [], _, _, _, _ => by unfold MsgT.OkL; trivial
 | m :: l, d, hi, hc, hk => by
  unfold MsgT.InL at hi
  unfold MsgCL at hc
  unfold MsgKL at hk
  unfold MsgT.OkL
  exact ⟨msgOk hK m d hi.1 hc.1 hk.1, msgOkL hK l d hi.2 hc.2 hk.2⟩
end
theorem fileOk {f : FileT} (hi : f.In (RdC B H)) (hc : FileC f) (hk : FileK K f) (hK : K ≤ 140737488355328) : f.Ok where
 path := hc.1.2
 pack := hc.2.1.2
 imps := ⟨RdC.ok hi.imps hk.imps hK, fun i h => (hc.2.2.1 i h).1.2⟩
 msgs := ⟨RdC.ok hi.msgs hk.msgs hK, fun m hm => msgOk hK m 0 (hi.sub m hm) (hc.2.2.2.1 m hm) (MsgKL_mem hk.sub hm)⟩
 enums := ⟨RdC.ok hi.enums hk.enums hK, fun e he => enumOk (hi.esub e he) (hc.2.2.2.2 e he) (hk.esub e he) hK⟩
/-- What Decode hands out. -/
theorem read_own {r : Rw FileT} {bs : Txt} {w : World} {p : Nat} (hS : Sat B H w) (hh : Has B H (Bag (sOw r))) (hb : Bytes bs) {L : List FileT} (hr : readL bs = (L, 0, p)) (he : r.l.map fEr = L) :
  Rd B H r.a r.l.length r.c 5 (r.l.flatMap FileT.cells) ∧ (∀ f ∈ r.l, f.In (Rd B H)) ∧ (∀ f ∈ r.l, f.Ok) ∧ r.l.length ≤ 16777216 ∧ encodeL r.l = (some bs, 0) := by
 obtain ⟨h1, h2⟩ := readL_form hb hr
 obtain ⟨h3, h4⟩ := sIn_of hS hh
 have he2 : r.l.map fEr = L.map fEr := by
  rw [← he, List.map_map]
  exact List.map_congr_left fun f _ => (fEr_fEr f).symm
 have hE : encodeL r.l = (some bs, 0) := by rw [encodeL_same he2, h1]
 have hC : ∀ f ∈ r.l, FileC f := fun f hf => FileC_er (h2 _ (he ▸ List.mem_map_of_mem hf))
 have hsb : setB r.l = bs ∧ bs.length ≤ 16777216 := by
  unfold encodeL at hE
  split at hE
  ·split at hE
   ·cases hE; exact ⟨rfl, by assumption⟩
   ·cases hE
  ·cases hE
 obtain ⟨k1, k2⟩ := fRecs_ge fileB 1 r.l
 have hlen : (fRecs 1 fileB r.l).length = bs.length := by rw [← hsb.1]; rfl
 refine ⟨h3.1, fun f hf => FileT.In.mono (fun _ _ _ _ _ q => q.1) (h4 f hf), fun f hf => fileOk (K := 16777216) (h4 f hf) (hC f hf) (fileK (hC f hf) (by have := k2 f hf; omega)) (by decide), by omega, hE⟩
end
end Go.Proofs.YtclcnhfponjdaaaGreatDoor
end
section
namespace Go.Proofs.YtclcnhfponjdaaaGreatDoor
open Go.Sk
set_option maxRecDepth 100000
theorem Facts.weak {B : World} {X Y : List HP} {t : TB} (h : Facts B X t) (hm : ∀ w, Sat B Y w → Sat B X w) : Facts B Y t := ⟨h.forms.weak hm, h.r0.weak hm, h.r1.weak hm, h.r2.weak hm, h.r3.weak hm, h.r4.weak hm, h.r5.weak hm, h.r6.weak hm, h.r7.weak hm, fun k b ty v e => (h.box k b ty v e).weak hm⟩
theorem readL_full {bs : Txt} (h : 16777216 < bs.length) : readL bs = ([], 71, 0) := by unfold readL; rw [if_pos h]
theorem readL_bad {bs : Txt} {p : Nat} (h : ¬ 16777216 < bs.length) (e : rdSet bs 0 bs.length = .error p) : readL bs = ([], 70, p) := by unfold readL; rw [if_neg h, e]
theorem readL_ok {bs : Txt} {r : Rw FileT} (h : ¬ 16777216 < bs.length) (e : rdSet bs 0 bs.length = .ok r) : readL bs = (r.l, 0, 0) := by unfold readL; rw [if_neg h, e]
attribute [local irreducible] Cs Own Ex Pu Yld RT LJ QJ AtQ CT Rd QSp Sp FinQ Then LoopQ CutQ DT TakeQ EffQ
attribute [local irreducible] FinD SpD RecQ Bag
variable {B : World} {R : List HP}
theorem dec1_ret {cl ce cp : Nat} : SpD B Tryz.prog 30 [ptr cl, ptr ce, ptr cp] .returning .returning R [] [] := by
 refine SpD.body2 Tryz.func30 rfl Tryz.results30 Tryz.ntmps30 (by simp) (by decide) (by decide) (.inl ⟨rfl, rfl, rfl⟩) ?_
 simp only [argE, List.cons_append, List.nil_append, Nat.zero_add, Nat.reduceAdd]
 try refine gL ?_
 refine RT.innil rfl ⟨_, Tryz.underlying20⟩ (.inl ⟨rfl, rfl⟩) rfl rfl ?_
 try refine gL ?_
 exact AtQ.rec_ (.inl rfl) (fun w h => h)
theorem dec1_pan {cl ce cp : Nat} {p : Int} {x y z : Value} : SpD B Tryz.prog 30 [ptr cl, ptr ce, ptr cp] (.panicking (pan (wrv p))) (.panicking [{ v := wrv p, recovered := true }]) R [Cs cl 25 [x], Cs ce 29 [y], Cs cp 3 [z]] [Cs cl 25 [.slice none 0 0], Cs ce 29 [.int .i64 70], Cs cp 3 [.int .i64 p]] := by
 refine SpD.body2 Tryz.func30 rfl Tryz.results30 Tryz.ntmps30 (by simp) (by decide) (by decide) (.inr ⟨_, rfl, rfl, rfl⟩) ?_
 simp only [argE, List.cons_append, List.nil_append, Nat.zero_add, Nat.reduceAdd]
 try refine gL ?_
 refine RT.innil rfl ⟨_, Tryz.underlying20⟩ (.inr ⟨_, _, rfl, rfl⟩) rfl rfl ?_
 try refine gL ?_
 refine RT.tassert rfl Tryz.underlying95 (by intro b h; cases h) rfl rfl ?_
 repeat' (first|refine gQ ?_|(refine gb ?_;intro b)|fail)
 refine gt ?_
 try refine gQ ?_
 refine CT.drawn [Cs b 95 [.int .i64 p]] 4 mixed ?_
 (refine DT.takes (k := 3) [0, 1] [2, 3, 4] (fun w h => Sat.ones (by (repeat (first|exact Fr.nil|(apply Fr.cons;focus ((repeat constructor);done))))) h) (by kernel_rfl) (by kernel_rfl) (by kernel_rfl) rfl (Clos.ofB (by kernel_rfl)) ?_)
 try refine gL ?_
 refine AtQ.take ?_
 (refine DT.eff 2 rfl (by kernel_rfl) ?_)
 try refine gL ?_
 refine AtQ.eff (fun w h => Sat.ones fR_ h) ?_
 (refine DT.eff 3 rfl (by kernel_rfl) ?_)
 try refine gL ?_
 refine AtQ.eff (fun w h => Sat.ones fR_ h) ?_
 (refine DT.eff 4 rfl (by kernel_rfl) ?_)
 try refine gL ?_
 refine AtQ.eff' (by kernel_rfl) ?_
 (refine DT.done (by kernel_rfl) ?_)
 exact AtQ.rec_ (.inl rfl) (fun w h => h.frd (Ps := [_, _, _]) (Qs := [_]) fR_)
set_option maxHeartbeats 4000000 in
theorem decode_fn (hT : Lib.Utf8Tabs 0 1 B) {a : Option Addr} {n c : Nat} {bs : Txt} (hR : Rd B R a n c 1 (ints .u8 bs)) (hb : Bytes bs) (hn : n ≤ 140737488355328) :
  Sp B Tryz.prog 12 [sl8 a n c] R [] (fun v H' => ∃ r : Rw FileT, v = .tuple #[r.v, .int .i64 (readL bs).2.1, .int .i64 ((readL bs).2.2 : Nat)] ∧ r.l.map fEr = (readL bs).1 ∧ H' = [Bag (sOw r)]) := by
 have hbl := hR.lenI
 refine Sp.bodyD Tryz.func12 rfl Tryz.ntmps12 (by simp) ?_
 simp only [argE, List.cons_append, List.nil_append, Nat.zero_add, Nat.reduceAdd]
 repeat' (first|refine gL ?_|(refine gv ?_;(refine⟨fun hc=>?_,fun hc=>?_⟩<;>first|(exfalso;omega)|skip))|(refine gb ?_;intro b)|fail)
 ·exact AtQ.finD0 (Hf := [Bag (sOw rw0)]) (res_three T Tryz.results12 rfl rfl sE_ rfl rfl sE_ rfl rfl sE_) ⟨rw0, by rw [readL_full (by omega)]; rfl, by rw [readL_full (by omega)]; rfl, rfl⟩ (fun w h => Bag.close (ps := sOw rw0) (Sat.nilOwn (Bag.nil_ h.tail.tail.tail))) (.inr rfl)
 rename_i bl be
 revert b
 intro bp
 have h16 : n ≤ 16777216 := by omega
 refine RT.mkF rfl rfl rfl ?_
 refine RT.defer (caps := [ptr bl, ptr be, ptr bp]) rfl rfl rfl ?_
 try refine gQ ?_
 refine CT.drawnP [] 6 mixed ?_
 refine DTP.takesOn (k := 10) [4] [0, 1, 2, 3, 5, 6] (PanOn.then_ (FinD.panOn (rs := [.cell 2 25, .cell 3 29, .cell 4 3]) Tryz.results12 (by kernel_rfl))) (fun w h => h.mono fun _ _ => trivial) (by kernel_rfl) (by kernel_rfl) (by kernel_rfl) rfl (Clos.ofB (by kernel_rfl)) ?_
 try refine gL ?_
 refine AtQ.takeP ?_
 refine DTP.eff 0 rfl (by kernel_rfl) ?_
 refine RT.call T rfl fR_ tables_fn rfl rfl rfl ?_
 rintro _ _ ⟨t, rfl, rfl⟩
 refine RT.weak (fun w h => Bag.close h) ?_
 refine RT.fact (p := Facts B (Bag (tblH t) :: Cs bp 3 [.int .i64 0] :: Cs be 29 [.int .i64 0] :: Cs bl 25 [.slice none 0 0] :: R) t) (fun w h => (facts_of (Bag.open_ h)).weak fun w' h' => Bag.open_ h') (fun hF => ?_)
 try refine gL ?_
 refine AtQ.effP (fun w h => h.mono fun _ _ => trivial) ?_
 refine DTP.hr (HR' := Bag (tblH t) :: Cs bp 3 [.int .i64 0] :: Cs be 29 [.int .i64 0] :: Cs bl 25 [.slice none 0 0] :: R) (fun w h => h.mono fun _ _ => trivial) ?_
 refine DTP.takesOn (k := 6) [1, 2, 3] [5, 6] (PanOn.then_ (FinD.panOn (rs := [.cell 2 25, .cell 3 29, .cell 4 3]) Tryz.results12 (by kernel_rfl))) (fun w h => h) (by kernel_rfl) (by kernel_rfl) (by kernel_rfl) rfl (Clos.ofB (by kernel_rfl)) ?_
 try refine gL ?_
 refine RT.ldB T rfl (rD (hF.forms)) rfl rfl rfl rfl ?_
 try refine gL ?_
 refine AtQ.takeP ?_
 refine DTP.eff 5 rfl (by kernel_rfl) ?_
 refine RT.call T rfl fR_ (newReader_fn (l := bs) (rD (hR)) hn) rfl rfl rfl ?_
 rintro _ _ ⟨pr, a', c', rfl, rfl⟩
 simp only [List.cons_append, List.nil_append]
 refine RT.fact (p := n ≤ c') (fun w h => (Own.facts h (.t .h)).2.1) (fun hc' => ?_)
 try refine gL ?_
 refine AtQ.effP (fun w h => h.tail.tail) ?_
 refine DTP.eff 6 rfl (by kernel_rfl) ?_
 have hrd := rd_set (t := t) (bs := bs) (a := a') (n := n) (c := c') (deep := 0) (R := own8 a' c' bs n :: Bag (tblH t) :: Cs bp 3 [.int .i64 0] :: Cs be 29 [.int .i64 0] :: Cs bl 25 [.slice none 0 0] :: R) hT hF.cons (Own.rdI .h hbl hc') hb h16 (by omega) (by omega)
 have hnf : ¬ 16777216 < bs.length := by omega
 refine RT.callP T rfl fR_ (hrd _ (fun _ _ _ _ _ h => h) pr 0 n (Nat.zero_le _) (Nat.le_refl _)) rfl rfl rfl (fun v H1 hp => ?_) (fun v H1 hp => ?_)
 ·obtain ⟨pl, he, rfl, rfl⟩ := hp
  rw [← hbl] at he
  (repeat refine nx ?_)
  exact AtQ.finDp (n := 17) (R2 := own8 a' c' bs n :: Bag (tblH t) :: R) (Hf := [Bag (sOw rw0)]) (fun args w => run_call (T := T) rfl) dec1_pan fR_ (res_three T Tryz.results12 rfl rfl sE_ rfl rfl sE_ rfl rfl sE_) ⟨rw0, by rw [readL_bad hnf he]; rfl, by rw [readL_bad hnf he]; rfl, rfl⟩ (fun w h => Bag.close (ps := sOw rw0) (Sat.nilOwn (Bag.nil_ h.tail.tail.tail.tail.tail)))
 obtain ⟨x, he, rfl, rfl⟩ := hp
 rw [← hbl] at he
 simp only [List.cons_append, List.nil_append]
 try refine gL ?_
 refine AtQ.effP' (by kernel_rfl) ?_
 refine DTP.eff 7 rfl (by kernel_rfl) ?_
 refine RT.fieldv (l := [x.v]) rfl Tryz.underlying98 rfl rfl rfl rfl rfl ?_
 try refine gL ?_
 refine AtQ.effP' (by kernel_rfl) ?_
 refine DTP.eff 8 rfl (by kernel_rfl) ?_
 try refine gL ?_
 refine AtQ.effP' (by kernel_rfl) ?_
 refine DTP.eff 9 rfl (by kernel_rfl) ?_
 try refine gL ?_
 refine AtQ.effP' (by kernel_rfl) ?_
 refine DTP.eff 10 rfl (by kernel_rfl) ?_
 try refine gL ?_
 refine AtQ.effP' (by kernel_rfl) ?_
 refine DTP.done (by kernel_rfl) ?_
 try refine gL ?_
 exact AtQ.finD (n := 17) (R2 := Bag (sOw x) :: own8 a' c' bs n :: Bag (tblH t) :: Cs bp 3 [.int .i64 0] :: Cs be 29 [.int .i64 0] :: Cs bl 25 [x.v] :: R) (Hf := [Bag (sOw x)]) (fun args w => run_call (T := T) rfl) dec1_ret fR_ (res_three T Tryz.results12 rfl rfl sE_ rfl rfl sE_ rfl rfl sE_)
  ⟨x, by rw [readL_ok hnf he]; rfl, by rw [readL_ok hnf he]; rfl, rfl⟩ (fun w h => h.frd (Ps := [_]) (Qs := [_, _, _, _, _]) fR_) (.inr rfl)
end Go.Proofs.YtclcnhfponjdaaaGreatDoor
end
section
namespace Go.Proofs.YtclcnhfponjdaaaGreatDoor
open Go.Sk
set_option maxRecDepth 100000
def kB : Txt := [10, 9, 42, 7, 18, 5, 10, 1, 65, 16, 1]
def kE (av : Option Addr) (cv : Nat) : EnumT := ⟨[], ⟨av, cv, [⟨[65], -1⟩]⟩, false, ⟨none, 0, []⟩, ⟨none, 0, []⟩⟩
def kF (ae : Option Addr) (ce : Nat) (av : Option Addr) (cv : Nat) : FileT := ⟨[], [], ⟨none, 0, []⟩, none, 0, [], ⟨ae, ce, [kE av cv]⟩⟩
theorem k_enc (ae : Option Addr) (ce : Nat) (av : Option Addr) (cv : Nat) : encodeL [kF ae ce av cv] = (some kB, 0) := by kernel_rfl
theorem k_dec : readL kB = ([kF none 0 none 0], 0, 0) := by kernel_rfl
theorem k_bad : readL [10, 2, 10, 0] = ([], 70, 2) := by kernel_rfl
theorem k_in {B : World} {H : List HP} {ae av : Option Addr} {ce cv : Nat} (h1 : Rd B H ae 1 ce 5 ([kE av cv].flatMap EnumT.cells)) (h2 : Rd B H av 1 cv 2 (([⟨[65], -1⟩] : List EValT).flatMap EValT.cells)) : ∀ f ∈ [kF ae ce av cv], f.In (Rd B H) := fun f hf => by
 rw [List.mem_singleton.1 hf]
 exact ⟨Rd.none_, Rd.none_, mem_nil, h1, fun e he => by rw [List.mem_singleton.1 he]; exact ⟨h2, Rd.none_, Rd.none_⟩⟩
theorem k_okn {α : Type} : OkN (⟨none, 0, []⟩ : Rw α) := ⟨Nat.zero_le _, Nat.le_refl _, Nat.zero_le _⟩
theorem k_ok1 {α : Type} {a : Option Addr} {x : α} : OkN (⟨a, 1, [x]⟩ : Rw α) := ⟨by show (1 : Nat) ≤ 140737488355328; decide, Nat.le_refl _, by show (1 : Nat) ≤ 9223372036854775807; decide⟩
theorem k_t0 : OkT [] := ⟨by decide, by decide⟩
theorem k_tA : OkT [65] := ⟨by decide, by decide⟩
theorem k_ok {ae av : Option Addr} : ∀ f ∈ [kF ae 1 av 1], f.Ok := fun f hf => by
 rw [List.mem_singleton.1 hf]
 exact ⟨k_t0, k_t0, ⟨k_okn, mem_nil⟩, ⟨k_okn, mem_nil⟩, ⟨k_ok1, fun e he => by
  rw [List.mem_singleton.1 he]
  exact ⟨k_t0, k_ok1, fun v hv => by rw [List.mem_singleton.1 hv]; exact ⟨k_tA, by show (-2147483648 : Int) ≤ -1; decide, by show (-1 : Int) ≤ 2147483647; decide⟩, k_okn, mem_nil, k_okn, mem_nil⟩⟩⟩
attribute [local irreducible] Cs Own Ex Pu Yld RT LJ QJ AtQ CT Rd QSp Sp FinQ Then LoopQ CutQ DT TakeQ EffQ
attribute [local irreducible] Bag
variable {B : World}
set_option maxHeartbeats 4000000 in
theorem known_fn (hT : Lib.Utf8Tabs 0 1 B) (R : List HP) : Sp B Tryz.prog 8 [] R [] (fun v H' => v = .bool true ∧ H' = []) := by
 have hEB : ∀ ae av, encB [kF ae 1 av 1] = kB := fun ae av => by unfold encB; rw [k_enc]; rfl
 have hE : ∀ ae av, encodeL [kF ae 1 av 1] = (some kB, 0) := fun ae av => k_enc _ _ _ _
 have hby : Bytes kB := by unfold kB Bytes isByte; decide
 refine Sp.body Tryz.func8 rfl Tryz.ntmps8 (by simp) ?_
 simp only [argE, List.cons_append, List.nil_append, Nat.zero_add, Nat.reduceAdd]
 try refine gL ?_
 refine RT.bsA T (l := ([⟨[65], -1⟩] : List EValT).flatMap EValT.cells) rfl rfl rfl rfl rfl rfl rfl rfl (fun av => ?_)
 try refine gL ?_
 refine RT.bsA T (l := [kE av 1].flatMap EnumT.cells) rfl rfl rfl rfl rfl rfl rfl rfl (fun ae => ?_)
 repeat' (first|refine gM ?_|(refine gb ?_;intro b)|fail)
 refine RT.bsA T (l := [kF ae 1 av 1].flatMap FileT.cells) rfl rfl rfl rfl rfl rfl rfl rfl (fun af => ?_)
 refine RT.call T rfl fR_ (encode_fn (a := af) (c := 1) (l := [kF ae 1 av 1]) hT (Own.rd sE_ rfl (Nat.le_refl _)) (k_in (Own.rd sE_ rfl (Nat.le_refl _)) (Own.rd sE_ rfl (Nat.le_refl _))) k_ok (by show (1 : Nat) ≤ _; decide)) rfl rfl rfl ?_
 rw [hEB, hE]
 rintro _ _ ⟨a2, c2, rfl, rfl⟩
 simp only [List.cons_append, List.nil_append]
 refine RT.fact (p := 11 ≤ c2) (fun w h => (Own.facts h .h).2.1) fun hc2 => ?_
 refine RT.weak (fun w h => h.frd (Ps := [own8 a2 c2 kB 11]) (Qs := [_, _, _, _]) fR_) ?_
 try refine gL ?_
 refine RT.bs T (l := ints .u8 kB) rfl rfl rfl rfl rfl rfl rfl (fun a3 c3 hc3 => ?_)
 (refine RT.qcall T rfl (QSp.of fR_ (sameBytes_fn (l := kB) (l' := kB) (Own.rdI sE_ rfl hc2) (Own.rdI sE_ rfl hc3) (by decide) (by decide))) rfl rfl rfl ?_)
 rw [decide_eq_true (rfl : kB = kB)]
 refine RT.weak (fun w h => h.tail.tail) ?_
 try refine gL ?_
 refine RT.bs T (l := ints .u8 kB) rfl rfl rfl rfl rfl rfl rfl (fun a4 c4 hc4 => ?_)
 refine RT.call T rfl fR_ (decode_fn (n := 11) hT (Own.rdI sE_ rfl hc4) hby (by decide)) rfl rfl rfl ?_
 rw [k_dec]
 rintro _ _ ⟨r, rfl, he, rfl⟩
 simp only [List.cons_append, List.nil_append] at he ⊢
 refine RT.fact (p := RdC B (Bag (sOw r) :: Own a4 c4 5 1 11 (ints .u8 kB) :: R) r.a r.l.length r.c 5 (r.l.flatMap FileT.cells)) (fun w h => (sIn_of h (Has.sel .h)).1) fun hr => ?_
 try refine gL ?_
 refine RT.bs T (l := ints .u8 [10, 2, 10, 0]) rfl rfl rfl rfl rfl rfl rfl (fun a5 c5 hc5 => ?_)
 refine RT.call T rfl fR_ (decode_fn (n := 4) (bs := [10, 2, 10, 0]) hT (Own.rdI sE_ rfl hc5) (by unfold Bytes isByte; decide) (by decide)) rfl rfl rfl ?_
 rw [k_bad]
 rintro _ _ ⟨r2, rfl, he2, rfl⟩
 simp only [List.cons_append, List.nil_append]
 obtain ⟨ra, rc, rl⟩ := r
 simp only at he
 obtain ⟨f, rfl⟩ : ∃ f, rl = [f] := by
  cases rl with
  | nil => cases he
  | cons f l =>
   cases l with
   | nil => exact ⟨f, rfl⟩
   | cons g l => have := congrArg List.length he; simp at this
 simp only [List.map_cons, List.map_nil, List.cons.injEq, and_true] at he
 have hle : f.enums.l.length = 1 := by
  have := congrArg (fun g => g.enums.l.length) he
  simpa [fEr, kF] using this
 obtain ⟨fp, fk, ⟨ia, ic, il⟩, ma, mc, ml, ⟨ea, ec, el⟩⟩ := f
 simp only at hle
 have hr1 : Rd B _ ra 1 rc 5 [vS fp, vS fk, .slice ia il.length ic, .slice ma ml.length mc, .slice ea el.length ec] := hr.1
 rw [hle] at hr1
 generalize hV : (⟨ra, rc, [⟨fp, fk, ⟨ia, ic, il⟩, ma, mc, ml, ⟨ea, ec, el⟩⟩]⟩ : Rw FileT).v = V
 obtain rfl : V = .slice ra 1 rc := hV.symm
 clear hV
 repeat' (first|refine gL ?_|(refine gv ?_;(refine⟨fun hc=>?_,fun hc=>?_⟩<;>first|(exfalso;omega)|skip))|fail)
 refine RT.ix T (j := 0) rfl rfl rfl (rD (hr1)) (by decide) (by decide) (by decide) rfl rfl ?_
 refine RT.faA T rfl rfl rfl rfl ?_
 refine RT.ldr (u := .slice ea 1 ec) T rfl (rD (hr1)) rfl rfl rfl rfl ?_
 repeat' (first|refine gL ?_|(refine gv ?_;(refine⟨fun hc=>?_,fun hc=>?_⟩<;>first|(exfalso;omega)|skip))|fail)
 exact AtQ.f1 Tryz.results8 rfl rfl dR_
end Go.Proofs.YtclcnhfponjdaaaGreatDoor
end
section
namespace Go.Proofs.YtclcnhfponjdaaaGreatDoor
open Go.Sk
set_option maxRecDepth 100000
theorem vS_inj {l l' : Txt} (h : Byt l) (h' : Byt l') (e : vS l = vS l') : l = l' := by
 simp only [vS, Value.string.injEq] at e
 exact (str_inj h h').1 e
theorem span_inj {x y : SpanT} (e : x.cells = y.cells) : x = y := by
 cases x; cases y
 simpa [SpanT.cells] using e
theorem imp_inj {x y : ImpT} (hx : x.Ok) (hy : y.Ok) (e : x.cells = y.cells) : x = y := by
 cases x; cases y
 simp only [ImpT.cells, List.cons.injEq, Value.bool.injEq, and_true] at e
 rw [ImpT.mk.injEq]
 exact ⟨vS_inj hx.1 hy.1 e.1, e.2⟩
theorem ev_inj {x y : EValT} (hx : x.Ok) (hy : y.Ok) (e : x.cells = y.cells) : x = y := by
 cases x; cases y
 simp only [EValT.cells, List.cons.injEq, Value.int.injEq, true_and, and_true] at e
 rw [EValT.mk.injEq]
 exact ⟨vS_inj hx.1.1 hy.1.1 e.1, e.2⟩
theorem fd_inj {x y : FieldT} (hx : x.Ok) (hy : y.Ok) (e : x.cells = y.cells) : x = y := by
 obtain ⟨x1, _, _, _, x5, _, _, _, x9⟩ := hx
 obtain ⟨y1, _, _, _, y5, _, _, _, y9⟩ := hy
 cases x; cases y
 simp only [FieldT.cells, List.cons.injEq, Value.int.injEq, true_and, and_true] at e
 obtain ⟨e1, e2, e3, e4, e5, e6, e7, e8, e9⟩ := e
 rw [FieldT.mk.injEq]
 exact ⟨vS_inj x1.1 y1.1 e1, e2, e3, e4, vS_inj x5.1 y5.1 e5, e6, e7, e8, vS_inj x9.1 y9.1 e9⟩
attribute [local irreducible] Cs Own Ex Pu Yld RT LJ QJ AtQ CT Rd QSp Sp FinQ Then LoopQ CutQ DT TakeQ EffQ
variable {B : World} {R : List HP}
set_option maxHeartbeats 1000000 in
theorem sameSpans_fn {a a' : Option Addr} {c c' : Nat} {l l' : List SpanT} (hR : Rd B R a l.length c 2 (l.flatMap SpanT.cells)) (hR' : Rd B R a' l'.length c' 2 (l'.flatMap SpanT.cells)) (hl : l.length ≤ 140737488355328) (hl' : l'.length ≤ 140737488355328) :
  Sp B Tryz.prog 288 [.slice a l.length c, .slice a' l'.length c'] R [] (fun v H' => v = .bool (dc (l = l')) ∧ H' = []) := by
 refine Sp.body Tryz.func288 rfl Tryz.ntmps288 (by simp) ?_
 simp only [argE, List.cons_append, List.nil_append, Nat.zero_add, Nat.reduceAdd]
 repeat' (first|refine gL ?_|(refine gv ?_;(refine⟨fun hc=>?_,fun hc=>?_⟩<;>first|(exfalso;omega)|skip))|fail)
 ·have hll : l.length = l'.length := by omega
  refine CT.loop (α := Nat) (fun i => [(0, .slice a l.length c), (1, .slice a' l'.length c'), (5, .int .i64 i)]) (fun i => Pu (i ≤ l.length ∧ (l.take i).map id = (l'.take i).map id) :: R) (fun i => l.length - i) 0 ⟨rfl, rfl, rfl, trivial⟩
   (fun w h => Sat.pu_in ⟨Nat.zero_le _, rfl⟩ h) (fun i => CT.pu fun ⟨hi, hE⟩ => ?_)
  repeat' (first|refine gL ?_|(refine gv ?_;(refine⟨fun hc=>?_,fun hc=>?_⟩<;>first|(exfalso;omega)|skip))|fail)
  ·have hi1 : i < l.length := by omega
   have hi2 : i < l'.length := by omega
   have hx := List.getElem?_eq_getElem hi1
   have hy := List.getElem?_eq_getElem hi2
   revert hx hy
   generalize l[i] = x
   generalize l'[i] = y
   intro hx hy
   refine RT.ix T (j := i * 2) rfl rfl rfl (rD (hR)) (by omega) (by omega) (by omega) rfl rfl ?_
   refine RT.ldra T rfl (rD (hR)) (l := x.cells) (flat_sub (f := SpanT.cells) (z := 2) (fun _ => rfl) l i _ hx) rfl rfl rfl rfl ?_
   try refine gL ?_
   refine RT.ix T (j := i * 2) rfl rfl rfl (rD (hR')) (by omega) (by omega) (by omega) rfl rfl ?_
   refine RT.ldra T rfl (rD (hR')) (l := y.cells) (flat_sub (f := SpanT.cells) (z := 2) (fun _ => rfl) l' i _ hy) rfl rfl rfl rfl ?_
   by_cases hxy : x = y
   ·subst hxy
    refine RT.neS (xs := x.cells) rfl rfl (by kernel_rfl) rfl rfl ?_
    repeat' (first|refine gL ?_|(refine gv ?_;refine gk ?_)|fail)
    exact AtQ.loop (i + 1) ⟨rfl, rfl, rfl, trivial⟩ (fun w h => Sat.pu_in ⟨by omega, map_step hx hy rfl hE⟩ h) (by omega)
   ·refine RT.neD (xs := x.cells) (ys := y.cells) rfl rfl (by kernel_rfl) (fun e => hxy (span_inj e)) rfl rfl ?_
    try refine gL ?_
    exact AtQ.f1 Tryz.results288 rfl (by rw [dc_f (fun e => by rw [e, hy] at hx; cases hx; exact hxy rfl)]) (fun w h => h)
  ·obtain rfl : i = l.length := by omega
   have e : l = l' := by
    rw [List.take_length, hll, List.take_length, List.map_id, List.map_id] at hE
    exact hE
   exact AtQ.f1 Tryz.results288 rfl (by rw [dc_t e]) (fun w h => h)
 ·exact AtQ.f1 Tryz.results288 rfl (by rw [dc_f (fun e => by have := congrArg List.length e; omega)]) (fun w h => h)
set_option maxHeartbeats 1000000 in
theorem sameImports_fn {a a' : Option Addr} {c c' : Nat} {l l' : List ImpT} (hR : Rd B R a l.length c 2 (l.flatMap ImpT.cells)) (hR' : Rd B R a' l'.length c' 2 (l'.flatMap ImpT.cells)) (ho : ∀ x ∈ l, x.Ok) (ho' : ∀ x ∈ l', x.Ok) (hl : l.length ≤ 140737488355328) (hl' : l'.length ≤ 140737488355328) :
  Sp B Tryz.prog 149 [.slice a l.length c, .slice a' l'.length c'] R [] (fun v H' => v = .bool (dc (l = l')) ∧ H' = []) := by
 refine Sp.body Tryz.func149 rfl Tryz.ntmps149 (by simp) ?_
 simp only [argE, List.cons_append, List.nil_append, Nat.zero_add, Nat.reduceAdd]
 repeat' (first|refine gL ?_|(refine gv ?_;(refine⟨fun hc=>?_,fun hc=>?_⟩<;>first|(exfalso;omega)|skip))|fail)
 ·have hll : l.length = l'.length := by omega
  refine CT.loop (α := Nat) (fun i => [(0, .slice a l.length c), (1, .slice a' l'.length c'), (5, .int .i64 i)]) (fun i => Pu (i ≤ l.length ∧ (l.take i).map id = (l'.take i).map id) :: R) (fun i => l.length - i) 0 ⟨rfl, rfl, rfl, trivial⟩
   (fun w h => Sat.pu_in ⟨Nat.zero_le _, rfl⟩ h) (fun i => CT.pu fun ⟨hi, hE⟩ => ?_)
  repeat' (first|refine gL ?_|(refine gv ?_;(refine⟨fun hc=>?_,fun hc=>?_⟩<;>first|(exfalso;omega)|skip))|fail)
  ·have hi1 : i < l.length := by omega
   have hi2 : i < l'.length := by omega
   have hx := List.getElem?_eq_getElem hi1
   have hy := List.getElem?_eq_getElem hi2
   revert hx hy
   generalize l[i] = x
   generalize l'[i] = y
   intro hx hy
   refine RT.ix T (j := i * 2) rfl rfl rfl (rD (hR)) (by omega) (by omega) (by omega) rfl rfl ?_
   refine RT.ldra T rfl (rD (hR)) (l := x.cells) (flat_sub (f := ImpT.cells) (z := 2) (fun _ => rfl) l i _ hx) rfl rfl rfl rfl ?_
   try refine gL ?_
   refine RT.ix T (j := i * 2) rfl rfl rfl (rD (hR')) (by omega) (by omega) (by omega) rfl rfl ?_
   refine RT.ldra T rfl (rD (hR')) (l := y.cells) (flat_sub (f := ImpT.cells) (z := 2) (fun _ => rfl) l' i _ hy) rfl rfl rfl rfl ?_
   by_cases hxy : x = y
   ·subst hxy
    refine RT.neS (xs := x.cells) rfl rfl (by kernel_rfl) rfl rfl ?_
    repeat' (first|refine gL ?_|(refine gv ?_;refine gk ?_)|fail)
    exact AtQ.loop (i + 1) ⟨rfl, rfl, rfl, trivial⟩ (fun w h => Sat.pu_in ⟨by omega, map_step hx hy rfl hE⟩ h) (by omega)
   ·refine RT.neD (xs := x.cells) (ys := y.cells) rfl rfl (by kernel_rfl) (fun e => hxy (imp_inj (ho x (List.mem_of_getElem? hx)) (ho' y (List.mem_of_getElem? hy)) e)) rfl rfl ?_
    try refine gL ?_
    exact AtQ.f1 Tryz.results149 rfl (by rw [dc_f (fun e => by rw [e, hy] at hx; cases hx; exact hxy rfl)]) (fun w h => h)
  ·obtain rfl : i = l.length := by omega
   have e : l = l' := by
    rw [List.take_length, hll, List.take_length, List.map_id, List.map_id] at hE
    exact hE
   exact AtQ.f1 Tryz.results149 rfl (by rw [dc_t e]) (fun w h => h)
 ·exact AtQ.f1 Tryz.results149 rfl (by rw [dc_f (fun e => by have := congrArg List.length e; omega)]) (fun w h => h)
set_option maxHeartbeats 1000000 in
theorem sameEnumValues_fn {a a' : Option Addr} {c c' : Nat} {l l' : List EValT} (hR : Rd B R a l.length c 2 (l.flatMap EValT.cells)) (hR' : Rd B R a' l'.length c' 2 (l'.flatMap EValT.cells)) (ho : ∀ x ∈ l, x.Ok) (ho' : ∀ x ∈ l', x.Ok) (hl : l.length ≤ 140737488355328) (hl' : l'.length ≤ 140737488355328) :
  Sp B Tryz.prog 289 [.slice a l.length c, .slice a' l'.length c'] R [] (fun v H' => v = .bool (dc (l = l')) ∧ H' = []) := by
 refine Sp.body Tryz.func289 rfl Tryz.ntmps289 (by simp) ?_
 simp only [argE, List.cons_append, List.nil_append, Nat.zero_add, Nat.reduceAdd]
 repeat' (first|refine gL ?_|(refine gv ?_;(refine⟨fun hc=>?_,fun hc=>?_⟩<;>first|(exfalso;omega)|skip))|fail)
 ·have hll : l.length = l'.length := by omega
  refine CT.loop (α := Nat) (fun i => [(0, .slice a l.length c), (1, .slice a' l'.length c'), (5, .int .i64 i)]) (fun i => Pu (i ≤ l.length ∧ (l.take i).map id = (l'.take i).map id) :: R) (fun i => l.length - i) 0 ⟨rfl, rfl, rfl, trivial⟩
   (fun w h => Sat.pu_in ⟨Nat.zero_le _, rfl⟩ h) (fun i => CT.pu fun ⟨hi, hE⟩ => ?_)
  repeat' (first|refine gL ?_|(refine gv ?_;(refine⟨fun hc=>?_,fun hc=>?_⟩<;>first|(exfalso;omega)|skip))|fail)
  ·have hi1 : i < l.length := by omega
   have hi2 : i < l'.length := by omega
   have hx := List.getElem?_eq_getElem hi1
   have hy := List.getElem?_eq_getElem hi2
   revert hx hy
   generalize l[i] = x
   generalize l'[i] = y
   intro hx hy
   refine RT.ix T (j := i * 2) rfl rfl rfl (rD (hR)) (by omega) (by omega) (by omega) rfl rfl ?_
   refine RT.ldra T rfl (rD (hR)) (l := x.cells) (flat_sub (f := EValT.cells) (z := 2) (fun _ => rfl) l i _ hx) rfl rfl rfl rfl ?_
   try refine gL ?_
   refine RT.ix T (j := i * 2) rfl rfl rfl (rD (hR')) (by omega) (by omega) (by omega) rfl rfl ?_
   refine RT.ldra T rfl (rD (hR')) (l := y.cells) (flat_sub (f := EValT.cells) (z := 2) (fun _ => rfl) l' i _ hy) rfl rfl rfl rfl ?_
   by_cases hxy : x = y
   ·subst hxy
    refine RT.neS (xs := x.cells) rfl rfl (by kernel_rfl) rfl rfl ?_
    repeat' (first|refine gL ?_|(refine gv ?_;refine gk ?_)|fail)
    exact AtQ.loop (i + 1) ⟨rfl, rfl, rfl, trivial⟩ (fun w h => Sat.pu_in ⟨by omega, map_step hx hy rfl hE⟩ h) (by omega)
   ·refine RT.neD (xs := x.cells) (ys := y.cells) rfl rfl (by kernel_rfl) (fun e => hxy (ev_inj (ho x (List.mem_of_getElem? hx)) (ho' y (List.mem_of_getElem? hy)) e)) rfl rfl ?_
    try refine gL ?_
    exact AtQ.f1 Tryz.results289 rfl (by rw [dc_f (fun e => by rw [e, hy] at hx; cases hx; exact hxy rfl)]) (fun w h => h)
  ·obtain rfl : i = l.length := by omega
   have e : l = l' := by
    rw [List.take_length, hll, List.take_length, List.map_id, List.map_id] at hE
    exact hE
   exact AtQ.f1 Tryz.results289 rfl (by rw [dc_t e]) (fun w h => h)
 ·exact AtQ.f1 Tryz.results289 rfl (by rw [dc_f (fun e => by have := congrArg List.length e; omega)]) (fun w h => h)
set_option maxHeartbeats 1000000 in
theorem sameFieldDefs_fn {a a' : Option Addr} {c c' : Nat} {l l' : List FieldT} (hR : Rd B R a l.length c 9 (l.flatMap FieldT.cells)) (hR' : Rd B R a' l'.length c' 9 (l'.flatMap FieldT.cells)) (ho : ∀ x ∈ l, x.Ok) (ho' : ∀ x ∈ l', x.Ok) (hl : l.length ≤ 140737488355328) (hl' : l'.length ≤ 140737488355328) :
  Sp B Tryz.prog 287 [.slice a l.length c, .slice a' l'.length c'] R [] (fun v H' => v = .bool (dc (l = l')) ∧ H' = []) := by
 refine Sp.body Tryz.func287 rfl Tryz.ntmps287 (by simp) ?_
 simp only [argE, List.cons_append, List.nil_append, Nat.zero_add, Nat.reduceAdd]
 repeat' (first|refine gL ?_|(refine gv ?_;(refine⟨fun hc=>?_,fun hc=>?_⟩<;>first|(exfalso;omega)|skip))|fail)
 ·have hll : l.length = l'.length := by omega
  refine CT.loop (α := Nat) (fun i => [(0, .slice a l.length c), (1, .slice a' l'.length c'), (5, .int .i64 i)]) (fun i => Pu (i ≤ l.length ∧ (l.take i).map id = (l'.take i).map id) :: R) (fun i => l.length - i) 0 ⟨rfl, rfl, rfl, trivial⟩
   (fun w h => Sat.pu_in ⟨Nat.zero_le _, rfl⟩ h) (fun i => CT.pu fun ⟨hi, hE⟩ => ?_)
  repeat' (first|refine gL ?_|(refine gv ?_;(refine⟨fun hc=>?_,fun hc=>?_⟩<;>first|(exfalso;omega)|skip))|fail)
  ·have hi1 : i < l.length := by omega
   have hi2 : i < l'.length := by omega
   have hx := List.getElem?_eq_getElem hi1
   have hy := List.getElem?_eq_getElem hi2
   revert hx hy
   generalize l[i] = x
   generalize l'[i] = y
   intro hx hy
   refine RT.ix T (j := i * 9) rfl rfl rfl (rD (hR)) (by omega) (by omega) (by omega) rfl rfl ?_
   refine RT.ldra T rfl (rD (hR)) (l := x.cells) (flat_sub (f := FieldT.cells) (z := 9) (fun _ => rfl) l i _ hx) rfl rfl rfl rfl ?_
   try refine gL ?_
   refine RT.ix T (j := i * 9) rfl rfl rfl (rD (hR')) (by omega) (by omega) (by omega) rfl rfl ?_
   refine RT.ldra T rfl (rD (hR')) (l := y.cells) (flat_sub (f := FieldT.cells) (z := 9) (fun _ => rfl) l' i _ hy) rfl rfl rfl rfl ?_
   by_cases hxy : x = y
   ·subst hxy
    refine RT.neS (xs := x.cells) rfl rfl (by kernel_rfl) rfl rfl ?_
    repeat' (first|refine gL ?_|(refine gv ?_;refine gk ?_)|fail)
    exact AtQ.loop (i + 1) ⟨rfl, rfl, rfl, trivial⟩ (fun w h => Sat.pu_in ⟨by omega, map_step hx hy rfl hE⟩ h) (by omega)
   ·refine RT.neD (xs := x.cells) (ys := y.cells) rfl rfl (by kernel_rfl) (fun e => hxy (fd_inj (ho x (List.mem_of_getElem? hx)) (ho' y (List.mem_of_getElem? hy)) e)) rfl rfl ?_
    try refine gL ?_
    exact AtQ.f1 Tryz.results287 rfl (by rw [dc_f (fun e => by rw [e, hy] at hx; cases hx; exact hxy rfl)]) (fun w h => h)
  ·obtain rfl : i = l.length := by omega
   have e : l = l' := by
    rw [List.take_length, hll, List.take_length, List.map_id, List.map_id] at hE
    exact hE
   exact AtQ.f1 Tryz.results287 rfl (by rw [dc_t e]) (fun w h => h)
 ·exact AtQ.f1 Tryz.results287 rfl (by rw [dc_f (fun e => by have := congrArg List.length e; omega)]) (fun w h => h)
set_option maxHeartbeats 1000000 in
theorem sameT_fn' {a a' : Option Addr} {c c' : Nat} {ls ls' : List Txt} (hR : Rd B R a ls.length c 1 (tstr ls)) (hR' : Rd B R a' ls'.length c' 1 (tstr ls')) (hB : ∀ l ∈ ls, Byt l) (hB' : ∀ l ∈ ls', Byt l) (hl : ls.length ≤ 140737488355328) (hl' : ls'.length ≤ 140737488355328) :
  Sp B Tryz.prog 265 [.slice a ls.length c, .slice a' ls'.length c'] R [] (fun v H' => v = .bool (dc (ls = ls')) ∧ H' = []) := by
 refine Sp.body Tryz.func265 rfl Tryz.ntmps265 (by simp) ?_
 simp only [argE, List.cons_append, List.nil_append, Nat.zero_add, Nat.reduceAdd]
 repeat' (first|refine gL ?_|(refine gv ?_;(refine⟨fun hc=>?_,fun hc=>?_⟩<;>first|(exfalso;omega)|skip))|fail)
 ·have hll : ls.length = ls'.length := by omega
  refine CT.loop (α := Nat) (fun i => [(0, .slice a ls.length c), (1, .slice a' ls'.length c'), (5, .int .i64 i)]) (fun i => Pu (i ≤ ls.length ∧ (ls.take i).map id = (ls'.take i).map id) :: R) (fun i => ls.length - i) 0 ⟨rfl, rfl, rfl, trivial⟩
   (fun w h => Sat.pu_in ⟨Nat.zero_le _, rfl⟩ h) (fun i => CT.pu fun ⟨hi, hE⟩ => ?_)
  repeat' (first|refine gL ?_|(refine gv ?_;(refine⟨fun hc=>?_,fun hc=>?_⟩<;>first|(exfalso;omega)|skip))|fail)
  ·have hi1 : i < ls.length := by omega
   have hi2 : i < ls'.length := by omega
   have hx := List.getElem?_eq_getElem hi1
   have hy := List.getElem?_eq_getElem hi2
   revert hx hy
   generalize ls[i] = x
   generalize ls'[i] = y
   intro hx hy
   have gx : (tstr ls)[i]? = some (.string (str x)) := by rw [List.getElem?_map, hx]; rfl
   have gy : (tstr ls')[i]? = some (.string (str y)) := by rw [List.getElem?_map, hy]; rfl
   refine RT.ix T (j := i) rfl rfl rfl (rD (hR)) (by omega) (by omega) (by omega) rfl rfl ?_
   refine RT.ldr T rfl (rD (hR)) gx rfl rfl rfl ?_
   try refine gL ?_
   refine RT.ix T (j := i) rfl rfl rfl (rD (hR')) (by omega) (by omega) (by omega) rfl rfl ?_
   refine RT.ldr T rfl (rD (hR')) gy rfl rfl rfl ?_
   refine RT.nes (l := x) (l' := y) rfl rfl (hB x (List.mem_of_getElem? hx)) (hB' y (List.mem_of_getElem? hy)) rfl rfl (fun he => ?_) (fun he => ?_)
   ·repeat' (first|refine gL ?_|(refine gv ?_;refine gk ?_)|fail)
    exact AtQ.loop (i + 1) ⟨rfl, rfl, rfl, trivial⟩ (fun w h => Sat.pu_in ⟨by omega, map_step hx hy he hE⟩ h) (by omega)
   ·try refine gL ?_
    exact AtQ.f1 Tryz.results265 rfl (by rw [dc_f (fun e => by rw [e, hy] at hx; cases hx; exact he rfl)]) (fun w h => h)
  ·obtain rfl : i = ls.length := by omega
   have e : ls = ls' := by
    rw [List.take_length, hll, List.take_length, List.map_id, List.map_id] at hE
    exact hE
   exact AtQ.f1 Tryz.results265 rfl (by rw [dc_t e]) (fun w h => h)
 ·exact AtQ.f1 Tryz.results265 rfl (by rw [dc_f (fun e => by have := congrArg List.length e; omega)]) (fun w h => h)
end Go.Proofs.YtclcnhfponjdaaaGreatDoor
end
section
namespace Go.Proofs.YtclcnhfponjdaaaGreatDoor
open Go.Sk
set_option maxRecDepth 100000
theorem er_enum {x y : EnumT} : EnumT.er x = EnumT.er y ↔ x.nm = y.nm ∧ x.ali = y.ali ∧ x.vals.l = y.vals.l ∧ x.res.l = y.res.l ∧ x.names.l = y.names.l := by
 cases x; cases y
 simp only [EnumT.er, barR, EnumT.mk.injEq, Rw.mk.injEq, true_and]
 exact ⟨fun ⟨a, b, c, d, e⟩ => ⟨a, c, b, d, e⟩, fun ⟨a, c, b, d, e⟩ => ⟨a, b, c, d, e⟩⟩
theorem er_msg {x y : MsgT} : mEr x = mEr y ↔ x.nm = y.nm ∧ x.fields.l = y.fields.l ∧ x.oneofs.l = y.oneofs.l ∧ x.enums.l.map EnumT.er = y.enums.l.map EnumT.er ∧ x.msgs.map mEr = y.msgs.map mEr ∧ x.res.l = y.res.l ∧ x.names.l = y.names.l := by
 cases x; cases y
 unfold mEr
 simp only [barR, MsgT.mk.injEq, Rw.mk.injEq, true_and, mErL_map, MsgT.nm, MsgT.fields, MsgT.oneofs, MsgT.enums, MsgT.msgs, MsgT.res, MsgT.names]
 exact ⟨fun ⟨a, b, c, d, e, f, g⟩ => ⟨a, b, c, e, d, f, g⟩, fun ⟨a, b, c, e, d, f, g⟩ => ⟨a, b, c, d, e, f, g⟩⟩
theorem er_file {x y : FileT} : fEr x = fEr y ↔ x.path = y.path ∧ x.pack = y.pack ∧ x.imps.l = y.imps.l ∧ x.msgs.map mEr = y.msgs.map mEr ∧ x.enums.l.map EnumT.er = y.enums.l.map EnumT.er := by
 cases x; cases y
 simp only [fEr, barR, FileT.mk.injEq, Rw.mk.injEq, true_and]
attribute [local irreducible] Cs Own Ex Pu Yld RT LJ QJ AtQ CT Rd QSp Sp FinQ Then LoopQ CutQ DT TakeQ EffQ
variable {B : World} {R : List HP}
set_option maxHeartbeats 2000000 in
theorem sameEnum_fn {x y : EnumT} (hx : x.In (Rd B R)) (hy : y.In (Rd B R)) (ox : x.Ok) (oy : y.Ok) :
  Sp B Tryz.prog 255 [.agg x.cells.toArray, .agg y.cells.toArray] R [] (fun v H' => v = .bool (dc (EnumT.er x = EnumT.er y)) ∧ H' = []) := by
 have hE := er_enum (x := x) (y := y)
 generalize hP : (EnumT.er x = EnumT.er y) = P at hE ⊢
 clear hP
 obtain ⟨n1, ⟨va, vc, vl⟩, b1, ⟨ra, rc, rl⟩, ⟨ta, tc, tl⟩⟩ := x
 obtain ⟨n2, ⟨va2, vc2, vl2⟩, b2, ⟨ra2, rc2, rl2⟩, ⟨ta2, tc2, tl2⟩⟩ := y
 obtain ⟨x1, x2, x3⟩ := hx
 obtain ⟨y1, y2, y3⟩ := hy
 obtain ⟨o1, o2, o2b, o3, o3b, o4, o4b⟩ := ox
 obtain ⟨p1, p2, p2b, p3, p3b, p4, p4b⟩ := oy
 have l2 := o2.1
 have l3 := o3.1
 have l4 := o4.1
 have m2 := p2.1
 have m3 := p3.1
 have m4 := p4.1
 dsimp only at *
 dsimp only [EnumT.cells, Rw.v]
 refine Sp.body Tryz.func255 rfl Tryz.ntmps255 (by simp) ?_
 simp only [argE, List.cons_append, List.nil_append, Nat.zero_add, Nat.reduceAdd]
 repeat' (first|refine gL ?_|(refine gb ?_;intro b)|fail)
 refine RT.eqs (l := n1) (l' := n2) rfl rfl o1.1 p1.1 rfl rfl (fun q0 => ?_) (fun q0 => ?_)
 rotate_left
 ·try refine gL ?_
  exact AtQ.f1 Tryz.results255 rfl (by rw [dc_f (fun e => q0 ((hE.1 e).1))]) dR_
 try refine gL ?_
 refine RT.eqb Tryz.underlying4 rfl rfl rfl rfl ?_
 by_cases q1 : b1 = b2
 rotate_left
 ·rw [show (b1 == b2) = false by simpa using q1]
  try refine gL ?_
  exact AtQ.f1 Tryz.results255 rfl (by rw [dc_f (fun e => q1 ((hE.1 e).2.1))]) dR_
 rw [show (b1 == b2) = true by simpa using q1]
 try refine gL ?_
 (refine RT.call T rfl fR_ (sameEnumValues_fn (l := vl) (l' := vl2) (rD (x1)) (rD (y1)) o2b p2b l2 m2) rfl rfl rfl ?_; rintro _ _ ⟨rfl, rfl⟩; try simp only [List.cons_append, List.nil_append])
 by_cases q2 : vl = vl2
 rotate_left
 ·rw [dc_f q2]
  try refine gL ?_
  exact AtQ.f1 Tryz.results255 rfl (by rw [dc_f (fun e => q2 ((hE.1 e).2.2.1))]) dR_
 rw [dc_t q2]
 try refine gL ?_
 (refine RT.call T rfl fR_ (sameSpans_fn (l := rl) (l' := rl2) (rD (x2)) (rD (y2)) l3 m3) rfl rfl rfl ?_; rintro _ _ ⟨rfl, rfl⟩; try simp only [List.cons_append, List.nil_append])
 by_cases q3 : rl = rl2
 rotate_left
 ·rw [dc_f q3]
  try refine gL ?_
  exact AtQ.f1 Tryz.results255 rfl (by rw [dc_f (fun e => q3 ((hE.1 e).2.2.2.1))]) dR_
 rw [dc_t q3]
 try refine gL ?_
 (refine RT.call T rfl fR_ (sameT_fn' (ls := tl) (ls' := tl2) (rD (x3)) (rD (y3)) (fun z hz => (o4b z hz).1) (fun z hz => (p4b z hz).1) l4 m4) rfl rfl rfl ?_; rintro _ _ ⟨rfl, rfl⟩; try simp only [List.cons_append, List.nil_append])
 by_cases q4 : tl = tl2
 rotate_left
 ·rw [dc_f q4]
  try refine gL ?_
  exact AtQ.f1 Tryz.results255 rfl (by rw [dc_f (fun e => q4 ((hE.1 e).2.2.2.2))]) dR_
 rw [dc_t q4]
 try refine gL ?_
 exact AtQ.f1 Tryz.results255 rfl (by rw [dc_t (hE.2 ⟨q0, q1, q2, q3, q4⟩)]) dR_
set_option maxHeartbeats 2000000 in
theorem sameEnums_fn {a a' : Option Addr} {c c' : Nat} {l l' : List EnumT} (hR : Rd B R a l.length c 5 (l.flatMap EnumT.cells)) (hR' : Rd B R a' l'.length c' 5 (l'.flatMap EnumT.cells)) (hi : ∀ x ∈ l, x.In (Rd B R)) (hi' : ∀ x ∈ l', x.In (Rd B R)) (ho : ∀ x ∈ l, x.Ok) (ho' : ∀ x ∈ l', x.Ok) (hl : l.length ≤ 140737488355328) (hl' : l'.length ≤ 140737488355328) :
  Sp B Tryz.prog 151 [.slice a l.length c, .slice a' l'.length c'] R [] (fun v H' => v = .bool (dc (l.map EnumT.er = l'.map EnumT.er)) ∧ H' = []) := by
 refine Sp.body Tryz.func151 rfl Tryz.ntmps151 (by simp) ?_
 simp only [argE, List.cons_append, List.nil_append, Nat.zero_add, Nat.reduceAdd]
 repeat' (first|refine gL ?_|(refine gv ?_;(refine⟨fun hc=>?_,fun hc=>?_⟩<;>first|(exfalso;omega)|skip))|fail)
 ·have hll : l.length = l'.length := by omega
  refine CT.loop (α := Nat) (fun i => [(0, .slice a l.length c), (1, .slice a' l'.length c'), (5, .int .i64 i)]) (fun i => Pu (i ≤ l.length ∧ (l.take i).map EnumT.er = (l'.take i).map EnumT.er) :: R) (fun i => l.length - i) 0 ⟨rfl, rfl, rfl, trivial⟩
   (fun w h => Sat.pu_in ⟨Nat.zero_le _, rfl⟩ h) (fun i => CT.pu fun ⟨hix, hE⟩ => ?_)
  repeat' (first|refine gL ?_|(refine gv ?_;(refine⟨fun hc=>?_,fun hc=>?_⟩<;>first|(exfalso;omega)|skip))|fail)
  ·have hi1 : i < l.length := by omega
   have hi2 : i < l'.length := by omega
   have hx := List.getElem?_eq_getElem hi1
   have hy := List.getElem?_eq_getElem hi2
   revert hx hy
   generalize l[i] = x
   generalize l'[i] = y
   intro hx hy
   have hmx := List.mem_of_getElem? hx
   have hmy := List.mem_of_getElem? hy
   refine RT.ix T (j := i * 5) rfl rfl rfl (rD (hR)) (by omega) (by omega) (by omega) rfl rfl ?_
   refine RT.ldra T rfl (rD (hR)) (l := x.cells) (flat_sub (f := EnumT.cells) (z := 5) (fun _ => rfl) l i _ hx) rfl rfl rfl rfl ?_
   try refine gL ?_
   refine RT.ix T (j := i * 5) rfl rfl rfl (rD (hR')) (by omega) (by omega) (by omega) rfl rfl ?_
   refine RT.ldra T rfl (rD (hR')) (l := y.cells) (flat_sub (f := EnumT.cells) (z := 5) (fun _ => rfl) l' i _ hy) rfl rfl rfl rfl ?_
   (refine RT.qcall T rfl (QSp.of fR_ (sameEnum_fn (x := x) (y := y) (hi x hmx) (hi' y hmy) (ho x hmx) (ho' y hmy))) rfl rfl rfl ?_)
   by_cases hxy : EnumT.er x = EnumT.er y
   ·rw [dc_t hxy]
    repeat' (first|refine gL ?_|(refine gv ?_;refine gk ?_)|fail)
    exact AtQ.loop (i + 1) ⟨rfl, rfl, rfl, trivial⟩ (fun w h => Sat.pu_in ⟨by omega, map_step hx hy hxy hE⟩ h) (by omega)
   ·rw [dc_f hxy]
    try refine gL ?_
    exact AtQ.f1 Tryz.results151 rfl (by rw [dc_f (map_ne hx hy hxy)]) (fun w h => h)
  ·obtain rfl : i = l.length := by omega
   have e : l.map EnumT.er = l'.map EnumT.er := by
    rw [List.take_length, hll, List.take_length] at hE
    exact hE
   exact AtQ.f1 Tryz.results151 rfl (by rw [dc_t e]) (fun w h => h)
 ·exact AtQ.f1 Tryz.results151 rfl (by rw [dc_f (fun e => by have := congrArg List.length e; simp only [List.length_map] at this; omega)]) (fun w h => h)
set_option maxHeartbeats 4000000 in
theorem sameMsg_of {x y : MsgT} (hx : x.In (Rd B R)) (hy : y.In (Rd B R)) (ox : x.Ok) (oy : y.Ok) (hs : ∀ R', (∀ a k c z l, Rd B R a k c z l → Rd B R' a k c z l) → Sp B Tryz.prog 150 [.slice x.ma x.msgs.length x.mc, .slice y.ma y.msgs.length y.mc] R' [] (fun v H' => v = .bool (dc (x.msgs.map mEr = y.msgs.map mEr)) ∧ H' = [])) :
  Sp B Tryz.prog 254 [.agg x.cells.toArray, .agg y.cells.toArray] R [] (fun v H' => v = .bool (dc (mEr x = mEr y)) ∧ H' = []) := by
 have hE := er_msg (x := x) (y := y)
 generalize hP : (mEr x = mEr y) = P at hE ⊢
 clear hP
 obtain ⟨n1, ⟨fa, fc, fl⟩, ⟨sa, sc, sl⟩, ma, mc, ml, ⟨ea, ec, el⟩, ⟨ra, rc, rl⟩, ⟨ta, tc, tl⟩⟩ := x
 obtain ⟨n2, ⟨fa2, fc2, fl2⟩, ⟨sa2, sc2, sl2⟩, ma2, mc2, ml2, ⟨ea2, ec2, el2⟩, ⟨ra2, rc2, rl2⟩, ⟨ta2, tc2, tl2⟩⟩ := y
 unfold MsgT.In at hx hy
 unfold MsgT.Ok at ox oy
 obtain ⟨x1, x2, x3, x4, x5, x6, x7, x8⟩ := hx
 obtain ⟨y1, y2, y3, y4, y5, y6, y7, y8⟩ := hy
 obtain ⟨o1, ⟨o2, o2b⟩, ⟨o3, o3b⟩, o4, ⟨o5, o5b⟩, ⟨o6, o6b⟩, ⟨o7, o7b⟩, o8⟩ := ox
 obtain ⟨p1, ⟨p2, p2b⟩, ⟨p3, p3b⟩, p4, ⟨p5, p5b⟩, ⟨p6, p6b⟩, ⟨p7, p7b⟩, p8⟩ := oy
 have l2 := o2.1
 have l3 := o3.1
 have l4 := o4.1
 have l5 := o5.1
 have l6 := o6.1
 have l7 := o7.1
 have m2 := p2.1
 have m3 := p3.1
 have m4 := p4.1
 have m5 := p5.1
 have m6 := p6.1
 have m7 := p7.1
 dsimp only [MsgT.nm, MsgT.fields, MsgT.oneofs, MsgT.ma, MsgT.mc, MsgT.msgs, MsgT.enums, MsgT.res, MsgT.names] at *
 dsimp only [MsgT.cells, MsgT.nm, MsgT.fields, MsgT.oneofs, MsgT.ma, MsgT.mc, MsgT.msgs, MsgT.enums, MsgT.res, MsgT.names, Rw.v]
 refine Sp.body Tryz.func254 rfl Tryz.ntmps254 (by simp) ?_
 simp only [argE, List.cons_append, List.nil_append, Nat.zero_add, Nat.reduceAdd]
 repeat' (first|refine gL ?_|(refine gb ?_;intro b)|fail)
 refine RT.nes (l := n1) (l' := n2) rfl rfl o1.1 p1.1 rfl rfl (fun q0 => ?_) (fun q0 => ?_)
 rotate_left
 ·try refine gL ?_
  exact AtQ.f1 Tryz.results254 rfl (by rw [dc_f (fun e => q0 ((hE.1 e).1))]) dR_
 try refine gL ?_
 (refine RT.call T rfl fR_ (sameFieldDefs_fn (l := fl) (l' := fl2) (rD (x1)) (rD (y1)) o2b p2b l2 m2) rfl rfl rfl ?_; rintro _ _ ⟨rfl, rfl⟩; try simp only [List.cons_append, List.nil_append])
 by_cases q1 : fl = fl2
 rotate_left
 ·rw [dc_f q1]
  try refine gL ?_
  exact AtQ.f1 Tryz.results254 rfl (by rw [dc_f (fun e => q1 ((hE.1 e).2.1))]) dR_
 rw [dc_t q1]
 try refine gL ?_
 (refine RT.call T rfl fR_ (sameT_fn' (ls := sl) (ls' := sl2) (rD (x2)) (rD (y2)) (fun z hz => (o3b z hz).1) (fun z hz => (p3b z hz).1) l3 m3) rfl rfl rfl ?_; rintro _ _ ⟨rfl, rfl⟩; try simp only [List.cons_append, List.nil_append])
 by_cases q2 : sl = sl2
 rotate_left
 ·rw [dc_f q2]
  try refine gL ?_
  exact AtQ.f1 Tryz.results254 rfl (by rw [dc_f (fun e => q2 ((hE.1 e).2.2.1))]) dR_
 rw [dc_t q2]
 try refine gL ?_
 (refine RT.call T rfl fR_ (sameEnums_fn (l := el) (l' := el2) (rD (x4)) (rD (y4)) (fun z hz => EnumT.In.mono (fun _ _ _ _ _ h => (rD (h))) (x5 z hz)) (fun z hz => EnumT.In.mono (fun _ _ _ _ _ h => (rD (h))) (y5 z hz)) o5b p5b l5 m5) rfl rfl rfl ?_; rintro _ _ ⟨rfl, rfl⟩; try simp only [List.cons_append, List.nil_append])
 by_cases q3 : el.map EnumT.er = el2.map EnumT.er
 rotate_left
 ·rw [dc_f q3]
  try refine gL ?_
  exact AtQ.f1 Tryz.results254 rfl (by rw [dc_f (fun e => q3 ((hE.1 e).2.2.2.1))]) dR_
 rw [dc_t q3]
 try refine gL ?_
 (refine RT.call T rfl fR_ (hs _ (fun _ _ _ _ _ h => (rD (h)))) rfl rfl rfl ?_; rintro _ _ ⟨rfl, rfl⟩; try simp only [List.cons_append, List.nil_append])
 by_cases q4 : ml.map mEr = ml2.map mEr
 rotate_left
 ·rw [dc_f q4]
  try refine gL ?_
  exact AtQ.f1 Tryz.results254 rfl (by rw [dc_f (fun e => q4 ((hE.1 e).2.2.2.2.1))]) dR_
 rw [dc_t q4]
 try refine gL ?_
 (refine RT.call T rfl fR_ (sameSpans_fn (l := rl) (l' := rl2) (rD (x6)) (rD (y6)) l6 m6) rfl rfl rfl ?_; rintro _ _ ⟨rfl, rfl⟩; try simp only [List.cons_append, List.nil_append])
 by_cases q5 : rl = rl2
 rotate_left
 ·rw [dc_f q5]
  try refine gL ?_
  exact AtQ.f1 Tryz.results254 rfl (by rw [dc_f (fun e => q5 ((hE.1 e).2.2.2.2.2.1))]) dR_
 rw [dc_t q5]
 try refine gL ?_
 (refine RT.call T rfl fR_ (sameT_fn' (ls := tl) (ls' := tl2) (rD (x7)) (rD (y7)) (fun z hz => (o7b z hz).1) (fun z hz => (p7b z hz).1) l7 m7) rfl rfl rfl ?_; rintro _ _ ⟨rfl, rfl⟩; try simp only [List.cons_append, List.nil_append])
 by_cases q6 : tl = tl2
 rotate_left
 ·rw [dc_f q6]
  try refine gL ?_
  exact AtQ.f1 Tryz.results254 rfl (by rw [dc_f (fun e => q6 ((hE.1 e).2.2.2.2.2.2))]) dR_
 rw [dc_t q6]
 try refine gL ?_
 exact AtQ.f1 Tryz.results254 rfl (by rw [dc_t (hE.2 ⟨q0, q1, q2, q3, q4, q5, q6⟩)]) dR_
set_option maxHeartbeats 2000000 in
theorem sameMsgs_fn (k : Nat) : ∀ {R : List HP} {a a' : Option Addr} {c c' : Nat} {l l' : List MsgT}, MsgT.deepL l ≤ k → Rd B R a l.length c 7 (l.flatMap MsgT.cells) → Rd B R a' l'.length c' 7 (l'.flatMap MsgT.cells) → (∀ x ∈ l, x.In (Rd B R)) → (∀ x ∈ l', x.In (Rd B R)) → (∀ x ∈ l, x.Ok) → (∀ x ∈ l', x.Ok) → l.length ≤ 140737488355328 → l'.length ≤ 140737488355328 →
  Sp B Tryz.prog 150 [.slice a l.length c, .slice a' l'.length c'] R [] (fun v H' => v = .bool (dc (l.map mEr = l'.map mEr)) ∧ H' = []) := by
 induction k using Nat.strongRecOn with
 | ind k ih =>
  intro R a a' c c' l l' hk hR hR' hi hi' ho ho' hl hl'
  have hsub : ∀ x y, x ∈ l → y ∈ l' → ∀ R2, (∀ a k c z l, Rd B R a k c z l → Rd B R2 a k c z l) → Sp B Tryz.prog 150 [.slice x.ma x.msgs.length x.mc, .slice y.ma y.msgs.length y.mc] R2 [] (fun v H' => v = .bool (dc (x.msgs.map mEr = y.msgs.map mEr)) ∧ H' = []) := by
   intro x y hmx hmy R2 hM
   have hdx := MsgT.deep_mem hmx
   have ix := hi x hmx
   have iy := hi' y hmy
   have ox := ho x hmx
   have oy := ho' y hmy
   cases x with | mk xnm xf xo xma xmc xm xe xr xn =>
   cases y with | mk ynm yf yo yma ymc ym ye yr yn =>
   unfold MsgT.deep at hdx
   unfold MsgT.In at ix iy
   unfold MsgT.Ok at ox oy
   obtain ⟨_, _, x3, _, _, _, _, x8⟩ := ix
   obtain ⟨_, _, y3, _, _, _, _, y8⟩ := iy
   obtain ⟨_, _, _, o4, _, _, _, o8⟩ := ox
   obtain ⟨_, _, _, p4, _, _, _, p8⟩ := oy
   dsimp only [MsgT.ma, MsgT.mc, MsgT.msgs]
   exact ih (MsgT.deepL xm) (by omega) (Nat.le_refl _) (hM _ _ _ _ _ x3) (hM _ _ _ _ _ y3) (fun z hz => MsgT.In.mono (fun _ _ _ _ _ h => hM _ _ _ _ _ h) (MsgT.inL_mem x8 hz)) (fun z hz => MsgT.In.mono (fun _ _ _ _ _ h => hM _ _ _ _ _ h) (MsgT.inL_mem y8 hz)) (fun z hz => MsgT.okL_mem o8 hz) (fun z hz => MsgT.okL_mem p8 hz) o4.1 p4.1
  refine Sp.body Tryz.func150 rfl Tryz.ntmps150 (by simp) ?_
  simp only [argE, List.cons_append, List.nil_append, Nat.zero_add, Nat.reduceAdd]
  repeat' (first|refine gL ?_|(refine gv ?_;(refine⟨fun hc=>?_,fun hc=>?_⟩<;>first|(exfalso;omega)|skip))|fail)
  ·have hll : l.length = l'.length := by omega
   refine CT.loop (α := Nat) (fun i => [(0, .slice a l.length c), (1, .slice a' l'.length c'), (5, .int .i64 i)]) (fun i => Pu (i ≤ l.length ∧ (l.take i).map mEr = (l'.take i).map mEr) :: R) (fun i => l.length - i) 0 ⟨rfl, rfl, rfl, trivial⟩
    (fun w h => Sat.pu_in ⟨Nat.zero_le _, rfl⟩ h) (fun i => CT.pu fun ⟨hix, hE⟩ => ?_)
   repeat' (first|refine gL ?_|(refine gv ?_;(refine⟨fun hc=>?_,fun hc=>?_⟩<;>first|(exfalso;omega)|skip))|fail)
   ·have hi1 : i < l.length := by omega
    have hi2 : i < l'.length := by omega
    have hx := List.getElem?_eq_getElem hi1
    have hy := List.getElem?_eq_getElem hi2
    revert hx hy
    generalize l[i] = x
    generalize l'[i] = y
    intro hx hy
    have hmx := List.mem_of_getElem? hx
    have hmy := List.mem_of_getElem? hy
    refine RT.ix T (j := i * 7) rfl rfl rfl (rD (hR)) (by omega) (by omega) (by omega) rfl rfl ?_
    refine RT.ldra T rfl (rD (hR)) (l := x.cells) (flat_sub (f := MsgT.cells) (z := 7) (fun _ => rfl) l i _ hx) rfl rfl rfl rfl ?_
    try refine gL ?_
    refine RT.ix T (j := i * 7) rfl rfl rfl (rD (hR')) (by omega) (by omega) (by omega) rfl rfl ?_
    refine RT.ldra T rfl (rD (hR')) (l := y.cells) (flat_sub (f := MsgT.cells) (z := 7) (fun _ => rfl) l' i _ hy) rfl rfl rfl rfl ?_
    (refine RT.qcall T rfl (QSp.of fR_ (sameMsg_of (x := x) (y := y) (hi x hmx) (hi' y hmy) (ho x hmx) (ho' y hmy) (fun R2 hM => hsub x y hmx hmy R2 hM))) rfl rfl rfl ?_)
    by_cases hxy : mEr x = mEr y
    ·rw [dc_t hxy]
     repeat' (first|refine gL ?_|(refine gv ?_;refine gk ?_)|fail)
     exact AtQ.loop (i + 1) ⟨rfl, rfl, rfl, trivial⟩ (fun w h => Sat.pu_in ⟨by omega, map_step hx hy hxy hE⟩ h) (by omega)
    ·rw [dc_f hxy]
     try refine gL ?_
     exact AtQ.f1 Tryz.results150 rfl (by rw [dc_f (map_ne hx hy hxy)]) (fun w h => h)
   ·obtain rfl : i = l.length := by omega
    have e : l.map mEr = l'.map mEr := by
     rw [List.take_length, hll, List.take_length] at hE
     exact hE
    exact AtQ.f1 Tryz.results150 rfl (by rw [dc_t e]) (fun w h => h)
  ·exact AtQ.f1 Tryz.results150 rfl (by rw [dc_f (fun e => by have := congrArg List.length e; simp only [List.length_map] at this; omega)]) (fun w h => h)
set_option maxHeartbeats 2000000 in
theorem sameFile_fn {x y : FileT} (hx : x.In (Rd B R)) (hy : y.In (Rd B R)) (ox : x.Ok) (oy : y.Ok) :
  Sp B Tryz.prog 34 [.agg x.cells.toArray, .agg y.cells.toArray] R [] (fun v H' => v = .bool (dc (fEr x = fEr y)) ∧ H' = []) := by
 have hE := er_file (x := x) (y := y)
 generalize hP : (fEr x = fEr y) = P at hE ⊢
 clear hP
 obtain ⟨n1, k1, ⟨ia, ic, il⟩, ma, mc, ml, ⟨ea, ec, el⟩⟩ := x
 obtain ⟨n2, k2, ⟨ia2, ic2, il2⟩, ma2, mc2, ml2, ⟨ea2, ec2, el2⟩⟩ := y
 obtain ⟨x1, x2, x3, x4, x5⟩ := hx
 obtain ⟨y1, y2, y3, y4, y5⟩ := hy
 obtain ⟨o1, o2, ⟨o3, o3b⟩, ⟨o4, o4b⟩, ⟨o5, o5b⟩⟩ := ox
 obtain ⟨p1, p2, ⟨p3, p3b⟩, ⟨p4, p4b⟩, ⟨p5, p5b⟩⟩ := oy
 have l3 := o3.1
 have l4 := o4.1
 have l5 := o5.1
 have m3 := p3.1
 have m4 := p4.1
 have m5 := p5.1
 dsimp only at *
 dsimp only [FileT.cells, Rw.v]
 refine Sp.body Tryz.func34 rfl Tryz.ntmps34 (by simp) ?_
 simp only [argE, List.cons_append, List.nil_append, Nat.zero_add, Nat.reduceAdd]
 repeat' (first|refine gL ?_|(refine gb ?_;intro b)|fail)
 refine RT.eqs (l := n1) (l' := n2) rfl rfl o1.1 p1.1 rfl rfl (fun q0 => ?_) (fun q0 => ?_)
 rotate_left
 ·try refine gL ?_
  exact AtQ.f1 Tryz.results34 rfl (by rw [dc_f (fun e => q0 ((hE.1 e).1))]) dR_
 try refine gL ?_
 refine RT.eqs (l := k1) (l' := k2) rfl rfl o2.1 p2.1 rfl rfl (fun q1 => ?_) (fun q1 => ?_)
 rotate_left
 ·try refine gL ?_
  exact AtQ.f1 Tryz.results34 rfl (by rw [dc_f (fun e => q1 ((hE.1 e).2.1))]) dR_
 try refine gL ?_
 (refine RT.call T rfl fR_ (sameImports_fn (l := il) (l' := il2) (rD (x1)) (rD (y1)) o3b p3b l3 m3) rfl rfl rfl ?_; rintro _ _ ⟨rfl, rfl⟩; try simp only [List.cons_append, List.nil_append])
 by_cases q2 : il = il2
 rotate_left
 ·rw [dc_f q2]
  try refine gL ?_
  exact AtQ.f1 Tryz.results34 rfl (by rw [dc_f (fun e => q2 ((hE.1 e).2.2.1))]) dR_
 rw [dc_t q2]
 try refine gL ?_
 (refine RT.call T rfl fR_ (sameMsgs_fn (MsgT.deepL ml) (l := ml) (l' := ml2) (Nat.le_refl _) (rD (x2)) (rD (y2)) (fun z hz => MsgT.In.mono (fun _ _ _ _ _ h => (rD (h))) (x3 z hz)) (fun z hz => MsgT.In.mono (fun _ _ _ _ _ h => (rD (h))) (y3 z hz)) o4b p4b l4 m4) rfl rfl rfl ?_; rintro _ _ ⟨rfl, rfl⟩; try simp only [List.cons_append, List.nil_append])
 by_cases q3 : ml.map mEr = ml2.map mEr
 rotate_left
 ·rw [dc_f q3]
  try refine gL ?_
  exact AtQ.f1 Tryz.results34 rfl (by rw [dc_f (fun e => q3 ((hE.1 e).2.2.2.1))]) dR_
 rw [dc_t q3]
 try refine gL ?_
 (refine RT.call T rfl fR_ (sameEnums_fn (l := el) (l' := el2) (rD (x4)) (rD (y4)) (fun z hz => EnumT.In.mono (fun _ _ _ _ _ h => (rD (h))) (x5 z hz)) (fun z hz => EnumT.In.mono (fun _ _ _ _ _ h => (rD (h))) (y5 z hz)) o5b p5b l5 m5) rfl rfl rfl ?_; rintro _ _ ⟨rfl, rfl⟩; try simp only [List.cons_append, List.nil_append])
 by_cases q4 : el.map EnumT.er = el2.map EnumT.er
 rotate_left
 ·rw [dc_f q4]
  try refine gL ?_
  exact AtQ.f1 Tryz.results34 rfl (by rw [dc_f (fun e => q4 ((hE.1 e).2.2.2.2))]) dR_
 rw [dc_t q4]
 try refine gL ?_
 exact AtQ.f1 Tryz.results34 rfl (by rw [dc_t (hE.2 ⟨q0, q1, q2, q3, q4⟩)]) dR_
set_option maxHeartbeats 2000000 in
theorem sameFiles_fn {a a' : Option Addr} {c c' : Nat} {l l' : List FileT} (hR : Rd B R a l.length c 5 (l.flatMap FileT.cells)) (hR' : Rd B R a' l'.length c' 5 (l'.flatMap FileT.cells)) (hi : ∀ x ∈ l, x.In (Rd B R)) (hi' : ∀ x ∈ l', x.In (Rd B R)) (ho : ∀ x ∈ l, x.Ok) (ho' : ∀ x ∈ l', x.Ok) (hl : l.length ≤ 140737488355328) (hl' : l'.length ≤ 140737488355328) :
  Sp B Tryz.prog 15 [.slice a l.length c, .slice a' l'.length c'] R [] (fun v H' => v = .bool (dc (l.map fEr = l'.map fEr)) ∧ H' = []) := by
 refine Sp.body Tryz.func15 rfl Tryz.ntmps15 (by simp) ?_
 simp only [argE, List.cons_append, List.nil_append, Nat.zero_add, Nat.reduceAdd]
 repeat' (first|refine gL ?_|(refine gv ?_;(refine⟨fun hc=>?_,fun hc=>?_⟩<;>first|(exfalso;omega)|skip))|fail)
 ·have hll : l.length = l'.length := by omega
  refine CT.loop (α := Nat) (fun i => [(0, .slice a l.length c), (1, .slice a' l'.length c'), (5, .int .i64 i)]) (fun i => Pu (i ≤ l.length ∧ (l.take i).map fEr = (l'.take i).map fEr) :: R) (fun i => l.length - i) 0 ⟨rfl, rfl, rfl, trivial⟩
   (fun w h => Sat.pu_in ⟨Nat.zero_le _, rfl⟩ h) (fun i => CT.pu fun ⟨hix, hE⟩ => ?_)
  repeat' (first|refine gL ?_|(refine gv ?_;(refine⟨fun hc=>?_,fun hc=>?_⟩<;>first|(exfalso;omega)|skip))|fail)
  ·have hi1 : i < l.length := by omega
   have hi2 : i < l'.length := by omega
   have hx := List.getElem?_eq_getElem hi1
   have hy := List.getElem?_eq_getElem hi2
   revert hx hy
   generalize l[i] = x
   generalize l'[i] = y
   intro hx hy
   have hmx := List.mem_of_getElem? hx
   have hmy := List.mem_of_getElem? hy
   refine RT.ix T (j := i * 5) rfl rfl rfl (rD (hR)) (by omega) (by omega) (by omega) rfl rfl ?_
   refine RT.ldra T rfl (rD (hR)) (l := x.cells) (flat_sub (f := FileT.cells) (z := 5) (fun _ => rfl) l i _ hx) rfl rfl rfl rfl ?_
   try refine gL ?_
   refine RT.ix T (j := i * 5) rfl rfl rfl (rD (hR')) (by omega) (by omega) (by omega) rfl rfl ?_
   refine RT.ldra T rfl (rD (hR')) (l := y.cells) (flat_sub (f := FileT.cells) (z := 5) (fun _ => rfl) l' i _ hy) rfl rfl rfl rfl ?_
   (refine RT.qcall T rfl (QSp.of fR_ (sameFile_fn (x := x) (y := y) (hi x hmx) (hi' y hmy) (ho x hmx) (ho' y hmy))) rfl rfl rfl ?_)
   by_cases hxy : fEr x = fEr y
   ·rw [dc_t hxy]
    repeat' (first|refine gL ?_|(refine gv ?_;refine gk ?_)|fail)
    exact AtQ.loop (i + 1) ⟨rfl, rfl, rfl, trivial⟩ (fun w h => Sat.pu_in ⟨by omega, map_step hx hy hxy hE⟩ h) (by omega)
   ·rw [dc_f hxy]
    try refine gL ?_
    exact AtQ.f1 Tryz.results15 rfl (by rw [dc_f (map_ne hx hy hxy)]) (fun w h => h)
  ·obtain rfl : i = l.length := by omega
   have e : l.map fEr = l'.map fEr := by
    rw [List.take_length, hll, List.take_length] at hE
    exact hE
   exact AtQ.f1 Tryz.results15 rfl (by rw [dc_t e]) (fun w h => h)
 ·exact AtQ.f1 Tryz.results15 rfl (by rw [dc_f (fun e => by have := congrArg List.length e; simp only [List.length_map] at this; omega)]) (fun w h => h)
end Go.Proofs.YtclcnhfponjdaaaGreatDoor
end
section
namespace Go.Sk
def lev : List Int → Int
 | [] => 0
 | x :: l => x + 256 * lev l
theorem lev_lt : ∀ {l : List Int}, Bytes l → 0 ≤ lev l ∧ lev l < 256 ^ l.length
 | [], _ => ⟨by decide, by decide⟩
 | x :: l, h => by
  have hx := h x (by simp)
  obtain ⟨a, b⟩ := lev_lt (l := l) (fun y hy => h y (by simp [hy]))
  obtain ⟨h0, h1⟩ := hx
  simp only [lev, List.length_cons]
  rw [Int.pow_succ]
  constructor <;> omega
theorem lev_step {l : List Int} {w i : Nat} (hi : i < w) (hw : w ≤ l.length) : lev ((l.take w).drop i) = l.getD i 0 + 256 * lev ((l.take w).drop (i + 1)) := by
 have h1 : i < (l.take w).length := by rw [List.length_take]; omega
 rw [List.drop_eq_getElem_cons h1]
 simp only [lev, List.getElem_take, List.getD_eq_getElem?_getD, List.getElem?_eq_getElem (show i < l.length by omega), Option.getD_some]
theorem shl8 {k : IntKind} {v : Int} (hk : 8 ≤ k.bits) (hs : k.signed = false) (h0 : 0 ≤ v) (h1 : v * 256 < 2 ^ k.bits) : k.wrap (v * 2 ^ (min (8 : Int).toNat k.bits)) = v * 256 := by
 rw [show min (8 : Int).toNat k.bits = 8 by rw [show (8 : Int).toNat = 8 from rfl]; omega, show (2 : Int) ^ 8 = 256 by decide]
 unfold IntKind.wrap
 simp only [hs, Bool.false_and, Bool.false_eq_true, if_false]
 exact Int.emod_eq_of_lt (by omega) h1
theorem or8 {k : IntKind} {v x : Int} (hs : k.signed = false) (hx : isByte x) (h0 : 0 ≤ v) (h1 : x + v * 256 < 2 ^ k.bits) :
  k.wrap ((BitVec.ofInt k.bits (v * 256) ||| BitVec.ofInt k.bits x).toNat : Int) = x + 256 * v := by
 rw [BitVec.or_comm]
 have := or_add (k := k) (v := x) (x := v * 256) (y := v) (s := 8) hx.1 (by have := hx.2; omega) h0 (by omega) h1 hs
 rw [this]
 omega
def RS.fixed (w : Nat) (bs : List Int) (s : RS) : Int × RS :=
 if s.e = 0 then (if s.en - s.at_ < w then (0, s.wrong 10 s.at_) else (lev ((bs.drop s.at_).take w), { s with at_ := s.at_ + w })) else (0, s)
end Go.Sk
namespace Go.Sk
theorem pow256_le {a b : Nat} (h : a ≤ b) : (256 : Int) ^ a ≤ 256 ^ b := by
 have : (256 : Nat) ^ a ≤ 256 ^ b := Nat.pow_le_pow_right (by decide) h
 have h2 : ((256 ^ a : Nat) : Int) ≤ ((256 ^ b : Nat) : Int) := by omega
 simpa using h2
theorem lev_room {l : List Int} {w i : Nat} (hb : Bytes l) (hi : i < w) : 0 ≤ lev ((l.take w).drop (i + 1)) ∧ ∀ x, isByte x → x + lev ((l.take w).drop (i + 1)) * 256 < 256 ^ w := by
 have hb2 : Bytes ((l.take w).drop (i + 1)) := (hb.take w).drop (i + 1)
 refine ⟨(lev_lt hb2).1, fun x hx => ?_⟩
 have h1 := (lev_lt (l := x :: (l.take w).drop (i + 1)) (fun y hy => by
  rcases List.mem_cons.1 hy with rfl | hy
  ·exact hx
  ·exact hb2 y hy)).2
 simp only [lev, List.length_cons] at h1
 have h2 : ((l.take w).drop (i + 1)).length + 1 ≤ w := by rw [List.length_drop, List.length_take]; omega
 have := pow256_le h2
 omega
end Go.Sk
end
section
namespace Go.Proofs.YtclcnhfponjdaaaGreatDoor
open Go.Sk
set_option maxRecDepth 100000
attribute [local irreducible] Cs Own Ex Pu Yld RT LJ QJ AtQ CT Rd QSp Sp FinQ Then LoopQ CutQ DT TakeQ EffQ
attribute [local irreducible] Wr
variable {B : World} {R : List HP}
theorem width4_fn : Sp B Tryz.prog 301 [] R [] (fun u H' => u = .int .i64 4 ∧ H' = []) := by
 refine Sp.body Tryz.func301 rfl Tryz.ntmps301 (by simp) ?_
 simp only [argE, List.cons_append, List.nil_append, Nat.zero_add, Nat.reduceAdd]
 repeat' (first|refine gL ?_|(refine gv ?_;refine gk ?_)|fail)
 refine RT.y rfl (by decide) (y_xor1 (r := 4294967295) rfl (by decide)) ?_
 skip
 refine RT.shr rfl rfl (by omega) (r := 1) (by decide) rfl rfl ?_
 repeat' (first|refine gL ?_|(refine gv ?_;(refine⟨fun hc=>?_,fun hc=>?_⟩<;>first|(exfalso;omega)|skip))|fail)
 exact AtQ.f1 Tryz.results301 rfl rfl (fun _ h => h)
set_option maxHeartbeats 1000000 in
theorem taken4_fn {n c : Nat} {a : Option Addr} {bs : List Int} (hR : Rd B R a n c 1 (ints .u8 bs)) (hb : Bytes bs) (hn : 4 ≤ n) (h3 : n ≤ 140737488355328) :
  Sp B Tryz.prog 302 [sl8 a n c] R [] (fun u H' => u = .int .u32 (lev (bs.take 4)) ∧ H' = []) := by
 have hl := hR.lenI
 refine Sp.body Tryz.func302 rfl Tryz.ntmps302 (by simp) ?_
 simp only [argE, List.cons_append, List.nil_append, Nat.zero_add, Nat.reduceAdd]
 try refine gL ?_
 (refine RT.call T rfl fR_ (width4_fn) rfl rfl rfl ?_; rintro _ _ ⟨rfl, rfl⟩; try simp only [List.cons_append, List.nil_append])
 repeat' (first|refine gL ?_|(refine gv ?_;refine gk ?_)|fail)
 have h0 : lev ((bs.take 4).drop 4) = 0 := by rw [List.drop_eq_nil_of_le (by rw [List.length_take]; omega)]; rfl
 refine CT.loop (α := Nat) (fun i => [(0, sl8 a n c), (3, .int .u32 (lev ((bs.take 4).drop i))), (4, .int .i64 ((i : Int) - 1))]) (fun i => Pu (i ≤ 4) :: R) (fun i => i) 4 ⟨rfl, by simp only [h0]; rfl, rfl, trivial⟩
  (fun w h => Sat.pu_in (Nat.le_refl _) h) (fun i => CT.pu fun hi => ?_)
 repeat' (first|refine gL ?_|(refine gv ?_;(refine⟨fun hc=>?_,fun hc=>?_⟩<;>first|(exfalso;omega)|skip))|fail)
 ·obtain ⟨j, rfl⟩ : ∃ j, i = j + 1 := ⟨i - 1, by omega⟩
  obtain ⟨v0, v1⟩ := lev_room (w := 4) (i := j) hb (by omega)
  have hx : isByte (bs.getD j 0) := hb.get j
  have hst := lev_step (l := bs) (w := 4) (i := j) (by omega) (by omega)
  have v2 := v1 _ hx
  have v3 := v1 0 ⟨by decide, by decide⟩
  have e256 : (256 : Int) ^ 4 = 4294967296 := by decide
  rw [e256] at v2 v3
  generalize lev ((bs.take 4).drop (j + 1)) = v at *
  refine RT.ar rfl rfl (y_shl rfl rfl (by omega) (shl8 (by decide) rfl v0 (by simp only [IntKind.bits]; omega))) rfl rfl ?_
  try refine gL ?_
  refine RT.ix T (j := j) rfl rfl rfl hR (by omega) (by omega) (by omega) rfl rfl ?_
  refine RT.ldi T rfl hR (by omega) rfl rfl rfl ?_
  obtain ⟨x0, x1⟩ := hx
  repeat' (first|refine gL ?_|(refine gv ?_;refine gk ?_)|fail)
  refine RT.ar rfl rfl (y_or rfl rfl (or8 rfl ⟨x0, x1⟩ v0 (by simp only [IntKind.bits]; omega))) rfl rfl ?_
  rw [← hst]
  repeat' (first|refine gL ?_|(refine gv ?_;refine gk ?_)|fail)
  refine AtQ.loop j ⟨rfl, rfl, by simp [lk], trivial⟩ (fun w h => Sat.pu_in (by omega) h) (by omega)
 ·have hi0 : i = 0 := by omega
  subst hi0
  exact AtQ.f1 Tryz.results302 rfl rfl (fun _ h => h)
set_option maxHeartbeats 1000000 in
theorem get4_fn {p n c : Nat} {a : Option Addr} {s : RS} {bs : List Int} (hR : Rd B R a n c 1 (ints .u8 bs)) (hb : Bytes bs) (hs : s.ok n) (h3 : n ≤ 140737488355328) :
  Sp B Tryz.prog 294 [ptr p] R [rds p a n c s] (fun u H' => u = .int .u32 (s.fixed 4 bs).1 ∧ H' = [rds p a n c (s.fixed 4 bs).2]) := by
 have hl := hR.lenI
 have hle := hR.le
 obtain ⟨o1, o2, o3⟩ := hs
 generalize hT : s.fixed 4 bs = T'
 unfold RS.fixed at hT
 refine Sp.body Tryz.func294 rfl Tryz.ntmps294 (by simp) ?_
 simp only [argE, List.cons_append, List.nil_append, Nat.zero_add, Nat.reduceAdd]
 try refine gL ?_
 (refine RT.call T rfl fR_ (width4_fn) rfl rfl rfl ?_; rintro _ _ ⟨rfl, rfl⟩; try simp only [List.cons_append, List.nil_append])
 try refine gR ?_
 by_cases he : s.e = 0
 ·rw [if_pos he] at hT
  by_cases hlt : s.en - s.at_ < 4
  ·rw [if_pos hlt] at hT
   unfold RS.wrong at hT
   rw [if_pos he] at hT
   subst hT
   repeat' (first|refine gL ?_|(refine gv ?_;first|(refine⟨fun hc=>?_,fun hc=>?_⟩<;>first|(exfalso;omega)|skip)|refine gk ?_)|fail)
   refine RT.call T rfl fR_ (wrong_s (s := s) (at' := s.at_)) rfl rfl rfl ?_
   rintro _ _ ⟨rfl, rfl⟩
   rw [show RS.wrong 10 s.at_ s = { s with e := 10, wh := s.at_ } by unfold RS.wrong; rw [if_pos he]]
   refine RT.weak (H' := rdr p a n c s.at_ s.en 10 s.at_ :: R) (fun w h => h) ?_
   repeat' (first|refine gL ?_|(refine gv ?_;(refine⟨fun hc=>?_,fun hc=>?_⟩<;>first|(exfalso;omega)|skip))|fail)
   exact AtQ.f1 (HH := [rds p a n c { s with e := 10, wh := s.at_ }]) Tryz.results294 rfl rfl (fun w h => h)
  ·rw [if_neg hlt] at hT
   subst hT
   repeat' (first|refine gL ?_|(refine gv ?_;first|(refine⟨fun hc=>?_,fun hc=>?_⟩<;>first|(exfalso;omega)|skip)|refine gk ?_)|fail)
   refine RT.sllo T (j := s.at_) rfl rfl (by omega) (by omega) rfl rfl rfl ?_
   skip
   have hR' := hR.subI (i := s.at_) (j := n) (by omega) (Nat.le_refl n)
   have htk : ((bs.drop s.at_).take (n - s.at_)).take 4 = (bs.drop s.at_).take 4 := by rw [List.take_take]; congr 1; omega
   (refine RT.qcall T rfl (QSp.of fR_ (taken4_fn hR'.cons ((hb.drop _).take _) (by omega) (by omega))) rfl rfl rfl ?_)
   rw [htk]
   repeat' (first|refine gL ?_|(refine gv ?_;refine gk ?_)|fail)
   exact AtQ.f1 (HH := [rds p a n c { s with at_ := s.at_ + 4 }]) Tryz.results294 rfl rfl (fun w h => h)
 ·rw [if_neg he] at hT
  subst hT
  repeat' (first|refine gL ?_|(refine gv ?_;(refine⟨fun hc=>?_,fun hc=>?_⟩<;>first|(exfalso;omega)|skip))|fail)
  exact AtQ.f1 (HH := [rds p a n c s]) Tryz.results294 rfl rfl (fun w h => h)
theorem fixed4_fn {p n c : Nat} {a : Option Addr} {s : RS} {bs : List Int} (hR : Rd B R a n c 1 (ints .u8 bs)) (hb : Bytes bs) (hs : s.ok n) (h3 : n ≤ 140737488355328) :
  Sp B Tryz.prog 269 [ptr p] R [rds p a n c s] (fun u H' => u = .int .u32 (s.fixed 4 bs).1 ∧ H' = [rds p a n c (s.fixed 4 bs).2]) := by
 refine Sp.body Tryz.func269 rfl Tryz.ntmps269 (by simp) ?_
 simp only [argE, List.cons_append, List.nil_append, Nat.zero_add, Nat.reduceAdd]
 try refine gL ?_
 (refine RT.call T rfl fR_ (get4_fn hR hb hs h3) rfl rfl rfl ?_; rintro _ _ ⟨rfl, rfl⟩; try simp only [List.cons_append, List.nil_append])
 try refine gL ?_
 exact AtQ.f1 (HH := [rds p a n c (s.fixed 4 bs).2]) Tryz.results269 rfl rfl (fun w h => h)
theorem width8_fn : Sp B Tryz.prog 299 [] R [] (fun u H' => u = .int .i64 8 ∧ H' = []) := by
 refine Sp.body Tryz.func299 rfl Tryz.ntmps299 (by simp) ?_
 simp only [argE, List.cons_append, List.nil_append, Nat.zero_add, Nat.reduceAdd]
 repeat' (first|refine gL ?_|(refine gv ?_;refine gk ?_)|fail)
 refine RT.y rfl (by decide) (y_xor1 (r := 18446744073709551615) rfl (by decide)) ?_
 skip
 refine RT.shr rfl rfl (by omega) (r := 8589934591) (by decide) rfl rfl ?_
 repeat' (first|refine gL ?_|(refine gv ?_;(refine⟨fun hc=>?_,fun hc=>?_⟩<;>first|(exfalso;omega)|skip))|fail)
 exact AtQ.f1 Tryz.results299 rfl rfl (fun _ h => h)
set_option maxHeartbeats 1000000 in
theorem taken8_fn {n c : Nat} {a : Option Addr} {bs : List Int} (hR : Rd B R a n c 1 (ints .u8 bs)) (hb : Bytes bs) (hn : 8 ≤ n) (h3 : n ≤ 140737488355328) :
  Sp B Tryz.prog 300 [sl8 a n c] R [] (fun u H' => u = .int .u64 (lev (bs.take 8)) ∧ H' = []) := by
 have hl := hR.lenI
 refine Sp.body Tryz.func300 rfl Tryz.ntmps300 (by simp) ?_
 simp only [argE, List.cons_append, List.nil_append, Nat.zero_add, Nat.reduceAdd]
 try refine gL ?_
 (refine RT.call T rfl fR_ (width8_fn) rfl rfl rfl ?_; rintro _ _ ⟨rfl, rfl⟩; try simp only [List.cons_append, List.nil_append])
 repeat' (first|refine gL ?_|(refine gv ?_;refine gk ?_)|fail)
 have h0 : lev ((bs.take 8).drop 8) = 0 := by rw [List.drop_eq_nil_of_le (by rw [List.length_take]; omega)]; rfl
 refine CT.loop (α := Nat) (fun i => [(0, sl8 a n c), (3, .int .u64 (lev ((bs.take 8).drop i))), (4, .int .i64 ((i : Int) - 1))]) (fun i => Pu (i ≤ 8) :: R) (fun i => i) 8 ⟨rfl, by simp only [h0]; rfl, rfl, trivial⟩
  (fun w h => Sat.pu_in (Nat.le_refl _) h) (fun i => CT.pu fun hi => ?_)
 repeat' (first|refine gL ?_|(refine gv ?_;(refine⟨fun hc=>?_,fun hc=>?_⟩<;>first|(exfalso;omega)|skip))|fail)
 ·obtain ⟨j, rfl⟩ : ∃ j, i = j + 1 := ⟨i - 1, by omega⟩
  obtain ⟨v0, v1⟩ := lev_room (w := 8) (i := j) hb (by omega)
  have hx : isByte (bs.getD j 0) := hb.get j
  have hst := lev_step (l := bs) (w := 8) (i := j) (by omega) (by omega)
  have v2 := v1 _ hx
  have v3 := v1 0 ⟨by decide, by decide⟩
  have e256 : (256 : Int) ^ 8 = 18446744073709551616 := by decide
  rw [e256] at v2 v3
  generalize lev ((bs.take 8).drop (j + 1)) = v at *
  refine RT.ar rfl rfl (y_shl rfl rfl (by omega) (shl8 (by decide) rfl v0 (by simp only [IntKind.bits]; omega))) rfl rfl ?_
  try refine gL ?_
  refine RT.ix T (j := j) rfl rfl rfl hR (by omega) (by omega) (by omega) rfl rfl ?_
  refine RT.ldi T rfl hR (by omega) rfl rfl rfl ?_
  obtain ⟨x0, x1⟩ := hx
  repeat' (first|refine gL ?_|(refine gv ?_;refine gk ?_)|fail)
  refine RT.ar rfl rfl (y_or rfl rfl (or8 rfl ⟨x0, x1⟩ v0 (by simp only [IntKind.bits]; omega))) rfl rfl ?_
  rw [← hst]
  repeat' (first|refine gL ?_|(refine gv ?_;refine gk ?_)|fail)
  refine AtQ.loop j ⟨rfl, rfl, by simp [lk], trivial⟩ (fun w h => Sat.pu_in (by omega) h) (by omega)
 ·have hi0 : i = 0 := by omega
  subst hi0
  exact AtQ.f1 Tryz.results300 rfl rfl (fun _ h => h)
set_option maxHeartbeats 1000000 in
theorem get8_fn {p n c : Nat} {a : Option Addr} {s : RS} {bs : List Int} (hR : Rd B R a n c 1 (ints .u8 bs)) (hb : Bytes bs) (hs : s.ok n) (h3 : n ≤ 140737488355328) :
  Sp B Tryz.prog 293 [ptr p] R [rds p a n c s] (fun u H' => u = .int .u64 (s.fixed 8 bs).1 ∧ H' = [rds p a n c (s.fixed 8 bs).2]) := by
 have hl := hR.lenI
 have hle := hR.le
 obtain ⟨o1, o2, o3⟩ := hs
 generalize hT : s.fixed 8 bs = T'
 unfold RS.fixed at hT
 refine Sp.body Tryz.func293 rfl Tryz.ntmps293 (by simp) ?_
 simp only [argE, List.cons_append, List.nil_append, Nat.zero_add, Nat.reduceAdd]
 try refine gL ?_
 (refine RT.call T rfl fR_ (width8_fn) rfl rfl rfl ?_; rintro _ _ ⟨rfl, rfl⟩; try simp only [List.cons_append, List.nil_append])
 try refine gR ?_
 by_cases he : s.e = 0
 ·rw [if_pos he] at hT
  by_cases hlt : s.en - s.at_ < 8
  ·rw [if_pos hlt] at hT
   unfold RS.wrong at hT
   rw [if_pos he] at hT
   subst hT
   repeat' (first|refine gL ?_|(refine gv ?_;first|(refine⟨fun hc=>?_,fun hc=>?_⟩<;>first|(exfalso;omega)|skip)|refine gk ?_)|fail)
   refine RT.call T rfl fR_ (wrong_s (s := s) (at' := s.at_)) rfl rfl rfl ?_
   rintro _ _ ⟨rfl, rfl⟩
   rw [show RS.wrong 10 s.at_ s = { s with e := 10, wh := s.at_ } by unfold RS.wrong; rw [if_pos he]]
   refine RT.weak (H' := rdr p a n c s.at_ s.en 10 s.at_ :: R) (fun w h => h) ?_
   repeat' (first|refine gL ?_|(refine gv ?_;(refine⟨fun hc=>?_,fun hc=>?_⟩<;>first|(exfalso;omega)|skip))|fail)
   exact AtQ.f1 (HH := [rds p a n c { s with e := 10, wh := s.at_ }]) Tryz.results293 rfl rfl (fun w h => h)
  ·rw [if_neg hlt] at hT
   subst hT
   repeat' (first|refine gL ?_|(refine gv ?_;first|(refine⟨fun hc=>?_,fun hc=>?_⟩<;>first|(exfalso;omega)|skip)|refine gk ?_)|fail)
   refine RT.sllo T (j := s.at_) rfl rfl (by omega) (by omega) rfl rfl rfl ?_
   skip
   have hR' := hR.subI (i := s.at_) (j := n) (by omega) (Nat.le_refl n)
   have htk : ((bs.drop s.at_).take (n - s.at_)).take 8 = (bs.drop s.at_).take 8 := by rw [List.take_take]; congr 1; omega
   (refine RT.qcall T rfl (QSp.of fR_ (taken8_fn hR'.cons ((hb.drop _).take _) (by omega) (by omega))) rfl rfl rfl ?_)
   rw [htk]
   repeat' (first|refine gL ?_|(refine gv ?_;refine gk ?_)|fail)
   exact AtQ.f1 (HH := [rds p a n c { s with at_ := s.at_ + 8 }]) Tryz.results293 rfl rfl (fun w h => h)
 ·rw [if_neg he] at hT
  subst hT
  repeat' (first|refine gL ?_|(refine gv ?_;(refine⟨fun hc=>?_,fun hc=>?_⟩<;>first|(exfalso;omega)|skip))|fail)
  exact AtQ.f1 (HH := [rds p a n c s]) Tryz.results293 rfl rfl (fun w h => h)
theorem fixed8_fn {p n c : Nat} {a : Option Addr} {s : RS} {bs : List Int} (hR : Rd B R a n c 1 (ints .u8 bs)) (hb : Bytes bs) (hs : s.ok n) (h3 : n ≤ 140737488355328) :
  Sp B Tryz.prog 266 [ptr p] R [rds p a n c s] (fun u H' => u = .int .u64 (s.fixed 8 bs).1 ∧ H' = [rds p a n c (s.fixed 8 bs).2]) := by
 refine Sp.body Tryz.func266 rfl Tryz.ntmps266 (by simp) ?_
 simp only [argE, List.cons_append, List.nil_append, Nat.zero_add, Nat.reduceAdd]
 try refine gL ?_
 (refine RT.call T rfl fR_ (get8_fn hR hb hs h3) rfl rfl rfl ?_; rintro _ _ ⟨rfl, rfl⟩; try simp only [List.cons_append, List.nil_append])
 try refine gL ?_
 exact AtQ.f1 (HH := [rds p a n c (s.fixed 8 bs).2]) Tryz.results266 rfl rfl (fun w h => h)
end Go.Proofs.YtclcnhfponjdaaaGreatDoor
end
section
namespace Go.Sk
def RS.dep (d : Int) (s : RS) : RS := if d < 1 then s.wrong 14 s.at_ else s
/-- The content of a field that is no group. -/
def RS.simple (bs : List Int) (k : Int) (s : RS) : RS :=
 if k = 0 then (s.varint bs).2 else if k = 1 then (s.fixed 8 bs).2 else if k = 2 then (s.span bs).2 else if k = 5 then (s.fixed 4 bs).2 else s
/-- Up to the end that matches, of number num, at depth d ≥ 1 (f: more than so many bytes are left). -/
def grp (bs : List Int) : Nat → Int → Int → RS → Int × RS
 | 0, _, _, s => (0, s)
 | f + 1, num, d, s =>
  if s.e = 0 then
   (if (s.tag bs).2.e = 0 then
    (if (s.tag bs).1.2 = 4 then (if (s.tag bs).1.1 = num then ((s.at_ : Int), (s.tag bs).2) else (0, (s.tag bs).2.wrong 13 s.at_))
    else grp bs f num d (if (s.tag bs).1.2 = 3 then (grp bs f (s.tag bs).1.1 (d - 1) ((s.tag bs).2.dep (d - 1))).2 else (s.tag bs).2.simple bs (s.tag bs).1.2))
   else (0, (s.tag bs).2))
  else (0, s)
theorem grp_succ {bs : List Int} {f : Nat} {num d : Int} {s : RS} (he : s.e = 0) : grp bs (f + 1) num d s =
  (if (s.tag bs).2.e = 0 then
    (if (s.tag bs).1.2 = 4 then (if (s.tag bs).1.1 = num then ((s.at_ : Int), (s.tag bs).2) else (0, (s.tag bs).2.wrong 13 s.at_))
    else grp bs f num d (if (s.tag bs).1.2 = 3 then (grp bs f (s.tag bs).1.1 (d - 1) ((s.tag bs).2.dep (d - 1))).2 else (s.tag bs).2.simple bs (s.tag bs).1.2))
   else (0, (s.tag bs).2)) := by
 rw [grp]
 rw [if_pos he]
theorem grp_bad {bs : List Int} {f : Nat} {num d : Int} {s : RS} (he : s.e ≠ 0) : grp bs f num d s = (0, s) := by
 cases f with
 | zero => rfl
 | succ f => rw [grp]; rw [if_neg he]
def RS.con (bs : List Int) (f : Nat) (num k d : Int) (s : RS) : RS := if k = 3 then (grp bs f num d (s.dep d)).2 else s.simple bs k
/-- It goes on, or stands, and stays within. -/
def RS.on (n : Nat) (s t : RS) : Prop := t.ok n ∧ t.en = s.en ∧ s.at_ ≤ t.at_ ∧ (t.e = 0 → s.e = 0)
theorem RS.on.refl {n : Nat} {s : RS} (h : s.ok n) : RS.on n s s := ⟨h, rfl, Nat.le_refl _, id⟩
theorem RS.on.trans {n : Nat} {s t u : RS} (h : RS.on n s t) (h' : RS.on n t u) : RS.on n s u :=
 ⟨h'.1, h'.2.1.trans h.2.1, Nat.le_trans h.2.2.1 h'.2.2.1, fun e => h.2.2.2 (h'.2.2.2 e)⟩
theorem RS.wrong_on {n : Nat} {s : RS} {e : Int} {a : Nat} (h : s.ok n) (ha : a ≤ n) (he : e ≠ 0) : RS.on n s (s.wrong e a) := by
 unfold RS.wrong
 split
 ·exact ⟨⟨h.1, h.2.1, ha⟩, rfl, Nat.le_refl _, fun h => absurd h he⟩
 ·exact RS.on.refl h
theorem RS.varint_on {bs : List Int} {n : Nat} {s : RS} (h : s.ok n) (hb : bs.length = n) (hby : Bytes bs) : RS.on n s (s.varint bs).2 := by
 obtain ⟨a, b, c, d, e, f⟩ := RS.varint_spec h hb hby
 exact ⟨a, b, c, fun h => (f h).1⟩
theorem RS.fixed_on {bs : List Int} {n w : Nat} {s : RS} (h : s.ok n) : RS.on n s (s.fixed w bs).2 := by
 unfold RS.fixed
 split
 ·split
  ·exact RS.wrong_on h (by have := h.1; have := h.2.1; omega) (by decide)
  ·obtain ⟨h1, h2, h3⟩ := h
   exact ⟨⟨by simp only; omega, h2, h3⟩, rfl, by simp only; omega, id⟩
 ·exact RS.on.refl h
theorem RS.span_on {bs : List Int} {n : Nat} {s : RS} (h : s.ok n) (hb : bs.length = n) (hby : Bytes bs) : RS.on n s (s.span bs).2 := by
 obtain ⟨a, b, c, d, e, f⟩ := RS.varint_spec h hb hby
 have hv := RS.varint_on h hb hby
 unfold RS.span
 split
 ·rename_i he
  split
  ·exact ⟨⟨by simp only; rw [b]; exact h.1, a.2.1, by simp only; have := h.1; have := h.2.1; omega⟩, b, Nat.le_refl _, fun h => by simp at h⟩
  ·refine ⟨⟨?_, a.2.1, a.2.2⟩, b, by simp only; omega, fun _ => (f he).1⟩
   have := a.1
   have := d.1
   simp only
   omega
 ·exact hv
theorem RS.tag_on {bs : List Int} {n : Nat} {s : RS} (h : s.ok n) (hb : bs.length = n) (hby : Bytes bs) : RS.on n s (s.tag bs).2 ∧ ((s.tag bs).2.e = 0 → s.at_ < (s.tag bs).2.at_) := by
 obtain ⟨a, b, c, d, e, f⟩ := RS.varint_spec h hb hby
 have hv := RS.varint_on h hb hby
 unfold RS.tag
 split
 ·rename_i he
  split
  ·exact ⟨⟨⟨by simp only; rw [b]; exact h.1, a.2.1, by simp only; have := h.1; have := h.2.1; omega⟩, b, Nat.le_refl _, fun h => by simp at h⟩, fun h => by simp at h⟩
  ·exact ⟨hv, fun _ => (f he).2⟩
 ·rename_i he
  exact ⟨hv, fun h => absurd h he⟩
theorem RS.simple_on {bs : List Int} {n : Nat} {s : RS} {k : Int} (h : s.ok n) (hb : bs.length = n) (hby : Bytes bs) : RS.on n s (s.simple bs k) := by
 unfold RS.simple
 split
 ·exact RS.varint_on h hb hby
 ·split
  ·exact RS.fixed_on h
  ·split
   ·exact RS.span_on h hb hby
   ·split
    ·exact RS.fixed_on h
    ·exact RS.on.refl h
theorem RS.dep_on {n : Nat} {s : RS} {d : Int} (h : s.ok n) : RS.on n s (s.dep d) := by
 unfold RS.dep
 split
 ·exact RS.wrong_on h (by have := h.1; have := h.2.1; omega) (by decide)
 ·exact RS.on.refl h
theorem grp_on {bs : List Int} {n : Nat} (hb : bs.length = n) (hby : Bytes bs) : ∀ (f : Nat) (num d : Int) (s : RS), s.ok n → RS.on n s (grp bs f num d s).2
 | 0, _, _, s, h => RS.on.refl h
 | f + 1, num, d, s, h => by
  have ht := (RS.tag_on h hb hby).1
  unfold grp
  split
  ·split
   ·split
    ·split
     ·exact ht
     ·exact ht.trans (RS.wrong_on ht.1 (by have := h.1; have := h.2.1; omega) (by decide))
    ·refine ht.trans ?_
     split
     ·have h1 := RS.dep_on (d := d - 1) ht.1
      have h2 := grp_on hb hby f (s.tag bs).1.1 (d - 1) _ h1.1
      exact (h1.trans h2).trans (grp_on hb hby f num d _ h2.1)
     ·have h1 := RS.simple_on (k := (s.tag bs).1.2) ht.1 hb hby
      exact h1.trans (grp_on hb hby f num d _ h1.1)
   ·exact ht
  ·exact RS.on.refl h
theorem RS.con_on {bs : List Int} {n f : Nat} {s : RS} {num k d : Int} (h : s.ok n) (hb : bs.length = n) (hby : Bytes bs) : RS.on n s (s.con bs f num k d) := by
 unfold RS.con
 split
 ·exact (RS.dep_on h).trans (grp_on hb hby f num d _ (RS.dep_on h).1)
 ·exact RS.simple_on h hb hby
theorem RS.tag_range {bs : List Int} {n : Nat} {s : RS} (hby : Bytes bs) (h : s.ok n) (hb : bs.length = n) : 0 ≤ (s.tag bs).1.1 ∧ (s.tag bs).1.1 ≤ 536870911 ∧ 0 ≤ (s.tag bs).1.2 ∧ (s.tag bs).1.2 ≤ 7 := by
 obtain ⟨_, _, _, d, _, _⟩ := RS.varint_spec h hb hby
 obtain ⟨d0, d1⟩ := d
 unfold RS.tag
 split
 ·split
  ·simp only; exact ⟨by omega, by omega, by omega, by omega⟩
  ·simp only
   exact ⟨by omega, by omega, by omega, by omega⟩
 ·simp only; exact ⟨by omega, by omega, by omega, by omega⟩
end Go.Sk
end
section
namespace Go.Proofs.YtclcnhfponjdaaaGreatDoor
open Go.Sk
set_option maxRecDepth 100000
attribute [local irreducible] Cs Own Ex Pu Yld RT LJ QJ AtQ CT Rd QSp Sp FinQ Then LoopQ CutQ DT TakeQ EffQ
attribute [local irreducible] Wr
variable {B : World} {R : List HP}
/-- What a group's contract says, so much fuel being there. -/
def GrpOk (B : World) (R : List HP) (a : Option Addr) (n c : Nat) (bs : List Int) (f : Nat) : Prop := ∀ (p : Nat) (num d : Int) (s : RS), s.ok n → s.en - s.at_ < f → -2147483648 ≤ num → num ≤ 2147483647 → -9223372036854775808 ≤ d → d ≤ 9223372036854775807 →
 Sp B Tryz.prog 268 [ptr p, .int .i32 num, .int .i64 d] R [rds p a n c s] (fun u H' => u = .int .i64 (grp bs f num d (s.dep d)).1 ∧ H' = [rds p a n c (grp bs f num d (s.dep d)).2])
set_option maxHeartbeats 1000000 in
theorem content_fn {p n c f : Nat} {a : Option Addr} {s : RS} {bs : List Int} {num k d : Int} (hR : Rd B R a n c 1 (ints .u8 bs)) (hb : Bytes bs) (hs : s.ok n) (h3 : n ≤ 140737488355328) (hG : GrpOk B R a n c bs f) (hf : s.en - s.at_ < f)
  (hk0 : 0 ≤ k) (hk1 : k < 256) (hn0 : -2147483648 ≤ num) (hn1 : num ≤ 2147483647) (hd0 : -9223372036854775808 ≤ d) (hd1 : d ≤ 9223372036854775807) :
  Sp B Tryz.prog 168 [ptr p, .int .i32 num, .int .u8 k, .int .i64 d] R [rds p a n c s] (fun u H' => u = .tuple #[] ∧ H' = [rds p a n c (s.con bs f num k d)]) := by
 refine Sp.body Tryz.func168 rfl Tryz.ntmps168 (by simp) ?_
 simp only [argE, List.cons_append, List.nil_append, Nat.zero_add, Nat.reduceAdd]
 unfold RS.con RS.simple
 repeat' (first|refine gL ?_|(refine gv ?_;(refine⟨fun hc=>?_,fun hc=>?_⟩<;>first|(exfalso;omega)|skip))|fail)
 ·(refine RT.call T rfl fR_ (varint_s hR hb hs h3) rfl rfl rfl ?_; rintro _ _ ⟨rfl, rfl⟩; try simp only [List.cons_append, List.nil_append])
  try refine gL ?_
  exact AtQ.fin0 (H' := [rds p a n c (s.varint bs).2]) Tryz.results168 ⟨rfl, by rw [if_neg (by omega), if_pos (by omega)]⟩ (fun w h => h) _ (by first | exact .inl rfl | exact .inr rfl)
 ·(refine RT.call T rfl fR_ (fixed8_fn hR hb hs h3) rfl rfl rfl ?_; rintro _ _ ⟨rfl, rfl⟩; try simp only [List.cons_append, List.nil_append])
  try refine gL ?_
  exact AtQ.fin0 (H' := [rds p a n c (s.fixed 8 bs).2]) Tryz.results168 ⟨rfl, by rw [if_neg (by omega), if_neg (by omega), if_pos (by omega)]⟩ (fun w h => h) _ (by first | exact .inl rfl | exact .inr rfl)
 ·(refine RT.call T rfl fR_ (span_fn hR hb hs h3) rfl rfl rfl ?_; rintro _ _ ⟨rfl, rfl⟩; try simp only [List.cons_append, List.nil_append])
  try refine gL ?_
  exact AtQ.fin0 (H' := [rds p a n c (s.span bs).2]) Tryz.results168 ⟨rfl, by rw [if_neg (by omega), if_neg (by omega), if_neg (by omega), if_pos (by omega)]⟩ (fun w h => h) _ (by first | exact .inl rfl | exact .inr rfl)
 ·(refine RT.call T rfl fR_ (hG p num d s hs hf hn0 hn1 hd0 hd1) rfl rfl rfl ?_; rintro _ _ ⟨rfl, rfl⟩; try simp only [List.cons_append, List.nil_append])
  try refine gL ?_
  exact AtQ.fin0 (H' := [rds p a n c (grp bs f num d (s.dep d)).2]) Tryz.results168 ⟨rfl, by rw [if_pos (by omega)]⟩ (fun w h => h) _ (by first | exact .inl rfl | exact .inr rfl)
 ·(refine RT.call T rfl fR_ (fixed4_fn hR hb hs h3) rfl rfl rfl ?_; rintro _ _ ⟨rfl, rfl⟩; try simp only [List.cons_append, List.nil_append])
  try refine gL ?_
  exact AtQ.fin0 (H' := [rds p a n c (s.fixed 4 bs).2]) Tryz.results168 ⟨rfl, by rw [if_neg (by omega), if_neg (by omega), if_neg (by omega), if_neg (by omega), if_pos (by omega)]⟩ (fun w h => h) _ (by first | exact .inl rfl | exact .inr rfl)
 ·exact AtQ.fin0 (H' := [rds p a n c s]) Tryz.results168 ⟨rfl, by rw [if_neg (by omega), if_neg (by omega), if_neg (by omega), if_neg (by omega), if_neg (by omega)]⟩ (fun w h => h) _ (by first | exact .inl rfl | exact .inr rfl)
set_option maxHeartbeats 2000000 in
theorem group_fn {n c : Nat} {a : Option Addr} {bs : List Int} (hR : Rd B R a n c 1 (ints .u8 bs)) (hb : Bytes bs) (h3 : n ≤ 140737488355328) (f : Nat) : GrpOk B R a n c bs f := by
 induction f using Nat.strongRecOn with
 | _ f ih =>
 intro p num d s hs hf hn0 hn1 hd0 hd1
 refine Sp.body Tryz.func268 rfl Tryz.ntmps268 (by simp) ?_
 simp only [argE, List.cons_append, List.nil_append, Nat.zero_add, Nat.reduceAdd]
 obtain ⟨o1, o2, o3⟩ := hs
 have hg : ∀ s', s' = s.dep d → RS.on n s s' := fun s' e => e ▸ RS.dep_on ⟨o1, o2, o3⟩
 have hd3 : (s.dep d).e = 0 → 1 ≤ d := fun h => by
  unfold RS.dep at h
  split at h
  ·unfold RS.wrong at h
   split at h
   ·simp at h
   ·rename_i he; exact absurd h he
  ·omega
 generalize hs1 : s.dep d = s1 at *
 have hon := hg s1 rfl
 by_cases hd : d < 1
 ·have hw : s.wrong 14 s.at_ = s1 := by rw [← hs1]; unfold RS.dep; rw [if_pos hd]
  repeat' (first|refine gL ?_|(refine gv ?_;(refine⟨fun hc=>?_,fun hc=>?_⟩<;>first|(exfalso;omega)|skip))|fail)
  refine RT.call T rfl fR_ (wrong_s (s := s) (at' := s.at_)) rfl rfl rfl ?_
  rintro _ _ ⟨rfl, rfl⟩
  rw [hw]
  simp only [List.cons_append, List.nil_append]
  try refine gL ?_
  refine CT.loop (α := Nat × RS) (fun _ => [(0, ptr p), (1, .int .i32 num), (2, .int .i64 d)]) (fun x => Pu (x.1 ≤ f ∧ x.2.ok n ∧ (x.2.e = 0 → x.2.en - x.2.at_ < x.1) ∧ grp bs x.1 num d x.2 = grp bs f num d s1 ∧ (x.2.e = 0 → 1 ≤ d)) :: rds p a n c x.2 :: R) (fun x => x.1) (f, s1) ⟨rfl, rfl, rfl, trivial⟩
   (fun w h => Sat.pu_in ⟨Nat.le_refl _, hon.1, fun _ => by have := hon.2.1; have := hon.2.2.1; simp only; omega, rfl, hd3⟩ h) (fun x => CT.pu fun hx => ?_)
  obtain ⟨g, s'⟩ := x
  obtain ⟨x1, x2, x3, x4, x5⟩ := hx
  dsimp only at x1 x2 x3 x4 x5 ⊢
  rw [← x4]
  have he : s'.e ≠ 0 := fun he => by have := x5 he; omega
  rw [grp_bad he]
  repeat' (first|refine gL ?_|(refine gv ?_;(refine⟨fun hc=>?_,fun hc=>?_⟩<;>first|(exfalso;omega)|skip))|fail)
  exact AtQ.f1 (HH := [rds p a n c s']) Tryz.results268 rfl rfl (fun w h => h)
 ·have hw : s = s1 := by rw [← hs1]; unfold RS.dep; rw [if_neg hd]
  rw [hw]
  repeat' (first|refine gL ?_|(refine gv ?_;(refine⟨fun hc=>?_,fun hc=>?_⟩<;>first|(exfalso;omega)|skip))|fail)
  refine CT.loop (α := Nat × RS) (fun _ => [(0, ptr p), (1, .int .i32 num), (2, .int .i64 d)]) (fun x => Pu (x.1 ≤ f ∧ x.2.ok n ∧ (x.2.e = 0 → x.2.en - x.2.at_ < x.1) ∧ grp bs x.1 num d x.2 = grp bs f num d s1 ∧ (x.2.e = 0 → 1 ≤ d)) :: rds p a n c x.2 :: R) (fun x => x.1) (f, s1) ⟨rfl, rfl, rfl, trivial⟩
   (fun w h => Sat.pu_in ⟨Nat.le_refl _, hon.1, fun _ => by have := hon.2.1; have := hon.2.2.1; simp only; omega, rfl, hd3⟩ h) (fun x => CT.pu fun hx => ?_)
  obtain ⟨g, s'⟩ := x
  obtain ⟨x1, x2, x3, x4, x5⟩ := hx
  dsimp only at x1 x2 x3 x4 x5 ⊢
  rw [← x4]
  by_cases he : s'.e = 0
  ·have hd1' := x5 he
   have x3 := x3 he
   obtain ⟨g, rfl⟩ : ∃ g', g = g' + 1 := ⟨g - 1, by omega⟩
   repeat' (first|refine gL ?_|(refine gv ?_;(refine⟨fun hc=>?_,fun hc=>?_⟩<;>first|(exfalso;omega)|skip))|fail)
   (refine RT.call T rfl fR_ (rtag_fn hR hb x2 h3) rfl rfl rfl ?_; rintro _ _ ⟨rfl, rfl⟩; try simp only [List.cons_append, List.nil_append])
   obtain ⟨ton, tat⟩ := RS.tag_on x2 hR.lenI hb
   have htr := RS.tag_range hb x2 hR.lenI
   have hgr := grp_succ (bs := bs) (f := g) (num := num) (d := d) he
   generalize s'.tag bs = tt at *
   obtain ⟨⟨tn, tk⟩, t1⟩ := tt
   dsimp only at ton tat hgr htr ⊢
   obtain ⟨r1, r2, r3, r4⟩ := htr
   by_cases te : t1.e = 0
   ·have tat' := tat te
    have tok := ton.1
    have tle := tok.1
    have ten := ton.2.1
    rw [if_pos te] at hgr
    by_cases k4 : tk = 4
    ·rw [if_pos k4] at hgr
     by_cases kn : tn = num
     ·rw [if_pos kn] at hgr
      rw [hgr]
      repeat' (first|refine gL ?_|(refine gv ?_;(refine⟨fun hc=>?_,fun hc=>?_⟩<;>first|(exfalso;omega)|skip))|fail)
      exact AtQ.f1 (HH := [rds p a n c t1]) Tryz.results268 rfl rfl (fun w h => h)
     ·rw [if_neg kn] at hgr
      repeat' (first|refine gL ?_|(refine gv ?_;(refine⟨fun hc=>?_,fun hc=>?_⟩<;>first|(exfalso;omega)|skip))|fail)
      refine RT.call T rfl fR_ (wrong_s (s := t1) (at' := s'.at_)) rfl rfl rfl ?_
      rintro _ _ ⟨rfl, rfl⟩
      have hwe : (t1.wrong 13 s'.at_).e ≠ 0 := by unfold RS.wrong; rw [if_pos te]; simp
      have hwo := RS.wrong_on (e := 13) (a := s'.at_) tok (by have := x2.1; have := x2.2.1; omega) (by decide)
      simp only [List.cons_append, List.nil_append]
      try refine gL ?_
      exact AtQ.loop (g, t1.wrong 13 s'.at_) ⟨rfl, rfl, rfl, trivial⟩ (fun w h => Sat.pu_in ⟨by simp only; omega, hwo.1, fun h => absurd h hwe, by simp only; rw [grp_bad hwe, hgr], fun h => absurd h hwe⟩ h) (by simp only; omega)
    ·rw [if_neg k4] at hgr
     repeat' (first|refine gL ?_|(refine gv ?_;first|(refine⟨fun hc=>?_,fun hc=>?_⟩<;>first|(exfalso;omega)|skip)|refine gk ?_)|fail)
     (refine RT.call T rfl fR_ (content_fn hR hb tok h3 (ih g (by omega)) (by omega) r3 (by omega) (by omega) (by omega) (by omega) (by omega)) rfl rfl rfl ?_; rintro _ _ ⟨rfl, rfl⟩; try simp only [List.cons_append, List.nil_append])
     have hco := RS.con_on (f := g) (num := tn) (k := tk) (d := d - 1) tok hR.lenI hb
     try refine gL ?_
     exact AtQ.loop (g, t1.con bs g tn tk (d - 1)) ⟨rfl, rfl, rfl, trivial⟩ (fun w h => Sat.pu_in ⟨by simp only; omega, hco.1, fun _ => by have := hco.2.1; have := hco.2.2.1; simp only; omega, hgr.symm, fun _ => hd1'⟩ h) (by simp only; omega)
   ·rw [if_neg te] at hgr
    repeat' (first|refine gL ?_|(refine gv ?_;(refine⟨fun hc=>?_,fun hc=>?_⟩<;>first|(exfalso;omega)|skip))|fail)
    exact AtQ.loop (g, t1) ⟨rfl, rfl, rfl, trivial⟩ (fun w h => Sat.pu_in ⟨by simp only; omega, ton.1, fun h => absurd h te, by simp only; rw [grp_bad te, hgr], fun h => absurd h te⟩ h) (by simp only; omega)
  ·rw [grp_bad he]
   repeat' (first|refine gL ?_|(refine gv ?_;(refine⟨fun hc=>?_,fun hc=>?_⟩<;>first|(exfalso;omega)|skip))|fail)
   exact AtQ.f1 (HH := [rds p a n c s']) Tryz.results268 rfl rfl (fun w h => h)
end Go.Proofs.YtclcnhfponjdaaaGreatDoor
end
section
namespace Go.Sk
/-- A step of a script: its cells. -/
structure SO where
 kind : Int
 who : Int
 n : Int
 k : Int
 w : Int
 d : Int
 ba : Option Addr
 bn : Nat
 bc : Nat
 bl : List Int
/-- So many bytes of a number, the lowest first. -/
def lo : Nat → Int → List Int
 | 0, _ => []
 | w + 1, v => v % 256 :: lo w (v / 256)
def SO.simple (o : SO) : Prop := o.kind = 1 ∨ o.kind = 2 ∨ o.kind = 3 ∨ o.kind = 4 ∨ o.kind = 5
def SO.good (o : SO) : Prop := V64 o.n ∧ (o.kind = 4 → 1 ≤ o.k ∧ o.k ≤ 536870911 ∧ 0 ≤ o.w ∧ o.w ≤ 5) ∧ o.bl.length = o.bn ∧ Bytes o.bl ∧ o.bn ≤ 140737488355328
def SO.bytes (o : SO) : List Int :=
 if o.kind = 1 then enc o.n else if o.kind = 2 then lo 4 (o.n % 4294967296) else if o.kind = 3 then lo 8 o.n else if o.kind = 4 then enc (o.k * 8 + o.w) else enc o.bn ++ o.bl
inductive Ser : List SO → List Int → Prop
 | nil : Ser [] []
 | one {o : SO} {l : List SO} {b : List Int} : o.simple → o.good → Ser l b → Ser (o :: l) (o.bytes ++ b)
 | part {o q : SO} {l1 l2 : List SO} {b1 b2 : List Int} : o.kind = 7 → q.kind = 8 → Ser l1 b1 → Ser l2 b2 → Ser (o :: (l1 ++ q :: l2)) (enc b1.length ++ (b1 ++ b2))
theorem Ser.app {l l' : List SO} {b b' : List Int} (h : Ser l b) (h' : Ser l' b') : Ser (l ++ l') (b ++ b') := by
 induction h with
 | nil => exact h'
 | one s g _ ih => rw [List.append_assoc]; exact .one s g ih
 | part a c h1 _ _ ih => rw [List.append_assoc, List.append_assoc, List.cons_append, List.append_assoc]; exact .part a c h1 ih
/-- A script, some of its parts being open. -/
inductive St : List SO → List Int → List Int → Prop
 | base {l : List SO} {b : List Int} : Ser l b → St l b []
 | opn {o : SO} {l l1 : List SO} {b b1 op : List Int} : o.kind = 7 → St l b op → Ser l1 b1 → St (l ++ o :: l1) (b ++ b1) (op ++ [(b.length : Int)])
theorem St.app {l l' : List SO} {b b' op : List Int} (h : St l b op) (h' : Ser l' b') : St (l ++ l') (b ++ b') op := by
 cases h with
 | base h => exact .base (h.app h')
 | opn k s h => rw [List.append_assoc, List.append_assoc, List.cons_append]; exact .opn k s (h.app h')
theorem St.push {l : List SO} {o : SO} {b op : List Int} (h : St l b op) (hk : o.kind = 7) : St (l ++ [o]) b (op ++ [(b.length : Int)]) := by
 have := St.opn hk h .nil
 rwa [List.append_nil] at this
theorem St.end_ {l : List SO} {b : List Int} (h : St l b []) : Ser l b := by
 generalize hop : ([] : List Int) = op at h
 cases h with
 | base h => exact h
 | opn => simp at hop
theorem St.last {l : List SO} {b op : List Int} (h : St l b op) : ∀ x ∈ op, 0 ≤ x ∧ x ≤ b.length := by
 induction h with
 | base h => intro x hx; cases hx
 | opn k s h ih =>
  intro x hx
  rw [List.length_append]
  rcases List.mem_append.1 hx with hx | hx
  ·have := ih x hx; omega
  ·simp only [List.mem_singleton] at hx; subst hx; omega
/-! ### reading it -/
theorem vr_enc {v : Int} (h : V64 v) (r : List Int) : vr (enc v ++ r) 0 0 = .ok v (enc v).length := by
 obtain ⟨l, x, e, hm, hl, h0, h1, hv, h9, _⟩ := enc_val h
 rw [e, List.append_assoc]
 have := vr_more l 0 0 x r hm (by omega) h0 h1 (fun h => h9 (by omega))
 rw [List.singleton_append, this, hv]
 simp
def RS.mv (s : RS) (k : Nat) : RS := { s with at_ := s.at_ + k }
theorem RS.mv_e (s : RS) (k : Nat) : (s.mv k).e = s.e := rfl
theorem RS.mv_en (s : RS) (k : Nat) : (s.mv k).en = s.en := rfl
theorem RS.mv_at (s : RS) (k : Nat) : (s.mv k).at_ = s.at_ + k := rfl
theorem RS.seg_mv {bs x y : List Int} {s : RS} (h : s.seg bs = x ++ y) : (s.mv x.length).seg bs = y := by
 unfold RS.seg RS.mv at *
 simp only
 rw [← List.drop_drop, Nat.sub_add_eq, ← List.drop_take, h, List.drop_left]
theorem RS.mv_ok {bs x y : List Int} {n : Nat} {s : RS} (hs : s.ok n) (hb : bs.length = n) (h : s.seg bs = x ++ y) : (s.mv x.length).ok n ∧ s.at_ + x.length + y.length = s.en := by
 have h1 := RS.seg_len hs hb
 rw [h, List.length_append] at h1
 obtain ⟨a, b, c⟩ := hs
 exact ⟨⟨by simp only [RS.mv]; omega, b, c⟩, by omega⟩
theorem RS.span_seg {bs y z : List Int} {n : Nat} {s : RS} (hs : s.ok n) (hb : bs.length = n) (h : s.seg bs = enc z.length ++ (z ++ y)) :
  (bs.drop (s.at_ + (enc z.length).length)).take z.length = z := by
 have h1 := (RS.mv_ok hs hb h).2
 have h2 := RS.seg_mv h
 rw [List.length_append] at h1
 unfold RS.seg RS.mv at h2
 simp only at h2
 have h3 : (bs.drop (s.at_ + (enc z.length).length)).take z.length = ((bs.drop (s.at_ + (enc z.length).length)).take (s.en - (s.at_ + (enc z.length).length))).take z.length := by
  rw [List.take_take, Nat.min_eq_left (by omega)]
 rw [h3, h2, List.take_left]
/-- What is still to be read: of the reader that stands, and of those that wait. -/
inductive Rst (bs : List Int) (n : Nat) : List SO → RS → List RS → Prop
 | base {l : List SO} {s : RS} : s.e = 0 → s.ok n → Ser l (s.seg bs) → Rst bs n l s []
 | more {q : SO} {l l2 : List SO} {s s' : RS} {st : List RS} : s.e = 0 → s.ok n → q.kind = 8 → Ser l (s.seg bs) → Rst bs n l2 s' st → Rst bs n (l ++ q :: l2) s (s' :: st)
theorem Rst.ok {bs : List Int} {n : Nat} {l : List SO} {s : RS} {st : List RS} (h : Rst bs n l s st) : s.e = 0 ∧ s.ok n := by
 cases h with
 | base a b _ => exact ⟨a, b⟩
 | more a b _ _ _ => exact ⟨a, b⟩
/-- What the next step is. -/
theorem Rst.step {bs : List Int} {n : Nat} (hb : bs.length = n) {o : SO} {l : List SO} {s : RS} {st : List RS} (h : Rst bs n (o :: l) s st) :
  (o.simple ∧ o.good ∧ ∃ y, s.seg bs = o.bytes ++ y ∧ Rst bs n l (s.mv o.bytes.length) st) ∨
  (o.kind = 7 ∧ ∃ z y : List Int, s.seg bs = enc z.length ++ (z ++ y) ∧ Rst bs n l ⟨s.at_ + (enc z.length).length, s.at_ + (enc z.length).length + z.length, 0, 0⟩ (s.mv ((enc z.length).length + z.length) :: st)) ∨
  (o.kind = 8 ∧ s.at_ = s.en ∧ ∃ s' st', st = s' :: st' ∧ Rst bs n l s' st') := by
 have key : ∀ {l1 : List SO} {b : List Int}, Ser l1 b → ∀ (o : SO) (l' : List SO), l1 = o :: l' → (o.simple ∧ o.good ∧ ∃ y, b = o.bytes ++ y ∧ Ser l' y) ∨ (o.kind = 7 ∧ ∃ (q : SO) (l1' l2' : List SO) (z y : List Int), l' = l1' ++ q :: l2' ∧ q.kind = 8 ∧ b = enc z.length ++ (z ++ y) ∧ Ser l1' z ∧ Ser l2' y) := by
  intro l1 b hser o l' he
  cases hser with
  | nil => cases he
  | one a g h => cases he; exact .inl ⟨a, g, _, rfl, h⟩
  | part a c h1 h2 => cases he; exact .inr ⟨a, _, _, _, _, _, rfl, c, rfl, h1, h2⟩
 have inner : ∀ {z y : List Int}, s.ok n → s.seg bs = enc z.length ++ (z ++ y) → (⟨s.at_ + (enc z.length).length, s.at_ + (enc z.length).length + z.length, 0, 0⟩ : RS).ok n ∧ (⟨s.at_ + (enc z.length).length, s.at_ + (enc z.length).length + z.length, 0, 0⟩ : RS).seg bs = z ∧ (s.mv ((enc z.length).length + z.length)).ok n ∧ (s.mv ((enc z.length).length + z.length)).seg bs = y := by
  intro z y hok hseg
  have h1 := (RS.mv_ok hok hb hseg).2
  have h2 := RS.span_seg hok hb hseg
  rw [List.length_append] at h1
  have h3 := hok.2.1
  have h4 : s.seg bs = (enc z.length ++ z) ++ y := by rw [List.append_assoc]; exact hseg
  have h5 := RS.seg_mv h4
  have h6 := (RS.mv_ok hok hb h4).1
  rw [List.length_append] at h5 h6
  refine ⟨⟨by simp only; omega, by simp only; omega, by simp only; omega⟩, ?_, h6, h5⟩
  unfold RS.seg
  simp only
  rw [show s.at_ + (enc z.length).length + z.length - (s.at_ + (enc z.length).length) = z.length by omega]
  exact h2
 generalize hl : o :: l = L at h
 cases h with
 | base he hok hser =>
  rcases key hser o l hl.symm with ⟨a, g, y, hy, hs⟩ | ⟨a, q, l1, l2, z, y, rfl, hq, hy, hs1, hs2⟩
  ·refine .inl ⟨a, g, y, hy, .base he (RS.mv_ok hok hb hy).1 (by rw [RS.seg_mv hy]; exact hs)⟩
  ·obtain ⟨i1, i2, i3, i4⟩ := inner hok hy
   exact .inr (.inl ⟨a, z, y, hy, .more rfl i1 hq (by rw [i2]; exact hs1) (.base he i3 (by rw [i4]; exact hs2))⟩)
 | @more q l1 l2 _ s' st' he hok hk hser hrest =>
  cases l1 with
  | nil =>
   simp only [List.nil_append, List.cons.injEq] at hl
   obtain ⟨rfl, rfl⟩ := hl
   refine .inr (.inr ⟨hk, ?_, s', st', rfl, hrest⟩)
   have h1 := RS.seg_len hok hb
   have h0 : s.seg bs = [] := by
    generalize s.seg bs = x at hser
    cases hser; rfl
   rw [h0, List.length_nil] at h1
   have := hok.1
   omega
  | cons o' l1 =>
   simp only [List.cons_append, List.cons.injEq] at hl
   obtain ⟨rfl, rfl⟩ := hl
   rcases key hser o l1 rfl with ⟨a, g, y, hy, hs⟩ | ⟨a, q', l1', l2', z, y, rfl, hq, hy, hs1, hs2⟩
   ·refine .inl ⟨a, g, y, hy, .more he (RS.mv_ok hok hb hy).1 hk (by rw [RS.seg_mv hy]; exact hs) hrest⟩
   ·obtain ⟨i1, i2, i3, i4⟩ := inner hok hy
    refine .inr (.inl ⟨a, z, y, hy, ?_⟩)
    rw [List.append_assoc, List.cons_append]
    exact .more rfl i1 hq (by rw [i2]; exact hs1) (.more he i3 hk (by rw [i4]; exact hs2) hrest)
theorem Rst.end_ {bs : List Int} {n : Nat} (hb : bs.length = n) {s : RS} {st : List RS} (h : Rst bs n [] s st) : st = [] ∧ s.at_ = s.en := by
 generalize hl : ([] : List SO) = L at h
 cases h with
 | base he hok hser =>
  refine ⟨rfl, ?_⟩
  subst hl
  have h1 := RS.seg_len hok hb
  have h0 : s.seg bs = [] := by
   generalize s.seg bs = x at hser
   cases hser; rfl
  rw [h0, List.length_nil] at h1
  have := hok.1
  omega
 | more => simp at hl
end Go.Sk
end
section
namespace Go.Sk
theorem vr_app : ∀ (x y : List Int) (i : Nat) (v r : Int) (k : Nat), vr x i v = .ok r k → vr (x ++ y) i v = .ok r k
 | [], y, i, v, r, k, h => by simp only [vr] at h; split at h <;> cases h
 | c :: x, y, i, v, r, k, h => by
  simp only [List.cons_append, vr] at h ⊢
  split at h
  ·rename_i h1
   rw [if_pos h1]
   split at h
   ·cases h
   ·rename_i h2
    rw [if_neg h2]
    split at h
    ·rename_i h3; rw [if_pos h3]; exact h
    ·rename_i h3; rw [if_neg h3]; exact vr_app x y _ _ _ _ h
  ·cases h
theorem vr_take : ∀ (l : List Int) (i : Nat) (v r : Int) (k : Nat), vr l i v = .ok r k → vr (l.take (k - i)) i v = .ok r k ∧ i < k ∧ k ≤ i + l.length
 | [], i, v, r, k, h => by simp only [vr] at h; split at h <;> cases h
 | c :: l, i, v, r, k, h => by
  simp only [vr] at h
  split at h
  ·rename_i h1
   split at h
   ·cases h
   ·rename_i h2
    split at h
    ·rename_i h3
     cases h
     rw [show i + 1 - i = 1 by omega]
     simp only [List.take_succ_cons, List.take_zero, vr, List.length_cons]
     rw [if_pos h1, if_neg h2, if_pos h3]
     exact ⟨rfl, by omega, by omega⟩
    ·rename_i h3
     obtain ⟨a, b, c'⟩ := vr_take l (i + 1) _ r k h
     rw [show k - i = (k - (i + 1)) + 1 by omega]
     simp only [List.take_succ_cons, vr, List.length_cons]
     rw [if_pos h1, if_neg h2, if_neg h3]
     exact ⟨a, by omega, by omega⟩
  ·cases h
/-- These bytes are the varint of that number. -/
def Vr (x : List Int) (v : Int) : Prop := vr x 0 0 = .ok v x.length
def Tg (x : List Int) (n k : Int) : Prop := Vr x (n * 8 + k) ∧ 1 ≤ n ∧ n ≤ 536870911 ∧ 0 ≤ k ∧ k ≤ 5
theorem Vr.pos {x : List Int} {v : Int} (h : Vr x v) : 0 < x.length := (vr_take x 0 0 v _ h).2.1
mutual
/-- The content of a field of number n and kind k, groups within one another so deep at most. -/
inductive Con : Int → Int → Int → List Int → Prop
 | vi {n d v : Int} {x : List Int} : Vr x v → Con n 0 d x
 | f8 {n d : Int} {x : List Int} : x.length = 8 → Con n 1 d x
 | by_ {n d : Int} {x z : List Int} : Vr x z.length → Con n 2 d (x ++ z)
 | gr {n d : Int} {x e : List Int} : 1 ≤ d → Fls (d - 1) x → Tg e n 4 → Con n 3 d (x ++ e)
 | f4 {n d : Int} {x : List Int} : x.length = 4 → Con n 5 d x
/-- Fields. -/
inductive Fls : Int → List Int → Prop
 | nil {d : Int} : Fls d []
 | cons {n k d : Int} {t c r : List Int} : Tg t n k → k ≠ 4 → Con n k d c → Fls d r → Fls d (t ++ (c ++ r))
end
theorem Fls.one {n k d : Int} {t c : List Int} (h : Tg t n k) (hk : k ≠ 4) (hc : Con n k d c) : Fls d (t ++ c) := by
 have := Fls.cons h hk hc .nil
 rwa [List.append_nil] at this
/-! ### reading what belongs to it -/
section
variable {bs y : List Int} {n : Nat} {s : RS}
theorem RS.varint_to {x : List Int} {v : Int} (he : s.e = 0) (hx : Vr x v) (h : s.seg bs = x ++ y) : s.varint bs = (v, s.mv x.length) := by
 unfold RS.varint
 rw [if_pos he, h, vr_app x y 0 0 _ _ hx]
 rfl
theorem RS.tag_to {x : List Int} {m k : Int} (he : s.e = 0) (hx : Tg x m k) (h : s.seg bs = x ++ y) : s.tag bs = ((m, k), s.mv x.length) := by
 obtain ⟨h1, h2, h3, h4, h5⟩ := hx
 unfold RS.tag
 rw [RS.varint_to he h1 h]
 simp only
 rw [RS.mv_e, if_pos he, if_neg (by omega)]
 congr 1
 congr 1
 ·omega
 ·omega
theorem RS.fixed_to {x : List Int} {w : Nat} (he : s.e = 0) (hs : s.ok n) (hb : bs.length = n) (hw : x.length = w) (h : s.seg bs = x ++ y) : s.fixed w bs = (lev x, s.mv w) := by
 have h1 := RS.seg_len hs hb
 rw [h, List.length_append, hw] at h1
 unfold RS.fixed
 rw [if_pos he, if_neg (by omega)]
 have h2 : (bs.drop s.at_).take w = (s.seg bs).take w := by
  unfold RS.seg
  rw [List.take_take, Nat.min_eq_left (by omega)]
 rw [h2, h, List.take_left' hw]
 rfl
theorem RS.span_to {x z : List Int} (he : s.e = 0) (hs : s.ok n) (hb : bs.length = n) (hx : Vr x z.length) (h : s.seg bs = x ++ (z ++ y)) :
  s.span bs = (some (s.at_ + x.length, s.at_ + x.length + z.length), s.mv (x.length + z.length)) := by
 have h1 := (RS.mv_ok hs hb h).2
 rw [List.length_append] at h1
 unfold RS.span
 rw [RS.varint_to he hx h]
 simp only
 rw [RS.mv_e, if_pos he, RS.mv_en, RS.mv_at, if_neg (by omega)]
 simp only [RS.mv, Int.toNat_natCast, Nat.add_assoc]
theorem RS.simple_to {m k d : Int} {x : List Int} (he : s.e = 0) (hs : s.ok n) (hb : bs.length = n) (hx : Con m k d x) (hk : k ≠ 3) (h : s.seg bs = x ++ y) : s.simple bs k = s.mv x.length := by
 unfold RS.simple
 cases hx with
 | vi hv => rw [if_pos rfl, RS.varint_to he hv h]
 | f8 hl => rw [if_neg (by decide), if_pos rfl, RS.fixed_to he hs hb hl h, hl]
 | by_ hv => rw [if_neg (by decide), if_neg (by decide), if_pos rfl, RS.span_to he hs hb hv (by rw [← List.append_assoc]; exact h), List.length_append]
 | gr => exact absurd rfl hk
 | f4 hl => rw [if_neg (by decide), if_neg (by decide), if_neg (by decide), if_pos rfl, RS.fixed_to he hs hb hl h, hl]
theorem RS.dep_to {d : Int} (h : 1 ≤ d) : s.dep d = s := by unfold RS.dep; rw [if_neg (by omega)]
theorem RS.mv_mv {a b : Nat} : (s.mv a).mv b = s.mv (a + b) := by simp [RS.mv, Nat.add_assoc]
end
theorem grp_to {bs : List Int} {n : Nat} (hb : bs.length = n) : ∀ (f : Nat) (num d : Int) (s : RS) (x e y : List Int), 1 ≤ d → s.e = 0 → s.ok n → Fls (d - 1) x → Tg e num 4 → s.seg bs = x ++ (e ++ y) → x.length + e.length ≤ f → grp bs f num d s = (((s.at_ + x.length : Nat) : Int), s.mv (x.length + e.length))
 | 0, num, d, s, x, e, y, _, _, _, _, he, _, hf => by have := he.1.pos; omega
 | f + 1, num, d, s, x, e, y, hd, he, hs, hx, hte, h, hf => by
  rw [grp_succ he]
  generalize hdd : d - 1 = d1 at hx
  cases hx with
  | nil =>
   rw [List.nil_append] at h
   rw [RS.tag_to he hte h]
   simp only [List.length_nil, Nat.zero_add]
   rw [RS.mv_e, if_pos he]
   simp
  | @cons n' k _ t c r ht hk hc hr =>
   have htp := ht.1.pos
   rw [List.append_assoc] at h
   have h2 : s.seg bs = t ++ ((c ++ r) ++ (e ++ y)) := h
   rw [RS.tag_to he ht h2]
   simp only
   rw [RS.mv_e, if_pos he, if_neg hk]
   have ok1 := (RS.mv_ok hs hb h2).1
   have sg1 := RS.seg_mv h2
   rw [List.append_assoc] at sg1
   have e1 : (s.mv t.length).e = 0 := he
   have key : (if k = 3 then (grp bs f n' d1 ((s.mv t.length).dep d1)).2 else (s.mv t.length).simple bs k) = (s.mv t.length).mv c.length := by
    by_cases hk3 : k = 3
    ·rw [if_pos hk3]
     subst hk3
     cases hc with
     | gr hd1 hfl hte' =>
      rw [RS.dep_to hd1, grp_to hb f n' d1 (s.mv t.length) _ _ (r ++ (e ++ y)) hd1 e1 ok1 hfl hte' (by rw [sg1]; simp) (by simp only [List.length_append] at hf ⊢; omega), List.length_append]
    ·rw [if_neg hk3]
     exact RS.simple_to e1 ok1 hb hc hk3 sg1
   rw [key]
   have ok2 := (RS.mv_ok ok1 hb sg1).1
   have sg2 := RS.seg_mv sg1
   rw [grp_to hb f num d ((s.mv t.length).mv c.length) r e y hd e1 ok2 (by rw [hdd]; exact hr) hte sg2 (by simp only [List.length_append] at hf ⊢; omega)]
   rw [RS.mv_mv, RS.mv_mv]
   simp only [RS.mv_at, List.length_append]
   congr 1
   ·omega
   ·congr 1; omega
theorem RS.con_to {bs y : List Int} {n : Nat} {s : RS} {f : Nat} {m k d : Int} {x : List Int} (he : s.e = 0) (hs : s.ok n) (hb : bs.length = n) (hx : Con m k d x) (h : s.seg bs = x ++ y) (hf : x.length ≤ f) : s.con bs f m k d = s.mv x.length := by
 unfold RS.con
 by_cases hk3 : k = 3
 ·rw [if_pos hk3]
  subst hk3
  cases hx with
  | gr hd1 hfl hte => rw [RS.dep_to hd1, grp_to hb f m d s _ _ y hd1 he hs hfl hte (by rw [h]; simp) (by simpa using hf), List.length_append]
 ·rw [if_neg hk3]
  exact RS.simple_to he hs hb hx hk3 h
/-! ### what is read belongs to it -/
section
variable {bs : List Int} {n : Nat} {s : RS}
end
theorem RS.wrong_e {s : RS} {e : Int} {a : Nat} (he : e ≠ 0) : (s.wrong e a).e ≠ 0 := by
 unfold RS.wrong
 split
 ·exact he
 ·assumption
end Go.Sk
end
section
namespace Go.Sk
def RS.bad1 (m k : Int) (s : RS) : RS := if m < 1 ∨ 536870911 < m ∨ 5 < k then s.wrong 1 s.at_ else if k = 4 then s.wrong 13 s.at_ else s
def RS.skip1 (bs : List Int) (m k d : Int) (s : RS) : RS := if (s.bad1 m k).e = 0 then (s.bad1 m k).con bs (s.en - s.at_ + 1) m k d else s.bad1 m k
def RS.skip (bs : List Int) (m k d : Int) (s : RS) : List Int × RS :=
 if (s.skip1 bs m k d).e = 0 then ((bs.drop s.at_).take ((s.skip1 bs m k d).at_ - s.at_), s.skip1 bs m k d) else ([], { s.skip1 bs m k d with at_ := s.at_ })
def chk (bs : List Int) : Nat → Int → RS → Int × Int
 | 0, _, s => (s.e, if s.e = 0 then 0 else (s.wh : Int))
 | f + 1, d, s =>
  if s.e = 0 ∧ s.at_ < s.en then
   (if (s.tag bs).2.e = 0 ∧ (s.tag bs).1.2 = 4 then (13, s.at_) else chk bs f d ((s.tag bs).2.skip bs (s.tag bs).1.1 (s.tag bs).1.2 d).2)
  else (s.e, if s.e = 0 then 0 else (s.wh : Int))
theorem chk_end {bs : List Int} {f : Nat} {d : Int} {s : RS} (h : ¬ (s.e = 0 ∧ s.at_ < s.en)) : chk bs f d s = (s.e, if s.e = 0 then 0 else (s.wh : Int)) := by
 cases f with
 | zero => rfl
 | succ f => rw [chk, if_neg h]
theorem chk_succ {bs : List Int} {f : Nat} {d : Int} {s : RS} (h : s.e = 0 ∧ s.at_ < s.en) : chk bs (f + 1) d s = (if (s.tag bs).2.e = 0 ∧ (s.tag bs).1.2 = 4 then (13, (s.at_ : Int)) else chk bs f d ((s.tag bs).2.skip bs (s.tag bs).1.1 (s.tag bs).1.2 d).2) := by
 rw [chk, if_pos h]
theorem RS.wrong_bad {s : RS} {e : Int} {a : Nat} (h : s.e ≠ 0) : s.wrong e a = s := by unfold RS.wrong; rw [if_neg h]
theorem RS.wrong_ok {n : Nat} {s : RS} {e : Int} {a : Nat} (h : s.ok n) (ha : a ≤ n) : (s.wrong e a).ok n ∧ (s.wrong e a).en = s.en ∧ (s.wrong e a).at_ = s.at_ := by
 unfold RS.wrong
 split
 ·exact ⟨⟨h.1, h.2.1, ha⟩, rfl, rfl⟩
 ·exact ⟨h, rfl, rfl⟩
theorem RS.bad1_ok {n : Nat} {s : RS} {m k : Int} (h : s.ok n) : (s.bad1 m k).ok n ∧ (s.bad1 m k).en = s.en ∧ (s.bad1 m k).at_ = s.at_ := by
 have := h.1
 have := h.2.1
 unfold RS.bad1
 split
 ·exact RS.wrong_ok h (by omega)
 ·split
  ·exact RS.wrong_ok h (by omega)
  ·exact ⟨h, rfl, rfl⟩
theorem RS.bad1_pass {s : RS} {m k : Int} (h1 : 1 ≤ m) (h2 : m ≤ 536870911) (h3 : k ≤ 5) (h4 : k ≠ 4) : s.bad1 m k = s := by
 unfold RS.bad1
 rw [if_neg (by omega), if_neg h4]
theorem RS.skip_bad {bs : List Int} {m k d : Int} {s : RS} (h : s.e ≠ 0) : s.skip bs m k d = ([], s) := by
 have h1 : s.bad1 m k = s := by
  unfold RS.bad1
  split
  ·exact RS.wrong_bad h
  ·split
   ·exact RS.wrong_bad h
   ·rfl
 have h2 : s.skip1 bs m k d = s := by
  unfold RS.skip1
  rw [h1, if_neg h]
 unfold RS.skip
 rw [h2, if_neg h]
theorem RS.skip_to {bs y c : List Int} {n : Nat} {s : RS} {m k d : Int} (he : s.e = 0) (hs : s.ok n) (hb : bs.length = n) (hc : Con m k d c) (h1 : 1 ≤ m) (h2 : m ≤ 536870911) (h3 : k ≤ 5) (h4 : k ≠ 4) (h : s.seg bs = c ++ y) : s.skip bs m k d = (c, s.mv c.length) := by
 have hl := (RS.mv_ok hs hb h).2
 have e1 : s.skip1 bs m k d = s.mv c.length := by
  unfold RS.skip1
  rw [RS.bad1_pass h1 h2 h3 h4, if_pos he, RS.con_to he hs hb hc h (by omega)]
 unfold RS.skip
 rw [e1, RS.mv_e, if_pos he]
 congr 1
 rw [RS.mv_at, Nat.add_sub_cancel_left]
 have h5 : (bs.drop s.at_).take c.length = (s.seg bs).take c.length := by
  unfold RS.seg
  rw [List.take_take, Nat.min_eq_left (by omega)]
 rw [h5, h, List.take_left]
theorem RS.skip1_ok {bs : List Int} {n : Nat} {s : RS} {m k d : Int} (hs : s.ok n) (hb : bs.length = n) (hby : Bytes bs) : (s.skip1 bs m k d).ok n ∧ (s.skip1 bs m k d).en = s.en ∧ s.at_ ≤ (s.skip1 bs m k d).at_ := by
 obtain ⟨a, b, c⟩ := RS.bad1_ok (m := m) (k := k) hs
 unfold RS.skip1
 split
 ·have h := RS.con_on (f := s.en - s.at_ + 1) (num := m) (k := k) (d := d) a hb hby
  exact ⟨h.1, h.2.1.trans b, by have := h.2.2.1; omega⟩
 ·exact ⟨a, b, by omega⟩
theorem RS.skip_ok {bs : List Int} {n : Nat} {s : RS} {m k d : Int} (hs : s.ok n) (hb : bs.length = n) (hby : Bytes bs) : (s.skip bs m k d).2.ok n ∧ (s.skip bs m k d).2.en = s.en ∧ s.at_ ≤ (s.skip bs m k d).2.at_ := by
 obtain ⟨a, b, c⟩ := RS.skip1_ok (m := m) (k := k) (d := d) hs hb hby
 unfold RS.skip
 split
 ·exact ⟨a, b, c⟩
 ·refine ⟨⟨?_, a.2.1, a.2.2⟩, b, Nat.le_refl _⟩
  simp only
  rw [b]
  exact hs.1
theorem chk_to {bs : List Int} {n : Nat} (hb : bs.length = n) : ∀ (f : Nat) (d : Int) (s : RS) (x : List Int), s.e = 0 → s.ok n → Fls d x → s.seg bs = x → x.length ≤ f → chk bs f d s = (0, 0)
 | f, d, s, x, he, hs, hx, h, hf => by
  have hl := RS.seg_len hs hb
  rw [h] at hl
  have hs1 := hs.1
  cases hx with
  | nil =>
   rw [chk_end (by simp only [List.length_nil] at hl; omega), if_pos he, he]
  | @cons m k _ t c r ht hk hc hr =>
   have htp := ht.1.pos
   simp only [List.length_append] at hl hf
   obtain ⟨g, rfl⟩ : ∃ g, f = g + 1 := ⟨f - 1, by omega⟩
   rw [chk_succ ⟨he, by omega⟩, RS.tag_to he ht h]
   simp only
   rw [if_neg (by intro hh; exact hk hh.2)]
   have ok1 := (RS.mv_ok hs hb h).1
   have sg1 := RS.seg_mv h
   rw [RS.skip_to (y := r) (by exact he) ok1 hb hc ht.2.1 ht.2.2.1 ht.2.2.2.2 hk sg1]
   have ok2 := (RS.mv_ok ok1 hb sg1).1
   have sg2 := RS.seg_mv sg1
   exact chk_to hb g d _ r he ok2 hr sg2 (by omega)
/-- Of bytes from the front. -/
def chk0 (l : List Int) (d : Int) : Int × Int := chk l (l.length + 1) d ⟨0, l.length, 0, 0⟩
theorem seg0 (l : List Int) : RS.seg l ⟨0, l.length, 0, 0⟩ = l := by unfold RS.seg; simp
theorem ok0 (l : List Int) : RS.ok l.length ⟨0, l.length, 0, 0⟩ := ⟨Nat.zero_le _, Nat.le_refl _, Nat.zero_le _⟩
theorem chk0_to {l : List Int} {d : Int} (h : Fls d l) : chk0 l d = (0, 0) := chk_to rfl _ d _ l rfl (ok0 l) h (seg0 l) (by omega)
end Go.Sk
end
section
namespace Go.Proofs.YtclcnhfponjdaaaGreatDoor
open Go.Sk
set_option maxRecDepth 100000
attribute [local irreducible] Cs Own Ex Pu Yld RT LJ QJ AtQ CT Rd QSp Sp FinQ Then LoopQ CutQ DT TakeQ EffQ
attribute [local irreducible] Wr
variable {B : World} {R : List HP}
set_option maxHeartbeats 1000000 in
theorem skip_fn {p n c : Nat} {a : Option Addr} {s : RS} {bs : List Int} {m k d : Int} (hR : Rd B R a n c 1 (ints .u8 bs)) (hb : Bytes bs) (hs : s.ok n) (h3 : n ≤ 140737488355328)
  (hk0 : 0 ≤ k) (hk1 : k < 256) (hm0 : -2147483648 ≤ m) (hm1 : m ≤ 2147483647) (hd0 : -9223372036854775808 ≤ d) (hd1 : d ≤ 9223372036854775807) :
  Sp B Tryz.prog 76 [ptr p, .int .i32 m, .int .u8 k, .int .i64 d] R [rds p a n c s] (fun u H' => ∃ a' c', u = sl8 a' (s.skip bs m k d).1.length c' ∧ H' = [own8 a' c' (s.skip bs m k d).1 (s.skip bs m k d).1.length, rds p a n c (s.skip bs m k d).2]) := by
 have hbs := hR.lenI
 have hle := hR.le
 obtain ⟨o1, o2, o3⟩ := hs
 obtain ⟨g1, g2, g3⟩ := RS.bad1_ok (m := m) (k := k) (s := s) (n := n) ⟨o1, o2, o3⟩
 obtain ⟨f1, f2, f3⟩ := RS.skip1_ok (m := m) (k := k) (d := d) (s := s) (n := n) ⟨o1, o2, o3⟩ hbs hb
 have hsk : s.skip bs m k d = if (s.skip1 bs m k d).e = 0 then ((bs.drop s.at_).take ((s.skip1 bs m k d).at_ - s.at_), s.skip1 bs m k d) else ([], { s.skip1 bs m k d with at_ := s.at_ }) := rfl
 have hs1 : s.skip1 bs m k d = if (s.bad1 m k).e = 0 then (s.bad1 m k).con bs (s.en - s.at_ + 1) m k d else s.bad1 m k := rfl
 have hb1 : s.bad1 m k = if m < 1 ∨ 536870911 < m ∨ 5 < k then s.wrong 1 s.at_ else if k = 4 then s.wrong 13 s.at_ else s := rfl
 refine Sp.body Tryz.func76 rfl Tryz.ntmps76 (by simp) ?_
 simp only [argE, List.cons_append, List.nil_append, Nat.zero_add, Nat.reduceAdd]
 by_cases hA : m < 1 ∨ 536870911 < m ∨ 5 < k
 ·rw [if_pos hA] at hb1
  have hbe : (s.bad1 m k).e ≠ 0 := hb1 ▸ RS.wrong_e (by decide)
  have e1 : s.skip1 bs m k d = s.bad1 m k := by rw [hs1, if_neg hbe]
  have e2 : s.skip bs m k d = ([], { s.bad1 m k with at_ := s.at_ }) := by rw [hsk, e1, if_neg hbe]
  repeat' (first|refine gL ?_|(refine gv ?_;(refine⟨fun hc=>?_,fun hc=>?_⟩<;>first|(exfalso;omega)|skip))|fail)
  all_goals
   refine RT.call T rfl fR_ (wrong_s (s := s) (at' := s.at_)) rfl rfl rfl ?_
   rintro _ _ ⟨rfl, rfl⟩
   rw [← hb1]
   clear hb1 hs1 hsk
   generalize s.bad1 m k = q at *
   simp only [List.cons_append, List.nil_append]
   repeat' (first|refine gL ?_|(refine gv ?_;(refine⟨fun hc=>?_,fun hc=>?_⟩<;>first|(exfalso;omega)|skip))|fail)
   exact AtQ.fin1 (H' := [own8 none 0 [] 0, rds p a n c { q with at_ := s.at_ }]) Tryz.results76 rfl ⟨none, 0, by rw [e2]; rfl, by rw [e2]; rfl⟩ (fun w h => Sat.nilOwn h)
 rw [if_neg hA] at hb1
 by_cases hB : k = 4
 ·rw [if_pos hB] at hb1
  have hbe : (s.bad1 m k).e ≠ 0 := hb1 ▸ RS.wrong_e (by decide)
  have e1 : s.skip1 bs m k d = s.bad1 m k := by rw [hs1, if_neg hbe]
  have e2 : s.skip bs m k d = ([], { s.bad1 m k with at_ := s.at_ }) := by rw [hsk, e1, if_neg hbe]
  repeat' (first|refine gL ?_|(refine gv ?_;(refine⟨fun hc=>?_,fun hc=>?_⟩<;>first|(exfalso;omega)|skip))|fail)
  all_goals
   refine RT.call T rfl fR_ (wrong_s (s := s) (at' := s.at_)) rfl rfl rfl ?_
   rintro _ _ ⟨rfl, rfl⟩
   rw [← hb1]
   clear hb1 hs1 hsk
   generalize s.bad1 m k = q at *
   simp only [List.cons_append, List.nil_append]
   repeat' (first|refine gL ?_|(refine gv ?_;(refine⟨fun hc=>?_,fun hc=>?_⟩<;>first|(exfalso;omega)|skip))|fail)
   exact AtQ.fin1 (H' := [own8 none 0 [] 0, rds p a n c { q with at_ := s.at_ }]) Tryz.results76 rfl ⟨none, 0, by rw [e2]; rfl, by rw [e2]; rfl⟩ (fun w h => Sat.nilOwn h)
 rw [if_neg hB] at hb1
 rw [hb1] at hs1
 by_cases he : s.e = 0
 ·rw [if_pos he] at hs1
  repeat' (first|refine gL ?_|(refine gv ?_;(refine⟨fun hc=>?_,fun hc=>?_⟩<;>first|(exfalso;omega)|skip))|fail)
  (refine RT.call T rfl fR_ (content_fn (f := s.en - s.at_ + 1) (d := d) hR hb ⟨o1, o2, o3⟩ h3 (group_fn hR hb h3 _) (by omega) hk0 hk1 hm0 hm1 hd0 hd1) rfl rfl rfl ?_; rintro _ _ ⟨rfl, rfl⟩; try simp only [List.cons_append, List.nil_append])
  rw [← hs1]
  clear hb1 hs1
  generalize s.skip1 bs m k d = t at *
  have t1 := f1.1
  by_cases hte : t.e = 0
  ·rw [if_pos hte] at hsk
   try refine gR ?_
   first | (refine CT.region ?_) | (refine CT.quiet mixed (by kernel_rfl) ?_)
   repeat' (first|refine gR ?_|(refine gv ?_;(refine⟨fun hc=>?_,fun hc=>?_⟩<;>first|(exfalso;omega)|skip))|fail)
   refine CT.drawn [rds p a n c t] 10 mixed ?_
   (refine DT.takes (k := 2) [0, 1, 2, 3, 4, 5, 6, 7, 8, 9] [10] (fun w h => Sat.ones (by (repeat (first|exact Fr.nil|(apply Fr.cons;focus ((repeat constructor);done))))) h) (by kernel_rfl) (by kernel_rfl) (by kernel_rfl) rfl (Clos.ofB (by kernel_rfl)) ?_)
   try refine gL ?_
   refine RT.sllh T (j := s.at_) (j' := t.at_) rfl rfl rfl rfl rfl (by omega) (by omega) rfl rfl rfl ?_
   try refine gL ?_
   refine AtQ.take ?_
   (refine DT.eff 10 rfl (by kernel_rfl) ?_)
   have hsub := hR.subI (i := s.at_) (j := t.at_) f3 (by omega)
   refine RT.call T rfl fR_ (clone_fn hsub.cons (by omega)) rfl rfl rfl ?_
   rintro _ _ ⟨a', c', rfl, rfl⟩
   simp only [List.cons_append, List.nil_append]
   have hl : ((bs.drop s.at_).take (t.at_ - s.at_)).length = t.at_ - s.at_ := hsub.lenI
   refine RT.nil ?_
   refine AtQ.eff' (by kernel_rfl) ?_
   (refine DT.eff 11 rfl (by kernel_rfl) ?_)
   try refine gL ?_
   refine AtQ.eff' (by kernel_rfl) ?_
   (refine DT.done (by kernel_rfl) ?_)
   try refine gL ?_
   exact AtQ.fin1 (H' := [own8 a' c' ((bs.drop s.at_).take (t.at_ - s.at_)) (t.at_ - s.at_), rds p a n c t]) Tryz.results76 rfl ⟨a', c', by rw [hsk]; simp only; rw [hl], by rw [hsk]; simp only; rw [hl]⟩ (fun w h => h)
  ·rw [if_neg hte] at hsk
   repeat' (first|refine gL ?_|(refine gv ?_;(refine⟨fun hc=>?_,fun hc=>?_⟩<;>first|(exfalso;omega)|skip))|fail)
   exact AtQ.fin1 (H' := [own8 none 0 [] 0, rds p a n c { t with at_ := s.at_ }]) Tryz.results76 rfl ⟨none, 0, by rw [hsk]; rfl, by rw [hsk]; rfl⟩ (fun w h => Sat.nilOwn h)
 ·rw [if_neg he] at hs1
  rw [hs1, if_neg he] at hsk
  repeat' (first|refine gL ?_|(refine gv ?_;(refine⟨fun hc=>?_,fun hc=>?_⟩<;>first|(exfalso;omega)|skip))|fail)
  exact AtQ.fin1 (H' := [own8 none 0 [] 0, rds p a n c s]) Tryz.results76 rfl ⟨none, 0, by rw [hsk]; rfl, by rw [hsk]; rfl⟩ (fun w h => Sat.nilOwn h)
end Go.Proofs.YtclcnhfponjdaaaGreatDoor
end
section
namespace Go.Proofs.YtclcnhfponjdaaaGreatDoor
open Go.Sk
set_option maxRecDepth 100000
attribute [local irreducible] Cs Own Ex Pu Yld RT LJ QJ AtQ CT Rd QSp Sp FinQ Then LoopQ CutQ DT TakeQ EffQ
attribute [local irreducible] Wr
variable {B : World} {R : List HP}
set_option maxHeartbeats 1000000 in
theorem check_fn {n c : Nat} {a : Option Addr} {l : List Int} {d : Int} (hR : Rd B R a n c 1 (ints .u8 l)) (hb : Bytes l) (hn : n ≤ 140737488355328) (hd0 : -9223372036854775808 ≤ d) (hd1 : d ≤ 9223372036854775807) :
  Sp B Tryz.prog 27 [sl8 a n c, .int .i64 d] R [] (fun u H' => u = .tuple #[.int .i64 (chk0 l d).1, .int .i64 (chk0 l d).2] ∧ H' = []) := by
 have hl := hR.lenI
 refine Sp.body Tryz.func27 rfl Tryz.ntmps27 (by simp) ?_
 simp only [argE, List.cons_append, List.nil_append, Nat.zero_add, Nat.reduceAdd]
 try refine gL ?_
 refine RT.call T rfl fR_ (newReader_fn hR hn) rfl rfl rfl ?_
 rintro _ _ ⟨p, a', c', rfl, rfl⟩
 simp only [List.cons_append, List.nil_append]
 refine RT.fact (Own.factsI (l := l) (c := c') sE_) (fun hf => ?_)
 try refine gL ?_
 refine CT.loop (α := Nat × RS) (fun _ => [(1, .int .i64 d), (6, ptr p)]) (fun x => Pu (x.2.ok n ∧ (x.2.e = 0 → x.2.en - x.2.at_ < x.1) ∧ chk l x.1 d x.2 = chk0 l d) :: rds p a' n c' x.2 :: own8 a' c' l n :: R) (fun x => x.1 + (if x.2.e = 0 then 1 else 0)) (l.length + 1, ⟨0, n, 0, 0⟩) ⟨rfl, rfl, trivial⟩
  (fun w h => Sat.pu_in ⟨⟨Nat.zero_le _, Nat.le_refl _, Nat.zero_le _⟩, fun _ => by simp only; omega, by unfold chk0; rw [hl]⟩ h) (fun x => CT.pu fun hx => ?_)
 obtain ⟨g, s⟩ := x
 obtain ⟨x1, x2, x3⟩ := hx
 dsimp only at x1 x2 x3 ⊢
 obtain ⟨o1, o2, o3⟩ := x1
 by_cases hgo : s.e = 0 ∧ s.at_ < s.en
 ·have x2 := x2 hgo.1
  obtain ⟨g, rfl⟩ : ∃ g', g = g' + 1 := ⟨g - 1, by omega⟩
  rw [chk_succ hgo] at x3
  have hx0 := hgo.1
  have hx1 := hgo.2
  try refine gL ?_
  (refine RT.call T rfl fR_ (left_fn (by omega) (by omega) (by omega)) rfl rfl rfl ?_; rintro _ _ ⟨rfl, rfl⟩; try simp only [List.cons_append, List.nil_append])
  rw [if_pos hgo.1]
  repeat' (first|refine gL ?_|(refine gv ?_;(refine⟨fun hc=>?_,fun hc=>?_⟩<;>first|(exfalso;omega)|skip))|fail)
  (refine RT.call T rfl fR_ (at_fn) rfl rfl rfl ?_; rintro _ _ ⟨rfl, rfl⟩; try simp only [List.cons_append, List.nil_append])
  try refine gL ?_
  (refine RT.call T rfl fR_ (rtag_fn (Own.rdI (l := l) sE_ hf.1 hf.2.1) hb ⟨o1, o2, o3⟩ hn) rfl rfl rfl ?_; rintro _ _ ⟨rfl, rfl⟩; try simp only [List.cons_append, List.nil_append])
  obtain ⟨ton, tat⟩ := RS.tag_on (s := s) ⟨o1, o2, o3⟩ hl hb
  obtain ⟨r1, r2, r3, r4⟩ := RS.tag_range (s := s) hb ⟨o1, o2, o3⟩ hl
  generalize s.tag l = tt at *
  obtain ⟨⟨tn, tk⟩, t⟩ := tt
  dsimp only at ton tat r1 r2 r3 r4 x3 ⊢
  try refine gL ?_
  (refine RT.call T rfl fR_ (err_fn) rfl rfl rfl ?_; rintro _ _ ⟨rfl, rfl⟩; try simp only [List.cons_append, List.nil_append])
  by_cases h4 : t.e = 0 ∧ tk = 4
  ·rw [if_pos h4] at x3
   have h40 := h4.1
   have h41 := h4.2
   repeat' (first|refine gL ?_|(refine gv ?_;(refine⟨fun hc=>?_,fun hc=>?_⟩<;>first|(exfalso;omega)|skip))|fail)
   exact AtQ.f2 (HH := []) Tryz.results27 rfl rfl (by rw [← x3]) (by rw [← x3]) (fun w h => h.tail.tail)
  ·rw [if_neg h4] at x3
   repeat' (first|refine gL ?_|(refine gv ?_;(refine⟨fun hc=>?_,fun hc=>?_⟩<;>first|(exfalso;omega)|skip))|fail)
   all_goals
    refine RT.call T rfl fR_ (skip_fn (d := d) (Own.rdI (l := l) sE_ hf.1 hf.2.1) hb ton.1 hn r3 (by omega) (by omega) (by omega) hd0 hd1) rfl rfl rfl ?_
    rintro _ _ ⟨a2, c2, rfl, rfl⟩
    obtain ⟨k1, k2, k3⟩ := RS.skip_ok (m := tn) (k := tk) (d := d) ton.1 hl hb
    have k4 : (t.skip l tn tk d).2.e = 0 → t.e = 0 := fun h => by
     by_cases h5 : t.e = 0
     ·exact h5
     ·rw [RS.skip_bad h5] at h; exact h
    generalize t.skip l tn tk d = q at *
    obtain ⟨ql, q⟩ := q
    dsimp only at k1 k2 k3 k4 x3 ⊢
    simp only [List.cons_append, List.nil_append]
    try refine gL ?_
    exact AtQ.loop (g, q) ⟨rfl, rfl, trivial⟩ (fun w h => Sat.pu_in ⟨k1, fun h5 => by have := tat (k4 h5); have := ton.2.1; simp only; omega, x3⟩ (Sat.sel (p := own8 a2 c2 ql ql.length) h sE_).tail) (by simp only; rw [if_pos hx0]; split <;> omega)
 ·rw [chk_end hgo] at x3
  try refine gL ?_
  (refine RT.call T rfl fR_ (left_fn (by omega) (by omega) (by omega)) rfl rfl rfl ?_; rintro _ _ ⟨rfl, rfl⟩; try simp only [List.cons_append, List.nil_append])
  rw [show (if s.e = 0 then (s.en : Int) - s.at_ else 0) = 0 by split <;> omega]
  repeat' (first|refine gL ?_|(refine gv ?_;(refine⟨fun hc=>?_,fun hc=>?_⟩<;>first|(exfalso;omega)|skip))|fail)
  (refine RT.call T rfl fR_ (err_fn) rfl rfl rfl ?_; rintro _ _ ⟨rfl, rfl⟩; try simp only [List.cons_append, List.nil_append])
  try refine gL ?_
  exact AtQ.f2 (HH := []) Tryz.results27 rfl rfl (by rw [← x3]) (by rw [← x3]) (fun w h => h.tail.tail)
end Go.Proofs.YtclcnhfponjdaaaGreatDoor
end
section
namespace Go.Proofs.YtclcnhfponjdaaaGreatDoor
open Go.Sk
/-! ### one field -/
theorem shortV_at {bs : Txt} {a to : Nat} {v : Int} (hv : V64 v) (h : sg bs a (a + (enc v).length) = enc v) (ht : a + (enc v).length ≤ to) (htb : to ≤ bs.length) : shortV bs a to = some (v, a + (enc v).length) := by
 have h1 : (bs.drop a).take (to - a) = enc v ++ sg bs (a + (enc v).length) to := by
  have := sg_app (bs := bs) (a := a) (b := a + (enc v).length) (c := to) (by omega) ht
  rw [h] at this
  rw [this]
  rfl
 unfold shortV
 rw [h1, vr_enc hv]
 simp
theorem contL_at {what : FK} {bs : Txt} {p to : Nat} {v : Int} {tx : Txt} (hv : Vld what v tx) (h1 : sg bs p (p + (enc v).length) = enc v) (h2 : sg bs (p + (enc v).length) (p + (enc v).length + tx.length) = tx) (ht : p + (enc v).length + tx.length ≤ to) (htb : to ≤ bs.length) :
  contL what bs p to = some (v, p + (enc v).length, p + (enc v).length + tx.length) := by
 obtain ⟨h64, hw⟩ := hv
 unfold contL
 rw [shortV_at h64 h1 (by omega) htb]
 have ht2 : (bs.drop (p + (enc v).length)).take tx.length = tx := by
  have := h2
  unfold sg at this
  rwa [Nat.add_sub_cancel_left] at this
 cases what <;> simp only at hw ⊢
 ·obtain ⟨e1, e2, e3⟩ := hw
  have hp : 0 < tx.length := List.length_pos_iff.2 e2
  subst e1
  rw [Int.toNat_natCast, ht2, if_pos ⟨by omega, by omega, e3⟩]
 ·obtain ⟨e1, e3⟩ := hw
  subst e1
  rw [Int.toNat_natCast, ht2, if_pos ⟨by omega, e3⟩]
 ·subst hw
  rw [Int.toNat_natCast, if_pos (by omega)]
 ·obtain ⟨e1, e2, e3, e4⟩ := hw
  rw [e1, if_pos ⟨e2, e3, e4⟩]; rfl
 ·obtain ⟨e1, e2⟩ := hw
  rw [e1, if_pos e2]; rfl
 ·obtain ⟨e1, e2⟩ := hw
  rw [e1, if_pos e2]; rfl
 ·obtain ⟨e1, e2⟩ := hw
  rw [e1, if_pos e2]; rfl
theorem sg_split {bs : Txt} {a : Nat} {x y : Txt} (h : sg bs a (a + (x ++ y).length) = x ++ y) : sg bs a (a + x.length) = x ∧ sg bs (a + x.length) (a + x.length + y.length) = y := by
 rw [List.length_append] at h
 rw [← sg_app (b := a + x.length) (by omega) (by omega)] at h
 have hl : (sg bs a (a + x.length)).length = x.length := by
  have h3 := congrArg List.length h
  rw [List.length_append, List.length_append] at h3
  have h4 : (sg bs a (a + x.length)).length ≤ x.length := by unfold sg; rw [List.length_take]; omega
  have h5 : (sg bs (a + x.length) (a + (x.length + y.length))).length ≤ y.length := by unfold sg; rw [List.length_take]; omega
  omega
 obtain ⟨e1, e2⟩ := List.append_inj h hl
 exact ⟨e1, by rw [Nat.add_assoc]; exact e2⟩
theorem FK.kind_or (k : FK) : k.kind = 0 ∨ k.kind = 2 := by cases k <;> simp [FK.kind]
theorem gotL_at {form : List FK} {what : FK} {bs : Txt} {a to last num : Nat} {v : Int} {tx : Txt} (hn1 : 1 ≤ num) (hn2 : num ≤ form.length) (hn3 : num ≤ 100) (hw : form.getD (num - 1) .t = what) (hl : last < num ∨ last = num ∧ what.list = true) (hv : Vld what v tx)
  (h : sg bs a (a + (enc ((num : Int) * 8 + what.kind) ++ (enc v ++ tx)).length) = enc ((num : Int) * 8 + what.kind) ++ (enc v ++ tx)) (ht : a + (enc ((num : Int) * 8 + what.kind) ++ (enc v ++ tx)).length ≤ to) (htb : to ≤ bs.length) :
  ∃ fr, gotL form bs a to last = some ⟨num, v, fr, a + (enc ((num : Int) * 8 + what.kind) ++ (enc v ++ tx)).length⟩ ∧ fr + tx.length = a + (enc ((num : Int) * 8 + what.kind) ++ (enc v ++ tx)).length ∧ sg bs fr (fr + tx.length) = tx := by
 obtain ⟨h1, h2⟩ := sg_split h
 obtain ⟨h3, h4⟩ := sg_split h2
 simp only [List.length_append] at ht ⊢
 have hk := what.kind_or
 have hV : V64 ((num : Int) * 8 + what.kind) := ⟨by omega, by omega⟩
 refine ⟨a + (enc ((num : Int) * 8 + what.kind)).length + (enc v).length, ?_, by omega, h4⟩
 have e8 : ((num : Int) * 8 + what.kind) / 8 = num := by omega
 have e9 : ((num : Int) * 8 + what.kind) % 8 = what.kind := by omega
 unfold gotL tagL
 rw [shortV_at hV h1 (by omega) htb]
 simp only [e8, e9, Int.toNat_natCast, hw]
 rw [if_pos ⟨by omega, by omega, by omega, hl, trivial⟩]
 simp only [hw]
 rw [contL_at hv h3 h4 (by omega) htb]
 simp only
 congr 2
 omega
/-! ### fields one behind the other -/
inductive Stp {α : Type} (form : List FK) (bs : Txt) (to : Nat) (f : α → Nat → Got → Except Nat α) : Nat → Nat → α → Nat → Nat → α → Prop
 | refl {a l : Nat} {x : α} : Stp form bs to f a l x a l x
 | step {a l a' l' : Nat} {x y z : α} {g : Got} : a < g.to → g.to ≤ to → gotL form bs a to l = some g → f x a g = .ok y → Stp form bs to f g.to g.num y a' l' z → Stp form bs to f a l x a' l' z
theorem Stp.trans {α : Type} {form : List FK} {bs : Txt} {to : Nat} {f : α → Nat → Got → Except Nat α} {a l b m c n : Nat} {x y z : α} (h : Stp form bs to f a l x b m y) (k : Stp form bs to f b m y c n z) : Stp form bs to f a l x c n z := by
 induction h with
 | refl => exact k
 | step h1 h2 h3 h4 _ ih => exact .step h1 h2 h3 h4 (ih k)
theorem Stp.recL {α : Type} {form : List FK} {bs : Txt} {to : Nat} {f : α → Nat → Got → Except Nat α} {a l b m : Nat} {x y : α} (h : Stp form bs to f a l x b m y) : b = to → ∀ k, to - a < k → recL form bs f k a to l x = .ok y := by
 induction h with
 | refl =>
  intro hb k hk
  match k, hk with
  | k + 1, _ => unfold Go.Proofs.YtclcnhfponjdaaaGreatDoor.recL; rw [if_neg (by omega)]
 | step h1 h2 h3 h4 _ ih =>
  intro hb k hk
  match k, hk with
  | k + 1, hk =>
   unfold Go.Proofs.YtclcnhfponjdaaaGreatDoor.recL
   rw [if_pos (by omega), h3]
   simp only [h4]
   exact ih hb k (by omega)
/-- Fields of the numbers lo to hi, written so, turn x into y. -/
def Grp {α : Type} (form : List FK) (bs : Txt) (to : Nat) (f : α → Nat → Got → Except Nat α) (lo hi : Nat) (p : Txt) (x y : α) : Prop := ∀ a l, l < lo → sg bs a (a + p.length) = p → a + p.length ≤ to → ∃ l', l' ≤ hi ∧ Stp form bs to f a l x (a + p.length) l' y
section
variable {α : Type} {form : List FK} {bs : Txt} {to : Nat} {f : α → Nat → Got → Except Nat α}
theorem Grp.seq {lo j hi : Nat} {p q : Txt} {x y z : α} (h : Grp form bs to f lo j p x y) (k : Grp form bs to f (j + 1) hi q y z) : Grp form bs to f lo hi (p ++ q) x z := fun a l hl hs ht => by
 obtain ⟨h1, h2⟩ := sg_split hs
 rw [List.length_append] at ht
 obtain ⟨l1, hl1, s1⟩ := h a l hl h1 (by omega)
 obtain ⟨l2, hl2, s2⟩ := k (a + p.length) l1 (by omega) h2 (by omega)
 exact ⟨l2, hl2, by rw [List.length_append, ← Nat.add_assoc]; exact s1.trans s2⟩
theorem Grp.no {lo hi : Nat} {x : α} (h : lo ≤ hi + 1) : Grp form bs to f lo hi [] x x := fun a l hl _ _ => ⟨l, by omega, .refl⟩
theorem enc_ne (v : Int) : 1 ≤ (enc v).length := by
 unfold enc encF
 split <;> simp
theorem Grp.one {num : Nat} {what : FK} {v : Int} {tx : Txt} {x y : α} (htb : to ≤ bs.length) (hn1 : 1 ≤ num) (hn2 : num ≤ form.length) (hn3 : num ≤ 100) (hw : form.getD (num - 1) .t = what) (hv : Vld what v tx)
  (hf : ∀ a fr, fr + tx.length ≤ to → sg bs fr (fr + tx.length) = tx → f x a ⟨num, v, fr, fr + tx.length⟩ = .ok y) : Grp form bs to f num num (enc ((num : Int) * 8 + what.kind) ++ (enc v ++ tx)) x y := fun a l hl hs ht => by
 obtain ⟨fr, h1, h2, h3⟩ := gotL_at hn1 hn2 hn3 hw (.inl hl) hv hs ht htb
 have hp := enc_ne ((num : Int) * 8 + what.kind)
 refine ⟨num, Nat.le_refl _, .step (by simp only [List.length_append]; omega) (by simpa using ht) h1 ?_ .refl⟩
 rw [← h2]
 exact hf a fr (by omega) h3
/-- A list's fields. -/
theorem Grp.list {num : Nat} {what : FK} (hw : form.getD (num - 1) .t = what) (hlist : what.list = true) (htb : to ≤ bs.length) (hn1 : 1 ≤ num) (hn2 : num ≤ form.length) (hn3 : num ≤ 100) {β : Type} (body : β → Txt) (vv : β → Int) (st : List β → α) :
  ∀ (l pre : List β), (∀ e ∈ l, Vld what (vv e) (body e)) → (∀ e ∈ l, ∀ pre a fr, fr + (body e).length ≤ to → sg bs fr (fr + (body e).length) = body e → f (st pre) a ⟨num, vv e, fr, fr + (body e).length⟩ = .ok (st (pre ++ [e]))) →
  ∀ a last, (last ≤ num) → sg bs a (a + (l.flatMap fun e => enc ((num : Int) * 8 + what.kind) ++ (enc (vv e) ++ body e)).length) = (l.flatMap fun e => enc ((num : Int) * 8 + what.kind) ++ (enc (vv e) ++ body e)) → a + (l.flatMap fun e => enc ((num : Int) * 8 + what.kind) ++ (enc (vv e) ++ body e)).length ≤ to →
  ∃ l', l' ≤ num ∧ Stp form bs to f a last (st pre) (a + (l.flatMap fun e => enc ((num : Int) * 8 + what.kind) ++ (enc (vv e) ++ body e)).length) l' (st (pre ++ l))
 | [], pre, _, _, a, last, hl, _, _ => ⟨last, hl, by simpa using Stp.refl⟩
 | e :: l, pre, hv, hf, a, last, hl, hs, ht => by
  rw [List.flatMap_cons] at hs ht ⊢
  obtain ⟨s1, s2⟩ := sg_split hs
  rw [List.length_append] at ht ⊢
  obtain ⟨fr, h1, h2, h3⟩ := gotL_at hn1 hn2 hn3 hw ((Nat.lt_or_eq_of_le hl).imp id (fun q => ⟨q, hlist⟩)) (hv e List.mem_cons_self) s1 (by omega) htb
  have hp := enc_ne ((num : Int) * 8 + what.kind)
  obtain ⟨l', k1, k2⟩ := Grp.list hw hlist htb hn1 hn2 hn3 body vv st l (pre ++ [e]) (fun x hx => hv x (List.mem_cons_of_mem _ hx)) (fun x hx => hf x (List.mem_cons_of_mem _ hx)) _ num (Nat.le_refl _) s2 (by omega)
  refine ⟨l', k1, .step (by simp only [List.length_append]; omega) (by simp only; omega) h1 (y := st (pre ++ [e])) ?_ ?_⟩
  ·rw [← h2]
   exact hf e List.mem_cons_self pre a fr (by omega) h3
  ·rw [← Nat.add_assoc]
   simpa using k2
theorem Grp.lst {num : Nat} {what : FK} (hw : form.getD (num - 1) .t = what) (hlist : what.list = true) (htb : to ≤ bs.length) (hn1 : 1 ≤ num) (hn2 : num ≤ form.length) (hn3 : num ≤ 100) {β : Type} (body : β → Txt) (st : List β → α) (l : List β)
  (hv : ∀ e ∈ l, Vld what (body e).length (body e)) (hf : ∀ e ∈ l, ∀ pre a fr, fr + (body e).length ≤ to → sg bs fr (fr + (body e).length) = body e → f (st pre) a ⟨num, (body e).length, fr, fr + (body e).length⟩ = .ok (st (pre ++ [e]))) :
  Grp form bs to f num num (l.flatMap fun e => enc ((num : Int) * 8 + what.kind) ++ (enc ((body e).length : Int) ++ body e)) (st []) (st l) := fun a last hl hs ht => by
 have := Grp.list hw hlist htb hn1 hn2 hn3 body (fun e => ((body e).length : Int)) st l [] hv hf a last (by omega) hs ht
 simpa using this
theorem readR_of {lo hi : Nat} (hlo : 1 ≤ lo) {p : Txt} {x y : α} {s : Nat} (h : Grp form bs to f lo hi p x y) (hs : sg bs s to = p) (hst : s ≤ to) (htb : to ≤ bs.length) : readR form bs f s to x = .ok y := by
 have hl : p.length = to - s := by rw [← hs, sg_len htb]
 obtain ⟨l', _, k⟩ := h s 0 (by omega) (by rw [hl, show s + (to - s) = to by omega]; exact hs) (by omega)
 rw [hl, show s + (to - s) = to by omega] at k
 exact k.recL rfl _ (by omega)
theorem txtG_at {g : Got} {tx : Txt} (h : sg bs g.fr g.to = tx) : txtG bs g = tx := h
end
section
variable {α : Type} {form : List FK} {bs : Txt} {to : Nat} {f : α → Nat → Got → Except Nat α} {num : Nat} {x y : α}
theorem len64 {tx : Txt} (h : tx.length ≤ 140737488355328) : V64 (tx.length : Int) := ⟨by omega, by omega⟩
theorem Grp.text (htb : to ≤ bs.length) (hn1 : 1 ≤ num) (hn2 : num ≤ form.length) (hn3 : num ≤ 100) (hw : form.getD (num - 1) .t = .t) {tx : Txt} (hg : goodT tx = true) (h16 : tx.length ≤ 140737488355328) (h0 : tx = [] → x = y)
  (hf : ∀ a v fr, sg bs fr (fr + tx.length) = tx → f x a ⟨num, v, fr, fr + tx.length⟩ = .ok y) : Grp form bs to f num num (fText num tx) x y := by
 unfold fText
 split
 ·rename_i h; rw [h0 h]; exact Grp.no (by omega)
 ·rename_i h
  exact Grp.one (what := .t) htb hn1 hn2 hn3 hw ⟨len64 h16, rfl, h, of_decide_eq_true hg⟩ fun a fr _ hs => hf a _ fr hs
theorem Grp.sign (htb : to ≤ bs.length) (hn1 : 1 ≤ num) (hn2 : num ≤ form.length) (hn3 : num ≤ 100) (hw : form.getD (num - 1) .t = .z) {v : Int} (hv : I32 v) (h0 : v = 0 → x = y)
  (hf : ∀ a fr, f x a ⟨num, zig v, fr, fr⟩ = .ok y) : Grp form bs to f num num (fSign num v) x y := by
 unfold fSign
 split
 ·rename_i h; rw [h0 h]; exact Grp.no (by omega)
 ·rename_i h
  have := Grp.one (what := .z) (v := zig v) (tx := []) htb hn1 hn2 hn3 hw ⟨zig_ok ⟨by have := hv.1; omega, by have := hv.2; omega⟩, rfl, by rw [unzig_zig]; exact h, by rw [unzig_zig]; exact hv⟩ (fun a fr _ _ => hf a fr)
  rwa [List.append_nil] at this
theorem Grp.signl (htb : to ≤ bs.length) (hn1 : 1 ≤ num) (hn2 : num ≤ form.length) (hn3 : num ≤ 100) (hw : form.getD (num - 1) .t = .zl) {v : Int} (hv : I64 v) (h0 : v = 0 → x = y)
  (hf : ∀ a fr, f x a ⟨num, zig v, fr, fr⟩ = .ok y) : Grp form bs to f num num (fSign num v) x y := by
 unfold fSign
 split
 ·rename_i h; rw [h0 h]; exact Grp.no (by omega)
 ·rename_i h
  have := Grp.one (what := .zl) (v := zig v) (tx := []) htb hn1 hn2 hn3 hw ⟨zig_ok hv, rfl, by unfold zig; split <;> omega⟩ (fun a fr _ _ => hf a fr)
  rwa [List.append_nil] at this
theorem Grp.small (htb : to ≤ bs.length) (hn1 : 1 ≤ num) (hn2 : num ≤ form.length) (hn3 : num ≤ 100) (hw : form.getD (num - 1) .t = .n) {v : Int} (hv : U8 v) (h0 : v = 0 → x = y)
  (hf : ∀ a fr, f x a ⟨num, v, fr, fr⟩ = .ok y) : Grp form bs to f num num (fSmall num v) x y := by
 unfold fSmall
 split
 ·rename_i h; rw [h0 h]; exact Grp.no (by omega)
 ·rename_i h
  have := Grp.one (what := .n) (v := v) (tx := []) htb hn1 hn2 hn3 hw ⟨⟨hv.1, by have := hv.2; omega⟩, rfl, h, hv.2⟩ (fun a fr _ _ => hf a fr)
  rwa [List.append_nil] at this
theorem Grp.truth (htb : to ≤ bs.length) (hn1 : 1 ≤ num) (hn2 : num ≤ form.length) (hn3 : num ≤ 100) (hw : form.getD (num - 1) .t = .b) {b : Bool} (h0 : b = false → x = y)
  (hf : b = true → ∀ a fr, f x a ⟨num, 1, fr, fr⟩ = .ok y) : Grp form bs to f num num (fTruth num b) x y := by
 unfold fTruth
 split
 ·rename_i h
  have := Grp.one (what := .b) (v := 1) (tx := []) htb hn1 hn2 hn3 hw ⟨⟨by decide, by decide⟩, rfl, rfl⟩ (fun a fr _ _ => hf h a fr)
  rwa [List.append_nil] at this
 ·rename_i h; rw [h0 (by simpa using h)]; exact Grp.no (by omega)
theorem Grp.texts (htb : to ≤ bs.length) (hn1 : 1 ≤ num) (hn2 : num ≤ form.length) (hn3 : num ≤ 100) (hw : form.getD (num - 1) .t = .ts) (st : List Txt → α) (l : List Txt) (hc : ∀ t ∈ l, goodT t = true ∧ t.length ≤ 140737488355328)
  (hf : ∀ pre e a v fr, sg bs fr (fr + e.length) = e → f (st pre) a ⟨num, v, fr, fr + e.length⟩ = .ok (st (pre ++ [e]))) : Grp form bs to f num num (fTexts num l) (st []) (st l) :=
 Grp.lst (what := .ts) hw rfl htb hn1 hn2 hn3 id st l (fun e he => ⟨len64 (hc e he).2, rfl, of_decide_eq_true (hc e he).1⟩) (fun e _ pre a fr _ hs => hf pre e a _ fr hs)
theorem Grp.recs (htb : to ≤ bs.length) (hn1 : 1 ≤ num) (hn2 : num ≤ form.length) (hn3 : num ≤ 100) (hw : form.getD (num - 1) .t = .rs) {β : Type} (body : β → Txt) (st : List β → α) (l : List β) (hc : ∀ t ∈ l, (body t).length ≤ 140737488355328)
  (hf : ∀ e ∈ l, ∀ pre a v fr, fr + (body e).length ≤ to → sg bs fr (fr + (body e).length) = body e → f (st pre) a ⟨num, v, fr, fr + (body e).length⟩ = .ok (st (pre ++ [e]))) : Grp form bs to f num num (fRecs num body l) (st []) (st l) :=
 Grp.lst (what := .rs) hw rfl htb hn1 hn2 hn3 body st l (fun e he => ⟨len64 (hc e he), rfl⟩) (fun e he pre a fr h1 hs => hf e he pre a _ fr h1 hs)
end
end Go.Proofs.YtclcnhfponjdaaaGreatDoor
end
