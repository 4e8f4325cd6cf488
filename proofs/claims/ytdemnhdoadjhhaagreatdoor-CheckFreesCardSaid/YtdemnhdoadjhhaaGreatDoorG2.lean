/- Walk: the weight of enums. -/
import Derived.Test.YtdemnhdoadjhhaaGreatDoorG1
set_option linter.unusedVariables false
set_option linter.unusedSimpArgs false
namespace Go.Proofs.YtdemnhdoadjhhaaGreatDoor
open Go.Sk
set_option maxRecDepth 100000
attribute [local irreducible] Cs Own Ex Pu Yld RT LJ QJ AtQ CT Rd QSp Sp FinQ Then LoopQ CutQ DT TakeQ EffQ
variable {B : World} {R : List HP}
def ESm (e : EnumT) : Prop := e.vals.l.length ≤ 2097152 ∧ e.res.l.length ≤ 2097152 ∧ e.names.l.length ≤ 2097152
theorem sm_take {α : Type} {P : α → Prop} {l : List α} {i : Nat} {x : α} (hx : l[i]? = some x) (h : ∀ y ∈ l.take i, P y) (h2 : P x) : ∀ y ∈ l.take (i + 1), P y := fun y hy => by
  rw [List.take_add_one, hx, List.mem_append] at hy
  rcases hy with hy | hy
  · exact h y hy
  · simp only [Option.toList_some, List.mem_singleton] at hy
    subst hy
    exact h2
set_option maxHeartbeats 8000000 in
theorem eweight_fn {r : Rw EnumT} {ah n : Int} (hR : Rd B R r.a r.l.length r.c 5 (r.l.flatMap EnumT.cells)) (hk : r.l.length ≤ 140737488355328) (hin : ∀ e ∈ r.l, e.In (Rd B R)) (hok : ∀ e ∈ r.l, e.Ok) (h0 : 0 ≤ n) (h1 : n ≤ 4503599627370496) (a0 : 0 ≤ ah) (a1 : n ≤ 16777216 → ah ≤ 281474976710656) :
    Sp B Tryz.prog 32 [r.v, .int .i64 ah, .int .i64 n] R [] (fun v H' => (∃ w, v = .int .i64 w ∧ Wt r.l.length n w ∧ (w ≤ 16777216 → ∀ e ∈ r.l, ESm e)) ∧ H' = []) := by
  obtain ⟨a, c, l⟩ := r
  simp only [Rw.v] at *
  refine Sp.body Tryz.func32 rfl Tryz.ntmps32 (by simp) ?_
  simp only [argE, List.cons_append, List.nil_append, Nat.zero_add, Nat.reduceAdd]
  repeat' (first|((first|refine vc_id ?_|(refine RT.id ?_;refine RT.c T ?_));(conv=>whnf);first|refine RT.id ?_|(refine⟨fun hc=>?_,fun hc=>?_⟩<;>first|(exfalso;omega)|skip)|(apply num_k;omega;omega)|(apply num_m;intro r hr)|(intro r hr))|(refine RT.id ?_;first|refine RT.nil ?_|(apply RT.ld T;exact rfl;(focus ((repeat constructor);done));iterate 4 exact rfl)|(apply RT.st T;(iterate 3 exact rfl);(focus ((repeat constructor);done));(focus repeat constructor);iterate 2 exact rfl)|((first|apply RT.box|apply RT.alloc T);(iterate 4 exact rfl);intro b)|((first|apply RT.pnil T|apply RT.pnnil T);iterate 6 exact rfl)|(refine RT.isPush ?_;refine RT.pushI T rfl rfl rfl (fun a' c'=>by ((repeat constructor);done)) (by omega) (by omega) rfl rfl rfl rfl (fun a' c' b' c1' hac=>?_))|refine RT.build T rfl rfl rfl rfl rfl ?_|(apply RT.lens T;iterate 4 exact rfl))|(refine AtQ.id_ ?_;first|refine nx ?_|refine A0 ?_|refine A9 ?_|refine AtQ.in_ne rfl ?_)|(refine CT.id_ ?_;first|refine nx ?_|refine CT.region ?_|refine CT.quiet mixed (by kernel_rfl) ?_|refine CT.cond_t rfl ?_|refine CT.cond_f rfl ?_))
  refine CT.loop (α := Nat × Int) (fun s => [(0, .slice a l.length c), (1, .int .i64 ah), (2, .int .i64 s.2), (7, .int .i64 s.1)]) (fun s => Pu (s.1 ≤ l.length ∧ n + 8 * s.1 ≤ s.2 ∧ s.2 ≤ max n 4503599627370496 ∧ (s.2 ≤ 16777216 → ∀ e ∈ l.take s.1, ESm e)) :: R) (fun s => l.length - s.1) (0, n)
    ⟨rfl, rfl, rfl, rfl, trivial⟩ (fun w h => Sat.pu_in ⟨Nat.zero_le _, by dsimp only; omega, by dsimp only; omega, fun _ e he => by simp at he⟩ h) (fun ⟨i, q⟩ => CT.pu fun ⟨hi, hq1, hq2, hq3⟩ => ?_)
  dsimp only at hi hq1 hq2 hq3 ⊢
  repeat' (first|((first|refine vc_id ?_|(refine RT.id ?_;refine RT.c T ?_));(conv=>whnf);first|refine RT.id ?_|(refine⟨fun hc=>?_,fun hc=>?_⟩<;>first|(exfalso;omega)|skip)|(apply num_k;omega;omega)|(apply num_m;intro r hr)|(intro r hr))|(refine RT.id ?_;first|refine RT.nil ?_|(apply RT.ld T;exact rfl;(focus ((repeat constructor);done));iterate 4 exact rfl)|(apply RT.st T;(iterate 3 exact rfl);(focus ((repeat constructor);done));(focus repeat constructor);iterate 2 exact rfl)|((first|apply RT.box|apply RT.alloc T);(iterate 4 exact rfl);intro b)|((first|apply RT.pnil T|apply RT.pnnil T);iterate 6 exact rfl)|(refine RT.isPush ?_;refine RT.pushI T rfl rfl rfl (fun a' c'=>by ((repeat constructor);done)) (by omega) (by omega) rfl rfl rfl rfl (fun a' c' b' c1' hac=>?_))|refine RT.build T rfl rfl rfl rfl rfl ?_|(apply RT.lens T;iterate 4 exact rfl))|(refine AtQ.id_ ?_;first|refine nx ?_|refine A0 ?_|refine A9 ?_|refine AtQ.in_ne rfl ?_)|(refine CT.id_ ?_;first|refine nx ?_|refine CT.region ?_|refine CT.quiet mixed (by kernel_rfl) ?_|refine CT.cond_t rfl ?_|refine CT.cond_f rfl ?_))
  · have hil : i < l.length := by omega
    have hgi := List.getElem?_eq_getElem hil
    revert hgi
    generalize l[i] = e
    intro hgi
    have hme := List.mem_of_getElem? hgi
    obtain ⟨en1, ⟨en2, _⟩, en3, ⟨en4, _⟩, en5, ⟨en6, _⟩, en7⟩ := hok e hme
    obtain ⟨ei1, ei2, ei3⟩ := hin e hme
    have ah1 := a1 (by omega)
    have en1 := en1.2
    have h5 := hq3 (by omega)
    refine RT.ix T (j := i * 5) rfl rfl rfl (by exact hR) (by omega) (by omega) (by omega) rfl rfl ?_
    refine RT.faA T rfl rfl rfl rfl ?_
    refine RT.ldr (u := vS e.nm) T rfl (by exact hR) (by rw [flat_get (f := EnumT.cells) (z := 5) (fun _ => rfl) hgi (by decide)]; rfl) rfl rfl rfl ?_
    repeat' (first|((first|refine vc_id ?_|(refine RT.id ?_;refine RT.c T ?_));(conv=>whnf);first|refine RT.id ?_|(refine⟨fun hc=>?_,fun hc=>?_⟩<;>first|(exfalso;omega)|skip)|(apply num_k;omega;omega)|(apply num_m;intro r hr)|(intro r hr))|(refine RT.id ?_;first|refine RT.nil ?_|(apply RT.ld T;exact rfl;(focus ((repeat constructor);done));iterate 4 exact rfl)|(apply RT.st T;(iterate 3 exact rfl);(focus ((repeat constructor);done));(focus repeat constructor);iterate 2 exact rfl)|((first|apply RT.box|apply RT.alloc T);(iterate 4 exact rfl);intro b)|((first|apply RT.pnil T|apply RT.pnnil T);iterate 6 exact rfl)|(refine RT.isPush ?_;refine RT.pushI T rfl rfl rfl (fun a' c'=>by ((repeat constructor);done)) (by omega) (by omega) rfl rfl rfl rfl (fun a' c' b' c1' hac=>?_))|refine RT.build T rfl rfl rfl rfl rfl ?_|(apply RT.lens T;iterate 4 exact rfl))|(refine AtQ.id_ ?_;first|refine nx ?_|refine A0 ?_|refine A9 ?_|refine AtQ.in_ne rfl ?_)|(refine CT.id_ ?_;first|refine nx ?_|refine CT.region ?_|refine CT.quiet mixed (by kernel_rfl) ?_|refine CT.cond_t rfl ?_|refine CT.cond_f rfl ?_))
    refine RT.ix T (j := i * 5) rfl rfl rfl (by exact hR) (by omega) (by omega) (by omega) rfl rfl ?_
    refine RT.faA T rfl rfl rfl rfl ?_
    refine RT.ldr (u := e.res.v) T rfl (by exact hR) (by rw [flat_get (f := EnumT.cells) (z := 5) (fun _ => rfl) hgi (by decide)]; rfl) rfl rfl rfl ?_
    repeat' (first|((first|refine vc_id ?_|(refine RT.id ?_;refine RT.c T ?_));(conv=>whnf);first|refine RT.id ?_|(refine⟨fun hc=>?_,fun hc=>?_⟩<;>first|(exfalso;omega)|skip)|(apply num_k;omega;omega)|(apply num_m;intro r hr)|(intro r hr))|(refine RT.id ?_;first|refine RT.nil ?_|(apply RT.ld T;exact rfl;(focus ((repeat constructor);done));iterate 4 exact rfl)|(apply RT.st T;(iterate 3 exact rfl);(focus ((repeat constructor);done));(focus repeat constructor);iterate 2 exact rfl)|((first|apply RT.box|apply RT.alloc T);(iterate 4 exact rfl);intro b)|((first|apply RT.pnil T|apply RT.pnnil T);iterate 6 exact rfl)|(refine RT.isPush ?_;refine RT.pushI T rfl rfl rfl (fun a' c'=>by ((repeat constructor);done)) (by omega) (by omega) rfl rfl rfl rfl (fun a' c' b' c1' hac=>?_))|refine RT.build T rfl rfl rfl rfl rfl ?_|(apply RT.lens T;iterate 4 exact rfl))|(refine AtQ.id_ ?_;first|refine nx ?_|refine A0 ?_|refine A9 ?_|refine AtQ.in_ne rfl ?_)|(refine CT.id_ ?_;first|refine nx ?_|refine CT.region ?_|refine CT.quiet mixed (by kernel_rfl) ?_|refine CT.cond_t rfl ?_|refine CT.cond_f rfl ?_))
    obtain ⟨q0, hq0⟩ : ∃ q0, q0 = q + 80 + ah + (e.nm.length : Int) + 8 * (e.res.l.length : Int) := ⟨_, rfl⟩
    rw [← hq0]
    refine CT.loop (α := Nat × Int) (fun s => [(0, .slice a l.length c), (1, .int .i64 ah), (2, .int .i64 s.2), (7, .int .i64 i), (8, .int .i64 s.1)]) (fun s => Pu (s.1 ≤ e.vals.l.length ∧ q0 + 8 * s.1 ≤ s.2 ∧ s.2 ≤ 4503599627370496) :: R) (fun s => e.vals.l.length - s.1) (0, q0)
      ⟨rfl, rfl, rfl, rfl, rfl, trivial⟩ (fun w h => Sat.pu_in ⟨Nat.zero_le _, by dsimp only; omega, by dsimp only; omega⟩ h) (fun ⟨k, p⟩ => CT.pu fun ⟨hk1, hp1, hp2⟩ => ?_)
    dsimp only at hk1 hp1 hp2 ⊢
    repeat' (first|((first|refine vc_id ?_|(refine RT.id ?_;refine RT.c T ?_));(conv=>whnf);first|refine RT.id ?_|(refine⟨fun hc=>?_,fun hc=>?_⟩<;>first|(exfalso;omega)|skip)|(apply num_k;omega;omega)|(apply num_m;intro r hr)|(intro r hr))|(refine RT.id ?_;first|refine RT.nil ?_|(apply RT.ld T;exact rfl;(focus ((repeat constructor);done));iterate 4 exact rfl)|(apply RT.st T;(iterate 3 exact rfl);(focus ((repeat constructor);done));(focus repeat constructor);iterate 2 exact rfl)|((first|apply RT.box|apply RT.alloc T);(iterate 4 exact rfl);intro b)|((first|apply RT.pnil T|apply RT.pnnil T);iterate 6 exact rfl)|(refine RT.isPush ?_;refine RT.pushI T rfl rfl rfl (fun a' c'=>by ((repeat constructor);done)) (by omega) (by omega) rfl rfl rfl rfl (fun a' c' b' c1' hac=>?_))|refine RT.build T rfl rfl rfl rfl rfl ?_|(apply RT.lens T;iterate 4 exact rfl))|(refine AtQ.id_ ?_;first|refine nx ?_|refine A0 ?_|refine A9 ?_|refine AtQ.in_ne rfl ?_)|(refine CT.id_ ?_;first|refine nx ?_|refine CT.region ?_|refine CT.quiet mixed (by kernel_rfl) ?_|refine CT.cond_t rfl ?_|refine CT.cond_f rfl ?_))
    refine RT.ix T (j := i * 5) rfl rfl rfl (by exact hR) (by omega) (by omega) (by omega) rfl rfl ?_
    refine RT.faA T rfl rfl rfl rfl ?_
    refine RT.ldr (u := e.vals.v) T rfl (by exact hR) (by rw [flat_get (f := EnumT.cells) (z := 5) (fun _ => rfl) hgi (by decide)]; rfl) rfl rfl rfl ?_
    repeat' (first|((first|refine vc_id ?_|(refine RT.id ?_;refine RT.c T ?_));(conv=>whnf);first|refine RT.id ?_|(refine⟨fun hc=>?_,fun hc=>?_⟩<;>first|(exfalso;omega)|skip)|(apply num_k;omega;omega)|(apply num_m;intro r hr)|(intro r hr))|(refine RT.id ?_;first|refine RT.nil ?_|(apply RT.ld T;exact rfl;(focus ((repeat constructor);done));iterate 4 exact rfl)|(apply RT.st T;(iterate 3 exact rfl);(focus ((repeat constructor);done));(focus repeat constructor);iterate 2 exact rfl)|((first|apply RT.box|apply RT.alloc T);(iterate 4 exact rfl);intro b)|((first|apply RT.pnil T|apply RT.pnnil T);iterate 6 exact rfl)|(refine RT.isPush ?_;refine RT.pushI T rfl rfl rfl (fun a' c'=>by ((repeat constructor);done)) (by omega) (by omega) rfl rfl rfl rfl (fun a' c' b' c1' hac=>?_))|refine RT.build T rfl rfl rfl rfl rfl ?_|(apply RT.lens T;iterate 4 exact rfl))|(refine AtQ.id_ ?_;first|refine nx ?_|refine A0 ?_|refine A9 ?_|refine AtQ.in_ne rfl ?_)|(refine CT.id_ ?_;first|refine nx ?_|refine CT.region ?_|refine CT.quiet mixed (by kernel_rfl) ?_|refine CT.cond_t rfl ?_|refine CT.cond_f rfl ?_))
    · have hkl : k < e.vals.l.length := by omega
      have hgk := List.getElem?_eq_getElem hkl
      revert hgk
      generalize e.vals.l[k] = ev
      intro hgk
      have hv := (en3 ev (List.mem_of_getElem? hgk)).1.2
      refine RT.ix T (j := i * 5) rfl rfl rfl (by exact hR) (by omega) (by omega) (by omega) rfl rfl ?_
      refine RT.faA T rfl rfl rfl rfl ?_
      refine RT.ldr (u := e.vals.v) T rfl (by exact hR) (by rw [flat_get (f := EnumT.cells) (z := 5) (fun _ => rfl) hgi (by decide)]; rfl) rfl rfl rfl ?_
      repeat' (first|((first|refine vc_id ?_|(refine RT.id ?_;refine RT.c T ?_));(conv=>whnf);first|refine RT.id ?_|(refine⟨fun hc=>?_,fun hc=>?_⟩<;>first|(exfalso;omega)|skip)|(apply num_k;omega;omega)|(apply num_m;intro r hr)|(intro r hr))|(refine RT.id ?_;first|refine RT.nil ?_|(apply RT.ld T;exact rfl;(focus ((repeat constructor);done));iterate 4 exact rfl)|(apply RT.st T;(iterate 3 exact rfl);(focus ((repeat constructor);done));(focus repeat constructor);iterate 2 exact rfl)|((first|apply RT.box|apply RT.alloc T);(iterate 4 exact rfl);intro b)|((first|apply RT.pnil T|apply RT.pnnil T);iterate 6 exact rfl)|(refine RT.isPush ?_;refine RT.pushI T rfl rfl rfl (fun a' c'=>by ((repeat constructor);done)) (by omega) (by omega) rfl rfl rfl rfl (fun a' c' b' c1' hac=>?_))|refine RT.build T rfl rfl rfl rfl rfl ?_|(apply RT.lens T;iterate 4 exact rfl))|(refine AtQ.id_ ?_;first|refine nx ?_|refine A0 ?_|refine A9 ?_|refine AtQ.in_ne rfl ?_)|(refine CT.id_ ?_;first|refine nx ?_|refine CT.region ?_|refine CT.quiet mixed (by kernel_rfl) ?_|refine CT.cond_t rfl ?_|refine CT.cond_f rfl ?_))
      refine RT.ix T (j := k * 2) rfl rfl rfl (by exact ei1) (by omega) (by omega) (by omega) rfl rfl ?_
      refine RT.faA T rfl rfl rfl rfl ?_
      refine RT.ldr (u := vS ev.nm) T rfl (by exact ei1) (by rw [flat_get (f := EValT.cells) (z := 2) (fun _ => rfl) hgk (by decide)]; rfl) rfl rfl rfl ?_
      repeat' (first|((first|refine vc_id ?_|(refine RT.id ?_;refine RT.c T ?_));(conv=>whnf);first|refine RT.id ?_|(refine⟨fun hc=>?_,fun hc=>?_⟩<;>first|(exfalso;omega)|skip)|(apply num_k;omega;omega)|(apply num_m;intro r hr)|(intro r hr))|(refine RT.id ?_;first|refine RT.nil ?_|(apply RT.ld T;exact rfl;(focus ((repeat constructor);done));iterate 4 exact rfl)|(apply RT.st T;(iterate 3 exact rfl);(focus ((repeat constructor);done));(focus repeat constructor);iterate 2 exact rfl)|((first|apply RT.box|apply RT.alloc T);(iterate 4 exact rfl);intro b)|((first|apply RT.pnil T|apply RT.pnnil T);iterate 6 exact rfl)|(refine RT.isPush ?_;refine RT.pushI T rfl rfl rfl (fun a' c'=>by ((repeat constructor);done)) (by omega) (by omega) rfl rfl rfl rfl (fun a' c' b' c1' hac=>?_))|refine RT.build T rfl rfl rfl rfl rfl ?_|(apply RT.lens T;iterate 4 exact rfl))|(refine AtQ.id_ ?_;first|refine nx ?_|refine A0 ?_|refine A9 ?_|refine AtQ.in_ne rfl ?_)|(refine CT.id_ ?_;first|refine nx ?_|refine CT.region ?_|refine CT.quiet mixed (by kernel_rfl) ?_|refine CT.cond_t rfl ?_|refine CT.cond_f rfl ?_))
      exact AtQ.loop (k + 1, p + 80 + ah + (ev.nm.length : Int)) ⟨rfl, rfl, rfl, rfl, rfl, trivial⟩ (fun w h => Sat.pu_in ⟨by omega, by dsimp only; omega, by dsimp only; omega⟩ h) (by dsimp only; omega)
    all_goals
      have hend : p ≤ 16777216 → k = e.vals.l.length := fun h => by omega
      refine RT.ix T (j := i * 5) rfl rfl rfl (by exact hR) (by omega) (by omega) (by omega) rfl rfl ?_
      refine RT.faA T rfl rfl rfl rfl ?_
      refine RT.ldr (u := e.names.v) T rfl (by exact hR) (by rw [flat_get (f := EnumT.cells) (z := 5) (fun _ => rfl) hgi (by decide)]; rfl) rfl rfl rfl ?_
      repeat' (first|((first|refine vc_id ?_|(refine RT.id ?_;refine RT.c T ?_));(conv=>whnf);first|refine RT.id ?_|(refine⟨fun hc=>?_,fun hc=>?_⟩<;>first|(exfalso;omega)|skip)|(apply num_k;omega;omega)|(apply num_m;intro r hr)|(intro r hr))|(refine RT.id ?_;first|refine RT.nil ?_|(apply RT.ld T;exact rfl;(focus ((repeat constructor);done));iterate 4 exact rfl)|(apply RT.st T;(iterate 3 exact rfl);(focus ((repeat constructor);done));(focus repeat constructor);iterate 2 exact rfl)|((first|apply RT.box|apply RT.alloc T);(iterate 4 exact rfl);intro b)|((first|apply RT.pnil T|apply RT.pnnil T);iterate 6 exact rfl)|(refine RT.isPush ?_;refine RT.pushI T rfl rfl rfl (fun a' c'=>by ((repeat constructor);done)) (by omega) (by omega) rfl rfl rfl rfl (fun a' c' b' c1' hac=>?_))|refine RT.build T rfl rfl rfl rfl rfl ?_|(apply RT.lens T;iterate 4 exact rfl))|(refine AtQ.id_ ?_;first|refine nx ?_|refine A0 ?_|refine A9 ?_|refine AtQ.in_ne rfl ?_)|(refine CT.id_ ?_;first|refine nx ?_|refine CT.region ?_|refine CT.quiet mixed (by kernel_rfl) ?_|refine CT.cond_t rfl ?_|refine CT.cond_f rfl ?_))
      refine RT.call T rfl (by (repeat (first|exact Fr.nil|(apply Fr.cons;focus ((repeat constructor);done))))) (tweight_fn (r := e.names) (n := p) ei3 en6 en7 (by omega) (by omega)) rfl rfl rfl ?_
      rintro _ _ ⟨⟨w, rfl, hw1, hw2, hw3⟩, rfl⟩
      try simp only [List.cons_append, List.nil_append]
      repeat' (first|((first|refine vc_id ?_|(refine RT.id ?_;refine RT.c T ?_));(conv=>whnf);first|refine RT.id ?_|(refine⟨fun hc=>?_,fun hc=>?_⟩<;>first|(exfalso;omega)|skip)|(apply num_k;omega;omega)|(apply num_m;intro r hr)|(intro r hr))|(refine RT.id ?_;first|refine RT.nil ?_|(apply RT.ld T;exact rfl;(focus ((repeat constructor);done));iterate 4 exact rfl)|(apply RT.st T;(iterate 3 exact rfl);(focus ((repeat constructor);done));(focus repeat constructor);iterate 2 exact rfl)|((first|apply RT.box|apply RT.alloc T);(iterate 4 exact rfl);intro b)|((first|apply RT.pnil T|apply RT.pnnil T);iterate 6 exact rfl)|(refine RT.isPush ?_;refine RT.pushI T rfl rfl rfl (fun a' c'=>by ((repeat constructor);done)) (by omega) (by omega) rfl rfl rfl rfl (fun a' c' b' c1' hac=>?_))|refine RT.build T rfl rfl rfl rfl rfl ?_|(apply RT.lens T;iterate 4 exact rfl))|(refine AtQ.id_ ?_;first|refine nx ?_|refine A0 ?_|refine A9 ?_|refine AtQ.in_ne rfl ?_)|(refine CT.id_ ?_;first|refine nx ?_|refine CT.region ?_|refine CT.quiet mixed (by kernel_rfl) ?_|refine CT.cond_t rfl ?_|refine CT.cond_f rfl ?_))
      exact AtQ.loop (i + 1, w) ⟨rfl, rfl, rfl, rfl, trivial⟩ (fun _ h => Sat.pu_in ⟨by omega, by dsimp only; omega, by dsimp only; omega, fun hw => sm_take hgi h5 (by have hw := hw; dsimp only at hw; have := hend (by omega); have := hw3 hw; unfold ESm; omega)⟩ h) (by dsimp only; omega)
  · exact AtQ.fin1 Tryz.results32 rfl ⟨⟨q, rfl, by unfold Wt; omega, fun h => by omega⟩, rfl⟩ (fun w h => h)
  · exact AtQ.fin1 Tryz.results32 rfl ⟨⟨q, rfl, by unfold Wt; omega, fun h e he => hq3 h e (by rw [List.take_of_length_le (by omega)]; exact he)⟩, rfl⟩ (fun w h => h)
end Go.Proofs.YtdemnhdoadjhhaaGreatDoor
