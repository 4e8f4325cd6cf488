/- Walks: the document's weights: they end; what is not too heavy has short rows. -/
import Derived.Test.YtdemnhdoadjhhaaGreatDoorTab
import Derived.Test.YtdemnhdoadjhhaaGreatDoorSkB
import Derived.Test.YtdemnhdoadjhhaaGreatDoorP1
set_option linter.unusedVariables false
set_option linter.unusedSimpArgs false
namespace Go.Proofs.YtdemnhdoadjhhaaGreatDoor
open Go.Sk
set_option maxRecDepth 100000
attribute [local irreducible] Cs Own Ex Pu Yld RT LJ QJ AtQ CT Rd QSp Sp FinQ Then LoopQ CutQ DT TakeQ EffQ
variable {B : World} {R : List HP}
theorem map_get {l : List Txt} {j : Nat} (h : j < l.length) : (l.map vS)[j]? = some (vS l[j]) := by rw [List.getElem?_map, List.getElem?_eq_getElem h]; rfl
/-- What a weight says of a row of k. -/
def Wt (k : Nat) (n w : Int) : Prop := n ≤ w ∧ w ≤ max n 4503599627370496 ∧ (w ≤ 16777216 → n + 8 * k ≤ w)
set_option maxHeartbeats 4000000 in
theorem tweight_fn {r : Rw Txt} {n : Int} (hR : Rd B R r.a r.l.length r.c 1 (r.l.map vS)) (hk : r.l.length ≤ 140737488355328) (hok : ∀ t ∈ r.l, OkT t) (h0 : 0 ≤ n) (h1 : n ≤ 4503599627370496) :
    Sp B Tryz.prog 87 [r.v, .int .i64 n] R [] (fun v H' => (∃ w, v = .int .i64 w ∧ Wt r.l.length n w) ∧ H' = []) := by
  obtain ⟨a, c, l⟩ := r
  simp only [Rw.v] at *
  refine Sp.body Tryz.func87 rfl Tryz.ntmps87 (by simp) ?_
  simp only [argE, List.cons_append, List.nil_append, Nat.zero_add, Nat.reduceAdd]
  repeat' (first|((first|refine vc_id ?_|(refine RT.id ?_;refine RT.c T ?_));(conv=>whnf);first|refine RT.id ?_|(refine⟨fun hc=>?_,fun hc=>?_⟩<;>first|(exfalso;omega)|skip)|(apply num_k;omega;omega)|(apply num_m;intro r hr)|(intro r hr))|(refine RT.id ?_;first|refine RT.nil ?_|(apply RT.ld T;exact rfl;(focus ((repeat constructor);done));iterate 4 exact rfl)|(apply RT.st T;(iterate 3 exact rfl);(focus ((repeat constructor);done));(focus repeat constructor);iterate 2 exact rfl)|((first|apply RT.box|apply RT.alloc T);(iterate 4 exact rfl);intro b)|((first|apply RT.pnil T|apply RT.pnnil T);iterate 6 exact rfl)|(refine RT.isPush ?_;refine RT.pushI T rfl rfl rfl (fun a' c'=>by ((repeat constructor);done)) (by omega) (by omega) rfl rfl rfl rfl (fun a' c' b' c1' hac=>?_))|refine RT.build T rfl rfl rfl rfl rfl ?_|(apply RT.lens T;iterate 4 exact rfl))|(refine AtQ.id_ ?_;first|refine nx ?_|refine A0 ?_|refine A9 ?_|refine AtQ.in_ne rfl ?_)|(refine CT.id_ ?_;first|refine nx ?_|refine CT.region ?_|refine CT.quiet mixed (by kernel_rfl) ?_|refine CT.cond_t rfl ?_|refine CT.cond_f rfl ?_))
  refine CT.loop (α := Nat × Int) (fun s => [(0, .slice a l.length c), (1, .int .i64 s.2), (5, .int .i64 s.1)]) (fun s => Pu (s.1 ≤ l.length ∧ n + 8 * s.1 ≤ s.2 ∧ s.2 ≤ max n 4503599627370496) :: R) (fun s => l.length - s.1) (0, n)
    ⟨rfl, rfl, rfl, trivial⟩ (fun w h => Sat.pu_in ⟨Nat.zero_le _, by dsimp only; omega, by dsimp only; omega⟩ h) (fun ⟨i, q⟩ => CT.pu fun ⟨hi, hq1, hq2⟩ => ?_)
  dsimp only at hi hq1 hq2 ⊢
  repeat' (first|((first|refine vc_id ?_|(refine RT.id ?_;refine RT.c T ?_));(conv=>whnf);first|refine RT.id ?_|(refine⟨fun hc=>?_,fun hc=>?_⟩<;>first|(exfalso;omega)|skip)|(apply num_k;omega;omega)|(apply num_m;intro r hr)|(intro r hr))|(refine RT.id ?_;first|refine RT.nil ?_|(apply RT.ld T;exact rfl;(focus ((repeat constructor);done));iterate 4 exact rfl)|(apply RT.st T;(iterate 3 exact rfl);(focus ((repeat constructor);done));(focus repeat constructor);iterate 2 exact rfl)|((first|apply RT.box|apply RT.alloc T);(iterate 4 exact rfl);intro b)|((first|apply RT.pnil T|apply RT.pnnil T);iterate 6 exact rfl)|(refine RT.isPush ?_;refine RT.pushI T rfl rfl rfl (fun a' c'=>by ((repeat constructor);done)) (by omega) (by omega) rfl rfl rfl rfl (fun a' c' b' c1' hac=>?_))|refine RT.build T rfl rfl rfl rfl rfl ?_|(apply RT.lens T;iterate 4 exact rfl))|(refine AtQ.id_ ?_;first|refine nx ?_|refine A0 ?_|refine A9 ?_|refine AtQ.in_ne rfl ?_)|(refine CT.id_ ?_;first|refine nx ?_|refine CT.region ?_|refine CT.quiet mixed (by kernel_rfl) ?_|refine CT.cond_t rfl ?_|refine CT.cond_f rfl ?_))
  · have hil : i < l.length := by omega
    have hto := (hok l[i] (List.getElem_mem hil)).2
    refine RT.ix T (j := i) rfl rfl rfl (by exact hR) (by omega) (by omega) (by omega) rfl rfl ?_
    refine RT.ldr T rfl (by exact hR) (map_get hil) rfl rfl rfl ?_
    repeat' (first|((first|refine vc_id ?_|(refine RT.id ?_;refine RT.c T ?_));(conv=>whnf);first|refine RT.id ?_|(refine⟨fun hc=>?_,fun hc=>?_⟩<;>first|(exfalso;omega)|skip)|(apply num_k;omega;omega)|(apply num_m;intro r hr)|(intro r hr))|(refine RT.id ?_;first|refine RT.nil ?_|(apply RT.ld T;exact rfl;(focus ((repeat constructor);done));iterate 4 exact rfl)|(apply RT.st T;(iterate 3 exact rfl);(focus ((repeat constructor);done));(focus repeat constructor);iterate 2 exact rfl)|((first|apply RT.box|apply RT.alloc T);(iterate 4 exact rfl);intro b)|((first|apply RT.pnil T|apply RT.pnnil T);iterate 6 exact rfl)|(refine RT.isPush ?_;refine RT.pushI T rfl rfl rfl (fun a' c'=>by ((repeat constructor);done)) (by omega) (by omega) rfl rfl rfl rfl (fun a' c' b' c1' hac=>?_))|refine RT.build T rfl rfl rfl rfl rfl ?_|(apply RT.lens T;iterate 4 exact rfl))|(refine AtQ.id_ ?_;first|refine nx ?_|refine A0 ?_|refine A9 ?_|refine AtQ.in_ne rfl ?_)|(refine CT.id_ ?_;first|refine nx ?_|refine CT.region ?_|refine CT.quiet mixed (by kernel_rfl) ?_|refine CT.cond_t rfl ?_|refine CT.cond_f rfl ?_))
    exact AtQ.loop (i + 1, q + 8 + (l[i].length : Int)) ⟨rfl, rfl, rfl, trivial⟩ (fun w h => Sat.pu_in ⟨by omega, by dsimp only; omega, by dsimp only; omega⟩ h) (by dsimp only; omega)
  · exact AtQ.fin1 Tryz.results87 rfl ⟨⟨q, rfl, by unfold Wt; omega⟩, rfl⟩ (fun w h => h)
  · exact AtQ.fin1 Tryz.results87 rfl ⟨⟨q, rfl, by unfold Wt; omega⟩, rfl⟩ (fun w h => h)
end Go.Proofs.YtdemnhdoadjhhaaGreatDoor
