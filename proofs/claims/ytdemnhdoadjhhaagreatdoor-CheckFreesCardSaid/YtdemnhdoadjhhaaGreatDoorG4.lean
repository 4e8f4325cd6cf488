/- Walk: the weight of a file. -/
import Derived.Test.YtdemnhdoadjhhaaGreatDoorG3
import Derived.Test.YtdemnhdoadjhhaaGreatDoorP3
set_option linter.unusedVariables false
set_option linter.unusedSimpArgs false
namespace Go.Proofs.YtdemnhdoadjhhaaGreatDoor
open Go.Sk
set_option maxRecDepth 100000
attribute [local irreducible] Cs Own Ex Pu Yld RT LJ QJ AtQ CT Rd QSp Sp FinQ Then LoopQ CutQ DT TakeQ EffQ
variable {B : World} {R : List HP}
structure FSm (f : FileT) : Prop where
  imps : f.imps.l.length ≤ 2097152
  msgs : f.msgs.length ≤ 2097152
  sub : MsgT.SmL f.msgs
  enums : f.enums.l.length ≤ 2097152
  esub : ∀ e ∈ f.enums.l, ESm e
theorem weight_fn {f : FileT} (hi : f.In (Rd B R)) (ho : f.Ok) :
    Sp B Tryz.prog 9 [.agg f.cells.toArray] R [] (fun v H' => (∃ w, v = .int .i64 w ∧ 0 ≤ w ∧ (w ≤ 16777216 → FSm f)) ∧ H' = []) := by
  obtain ⟨⟨_, hp1⟩, ⟨_, hp2⟩, ⟨⟨hi1, _⟩, hi2⟩, ⟨⟨hm1, _⟩, hm2⟩, ⟨⟨he1, _⟩, he2⟩⟩ := ho
  dsimp only at hm1
  refine Sp.body Tryz.func9 rfl Tryz.ntmps9 (by simp) ?_
  simp only [argE, List.cons_append, List.nil_append, Nat.zero_add, Nat.reduceAdd]
  repeat' (first|((first|refine vc_id ?_|(refine RT.id ?_;refine RT.c T ?_));(conv=>whnf);first|refine RT.id ?_|(refine⟨fun hc=>?_,fun hc=>?_⟩<;>first|(exfalso;omega)|skip)|(apply num_k;omega;omega)|(apply num_m;intro r hr)|(intro r hr))|(refine RT.id ?_;first|refine RT.nil ?_|(apply RT.ld T;exact rfl;(focus ((repeat constructor);done));iterate 4 exact rfl)|(apply RT.st T;(iterate 3 exact rfl);(focus ((repeat constructor);done));(focus repeat constructor);iterate 2 exact rfl)|((first|apply RT.box|apply RT.alloc T);(iterate 4 exact rfl);intro b)|((first|apply RT.pnil T|apply RT.pnnil T);iterate 6 exact rfl)|(refine RT.isPush ?_;refine RT.pushI T rfl rfl rfl (fun a' c'=>by ((repeat constructor);done)) (by omega) (by omega) rfl rfl rfl rfl (fun a' c' b' c1' hac=>?_))|refine RT.build T rfl rfl rfl rfl rfl ?_|(apply RT.lens T;iterate 4 exact rfl))|(refine AtQ.id_ ?_;first|refine nx ?_|refine A0 ?_|refine A9 ?_|refine AtQ.in_ne rfl ?_)|(refine CT.id_ ?_;first|refine nx ?_|refine CT.region ?_|refine CT.quiet mixed (by kernel_rfl) ?_|refine CT.cond_t rfl ?_|refine CT.cond_f rfl ?_))
  have him := FileT.In.mono (Y := Rd B (Cs b 26 f.cells :: R)) (fun a k c z xs h => Rd.cons h) hi
  obtain ⟨q0, hq0⟩ : ∃ q0, q0 = 100 + (f.path.length : Int) + (f.pack.length : Int) := ⟨_, rfl⟩
  rw [← hq0]
  refine CT.loop (α := Nat × Int) (fun s => [(1, .pointer (some ⟨b, 0, none⟩)), (3, .int .i64 s.2), (4, .int .i64 s.1)]) (fun s => Pu (s.1 ≤ f.imps.l.length ∧ q0 + 8 * s.1 ≤ s.2 ∧ s.2 ≤ 4503599627370496) :: Cs b 26 f.cells :: R) (fun s => f.imps.l.length - s.1) (0, q0)
    ⟨rfl, rfl, rfl, trivial⟩ (fun w h => Sat.pu_in ⟨Nat.zero_le _, by dsimp only; omega, by dsimp only; omega⟩ h) (fun ⟨i, q⟩ => CT.pu fun ⟨hi1, hq1, hq2⟩ => ?_)
  dsimp only at hi1 hq1 hq2 ⊢
  repeat' (first|((first|refine vc_id ?_|(refine RT.id ?_;refine RT.c T ?_));(conv=>whnf);first|refine RT.id ?_|(refine⟨fun hc=>?_,fun hc=>?_⟩<;>first|(exfalso;omega)|skip)|(apply num_k;omega;omega)|(apply num_m;intro r hr)|(intro r hr))|(refine RT.id ?_;first|refine RT.nil ?_|(apply RT.ld T;exact rfl;(focus ((repeat constructor);done));iterate 4 exact rfl)|(apply RT.st T;(iterate 3 exact rfl);(focus ((repeat constructor);done));(focus repeat constructor);iterate 2 exact rfl)|((first|apply RT.box|apply RT.alloc T);(iterate 4 exact rfl);intro b)|((first|apply RT.pnil T|apply RT.pnnil T);iterate 6 exact rfl)|(refine RT.isPush ?_;refine RT.pushI T rfl rfl rfl (fun a' c'=>by ((repeat constructor);done)) (by omega) (by omega) rfl rfl rfl rfl (fun a' c' b' c1' hac=>?_))|refine RT.build T rfl rfl rfl rfl rfl ?_|(apply RT.lens T;iterate 4 exact rfl))|(refine AtQ.id_ ?_;first|refine nx ?_|refine A0 ?_|refine A9 ?_|refine AtQ.in_ne rfl ?_)|(refine CT.id_ ?_;first|refine nx ?_|refine CT.region ?_|refine CT.quiet mixed (by kernel_rfl) ?_|refine CT.cond_t rfl ?_|refine CT.cond_f rfl ?_))
  · have hil : i < f.imps.l.length := by omega
    have hgi := List.getElem?_eq_getElem hil
    revert hgi
    generalize f.imps.l[i] = im
    intro hgi
    have hto := (hi2 im (List.mem_of_getElem? hgi)).2
    refine RT.ix T (j := i * 2) rfl rfl rfl (by exact him.imps) (by omega) (by omega) (by omega) rfl rfl ?_
    refine RT.faA T rfl rfl rfl rfl ?_
    refine RT.ldr (u := vS im.path) T rfl (by exact him.imps) (by rw [flat_get (f := ImpT.cells) (z := 2) (fun _ => rfl) hgi (by decide)]; rfl) rfl rfl rfl ?_
    repeat' (first|((first|refine vc_id ?_|(refine RT.id ?_;refine RT.c T ?_));(conv=>whnf);first|refine RT.id ?_|(refine⟨fun hc=>?_,fun hc=>?_⟩<;>first|(exfalso;omega)|skip)|(apply num_k;omega;omega)|(apply num_m;intro r hr)|(intro r hr))|(refine RT.id ?_;first|refine RT.nil ?_|(apply RT.ld T;exact rfl;(focus ((repeat constructor);done));iterate 4 exact rfl)|(apply RT.st T;(iterate 3 exact rfl);(focus ((repeat constructor);done));(focus repeat constructor);iterate 2 exact rfl)|((first|apply RT.box|apply RT.alloc T);(iterate 4 exact rfl);intro b)|((first|apply RT.pnil T|apply RT.pnnil T);iterate 6 exact rfl)|(refine RT.isPush ?_;refine RT.pushI T rfl rfl rfl (fun a' c'=>by ((repeat constructor);done)) (by omega) (by omega) rfl rfl rfl rfl (fun a' c' b' c1' hac=>?_))|refine RT.build T rfl rfl rfl rfl rfl ?_|(apply RT.lens T;iterate 4 exact rfl))|(refine AtQ.id_ ?_;first|refine nx ?_|refine A0 ?_|refine A9 ?_|refine AtQ.in_ne rfl ?_)|(refine CT.id_ ?_;first|refine nx ?_|refine CT.region ?_|refine CT.quiet mixed (by kernel_rfl) ?_|refine CT.cond_t rfl ?_|refine CT.cond_f rfl ?_))
    exact AtQ.loop (i + 1, q + 20 + (im.path.length : Int)) ⟨rfl, rfl, rfl, trivial⟩ (fun w h => Sat.pu_in ⟨by omega, by dsimp only; omega, by dsimp only; omega⟩ h) (by dsimp only; omega)
  all_goals
    have hend : q ≤ 16777216 → i = f.imps.l.length := fun h => by omega
    refine RT.call T rfl (by (repeat (first|exact Fr.nil|(apply Fr.cons;focus ((repeat constructor);done))))) (mweight_fn (R := Cs b 26 f.cells :: R) (ah := (f.pack.length : Int) + 1) (n := q) _ (Nat.le_refl _) him.msgs hm1 (MsgT.inL_of him.sub) (MsgT.okL_of hm2) (by omega) (by omega) (by omega) (fun h => by omega)) rfl rfl rfl ?_
    rintro _ _ ⟨⟨w2, rfl, ⟨hx1, hx2, hx3⟩, hx4⟩, rfl⟩
    try simp only [List.cons_append, List.nil_append]
    repeat' (first|((first|refine vc_id ?_|(refine RT.id ?_;refine RT.c T ?_));(conv=>whnf);first|refine RT.id ?_|(refine⟨fun hc=>?_,fun hc=>?_⟩<;>first|(exfalso;omega)|skip)|(apply num_k;omega;omega)|(apply num_m;intro r hr)|(intro r hr))|(refine RT.id ?_;first|refine RT.nil ?_|(apply RT.ld T;exact rfl;(focus ((repeat constructor);done));iterate 4 exact rfl)|(apply RT.st T;(iterate 3 exact rfl);(focus ((repeat constructor);done));(focus repeat constructor);iterate 2 exact rfl)|((first|apply RT.box|apply RT.alloc T);(iterate 4 exact rfl);intro b)|((first|apply RT.pnil T|apply RT.pnnil T);iterate 6 exact rfl)|(refine RT.isPush ?_;refine RT.pushI T rfl rfl rfl (fun a' c'=>by ((repeat constructor);done)) (by omega) (by omega) rfl rfl rfl rfl (fun a' c' b' c1' hac=>?_))|refine RT.build T rfl rfl rfl rfl rfl ?_|(apply RT.lens T;iterate 4 exact rfl))|(refine AtQ.id_ ?_;first|refine nx ?_|refine A0 ?_|refine A9 ?_|refine AtQ.in_ne rfl ?_)|(refine CT.id_ ?_;first|refine nx ?_|refine CT.region ?_|refine CT.quiet mixed (by kernel_rfl) ?_|refine CT.cond_t rfl ?_|refine CT.cond_f rfl ?_))
    refine RT.call T rfl (by (repeat (first|exact Fr.nil|(apply Fr.cons;focus ((repeat constructor);done))))) (eweight_fn (R := Cs b 26 f.cells :: R) (r := f.enums) (ah := (f.pack.length : Int) + 1) (n := w2) him.enums he1 him.esub he2 (by omega) (by omega) (by omega) (fun h => by omega)) rfl rfl rfl ?_
    rintro _ _ ⟨⟨w3, rfl, ⟨hy1, hy2, hy3⟩, hy4⟩, rfl⟩
    try simp only [List.cons_append, List.nil_append]
    repeat' (first|((first|refine vc_id ?_|(refine RT.id ?_;refine RT.c T ?_));(conv=>whnf);first|refine RT.id ?_|(refine⟨fun hc=>?_,fun hc=>?_⟩<;>first|(exfalso;omega)|skip)|(apply num_k;omega;omega)|(apply num_m;intro r hr)|(intro r hr))|(refine RT.id ?_;first|refine RT.nil ?_|(apply RT.ld T;exact rfl;(focus ((repeat constructor);done));iterate 4 exact rfl)|(apply RT.st T;(iterate 3 exact rfl);(focus ((repeat constructor);done));(focus repeat constructor);iterate 2 exact rfl)|((first|apply RT.box|apply RT.alloc T);(iterate 4 exact rfl);intro b)|((first|apply RT.pnil T|apply RT.pnnil T);iterate 6 exact rfl)|(refine RT.isPush ?_;refine RT.pushI T rfl rfl rfl (fun a' c'=>by ((repeat constructor);done)) (by omega) (by omega) rfl rfl rfl rfl (fun a' c' b' c1' hac=>?_))|refine RT.build T rfl rfl rfl rfl rfl ?_|(apply RT.lens T;iterate 4 exact rfl))|(refine AtQ.id_ ?_;first|refine nx ?_|refine A0 ?_|refine A9 ?_|refine AtQ.in_ne rfl ?_)|(refine CT.id_ ?_;first|refine nx ?_|refine CT.region ?_|refine CT.quiet mixed (by kernel_rfl) ?_|refine CT.cond_t rfl ?_|refine CT.cond_f rfl ?_))
    exact AtQ.fin1 Tryz.results9 rfl ⟨⟨w3, rfl, by omega, fun h => by
      have a1 := hend (by omega)
      have a3 := hx3 (by omega)
      have a4 := hy3 (by omega)
      exact ⟨by omega, by omega, hx4 (by omega), by omega, hy4 (by omega)⟩⟩, rfl⟩ (fun w h => h.tail)
end Go.Proofs.YtdemnhdoadjhhaaGreatDoor
