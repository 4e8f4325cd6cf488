/- Walk: the reader's Bytes. -/
import Derived.Test.YtldfbjcicbfidaaR10
import Derived.Test.YtldfbjcicbfidaaVC
set_option linter.unusedVariables false
set_option linter.unusedSimpArgs false
namespace Go.Proofs.Ytldfbjcicbfidaa
open Go.Sk
set_option maxRecDepth 100000
attribute [local irreducible] Cs Own Ex Pu Yld RT LJ QJ AtQ CT Rd QSp Sp FinQ Then LoopQ CutQ DT TakeQ EffQ
attribute [local irreducible] Wr
variable {B : World} {R : List HP}
set_option maxHeartbeats 1000000 in
theorem rbytes_fn {p n c : Nat} {a : Option Addr} {s : RS} {bs : List Int} (hR : Rd B R a n c 1 (ints .u8 bs)) (hb : Bytes bs) (hs : s.ok n) (h3 : n ≤ 140737488355328) :
    Sp B Try.prog 99 [ptr p] R [rds p a n c s] (fun u H' => ∃ a' c', u = sl8 a' (s.bytes bs).1.length c' ∧ H' = [own8 a' c' (s.bytes bs).1 (s.bytes bs).1.length, rds p a n c (s.bytes bs).2]) := by
  obtain ⟨o1, o2, o3⟩ := hs
  have hsp := RS.span_in (bs := bs) (n := n) (s := s) ⟨o1, o2, o3⟩ hR.lenI hb
  have hle := hR.le
  refine Sp.body Try.func99 rfl Try.ntmps99 (by simp) ?_
  simp only [argE, List.cons_append, List.nil_append, Nat.zero_add, Nat.reduceAdd]
  unfold RS.bytes
  repeat' (first|((first|refine vc_id ?_|(refine RT.id ?_;refine RT.c T ?_));(conv=>whnf);first|refine RT.id ?_|(refine⟨fun hc=>?_,fun hc=>?_⟩<;>first|(exfalso;omega)|skip)|(apply num_k;omega;omega)|(apply num_m;intro r hr)|(intro r hr))|(refine RT.id ?_;first|refine RT.nil ?_|(apply RT.ld T;exact rfl;(focus ((repeat constructor);done));iterate 4 exact rfl)|(apply RT.st T;(iterate 3 exact rfl);(focus ((repeat constructor);done));(focus repeat constructor);iterate 2 exact rfl)|((first|apply RT.box|apply RT.alloc T);(iterate 4 exact rfl);intro b)|((first|apply RT.pnil T|apply RT.pnnil T);iterate 6 exact rfl)|(refine RT.isPush ?_;refine RT.pushI T rfl rfl rfl (fun a' c'=>by ((repeat constructor);done)) (by omega) (by omega) rfl rfl rfl rfl (fun a' c' b' c1' hac=>?_))|refine RT.build T rfl rfl rfl rfl rfl ?_|(apply RT.lens T;iterate 4 exact rfl))|(refine AtQ.id_ ?_;first|refine nx ?_|refine A0 ?_|refine A9 ?_|refine AtQ.in_ne rfl ?_)|(refine CT.id_ ?_;first|refine nx ?_|refine CT.region ?_|refine CT.quiet mixed (by kernel_rfl) ?_|refine CT.cond_t rfl ?_|refine CT.cond_f rfl ?_))
  (refine RT.call T rfl (by (repeat (first|exact Fr.nil|(apply Fr.cons;focus ((repeat constructor);done))))) (span_fn hR hb ⟨o1, o2, o3⟩ h3) rfl rfl rfl ?_; rintro _ _ ⟨rfl, rfl⟩; try simp only [List.cons_append, List.nil_append])
  generalize s.span bs = sp at *
  obtain ⟨o, s1⟩ := sp
  cases o with
  | none =>
    simp only [spanV]
    repeat' (first|((first|refine vc_id ?_|(refine RT.id ?_;refine RT.c T ?_));(conv=>whnf);first|refine RT.id ?_|(refine⟨fun hc=>?_,fun hc=>?_⟩<;>first|(exfalso;omega)|skip)|(apply num_k;omega;omega)|(apply num_m;intro r hr)|(intro r hr))|(refine RT.id ?_;first|refine RT.nil ?_|(apply RT.ld T;exact rfl;(focus ((repeat constructor);done));iterate 4 exact rfl)|(apply RT.st T;(iterate 3 exact rfl);(focus ((repeat constructor);done));(focus repeat constructor);iterate 2 exact rfl)|((first|apply RT.box|apply RT.alloc T);(iterate 4 exact rfl);intro b)|((first|apply RT.pnil T|apply RT.pnnil T);iterate 6 exact rfl)|(refine RT.isPush ?_;refine RT.pushI T rfl rfl rfl (fun a' c'=>by ((repeat constructor);done)) (by omega) (by omega) rfl rfl rfl rfl (fun a' c' b' c1' hac=>?_))|refine RT.build T rfl rfl rfl rfl rfl ?_|(apply RT.lens T;iterate 4 exact rfl))|(refine AtQ.id_ ?_;first|refine nx ?_|refine A0 ?_|refine A9 ?_|refine AtQ.in_ne rfl ?_)|(refine CT.id_ ?_;first|refine nx ?_|refine CT.region ?_|refine CT.quiet mixed (by kernel_rfl) ?_|refine CT.cond_t rfl ?_|refine CT.cond_f rfl ?_))
    refine AtQ.fin1 (H' := [own8 none 0 [] 0, rds p a n c s1]) Try.results99 rfl ⟨none, 0, rfl, rfl⟩ (fun w h => Sat.nilOwn h)
  | some ij =>
    obtain ⟨i, j⟩ := ij
    obtain ⟨h1, h2⟩ := hsp i j rfl
    simp only [spanV]
    repeat' (first|((first|refine vc_id ?_|(refine RT.id ?_;refine RT.c T ?_));(conv=>whnf);first|refine RT.id ?_|(refine⟨fun hc=>?_,fun hc=>?_⟩<;>first|(exfalso;omega)|skip)|(apply num_k;omega;omega)|(apply num_m;intro r hr)|(intro r hr))|(refine RT.id ?_;first|refine RT.nil ?_|(apply RT.ld T;exact rfl;(focus ((repeat constructor);done));iterate 4 exact rfl)|(apply RT.st T;(iterate 3 exact rfl);(focus ((repeat constructor);done));(focus repeat constructor);iterate 2 exact rfl)|((first|apply RT.box|apply RT.alloc T);(iterate 4 exact rfl);intro b)|((first|apply RT.pnil T|apply RT.pnnil T);iterate 6 exact rfl)|(refine RT.isPush ?_;refine RT.pushI T rfl rfl rfl (fun a' c'=>by ((repeat constructor);done)) (by omega) (by omega) rfl rfl rfl rfl (fun a' c' b' c1' hac=>?_))|refine RT.build T rfl rfl rfl rfl rfl ?_|(apply RT.lens T;iterate 4 exact rfl))|(refine AtQ.id_ ?_;first|refine nx ?_|refine A0 ?_|refine A9 ?_|refine AtQ.in_ne rfl ?_)|(refine CT.id_ ?_;first|refine nx ?_|refine CT.region ?_|refine CT.quiet mixed (by kernel_rfl) ?_|refine CT.cond_t rfl ?_|refine CT.cond_f rfl ?_))
    refine RT.sllh T (j := i) (j' := j) rfl rfl rfl (by omega) (by omega) (by omega) (by omega) rfl rfl rfl ?_
    have hsub := hR.subI h1 h2
    refine RT.call T rfl (by (repeat (first|exact Fr.nil|(apply Fr.cons;focus ((repeat constructor);done))))) (clone_fn hsub.cons (by omega)) rfl rfl rfl ?_
    rintro _ _ ⟨a', c', rfl, rfl⟩
    simp only [List.cons_append, List.nil_append]
    have hl : ((bs.drop i).take (j - i)).length = j - i := hsub.lenI
    repeat' (first|((first|refine vc_id ?_|(refine RT.id ?_;refine RT.c T ?_));(conv=>whnf);first|refine RT.id ?_|(refine⟨fun hc=>?_,fun hc=>?_⟩<;>first|(exfalso;omega)|skip)|(apply num_k;omega;omega)|(apply num_m;intro r hr)|(intro r hr))|(refine RT.id ?_;first|refine RT.nil ?_|(apply RT.ld T;exact rfl;(focus ((repeat constructor);done));iterate 4 exact rfl)|(apply RT.st T;(iterate 3 exact rfl);(focus ((repeat constructor);done));(focus repeat constructor);iterate 2 exact rfl)|((first|apply RT.box|apply RT.alloc T);(iterate 4 exact rfl);intro b)|((first|apply RT.pnil T|apply RT.pnnil T);iterate 6 exact rfl)|(refine RT.isPush ?_;refine RT.pushI T rfl rfl rfl (fun a' c'=>by ((repeat constructor);done)) (by omega) (by omega) rfl rfl rfl rfl (fun a' c' b' c1' hac=>?_))|refine RT.build T rfl rfl rfl rfl rfl ?_|(apply RT.lens T;iterate 4 exact rfl))|(refine AtQ.id_ ?_;first|refine nx ?_|refine A0 ?_|refine A9 ?_|refine AtQ.in_ne rfl ?_)|(refine CT.id_ ?_;first|refine nx ?_|refine CT.region ?_|refine CT.quiet mixed (by kernel_rfl) ?_|refine CT.cond_t rfl ?_|refine CT.cond_f rfl ?_))
    refine AtQ.fin1 (H' := [own8 a' c' ((bs.drop i).take (j - i)) (j - i), rds p a n c s1]) Try.results99 rfl ⟨a', c', by rw [hl], by rw [hl]⟩ (fun w h => h)
end Go.Proofs.Ytldfbjcicbfidaa
