/- Walks: the document's reader: what is left, parts, bytes. -/
import Derived.Test.YtldfbjcicbfidaaR25
set_option linter.unusedVariables false
set_option linter.unusedSimpArgs false
namespace Go.Proofs.Ytldfbjcicbfidaa
open Go.Sk
set_option maxRecDepth 100000
attribute [local irreducible] Cs Own Ex Pu Yld RT LJ QJ AtQ CT Rd QSp Sp FinQ Then LoopQ CutQ DT TakeQ EffQ
attribute [local irreducible] Wr Lo Df Lft
variable {B : World} {R : List HP}
set_option maxHeartbeats 1000000 in
theorem drest_fn {p n c : Nat} {a : Option Addr} {s : RS} {bs : List Int} (hR : s.e = 0 → Rd B R a n c 1 (ints .u8 bs)) (hs : s.e = 0 → s.ok n) (h3 : s.e = 0 → n ≤ 140737488355328) :
    Sp B Try.prog 118 [ptr p] R [rdd p a n c s] (fun v H' => ∃ a2 c2, v = sl8 a2 (s.rest bs).length c2 ∧ H' = [own8 a2 c2 (s.rest bs) (s.rest bs).length, rdd p a n c s]) := by
  refine Sp.body Try.func118 rfl Try.ntmps118 (by simp) ?_
  simp only [argE, List.cons_append, List.nil_append, Nat.zero_add, Nat.reduceAdd]
  unfold RS.rest
  by_cases he : s.e = 0
  · rw [if_pos he]
    obtain ⟨o1, o2, o3⟩ := hs he
    have h3 := h3 he
    have hR := hR he
    have hle := hR.le
    have hsub := hR.subI (i := s.at_) (j := s.en) o1 o2
    have hl : (s.seg bs).length = s.en - s.at_ := hsub.lenI
    repeat' (first|((first|refine vc_id ?_|(refine RT.id ?_;refine RT.c T ?_));(conv=>whnf);first|refine RT.id ?_|(refine⟨fun hc=>?_,fun hc=>?_⟩<;>first|(exfalso;omega)|skip)|(apply num_k;omega;omega)|(apply num_m;intro r hr)|(intro r hr))|(refine RT.id ?_;first|refine RT.nil ?_|(apply RT.ld T;exact rfl;(focus ((repeat constructor);done));iterate 4 exact rfl)|(apply RT.st T;(iterate 3 exact rfl);(focus ((repeat constructor);done));(focus repeat constructor);iterate 2 exact rfl)|((first|apply RT.box|apply RT.alloc T);(iterate 4 exact rfl);intro b)|((first|apply RT.pnil T|apply RT.pnnil T);iterate 6 exact rfl)|(refine RT.isPush ?_;refine RT.pushI T rfl rfl rfl (fun a' c'=>by ((repeat constructor);done)) (by omega) (by omega) rfl rfl rfl rfl (fun a' c' b' c1' hac=>?_))|refine RT.build T rfl rfl rfl rfl rfl ?_|(apply RT.lens T;iterate 4 exact rfl))|(refine AtQ.id_ ?_;first|refine nx ?_|refine A0 ?_|refine A9 ?_|refine AtQ.in_ne rfl ?_)|(refine CT.id_ ?_;first|refine nx ?_|refine CT.region ?_|refine CT.cond_t rfl ?_|refine CT.cond_f rfl ?_))
    refine CT.weak (H' := own8 none 0 [] 0 :: rdd p a n c s :: R) (fun w h => Sat.nilOwn h) ?_
    refine CT.drawn [rdd p a n c s] 14 mixed ?_
    (refine DT.takes (k := 2) [0, 1, 2, 3, 4, 5, 6, 7, 8, 9, 10, 11, 12, 13] [14] (fun w h => Sat.ones (by (repeat (first|exact Fr.nil|(apply Fr.cons;focus ((repeat constructor);done))))) h) (by kernel_rfl) (by kernel_rfl) (by kernel_rfl) rfl (Clos.ofB (by kernel_rfl)) ?_)
    repeat' (first|((first|refine vc_id ?_|(refine RT.id ?_;refine RT.c T ?_));(conv=>whnf);first|refine RT.id ?_|(refine⟨fun hc=>?_,fun hc=>?_⟩<;>first|(exfalso;omega)|skip)|(apply num_k;omega;omega)|(apply num_m;intro r hr)|(intro r hr))|(refine RT.id ?_;first|refine RT.nil ?_|(apply RT.ld T;exact rfl;(focus ((repeat constructor);done));iterate 4 exact rfl)|(apply RT.st T;(iterate 3 exact rfl);(focus ((repeat constructor);done));(focus repeat constructor);iterate 2 exact rfl)|((first|apply RT.box|apply RT.alloc T);(iterate 4 exact rfl);intro b)|((first|apply RT.pnil T|apply RT.pnnil T);iterate 6 exact rfl)|(refine RT.isPush ?_;refine RT.pushI T rfl rfl rfl (fun a' c'=>by ((repeat constructor);done)) (by omega) (by omega) rfl rfl rfl rfl (fun a' c' b' c1' hac=>?_))|refine RT.build T rfl rfl rfl rfl rfl ?_|(apply RT.lens T;iterate 4 exact rfl))|(refine AtQ.id_ ?_;first|refine nx ?_|refine A0 ?_|refine A9 ?_|refine AtQ.in_ne rfl ?_)|(refine CT.id_ ?_;first|refine nx ?_|refine CT.region ?_|refine CT.quiet mixed (by kernel_rfl) ?_|refine CT.cond_t rfl ?_|refine CT.cond_f rfl ?_))
    refine RT.sllh T (j := s.at_) (j' := s.en) rfl rfl rfl rfl rfl (by omega) (by omega) rfl rfl rfl ?_
    repeat' (first|((first|refine vc_id ?_|(refine RT.id ?_;refine RT.c T ?_));(conv=>whnf);first|refine RT.id ?_|(refine⟨fun hc=>?_,fun hc=>?_⟩<;>first|(exfalso;omega)|skip)|(apply num_k;omega;omega)|(apply num_m;intro r hr)|(intro r hr))|(refine RT.id ?_;first|refine RT.nil ?_|(apply RT.ld T;exact rfl;(focus ((repeat constructor);done));iterate 4 exact rfl)|(apply RT.st T;(iterate 3 exact rfl);(focus ((repeat constructor);done));(focus repeat constructor);iterate 2 exact rfl)|((first|apply RT.box|apply RT.alloc T);(iterate 4 exact rfl);intro b)|((first|apply RT.pnil T|apply RT.pnnil T);iterate 6 exact rfl)|(refine RT.isPush ?_;refine RT.pushI T rfl rfl rfl (fun a' c'=>by ((repeat constructor);done)) (by omega) (by omega) rfl rfl rfl rfl (fun a' c' b' c1' hac=>?_))|refine RT.build T rfl rfl rfl rfl rfl ?_|(apply RT.lens T;iterate 4 exact rfl))|(refine AtQ.id_ ?_;first|refine nx ?_|refine A0 ?_|refine A9 ?_|refine AtQ.in_ne rfl ?_)|(refine CT.id_ ?_;first|refine nx ?_|refine CT.region ?_|refine CT.quiet mixed (by kernel_rfl) ?_|refine CT.cond_t rfl ?_|refine CT.cond_f rfl ?_))
    refine AtQ.take ?_
    (refine DT.eff 14 rfl (by kernel_rfl) ?_)
    refine RT.appI T (l := []) rfl rfl rfl (by repeat (first | exact (hsub) | apply Rd.cons)) (fun a' c' => by ((repeat constructor);done)) (by omega) (by omega) rfl rfl rfl rfl (fun a3 c3 hac => ?_)
    rw [List.nil_append, Nat.zero_add]
    refine RT.nil ?_
    refine AtQ.eff' (by kernel_rfl) ?_
    (refine DT.eff 15 rfl (by kernel_rfl) ?_)
    repeat' (first|((first|refine vc_id ?_|(refine RT.id ?_;refine RT.c T ?_));(conv=>whnf);first|refine RT.id ?_|(refine⟨fun hc=>?_,fun hc=>?_⟩<;>first|(exfalso;omega)|skip)|(apply num_k;omega;omega)|(apply num_m;intro r hr)|(intro r hr))|(refine RT.id ?_;first|refine RT.nil ?_|(apply RT.ld T;exact rfl;(focus ((repeat constructor);done));iterate 4 exact rfl)|(apply RT.st T;(iterate 3 exact rfl);(focus ((repeat constructor);done));(focus repeat constructor);iterate 2 exact rfl)|((first|apply RT.box|apply RT.alloc T);(iterate 4 exact rfl);intro b)|((first|apply RT.pnil T|apply RT.pnnil T);iterate 6 exact rfl)|(refine RT.isPush ?_;refine RT.pushI T rfl rfl rfl (fun a' c'=>by ((repeat constructor);done)) (by omega) (by omega) rfl rfl rfl rfl (fun a' c' b' c1' hac=>?_))|refine RT.build T rfl rfl rfl rfl rfl ?_|(apply RT.lens T;iterate 4 exact rfl))|(refine AtQ.id_ ?_;first|refine nx ?_|refine A0 ?_|refine A9 ?_|refine AtQ.in_ne rfl ?_)|(refine CT.id_ ?_;first|refine nx ?_|refine CT.region ?_|refine CT.quiet mixed (by kernel_rfl) ?_|refine CT.cond_t rfl ?_|refine CT.cond_f rfl ?_))
    refine AtQ.eff' (by kernel_rfl) ?_
    (refine DT.done (by kernel_rfl) ?_)
    repeat' (first|((first|refine vc_id ?_|(refine RT.id ?_;refine RT.c T ?_));(conv=>whnf);first|refine RT.id ?_|(refine⟨fun hc=>?_,fun hc=>?_⟩<;>first|(exfalso;omega)|skip)|(apply num_k;omega;omega)|(apply num_m;intro r hr)|(intro r hr))|(refine RT.id ?_;first|refine RT.nil ?_|(apply RT.ld T;exact rfl;(focus ((repeat constructor);done));iterate 4 exact rfl)|(apply RT.st T;(iterate 3 exact rfl);(focus ((repeat constructor);done));(focus repeat constructor);iterate 2 exact rfl)|((first|apply RT.box|apply RT.alloc T);(iterate 4 exact rfl);intro b)|((first|apply RT.pnil T|apply RT.pnnil T);iterate 6 exact rfl)|(refine RT.isPush ?_;refine RT.pushI T rfl rfl rfl (fun a' c'=>by ((repeat constructor);done)) (by omega) (by omega) rfl rfl rfl rfl (fun a' c' b' c1' hac=>?_))|refine RT.build T rfl rfl rfl rfl rfl ?_|(apply RT.lens T;iterate 4 exact rfl))|(refine AtQ.id_ ?_;first|refine nx ?_|refine A0 ?_|refine A9 ?_|refine AtQ.in_ne rfl ?_)|(refine CT.id_ ?_;first|refine nx ?_|refine CT.region ?_|refine CT.quiet mixed (by kernel_rfl) ?_|refine CT.cond_t rfl ?_|refine CT.cond_f rfl ?_))
    exact AtQ.fin1 (H' := [own8 a3 c3 (s.seg bs) (s.en - s.at_), rdd p a n c s]) Try.results118 rfl ⟨a3, c3, by rw [hl], by rw [hl]⟩ (fun w h => h)
  · rw [if_neg he]
    repeat' (first|((first|refine vc_id ?_|(refine RT.id ?_;refine RT.c T ?_));(conv=>whnf);first|refine RT.id ?_|(refine⟨fun hc=>?_,fun hc=>?_⟩<;>first|(exfalso;omega)|skip)|(apply num_k;omega;omega)|(apply num_m;intro r hr)|(intro r hr))|(refine RT.id ?_;first|refine RT.nil ?_|(apply RT.ld T;exact rfl;(focus ((repeat constructor);done));iterate 4 exact rfl)|(apply RT.st T;(iterate 3 exact rfl);(focus ((repeat constructor);done));(focus repeat constructor);iterate 2 exact rfl)|((first|apply RT.box|apply RT.alloc T);(iterate 4 exact rfl);intro b)|((first|apply RT.pnil T|apply RT.pnnil T);iterate 6 exact rfl)|(refine RT.isPush ?_;refine RT.pushI T rfl rfl rfl (fun a' c'=>by ((repeat constructor);done)) (by omega) (by omega) rfl rfl rfl rfl (fun a' c' b' c1' hac=>?_))|refine RT.build T rfl rfl rfl rfl rfl ?_|(apply RT.lens T;iterate 4 exact rfl))|(refine AtQ.id_ ?_;first|refine nx ?_|refine A0 ?_|refine A9 ?_|refine AtQ.in_ne rfl ?_)|(refine CT.id_ ?_;first|refine nx ?_|refine CT.region ?_|refine CT.quiet mixed (by kernel_rfl) ?_|refine CT.cond_t rfl ?_|refine CT.cond_f rfl ?_))
    exact AtQ.fin1 (H' := [own8 none 0 [] 0, rdd p a n c s]) Try.results118 rfl ⟨none, 0, rfl, rfl⟩ (fun w h => Sat.nilOwn h)
theorem span_z {bs : List Int} {s : RS} (he : s.e = 0) : (s.span bs).1 = (RS.span bs ⟨s.at_, s.en, 0, 0⟩).1 ∧ (s.span bs).2 = { wr0 (RS.span bs ⟨s.at_, s.en, 0, 0⟩).2.e s.at_ s with at_ := (RS.span bs ⟨s.at_, s.en, 0, 0⟩).2.at_ } := by
  obtain ⟨z1, z2⟩ := varint_z (bs := bs) he
  have hk := RS.varint_kp (bs := bs) (s := ⟨s.at_, s.en, 0, 0⟩)
  have hw := RS.varint_wh (bs := bs) (s := ⟨s.at_, s.en, 0, 0⟩) rfl
  unfold RS.span
  rw [z1, z2]
  generalize RS.varint bs ⟨s.at_, s.en, 0, 0⟩ = q at *
  obtain ⟨v, t⟩ := q
  dsimp only at hk hw ⊢
  by_cases te : t.e = 0
  · obtain ⟨k1, k2, k3⟩ := hk te
    dsimp only at k3
    have e1 : wr0 t.e s.at_ s = s := by unfold wr0; rw [if_pos te]
    rw [e1, if_pos (show ({ s with at_ := t.at_ } : RS).e = 0 from he), if_pos te]
    simp only [k3]
    split
    · refine ⟨rfl, ?_⟩
      simp [wr0, RS.wrong, he]
    · refine ⟨rfl, ?_⟩
      simp [wr0, te]
  · have e1 : wr0 t.e s.at_ s = { s with e := t.e, wh := s.at_ } := by unfold wr0 RS.wrong; rw [if_neg te, if_pos he]
    rw [e1, if_neg (show ¬ ({ ({ s with e := t.e, wh := s.at_ } : RS) with at_ := t.at_ } : RS).e = 0 from te), if_neg te]
    exact ⟨rfl, by simp [wr0, RS.wrong, te, he]⟩
set_option maxHeartbeats 2000000 in
theorem dpart_fn {p n c : Nat} {a : Option Addr} {s : RS} {bs : List Int} (hR : s.e = 0 → Rd B R a n c 1 (ints .u8 bs)) (hb : Bytes bs) (hs : s.e = 0 → s.ok n) (h3 : n ≤ 140737488355328) :
    Sp B Try.prog 109 [ptr p] R [rdd p a n c s] (fun v H' => ∃ p' a' n' c', v = ptr p' ∧ H' = [rdd p' a' n' c' (s.part bs).1, rdd p a n c (s.part bs).2] ∧ ((s.part bs).1.e = 0 → a' = a ∧ n' = n ∧ c' = c) ∧ ((s.part bs).1.e ≠ 0 → n' = 0)) := by
  refine Sp.body Try.func109 rfl Try.ntmps109 (by simp) ?_
  simp only [argE, List.cons_append, List.nil_append, Nat.zero_add, Nat.reduceAdd]
  unfold RS.part
  by_cases he : s.e = 0
  · obtain ⟨o1, o2, o3⟩ := hs he
    have hR := hR he
    obtain ⟨z1, z2⟩ := span_z (bs := bs) he
    have hlr : lenR bs s.at_ s.en = match (RS.span bs ⟨s.at_, s.en, 0, 0⟩).1 with
      | some (i, j) => ((i : Int), (j : Int), (0 : Int))
      | none => ((s.at_ : Int), (s.at_ : Int), (RS.span bs ⟨s.at_, s.en, 0, 0⟩).2.e) := rfl
    have hsw := RS.span_wh (bs := bs) (s := ⟨s.at_, s.en, 0, 0⟩) rfl
    have hsk := RS.span_ok (bs := bs) (s := ⟨s.at_, s.en, 0, 0⟩)
    rw [z1, z2]
    clear z1 z2
    repeat' (first|((first|refine vc_id ?_|(refine RT.id ?_;refine RT.c T ?_));(conv=>whnf);first|refine RT.id ?_|(refine⟨fun hc=>?_,fun hc=>?_⟩<;>first|(exfalso;omega)|skip)|(apply num_k;omega;omega)|(apply num_m;intro r hr)|(intro r hr))|(refine RT.id ?_;first|refine RT.nil ?_|(apply RT.ld T;exact rfl;(focus ((repeat constructor);done));iterate 4 exact rfl)|(apply RT.st T;(iterate 3 exact rfl);(focus ((repeat constructor);done));(focus repeat constructor);iterate 2 exact rfl)|((first|apply RT.box|apply RT.alloc T);(iterate 4 exact rfl);intro b)|((first|apply RT.pnil T|apply RT.pnnil T);iterate 6 exact rfl)|(refine RT.isPush ?_;refine RT.pushI T rfl rfl rfl (fun a' c'=>by ((repeat constructor);done)) (by omega) (by omega) rfl rfl rfl rfl (fun a' c' b' c1' hac=>?_))|refine RT.build T rfl rfl rfl rfl rfl ?_|(apply RT.lens T;iterate 4 exact rfl))|(refine AtQ.id_ ?_;first|refine nx ?_|refine A0 ?_|refine A9 ?_|refine AtQ.in_ne rfl ?_)|(refine CT.id_ ?_;first|refine nx ?_|refine CT.region ?_|refine CT.quiet mixed (by kernel_rfl) ?_|refine CT.cond_t rfl ?_|refine CT.cond_f rfl ?_))
    (refine RT.qcall T rfl (QSp.of (by (repeat (first|exact Fr.nil|(apply Fr.cons;focus ((repeat constructor);done))))) (lengthy_fn (by repeat (first | exact (hR) | apply Rd.cons)) hb o1 o2 h3)) rfl rfl rfl ?_)
    generalize RS.span bs ⟨s.at_, s.en, 0, 0⟩ = q at *
    obtain ⟨o, t⟩ := q
    dsimp only at hlr hsw hsk ⊢
    by_cases te : t.e = 0
    · obtain ⟨i, j, rfl, hj⟩ := hsk te
      dsimp only at hlr ⊢
      rw [hlr]
      have e1 : wr0 t.e s.at_ s = s := by unfold wr0; rw [if_pos te]
      have e2 : wr0 0 s.at_ s = s := by unfold wr0; rw [if_pos rfl]
      rw [e1, hj]
      dsimp only
      repeat' (first|((first|refine vc_id ?_|(refine RT.id ?_;refine RT.c T ?_));(conv=>whnf);first|refine RT.id ?_|(refine⟨fun hc=>?_,fun hc=>?_⟩<;>first|(exfalso;omega)|skip)|(apply num_k;omega;omega)|(apply num_m;intro r hr)|(intro r hr))|(refine RT.id ?_;first|refine RT.nil ?_|(apply RT.ld T;exact rfl;(focus ((repeat constructor);done));iterate 4 exact rfl)|(apply RT.st T;(iterate 3 exact rfl);(focus ((repeat constructor);done));(focus repeat constructor);iterate 2 exact rfl)|((first|apply RT.box|apply RT.alloc T);(iterate 4 exact rfl);intro b)|((first|apply RT.pnil T|apply RT.pnnil T);iterate 6 exact rfl)|(refine RT.isPush ?_;refine RT.pushI T rfl rfl rfl (fun a' c'=>by ((repeat constructor);done)) (by omega) (by omega) rfl rfl rfl rfl (fun a' c' b' c1' hac=>?_))|refine RT.build T rfl rfl rfl rfl rfl ?_|(apply RT.lens T;iterate 4 exact rfl))|(refine AtQ.id_ ?_;first|refine nx ?_|refine A0 ?_|refine A9 ?_|refine AtQ.in_ne rfl ?_)|(refine CT.id_ ?_;first|refine nx ?_|refine CT.region ?_|refine CT.quiet mixed (by kernel_rfl) ?_|refine CT.cond_t rfl ?_|refine CT.cond_f rfl ?_))
      (refine RT.call T rfl (by (repeat (first|exact Fr.nil|(apply Fr.cons;focus ((repeat constructor);done))))) (dwrong_fn) rfl rfl rfl ?_; rintro _ _ ⟨rfl, rfl⟩; try simp only [List.cons_append, List.nil_append])
      rw [e2]
      repeat' (first|((first|refine vc_id ?_|(refine RT.id ?_;refine RT.c T ?_));(conv=>whnf);first|refine RT.id ?_|(refine⟨fun hc=>?_,fun hc=>?_⟩<;>first|(exfalso;omega)|skip)|(apply num_k;omega;omega)|(apply num_m;intro r hr)|(intro r hr))|(refine RT.id ?_;first|refine RT.nil ?_|(apply RT.ld T;exact rfl;(focus ((repeat constructor);done));iterate 4 exact rfl)|(apply RT.st T;(iterate 3 exact rfl);(focus ((repeat constructor);done));(focus repeat constructor);iterate 2 exact rfl)|((first|apply RT.box|apply RT.alloc T);(iterate 4 exact rfl);intro b)|((first|apply RT.pnil T|apply RT.pnnil T);iterate 6 exact rfl)|(refine RT.isPush ?_;refine RT.pushI T rfl rfl rfl (fun a' c'=>by ((repeat constructor);done)) (by omega) (by omega) rfl rfl rfl rfl (fun a' c' b' c1' hac=>?_))|refine RT.build T rfl rfl rfl rfl rfl ?_|(apply RT.lens T;iterate 4 exact rfl))|(refine RT.id ?_;first|(apply RT.staggW T;exact rfl;exact rfl;exact rfl;(focus ((repeat constructor);done));iterate 4 exact rfl)|(apply RT.ldagg T;exact rfl;(focus ((repeat constructor);done));iterate 4 exact rfl))|(refine AtQ.id_ ?_;first|refine nx ?_|refine A0 ?_|refine A9 ?_|refine AtQ.in_ne rfl ?_)|(refine CT.id_ ?_;first|refine nx ?_|refine CT.region ?_|refine CT.quiet mixed (by kernel_rfl) ?_|refine CT.cond_t rfl ?_|refine CT.cond_f rfl ?_))
      exact AtQ.fin1 (H' := [rdd b a n c ⟨i, j, 0, 0⟩, rdd p a n c { s with at_ := j }]) Try.results109 rfl ⟨b, a, n, c, rfl, rfl, fun _ => ⟨rfl, rfl, rfl⟩, fun h => absurd rfl h⟩ (fun w h => h)
    · obtain ⟨h1, h2, rfl⟩ := hsw te
      dsimp only at hlr ⊢
      rw [hlr, h2]
      have e1 : wr0 t.e s.at_ s = { s with e := t.e, wh := s.at_ } := by unfold wr0 RS.wrong; rw [if_neg te, if_pos he]
      rw [e1]
      dsimp only
      repeat' (first|((first|refine vc_id ?_|(refine RT.id ?_;refine RT.c T ?_));(conv=>whnf);first|refine RT.id ?_|(refine⟨fun hc=>?_,fun hc=>?_⟩<;>first|(exfalso;omega)|skip)|(apply num_k;omega;omega)|(apply num_m;intro r hr)|(intro r hr))|(refine RT.id ?_;first|refine RT.nil ?_|(apply RT.ld T;exact rfl;(focus ((repeat constructor);done));iterate 4 exact rfl)|(apply RT.st T;(iterate 3 exact rfl);(focus ((repeat constructor);done));(focus repeat constructor);iterate 2 exact rfl)|((first|apply RT.box|apply RT.alloc T);(iterate 4 exact rfl);intro b)|((first|apply RT.pnil T|apply RT.pnnil T);iterate 6 exact rfl)|(refine RT.isPush ?_;refine RT.pushI T rfl rfl rfl (fun a' c'=>by ((repeat constructor);done)) (by omega) (by omega) rfl rfl rfl rfl (fun a' c' b' c1' hac=>?_))|refine RT.build T rfl rfl rfl rfl rfl ?_|(apply RT.lens T;iterate 4 exact rfl))|(refine AtQ.id_ ?_;first|refine nx ?_|refine A0 ?_|refine A9 ?_|refine AtQ.in_ne rfl ?_)|(refine CT.id_ ?_;first|refine nx ?_|refine CT.region ?_|refine CT.quiet mixed (by kernel_rfl) ?_|refine CT.cond_t rfl ?_|refine CT.cond_f rfl ?_))
      (refine RT.call T rfl (by (repeat (first|exact Fr.nil|(apply Fr.cons;focus ((repeat constructor);done))))) (dwrong_fn) rfl rfl rfl ?_; rintro _ _ ⟨rfl, rfl⟩; try simp only [List.cons_append, List.nil_append])
      rw [e1]
      repeat' (first|((first|refine vc_id ?_|(refine RT.id ?_;refine RT.c T ?_));(conv=>whnf);first|refine RT.id ?_|(refine⟨fun hc=>?_,fun hc=>?_⟩<;>first|(exfalso;omega)|skip)|(apply num_k;omega;omega)|(apply num_m;intro r hr)|(intro r hr))|(refine RT.id ?_;first|refine RT.nil ?_|(apply RT.ld T;exact rfl;(focus ((repeat constructor);done));iterate 4 exact rfl)|(apply RT.st T;(iterate 3 exact rfl);(focus ((repeat constructor);done));(focus repeat constructor);iterate 2 exact rfl)|((first|apply RT.box|apply RT.alloc T);(iterate 4 exact rfl);intro b)|((first|apply RT.pnil T|apply RT.pnnil T);iterate 6 exact rfl)|(refine RT.isPush ?_;refine RT.pushI T rfl rfl rfl (fun a' c'=>by ((repeat constructor);done)) (by omega) (by omega) rfl rfl rfl rfl (fun a' c' b' c1' hac=>?_))|refine RT.build T rfl rfl rfl rfl rfl ?_|(apply RT.lens T;iterate 4 exact rfl))|(refine AtQ.id_ ?_;first|refine nx ?_|refine A0 ?_|refine A9 ?_|refine AtQ.in_ne rfl ?_)|(refine CT.id_ ?_;first|refine nx ?_|refine CT.region ?_|refine CT.cond_t rfl ?_|refine CT.cond_f rfl ?_))
      refine CT.drawn [rdd p a n c { s with e := t.e, wh := s.at_ }] 17 mixed ?_
      (refine DT.takes (k := 2) [0, 1, 2, 3, 4, 5, 6, 7, 8, 9, 10, 11, 12, 13, 14, 15, 16] [17] (fun w h => Sat.ones (by (repeat (first|exact Fr.nil|(apply Fr.cons;focus ((repeat constructor);done))))) h) (by kernel_rfl) (by kernel_rfl) (by kernel_rfl) rfl (Clos.ofB (by kernel_rfl)) ?_)
      repeat' (first|((first|refine vc_id ?_|(refine RT.id ?_;refine RT.c T ?_));(conv=>whnf);first|refine RT.id ?_|(refine⟨fun hc=>?_,fun hc=>?_⟩<;>first|(exfalso;omega)|skip)|(apply num_k;omega;omega)|(apply num_m;intro r hr)|(intro r hr))|(refine RT.id ?_;first|refine RT.nil ?_|(apply RT.ld T;exact rfl;(focus ((repeat constructor);done));iterate 4 exact rfl)|(apply RT.st T;(iterate 3 exact rfl);(focus ((repeat constructor);done));(focus repeat constructor);iterate 2 exact rfl)|((first|apply RT.box|apply RT.alloc T);(iterate 4 exact rfl);intro b)|((first|apply RT.pnil T|apply RT.pnnil T);iterate 6 exact rfl)|(refine RT.isPush ?_;refine RT.pushI T rfl rfl rfl (fun a' c'=>by ((repeat constructor);done)) (by omega) (by omega) rfl rfl rfl rfl (fun a' c' b' c1' hac=>?_))|refine RT.build T rfl rfl rfl rfl rfl ?_|(apply RT.lens T;iterate 4 exact rfl))|(refine RT.id ?_;first|(apply RT.staggW T;exact rfl;exact rfl;exact rfl;(focus ((repeat constructor);done));iterate 4 exact rfl)|(apply RT.ldagg T;exact rfl;(focus ((repeat constructor);done));iterate 4 exact rfl))|(refine AtQ.id_ ?_;first|refine nx ?_|refine A0 ?_|refine A9 ?_|refine AtQ.in_ne rfl ?_)|(refine CT.id_ ?_;first|refine nx ?_|refine CT.region ?_|refine CT.quiet mixed (by kernel_rfl) ?_|refine CT.cond_t rfl ?_|refine CT.cond_f rfl ?_))
      refine AtQ.take ?_
      (refine DT.eff 17 rfl (by kernel_rfl) ?_)
      repeat' (first|((first|refine vc_id ?_|(refine RT.id ?_;refine RT.c T ?_));(conv=>whnf);first|refine RT.id ?_|(refine⟨fun hc=>?_,fun hc=>?_⟩<;>first|(exfalso;omega)|skip)|(apply num_k;omega;omega)|(apply num_m;intro r hr)|(intro r hr))|(refine RT.id ?_;first|refine RT.nil ?_|(apply RT.ld T;exact rfl;(focus ((repeat constructor);done));iterate 4 exact rfl)|(apply RT.st T;(iterate 3 exact rfl);(focus ((repeat constructor);done));(focus repeat constructor);iterate 2 exact rfl)|((first|apply RT.box|apply RT.alloc T);(iterate 4 exact rfl);intro b)|((first|apply RT.pnil T|apply RT.pnnil T);iterate 6 exact rfl)|(refine RT.isPush ?_;refine RT.pushI T rfl rfl rfl (fun a' c'=>by ((repeat constructor);done)) (by omega) (by omega) rfl rfl rfl rfl (fun a' c' b' c1' hac=>?_))|refine RT.build T rfl rfl rfl rfl rfl ?_|(apply RT.lens T;iterate 4 exact rfl))|(refine RT.id ?_;first|(apply RT.staggW T;exact rfl;exact rfl;exact rfl;(focus ((repeat constructor);done));iterate 4 exact rfl)|(apply RT.ldagg T;exact rfl;(focus ((repeat constructor);done));iterate 4 exact rfl))|(refine AtQ.id_ ?_;first|refine nx ?_|refine A0 ?_|refine A9 ?_|refine AtQ.in_ne rfl ?_)|(refine CT.id_ ?_;first|refine nx ?_|refine CT.region ?_|refine CT.quiet mixed (by kernel_rfl) ?_|refine CT.cond_t rfl ?_|refine CT.cond_f rfl ?_))
      refine AtQ.eff' (by kernel_rfl) ?_
      (refine DT.eff 18 rfl (by kernel_rfl) ?_)
      repeat' (first|((first|refine vc_id ?_|(refine RT.id ?_;refine RT.c T ?_));(conv=>whnf);first|refine RT.id ?_|(refine⟨fun hc=>?_,fun hc=>?_⟩<;>first|(exfalso;omega)|skip)|(apply num_k;omega;omega)|(apply num_m;intro r hr)|(intro r hr))|(refine RT.id ?_;first|refine RT.nil ?_|(apply RT.ld T;exact rfl;(focus ((repeat constructor);done));iterate 4 exact rfl)|(apply RT.st T;(iterate 3 exact rfl);(focus ((repeat constructor);done));(focus repeat constructor);iterate 2 exact rfl)|((first|apply RT.box|apply RT.alloc T);(iterate 4 exact rfl);intro b)|((first|apply RT.pnil T|apply RT.pnnil T);iterate 6 exact rfl)|(refine RT.isPush ?_;refine RT.pushI T rfl rfl rfl (fun a' c'=>by ((repeat constructor);done)) (by omega) (by omega) rfl rfl rfl rfl (fun a' c' b' c1' hac=>?_))|refine RT.build T rfl rfl rfl rfl rfl ?_|(apply RT.lens T;iterate 4 exact rfl))|(refine RT.id ?_;first|(apply RT.staggW T;exact rfl;exact rfl;exact rfl;(focus ((repeat constructor);done));iterate 4 exact rfl)|(apply RT.ldagg T;exact rfl;(focus ((repeat constructor);done));iterate 4 exact rfl))|(refine AtQ.id_ ?_;first|refine nx ?_|refine A0 ?_|refine A9 ?_|refine AtQ.in_ne rfl ?_)|(refine CT.id_ ?_;first|refine nx ?_|refine CT.region ?_|refine CT.quiet mixed (by kernel_rfl) ?_|refine CT.cond_t rfl ?_|refine CT.cond_f rfl ?_))
      refine AtQ.eff' (by kernel_rfl) ?_
      (refine DT.done (by kernel_rfl) ?_)
      repeat' (first|((first|refine vc_id ?_|(refine RT.id ?_;refine RT.c T ?_));(conv=>whnf);first|refine RT.id ?_|(refine⟨fun hc=>?_,fun hc=>?_⟩<;>first|(exfalso;omega)|skip)|(apply num_k;omega;omega)|(apply num_m;intro r hr)|(intro r hr))|(refine RT.id ?_;first|refine RT.nil ?_|(apply RT.ld T;exact rfl;(focus ((repeat constructor);done));iterate 4 exact rfl)|(apply RT.st T;(iterate 3 exact rfl);(focus ((repeat constructor);done));(focus repeat constructor);iterate 2 exact rfl)|((first|apply RT.box|apply RT.alloc T);(iterate 4 exact rfl);intro b)|((first|apply RT.pnil T|apply RT.pnnil T);iterate 6 exact rfl)|(refine RT.isPush ?_;refine RT.pushI T rfl rfl rfl (fun a' c'=>by ((repeat constructor);done)) (by omega) (by omega) rfl rfl rfl rfl (fun a' c' b' c1' hac=>?_))|refine RT.build T rfl rfl rfl rfl rfl ?_|(apply RT.lens T;iterate 4 exact rfl))|(refine RT.id ?_;first|(apply RT.staggW T;exact rfl;exact rfl;exact rfl;(focus ((repeat constructor);done));iterate 4 exact rfl)|(apply RT.ldagg T;exact rfl;(focus ((repeat constructor);done));iterate 4 exact rfl))|(refine AtQ.id_ ?_;first|refine nx ?_|refine A0 ?_|refine A9 ?_|refine AtQ.in_ne rfl ?_)|(refine CT.id_ ?_;first|refine nx ?_|refine CT.region ?_|refine CT.quiet mixed (by kernel_rfl) ?_|refine CT.cond_t rfl ?_|refine CT.cond_f rfl ?_))
      exact AtQ.fin1 (H' := [rdd b none 0 0 ⟨s.at_, s.at_, t.e, s.at_⟩, rdd p a n c { s with e := t.e, wh := s.at_ }]) Try.results109 rfl ⟨b, none, 0, 0, rfl, rfl, fun h => absurd h te, fun _ => rfl⟩ (fun w h => h)
  · have e0 : s.span bs = (none, s) := by
      have : s.varint bs = (0, s) := by unfold RS.varint; rw [if_neg he]
      unfold RS.span
      rw [this, if_neg he]
    rw [e0]
    dsimp only
    repeat' (first|((first|refine vc_id ?_|(refine RT.id ?_;refine RT.c T ?_));(conv=>whnf);first|refine RT.id ?_|(refine⟨fun hc=>?_,fun hc=>?_⟩<;>first|(exfalso;omega)|skip)|(apply num_k;omega;omega)|(apply num_m;intro r hr)|(intro r hr))|(refine RT.id ?_;first|refine RT.nil ?_|(apply RT.ld T;exact rfl;(focus ((repeat constructor);done));iterate 4 exact rfl)|(apply RT.st T;(iterate 3 exact rfl);(focus ((repeat constructor);done));(focus repeat constructor);iterate 2 exact rfl)|((first|apply RT.box|apply RT.alloc T);(iterate 4 exact rfl);intro b)|((first|apply RT.pnil T|apply RT.pnnil T);iterate 6 exact rfl)|(refine RT.isPush ?_;refine RT.pushI T rfl rfl rfl (fun a' c'=>by ((repeat constructor);done)) (by omega) (by omega) rfl rfl rfl rfl (fun a' c' b' c1' hac=>?_))|refine RT.build T rfl rfl rfl rfl rfl ?_|(apply RT.lens T;iterate 4 exact rfl))|(refine AtQ.id_ ?_;first|refine nx ?_|refine A0 ?_|refine A9 ?_|refine AtQ.in_ne rfl ?_)|(refine CT.id_ ?_;first|refine nx ?_|refine CT.region ?_|refine CT.cond_t rfl ?_|refine CT.cond_f rfl ?_))
    refine CT.drawn [rdd p a n c s] 17 mixed ?_
    (refine DT.takes (k := 2) [0, 1, 2, 3, 4, 5, 6, 7, 8, 9, 10, 11, 12, 13, 14, 15, 16] [17] (fun w h => Sat.ones (by (repeat (first|exact Fr.nil|(apply Fr.cons;focus ((repeat constructor);done))))) h) (by kernel_rfl) (by kernel_rfl) (by kernel_rfl) rfl (Clos.ofB (by kernel_rfl)) ?_)
    repeat' (first|((first|refine vc_id ?_|(refine RT.id ?_;refine RT.c T ?_));(conv=>whnf);first|refine RT.id ?_|(refine⟨fun hc=>?_,fun hc=>?_⟩<;>first|(exfalso;omega)|skip)|(apply num_k;omega;omega)|(apply num_m;intro r hr)|(intro r hr))|(refine RT.id ?_;first|refine RT.nil ?_|(apply RT.ld T;exact rfl;(focus ((repeat constructor);done));iterate 4 exact rfl)|(apply RT.st T;(iterate 3 exact rfl);(focus ((repeat constructor);done));(focus repeat constructor);iterate 2 exact rfl)|((first|apply RT.box|apply RT.alloc T);(iterate 4 exact rfl);intro b)|((first|apply RT.pnil T|apply RT.pnnil T);iterate 6 exact rfl)|(refine RT.isPush ?_;refine RT.pushI T rfl rfl rfl (fun a' c'=>by ((repeat constructor);done)) (by omega) (by omega) rfl rfl rfl rfl (fun a' c' b' c1' hac=>?_))|refine RT.build T rfl rfl rfl rfl rfl ?_|(apply RT.lens T;iterate 4 exact rfl))|(refine RT.id ?_;first|(apply RT.staggW T;exact rfl;exact rfl;exact rfl;(focus ((repeat constructor);done));iterate 4 exact rfl)|(apply RT.ldagg T;exact rfl;(focus ((repeat constructor);done));iterate 4 exact rfl))|(refine AtQ.id_ ?_;first|refine nx ?_|refine A0 ?_|refine A9 ?_|refine AtQ.in_ne rfl ?_)|(refine CT.id_ ?_;first|refine nx ?_|refine CT.region ?_|refine CT.quiet mixed (by kernel_rfl) ?_|refine CT.cond_t rfl ?_|refine CT.cond_f rfl ?_))
    refine AtQ.take ?_
    (refine DT.eff 17 rfl (by kernel_rfl) ?_)
    repeat' (first|((first|refine vc_id ?_|(refine RT.id ?_;refine RT.c T ?_));(conv=>whnf);first|refine RT.id ?_|(refine⟨fun hc=>?_,fun hc=>?_⟩<;>first|(exfalso;omega)|skip)|(apply num_k;omega;omega)|(apply num_m;intro r hr)|(intro r hr))|(refine RT.id ?_;first|refine RT.nil ?_|(apply RT.ld T;exact rfl;(focus ((repeat constructor);done));iterate 4 exact rfl)|(apply RT.st T;(iterate 3 exact rfl);(focus ((repeat constructor);done));(focus repeat constructor);iterate 2 exact rfl)|((first|apply RT.box|apply RT.alloc T);(iterate 4 exact rfl);intro b)|((first|apply RT.pnil T|apply RT.pnnil T);iterate 6 exact rfl)|(refine RT.isPush ?_;refine RT.pushI T rfl rfl rfl (fun a' c'=>by ((repeat constructor);done)) (by omega) (by omega) rfl rfl rfl rfl (fun a' c' b' c1' hac=>?_))|refine RT.build T rfl rfl rfl rfl rfl ?_|(apply RT.lens T;iterate 4 exact rfl))|(refine RT.id ?_;first|(apply RT.staggW T;exact rfl;exact rfl;exact rfl;(focus ((repeat constructor);done));iterate 4 exact rfl)|(apply RT.ldagg T;exact rfl;(focus ((repeat constructor);done));iterate 4 exact rfl))|(refine AtQ.id_ ?_;first|refine nx ?_|refine A0 ?_|refine A9 ?_|refine AtQ.in_ne rfl ?_)|(refine CT.id_ ?_;first|refine nx ?_|refine CT.region ?_|refine CT.quiet mixed (by kernel_rfl) ?_|refine CT.cond_t rfl ?_|refine CT.cond_f rfl ?_))
    refine AtQ.eff' (by kernel_rfl) ?_
    (refine DT.eff 18 rfl (by kernel_rfl) ?_)
    repeat' (first|((first|refine vc_id ?_|(refine RT.id ?_;refine RT.c T ?_));(conv=>whnf);first|refine RT.id ?_|(refine⟨fun hc=>?_,fun hc=>?_⟩<;>first|(exfalso;omega)|skip)|(apply num_k;omega;omega)|(apply num_m;intro r hr)|(intro r hr))|(refine RT.id ?_;first|refine RT.nil ?_|(apply RT.ld T;exact rfl;(focus ((repeat constructor);done));iterate 4 exact rfl)|(apply RT.st T;(iterate 3 exact rfl);(focus ((repeat constructor);done));(focus repeat constructor);iterate 2 exact rfl)|((first|apply RT.box|apply RT.alloc T);(iterate 4 exact rfl);intro b)|((first|apply RT.pnil T|apply RT.pnnil T);iterate 6 exact rfl)|(refine RT.isPush ?_;refine RT.pushI T rfl rfl rfl (fun a' c'=>by ((repeat constructor);done)) (by omega) (by omega) rfl rfl rfl rfl (fun a' c' b' c1' hac=>?_))|refine RT.build T rfl rfl rfl rfl rfl ?_|(apply RT.lens T;iterate 4 exact rfl))|(refine RT.id ?_;first|(apply RT.staggW T;exact rfl;exact rfl;exact rfl;(focus ((repeat constructor);done));iterate 4 exact rfl)|(apply RT.ldagg T;exact rfl;(focus ((repeat constructor);done));iterate 4 exact rfl))|(refine AtQ.id_ ?_;first|refine nx ?_|refine A0 ?_|refine A9 ?_|refine AtQ.in_ne rfl ?_)|(refine CT.id_ ?_;first|refine nx ?_|refine CT.region ?_|refine CT.quiet mixed (by kernel_rfl) ?_|refine CT.cond_t rfl ?_|refine CT.cond_f rfl ?_))
    refine AtQ.eff' (by kernel_rfl) ?_
    (refine DT.done (by kernel_rfl) ?_)
    repeat' (first|((first|refine vc_id ?_|(refine RT.id ?_;refine RT.c T ?_));(conv=>whnf);first|refine RT.id ?_|(refine⟨fun hc=>?_,fun hc=>?_⟩<;>first|(exfalso;omega)|skip)|(apply num_k;omega;omega)|(apply num_m;intro r hr)|(intro r hr))|(refine RT.id ?_;first|refine RT.nil ?_|(apply RT.ld T;exact rfl;(focus ((repeat constructor);done));iterate 4 exact rfl)|(apply RT.st T;(iterate 3 exact rfl);(focus ((repeat constructor);done));(focus repeat constructor);iterate 2 exact rfl)|((first|apply RT.box|apply RT.alloc T);(iterate 4 exact rfl);intro b)|((first|apply RT.pnil T|apply RT.pnnil T);iterate 6 exact rfl)|(refine RT.isPush ?_;refine RT.pushI T rfl rfl rfl (fun a' c'=>by ((repeat constructor);done)) (by omega) (by omega) rfl rfl rfl rfl (fun a' c' b' c1' hac=>?_))|refine RT.build T rfl rfl rfl rfl rfl ?_|(apply RT.lens T;iterate 4 exact rfl))|(refine RT.id ?_;first|(apply RT.staggW T;exact rfl;exact rfl;exact rfl;(focus ((repeat constructor);done));iterate 4 exact rfl)|(apply RT.ldagg T;exact rfl;(focus ((repeat constructor);done));iterate 4 exact rfl))|(refine AtQ.id_ ?_;first|refine nx ?_|refine A0 ?_|refine A9 ?_|refine AtQ.in_ne rfl ?_)|(refine CT.id_ ?_;first|refine nx ?_|refine CT.region ?_|refine CT.quiet mixed (by kernel_rfl) ?_|refine CT.cond_t rfl ?_|refine CT.cond_f rfl ?_))
    exact AtQ.fin1 (H' := [rdd b none 0 0 s.none_, rdd p a n c s]) Try.results109 rfl ⟨b, none, 0, 0, rfl, rfl, fun h => absurd h he, fun _ => rfl⟩ (fun w h => h)
theorem RS.part_of {bs : List Int} {s : RS} {n : Nat} (hs : s.e = 0 → s.ok n) (hb : bs.length = n) (hby : Bytes bs) : ((s.part bs).1.e = 0 → s.e = 0 ∧ (s.part bs).1.ok n) ∧ (s.part bs).1.rest bs = (s.bytes bs).1 ∧ (s.part bs).2 = (s.bytes bs).2 := by
  have hk := RS.span_kp (bs := bs) (s := s)
  have hok := RS.span_ok (bs := bs) (s := s)
  have hin : s.e = 0 → ∀ i j, (s.span bs).1 = some (i, j) → i ≤ j ∧ j ≤ n := fun h => RS.span_in (hs h) hb hby
  have hbad : s.e ≠ 0 → s.span bs = (none, s) := fun he => by
    have : s.varint bs = (0, s) := by unfold RS.varint; rw [if_neg he]
    unfold RS.span
    rw [this, if_neg he]
  unfold RS.part RS.bytes
  generalize s.span bs = q at *
  obtain ⟨o, t⟩ := q
  dsimp only at hk hok hin hbad ⊢
  cases o with
  | none =>
    have te : t.e ≠ 0 := fun h => by
      obtain ⟨i, j, h1, _⟩ := hok h
      cases h1
    refine ⟨fun h => absurd h te, ?_, rfl⟩
    show (if t.e = 0 then _ else _) = _
    rw [if_neg te]
  | some ij =>
    obtain ⟨i, j⟩ := ij
    have he : s.e = 0 := by
      by_cases h : s.e = 0
      · exact h
      · have := hbad h
        cases this
    obtain ⟨h1, h2⟩ := hin he i j rfl
    exact ⟨fun _ => ⟨he, h1, h2, Nat.zero_le _⟩, rfl, rfl⟩
theorem dbytes_fn {p n c : Nat} {a : Option Addr} {s : RS} {bs : List Int} (hR : s.e = 0 → Rd B R a n c 1 (ints .u8 bs)) (hl : bs.length = n) (hb : Bytes bs) (hs : s.e = 0 → s.ok n) (h3 : n ≤ 140737488355328) :
    Sp B Try.prog 107 [ptr p] R [rdd p a n c s] (fun v H' => ∃ a2 c2, v = sl8 a2 (s.bytes bs).1.length c2 ∧ H' = [own8 a2 c2 (s.bytes bs).1 (s.bytes bs).1.length, rdd p a n c (s.bytes bs).2]) := by
  obtain ⟨b1, b2, b3⟩ := RS.part_of hs hl hb
  rw [← b2, ← b3]
  refine Sp.body Try.func107 rfl Try.ntmps107 (by simp) ?_
  simp only [argE, List.cons_append, List.nil_append, Nat.zero_add, Nat.reduceAdd]
  repeat' (first|((first|refine vc_id ?_|(refine RT.id ?_;refine RT.c T ?_));(conv=>whnf);first|refine RT.id ?_|(refine⟨fun hc=>?_,fun hc=>?_⟩<;>first|(exfalso;omega)|skip)|(apply num_k;omega;omega)|(apply num_m;intro r hr)|(intro r hr))|(refine RT.id ?_;first|refine RT.nil ?_|(apply RT.ld T;exact rfl;(focus ((repeat constructor);done));iterate 4 exact rfl)|(apply RT.st T;(iterate 3 exact rfl);(focus ((repeat constructor);done));(focus repeat constructor);iterate 2 exact rfl)|((first|apply RT.box|apply RT.alloc T);(iterate 4 exact rfl);intro b)|((first|apply RT.pnil T|apply RT.pnnil T);iterate 6 exact rfl)|(refine RT.isPush ?_;refine RT.pushI T rfl rfl rfl (fun a' c'=>by ((repeat constructor);done)) (by omega) (by omega) rfl rfl rfl rfl (fun a' c' b' c1' hac=>?_))|refine RT.build T rfl rfl rfl rfl rfl ?_|(apply RT.lens T;iterate 4 exact rfl))|(refine AtQ.id_ ?_;first|refine nx ?_|refine A0 ?_|refine A9 ?_|refine AtQ.in_ne rfl ?_)|(refine CT.id_ ?_;first|refine nx ?_|refine CT.region ?_|refine CT.quiet mixed (by kernel_rfl) ?_|refine CT.cond_t rfl ?_|refine CT.cond_f rfl ?_))
  refine RT.call T rfl (by (repeat (first|exact Fr.nil|(apply Fr.cons;focus ((repeat constructor);done))))) (dpart_fn hR hb hs h3) rfl rfl rfl ?_
  rintro _ _ ⟨p', a', n', c', rfl, rfl, hp, _⟩
  simp only [List.cons_append, List.nil_append]
  generalize s.part bs = q at *
  obtain ⟨g, t⟩ := q
  dsimp only at hp b1 ⊢
  repeat' (first|((first|refine vc_id ?_|(refine RT.id ?_;refine RT.c T ?_));(conv=>whnf);first|refine RT.id ?_|(refine⟨fun hc=>?_,fun hc=>?_⟩<;>first|(exfalso;omega)|skip)|(apply num_k;omega;omega)|(apply num_m;intro r hr)|(intro r hr))|(refine RT.id ?_;first|refine RT.nil ?_|(apply RT.ld T;exact rfl;(focus ((repeat constructor);done));iterate 4 exact rfl)|(apply RT.st T;(iterate 3 exact rfl);(focus ((repeat constructor);done));(focus repeat constructor);iterate 2 exact rfl)|((first|apply RT.box|apply RT.alloc T);(iterate 4 exact rfl);intro b)|((first|apply RT.pnil T|apply RT.pnnil T);iterate 6 exact rfl)|(refine RT.isPush ?_;refine RT.pushI T rfl rfl rfl (fun a' c'=>by ((repeat constructor);done)) (by omega) (by omega) rfl rfl rfl rfl (fun a' c' b' c1' hac=>?_))|refine RT.build T rfl rfl rfl rfl rfl ?_|(apply RT.lens T;iterate 4 exact rfl))|(refine AtQ.id_ ?_;first|refine nx ?_|refine A0 ?_|refine A9 ?_|refine AtQ.in_ne rfl ?_)|(refine CT.id_ ?_;first|refine nx ?_|refine CT.region ?_|refine CT.quiet mixed (by kernel_rfl) ?_|refine CT.cond_t rfl ?_|refine CT.cond_f rfl ?_))
  have hR' : g.e = 0 → Rd B (rdd p a n c t :: R) a' n' c' 1 (ints .u8 bs) := fun h => by
    obtain ⟨rfl, rfl, rfl⟩ := hp h
    exact (hR (b1 h).1).cons
  refine RT.call T rfl (by (repeat (first|exact Fr.nil|(apply Fr.cons;focus ((repeat constructor);done))))) (drest_fn hR' (fun h => by obtain ⟨_, rfl, _⟩ := hp h; exact (b1 h).2) (fun h => by obtain ⟨_, rfl, _⟩ := hp h; exact h3)) rfl rfl rfl ?_
  rintro _ _ ⟨a2, c2, rfl, rfl⟩
  simp only [List.cons_append, List.nil_append]
  repeat' (first|((first|refine vc_id ?_|(refine RT.id ?_;refine RT.c T ?_));(conv=>whnf);first|refine RT.id ?_|(refine⟨fun hc=>?_,fun hc=>?_⟩<;>first|(exfalso;omega)|skip)|(apply num_k;omega;omega)|(apply num_m;intro r hr)|(intro r hr))|(refine RT.id ?_;first|refine RT.nil ?_|(apply RT.ld T;exact rfl;(focus ((repeat constructor);done));iterate 4 exact rfl)|(apply RT.st T;(iterate 3 exact rfl);(focus ((repeat constructor);done));(focus repeat constructor);iterate 2 exact rfl)|((first|apply RT.box|apply RT.alloc T);(iterate 4 exact rfl);intro b)|((first|apply RT.pnil T|apply RT.pnnil T);iterate 6 exact rfl)|(refine RT.isPush ?_;refine RT.pushI T rfl rfl rfl (fun a' c'=>by ((repeat constructor);done)) (by omega) (by omega) rfl rfl rfl rfl (fun a' c' b' c1' hac=>?_))|refine RT.build T rfl rfl rfl rfl rfl ?_|(apply RT.lens T;iterate 4 exact rfl))|(refine AtQ.id_ ?_;first|refine nx ?_|refine A0 ?_|refine A9 ?_|refine AtQ.in_ne rfl ?_)|(refine CT.id_ ?_;first|refine nx ?_|refine CT.region ?_|refine CT.quiet mixed (by kernel_rfl) ?_|refine CT.cond_t rfl ?_|refine CT.cond_f rfl ?_))
  exact AtQ.fin1 (H' := [own8 a2 c2 (g.rest bs) (g.rest bs).length, rdd p a n c t]) Try.results107 rfl ⟨a2, c2, rfl, rfl⟩ (fun w h => h.frd (Ps := [_, _]) (Qs := [_]) (by (repeat (first|exact Fr.nil|(apply Fr.cons;focus ((repeat constructor);done))))))
end Go.Proofs.Ytldfbjcicbfidaa
