/- Walks: a new writer, Done, and the padded varint. -/
import Derived.Test.YtldfbjcicbfidaaR4
set_option linter.unusedVariables false
set_option linter.unusedSimpArgs false
namespace Go.Proofs.Ytldfbjcicbfidaa
open Go.Sk
set_option maxRecDepth 100000
attribute [local irreducible] Cs Own Ex Pu Yld RT LJ QJ AtQ CT Rd QSp Sp FinQ Then LoopQ CutQ DT TakeQ EffQ
attribute [local irreducible] Wr
variable {B : World} {R : List HP}
theorem newWriter_ok {limit : Int} (h0 : 0 ≤ limit) (h1 : limit ≤ 16777216) :
    Sp B Try.prog 12 [.int .i64 limit] R [] (fun u H' => ∃ p, u = .tuple #[ptr p, .int .i64 0] ∧ H' = [Wr p ⟨[], limit, [], 0⟩]) := by
  refine Sp.body Try.func12 rfl Try.ntmps12 (by simp) ?_
  simp only [argE, List.cons_append, List.nil_append, Nat.zero_add, Nat.reduceAdd]
  repeat' (first|((first|refine vc_id ?_|(refine RT.id ?_;refine RT.c T ?_));(conv=>whnf);first|refine RT.id ?_|(refine⟨fun hc=>?_,fun hc=>?_⟩<;>first|(exfalso;omega)|skip)|(apply num_k;omega;omega)|(apply num_m;intro r hr)|(intro r hr))|(refine RT.id ?_;first|refine RT.nil ?_|(apply RT.ld T;exact rfl;(focus ((repeat constructor);done));iterate 4 exact rfl)|(apply RT.st T;(iterate 3 exact rfl);(focus ((repeat constructor);done));(focus repeat constructor);iterate 2 exact rfl)|((first|apply RT.box|apply RT.alloc T);(iterate 4 exact rfl);intro b)|((first|apply RT.pnil T|apply RT.pnnil T);iterate 6 exact rfl)|(refine RT.isPush ?_;refine RT.pushI T rfl rfl rfl (fun a' c'=>by ((repeat constructor);done)) (by omega) (by omega) rfl rfl rfl rfl (fun a' c' b' c1' hac=>?_))|refine RT.build T rfl rfl rfl rfl rfl ?_|(apply RT.lens T;iterate 4 exact rfl))|(refine AtQ.id_ ?_;first|refine nx ?_|refine A0 ?_|refine A9 ?_|refine AtQ.in_ne rfl ?_)|(refine CT.id_ ?_;first|refine nx ?_|refine CT.region ?_|refine CT.quiet mixed (by kernel_rfl) ?_|refine CT.cond_t rfl ?_|refine CT.cond_f rfl ?_))
  refine AtQ.fin2 (H' := [Wr b ⟨[], limit, [], 0⟩]) Try.results12 rfl rfl ⟨b, rfl, rfl⟩ (fun w h => ?_)
  refine Wr.in_ ⟨none, 0, none, 0⟩ ?_
  exact Sat.fr (Ps := [_, _, _]) (Sat.nilOwn (e := 5) (sz := 1) (Sat.nilOwn (e := 3) (sz := 1) h)) (by (repeat (first|exact Fr.nil|(apply Fr.cons;focus ((repeat constructor);done)))))
theorem newWriter_bad {limit : Int} (h0 : ¬ (0 ≤ limit ∧ limit ≤ 16777216)) :
    Sp B Try.prog 12 [.int .i64 limit] R [] (fun u H' => u = .tuple #[.pointer none, .int .i64 1] ∧ H' = []) := by
  refine Sp.body Try.func12 rfl Try.ntmps12 (by simp) ?_
  simp only [argE, List.cons_append, List.nil_append, Nat.zero_add, Nat.reduceAdd]
  repeat' (first|((first|refine vc_id ?_|(refine RT.id ?_;refine RT.c T ?_));(conv=>whnf);first|refine RT.id ?_|(refine⟨fun hc=>?_,fun hc=>?_⟩<;>first|(exfalso;omega)|skip)|(apply num_k;omega;omega)|(apply num_m;intro r hr)|(intro r hr))|(refine RT.id ?_;first|refine RT.nil ?_|(apply RT.ld T;exact rfl;(focus ((repeat constructor);done));iterate 4 exact rfl)|(apply RT.st T;(iterate 3 exact rfl);(focus ((repeat constructor);done));(focus repeat constructor);iterate 2 exact rfl)|((first|apply RT.box|apply RT.alloc T);(iterate 4 exact rfl);intro b)|((first|apply RT.pnil T|apply RT.pnnil T);iterate 6 exact rfl)|(refine RT.isPush ?_;refine RT.pushI T rfl rfl rfl (fun a' c'=>by ((repeat constructor);done)) (by omega) (by omega) rfl rfl rfl rfl (fun a' c' b' c1' hac=>?_))|refine RT.build T rfl rfl rfl rfl rfl ?_|(apply RT.lens T;iterate 4 exact rfl))|(refine AtQ.id_ ?_;first|refine nx ?_|refine A0 ?_|refine A9 ?_|refine AtQ.in_ne rfl ?_)|(refine CT.id_ ?_;first|refine nx ?_|refine CT.region ?_|refine CT.quiet mixed (by kernel_rfl) ?_|refine CT.cond_t rfl ?_|refine CT.cond_f rfl ?_))
  all_goals exact AtQ.f2 Try.results12 rfl rfl rfl rfl (fun _ h => h)
def WS.done (S : WS) : List Int × Int := if S.e = 0 then (if S.op.length = 0 then (S.b, 0) else ([], 1)) else ([], S.e)
set_option maxHeartbeats 1000000 in
theorem done_fn {p : Nat} {S : WS} (hS : S.ok) (ho : S.op.length ≤ 140737488355328) :
    Sp B Try.prog 14 [ptr p] R [Wr p S] (fun u H' => ∃ a c, u = .tuple #[sl8 a (WS.done S).1.length c, .int .i64 (WS.done S).2] ∧ H' = [own8 a c (WS.done S).1 (WS.done S).1.length, Wr p S]) := by
  obtain ⟨k0, k1, k2⟩ := hS
  refine Sp.body Try.func14 rfl Try.ntmps14 (by simp) ?_
  simp only [argE, List.cons_append, List.nil_append, Nat.zero_add, Nat.reduceAdd]
  refine CT.wr fun x => ?_
  repeat' (first|((first|refine vc_id ?_|(refine RT.id ?_;refine RT.c T ?_));(conv=>whnf);first|refine RT.id ?_|(refine⟨fun hc=>?_,fun hc=>?_⟩<;>first|(exfalso;omega)|skip)|(apply num_k;omega;omega)|(apply num_m;intro r hr)|(intro r hr))|(refine RT.id ?_;first|refine RT.nil ?_|(apply RT.ld T;exact rfl;(focus ((repeat constructor);done));iterate 4 exact rfl)|(apply RT.st T;(iterate 3 exact rfl);(focus ((repeat constructor);done));(focus repeat constructor);iterate 2 exact rfl)|((first|apply RT.box|apply RT.alloc T);(iterate 4 exact rfl);intro b)|((first|apply RT.pnil T|apply RT.pnnil T);iterate 6 exact rfl)|(refine RT.isPush ?_;refine RT.pushI T rfl rfl rfl (fun a' c'=>by ((repeat constructor);done)) (by omega) (by omega) rfl rfl rfl rfl (fun a' c' b' c1' hac=>?_))|refine RT.build T rfl rfl rfl rfl rfl ?_|(apply RT.lens T;iterate 4 exact rfl))|(refine AtQ.id_ ?_;first|refine nx ?_|refine A0 ?_|refine A9 ?_|refine AtQ.in_ne rfl ?_)|(refine CT.id_ ?_;first|refine nx ?_|refine CT.region ?_|refine CT.quiet mixed (by kernel_rfl) ?_|refine CT.cond_t rfl ?_|refine CT.cond_f rfl ?_))
  · have hd : WS.done S = ([], 1) := by unfold WS.done; rw [if_pos (by assumption), if_neg (by omega)]
    rw [hd]
    refine AtQ.fin2 (H' := [own8 none 0 [] 0, Wr p S]) Try.results14 rfl rfl ⟨_, _, rfl, rfl⟩ (fun w h => ?_)
    exact Sat.fr (Ps := [_, _]) (Wr.in_ x (Sat.fr (Ps := [_, _, _]) (Sat.nilOwn (e := 5) (sz := 1) h) (by (repeat (first|exact Fr.nil|(apply Fr.cons;focus ((repeat constructor);done))))))) (by (repeat (first|exact Fr.nil|(apply Fr.cons;focus ((repeat constructor);done)))))
  · have hd : WS.done S = (S.b, 0) := by unfold WS.done; rw [if_pos (by assumption), if_pos (by omega)]
    rw [hd]
    refine RT.fact (Own.factsI (ki := .u8) (l := S.b) (by ((repeat constructor);done))) (fun hf => ?_)
    refine RT.call T rfl (by (repeat (first|exact Fr.nil|(apply Fr.cons;focus ((repeat constructor);done))))) (clone_fn (Own.rdI (by ((repeat constructor);done)) rfl hf.2.1) (by omega)) rfl rfl rfl ?_
    rintro _ _ ⟨a', c', rfl, rfl⟩
    simp only [List.cons_append, List.nil_append]
    repeat' (first|((first|refine vc_id ?_|(refine RT.id ?_;refine RT.c T ?_));(conv=>whnf);first|refine RT.id ?_|(refine⟨fun hc=>?_,fun hc=>?_⟩<;>first|(exfalso;omega)|skip)|(apply num_k;omega;omega)|(apply num_m;intro r hr)|(intro r hr))|(refine RT.id ?_;first|refine RT.nil ?_|(apply RT.ld T;exact rfl;(focus ((repeat constructor);done));iterate 4 exact rfl)|(apply RT.st T;(iterate 3 exact rfl);(focus ((repeat constructor);done));(focus repeat constructor);iterate 2 exact rfl)|((first|apply RT.box|apply RT.alloc T);(iterate 4 exact rfl);intro b)|((first|apply RT.pnil T|apply RT.pnnil T);iterate 6 exact rfl)|(refine RT.isPush ?_;refine RT.pushI T rfl rfl rfl (fun a' c'=>by ((repeat constructor);done)) (by omega) (by omega) rfl rfl rfl rfl (fun a' c' b' c1' hac=>?_))|refine RT.build T rfl rfl rfl rfl rfl ?_|(apply RT.lens T;iterate 4 exact rfl))|(refine AtQ.id_ ?_;first|refine nx ?_|refine A0 ?_|refine A9 ?_|refine AtQ.in_ne rfl ?_)|(refine CT.id_ ?_;first|refine nx ?_|refine CT.region ?_|refine CT.quiet mixed (by kernel_rfl) ?_|refine CT.cond_t rfl ?_|refine CT.cond_f rfl ?_))
    refine AtQ.fin2 (H' := [own8 a' c' S.b S.b.length, Wr p S]) Try.results14 rfl rfl ⟨_, _, rfl, rfl⟩ (fun w h => ?_)
    exact Sat.fr (Ps := [_, _]) (Wr.in_ x (Sat.fr (Ps := [_, _, _]) h (by (repeat (first|exact Fr.nil|(apply Fr.cons;focus ((repeat constructor);done))))))) (by (repeat (first|exact Fr.nil|(apply Fr.cons;focus ((repeat constructor);done)))))
  · have hd : WS.done S = ([], S.e) := by unfold WS.done; rw [if_neg (by assumption)]
    rw [hd]
    refine AtQ.fin2 (H' := [own8 none 0 [] 0, Wr p S]) Try.results14 rfl rfl ⟨_, _, rfl, rfl⟩ (fun w h => ?_)
    exact Sat.fr (Ps := [_, _]) (Wr.in_ x (Sat.fr (Ps := [_, _, _]) (Sat.nilOwn (e := 5) (sz := 1) h) (by (repeat (first|exact Fr.nil|(apply Fr.cons;focus ((repeat constructor);done))))))) (by (repeat (first|exact Fr.nil|(apply Fr.cons;focus ((repeat constructor);done)))))
/-- A varint of j bytes more than it needs. -/
def padL (l : List Int) (x : Int) (j : Nat) : List Int := if j = 0 then l ++ [x] else l ++ (x + 128) :: (List.replicate (j - 1) 128 ++ [0])
theorem padL_len (l : List Int) (x : Int) (j : Nat) : (padL l x j).length = l.length + 1 + j := by
  unfold padL
  split
  · simp; omega
  · simp; omega
theorem padL_last (l : List Int) (x : Int) (j : Nat) : (padL l x j).getD (l.length + j) 0 = if j = 0 then x else 0 := by
  unfold padL
  split
  · rename_i h; subst h; simp
  · rename_i h
    rw [List.getD_eq_getElem?_getD, List.getElem?_append_right (by omega)]
    obtain ⟨k, rfl⟩ : ∃ k, j = k + 1 := ⟨j - 1, by omega⟩
    rw [show l.length + (k + 1) - l.length = k + 1 by omega, List.getElem?_cons_succ, List.getElem?_append_right (by simp)]
    simp
theorem padL_set (l : List Int) (x : Int) (j : Nat) : (padL l x j).set (l.length + j) ((if j = 0 then x else 0) + 128) ++ [0] = padL l x (j + 1) := by
  unfold padL
  rw [if_neg (by omega : ¬ j + 1 = 0)]
  split
  · rename_i h; subst h; simp
  · rename_i h
    obtain ⟨k, rfl⟩ : ∃ k, j = k + 1 := ⟨j - 1, by omega⟩
    rw [List.set_append_right _ _ (by omega), show l.length + (k + 1) - l.length = k + 1 by omega, List.set_cons_succ, List.set_append_right _ _ (by simp)]
    simp [List.replicate_succ']
/-- The state of the padding loop. -/
structure SP where
  i : Nat
  a : Option Addr
  c : Nat
set_option maxHeartbeats 1000000 in
theorem padded_fn {v : Int} {more_ : Nat} (hv : V64 v) (hm : more_ ≤ 1000000) {l : List Int} {x : Int} (he : enc v = l ++ [x]) (hx0 : 0 ≤ x) (hx1 : x < 128) :
    Sp B Try.prog 16 [.int .u64 v, .int .i64 more_] R [] (fun u H' => ∃ a c j, j = min more_ (9 - l.length) ∧ u = sl8 a (l.length + 1 + j) c ∧ H' = [own8 a c (padL l x j) (l.length + 1 + j)]) := by
  have hlen := (enc_len hv).2.1
  rw [he, List.length_append, List.length_singleton] at hlen
  refine Sp.body Try.func16 rfl Try.ntmps16 (by simp) ?_
  simp only [argE, List.cons_append, List.nil_append, Nat.zero_add, Nat.reduceAdd]
  repeat' (first|((first|refine vc_id ?_|(refine RT.id ?_;refine RT.c T ?_));(conv=>whnf);first|refine RT.id ?_|(refine⟨fun hc=>?_,fun hc=>?_⟩<;>first|(exfalso;omega)|skip)|(apply num_k;omega;omega)|(apply num_m;intro r hr)|(intro r hr))|(refine RT.id ?_;first|refine RT.nil ?_|(apply RT.ld T;exact rfl;(focus ((repeat constructor);done));iterate 4 exact rfl)|(apply RT.st T;(iterate 3 exact rfl);(focus ((repeat constructor);done));(focus repeat constructor);iterate 2 exact rfl)|((first|apply RT.box|apply RT.alloc T);(iterate 4 exact rfl);intro b)|((first|apply RT.pnil T|apply RT.pnnil T);iterate 6 exact rfl)|(refine RT.isPush ?_;refine RT.pushI T rfl rfl rfl (fun a' c'=>by ((repeat constructor);done)) (by omega) (by omega) rfl rfl rfl rfl (fun a' c' b' c1' hac=>?_))|refine RT.build T rfl rfl rfl rfl rfl ?_|(apply RT.lens T;iterate 4 exact rfl))|(refine AtQ.id_ ?_;first|refine nx ?_|refine A0 ?_|refine A9 ?_|refine AtQ.in_ne rfl ?_)|(refine CT.id_ ?_;first|refine nx ?_|refine CT.region ?_|refine CT.quiet mixed (by kernel_rfl) ?_|refine CT.cond_t rfl ?_|refine CT.cond_f rfl ?_))
  refine RT.call T rfl (by (repeat (first|exact Fr.nil|(apply Fr.cons;focus ((repeat constructor);done))))) (shortest_fn hv) rfl rfl rfl ?_
  rintro _ _ ⟨a', c', rfl, rfl⟩
  simp only [List.cons_append, List.nil_append, he, List.length_append, List.length_singleton]
  repeat' (first|((first|refine vc_id ?_|(refine RT.id ?_;refine RT.c T ?_));(conv=>whnf);first|refine RT.id ?_|(refine⟨fun hc=>?_,fun hc=>?_⟩<;>first|(exfalso;omega)|skip)|(apply num_k;omega;omega)|(apply num_m;intro r hr)|(intro r hr))|(refine RT.id ?_;first|refine RT.nil ?_|(apply RT.ld T;exact rfl;(focus ((repeat constructor);done));iterate 4 exact rfl)|(apply RT.st T;(iterate 3 exact rfl);(focus ((repeat constructor);done));(focus repeat constructor);iterate 2 exact rfl)|((first|apply RT.box|apply RT.alloc T);(iterate 4 exact rfl);intro b)|((first|apply RT.pnil T|apply RT.pnnil T);iterate 6 exact rfl)|(refine RT.isPush ?_;refine RT.pushI T rfl rfl rfl (fun a' c'=>by ((repeat constructor);done)) (by omega) (by omega) rfl rfl rfl rfl (fun a' c' b' c1' hac=>?_))|refine RT.build T rfl rfl rfl rfl rfl ?_|(apply RT.lens T;iterate 4 exact rfl))|(refine AtQ.id_ ?_;first|refine nx ?_|refine A0 ?_|refine A9 ?_|refine AtQ.in_ne rfl ?_)|(refine CT.id_ ?_;first|refine nx ?_|refine CT.region ?_|refine CT.quiet mixed (by kernel_rfl) ?_|refine CT.cond_t rfl ?_|refine CT.cond_f rfl ?_))
  refine CT.loop (α := SP) (fun s => [(1, .int .i64 more_), (5, sl8 s.a (l.length + 1 + s.i) s.c), (6, .int .i64 s.i)]) (fun s => Pu (s.i ≤ more_ ∧ s.i ≤ 9 - l.length) :: own8 s.a s.c (padL l x s.i) (l.length + 1 + s.i) :: R) (fun s => more_ - s.i) ⟨0, a', c'⟩ ⟨rfl, rfl, rfl, trivial⟩
    (fun w h => Sat.pu_in ⟨by simp only; omega, by simp only; omega⟩ h) (fun s => CT.pu fun hs => ?_)
  obtain ⟨s1, s2⟩ := hs
  repeat' (first|((first|refine vc_id ?_|(refine RT.id ?_;refine RT.c T ?_));(conv=>whnf);first|refine RT.id ?_|(refine⟨fun hc=>?_,fun hc=>?_⟩<;>first|(exfalso;omega)|skip)|(apply num_k;omega;omega)|(apply num_m;intro r hr)|(intro r hr))|(refine RT.id ?_;first|refine RT.nil ?_|(apply RT.ld T;exact rfl;(focus ((repeat constructor);done));iterate 4 exact rfl)|(apply RT.st T;(iterate 3 exact rfl);(focus ((repeat constructor);done));(focus repeat constructor);iterate 2 exact rfl)|((first|apply RT.box|apply RT.alloc T);(iterate 4 exact rfl);intro b)|((first|apply RT.pnil T|apply RT.pnnil T);iterate 6 exact rfl)|(refine RT.isPush ?_;refine RT.pushI T rfl rfl rfl (fun a' c'=>by ((repeat constructor);done)) (by omega) (by omega) rfl rfl rfl rfl (fun a' c' b' c1' hac=>?_))|refine RT.build T rfl rfl rfl rfl rfl ?_|(apply RT.lens T;iterate 4 exact rfl))|(refine AtQ.id_ ?_;first|refine nx ?_|refine A0 ?_|refine A9 ?_|refine AtQ.in_ne rfl ?_)|(refine CT.id_ ?_;first|refine nx ?_|refine CT.region ?_|refine CT.quiet mixed (by kernel_rfl) ?_|refine CT.cond_t rfl ?_|refine CT.cond_f rfl ?_))
  · refine RT.fact (Own.factsI (l := padL l x s.i) (by ((repeat constructor);done))) (fun hf => ?_)
    have hR := fun (H : List HP) (R : List HP) (hs : Sel H (own8 s.a s.c (padL l x s.i) (l.length + 1 + s.i)) R) => Own.rdI (B := B) hs (by rw [padL_len]) hf.2.1
    refine RT.ix T (j := l.length + s.i) rfl rfl rfl (hR _ _ (by ((repeat constructor);done))) (by omega) (by omega) (by omega) rfl rfl ?_
    refine RT.ldi T rfl (hR _ _ (by ((repeat constructor);done))) (by rw [padL_len]; omega) rfl rfl rfl ?_
    rw [padL_last]
    have hb : isByte (if s.i = 0 then x else 0) := by split <;> exact ⟨by omega, by omega⟩
    refine RT.ar rfl rfl (y_or rfl rfl (or128 hb)) rfl rfl ?_
    have e1 : (if s.i = 0 then x else 0) % 128 + 128 = (if s.i = 0 then x else 0) + 128 := by split <;> omega
    rw [e1]
    refine RT.ix T (j := l.length + s.i) rfl rfl rfl (hR _ _ (by ((repeat constructor);done))) (by omega) (by omega) (by omega) rfl rfl ?_
    refine RT.stoI T rfl rfl (by ((repeat constructor);done)) (by rw [padL_len]; omega) rfl rfl ?_
    repeat' (first|((first|refine vc_id ?_|(refine RT.id ?_;refine RT.c T ?_));(conv=>whnf);first|refine RT.id ?_|(refine⟨fun hc=>?_,fun hc=>?_⟩<;>first|(exfalso;omega)|skip)|(apply num_k;omega;omega)|(apply num_m;intro r hr)|(intro r hr))|(refine RT.id ?_;first|refine RT.nil ?_|(apply RT.ld T;exact rfl;(focus ((repeat constructor);done));iterate 4 exact rfl)|(apply RT.st T;(iterate 3 exact rfl);(focus ((repeat constructor);done));(focus repeat constructor);iterate 2 exact rfl)|((first|apply RT.box|apply RT.alloc T);(iterate 4 exact rfl);intro b)|((first|apply RT.pnil T|apply RT.pnnil T);iterate 6 exact rfl)|(refine RT.isPush ?_;refine RT.pushI T rfl rfl rfl (fun a' c'=>by ((repeat constructor);done)) (by omega) (by omega) rfl rfl rfl rfl (fun a' c' b' c1' hac=>?_))|refine RT.build T rfl rfl rfl rfl rfl ?_|(apply RT.lens T;iterate 4 exact rfl))|(refine AtQ.id_ ?_;first|refine nx ?_|refine A0 ?_|refine A9 ?_|refine AtQ.in_ne rfl ?_)|(refine CT.id_ ?_;first|refine nx ?_|refine CT.region ?_|refine CT.quiet mixed (by kernel_rfl) ?_|refine CT.cond_t rfl ?_|refine CT.cond_f rfl ?_))
    rw [padL_set]
    exact AtQ.loop ⟨s.i + 1, a', c'⟩ ⟨rfl, rfl, rfl, trivial⟩ (fun w h => Sat.pu_in ⟨by simp only; omega, by simp only; omega⟩ h) (by simp only; omega)
  all_goals
    refine AtQ.fin1 (H' := [own8 s.a s.c (padL l x s.i) (l.length + 1 + s.i)]) Try.results16 rfl ?_ (fun w h => h)
    exact ⟨s.a, s.c, s.i, by omega, rfl, rfl⟩
end Go.Proofs.Ytldfbjcicbfidaa
