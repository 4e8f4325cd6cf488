/- Walks: strings.Builder's Grow, strings.Join. -/
import Derived.Test.YtbpelgbblpeojaaDoorB3
import Derived.Lib.MakeNoZero
import Derived.Laws.Externs
set_option linter.unusedVariables false
set_option linter.unusedSimpArgs false
namespace Go.Proofs.YtbpelgbblpeojaaDoor
open Go.Sk
set_option maxRecDepth 100000
variable {B : World} {R : List HP}
section
variable {n : Fm} {l0 rest : List Oper} {E : Env} {H : List HP} {Q : Exit → Act → World → Prop} {d : Nat} {ty : TypeId} {pos : String} {af : Array Edge} {g : Option (Nat × Bool)} {x y : Operand}
theorem RT.nozero {m : Nat} (hx : ev E x = some (.int .i64 (m : Int))) (hm : m ≤ 281474976710656) (hw : wt l0 E g = some true) (hd : Nat.blt d n = true)
    (kk : ∀ g0 c, m ≤ c → RT B Tryd.prog n true l0 rest ((d, .slice (some ⟨g0, 0, none⟩) m c) :: E) (Own (some ⟨g0, 0, none⟩) c 5 1 0 [] :: H) Q) :
    RT B Tryd.prog n true l0 (⟨some d, .call { callee := .value (.func 105), args := #[x], argTypes := #[3] }, ty, pos, af, g⟩ :: rest) E H Q :=
  RT.eff hw fun o aa w K ho hty hdd hA hS hK => by
    obtain ⟨cs, hrun, hle, hmax⟩ := Lib.run_makeNoZero (P := Tryd.prog) w #[3] 23 5 Tryd.underlying23 m hm
    have hx' := hA.ev hx
    have hcall : (callFunc 105 #[.int .i64 (m : Int)]).run Tryd.prog w = .ok (.value (.slice (some ⟨w.heap.size, 0, none⟩) m cs.size)) (w.drew.drew.alloc (.cells cs 5)) := by
      rw [run_callFunc_extern Tryd.func105 (by kernel_rfl) (by kernel_rfl) (by kernel_rfl) (e := Extern.BytealgMakeNoZero.makeNoZero #[3] #[23]) (by kernel_rfl), hrun]
      rfl
    have hS' : Sat B (Own (some ⟨w.heap.size, 0, none⟩) cs.size 5 1 0 [] :: H) (w.drew.drew.alloc (.cells cs 5)) :=
      hS.new rfl rfl rfl rfl fun h _ hb => by
        unfold Own
        exact ⟨rfl, Nat.zero_le _, hmax (by unfold maxLen; omega), .inr ⟨_, cs, rfl, hb, by omega, by simp⟩⟩
    have hex : (execOp aa.eval o).run Tryd.prog w = .ok (.value (.slice (some ⟨w.heap.size, 0, none⟩) m cs.size)) (w.drew.drew.alloc (.cells cs 5)) := by
      unfold execOp
      simp only [ho, resolve, Sem.run_bind, List.map_toArray, List.map_cons, List.map_nil, hx', Sem.run_pure, Result.andThen_ok]
      simp only [Act.eval, Deferred.ofValue, invoke]
      simpa using hcall
    unfold Oper.wp
    rw [hex]
    simp only [Oper.upon, hdd]
    have hk2 := kk w.heap.size cs.size hle
    exact hK _ _ (hk2 _ _ (hA.put (by simpa [Nat.blt_eq] using hd) _) hS')
theorem RT.copy0 {m : Bool} {b bS : Option Addr} {kd cd c2 e bb t : Nat} (hx : ev E x = some (.slice b kd cd)) (hy : ev E y = some (.slice bS 0 c2)) (ht : al T.slcs t = some (e, 1, bb)) (hw : wt l0 E g = some true) (hd : Nat.blt d n = true)
    (kt : RT B Tryd.prog n m l0 rest ((d, .int .i64 0) :: E) H Q) : RT B Tryd.prog n m l0 (⟨some d, .call { callee := .builtin .copy, args := #[x, y], argTypes := #[t, t] }, ty, pos, af, g⟩ :: rest) E H Q :=
  RT.y hw (by simpa [Nat.blt_eq] using hd) (y_run fun o aa w ho _ hA _ => by
    obtain ⟨hu, i, hi, hz, _⟩ := slcB_spec (T.slc ht)
    unfold execOp
    simp only [ho, resolve, invoke, builtin, List.map_toArray, List.map_cons, List.map_nil, hA.ev hx, hA.ev hy, Sem.run_bind, Sem.run_pure, Result.andThen_ok]
    rw [run_copy_none w t t _ e b bS kd cd 0 c2 hu (by rw [hi]; simp [hz]) (Nat.zero_min _)]
    rfl) kt
end
theorem asub0 (g0 c z : Nat) : asub (some ⟨g0, 0, none⟩) c z 0 = some ⟨g0, 0, none⟩ := by
  unfold asub
  split
  · rfl
  · simp [Addr.add]
attribute [local irreducible] Cs Own Ex Pu Yld RT LJ QJ AtQ CT Rd QSp Sp FinQ Then LoopQ CutQ DT TakeQ EffQ
attribute [local irreducible] Bd
variable {B : World} {R : List HP}
theorem grow_fn {b n : Nat} (hn : n ≤ 281474976710656) : Sp B Tryd.prog 95 [ptr b, .int .i64 n] R [Cs b 59 [ptr b, .slice none 0 0]] (fun u H' => u = .tuple #[] ∧ H' = [Bd b []]) := by
  refine Sp.body Tryd.func95 rfl Tryd.ntmps95 (by simp) ?_
  simp only [argE, List.cons_append, List.nil_append, Nat.zero_add, Nat.reduceAdd]
  refine CT.seq ?_
  refine CT.drawn [Cs b 59 [ptr b, .slice none 0 0]] 14 mixed ?_
  (refine DT.takes (k := 3) [0, 1, 2, 3, 4, 5, 6, 7, 9, 10, 11, 12, 13] [8, 14] (fun w h => Sat.ones (by (repeat (first|exact Fr.nil|(apply Fr.cons;focus ((repeat constructor);done))))) h) (by kernel_rfl) (by kernel_rfl) (by kernel_rfl) rfl (Clos.ofB (by kernel_rfl)) ?_)
  repeat' (first|((first|refine vc_id ?_|(refine RT.id ?_;refine RT.c T ?_));(conv=>whnf);first|refine RT.id ?_|(refine⟨fun hc=>?_,fun hc=>?_⟩<;>first|(exfalso;omega)|skip)|((first|apply num_i64|apply num_u64|apply num_u8|apply num_i32|apply num_u32);omega;omega)|((first|apply num_u64m|apply num_u8m|apply num_u32m);intro r hr)|(intro r hr))|(refine RT.id ?_;first|refine RT.nil ?_|(apply RT.ld T;exact rfl;(focus ((repeat constructor);done));iterate 4 exact rfl)|(apply RT.st T;(iterate 3 exact rfl);(focus ((repeat constructor);done));(focus repeat constructor);iterate 2 exact rfl)|((first|apply RT.box|apply RT.alloc T);(iterate 4 exact rfl);intro b)|((first|apply RT.pnil T|apply RT.pnnil T);iterate 6 exact rfl)|(refine RT.isPush ?_;refine RT.pushI T rfl rfl rfl (fun a' c'=>by ((repeat constructor);done)) (by omega) (by omega) rfl rfl rfl rfl (fun a' c' b' c1' hac=>?_))|refine RT.build T rfl rfl rfl rfl rfl ?_|(apply RT.lens T;iterate 4 exact rfl))|(refine AtQ.id_ ?_;first|refine A0 ?_|refine A1 ?_|refine A2 ?_|refine A3 ?_|refine A4 ?_|refine A5 ?_|refine A6 ?_|refine A7 ?_|refine A8 ?_|refine A9 ?_|refine AtQ.in_ne rfl ?_|refine AA ?_|refine AB ?_|refine AC ?_|refine AD ?_)|(refine CT.id_ ?_;first|(refine CT.seq ?_) | (refine CT.region ?_) | (refine CT.quiet mixed (by kernel_rfl) ?_) | (refine CT.cond_t rfl ?_) | (refine CT.cond_f rfl ?_) | (refine CT.skip ?_) | (refine CT.ret ?_) | (refine CT.exit ?_) | (refine CT.block ?_)))
  refine AtQ.take ?_
  (refine DT.eff 8 rfl (by kernel_rfl) ?_)
  rw [show (2 : Int) * ((0 : Nat) : Int) + (n : Int) = n by omega]
  refine RT.nozero rfl hn rfl rfl (fun g0 c hc => ?_)
  (refine RT.nil ?_; refine AtQ.eff (fun w h => Sat.ones (by (repeat (first|exact Fr.nil|(apply Fr.cons;focus ((repeat constructor);done))))) h) ?_)
  (refine DT.eff 14 rfl (by kernel_rfl) ?_)
  refine RT.slhi T (j := 0) rfl rfl rfl (by omega) rfl rfl rfl ?_
  rw [asub0]
  (refine RT.nil ?_; refine AtQ.eff' (by kernel_rfl) ?_)
  (refine DT.eff 15 rfl (by kernel_rfl) ?_)
  repeat' (first|((first|refine vc_id ?_|(refine RT.id ?_;refine RT.c T ?_));(conv=>whnf);first|refine RT.id ?_|(refine⟨fun hc=>?_,fun hc=>?_⟩<;>first|(exfalso;omega)|skip)|((first|apply num_i64|apply num_u64|apply num_u8|apply num_i32|apply num_u32);omega;omega)|((first|apply num_u64m|apply num_u8m|apply num_u32m);intro r hr)|(intro r hr))|(refine RT.id ?_;first|refine RT.nil ?_|(apply RT.ld T;exact rfl;(focus ((repeat constructor);done));iterate 4 exact rfl)|(apply RT.st T;(iterate 3 exact rfl);(focus ((repeat constructor);done));(focus repeat constructor);iterate 2 exact rfl)|((first|apply RT.box|apply RT.alloc T);(iterate 4 exact rfl);intro b)|((first|apply RT.pnil T|apply RT.pnnil T);iterate 6 exact rfl)|(refine RT.isPush ?_;refine RT.pushI T rfl rfl rfl (fun a' c'=>by ((repeat constructor);done)) (by omega) (by omega) rfl rfl rfl rfl (fun a' c' b' c1' hac=>?_))|refine RT.build T rfl rfl rfl rfl rfl ?_|(apply RT.lens T;iterate 4 exact rfl))|(refine AtQ.id_ ?_;first|refine A0 ?_|refine A1 ?_|refine A2 ?_|refine A3 ?_|refine A4 ?_|refine A5 ?_|refine A6 ?_|refine A7 ?_|refine A8 ?_|refine A9 ?_|refine AtQ.in_ne rfl ?_|refine AA ?_|refine AB ?_|refine AC ?_|refine AD ?_)|(refine CT.id_ ?_;first|(refine CT.seq ?_) | (refine CT.region ?_) | (refine CT.quiet mixed (by kernel_rfl) ?_) | (refine CT.cond_t rfl ?_) | (refine CT.cond_f rfl ?_) | (refine CT.skip ?_) | (refine CT.ret ?_) | (refine CT.exit ?_) | (refine CT.block ?_)))
  refine AtQ.eff' (by kernel_rfl) ?_
  (refine DT.done (by kernel_rfl) ?_)
  repeat' (first|((first|refine vc_id ?_|(refine RT.id ?_;refine RT.c T ?_));(conv=>whnf);first|refine RT.id ?_|(refine⟨fun hc=>?_,fun hc=>?_⟩<;>first|(exfalso;omega)|skip)|((first|apply num_i64|apply num_u64|apply num_u8|apply num_i32|apply num_u32);omega;omega)|((first|apply num_u64m|apply num_u8m|apply num_u32m);intro r hr)|(intro r hr))|(refine RT.id ?_;first|refine RT.nil ?_|(apply RT.ld T;exact rfl;(focus ((repeat constructor);done));iterate 4 exact rfl)|(apply RT.st T;(iterate 3 exact rfl);(focus ((repeat constructor);done));(focus repeat constructor);iterate 2 exact rfl)|((first|apply RT.box|apply RT.alloc T);(iterate 4 exact rfl);intro b)|((first|apply RT.pnil T|apply RT.pnnil T);iterate 6 exact rfl)|(refine RT.isPush ?_;refine RT.pushI T rfl rfl rfl (fun a' c'=>by ((repeat constructor);done)) (by omega) (by omega) rfl rfl rfl rfl (fun a' c' b' c1' hac=>?_))|refine RT.build T rfl rfl rfl rfl rfl ?_|(apply RT.lens T;iterate 4 exact rfl))|(refine AtQ.id_ ?_;first|refine A0 ?_|refine A1 ?_|refine A2 ?_|refine A3 ?_|refine A4 ?_|refine A5 ?_|refine A6 ?_|refine A7 ?_|refine A8 ?_|refine A9 ?_|refine AtQ.in_ne rfl ?_|refine AA ?_|refine AB ?_|refine AC ?_|refine AD ?_)|(refine CT.id_ ?_;first|(refine CT.seq ?_) | (refine CT.region ?_) | (refine CT.quiet mixed (by kernel_rfl) ?_) | (refine CT.cond_t rfl ?_) | (refine CT.cond_f rfl ?_) | (refine CT.skip ?_) | (refine CT.ret ?_) | (refine CT.exit ?_) | (refine CT.block ?_)))
  refine RT.copy0 rfl rfl rfl rfl rfl ?_
  repeat' (first|((first|refine vc_id ?_|(refine RT.id ?_;refine RT.c T ?_));(conv=>whnf);first|refine RT.id ?_|(refine⟨fun hc=>?_,fun hc=>?_⟩<;>first|(exfalso;omega)|skip)|((first|apply num_i64|apply num_u64|apply num_u8|apply num_i32|apply num_u32);omega;omega)|((first|apply num_u64m|apply num_u8m|apply num_u32m);intro r hr)|(intro r hr))|(refine RT.id ?_;first|refine RT.nil ?_|(apply RT.ld T;exact rfl;(focus ((repeat constructor);done));iterate 4 exact rfl)|(apply RT.st T;(iterate 3 exact rfl);(focus ((repeat constructor);done));(focus repeat constructor);iterate 2 exact rfl)|((first|apply RT.box|apply RT.alloc T);(iterate 4 exact rfl);intro b)|((first|apply RT.pnil T|apply RT.pnnil T);iterate 6 exact rfl)|(refine RT.isPush ?_;refine RT.pushI T rfl rfl rfl (fun a' c'=>by ((repeat constructor);done)) (by omega) (by omega) rfl rfl rfl rfl (fun a' c' b' c1' hac=>?_))|refine RT.build T rfl rfl rfl rfl rfl ?_|(apply RT.lens T;iterate 4 exact rfl))|(refine AtQ.id_ ?_;first|refine A0 ?_|refine A1 ?_|refine A2 ?_|refine A3 ?_|refine A4 ?_|refine A5 ?_|refine A6 ?_|refine A7 ?_|refine A8 ?_|refine A9 ?_|refine AtQ.in_ne rfl ?_|refine AA ?_|refine AB ?_|refine AC ?_|refine AD ?_)|(refine CT.id_ ?_;first|(refine CT.seq ?_) | (refine CT.region ?_) | (refine CT.quiet mixed (by kernel_rfl) ?_) | (refine CT.cond_t rfl ?_) | (refine CT.cond_f rfl ?_) | (refine CT.skip ?_) | (refine CT.ret ?_) | (refine CT.exit ?_) | (refine CT.block ?_)))
  exact AtQ.f0 Tryd.results95 (fun w h => Bd.put (k := 0) h (by (repeat (first|exact Fr.nil|(apply Fr.cons;focus ((repeat constructor);done))))) rfl) (by first | exact .inl rfl | exact .inr rfl)
theorem Grow_fn {b n : Nat} (hn : n ≤ 281474976710656) : Sp B Tryd.prog 82 [ptr b, .int .i64 n] R [Cs b 59 [.pointer none, .slice none 0 0]] (fun u H' => u = .tuple #[] ∧ H' = [Bd b []]) := by
  refine Sp.body Tryd.func82 rfl Tryd.ntmps82 (by simp) ?_
  simp only [argE, List.cons_append, List.nil_append, Nat.zero_add, Nat.reduceAdd]
  repeat' (first|((first|refine vc_id ?_|(refine RT.id ?_;refine RT.c T ?_));(conv=>whnf);first|refine RT.id ?_|(refine⟨fun hc=>?_,fun hc=>?_⟩<;>first|(exfalso;omega)|skip)|((first|apply num_i64|apply num_u64|apply num_u8|apply num_i32|apply num_u32);omega;omega)|((first|apply num_u64m|apply num_u8m|apply num_u32m);intro r hr)|(intro r hr))|(refine RT.id ?_;first|refine RT.nil ?_|(apply RT.ld T;exact rfl;(focus ((repeat constructor);done));iterate 4 exact rfl)|(apply RT.st T;(iterate 3 exact rfl);(focus ((repeat constructor);done));(focus repeat constructor);iterate 2 exact rfl)|((first|apply RT.box|apply RT.alloc T);(iterate 4 exact rfl);intro b)|((first|apply RT.pnil T|apply RT.pnnil T);iterate 6 exact rfl)|(refine RT.isPush ?_;refine RT.pushI T rfl rfl rfl (fun a' c'=>by ((repeat constructor);done)) (by omega) (by omega) rfl rfl rfl rfl (fun a' c' b' c1' hac=>?_))|refine RT.build T rfl rfl rfl rfl rfl ?_|(apply RT.lens T;iterate 4 exact rfl))|(refine AtQ.id_ ?_;first|refine A0 ?_|refine A1 ?_|refine A2 ?_|refine A3 ?_|refine A4 ?_|refine A5 ?_|refine A6 ?_|refine A7 ?_|refine A8 ?_|refine A9 ?_|refine AtQ.in_ne rfl ?_|refine AA ?_|refine AB ?_|refine AC ?_|refine AD ?_)|(refine CT.id_ ?_;first|(refine CT.seq ?_) | (refine CT.region ?_) | (refine CT.quiet mixed (by kernel_rfl) ?_) | (refine CT.cond_t rfl ?_) | (refine CT.cond_f rfl ?_) | (refine CT.skip ?_) | (refine CT.ret ?_) | (refine CT.exit ?_) | (refine CT.block ?_)))
  (refine RT.call T rfl (by (repeat (first|exact Fr.nil|(apply Fr.cons;focus ((repeat constructor);done))))) (check_fn (.inl rfl)) rfl rfl rfl ?_; rintro _ _ ⟨rfl, rfl⟩; try simp only [List.cons_append, List.nil_append])
  repeat' (first|((first|refine vc_id ?_|(refine RT.id ?_;refine RT.c T ?_));(conv=>whnf);first|refine RT.id ?_|(refine⟨fun hc=>?_,fun hc=>?_⟩<;>first|(exfalso;omega)|skip)|((first|apply num_i64|apply num_u64|apply num_u8|apply num_i32|apply num_u32);omega;omega)|((first|apply num_u64m|apply num_u8m|apply num_u32m);intro r hr)|(intro r hr))|(refine RT.id ?_;first|refine RT.nil ?_|(apply RT.ld T;exact rfl;(focus ((repeat constructor);done));iterate 4 exact rfl)|(apply RT.st T;(iterate 3 exact rfl);(focus ((repeat constructor);done));(focus repeat constructor);iterate 2 exact rfl)|((first|apply RT.box|apply RT.alloc T);(iterate 4 exact rfl);intro b)|((first|apply RT.pnil T|apply RT.pnnil T);iterate 6 exact rfl)|(refine RT.isPush ?_;refine RT.pushI T rfl rfl rfl (fun a' c'=>by ((repeat constructor);done)) (by omega) (by omega) rfl rfl rfl rfl (fun a' c' b' c1' hac=>?_))|refine RT.build T rfl rfl rfl rfl rfl ?_|(apply RT.lens T;iterate 4 exact rfl))|(refine AtQ.id_ ?_;first|refine A0 ?_|refine A1 ?_|refine A2 ?_|refine A3 ?_|refine A4 ?_|refine A5 ?_|refine A6 ?_|refine A7 ?_|refine A8 ?_|refine A9 ?_|refine AtQ.in_ne rfl ?_|refine AA ?_|refine AB ?_|refine AC ?_|refine AD ?_)|(refine CT.id_ ?_;first|(refine CT.seq ?_) | (refine CT.region ?_) | (refine CT.quiet mixed (by kernel_rfl) ?_) | (refine CT.cond_t rfl ?_) | (refine CT.cond_f rfl ?_) | (refine CT.skip ?_) | (refine CT.ret ?_) | (refine CT.exit ?_) | (refine CT.block ?_)))
  · (refine RT.call T rfl (by (repeat (first|exact Fr.nil|(apply Fr.cons;focus ((repeat constructor);done))))) (grow_fn hn) rfl rfl rfl ?_; rintro _ _ ⟨rfl, rfl⟩; try simp only [List.cons_append, List.nil_append])
    repeat' (first|((first|refine vc_id ?_|(refine RT.id ?_;refine RT.c T ?_));(conv=>whnf);first|refine RT.id ?_|(refine⟨fun hc=>?_,fun hc=>?_⟩<;>first|(exfalso;omega)|skip)|((first|apply num_i64|apply num_u64|apply num_u8|apply num_i32|apply num_u32);omega;omega)|((first|apply num_u64m|apply num_u8m|apply num_u32m);intro r hr)|(intro r hr))|(refine RT.id ?_;first|refine RT.nil ?_|(apply RT.ld T;exact rfl;(focus ((repeat constructor);done));iterate 4 exact rfl)|(apply RT.st T;(iterate 3 exact rfl);(focus ((repeat constructor);done));(focus repeat constructor);iterate 2 exact rfl)|((first|apply RT.box|apply RT.alloc T);(iterate 4 exact rfl);intro b)|((first|apply RT.pnil T|apply RT.pnnil T);iterate 6 exact rfl)|(refine RT.isPush ?_;refine RT.pushI T rfl rfl rfl (fun a' c'=>by ((repeat constructor);done)) (by omega) (by omega) rfl rfl rfl rfl (fun a' c' b' c1' hac=>?_))|refine RT.build T rfl rfl rfl rfl rfl ?_|(apply RT.lens T;iterate 4 exact rfl))|(refine AtQ.id_ ?_;first|refine A0 ?_|refine A1 ?_|refine A2 ?_|refine A3 ?_|refine A4 ?_|refine A5 ?_|refine A6 ?_|refine A7 ?_|refine A8 ?_|refine A9 ?_|refine AtQ.in_ne rfl ?_|refine AA ?_|refine AB ?_|refine AC ?_|refine AD ?_)|(refine CT.id_ ?_;first|(refine CT.seq ?_) | (refine CT.region ?_) | (refine CT.quiet mixed (by kernel_rfl) ?_) | (refine CT.cond_t rfl ?_) | (refine CT.cond_f rfl ?_) | (refine CT.skip ?_) | (refine CT.ret ?_) | (refine CT.exit ?_) | (refine CT.block ?_)))
    exact AtQ.f0 Tryd.results82 (fun w h => by exact h) (by first | exact .inl rfl | exact .inr rfl)
  · exact AtQ.f0 Tryd.results82 (fun w h => Bd.in_ ⟨_, none, 0⟩ (.inr rfl) (Sat.fr (Ps := [Cs b 59 [ptr b, .slice none 0 0], own8 none 0 []]) (Sat.nilOwn (e := 5) (sz := 1) h) (by (repeat (first|exact Fr.nil|(apply Fr.cons;focus ((repeat constructor);done))))))) (by first | exact .inl rfl | exact .inr rfl)
end Go.Proofs.YtbpelgbblpeojaaDoor
