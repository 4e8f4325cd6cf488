/- Walks: the shortest varint by itself, a copy of bytes, a new reader, how long a number is. -/
import Derived.Test.YtldfbjcicbfidaaR2
set_option linter.unusedVariables false
set_option linter.unusedSimpArgs false
namespace Go.Proofs.Ytldfbjcicbfidaa
open Go.Sk
set_option maxRecDepth 100000
attribute [local irreducible] Cs Own Ex Pu Yld RT LJ QJ AtQ CT Rd QSp Sp FinQ Then LoopQ CutQ DT TakeQ EffQ
variable {B : World} {R : List HP}

set_option maxHeartbeats 1000000 in
theorem shortest_fn {v : Int} (hv : V64 v) :
    Sp B Try.prog 60 [.int .u64 v] R [] (fun u H' => ∃ a' c', u = sl8 a' (enc v).length c' ∧ H' = [own8 a' c' (enc v) (enc v).length]) := by
  refine Sp.body Try.func60 rfl Try.ntmps60 (by simp) ?_
  simp only [argE, List.cons_append, List.nil_append, Nat.zero_add, Nat.reduceAdd]
  repeat' (first|((first|refine vc_id ?_|(refine RT.id ?_;refine RT.c T ?_));(conv=>whnf);first|refine RT.id ?_|(refine⟨fun hc=>?_,fun hc=>?_⟩<;>first|(exfalso;omega)|skip)|(apply num_k;omega;omega)|(apply num_m;intro r hr)|(intro r hr))|(refine RT.id ?_;first|refine RT.nil ?_|(apply RT.ld T;exact rfl;(focus ((repeat constructor);done));iterate 4 exact rfl)|(apply RT.st T;(iterate 3 exact rfl);(focus ((repeat constructor);done));(focus repeat constructor);iterate 2 exact rfl)|((first|apply RT.box|apply RT.alloc T);(iterate 4 exact rfl);intro b)|((first|apply RT.pnil T|apply RT.pnnil T);iterate 6 exact rfl)|(refine RT.isPush ?_;refine RT.pushI T rfl rfl rfl (fun a' c'=>by ((repeat constructor);done)) (by omega) (by omega) rfl rfl rfl rfl (fun a' c' b' c1' hac=>?_))|refine RT.build T rfl rfl rfl rfl rfl ?_|(apply RT.lens T;iterate 4 exact rfl))|(refine AtQ.id_ ?_;first|refine nx ?_|refine A0 ?_|refine A9 ?_|refine AtQ.in_ne rfl ?_)|(refine CT.id_ ?_;first|refine nx ?_|refine CT.region ?_|refine CT.quiet mixed (by kernel_rfl) ?_|refine CT.cond_t rfl ?_|refine CT.cond_f rfl ?_))
  refine CT.weak (fun w h => Sat.nilOwn (e := 5) (sz := 1) h) ?_
  refine CT.loop (α := SV) (fun s => [(3, sl8 s.a s.k s.c), (0, .int .u64 s.v)]) (fun s => Pu (s.ok v) :: own8 s.a s.c s.p s.k :: R) (fun s => s.f) ⟨9, v, [], 0, none, 0⟩ ⟨rfl, rfl, trivial⟩
    (fun w h => Sat.pu_in (SV.ok0 hv none 0) h) (fun s => CT.pu fun hs => ?_)
  have hs' := hs
  obtain ⟨h0, h1, h2, h3, h4, h5, h6⟩ := hs'
  have hvb := hv.2
  repeat' (first|((first|refine vc_id ?_|(refine RT.id ?_;refine RT.c T ?_));(conv=>whnf);first|refine RT.id ?_|(refine⟨fun hc=>?_,fun hc=>?_⟩<;>first|(exfalso;omega)|skip)|(apply num_k;omega;omega)|(apply num_m;intro r hr)|(intro r hr))|(refine RT.id ?_;first|refine RT.nil ?_|(apply RT.ld T;exact rfl;(focus ((repeat constructor);done));iterate 4 exact rfl)|(apply RT.st T;(iterate 3 exact rfl);(focus ((repeat constructor);done));(focus repeat constructor);iterate 2 exact rfl)|((first|apply RT.box|apply RT.alloc T);(iterate 4 exact rfl);intro b)|((first|apply RT.pnil T|apply RT.pnnil T);iterate 6 exact rfl)|(refine RT.isPush ?_;refine RT.pushI T rfl rfl rfl (fun a' c'=>by ((repeat constructor);done)) (by omega) (by omega) rfl rfl rfl rfl (fun a' c' b' c1' hac=>?_))|refine RT.build T rfl rfl rfl rfl rfl ?_|(apply RT.lens T;iterate 4 exact rfl))|(refine AtQ.id_ ?_;first|refine nx ?_|refine A0 ?_|refine A9 ?_|refine AtQ.in_ne rfl ?_)|(refine CT.id_ ?_;first|refine nx ?_|refine CT.region ?_|refine CT.quiet mixed (by kernel_rfl) ?_|refine CT.cond_t rfl ?_|refine CT.cond_f rfl ?_))
  · refine RT.rem rfl rfl (by omega) (r := s.v % 128) (Int.tmod_eq_emod_of_nonneg h0) rfl rfl ?_
    repeat' (first|((first|refine vc_id ?_|(refine RT.id ?_;refine RT.c T ?_));(conv=>whnf);first|refine RT.id ?_|(refine⟨fun hc=>?_,fun hc=>?_⟩<;>first|(exfalso;omega)|skip)|(apply num_k;omega;omega)|(apply num_m;intro r hr)|(intro r hr))|(refine RT.id ?_;first|refine RT.nil ?_|(apply RT.ld T;exact rfl;(focus ((repeat constructor);done));iterate 4 exact rfl)|(apply RT.st T;(iterate 3 exact rfl);(focus ((repeat constructor);done));(focus repeat constructor);iterate 2 exact rfl)|((first|apply RT.box|apply RT.alloc T);(iterate 4 exact rfl);intro b)|((first|apply RT.pnil T|apply RT.pnnil T);iterate 6 exact rfl)|(refine RT.isPush ?_;refine RT.pushI T rfl rfl rfl (fun a' c'=>by ((repeat constructor);done)) (by omega) (by omega) rfl rfl rfl rfl (fun a' c' b' c1' hac=>?_))|refine RT.build T rfl rfl rfl rfl rfl ?_|(apply RT.lens T;iterate 4 exact rfl))|(refine AtQ.id_ ?_;first|refine nx ?_|refine A0 ?_|refine A9 ?_|refine AtQ.in_ne rfl ?_)|(refine CT.id_ ?_;first|refine nx ?_|refine CT.region ?_|refine CT.quiet mixed (by kernel_rfl) ?_|refine CT.cond_t rfl ?_|refine CT.cond_f rfl ?_))
    refine RT.quo rfl rfl (by omega) (r := s.v / 128) (by rw [Int.tdiv_eq_ediv_of_nonneg h0]; exact wr_u64 (by omega) (by omega)) rfl rfl ?_
    repeat' (first|((first|refine vc_id ?_|(refine RT.id ?_;refine RT.c T ?_));(conv=>whnf);first|refine RT.id ?_|(refine⟨fun hc=>?_,fun hc=>?_⟩<;>first|(exfalso;omega)|skip)|(apply num_k;omega;omega)|(apply num_m;intro r hr)|(intro r hr))|(refine RT.id ?_;first|refine RT.nil ?_|(apply RT.ld T;exact rfl;(focus ((repeat constructor);done));iterate 4 exact rfl)|(apply RT.st T;(iterate 3 exact rfl);(focus ((repeat constructor);done));(focus repeat constructor);iterate 2 exact rfl)|((first|apply RT.box|apply RT.alloc T);(iterate 4 exact rfl);intro b)|((first|apply RT.pnil T|apply RT.pnnil T);iterate 6 exact rfl)|(refine RT.isPush ?_;refine RT.pushI T rfl rfl rfl (fun a' c'=>by ((repeat constructor);done)) (by omega) (by omega) rfl rfl rfl rfl (fun a' c' b' c1' hac=>?_))|refine RT.build T rfl rfl rfl rfl rfl ?_|(apply RT.lens T;iterate 4 exact rfl))|(refine AtQ.id_ ?_;first|refine nx ?_|refine A0 ?_|refine A9 ?_|refine AtQ.in_ne rfl ?_)|(refine CT.id_ ?_;first|refine nx ?_|refine CT.region ?_|refine CT.quiet mixed (by kernel_rfl) ?_|refine CT.cond_t rfl ?_|refine CT.cond_f rfl ?_))
    obtain ⟨hk, hf⟩ := SV.go hs (by omega) a' c'
    refine AtQ.loop ⟨s.f - 1, s.v / 128, s.p ++ [s.v % 128 + 128], s.k + 1, a', c'⟩ ⟨rfl, rfl, trivial⟩ (fun w h => Sat.pu_in hk h) (by simp only; omega)
  · obtain ⟨e1, e2⟩ := SV.stop hs (by omega)
    refine AtQ.fin1 (H' := [own8 _ _ (s.p ++ [s.v]) (s.k + 1)]) Try.results60 rfl ?_ (fun _ h => h)
    exact ⟨_, _, by rw [← e2], by rw [← e2, e1]⟩
theorem clone_fn {a : Option Addr} {n c : Nat} {l : List Int} (hR : Rd B R a n c 1 (ints .u8 l)) (hn : n ≤ 140737488355328) :
    Sp B Try.prog 58 [sl8 a n c] R [] (fun u H' => ∃ a' c', u = sl8 a' n c' ∧ H' = [own8 a' c' l n]) := by
  refine Sp.body Try.func58 rfl Try.ntmps58 (by simp) ?_
  simp only [argE, List.cons_append, List.nil_append, Nat.zero_add, Nat.reduceAdd]
  have hl := hR.lenI
  repeat' (first|((first|refine vc_id ?_|(refine RT.id ?_;refine RT.c T ?_));(conv=>whnf);first|refine RT.id ?_|(refine⟨fun hc=>?_,fun hc=>?_⟩<;>first|(exfalso;omega)|skip)|(apply num_k;omega;omega)|(apply num_m;intro r hr)|(intro r hr))|(refine RT.id ?_;first|refine RT.nil ?_|(apply RT.ld T;exact rfl;(focus ((repeat constructor);done));iterate 4 exact rfl)|(apply RT.st T;(iterate 3 exact rfl);(focus ((repeat constructor);done));(focus repeat constructor);iterate 2 exact rfl)|((first|apply RT.box|apply RT.alloc T);(iterate 4 exact rfl);intro b)|((first|apply RT.pnil T|apply RT.pnnil T);iterate 6 exact rfl)|(refine RT.isPush ?_;refine RT.pushI T rfl rfl rfl (fun a' c'=>by ((repeat constructor);done)) (by omega) (by omega) rfl rfl rfl rfl (fun a' c' b' c1' hac=>?_))|refine RT.build T rfl rfl rfl rfl rfl ?_|(apply RT.lens T;iterate 4 exact rfl))|(refine AtQ.id_ ?_;first|refine nx ?_|refine A0 ?_|refine A9 ?_|refine AtQ.in_ne rfl ?_)|(refine CT.id_ ?_;first|refine nx ?_|refine CT.region ?_|refine CT.quiet mixed (by kernel_rfl) ?_|refine CT.cond_t rfl ?_|refine CT.cond_f rfl ?_))
  (refine RT.snil T rfl rfl rfl rfl rfl (fun hc => ?_) (fun hc => ?_))
  · repeat' (first|((first|refine vc_id ?_|(refine RT.id ?_;refine RT.c T ?_));(conv=>whnf);first|refine RT.id ?_|(refine⟨fun hc=>?_,fun hc=>?_⟩<;>first|(exfalso;omega)|skip)|(apply num_k;omega;omega)|(apply num_m;intro r hr)|(intro r hr))|(refine RT.id ?_;first|refine RT.nil ?_|(apply RT.ld T;exact rfl;(focus ((repeat constructor);done));iterate 4 exact rfl)|(apply RT.st T;(iterate 3 exact rfl);(focus ((repeat constructor);done));(focus repeat constructor);iterate 2 exact rfl)|((first|apply RT.box|apply RT.alloc T);(iterate 4 exact rfl);intro b)|((first|apply RT.pnil T|apply RT.pnnil T);iterate 6 exact rfl)|(refine RT.isPush ?_;refine RT.pushI T rfl rfl rfl (fun a' c'=>by ((repeat constructor);done)) (by omega) (by omega) rfl rfl rfl rfl (fun a' c' b' c1' hac=>?_))|refine RT.build T rfl rfl rfl rfl rfl ?_|(apply RT.lens T;iterate 4 exact rfl))|(refine AtQ.id_ ?_;first|refine nx ?_|refine A0 ?_|refine A9 ?_|refine AtQ.in_ne rfl ?_)|(refine CT.id_ ?_;first|refine nx ?_|refine CT.region ?_|refine CT.quiet mixed (by kernel_rfl) ?_|refine CT.cond_t rfl ?_|refine CT.cond_f rfl ?_))
    refine AtQ.fact (p := n = 0) (fun w h => ?_) (fun h0 => ?_)
    · have := hR.isSome w h
      rw [hc] at this
      rcases Nat.eq_zero_or_pos n with e | e
      · exact e
      · simpa using this e
    · have hl0 : l = [] := List.eq_nil_of_length_eq_zero (by omega)
      subst h0 hl0
      refine AtQ.fin1 (H' := [own8 none 0 [] 0]) Try.results58 rfl ?_ (fun w h => Sat.nilOwn h)
      exact ⟨_, _, rfl, rfl⟩
  · repeat' (first|((first|refine vc_id ?_|(refine RT.id ?_;refine RT.c T ?_));(conv=>whnf);first|refine RT.id ?_|(refine⟨fun hc=>?_,fun hc=>?_⟩<;>first|(exfalso;omega)|skip)|(apply num_k;omega;omega)|(apply num_m;intro r hr)|(intro r hr))|(refine RT.id ?_;first|refine RT.nil ?_|(apply RT.ld T;exact rfl;(focus ((repeat constructor);done));iterate 4 exact rfl)|(apply RT.st T;(iterate 3 exact rfl);(focus ((repeat constructor);done));(focus repeat constructor);iterate 2 exact rfl)|((first|apply RT.box|apply RT.alloc T);(iterate 4 exact rfl);intro b)|((first|apply RT.pnil T|apply RT.pnnil T);iterate 6 exact rfl)|(refine RT.isPush ?_;refine RT.pushI T rfl rfl rfl (fun a' c'=>by ((repeat constructor);done)) (by omega) (by omega) rfl rfl rfl rfl (fun a' c' b' c1' hac=>?_))|refine RT.build T rfl rfl rfl rfl rfl ?_|(apply RT.lens T;iterate 4 exact rfl))|(refine AtQ.id_ ?_;first|refine nx ?_|refine A0 ?_|refine A9 ?_|refine AtQ.in_ne rfl ?_)|(refine CT.id_ ?_;first|refine nx ?_|refine CT.region ?_|refine CT.quiet mixed (by kernel_rfl) ?_|refine CT.cond_t rfl ?_|refine CT.cond_f rfl ?_))
    refine RT.bs T rfl rfl rfl rfl rfl rfl rfl (fun b c hbc => ?_)
    repeat' (first|((first|refine vc_id ?_|(refine RT.id ?_;refine RT.c T ?_));(conv=>whnf);first|refine RT.id ?_|(refine⟨fun hc=>?_,fun hc=>?_⟩<;>first|(exfalso;omega)|skip)|(apply num_k;omega;omega)|(apply num_m;intro r hr)|(intro r hr))|(refine RT.id ?_;first|refine RT.nil ?_|(apply RT.ld T;exact rfl;(focus ((repeat constructor);done));iterate 4 exact rfl)|(apply RT.st T;(iterate 3 exact rfl);(focus ((repeat constructor);done));(focus repeat constructor);iterate 2 exact rfl)|((first|apply RT.box|apply RT.alloc T);(iterate 4 exact rfl);intro b)|((first|apply RT.pnil T|apply RT.pnnil T);iterate 6 exact rfl)|(refine RT.isPush ?_;refine RT.pushI T rfl rfl rfl (fun a' c'=>by ((repeat constructor);done)) (by omega) (by omega) rfl rfl rfl rfl (fun a' c' b' c1' hac=>?_))|refine RT.build T rfl rfl rfl rfl rfl ?_|(apply RT.lens T;iterate 4 exact rfl))|(refine AtQ.id_ ?_;first|refine nx ?_|refine A0 ?_|refine A9 ?_|refine AtQ.in_ne rfl ?_)|(refine CT.id_ ?_;first|refine nx ?_|refine CT.region ?_|refine CT.quiet mixed (by kernel_rfl) ?_|refine CT.cond_t rfl ?_|refine CT.cond_f rfl ?_))
    refine RT.appI T (l := []) rfl rfl rfl hR.cons (fun a' c' => by ((repeat constructor);done)) (by omega) (by omega) rfl rfl rfl rfl (fun a' c' hac => ?_)
    repeat' (first|((first|refine vc_id ?_|(refine RT.id ?_;refine RT.c T ?_));(conv=>whnf);first|refine RT.id ?_|(refine⟨fun hc=>?_,fun hc=>?_⟩<;>first|(exfalso;omega)|skip)|(apply num_k;omega;omega)|(apply num_m;intro r hr)|(intro r hr))|(refine RT.id ?_;first|refine RT.nil ?_|(apply RT.ld T;exact rfl;(focus ((repeat constructor);done));iterate 4 exact rfl)|(apply RT.st T;(iterate 3 exact rfl);(focus ((repeat constructor);done));(focus repeat constructor);iterate 2 exact rfl)|((first|apply RT.box|apply RT.alloc T);(iterate 4 exact rfl);intro b)|((first|apply RT.pnil T|apply RT.pnnil T);iterate 6 exact rfl)|(refine RT.isPush ?_;refine RT.pushI T rfl rfl rfl (fun a' c'=>by ((repeat constructor);done)) (by omega) (by omega) rfl rfl rfl rfl (fun a' c' b' c1' hac=>?_))|refine RT.build T rfl rfl rfl rfl rfl ?_|(apply RT.lens T;iterate 4 exact rfl))|(refine AtQ.id_ ?_;first|refine nx ?_|refine A0 ?_|refine A9 ?_|refine AtQ.in_ne rfl ?_)|(refine CT.id_ ?_;first|refine nx ?_|refine CT.region ?_|refine CT.quiet mixed (by kernel_rfl) ?_|refine CT.cond_t rfl ?_|refine CT.cond_f rfl ?_))
    refine AtQ.fin1 (H' := [own8 a' c' l n]) Try.results58 rfl ?_ (fun w h => by simpa using h)
    exact ⟨_, _, by simp, rfl⟩
theorem newReader_fn {a : Option Addr} {n c : Nat} {l : List Int} (hR : Rd B R a n c 1 (ints .u8 l)) (hn : n ≤ 140737488355328) :
    Sp B Try.prog 18 [sl8 a n c] R [] (fun u H' => ∃ p a' c', u = ptr p ∧ H' = [rdr p a' n c' 0 n 0 0, own8 a' c' l n]) := by
  refine Sp.body Try.func18 rfl Try.ntmps18 (by simp) ?_
  simp only [argE, List.cons_append, List.nil_append, Nat.zero_add, Nat.reduceAdd]
  repeat' (first|((first|refine vc_id ?_|(refine RT.id ?_;refine RT.c T ?_));(conv=>whnf);first|refine RT.id ?_|(refine⟨fun hc=>?_,fun hc=>?_⟩<;>first|(exfalso;omega)|skip)|(apply num_k;omega;omega)|(apply num_m;intro r hr)|(intro r hr))|(refine RT.id ?_;first|refine RT.nil ?_|(apply RT.ld T;exact rfl;(focus ((repeat constructor);done));iterate 4 exact rfl)|(apply RT.st T;(iterate 3 exact rfl);(focus ((repeat constructor);done));(focus repeat constructor);iterate 2 exact rfl)|((first|apply RT.box|apply RT.alloc T);(iterate 4 exact rfl);intro b)|((first|apply RT.pnil T|apply RT.pnnil T);iterate 6 exact rfl)|(refine RT.isPush ?_;refine RT.pushI T rfl rfl rfl (fun a' c'=>by ((repeat constructor);done)) (by omega) (by omega) rfl rfl rfl rfl (fun a' c' b' c1' hac=>?_))|refine RT.build T rfl rfl rfl rfl rfl ?_|(apply RT.lens T;iterate 4 exact rfl))|(refine AtQ.id_ ?_;first|refine nx ?_|refine A0 ?_|refine A9 ?_|refine AtQ.in_ne rfl ?_)|(refine CT.id_ ?_;first|refine nx ?_|refine CT.region ?_|refine CT.quiet mixed (by kernel_rfl) ?_|refine CT.cond_t rfl ?_|refine CT.cond_f rfl ?_))
  refine RT.call T rfl (by (repeat (first|exact Fr.nil|(apply Fr.cons;focus ((repeat constructor);done))))) (clone_fn hR hn) rfl rfl rfl ?_
  rintro _ _ ⟨a', c', rfl, rfl⟩
  simp only [List.cons_append, List.nil_append]
  repeat' (first|((first|refine vc_id ?_|(refine RT.id ?_;refine RT.c T ?_));(conv=>whnf);first|refine RT.id ?_|(refine⟨fun hc=>?_,fun hc=>?_⟩<;>first|(exfalso;omega)|skip)|(apply num_k;omega;omega)|(apply num_m;intro r hr)|(intro r hr))|(refine RT.id ?_;first|refine RT.nil ?_|(apply RT.ld T;exact rfl;(focus ((repeat constructor);done));iterate 4 exact rfl)|(apply RT.st T;(iterate 3 exact rfl);(focus ((repeat constructor);done));(focus repeat constructor);iterate 2 exact rfl)|((first|apply RT.box|apply RT.alloc T);(iterate 4 exact rfl);intro b)|((first|apply RT.pnil T|apply RT.pnnil T);iterate 6 exact rfl)|(refine RT.isPush ?_;refine RT.pushI T rfl rfl rfl (fun a' c'=>by ((repeat constructor);done)) (by omega) (by omega) rfl rfl rfl rfl (fun a' c' b' c1' hac=>?_))|refine RT.build T rfl rfl rfl rfl rfl ?_|(apply RT.lens T;iterate 4 exact rfl))|(refine AtQ.id_ ?_;first|refine nx ?_|refine A0 ?_|refine A9 ?_|refine AtQ.in_ne rfl ?_)|(refine CT.id_ ?_;first|refine nx ?_|refine CT.region ?_|refine CT.quiet mixed (by kernel_rfl) ?_|refine CT.cond_t rfl ?_|refine CT.cond_f rfl ?_))
  refine AtQ.fin1 (H' := [rdr b a' n c' 0 n 0 0, own8 a' c' l n]) Try.results18 rfl ?_ (fun w h => h)
  exact ⟨_, _, _, rfl, rfl⟩
/-- How many bits a number has. -/
def chk8 (s : ByteArray) : Bool := (List.range 256).all fun i => match s.data.toList[i]? with
  | some b => decide (b.toNat ≤ 8) && (if i = 0 then b.toNat == 0 else decide (1 ≤ b.toNat ∧ 2 ^ (b.toNat - 1) ≤ i ∧ i < 2 ^ b.toNat))
  | none => false
theorem RT.len8 {m : Bool} {n : Fm} {l0 rest : List Oper} {E : Env} {H : List HP} {Q : Exit → Act → World → Prop} {d : Nat} {ty : TypeId} {pos : String} {af : Array Edge} {g : Option (Nat × Bool)} {x y : Operand} {t : TypeId} {s : ByteArray} {i : Int}
    (hx : ev E x = some (.string s)) (hy : ev E y = some (.int .u8 i)) (h0 : 0 ≤ i) (h1 : i < 256) (hc : chk8 s = true) (ht : al T.kinds t = some 2) (hw : wt l0 E g = some true) (hd : Nat.blt d n = true)
    (k : ∀ b : Nat, b ≤ 8 → (i = 0 ∧ b = 0 ∨ 1 ≤ b ∧ 2 ^ (b - 1) ≤ i ∧ i < 2 ^ b) → RT B Try.prog n m l0 rest ((d, .int .u8 b) :: E) H Q) : RT B Try.prog n m l0 (⟨some d, .index t x y, ty, pos, af, g⟩ :: rest) E H Q := by
  obtain ⟨j, rfl⟩ := Int.eq_ofNat_of_zero_le h0
  have hj := List.all_eq_true.1 hc j (List.mem_range.2 (by omega))
  cases hb : s.data.toList[j]? with
  | none => simp [hb] at hj
  | some b =>
    simp only [hb, Bool.and_eq_true, decide_eq_true_eq] at hj
    obtain ⟨h8, hj⟩ := hj
    refine RT.y hw (by simpa [Nat.blt_eq] using hd) (y_ixs T ht hx hy (by omega) (by simpa using hb)) (k b.toNat h8 ?_)
    split at hj
    · rename_i hz; exact .inl ⟨by omega, by simpa using hj⟩
    · simp only [decide_eq_true_eq] at hj
      obtain ⟨a1, a2, a3⟩ := hj
      refine .inr ⟨a1, ?_, ?_⟩
      · have : ((2 ^ (b.toNat - 1) : Nat) : Int) ≤ (j : Int) := by omega
        simpa using this
      · have : (j : Int) < ((2 ^ b.toNat : Nat) : Int) := by omega
        simpa using this
theorem shrN {v : Int} {j : Int} {p : Int} (h : (2 : Int) ^ (min j.toNat IntKind.u64.bits) = p) (hp : 0 ≤ p) : v.fdiv (2 ^ (min j.toNat IntKind.u64.bits)) = v / p := by
  rw [h, Int.fdiv_eq_ediv_of_nonneg _ hp]
def LenOk (x : Int) (L : Int) : Prop := ∃ l : Nat, L = l ∧ 1 ≤ l ∧ l ≤ 64 ∧ 2 ^ (l - 1) ≤ x ∧ x < 2 ^ l
theorem lenOk_mk {x L : Int} {s b : Nat} {i p : Int} (hL : L = s + b) (h1 : 1 ≤ b) (h2 : 2 ^ (b - 1) ≤ i) (h3 : i < 2 ^ b) (hs : (2 : Int) ^ s = p) (hi : i = x / p) (h64 : s + b ≤ 64) : LenOk x L := by
  subst hL
  have hp : 0 < p := by rw [← hs]; exact Int.pow_pos (by decide)
  refine ⟨s + b, by simp, by omega, h64, ?_, ?_⟩
  · rw [show s + b - 1 = (b - 1) + s by omega, Int.pow_add, hs]
    subst hi
    exact Int.le_trans (Int.mul_le_mul_of_nonneg_right h2 (Int.le_of_lt hp)) (Int.ediv_mul_le x (by omega))
  · rw [Nat.add_comm, Int.pow_add, hs]
    subst hi
    exact Int.lt_of_lt_of_le (Int.lt_ediv_add_one_mul_self x hp) (Int.mul_le_mul_of_nonneg_right h3 (Int.le_of_lt hp))
set_option maxHeartbeats 1000000 in
theorem len64_fn {x : Int} (h0 : 1 ≤ x) (h1 : x < 18446744073709551616) :
    Sp B Try.prog 59 [.int .u64 x] R [] (fun u H' => (∃ L, u = .int .i64 L ∧ LenOk x L) ∧ H' = []) := by
  refine Sp.body Try.func59 rfl Try.ntmps59 (by simp) ?_
  simp only [argE, List.cons_append, List.nil_append, Nat.zero_add, Nat.reduceAdd]
  repeat' (first|((first|refine vc_id ?_|(refine RT.id ?_;refine RT.c T ?_));(conv=>whnf);first|refine RT.id ?_|(refine⟨fun hc=>?_,fun hc=>?_⟩<;>first|(exfalso;omega)|skip)|(apply num_k;omega;omega)|(apply num_m;intro r hr)|(intro r hr))|(refine RT.id ?_;first|refine RT.nil ?_|(apply RT.ld T;exact rfl;(focus ((repeat constructor);done));iterate 4 exact rfl)|(apply RT.st T;(iterate 3 exact rfl);(focus ((repeat constructor);done));(focus repeat constructor);iterate 2 exact rfl)|((first|apply RT.box|apply RT.alloc T);(iterate 4 exact rfl);intro b)|((first|apply RT.pnil T|apply RT.pnnil T);iterate 6 exact rfl)|(refine RT.isPush ?_;refine RT.pushI T rfl rfl rfl (fun a' c'=>by ((repeat constructor);done)) (by omega) (by omega) rfl rfl rfl rfl (fun a' c' b' c1' hac=>?_))|refine RT.build T rfl rfl rfl rfl rfl ?_|(apply RT.lens T;iterate 4 exact rfl))|(refine AtQ.id_ ?_;first|refine nx ?_|refine A0 ?_|refine A9 ?_|refine AtQ.in_ne rfl ?_)|(refine CT.id_ ?_;first|refine nx ?_|refine CT.region ?_|refine CT.quiet mixed (by kernel_rfl) ?_|refine CT.cond_t rfl ?_|refine CT.cond_f rfl ?_))
  all_goals repeat' (first
    | (refine RT.shr rfl rfl (by omega) (shrN (by decide : (2 : Int) ^ (min (32 : Int).toNat IntKind.u64.bits) = 4294967296) (by decide)) rfl rfl ?_)
    | (refine RT.shr rfl rfl (by omega) (shrN (by decide : (2 : Int) ^ (min (16 : Int).toNat IntKind.u64.bits) = 65536) (by decide)) rfl rfl ?_)
    | (refine RT.shr rfl rfl (by omega) (shrN (by decide : (2 : Int) ^ (min (8 : Int).toNat IntKind.u64.bits) = 256) (by decide)) rfl rfl ?_)
    | (refine RT.len8 rfl rfl (by omega) (by omega) (by kernel_rfl) rfl rfl rfl (fun b hb8 hb => ?_))
    | ((first|refine vc_id ?_|(refine RT.id ?_;refine RT.c T ?_));(conv=>whnf);first|refine RT.id ?_|(refine⟨fun hc=>?_,fun hc=>?_⟩<;>first|(exfalso;omega)|skip)|(apply num_k;omega;omega)|(apply num_m;intro r hr)|(intro r hr))|(refine RT.id ?_;first|refine RT.nil ?_|(apply RT.ld T;exact rfl;(focus ((repeat constructor);done));iterate 4 exact rfl)|(apply RT.st T;(iterate 3 exact rfl);(focus ((repeat constructor);done));(focus repeat constructor);iterate 2 exact rfl)|((first|apply RT.box|apply RT.alloc T);(iterate 4 exact rfl);intro b)|((first|apply RT.pnil T|apply RT.pnnil T);iterate 6 exact rfl)|(refine RT.isPush ?_;refine RT.pushI T rfl rfl rfl (fun a' c'=>by ((repeat constructor);done)) (by omega) (by omega) rfl rfl rfl rfl (fun a' c' b' c1' hac=>?_))|refine RT.build T rfl rfl rfl rfl rfl ?_|(apply RT.lens T;iterate 4 exact rfl)) | (refine AtQ.id_ ?_; first | refine nx ?_|refine A0 ?_|refine A9 ?_|refine AtQ.in_ne rfl ?_) | (refine CT.id_ ?_; first | refine nx ?_|refine CT.region ?_|refine CT.quiet mixed (by kernel_rfl) ?_|refine CT.cond_t rfl ?_|refine CT.cond_f rfl ?_))
  all_goals
    refine AtQ.fin1 (H' := []) Try.results59 rfl ?_ (fun _ h => h)
    refine ⟨⟨_, rfl, ?_⟩, rfl⟩
    rcases hb with ⟨hb1, hb2⟩ | ⟨hb1, hb2, hb3⟩
    · exfalso; omega
    · skip
      first | (refine lenOk_mk (s := 0) (p := 1) (by omega) hb1 hb2 hb3 (by decide) ?_ (by omega); omega) | (refine lenOk_mk (s := 8) (p := 256) (by omega) hb1 hb2 hb3 (by decide) ?_ (by omega); omega) | (refine lenOk_mk (s := 16) (p := 65536) (by omega) hb1 hb2 hb3 (by decide) ?_ (by omega); omega) | (refine lenOk_mk (s := 24) (p := 16777216) (by omega) hb1 hb2 hb3 (by decide) ?_ (by omega); omega) | (refine lenOk_mk (s := 32) (p := 4294967296) (by omega) hb1 hb2 hb3 (by decide) ?_ (by omega); omega) | (refine lenOk_mk (s := 40) (p := 1099511627776) (by omega) hb1 hb2 hb3 (by decide) ?_ (by omega); omega) | (refine lenOk_mk (s := 48) (p := 281474976710656) (by omega) hb1 hb2 hb3 (by decide) ?_ (by omega); omega) | (refine lenOk_mk (s := 56) (p := 72057594037927936) (by omega) hb1 hb2 hb3 (by decide) ?_ (by omega); omega)
end Go.Proofs.Ytldfbjcicbfidaa
