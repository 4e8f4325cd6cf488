/- Walks: the book takes rows of bytes, and finds that each is its own. -/
import Derived.Test.YtldfbjcicbfidaaR20
set_option linter.unusedVariables false
set_option linter.unusedSimpArgs false
namespace Go.Proofs.Ytldfbjcicbfidaa
open Go.Sk
set_option maxRecDepth 100000
/-- A row of bytes that came out. -/
structure EB where
  a : Option Addr
  n : Nat
  c : Nat
  l : List Int
def EB.sl (e : EB) : Value := .slice e.a e.n e.c
def EB.own (e : EB) : HP := own8 e.a e.c e.l e.n
abbrev nils : List Value := List.replicate 22 (.slice none 0 0)
/-- The book: it holds these rows of bytes, and nothing else. -/
def BkB (p : Nat) (es : List EB) : HP := Ex fun x : Option Addr × Nat => [Cs p 73 (.slice x.1 es.length x.2 :: nils), Own x.1 x.2 28 1 es.length (es.map EB.sl), Bag (es.map EB.own)]
attribute [local irreducible] Cs Own Ex Pu Yld RT LJ QJ AtQ CT Rd QSp Sp FinQ Then LoopQ CutQ DT TakeQ EffQ
attribute [local irreducible] Bag Twi
variable {B : World} {R : List HP}
theorem bookBytes_fn {p n c : Nat} {a : Option Addr} {l : List Int} {es : List EB} (hk : es.length ≤ 1000000000000) :
    Sp B Try.prog 55 [ptr p, .slice a n c] R [own8 a c l n, BkB p es] (fun v H' => v = .tuple #[] ∧ H' = [BkB p (es ++ [⟨a, n, c, l⟩])]) := by
  refine Sp.weak (Pre' := [BkB p es, own8 a c l n]) (fun w h => h.frd (Ps := [_, _]) (Qs := []) (by (repeat (first|exact Fr.nil|(apply Fr.cons;focus ((repeat constructor);done)))))) ?_
  refine Sp.body Try.func55 rfl Try.ntmps55 (by simp) ?_
  simp only [argE, List.cons_append, List.nil_append, Nat.zero_add, Nat.reduceAdd]
  refine CT.ex (fun x => ?_)
  obtain ⟨ab, cb⟩ := x
  simp only [List.cons_append, List.nil_append]
  repeat' (first|((first|refine vc_id ?_|(refine RT.id ?_;refine RT.c T ?_));(conv=>whnf);first|refine RT.id ?_|(refine⟨fun hc=>?_,fun hc=>?_⟩<;>first|(exfalso;omega)|skip)|(apply num_k;omega;omega)|(apply num_m;intro r hr)|(intro r hr))|(refine RT.id ?_;first|refine RT.nil ?_|(apply RT.ld T;exact rfl;(focus ((repeat constructor);done));iterate 4 exact rfl)|(apply RT.st T;(iterate 3 exact rfl);(focus ((repeat constructor);done));(focus repeat constructor);iterate 2 exact rfl)|((first|apply RT.box|apply RT.alloc T);(iterate 4 exact rfl);intro b)|((first|apply RT.pnil T|apply RT.pnnil T);iterate 6 exact rfl)|(refine RT.isPush ?_;refine RT.pushI T rfl rfl rfl (fun a' c'=>by ((repeat constructor);done)) (by omega) (by omega) rfl rfl rfl rfl (fun a' c' b' c1' hac=>?_))|refine RT.build T rfl rfl rfl rfl rfl ?_|(apply RT.lens T;iterate 4 exact rfl))|(refine AtQ.id_ ?_;first|refine nx ?_|refine A0 ?_|refine A9 ?_|refine AtQ.in_ne rfl ?_)|(refine CT.id_ ?_;first|refine nx ?_|refine CT.region ?_|refine CT.quiet mixed (by kernel_rfl) ?_|refine CT.cond_t rfl ?_|refine CT.cond_f rfl ?_))
  refine RT.push T rfl rfl rfl rfl (fun a' c' => by ((repeat constructor);done)) (by omega) (by omega) rfl rfl rfl rfl (fun a2 c2 b2 c3 hac => ?_)
  repeat' (first|((first|refine vc_id ?_|(refine RT.id ?_;refine RT.c T ?_));(conv=>whnf);first|refine RT.id ?_|(refine⟨fun hc=>?_,fun hc=>?_⟩<;>first|(exfalso;omega)|skip)|(apply num_k;omega;omega)|(apply num_m;intro r hr)|(intro r hr))|(refine RT.id ?_;first|refine RT.nil ?_|(apply RT.ld T;exact rfl;(focus ((repeat constructor);done));iterate 4 exact rfl)|(apply RT.st T;(iterate 3 exact rfl);(focus ((repeat constructor);done));(focus repeat constructor);iterate 2 exact rfl)|((first|apply RT.box|apply RT.alloc T);(iterate 4 exact rfl);intro b)|((first|apply RT.pnil T|apply RT.pnnil T);iterate 6 exact rfl)|(refine RT.isPush ?_;refine RT.pushI T rfl rfl rfl (fun a' c'=>by ((repeat constructor);done)) (by omega) (by omega) rfl rfl rfl rfl (fun a' c' b' c1' hac=>?_))|refine RT.build T rfl rfl rfl rfl rfl ?_|(apply RT.lens T;iterate 4 exact rfl))|(refine AtQ.id_ ?_;first|refine nx ?_|refine A0 ?_|refine A9 ?_|refine AtQ.in_ne rfl ?_)|(refine CT.id_ ?_;first|refine nx ?_|refine CT.region ?_|refine CT.quiet mixed (by kernel_rfl) ?_|refine CT.cond_t rfl ?_|refine CT.cond_f rfl ?_))
  refine AtQ.f0 (HH := [BkB p (es ++ [⟨a, n, c, l⟩])]) Try.results55 (fun w h => ?_) (by first | exact .inl rfl | exact .inr rfl)
  have e1 : es.length + 1 = (es ++ [(⟨a, n, c, l⟩ : EB)]).length := by simp
  have e2 : es.map EB.sl ++ [.slice a n c] = (es ++ [(⟨a, n, c, l⟩ : EB)]).map EB.sl := by simp [EB.sl]
  have h2 := h.frd (Ps := [own8 a c l n, Bag (es.map EB.own), Cs p 73 (.slice a2 (es.length + 1) c2 :: nils), Own a2 c2 28 1 (es.length + 1) (es.map EB.sl ++ [.slice a n c])]) (Qs := []) (by (repeat (first|exact Fr.nil|(apply Fr.cons;focus ((repeat constructor);done)))))
  have h3 : Sat B (Bag (es.map EB.own ++ [own8 a c l n]) :: Cs p 73 (.slice a2 (es.length + 1) c2 :: nils) :: Own a2 c2 28 1 (es.length + 1) (es.map EB.sl ++ [.slice a n c]) :: R) w := Bag.push h2
  rw [e1, e2, show es.map EB.own ++ [own8 a c l n] = (es ++ [(⟨a, n, c, l⟩ : EB)]).map EB.own by simp [EB.own]] at h3
  exact Sat.ex_in (a2, c2) (h3.frd (Ps := [_, _, _]) (Qs := []) (by (repeat (first|exact Fr.nil|(apply Fr.cons;focus ((repeat constructor);done))))))
def mk (i n : Nat) : List Int := (List.range n).map fun (k : Nat) => ((i : Int) * 97 + (k : Int) * 13) % 256
def mk' (i n : Nat) : List Int := (List.range n).map fun (k : Nat) => ((-1 - (i : Int)) * 97 + (k : Int) * 13) % 256
theorem mk_len (i n : Nat) : (mk i n).length = n := by simp [mk]
theorem mk'_len (i n : Nat) : (mk' i n).length = n := by simp [mk']
theorem mk_get {i n k : Nat} (h : k < n) : (mk i n).getD k 0 = ((i : Int) * 97 + (k : Int) * 13) % 256 := by simp [mk, List.getD_eq_getElem?_getD, h]
theorem mk'_get {i n k : Nat} (h : k < n) : (mk' i n).getD k 0 = ((-1 - (i : Int)) * 97 + (k : Int) * 13) % 256 := by simp [mk', List.getD_eq_getElem?_getD, h]
theorem mk'_succ (i n : Nat) : mk' i n ++ [((-1 - (i : Int)) * 97 + (n : Int) * 13) % 256] = mk' i (n + 1) := by simp [mk', List.range_succ]
theorem getD_l {l m : List Int} {k : Nat} (h : k < l.length) : (l ++ m).getD k 0 = l.getD k 0 := by
  rw [List.getD_eq_getElem?_getD, List.getElem?_append_left h, ← List.getD_eq_getElem?_getD]
theorem getD_r {l m : List Int} {k : Nat} : (l ++ m).getD (l.length + k) 0 = m.getD k 0 := by
  rw [List.getD_eq_getElem?_getD, List.getElem?_append_right (by omega), Nat.add_sub_cancel_left, ← List.getD_eq_getElem?_getD]
theorem mk_ext {i n : Nat} {l : List Int} (hl : l.length = n) (h : ∀ k, k < n → l.getD k 0 = ((i : Int) * 97 + (k : Int) * 13) % 256) : l = mk i n := by
  refine List.ext_getElem (by rw [hl, mk_len]) fun k h1 h2 => ?_
  have := h k (by omega)
  have h3 := mk_get (i := i) (n := n) (k := k) (by omega)
  rw [List.getD_eq_getElem?_getD, List.getElem?_eq_getElem h1, Option.getD_some] at this
  rw [List.getD_eq_getElem?_getD, List.getElem?_eq_getElem h2, Option.getD_some] at h3
  rw [this, h3]
/-- The rows that are marked so far. -/
def Done (es x : List EB) : Prop := x.length ≤ es.length ∧ ∀ j e, es[j]? = some e → j < x.length → x[j]? = some ⟨e.a, e.n, e.c, mk j e.n⟩
theorem Done.step {es x : List EB} {e : EB} (h : Done es x) (he : es[x.length]? = some e) : Done es (x ++ [⟨e.a, e.n, e.c, mk x.length e.n⟩]) := by
  have hi := (List.getElem?_eq_some_iff.1 he).1
  refine ⟨by simp only [List.length_append, List.length_cons, List.length_nil]; omega, fun j e' hj hlt => ?_⟩
  by_cases hjx : j < x.length
  · rw [List.getElem?_append_left hjx]
    exact h.2 j e' hj hjx
  · have : j = x.length := by simp only [List.length_append, List.length_cons, List.length_nil] at hlt; omega
    subst this
    rw [he] at hj
    cases hj
    simp
/-- A row, and the one that grew out of it by these bytes. -/
structure TW where
  e : EB
  a' : Option Addr
  c' : Nat
  m : List Int
def TW.own (t : TW) : HP := Twi 5 1 t.e.a t.e.n t.e.c (ints .u8 t.e.l) t.a' (t.e.n + t.m.length) t.c' (ints .u8 (t.e.l ++ t.m))
def TW.sl (t : TW) : Value := .slice t.a' (t.e.n + t.m.length) t.c'
def DoneT (es : List EB) (x : List TW) : Prop := x.length ≤ es.length ∧ ∀ j, j < x.length → ∃ t, x[j]? = some t ∧ es[j]? = some t.e ∧ t.m = mk' j 16 ∧ t.e.n + 16 ≤ t.c' ∧ t.e.n ≤ t.e.c
theorem DoneT.step {es : List EB} {x : List TW} {e : EB} {a' : Option Addr} {c' : Nat} (h : DoneT es x) (he : es[x.length]? = some e) (hc : e.n + 16 ≤ c') (hc2 : e.n ≤ e.c) : DoneT es (x ++ [⟨e, a', c', mk' x.length 16⟩]) := by
  have hi := (List.getElem?_eq_some_iff.1 he).1
  refine ⟨by simp only [List.length_append, List.length_cons, List.length_nil]; omega, fun j hlt => ?_⟩
  by_cases hjx : j < x.length
  · rw [List.getElem?_append_left hjx]
    exact h.2 j hjx
  · have : j = x.length := by simp only [List.length_append, List.length_cons, List.length_nil] at hlt; omega
    subst this
    exact ⟨⟨e, a', c', mk' x.length 16⟩, by simp, he, rfl, hc, hc2⟩
set_option maxHeartbeats 4000000 in
theorem ownBytes_fn {ah : Option Addr} {ch : Nat} {es : List EB} (hk : es.length ≤ 1000000000000) (hn : ∀ e ∈ es, e.n ≤ 1000000000000) :
    Sp B Try.prog 71 [.slice ah es.length ch] R [Own ah ch 28 1 es.length (es.map EB.sl), Bag (es.map EB.own)] (fun v H' => v = .bool true ∧ H' = []) := by
  refine Sp.body Try.func71 rfl Try.ntmps71 (by simp) ?_
  simp only [argE, List.cons_append, List.nil_append, Nat.zero_add, Nat.reduceAdd]
  repeat' (first|((first|refine vc_id ?_|(refine RT.id ?_;refine RT.c T ?_));(conv=>whnf);first|refine RT.id ?_|(refine⟨fun hc=>?_,fun hc=>?_⟩<;>first|(exfalso;omega)|skip)|(apply num_k;omega;omega)|(apply num_m;intro r hr)|(intro r hr))|(refine RT.id ?_;first|refine RT.nil ?_|(apply RT.ld T;exact rfl;(focus ((repeat constructor);done));iterate 4 exact rfl)|(apply RT.st T;(iterate 3 exact rfl);(focus ((repeat constructor);done));(focus repeat constructor);iterate 2 exact rfl)|((first|apply RT.box|apply RT.alloc T);(iterate 4 exact rfl);intro b)|((first|apply RT.pnil T|apply RT.pnnil T);iterate 6 exact rfl)|(refine RT.isPush ?_;refine RT.pushI T rfl rfl rfl (fun a' c'=>by ((repeat constructor);done)) (by omega) (by omega) rfl rfl rfl rfl (fun a' c' b' c1' hac=>?_))|refine RT.build T rfl rfl rfl rfl rfl ?_|(apply RT.lens T;iterate 4 exact rfl))|(refine AtQ.id_ ?_;first|refine nx ?_|refine A0 ?_|refine A9 ?_|refine AtQ.in_ne rfl ?_)|(refine CT.id_ ?_;first|refine nx ?_|refine CT.region ?_|refine CT.quiet mixed (by kernel_rfl) ?_|refine CT.cond_t rfl ?_|refine CT.cond_f rfl ?_))
  refine CT.fact (p := (es.map EB.sl).length = es.length * 1 ∧ es.length ≤ ch ∧ ch ≤ maxLen) (fun w h => Own.facts h .h) (fun hf => ?_)
  obtain ⟨hf1, hf2, _⟩ := hf
  have hsl : ∀ (j : Nat) (e : EB), es[j]? = some e → (es.map EB.sl)[j]? = some (Value.slice e.a e.n e.c) := fun j e he => by simp [he, EB.sl]
  refine CT.loop (α := List EB) (fun x => [(0, .slice ah es.length ch), (3, .int .i64 x.length)]) (fun x => Pu (Done es x) :: Bag (x.map EB.own) :: Bag ((es.drop x.length).map EB.own) :: Own ah ch 28 1 es.length (es.map EB.sl) :: R) (fun x => es.length - x.length) [] ⟨rfl, rfl, trivial⟩
    (fun w h => Sat.pu_in ⟨Nat.zero_le _, fun j e _ h => absurd h (by simp)⟩ (Bag.nil_ (h.frd (Ps := [_, _]) (Qs := []) (by (repeat (first|exact Fr.nil|(apply Fr.cons;focus ((repeat constructor);done)))))))) (fun x => CT.pu fun hx => ?_)
  have hxl := hx.1
  repeat' (first|((first|refine vc_id ?_|(refine RT.id ?_;refine RT.c T ?_));(conv=>whnf);first|refine RT.id ?_|(refine⟨fun hc=>?_,fun hc=>?_⟩<;>first|(exfalso;omega)|skip)|(apply num_k;omega;omega)|(apply num_m;intro r hr)|(intro r hr))|(refine RT.id ?_;first|refine RT.nil ?_|(apply RT.ld T;exact rfl;(focus ((repeat constructor);done));iterate 4 exact rfl)|(apply RT.st T;(iterate 3 exact rfl);(focus ((repeat constructor);done));(focus repeat constructor);iterate 2 exact rfl)|((first|apply RT.box|apply RT.alloc T);(iterate 4 exact rfl);intro b)|((first|apply RT.pnil T|apply RT.pnnil T);iterate 6 exact rfl)|(refine RT.isPush ?_;refine RT.pushI T rfl rfl rfl (fun a' c'=>by ((repeat constructor);done)) (by omega) (by omega) rfl rfl rfl rfl (fun a' c' b' c1' hac=>?_))|refine RT.build T rfl rfl rfl rfl rfl ?_|(apply RT.lens T;iterate 4 exact rfl))|(refine AtQ.id_ ?_;first|refine nx ?_|refine A0 ?_|refine A9 ?_|refine AtQ.in_ne rfl ?_)|(refine CT.id_ ?_;first|refine nx ?_|refine CT.region ?_|refine CT.quiet mixed (by kernel_rfl) ?_|refine CT.cond_t rfl ?_|refine CT.cond_f rfl ?_))
  · have hlt : x.length < es.length := by omega
    obtain ⟨e, he⟩ : ∃ e, es[x.length]? = some e := ⟨_, List.getElem?_eq_getElem hlt⟩
    have hmem : e ∈ es := List.mem_of_getElem? he
    have hen := hn e hmem
    have hd : es.drop x.length = e :: es.drop (x.length + 1) := by
      obtain ⟨h1, rfl⟩ := List.getElem?_eq_some_iff.1 he
      exact List.drop_eq_getElem_cons h1
    rw [hd, List.map_cons]
    refine CT.weak (H' := own8 e.a e.c e.l e.n :: Bag (x.map EB.own) :: Bag ((es.drop (x.length + 1)).map EB.own) :: Own ah ch 28 1 es.length (es.map EB.sl) :: R) (fun w h => ?_) ?_
    · have h2 := h.frd (Ps := [Bag (e.own :: (es.drop (x.length + 1)).map EB.own), Bag (x.map EB.own), Own ah ch 28 1 es.length (es.map EB.sl)]) (Qs := []) (by (repeat (first|exact Fr.nil|(apply Fr.cons;focus ((repeat constructor);done)))))
      exact (Bag.head h2).frd (Ps := [_, _, _, _]) (Qs := []) (by (repeat (first|exact Fr.nil|(apply Fr.cons;focus ((repeat constructor);done)))))
    repeat' (first|((first|refine vc_id ?_|(refine RT.id ?_;refine RT.c T ?_));(conv=>whnf);first|refine RT.id ?_|(refine⟨fun hc=>?_,fun hc=>?_⟩<;>first|(exfalso;omega)|skip)|(apply num_k;omega;omega)|(apply num_m;intro r hr)|(intro r hr))|(refine RT.id ?_;first|refine RT.nil ?_|(apply RT.ld T;exact rfl;(focus ((repeat constructor);done));iterate 4 exact rfl)|(apply RT.st T;(iterate 3 exact rfl);(focus ((repeat constructor);done));(focus repeat constructor);iterate 2 exact rfl)|((first|apply RT.box|apply RT.alloc T);(iterate 4 exact rfl);intro b)|((first|apply RT.pnil T|apply RT.pnnil T);iterate 6 exact rfl)|(refine RT.isPush ?_;refine RT.pushI T rfl rfl rfl (fun a' c'=>by ((repeat constructor);done)) (by omega) (by omega) rfl rfl rfl rfl (fun a' c' b' c1' hac=>?_))|refine RT.build T rfl rfl rfl rfl rfl ?_|(apply RT.lens T;iterate 4 exact rfl))|(refine AtQ.id_ ?_;first|refine nx ?_|refine A0 ?_|refine A9 ?_|refine AtQ.in_ne rfl ?_)|(refine CT.id_ ?_;first|refine nx ?_|refine CT.region ?_|refine CT.quiet mixed (by kernel_rfl) ?_|refine CT.cond_t rfl ?_|refine CT.cond_f rfl ?_))
    refine CT.loop (α := Nat × List Int) (fun y => [(0, .slice ah es.length ch), (3, .int .i64 x.length), (4, .int .i64 y.1)]) (fun y => Pu (y.1 ≤ e.n ∧ y.2.length = e.n ∧ ∀ k, k < y.1 → y.2.getD k 0 = ((x.length : Int) * 97 + (k : Int) * 13) % 256) :: own8 e.a e.c y.2 e.n :: Bag (x.map EB.own) :: Bag ((es.drop (x.length + 1)).map EB.own) :: Own ah ch 28 1 es.length (es.map EB.sl) :: R) (fun y => e.n - y.1) (0, e.l) ⟨rfl, rfl, rfl, trivial⟩
      (fun w h => Sat.pu_in ⟨Nat.zero_le _, (Own.factsI (l := e.l) .h w h).1, fun k h => absurd h (by simp)⟩ h) (fun y => CT.pu fun hy => ?_)
    obtain ⟨k, l⟩ := y
    obtain ⟨y1, y2, y3⟩ := hy
    dsimp only at y1 y2 y3 ⊢
    have hxn : (x.length : Int) < es.length := by omega
    repeat' (first|((first|refine vc_id ?_|(refine RT.id ?_;refine RT.c T ?_));(conv=>whnf);first|refine RT.id ?_|(refine⟨fun hc=>?_,fun hc=>?_⟩<;>first|(exfalso;omega)|skip)|(apply num_k;omega;omega)|(apply num_m;intro r hr)|(intro r hr))|(refine RT.id ?_;first|refine RT.nil ?_|(apply RT.ld T;exact rfl;(focus ((repeat constructor);done));iterate 4 exact rfl)|(apply RT.st T;(iterate 3 exact rfl);(focus ((repeat constructor);done));(focus repeat constructor);iterate 2 exact rfl)|((first|apply RT.box|apply RT.alloc T);(iterate 4 exact rfl);intro b)|((first|apply RT.pnil T|apply RT.pnnil T);iterate 6 exact rfl)|(refine RT.isPush ?_;refine RT.pushI T rfl rfl rfl (fun a' c'=>by ((repeat constructor);done)) (by omega) (by omega) rfl rfl rfl rfl (fun a' c' b' c1' hac=>?_))|refine RT.build T rfl rfl rfl rfl rfl ?_|(apply RT.lens T;iterate 4 exact rfl))|(refine AtQ.id_ ?_;first|refine nx ?_|refine A0 ?_|refine A9 ?_|refine AtQ.in_ne rfl ?_)|(refine CT.id_ ?_;first|refine nx ?_|refine CT.region ?_|refine CT.quiet mixed (by kernel_rfl) ?_|refine CT.cond_t rfl ?_|refine CT.cond_f rfl ?_))
    refine RT.ix T (j := x.length) rfl rfl rfl (Own.rd (by ((repeat constructor);done)) hf1 hf2) (by omega) (by omega) (by omega) rfl rfl ?_
    refine RT.ldr T rfl (Own.rd (by ((repeat constructor);done)) hf1 hf2) (hsl _ _ he) rfl rfl rfl ?_
    repeat' (first|((first|refine vc_id ?_|(refine RT.id ?_;refine RT.c T ?_));(conv=>whnf);first|refine RT.id ?_|(refine⟨fun hc=>?_,fun hc=>?_⟩<;>first|(exfalso;omega)|skip)|(apply num_k;omega;omega)|(apply num_m;intro r hr)|(intro r hr))|(refine RT.id ?_;first|refine RT.nil ?_|(apply RT.ld T;exact rfl;(focus ((repeat constructor);done));iterate 4 exact rfl)|(apply RT.st T;(iterate 3 exact rfl);(focus ((repeat constructor);done));(focus repeat constructor);iterate 2 exact rfl)|((first|apply RT.box|apply RT.alloc T);(iterate 4 exact rfl);intro b)|((first|apply RT.pnil T|apply RT.pnnil T);iterate 6 exact rfl)|(refine RT.isPush ?_;refine RT.pushI T rfl rfl rfl (fun a' c'=>by ((repeat constructor);done)) (by omega) (by omega) rfl rfl rfl rfl (fun a' c' b' c1' hac=>?_))|refine RT.build T rfl rfl rfl rfl rfl ?_|(apply RT.lens T;iterate 4 exact rfl))|(refine AtQ.id_ ?_;first|refine nx ?_|refine A0 ?_|refine A9 ?_|refine AtQ.in_ne rfl ?_)|(refine CT.id_ ?_;first|refine nx ?_|refine CT.region ?_|refine CT.quiet mixed (by kernel_rfl) ?_|refine CT.cond_t rfl ?_|refine CT.cond_f rfl ?_))
    · refine RT.ix T (j := x.length) rfl rfl rfl (Own.rd (by ((repeat constructor);done)) hf1 hf2) (by omega) (by omega) (by omega) rfl rfl ?_
      refine RT.ldr T rfl (Own.rd (by ((repeat constructor);done)) hf1 hf2) (hsl _ _ he) rfl rfl rfl ?_
      repeat' (first|((first|refine vc_id ?_|(refine RT.id ?_;refine RT.c T ?_));(conv=>whnf);first|refine RT.id ?_|(refine⟨fun hc=>?_,fun hc=>?_⟩<;>first|(exfalso;omega)|skip)|(apply num_k;omega;omega)|(apply num_m;intro r hr)|(intro r hr))|(refine RT.id ?_;first|refine RT.nil ?_|(apply RT.ld T;exact rfl;(focus ((repeat constructor);done));iterate 4 exact rfl)|(apply RT.st T;(iterate 3 exact rfl);(focus ((repeat constructor);done));(focus repeat constructor);iterate 2 exact rfl)|((first|apply RT.box|apply RT.alloc T);(iterate 4 exact rfl);intro b)|((first|apply RT.pnil T|apply RT.pnnil T);iterate 6 exact rfl)|(refine RT.isPush ?_;refine RT.pushI T rfl rfl rfl (fun a' c'=>by ((repeat constructor);done)) (by omega) (by omega) rfl rfl rfl rfl (fun a' c' b' c1' hac=>?_))|refine RT.build T rfl rfl rfl rfl rfl ?_|(apply RT.lens T;iterate 4 exact rfl))|(refine AtQ.id_ ?_;first|refine nx ?_|refine A0 ?_|refine A9 ?_|refine AtQ.in_ne rfl ?_)|(refine CT.id_ ?_;first|refine nx ?_|refine CT.region ?_|refine CT.quiet mixed (by kernel_rfl) ?_|refine CT.cond_t rfl ?_|refine CT.cond_f rfl ?_))
      refine RT.fact (Own.factsI (l := l) (c := e.c) (by ((repeat constructor);done))) (fun hfe => ?_)
      refine RT.ix T (j := k) rfl rfl rfl (Own.rdI (l := l) (by ((repeat constructor);done)) hfe.1 hfe.2.1) (by omega) (by omega) (by omega) rfl rfl ?_
      refine RT.stoI T (l := l) (j := k) rfl rfl (by ((repeat constructor);done)) (by omega) rfl rfl ?_
      repeat' (first|((first|refine vc_id ?_|(refine RT.id ?_;refine RT.c T ?_));(conv=>whnf);first|refine RT.id ?_|(refine⟨fun hc=>?_,fun hc=>?_⟩<;>first|(exfalso;omega)|skip)|(apply num_k;omega;omega)|(apply num_m;intro r hr)|(intro r hr))|(refine RT.id ?_;first|refine RT.nil ?_|(apply RT.ld T;exact rfl;(focus ((repeat constructor);done));iterate 4 exact rfl)|(apply RT.st T;(iterate 3 exact rfl);(focus ((repeat constructor);done));(focus repeat constructor);iterate 2 exact rfl)|((first|apply RT.box|apply RT.alloc T);(iterate 4 exact rfl);intro b)|((first|apply RT.pnil T|apply RT.pnnil T);iterate 6 exact rfl)|(refine RT.isPush ?_;refine RT.pushI T rfl rfl rfl (fun a' c'=>by ((repeat constructor);done)) (by omega) (by omega) rfl rfl rfl rfl (fun a' c' b' c1' hac=>?_))|refine RT.build T rfl rfl rfl rfl rfl ?_|(apply RT.lens T;iterate 4 exact rfl))|(refine AtQ.id_ ?_;first|refine nx ?_|refine A0 ?_|refine A9 ?_|refine AtQ.in_ne rfl ?_)|(refine CT.id_ ?_;first|refine nx ?_|refine CT.region ?_|refine CT.quiet mixed (by kernel_rfl) ?_|refine CT.cond_t rfl ?_|refine CT.cond_f rfl ?_))
      refine AtQ.loop (k + 1, l.set k r) ⟨rfl, rfl, rfl, trivial⟩ (fun w h => Sat.pu_in ⟨by simp only; omega, by simp only [List.length_set]; exact y2, fun q hq => ?_⟩ h) (by simp only; omega)
      simp only at hq ⊢
      rw [List.getD_eq_getElem?_getD, List.getElem?_set]
      by_cases hqk : k = q
      · subst hqk
        rw [if_pos rfl, if_pos (by omega), Option.getD_some, ← hr]
      · rw [if_neg hqk, ← List.getD_eq_getElem?_getD]
        exact y3 q (by omega)
    · have hke : k = e.n := by omega
      subst hke
      have hlm : l = mk x.length e.n := mk_ext y2 y3
      subst hlm
      refine AtQ.loop (x ++ [⟨e.a, e.n, e.c, mk x.length e.n⟩]) ⟨rfl, ?_, trivial⟩ (fun w h => Sat.pu_in (hx.step he) ?_) (by simp only [List.length_append, List.length_cons, List.length_nil]; omega)
      · simp only [List.length_append, List.length_cons, List.length_nil]
        rfl
      · simp only [List.length_append, List.length_cons, List.length_nil, List.map_append, List.map_cons, List.map_nil]
        exact Bag.push h
  · have hxe : x.length = es.length := by omega
    have hg : ∀ (j : Nat) (e : EB), es[j]? = some e → x[j]? = some ⟨e.a, e.n, e.c, mk j e.n⟩ := fun j e he => hx.2 j e he (by rw [hxe]; exact (List.getElem?_eq_some_iff.1 he).1)
    refine CT.weak (H' := Own none 0 28 1 0 [] :: Bag (x.map EB.own) :: Own ah ch 28 1 es.length (es.map EB.sl) :: R) (fun w h => Sat.nilOwn (h.frd (Ps := [_, _]) (Qs := [_]) (by (repeat (first|exact Fr.nil|(apply Fr.cons;focus ((repeat constructor);done))))))) ?_
    refine CT.loop (α := List TW × Option Addr × Nat) (fun y => [(0, .slice ah es.length ch), (5, .slice y.2.1 y.1.length y.2.2), (6, .int .i64 y.1.length)]) (fun y => Pu (DoneT x y.1 ∧ y.1.length ≤ y.2.2) :: Own y.2.1 y.2.2 28 1 y.1.length (y.1.map TW.sl) :: Bag (y.1.map TW.own) :: Bag ((x.drop y.1.length).map EB.own) :: Own ah ch 28 1 es.length (es.map EB.sl) :: R) (fun y => es.length - y.1.length) ([], none, 0) ⟨rfl, rfl, rfl, trivial⟩
      (fun w h => Sat.pu_in ⟨⟨Nat.zero_le _, fun j h => absurd h (by simp)⟩, Nat.le_refl _⟩ ((Bag.nil_ h).frd (Ps := [_, _, _, _]) (Qs := []) (by (repeat (first|exact Fr.nil|(apply Fr.cons;focus ((repeat constructor);done))))))) (fun y => CT.pu fun hy => ?_)
    obtain ⟨tw, al, cl⟩ := y
    obtain ⟨hy1, hy2⟩ := hy
    dsimp only at hy1 hy2 ⊢
    have hyl := hy1.1
    rw [hxe] at hyl
    repeat' (first|((first|refine vc_id ?_|(refine RT.id ?_;refine RT.c T ?_));(conv=>whnf);first|refine RT.id ?_|(refine⟨fun hc=>?_,fun hc=>?_⟩<;>first|(exfalso;omega)|skip)|(apply num_k;omega;omega)|(apply num_m;intro r hr)|(intro r hr))|(refine RT.id ?_;first|refine RT.nil ?_|(apply RT.ld T;exact rfl;(focus ((repeat constructor);done));iterate 4 exact rfl)|(apply RT.st T;(iterate 3 exact rfl);(focus ((repeat constructor);done));(focus repeat constructor);iterate 2 exact rfl)|((first|apply RT.box|apply RT.alloc T);(iterate 4 exact rfl);intro b)|((first|apply RT.pnil T|apply RT.pnnil T);iterate 6 exact rfl)|(refine RT.isPush ?_;refine RT.pushI T rfl rfl rfl (fun a' c'=>by ((repeat constructor);done)) (by omega) (by omega) rfl rfl rfl rfl (fun a' c' b' c1' hac=>?_))|refine RT.build T rfl rfl rfl rfl rfl ?_|(apply RT.lens T;iterate 4 exact rfl))|(refine AtQ.id_ ?_;first|refine nx ?_|refine A0 ?_|refine A9 ?_|refine AtQ.in_ne rfl ?_)|(refine CT.id_ ?_;first|refine nx ?_|refine CT.region ?_|refine CT.quiet mixed (by kernel_rfl) ?_|refine CT.cond_t rfl ?_|refine CT.cond_f rfl ?_))
    · have hlt : tw.length < es.length := by omega
      obtain ⟨e, he⟩ : ∃ e, es[tw.length]? = some e := ⟨_, List.getElem?_eq_getElem hlt⟩
      have hen := hn e (List.mem_of_getElem? he)
      have hxe2 := hg _ _ he
      have hd : x.drop tw.length = ⟨e.a, e.n, e.c, mk tw.length e.n⟩ :: x.drop (tw.length + 1) := by
        obtain ⟨h1, h2⟩ := List.getElem?_eq_some_iff.1 hxe2
        rw [← h2]
        exact List.drop_eq_getElem_cons h1
      rw [hd, List.map_cons]
      refine RT.weak (H' := own8 e.a e.c (mk tw.length e.n) e.n :: Own al cl 28 1 tw.length (tw.map TW.sl) :: Bag (tw.map TW.own) :: Bag ((x.drop (tw.length + 1)).map EB.own) :: Own ah ch 28 1 es.length (es.map EB.sl) :: R) (fun w h => ?_) ?_
      · have h2 := h.frd (Ps := [Bag (EB.own ⟨e.a, e.n, e.c, mk tw.length e.n⟩ :: (x.drop (tw.length + 1)).map EB.own), Own al cl 28 1 tw.length (tw.map TW.sl), Bag (tw.map TW.own), Own ah ch 28 1 es.length (es.map EB.sl)]) (Qs := []) (by (repeat (first|exact Fr.nil|(apply Fr.cons;focus ((repeat constructor);done)))))
        exact (Bag.head h2).frd (Ps := [_, _, _, _, _]) (Qs := []) (by (repeat (first|exact Fr.nil|(apply Fr.cons;focus ((repeat constructor);done)))))
      refine RT.ix T (j := tw.length) rfl rfl rfl (Own.rd (by ((repeat constructor);done)) hf1 hf2) (by omega) (by omega) (by omega) rfl rfl ?_
      refine RT.ldr T rfl (Own.rd (by ((repeat constructor);done)) hf1 hf2) (hsl _ _ he) rfl rfl rfl ?_
      repeat' (first|((first|refine vc_id ?_|(refine RT.id ?_;refine RT.c T ?_));(conv=>whnf);first|refine RT.id ?_|(refine⟨fun hc=>?_,fun hc=>?_⟩<;>first|(exfalso;omega)|skip)|(apply num_k;omega;omega)|(apply num_m;intro r hr)|(intro r hr))|(refine RT.id ?_;first|refine RT.nil ?_|(apply RT.ld T;exact rfl;(focus ((repeat constructor);done));iterate 4 exact rfl)|(apply RT.st T;(iterate 3 exact rfl);(focus ((repeat constructor);done));(focus repeat constructor);iterate 2 exact rfl)|((first|apply RT.box|apply RT.alloc T);(iterate 4 exact rfl);intro b)|((first|apply RT.pnil T|apply RT.pnnil T);iterate 6 exact rfl)|(refine RT.isPush ?_;refine RT.pushI T rfl rfl rfl (fun a' c'=>by ((repeat constructor);done)) (by omega) (by omega) rfl rfl rfl rfl (fun a' c' b' c1' hac=>?_))|refine RT.build T rfl rfl rfl rfl rfl ?_|(apply RT.lens T;iterate 4 exact rfl))|(refine AtQ.id_ ?_;first|refine nx ?_|refine A0 ?_|refine A9 ?_|refine AtQ.in_ne rfl ?_)|(refine CT.id_ ?_;first|refine nx ?_|refine CT.region ?_|refine CT.quiet mixed (by kernel_rfl) ?_|refine CT.cond_t rfl ?_|refine CT.cond_f rfl ?_))
      refine CT.loop (α := Nat × Option Addr × Nat) (fun z => [(0, .slice ah es.length ch), (5, .slice al tw.length cl), (6, .int .i64 tw.length), (7, .slice z.2.1 (e.n + z.1) z.2.2), (8, .int .i64 z.1)]) (fun z => Pu (z.1 ≤ 16 ∧ e.n + z.1 ≤ z.2.2) :: Twi 5 1 e.a e.n e.c (ints .u8 (mk tw.length e.n)) z.2.1 (e.n + z.1) z.2.2 (ints .u8 (mk tw.length e.n ++ mk' tw.length z.1)) :: Own al cl 28 1 tw.length (tw.map TW.sl) :: Bag (tw.map TW.own) :: Bag ((x.drop (tw.length + 1)).map EB.own) :: Own ah ch 28 1 es.length (es.map EB.sl) :: R) (fun z => 16 - z.1) (0, e.a, e.c) ⟨rfl, rfl, rfl, rfl, rfl, trivial⟩
        (fun w h => Sat.pu_in ⟨by omega, (Own.factsI .h w h).2.1⟩ ?_) (fun z => CT.pu fun hz => ?_)
      · rw [show mk' tw.length 0 = [] from rfl, List.append_nil]
        exact h.mono fun _ hs => star_head_mono (fun _ ho => Twi.start ho) hs
      obtain ⟨q, a2, c2⟩ := z
      obtain ⟨hz1, hz2⟩ := hz
      dsimp only at hz1 hz2 ⊢
      repeat' (first|((first|refine vc_id ?_|(refine RT.id ?_;refine RT.c T ?_));(conv=>whnf);first|refine RT.id ?_|(refine⟨fun hc=>?_,fun hc=>?_⟩<;>first|(exfalso;omega)|skip)|(apply num_k;omega;omega)|(apply num_m;intro r hr)|(intro r hr))|(refine RT.id ?_;first|refine RT.nil ?_|(apply RT.ld T;exact rfl;(focus ((repeat constructor);done));iterate 4 exact rfl)|(apply RT.st T;(iterate 3 exact rfl);(focus ((repeat constructor);done));(focus repeat constructor);iterate 2 exact rfl)|((first|apply RT.box|apply RT.alloc T);(iterate 4 exact rfl);intro b)|((first|apply RT.pnil T|apply RT.pnnil T);iterate 6 exact rfl)|(refine RT.isPush ?_;refine RT.pushI T rfl rfl rfl (fun a' c'=>by ((repeat constructor);done)) (by omega) (by omega) rfl rfl rfl rfl (fun a' c' b' c1' hac=>?_))|refine RT.build T rfl rfl rfl rfl rfl ?_|(apply RT.lens T;iterate 4 exact rfl))|(refine AtQ.id_ ?_;first|refine nx ?_|refine A0 ?_|refine A9 ?_|refine AtQ.in_ne rfl ?_)|(refine CT.id_ ?_;first|refine nx ?_|refine CT.region ?_|refine CT.quiet mixed (by kernel_rfl) ?_|refine CT.cond_t rfl ?_|refine CT.cond_f rfl ?_))
      · refine RT.pushT T rfl rfl rfl rfl (by ((repeat constructor);done)) (by omega) (by omega) rfl rfl rfl rfl (fun a3 c3 b3 d3 hac => ?_)
        rw [ints_push, List.append_assoc, ← hr, mk'_succ]
        repeat' (first|((first|refine vc_id ?_|(refine RT.id ?_;refine RT.c T ?_));(conv=>whnf);first|refine RT.id ?_|(refine⟨fun hc=>?_,fun hc=>?_⟩<;>first|(exfalso;omega)|skip)|(apply num_k;omega;omega)|(apply num_m;intro r hr)|(intro r hr))|(refine RT.id ?_;first|refine RT.nil ?_|(apply RT.ld T;exact rfl;(focus ((repeat constructor);done));iterate 4 exact rfl)|(apply RT.st T;(iterate 3 exact rfl);(focus ((repeat constructor);done));(focus repeat constructor);iterate 2 exact rfl)|((first|apply RT.box|apply RT.alloc T);(iterate 4 exact rfl);intro b)|((first|apply RT.pnil T|apply RT.pnnil T);iterate 6 exact rfl)|(refine RT.isPush ?_;refine RT.pushI T rfl rfl rfl (fun a' c'=>by ((repeat constructor);done)) (by omega) (by omega) rfl rfl rfl rfl (fun a' c' b' c1' hac=>?_))|refine RT.build T rfl rfl rfl rfl rfl ?_|(apply RT.lens T;iterate 4 exact rfl))|(refine AtQ.id_ ?_;first|refine nx ?_|refine A0 ?_|refine A9 ?_|refine AtQ.in_ne rfl ?_)|(refine CT.id_ ?_;first|refine nx ?_|refine CT.region ?_|refine CT.quiet mixed (by kernel_rfl) ?_|refine CT.cond_t rfl ?_|refine CT.cond_f rfl ?_))
        exact AtQ.loop (q + 1, a3, c3) ⟨rfl, rfl, rfl, rfl, rfl, trivial⟩ (fun w h => Sat.pu_in ⟨by simp only; omega, by simp only; omega⟩ h) (by simp only; omega)
      · have hq : q = 16 := by omega
        subst hq
        refine RT.push T rfl rfl rfl rfl (fun a' c' => by ((repeat constructor);done)) (by omega) (by omega) rfl rfl rfl rfl (fun a3 c3 b3 d3 hac => ?_)
        repeat' (first|((first|refine vc_id ?_|(refine RT.id ?_;refine RT.c T ?_));(conv=>whnf);first|refine RT.id ?_|(refine⟨fun hc=>?_,fun hc=>?_⟩<;>first|(exfalso;omega)|skip)|(apply num_k;omega;omega)|(apply num_m;intro r hr)|(intro r hr))|(refine RT.id ?_;first|refine RT.nil ?_|(apply RT.ld T;exact rfl;(focus ((repeat constructor);done));iterate 4 exact rfl)|(apply RT.st T;(iterate 3 exact rfl);(focus ((repeat constructor);done));(focus repeat constructor);iterate 2 exact rfl)|((first|apply RT.box|apply RT.alloc T);(iterate 4 exact rfl);intro b)|((first|apply RT.pnil T|apply RT.pnnil T);iterate 6 exact rfl)|(refine RT.isPush ?_;refine RT.pushI T rfl rfl rfl (fun a' c'=>by ((repeat constructor);done)) (by omega) (by omega) rfl rfl rfl rfl (fun a' c' b' c1' hac=>?_))|refine RT.build T rfl rfl rfl rfl rfl ?_|(apply RT.lens T;iterate 4 exact rfl))|(refine AtQ.id_ ?_;first|refine nx ?_|refine A0 ?_|refine A9 ?_|refine AtQ.in_ne rfl ?_)|(refine CT.id_ ?_;first|refine nx ?_|refine CT.region ?_|refine CT.quiet mixed (by kernel_rfl) ?_|refine CT.cond_t rfl ?_|refine CT.cond_f rfl ?_))
        refine AtQ.fact (p := e.n ≤ e.c) (fun w h => ?_) (fun hec => ?_)
        · have h2 := h.sel (p := Twi 5 1 e.a e.n e.c (ints .u8 (mk tw.length e.n)) a2 (e.n + 16) c2 (ints .u8 (mk tw.length e.n ++ mk' tw.length 16))) (by ((repeat constructor);done))
          rcases Twi.cases h2 with ⟨e1, e2, _, _, ho⟩ | ⟨n', zs, e1, _, ho⟩
          · have := Own.facts ho .h; omega
          · have := Own.facts ho .h; omega
        refine AtQ.loop (tw ++ [⟨⟨e.a, e.n, e.c, mk tw.length e.n⟩, a2, c2, mk' tw.length 16⟩], a3, c3) ⟨rfl, ?_, ?_, trivial⟩ (fun w h => Sat.pu_in ⟨hy1.step hxe2 hz2 hec, by simp only [List.length_append, List.length_cons, List.length_nil]; exact hac⟩ ?_) (by simp only [List.length_append, List.length_cons, List.length_nil]; omega)
        · simp only [List.length_append, List.length_cons, List.length_nil]
          rfl
        · simp only [List.length_append, List.length_cons, List.length_nil]
          rfl
        · simp only [List.length_append, List.length_cons, List.length_nil, List.map_append, List.map_cons, List.map_nil]
          have h2 := h.frd (Ps := [TW.own ⟨⟨e.a, e.n, e.c, mk tw.length e.n⟩, a2, c2, mk' tw.length 16⟩, Bag (tw.map TW.own), Own a3 c3 28 1 (tw.length + 1) (tw.map TW.sl ++ [Value.slice a2 (e.n + 16) c2]), Bag ((x.drop (tw.length + 1)).map EB.own), Own ah ch 28 1 es.length (es.map EB.sl)]) (Qs := []) (by
            unfold TW.own
            rw [mk'_len]
            (repeat (first|exact Fr.nil|(apply Fr.cons;focus ((repeat constructor);done)))))
          have h3 := (Bag.push h2).frd (Ps := [Own a3 c3 28 1 (tw.length + 1) (tw.map TW.sl ++ [Value.slice a2 (e.n + 16) c2]), _, _, _]) (Qs := []) (by (repeat (first|exact Fr.nil|(apply Fr.cons;focus ((repeat constructor);done)))))
          rw [show TW.sl ⟨⟨e.a, e.n, e.c, mk tw.length e.n⟩, a2, c2, mk' tw.length 16⟩ = Value.slice a2 (e.n + 16) c2 by unfold TW.sl; rw [mk'_len]]
          exact h3
    · have hte : tw.length = es.length := by omega
      have hT : ∀ (j : Nat) (e : EB), es[j]? = some e → ∃ t, tw[j]? = some t ∧ t = ⟨⟨e.a, e.n, e.c, mk j e.n⟩, t.a', t.c', mk' j 16⟩ ∧ e.n + 16 ≤ t.c' ∧ e.n ≤ e.c := fun j e he => by
        have hj := (List.getElem?_eq_some_iff.1 he).1
        obtain ⟨t, h1, h2, h3, h4, h5⟩ := hy1.2 j (by omega)
        rw [hg j e he] at h2
        cases h2e : t.e
        rw [h2e] at h2 h4 h5
        cases h2
        refine ⟨t, h1, ?_, h4, h5⟩
        cases t
        simp_all
      clear hy1 hx hg
      refine CT.loop (α := Nat) (fun j => [(0, .slice ah es.length ch), (5, .slice al tw.length cl), (9, .int .i64 j)]) (fun j => Pu (j ≤ es.length) :: Own al cl 28 1 tw.length (tw.map TW.sl) :: Bag (tw.map TW.own) :: Own ah ch 28 1 es.length (es.map EB.sl) :: R) (fun j => es.length - j) 0 ⟨rfl, rfl, rfl, trivial⟩
        (fun w h => Sat.pu_in (Nat.zero_le _) (h.frd (Ps := [_, _, _]) (Qs := [_]) (by (repeat (first|exact Fr.nil|(apply Fr.cons;focus ((repeat constructor);done))))))) (fun j => CT.pu fun hj => ?_)
      repeat' (first|((first|refine vc_id ?_|(refine RT.id ?_;refine RT.c T ?_));(conv=>whnf);first|refine RT.id ?_|(refine⟨fun hc=>?_,fun hc=>?_⟩<;>first|(exfalso;omega)|skip)|(apply num_k;omega;omega)|(apply num_m;intro r hr)|(intro r hr))|(refine RT.id ?_;first|refine RT.nil ?_|(apply RT.ld T;exact rfl;(focus ((repeat constructor);done));iterate 4 exact rfl)|(apply RT.st T;(iterate 3 exact rfl);(focus ((repeat constructor);done));(focus repeat constructor);iterate 2 exact rfl)|((first|apply RT.box|apply RT.alloc T);(iterate 4 exact rfl);intro b)|((first|apply RT.pnil T|apply RT.pnnil T);iterate 6 exact rfl)|(refine RT.isPush ?_;refine RT.pushI T rfl rfl rfl (fun a' c'=>by ((repeat constructor);done)) (by omega) (by omega) rfl rfl rfl rfl (fun a' c' b' c1' hac=>?_))|refine RT.build T rfl rfl rfl rfl rfl ?_|(apply RT.lens T;iterate 4 exact rfl))|(refine AtQ.id_ ?_;first|refine nx ?_|refine A0 ?_|refine A9 ?_|refine AtQ.in_ne rfl ?_)|(refine CT.id_ ?_;first|refine nx ?_|refine CT.region ?_|refine CT.quiet mixed (by kernel_rfl) ?_|refine CT.cond_t rfl ?_|refine CT.cond_f rfl ?_))
      · obtain ⟨e, he⟩ : ∃ e, es[j]? = some e := ⟨_, List.getElem?_eq_getElem (by omega)⟩
        have hen := hn e (List.mem_of_getElem? he)
        obtain ⟨t, ht1, ht2, ht3, ht4⟩ := hT j e he
        have htl : (tw.map TW.sl)[j]? = some (Value.slice t.a' (e.n + 16) t.c') := by
          rw [List.getElem?_map, ht1, Option.map_some, ht2]
          unfold TW.sl
          rw [mk'_len]
        have hto : (tw.map TW.own)[j]? = some (Twi 5 1 e.a e.n e.c (ints .u8 (mk j e.n)) t.a' (e.n + 16) t.c' (ints .u8 (mk j e.n ++ mk' j 16))) := by
          rw [List.getElem?_map, ht1, Option.map_some, ht2]
          unfold TW.own
          rw [mk'_len]
        have hml : (tw.map TW.sl).length = tw.length * 1 := by simp
        have R1 : ∀ H, Rd B (Bag (tw.map TW.own) :: H) e.a e.n e.c 1 (ints .u8 (mk j e.n)) := fun H => Rd.bag hto (Twi.rd_old (by rw [ints_len, mk_len]; omega) ht4)
        have R2 : ∀ H, Rd B (Bag (tw.map TW.own) :: H) t.a' (e.n + 16) t.c' 1 (ints .u8 (mk j e.n ++ mk' j 16)) := fun H => Rd.bag hto (Twi.rd_new (by rw [ints_len, List.length_append, mk_len, mk'_len]; omega) ht3)
        refine RT.ix T (j := j) rfl rfl rfl (Own.rd (by ((repeat constructor);done)) hf1 hf2) (by omega) (by omega) (by omega) rfl rfl ?_
        refine RT.ldr T rfl (Own.rd (by ((repeat constructor);done)) hf1 hf2) (hsl _ _ he) rfl rfl rfl ?_
        repeat' (first|((first|refine vc_id ?_|(refine RT.id ?_;refine RT.c T ?_));(conv=>whnf);first|refine RT.id ?_|(refine⟨fun hc=>?_,fun hc=>?_⟩<;>first|(exfalso;omega)|skip)|(apply num_k;omega;omega)|(apply num_m;intro r hr)|(intro r hr))|(refine RT.id ?_;first|refine RT.nil ?_|(apply RT.ld T;exact rfl;(focus ((repeat constructor);done));iterate 4 exact rfl)|(apply RT.st T;(iterate 3 exact rfl);(focus ((repeat constructor);done));(focus repeat constructor);iterate 2 exact rfl)|((first|apply RT.box|apply RT.alloc T);(iterate 4 exact rfl);intro b)|((first|apply RT.pnil T|apply RT.pnnil T);iterate 6 exact rfl)|(refine RT.isPush ?_;refine RT.pushI T rfl rfl rfl (fun a' c'=>by ((repeat constructor);done)) (by omega) (by omega) rfl rfl rfl rfl (fun a' c' b' c1' hac=>?_))|refine RT.build T rfl rfl rfl rfl rfl ?_|(apply RT.lens T;iterate 4 exact rfl))|(refine AtQ.id_ ?_;first|refine nx ?_|refine A0 ?_|refine A9 ?_|refine AtQ.in_ne rfl ?_)|(refine CT.id_ ?_;first|refine nx ?_|refine CT.region ?_|refine CT.quiet mixed (by kernel_rfl) ?_|refine CT.cond_t rfl ?_|refine CT.cond_f rfl ?_))
        refine CT.loop (α := Nat) (fun k => [(0, .slice ah es.length ch), (5, .slice al tw.length cl), (9, .int .i64 j), (10, .int .i64 e.n), (11, .int .i64 k)]) (fun k => Pu (k ≤ e.n) :: Own al cl 28 1 tw.length (tw.map TW.sl) :: Bag (tw.map TW.own) :: Own ah ch 28 1 es.length (es.map EB.sl) :: R) (fun k => e.n - k) 0 ⟨rfl, rfl, rfl, rfl, rfl, trivial⟩
          (fun w h => Sat.pu_in (Nat.zero_le _) h) (fun k => CT.pu fun hk => ?_)
        repeat' (first|((first|refine vc_id ?_|(refine RT.id ?_;refine RT.c T ?_));(conv=>whnf);first|refine RT.id ?_|(refine⟨fun hc=>?_,fun hc=>?_⟩<;>first|(exfalso;omega)|skip)|(apply num_k;omega;omega)|(apply num_m;intro r hr)|(intro r hr))|(refine RT.id ?_;first|refine RT.nil ?_|(apply RT.ld T;exact rfl;(focus ((repeat constructor);done));iterate 4 exact rfl)|(apply RT.st T;(iterate 3 exact rfl);(focus ((repeat constructor);done));(focus repeat constructor);iterate 2 exact rfl)|((first|apply RT.box|apply RT.alloc T);(iterate 4 exact rfl);intro b)|((first|apply RT.pnil T|apply RT.pnnil T);iterate 6 exact rfl)|(refine RT.isPush ?_;refine RT.pushI T rfl rfl rfl (fun a' c'=>by ((repeat constructor);done)) (by omega) (by omega) rfl rfl rfl rfl (fun a' c' b' c1' hac=>?_))|refine RT.build T rfl rfl rfl rfl rfl ?_|(apply RT.lens T;iterate 4 exact rfl))|(refine AtQ.id_ ?_;first|refine nx ?_|refine A0 ?_|refine A9 ?_|refine AtQ.in_ne rfl ?_)|(refine CT.id_ ?_;first|refine nx ?_|refine CT.region ?_|refine CT.quiet mixed (by kernel_rfl) ?_|refine CT.cond_t rfl ?_|refine CT.cond_f rfl ?_))
        · have hkn : k < e.n := by omega
          refine RT.ix T (j := j) rfl rfl rfl (Own.rd (by ((repeat constructor);done)) hf1 hf2) (by omega) (by omega) (by omega) rfl rfl ?_
          refine RT.ldr T rfl (Own.rd (by ((repeat constructor);done)) hf1 hf2) (hsl _ _ he) rfl rfl rfl ?_
          repeat' (first|((first|refine vc_id ?_|(refine RT.id ?_;refine RT.c T ?_));(conv=>whnf);first|refine RT.id ?_|(refine⟨fun hc=>?_,fun hc=>?_⟩<;>first|(exfalso;omega)|skip)|(apply num_k;omega;omega)|(apply num_m;intro r hr)|(intro r hr))|(refine RT.id ?_;first|refine RT.nil ?_|(apply RT.ld T;exact rfl;(focus ((repeat constructor);done));iterate 4 exact rfl)|(apply RT.st T;(iterate 3 exact rfl);(focus ((repeat constructor);done));(focus repeat constructor);iterate 2 exact rfl)|((first|apply RT.box|apply RT.alloc T);(iterate 4 exact rfl);intro b)|((first|apply RT.pnil T|apply RT.pnnil T);iterate 6 exact rfl)|(refine RT.isPush ?_;refine RT.pushI T rfl rfl rfl (fun a' c'=>by ((repeat constructor);done)) (by omega) (by omega) rfl rfl rfl rfl (fun a' c' b' c1' hac=>?_))|refine RT.build T rfl rfl rfl rfl rfl ?_|(apply RT.lens T;iterate 4 exact rfl))|(refine AtQ.id_ ?_;first|refine nx ?_|refine A0 ?_|refine A9 ?_|refine AtQ.in_ne rfl ?_)|(refine CT.id_ ?_;first|refine nx ?_|refine CT.region ?_|refine CT.quiet mixed (by kernel_rfl) ?_|refine CT.cond_t rfl ?_|refine CT.cond_f rfl ?_))
          refine RT.ix T (j := k) rfl rfl rfl (by repeat (first | exact (R1 _) | apply Rd.cons)) (by omega) (by omega) (by omega) rfl rfl ?_
          refine RT.ldi T rfl (by repeat (first | exact (R1 _) | apply Rd.cons)) (by rw [mk_len]; omega) rfl rfl rfl ?_
          rw [mk_get hkn]
          repeat' (first|((first|refine vc_id ?_|(refine RT.id ?_;refine RT.c T ?_));(conv=>whnf);first|refine RT.id ?_|(refine⟨fun hc=>?_,fun hc=>?_⟩<;>first|(exfalso;omega)|skip)|(apply num_k;omega;omega)|(apply num_m;intro r hr)|(intro r hr))|(refine RT.id ?_;first|refine RT.nil ?_|(apply RT.ld T;exact rfl;(focus ((repeat constructor);done));iterate 4 exact rfl)|(apply RT.st T;(iterate 3 exact rfl);(focus ((repeat constructor);done));(focus repeat constructor);iterate 2 exact rfl)|((first|apply RT.box|apply RT.alloc T);(iterate 4 exact rfl);intro b)|((first|apply RT.pnil T|apply RT.pnnil T);iterate 6 exact rfl)|(refine RT.isPush ?_;refine RT.pushI T rfl rfl rfl (fun a' c'=>by ((repeat constructor);done)) (by omega) (by omega) rfl rfl rfl rfl (fun a' c' b' c1' hac=>?_))|refine RT.build T rfl rfl rfl rfl rfl ?_|(apply RT.lens T;iterate 4 exact rfl))|(refine AtQ.id_ ?_;first|refine nx ?_|refine A0 ?_|refine A9 ?_|refine AtQ.in_ne rfl ?_)|(refine CT.id_ ?_;first|refine nx ?_|refine CT.region ?_|refine CT.quiet mixed (by kernel_rfl) ?_|refine CT.cond_t rfl ?_|refine CT.cond_f rfl ?_))
          refine RT.ix T (j := j) rfl rfl rfl (Own.rd (by ((repeat constructor);done)) hml hy2) (by omega) (by omega) (by omega) rfl rfl ?_
          refine RT.ldr T rfl (Own.rd (by ((repeat constructor);done)) hml hy2) htl rfl rfl rfl ?_
          repeat' (first|((first|refine vc_id ?_|(refine RT.id ?_;refine RT.c T ?_));(conv=>whnf);first|refine RT.id ?_|(refine⟨fun hc=>?_,fun hc=>?_⟩<;>first|(exfalso;omega)|skip)|(apply num_k;omega;omega)|(apply num_m;intro r hr)|(intro r hr))|(refine RT.id ?_;first|refine RT.nil ?_|(apply RT.ld T;exact rfl;(focus ((repeat constructor);done));iterate 4 exact rfl)|(apply RT.st T;(iterate 3 exact rfl);(focus ((repeat constructor);done));(focus repeat constructor);iterate 2 exact rfl)|((first|apply RT.box|apply RT.alloc T);(iterate 4 exact rfl);intro b)|((first|apply RT.pnil T|apply RT.pnnil T);iterate 6 exact rfl)|(refine RT.isPush ?_;refine RT.pushI T rfl rfl rfl (fun a' c'=>by ((repeat constructor);done)) (by omega) (by omega) rfl rfl rfl rfl (fun a' c' b' c1' hac=>?_))|refine RT.build T rfl rfl rfl rfl rfl ?_|(apply RT.lens T;iterate 4 exact rfl))|(refine AtQ.id_ ?_;first|refine nx ?_|refine A0 ?_|refine A9 ?_|refine AtQ.in_ne rfl ?_)|(refine CT.id_ ?_;first|refine nx ?_|refine CT.region ?_|refine CT.quiet mixed (by kernel_rfl) ?_|refine CT.cond_t rfl ?_|refine CT.cond_f rfl ?_))
          refine RT.ix T (j := k) rfl rfl rfl (by repeat (first | exact (R2 _) | apply Rd.cons)) (by omega) (by omega) (by omega) rfl rfl ?_
          refine RT.ldi T rfl (by repeat (first | exact (R2 _) | apply Rd.cons)) (by rw [List.length_append, mk_len]; omega) rfl rfl rfl ?_
          rw [getD_l (by rw [mk_len]; exact hkn), mk_get hkn]
          repeat' (first|((first|refine vc_id ?_|(refine RT.id ?_;refine RT.c T ?_));(conv=>whnf);first|refine RT.id ?_|(refine⟨fun hc=>?_,fun hc=>?_⟩<;>first|(exfalso;omega)|skip)|(apply num_k;omega;omega)|(apply num_m;intro r hr)|(intro r hr))|(refine RT.id ?_;first|refine RT.nil ?_|(apply RT.ld T;exact rfl;(focus ((repeat constructor);done));iterate 4 exact rfl)|(apply RT.st T;(iterate 3 exact rfl);(focus ((repeat constructor);done));(focus repeat constructor);iterate 2 exact rfl)|((first|apply RT.box|apply RT.alloc T);(iterate 4 exact rfl);intro b)|((first|apply RT.pnil T|apply RT.pnnil T);iterate 6 exact rfl)|(refine RT.isPush ?_;refine RT.pushI T rfl rfl rfl (fun a' c'=>by ((repeat constructor);done)) (by omega) (by omega) rfl rfl rfl rfl (fun a' c' b' c1' hac=>?_))|refine RT.build T rfl rfl rfl rfl rfl ?_|(apply RT.lens T;iterate 4 exact rfl))|(refine AtQ.id_ ?_;first|refine nx ?_|refine A0 ?_|refine A9 ?_|refine AtQ.in_ne rfl ?_)|(refine CT.id_ ?_;first|refine nx ?_|refine CT.region ?_|refine CT.quiet mixed (by kernel_rfl) ?_|refine CT.cond_t rfl ?_|refine CT.cond_f rfl ?_))
          exact AtQ.loop (k + 1) ⟨rfl, rfl, rfl, rfl, rfl, trivial⟩ (fun w h => Sat.pu_in (by omega) h) (by omega)
        · refine CT.loop (α := Nat) (fun k => [(0, .slice ah es.length ch), (5, .slice al tw.length cl), (9, .int .i64 j), (10, .int .i64 e.n), (12, .int .i64 k)]) (fun k => Pu (k ≤ 16) :: Own al cl 28 1 tw.length (tw.map TW.sl) :: Bag (tw.map TW.own) :: Own ah ch 28 1 es.length (es.map EB.sl) :: R) (fun k => 16 - k) 0 ⟨rfl, rfl, rfl, rfl, rfl, trivial⟩
            (fun w h => Sat.pu_in (Nat.zero_le _) h) (fun q => CT.pu fun hq => ?_)
          repeat' (first|((first|refine vc_id ?_|(refine RT.id ?_;refine RT.c T ?_));(conv=>whnf);first|refine RT.id ?_|(refine⟨fun hc=>?_,fun hc=>?_⟩<;>first|(exfalso;omega)|skip)|(apply num_k;omega;omega)|(apply num_m;intro r hr)|(intro r hr))|(refine RT.id ?_;first|refine RT.nil ?_|(apply RT.ld T;exact rfl;(focus ((repeat constructor);done));iterate 4 exact rfl)|(apply RT.st T;(iterate 3 exact rfl);(focus ((repeat constructor);done));(focus repeat constructor);iterate 2 exact rfl)|((first|apply RT.box|apply RT.alloc T);(iterate 4 exact rfl);intro b)|((first|apply RT.pnil T|apply RT.pnnil T);iterate 6 exact rfl)|(refine RT.isPush ?_;refine RT.pushI T rfl rfl rfl (fun a' c'=>by ((repeat constructor);done)) (by omega) (by omega) rfl rfl rfl rfl (fun a' c' b' c1' hac=>?_))|refine RT.build T rfl rfl rfl rfl rfl ?_|(apply RT.lens T;iterate 4 exact rfl))|(refine AtQ.id_ ?_;first|refine nx ?_|refine A0 ?_|refine A9 ?_|refine AtQ.in_ne rfl ?_)|(refine CT.id_ ?_;first|refine nx ?_|refine CT.region ?_|refine CT.quiet mixed (by kernel_rfl) ?_|refine CT.cond_t rfl ?_|refine CT.cond_f rfl ?_))
          · have hqn : q < 16 := by omega
            refine RT.ix T (j := j) rfl rfl rfl (Own.rd (by ((repeat constructor);done)) hml hy2) (by omega) (by omega) (by omega) rfl rfl ?_
            refine RT.ldr T rfl (Own.rd (by ((repeat constructor);done)) hml hy2) htl rfl rfl rfl ?_
            repeat' (first|((first|refine vc_id ?_|(refine RT.id ?_;refine RT.c T ?_));(conv=>whnf);first|refine RT.id ?_|(refine⟨fun hc=>?_,fun hc=>?_⟩<;>first|(exfalso;omega)|skip)|(apply num_k;omega;omega)|(apply num_m;intro r hr)|(intro r hr))|(refine RT.id ?_;first|refine RT.nil ?_|(apply RT.ld T;exact rfl;(focus ((repeat constructor);done));iterate 4 exact rfl)|(apply RT.st T;(iterate 3 exact rfl);(focus ((repeat constructor);done));(focus repeat constructor);iterate 2 exact rfl)|((first|apply RT.box|apply RT.alloc T);(iterate 4 exact rfl);intro b)|((first|apply RT.pnil T|apply RT.pnnil T);iterate 6 exact rfl)|(refine RT.isPush ?_;refine RT.pushI T rfl rfl rfl (fun a' c'=>by ((repeat constructor);done)) (by omega) (by omega) rfl rfl rfl rfl (fun a' c' b' c1' hac=>?_))|refine RT.build T rfl rfl rfl rfl rfl ?_|(apply RT.lens T;iterate 4 exact rfl))|(refine AtQ.id_ ?_;first|refine nx ?_|refine A0 ?_|refine A9 ?_|refine AtQ.in_ne rfl ?_)|(refine CT.id_ ?_;first|refine nx ?_|refine CT.region ?_|refine CT.quiet mixed (by kernel_rfl) ?_|refine CT.cond_t rfl ?_|refine CT.cond_f rfl ?_))
            refine RT.ix T (j := e.n + q) rfl rfl rfl (by repeat (first | exact (R2 _) | apply Rd.cons)) (by omega) (by omega) (by omega) rfl rfl ?_
            refine RT.ldi T rfl (by repeat (first | exact (R2 _) | apply Rd.cons)) (by rw [List.length_append, mk_len, mk'_len]; omega) rfl rfl rfl ?_
            rw [show (mk j e.n ++ mk' j 16).getD (e.n + q) 0 = (mk' j 16).getD q 0 by have := getD_r (l := mk j e.n) (m := mk' j 16) (k := q); rwa [mk_len] at this, mk'_get hqn]
            repeat' (first|((first|refine vc_id ?_|(refine RT.id ?_;refine RT.c T ?_));(conv=>whnf);first|refine RT.id ?_|(refine⟨fun hc=>?_,fun hc=>?_⟩<;>first|(exfalso;omega)|skip)|(apply num_k;omega;omega)|(apply num_m;intro r hr)|(intro r hr))|(refine RT.id ?_;first|refine RT.nil ?_|(apply RT.ld T;exact rfl;(focus ((repeat constructor);done));iterate 4 exact rfl)|(apply RT.st T;(iterate 3 exact rfl);(focus ((repeat constructor);done));(focus repeat constructor);iterate 2 exact rfl)|((first|apply RT.box|apply RT.alloc T);(iterate 4 exact rfl);intro b)|((first|apply RT.pnil T|apply RT.pnnil T);iterate 6 exact rfl)|(refine RT.isPush ?_;refine RT.pushI T rfl rfl rfl (fun a' c'=>by ((repeat constructor);done)) (by omega) (by omega) rfl rfl rfl rfl (fun a' c' b' c1' hac=>?_))|refine RT.build T rfl rfl rfl rfl rfl ?_|(apply RT.lens T;iterate 4 exact rfl))|(refine AtQ.id_ ?_;first|refine nx ?_|refine A0 ?_|refine A9 ?_|refine AtQ.in_ne rfl ?_)|(refine CT.id_ ?_;first|refine nx ?_|refine CT.region ?_|refine CT.quiet mixed (by kernel_rfl) ?_|refine CT.cond_t rfl ?_|refine CT.cond_f rfl ?_))
            exact AtQ.loop (q + 1) ⟨rfl, rfl, rfl, rfl, rfl, trivial⟩ (fun w h => Sat.pu_in (by omega) h) (by omega)
          · exact AtQ.loop (j + 1) ⟨rfl, rfl, rfl, trivial⟩ (fun w h => Sat.pu_in (by omega) h) (by omega)
      · exact AtQ.f1 (HH := []) Try.results71 rfl rfl (fun w h => h.tail.tail.tail)
end Go.Proofs.Ytldfbjcicbfidaa
