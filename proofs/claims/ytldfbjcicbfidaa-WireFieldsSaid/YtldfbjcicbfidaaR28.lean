/- Walks: the same field; the book of unknown rows. -/
import Derived.Test.YtldfbjcicbfidaaR27
import Derived.Test.YtldfbjcicbfidaaR23
import Derived.Test.YtldfbjcicbfidaaR19
import Derived.Test.YtldfbjcicbfidaaSkB
set_option linter.unusedVariables false
set_option linter.unusedSimpArgs false
namespace Go.Proofs.Ytldfbjcicbfidaa
open Go.Sk
set_option maxRecDepth 100000
section
variable {B : World} {R : List HP}
/-- The book: it holds m rows, whichever. -/
def BkS (p m : Nat) : HP := Ex fun es : List EB => [Pu (es.length = m ∧ ∀ e ∈ es, e.n ≤ 1000000000000), BkB p es]
theorem bookS_fn {p n c m : Nat} {a : Option Addr} {l : List Int} (hk : m ≤ 1000000000000) (hn : n ≤ 1000000000000) :
    Sp B Try.prog 55 [ptr p, .slice a n c] R [own8 a c l n, BkS p m] (fun v H' => v = .tuple #[] ∧ H' = [BkS p (m + 1)]) := by
  intro w h
  have h1 : Sat B (BkS p m :: own8 a c l n :: R) w := h.frd (Ps := [_, _]) (Qs := []) (by (repeat (first|exact Fr.nil|(apply Fr.cons;focus ((repeat constructor);done)))))
  obtain ⟨es, h2⟩ := Sat.ex_out h1
  have h3 : Sat B (Pu (es.length = m ∧ ∀ e ∈ es, e.n ≤ 1000000000000) :: BkB p es :: own8 a c l n :: R) w := h2
  obtain ⟨e1, e2⟩ := h3.pu_out
  refine (bookBytes_fn (p := p) (l := l) (es := es) (by omega) w (h3.tail.frd (Ps := [own8 a c l n, BkB p es]) (Qs := []) (by (repeat (first|exact Fr.nil|(apply Fr.cons;focus ((repeat constructor);done))))))).mono ?_
  rintro e w' ⟨v, H', rfl, ⟨rfl, rfl⟩, h4⟩
  refine ⟨_, _, rfl, ⟨rfl, rfl⟩, ?_⟩
  refine Sat.ex_in (es ++ [⟨a, n, c, l⟩]) (Sat.pu_in ⟨by simp [e1], fun e he => ?_⟩ h4)
  rcases List.mem_append.1 he with he | he
  · exact e2 e he
  · simp only [List.mem_singleton] at he
    subst he
    exact hn
theorem ownS_fn {p m : Nat} (hk : m ≤ 1000000000000) : Sp B Try.prog 32 [ptr p] R [BkS p m] (fun v H' => v = .bool true ∧ H' = []) := by
  intro w h
  obtain ⟨es, h2⟩ := Sat.ex_out h
  have h3 : Sat B (Pu (es.length = m ∧ ∀ e ∈ es, e.n ≤ 1000000000000) :: BkB p es :: R) w := h2
  obtain ⟨e1, e2⟩ := h3.pu_out
  exact own_fn (p := p) (es := es) (by omega) e2 w h3.tail
theorem newBook {p : Nat} {w : World} {H : List HP} (h : Sat B (Cs p 73 (List.replicate 23 (.slice none 0 0)) :: H) w) : Sat B (BkS p 0 :: H) w :=
  Sat.ex_in [] (Sat.pu_in ⟨rfl, fun e he => by simp at he⟩ (Sat.ex_in (none, 0) ((Sat.nilOwn (e := 28) (sz := 1) (Bag.nil_ h)).frd (Ps := [_, _, _]) (Qs := []) (by (repeat (first|exact Fr.nil|(apply Fr.cons;focus ((repeat constructor);done))))))))
end
attribute [local irreducible] Cs Own Ex Pu Yld RT LJ QJ AtQ CT Rd QSp Sp FinQ Then LoopQ CutQ DT TakeQ EffQ
attribute [local irreducible] Wr Lo Df Lft Bag Twi
variable {B : World} {R : List HP}
theorem sameRaw_fn {x : RW} {a a' : Option Addr} {c c' : Nat} (hR : Rd B R a x.dt.length c 1 (ints .u8 x.dt)) (hR' : Rd B R a' x.dt.length c' 1 (ints .u8 x.dt)) (hn : x.dt.length ≤ 140737488355328) :
    Sp B Try.prog 54 [.agg (rawC x a c).toArray, .agg (rawC x a' c').toArray] R [] (fun v H' => v = .bool true ∧ H' = []) := by
  refine Sp.body Try.func54 rfl Try.ntmps54 (by simp) ?_
  simp only [argE, List.cons_append, List.nil_append, Nat.zero_add, Nat.reduceAdd]
  repeat' (first|((first|refine vc_id ?_|(refine RT.id ?_;refine RT.c T ?_));(conv=>whnf);first|refine RT.id ?_|(refine⟨fun hc=>?_,fun hc=>?_⟩<;>first|(exfalso;omega)|skip)|(apply num_k;omega;omega)|(apply num_m;intro r hr)|(intro r hr))|(refine RT.id ?_;first|refine RT.nil ?_|(apply RT.ld T;exact rfl;(focus ((repeat constructor);done));iterate 4 exact rfl)|(apply RT.st T;(iterate 3 exact rfl);(focus ((repeat constructor);done));(focus repeat constructor);iterate 2 exact rfl)|((first|apply RT.box|apply RT.alloc T);(iterate 4 exact rfl);intro b)|((first|apply RT.pnil T|apply RT.pnnil T);iterate 6 exact rfl)|(refine RT.isPush ?_;refine RT.pushI T rfl rfl rfl (fun a' c'=>by ((repeat constructor);done)) (by omega) (by omega) rfl rfl rfl rfl (fun a' c' b' c1' hac=>?_))|refine RT.build T rfl rfl rfl rfl rfl ?_|(apply RT.lens T;iterate 4 exact rfl))|(refine RT.id ?_;first|(apply RT.staggW T;exact rfl;exact rfl;exact rfl;(focus ((repeat constructor);done));iterate 4 exact rfl)|(apply RT.ldagg T;exact rfl;(focus ((repeat constructor);done));iterate 4 exact rfl))|(refine AtQ.id_ ?_;first|refine nx ?_|refine A0 ?_|refine A9 ?_|refine AtQ.in_ne rfl ?_)|(refine CT.id_ ?_;first|refine nx ?_|refine CT.region ?_|refine CT.quiet mixed (by kernel_rfl) ?_|refine CT.cond_t rfl ?_|refine CT.cond_f rfl ?_))
  (refine RT.call T rfl (by (repeat (first|exact Fr.nil|(apply Fr.cons;focus ((repeat constructor);done))))) (sameBytes_fn (l := x.dt) (l' := x.dt) (by repeat (first | exact (hR) | apply Rd.cons)) (by repeat (first | exact (hR') | apply Rd.cons)) hn hn) rfl rfl rfl ?_; rintro _ _ ⟨rfl, rfl⟩; try simp only [List.cons_append, List.nil_append])
  rw [show decide True = true from rfl]
  repeat' (first|((first|refine vc_id ?_|(refine RT.id ?_;refine RT.c T ?_));(conv=>whnf);first|refine RT.id ?_|(refine⟨fun hc=>?_,fun hc=>?_⟩<;>first|(exfalso;omega)|skip)|(apply num_k;omega;omega)|(apply num_m;intro r hr)|(intro r hr))|(refine RT.id ?_;first|refine RT.nil ?_|(apply RT.ld T;exact rfl;(focus ((repeat constructor);done));iterate 4 exact rfl)|(apply RT.st T;(iterate 3 exact rfl);(focus ((repeat constructor);done));(focus repeat constructor);iterate 2 exact rfl)|((first|apply RT.box|apply RT.alloc T);(iterate 4 exact rfl);intro b)|((first|apply RT.pnil T|apply RT.pnnil T);iterate 6 exact rfl)|(refine RT.isPush ?_;refine RT.pushI T rfl rfl rfl (fun a' c'=>by ((repeat constructor);done)) (by omega) (by omega) rfl rfl rfl rfl (fun a' c' b' c1' hac=>?_))|refine RT.build T rfl rfl rfl rfl rfl ?_|(apply RT.lens T;iterate 4 exact rfl))|(refine RT.id ?_;first|(apply RT.staggW T;exact rfl;exact rfl;exact rfl;(focus ((repeat constructor);done));iterate 4 exact rfl)|(apply RT.ldagg T;exact rfl;(focus ((repeat constructor);done));iterate 4 exact rfl))|(refine AtQ.id_ ?_;first|refine nx ?_|refine A0 ?_|refine A9 ?_|refine AtQ.in_ne rfl ?_)|(refine CT.id_ ?_;first|refine nx ?_|refine CT.region ?_|refine CT.quiet mixed (by kernel_rfl) ?_|refine CT.cond_t rfl ?_|refine CT.cond_f rfl ?_))
  exact AtQ.f1 (HH := []) Try.results54 rfl rfl (fun w h => h.tail.tail)
end Go.Proofs.Ytldfbjcicbfidaa
