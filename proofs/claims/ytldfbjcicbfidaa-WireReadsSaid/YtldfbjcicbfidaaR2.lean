/- Walks: numbers as varints, a copy of bytes, a new reader. -/
import Derived.Test.YtldfbjcicbfidaaR1
import Derived.Test.YtldfbjcicbfidaaV2
import Derived.Test.YtldfbjcicbfidaaSkA
set_option linter.unusedVariables false
set_option linter.unusedSimpArgs false
namespace Go.Proofs.Ytldfbjcicbfidaa
open Go.Sk
set_option maxRecDepth 100000
attribute [local irreducible] Cs Own Ex Pu Yld RT LJ QJ AtQ CT Rd QSp Sp FinQ Then LoopQ CutQ DT TakeQ EffQ
variable {B : World} {R : List HP}
abbrev own8 (a : Option Addr) (c : Nat) (l : List Int) (n : Nat) : HP := Own a c 5 1 n (ints .u8 l)
abbrev sl8 (a : Option Addr) (n c : Nat) : Value := .slice a n c

theorem pick_fn {c n : Int} (hn : 1 ≤ n) (hn2 : n ≤ 9223372036854775807) (hc0 : -9223372036854775808 ≤ c) (hc1 : c ≤ 9223372036854775807) :
    Sp B Try.prog 17 [.int .i64 c, .int .i64 n] R [] (fun v H' => v = .int .i64 (if c < 0 then (-(c + 1)) % n else c % n) ∧ H' = []) := by
  refine Sp.body Try.func17 rfl Try.ntmps17 (by simp) ?_
  simp only [argE, List.cons_append, List.nil_append, Nat.zero_add, Nat.reduceAdd]
  repeat' (first|((first|refine vc_id ?_|(refine RT.id ?_;refine RT.c T ?_));(conv=>whnf);first|refine RT.id ?_|(refine⟨fun hc=>?_,fun hc=>?_⟩<;>first|(exfalso;omega)|skip)|(apply num_k;omega;omega)|(apply num_m;intro r hr)|(intro r hr))|(refine RT.id ?_;first|refine RT.nil ?_|(apply RT.ld T;exact rfl;(focus ((repeat constructor);done));iterate 4 exact rfl)|(apply RT.st T;(iterate 3 exact rfl);(focus ((repeat constructor);done));(focus repeat constructor);iterate 2 exact rfl)|((first|apply RT.box|apply RT.alloc T);(iterate 4 exact rfl);intro b)|((first|apply RT.pnil T|apply RT.pnnil T);iterate 6 exact rfl)|(refine RT.isPush ?_;refine RT.pushI T rfl rfl rfl (fun a' c'=>by ((repeat constructor);done)) (by omega) (by omega) rfl rfl rfl rfl (fun a' c' b' c1' hac=>?_))|refine RT.build T rfl rfl rfl rfl rfl ?_|(apply RT.lens T;iterate 4 exact rfl))|(refine AtQ.id_ ?_;first|refine nx ?_|refine A0 ?_|refine A9 ?_|refine AtQ.in_ne rfl ?_)|(refine CT.id_ ?_;first|refine nx ?_|refine CT.region ?_|refine CT.quiet mixed (by kernel_rfl) ?_|refine CT.cond_t rfl ?_|refine CT.cond_f rfl ?_))
  · refine RT.neg rfl (r := -(c + 1)) (by rw [show 0 - (c + 1) = -(c + 1) by omega]; exact wr_i64 (by omega) (by omega)) rfl rfl ?_
    repeat' (first|((first|refine vc_id ?_|(refine RT.id ?_;refine RT.c T ?_));(conv=>whnf);first|refine RT.id ?_|(refine⟨fun hc=>?_,fun hc=>?_⟩<;>first|(exfalso;omega)|skip)|(apply num_k;omega;omega)|(apply num_m;intro r hr)|(intro r hr))|(refine RT.id ?_;first|refine RT.nil ?_|(apply RT.ld T;exact rfl;(focus ((repeat constructor);done));iterate 4 exact rfl)|(apply RT.st T;(iterate 3 exact rfl);(focus ((repeat constructor);done));(focus repeat constructor);iterate 2 exact rfl)|((first|apply RT.box|apply RT.alloc T);(iterate 4 exact rfl);intro b)|((first|apply RT.pnil T|apply RT.pnnil T);iterate 6 exact rfl)|(refine RT.isPush ?_;refine RT.pushI T rfl rfl rfl (fun a' c'=>by ((repeat constructor);done)) (by omega) (by omega) rfl rfl rfl rfl (fun a' c' b' c1' hac=>?_))|refine RT.build T rfl rfl rfl rfl rfl ?_|(apply RT.lens T;iterate 4 exact rfl))|(refine AtQ.id_ ?_;first|refine nx ?_|refine A0 ?_|refine A9 ?_|refine AtQ.in_ne rfl ?_)|(refine CT.id_ ?_;first|refine nx ?_|refine CT.region ?_|refine CT.quiet mixed (by kernel_rfl) ?_|refine CT.cond_t rfl ?_|refine CT.cond_f rfl ?_))
    refine RT.rem rfl rfl (by omega) rfl rfl rfl ?_
    repeat' (first|((first|refine vc_id ?_|(refine RT.id ?_;refine RT.c T ?_));(conv=>whnf);first|refine RT.id ?_|(refine⟨fun hc=>?_,fun hc=>?_⟩<;>first|(exfalso;omega)|skip)|(apply num_k;omega;omega)|(apply num_m;intro r hr)|(intro r hr))|(refine RT.id ?_;first|refine RT.nil ?_|(apply RT.ld T;exact rfl;(focus ((repeat constructor);done));iterate 4 exact rfl)|(apply RT.st T;(iterate 3 exact rfl);(focus ((repeat constructor);done));(focus repeat constructor);iterate 2 exact rfl)|((first|apply RT.box|apply RT.alloc T);(iterate 4 exact rfl);intro b)|((first|apply RT.pnil T|apply RT.pnnil T);iterate 6 exact rfl)|(refine RT.isPush ?_;refine RT.pushI T rfl rfl rfl (fun a' c'=>by ((repeat constructor);done)) (by omega) (by omega) rfl rfl rfl rfl (fun a' c' b' c1' hac=>?_))|refine RT.build T rfl rfl rfl rfl rfl ?_|(apply RT.lens T;iterate 4 exact rfl))|(refine AtQ.id_ ?_;first|refine nx ?_|refine A0 ?_|refine A9 ?_|refine AtQ.in_ne rfl ?_)|(refine CT.id_ ?_;first|refine nx ?_|refine CT.region ?_|refine CT.quiet mixed (by kernel_rfl) ?_|refine CT.cond_t rfl ?_|refine CT.cond_f rfl ?_))
    refine AtQ.fin1 (H' := []) Try.results17 rfl ?_ (fun _ h => h)
    exact ⟨by rw [if_pos hc, Int.tmod_eq_emod_of_nonneg (by omega)], rfl⟩
  · refine RT.rem rfl rfl (by omega) rfl rfl rfl ?_
    repeat' (first|((first|refine vc_id ?_|(refine RT.id ?_;refine RT.c T ?_));(conv=>whnf);first|refine RT.id ?_|(refine⟨fun hc=>?_,fun hc=>?_⟩<;>first|(exfalso;omega)|skip)|(apply num_k;omega;omega)|(apply num_m;intro r hr)|(intro r hr))|(refine RT.id ?_;first|refine RT.nil ?_|(apply RT.ld T;exact rfl;(focus ((repeat constructor);done));iterate 4 exact rfl)|(apply RT.st T;(iterate 3 exact rfl);(focus ((repeat constructor);done));(focus repeat constructor);iterate 2 exact rfl)|((first|apply RT.box|apply RT.alloc T);(iterate 4 exact rfl);intro b)|((first|apply RT.pnil T|apply RT.pnnil T);iterate 6 exact rfl)|(refine RT.isPush ?_;refine RT.pushI T rfl rfl rfl (fun a' c'=>by ((repeat constructor);done)) (by omega) (by omega) rfl rfl rfl rfl (fun a' c' b' c1' hac=>?_))|refine RT.build T rfl rfl rfl rfl rfl ?_|(apply RT.lens T;iterate 4 exact rfl))|(refine AtQ.id_ ?_;first|refine nx ?_|refine A0 ?_|refine A9 ?_|refine AtQ.in_ne rfl ?_)|(refine CT.id_ ?_;first|refine nx ?_|refine CT.region ?_|refine CT.quiet mixed (by kernel_rfl) ?_|refine CT.cond_t rfl ?_|refine CT.cond_f rfl ?_))
    refine AtQ.fin1 (H' := []) Try.results17 rfl ?_ (fun _ h => h)
    exact ⟨by rw [if_neg hc, Int.tmod_eq_emod_of_nonneg (by omega)], rfl⟩
/-- A state of the loops that write a varint. -/
structure SV where
  f : Nat
  v : Int
  p : List Int
  k : Nat
  a : Option Addr
  c : Nat
def SV.ok (s : SV) (v : Int) : Prop := 0 ≤ s.v ∧ s.v < 128 ^ (s.f + 1) ∧ s.f ≤ 9 ∧ enc v = s.p ++ encF s.f s.v ∧ s.p.length = s.k ∧ s.k + s.f = 9 ∧ s.v ≤ v
theorem SV.ok0 {v : Int} (hv : V64 v) (a : Option Addr) (c : Nat) : SV.ok ⟨9, v, [], 0, a, c⟩ v := ⟨hv.1, hv.lt, Nat.le_refl _, rfl, rfl, rfl, Int.le_refl _⟩
theorem SV.stop {s : SV} {v : Int} (h : s.ok v) (hlt : s.v < 128) : enc v = s.p ++ [s.v] ∧ s.k + 1 = (enc v).length := by
  obtain ⟨h0, h1, h2, h3, h4, h5, h6⟩ := h
  have : encF s.f s.v = [s.v] := by
    cases hf : s.f with
    | zero => rfl
    | succ f => simp only [encF]; rw [if_pos hlt]
  rw [this] at h3
  exact ⟨h3, by rw [h3]; simp [h4]⟩
theorem SV.go {s : SV} {v : Int} (h : s.ok v) (hge : ¬ s.v < 128) (a : Option Addr) (c : Nat) : SV.ok ⟨s.f - 1, s.v / 128, s.p ++ [s.v % 128 + 128], s.k + 1, a, c⟩ v ∧ 1 ≤ s.f := by
  obtain ⟨h0, h1, h2, h3, h4, h5, h6⟩ := h
  have hf : 1 ≤ s.f := by
    rcases Nat.eq_zero_or_pos s.f with e | e
    · rw [e] at h1; simp at h1; omega
    · exact e
  obtain ⟨f, hf'⟩ : ∃ f, s.f = f + 1 := ⟨s.f - 1, by omega⟩
  rw [hf'] at h1 h3 h5 ⊢
  have hp : (128 : Int) ^ (f + 1 + 1) = 128 ^ (f + 1) * 128 := by rw [Int.pow_succ]
  simp only [encF] at h3
  rw [if_neg hge] at h3
  exact ⟨⟨by simp only; omega, by simp only [Nat.add_sub_cancel]; omega, by simp only; omega, by simp only [Nat.add_sub_cancel]; rw [h3]; simp, by simp [h4], by simp only; omega, by simp only; omega⟩, by omega⟩
set_option maxHeartbeats 1000000 in
theorem varint_w {a : Option Addr} {n c : Nat} {l : List Int} {v : Int} (hv : V64 v) (hn : n ≤ 100000000000000) :
    Sp B Try.prog 57 [sl8 a n c, .int .u64 v] R [own8 a c l n] (fun u H' => ∃ a' c', u = sl8 a' (n + (enc v).length) c' ∧ H' = [own8 a' c' (l ++ enc v) (n + (enc v).length)]) := by
  refine Sp.body Try.func57 rfl Try.ntmps57 (by simp) ?_
  simp only [argE, List.cons_append, List.nil_append, Nat.zero_add, Nat.reduceAdd]
  repeat' (first|((first|refine vc_id ?_|(refine RT.id ?_;refine RT.c T ?_));(conv=>whnf);first|refine RT.id ?_|(refine⟨fun hc=>?_,fun hc=>?_⟩<;>first|(exfalso;omega)|skip)|(apply num_k;omega;omega)|(apply num_m;intro r hr)|(intro r hr))|(refine RT.id ?_;first|refine RT.nil ?_|(apply RT.ld T;exact rfl;(focus ((repeat constructor);done));iterate 4 exact rfl)|(apply RT.st T;(iterate 3 exact rfl);(focus ((repeat constructor);done));(focus repeat constructor);iterate 2 exact rfl)|((first|apply RT.box|apply RT.alloc T);(iterate 4 exact rfl);intro b)|((first|apply RT.pnil T|apply RT.pnnil T);iterate 6 exact rfl)|(refine RT.isPush ?_;refine RT.pushI T rfl rfl rfl (fun a' c'=>by ((repeat constructor);done)) (by omega) (by omega) rfl rfl rfl rfl (fun a' c' b' c1' hac=>?_))|refine RT.build T rfl rfl rfl rfl rfl ?_|(apply RT.lens T;iterate 4 exact rfl))|(refine AtQ.id_ ?_;first|refine nx ?_|refine A0 ?_|refine A9 ?_|refine AtQ.in_ne rfl ?_)|(refine CT.id_ ?_;first|refine nx ?_|refine CT.region ?_|refine CT.quiet mixed (by kernel_rfl) ?_|refine CT.cond_t rfl ?_|refine CT.cond_f rfl ?_))
  refine CT.loop (α := SV) (fun s => [(0, sl8 s.a (n + s.k) s.c), (1, .int .u64 s.v)]) (fun s => Pu (s.ok v) :: own8 s.a s.c (l ++ s.p) (n + s.k) :: R) (fun s => s.f) ⟨9, v, [], 0, a, c⟩ ⟨rfl, rfl, trivial⟩
    (fun w h => Sat.pu_in (SV.ok0 hv a c) (by simpa using h)) (fun s => CT.pu fun hs => ?_)
  have hs' := hs
  obtain ⟨h0, h1, h2, h3, h4, h5, h6⟩ := hs'
  have hvb := hv.2
  repeat' (first|((first|refine vc_id ?_|(refine RT.id ?_;refine RT.c T ?_));(conv=>whnf);first|refine RT.id ?_|(refine⟨fun hc=>?_,fun hc=>?_⟩<;>first|(exfalso;omega)|skip)|(apply num_k;omega;omega)|(apply num_m;intro r hr)|(intro r hr))|(refine RT.id ?_;first|refine RT.nil ?_|(apply RT.ld T;exact rfl;(focus ((repeat constructor);done));iterate 4 exact rfl)|(apply RT.st T;(iterate 3 exact rfl);(focus ((repeat constructor);done));(focus repeat constructor);iterate 2 exact rfl)|((first|apply RT.box|apply RT.alloc T);(iterate 4 exact rfl);intro b)|((first|apply RT.pnil T|apply RT.pnnil T);iterate 6 exact rfl)|(refine RT.isPush ?_;refine RT.pushI T rfl rfl rfl (fun a' c'=>by ((repeat constructor);done)) (by omega) (by omega) rfl rfl rfl rfl (fun a' c' b' c1' hac=>?_))|refine RT.build T rfl rfl rfl rfl rfl ?_|(apply RT.lens T;iterate 4 exact rfl))|(refine AtQ.id_ ?_;first|refine nx ?_|refine A0 ?_|refine A9 ?_|refine AtQ.in_ne rfl ?_)|(refine CT.id_ ?_;first|refine nx ?_|refine CT.region ?_|refine CT.quiet mixed (by kernel_rfl) ?_|refine CT.cond_t rfl ?_|refine CT.cond_f rfl ?_))
  · have hb : isByte r := ⟨by omega, by omega⟩
    refine RT.ar rfl rfl (y_or rfl rfl (or128 hb)) rfl rfl ?_
    have e1 : r % 128 + 128 = s.v % 128 + 128 := by omega
    rw [e1]
    repeat' (first|((first|refine vc_id ?_|(refine RT.id ?_;refine RT.c T ?_));(conv=>whnf);first|refine RT.id ?_|(refine⟨fun hc=>?_,fun hc=>?_⟩<;>first|(exfalso;omega)|skip)|(apply num_k;omega;omega)|(apply num_m;intro r hr)|(intro r hr))|(refine RT.id ?_;first|refine RT.nil ?_|(apply RT.ld T;exact rfl;(focus ((repeat constructor);done));iterate 4 exact rfl)|(apply RT.st T;(iterate 3 exact rfl);(focus ((repeat constructor);done));(focus repeat constructor);iterate 2 exact rfl)|((first|apply RT.box|apply RT.alloc T);(iterate 4 exact rfl);intro b)|((first|apply RT.pnil T|apply RT.pnnil T);iterate 6 exact rfl)|(refine RT.isPush ?_;refine RT.pushI T rfl rfl rfl (fun a' c'=>by ((repeat constructor);done)) (by omega) (by omega) rfl rfl rfl rfl (fun a' c' b' c1' hac=>?_))|refine RT.build T rfl rfl rfl rfl rfl ?_|(apply RT.lens T;iterate 4 exact rfl))|(refine AtQ.id_ ?_;first|refine nx ?_|refine A0 ?_|refine A9 ?_|refine AtQ.in_ne rfl ?_)|(refine CT.id_ ?_;first|refine nx ?_|refine CT.region ?_|refine CT.quiet mixed (by kernel_rfl) ?_|refine CT.cond_t rfl ?_|refine CT.cond_f rfl ?_))
    refine RT.shr rfl rfl (by omega) shr7 rfl rfl ?_
    repeat' (first|((first|refine vc_id ?_|(refine RT.id ?_;refine RT.c T ?_));(conv=>whnf);first|refine RT.id ?_|(refine⟨fun hc=>?_,fun hc=>?_⟩<;>first|(exfalso;omega)|skip)|(apply num_k;omega;omega)|(apply num_m;intro r hr)|(intro r hr))|(refine RT.id ?_;first|refine RT.nil ?_|(apply RT.ld T;exact rfl;(focus ((repeat constructor);done));iterate 4 exact rfl)|(apply RT.st T;(iterate 3 exact rfl);(focus ((repeat constructor);done));(focus repeat constructor);iterate 2 exact rfl)|((first|apply RT.box|apply RT.alloc T);(iterate 4 exact rfl);intro b)|((first|apply RT.pnil T|apply RT.pnnil T);iterate 6 exact rfl)|(refine RT.isPush ?_;refine RT.pushI T rfl rfl rfl (fun a' c'=>by ((repeat constructor);done)) (by omega) (by omega) rfl rfl rfl rfl (fun a' c' b' c1' hac=>?_))|refine RT.build T rfl rfl rfl rfl rfl ?_|(apply RT.lens T;iterate 4 exact rfl))|(refine AtQ.id_ ?_;first|refine nx ?_|refine A0 ?_|refine A9 ?_|refine AtQ.in_ne rfl ?_)|(refine CT.id_ ?_;first|refine nx ?_|refine CT.region ?_|refine CT.quiet mixed (by kernel_rfl) ?_|refine CT.cond_t rfl ?_|refine CT.cond_f rfl ?_))
    obtain ⟨hk, hf⟩ := SV.go hs (by omega) a' c'
    refine AtQ.loop ⟨s.f - 1, s.v / 128, s.p ++ [s.v % 128 + 128], s.k + 1, a', c'⟩ ⟨rfl, rfl, trivial⟩ (fun w h => Sat.pu_in hk (by rw [List.append_assoc] at h; exact h)) (by simp only; omega)
  · obtain ⟨e1, e2⟩ := SV.stop hs (by omega)
    refine AtQ.fin1 (H' := [own8 _ _ (l ++ s.p ++ [s.v]) (n + s.k + 1)]) Try.results57 rfl ?_ (fun _ h => h)
    exact ⟨_, _, by rw [← e2]; rfl, by rw [← e2, e1, List.append_assoc]; rfl⟩
end Go.Proofs.Ytldfbjcicbfidaa
