/- Walks: Unquote. -/
import Derived.Test.YtbpelgbblpeojaaDoorB29
import Derived.Test.YtbpelgbblpeojaaDoorB3
set_option linter.unusedVariables false
set_option linter.unusedSimpArgs false
namespace Go.Proofs.YtbpelgbblpeojaaDoor
open Go.Sk
set_option maxRecDepth 100000
theorem escL_ok {r : List Int} (hr : Byt r) {b : List Int} {k : Nat} (h : escL r = some (b, k)) : 1 ≤ k ∧ k ≤ r.length ∧ Byt b ∧ b.length ≤ 4 ∧ 1 ≤ b.length := by
  cases r with
  | nil => cases h
  | cons c t =>
    have ho := ocnt_le (c :: t) 3
    have h2 := hcnt_le t 2
    have h4 := hcnt_le t 4
    have h8 := hcnt_le t 8
    have hc := hr c (by simp)
    have hp := plV_lt hc
    obtain ⟨w0, w1⟩ := oval_bd (l := c :: t) (k := 3) _ (Nat.le_refl _) (by omega)
    obtain ⟨v0, v1⟩ := hval_bd (l := t) (k := 2) _ (Nat.le_refl _) (by omega)
    have hp16 : (16 : Int) ^ hcnt t 2 ≤ 256 := by
      have : hcnt t 2 = 0 ∨ hcnt t 2 = 1 ∨ hcnt t 2 = 2 := by omega
      rcases this with h | h | h <;> rw [h] <;> decide
    rw [escL] at h
    split at h
    · cases h
      exact ⟨by omega, by simp, Byt.one ⟨by omega, by omega⟩, by simp, by simp⟩
    · split at h
      · split at h
        · cases h
          exact ⟨by omega, by omega, Byt.one ⟨by omega, by omega⟩, by simp, by simp⟩
        · cases h
      · split at h
        · split at h
          · cases h
            exact ⟨by omega, by simp only [List.length_cons]; omega, Byt.one ⟨by omega, by omega⟩, by simp, by simp⟩
          · cases h
        · split at h
          · split at h
            · rename_i hv
              cases h
              exact ⟨by omega, by simp only [List.length_cons]; omega, chrL_byt _, (chrL_len _).2, (chrL_len _).1⟩
            · cases h
          · split at h
            · split at h
              · rename_i hv
                cases h
                exact ⟨by omega, by simp only [List.length_cons]; omega, chrL_byt _, (chrL_len _).2, (chrL_len _).1⟩
              · cases h
            · cases h
def unqF (q : Int) (l : List Int) : Nat → Nat → List Int → List Int × Nat × Int
  | 0, _, _ => ([], l.length, 21)
  | f + 1, i, acc =>
    if i < l.length then
      if l.getD i 0 = q then (acc, i + 1, 0)
      else if l.getD i 0 = 10 then ([], i, 21)
      else if l.getD i 0 = 92 then (match escL (l.drop (i + 1)) with | none => ([], i, 21) | some (b, k) => unqF q l f (i + (k + 1)) (acc ++ b))
      else unqF q l f (i + 1) (acc ++ [l.getD i 0])
    else ([], l.length, 21)
def unqR (l : List Int) : List Int × Nat × Int := unqF (l.getD 0 0) l l.length 1 []
def unqL (l : List Int) : List Int × Nat × Int := if l = [] ∨ (l.getD 0 0 ≠ 34 ∧ l.getD 0 0 ≠ 39) then ([], 0, 21) else unqR l
def UnqI (l : List Int) (i : Nat) (acc : List Int) : Prop := ∃ f, unqF (l.getD 0 0) l f i acc = unqR l ∧ l.length ≤ i + f ∧ i ≤ l.length ∧ Byt acc ∧ acc.length ≤ 4 * i
theorem UnqI.z {l : List Int} (h : 1 ≤ l.length) : UnqI l 1 [] := ⟨_, rfl, by omega, h, Byt.nil, by simp⟩
theorem UnqI.end_ {l : List Int} {i : Nat} {acc : List Int} (h : UnqI l i acc) (hi : ¬ i < l.length) : unqR l = ([], l.length, 21) := by
  obtain ⟨f, h1, _⟩ := h
  rw [← h1]
  cases f with
  | zero => rfl
  | succ f => rw [unqF, if_neg hi]
theorem UnqI.step {l : List Int} {i : Nat} {acc : List Int} (h : UnqI l i acc) (hi : i < l.length) : ∃ f, unqF (l.getD 0 0) l (f + 1) i acc = unqR l ∧ l.length ≤ i + (f + 1) ∧ Byt acc ∧ acc.length ≤ 4 * i := by
  obtain ⟨f, h1, h2, h3, h4, h5⟩ := h
  cases f with
  | zero => omega
  | succ f => exact ⟨f, h1, h2, h4, h5⟩
theorem UnqI.q {l : List Int} {i : Nat} {acc : List Int} (h : UnqI l i acc) (hi : i < l.length) (hc : l.getD i 0 = l.getD 0 0) : unqR l = (acc, i + 1, 0) := by
  obtain ⟨f, h1, _⟩ := h.step hi
  rw [← h1, unqF, if_pos hi, if_pos hc]
theorem UnqI.nl {l : List Int} {i : Nat} {acc : List Int} (h : UnqI l i acc) (hi : i < l.length) (hq : l.getD i 0 ≠ l.getD 0 0) (hc : l.getD i 0 = 10) : unqR l = ([], i, 21) := by
  obtain ⟨f, h1, _⟩ := h.step hi
  rw [← h1, unqF, if_pos hi, if_neg hq, if_pos hc]
theorem UnqI.bad {l : List Int} {i : Nat} {acc : List Int} (h : UnqI l i acc) (hi : i < l.length) (hq : l.getD i 0 ≠ l.getD 0 0) (hn : l.getD i 0 ≠ 10) (hc : l.getD i 0 = 92) (he : escL (l.drop (i + 1)) = none) : unqR l = ([], i, 21) := by
  obtain ⟨f, h1, _⟩ := h.step hi
  rw [← h1, unqF, if_pos hi, if_neg hq, if_neg hn, if_pos hc, he]
theorem UnqI.esc {l : List Int} (hb : Byt l) {i : Nat} {acc b : List Int} {k : Nat} (h : UnqI l i acc) (hi : i < l.length) (hq : l.getD i 0 ≠ l.getD 0 0) (hn : l.getD i 0 ≠ 10) (hc : l.getD i 0 = 92) (he : escL (l.drop (i + 1)) = some (b, k)) : UnqI l (i + (k + 1)) (acc ++ b) := by
  obtain ⟨f, h1, h2, h3, h4⟩ := h.step hi
  obtain ⟨e1, e2, e3, e4, e5⟩ := escL_ok (hb.drop _) he
  rw [List.length_drop] at e2
  rw [unqF, if_pos hi, if_neg hq, if_neg hn, if_pos hc, he] at h1
  exact ⟨f, h1, by omega, by omega, h3.app e3, by rw [List.length_append]; omega⟩
theorem UnqI.go {l : List Int} (hb : Byt l) {i : Nat} {acc : List Int} (h : UnqI l i acc) (hi : i < l.length) (hq : l.getD i 0 ≠ l.getD 0 0) (hn : l.getD i 0 ≠ 10) (hc : l.getD i 0 ≠ 92) : UnqI l (i + 1) (acc ++ [l.getD i 0]) := by
  obtain ⟨f, h1, h2, h3, h4⟩ := h.step hi
  rw [unqF, if_pos hi, if_neg hq, if_neg hn, if_neg hc] at h1
  exact ⟨f, h1, by omega, by omega, h3.app (Byt.one (hb.get hi)), by rw [List.length_append]; simp; omega⟩
attribute [local irreducible] Cs Own Ex Pu Yld RT LJ QJ AtQ CT Rd QSp Sp FinQ Then LoopQ CutQ DT TakeQ EffQ
attribute [local irreducible] Bd
variable {B : World} {R : List HP}
set_option maxHeartbeats 2000000 in
theorem unquote_fn {l : List Int} (hb : Byt l) (hl : l.length ≤ 10000000000000) : Sp B Tryd.prog 43 [.string (str l)] R [] (fun v H' => v = .tuple #[.string (str (unqL l).1), .int .i64 (unqL l).2.1, .int .i64 (unqL l).2.2] ∧ H' = []) := by
  refine Sp.body Tryd.func43 rfl Tryd.ntmps43 (by simp) ?_
  simp only [argE, List.cons_append, List.nil_append, Nat.zero_add, Nat.reduceAdd]
  repeat' (first|((first|refine vc_id ?_|(refine RT.id ?_;refine RT.c T ?_));(conv=>whnf);first|refine RT.id ?_|(refine⟨fun hc=>?_,fun hc=>?_⟩<;>first|(exfalso;omega)|skip)|((first|apply num_i64|apply num_u64|apply num_u8|apply num_i32|apply num_u32);omega;omega)|((first|apply num_u64m|apply num_u8m|apply num_u32m);intro r hr)|(intro r hr))|(refine RT.id ?_;first|refine RT.nil ?_|(apply RT.ld T;exact rfl;(focus ((repeat constructor);done));iterate 4 exact rfl)|(apply RT.st T;(iterate 3 exact rfl);(focus ((repeat constructor);done));(focus repeat constructor);iterate 2 exact rfl)|((first|apply RT.box|apply RT.alloc T);(iterate 4 exact rfl);intro b)|((first|apply RT.pnil T|apply RT.pnnil T);iterate 6 exact rfl)|(refine RT.isPush ?_;refine RT.pushI T rfl rfl rfl (fun a' c'=>by ((repeat constructor);done)) (by omega) (by omega) rfl rfl rfl rfl (fun a' c' b' c1' hac=>?_))|refine RT.build T rfl rfl rfl rfl rfl ?_|(apply RT.lens T;iterate 4 exact rfl))|(refine AtQ.id_ ?_;first|refine A0 ?_|refine A1 ?_|refine A2 ?_|refine A3 ?_|refine A4 ?_|refine A5 ?_|refine A6 ?_|refine A7 ?_|refine A8 ?_|refine A9 ?_|refine AtQ.in_ne rfl ?_|refine AA ?_|refine AB ?_|refine AC ?_|refine AD ?_)|(refine CT.id_ ?_;first|(refine CT.seqN 1 rfl ?_) | (refine CT.region ?_) | (refine CT.quiet mixed (by kernel_rfl) ?_) | (refine CT.cond_t rfl ?_) | (refine CT.cond_f rfl ?_) | (refine CT.skip ?_) | (refine CT.ret ?_) | (refine CT.exit ?_) | (refine CT.blockN 1 rfl ?_)))
  refine CT.seq ?_
  refine CT.cut (α := Unit) (fun _ => [(0, .string (str l))]) (fun _ => Pu (l ≠ [] ∧ (l.getD 0 0 = 34 ∨ l.getD 0 0 = 39)) :: R) ?_ (fun _ => ?_)
  · repeat' (first|((first|refine vc_id ?_|(refine RT.id ?_;refine RT.c T ?_));(conv=>whnf);first|refine RT.id ?_|(refine⟨fun hc=>?_,fun hc=>?_⟩<;>first|(exfalso;omega)|skip)|((first|apply num_i64|apply num_u64|apply num_u8|apply num_i32|apply num_u32);omega;omega)|((first|apply num_u64m|apply num_u8m|apply num_u32m);intro r hr)|(intro r hr))|(refine RT.id ?_;first|refine RT.nil ?_|(apply RT.ld T;exact rfl;(focus ((repeat constructor);done));iterate 4 exact rfl)|(apply RT.st T;(iterate 3 exact rfl);(focus ((repeat constructor);done));(focus repeat constructor);iterate 2 exact rfl)|((first|apply RT.box|apply RT.alloc T);(iterate 4 exact rfl);intro b)|((first|apply RT.pnil T|apply RT.pnnil T);iterate 6 exact rfl)|(refine RT.isPush ?_;refine RT.pushI T rfl rfl rfl (fun a' c'=>by ((repeat constructor);done)) (by omega) (by omega) rfl rfl rfl rfl (fun a' c' b' c1' hac=>?_))|refine RT.build T rfl rfl rfl rfl rfl ?_|(apply RT.lens T;iterate 4 exact rfl))|(refine AtQ.id_ ?_;first|refine A0 ?_|refine A1 ?_|refine A2 ?_|refine A3 ?_|refine A4 ?_|refine A5 ?_|refine A6 ?_|refine A7 ?_|refine A8 ?_|refine A9 ?_|refine AtQ.in_ne rfl ?_|refine AA ?_|refine AB ?_|refine AC ?_|refine AD ?_)|(refine CT.id_ ?_;first|(refine CT.seq ?_) | (refine CT.region ?_) | (refine CT.quiet mixed (by kernel_rfl) ?_) | (refine CT.cond_t rfl ?_) | (refine CT.cond_f rfl ?_) | (refine CT.skip ?_) | (refine CT.ret ?_) | (refine CT.exit ?_) | (refine CT.block ?_)))
    refine RT.eqs (l := l) (l' := []) rfl rfl hb Byt.nil rfl rfl (fun he => ?_) (fun he => ?_)
    · repeat' (first|((first|refine vc_id ?_|(refine RT.id ?_;refine RT.c T ?_));(conv=>whnf);first|refine RT.id ?_|(refine⟨fun hc=>?_,fun hc=>?_⟩<;>first|(exfalso;omega)|skip)|((first|apply num_i64|apply num_u64|apply num_u8|apply num_i32|apply num_u32);omega;omega)|((first|apply num_u64m|apply num_u8m|apply num_u32m);intro r hr)|(intro r hr))|(refine RT.id ?_;first|refine RT.nil ?_|(apply RT.ld T;exact rfl;(focus ((repeat constructor);done));iterate 4 exact rfl)|(apply RT.st T;(iterate 3 exact rfl);(focus ((repeat constructor);done));(focus repeat constructor);iterate 2 exact rfl)|((first|apply RT.box|apply RT.alloc T);(iterate 4 exact rfl);intro b)|((first|apply RT.pnil T|apply RT.pnnil T);iterate 6 exact rfl)|(refine RT.isPush ?_;refine RT.pushI T rfl rfl rfl (fun a' c'=>by ((repeat constructor);done)) (by omega) (by omega) rfl rfl rfl rfl (fun a' c' b' c1' hac=>?_))|refine RT.build T rfl rfl rfl rfl rfl ?_|(apply RT.lens T;iterate 4 exact rfl))|(refine AtQ.id_ ?_;first|refine A0 ?_|refine A1 ?_|refine A2 ?_|refine A3 ?_|refine A4 ?_|refine A5 ?_|refine A6 ?_|refine A7 ?_|refine A8 ?_|refine A9 ?_|refine AtQ.in_ne rfl ?_|refine AA ?_|refine AB ?_|refine AC ?_|refine AD ?_)|(refine CT.id_ ?_;first|(refine CT.seq ?_) | (refine CT.region ?_) | (refine CT.quiet mixed (by kernel_rfl) ?_) | (refine CT.cond_t rfl ?_) | (refine CT.cond_f rfl ?_) | (refine CT.skip ?_) | (refine CT.ret ?_) | (refine CT.exit ?_) | (refine CT.block ?_)))
      exact AtQ.f3 Tryd.results43 rfl rfl rfl (by rw [unqL, if_pos (.inl he)]; rfl) (by rw [unqL, if_pos (.inl he)]; rfl) (by rw [unqL, if_pos (.inl he)]) (fun w h => h)
    have hpos := List.length_pos_iff.2 he
    repeat' (first|((first|refine vc_id ?_|(refine RT.id ?_;refine RT.c T ?_));(conv=>whnf);first|refine RT.id ?_|(refine⟨fun hc=>?_,fun hc=>?_⟩<;>first|(exfalso;omega)|skip)|((first|apply num_i64|apply num_u64|apply num_u8|apply num_i32|apply num_u32);omega;omega)|((first|apply num_u64m|apply num_u8m|apply num_u32m);intro r hr)|(intro r hr))|(refine RT.id ?_;first|refine RT.nil ?_|(apply RT.ld T;exact rfl;(focus ((repeat constructor);done));iterate 4 exact rfl)|(apply RT.st T;(iterate 3 exact rfl);(focus ((repeat constructor);done));(focus repeat constructor);iterate 2 exact rfl)|((first|apply RT.box|apply RT.alloc T);(iterate 4 exact rfl);intro b)|((first|apply RT.pnil T|apply RT.pnnil T);iterate 6 exact rfl)|(refine RT.isPush ?_;refine RT.pushI T rfl rfl rfl (fun a' c'=>by ((repeat constructor);done)) (by omega) (by omega) rfl rfl rfl rfl (fun a' c' b' c1' hac=>?_))|refine RT.build T rfl rfl rfl rfl rfl ?_|(apply RT.lens T;iterate 4 exact rfl))|(refine AtQ.id_ ?_;first|refine A0 ?_|refine A1 ?_|refine A2 ?_|refine A3 ?_|refine A4 ?_|refine A5 ?_|refine A6 ?_|refine A7 ?_|refine A8 ?_|refine A9 ?_|refine AtQ.in_ne rfl ?_|refine AA ?_|refine AB ?_|refine AC ?_|refine AD ?_)|(refine CT.id_ ?_;first|(refine CT.seq ?_) | (refine CT.region ?_) | (refine CT.quiet mixed (by kernel_rfl) ?_) | (refine CT.cond_t rfl ?_) | (refine CT.cond_f rfl ?_) | (refine CT.skip ?_) | (refine CT.ret ?_) | (refine CT.exit ?_) | (refine CT.block ?_)))
    (refine RT.ixs T (j := 0) rfl rfl (by omega) (by omega) (by assumption) rfl rfl rfl ?_)
    repeat' (first|((first|refine vc_id ?_|(refine RT.id ?_;refine RT.c T ?_));(conv=>whnf);first|refine RT.id ?_|(refine⟨fun hc=>?_,fun hc=>?_⟩<;>first|(exfalso;omega)|skip)|((first|apply num_i64|apply num_u64|apply num_u8|apply num_i32|apply num_u32);omega;omega)|((first|apply num_u64m|apply num_u8m|apply num_u32m);intro r hr)|(intro r hr))|(refine RT.id ?_;first|refine RT.nil ?_|(apply RT.ld T;exact rfl;(focus ((repeat constructor);done));iterate 4 exact rfl)|(apply RT.st T;(iterate 3 exact rfl);(focus ((repeat constructor);done));(focus repeat constructor);iterate 2 exact rfl)|((first|apply RT.box|apply RT.alloc T);(iterate 4 exact rfl);intro b)|((first|apply RT.pnil T|apply RT.pnnil T);iterate 6 exact rfl)|(refine RT.isPush ?_;refine RT.pushI T rfl rfl rfl (fun a' c'=>by ((repeat constructor);done)) (by omega) (by omega) rfl rfl rfl rfl (fun a' c' b' c1' hac=>?_))|refine RT.build T rfl rfl rfl rfl rfl ?_|(apply RT.lens T;iterate 4 exact rfl))|(refine AtQ.id_ ?_;first|refine A0 ?_|refine A1 ?_|refine A2 ?_|refine A3 ?_|refine A4 ?_|refine A5 ?_|refine A6 ?_|refine A7 ?_|refine A8 ?_|refine A9 ?_|refine AtQ.in_ne rfl ?_|refine AA ?_|refine AB ?_|refine AC ?_|refine AD ?_)|(refine CT.id_ ?_;first|(refine CT.seq ?_) | (refine CT.region ?_) | (refine CT.quiet mixed (by kernel_rfl) ?_) | (refine CT.cond_t rfl ?_) | (refine CT.cond_f rfl ?_) | (refine CT.skip ?_) | (refine CT.ret ?_) | (refine CT.exit ?_) | (refine CT.block ?_)))
    · exact AtQ.cut () ⟨rfl, trivial⟩ (fun w h => Sat.pu_in ⟨he, .inl hc⟩ h)
    · (refine RT.ixs T (j := 0) rfl rfl (by omega) (by omega) (by assumption) rfl rfl rfl ?_)
      repeat' (first|((first|refine vc_id ?_|(refine RT.id ?_;refine RT.c T ?_));(conv=>whnf);first|refine RT.id ?_|(refine⟨fun hc=>?_,fun hc=>?_⟩<;>first|(exfalso;omega)|skip)|((first|apply num_i64|apply num_u64|apply num_u8|apply num_i32|apply num_u32);omega;omega)|((first|apply num_u64m|apply num_u8m|apply num_u32m);intro r hr)|(intro r hr))|(refine RT.id ?_;first|refine RT.nil ?_|(apply RT.ld T;exact rfl;(focus ((repeat constructor);done));iterate 4 exact rfl)|(apply RT.st T;(iterate 3 exact rfl);(focus ((repeat constructor);done));(focus repeat constructor);iterate 2 exact rfl)|((first|apply RT.box|apply RT.alloc T);(iterate 4 exact rfl);intro b)|((first|apply RT.pnil T|apply RT.pnnil T);iterate 6 exact rfl)|(refine RT.isPush ?_;refine RT.pushI T rfl rfl rfl (fun a' c'=>by ((repeat constructor);done)) (by omega) (by omega) rfl rfl rfl rfl (fun a' c' b' c1' hac=>?_))|refine RT.build T rfl rfl rfl rfl rfl ?_|(apply RT.lens T;iterate 4 exact rfl))|(refine AtQ.id_ ?_;first|refine A0 ?_|refine A1 ?_|refine A2 ?_|refine A3 ?_|refine A4 ?_|refine A5 ?_|refine A6 ?_|refine A7 ?_|refine A8 ?_|refine A9 ?_|refine AtQ.in_ne rfl ?_|refine AA ?_|refine AB ?_|refine AC ?_|refine AD ?_)|(refine CT.id_ ?_;first|(refine CT.seq ?_) | (refine CT.region ?_) | (refine CT.quiet mixed (by kernel_rfl) ?_) | (refine CT.cond_t rfl ?_) | (refine CT.cond_f rfl ?_) | (refine CT.skip ?_) | (refine CT.ret ?_) | (refine CT.exit ?_) | (refine CT.block ?_)))
      · exact AtQ.cut () ⟨rfl, trivial⟩ (fun w h => Sat.pu_in ⟨he, .inr hc⟩ h)
      · exact AtQ.f3 Tryd.results43 rfl rfl rfl (by rw [unqL, if_pos (.inr ⟨by assumption, by assumption⟩)]; rfl) (by rw [unqL, if_pos (.inr ⟨by assumption, by assumption⟩)]; rfl) (by rw [unqL, if_pos (.inr ⟨by assumption, by assumption⟩)]) (fun w h => h)
  refine AtQ.fact (p := l ≠ [] ∧ (l.getD 0 0 = 34 ∨ l.getD 0 0 = 39)) (fun w h => h.pu_out) fun ⟨he, hq⟩ => ?_
  refine AtQ.weak (H' := R) (fun w h => h.tail) ?_
  have hpos := List.length_pos_iff.2 he
  have hu : unqL l = unqR l := by rw [unqL, if_neg (by rintro (h | h); · exact he h
                                                       · omega)]
  rw [hu]
  repeat' (first|((first|refine vc_id ?_|(refine RT.id ?_;refine RT.c T ?_));(conv=>whnf);first|refine RT.id ?_|(refine⟨fun hc=>?_,fun hc=>?_⟩<;>first|(exfalso;omega)|skip)|((first|apply num_i64|apply num_u64|apply num_u8|apply num_i32|apply num_u32);omega;omega)|((first|apply num_u64m|apply num_u8m|apply num_u32m);intro r hr)|(intro r hr))|(refine RT.id ?_;first|refine RT.nil ?_|(apply RT.ld T;exact rfl;(focus ((repeat constructor);done));iterate 4 exact rfl)|(apply RT.st T;(iterate 3 exact rfl);(focus ((repeat constructor);done));(focus repeat constructor);iterate 2 exact rfl)|((first|apply RT.box|apply RT.alloc T);(iterate 4 exact rfl);intro b)|((first|apply RT.pnil T|apply RT.pnnil T);iterate 6 exact rfl)|(refine RT.isPush ?_;refine RT.pushI T rfl rfl rfl (fun a' c'=>by ((repeat constructor);done)) (by omega) (by omega) rfl rfl rfl rfl (fun a' c' b' c1' hac=>?_))|refine RT.build T rfl rfl rfl rfl rfl ?_|(apply RT.lens T;iterate 4 exact rfl))|(refine AtQ.id_ ?_;first|refine A0 ?_|refine A1 ?_|refine A2 ?_|refine A3 ?_|refine A4 ?_|refine A5 ?_|refine A6 ?_|refine A7 ?_|refine A8 ?_|refine A9 ?_|refine AtQ.in_ne rfl ?_|refine AA ?_|refine AB ?_|refine AC ?_|refine AD ?_)|(refine CT.id_ ?_;first|(refine CT.seqN 5 rfl ?_) | (refine CT.region ?_) | (refine CT.quiet mixed (by kernel_rfl) ?_) | (refine CT.cond_t rfl ?_) | (refine CT.cond_f rfl ?_) | (refine CT.skip ?_) | (refine CT.ret ?_) | (refine CT.exit ?_) | (refine CT.blockN 5 rfl ?_)))
  refine CT.weak (fun w h => Bd.new h) ?_
  refine CT.block ?_
  refine CT.loop (α := Nat × List Int) (fun s => [(0, .string (str l)), (5, ptr b), (6, .int .i64 s.1)]) (fun s => Pu (UnqI l s.1 s.2) :: Bd b s.2 :: R) (fun s => l.length - s.1) (1, []) ⟨rfl, rfl, rfl, trivial⟩
    (fun w h => Sat.pu_in (UnqI.z hpos) h) (fun s => CT.pu fun hs => ?_)
  obtain ⟨i, acc⟩ := s
  simp only at hs ⊢
  obtain ⟨_, _, _, hi1, hi2, hi3⟩ := id hs
  repeat' (first|((first|refine vc_id ?_|(refine RT.id ?_;refine RT.c T ?_));(conv=>whnf);first|refine RT.id ?_|(refine⟨fun hc=>?_,fun hc=>?_⟩<;>first|(exfalso;omega)|skip)|((first|apply num_i64|apply num_u64|apply num_u8|apply num_i32|apply num_u32);omega;omega)|((first|apply num_u64m|apply num_u8m|apply num_u32m);intro r hr)|(intro r hr))|(refine RT.id ?_;first|refine RT.nil ?_|(apply RT.ld T;exact rfl;(focus ((repeat constructor);done));iterate 4 exact rfl)|(apply RT.st T;(iterate 3 exact rfl);(focus ((repeat constructor);done));(focus repeat constructor);iterate 2 exact rfl)|((first|apply RT.box|apply RT.alloc T);(iterate 4 exact rfl);intro b)|((first|apply RT.pnil T|apply RT.pnnil T);iterate 6 exact rfl)|(refine RT.isPush ?_;refine RT.pushI T rfl rfl rfl (fun a' c'=>by ((repeat constructor);done)) (by omega) (by omega) rfl rfl rfl rfl (fun a' c' b' c1' hac=>?_))|refine RT.build T rfl rfl rfl rfl rfl ?_|(apply RT.lens T;iterate 4 exact rfl))|(refine AtQ.id_ ?_;first|refine A0 ?_|refine A1 ?_|refine A2 ?_|refine A3 ?_|refine A4 ?_|refine A5 ?_|refine A6 ?_|refine A7 ?_|refine A8 ?_|refine A9 ?_|refine AtQ.in_ne rfl ?_|refine AA ?_|refine AB ?_|refine AC ?_|refine AD ?_)|(refine CT.id_ ?_;first|(refine CT.seq ?_) | (refine CT.region ?_) | (refine CT.quiet mixed (by kernel_rfl) ?_) | (refine CT.cond_t rfl ?_) | (refine CT.cond_f rfl ?_) | (refine CT.skip ?_) | (refine CT.ret ?_) | (refine CT.exit ?_) | (refine CT.block ?_)))
  · (refine RT.ixs T (j := i) rfl rfl (by omega) (by omega) (by assumption) rfl rfl rfl ?_)
    repeat' (first|((first|refine vc_id ?_|(refine RT.id ?_;refine RT.c T ?_));(conv=>whnf);first|refine RT.id ?_|(refine⟨fun hc=>?_,fun hc=>?_⟩<;>first|(exfalso;omega)|skip)|((first|apply num_i64|apply num_u64|apply num_u8|apply num_i32|apply num_u32);omega;omega)|((first|apply num_u64m|apply num_u8m|apply num_u32m);intro r hr)|(intro r hr))|(refine RT.id ?_;first|refine RT.nil ?_|(apply RT.ld T;exact rfl;(focus ((repeat constructor);done));iterate 4 exact rfl)|(apply RT.st T;(iterate 3 exact rfl);(focus ((repeat constructor);done));(focus repeat constructor);iterate 2 exact rfl)|((first|apply RT.box|apply RT.alloc T);(iterate 4 exact rfl);intro b)|((first|apply RT.pnil T|apply RT.pnnil T);iterate 6 exact rfl)|(refine RT.isPush ?_;refine RT.pushI T rfl rfl rfl (fun a' c'=>by ((repeat constructor);done)) (by omega) (by omega) rfl rfl rfl rfl (fun a' c' b' c1' hac=>?_))|refine RT.build T rfl rfl rfl rfl rfl ?_|(apply RT.lens T;iterate 4 exact rfl))|(refine AtQ.id_ ?_;first|refine A0 ?_|refine A1 ?_|refine A2 ?_|refine A3 ?_|refine A4 ?_|refine A5 ?_|refine A6 ?_|refine A7 ?_|refine A8 ?_|refine A9 ?_|refine AtQ.in_ne rfl ?_|refine AA ?_|refine AB ?_|refine AC ?_|refine AD ?_)|(refine CT.id_ ?_;first|(refine CT.seq ?_) | (refine CT.region ?_) | (refine CT.quiet mixed (by kernel_rfl) ?_) | (refine CT.cond_t rfl ?_) | (refine CT.cond_f rfl ?_) | (refine CT.skip ?_) | (refine CT.ret ?_) | (refine CT.exit ?_) | (refine CT.block ?_)))
    (refine RT.ixs T (j := 0) rfl rfl (by omega) (by omega) (by assumption) rfl rfl rfl ?_)
    repeat' (first|((first|refine vc_id ?_|(refine RT.id ?_;refine RT.c T ?_));(conv=>whnf);first|refine RT.id ?_|(refine⟨fun hc=>?_,fun hc=>?_⟩<;>first|(exfalso;omega)|skip)|((first|apply num_i64|apply num_u64|apply num_u8|apply num_i32|apply num_u32);omega;omega)|((first|apply num_u64m|apply num_u8m|apply num_u32m);intro r hr)|(intro r hr))|(refine RT.id ?_;first|refine RT.nil ?_|(apply RT.ld T;exact rfl;(focus ((repeat constructor);done));iterate 4 exact rfl)|(apply RT.st T;(iterate 3 exact rfl);(focus ((repeat constructor);done));(focus repeat constructor);iterate 2 exact rfl)|((first|apply RT.box|apply RT.alloc T);(iterate 4 exact rfl);intro b)|((first|apply RT.pnil T|apply RT.pnnil T);iterate 6 exact rfl)|(refine RT.isPush ?_;refine RT.pushI T rfl rfl rfl (fun a' c'=>by ((repeat constructor);done)) (by omega) (by omega) rfl rfl rfl rfl (fun a' c' b' c1' hac=>?_))|refine RT.build T rfl rfl rfl rfl rfl ?_|(apply RT.lens T;iterate 4 exact rfl))|(refine AtQ.id_ ?_;first|refine A0 ?_|refine A1 ?_|refine A2 ?_|refine A3 ?_|refine A4 ?_|refine A5 ?_|refine A6 ?_|refine A7 ?_|refine A8 ?_|refine A9 ?_|refine AtQ.in_ne rfl ?_|refine AA ?_|refine AB ?_|refine AC ?_|refine AD ?_)|(refine CT.id_ ?_;first|(refine CT.seq ?_) | (refine CT.region ?_) | (refine CT.quiet mixed (by kernel_rfl) ?_) | (refine CT.cond_t rfl ?_) | (refine CT.cond_f rfl ?_) | (refine CT.skip ?_) | (refine CT.ret ?_) | (refine CT.exit ?_) | (refine CT.block ?_)))
    · (refine RT.call T rfl (by (repeat (first|exact Fr.nil|(apply Fr.cons;focus ((repeat constructor);done))))) (bstr_fn hi2) rfl rfl rfl ?_; rintro _ _ ⟨rfl, rfl⟩; try simp only [List.cons_append, List.nil_append])
      repeat' (first|((first|refine vc_id ?_|(refine RT.id ?_;refine RT.c T ?_));(conv=>whnf);first|refine RT.id ?_|(refine⟨fun hc=>?_,fun hc=>?_⟩<;>first|(exfalso;omega)|skip)|((first|apply num_i64|apply num_u64|apply num_u8|apply num_i32|apply num_u32);omega;omega)|((first|apply num_u64m|apply num_u8m|apply num_u32m);intro r hr)|(intro r hr))|(refine RT.id ?_;first|refine RT.nil ?_|(apply RT.ld T;exact rfl;(focus ((repeat constructor);done));iterate 4 exact rfl)|(apply RT.st T;(iterate 3 exact rfl);(focus ((repeat constructor);done));(focus repeat constructor);iterate 2 exact rfl)|((first|apply RT.box|apply RT.alloc T);(iterate 4 exact rfl);intro b)|((first|apply RT.pnil T|apply RT.pnnil T);iterate 6 exact rfl)|(refine RT.isPush ?_;refine RT.pushI T rfl rfl rfl (fun a' c'=>by ((repeat constructor);done)) (by omega) (by omega) rfl rfl rfl rfl (fun a' c' b' c1' hac=>?_))|refine RT.build T rfl rfl rfl rfl rfl ?_|(apply RT.lens T;iterate 4 exact rfl))|(refine AtQ.id_ ?_;first|refine A0 ?_|refine A1 ?_|refine A2 ?_|refine A3 ?_|refine A4 ?_|refine A5 ?_|refine A6 ?_|refine A7 ?_|refine A8 ?_|refine A9 ?_|refine AtQ.in_ne rfl ?_|refine AA ?_|refine AB ?_|refine AC ?_|refine AD ?_)|(refine CT.id_ ?_;first|(refine CT.seq ?_) | (refine CT.region ?_) | (refine CT.quiet mixed (by kernel_rfl) ?_) | (refine CT.cond_t rfl ?_) | (refine CT.cond_f rfl ?_) | (refine CT.skip ?_) | (refine CT.ret ?_) | (refine CT.exit ?_) | (refine CT.block ?_)))
      have hr := hs.q (by omega) (by assumption)
      exact AtQ.f3 Tryd.results43 rfl rfl rfl (by rw [hr]) (by rw [hr]; rfl) (by rw [hr]) (fun w h => h)
    · have hr := hs.nl (by omega) (by assumption) (by assumption)
      exact AtQ.f3 Tryd.results43 rfl rfl rfl (by rw [hr]; rfl) (by rw [hr]) (by rw [hr]) (fun w h => h.tail)
    · refine RT.slsL T (j := i) rfl rfl rfl (by omega) rfl rfl rfl ?_
      refine RT.call T rfl (by (repeat (first|exact Fr.nil|(apply Fr.cons;focus ((repeat constructor);done))))) (escape_fn (hb.drop i) (by rw [List.length_drop]; omega)) rfl rfl rfl ?_
      rintro v _ ⟨hv, rfl⟩
      try simp only [List.cons_append, List.nil_append]
      rw [List.drop_drop] at hv
      cases hes : escL (l.drop (i + 1)) with
      | none =>
        rw [hes] at hv
        obtain ⟨s, n, rfl⟩ := hv
        repeat' (first|((first|refine vc_id ?_|(refine RT.id ?_;refine RT.c T ?_));(conv=>whnf);first|refine RT.id ?_|(refine⟨fun hc=>?_,fun hc=>?_⟩<;>first|(exfalso;omega)|skip)|((first|apply num_i64|apply num_u64|apply num_u8|apply num_i32|apply num_u32);omega;omega)|((first|apply num_u64m|apply num_u8m|apply num_u32m);intro r hr)|(intro r hr))|(refine RT.id ?_;first|refine RT.nil ?_|(apply RT.ld T;exact rfl;(focus ((repeat constructor);done));iterate 4 exact rfl)|(apply RT.st T;(iterate 3 exact rfl);(focus ((repeat constructor);done));(focus repeat constructor);iterate 2 exact rfl)|((first|apply RT.box|apply RT.alloc T);(iterate 4 exact rfl);intro b)|((first|apply RT.pnil T|apply RT.pnnil T);iterate 6 exact rfl)|(refine RT.isPush ?_;refine RT.pushI T rfl rfl rfl (fun a' c'=>by ((repeat constructor);done)) (by omega) (by omega) rfl rfl rfl rfl (fun a' c' b' c1' hac=>?_))|refine RT.build T rfl rfl rfl rfl rfl ?_|(apply RT.lens T;iterate 4 exact rfl))|(refine AtQ.id_ ?_;first|refine A0 ?_|refine A1 ?_|refine A2 ?_|refine A3 ?_|refine A4 ?_|refine A5 ?_|refine A6 ?_|refine A7 ?_|refine A8 ?_|refine A9 ?_|refine AtQ.in_ne rfl ?_|refine AA ?_|refine AB ?_|refine AC ?_|refine AD ?_)|(refine CT.id_ ?_;first|(refine CT.seq ?_) | (refine CT.region ?_) | (refine CT.quiet mixed (by kernel_rfl) ?_) | (refine CT.cond_t rfl ?_) | (refine CT.cond_f rfl ?_) | (refine CT.skip ?_) | (refine CT.ret ?_) | (refine CT.exit ?_) | (refine CT.block ?_)))
        have hr := hs.bad (by omega) (by assumption) (by assumption) (by assumption) hes
        exact AtQ.f3 Tryd.results43 rfl rfl rfl (by rw [hr]; rfl) (by rw [hr]) (by rw [hr]) (fun w h => h.tail)
      | some bk =>
        obtain ⟨bb, k⟩ := bk
        rw [hes] at hv
        have hv : v = .tuple #[.string (str bb), .int .i64 ((k : Int) + 1), .bool true] := hv
        subst hv
        obtain ⟨e1, e2, e3, e4, e5⟩ := escL_ok (hb.drop _) hes
        rw [List.length_drop] at e2
        have hgo := hs.esc hb (by omega) (by assumption) (by assumption) (by assumption) hes
        repeat' (first|((first|refine vc_id ?_|(refine RT.id ?_;refine RT.c T ?_));(conv=>whnf);first|refine RT.id ?_|(refine⟨fun hc=>?_,fun hc=>?_⟩<;>first|(exfalso;omega)|skip)|((first|apply num_i64|apply num_u64|apply num_u8|apply num_i32|apply num_u32);omega;omega)|((first|apply num_u64m|apply num_u8m|apply num_u32m);intro r hr)|(intro r hr))|(refine RT.id ?_;first|refine RT.nil ?_|(apply RT.ld T;exact rfl;(focus ((repeat constructor);done));iterate 4 exact rfl)|(apply RT.st T;(iterate 3 exact rfl);(focus ((repeat constructor);done));(focus repeat constructor);iterate 2 exact rfl)|((first|apply RT.box|apply RT.alloc T);(iterate 4 exact rfl);intro b)|((first|apply RT.pnil T|apply RT.pnnil T);iterate 6 exact rfl)|(refine RT.isPush ?_;refine RT.pushI T rfl rfl rfl (fun a' c'=>by ((repeat constructor);done)) (by omega) (by omega) rfl rfl rfl rfl (fun a' c' b' c1' hac=>?_))|refine RT.build T rfl rfl rfl rfl rfl ?_|(apply RT.lens T;iterate 4 exact rfl))|(refine AtQ.id_ ?_;first|refine A0 ?_|refine A1 ?_|refine A2 ?_|refine A3 ?_|refine A4 ?_|refine A5 ?_|refine A6 ?_|refine A7 ?_|refine A8 ?_|refine A9 ?_|refine AtQ.in_ne rfl ?_|refine AA ?_|refine AB ?_|refine AC ?_|refine AD ?_)|(refine CT.id_ ?_;first|(refine CT.seq ?_) | (refine CT.region ?_) | (refine CT.quiet mixed (by kernel_rfl) ?_) | (refine CT.cond_t rfl ?_) | (refine CT.cond_f rfl ?_) | (refine CT.skip ?_) | (refine CT.ret ?_) | (refine CT.exit ?_) | (refine CT.block ?_)))
        (refine RT.call T rfl (by (repeat (first|exact Fr.nil|(apply Fr.cons;focus ((repeat constructor);done))))) (text_fn (l := acc) e3 (by omega)) rfl rfl rfl ?_; rintro _ _ ⟨rfl, rfl⟩; try simp only [List.cons_append, List.nil_append])
        repeat' (first|((first|refine vc_id ?_|(refine RT.id ?_;refine RT.c T ?_));(conv=>whnf);first|refine RT.id ?_|(refine⟨fun hc=>?_,fun hc=>?_⟩<;>first|(exfalso;omega)|skip)|((first|apply num_i64|apply num_u64|apply num_u8|apply num_i32|apply num_u32);omega;omega)|((first|apply num_u64m|apply num_u8m|apply num_u32m);intro r hr)|(intro r hr))|(refine RT.id ?_;first|refine RT.nil ?_|(apply RT.ld T;exact rfl;(focus ((repeat constructor);done));iterate 4 exact rfl)|(apply RT.st T;(iterate 3 exact rfl);(focus ((repeat constructor);done));(focus repeat constructor);iterate 2 exact rfl)|((first|apply RT.box|apply RT.alloc T);(iterate 4 exact rfl);intro b)|((first|apply RT.pnil T|apply RT.pnnil T);iterate 6 exact rfl)|(refine RT.isPush ?_;refine RT.pushI T rfl rfl rfl (fun a' c'=>by ((repeat constructor);done)) (by omega) (by omega) rfl rfl rfl rfl (fun a' c' b' c1' hac=>?_))|refine RT.build T rfl rfl rfl rfl rfl ?_|(apply RT.lens T;iterate 4 exact rfl))|(refine AtQ.id_ ?_;first|refine A0 ?_|refine A1 ?_|refine A2 ?_|refine A3 ?_|refine A4 ?_|refine A5 ?_|refine A6 ?_|refine A7 ?_|refine A8 ?_|refine A9 ?_|refine AtQ.in_ne rfl ?_|refine AA ?_|refine AB ?_|refine AC ?_|refine AD ?_)|(refine CT.id_ ?_;first|(refine CT.seq ?_) | (refine CT.region ?_) | (refine CT.quiet mixed (by kernel_rfl) ?_) | (refine CT.cond_t rfl ?_) | (refine CT.cond_f rfl ?_) | (refine CT.skip ?_) | (refine CT.ret ?_) | (refine CT.exit ?_) | (refine CT.block ?_)))
        exact AtQ.loop (i + (k + 1), acc ++ bb) ⟨rfl, rfl, by show some (Value.int .i64 _) = some (Value.int .i64 _); congr 2, trivial⟩ (fun w h => Sat.pu_in hgo h) (by simp only; omega)
    · (refine RT.ixs T (j := i) rfl rfl (by omega) (by omega) (by assumption) rfl rfl rfl ?_)
      (refine RT.call T rfl (by (repeat (first|exact Fr.nil|(apply Fr.cons;focus ((repeat constructor);done))))) (byte_fn (l := acc) (by omega)) rfl rfl rfl ?_; rintro _ _ ⟨rfl, rfl⟩; try simp only [List.cons_append, List.nil_append])
      have hgo := hs.go hb (by omega) (by assumption) (by assumption) (by assumption)
      repeat' (first|((first|refine vc_id ?_|(refine RT.id ?_;refine RT.c T ?_));(conv=>whnf);first|refine RT.id ?_|(refine⟨fun hc=>?_,fun hc=>?_⟩<;>first|(exfalso;omega)|skip)|((first|apply num_i64|apply num_u64|apply num_u8|apply num_i32|apply num_u32);omega;omega)|((first|apply num_u64m|apply num_u8m|apply num_u32m);intro r hr)|(intro r hr))|(refine RT.id ?_;first|refine RT.nil ?_|(apply RT.ld T;exact rfl;(focus ((repeat constructor);done));iterate 4 exact rfl)|(apply RT.st T;(iterate 3 exact rfl);(focus ((repeat constructor);done));(focus repeat constructor);iterate 2 exact rfl)|((first|apply RT.box|apply RT.alloc T);(iterate 4 exact rfl);intro b)|((first|apply RT.pnil T|apply RT.pnnil T);iterate 6 exact rfl)|(refine RT.isPush ?_;refine RT.pushI T rfl rfl rfl (fun a' c'=>by ((repeat constructor);done)) (by omega) (by omega) rfl rfl rfl rfl (fun a' c' b' c1' hac=>?_))|refine RT.build T rfl rfl rfl rfl rfl ?_|(apply RT.lens T;iterate 4 exact rfl))|(refine AtQ.id_ ?_;first|refine A0 ?_|refine A1 ?_|refine A2 ?_|refine A3 ?_|refine A4 ?_|refine A5 ?_|refine A6 ?_|refine A7 ?_|refine A8 ?_|refine A9 ?_|refine AtQ.in_ne rfl ?_|refine AA ?_|refine AB ?_|refine AC ?_|refine AD ?_)|(refine CT.id_ ?_;first|(refine CT.seq ?_) | (refine CT.region ?_) | (refine CT.quiet mixed (by kernel_rfl) ?_) | (refine CT.cond_t rfl ?_) | (refine CT.cond_f rfl ?_) | (refine CT.skip ?_) | (refine CT.ret ?_) | (refine CT.exit ?_) | (refine CT.block ?_)))
      exact AtQ.loop (i + 1, acc ++ [l.getD i 0]) ⟨rfl, rfl, rfl, trivial⟩ (fun w h => Sat.pu_in hgo h) (by simp only; omega)
  · have hr := hs.end_ (by omega)
    exact AtQ.f3 Tryd.results43 rfl rfl rfl (by rw [hr]; rfl) (by rw [hr]) (by rw [hr]) (fun w h => h.tail)
end Go.Proofs.YtbpelgbblpeojaaDoor
