/- Walks: JSONUnquote. -/
import Derived.Test.YtbpelgbblpeojaaDoorB35
import Derived.Test.YtbpelgbblpeojaaDoorP5
set_option linter.unusedVariables false
set_option linter.unusedSimpArgs false
namespace Go.Proofs.YtbpelgbblpeojaaDoor
open Go.Sk
set_option maxRecDepth 100000
theorem uni2_len {u : List Int} (h : 0 ≤ uni2 u) : 6 ≤ u.length := by
  rw [uni2_eq] at h
  split at h
  · unfold numM at h
    split at h
    · rename_i _ hk
      have := hcnt_le (u.drop 2) 4
      rw [List.length_drop] at this
      omega
    · omega
  · omega
theorem jescL_ok {r : List Int} (hr : Byt r) {b : List Int} {k : Nat} (h : jescL r = some (b, k)) : 1 ≤ k ∧ k ≤ r.length ∧ Byt b ∧ b.length ≤ 4 ∧ 1 ≤ b.length := by
  cases r with
  | nil => cases h
  | cons c t =>
    have h4 := hcnt_le t 4
    obtain ⟨c0, c1⟩ := hr c (by simp)
    have hp : jpV c < 256 := by unfold jpV; repeat' split; all_goals omega
    rw [jescL] at h
    split at h
    · cases h
      exact ⟨by omega, by simp, Byt.one ⟨by omega, by omega⟩, by simp, by simp⟩
    · split at h
      · split at h
        · cases h
          exact ⟨by omega, by simp only [List.length_cons]; omega, chrL_byt _, (chrL_len _).2, (chrL_len _).1⟩
        · split at h
          · rename_i hu
            have := uni2_len (u := t.drop 4) (by omega)
            rw [List.length_drop] at this
            cases h
            exact ⟨by omega, by simp only [List.length_cons]; omega, chrL_byt _, (chrL_len _).2, (chrL_len _).1⟩
          · cases h
      · cases h
/-- What does not go on at p. -/
def BadA (l : List Int) (p : Nat) : Prop := (Utf8.decode (str l) p).1 = 65533 ∧ (Utf8.decode (str l) p).2 = 1
instance (l : List Int) (p : Nat) : Decidable (BadA l p) := inferInstanceAs (Decidable (_ ∧ _))
/-- The bytes of the character at p. -/
def cutA (l : List Int) (p : Nat) : List Int := (l.drop p).take (p + (Utf8.decode (str l) p).2 - p)
def junqF (l : List Int) : Nat → Nat → List Int → List Int × Nat × Int
  | 0, _, _ => ([], l.length, 21)
  | f + 1, i, acc =>
    if i < l.length then
      if l.getD i 0 = 34 then (acc, i + 1, 0)
      else if l.getD i 0 < 32 then ([], i, 21)
      else if l.getD i 0 = 92 then (match jescL (l.drop (i + 1)) with | none => ([], i, 21) | some (b, k) => junqF l f (i + (k + 1)) (acc ++ b))
      else if BadA l i then ([], i, 20)
      else junqF l f (i + (Utf8.decode (str l) i).2) (acc ++ cutA l i)
    else ([], l.length, 21)
def junqR (l : List Int) : List Int × Nat × Int := junqF l l.length 1 []
def junqL (l : List Int) : List Int × Nat × Int := if l = [] ∨ l.getD 0 0 ≠ 34 then ([], 0, 21) else junqR l
def JunI (l : List Int) (i : Nat) (acc : List Int) : Prop := ∃ f, junqF l f i acc = junqR l ∧ l.length ≤ i + f ∧ i ≤ l.length ∧ Byt acc ∧ acc.length ≤ 4 * i
theorem JunI.z {l : List Int} (h : 1 ≤ l.length) : JunI l 1 [] := ⟨_, rfl, by omega, h, Byt.nil, by simp⟩
theorem JunI.end_ {l : List Int} {i : Nat} {acc : List Int} (h : JunI l i acc) (hi : ¬ i < l.length) : junqR l = ([], l.length, 21) := by
  obtain ⟨f, h1, _⟩ := h
  rw [← h1]
  cases f with
  | zero => rfl
  | succ f => rw [junqF, if_neg hi]
theorem JunI.step {l : List Int} {i : Nat} {acc : List Int} (h : JunI l i acc) (hi : i < l.length) : ∃ f, junqF l (f + 1) i acc = junqR l ∧ l.length ≤ i + (f + 1) ∧ Byt acc ∧ acc.length ≤ 4 * i := by
  obtain ⟨f, h1, h2, h3, h4, h5⟩ := h
  cases f with
  | zero => omega
  | succ f => exact ⟨f, h1, h2, h4, h5⟩
theorem JunI.q {l : List Int} {i : Nat} {acc : List Int} (h : JunI l i acc) (hi : i < l.length) (hc : l.getD i 0 = 34) : junqR l = (acc, i + 1, 0) := by
  obtain ⟨f, h1, _⟩ := h.step hi
  rw [← h1, junqF, if_pos hi, if_pos hc]
theorem JunI.ctl {l : List Int} {i : Nat} {acc : List Int} (h : JunI l i acc) (hi : i < l.length) (hc : l.getD i 0 < 32) : junqR l = ([], i, 21) := by
  obtain ⟨f, h1, _⟩ := h.step hi
  rw [← h1, junqF, if_pos hi, if_neg (by omega), if_pos hc]
theorem JunI.bad {l : List Int} {i : Nat} {acc : List Int} (h : JunI l i acc) (hi : i < l.length) (hc : l.getD i 0 = 92) (he : jescL (l.drop (i + 1)) = none) : junqR l = ([], i, 21) := by
  obtain ⟨f, h1, _⟩ := h.step hi
  rw [← h1, junqF, if_pos hi, if_neg (by omega), if_neg (by omega), if_pos hc, he]
theorem JunI.esc {l : List Int} (hb : Byt l) {i : Nat} {acc b : List Int} {k : Nat} (h : JunI l i acc) (hi : i < l.length) (hc : l.getD i 0 = 92) (he : jescL (l.drop (i + 1)) = some (b, k)) : JunI l (i + (k + 1)) (acc ++ b) := by
  obtain ⟨f, h1, h2, h3, h4⟩ := h.step hi
  obtain ⟨e1, e2, e3, e4, e5⟩ := jescL_ok (hb.drop _) he
  rw [List.length_drop] at e2
  rw [junqF, if_pos hi, if_neg (by omega), if_neg (by omega), if_pos hc, he] at h1
  exact ⟨f, h1, by omega, by omega, h3.app e3, by rw [List.length_append]; omega⟩
theorem JunI.not {l : List Int} {i : Nat} {acc : List Int} (h : JunI l i acc) (hi : i < l.length) (h0 : l.getD i 0 ≠ 34) (h1 : ¬ l.getD i 0 < 32) (h2 : l.getD i 0 ≠ 92) (hb : BadA l i) : junqR l = ([], i, 20) := by
  obtain ⟨f, h3, _⟩ := h.step hi
  rw [← h3, junqF, if_pos hi, if_neg h0, if_neg h1, if_neg h2, if_pos hb]
theorem cutA_len (l : List Int) (p : Nat) : (cutA l p).length ≤ (Utf8.decode (str l) p).2 := by
  unfold cutA
  rw [List.length_take]
  omega
theorem cutA_byt {l : List Int} (hb : Byt l) (p : Nat) : Byt (cutA l p) := (hb.drop p).take _
theorem JunI.go {l : List Int} (hb : Byt l) {i : Nat} {acc : List Int} (h : JunI l i acc) (hi : i < l.length) (h0 : l.getD i 0 ≠ 34) (h1 : ¬ l.getD i 0 < 32) (h2 : l.getD i 0 ≠ 92) (hn : ¬ BadA l i) : JunI l (i + (Utf8.decode (str l) i).2) (acc ++ cutA l i) ∧ i + (Utf8.decode (str l) i).2 ≤ l.length := by
  obtain ⟨f, h3, h4, h5, h6⟩ := h.step hi
  have hz := ((size_law hb i hi).2 hn).2
  have hp := dec_pos (str l) i
  have hl := cutA_len l i
  rw [junqF, if_pos hi, if_neg h0, if_neg h1, if_neg h2, if_neg hn] at h3
  exact ⟨⟨f, h3, by omega, hz, h5.app (cutA_byt hb i), by rw [List.length_append]; omega⟩, hz⟩
attribute [local irreducible] Cs Own Ex Pu Yld RT LJ QJ AtQ CT Rd QSp Sp FinQ Then LoopQ CutQ DT TakeQ EffQ
attribute [local irreducible] Bd
variable {B : World} {R : List HP}
set_option maxHeartbeats 2000000 in
theorem junquote_fn (hT : Lib.Utf8Tabs 0 1 B) {l : List Int} (hb : Byt l) (hl : l.length ≤ 10000000000000) : Sp B Tryd.prog 45 [.string (str l)] R [] (fun v H' => v = .tuple #[.string (str (junqL l).1), .int .i64 (junqL l).2.1, .int .i64 (junqL l).2.2] ∧ H' = []) := by
  refine Sp.body Tryd.func45 rfl Tryd.ntmps45 (by simp) ?_
  simp only [argE, List.cons_append, List.nil_append, Nat.zero_add, Nat.reduceAdd]
  have hbad : (l = [] ∨ l.getD 0 0 ≠ 34) → junqL l = ([], 0, 21) := fun h => by rw [junqL, if_pos h]
  repeat' (first|((first|refine vc_id ?_|(refine RT.id ?_;refine RT.c T ?_));(conv=>whnf);first|refine RT.id ?_|(refine⟨fun hc=>?_,fun hc=>?_⟩<;>first|(exfalso;omega)|skip)|((first|apply num_i64|apply num_u64|apply num_u8|apply num_i32|apply num_u32);omega;omega)|((first|apply num_u64m|apply num_u8m|apply num_u32m);intro r hr)|(intro r hr))|(refine RT.id ?_;first|refine RT.nil ?_|(apply RT.ld T;exact rfl;(focus ((repeat constructor);done));iterate 4 exact rfl)|(apply RT.st T;(iterate 3 exact rfl);(focus ((repeat constructor);done));(focus repeat constructor);iterate 2 exact rfl)|((first|apply RT.box|apply RT.alloc T);(iterate 4 exact rfl);intro b)|((first|apply RT.pnil T|apply RT.pnnil T);iterate 6 exact rfl)|(refine RT.isPush ?_;refine RT.pushI T rfl rfl rfl (fun a' c'=>by ((repeat constructor);done)) (by omega) (by omega) rfl rfl rfl rfl (fun a' c' b' c1' hac=>?_))|refine RT.build T rfl rfl rfl rfl rfl ?_|(apply RT.lens T;iterate 4 exact rfl))|(refine AtQ.id_ ?_;first|refine A0 ?_|refine A1 ?_|refine A2 ?_|refine A3 ?_|refine A4 ?_|refine A5 ?_|refine A6 ?_|refine A7 ?_|refine A8 ?_|refine A9 ?_|refine AtQ.in_ne rfl ?_|refine AA ?_|refine AB ?_|refine AC ?_|refine AD ?_)|(refine CT.id_ ?_;first|(refine CT.seqN 1 rfl ?_) | (refine CT.region ?_) | (refine CT.quiet mixed (by kernel_rfl) ?_) | (refine CT.cond_t rfl ?_) | (refine CT.cond_f rfl ?_) | (refine CT.skip ?_) | (refine CT.ret ?_) | (refine CT.exit ?_) | (refine CT.blockN 1 rfl ?_)))
  refine CT.seq ?_
  refine CT.cut (α := Unit) (fun _ => [(0, .string (str l))]) (fun _ => Pu (l ≠ [] ∧ l.getD 0 0 = 34) :: R) ?_ (fun _ => ?_)
  · repeat' (first|((first|refine vc_id ?_|(refine RT.id ?_;refine RT.c T ?_));(conv=>whnf);first|refine RT.id ?_|(refine⟨fun hc=>?_,fun hc=>?_⟩<;>first|(exfalso;omega)|skip)|((first|apply num_i64|apply num_u64|apply num_u8|apply num_i32|apply num_u32);omega;omega)|((first|apply num_u64m|apply num_u8m|apply num_u32m);intro r hr)|(intro r hr))|(refine RT.id ?_;first|refine RT.nil ?_|(apply RT.ld T;exact rfl;(focus ((repeat constructor);done));iterate 4 exact rfl)|(apply RT.st T;(iterate 3 exact rfl);(focus ((repeat constructor);done));(focus repeat constructor);iterate 2 exact rfl)|((first|apply RT.box|apply RT.alloc T);(iterate 4 exact rfl);intro b)|((first|apply RT.pnil T|apply RT.pnnil T);iterate 6 exact rfl)|(refine RT.isPush ?_;refine RT.pushI T rfl rfl rfl (fun a' c'=>by ((repeat constructor);done)) (by omega) (by omega) rfl rfl rfl rfl (fun a' c' b' c1' hac=>?_))|refine RT.build T rfl rfl rfl rfl rfl ?_|(apply RT.lens T;iterate 4 exact rfl))|(refine AtQ.id_ ?_;first|refine A0 ?_|refine A1 ?_|refine A2 ?_|refine A3 ?_|refine A4 ?_|refine A5 ?_|refine A6 ?_|refine A7 ?_|refine A8 ?_|refine A9 ?_|refine AtQ.in_ne rfl ?_|refine AA ?_|refine AB ?_|refine AC ?_|refine AD ?_)|(refine CT.id_ ?_;first|(refine CT.seq ?_) | (refine CT.region ?_) | (refine CT.quiet mixed (by kernel_rfl) ?_) | (refine CT.cond_t rfl ?_) | (refine CT.cond_f rfl ?_) | (refine CT.skip ?_) | (refine CT.ret ?_) | (refine CT.exit ?_) | (refine CT.block ?_)))
    refine RT.eqs (l := l) (l' := []) rfl rfl hb Byt.nil rfl rfl (fun he => ?_) (fun he => ?_)
    · repeat' (first|((first|refine vc_id ?_|(refine RT.id ?_;refine RT.c T ?_));(conv=>whnf);first|refine RT.id ?_|(refine⟨fun hc=>?_,fun hc=>?_⟩<;>first|(exfalso;omega)|skip)|((first|apply num_i64|apply num_u64|apply num_u8|apply num_i32|apply num_u32);omega;omega)|((first|apply num_u64m|apply num_u8m|apply num_u32m);intro r hr)|(intro r hr))|(refine RT.id ?_;first|refine RT.nil ?_|(apply RT.ld T;exact rfl;(focus ((repeat constructor);done));iterate 4 exact rfl)|(apply RT.st T;(iterate 3 exact rfl);(focus ((repeat constructor);done));(focus repeat constructor);iterate 2 exact rfl)|((first|apply RT.box|apply RT.alloc T);(iterate 4 exact rfl);intro b)|((first|apply RT.pnil T|apply RT.pnnil T);iterate 6 exact rfl)|(refine RT.isPush ?_;refine RT.pushI T rfl rfl rfl (fun a' c'=>by ((repeat constructor);done)) (by omega) (by omega) rfl rfl rfl rfl (fun a' c' b' c1' hac=>?_))|refine RT.build T rfl rfl rfl rfl rfl ?_|(apply RT.lens T;iterate 4 exact rfl))|(refine AtQ.id_ ?_;first|refine A0 ?_|refine A1 ?_|refine A2 ?_|refine A3 ?_|refine A4 ?_|refine A5 ?_|refine A6 ?_|refine A7 ?_|refine A8 ?_|refine A9 ?_|refine AtQ.in_ne rfl ?_|refine AA ?_|refine AB ?_|refine AC ?_|refine AD ?_)|(refine CT.id_ ?_;first|(refine CT.seq ?_) | (refine CT.region ?_) | (refine CT.quiet mixed (by kernel_rfl) ?_) | (refine CT.cond_t rfl ?_) | (refine CT.cond_f rfl ?_) | (refine CT.skip ?_) | (refine CT.ret ?_) | (refine CT.exit ?_) | (refine CT.block ?_)))
      have hr := hbad (.inl he)
      exact AtQ.f3 Tryd.results45 rfl rfl rfl (by rw [hr]; rfl) (by rw [hr]; rfl) (by rw [hr]) (fun w h => h)
    have hpos := List.length_pos_iff.2 he
    repeat' (first|((first|refine vc_id ?_|(refine RT.id ?_;refine RT.c T ?_));(conv=>whnf);first|refine RT.id ?_|(refine⟨fun hc=>?_,fun hc=>?_⟩<;>first|(exfalso;omega)|skip)|((first|apply num_i64|apply num_u64|apply num_u8|apply num_i32|apply num_u32);omega;omega)|((first|apply num_u64m|apply num_u8m|apply num_u32m);intro r hr)|(intro r hr))|(refine RT.id ?_;first|refine RT.nil ?_|(apply RT.ld T;exact rfl;(focus ((repeat constructor);done));iterate 4 exact rfl)|(apply RT.st T;(iterate 3 exact rfl);(focus ((repeat constructor);done));(focus repeat constructor);iterate 2 exact rfl)|((first|apply RT.box|apply RT.alloc T);(iterate 4 exact rfl);intro b)|((first|apply RT.pnil T|apply RT.pnnil T);iterate 6 exact rfl)|(refine RT.isPush ?_;refine RT.pushI T rfl rfl rfl (fun a' c'=>by ((repeat constructor);done)) (by omega) (by omega) rfl rfl rfl rfl (fun a' c' b' c1' hac=>?_))|refine RT.build T rfl rfl rfl rfl rfl ?_|(apply RT.lens T;iterate 4 exact rfl))|(refine AtQ.id_ ?_;first|refine A0 ?_|refine A1 ?_|refine A2 ?_|refine A3 ?_|refine A4 ?_|refine A5 ?_|refine A6 ?_|refine A7 ?_|refine A8 ?_|refine A9 ?_|refine AtQ.in_ne rfl ?_|refine AA ?_|refine AB ?_|refine AC ?_|refine AD ?_)|(refine CT.id_ ?_;first|(refine CT.seq ?_) | (refine CT.region ?_) | (refine CT.quiet mixed (by kernel_rfl) ?_) | (refine CT.cond_t rfl ?_) | (refine CT.cond_f rfl ?_) | (refine CT.skip ?_) | (refine CT.ret ?_) | (refine CT.exit ?_) | (refine CT.block ?_)))
    (refine RT.ixs T (j := 0) rfl rfl (by omega) (by omega) (by assumption) rfl rfl rfl ?_)
    repeat' (first|((first|refine vc_id ?_|(refine RT.id ?_;refine RT.c T ?_));(conv=>whnf);first|refine RT.id ?_|(refine⟨fun hc=>?_,fun hc=>?_⟩<;>first|(exfalso;omega)|skip)|((first|apply num_i64|apply num_u64|apply num_u8|apply num_i32|apply num_u32);omega;omega)|((first|apply num_u64m|apply num_u8m|apply num_u32m);intro r hr)|(intro r hr))|(refine RT.id ?_;first|refine RT.nil ?_|(apply RT.ld T;exact rfl;(focus ((repeat constructor);done));iterate 4 exact rfl)|(apply RT.st T;(iterate 3 exact rfl);(focus ((repeat constructor);done));(focus repeat constructor);iterate 2 exact rfl)|((first|apply RT.box|apply RT.alloc T);(iterate 4 exact rfl);intro b)|((first|apply RT.pnil T|apply RT.pnnil T);iterate 6 exact rfl)|(refine RT.isPush ?_;refine RT.pushI T rfl rfl rfl (fun a' c'=>by ((repeat constructor);done)) (by omega) (by omega) rfl rfl rfl rfl (fun a' c' b' c1' hac=>?_))|refine RT.build T rfl rfl rfl rfl rfl ?_|(apply RT.lens T;iterate 4 exact rfl))|(refine AtQ.id_ ?_;first|refine A0 ?_|refine A1 ?_|refine A2 ?_|refine A3 ?_|refine A4 ?_|refine A5 ?_|refine A6 ?_|refine A7 ?_|refine A8 ?_|refine A9 ?_|refine AtQ.in_ne rfl ?_|refine AA ?_|refine AB ?_|refine AC ?_|refine AD ?_)|(refine CT.id_ ?_;first|(refine CT.seq ?_) | (refine CT.region ?_) | (refine CT.quiet mixed (by kernel_rfl) ?_) | (refine CT.cond_t rfl ?_) | (refine CT.cond_f rfl ?_) | (refine CT.skip ?_) | (refine CT.ret ?_) | (refine CT.exit ?_) | (refine CT.block ?_)))
    · exact AtQ.cut () ⟨rfl, trivial⟩ (fun w h => Sat.pu_in ⟨he, by assumption⟩ h)
    · have hr := hbad (.inr (by assumption))
      exact AtQ.f3 Tryd.results45 rfl rfl rfl (by rw [hr]; rfl) (by rw [hr]; rfl) (by rw [hr]) (fun w h => h)
  refine AtQ.fact (p := l ≠ [] ∧ l.getD 0 0 = 34) (fun w h => h.pu_out) fun ⟨he, hq⟩ => ?_
  refine AtQ.weak (H' := R) (fun w h => h.tail) ?_
  have hpos := List.length_pos_iff.2 he
  have hu : junqL l = junqR l := by rw [junqL, if_neg (by intro h; exact h.elim he (fun h => h hq))]
  rw [hu]
  clear hbad
  repeat' (first|((first|refine vc_id ?_|(refine RT.id ?_;refine RT.c T ?_));(conv=>whnf);first|refine RT.id ?_|(refine⟨fun hc=>?_,fun hc=>?_⟩<;>first|(exfalso;omega)|skip)|((first|apply num_i64|apply num_u64|apply num_u8|apply num_i32|apply num_u32);omega;omega)|((first|apply num_u64m|apply num_u8m|apply num_u32m);intro r hr)|(intro r hr))|(refine RT.id ?_;first|refine RT.nil ?_|(apply RT.ld T;exact rfl;(focus ((repeat constructor);done));iterate 4 exact rfl)|(apply RT.st T;(iterate 3 exact rfl);(focus ((repeat constructor);done));(focus repeat constructor);iterate 2 exact rfl)|((first|apply RT.box|apply RT.alloc T);(iterate 4 exact rfl);intro b)|((first|apply RT.pnil T|apply RT.pnnil T);iterate 6 exact rfl)|(refine RT.isPush ?_;refine RT.pushI T rfl rfl rfl (fun a' c'=>by ((repeat constructor);done)) (by omega) (by omega) rfl rfl rfl rfl (fun a' c' b' c1' hac=>?_))|refine RT.build T rfl rfl rfl rfl rfl ?_|(apply RT.lens T;iterate 4 exact rfl))|(refine AtQ.id_ ?_;first|refine A0 ?_|refine A1 ?_|refine A2 ?_|refine A3 ?_|refine A4 ?_|refine A5 ?_|refine A6 ?_|refine A7 ?_|refine A8 ?_|refine A9 ?_|refine AtQ.in_ne rfl ?_|refine AA ?_|refine AB ?_|refine AC ?_|refine AD ?_)|(refine CT.id_ ?_;first|(refine CT.seqN 5 rfl ?_) | (refine CT.region ?_) | (refine CT.quiet mixed (by kernel_rfl) ?_) | (refine CT.cond_t rfl ?_) | (refine CT.cond_f rfl ?_) | (refine CT.skip ?_) | (refine CT.ret ?_) | (refine CT.exit ?_) | (refine CT.blockN 5 rfl ?_)))
  refine CT.weak (fun w h => Bd.new h) ?_
  refine CT.block ?_
  refine CT.loop (α := Nat × List Int) (fun s => [(0, .string (str l)), (5, ptr b), (6, .int .i64 s.1)]) (fun s => Pu (JunI l s.1 s.2) :: Bd b s.2 :: R) (fun s => l.length - s.1) (1, []) ⟨rfl, rfl, rfl, trivial⟩
    (fun w h => Sat.pu_in (JunI.z hpos) h) (fun s => CT.pu fun hs => ?_)
  obtain ⟨i, acc⟩ := s
  simp only at hs ⊢
  obtain ⟨_, _, _, hi1, hi2, hi3⟩ := id hs
  repeat' (first|((first|refine vc_id ?_|(refine RT.id ?_;refine RT.c T ?_));(conv=>whnf);first|refine RT.id ?_|(refine⟨fun hc=>?_,fun hc=>?_⟩<;>first|(exfalso;omega)|skip)|((first|apply num_i64|apply num_u64|apply num_u8|apply num_i32|apply num_u32);omega;omega)|((first|apply num_u64m|apply num_u8m|apply num_u32m);intro r hr)|(intro r hr))|(refine RT.id ?_;first|refine RT.nil ?_|(apply RT.ld T;exact rfl;(focus ((repeat constructor);done));iterate 4 exact rfl)|(apply RT.st T;(iterate 3 exact rfl);(focus ((repeat constructor);done));(focus repeat constructor);iterate 2 exact rfl)|((first|apply RT.box|apply RT.alloc T);(iterate 4 exact rfl);intro b)|((first|apply RT.pnil T|apply RT.pnnil T);iterate 6 exact rfl)|(refine RT.isPush ?_;refine RT.pushI T rfl rfl rfl (fun a' c'=>by ((repeat constructor);done)) (by omega) (by omega) rfl rfl rfl rfl (fun a' c' b' c1' hac=>?_))|refine RT.build T rfl rfl rfl rfl rfl ?_|(apply RT.lens T;iterate 4 exact rfl))|(refine AtQ.id_ ?_;first|refine A0 ?_|refine A1 ?_|refine A2 ?_|refine A3 ?_|refine A4 ?_|refine A5 ?_|refine A6 ?_|refine A7 ?_|refine A8 ?_|refine A9 ?_|refine AtQ.in_ne rfl ?_|refine AA ?_|refine AB ?_|refine AC ?_|refine AD ?_)|(refine CT.id_ ?_;first|(refine CT.seq ?_) | (refine CT.region ?_) | (refine CT.quiet mixed (by kernel_rfl) ?_) | (refine CT.cond_t rfl ?_) | (refine CT.cond_f rfl ?_) | (refine CT.skip ?_) | (refine CT.ret ?_) | (refine CT.exit ?_) | (refine CT.block ?_)))
  · (refine RT.ixs T (j := i) rfl rfl (by omega) (by omega) (by assumption) rfl rfl rfl ?_)
    have hgb := hb.get (i := i) (by omega)
    obtain ⟨g0, g1⟩ := hgb
    repeat' (first|((first|refine vc_id ?_|(refine RT.id ?_;refine RT.c T ?_));(conv=>whnf);first|refine RT.id ?_|(refine⟨fun hc=>?_,fun hc=>?_⟩<;>first|(exfalso;omega)|skip)|((first|apply num_i64|apply num_u64|apply num_u8|apply num_i32|apply num_u32);omega;omega)|((first|apply num_u64m|apply num_u8m|apply num_u32m);intro r hr)|(intro r hr))|(refine RT.id ?_;first|refine RT.nil ?_|(apply RT.ld T;exact rfl;(focus ((repeat constructor);done));iterate 4 exact rfl)|(apply RT.st T;(iterate 3 exact rfl);(focus ((repeat constructor);done));(focus repeat constructor);iterate 2 exact rfl)|((first|apply RT.box|apply RT.alloc T);(iterate 4 exact rfl);intro b)|((first|apply RT.pnil T|apply RT.pnnil T);iterate 6 exact rfl)|(refine RT.isPush ?_;refine RT.pushI T rfl rfl rfl (fun a' c'=>by ((repeat constructor);done)) (by omega) (by omega) rfl rfl rfl rfl (fun a' c' b' c1' hac=>?_))|refine RT.build T rfl rfl rfl rfl rfl ?_|(apply RT.lens T;iterate 4 exact rfl))|(refine AtQ.id_ ?_;first|refine A0 ?_|refine A1 ?_|refine A2 ?_|refine A3 ?_|refine A4 ?_|refine A5 ?_|refine A6 ?_|refine A7 ?_|refine A8 ?_|refine A9 ?_|refine AtQ.in_ne rfl ?_|refine AA ?_|refine AB ?_|refine AC ?_|refine AD ?_)|(refine CT.id_ ?_;first|(refine CT.seq ?_) | (refine CT.region ?_) | (refine CT.quiet mixed (by kernel_rfl) ?_) | (refine CT.cond_t rfl ?_) | (refine CT.cond_f rfl ?_) | (refine CT.skip ?_) | (refine CT.ret ?_) | (refine CT.exit ?_) | (refine CT.block ?_)))
    · (refine RT.call T rfl (by (repeat (first|exact Fr.nil|(apply Fr.cons;focus ((repeat constructor);done))))) (bstr_fn hi2) rfl rfl rfl ?_; rintro _ _ ⟨rfl, rfl⟩; try simp only [List.cons_append, List.nil_append])
      repeat' (first|((first|refine vc_id ?_|(refine RT.id ?_;refine RT.c T ?_));(conv=>whnf);first|refine RT.id ?_|(refine⟨fun hc=>?_,fun hc=>?_⟩<;>first|(exfalso;omega)|skip)|((first|apply num_i64|apply num_u64|apply num_u8|apply num_i32|apply num_u32);omega;omega)|((first|apply num_u64m|apply num_u8m|apply num_u32m);intro r hr)|(intro r hr))|(refine RT.id ?_;first|refine RT.nil ?_|(apply RT.ld T;exact rfl;(focus ((repeat constructor);done));iterate 4 exact rfl)|(apply RT.st T;(iterate 3 exact rfl);(focus ((repeat constructor);done));(focus repeat constructor);iterate 2 exact rfl)|((first|apply RT.box|apply RT.alloc T);(iterate 4 exact rfl);intro b)|((first|apply RT.pnil T|apply RT.pnnil T);iterate 6 exact rfl)|(refine RT.isPush ?_;refine RT.pushI T rfl rfl rfl (fun a' c'=>by ((repeat constructor);done)) (by omega) (by omega) rfl rfl rfl rfl (fun a' c' b' c1' hac=>?_))|refine RT.build T rfl rfl rfl rfl rfl ?_|(apply RT.lens T;iterate 4 exact rfl))|(refine AtQ.id_ ?_;first|refine A0 ?_|refine A1 ?_|refine A2 ?_|refine A3 ?_|refine A4 ?_|refine A5 ?_|refine A6 ?_|refine A7 ?_|refine A8 ?_|refine A9 ?_|refine AtQ.in_ne rfl ?_|refine AA ?_|refine AB ?_|refine AC ?_|refine AD ?_)|(refine CT.id_ ?_;first|(refine CT.seq ?_) | (refine CT.region ?_) | (refine CT.quiet mixed (by kernel_rfl) ?_) | (refine CT.cond_t rfl ?_) | (refine CT.cond_f rfl ?_) | (refine CT.skip ?_) | (refine CT.ret ?_) | (refine CT.exit ?_) | (refine CT.block ?_)))
      have hr := hs.q (by omega) (by assumption)
      exact AtQ.f3 Tryd.results45 rfl rfl rfl (by rw [hr]) (by rw [hr]; rfl) (by rw [hr]) (fun w h => h)
    · have hr := hs.ctl (by omega) (by assumption)
      exact AtQ.f3 Tryd.results45 rfl rfl rfl (by rw [hr]; rfl) (by rw [hr]) (by rw [hr]) (fun w h => h.tail)
    · refine RT.slsL T (j := i) rfl rfl rfl (by omega) rfl rfl rfl ?_
      refine RT.call T rfl (by (repeat (first|exact Fr.nil|(apply Fr.cons;focus ((repeat constructor);done))))) (jesc_fn (hb.drop i) (by rw [List.length_drop]; omega) (by have := drop_getD (l := l) (a := i) (i := 0); rw [← this]; assumption)) rfl rfl rfl ?_
      rintro v _ ⟨hv, rfl⟩
      try simp only [List.cons_append, List.nil_append]
      rw [List.drop_drop] at hv
      cases hes : jescL (l.drop (i + 1)) with
      | none =>
        rw [hes] at hv
        obtain ⟨s, n, rfl⟩ := hv
        repeat' (first|((first|refine vc_id ?_|(refine RT.id ?_;refine RT.c T ?_));(conv=>whnf);first|refine RT.id ?_|(refine⟨fun hc=>?_,fun hc=>?_⟩<;>first|(exfalso;omega)|skip)|((first|apply num_i64|apply num_u64|apply num_u8|apply num_i32|apply num_u32);omega;omega)|((first|apply num_u64m|apply num_u8m|apply num_u32m);intro r hr)|(intro r hr))|(refine RT.id ?_;first|refine RT.nil ?_|(apply RT.ld T;exact rfl;(focus ((repeat constructor);done));iterate 4 exact rfl)|(apply RT.st T;(iterate 3 exact rfl);(focus ((repeat constructor);done));(focus repeat constructor);iterate 2 exact rfl)|((first|apply RT.box|apply RT.alloc T);(iterate 4 exact rfl);intro b)|((first|apply RT.pnil T|apply RT.pnnil T);iterate 6 exact rfl)|(refine RT.isPush ?_;refine RT.pushI T rfl rfl rfl (fun a' c'=>by ((repeat constructor);done)) (by omega) (by omega) rfl rfl rfl rfl (fun a' c' b' c1' hac=>?_))|refine RT.build T rfl rfl rfl rfl rfl ?_|(apply RT.lens T;iterate 4 exact rfl))|(refine AtQ.id_ ?_;first|refine A0 ?_|refine A1 ?_|refine A2 ?_|refine A3 ?_|refine A4 ?_|refine A5 ?_|refine A6 ?_|refine A7 ?_|refine A8 ?_|refine A9 ?_|refine AtQ.in_ne rfl ?_|refine AA ?_|refine AB ?_|refine AC ?_|refine AD ?_)|(refine CT.id_ ?_;first|(refine CT.seq ?_) | (refine CT.region ?_) | (refine CT.quiet mixed (by kernel_rfl) ?_) | (refine CT.cond_t rfl ?_) | (refine CT.cond_f rfl ?_) | (refine CT.skip ?_) | (refine CT.ret ?_) | (refine CT.exit ?_) | (refine CT.block ?_)))
        have hr := hs.bad (by omega) (by assumption) hes
        exact AtQ.f3 Tryd.results45 rfl rfl rfl (by rw [hr]; rfl) (by rw [hr]) (by rw [hr]) (fun w h => h.tail)
      | some bk =>
        obtain ⟨bb, k⟩ := bk
        rw [hes] at hv
        have hv : v = .tuple #[.string (str bb), .int .i64 ((k : Int) + 1), .bool true] := hv
        subst hv
        obtain ⟨e1, e2, e3, e4, e5⟩ := jescL_ok (hb.drop _) hes
        rw [List.length_drop] at e2
        have hgo := hs.esc hb (by omega) (by assumption) hes
        repeat' (first|((first|refine vc_id ?_|(refine RT.id ?_;refine RT.c T ?_));(conv=>whnf);first|refine RT.id ?_|(refine⟨fun hc=>?_,fun hc=>?_⟩<;>first|(exfalso;omega)|skip)|((first|apply num_i64|apply num_u64|apply num_u8|apply num_i32|apply num_u32);omega;omega)|((first|apply num_u64m|apply num_u8m|apply num_u32m);intro r hr)|(intro r hr))|(refine RT.id ?_;first|refine RT.nil ?_|(apply RT.ld T;exact rfl;(focus ((repeat constructor);done));iterate 4 exact rfl)|(apply RT.st T;(iterate 3 exact rfl);(focus ((repeat constructor);done));(focus repeat constructor);iterate 2 exact rfl)|((first|apply RT.box|apply RT.alloc T);(iterate 4 exact rfl);intro b)|((first|apply RT.pnil T|apply RT.pnnil T);iterate 6 exact rfl)|(refine RT.isPush ?_;refine RT.pushI T rfl rfl rfl (fun a' c'=>by ((repeat constructor);done)) (by omega) (by omega) rfl rfl rfl rfl (fun a' c' b' c1' hac=>?_))|refine RT.build T rfl rfl rfl rfl rfl ?_|(apply RT.lens T;iterate 4 exact rfl))|(refine AtQ.id_ ?_;first|refine A0 ?_|refine A1 ?_|refine A2 ?_|refine A3 ?_|refine A4 ?_|refine A5 ?_|refine A6 ?_|refine A7 ?_|refine A8 ?_|refine A9 ?_|refine AtQ.in_ne rfl ?_|refine AA ?_|refine AB ?_|refine AC ?_|refine AD ?_)|(refine CT.id_ ?_;first|(refine CT.seq ?_) | (refine CT.region ?_) | (refine CT.quiet mixed (by kernel_rfl) ?_) | (refine CT.cond_t rfl ?_) | (refine CT.cond_f rfl ?_) | (refine CT.skip ?_) | (refine CT.ret ?_) | (refine CT.exit ?_) | (refine CT.block ?_)))
        (refine RT.call T rfl (by (repeat (first|exact Fr.nil|(apply Fr.cons;focus ((repeat constructor);done))))) (text_fn (l := acc) e3 (by omega)) rfl rfl rfl ?_; rintro _ _ ⟨rfl, rfl⟩; try simp only [List.cons_append, List.nil_append])
        repeat' (first|((first|refine vc_id ?_|(refine RT.id ?_;refine RT.c T ?_));(conv=>whnf);first|refine RT.id ?_|(refine⟨fun hc=>?_,fun hc=>?_⟩<;>first|(exfalso;omega)|skip)|((first|apply num_i64|apply num_u64|apply num_u8|apply num_i32|apply num_u32);omega;omega)|((first|apply num_u64m|apply num_u8m|apply num_u32m);intro r hr)|(intro r hr))|(refine RT.id ?_;first|refine RT.nil ?_|(apply RT.ld T;exact rfl;(focus ((repeat constructor);done));iterate 4 exact rfl)|(apply RT.st T;(iterate 3 exact rfl);(focus ((repeat constructor);done));(focus repeat constructor);iterate 2 exact rfl)|((first|apply RT.box|apply RT.alloc T);(iterate 4 exact rfl);intro b)|((first|apply RT.pnil T|apply RT.pnnil T);iterate 6 exact rfl)|(refine RT.isPush ?_;refine RT.pushI T rfl rfl rfl (fun a' c'=>by ((repeat constructor);done)) (by omega) (by omega) rfl rfl rfl rfl (fun a' c' b' c1' hac=>?_))|refine RT.build T rfl rfl rfl rfl rfl ?_|(apply RT.lens T;iterate 4 exact rfl))|(refine AtQ.id_ ?_;first|refine A0 ?_|refine A1 ?_|refine A2 ?_|refine A3 ?_|refine A4 ?_|refine A5 ?_|refine A6 ?_|refine A7 ?_|refine A8 ?_|refine A9 ?_|refine AtQ.in_ne rfl ?_|refine AA ?_|refine AB ?_|refine AC ?_|refine AD ?_)|(refine CT.id_ ?_;first|(refine CT.seq ?_) | (refine CT.region ?_) | (refine CT.quiet mixed (by kernel_rfl) ?_) | (refine CT.cond_t rfl ?_) | (refine CT.cond_f rfl ?_) | (refine CT.skip ?_) | (refine CT.ret ?_) | (refine CT.exit ?_) | (refine CT.block ?_)))
        exact AtQ.loop (i + (k + 1), acc ++ bb) ⟨rfl, rfl, by show some (Value.int .i64 _) = some (Value.int .i64 _); congr 2, trivial⟩ (fun w h => Sat.pu_in hgo h) (by simp only; omega)
    · refine RT.slsL T (j := i) rfl rfl rfl (by omega) rfl rfl rfl ?_
      refine RT.qcall T rfl (dec_q hT (by omega)) rfl rfl rfl ?_
      have hdp := dec_pos (str l) i
      have hz := (size_law hb i (by omega)).2
      have hcl := cutA_len l i
      have hcb := cutA_byt hb i
      have hno := hs.not (by omega) (by assumption) (by assumption) (by assumption)
      have hgo := hs.go hb (by omega) (by assumption) (by assumption) (by assumption)
      have hcd : cutA l i = (l.drop i).take (i + (Utf8.decode (str l) i).2 - i) := rfl
      by_cases hbd : BadA l i
      · have hr := hno hbd
        obtain ⟨b1, b2⟩ := id hbd
        repeat' (first|((first|refine vc_id ?_|(refine RT.id ?_;refine RT.c T ?_));(conv=>whnf);first|refine RT.id ?_|(refine⟨fun hc=>?_,fun hc=>?_⟩<;>first|(exfalso;omega)|skip)|((first|apply num_i64|apply num_u64|apply num_u8|apply num_i32|apply num_u32);omega;omega)|((first|apply num_u64m|apply num_u8m|apply num_u32m);intro r hr)|(intro r hr))|(refine RT.id ?_;first|refine RT.nil ?_|(apply RT.ld T;exact rfl;(focus ((repeat constructor);done));iterate 4 exact rfl)|(apply RT.st T;(iterate 3 exact rfl);(focus ((repeat constructor);done));(focus repeat constructor);iterate 2 exact rfl)|((first|apply RT.box|apply RT.alloc T);(iterate 4 exact rfl);intro b)|((first|apply RT.pnil T|apply RT.pnnil T);iterate 6 exact rfl)|(refine RT.isPush ?_;refine RT.pushI T rfl rfl rfl (fun a' c'=>by ((repeat constructor);done)) (by omega) (by omega) rfl rfl rfl rfl (fun a' c' b' c1' hac=>?_))|refine RT.build T rfl rfl rfl rfl rfl ?_|(apply RT.lens T;iterate 4 exact rfl))|(refine AtQ.id_ ?_;first|refine A0 ?_|refine A1 ?_|refine A2 ?_|refine A3 ?_|refine A4 ?_|refine A5 ?_|refine A6 ?_|refine A7 ?_|refine A8 ?_|refine A9 ?_|refine AtQ.in_ne rfl ?_|refine AA ?_|refine AB ?_|refine AC ?_|refine AD ?_)|(refine CT.id_ ?_;first|(refine CT.seq ?_) | (refine CT.region ?_) | (refine CT.quiet mixed (by kernel_rfl) ?_) | (refine CT.cond_t rfl ?_) | (refine CT.cond_f rfl ?_) | (refine CT.skip ?_) | (refine CT.ret ?_) | (refine CT.exit ?_) | (refine CT.block ?_)))
        exact AtQ.f3 Tryd.results45 rfl rfl rfl (by rw [hr]; rfl) (by rw [hr]) (by rw [hr]) (fun w h => h.tail)
      · obtain ⟨hgo, hle⟩ := hgo hbd
        have hbd2 : ¬ ((Utf8.decode (str l) i).1 = 65533 ∧ (Utf8.decode (str l) i).2 = 1) := hbd
        repeat' (first|((first|refine vc_id ?_|(refine RT.id ?_;refine RT.c T ?_));(conv=>whnf);first|refine RT.id ?_|(refine⟨fun hc=>?_,fun hc=>?_⟩<;>first|(exfalso;omega)|skip)|((first|apply num_i64|apply num_u64|apply num_u8|apply num_i32|apply num_u32);omega;omega)|((first|apply num_u64m|apply num_u8m|apply num_u32m);intro r hr)|(intro r hr))|(refine RT.id ?_;first|refine RT.nil ?_|(apply RT.ld T;exact rfl;(focus ((repeat constructor);done));iterate 4 exact rfl)|(apply RT.st T;(iterate 3 exact rfl);(focus ((repeat constructor);done));(focus repeat constructor);iterate 2 exact rfl)|((first|apply RT.box|apply RT.alloc T);(iterate 4 exact rfl);intro b)|((first|apply RT.pnil T|apply RT.pnnil T);iterate 6 exact rfl)|(refine RT.isPush ?_;refine RT.pushI T rfl rfl rfl (fun a' c'=>by ((repeat constructor);done)) (by omega) (by omega) rfl rfl rfl rfl (fun a' c' b' c1' hac=>?_))|refine RT.build T rfl rfl rfl rfl rfl ?_|(apply RT.lens T;iterate 4 exact rfl))|(refine AtQ.id_ ?_;first|refine A0 ?_|refine A1 ?_|refine A2 ?_|refine A3 ?_|refine A4 ?_|refine A5 ?_|refine A6 ?_|refine A7 ?_|refine A8 ?_|refine A9 ?_|refine AtQ.in_ne rfl ?_|refine AA ?_|refine AB ?_|refine AC ?_|refine AD ?_)|(refine CT.id_ ?_;first|(refine CT.seq ?_) | (refine CT.region ?_) | (refine CT.quiet mixed (by kernel_rfl) ?_) | (refine CT.cond_t rfl ?_) | (refine CT.cond_f rfl ?_) | (refine CT.skip ?_) | (refine CT.ret ?_) | (refine CT.exit ?_) | (refine CT.block ?_)))
        all_goals
          refine RT.slsB T (j := i) (j' := i + (Utf8.decode (str l) i).2) rfl rfl rfl rfl (by omega) (by omega) (by omega) rfl rfl rfl ?_
          rw [← hcd]
          (refine RT.call T rfl (by (repeat (first|exact Fr.nil|(apply Fr.cons;focus ((repeat constructor);done))))) (text_fn (l := acc) hcb (by omega)) rfl rfl rfl ?_; rintro _ _ ⟨rfl, rfl⟩; try simp only [List.cons_append, List.nil_append])
          repeat' (first|((first|refine vc_id ?_|(refine RT.id ?_;refine RT.c T ?_));(conv=>whnf);first|refine RT.id ?_|(refine⟨fun hc=>?_,fun hc=>?_⟩<;>first|(exfalso;omega)|skip)|((first|apply num_i64|apply num_u64|apply num_u8|apply num_i32|apply num_u32);omega;omega)|((first|apply num_u64m|apply num_u8m|apply num_u32m);intro r hr)|(intro r hr))|(refine RT.id ?_;first|refine RT.nil ?_|(apply RT.ld T;exact rfl;(focus ((repeat constructor);done));iterate 4 exact rfl)|(apply RT.st T;(iterate 3 exact rfl);(focus ((repeat constructor);done));(focus repeat constructor);iterate 2 exact rfl)|((first|apply RT.box|apply RT.alloc T);(iterate 4 exact rfl);intro b)|((first|apply RT.pnil T|apply RT.pnnil T);iterate 6 exact rfl)|(refine RT.isPush ?_;refine RT.pushI T rfl rfl rfl (fun a' c'=>by ((repeat constructor);done)) (by omega) (by omega) rfl rfl rfl rfl (fun a' c' b' c1' hac=>?_))|refine RT.build T rfl rfl rfl rfl rfl ?_|(apply RT.lens T;iterate 4 exact rfl))|(refine AtQ.id_ ?_;first|refine A0 ?_|refine A1 ?_|refine A2 ?_|refine A3 ?_|refine A4 ?_|refine A5 ?_|refine A6 ?_|refine A7 ?_|refine A8 ?_|refine A9 ?_|refine AtQ.in_ne rfl ?_|refine AA ?_|refine AB ?_|refine AC ?_|refine AD ?_)|(refine CT.id_ ?_;first|(refine CT.seq ?_) | (refine CT.region ?_) | (refine CT.quiet mixed (by kernel_rfl) ?_) | (refine CT.cond_t rfl ?_) | (refine CT.cond_f rfl ?_) | (refine CT.skip ?_) | (refine CT.ret ?_) | (refine CT.exit ?_) | (refine CT.block ?_)))
          exact AtQ.loop (i + (Utf8.decode (str l) i).2, acc ++ cutA l i) ⟨rfl, rfl, rfl, trivial⟩ (fun w h => Sat.pu_in hgo h) (by simp only; omega)
  · have hr := hs.end_ (by omega)
    exact AtQ.f3 Tryd.results45 rfl rfl rfl (by rw [hr]; rfl) (by rw [hr]) (by rw [hr]) (fun w h => h.tail)
end Go.Proofs.YtbpelgbblpeojaaDoor
