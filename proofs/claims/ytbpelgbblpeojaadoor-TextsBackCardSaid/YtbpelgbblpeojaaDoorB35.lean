/- Walks: escapes of JSON. -/
import Derived.Test.YtbpelgbblpeojaaDoorB29
import Derived.Test.YtbpelgbblpeojaaDoorD1
set_option linter.unusedVariables false
set_option linter.unusedSimpArgs false
namespace Go.Proofs.YtbpelgbblpeojaaDoor
open Go.Sk
set_option maxRecDepth 100000
def jpV (c : Int) : Int := if c = 34 ∨ c = 92 ∨ c = 47 then c else if c = 98 then 8 else if c = 102 then 12 else if c = 110 then 10 else if c = 114 then 13 else if c = 116 then 9 else -1
def JL : List Int := [34, 92, 47, 98, 102, 110, 114, 116]
def JM : List Int := [34, 92, 47, 8, 12, 10, 13, 9]
theorem jp_all : ∀ n : Fin 256, meanL JL JM (n.1 : Nat) = if 0 ≤ jpV (n.1 : Nat) then ([jpV (n.1 : Nat)], true) else ([], false) := by decide +kernel
theorem jp_eq {c : Int} (h : isB c) : meanL JL JM c = if 0 ≤ jpV c then ([jpV c], true) else ([], false) := by
  obtain ⟨h0, h1⟩ := h
  have := jp_all ⟨c.toNat, by omega⟩
  simp only [show ((c.toNat : Nat) : Int) = c by omega] at this
  exact this
/-- The number of a unit in front, -1: there is none. -/
def uni2 (u : List Int) : Int := if (unitL u).2 = true then (unitL u).1 else -1
/-- An escape of JSON, behind its stroke. -/
def jescL : List Int → Option (List Int × Nat)
  | [] => none
  | c :: t =>
    if 0 ≤ jpV c then some ([jpV c], 1)
    else if c = 117 ∧ hcnt t 4 = 4 then
      (if validR (hval t 4 0) then some (chrL (hval t 4 0), 5)
       else if hval t 4 0 ≤ 56319 ∧ 56320 ≤ uni2 (t.drop 4) ∧ uni2 (t.drop 4) ≤ 57343 then some (chrL (65536 + 1024 * (hval t 4 0 - 55296) + uni2 (t.drop 4) - 56320), 11)
       else none)
    else none
theorem unit_bd (u : List Int) : 0 ≤ (unitL u).1 ∧ (unitL u).1 < 65536 := by
  unfold unitL
  split
  · have h4 := hcnt_le (u.drop 2) 4
    obtain ⟨v0, v1⟩ := hval_bd (l := u.drop 2) (k := 4) _ (Nat.le_refl _) (by omega)
    have hp : (16 : Int) ^ hcnt (u.drop 2) 4 ≤ 65536 := by
      have : hcnt (u.drop 2) 4 = 0 ∨ hcnt (u.drop 2) 4 = 1 ∨ hcnt (u.drop 2) 4 = 2 ∨ hcnt (u.drop 2) 4 = 3 ∨ hcnt (u.drop 2) 4 = 4 := by omega
      rcases this with h | h | h | h | h <;> rw [h] <;> decide
    omega
  · decide
theorem uni2_eq (u : List Int) : uni2 u = if 2 ≤ u.length ∧ u.getD 0 0 = 92 ∧ u.getD 1 0 = 117 then numM (u.drop 2) 4 else -1 := by
  have h4 := hcnt_le (u.drop 2) 4
  have hh : (2 ≤ u.length ∧ u.take 2 = [92, 117]) ↔ (2 ≤ u.length ∧ u.getD 0 0 = 92 ∧ u.getD 1 0 = 117) := by
    match u with
    | [] => simp
    | [_] => simp
    | a :: b :: r => simp
  unfold uni2 unitL numM
  by_cases h : 2 ≤ u.length ∧ u.getD 0 0 = 92 ∧ u.getD 1 0 = 117
  · rw [if_pos (hh.2 h), if_pos h]
    by_cases hk : hcnt (u.drop 2) 4 = 4
    · rw [if_pos hk, hk]; rfl
    · rw [if_neg hk, decide_eq_false (by omega)]; rfl
  · rw [if_neg (fun x => h (hh.1 x)), if_neg h]; rfl
attribute [local irreducible] Cs Own Ex Pu Yld RT LJ QJ AtQ CT Rd QSp Sp FinQ Then LoopQ CutQ DT TakeQ EffQ
attribute [local irreducible] Bd
variable {B : World} {R : List HP}
set_option maxHeartbeats 2000000 in
theorem jesc_fn {l : List Int} (hb : Byt l) (hl : l.length ≤ 1000000000000000) (h92 : l.getD 0 0 = 92) : Sp B Tryd.prog 75 [.string (str l)] R [] (fun v H' => escV (jescL (l.drop 1)) v ∧ H' = []) := by
  refine Sp.body Tryd.func75 rfl Tryd.ntmps75 (by simp) ?_
  simp only [argE, List.cons_append, List.nil_append, Nat.zero_add, Nat.reduceAdd]
  repeat' (first|((first|refine vc_id ?_|(refine RT.id ?_;refine RT.c T ?_));(conv=>whnf);first|refine RT.id ?_|(refine⟨fun hc=>?_,fun hc=>?_⟩<;>first|(exfalso;omega)|skip)|((first|apply num_i64|apply num_u64|apply num_u8|apply num_i32|apply num_u32);omega;omega)|((first|apply num_u64m|apply num_u8m|apply num_u32m);intro r hr)|(intro r hr))|(refine RT.id ?_;first|refine RT.nil ?_|(apply RT.ld T;exact rfl;(focus ((repeat constructor);done));iterate 4 exact rfl)|(apply RT.st T;(iterate 3 exact rfl);(focus ((repeat constructor);done));(focus repeat constructor);iterate 2 exact rfl)|((first|apply RT.box|apply RT.alloc T);(iterate 4 exact rfl);intro b)|((first|apply RT.pnil T|apply RT.pnnil T);iterate 6 exact rfl)|(refine RT.isPush ?_;refine RT.pushI T rfl rfl rfl (fun a' c'=>by ((repeat constructor);done)) (by omega) (by omega) rfl rfl rfl rfl (fun a' c' b' c1' hac=>?_))|refine RT.build T rfl rfl rfl rfl rfl ?_|(apply RT.lens T;iterate 4 exact rfl))|(refine AtQ.id_ ?_;first|refine A0 ?_|refine A1 ?_|refine A2 ?_|refine A3 ?_|refine A4 ?_|refine A5 ?_|refine A6 ?_|refine A7 ?_|refine A8 ?_|refine A9 ?_|refine AtQ.in_ne rfl ?_|refine AA ?_|refine AB ?_|refine AC ?_|refine AD ?_)|(refine CT.id_ ?_;first|(refine CT.seq ?_) | (refine CT.region ?_) | (refine CT.quiet mixed (by kernel_rfl) ?_) | (refine CT.cond_t rfl ?_) | (refine CT.cond_f rfl ?_) | (refine CT.skip ?_) | (refine CT.ret ?_) | (refine CT.exit ?_) | (refine CT.block ?_)))
  · refine AtQ.fin3 Tryd.results75 rfl rfl rfl ⟨escV_none ?_, rfl⟩ (fun w h => h)
    rw [List.drop_of_length_le (by omega)]
    rfl
  have hl2 : 2 ≤ l.length := by omega
  have hd := drop_cons2 hl2
  rw [hd]
  (refine RT.ixs T (j := 1) rfl rfl (by omega) (by omega) (by assumption) rfl rfl rfl ?_)
  have hc := hb.get (i := 1) (by omega)
  have htl : (l.drop 2).length + 2 = l.length := by rw [List.length_drop]; omega
  have htk : l.take 2 = [92, l.getD 1 0] := by
    match l, hl2, h92 with
    | a :: b :: r, _, h => simp at h; simp [h]
  have hd6 : l.drop 6 = (l.drop 2).drop 4 := by rw [List.drop_drop]
  have hub := unit_bd
  have hul : unitL l = if l.getD 1 0 = 117 then (hval (l.drop 2) (hcnt (l.drop 2) 4) 0, decide (4 ≤ hcnt (l.drop 2) 4)) else (0, false) := by
    unfold unitL
    rw [htk]
    by_cases h : l.getD 1 0 = 117
    · rw [if_pos h, if_pos ⟨hl2, by rw [h]⟩]
    · rw [if_neg h, if_neg (fun x => h (by simpa using x.2))]
  generalize hdt : l.drop 2 = t at *
  generalize hcg : l.getD 1 0 = c at *
  obtain ⟨hc0, hc1⟩ := id hc
  (refine RT.call T rfl (by (repeat (first|exact Fr.nil|(apply Fr.cons;focus ((repeat constructor);done))))) (means_fn (L := JL) (M := JM) (by decide) rfl (by decide) hc) rfl rfl rfl ?_; rintro _ _ ⟨rfl, rfl⟩; try simp only [List.cons_append, List.nil_append])
  rw [jp_eq hc]
  by_cases hp : 0 ≤ jpV c
  · rw [if_pos hp]
    repeat' (first|((first|refine vc_id ?_|(refine RT.id ?_;refine RT.c T ?_));(conv=>whnf);first|refine RT.id ?_|(refine⟨fun hc=>?_,fun hc=>?_⟩<;>first|(exfalso;omega)|skip)|((first|apply num_i64|apply num_u64|apply num_u8|apply num_i32|apply num_u32);omega;omega)|((first|apply num_u64m|apply num_u8m|apply num_u32m);intro r hr)|(intro r hr))|(refine RT.id ?_;first|refine RT.nil ?_|(apply RT.ld T;exact rfl;(focus ((repeat constructor);done));iterate 4 exact rfl)|(apply RT.st T;(iterate 3 exact rfl);(focus ((repeat constructor);done));(focus repeat constructor);iterate 2 exact rfl)|((first|apply RT.box|apply RT.alloc T);(iterate 4 exact rfl);intro b)|((first|apply RT.pnil T|apply RT.pnnil T);iterate 6 exact rfl)|(refine RT.isPush ?_;refine RT.pushI T rfl rfl rfl (fun a' c'=>by ((repeat constructor);done)) (by omega) (by omega) rfl rfl rfl rfl (fun a' c' b' c1' hac=>?_))|refine RT.build T rfl rfl rfl rfl rfl ?_|(apply RT.lens T;iterate 4 exact rfl))|(refine AtQ.id_ ?_;first|refine A0 ?_|refine A1 ?_|refine A2 ?_|refine A3 ?_|refine A4 ?_|refine A5 ?_|refine A6 ?_|refine A7 ?_|refine A8 ?_|refine A9 ?_|refine AtQ.in_ne rfl ?_|refine AA ?_|refine AB ?_|refine AC ?_|refine AD ?_)|(refine CT.id_ ?_;first|(refine CT.seq ?_) | (refine CT.region ?_) | (refine CT.quiet mixed (by kernel_rfl) ?_) | (refine CT.cond_t rfl ?_) | (refine CT.cond_f rfl ?_) | (refine CT.skip ?_) | (refine CT.ret ?_) | (refine CT.exit ?_) | (refine CT.block ?_)))
    exact AtQ.fin3 Tryd.results75 rfl rfl rfl ⟨escV_some (k := 1) (by rw [jescL, if_pos hp]) rfl, rfl⟩ (fun w h => h)
  rw [if_neg hp]
  dsimp only
  have h4 := hcnt_le t 4
  repeat' (first|((first|refine vc_id ?_|(refine RT.id ?_;refine RT.c T ?_));(conv=>whnf);first|refine RT.id ?_|(refine⟨fun hc=>?_,fun hc=>?_⟩<;>first|(exfalso;omega)|skip)|((first|apply num_i64|apply num_u64|apply num_u8|apply num_i32|apply num_u32);omega;omega)|((first|apply num_u64m|apply num_u8m|apply num_u32m);intro r hr)|(intro r hr))|(refine RT.id ?_;first|refine RT.nil ?_|(apply RT.ld T;exact rfl;(focus ((repeat constructor);done));iterate 4 exact rfl)|(apply RT.st T;(iterate 3 exact rfl);(focus ((repeat constructor);done));(focus repeat constructor);iterate 2 exact rfl)|((first|apply RT.box|apply RT.alloc T);(iterate 4 exact rfl);intro b)|((first|apply RT.pnil T|apply RT.pnnil T);iterate 6 exact rfl)|(refine RT.isPush ?_;refine RT.pushI T rfl rfl rfl (fun a' c'=>by ((repeat constructor);done)) (by omega) (by omega) rfl rfl rfl rfl (fun a' c' b' c1' hac=>?_))|refine RT.build T rfl rfl rfl rfl rfl ?_|(apply RT.lens T;iterate 4 exact rfl))|(refine AtQ.id_ ?_;first|refine A0 ?_|refine A1 ?_|refine A2 ?_|refine A3 ?_|refine A4 ?_|refine A5 ?_|refine A6 ?_|refine A7 ?_|refine A8 ?_|refine A9 ?_|refine AtQ.in_ne rfl ?_|refine AA ?_|refine AB ?_|refine AC ?_|refine AD ?_)|(refine CT.id_ ?_;first|(refine CT.seq ?_) | (refine CT.region ?_) | (refine CT.quiet mixed (by kernel_rfl) ?_) | (refine CT.cond_t rfl ?_) | (refine CT.cond_f rfl ?_) | (refine CT.skip ?_) | (refine CT.ret ?_) | (refine CT.exit ?_) | (refine CT.block ?_)))
  (refine RT.call T rfl (by (repeat (first|exact Fr.nil|(apply Fr.cons;focus ((repeat constructor);done))))) (unit_fn hb hl) rfl rfl rfl ?_; rintro _ _ ⟨rfl, rfl⟩; try simp only [List.cons_append, List.nil_append])
  rw [hul]
  by_cases hu : c = 117
  · rw [if_pos hu]
    dsimp only
    by_cases hk : hcnt t 4 = 4
    · rw [decide_eq_true (by omega), hk]
      obtain ⟨v0, v1⟩ := hval_bd (l := t) (k := 4) 4 (by omega) (by omega)
      have v2 : hval t 4 0 < 65536 := v1
      have hje : jescL (c :: t) = (if validR (hval t 4 0) then some (chrL (hval t 4 0), 5) else if hval t 4 0 ≤ 56319 ∧ 56320 ≤ uni2 (t.drop 4) ∧ uni2 (t.drop 4) ≤ 57343 then some (chrL (65536 + 1024 * (hval t 4 0 - 55296) + uni2 (t.drop 4) - 56320), 11) else none) := by
        rw [jescL, if_neg hp, if_pos ⟨hu, hk⟩]
      generalize hval t 4 0 = r at *
      repeat' (first|((first|refine vc_id ?_|(refine RT.id ?_;refine RT.c T ?_));(conv=>whnf);first|refine RT.id ?_|(refine⟨fun hc=>?_,fun hc=>?_⟩<;>first|(exfalso;omega)|skip)|((first|apply num_i64|apply num_u64|apply num_u8|apply num_i32|apply num_u32);omega;omega)|((first|apply num_u64m|apply num_u8m|apply num_u32m);intro r hr)|(intro r hr))|(refine RT.id ?_;first|refine RT.nil ?_|(apply RT.ld T;exact rfl;(focus ((repeat constructor);done));iterate 4 exact rfl)|(apply RT.st T;(iterate 3 exact rfl);(focus ((repeat constructor);done));(focus repeat constructor);iterate 2 exact rfl)|((first|apply RT.box|apply RT.alloc T);(iterate 4 exact rfl);intro b)|((first|apply RT.pnil T|apply RT.pnnil T);iterate 6 exact rfl)|(refine RT.isPush ?_;refine RT.pushI T rfl rfl rfl (fun a' c'=>by ((repeat constructor);done)) (by omega) (by omega) rfl rfl rfl rfl (fun a' c' b' c1' hac=>?_))|refine RT.build T rfl rfl rfl rfl rfl ?_|(apply RT.lens T;iterate 4 exact rfl))|(refine AtQ.id_ ?_;first|refine A0 ?_|refine A1 ?_|refine A2 ?_|refine A3 ?_|refine A4 ?_|refine A5 ?_|refine A6 ?_|refine A7 ?_|refine A8 ?_|refine A9 ?_|refine AtQ.in_ne rfl ?_|refine AA ?_|refine AB ?_|refine AC ?_|refine AD ?_)|(refine CT.id_ ?_;first|(refine CT.seq ?_) | (refine CT.region ?_) | (refine CT.quiet mixed (by kernel_rfl) ?_) | (refine CT.cond_t rfl ?_) | (refine CT.cond_f rfl ?_) | (refine CT.skip ?_) | (refine CT.ret ?_) | (refine CT.exit ?_) | (refine CT.block ?_)))
      · have hv : validR r := by unfold validR; omega
        rw [if_pos hv] at hje
        refine RT.convIS T rfl rfl rfl rfl rfl ?_
        repeat' (first|((first|refine vc_id ?_|(refine RT.id ?_;refine RT.c T ?_));(conv=>whnf);first|refine RT.id ?_|(refine⟨fun hc=>?_,fun hc=>?_⟩<;>first|(exfalso;omega)|skip)|((first|apply num_i64|apply num_u64|apply num_u8|apply num_i32|apply num_u32);omega;omega)|((first|apply num_u64m|apply num_u8m|apply num_u32m);intro r hr)|(intro r hr))|(refine RT.id ?_;first|refine RT.nil ?_|(apply RT.ld T;exact rfl;(focus ((repeat constructor);done));iterate 4 exact rfl)|(apply RT.st T;(iterate 3 exact rfl);(focus ((repeat constructor);done));(focus repeat constructor);iterate 2 exact rfl)|((first|apply RT.box|apply RT.alloc T);(iterate 4 exact rfl);intro b)|((first|apply RT.pnil T|apply RT.pnnil T);iterate 6 exact rfl)|(refine RT.isPush ?_;refine RT.pushI T rfl rfl rfl (fun a' c'=>by ((repeat constructor);done)) (by omega) (by omega) rfl rfl rfl rfl (fun a' c' b' c1' hac=>?_))|refine RT.build T rfl rfl rfl rfl rfl ?_|(apply RT.lens T;iterate 4 exact rfl))|(refine AtQ.id_ ?_;first|refine A0 ?_|refine A1 ?_|refine A2 ?_|refine A3 ?_|refine A4 ?_|refine A5 ?_|refine A6 ?_|refine A7 ?_|refine A8 ?_|refine A9 ?_|refine AtQ.in_ne rfl ?_|refine AA ?_|refine AB ?_|refine AC ?_|refine AD ?_)|(refine CT.id_ ?_;first|(refine CT.seq ?_) | (refine CT.region ?_) | (refine CT.quiet mixed (by kernel_rfl) ?_) | (refine CT.cond_t rfl ?_) | (refine CT.cond_f rfl ?_) | (refine CT.skip ?_) | (refine CT.ret ?_) | (refine CT.exit ?_) | (refine CT.block ?_)))
        exact AtQ.fin3 Tryd.results75 rfl rfl rfl ⟨escV_some hje (by omega), rfl⟩ (fun w h => h)
      · have hv : validR r := by unfold validR; omega
        rw [if_pos hv] at hje
        refine RT.convIS T rfl rfl rfl rfl rfl ?_
        repeat' (first|((first|refine vc_id ?_|(refine RT.id ?_;refine RT.c T ?_));(conv=>whnf);first|refine RT.id ?_|(refine⟨fun hc=>?_,fun hc=>?_⟩<;>first|(exfalso;omega)|skip)|((first|apply num_i64|apply num_u64|apply num_u8|apply num_i32|apply num_u32);omega;omega)|((first|apply num_u64m|apply num_u8m|apply num_u32m);intro r hr)|(intro r hr))|(refine RT.id ?_;first|refine RT.nil ?_|(apply RT.ld T;exact rfl;(focus ((repeat constructor);done));iterate 4 exact rfl)|(apply RT.st T;(iterate 3 exact rfl);(focus ((repeat constructor);done));(focus repeat constructor);iterate 2 exact rfl)|((first|apply RT.box|apply RT.alloc T);(iterate 4 exact rfl);intro b)|((first|apply RT.pnil T|apply RT.pnnil T);iterate 6 exact rfl)|(refine RT.isPush ?_;refine RT.pushI T rfl rfl rfl (fun a' c'=>by ((repeat constructor);done)) (by omega) (by omega) rfl rfl rfl rfl (fun a' c' b' c1' hac=>?_))|refine RT.build T rfl rfl rfl rfl rfl ?_|(apply RT.lens T;iterate 4 exact rfl))|(refine AtQ.id_ ?_;first|refine A0 ?_|refine A1 ?_|refine A2 ?_|refine A3 ?_|refine A4 ?_|refine A5 ?_|refine A6 ?_|refine A7 ?_|refine A8 ?_|refine A9 ?_|refine AtQ.in_ne rfl ?_|refine AA ?_|refine AB ?_|refine AC ?_|refine AD ?_)|(refine CT.id_ ?_;first|(refine CT.seq ?_) | (refine CT.region ?_) | (refine CT.quiet mixed (by kernel_rfl) ?_) | (refine CT.cond_t rfl ?_) | (refine CT.cond_f rfl ?_) | (refine CT.skip ?_) | (refine CT.ret ?_) | (refine CT.exit ?_) | (refine CT.block ?_)))
        exact AtQ.fin3 Tryd.results75 rfl rfl rfl ⟨escV_some hje (by omega), rfl⟩ (fun w h => h)
      have hv : ¬ validR r := by unfold validR; omega
      rw [if_neg hv] at hje
      refine RT.slsL T (j := 6) rfl rfl rfl (by omega) rfl rfl rfl ?_
      (refine RT.call T rfl (by (repeat (first|exact Fr.nil|(apply Fr.cons;focus ((repeat constructor);done))))) (unit_fn (hb.drop 6) (by rw [List.length_drop]; omega)) rfl rfl rfl ?_; rintro _ _ ⟨rfl, rfl⟩; try simp only [List.cons_append, List.nil_append])
      rw [hd6]
      have hu2 : uni2 (t.drop 4) = if (unitL (t.drop 4)).2 = true then (unitL (t.drop 4)).1 else -1 := rfl
      obtain ⟨u0, u1⟩ := hub (t.drop 4)
      rw [hu2] at hje
      generalize unitL (t.drop 4) = uu at *
      obtain ⟨low, ok⟩ := uu
      dsimp only at u0 u1 hje ⊢
      cases ok
      · rw [if_neg (by simp)] at hje
        repeat' (first|((first|refine vc_id ?_|(refine RT.id ?_;refine RT.c T ?_));(conv=>whnf);first|refine RT.id ?_|(refine⟨fun hc=>?_,fun hc=>?_⟩<;>first|(exfalso;omega)|skip)|((first|apply num_i64|apply num_u64|apply num_u8|apply num_i32|apply num_u32);omega;omega)|((first|apply num_u64m|apply num_u8m|apply num_u32m);intro r hr)|(intro r hr))|(refine RT.id ?_;first|refine RT.nil ?_|(apply RT.ld T;exact rfl;(focus ((repeat constructor);done));iterate 4 exact rfl)|(apply RT.st T;(iterate 3 exact rfl);(focus ((repeat constructor);done));(focus repeat constructor);iterate 2 exact rfl)|((first|apply RT.box|apply RT.alloc T);(iterate 4 exact rfl);intro b)|((first|apply RT.pnil T|apply RT.pnnil T);iterate 6 exact rfl)|(refine RT.isPush ?_;refine RT.pushI T rfl rfl rfl (fun a' c'=>by ((repeat constructor);done)) (by omega) (by omega) rfl rfl rfl rfl (fun a' c' b' c1' hac=>?_))|refine RT.build T rfl rfl rfl rfl rfl ?_|(apply RT.lens T;iterate 4 exact rfl))|(refine AtQ.id_ ?_;first|refine A0 ?_|refine A1 ?_|refine A2 ?_|refine A3 ?_|refine A4 ?_|refine A5 ?_|refine A6 ?_|refine A7 ?_|refine A8 ?_|refine A9 ?_|refine AtQ.in_ne rfl ?_|refine AA ?_|refine AB ?_|refine AC ?_|refine AD ?_)|(refine CT.id_ ?_;first|(refine CT.seq ?_) | (refine CT.region ?_) | (refine CT.quiet mixed (by kernel_rfl) ?_) | (refine CT.cond_t rfl ?_) | (refine CT.cond_f rfl ?_) | (refine CT.skip ?_) | (refine CT.ret ?_) | (refine CT.exit ?_) | (refine CT.block ?_)))
        exact AtQ.fin3 Tryd.results75 rfl rfl rfl ⟨escV_none hje, rfl⟩ (fun w h => h)
      rw [if_pos rfl] at hje
      by_cases hg : r ≤ 56319 ∧ 56320 ≤ low ∧ low ≤ 57343
      · rw [if_pos hg] at hje
        have hsh : IntKind.i32.wrap ((r - 55296) * 2 ^ (min (10 : Int).toNat IntKind.i32.bits)) = 1024 * (r - 55296) := by
          show IntKind.i32.wrap ((r - 55296) * 1024) = _
          rw [Int.mul_comm]
          exact wr_i32 (by omega) (by omega)
        repeat' (first|((first|refine vc_id ?_|(refine RT.id ?_;refine RT.c T ?_));(conv=>whnf);first|refine RT.id ?_|(refine⟨fun hc=>?_,fun hc=>?_⟩<;>first|(exfalso;omega)|skip)|((first|apply num_i64|apply num_u64|apply num_u8|apply num_i32|apply num_u32);omega;omega)|((first|apply num_u64m|apply num_u8m|apply num_u32m);intro r hr)|(intro r hr))|(refine RT.id ?_;first|refine RT.nil ?_|(apply RT.ld T;exact rfl;(focus ((repeat constructor);done));iterate 4 exact rfl)|(apply RT.st T;(iterate 3 exact rfl);(focus ((repeat constructor);done));(focus repeat constructor);iterate 2 exact rfl)|((first|apply RT.box|apply RT.alloc T);(iterate 4 exact rfl);intro b)|((first|apply RT.pnil T|apply RT.pnnil T);iterate 6 exact rfl)|(refine RT.isPush ?_;refine RT.pushI T rfl rfl rfl (fun a' c'=>by ((repeat constructor);done)) (by omega) (by omega) rfl rfl rfl rfl (fun a' c' b' c1' hac=>?_))|refine RT.build T rfl rfl rfl rfl rfl ?_|(apply RT.lens T;iterate 4 exact rfl))|(refine AtQ.id_ ?_;first|refine A0 ?_|refine A1 ?_|refine A2 ?_|refine A3 ?_|refine A4 ?_|refine A5 ?_|refine A6 ?_|refine A7 ?_|refine A8 ?_|refine A9 ?_|refine AtQ.in_ne rfl ?_|refine AA ?_|refine AB ?_|refine AC ?_|refine AD ?_)|(refine CT.id_ ?_;first|(refine CT.seq ?_) | (refine CT.region ?_) | (refine CT.quiet mixed (by kernel_rfl) ?_) | (refine CT.cond_t rfl ?_) | (refine CT.cond_f rfl ?_) | (refine CT.skip ?_) | (refine CT.ret ?_) | (refine CT.exit ?_) | (refine CT.block ?_)))
        refine RT.ar rfl rfl (y_shl rfl rfl (by decide) hsh) rfl rfl ?_
        repeat' (first|((first|refine vc_id ?_|(refine RT.id ?_;refine RT.c T ?_));(conv=>whnf);first|refine RT.id ?_|(refine⟨fun hc=>?_,fun hc=>?_⟩<;>first|(exfalso;omega)|skip)|((first|apply num_i64|apply num_u64|apply num_u8|apply num_i32|apply num_u32);omega;omega)|((first|apply num_u64m|apply num_u8m|apply num_u32m);intro r hr)|(intro r hr))|(refine RT.id ?_;first|refine RT.nil ?_|(apply RT.ld T;exact rfl;(focus ((repeat constructor);done));iterate 4 exact rfl)|(apply RT.st T;(iterate 3 exact rfl);(focus ((repeat constructor);done));(focus repeat constructor);iterate 2 exact rfl)|((first|apply RT.box|apply RT.alloc T);(iterate 4 exact rfl);intro b)|((first|apply RT.pnil T|apply RT.pnnil T);iterate 6 exact rfl)|(refine RT.isPush ?_;refine RT.pushI T rfl rfl rfl (fun a' c'=>by ((repeat constructor);done)) (by omega) (by omega) rfl rfl rfl rfl (fun a' c' b' c1' hac=>?_))|refine RT.build T rfl rfl rfl rfl rfl ?_|(apply RT.lens T;iterate 4 exact rfl))|(refine AtQ.id_ ?_;first|refine A0 ?_|refine A1 ?_|refine A2 ?_|refine A3 ?_|refine A4 ?_|refine A5 ?_|refine A6 ?_|refine A7 ?_|refine A8 ?_|refine A9 ?_|refine AtQ.in_ne rfl ?_|refine AA ?_|refine AB ?_|refine AC ?_|refine AD ?_)|(refine CT.id_ ?_;first|(refine CT.seq ?_) | (refine CT.region ?_) | (refine CT.quiet mixed (by kernel_rfl) ?_) | (refine CT.cond_t rfl ?_) | (refine CT.cond_f rfl ?_) | (refine CT.skip ?_) | (refine CT.ret ?_) | (refine CT.exit ?_) | (refine CT.block ?_)))
        refine RT.convIS T rfl rfl rfl rfl rfl ?_
        repeat' (first|((first|refine vc_id ?_|(refine RT.id ?_;refine RT.c T ?_));(conv=>whnf);first|refine RT.id ?_|(refine⟨fun hc=>?_,fun hc=>?_⟩<;>first|(exfalso;omega)|skip)|((first|apply num_i64|apply num_u64|apply num_u8|apply num_i32|apply num_u32);omega;omega)|((first|apply num_u64m|apply num_u8m|apply num_u32m);intro r hr)|(intro r hr))|(refine RT.id ?_;first|refine RT.nil ?_|(apply RT.ld T;exact rfl;(focus ((repeat constructor);done));iterate 4 exact rfl)|(apply RT.st T;(iterate 3 exact rfl);(focus ((repeat constructor);done));(focus repeat constructor);iterate 2 exact rfl)|((first|apply RT.box|apply RT.alloc T);(iterate 4 exact rfl);intro b)|((first|apply RT.pnil T|apply RT.pnnil T);iterate 6 exact rfl)|(refine RT.isPush ?_;refine RT.pushI T rfl rfl rfl (fun a' c'=>by ((repeat constructor);done)) (by omega) (by omega) rfl rfl rfl rfl (fun a' c' b' c1' hac=>?_))|refine RT.build T rfl rfl rfl rfl rfl ?_|(apply RT.lens T;iterate 4 exact rfl))|(refine AtQ.id_ ?_;first|refine A0 ?_|refine A1 ?_|refine A2 ?_|refine A3 ?_|refine A4 ?_|refine A5 ?_|refine A6 ?_|refine A7 ?_|refine A8 ?_|refine A9 ?_|refine AtQ.in_ne rfl ?_|refine AA ?_|refine AB ?_|refine AC ?_|refine AD ?_)|(refine CT.id_ ?_;first|(refine CT.seq ?_) | (refine CT.region ?_) | (refine CT.quiet mixed (by kernel_rfl) ?_) | (refine CT.cond_t rfl ?_) | (refine CT.cond_f rfl ?_) | (refine CT.skip ?_) | (refine CT.ret ?_) | (refine CT.exit ?_) | (refine CT.block ?_)))
        exact AtQ.fin3 Tryd.results75 rfl rfl rfl ⟨escV_some hje (by omega), rfl⟩ (fun w h => h)
      · rw [if_neg hg] at hje
        repeat' (first|((first|refine vc_id ?_|(refine RT.id ?_;refine RT.c T ?_));(conv=>whnf);first|refine RT.id ?_|(refine⟨fun hc=>?_,fun hc=>?_⟩<;>first|(exfalso;omega)|skip)|((first|apply num_i64|apply num_u64|apply num_u8|apply num_i32|apply num_u32);omega;omega)|((first|apply num_u64m|apply num_u8m|apply num_u32m);intro r hr)|(intro r hr))|(refine RT.id ?_;first|refine RT.nil ?_|(apply RT.ld T;exact rfl;(focus ((repeat constructor);done));iterate 4 exact rfl)|(apply RT.st T;(iterate 3 exact rfl);(focus ((repeat constructor);done));(focus repeat constructor);iterate 2 exact rfl)|((first|apply RT.box|apply RT.alloc T);(iterate 4 exact rfl);intro b)|((first|apply RT.pnil T|apply RT.pnnil T);iterate 6 exact rfl)|(refine RT.isPush ?_;refine RT.pushI T rfl rfl rfl (fun a' c'=>by ((repeat constructor);done)) (by omega) (by omega) rfl rfl rfl rfl (fun a' c' b' c1' hac=>?_))|refine RT.build T rfl rfl rfl rfl rfl ?_|(apply RT.lens T;iterate 4 exact rfl))|(refine AtQ.id_ ?_;first|refine A0 ?_|refine A1 ?_|refine A2 ?_|refine A3 ?_|refine A4 ?_|refine A5 ?_|refine A6 ?_|refine A7 ?_|refine A8 ?_|refine A9 ?_|refine AtQ.in_ne rfl ?_|refine AA ?_|refine AB ?_|refine AC ?_|refine AD ?_)|(refine CT.id_ ?_;first|(refine CT.seq ?_) | (refine CT.region ?_) | (refine CT.quiet mixed (by kernel_rfl) ?_) | (refine CT.cond_t rfl ?_) | (refine CT.cond_f rfl ?_) | (refine CT.skip ?_) | (refine CT.ret ?_) | (refine CT.exit ?_) | (refine CT.block ?_)))
        all_goals
          exact AtQ.fin3 Tryd.results75 rfl rfl rfl ⟨escV_none hje, rfl⟩ (fun w h => h)
    · rw [decide_eq_false (show ¬ 4 ≤ hcnt t 4 by omega)]
      repeat' (first|((first|refine vc_id ?_|(refine RT.id ?_;refine RT.c T ?_));(conv=>whnf);first|refine RT.id ?_|(refine⟨fun hc=>?_,fun hc=>?_⟩<;>first|(exfalso;omega)|skip)|((first|apply num_i64|apply num_u64|apply num_u8|apply num_i32|apply num_u32);omega;omega)|((first|apply num_u64m|apply num_u8m|apply num_u32m);intro r hr)|(intro r hr))|(refine RT.id ?_;first|refine RT.nil ?_|(apply RT.ld T;exact rfl;(focus ((repeat constructor);done));iterate 4 exact rfl)|(apply RT.st T;(iterate 3 exact rfl);(focus ((repeat constructor);done));(focus repeat constructor);iterate 2 exact rfl)|((first|apply RT.box|apply RT.alloc T);(iterate 4 exact rfl);intro b)|((first|apply RT.pnil T|apply RT.pnnil T);iterate 6 exact rfl)|(refine RT.isPush ?_;refine RT.pushI T rfl rfl rfl (fun a' c'=>by ((repeat constructor);done)) (by omega) (by omega) rfl rfl rfl rfl (fun a' c' b' c1' hac=>?_))|refine RT.build T rfl rfl rfl rfl rfl ?_|(apply RT.lens T;iterate 4 exact rfl))|(refine AtQ.id_ ?_;first|refine A0 ?_|refine A1 ?_|refine A2 ?_|refine A3 ?_|refine A4 ?_|refine A5 ?_|refine A6 ?_|refine A7 ?_|refine A8 ?_|refine A9 ?_|refine AtQ.in_ne rfl ?_|refine AA ?_|refine AB ?_|refine AC ?_|refine AD ?_)|(refine CT.id_ ?_;first|(refine CT.seq ?_) | (refine CT.region ?_) | (refine CT.quiet mixed (by kernel_rfl) ?_) | (refine CT.cond_t rfl ?_) | (refine CT.cond_f rfl ?_) | (refine CT.skip ?_) | (refine CT.ret ?_) | (refine CT.exit ?_) | (refine CT.block ?_)))
      exact AtQ.fin3 Tryd.results75 rfl rfl rfl ⟨escV_none (by rw [jescL, if_neg hp, if_neg (fun h => hk h.2)]), rfl⟩ (fun w h => h)
  · rw [if_neg hu]
    repeat' (first|((first|refine vc_id ?_|(refine RT.id ?_;refine RT.c T ?_));(conv=>whnf);first|refine RT.id ?_|(refine⟨fun hc=>?_,fun hc=>?_⟩<;>first|(exfalso;omega)|skip)|((first|apply num_i64|apply num_u64|apply num_u8|apply num_i32|apply num_u32);omega;omega)|((first|apply num_u64m|apply num_u8m|apply num_u32m);intro r hr)|(intro r hr))|(refine RT.id ?_;first|refine RT.nil ?_|(apply RT.ld T;exact rfl;(focus ((repeat constructor);done));iterate 4 exact rfl)|(apply RT.st T;(iterate 3 exact rfl);(focus ((repeat constructor);done));(focus repeat constructor);iterate 2 exact rfl)|((first|apply RT.box|apply RT.alloc T);(iterate 4 exact rfl);intro b)|((first|apply RT.pnil T|apply RT.pnnil T);iterate 6 exact rfl)|(refine RT.isPush ?_;refine RT.pushI T rfl rfl rfl (fun a' c'=>by ((repeat constructor);done)) (by omega) (by omega) rfl rfl rfl rfl (fun a' c' b' c1' hac=>?_))|refine RT.build T rfl rfl rfl rfl rfl ?_|(apply RT.lens T;iterate 4 exact rfl))|(refine AtQ.id_ ?_;first|refine A0 ?_|refine A1 ?_|refine A2 ?_|refine A3 ?_|refine A4 ?_|refine A5 ?_|refine A6 ?_|refine A7 ?_|refine A8 ?_|refine A9 ?_|refine AtQ.in_ne rfl ?_|refine AA ?_|refine AB ?_|refine AC ?_|refine AD ?_)|(refine CT.id_ ?_;first|(refine CT.seq ?_) | (refine CT.region ?_) | (refine CT.quiet mixed (by kernel_rfl) ?_) | (refine CT.cond_t rfl ?_) | (refine CT.cond_f rfl ?_) | (refine CT.skip ?_) | (refine CT.ret ?_) | (refine CT.exit ?_) | (refine CT.block ?_)))
    exact AtQ.fin3 Tryd.results75 rfl rfl rfl ⟨escV_none (by rw [jescL, if_neg hp, if_neg (fun h => hu h.1)]), rfl⟩ (fun w h => h)
end Go.Proofs.YtbpelgbblpeojaaDoor
