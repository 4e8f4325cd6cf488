/- Walks: the document's Fields. -/
import Derived.Test.YtldfbjcicbfidaaR26
import Derived.Test.YtldfbjcicbfidaaV20
import Derived.Test.YtldfbjcicbfidaaSkB
set_option linter.unusedVariables false
set_option linter.unusedSimpArgs false
namespace Go.Proofs.Ytldfbjcicbfidaa
open Go.Sk
set_option maxRecDepth 100000
attribute [local irreducible] Cs Own Ex Pu Yld RT LJ QJ AtQ CT Rd QSp Sp FinQ Then LoopQ CutQ DT TakeQ EffQ
attribute [local irreducible] Wr Lo Df Lft Bag
variable {B : World} {R : List HP}
/-- A field that came out, and where its bytes lie. -/
structure DR where
  x : RW
  a : Option Addr
  c : Nat
def DR.own (r : DR) : HP := own8 r.a r.c r.x.dt r.x.dt.length
def DR.cells (r : DR) : List Value := rawC r.x r.a r.c
theorem DR.cells_len (r : DR) : r.cells.length = 5 := rfl
abbrev drC (ws : List DR) : List Value := ws.flatMap DR.cells
theorem drC_len (ws : List DR) : (drC ws).length = ws.length * 5 := flat_len DR.cells_len ws
set_option maxHeartbeats 4000000 in
theorem dfields_fn {n c : Nat} {a : Option Addr} {l : List Int} {d : Int} (hR : Rd B R a n c 1 (ints .u8 l)) (hb : Bytes l) (hn : n ≤ 1000000000000) (hd0 : -9223372036854775808 ≤ d) (hd1 : d ≤ 9223372036854775807) :
    Sp B Try.prog 52 [sl8 a n c, .int .i64 d] R [] (fun v H' => ∃ (ws : List DR) (ab : Option Addr) (cb : Nat), v = .tuple #[.slice ab ws.length cb, .int .i64 (chk0 l d).1, .int .i64 (chk0 l d).2] ∧ ws.map DR.x = fldsL l d ∧ ws.length ≤ cb ∧ H' = [Own ab cb 116 5 ws.length (drC ws), Bag (ws.map DR.own)]) := by
  have hl := hR.lenI
  have hle := hR.le
  refine Sp.body Try.func52 rfl Try.ntmps52 (by simp) ?_
  simp only [argE, List.cons_append, List.nil_append, Nat.zero_add, Nat.reduceAdd]
  repeat' (first|((first|refine vc_id ?_|(refine RT.id ?_;refine RT.c T ?_));(conv=>whnf);first|refine RT.id ?_|(refine⟨fun hc=>?_,fun hc=>?_⟩<;>first|(exfalso;omega)|skip)|(apply num_k;omega;omega)|(apply num_m;intro r hr)|(intro r hr))|(refine RT.id ?_;first|refine RT.nil ?_|(apply RT.ld T;exact rfl;(focus ((repeat constructor);done));iterate 4 exact rfl)|(apply RT.st T;(iterate 3 exact rfl);(focus ((repeat constructor);done));(focus repeat constructor);iterate 2 exact rfl)|((first|apply RT.box|apply RT.alloc T);(iterate 4 exact rfl);intro b)|((first|apply RT.pnil T|apply RT.pnnil T);iterate 6 exact rfl)|(refine RT.isPush ?_;refine RT.pushI T rfl rfl rfl (fun a' c'=>by ((repeat constructor);done)) (by omega) (by omega) rfl rfl rfl rfl (fun a' c' b' c1' hac=>?_))|refine RT.build T rfl rfl rfl rfl rfl ?_|(apply RT.lens T;iterate 4 exact rfl))|(refine RT.id ?_;first|(apply RT.staggW T;exact rfl;exact rfl;exact rfl;(focus ((repeat constructor);done));iterate 4 exact rfl)|(apply RT.ldagg T;exact rfl;(focus ((repeat constructor);done));iterate 4 exact rfl))|(refine AtQ.id_ ?_;first|refine nx ?_|refine A0 ?_|refine A9 ?_|refine AtQ.in_ne rfl ?_)|(refine CT.id_ ?_;first|refine nx ?_|refine CT.region ?_|refine CT.quiet mixed (by kernel_rfl) ?_|refine CT.cond_t rfl ?_|refine CT.cond_f rfl ?_))
  have hW0 : fldsL l d = flds l d (n + 1) ⟨0, n, 0, 0⟩ := by unfold fldsL; rw [hl]
  have hc0 : chk0 l d = chk l (n + 1) d ⟨0, n, 0, 0⟩ := by unfold chk0; rw [hl]
  generalize fldsL l d = W at *
  generalize chk0 l d = C at *
  have fin : ∀ (ws : List DR), ws.map DR.x = W.take ws.length → W.drop ws.length = [] → ws.map DR.x = W := fun ws h1 h2 => by
    rw [h1]
    exact List.take_of_length_le (by rw [List.drop_eq_nil_iff] at h2; exact h2)
  refine CT.loop (α := Nat × Nat × List DR × Option Addr × Nat) (fun x => [(0, sl8 a n c), (1, .int .i64 d), (7, .slice x.2.2.2.1 x.2.2.1.length x.2.2.2.2), (8, .int .i64 x.2.1)])
    (fun x => Pu (x.2.1 ≤ n ∧ n - x.2.1 < x.1 ∧ flds l d x.1 ⟨x.2.1, n, 0, 0⟩ = W.drop x.2.2.1.length ∧ x.2.2.1.map DR.x = W.take x.2.2.1.length ∧ chk l x.1 d ⟨x.2.1, n, 0, 0⟩ = C ∧ x.2.2.1.length ≤ x.2.2.2.2 ∧ x.2.2.1.length ≤ x.2.1) :: Own x.2.2.2.1 x.2.2.2.2 116 5 x.2.2.1.length (drC x.2.2.1) :: Bag (x.2.2.1.map DR.own) :: R) (fun x => x.1) (n + 1, 0, [], none, 0) ⟨rfl, rfl, rfl, rfl, trivial⟩
    (fun w h => Sat.pu_in ⟨Nat.zero_le _, by simp only; omega, hW0.symm, rfl, hc0.symm, Nat.le_refl _, Nat.le_refl _⟩ (Sat.nilOwn (Bag.nil_ h))) (fun x => CT.pu fun hx => ?_)
  obtain ⟨f, p, ws, ab, cb⟩ := x
  obtain ⟨x1, x2, x3, x4, x5, x6, x7⟩ := hx
  dsimp only at x1 x2 x3 x4 x5 x6 x7 ⊢
  have hfin := fin ws x4
  clear fin
  obtain ⟨f, rfl⟩ : ∃ g, f = g + 1 := ⟨f - 1, by omega⟩
  by_cases hp : p < n
  · have hok : RS.ok n ⟨p, n, 0, 0⟩ := ⟨x1, Nat.le_refl _, Nat.zero_le _⟩
    have hgo : (⟨p, n, 0, 0⟩ : RS).e = 0 ∧ (⟨p, n, 0, 0⟩ : RS).at_ < (⟨p, n, 0, 0⟩ : RS).en := ⟨rfl, hp⟩
    rw [chk_succ hgo] at x5
    obtain ⟨ton, tat⟩ := RS.tag_on hok hl hb
    have htr := RS.tag_range hb hok hl
    have ht5 := RS.tag_k5 (bs := l) (s := ⟨p, n, 0, 0⟩)
    have htw := RS.tag_wh (bs := l) (s := ⟨p, n, 0, 0⟩) rfl
    have htz := RS.tag_kp (bs := l) (s := ⟨p, n, 0, 0⟩)
    have ht1 := RS.tag_of hb hok hl
    have hfld : RS.fld l d ⟨p, n, 0, 0⟩ = (⟨(RS.tag l ⟨p, n, 0, 0⟩).1.1, (RS.tag l ⟨p, n, 0, 0⟩).1.2, p, ((RS.tag l ⟨p, n, 0, 0⟩).2.fval l (RS.tag l ⟨p, n, 0, 0⟩).1.1 (RS.tag l ⟨p, n, 0, 0⟩).1.2 d).1.1, ((RS.tag l ⟨p, n, 0, 0⟩).2.fval l (RS.tag l ⟨p, n, 0, 0⟩).1.1 (RS.tag l ⟨p, n, 0, 0⟩).1.2 d).1.2⟩,
      ((RS.tag l ⟨p, n, 0, 0⟩).2.fval l (RS.tag l ⟨p, n, 0, 0⟩).1.1 (RS.tag l ⟨p, n, 0, 0⟩).1.2 d).2) := rfl
    have hfg := flds_go (bs := l) (d := d) (f := f) hgo
    have hfb := flds_bad (bs := l) (d := d) (f := f + 1) (s := ⟨p, n, 0, 0⟩)
    repeat' (first|((first|refine vc_id ?_|(refine RT.id ?_;refine RT.c T ?_));(conv=>whnf);first|refine RT.id ?_|(refine⟨fun hc=>?_,fun hc=>?_⟩<;>first|(exfalso;omega)|skip)|(apply num_k;omega;omega)|(apply num_m;intro r hr)|(intro r hr))|(refine RT.id ?_;first|refine RT.nil ?_|(apply RT.ld T;exact rfl;(focus ((repeat constructor);done));iterate 4 exact rfl)|(apply RT.st T;(iterate 3 exact rfl);(focus ((repeat constructor);done));(focus repeat constructor);iterate 2 exact rfl)|((first|apply RT.box|apply RT.alloc T);(iterate 4 exact rfl);intro b)|((first|apply RT.pnil T|apply RT.pnnil T);iterate 6 exact rfl)|(refine RT.isPush ?_;refine RT.pushI T rfl rfl rfl (fun a' c'=>by ((repeat constructor);done)) (by omega) (by omega) rfl rfl rfl rfl (fun a' c' b' c1' hac=>?_))|refine RT.build T rfl rfl rfl rfl rfl ?_|(apply RT.lens T;iterate 4 exact rfl))|(refine RT.id ?_;first|(apply RT.staggW T;exact rfl;exact rfl;exact rfl;(focus ((repeat constructor);done));iterate 4 exact rfl)|(apply RT.ldagg T;exact rfl;(focus ((repeat constructor);done));iterate 4 exact rfl))|(refine AtQ.id_ ?_;first|refine nx ?_|refine A0 ?_|refine A9 ?_|refine AtQ.in_ne rfl ?_)|(refine CT.id_ ?_;first|refine nx ?_|refine CT.region ?_|refine CT.quiet mixed (by kernel_rfl) ?_|refine CT.cond_t rfl ?_|refine CT.cond_f rfl ?_))
    (refine RT.call T rfl (by (repeat (first|exact Fr.nil|(apply Fr.cons;focus ((repeat constructor);done))))) (dtag_fn (by repeat (first | exact (hR) | apply Rd.cons)) hb x1 (Nat.le_refl _) (by omega)) rfl rfl rfl ?_; rintro _ _ ⟨rfl, rfl⟩; try simp only [List.cons_append, List.nil_append])
    generalize RS.tag l ⟨p, n, 0, 0⟩ = tt at *
    obtain ⟨⟨tn, tk⟩, t⟩ := tt
    dsimp only at ton tat htr ht5 htw htz hfld x5 ⊢
    obtain ⟨r1, r2, r3, r4⟩ := htr
    have hfv : (t.fval l tn tk d).2.e ≠ 0 → ws.map DR.x = W := fun h => hfin (by rw [← x3]; exact hfb (by rw [hfld]; exact h))
    by_cases te : t.e = 0
    · have tat := tat te
      have htq := htz.eq te
      have ten := ton.2.1
      have tok := ton.1
      have tle := tok.1
      dsimp only at ten
      by_cases k4 : tk = 4
      · rw [if_pos ⟨te, k4⟩] at x5
        have hws := hfv (by unfold RS.fval; rw [if_neg (by omega), if_neg (by omega), if_neg (by omega), if_neg (by omega), if_neg (by omega)]; exact RS.wrong_e (by decide))
        repeat' (first|((first|refine vc_id ?_|(refine RT.id ?_;refine RT.c T ?_));(conv=>whnf);first|refine RT.id ?_|(refine⟨fun hc=>?_,fun hc=>?_⟩<;>first|(exfalso;omega)|skip)|(apply num_k;omega;omega)|(apply num_m;intro r hr)|(intro r hr))|(refine RT.id ?_;first|refine RT.nil ?_|(apply RT.ld T;exact rfl;(focus ((repeat constructor);done));iterate 4 exact rfl)|(apply RT.st T;(iterate 3 exact rfl);(focus ((repeat constructor);done));(focus repeat constructor);iterate 2 exact rfl)|((first|apply RT.box|apply RT.alloc T);(iterate 4 exact rfl);intro b)|((first|apply RT.pnil T|apply RT.pnnil T);iterate 6 exact rfl)|(refine RT.isPush ?_;refine RT.pushI T rfl rfl rfl (fun a' c'=>by ((repeat constructor);done)) (by omega) (by omega) rfl rfl rfl rfl (fun a' c' b' c1' hac=>?_))|refine RT.build T rfl rfl rfl rfl rfl ?_|(apply RT.lens T;iterate 4 exact rfl))|(refine RT.id ?_;first|(apply RT.staggW T;exact rfl;exact rfl;exact rfl;(focus ((repeat constructor);done));iterate 4 exact rfl)|(apply RT.ldagg T;exact rfl;(focus ((repeat constructor);done));iterate 4 exact rfl))|(refine AtQ.id_ ?_;first|refine nx ?_|refine A0 ?_|refine A9 ?_|refine AtQ.in_ne rfl ?_)|(refine CT.id_ ?_;first|refine nx ?_|refine CT.region ?_|refine CT.quiet mixed (by kernel_rfl) ?_|refine CT.cond_t rfl ?_|refine CT.cond_f rfl ?_))
        exact AtQ.fin3 (H' := [Own ab cb 116 5 ws.length (drC ws), Bag (ws.map DR.own)]) Try.results52 rfl rfl rfl ⟨ws, ab, cb, by rw [← x5], hws, x6, rfl⟩ (fun w h => h)
      · rw [if_neg (fun h => k4 h.2)] at x5
        obtain ⟨_, _, m', k', _, _, htg, hteq⟩ := ht1 te
        simp only [Prod.mk.injEq] at hteq
        obtain ⟨⟨rfl, rfl⟩, _⟩ := hteq
        obtain ⟨_, m1, m2, m3, m4⟩ := htg
        obtain ⟨v1, v2⟩ := fval_con (f := n - t.at_ + 1) (m := tn) (k := tk) (d := d) te tok hl hb ⟨m1, m2⟩ ⟨m3, m4, k4⟩ (by rw [ten])
        have hsk : (t.skip l tn tk d).2 = if (t.con l (n - t.at_ + 1) tn tk d).e = 0 then t.con l (n - t.at_ + 1) tn tk d else { t.con l (n - t.at_ + 1) tn tk d with at_ := t.at_ } := by
          have hbp := RS.bad1_pass (s := t) m1 m2 m4 k4
          unfold RS.skip RS.skip1
          rw [hbp, if_pos te, ten]
          split <;> rfl
        rw [hsk] at x5
        have hck := RS.con_kp (bs := l) (s := ⟨t.at_, n, 0, 0⟩) (f := n - t.at_ + 1) (num := tn) (k := tk) (d := d)
        have hco := RS.con_on (f := n - t.at_ + 1) (num := tn) (k := tk) (d := d) tok hl hb
        rw [te]
        repeat' (first|((first|refine vc_id ?_|(refine RT.id ?_;refine RT.c T ?_));(conv=>whnf);first|refine RT.id ?_|(refine⟨fun hc=>?_,fun hc=>?_⟩<;>first|(exfalso;omega)|skip)|(apply num_k;omega;omega)|(apply num_m;intro r hr)|(intro r hr))|(refine RT.id ?_;first|refine RT.nil ?_|(apply RT.ld T;exact rfl;(focus ((repeat constructor);done));iterate 4 exact rfl)|(apply RT.st T;(iterate 3 exact rfl);(focus ((repeat constructor);done));(focus repeat constructor);iterate 2 exact rfl)|((first|apply RT.box|apply RT.alloc T);(iterate 4 exact rfl);intro b)|((first|apply RT.pnil T|apply RT.pnnil T);iterate 6 exact rfl)|(refine RT.isPush ?_;refine RT.pushI T rfl rfl rfl (fun a' c'=>by ((repeat constructor);done)) (by omega) (by omega) rfl rfl rfl rfl (fun a' c' b' c1' hac=>?_))|refine RT.build T rfl rfl rfl rfl rfl ?_|(apply RT.lens T;iterate 4 exact rfl))|(refine RT.id ?_;first|(apply RT.staggW T;exact rfl;exact rfl;exact rfl;(focus ((repeat constructor);done));iterate 4 exact rfl)|(apply RT.ldagg T;exact rfl;(focus ((repeat constructor);done));iterate 4 exact rfl))|(refine AtQ.id_ ?_;first|refine nx ?_|refine A0 ?_|refine A9 ?_|refine AtQ.in_ne rfl ?_)|(refine CT.id_ ?_;first|refine nx ?_|refine CT.region ?_|refine CT.quiet mixed (by kernel_rfl) ?_|refine CT.cond_t rfl ?_|refine CT.cond_f rfl ?_))
        refine RT.call T rfl (by (repeat (first|exact Fr.nil|(apply Fr.cons;focus ((repeat constructor);done))))) ((dcon_fn (by repeat (first | exact (hR) | apply Rd.cons)) hb (by omega) (n - t.at_ + 1)) t.at_ n tn tk d (by omega) (Nat.le_refl _) (by omega) (by omega) (by omega) m3 m4 k4 hd0 hd1) rfl rfl rfl ?_
        rintro _ _ ⟨sp, rfl, hsp, rfl⟩
        simp only [List.nil_append]
        unfold conQ
        have hq2 := fun h => hck.eq h
        rw [← htq] at hsp hck hq2 ⊢
        generalize t.con l (n - t.at_ + 1) tn tk d = t2 at *
        by_cases t2e : t2.e = 0
        · rw [if_pos t2e] at x5
          simp only [if_pos t2e]
          obtain ⟨w1, w2, w3⟩ := v2 t2e
          have hq2 := hq2 t2e
          obtain ⟨⟨u1, u2, u3⟩, u4, u5, u6⟩ := hco
          rw [ten] at u4
          rw [w1] at hfld
          have hfg := hfg (by rw [hfld]; exact t2e)
          rw [x3, hfld] at hfg
          dsimp only at hfg w3
          generalize hfe : t.fval l tn tk d = fv at *
          obtain ⟨⟨fb, fd⟩, ft⟩ := fv
          dsimp only at hfg w3 w1
          replace w3 : Hid _ := w3
          clear v1 v2 hfb hsk htw htz ht1 hsp hfv hck hgo hfin hW0 hc0
          have hok2 : RS.ok n ⟨t.at_, t2.at_, 0, 0⟩ := ⟨w2, by show t2.at_ ≤ n; omega, Nat.zero_le _⟩
          repeat' (first|((first|refine vc_id ?_|(refine RT.id ?_;refine RT.c T ?_));(conv=>whnf);first|refine RT.id ?_|(refine⟨fun hc=>?_,fun hc=>?_⟩<;>first|(exfalso;omega)|skip)|(apply num_k;omega;omega)|(apply num_m;intro r hr)|(intro r hr))|(refine RT.id ?_;first|refine RT.nil ?_|(apply RT.ld T;exact rfl;(focus ((repeat constructor);done));iterate 4 exact rfl)|(apply RT.st T;(iterate 3 exact rfl);(focus ((repeat constructor);done));(focus repeat constructor);iterate 2 exact rfl)|((first|apply RT.box|apply RT.alloc T);(iterate 4 exact rfl);intro b)|((first|apply RT.pnil T|apply RT.pnnil T);iterate 6 exact rfl)|(refine RT.isPush ?_;refine RT.pushI T rfl rfl rfl (fun a' c'=>by ((repeat constructor);done)) (by omega) (by omega) rfl rfl rfl rfl (fun a' c' b' c1' hac=>?_))|refine RT.build T rfl rfl rfl rfl rfl ?_|(apply RT.lens T;iterate 4 exact rfl))|(refine RT.id ?_;first|(apply RT.staggW T;exact rfl;exact rfl;exact rfl;(focus ((repeat constructor);done));iterate 4 exact rfl)|(apply RT.ldagg T;exact rfl;(focus ((repeat constructor);done));iterate 4 exact rfl))|(refine AtQ.id_ ?_;first|refine nx ?_|refine A0 ?_|refine A9 ?_|refine AtQ.in_ne rfl ?_)|(refine CT.id_ ?_;first|refine CT.seqN 17 rfl ?_|refine CT.blockN 17 rfl ?_|refine CT.region ?_|refine CT.quiet mixed (by kernel_rfl) ?_|refine CT.cond_t rfl ?_|refine CT.cond_f rfl ?_|refine CT.skip ?_|refine CT.ret ?_|refine CT.exit ?_))
          generalize grp l (n - t.at_ + 1) tn d (RS.dep d t) = gg at *
          obtain ⟨b18, rfl⟩ : ∃ x, x = b := ⟨_, rfl⟩
          obtain ⟨b17, rfl⟩ : ∃ x, x = b := ⟨_, rfl⟩
          refine CT.cut (α := Option Addr × Nat) (fun z => [(0, sl8 a n c), (1, .int .i64 d), (7, .slice ab ws.length cb), (8, .int .i64 p), (14, .int .i64 t2.at_), (17, ptr b17)]) (fun z => Cs b17 116 (rawC ⟨tn, tk, p, fb, fd⟩ z.1 z.2) :: own8 z.1 z.2 fd fd.length :: Own ab cb 116 5 ws.length (drC ws) :: Bag (ws.map DR.own) :: R) ?_ (fun z => ?_)
          · (refine CT.env (E' := [(0, _), (1, _), (7, _), (8, _), (13, _), (14, _), (17, _), (18, _), (71, _)]) ⟨rfl, rfl, rfl, rfl, rfl, rfl, rfl, rfl, rfl, trivial⟩ ?_)
            refine CT.block ?_
            repeat' (first|((first|refine vc_id ?_|(refine RT.id ?_;refine RT.c T ?_));(conv=>whnf);first|refine RT.id ?_|(refine⟨fun hc=>?_,fun hc=>?_⟩<;>first|(exfalso;omega)|skip)|(apply num_k;omega;omega)|(apply num_m;intro r hr)|(intro r hr))|(refine RT.id ?_;first|refine RT.nil ?_|(apply RT.ld T;exact rfl;(focus ((repeat constructor);done));iterate 4 exact rfl)|(apply RT.st T;(iterate 3 exact rfl);(focus ((repeat constructor);done));(focus repeat constructor);iterate 2 exact rfl)|((first|apply RT.box|apply RT.alloc T);(iterate 4 exact rfl);intro b)|((first|apply RT.pnil T|apply RT.pnnil T);iterate 6 exact rfl)|(refine RT.isPush ?_;refine RT.pushI T rfl rfl rfl (fun a' c'=>by ((repeat constructor);done)) (by omega) (by omega) rfl rfl rfl rfl (fun a' c' b' c1' hac=>?_))|refine RT.build T rfl rfl rfl rfl rfl ?_|(apply RT.lens T;iterate 4 exact rfl))|(refine RT.id ?_;first|(apply RT.staggW T;exact rfl;exact rfl;exact rfl;(focus ((repeat constructor);done));iterate 4 exact rfl)|(apply RT.ldagg T;exact rfl;(focus ((repeat constructor);done));iterate 4 exact rfl))|(refine AtQ.id_ ?_;first|refine nx ?_|refine A0 ?_|refine A9 ?_|refine AtQ.in_ne rfl ?_)|(refine CT.id_ ?_;first|refine nx ?_|refine CT.region ?_|refine CT.quiet mixed (by kernel_rfl) ?_|refine CT.cond_t rfl ?_|refine CT.cond_f rfl ?_))
            · have hv := (show _ ∧ _ from w3).1 (by omega)
              simp only [Prod.mk.injEq] at hv
              obtain ⟨hv, hfd⟩ := hv
              subst hfd
              (refine RT.call T rfl (by (repeat (first|exact Fr.nil|(apply Fr.cons;focus ((repeat constructor);done))))) (dvarint_fn (bs := l) (fun _ => (by repeat (first | exact (hR) | apply Rd.cons))) hb (fun _ => hok2) (by omega)) rfl rfl rfl ?_; rintro _ _ ⟨rfl, rfl⟩; try simp only [List.cons_append, List.nil_append])
              rw [← hv]
              repeat' (first|((first|refine vc_id ?_|(refine RT.id ?_;refine RT.c T ?_));(conv=>whnf);first|refine RT.id ?_|(refine⟨fun hc=>?_,fun hc=>?_⟩<;>first|(exfalso;omega)|skip)|(apply num_k;omega;omega)|(apply num_m;intro r hr)|(intro r hr))|(refine RT.id ?_;first|refine RT.nil ?_|(apply RT.ld T;exact rfl;(focus ((repeat constructor);done));iterate 4 exact rfl)|(apply RT.st T;(iterate 3 exact rfl);(focus ((repeat constructor);done));(focus repeat constructor);iterate 2 exact rfl)|((first|apply RT.box|apply RT.alloc T);(iterate 4 exact rfl);intro b)|((first|apply RT.pnil T|apply RT.pnnil T);iterate 6 exact rfl)|(refine RT.isPush ?_;refine RT.pushI T rfl rfl rfl (fun a' c'=>by ((repeat constructor);done)) (by omega) (by omega) rfl rfl rfl rfl (fun a' c' b' c1' hac=>?_))|refine RT.build T rfl rfl rfl rfl rfl ?_|(apply RT.lens T;iterate 4 exact rfl))|(refine RT.id ?_;first|(apply RT.staggW T;exact rfl;exact rfl;exact rfl;(focus ((repeat constructor);done));iterate 4 exact rfl)|(apply RT.ldagg T;exact rfl;(focus ((repeat constructor);done));iterate 4 exact rfl))|(refine AtQ.id_ ?_;first|refine nx ?_|refine A0 ?_|refine A9 ?_|refine AtQ.in_ne rfl ?_)|(refine CT.id_ ?_;first|refine nx ?_|refine CT.region ?_|refine CT.quiet mixed (by kernel_rfl) ?_|refine CT.cond_t rfl ?_|refine CT.cond_f rfl ?_))
              exact AtQ.cut (none, 0) ⟨rfl, rfl, rfl, rfl, rfl, rfl, trivial⟩ (fun w h => (Sat.nilOwn h).frd (Ps := [Cs b17 116 (rawC ⟨tn, tk, p, fb, []⟩ none 0), own8 none 0 [] 0, Own ab cb 116 5 ws.length (drC ws), Bag (ws.map DR.own)]) (Qs := [_]) (by (repeat (first|exact Fr.nil|(apply Fr.cons;focus ((repeat constructor);done))))))
            · have hv := (show _ ∧ _ from w3).2.1 (by omega)
              simp only [Prod.mk.injEq] at hv
              obtain ⟨hv, hfd⟩ := hv
              subst hfd
              (refine RT.call T rfl (by (repeat (first|exact Fr.nil|(apply Fr.cons;focus ((repeat constructor);done))))) (dfixed_fn (w := 8) (bs := l) (fun _ => (by repeat (first | exact (hR) | apply Rd.cons))) hb (fun _ => hok2) (by omega) (.inr rfl)) rfl rfl rfl ?_; rintro _ _ ⟨rfl, rfl⟩; try simp only [List.cons_append, List.nil_append])
              rw [← hv]
              repeat' (first|((first|refine vc_id ?_|(refine RT.id ?_;refine RT.c T ?_));(conv=>whnf);first|refine RT.id ?_|(refine⟨fun hc=>?_,fun hc=>?_⟩<;>first|(exfalso;omega)|skip)|(apply num_k;omega;omega)|(apply num_m;intro r hr)|(intro r hr))|(refine RT.id ?_;first|refine RT.nil ?_|(apply RT.ld T;exact rfl;(focus ((repeat constructor);done));iterate 4 exact rfl)|(apply RT.st T;(iterate 3 exact rfl);(focus ((repeat constructor);done));(focus repeat constructor);iterate 2 exact rfl)|((first|apply RT.box|apply RT.alloc T);(iterate 4 exact rfl);intro b)|((first|apply RT.pnil T|apply RT.pnnil T);iterate 6 exact rfl)|(refine RT.isPush ?_;refine RT.pushI T rfl rfl rfl (fun a' c'=>by ((repeat constructor);done)) (by omega) (by omega) rfl rfl rfl rfl (fun a' c' b' c1' hac=>?_))|refine RT.build T rfl rfl rfl rfl rfl ?_|(apply RT.lens T;iterate 4 exact rfl))|(refine RT.id ?_;first|(apply RT.staggW T;exact rfl;exact rfl;exact rfl;(focus ((repeat constructor);done));iterate 4 exact rfl)|(apply RT.ldagg T;exact rfl;(focus ((repeat constructor);done));iterate 4 exact rfl))|(refine AtQ.id_ ?_;first|refine nx ?_|refine A0 ?_|refine A9 ?_|refine AtQ.in_ne rfl ?_)|(refine CT.id_ ?_;first|refine nx ?_|refine CT.region ?_|refine CT.quiet mixed (by kernel_rfl) ?_|refine CT.cond_t rfl ?_|refine CT.cond_f rfl ?_))
              exact AtQ.cut (none, 0) ⟨rfl, rfl, rfl, rfl, rfl, rfl, trivial⟩ (fun w h => (Sat.nilOwn h).frd (Ps := [Cs b17 116 (rawC ⟨tn, tk, p, fb, []⟩ none 0), own8 none 0 [] 0, Own ab cb 116 5 ws.length (drC ws), Bag (ws.map DR.own)]) (Qs := [_]) (by (repeat (first|exact Fr.nil|(apply Fr.cons;focus ((repeat constructor);done))))))
            · have hv := (show _ ∧ _ from w3).2.2.1 (by omega)
              simp only [Prod.mk.injEq] at hv
              obtain ⟨hv, hfd⟩ := hv
              subst hfd
              (refine RT.call T rfl (by (repeat (first|exact Fr.nil|(apply Fr.cons;focus ((repeat constructor);done))))) (dfixed_fn (w := 4) (bs := l) (fun _ => (by repeat (first | exact (hR) | apply Rd.cons))) hb (fun _ => hok2) (by omega) (.inl rfl)) rfl rfl rfl ?_; rintro _ _ ⟨rfl, rfl⟩; try simp only [List.cons_append, List.nil_append])
              rw [← hv]
              repeat' (first|((first|refine vc_id ?_|(refine RT.id ?_;refine RT.c T ?_));(conv=>whnf);first|refine RT.id ?_|(refine⟨fun hc=>?_,fun hc=>?_⟩<;>first|(exfalso;omega)|skip)|(apply num_k;omega;omega)|(apply num_m;intro r hr)|(intro r hr))|(refine RT.id ?_;first|refine RT.nil ?_|(apply RT.ld T;exact rfl;(focus ((repeat constructor);done));iterate 4 exact rfl)|(apply RT.st T;(iterate 3 exact rfl);(focus ((repeat constructor);done));(focus repeat constructor);iterate 2 exact rfl)|((first|apply RT.box|apply RT.alloc T);(iterate 4 exact rfl);intro b)|((first|apply RT.pnil T|apply RT.pnnil T);iterate 6 exact rfl)|(refine RT.isPush ?_;refine RT.pushI T rfl rfl rfl (fun a' c'=>by ((repeat constructor);done)) (by omega) (by omega) rfl rfl rfl rfl (fun a' c' b' c1' hac=>?_))|refine RT.build T rfl rfl rfl rfl rfl ?_|(apply RT.lens T;iterate 4 exact rfl))|(refine RT.id ?_;first|(apply RT.staggW T;exact rfl;exact rfl;exact rfl;(focus ((repeat constructor);done));iterate 4 exact rfl)|(apply RT.ldagg T;exact rfl;(focus ((repeat constructor);done));iterate 4 exact rfl))|(refine AtQ.id_ ?_;first|refine nx ?_|refine A0 ?_|refine A9 ?_|refine AtQ.in_ne rfl ?_)|(refine CT.id_ ?_;first|refine nx ?_|refine CT.region ?_|refine CT.quiet mixed (by kernel_rfl) ?_|refine CT.cond_t rfl ?_|refine CT.cond_f rfl ?_))
              exact AtQ.cut (none, 0) ⟨rfl, rfl, rfl, rfl, rfl, rfl, trivial⟩ (fun w h => (Sat.nilOwn h).frd (Ps := [Cs b17 116 (rawC ⟨tn, tk, p, fb, []⟩ none 0), own8 none 0 [] 0, Own ab cb 116 5 ws.length (drC ws), Bag (ws.map DR.own)]) (Qs := [_]) (by (repeat (first|exact Fr.nil|(apply Fr.cons;focus ((repeat constructor);done))))))
            · have hv := (show _ ∧ _ from w3).2.2.2.1 (by omega)
              simp only [Prod.mk.injEq] at hv
              obtain ⟨hv, hfd⟩ := hv
              refine RT.call T rfl (by (repeat (first|exact Fr.nil|(apply Fr.cons;focus ((repeat constructor);done))))) (dbytes_fn (bs := l) (fun _ => (by repeat (first | exact (hR) | apply Rd.cons))) hl hb (fun _ => hok2) (by omega)) rfl rfl rfl ?_
              rintro _ _ ⟨a5, c5, rfl, rfl⟩
              simp only [List.cons_append, List.nil_append]
              rw [← hfd, show (0 : Int) = fb from hv.symm]
              repeat' (first|((first|refine vc_id ?_|(refine RT.id ?_;refine RT.c T ?_));(conv=>whnf);first|refine RT.id ?_|(refine⟨fun hc=>?_,fun hc=>?_⟩<;>first|(exfalso;omega)|skip)|(apply num_k;omega;omega)|(apply num_m;intro r hr)|(intro r hr))|(refine RT.id ?_;first|refine RT.nil ?_|(apply RT.ld T;exact rfl;(focus ((repeat constructor);done));iterate 4 exact rfl)|(apply RT.st T;(iterate 3 exact rfl);(focus ((repeat constructor);done));(focus repeat constructor);iterate 2 exact rfl)|((first|apply RT.box|apply RT.alloc T);(iterate 4 exact rfl);intro b)|((first|apply RT.pnil T|apply RT.pnnil T);iterate 6 exact rfl)|(refine RT.isPush ?_;refine RT.pushI T rfl rfl rfl (fun a' c'=>by ((repeat constructor);done)) (by omega) (by omega) rfl rfl rfl rfl (fun a' c' b' c1' hac=>?_))|refine RT.build T rfl rfl rfl rfl rfl ?_|(apply RT.lens T;iterate 4 exact rfl))|(refine RT.id ?_;first|(apply RT.staggW T;exact rfl;exact rfl;exact rfl;(focus ((repeat constructor);done));iterate 4 exact rfl)|(apply RT.ldagg T;exact rfl;(focus ((repeat constructor);done));iterate 4 exact rfl))|(refine AtQ.id_ ?_;first|refine nx ?_|refine A0 ?_|refine A9 ?_|refine AtQ.in_ne rfl ?_)|(refine CT.id_ ?_;first|refine nx ?_|refine CT.region ?_|refine CT.quiet mixed (by kernel_rfl) ?_|refine CT.cond_t rfl ?_|refine CT.cond_f rfl ?_))
              exact AtQ.cut (a5, c5) ⟨rfl, rfl, rfl, rfl, rfl, rfl, trivial⟩ (fun w h => h.frd (Ps := [Cs b17 116 (rawC ⟨tn, tk, p, fb, fd⟩ a5 c5), own8 a5 c5 fd fd.length, Own ab cb 116 5 ws.length (drC ws), Bag (ws.map DR.own)]) (Qs := [_]) (by (repeat (first|exact Fr.nil|(apply Fr.cons;focus ((repeat constructor);done))))))
            · have hk3 : tk = 3 := by omega
              obtain ⟨hv, g1, g2⟩ := (show _ ∧ _ from w3).2.2.2.2 hk3
              simp only [Prod.mk.injEq] at hv
              obtain ⟨hv, hfd⟩ := hv
              rw [if_pos hk3]
              obtain ⟨gn, hgn⟩ := Int.eq_ofNat_of_zero_le (show 0 ≤ gg.1 by omega)
              rw [hgn] at hfd g1 g2 ⊢
              rw [Int.toNat_natCast] at hfd
              have hok3 : RS.ok n ⟨t.at_, gn, 0, 0⟩ := ⟨by show t.at_ ≤ gn; omega, by show gn ≤ n; omega, Nat.zero_le _⟩
              repeat' (first|((first|refine vc_id ?_|(refine RT.id ?_;refine RT.c T ?_));(conv=>whnf);first|refine RT.id ?_|(refine⟨fun hc=>?_,fun hc=>?_⟩<;>first|(exfalso;omega)|skip)|(apply num_k;omega;omega)|(apply num_m;intro r hr)|(intro r hr))|(refine RT.id ?_;first|refine RT.nil ?_|(apply RT.ld T;exact rfl;(focus ((repeat constructor);done));iterate 4 exact rfl)|(apply RT.st T;(iterate 3 exact rfl);(focus ((repeat constructor);done));(focus repeat constructor);iterate 2 exact rfl)|((first|apply RT.box|apply RT.alloc T);(iterate 4 exact rfl);intro b)|((first|apply RT.pnil T|apply RT.pnnil T);iterate 6 exact rfl)|(refine RT.isPush ?_;refine RT.pushI T rfl rfl rfl (fun a' c'=>by ((repeat constructor);done)) (by omega) (by omega) rfl rfl rfl rfl (fun a' c' b' c1' hac=>?_))|refine RT.build T rfl rfl rfl rfl rfl ?_|(apply RT.lens T;iterate 4 exact rfl))|(refine RT.id ?_;first|(apply RT.staggW T;exact rfl;exact rfl;exact rfl;(focus ((repeat constructor);done));iterate 4 exact rfl)|(apply RT.ldagg T;exact rfl;(focus ((repeat constructor);done));iterate 4 exact rfl))|(refine AtQ.id_ ?_;first|refine nx ?_|refine A0 ?_|refine A9 ?_|refine AtQ.in_ne rfl ?_)|(refine CT.id_ ?_;first|refine nx ?_|refine CT.region ?_|refine CT.quiet mixed (by kernel_rfl) ?_|refine CT.cond_t rfl ?_|refine CT.cond_f rfl ?_))
              refine RT.call T rfl (by (repeat (first|exact Fr.nil|(apply Fr.cons;focus ((repeat constructor);done))))) (drest_fn (bs := l) (s := ⟨t.at_, gn, 0, 0⟩) (fun _ => (by repeat (first | exact (hR) | apply Rd.cons))) (fun _ => hok3) (fun _ => by omega)) rfl rfl rfl ?_
              rintro _ _ ⟨a5, c5, rfl, rfl⟩
              simp only [List.cons_append, List.nil_append]
              rw [← hfd, show (0 : Int) = fb from hv.symm]
              repeat' (first|((first|refine vc_id ?_|(refine RT.id ?_;refine RT.c T ?_));(conv=>whnf);first|refine RT.id ?_|(refine⟨fun hc=>?_,fun hc=>?_⟩<;>first|(exfalso;omega)|skip)|(apply num_k;omega;omega)|(apply num_m;intro r hr)|(intro r hr))|(refine RT.id ?_;first|refine RT.nil ?_|(apply RT.ld T;exact rfl;(focus ((repeat constructor);done));iterate 4 exact rfl)|(apply RT.st T;(iterate 3 exact rfl);(focus ((repeat constructor);done));(focus repeat constructor);iterate 2 exact rfl)|((first|apply RT.box|apply RT.alloc T);(iterate 4 exact rfl);intro b)|((first|apply RT.pnil T|apply RT.pnnil T);iterate 6 exact rfl)|(refine RT.isPush ?_;refine RT.pushI T rfl rfl rfl (fun a' c'=>by ((repeat constructor);done)) (by omega) (by omega) rfl rfl rfl rfl (fun a' c' b' c1' hac=>?_))|refine RT.build T rfl rfl rfl rfl rfl ?_|(apply RT.lens T;iterate 4 exact rfl))|(refine RT.id ?_;first|(apply RT.staggW T;exact rfl;exact rfl;exact rfl;(focus ((repeat constructor);done));iterate 4 exact rfl)|(apply RT.ldagg T;exact rfl;(focus ((repeat constructor);done));iterate 4 exact rfl))|(refine AtQ.id_ ?_;first|refine nx ?_|refine A0 ?_|refine A9 ?_|refine AtQ.in_ne rfl ?_)|(refine CT.id_ ?_;first|refine nx ?_|refine CT.region ?_|refine CT.quiet mixed (by kernel_rfl) ?_|refine CT.cond_t rfl ?_|refine CT.cond_f rfl ?_))
              exact AtQ.cut (a5, c5) ⟨rfl, rfl, rfl, rfl, rfl, rfl, trivial⟩ (fun w h => h.frd (Ps := [Cs b17 116 (rawC ⟨tn, tk, p, fb, fd⟩ a5 c5), own8 a5 c5 fd fd.length, Own ab cb 116 5 ws.length (drC ws), Bag (ws.map DR.own)]) (Qs := [_]) (by (repeat (first|exact Fr.nil|(apply Fr.cons;focus ((repeat constructor);done))))))
          · obtain ⟨a5, c5⟩ := z
            have hlw : ws.length < W.length := by
              have := congrArg List.length hfg
              simp only [List.length_drop, List.length_cons] at this
              omega
            have hW1 : W.take (ws.length + 1) = W.take ws.length ++ [⟨tn, tk, p, fb, fd⟩] := by
              rw [List.take_add_one]
              have := congrArg (fun r => r[0]?) hfg
              simp only [List.getElem?_drop, Nat.add_zero, List.getElem?_cons_zero] at this
              rw [this]; rfl
            have hW2 : W.drop (ws.length + 1) = flds l d f t2 := by
              have := congrArg (List.drop 1) hfg
              simpa [List.drop_drop] using this
            repeat' (first|((first|refine vc_id ?_|(refine RT.id ?_;refine RT.c T ?_));(conv=>whnf);first|refine RT.id ?_|(refine⟨fun hc=>?_,fun hc=>?_⟩<;>first|(exfalso;omega)|skip)|(apply num_k;omega;omega)|(apply num_m;intro r hr)|(intro r hr))|(refine RT.id ?_;first|refine RT.nil ?_|(apply RT.ld T;exact rfl;(focus ((repeat constructor);done));iterate 4 exact rfl)|(apply RT.st T;(iterate 3 exact rfl);(focus ((repeat constructor);done));(focus repeat constructor);iterate 2 exact rfl)|((first|apply RT.box|apply RT.alloc T);(iterate 4 exact rfl);intro b)|((first|apply RT.pnil T|apply RT.pnnil T);iterate 6 exact rfl)|(refine RT.isPush ?_;refine RT.pushI T rfl rfl rfl (fun a' c'=>by ((repeat constructor);done)) (by omega) (by omega) rfl rfl rfl rfl (fun a' c' b' c1' hac=>?_))|refine RT.build T rfl rfl rfl rfl rfl ?_|(apply RT.lens T;iterate 4 exact rfl))|(refine RT.id ?_;first|(apply RT.staggW T;exact rfl;exact rfl;exact rfl;(focus ((repeat constructor);done));iterate 4 exact rfl)|(apply RT.ldagg T;exact rfl;(focus ((repeat constructor);done));iterate 4 exact rfl))|(refine AtQ.id_ ?_;first|refine nx ?_|refine A0 ?_|refine A9 ?_|refine AtQ.in_ne rfl ?_)|(refine CT.id_ ?_;first|refine nx ?_|refine CT.region ?_|refine CT.quiet mixed (by kernel_rfl) ?_|refine CT.cond_t rfl ?_|refine CT.cond_f rfl ?_))
            refine RT.pushG T (l := DR.cells ⟨⟨tn, tk, p, fb, fd⟩, a5, c5⟩) rfl rfl (fun u hu => List.all_eq_true.1 (show (DR.cells ⟨⟨tn, tk, p, fb, fd⟩, a5, c5⟩).all (fun u => u.oneCell') = true from rfl) u hu) rfl rfl (fun a' c' => by ((repeat constructor);done)) (by omega) (by omega) rfl rfl (by omega) rfl rfl (fun a6 c6 b6 d6 hac => ?_)
            repeat' (first|((first|refine vc_id ?_|(refine RT.id ?_;refine RT.c T ?_));(conv=>whnf);first|refine RT.id ?_|(refine⟨fun hc=>?_,fun hc=>?_⟩<;>first|(exfalso;omega)|skip)|(apply num_k;omega;omega)|(apply num_m;intro r hr)|(intro r hr))|(refine RT.id ?_;first|refine RT.nil ?_|(apply RT.ld T;exact rfl;(focus ((repeat constructor);done));iterate 4 exact rfl)|(apply RT.st T;(iterate 3 exact rfl);(focus ((repeat constructor);done));(focus repeat constructor);iterate 2 exact rfl)|((first|apply RT.box|apply RT.alloc T);(iterate 4 exact rfl);intro b)|((first|apply RT.pnil T|apply RT.pnnil T);iterate 6 exact rfl)|(refine RT.isPush ?_;refine RT.pushI T rfl rfl rfl (fun a' c'=>by ((repeat constructor);done)) (by omega) (by omega) rfl rfl rfl rfl (fun a' c' b' c1' hac=>?_))|refine RT.build T rfl rfl rfl rfl rfl ?_|(apply RT.lens T;iterate 4 exact rfl))|(refine RT.id ?_;first|(apply RT.staggW T;exact rfl;exact rfl;exact rfl;(focus ((repeat constructor);done));iterate 4 exact rfl)|(apply RT.ldagg T;exact rfl;(focus ((repeat constructor);done));iterate 4 exact rfl))|(refine AtQ.id_ ?_;first|refine nx ?_|refine A0 ?_|refine A9 ?_|refine AtQ.in_ne rfl ?_)|(refine CT.id_ ?_;first|refine nx ?_|refine CT.region ?_|refine CT.quiet mixed (by kernel_rfl) ?_|refine CT.cond_t rfl ?_|refine CT.cond_f rfl ?_))
            refine AtQ.loop (f, t2.at_, ws ++ [⟨⟨tn, tk, p, fb, fd⟩, a5, c5⟩], a6, c6) ⟨rfl, rfl, ?_, rfl, trivial⟩ (fun w h => Sat.pu_in ⟨by simp only; omega, by simp only; omega, ?_, ?_, ?_, ?_, ?_⟩ ?_) (by simp only; omega)
            · simp only [List.length_append, List.length_cons, List.length_nil]
              rfl
            · simp only [List.length_append, List.length_cons, List.length_nil]
              rw [hW2, ← hq2]
            · simp only [List.length_append, List.length_cons, List.length_nil, List.map_append, List.map_cons, List.map_nil]
              rw [hW1, x4]
            · simp only
              rw [← hq2]
              exact x5
            · simp only [List.length_append, List.length_cons, List.length_nil]
              exact hac
            · simp only [List.length_append, List.length_cons, List.length_nil]
              omega
            · simp only [List.length_append, List.length_cons, List.length_nil, List.map_append, List.map_cons, List.map_nil, drC, List.flatMap_append, List.flatMap_cons, List.flatMap_nil, List.append_nil]
              have h2 := h.frd (Ps := [DR.own ⟨⟨tn, tk, p, fb, fd⟩, a5, c5⟩, Bag (ws.map DR.own), Own a6 c6 116 5 (ws.length + 1) (drC ws ++ DR.cells ⟨⟨tn, tk, p, fb, fd⟩, a5, c5⟩)]) (Qs := [_]) (by (repeat (first|exact Fr.nil|(apply Fr.cons;focus ((repeat constructor);done)))))
              exact (Bag.push h2).frd (Ps := [Own a6 c6 116 5 (ws.length + 1) (drC ws ++ DR.cells ⟨⟨tn, tk, p, fb, fd⟩, a5, c5⟩), _]) (Qs := []) (by (repeat (first|exact Fr.nil|(apply Fr.cons;focus ((repeat constructor);done)))))
        · rw [if_neg t2e] at x5
          dsimp only at x5
          rw [chk_end (s := ⟨t.at_, t2.en, t2.e, t2.wh⟩) (fun h => t2e h.1)] at x5
          simp only [if_neg t2e] at x5 ⊢
          have hws := hfv (v1 t2e)
          have hsp := hsp t2e
          subst hsp
          repeat' (first|((first|refine vc_id ?_|(refine RT.id ?_;refine RT.c T ?_));(conv=>whnf);first|refine RT.id ?_|(refine⟨fun hc=>?_,fun hc=>?_⟩<;>first|(exfalso;omega)|skip)|(apply num_k;omega;omega)|(apply num_m;intro r hr)|(intro r hr))|(refine RT.id ?_;first|refine RT.nil ?_|(apply RT.ld T;exact rfl;(focus ((repeat constructor);done));iterate 4 exact rfl)|(apply RT.st T;(iterate 3 exact rfl);(focus ((repeat constructor);done));(focus repeat constructor);iterate 2 exact rfl)|((first|apply RT.box|apply RT.alloc T);(iterate 4 exact rfl);intro b)|((first|apply RT.pnil T|apply RT.pnnil T);iterate 6 exact rfl)|(refine RT.isPush ?_;refine RT.pushI T rfl rfl rfl (fun a' c'=>by ((repeat constructor);done)) (by omega) (by omega) rfl rfl rfl rfl (fun a' c' b' c1' hac=>?_))|refine RT.build T rfl rfl rfl rfl rfl ?_|(apply RT.lens T;iterate 4 exact rfl))|(refine RT.id ?_;first|(apply RT.staggW T;exact rfl;exact rfl;exact rfl;(focus ((repeat constructor);done));iterate 4 exact rfl)|(apply RT.ldagg T;exact rfl;(focus ((repeat constructor);done));iterate 4 exact rfl))|(refine AtQ.id_ ?_;first|refine nx ?_|refine A0 ?_|refine A9 ?_|refine AtQ.in_ne rfl ?_)|(refine CT.id_ ?_;first|refine nx ?_|refine CT.region ?_|refine CT.quiet mixed (by kernel_rfl) ?_|refine CT.cond_t rfl ?_|refine CT.cond_f rfl ?_))
          exact AtQ.fin3 (H' := [Own ab cb 116 5 ws.length (drC ws), Bag (ws.map DR.own)]) Try.results52 rfl rfl rfl ⟨ws, ab, cb, by rw [← x5], hws, x6, rfl⟩ (fun w h => h)
    · rw [if_neg (fun h => te h.1), RS.skip_bad te, chk_end (fun h => te h.1)] at x5
      obtain ⟨w1, w2⟩ := htw te
      simp only [if_neg te, w1] at x5
      have hws := hfv (fun h => te ((RS.fval_on' ton.1 hl hb).2.2.2 h))
      repeat' (first|((first|refine vc_id ?_|(refine RT.id ?_;refine RT.c T ?_));(conv=>whnf);first|refine RT.id ?_|(refine⟨fun hc=>?_,fun hc=>?_⟩<;>first|(exfalso;omega)|skip)|(apply num_k;omega;omega)|(apply num_m;intro r hr)|(intro r hr))|(refine RT.id ?_;first|refine RT.nil ?_|(apply RT.ld T;exact rfl;(focus ((repeat constructor);done));iterate 4 exact rfl)|(apply RT.st T;(iterate 3 exact rfl);(focus ((repeat constructor);done));(focus repeat constructor);iterate 2 exact rfl)|((first|apply RT.box|apply RT.alloc T);(iterate 4 exact rfl);intro b)|((first|apply RT.pnil T|apply RT.pnnil T);iterate 6 exact rfl)|(refine RT.isPush ?_;refine RT.pushI T rfl rfl rfl (fun a' c'=>by ((repeat constructor);done)) (by omega) (by omega) rfl rfl rfl rfl (fun a' c' b' c1' hac=>?_))|refine RT.build T rfl rfl rfl rfl rfl ?_|(apply RT.lens T;iterate 4 exact rfl))|(refine RT.id ?_;first|(apply RT.staggW T;exact rfl;exact rfl;exact rfl;(focus ((repeat constructor);done));iterate 4 exact rfl)|(apply RT.ldagg T;exact rfl;(focus ((repeat constructor);done));iterate 4 exact rfl))|(refine AtQ.id_ ?_;first|refine nx ?_|refine A0 ?_|refine A9 ?_|refine AtQ.in_ne rfl ?_)|(refine CT.id_ ?_;first|refine nx ?_|refine CT.region ?_|refine CT.quiet mixed (by kernel_rfl) ?_|refine CT.cond_t rfl ?_|refine CT.cond_f rfl ?_))
      exact AtQ.fin3 (H' := [Own ab cb 116 5 ws.length (drC ws), Bag (ws.map DR.own)]) Try.results52 rfl rfl rfl ⟨ws, ab, cb, by rw [← x5], hws, x6, rfl⟩ (fun w h => h)
  · rw [chk_end (by simp only; omega)] at x5
    have hws := hfin (by rw [← x3]; exact flds_end (by simp only; omega))
    repeat' (first|((first|refine vc_id ?_|(refine RT.id ?_;refine RT.c T ?_));(conv=>whnf);first|refine RT.id ?_|(refine⟨fun hc=>?_,fun hc=>?_⟩<;>first|(exfalso;omega)|skip)|(apply num_k;omega;omega)|(apply num_m;intro r hr)|(intro r hr))|(refine RT.id ?_;first|refine RT.nil ?_|(apply RT.ld T;exact rfl;(focus ((repeat constructor);done));iterate 4 exact rfl)|(apply RT.st T;(iterate 3 exact rfl);(focus ((repeat constructor);done));(focus repeat constructor);iterate 2 exact rfl)|((first|apply RT.box|apply RT.alloc T);(iterate 4 exact rfl);intro b)|((first|apply RT.pnil T|apply RT.pnnil T);iterate 6 exact rfl)|(refine RT.isPush ?_;refine RT.pushI T rfl rfl rfl (fun a' c'=>by ((repeat constructor);done)) (by omega) (by omega) rfl rfl rfl rfl (fun a' c' b' c1' hac=>?_))|refine RT.build T rfl rfl rfl rfl rfl ?_|(apply RT.lens T;iterate 4 exact rfl))|(refine RT.id ?_;first|(apply RT.staggW T;exact rfl;exact rfl;exact rfl;(focus ((repeat constructor);done));iterate 4 exact rfl)|(apply RT.ldagg T;exact rfl;(focus ((repeat constructor);done));iterate 4 exact rfl))|(refine AtQ.id_ ?_;first|refine nx ?_|refine A0 ?_|refine A9 ?_|refine AtQ.in_ne rfl ?_)|(refine CT.id_ ?_;first|refine nx ?_|refine CT.region ?_|refine CT.quiet mixed (by kernel_rfl) ?_|refine CT.cond_t rfl ?_|refine CT.cond_f rfl ?_))
    exact AtQ.fin3 (H' := [Own ab cb 116 5 ws.length (drC ws), Bag (ws.map DR.own)]) Try.results52 rfl rfl rfl ⟨ws, ab, cb, by rw [← x5]; rfl, hws, x6, rfl⟩ (fun w h => h)
end Go.Proofs.Ytldfbjcicbfidaa
