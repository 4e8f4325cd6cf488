/- Merged: Y5, E1, Y6, Y7, Y8, Y8b, T3, T4, T5. -/
import Derived.Test.YtclcnhfponjdaaaGreatDoorWA
import Derived.Test.YtclcnhfponjdaaaGreatDoorSkB
import Derived.Test.YtclcnhfponjdaaaGreatDoorSkA
set_option linter.unusedVariables false
set_option linter.unusedSimpArgs false
section
namespace Go.Proofs.YtclcnhfponjdaaaGreatDoor
open Go.Sk
set_option maxRecDepth 100000
/-- A record's reader: what it reads, what it gives up by. -/
def RdrC {α : Type} (B : World) (R : List HP) (fr : FuncId) (sl : Value) (dd : Int) (a : Option Addr) (n c : Nat) (cells : α → List Value) (er : α → α) (ow : α → List HP) (rdp : Nat → Nat → Except Nat α) : Prop :=
 ∀ R', (∀ a k c z l, Rd B R a k c z l → Rd B R' a k c z l) → ∀ p' q t, q ≤ t → t ≤ n → SpP B Tryz.prog fr [sl, ptr p', .int .i64 dd] R' [rdo p' a n c q t] (fun v H' => ∃ x, rdp q t = .ok (er x) ∧ v = .agg (cells x).toArray ∧ H' = [Bag (ow x)]) (fun v H' => ∃ pl, rdp q t = .error pl ∧ v = wrv pl ∧ H' = [])
/-- What a field that is records gives up by. -/
abbrev PPS {α : Type} (bs : Txt) (p to : Nat) (dd at_ : Int) (rdp : Nat → Nat → Except Nat α) : Value → List HP → Prop := fun v H' => ∃ pl : Int, v = wrv pl ∧ H' = [] ∧ (pl = at_ ∧ (contL .rs bs p to = none ∨ 100 < dd) ∨ ∃ m q t pl', contL .rs bs p to = some (m, q, t) ∧ ¬ 100 < dd ∧ rdp q t = .error pl' ∧ pl = pl')
theorem Bag.join {B : World} {R : List HP} {w : World} {α : Type} {ow : α → List HP} {l : List α} {x : α} (s : Sat B (Bag (ow x) :: Bag (l.flatMap ow) :: R) w) : Sat B (Bag ((l ++ [x]).flatMap ow) :: R) w := by
 rw [List.flatMap_append, List.flatMap_cons, List.flatMap_nil, List.append_nil]
 exact Bag.add (Bag.open_ s)
attribute [local irreducible] Cs Own Ex Pu Yld RT LJ QJ AtQ CT Rd QSp Sp FinQ Then LoopQ CutQ DT TakeQ EffQ
variable {B : World} {R : List HP} {pd pr px bo off n c p to : Nat} {a : Option Addr} {at_ deep : Int} {bs : Txt} {g : FuncId} {gb : Bool} {xs : List Value}
attribute [local irreducible] Bag

set_option maxHeartbeats 4000000 in
theorem some_EnumDef_EnumValue_get {bd bl tp kk sn sc : Nat} {sa : Option Addr} {dpr : Int} {fms : List Value} (hD : Rd B R (some ⟨pd, 0, none⟩) 1 1 3 [ptr pr, .int .i64 at_, .int .i64 deep]) (hR : Rd B R a n c 1 (ints .u8 bs)) (hb : Bytes bs) (h1 : p ≤ to) (h2 : to ≤ n) (h3 : n ≤ 16777216) (ho : Rd B R (some ⟨bo, 0, none⟩) 1 1 1 [.func (.func g) #[] #[]]) (hg : al T.funs g = some gb) (hof : ∀ R, Sp B Tryz.prog g [ptr px] R [] (fun v H' => v = .pointer (some ⟨px, off, none⟩) ∧ H' = [])) (hbd : Rd B R (some ⟨bd, 0, none⟩) 1 1 1 [.int .i64 dpr]) (hbl : Rd B R (some ⟨bl, 0, none⟩) 1 1 1 [.pointer (some ⟨tp, kk, none⟩)]) (hfm : Rd B R (some ⟨tp, 0, none⟩) 1 1 8 fms) (hfk : fms[kk]? = some (.slice sa sn sc)) (hd0 : 0 ≤ deep) (hd1 : deep ≤ 1000) (hd2 : 0 ≤ dpr) (hd3 : dpr ≤ 1) {ar : Option Addr} {cr : Nat} {l : List EValT} (hu : xs[off]? = some (.slice ar l.length cr)) (hll : l.length ≤ 16777216) {er : EValT → EValT} {ow : EValT → List HP} {rdp : Nat → Nat → Except Nat EValT} (hrd : deep + dpr ≤ 100 → RdrC B R 196 (.slice sa sn sc) (deep + dpr) a n c EValT.cells er ow rdp) :
  SpP B Tryz.prog 194 [ptr pd, ptr px, ptr bd, ptr bo, ptr bl] R [Cs px 85 xs, Own ar cr 80 2 l.length (l.flatMap EValT.cells), Bag (l.flatMap ow), rdo pr a n c p to] (fun _ H' => ∃ m q t a' c' x, contL .rs bs p to = some (m, q, t) ∧ ¬ 100 < deep + dpr ∧ rdp q t = .ok (er x) ∧ t ≤ to ∧ q ≤ t ∧ p < q ∧ H' = [Cs px 85 (xs.set off (.slice a' (l.length + 1) c')), Own a' c' 80 2 (l.length + 1) ((l ++ [x]).flatMap EValT.cells), Bag ((l ++ [x]).flatMap ow), rdo pr a n c t to]) (PPS bs p to (deep + dpr) at_ rdp) := by
 have hx : off < xs.length := (List.getElem?_eq_some_iff.1 hu).1
 refine SpP.body Tryz.func194 rfl Tryz.ntmps194 (by simp) ?_
 simp only [argE, List.cons_append, List.nil_append, Nat.zero_add, Nat.reduceAdd]
 try refine gL ?_
 refine RT.callP T rfl fR_ (ipart_fn (rD (hD)) (rD (hR)) hb h1 h2 h3) rfl rfl rfl (fun v H1 hp => ?_) (fun v H1 hp => ?_)
 ·obtain ⟨hn, rfl, rfl⟩ := hp
  ((repeat refine nx ?_); exact AtQ.finP (H' := []) ⟨_, rfl, rfl, .inl ⟨rfl, .inl hn⟩⟩ dR_)
 obtain ⟨p', m, q, t, hc1, hq1, hq2, hq3, rfl, rfl⟩ := hp
 simp only [List.cons_append, List.nil_append]
 try refine gQ ?_
 refine CT.drawnP (Cs px 85 xs :: R) 8 mixed ?_
 refine DTP.tk (k := 1) [0, 1, 2, 3, 4, 5, 6, 7] [8] ?_
 try refine gL ?_
 refine RT.ldB T rfl (rD (hD)) rfl rfl rfl rfl ?_
 skip
 refine RT.ldB T rfl (rD (hbd)) rfl rfl rfl rfl ?_
 repeat' (first|refine gL ?_|(refine gv ?_;first|(refine⟨fun hc=>?_,fun hc=>?_⟩<;>first|(exfalso;omega)|skip)|refine gk ?_)|fail)
 rotate_left
 ·refine AtQ.takeP ?_
  refine DTP.ef 8 ?_
  (refine RT.callP T rfl fR_ (need_f (rD (hD))) rfl rfl rfl (fun v H1 hp => ?_) (fun v H1 hp => ?_))
  ·obtain ⟨rfl, rfl⟩ := hp
   ((repeat refine nx ?_); exact AtQ.finP (H' := []) ⟨_, rfl, rfl, .inl ⟨rfl, .inr (by omega)⟩⟩ dR_)
  ·exact hp.elim
 refine AtQ.takeP ?_
 refine DTP.ef 8 ?_
 (refine RT.call T rfl fR_ (need_t) rfl rfl rfl ?_; rintro _ _ ⟨rfl, rfl⟩; try simp only [List.cons_append, List.nil_append])
 try refine gL ?_
 refine AtQ.eq ?_
 refine DTP.dn ?_
 try refine gQ ?_
 refine CT.drawnP (Cs px 85 xs :: R) 20 mixed ?_
 refine DTP.tk (k := 9) [0, 1, 3, 4, 8, 9, 10, 11, 12, 13, 14, 15, 16, 17] [2, 5, 6, 7, 18, 19, 20] ?_
 refine RT.ldB T rfl (rD (ho)) rfl rfl rfl rfl ?_
 try refine gL ?_
 refine RT.ldB T rfl (rD (ho)) rfl rfl rfl rfl ?_
 try refine gL ?_
 refine RT.ldB T rfl (rD (hbl)) rfl rfl rfl rfl ?_
 try refine gL ?_
 refine RT.ldB T rfl (rD (hfm)) hfk rfl rfl rfl ?_
 try refine gL ?_
 refine RT.ldB T rfl (rD (hD)) rfl rfl rfl rfl ?_
 skip
 refine RT.ldB T rfl (rD (hbd)) rfl rfl rfl rfl ?_
 repeat' (first|refine gL ?_|(refine gv ?_;refine gk ?_)|fail)
 refine AtQ.takeP ?_
 refine DTP.ef 2 ?_
 refine RT.callC T (caps := []) rfl rfl fR_ (hof _) hg rfl rfl ?_
 rintro _ _ ⟨rfl, rfl⟩
 simp only [List.nil_append]
 try refine gL ?_
 refine AtQ.ep ?_
 refine DTP.ef 5 ?_
 refine RT.callC T (caps := []) rfl rfl fR_ (hof _) hg rfl rfl ?_
 rintro _ _ ⟨rfl, rfl⟩
 simp only [List.nil_append]
 try refine gL ?_
 refine AtQ.ep ?_
 refine DTP.tk (k := 5) [6, 7] [18, 19, 20] ?_
 refine RT.nilG rfl rfl rfl ?_
 refine RT.ldB T rfl (Cs.rd .h) hu rfl rfl rfl ?_
 try refine gL ?_
 refine AtQ.takeP ?_
 refine DTP.ef 18 ?_
 refine RT.callP T rfl fR_ (hrd (by omega) _ (fun _ _ _ _ _ h => (rD (h))) p' q t hq2 (by omega)) rfl rfl rfl (fun v H1 hp => ?_) (fun v H1 hp => ?_)
 ·obtain ⟨pl, he, rfl, rfl⟩ := hp
  ((repeat refine nx ?_); exact AtQ.finP (H' := []) ⟨_, rfl, rfl, .inr ⟨m, q, t, pl, hc1, by omega, he, rfl⟩⟩ dR_)
 obtain ⟨x, he, rfl, rfl⟩ := hp
 simp only [List.cons_append, List.nil_append]
 try refine gL ?_
 refine AtQ.ep ?_
 refine DTP.ef 19 ?_
 refine RT.bsA T (l := EValT.cells x) rfl rfl rfl rfl rfl rfl rfl rfl (fun a9 => ?_)
 try refine gL ?_
 refine AtQ.ep ?_
 refine DTP.ef 20 ?_
 refine RT.app T (xs := l.flatMap EValT.cells) (ys := EValT.cells x) rfl rfl rfl (fun a' c' => by ((repeat constructor);done)) (Own.rd sE_ rfl (Nat.le_refl _)) (one_ev _) (by omega) (by omega) rfl rfl rfl rfl (fun a' c' hac => ?_)
 try refine gL ?_
 refine AtQ.eq ?_
 refine DTP.ef 21 ?_
 refine RT.nilG rfl rfl rfl ?_
 try refine gL ?_
 refine AtQ.eq ?_
 refine DTP.ef 22 ?_
 refine RT.st T rfl rfl rfl (by ((repeat constructor);done)) (setN_set hx) rfl rfl ?_
 try refine gL ?_
 refine AtQ.eq ?_
 refine DTP.dn ?_
 skip
 refine AtQ.ofFinN (AtQ.fin0 (H' := [Cs px 85 (xs.set off (.slice a' (l.length + 1) c')), Own a' c' 80 2 (l.length + 1) ((l ++ [x]).flatMap EValT.cells), Bag ((l ++ [x]).flatMap ow), rdo pr a n c t to]) Tryz.results194 ?_ (fun w h => ?_) _ (by first | exact .inl rfl | exact .inr rfl))
 ·exact ⟨m, q, t, a', c', x, hc1, by omega, he, hq1, hq2, hq3, rfl⟩
 ·rw [flat_app] at h
  have h2 := h.frd (Ps := [Bag (ow x), Bag (l.flatMap ow), Cs px 85 (xs.set off (.slice a' (l.length + 1) c')), Own a' c' 80 2 (l.length + 1) ((l ++ [x]).flatMap EValT.cells), rdo pr a n c t to]) (Qs := [_]) fR_
  exact (Bag.join h2).frd (Ps := [_, _, _, _]) (Qs := []) fR_
set_option maxHeartbeats 4000000 in
theorem some_EnumDef_Span_get {bd bl tp kk sn sc : Nat} {sa : Option Addr} {dpr : Int} {fms : List Value} (hD : Rd B R (some ⟨pd, 0, none⟩) 1 1 3 [ptr pr, .int .i64 at_, .int .i64 deep]) (hR : Rd B R a n c 1 (ints .u8 bs)) (hb : Bytes bs) (h1 : p ≤ to) (h2 : to ≤ n) (h3 : n ≤ 16777216) (ho : Rd B R (some ⟨bo, 0, none⟩) 1 1 1 [.func (.func g) #[] #[]]) (hg : al T.funs g = some gb) (hof : ∀ R, Sp B Tryz.prog g [ptr px] R [] (fun v H' => v = .pointer (some ⟨px, off, none⟩) ∧ H' = [])) (hbd : Rd B R (some ⟨bd, 0, none⟩) 1 1 1 [.int .i64 dpr]) (hbl : Rd B R (some ⟨bl, 0, none⟩) 1 1 1 [.pointer (some ⟨tp, kk, none⟩)]) (hfm : Rd B R (some ⟨tp, 0, none⟩) 1 1 8 fms) (hfk : fms[kk]? = some (.slice sa sn sc)) (hd0 : 0 ≤ deep) (hd1 : deep ≤ 1000) (hd2 : 0 ≤ dpr) (hd3 : dpr ≤ 1) {ar : Option Addr} {cr : Nat} {l : List SpanT} (hu : xs[off]? = some (.slice ar l.length cr)) (hll : l.length ≤ 16777216) {er : SpanT → SpanT} {ow : SpanT → List HP} {rdp : Nat → Nat → Except Nat SpanT} (hrd : deep + dpr ≤ 100 → RdrC B R 202 (.slice sa sn sc) (deep + dpr) a n c SpanT.cells er ow rdp) :
  SpP B Tryz.prog 201 [ptr pd, ptr px, ptr bd, ptr bo, ptr bl] R [Cs px 85 xs, Own ar cr 196 2 l.length (l.flatMap SpanT.cells), Bag (l.flatMap ow), rdo pr a n c p to] (fun _ H' => ∃ m q t a' c' x, contL .rs bs p to = some (m, q, t) ∧ ¬ 100 < deep + dpr ∧ rdp q t = .ok (er x) ∧ t ≤ to ∧ q ≤ t ∧ p < q ∧ H' = [Cs px 85 (xs.set off (.slice a' (l.length + 1) c')), Own a' c' 196 2 (l.length + 1) ((l ++ [x]).flatMap SpanT.cells), Bag ((l ++ [x]).flatMap ow), rdo pr a n c t to]) (PPS bs p to (deep + dpr) at_ rdp) := by
 have hx : off < xs.length := (List.getElem?_eq_some_iff.1 hu).1
 refine SpP.body Tryz.func201 rfl Tryz.ntmps201 (by simp) ?_
 simp only [argE, List.cons_append, List.nil_append, Nat.zero_add, Nat.reduceAdd]
 try refine gL ?_
 refine RT.callP T rfl fR_ (ipart_fn (rD (hD)) (rD (hR)) hb h1 h2 h3) rfl rfl rfl (fun v H1 hp => ?_) (fun v H1 hp => ?_)
 ·obtain ⟨hn, rfl, rfl⟩ := hp
  ((repeat refine nx ?_); exact AtQ.finP (H' := []) ⟨_, rfl, rfl, .inl ⟨rfl, .inl hn⟩⟩ dR_)
 obtain ⟨p', m, q, t, hc1, hq1, hq2, hq3, rfl, rfl⟩ := hp
 simp only [List.cons_append, List.nil_append]
 try refine gQ ?_
 refine CT.drawnP (Cs px 85 xs :: R) 8 mixed ?_
 refine DTP.tk (k := 1) [0, 1, 2, 3, 4, 5, 6, 7] [8] ?_
 try refine gL ?_
 refine RT.ldB T rfl (rD (hD)) rfl rfl rfl rfl ?_
 skip
 refine RT.ldB T rfl (rD (hbd)) rfl rfl rfl rfl ?_
 repeat' (first|refine gL ?_|(refine gv ?_;first|(refine⟨fun hc=>?_,fun hc=>?_⟩<;>first|(exfalso;omega)|skip)|refine gk ?_)|fail)
 rotate_left
 ·refine AtQ.takeP ?_
  refine DTP.ef 8 ?_
  (refine RT.callP T rfl fR_ (need_f (rD (hD))) rfl rfl rfl (fun v H1 hp => ?_) (fun v H1 hp => ?_))
  ·obtain ⟨rfl, rfl⟩ := hp
   ((repeat refine nx ?_); exact AtQ.finP (H' := []) ⟨_, rfl, rfl, .inl ⟨rfl, .inr (by omega)⟩⟩ dR_)
  ·exact hp.elim
 refine AtQ.takeP ?_
 refine DTP.ef 8 ?_
 (refine RT.call T rfl fR_ (need_t) rfl rfl rfl ?_; rintro _ _ ⟨rfl, rfl⟩; try simp only [List.cons_append, List.nil_append])
 try refine gL ?_
 refine AtQ.eq ?_
 refine DTP.dn ?_
 try refine gQ ?_
 refine CT.drawnP (Cs px 85 xs :: R) 20 mixed ?_
 refine DTP.tk (k := 9) [0, 1, 3, 4, 8, 9, 10, 11, 12, 13, 14, 15, 16, 17] [2, 5, 6, 7, 18, 19, 20] ?_
 refine RT.ldB T rfl (rD (ho)) rfl rfl rfl rfl ?_
 try refine gL ?_
 refine RT.ldB T rfl (rD (ho)) rfl rfl rfl rfl ?_
 try refine gL ?_
 refine RT.ldB T rfl (rD (hbl)) rfl rfl rfl rfl ?_
 try refine gL ?_
 refine RT.ldB T rfl (rD (hfm)) hfk rfl rfl rfl ?_
 try refine gL ?_
 refine RT.ldB T rfl (rD (hD)) rfl rfl rfl rfl ?_
 skip
 refine RT.ldB T rfl (rD (hbd)) rfl rfl rfl rfl ?_
 repeat' (first|refine gL ?_|(refine gv ?_;refine gk ?_)|fail)
 refine AtQ.takeP ?_
 refine DTP.ef 2 ?_
 refine RT.callC T (caps := []) rfl rfl fR_ (hof _) hg rfl rfl ?_
 rintro _ _ ⟨rfl, rfl⟩
 simp only [List.nil_append]
 try refine gL ?_
 refine AtQ.ep ?_
 refine DTP.ef 5 ?_
 refine RT.callC T (caps := []) rfl rfl fR_ (hof _) hg rfl rfl ?_
 rintro _ _ ⟨rfl, rfl⟩
 simp only [List.nil_append]
 try refine gL ?_
 refine AtQ.ep ?_
 refine DTP.tk (k := 5) [6, 7] [18, 19, 20] ?_
 refine RT.nilG rfl rfl rfl ?_
 refine RT.ldB T rfl (Cs.rd .h) hu rfl rfl rfl ?_
 try refine gL ?_
 refine AtQ.takeP ?_
 refine DTP.ef 18 ?_
 refine RT.callP T rfl fR_ (hrd (by omega) _ (fun _ _ _ _ _ h => (rD (h))) p' q t hq2 (by omega)) rfl rfl rfl (fun v H1 hp => ?_) (fun v H1 hp => ?_)
 ·obtain ⟨pl, he, rfl, rfl⟩ := hp
  ((repeat refine nx ?_); exact AtQ.finP (H' := []) ⟨_, rfl, rfl, .inr ⟨m, q, t, pl, hc1, by omega, he, rfl⟩⟩ dR_)
 obtain ⟨x, he, rfl, rfl⟩ := hp
 simp only [List.cons_append, List.nil_append]
 try refine gL ?_
 refine AtQ.ep ?_
 refine DTP.ef 19 ?_
 refine RT.bsA T (l := SpanT.cells x) rfl rfl rfl rfl rfl rfl rfl rfl (fun a9 => ?_)
 try refine gL ?_
 refine AtQ.ep ?_
 refine DTP.ef 20 ?_
 refine RT.app T (xs := l.flatMap SpanT.cells) (ys := SpanT.cells x) rfl rfl rfl (fun a' c' => by ((repeat constructor);done)) (Own.rd sE_ rfl (Nat.le_refl _)) (one_sp _) (by omega) (by omega) rfl rfl rfl rfl (fun a' c' hac => ?_)
 try refine gL ?_
 refine AtQ.eq ?_
 refine DTP.ef 21 ?_
 refine RT.nilG rfl rfl rfl ?_
 try refine gL ?_
 refine AtQ.eq ?_
 refine DTP.ef 22 ?_
 refine RT.st T rfl rfl rfl (by ((repeat constructor);done)) (setN_set hx) rfl rfl ?_
 try refine gL ?_
 refine AtQ.eq ?_
 refine DTP.dn ?_
 skip
 refine AtQ.ofFinN (AtQ.fin0 (H' := [Cs px 85 (xs.set off (.slice a' (l.length + 1) c')), Own a' c' 196 2 (l.length + 1) ((l ++ [x]).flatMap SpanT.cells), Bag ((l ++ [x]).flatMap ow), rdo pr a n c t to]) Tryz.results201 ?_ (fun w h => ?_) _ (by first | exact .inl rfl | exact .inr rfl))
 ·exact ⟨m, q, t, a', c', x, hc1, by omega, he, hq1, hq2, hq3, rfl⟩
 ·rw [flat_app] at h
  have h2 := h.frd (Ps := [Bag (ow x), Bag (l.flatMap ow), Cs px 85 (xs.set off (.slice a' (l.length + 1) c')), Own a' c' 196 2 (l.length + 1) ((l ++ [x]).flatMap SpanT.cells), rdo pr a n c t to]) (Qs := [_]) fR_
  exact (Bag.join h2).frd (Ps := [_, _, _, _]) (Qs := []) fR_
set_option maxHeartbeats 4000000 in
theorem some_MessageDef_FieldDef_get {bd bl tp kk sn sc : Nat} {sa : Option Addr} {dpr : Int} {fms : List Value} (hD : Rd B R (some ⟨pd, 0, none⟩) 1 1 3 [ptr pr, .int .i64 at_, .int .i64 deep]) (hR : Rd B R a n c 1 (ints .u8 bs)) (hb : Bytes bs) (h1 : p ≤ to) (h2 : to ≤ n) (h3 : n ≤ 16777216) (ho : Rd B R (some ⟨bo, 0, none⟩) 1 1 1 [.func (.func g) #[] #[]]) (hg : al T.funs g = some gb) (hof : ∀ R, Sp B Tryz.prog g [ptr px] R [] (fun v H' => v = .pointer (some ⟨px, off, none⟩) ∧ H' = [])) (hbd : Rd B R (some ⟨bd, 0, none⟩) 1 1 1 [.int .i64 dpr]) (hbl : Rd B R (some ⟨bl, 0, none⟩) 1 1 1 [.pointer (some ⟨tp, kk, none⟩)]) (hfm : Rd B R (some ⟨tp, 0, none⟩) 1 1 8 fms) (hfk : fms[kk]? = some (.slice sa sn sc)) (hd0 : 0 ≤ deep) (hd1 : deep ≤ 1000) (hd2 : 0 ≤ dpr) (hd3 : dpr ≤ 1) {ar : Option Addr} {cr : Nat} {l : List FieldT} (hu : xs[off]? = some (.slice ar l.length cr)) (hll : l.length ≤ 16777216) {er : FieldT → FieldT} {ow : FieldT → List HP} {rdp : Nat → Nat → Except Nat FieldT} (hrd : deep + dpr ≤ 100 → RdrC B R 222 (.slice sa sn sc) (deep + dpr) a n c FieldT.cells er ow rdp) :
  SpP B Tryz.prog 221 [ptr pd, ptr px, ptr bd, ptr bo, ptr bl] R [Cs px 187 xs, Own ar cr 240 9 l.length (l.flatMap FieldT.cells), Bag (l.flatMap ow), rdo pr a n c p to] (fun _ H' => ∃ m q t a' c' x, contL .rs bs p to = some (m, q, t) ∧ ¬ 100 < deep + dpr ∧ rdp q t = .ok (er x) ∧ t ≤ to ∧ q ≤ t ∧ p < q ∧ H' = [Cs px 187 (xs.set off (.slice a' (l.length + 1) c')), Own a' c' 240 9 (l.length + 1) ((l ++ [x]).flatMap FieldT.cells), Bag ((l ++ [x]).flatMap ow), rdo pr a n c t to]) (PPS bs p to (deep + dpr) at_ rdp) := by
 have hx : off < xs.length := (List.getElem?_eq_some_iff.1 hu).1
 refine SpP.body Tryz.func221 rfl Tryz.ntmps221 (by simp) ?_
 simp only [argE, List.cons_append, List.nil_append, Nat.zero_add, Nat.reduceAdd]
 try refine gL ?_
 refine RT.callP T rfl fR_ (ipart_fn (rD (hD)) (rD (hR)) hb h1 h2 h3) rfl rfl rfl (fun v H1 hp => ?_) (fun v H1 hp => ?_)
 ·obtain ⟨hn, rfl, rfl⟩ := hp
  ((repeat refine nx ?_); exact AtQ.finP (H' := []) ⟨_, rfl, rfl, .inl ⟨rfl, .inl hn⟩⟩ dR_)
 obtain ⟨p', m, q, t, hc1, hq1, hq2, hq3, rfl, rfl⟩ := hp
 simp only [List.cons_append, List.nil_append]
 try refine gQ ?_
 refine CT.drawnP (Cs px 187 xs :: R) 8 mixed ?_
 refine DTP.tk (k := 1) [0, 1, 2, 3, 4, 5, 6, 7] [8] ?_
 try refine gL ?_
 refine RT.ldB T rfl (rD (hD)) rfl rfl rfl rfl ?_
 skip
 refine RT.ldB T rfl (rD (hbd)) rfl rfl rfl rfl ?_
 repeat' (first|refine gL ?_|(refine gv ?_;first|(refine⟨fun hc=>?_,fun hc=>?_⟩<;>first|(exfalso;omega)|skip)|refine gk ?_)|fail)
 rotate_left
 ·refine AtQ.takeP ?_
  refine DTP.ef 8 ?_
  (refine RT.callP T rfl fR_ (need_f (rD (hD))) rfl rfl rfl (fun v H1 hp => ?_) (fun v H1 hp => ?_))
  ·obtain ⟨rfl, rfl⟩ := hp
   ((repeat refine nx ?_); exact AtQ.finP (H' := []) ⟨_, rfl, rfl, .inl ⟨rfl, .inr (by omega)⟩⟩ dR_)
  ·exact hp.elim
 refine AtQ.takeP ?_
 refine DTP.ef 8 ?_
 (refine RT.call T rfl fR_ (need_t) rfl rfl rfl ?_; rintro _ _ ⟨rfl, rfl⟩; try simp only [List.cons_append, List.nil_append])
 try refine gL ?_
 refine AtQ.eq ?_
 refine DTP.dn ?_
 try refine gQ ?_
 refine CT.drawnP (Cs px 187 xs :: R) 20 mixed ?_
 refine DTP.tk (k := 9) [0, 1, 3, 4, 8, 9, 10, 11, 12, 13, 14, 15, 16, 17] [2, 5, 6, 7, 18, 19, 20] ?_
 refine RT.ldB T rfl (rD (ho)) rfl rfl rfl rfl ?_
 try refine gL ?_
 refine RT.ldB T rfl (rD (ho)) rfl rfl rfl rfl ?_
 try refine gL ?_
 refine RT.ldB T rfl (rD (hbl)) rfl rfl rfl rfl ?_
 try refine gL ?_
 refine RT.ldB T rfl (rD (hfm)) hfk rfl rfl rfl ?_
 try refine gL ?_
 refine RT.ldB T rfl (rD (hD)) rfl rfl rfl rfl ?_
 skip
 refine RT.ldB T rfl (rD (hbd)) rfl rfl rfl rfl ?_
 repeat' (first|refine gL ?_|(refine gv ?_;refine gk ?_)|fail)
 refine AtQ.takeP ?_
 refine DTP.ef 2 ?_
 refine RT.callC T (caps := []) rfl rfl fR_ (hof _) hg rfl rfl ?_
 rintro _ _ ⟨rfl, rfl⟩
 simp only [List.nil_append]
 try refine gL ?_
 refine AtQ.ep ?_
 refine DTP.ef 5 ?_
 refine RT.callC T (caps := []) rfl rfl fR_ (hof _) hg rfl rfl ?_
 rintro _ _ ⟨rfl, rfl⟩
 simp only [List.nil_append]
 try refine gL ?_
 refine AtQ.ep ?_
 refine DTP.tk (k := 5) [6, 7] [18, 19, 20] ?_
 refine RT.nilG rfl rfl rfl ?_
 refine RT.ldB T rfl (Cs.rd .h) hu rfl rfl rfl ?_
 try refine gL ?_
 refine AtQ.takeP ?_
 refine DTP.ef 18 ?_
 refine RT.callP T rfl fR_ (hrd (by omega) _ (fun _ _ _ _ _ h => (rD (h))) p' q t hq2 (by omega)) rfl rfl rfl (fun v H1 hp => ?_) (fun v H1 hp => ?_)
 ·obtain ⟨pl, he, rfl, rfl⟩ := hp
  ((repeat refine nx ?_); exact AtQ.finP (H' := []) ⟨_, rfl, rfl, .inr ⟨m, q, t, pl, hc1, by omega, he, rfl⟩⟩ dR_)
 obtain ⟨x, he, rfl, rfl⟩ := hp
 simp only [List.cons_append, List.nil_append]
 try refine gL ?_
 refine AtQ.ep ?_
 refine DTP.ef 19 ?_
 refine RT.bsA T (l := FieldT.cells x) rfl rfl rfl rfl rfl rfl rfl rfl (fun a9 => ?_)
 try refine gL ?_
 refine AtQ.ep ?_
 refine DTP.ef 20 ?_
 refine RT.app T (xs := l.flatMap FieldT.cells) (ys := FieldT.cells x) rfl rfl rfl (fun a' c' => by ((repeat constructor);done)) (Own.rd sE_ rfl (Nat.le_refl _)) (one_fd _) (by omega) (by omega) rfl rfl rfl rfl (fun a' c' hac => ?_)
 try refine gL ?_
 refine AtQ.eq ?_
 refine DTP.ef 21 ?_
 refine RT.nilG rfl rfl rfl ?_
 try refine gL ?_
 refine AtQ.eq ?_
 refine DTP.ef 22 ?_
 refine RT.st T rfl rfl rfl (by ((repeat constructor);done)) (setN_set hx) rfl rfl ?_
 try refine gL ?_
 refine AtQ.eq ?_
 refine DTP.dn ?_
 skip
 refine AtQ.ofFinN (AtQ.fin0 (H' := [Cs px 187 (xs.set off (.slice a' (l.length + 1) c')), Own a' c' 240 9 (l.length + 1) ((l ++ [x]).flatMap FieldT.cells), Bag ((l ++ [x]).flatMap ow), rdo pr a n c t to]) Tryz.results221 ?_ (fun w h => ?_) _ (by first | exact .inl rfl | exact .inr rfl))
 ·exact ⟨m, q, t, a', c', x, hc1, by omega, he, hq1, hq2, hq3, rfl⟩
 ·rw [flat_app] at h
  have h2 := h.frd (Ps := [Bag (ow x), Bag (l.flatMap ow), Cs px 187 (xs.set off (.slice a' (l.length + 1) c')), Own a' c' 240 9 (l.length + 1) ((l ++ [x]).flatMap FieldT.cells), rdo pr a n c t to]) (Qs := [_]) fR_
  exact (Bag.join h2).frd (Ps := [_, _, _, _]) (Qs := []) fR_
set_option maxHeartbeats 4000000 in
theorem some_MessageDef_MessageDef_get {bd bl tp kk sn sc : Nat} {sa : Option Addr} {dpr : Int} {fms : List Value} (hD : Rd B R (some ⟨pd, 0, none⟩) 1 1 3 [ptr pr, .int .i64 at_, .int .i64 deep]) (hR : Rd B R a n c 1 (ints .u8 bs)) (hb : Bytes bs) (h1 : p ≤ to) (h2 : to ≤ n) (h3 : n ≤ 16777216) (ho : Rd B R (some ⟨bo, 0, none⟩) 1 1 1 [.func (.func g) #[] #[]]) (hg : al T.funs g = some gb) (hof : ∀ R, Sp B Tryz.prog g [ptr px] R [] (fun v H' => v = .pointer (some ⟨px, off, none⟩) ∧ H' = [])) (hbd : Rd B R (some ⟨bd, 0, none⟩) 1 1 1 [.int .i64 dpr]) (hbl : Rd B R (some ⟨bl, 0, none⟩) 1 1 1 [.pointer (some ⟨tp, kk, none⟩)]) (hfm : Rd B R (some ⟨tp, 0, none⟩) 1 1 8 fms) (hfk : fms[kk]? = some (.slice sa sn sc)) (hd0 : 0 ≤ deep) (hd1 : deep ≤ 1000) (hd2 : 0 ≤ dpr) (hd3 : dpr ≤ 1) {ar : Option Addr} {cr : Nat} {l : List MsgT} (hu : xs[off]? = some (.slice ar l.length cr)) (hll : l.length ≤ 16777216) {er : MsgT → MsgT} {ow : MsgT → List HP} {rdp : Nat → Nat → Except Nat MsgT} (hrd : deep + dpr ≤ 100 → RdrC B R 228 (.slice sa sn sc) (deep + dpr) a n c MsgT.cells er ow rdp) :
  SpP B Tryz.prog 227 [ptr pd, ptr px, ptr bd, ptr bo, ptr bl] R [Cs px 187 xs, Own ar cr 187 7 l.length (l.flatMap MsgT.cells), Bag (l.flatMap ow), rdo pr a n c p to] (fun _ H' => ∃ m q t a' c' x, contL .rs bs p to = some (m, q, t) ∧ ¬ 100 < deep + dpr ∧ rdp q t = .ok (er x) ∧ t ≤ to ∧ q ≤ t ∧ p < q ∧ H' = [Cs px 187 (xs.set off (.slice a' (l.length + 1) c')), Own a' c' 187 7 (l.length + 1) ((l ++ [x]).flatMap MsgT.cells), Bag ((l ++ [x]).flatMap ow), rdo pr a n c t to]) (PPS bs p to (deep + dpr) at_ rdp) := by
 have hx : off < xs.length := (List.getElem?_eq_some_iff.1 hu).1
 refine SpP.body Tryz.func227 rfl Tryz.ntmps227 (by simp) ?_
 simp only [argE, List.cons_append, List.nil_append, Nat.zero_add, Nat.reduceAdd]
 try refine gL ?_
 refine RT.callP T rfl fR_ (ipart_fn (rD (hD)) (rD (hR)) hb h1 h2 h3) rfl rfl rfl (fun v H1 hp => ?_) (fun v H1 hp => ?_)
 ·obtain ⟨hn, rfl, rfl⟩ := hp
  ((repeat refine nx ?_); exact AtQ.finP (H' := []) ⟨_, rfl, rfl, .inl ⟨rfl, .inl hn⟩⟩ dR_)
 obtain ⟨p', m, q, t, hc1, hq1, hq2, hq3, rfl, rfl⟩ := hp
 simp only [List.cons_append, List.nil_append]
 try refine gQ ?_
 refine CT.drawnP (Cs px 187 xs :: R) 8 mixed ?_
 refine DTP.tk (k := 1) [0, 1, 2, 3, 4, 5, 6, 7] [8] ?_
 try refine gL ?_
 refine RT.ldB T rfl (rD (hD)) rfl rfl rfl rfl ?_
 skip
 refine RT.ldB T rfl (rD (hbd)) rfl rfl rfl rfl ?_
 repeat' (first|refine gL ?_|(refine gv ?_;first|(refine⟨fun hc=>?_,fun hc=>?_⟩<;>first|(exfalso;omega)|skip)|refine gk ?_)|fail)
 rotate_left
 ·refine AtQ.takeP ?_
  refine DTP.ef 8 ?_
  (refine RT.callP T rfl fR_ (need_f (rD (hD))) rfl rfl rfl (fun v H1 hp => ?_) (fun v H1 hp => ?_))
  ·obtain ⟨rfl, rfl⟩ := hp
   ((repeat refine nx ?_); exact AtQ.finP (H' := []) ⟨_, rfl, rfl, .inl ⟨rfl, .inr (by omega)⟩⟩ dR_)
  ·exact hp.elim
 refine AtQ.takeP ?_
 refine DTP.ef 8 ?_
 (refine RT.call T rfl fR_ (need_t) rfl rfl rfl ?_; rintro _ _ ⟨rfl, rfl⟩; try simp only [List.cons_append, List.nil_append])
 try refine gL ?_
 refine AtQ.eq ?_
 refine DTP.dn ?_
 try refine gQ ?_
 refine CT.drawnP (Cs px 187 xs :: R) 20 mixed ?_
 refine DTP.tk (k := 9) [0, 1, 3, 4, 8, 9, 10, 11, 12, 13, 14, 15, 16, 17] [2, 5, 6, 7, 18, 19, 20] ?_
 refine RT.ldB T rfl (rD (ho)) rfl rfl rfl rfl ?_
 try refine gL ?_
 refine RT.ldB T rfl (rD (ho)) rfl rfl rfl rfl ?_
 try refine gL ?_
 refine RT.ldB T rfl (rD (hbl)) rfl rfl rfl rfl ?_
 try refine gL ?_
 refine RT.ldB T rfl (rD (hfm)) hfk rfl rfl rfl ?_
 try refine gL ?_
 refine RT.ldB T rfl (rD (hD)) rfl rfl rfl rfl ?_
 skip
 refine RT.ldB T rfl (rD (hbd)) rfl rfl rfl rfl ?_
 repeat' (first|refine gL ?_|(refine gv ?_;refine gk ?_)|fail)
 refine AtQ.takeP ?_
 refine DTP.ef 2 ?_
 refine RT.callC T (caps := []) rfl rfl fR_ (hof _) hg rfl rfl ?_
 rintro _ _ ⟨rfl, rfl⟩
 simp only [List.nil_append]
 try refine gL ?_
 refine AtQ.ep ?_
 refine DTP.ef 5 ?_
 refine RT.callC T (caps := []) rfl rfl fR_ (hof _) hg rfl rfl ?_
 rintro _ _ ⟨rfl, rfl⟩
 simp only [List.nil_append]
 try refine gL ?_
 refine AtQ.ep ?_
 refine DTP.tk (k := 5) [6, 7] [18, 19, 20] ?_
 refine RT.nilG rfl rfl rfl ?_
 refine RT.ldB T rfl (Cs.rd .h) hu rfl rfl rfl ?_
 try refine gL ?_
 refine AtQ.takeP ?_
 refine DTP.ef 18 ?_
 refine RT.callP T rfl fR_ (hrd (by omega) _ (fun _ _ _ _ _ h => (rD (h))) p' q t hq2 (by omega)) rfl rfl rfl (fun v H1 hp => ?_) (fun v H1 hp => ?_)
 ·obtain ⟨pl, he, rfl, rfl⟩ := hp
  ((repeat refine nx ?_); exact AtQ.finP (H' := []) ⟨_, rfl, rfl, .inr ⟨m, q, t, pl, hc1, by omega, he, rfl⟩⟩ dR_)
 obtain ⟨x, he, rfl, rfl⟩ := hp
 simp only [List.cons_append, List.nil_append]
 obtain ⟨x1, x2, x3, x4, x5, x6, x7, x8, x9⟩ := x
 try refine gL ?_
 refine AtQ.ep ?_
 refine DTP.ef 19 ?_
 refine RT.bsA T (l := MsgT.cells (MsgT.mk x1 x2 x3 x4 x5 x6 x7 x8 x9)) rfl rfl rfl rfl rfl rfl rfl rfl (fun a9 => ?_)
 try refine gL ?_
 refine AtQ.ep ?_
 refine DTP.ef 20 ?_
 refine RT.app T (xs := l.flatMap MsgT.cells) (ys := MsgT.cells (MsgT.mk x1 x2 x3 x4 x5 x6 x7 x8 x9)) rfl rfl rfl (fun a' c' => by ((repeat constructor);done)) (Own.rd sE_ rfl (Nat.le_refl _)) (one_ms _) (by omega) (by omega) rfl rfl rfl rfl (fun a' c' hac => ?_)
 try refine gL ?_
 refine AtQ.eq ?_
 refine DTP.ef 21 ?_
 refine RT.nilG rfl rfl rfl ?_
 try refine gL ?_
 refine AtQ.eq ?_
 refine DTP.ef 22 ?_
 refine RT.st T rfl rfl rfl (by ((repeat constructor);done)) (setN_set hx) rfl rfl ?_
 try refine gL ?_
 refine AtQ.eq ?_
 refine DTP.dn ?_
 skip
 refine AtQ.ofFinN (AtQ.fin0 (H' := [Cs px 187 (xs.set off (.slice a' (l.length + 1) c')), Own a' c' 187 7 (l.length + 1) ((l ++ [(MsgT.mk x1 x2 x3 x4 x5 x6 x7 x8 x9)]).flatMap MsgT.cells), Bag ((l ++ [(MsgT.mk x1 x2 x3 x4 x5 x6 x7 x8 x9)]).flatMap ow), rdo pr a n c t to]) Tryz.results227 ?_ (fun w h => ?_) _ (by first | exact .inl rfl | exact .inr rfl))
 ·exact ⟨m, q, t, a', c', (MsgT.mk x1 x2 x3 x4 x5 x6 x7 x8 x9), hc1, by omega, he, hq1, hq2, hq3, rfl⟩
 ·rw [flat_app] at h
  have h2 := h.frd (Ps := [Bag (ow (MsgT.mk x1 x2 x3 x4 x5 x6 x7 x8 x9)), Bag (l.flatMap ow), Cs px 187 (xs.set off (.slice a' (l.length + 1) c')), Own a' c' 187 7 (l.length + 1) ((l ++ [(MsgT.mk x1 x2 x3 x4 x5 x6 x7 x8 x9)]).flatMap MsgT.cells), rdo pr a n c t to]) (Qs := [_]) fR_
  exact (Bag.join h2).frd (Ps := [_, _, _, _]) (Qs := []) fR_
set_option maxHeartbeats 4000000 in
theorem some_MessageDef_EnumDef_get {bd bl tp kk sn sc : Nat} {sa : Option Addr} {dpr : Int} {fms : List Value} (hD : Rd B R (some ⟨pd, 0, none⟩) 1 1 3 [ptr pr, .int .i64 at_, .int .i64 deep]) (hR : Rd B R a n c 1 (ints .u8 bs)) (hb : Bytes bs) (h1 : p ≤ to) (h2 : to ≤ n) (h3 : n ≤ 16777216) (ho : Rd B R (some ⟨bo, 0, none⟩) 1 1 1 [.func (.func g) #[] #[]]) (hg : al T.funs g = some gb) (hof : ∀ R, Sp B Tryz.prog g [ptr px] R [] (fun v H' => v = .pointer (some ⟨px, off, none⟩) ∧ H' = [])) (hbd : Rd B R (some ⟨bd, 0, none⟩) 1 1 1 [.int .i64 dpr]) (hbl : Rd B R (some ⟨bl, 0, none⟩) 1 1 1 [.pointer (some ⟨tp, kk, none⟩)]) (hfm : Rd B R (some ⟨tp, 0, none⟩) 1 1 8 fms) (hfk : fms[kk]? = some (.slice sa sn sc)) (hd0 : 0 ≤ deep) (hd1 : deep ≤ 1000) (hd2 : 0 ≤ dpr) (hd3 : dpr ≤ 1) {ar : Option Addr} {cr : Nat} {l : List EnumT} (hu : xs[off]? = some (.slice ar l.length cr)) (hll : l.length ≤ 16777216) {er : EnumT → EnumT} {ow : EnumT → List HP} {rdp : Nat → Nat → Except Nat EnumT} (hrd : deep + dpr ≤ 100 → RdrC B R 232 (.slice sa sn sc) (deep + dpr) a n c EnumT.cells er ow rdp) :
  SpP B Tryz.prog 231 [ptr pd, ptr px, ptr bd, ptr bo, ptr bl] R [Cs px 187 xs, Own ar cr 85 5 l.length (l.flatMap EnumT.cells), Bag (l.flatMap ow), rdo pr a n c p to] (fun _ H' => ∃ m q t a' c' x, contL .rs bs p to = some (m, q, t) ∧ ¬ 100 < deep + dpr ∧ rdp q t = .ok (er x) ∧ t ≤ to ∧ q ≤ t ∧ p < q ∧ H' = [Cs px 187 (xs.set off (.slice a' (l.length + 1) c')), Own a' c' 85 5 (l.length + 1) ((l ++ [x]).flatMap EnumT.cells), Bag ((l ++ [x]).flatMap ow), rdo pr a n c t to]) (PPS bs p to (deep + dpr) at_ rdp) := by
 have hx : off < xs.length := (List.getElem?_eq_some_iff.1 hu).1
 refine SpP.body Tryz.func231 rfl Tryz.ntmps231 (by simp) ?_
 simp only [argE, List.cons_append, List.nil_append, Nat.zero_add, Nat.reduceAdd]
 try refine gL ?_
 refine RT.callP T rfl fR_ (ipart_fn (rD (hD)) (rD (hR)) hb h1 h2 h3) rfl rfl rfl (fun v H1 hp => ?_) (fun v H1 hp => ?_)
 ·obtain ⟨hn, rfl, rfl⟩ := hp
  ((repeat refine nx ?_); exact AtQ.finP (H' := []) ⟨_, rfl, rfl, .inl ⟨rfl, .inl hn⟩⟩ dR_)
 obtain ⟨p', m, q, t, hc1, hq1, hq2, hq3, rfl, rfl⟩ := hp
 simp only [List.cons_append, List.nil_append]
 try refine gQ ?_
 refine CT.drawnP (Cs px 187 xs :: R) 8 mixed ?_
 refine DTP.tk (k := 1) [0, 1, 2, 3, 4, 5, 6, 7] [8] ?_
 try refine gL ?_
 refine RT.ldB T rfl (rD (hD)) rfl rfl rfl rfl ?_
 skip
 refine RT.ldB T rfl (rD (hbd)) rfl rfl rfl rfl ?_
 repeat' (first|refine gL ?_|(refine gv ?_;first|(refine⟨fun hc=>?_,fun hc=>?_⟩<;>first|(exfalso;omega)|skip)|refine gk ?_)|fail)
 rotate_left
 ·refine AtQ.takeP ?_
  refine DTP.ef 8 ?_
  (refine RT.callP T rfl fR_ (need_f (rD (hD))) rfl rfl rfl (fun v H1 hp => ?_) (fun v H1 hp => ?_))
  ·obtain ⟨rfl, rfl⟩ := hp
   ((repeat refine nx ?_); exact AtQ.finP (H' := []) ⟨_, rfl, rfl, .inl ⟨rfl, .inr (by omega)⟩⟩ dR_)
  ·exact hp.elim
 refine AtQ.takeP ?_
 refine DTP.ef 8 ?_
 (refine RT.call T rfl fR_ (need_t) rfl rfl rfl ?_; rintro _ _ ⟨rfl, rfl⟩; try simp only [List.cons_append, List.nil_append])
 try refine gL ?_
 refine AtQ.eq ?_
 refine DTP.dn ?_
 try refine gQ ?_
 refine CT.drawnP (Cs px 187 xs :: R) 20 mixed ?_
 refine DTP.tk (k := 9) [0, 1, 3, 4, 8, 9, 10, 11, 12, 13, 14, 15, 16, 17] [2, 5, 6, 7, 18, 19, 20] ?_
 refine RT.ldB T rfl (rD (ho)) rfl rfl rfl rfl ?_
 try refine gL ?_
 refine RT.ldB T rfl (rD (ho)) rfl rfl rfl rfl ?_
 try refine gL ?_
 refine RT.ldB T rfl (rD (hbl)) rfl rfl rfl rfl ?_
 try refine gL ?_
 refine RT.ldB T rfl (rD (hfm)) hfk rfl rfl rfl ?_
 try refine gL ?_
 refine RT.ldB T rfl (rD (hD)) rfl rfl rfl rfl ?_
 skip
 refine RT.ldB T rfl (rD (hbd)) rfl rfl rfl rfl ?_
 repeat' (first|refine gL ?_|(refine gv ?_;refine gk ?_)|fail)
 refine AtQ.takeP ?_
 refine DTP.ef 2 ?_
 refine RT.callC T (caps := []) rfl rfl fR_ (hof _) hg rfl rfl ?_
 rintro _ _ ⟨rfl, rfl⟩
 simp only [List.nil_append]
 try refine gL ?_
 refine AtQ.ep ?_
 refine DTP.ef 5 ?_
 refine RT.callC T (caps := []) rfl rfl fR_ (hof _) hg rfl rfl ?_
 rintro _ _ ⟨rfl, rfl⟩
 simp only [List.nil_append]
 try refine gL ?_
 refine AtQ.ep ?_
 refine DTP.tk (k := 5) [6, 7] [18, 19, 20] ?_
 refine RT.nilG rfl rfl rfl ?_
 refine RT.ldB T rfl (Cs.rd .h) hu rfl rfl rfl ?_
 try refine gL ?_
 refine AtQ.takeP ?_
 refine DTP.ef 18 ?_
 refine RT.callP T rfl fR_ (hrd (by omega) _ (fun _ _ _ _ _ h => (rD (h))) p' q t hq2 (by omega)) rfl rfl rfl (fun v H1 hp => ?_) (fun v H1 hp => ?_)
 ·obtain ⟨pl, he, rfl, rfl⟩ := hp
  ((repeat refine nx ?_); exact AtQ.finP (H' := []) ⟨_, rfl, rfl, .inr ⟨m, q, t, pl, hc1, by omega, he, rfl⟩⟩ dR_)
 obtain ⟨x, he, rfl, rfl⟩ := hp
 simp only [List.cons_append, List.nil_append]
 try refine gL ?_
 refine AtQ.ep ?_
 refine DTP.ef 19 ?_
 refine RT.bsA T (l := EnumT.cells x) rfl rfl rfl rfl rfl rfl rfl rfl (fun a9 => ?_)
 try refine gL ?_
 refine AtQ.ep ?_
 refine DTP.ef 20 ?_
 refine RT.app T (xs := l.flatMap EnumT.cells) (ys := EnumT.cells x) rfl rfl rfl (fun a' c' => by ((repeat constructor);done)) (Own.rd sE_ rfl (Nat.le_refl _)) (one_en _) (by omega) (by omega) rfl rfl rfl rfl (fun a' c' hac => ?_)
 try refine gL ?_
 refine AtQ.eq ?_
 refine DTP.ef 21 ?_
 refine RT.nilG rfl rfl rfl ?_
 try refine gL ?_
 refine AtQ.eq ?_
 refine DTP.ef 22 ?_
 refine RT.st T rfl rfl rfl (by ((repeat constructor);done)) (setN_set hx) rfl rfl ?_
 try refine gL ?_
 refine AtQ.eq ?_
 refine DTP.dn ?_
 skip
 refine AtQ.ofFinN (AtQ.fin0 (H' := [Cs px 187 (xs.set off (.slice a' (l.length + 1) c')), Own a' c' 85 5 (l.length + 1) ((l ++ [x]).flatMap EnumT.cells), Bag ((l ++ [x]).flatMap ow), rdo pr a n c t to]) Tryz.results231 ?_ (fun w h => ?_) _ (by first | exact .inl rfl | exact .inr rfl))
 ·exact ⟨m, q, t, a', c', x, hc1, by omega, he, hq1, hq2, hq3, rfl⟩
 ·rw [flat_app] at h
  have h2 := h.frd (Ps := [Bag (ow x), Bag (l.flatMap ow), Cs px 187 (xs.set off (.slice a' (l.length + 1) c')), Own a' c' 85 5 (l.length + 1) ((l ++ [x]).flatMap EnumT.cells), rdo pr a n c t to]) (Qs := [_]) fR_
  exact (Bag.join h2).frd (Ps := [_, _, _, _]) (Qs := []) fR_
set_option maxHeartbeats 4000000 in
theorem some_MessageDef_Span_get {bd bl tp kk sn sc : Nat} {sa : Option Addr} {dpr : Int} {fms : List Value} (hD : Rd B R (some ⟨pd, 0, none⟩) 1 1 3 [ptr pr, .int .i64 at_, .int .i64 deep]) (hR : Rd B R a n c 1 (ints .u8 bs)) (hb : Bytes bs) (h1 : p ≤ to) (h2 : to ≤ n) (h3 : n ≤ 16777216) (ho : Rd B R (some ⟨bo, 0, none⟩) 1 1 1 [.func (.func g) #[] #[]]) (hg : al T.funs g = some gb) (hof : ∀ R, Sp B Tryz.prog g [ptr px] R [] (fun v H' => v = .pointer (some ⟨px, off, none⟩) ∧ H' = [])) (hbd : Rd B R (some ⟨bd, 0, none⟩) 1 1 1 [.int .i64 dpr]) (hbl : Rd B R (some ⟨bl, 0, none⟩) 1 1 1 [.pointer (some ⟨tp, kk, none⟩)]) (hfm : Rd B R (some ⟨tp, 0, none⟩) 1 1 8 fms) (hfk : fms[kk]? = some (.slice sa sn sc)) (hd0 : 0 ≤ deep) (hd1 : deep ≤ 1000) (hd2 : 0 ≤ dpr) (hd3 : dpr ≤ 1) {ar : Option Addr} {cr : Nat} {l : List SpanT} (hu : xs[off]? = some (.slice ar l.length cr)) (hll : l.length ≤ 16777216) {er : SpanT → SpanT} {ow : SpanT → List HP} {rdp : Nat → Nat → Except Nat SpanT} (hrd : deep + dpr ≤ 100 → RdrC B R 202 (.slice sa sn sc) (deep + dpr) a n c SpanT.cells er ow rdp) :
  SpP B Tryz.prog 234 [ptr pd, ptr px, ptr bd, ptr bo, ptr bl] R [Cs px 187 xs, Own ar cr 196 2 l.length (l.flatMap SpanT.cells), Bag (l.flatMap ow), rdo pr a n c p to] (fun _ H' => ∃ m q t a' c' x, contL .rs bs p to = some (m, q, t) ∧ ¬ 100 < deep + dpr ∧ rdp q t = .ok (er x) ∧ t ≤ to ∧ q ≤ t ∧ p < q ∧ H' = [Cs px 187 (xs.set off (.slice a' (l.length + 1) c')), Own a' c' 196 2 (l.length + 1) ((l ++ [x]).flatMap SpanT.cells), Bag ((l ++ [x]).flatMap ow), rdo pr a n c t to]) (PPS bs p to (deep + dpr) at_ rdp) := by
 have hx : off < xs.length := (List.getElem?_eq_some_iff.1 hu).1
 refine SpP.body Tryz.func234 rfl Tryz.ntmps234 (by simp) ?_
 simp only [argE, List.cons_append, List.nil_append, Nat.zero_add, Nat.reduceAdd]
 try refine gL ?_
 refine RT.callP T rfl fR_ (ipart_fn (rD (hD)) (rD (hR)) hb h1 h2 h3) rfl rfl rfl (fun v H1 hp => ?_) (fun v H1 hp => ?_)
 ·obtain ⟨hn, rfl, rfl⟩ := hp
  ((repeat refine nx ?_); exact AtQ.finP (H' := []) ⟨_, rfl, rfl, .inl ⟨rfl, .inl hn⟩⟩ dR_)
 obtain ⟨p', m, q, t, hc1, hq1, hq2, hq3, rfl, rfl⟩ := hp
 simp only [List.cons_append, List.nil_append]
 try refine gQ ?_
 refine CT.drawnP (Cs px 187 xs :: R) 8 mixed ?_
 refine DTP.tk (k := 1) [0, 1, 2, 3, 4, 5, 6, 7] [8] ?_
 try refine gL ?_
 refine RT.ldB T rfl (rD (hD)) rfl rfl rfl rfl ?_
 skip
 refine RT.ldB T rfl (rD (hbd)) rfl rfl rfl rfl ?_
 repeat' (first|refine gL ?_|(refine gv ?_;first|(refine⟨fun hc=>?_,fun hc=>?_⟩<;>first|(exfalso;omega)|skip)|refine gk ?_)|fail)
 rotate_left
 ·refine AtQ.takeP ?_
  refine DTP.ef 8 ?_
  (refine RT.callP T rfl fR_ (need_f (rD (hD))) rfl rfl rfl (fun v H1 hp => ?_) (fun v H1 hp => ?_))
  ·obtain ⟨rfl, rfl⟩ := hp
   ((repeat refine nx ?_); exact AtQ.finP (H' := []) ⟨_, rfl, rfl, .inl ⟨rfl, .inr (by omega)⟩⟩ dR_)
  ·exact hp.elim
 refine AtQ.takeP ?_
 refine DTP.ef 8 ?_
 (refine RT.call T rfl fR_ (need_t) rfl rfl rfl ?_; rintro _ _ ⟨rfl, rfl⟩; try simp only [List.cons_append, List.nil_append])
 try refine gL ?_
 refine AtQ.eq ?_
 refine DTP.dn ?_
 try refine gQ ?_
 refine CT.drawnP (Cs px 187 xs :: R) 20 mixed ?_
 refine DTP.tk (k := 9) [0, 1, 3, 4, 8, 9, 10, 11, 12, 13, 14, 15, 16, 17] [2, 5, 6, 7, 18, 19, 20] ?_
 refine RT.ldB T rfl (rD (ho)) rfl rfl rfl rfl ?_
 try refine gL ?_
 refine RT.ldB T rfl (rD (ho)) rfl rfl rfl rfl ?_
 try refine gL ?_
 refine RT.ldB T rfl (rD (hbl)) rfl rfl rfl rfl ?_
 try refine gL ?_
 refine RT.ldB T rfl (rD (hfm)) hfk rfl rfl rfl ?_
 try refine gL ?_
 refine RT.ldB T rfl (rD (hD)) rfl rfl rfl rfl ?_
 skip
 refine RT.ldB T rfl (rD (hbd)) rfl rfl rfl rfl ?_
 repeat' (first|refine gL ?_|(refine gv ?_;refine gk ?_)|fail)
 refine AtQ.takeP ?_
 refine DTP.ef 2 ?_
 refine RT.callC T (caps := []) rfl rfl fR_ (hof _) hg rfl rfl ?_
 rintro _ _ ⟨rfl, rfl⟩
 simp only [List.nil_append]
 try refine gL ?_
 refine AtQ.ep ?_
 refine DTP.ef 5 ?_
 refine RT.callC T (caps := []) rfl rfl fR_ (hof _) hg rfl rfl ?_
 rintro _ _ ⟨rfl, rfl⟩
 simp only [List.nil_append]
 try refine gL ?_
 refine AtQ.ep ?_
 refine DTP.tk (k := 5) [6, 7] [18, 19, 20] ?_
 refine RT.nilG rfl rfl rfl ?_
 refine RT.ldB T rfl (Cs.rd .h) hu rfl rfl rfl ?_
 try refine gL ?_
 refine AtQ.takeP ?_
 refine DTP.ef 18 ?_
 refine RT.callP T rfl fR_ (hrd (by omega) _ (fun _ _ _ _ _ h => (rD (h))) p' q t hq2 (by omega)) rfl rfl rfl (fun v H1 hp => ?_) (fun v H1 hp => ?_)
 ·obtain ⟨pl, he, rfl, rfl⟩ := hp
  ((repeat refine nx ?_); exact AtQ.finP (H' := []) ⟨_, rfl, rfl, .inr ⟨m, q, t, pl, hc1, by omega, he, rfl⟩⟩ dR_)
 obtain ⟨x, he, rfl, rfl⟩ := hp
 simp only [List.cons_append, List.nil_append]
 try refine gL ?_
 refine AtQ.ep ?_
 refine DTP.ef 19 ?_
 refine RT.bsA T (l := SpanT.cells x) rfl rfl rfl rfl rfl rfl rfl rfl (fun a9 => ?_)
 try refine gL ?_
 refine AtQ.ep ?_
 refine DTP.ef 20 ?_
 refine RT.app T (xs := l.flatMap SpanT.cells) (ys := SpanT.cells x) rfl rfl rfl (fun a' c' => by ((repeat constructor);done)) (Own.rd sE_ rfl (Nat.le_refl _)) (one_sp _) (by omega) (by omega) rfl rfl rfl rfl (fun a' c' hac => ?_)
 try refine gL ?_
 refine AtQ.eq ?_
 refine DTP.ef 21 ?_
 refine RT.nilG rfl rfl rfl ?_
 try refine gL ?_
 refine AtQ.eq ?_
 refine DTP.ef 22 ?_
 refine RT.st T rfl rfl rfl (by ((repeat constructor);done)) (setN_set hx) rfl rfl ?_
 try refine gL ?_
 refine AtQ.eq ?_
 refine DTP.dn ?_
 skip
 refine AtQ.ofFinN (AtQ.fin0 (H' := [Cs px 187 (xs.set off (.slice a' (l.length + 1) c')), Own a' c' 196 2 (l.length + 1) ((l ++ [x]).flatMap SpanT.cells), Bag ((l ++ [x]).flatMap ow), rdo pr a n c t to]) Tryz.results234 ?_ (fun w h => ?_) _ (by first | exact .inl rfl | exact .inr rfl))
 ·exact ⟨m, q, t, a', c', x, hc1, by omega, he, hq1, hq2, hq3, rfl⟩
 ·rw [flat_app] at h
  have h2 := h.frd (Ps := [Bag (ow x), Bag (l.flatMap ow), Cs px 187 (xs.set off (.slice a' (l.length + 1) c')), Own a' c' 196 2 (l.length + 1) ((l ++ [x]).flatMap SpanT.cells), rdo pr a n c t to]) (Qs := [_]) fR_
  exact (Bag.join h2).frd (Ps := [_, _, _, _]) (Qs := []) fR_
set_option maxHeartbeats 4000000 in
theorem some_File_Import_get {bd bl tp kk sn sc : Nat} {sa : Option Addr} {dpr : Int} {fms : List Value} (hD : Rd B R (some ⟨pd, 0, none⟩) 1 1 3 [ptr pr, .int .i64 at_, .int .i64 deep]) (hR : Rd B R a n c 1 (ints .u8 bs)) (hb : Bytes bs) (h1 : p ≤ to) (h2 : to ≤ n) (h3 : n ≤ 16777216) (ho : Rd B R (some ⟨bo, 0, none⟩) 1 1 1 [.func (.func g) #[] #[]]) (hg : al T.funs g = some gb) (hof : ∀ R, Sp B Tryz.prog g [ptr px] R [] (fun v H' => v = .pointer (some ⟨px, off, none⟩) ∧ H' = [])) (hbd : Rd B R (some ⟨bd, 0, none⟩) 1 1 1 [.int .i64 dpr]) (hbl : Rd B R (some ⟨bl, 0, none⟩) 1 1 1 [.pointer (some ⟨tp, kk, none⟩)]) (hfm : Rd B R (some ⟨tp, 0, none⟩) 1 1 8 fms) (hfk : fms[kk]? = some (.slice sa sn sc)) (hd0 : 0 ≤ deep) (hd1 : deep ≤ 1000) (hd2 : 0 ≤ dpr) (hd3 : dpr ≤ 1) {ar : Option Addr} {cr : Nat} {l : List ImpT} (hu : xs[off]? = some (.slice ar l.length cr)) (hll : l.length ≤ 16777216) {er : ImpT → ImpT} {ow : ImpT → List HP} {rdp : Nat → Nat → Except Nat ImpT} (hrd : deep + dpr ≤ 100 → RdrC B R 244 (.slice sa sn sc) (deep + dpr) a n c ImpT.cells er ow rdp) :
  SpP B Tryz.prog 243 [ptr pd, ptr px, ptr bd, ptr bo, ptr bl] R [Cs px 75 xs, Own ar cr 161 2 l.length (l.flatMap ImpT.cells), Bag (l.flatMap ow), rdo pr a n c p to] (fun _ H' => ∃ m q t a' c' x, contL .rs bs p to = some (m, q, t) ∧ ¬ 100 < deep + dpr ∧ rdp q t = .ok (er x) ∧ t ≤ to ∧ q ≤ t ∧ p < q ∧ H' = [Cs px 75 (xs.set off (.slice a' (l.length + 1) c')), Own a' c' 161 2 (l.length + 1) ((l ++ [x]).flatMap ImpT.cells), Bag ((l ++ [x]).flatMap ow), rdo pr a n c t to]) (PPS bs p to (deep + dpr) at_ rdp) := by
 have hx : off < xs.length := (List.getElem?_eq_some_iff.1 hu).1
 refine SpP.body Tryz.func243 rfl Tryz.ntmps243 (by simp) ?_
 simp only [argE, List.cons_append, List.nil_append, Nat.zero_add, Nat.reduceAdd]
 try refine gL ?_
 refine RT.callP T rfl fR_ (ipart_fn (rD (hD)) (rD (hR)) hb h1 h2 h3) rfl rfl rfl (fun v H1 hp => ?_) (fun v H1 hp => ?_)
 ·obtain ⟨hn, rfl, rfl⟩ := hp
  ((repeat refine nx ?_); exact AtQ.finP (H' := []) ⟨_, rfl, rfl, .inl ⟨rfl, .inl hn⟩⟩ dR_)
 obtain ⟨p', m, q, t, hc1, hq1, hq2, hq3, rfl, rfl⟩ := hp
 simp only [List.cons_append, List.nil_append]
 try refine gQ ?_
 refine CT.drawnP (Cs px 75 xs :: R) 8 mixed ?_
 refine DTP.tk (k := 1) [0, 1, 2, 3, 4, 5, 6, 7] [8] ?_
 try refine gL ?_
 refine RT.ldB T rfl (rD (hD)) rfl rfl rfl rfl ?_
 skip
 refine RT.ldB T rfl (rD (hbd)) rfl rfl rfl rfl ?_
 repeat' (first|refine gL ?_|(refine gv ?_;first|(refine⟨fun hc=>?_,fun hc=>?_⟩<;>first|(exfalso;omega)|skip)|refine gk ?_)|fail)
 rotate_left
 ·refine AtQ.takeP ?_
  refine DTP.ef 8 ?_
  (refine RT.callP T rfl fR_ (need_f (rD (hD))) rfl rfl rfl (fun v H1 hp => ?_) (fun v H1 hp => ?_))
  ·obtain ⟨rfl, rfl⟩ := hp
   ((repeat refine nx ?_); exact AtQ.finP (H' := []) ⟨_, rfl, rfl, .inl ⟨rfl, .inr (by omega)⟩⟩ dR_)
  ·exact hp.elim
 refine AtQ.takeP ?_
 refine DTP.ef 8 ?_
 (refine RT.call T rfl fR_ (need_t) rfl rfl rfl ?_; rintro _ _ ⟨rfl, rfl⟩; try simp only [List.cons_append, List.nil_append])
 try refine gL ?_
 refine AtQ.eq ?_
 refine DTP.dn ?_
 try refine gQ ?_
 refine CT.drawnP (Cs px 75 xs :: R) 20 mixed ?_
 refine DTP.tk (k := 9) [0, 1, 3, 4, 8, 9, 10, 11, 12, 13, 14, 15, 16, 17] [2, 5, 6, 7, 18, 19, 20] ?_
 refine RT.ldB T rfl (rD (ho)) rfl rfl rfl rfl ?_
 try refine gL ?_
 refine RT.ldB T rfl (rD (ho)) rfl rfl rfl rfl ?_
 try refine gL ?_
 refine RT.ldB T rfl (rD (hbl)) rfl rfl rfl rfl ?_
 try refine gL ?_
 refine RT.ldB T rfl (rD (hfm)) hfk rfl rfl rfl ?_
 try refine gL ?_
 refine RT.ldB T rfl (rD (hD)) rfl rfl rfl rfl ?_
 skip
 refine RT.ldB T rfl (rD (hbd)) rfl rfl rfl rfl ?_
 repeat' (first|refine gL ?_|(refine gv ?_;refine gk ?_)|fail)
 refine AtQ.takeP ?_
 refine DTP.ef 2 ?_
 refine RT.callC T (caps := []) rfl rfl fR_ (hof _) hg rfl rfl ?_
 rintro _ _ ⟨rfl, rfl⟩
 simp only [List.nil_append]
 try refine gL ?_
 refine AtQ.ep ?_
 refine DTP.ef 5 ?_
 refine RT.callC T (caps := []) rfl rfl fR_ (hof _) hg rfl rfl ?_
 rintro _ _ ⟨rfl, rfl⟩
 simp only [List.nil_append]
 try refine gL ?_
 refine AtQ.ep ?_
 refine DTP.tk (k := 5) [6, 7] [18, 19, 20] ?_
 refine RT.nilG rfl rfl rfl ?_
 refine RT.ldB T rfl (Cs.rd .h) hu rfl rfl rfl ?_
 try refine gL ?_
 refine AtQ.takeP ?_
 refine DTP.ef 18 ?_
 refine RT.callP T rfl fR_ (hrd (by omega) _ (fun _ _ _ _ _ h => (rD (h))) p' q t hq2 (by omega)) rfl rfl rfl (fun v H1 hp => ?_) (fun v H1 hp => ?_)
 ·obtain ⟨pl, he, rfl, rfl⟩ := hp
  ((repeat refine nx ?_); exact AtQ.finP (H' := []) ⟨_, rfl, rfl, .inr ⟨m, q, t, pl, hc1, by omega, he, rfl⟩⟩ dR_)
 obtain ⟨x, he, rfl, rfl⟩ := hp
 simp only [List.cons_append, List.nil_append]
 try refine gL ?_
 refine AtQ.ep ?_
 refine DTP.ef 19 ?_
 refine RT.bsA T (l := ImpT.cells x) rfl rfl rfl rfl rfl rfl rfl rfl (fun a9 => ?_)
 try refine gL ?_
 refine AtQ.ep ?_
 refine DTP.ef 20 ?_
 refine RT.app T (xs := l.flatMap ImpT.cells) (ys := ImpT.cells x) rfl rfl rfl (fun a' c' => by ((repeat constructor);done)) (Own.rd sE_ rfl (Nat.le_refl _)) (one_im _) (by omega) (by omega) rfl rfl rfl rfl (fun a' c' hac => ?_)
 try refine gL ?_
 refine AtQ.eq ?_
 refine DTP.ef 21 ?_
 refine RT.nilG rfl rfl rfl ?_
 try refine gL ?_
 refine AtQ.eq ?_
 refine DTP.ef 22 ?_
 refine RT.st T rfl rfl rfl (by ((repeat constructor);done)) (setN_set hx) rfl rfl ?_
 try refine gL ?_
 refine AtQ.eq ?_
 refine DTP.dn ?_
 skip
 refine AtQ.ofFinN (AtQ.fin0 (H' := [Cs px 75 (xs.set off (.slice a' (l.length + 1) c')), Own a' c' 161 2 (l.length + 1) ((l ++ [x]).flatMap ImpT.cells), Bag ((l ++ [x]).flatMap ow), rdo pr a n c t to]) Tryz.results243 ?_ (fun w h => ?_) _ (by first | exact .inl rfl | exact .inr rfl))
 ·exact ⟨m, q, t, a', c', x, hc1, by omega, he, hq1, hq2, hq3, rfl⟩
 ·rw [flat_app] at h
  have h2 := h.frd (Ps := [Bag (ow x), Bag (l.flatMap ow), Cs px 75 (xs.set off (.slice a' (l.length + 1) c')), Own a' c' 161 2 (l.length + 1) ((l ++ [x]).flatMap ImpT.cells), rdo pr a n c t to]) (Qs := [_]) fR_
  exact (Bag.join h2).frd (Ps := [_, _, _, _]) (Qs := []) fR_
set_option maxHeartbeats 4000000 in
theorem some_File_MessageDef_get {bd bl tp kk sn sc : Nat} {sa : Option Addr} {dpr : Int} {fms : List Value} (hD : Rd B R (some ⟨pd, 0, none⟩) 1 1 3 [ptr pr, .int .i64 at_, .int .i64 deep]) (hR : Rd B R a n c 1 (ints .u8 bs)) (hb : Bytes bs) (h1 : p ≤ to) (h2 : to ≤ n) (h3 : n ≤ 16777216) (ho : Rd B R (some ⟨bo, 0, none⟩) 1 1 1 [.func (.func g) #[] #[]]) (hg : al T.funs g = some gb) (hof : ∀ R, Sp B Tryz.prog g [ptr px] R [] (fun v H' => v = .pointer (some ⟨px, off, none⟩) ∧ H' = [])) (hbd : Rd B R (some ⟨bd, 0, none⟩) 1 1 1 [.int .i64 dpr]) (hbl : Rd B R (some ⟨bl, 0, none⟩) 1 1 1 [.pointer (some ⟨tp, kk, none⟩)]) (hfm : Rd B R (some ⟨tp, 0, none⟩) 1 1 8 fms) (hfk : fms[kk]? = some (.slice sa sn sc)) (hd0 : 0 ≤ deep) (hd1 : deep ≤ 1000) (hd2 : 0 ≤ dpr) (hd3 : dpr ≤ 1) {ar : Option Addr} {cr : Nat} {l : List MsgT} (hu : xs[off]? = some (.slice ar l.length cr)) (hll : l.length ≤ 16777216) {er : MsgT → MsgT} {ow : MsgT → List HP} {rdp : Nat → Nat → Except Nat MsgT} (hrd : deep + dpr ≤ 100 → RdrC B R 228 (.slice sa sn sc) (deep + dpr) a n c MsgT.cells er ow rdp) :
  SpP B Tryz.prog 246 [ptr pd, ptr px, ptr bd, ptr bo, ptr bl] R [Cs px 75 xs, Own ar cr 187 7 l.length (l.flatMap MsgT.cells), Bag (l.flatMap ow), rdo pr a n c p to] (fun _ H' => ∃ m q t a' c' x, contL .rs bs p to = some (m, q, t) ∧ ¬ 100 < deep + dpr ∧ rdp q t = .ok (er x) ∧ t ≤ to ∧ q ≤ t ∧ p < q ∧ H' = [Cs px 75 (xs.set off (.slice a' (l.length + 1) c')), Own a' c' 187 7 (l.length + 1) ((l ++ [x]).flatMap MsgT.cells), Bag ((l ++ [x]).flatMap ow), rdo pr a n c t to]) (PPS bs p to (deep + dpr) at_ rdp) := by
 have hx : off < xs.length := (List.getElem?_eq_some_iff.1 hu).1
 refine SpP.body Tryz.func246 rfl Tryz.ntmps246 (by simp) ?_
 simp only [argE, List.cons_append, List.nil_append, Nat.zero_add, Nat.reduceAdd]
 try refine gL ?_
 refine RT.callP T rfl fR_ (ipart_fn (rD (hD)) (rD (hR)) hb h1 h2 h3) rfl rfl rfl (fun v H1 hp => ?_) (fun v H1 hp => ?_)
 ·obtain ⟨hn, rfl, rfl⟩ := hp
  ((repeat refine nx ?_); exact AtQ.finP (H' := []) ⟨_, rfl, rfl, .inl ⟨rfl, .inl hn⟩⟩ dR_)
 obtain ⟨p', m, q, t, hc1, hq1, hq2, hq3, rfl, rfl⟩ := hp
 simp only [List.cons_append, List.nil_append]
 try refine gQ ?_
 refine CT.drawnP (Cs px 75 xs :: R) 8 mixed ?_
 refine DTP.tk (k := 1) [0, 1, 2, 3, 4, 5, 6, 7] [8] ?_
 try refine gL ?_
 refine RT.ldB T rfl (rD (hD)) rfl rfl rfl rfl ?_
 skip
 refine RT.ldB T rfl (rD (hbd)) rfl rfl rfl rfl ?_
 repeat' (first|refine gL ?_|(refine gv ?_;first|(refine⟨fun hc=>?_,fun hc=>?_⟩<;>first|(exfalso;omega)|skip)|refine gk ?_)|fail)
 rotate_left
 ·refine AtQ.takeP ?_
  refine DTP.ef 8 ?_
  (refine RT.callP T rfl fR_ (need_f (rD (hD))) rfl rfl rfl (fun v H1 hp => ?_) (fun v H1 hp => ?_))
  ·obtain ⟨rfl, rfl⟩ := hp
   ((repeat refine nx ?_); exact AtQ.finP (H' := []) ⟨_, rfl, rfl, .inl ⟨rfl, .inr (by omega)⟩⟩ dR_)
  ·exact hp.elim
 refine AtQ.takeP ?_
 refine DTP.ef 8 ?_
 (refine RT.call T rfl fR_ (need_t) rfl rfl rfl ?_; rintro _ _ ⟨rfl, rfl⟩; try simp only [List.cons_append, List.nil_append])
 try refine gL ?_
 refine AtQ.eq ?_
 refine DTP.dn ?_
 try refine gQ ?_
 refine CT.drawnP (Cs px 75 xs :: R) 20 mixed ?_
 refine DTP.tk (k := 9) [0, 1, 3, 4, 8, 9, 10, 11, 12, 13, 14, 15, 16, 17] [2, 5, 6, 7, 18, 19, 20] ?_
 refine RT.ldB T rfl (rD (ho)) rfl rfl rfl rfl ?_
 try refine gL ?_
 refine RT.ldB T rfl (rD (ho)) rfl rfl rfl rfl ?_
 try refine gL ?_
 refine RT.ldB T rfl (rD (hbl)) rfl rfl rfl rfl ?_
 try refine gL ?_
 refine RT.ldB T rfl (rD (hfm)) hfk rfl rfl rfl ?_
 try refine gL ?_
 refine RT.ldB T rfl (rD (hD)) rfl rfl rfl rfl ?_
 skip
 refine RT.ldB T rfl (rD (hbd)) rfl rfl rfl rfl ?_
 repeat' (first|refine gL ?_|(refine gv ?_;refine gk ?_)|fail)
 refine AtQ.takeP ?_
 refine DTP.ef 2 ?_
 refine RT.callC T (caps := []) rfl rfl fR_ (hof _) hg rfl rfl ?_
 rintro _ _ ⟨rfl, rfl⟩
 simp only [List.nil_append]
 try refine gL ?_
 refine AtQ.ep ?_
 refine DTP.ef 5 ?_
 refine RT.callC T (caps := []) rfl rfl fR_ (hof _) hg rfl rfl ?_
 rintro _ _ ⟨rfl, rfl⟩
 simp only [List.nil_append]
 try refine gL ?_
 refine AtQ.ep ?_
 refine DTP.tk (k := 5) [6, 7] [18, 19, 20] ?_
 refine RT.nilG rfl rfl rfl ?_
 refine RT.ldB T rfl (Cs.rd .h) hu rfl rfl rfl ?_
 try refine gL ?_
 refine AtQ.takeP ?_
 refine DTP.ef 18 ?_
 refine RT.callP T rfl fR_ (hrd (by omega) _ (fun _ _ _ _ _ h => (rD (h))) p' q t hq2 (by omega)) rfl rfl rfl (fun v H1 hp => ?_) (fun v H1 hp => ?_)
 ·obtain ⟨pl, he, rfl, rfl⟩ := hp
  ((repeat refine nx ?_); exact AtQ.finP (H' := []) ⟨_, rfl, rfl, .inr ⟨m, q, t, pl, hc1, by omega, he, rfl⟩⟩ dR_)
 obtain ⟨x, he, rfl, rfl⟩ := hp
 simp only [List.cons_append, List.nil_append]
 obtain ⟨x1, x2, x3, x4, x5, x6, x7, x8, x9⟩ := x
 try refine gL ?_
 refine AtQ.ep ?_
 refine DTP.ef 19 ?_
 refine RT.bsA T (l := MsgT.cells (MsgT.mk x1 x2 x3 x4 x5 x6 x7 x8 x9)) rfl rfl rfl rfl rfl rfl rfl rfl (fun a9 => ?_)
 try refine gL ?_
 refine AtQ.ep ?_
 refine DTP.ef 20 ?_
 refine RT.app T (xs := l.flatMap MsgT.cells) (ys := MsgT.cells (MsgT.mk x1 x2 x3 x4 x5 x6 x7 x8 x9)) rfl rfl rfl (fun a' c' => by ((repeat constructor);done)) (Own.rd sE_ rfl (Nat.le_refl _)) (one_ms _) (by omega) (by omega) rfl rfl rfl rfl (fun a' c' hac => ?_)
 try refine gL ?_
 refine AtQ.eq ?_
 refine DTP.ef 21 ?_
 refine RT.nilG rfl rfl rfl ?_
 try refine gL ?_
 refine AtQ.eq ?_
 refine DTP.ef 22 ?_
 refine RT.st T rfl rfl rfl (by ((repeat constructor);done)) (setN_set hx) rfl rfl ?_
 try refine gL ?_
 refine AtQ.eq ?_
 refine DTP.dn ?_
 skip
 refine AtQ.ofFinN (AtQ.fin0 (H' := [Cs px 75 (xs.set off (.slice a' (l.length + 1) c')), Own a' c' 187 7 (l.length + 1) ((l ++ [(MsgT.mk x1 x2 x3 x4 x5 x6 x7 x8 x9)]).flatMap MsgT.cells), Bag ((l ++ [(MsgT.mk x1 x2 x3 x4 x5 x6 x7 x8 x9)]).flatMap ow), rdo pr a n c t to]) Tryz.results246 ?_ (fun w h => ?_) _ (by first | exact .inl rfl | exact .inr rfl))
 ·exact ⟨m, q, t, a', c', (MsgT.mk x1 x2 x3 x4 x5 x6 x7 x8 x9), hc1, by omega, he, hq1, hq2, hq3, rfl⟩
 ·rw [flat_app] at h
  have h2 := h.frd (Ps := [Bag (ow (MsgT.mk x1 x2 x3 x4 x5 x6 x7 x8 x9)), Bag (l.flatMap ow), Cs px 75 (xs.set off (.slice a' (l.length + 1) c')), Own a' c' 187 7 (l.length + 1) ((l ++ [(MsgT.mk x1 x2 x3 x4 x5 x6 x7 x8 x9)]).flatMap MsgT.cells), rdo pr a n c t to]) (Qs := [_]) fR_
  exact (Bag.join h2).frd (Ps := [_, _, _, _]) (Qs := []) fR_
set_option maxHeartbeats 4000000 in
theorem some_File_EnumDef_get {bd bl tp kk sn sc : Nat} {sa : Option Addr} {dpr : Int} {fms : List Value} (hD : Rd B R (some ⟨pd, 0, none⟩) 1 1 3 [ptr pr, .int .i64 at_, .int .i64 deep]) (hR : Rd B R a n c 1 (ints .u8 bs)) (hb : Bytes bs) (h1 : p ≤ to) (h2 : to ≤ n) (h3 : n ≤ 16777216) (ho : Rd B R (some ⟨bo, 0, none⟩) 1 1 1 [.func (.func g) #[] #[]]) (hg : al T.funs g = some gb) (hof : ∀ R, Sp B Tryz.prog g [ptr px] R [] (fun v H' => v = .pointer (some ⟨px, off, none⟩) ∧ H' = [])) (hbd : Rd B R (some ⟨bd, 0, none⟩) 1 1 1 [.int .i64 dpr]) (hbl : Rd B R (some ⟨bl, 0, none⟩) 1 1 1 [.pointer (some ⟨tp, kk, none⟩)]) (hfm : Rd B R (some ⟨tp, 0, none⟩) 1 1 8 fms) (hfk : fms[kk]? = some (.slice sa sn sc)) (hd0 : 0 ≤ deep) (hd1 : deep ≤ 1000) (hd2 : 0 ≤ dpr) (hd3 : dpr ≤ 1) {ar : Option Addr} {cr : Nat} {l : List EnumT} (hu : xs[off]? = some (.slice ar l.length cr)) (hll : l.length ≤ 16777216) {er : EnumT → EnumT} {ow : EnumT → List HP} {rdp : Nat → Nat → Except Nat EnumT} (hrd : deep + dpr ≤ 100 → RdrC B R 232 (.slice sa sn sc) (deep + dpr) a n c EnumT.cells er ow rdp) :
  SpP B Tryz.prog 248 [ptr pd, ptr px, ptr bd, ptr bo, ptr bl] R [Cs px 75 xs, Own ar cr 85 5 l.length (l.flatMap EnumT.cells), Bag (l.flatMap ow), rdo pr a n c p to] (fun _ H' => ∃ m q t a' c' x, contL .rs bs p to = some (m, q, t) ∧ ¬ 100 < deep + dpr ∧ rdp q t = .ok (er x) ∧ t ≤ to ∧ q ≤ t ∧ p < q ∧ H' = [Cs px 75 (xs.set off (.slice a' (l.length + 1) c')), Own a' c' 85 5 (l.length + 1) ((l ++ [x]).flatMap EnumT.cells), Bag ((l ++ [x]).flatMap ow), rdo pr a n c t to]) (PPS bs p to (deep + dpr) at_ rdp) := by
 have hx : off < xs.length := (List.getElem?_eq_some_iff.1 hu).1
 refine SpP.body Tryz.func248 rfl Tryz.ntmps248 (by simp) ?_
 simp only [argE, List.cons_append, List.nil_append, Nat.zero_add, Nat.reduceAdd]
 try refine gL ?_
 refine RT.callP T rfl fR_ (ipart_fn (rD (hD)) (rD (hR)) hb h1 h2 h3) rfl rfl rfl (fun v H1 hp => ?_) (fun v H1 hp => ?_)
 ·obtain ⟨hn, rfl, rfl⟩ := hp
  ((repeat refine nx ?_); exact AtQ.finP (H' := []) ⟨_, rfl, rfl, .inl ⟨rfl, .inl hn⟩⟩ dR_)
 obtain ⟨p', m, q, t, hc1, hq1, hq2, hq3, rfl, rfl⟩ := hp
 simp only [List.cons_append, List.nil_append]
 try refine gQ ?_
 refine CT.drawnP (Cs px 75 xs :: R) 8 mixed ?_
 refine DTP.tk (k := 1) [0, 1, 2, 3, 4, 5, 6, 7] [8] ?_
 try refine gL ?_
 refine RT.ldB T rfl (rD (hD)) rfl rfl rfl rfl ?_
 skip
 refine RT.ldB T rfl (rD (hbd)) rfl rfl rfl rfl ?_
 repeat' (first|refine gL ?_|(refine gv ?_;first|(refine⟨fun hc=>?_,fun hc=>?_⟩<;>first|(exfalso;omega)|skip)|refine gk ?_)|fail)
 rotate_left
 ·refine AtQ.takeP ?_
  refine DTP.ef 8 ?_
  (refine RT.callP T rfl fR_ (need_f (rD (hD))) rfl rfl rfl (fun v H1 hp => ?_) (fun v H1 hp => ?_))
  ·obtain ⟨rfl, rfl⟩ := hp
   ((repeat refine nx ?_); exact AtQ.finP (H' := []) ⟨_, rfl, rfl, .inl ⟨rfl, .inr (by omega)⟩⟩ dR_)
  ·exact hp.elim
 refine AtQ.takeP ?_
 refine DTP.ef 8 ?_
 (refine RT.call T rfl fR_ (need_t) rfl rfl rfl ?_; rintro _ _ ⟨rfl, rfl⟩; try simp only [List.cons_append, List.nil_append])
 try refine gL ?_
 refine AtQ.eq ?_
 refine DTP.dn ?_
 try refine gQ ?_
 refine CT.drawnP (Cs px 75 xs :: R) 20 mixed ?_
 refine DTP.tk (k := 9) [0, 1, 3, 4, 8, 9, 10, 11, 12, 13, 14, 15, 16, 17] [2, 5, 6, 7, 18, 19, 20] ?_
 refine RT.ldB T rfl (rD (ho)) rfl rfl rfl rfl ?_
 try refine gL ?_
 refine RT.ldB T rfl (rD (ho)) rfl rfl rfl rfl ?_
 try refine gL ?_
 refine RT.ldB T rfl (rD (hbl)) rfl rfl rfl rfl ?_
 try refine gL ?_
 refine RT.ldB T rfl (rD (hfm)) hfk rfl rfl rfl ?_
 try refine gL ?_
 refine RT.ldB T rfl (rD (hD)) rfl rfl rfl rfl ?_
 skip
 refine RT.ldB T rfl (rD (hbd)) rfl rfl rfl rfl ?_
 repeat' (first|refine gL ?_|(refine gv ?_;refine gk ?_)|fail)
 refine AtQ.takeP ?_
 refine DTP.ef 2 ?_
 refine RT.callC T (caps := []) rfl rfl fR_ (hof _) hg rfl rfl ?_
 rintro _ _ ⟨rfl, rfl⟩
 simp only [List.nil_append]
 try refine gL ?_
 refine AtQ.ep ?_
 refine DTP.ef 5 ?_
 refine RT.callC T (caps := []) rfl rfl fR_ (hof _) hg rfl rfl ?_
 rintro _ _ ⟨rfl, rfl⟩
 simp only [List.nil_append]
 try refine gL ?_
 refine AtQ.ep ?_
 refine DTP.tk (k := 5) [6, 7] [18, 19, 20] ?_
 refine RT.nilG rfl rfl rfl ?_
 refine RT.ldB T rfl (Cs.rd .h) hu rfl rfl rfl ?_
 try refine gL ?_
 refine AtQ.takeP ?_
 refine DTP.ef 18 ?_
 refine RT.callP T rfl fR_ (hrd (by omega) _ (fun _ _ _ _ _ h => (rD (h))) p' q t hq2 (by omega)) rfl rfl rfl (fun v H1 hp => ?_) (fun v H1 hp => ?_)
 ·obtain ⟨pl, he, rfl, rfl⟩ := hp
  ((repeat refine nx ?_); exact AtQ.finP (H' := []) ⟨_, rfl, rfl, .inr ⟨m, q, t, pl, hc1, by omega, he, rfl⟩⟩ dR_)
 obtain ⟨x, he, rfl, rfl⟩ := hp
 simp only [List.cons_append, List.nil_append]
 try refine gL ?_
 refine AtQ.ep ?_
 refine DTP.ef 19 ?_
 refine RT.bsA T (l := EnumT.cells x) rfl rfl rfl rfl rfl rfl rfl rfl (fun a9 => ?_)
 try refine gL ?_
 refine AtQ.ep ?_
 refine DTP.ef 20 ?_
 refine RT.app T (xs := l.flatMap EnumT.cells) (ys := EnumT.cells x) rfl rfl rfl (fun a' c' => by ((repeat constructor);done)) (Own.rd sE_ rfl (Nat.le_refl _)) (one_en _) (by omega) (by omega) rfl rfl rfl rfl (fun a' c' hac => ?_)
 try refine gL ?_
 refine AtQ.eq ?_
 refine DTP.ef 21 ?_
 refine RT.nilG rfl rfl rfl ?_
 try refine gL ?_
 refine AtQ.eq ?_
 refine DTP.ef 22 ?_
 refine RT.st T rfl rfl rfl (by ((repeat constructor);done)) (setN_set hx) rfl rfl ?_
 try refine gL ?_
 refine AtQ.eq ?_
 refine DTP.dn ?_
 skip
 refine AtQ.ofFinN (AtQ.fin0 (H' := [Cs px 75 (xs.set off (.slice a' (l.length + 1) c')), Own a' c' 85 5 (l.length + 1) ((l ++ [x]).flatMap EnumT.cells), Bag ((l ++ [x]).flatMap ow), rdo pr a n c t to]) Tryz.results248 ?_ (fun w h => ?_) _ (by first | exact .inl rfl | exact .inr rfl))
 ·exact ⟨m, q, t, a', c', x, hc1, by omega, he, hq1, hq2, hq3, rfl⟩
 ·rw [flat_app] at h
  have h2 := h.frd (Ps := [Bag (ow x), Bag (l.flatMap ow), Cs px 75 (xs.set off (.slice a' (l.length + 1) c')), Own a' c' 85 5 (l.length + 1) ((l ++ [x]).flatMap EnumT.cells), rdo pr a n c t to]) (Qs := [_]) fR_
  exact (Bag.join h2).frd (Ps := [_, _, _, _]) (Qs := []) fR_
set_option maxHeartbeats 4000000 in
theorem some_set_File_get {bd bl tp kk sn sc : Nat} {sa : Option Addr} {dpr : Int} {fms : List Value} (hD : Rd B R (some ⟨pd, 0, none⟩) 1 1 3 [ptr pr, .int .i64 at_, .int .i64 deep]) (hR : Rd B R a n c 1 (ints .u8 bs)) (hb : Bytes bs) (h1 : p ≤ to) (h2 : to ≤ n) (h3 : n ≤ 16777216) (ho : Rd B R (some ⟨bo, 0, none⟩) 1 1 1 [.func (.func g) #[] #[]]) (hg : al T.funs g = some gb) (hof : ∀ R, Sp B Tryz.prog g [ptr px] R [] (fun v H' => v = .pointer (some ⟨px, off, none⟩) ∧ H' = [])) (hbd : Rd B R (some ⟨bd, 0, none⟩) 1 1 1 [.int .i64 dpr]) (hbl : Rd B R (some ⟨bl, 0, none⟩) 1 1 1 [.pointer (some ⟨tp, kk, none⟩)]) (hfm : Rd B R (some ⟨tp, 0, none⟩) 1 1 8 fms) (hfk : fms[kk]? = some (.slice sa sn sc)) (hd0 : 0 ≤ deep) (hd1 : deep ≤ 1000) (hd2 : 0 ≤ dpr) (hd3 : dpr ≤ 1) {ar : Option Addr} {cr : Nat} {l : List FileT} (hu : xs[off]? = some (.slice ar l.length cr)) (hll : l.length ≤ 16777216) {er : FileT → FileT} {ow : FileT → List HP} {rdp : Nat → Nat → Except Nat FileT} (hrd : deep + dpr ≤ 100 → RdrC B R 252 (.slice sa sn sc) (deep + dpr) a n c FileT.cells er ow rdp) :
  SpP B Tryz.prog 251 [ptr pd, ptr px, ptr bd, ptr bo, ptr bl] R [Cs px 98 xs, Own ar cr 75 5 l.length (l.flatMap FileT.cells), Bag (l.flatMap ow), rdo pr a n c p to] (fun _ H' => ∃ m q t a' c' x, contL .rs bs p to = some (m, q, t) ∧ ¬ 100 < deep + dpr ∧ rdp q t = .ok (er x) ∧ t ≤ to ∧ q ≤ t ∧ p < q ∧ H' = [Cs px 98 (xs.set off (.slice a' (l.length + 1) c')), Own a' c' 75 5 (l.length + 1) ((l ++ [x]).flatMap FileT.cells), Bag ((l ++ [x]).flatMap ow), rdo pr a n c t to]) (PPS bs p to (deep + dpr) at_ rdp) := by
 have hx : off < xs.length := (List.getElem?_eq_some_iff.1 hu).1
 refine SpP.body Tryz.func251 rfl Tryz.ntmps251 (by simp) ?_
 simp only [argE, List.cons_append, List.nil_append, Nat.zero_add, Nat.reduceAdd]
 try refine gL ?_
 refine RT.callP T rfl fR_ (ipart_fn (rD (hD)) (rD (hR)) hb h1 h2 h3) rfl rfl rfl (fun v H1 hp => ?_) (fun v H1 hp => ?_)
 ·obtain ⟨hn, rfl, rfl⟩ := hp
  ((repeat refine nx ?_); exact AtQ.finP (H' := []) ⟨_, rfl, rfl, .inl ⟨rfl, .inl hn⟩⟩ dR_)
 obtain ⟨p', m, q, t, hc1, hq1, hq2, hq3, rfl, rfl⟩ := hp
 simp only [List.cons_append, List.nil_append]
 try refine gQ ?_
 refine CT.drawnP (Cs px 98 xs :: R) 8 mixed ?_
 refine DTP.tk (k := 1) [0, 1, 2, 3, 4, 5, 6, 7] [8] ?_
 try refine gL ?_
 refine RT.ldB T rfl (rD (hD)) rfl rfl rfl rfl ?_
 skip
 refine RT.ldB T rfl (rD (hbd)) rfl rfl rfl rfl ?_
 repeat' (first|refine gL ?_|(refine gv ?_;first|(refine⟨fun hc=>?_,fun hc=>?_⟩<;>first|(exfalso;omega)|skip)|refine gk ?_)|fail)
 rotate_left
 ·refine AtQ.takeP ?_
  refine DTP.ef 8 ?_
  (refine RT.callP T rfl fR_ (need_f (rD (hD))) rfl rfl rfl (fun v H1 hp => ?_) (fun v H1 hp => ?_))
  ·obtain ⟨rfl, rfl⟩ := hp
   ((repeat refine nx ?_); exact AtQ.finP (H' := []) ⟨_, rfl, rfl, .inl ⟨rfl, .inr (by omega)⟩⟩ dR_)
  ·exact hp.elim
 refine AtQ.takeP ?_
 refine DTP.ef 8 ?_
 (refine RT.call T rfl fR_ (need_t) rfl rfl rfl ?_; rintro _ _ ⟨rfl, rfl⟩; try simp only [List.cons_append, List.nil_append])
 try refine gL ?_
 refine AtQ.eq ?_
 refine DTP.dn ?_
 try refine gQ ?_
 refine CT.drawnP (Cs px 98 xs :: R) 20 mixed ?_
 refine DTP.tk (k := 9) [0, 1, 3, 4, 8, 9, 10, 11, 12, 13, 14, 15, 16, 17] [2, 5, 6, 7, 18, 19, 20] ?_
 refine RT.ldB T rfl (rD (ho)) rfl rfl rfl rfl ?_
 try refine gL ?_
 refine RT.ldB T rfl (rD (ho)) rfl rfl rfl rfl ?_
 try refine gL ?_
 refine RT.ldB T rfl (rD (hbl)) rfl rfl rfl rfl ?_
 try refine gL ?_
 refine RT.ldB T rfl (rD (hfm)) hfk rfl rfl rfl ?_
 try refine gL ?_
 refine RT.ldB T rfl (rD (hD)) rfl rfl rfl rfl ?_
 skip
 refine RT.ldB T rfl (rD (hbd)) rfl rfl rfl rfl ?_
 repeat' (first|refine gL ?_|(refine gv ?_;refine gk ?_)|fail)
 refine AtQ.takeP ?_
 refine DTP.ef 2 ?_
 refine RT.callC T (caps := []) rfl rfl fR_ (hof _) hg rfl rfl ?_
 rintro _ _ ⟨rfl, rfl⟩
 simp only [List.nil_append]
 try refine gL ?_
 refine AtQ.ep ?_
 refine DTP.ef 5 ?_
 refine RT.callC T (caps := []) rfl rfl fR_ (hof _) hg rfl rfl ?_
 rintro _ _ ⟨rfl, rfl⟩
 simp only [List.nil_append]
 try refine gL ?_
 refine AtQ.ep ?_
 refine DTP.tk (k := 5) [6, 7] [18, 19, 20] ?_
 refine RT.nilG rfl rfl rfl ?_
 refine RT.ldB T rfl (Cs.rd .h) hu rfl rfl rfl ?_
 try refine gL ?_
 refine AtQ.takeP ?_
 refine DTP.ef 18 ?_
 refine RT.callP T rfl fR_ (hrd (by omega) _ (fun _ _ _ _ _ h => (rD (h))) p' q t hq2 (by omega)) rfl rfl rfl (fun v H1 hp => ?_) (fun v H1 hp => ?_)
 ·obtain ⟨pl, he, rfl, rfl⟩ := hp
  ((repeat refine nx ?_); exact AtQ.finP (H' := []) ⟨_, rfl, rfl, .inr ⟨m, q, t, pl, hc1, by omega, he, rfl⟩⟩ dR_)
 obtain ⟨x, he, rfl, rfl⟩ := hp
 simp only [List.cons_append, List.nil_append]
 try refine gL ?_
 refine AtQ.ep ?_
 refine DTP.ef 19 ?_
 refine RT.bsA T (l := FileT.cells x) rfl rfl rfl rfl rfl rfl rfl rfl (fun a9 => ?_)
 try refine gL ?_
 refine AtQ.ep ?_
 refine DTP.ef 20 ?_
 refine RT.app T (xs := l.flatMap FileT.cells) (ys := FileT.cells x) rfl rfl rfl (fun a' c' => by ((repeat constructor);done)) (Own.rd sE_ rfl (Nat.le_refl _)) (one_fl _) (by omega) (by omega) rfl rfl rfl rfl (fun a' c' hac => ?_)
 try refine gL ?_
 refine AtQ.eq ?_
 refine DTP.ef 21 ?_
 refine RT.nilG rfl rfl rfl ?_
 try refine gL ?_
 refine AtQ.eq ?_
 refine DTP.ef 22 ?_
 refine RT.st T rfl rfl rfl (by ((repeat constructor);done)) (setN_set hx) rfl rfl ?_
 try refine gL ?_
 refine AtQ.eq ?_
 refine DTP.dn ?_
 skip
 refine AtQ.ofFinN (AtQ.fin0 (H' := [Cs px 98 (xs.set off (.slice a' (l.length + 1) c')), Own a' c' 75 5 (l.length + 1) ((l ++ [x]).flatMap FileT.cells), Bag ((l ++ [x]).flatMap ow), rdo pr a n c t to]) Tryz.results251 ?_ (fun w h => ?_) _ (by first | exact .inl rfl | exact .inr rfl))
 ·exact ⟨m, q, t, a', c', x, hc1, by omega, he, hq1, hq2, hq3, rfl⟩
 ·rw [flat_app] at h
  have h2 := h.frd (Ps := [Bag (ow x), Bag (l.flatMap ow), Cs px 98 (xs.set off (.slice a' (l.length + 1) c')), Own a' c' 75 5 (l.length + 1) ((l ++ [x]).flatMap FileT.cells), rdo pr a n c t to]) (Qs := [_]) fR_
  exact (Bag.join h2).frd (Ps := [_, _, _, _]) (Qs := []) fR_
end Go.Proofs.YtclcnhfponjdaaaGreatDoor
end
section
namespace Go.Proofs.YtclcnhfponjdaaaGreatDoor
open Go.Sk
set_option maxRecDepth 100000
/-- A field of a record, as a struct. -/
structure FP where
 num : Int
 kind : Int
 lst : Bool
 fp : FuncId
 cp : List Value
 fg : FuncId
 cg : List Value
def FP.cells (f : FP) : List Value := [.int .i32 f.num, .int .u8 f.kind, .bool f.lst, .func (.func f.fp) #[] f.cp.toArray, .func (.func f.fg) #[] f.cg.toArray]
/-- Where the tables lie: the struct of forms, the rows, the boxes of the closures. -/
structure TB where
 p : Nat
 rows : List (Option Addr × Nat)
 bx : List Nat
def TB.b (t : TB) (k : Nat) : Nat := t.bx.getD k 0
def TB.bp (t : TB) (k : Nat) : Value := ptr (t.b k)
def TB.ra (t : TB) (j : Nat) : Option Addr := (t.rows.getD j (none, 0)).1
def TB.rc (t : TB) (j : Nat) : Nat := (t.rows.getD j (none, 0)).2
def TB.sl (t : TB) (j n : Nat) : Value := .slice (t.ra j) n (t.rc j)
def fs0 (t : TB) : List FP := [⟨1, 2, true, 249, [t.bp 85, t.bp 82, t.bp 83], 251, [t.bp 84, t.bp 85, t.bp 83]⟩]
def fs1 (t : TB) : List FP := [⟨1, 2, false, 239, [t.bp 67, t.bp 66], 240, [t.bp 67]⟩, ⟨2, 2, false, 239, [t.bp 69, t.bp 68], 240, [t.bp 69]⟩, ⟨3, 2, true, 241, [t.bp 73, t.bp 70, t.bp 71], 243, [t.bp 72, t.bp 73, t.bp 71]⟩, ⟨4, 2, true, 245, [t.bp 77, t.bp 74, t.bp 75], 246, [t.bp 76, t.bp 77, t.bp 75]⟩, ⟨5, 2, true, 247, [t.bp 81, t.bp 78, t.bp 79], 248, [t.bp 80, t.bp 81, t.bp 79]⟩]
def fs2 (t : TB) : List FP := [⟨1, 2, false, 235, [t.bp 63, t.bp 62], 236, [t.bp 63]⟩, ⟨2, 0, false, 237, [t.bp 65, t.bp 64], 238, [t.bp 65]⟩]
def fs3 (t : TB) : List FP := [⟨1, 2, false, 217, [t.bp 41, t.bp 40], 218, [t.bp 41]⟩, ⟨2, 2, true, 219, [t.bp 45, t.bp 42, t.bp 43], 221, [t.bp 44, t.bp 45, t.bp 43]⟩, ⟨3, 2, true, 223, [t.bp 47, t.bp 46], 224, [t.bp 47]⟩, ⟨4, 2, true, 225, [t.bp 51, t.bp 48, t.bp 49], 227, [t.bp 50, t.bp 51, t.bp 49]⟩, ⟨5, 2, true, 229, [t.bp 55, t.bp 52, t.bp 53], 231, [t.bp 54, t.bp 55, t.bp 53]⟩, ⟨6, 2, true, 233, [t.bp 59, t.bp 56, t.bp 57], 234, [t.bp 58, t.bp 59, t.bp 57]⟩, ⟨7, 2, true, 223, [t.bp 61, t.bp 60], 224, [t.bp 61]⟩]
def fs4 (t : TB) : List FP := [⟨1, 2, false, 205, [t.bp 23, t.bp 22], 206, [t.bp 23]⟩, ⟨2, 0, false, 207, [t.bp 25, t.bp 24], 208, [t.bp 25]⟩, ⟨3, 0, false, 209, [t.bp 27, t.bp 26], 210, [t.bp 27]⟩, ⟨4, 0, false, 211, [t.bp 29, t.bp 28], 212, [t.bp 29]⟩, ⟨5, 2, false, 205, [t.bp 31, t.bp 30], 206, [t.bp 31]⟩, ⟨6, 0, false, 211, [t.bp 33, t.bp 32], 212, [t.bp 33]⟩, ⟨7, 0, false, 213, [t.bp 35, t.bp 34], 214, [t.bp 35]⟩, ⟨8, 0, false, 215, [t.bp 37, t.bp 36], 216, [t.bp 37]⟩, ⟨9, 2, false, 205, [t.bp 39, t.bp 38], 206, [t.bp 39]⟩]
def fs5 (t : TB) : List FP := [⟨1, 2, false, 188, [t.bp 9, t.bp 8], 189, [t.bp 9]⟩, ⟨2, 2, true, 190, [t.bp 13, t.bp 10, t.bp 11], 194, [t.bp 12, t.bp 13, t.bp 11]⟩, ⟨3, 0, false, 197, [t.bp 15, t.bp 14], 198, [t.bp 15]⟩, ⟨4, 2, true, 199, [t.bp 19, t.bp 16, t.bp 17], 201, [t.bp 18, t.bp 19, t.bp 17]⟩, ⟨5, 2, true, 203, [t.bp 21, t.bp 20], 204, [t.bp 21]⟩]
def fs6 (t : TB) : List FP := [⟨1, 2, false, 182, [t.bp 5, t.bp 4], 184, [t.bp 5]⟩, ⟨2, 0, false, 186, [t.bp 7, t.bp 6], 187, [t.bp 7]⟩]
def fs7 (t : TB) : List FP := [⟨1, 0, false, 175, [t.bp 1, t.bp 0], 179, [t.bp 1]⟩, ⟨2, 0, false, 175, [t.bp 3, t.bp 2], 179, [t.bp 3]⟩]
def TB.forms (t : TB) : List Value := [t.sl 0 1, t.sl 1 5, t.sl 2 2, t.sl 3 7, t.sl 4 9, t.sl 5 5, t.sl 6 2, t.sl 7 2]
def boxes (t : TB) : List (Nat × TypeId × Value) := [(t.b 0, 21, .int .i32 1),
 (t.b 1, 199, .func (.func 86) #[] #[]),
 (t.b 2, 21, .int .i32 2),
 (t.b 3, 199, .func (.func 87) #[] #[]),
 (t.b 4, 21, .int .i32 1),
 (t.b 5, 207, .func (.func 89) #[] #[]),
 (t.b 6, 21, .int .i32 2),
 (t.b 7, 209, .func (.func 91) #[] #[]),
 (t.b 8, 21, .int .i32 1),
 (t.b 9, 216, .func (.func 93) #[] #[]),
 (t.b 10, 21, .int .i32 2),
 (t.b 11, 218, .pointer (some ⟨t.p, 6, none⟩)),
 (t.b 12, 3, .int .i64 0),
 (t.b 13, 220, .func (.func 95) #[] #[]),
 (t.b 14, 21, .int .i32 3),
 (t.b 15, 223, .func (.func 97) #[] #[]),
 (t.b 16, 21, .int .i32 4),
 (t.b 17, 225, .pointer (some ⟨t.p, 7, none⟩)),
 (t.b 18, 3, .int .i64 0),
 (t.b 19, 227, .func (.func 99) #[] #[]),
 (t.b 20, 21, .int .i32 5),
 (t.b 21, 230, .func (.func 101) #[] #[]),
 (t.b 22, 21, .int .i32 1),
 (t.b 23, 242, .func (.func 103) #[] #[]),
 (t.b 24, 21, .int .i32 2),
 (t.b 25, 244, .func (.func 105) #[] #[]),
 (t.b 26, 21, .int .i32 3),
 (t.b 27, 247, .func (.func 107) #[] #[]),
 (t.b 28, 21, .int .i32 4),
 (t.b 29, 250, .func (.func 109) #[] #[]),
 (t.b 30, 21, .int .i32 5),
 (t.b 31, 242, .func (.func 110) #[] #[]),
 (t.b 32, 21, .int .i32 6),
 (t.b 33, 250, .func (.func 111) #[] #[]),
 (t.b 34, 21, .int .i32 7),
 (t.b 35, 253, .func (.func 113) #[] #[]),
 (t.b 36, 21, .int .i32 8),
 (t.b 37, 256, .func (.func 115) #[] #[]),
 (t.b 38, 21, .int .i32 9),
 (t.b 39, 242, .func (.func 116) #[] #[]),
 (t.b 40, 21, .int .i32 1),
 (t.b 41, 263, .func (.func 118) #[] #[]),
 (t.b 42, 21, .int .i32 2),
 (t.b 43, 265, .pointer (some ⟨t.p, 4, none⟩)),
 (t.b 44, 3, .int .i64 0),
 (t.b 45, 267, .func (.func 120) #[] #[]),
 (t.b 46, 21, .int .i32 3),
 (t.b 47, 269, .func (.func 122) #[] #[]),
 (t.b 48, 21, .int .i32 4),
 (t.b 49, 271, .pointer (some ⟨t.p, 3, none⟩)),
 (t.b 50, 3, .int .i64 1),
 (t.b 51, 273, .func (.func 124) #[] #[]),
 (t.b 52, 21, .int .i32 5),
 (t.b 53, 275, .pointer (some ⟨t.p, 5, none⟩)),
 (t.b 54, 3, .int .i64 0),
 (t.b 55, 277, .func (.func 126) #[] #[]),
 (t.b 56, 21, .int .i32 6),
 (t.b 57, 225, .pointer (some ⟨t.p, 7, none⟩)),
 (t.b 58, 3, .int .i64 0),
 (t.b 59, 279, .func (.func 128) #[] #[]),
 (t.b 60, 21, .int .i32 7),
 (t.b 61, 269, .func (.func 129) #[] #[]),
 (t.b 62, 21, .int .i32 1),
 (t.b 63, 286, .func (.func 131) #[] #[]),
 (t.b 64, 21, .int .i32 2),
 (t.b 65, 288, .func (.func 133) #[] #[]),
 (t.b 66, 21, .int .i32 1),
 (t.b 67, 295, .func (.func 135) #[] #[]),
 (t.b 68, 21, .int .i32 2),
 (t.b 69, 295, .func (.func 136) #[] #[]),
 (t.b 70, 21, .int .i32 3),
 (t.b 71, 297, .pointer (some ⟨t.p, 2, none⟩)),
 (t.b 72, 3, .int .i64 0),
 (t.b 73, 299, .func (.func 138) #[] #[]),
 (t.b 74, 21, .int .i32 4),
 (t.b 75, 271, .pointer (some ⟨t.p, 3, none⟩)),
 (t.b 76, 3, .int .i64 1),
 (t.b 77, 301, .func (.func 140) #[] #[]),
 (t.b 78, 21, .int .i32 5),
 (t.b 79, 275, .pointer (some ⟨t.p, 5, none⟩)),
 (t.b 80, 3, .int .i64 0),
 (t.b 81, 303, .func (.func 142) #[] #[]),
 (t.b 82, 21, .int .i32 1),
 (t.b 83, 308, .pointer (some ⟨t.p, 1, none⟩)),
 (t.b 84, 3, .int .i64 0),
 (t.b 85, 310, .func (.func 144) #[] #[])]
/-- The tables can be read. -/
structure Facts (B : World) (H : List HP) (t : TB) : Prop where
 forms : Rd B H (some ⟨t.p, 0, none⟩) 1 1 8 t.forms
 r0 : Rd B H (t.ra 0) 1 (t.rc 0) 5 ((fs0 t).flatMap FP.cells)
 r1 : Rd B H (t.ra 1) 5 (t.rc 1) 5 ((fs1 t).flatMap FP.cells)
 r2 : Rd B H (t.ra 2) 2 (t.rc 2) 5 ((fs2 t).flatMap FP.cells)
 r3 : Rd B H (t.ra 3) 7 (t.rc 3) 5 ((fs3 t).flatMap FP.cells)
 r4 : Rd B H (t.ra 4) 9 (t.rc 4) 5 ((fs4 t).flatMap FP.cells)
 r5 : Rd B H (t.ra 5) 5 (t.rc 5) 5 ((fs5 t).flatMap FP.cells)
 r6 : Rd B H (t.ra 6) 2 (t.rc 6) 5 ((fs6 t).flatMap FP.cells)
 r7 : Rd B H (t.ra 7) 2 (t.rc 7) 5 ((fs7 t).flatMap FP.cells)
 box : ∀ (k b : Nat) (ty : TypeId) (v : Value), (boxes t)[k]? = some (b, ty, v) → Rd B H (some ⟨b, 0, none⟩) 1 1 1 [v]
theorem Facts.cons {B : World} {H : List HP} {t : TB} {p : HP} (h : Facts B H t) : Facts B (p :: H) t := ⟨h.forms.cons, h.r0.cons, h.r1.cons, h.r2.cons, h.r3.cons, h.r4.cons, h.r5.cons, h.r6.cons, h.r7.cons, fun k b ty v e => (h.box k b ty v e).cons⟩
theorem Facts.under {B : World} {H : List HP} {t : TB} (h : Facts B H t) : ∀ H2, Facts B (H2 ++ H) t
 | [] => h
 | _ :: H2 => (Facts.under h H2).cons
attribute [local irreducible] Cs Own Ex Pu Yld RT LJ QJ AtQ CT Rd QSp Sp FinQ Then LoopQ CutQ DT TakeQ EffQ
variable {B : World}
theorem of1_fn (ad : Addr) (R : List HP) : Sp B Tryz.prog 86 [.pointer (some ad)] R [] (fun v H' => v = .pointer (some (ad.add 0)) ∧ H' = []) := by
 refine Sp.body Tryz.func86 rfl Tryz.ntmps86 (by simp) ?_
 simp only [argE, List.cons_append, List.nil_append, Nat.zero_add, Nat.reduceAdd]
 try refine gL ?_
 refine RT.mv1 rfl rfl rfl ?_
 refine RT.nilG rfl rfl rfl ?_
 refine RT.faG T rfl rfl rfl rfl ?_
 try refine gL ?_
 exact AtQ.f1 Tryz.results86 rfl rfl (fun w h => h)
theorem of2_fn (ad : Addr) (R : List HP) : Sp B Tryz.prog 87 [.pointer (some ad)] R [] (fun v H' => v = .pointer (some (ad.add 1)) ∧ H' = []) := by
 refine Sp.body Tryz.func87 rfl Tryz.ntmps87 (by simp) ?_
 simp only [argE, List.cons_append, List.nil_append, Nat.zero_add, Nat.reduceAdd]
 try refine gL ?_
 refine RT.mv1 rfl rfl rfl ?_
 refine RT.nilG rfl rfl rfl ?_
 refine RT.faG T rfl rfl rfl rfl ?_
 try refine gL ?_
 exact AtQ.f1 Tryz.results87 rfl rfl (fun w h => h)
theorem of3_fn (ad : Addr) (R : List HP) : Sp B Tryz.prog 89 [.pointer (some ad)] R [] (fun v H' => v = .pointer (some (ad.add 0)) ∧ H' = []) := by
 refine Sp.body Tryz.func89 rfl Tryz.ntmps89 (by simp) ?_
 simp only [argE, List.cons_append, List.nil_append, Nat.zero_add, Nat.reduceAdd]
 try refine gL ?_
 refine RT.mv1 rfl rfl rfl ?_
 refine RT.nilG rfl rfl rfl ?_
 refine RT.faG T rfl rfl rfl rfl ?_
 try refine gL ?_
 exact AtQ.f1 Tryz.results89 rfl rfl (fun w h => h)
theorem of4_fn (ad : Addr) (R : List HP) : Sp B Tryz.prog 91 [.pointer (some ad)] R [] (fun v H' => v = .pointer (some (ad.add 1)) ∧ H' = []) := by
 refine Sp.body Tryz.func91 rfl Tryz.ntmps91 (by simp) ?_
 simp only [argE, List.cons_append, List.nil_append, Nat.zero_add, Nat.reduceAdd]
 try refine gL ?_
 refine RT.mv1 rfl rfl rfl ?_
 refine RT.nilG rfl rfl rfl ?_
 refine RT.faG T rfl rfl rfl rfl ?_
 try refine gL ?_
 exact AtQ.f1 Tryz.results91 rfl rfl (fun w h => h)
theorem of5_fn (ad : Addr) (R : List HP) : Sp B Tryz.prog 93 [.pointer (some ad)] R [] (fun v H' => v = .pointer (some (ad.add 0)) ∧ H' = []) := by
 refine Sp.body Tryz.func93 rfl Tryz.ntmps93 (by simp) ?_
 simp only [argE, List.cons_append, List.nil_append, Nat.zero_add, Nat.reduceAdd]
 try refine gL ?_
 refine RT.mv1 rfl rfl rfl ?_
 refine RT.nilG rfl rfl rfl ?_
 refine RT.faG T rfl rfl rfl rfl ?_
 try refine gL ?_
 exact AtQ.f1 Tryz.results93 rfl rfl (fun w h => h)
theorem of6_fn (ad : Addr) (R : List HP) : Sp B Tryz.prog 95 [.pointer (some ad)] R [] (fun v H' => v = .pointer (some (ad.add 1)) ∧ H' = []) := by
 refine Sp.body Tryz.func95 rfl Tryz.ntmps95 (by simp) ?_
 simp only [argE, List.cons_append, List.nil_append, Nat.zero_add, Nat.reduceAdd]
 try refine gL ?_
 refine RT.mv1 rfl rfl rfl ?_
 refine RT.nilG rfl rfl rfl ?_
 refine RT.faG T rfl rfl rfl rfl ?_
 try refine gL ?_
 exact AtQ.f1 Tryz.results95 rfl rfl (fun w h => h)
theorem of7_fn (ad : Addr) (R : List HP) : Sp B Tryz.prog 97 [.pointer (some ad)] R [] (fun v H' => v = .pointer (some (ad.add 2)) ∧ H' = []) := by
 refine Sp.body Tryz.func97 rfl Tryz.ntmps97 (by simp) ?_
 simp only [argE, List.cons_append, List.nil_append, Nat.zero_add, Nat.reduceAdd]
 try refine gL ?_
 refine RT.mv1 rfl rfl rfl ?_
 refine RT.nilG rfl rfl rfl ?_
 refine RT.faG T rfl rfl rfl rfl ?_
 try refine gL ?_
 exact AtQ.f1 Tryz.results97 rfl rfl (fun w h => h)
theorem of8_fn (ad : Addr) (R : List HP) : Sp B Tryz.prog 99 [.pointer (some ad)] R [] (fun v H' => v = .pointer (some (ad.add 3)) ∧ H' = []) := by
 refine Sp.body Tryz.func99 rfl Tryz.ntmps99 (by simp) ?_
 simp only [argE, List.cons_append, List.nil_append, Nat.zero_add, Nat.reduceAdd]
 try refine gL ?_
 refine RT.mv1 rfl rfl rfl ?_
 refine RT.nilG rfl rfl rfl ?_
 refine RT.faG T rfl rfl rfl rfl ?_
 try refine gL ?_
 exact AtQ.f1 Tryz.results99 rfl rfl (fun w h => h)
theorem of9_fn (ad : Addr) (R : List HP) : Sp B Tryz.prog 101 [.pointer (some ad)] R [] (fun v H' => v = .pointer (some (ad.add 4)) ∧ H' = []) := by
 refine Sp.body Tryz.func101 rfl Tryz.ntmps101 (by simp) ?_
 simp only [argE, List.cons_append, List.nil_append, Nat.zero_add, Nat.reduceAdd]
 try refine gL ?_
 refine RT.mv1 rfl rfl rfl ?_
 refine RT.nilG rfl rfl rfl ?_
 refine RT.faG T rfl rfl rfl rfl ?_
 try refine gL ?_
 exact AtQ.f1 Tryz.results101 rfl rfl (fun w h => h)
theorem of10_fn (ad : Addr) (R : List HP) : Sp B Tryz.prog 103 [.pointer (some ad)] R [] (fun v H' => v = .pointer (some (ad.add 0)) ∧ H' = []) := by
 refine Sp.body Tryz.func103 rfl Tryz.ntmps103 (by simp) ?_
 simp only [argE, List.cons_append, List.nil_append, Nat.zero_add, Nat.reduceAdd]
 try refine gL ?_
 refine RT.mv1 rfl rfl rfl ?_
 refine RT.nilG rfl rfl rfl ?_
 refine RT.faG T rfl rfl rfl rfl ?_
 try refine gL ?_
 exact AtQ.f1 Tryz.results103 rfl rfl (fun w h => h)
theorem of11_fn (ad : Addr) (R : List HP) : Sp B Tryz.prog 105 [.pointer (some ad)] R [] (fun v H' => v = .pointer (some (ad.add 1)) ∧ H' = []) := by
 refine Sp.body Tryz.func105 rfl Tryz.ntmps105 (by simp) ?_
 simp only [argE, List.cons_append, List.nil_append, Nat.zero_add, Nat.reduceAdd]
 try refine gL ?_
 refine RT.mv1 rfl rfl rfl ?_
 refine RT.nilG rfl rfl rfl ?_
 refine RT.faG T rfl rfl rfl rfl ?_
 try refine gL ?_
 exact AtQ.f1 Tryz.results105 rfl rfl (fun w h => h)
theorem of12_fn (ad : Addr) (R : List HP) : Sp B Tryz.prog 107 [.pointer (some ad)] R [] (fun v H' => v = .pointer (some (ad.add 2)) ∧ H' = []) := by
 refine Sp.body Tryz.func107 rfl Tryz.ntmps107 (by simp) ?_
 simp only [argE, List.cons_append, List.nil_append, Nat.zero_add, Nat.reduceAdd]
 try refine gL ?_
 refine RT.mv1 rfl rfl rfl ?_
 refine RT.nilG rfl rfl rfl ?_
 refine RT.faG T rfl rfl rfl rfl ?_
 try refine gL ?_
 exact AtQ.f1 Tryz.results107 rfl rfl (fun w h => h)
theorem of13_fn (ad : Addr) (R : List HP) : Sp B Tryz.prog 109 [.pointer (some ad)] R [] (fun v H' => v = .pointer (some (ad.add 3)) ∧ H' = []) := by
 refine Sp.body Tryz.func109 rfl Tryz.ntmps109 (by simp) ?_
 simp only [argE, List.cons_append, List.nil_append, Nat.zero_add, Nat.reduceAdd]
 try refine gL ?_
 refine RT.mv1 rfl rfl rfl ?_
 refine RT.nilG rfl rfl rfl ?_
 refine RT.faG T rfl rfl rfl rfl ?_
 try refine gL ?_
 exact AtQ.f1 Tryz.results109 rfl rfl (fun w h => h)
theorem of14_fn (ad : Addr) (R : List HP) : Sp B Tryz.prog 110 [.pointer (some ad)] R [] (fun v H' => v = .pointer (some (ad.add 4)) ∧ H' = []) := by
 refine Sp.body Tryz.func110 rfl Tryz.ntmps110 (by simp) ?_
 simp only [argE, List.cons_append, List.nil_append, Nat.zero_add, Nat.reduceAdd]
 try refine gL ?_
 refine RT.mv1 rfl rfl rfl ?_
 refine RT.nilG rfl rfl rfl ?_
 refine RT.faG T rfl rfl rfl rfl ?_
 try refine gL ?_
 exact AtQ.f1 Tryz.results110 rfl rfl (fun w h => h)
theorem of15_fn (ad : Addr) (R : List HP) : Sp B Tryz.prog 111 [.pointer (some ad)] R [] (fun v H' => v = .pointer (some (ad.add 5)) ∧ H' = []) := by
 refine Sp.body Tryz.func111 rfl Tryz.ntmps111 (by simp) ?_
 simp only [argE, List.cons_append, List.nil_append, Nat.zero_add, Nat.reduceAdd]
 try refine gL ?_
 refine RT.mv1 rfl rfl rfl ?_
 refine RT.nilG rfl rfl rfl ?_
 refine RT.faG T rfl rfl rfl rfl ?_
 try refine gL ?_
 exact AtQ.f1 Tryz.results111 rfl rfl (fun w h => h)
theorem of16_fn (ad : Addr) (R : List HP) : Sp B Tryz.prog 113 [.pointer (some ad)] R [] (fun v H' => v = .pointer (some (ad.add 6)) ∧ H' = []) := by
 refine Sp.body Tryz.func113 rfl Tryz.ntmps113 (by simp) ?_
 simp only [argE, List.cons_append, List.nil_append, Nat.zero_add, Nat.reduceAdd]
 try refine gL ?_
 refine RT.mv1 rfl rfl rfl ?_
 refine RT.nilG rfl rfl rfl ?_
 refine RT.faG T rfl rfl rfl rfl ?_
 try refine gL ?_
 exact AtQ.f1 Tryz.results113 rfl rfl (fun w h => h)
theorem of17_fn (ad : Addr) (R : List HP) : Sp B Tryz.prog 115 [.pointer (some ad)] R [] (fun v H' => v = .pointer (some (ad.add 7)) ∧ H' = []) := by
 refine Sp.body Tryz.func115 rfl Tryz.ntmps115 (by simp) ?_
 simp only [argE, List.cons_append, List.nil_append, Nat.zero_add, Nat.reduceAdd]
 try refine gL ?_
 refine RT.mv1 rfl rfl rfl ?_
 refine RT.nilG rfl rfl rfl ?_
 refine RT.faG T rfl rfl rfl rfl ?_
 try refine gL ?_
 exact AtQ.f1 Tryz.results115 rfl rfl (fun w h => h)
theorem of18_fn (ad : Addr) (R : List HP) : Sp B Tryz.prog 116 [.pointer (some ad)] R [] (fun v H' => v = .pointer (some (ad.add 8)) ∧ H' = []) := by
 refine Sp.body Tryz.func116 rfl Tryz.ntmps116 (by simp) ?_
 simp only [argE, List.cons_append, List.nil_append, Nat.zero_add, Nat.reduceAdd]
 try refine gL ?_
 refine RT.mv1 rfl rfl rfl ?_
 refine RT.nilG rfl rfl rfl ?_
 refine RT.faG T rfl rfl rfl rfl ?_
 try refine gL ?_
 exact AtQ.f1 Tryz.results116 rfl rfl (fun w h => h)
theorem of19_fn (ad : Addr) (R : List HP) : Sp B Tryz.prog 118 [.pointer (some ad)] R [] (fun v H' => v = .pointer (some (ad.add 0)) ∧ H' = []) := by
 refine Sp.body Tryz.func118 rfl Tryz.ntmps118 (by simp) ?_
 simp only [argE, List.cons_append, List.nil_append, Nat.zero_add, Nat.reduceAdd]
 try refine gL ?_
 refine RT.mv1 rfl rfl rfl ?_
 refine RT.nilG rfl rfl rfl ?_
 refine RT.faG T rfl rfl rfl rfl ?_
 try refine gL ?_
 exact AtQ.f1 Tryz.results118 rfl rfl (fun w h => h)
theorem of20_fn (ad : Addr) (R : List HP) : Sp B Tryz.prog 120 [.pointer (some ad)] R [] (fun v H' => v = .pointer (some (ad.add 1)) ∧ H' = []) := by
 refine Sp.body Tryz.func120 rfl Tryz.ntmps120 (by simp) ?_
 simp only [argE, List.cons_append, List.nil_append, Nat.zero_add, Nat.reduceAdd]
 try refine gL ?_
 refine RT.mv1 rfl rfl rfl ?_
 refine RT.nilG rfl rfl rfl ?_
 refine RT.faG T rfl rfl rfl rfl ?_
 try refine gL ?_
 exact AtQ.f1 Tryz.results120 rfl rfl (fun w h => h)
theorem of21_fn (ad : Addr) (R : List HP) : Sp B Tryz.prog 122 [.pointer (some ad)] R [] (fun v H' => v = .pointer (some (ad.add 2)) ∧ H' = []) := by
 refine Sp.body Tryz.func122 rfl Tryz.ntmps122 (by simp) ?_
 simp only [argE, List.cons_append, List.nil_append, Nat.zero_add, Nat.reduceAdd]
 try refine gL ?_
 refine RT.mv1 rfl rfl rfl ?_
 refine RT.nilG rfl rfl rfl ?_
 refine RT.faG T rfl rfl rfl rfl ?_
 try refine gL ?_
 exact AtQ.f1 Tryz.results122 rfl rfl (fun w h => h)
theorem of22_fn (ad : Addr) (R : List HP) : Sp B Tryz.prog 124 [.pointer (some ad)] R [] (fun v H' => v = .pointer (some (ad.add 3)) ∧ H' = []) := by
 refine Sp.body Tryz.func124 rfl Tryz.ntmps124 (by simp) ?_
 simp only [argE, List.cons_append, List.nil_append, Nat.zero_add, Nat.reduceAdd]
 try refine gL ?_
 refine RT.mv1 rfl rfl rfl ?_
 refine RT.nilG rfl rfl rfl ?_
 refine RT.faG T rfl rfl rfl rfl ?_
 try refine gL ?_
 exact AtQ.f1 Tryz.results124 rfl rfl (fun w h => h)
theorem of23_fn (ad : Addr) (R : List HP) : Sp B Tryz.prog 126 [.pointer (some ad)] R [] (fun v H' => v = .pointer (some (ad.add 4)) ∧ H' = []) := by
 refine Sp.body Tryz.func126 rfl Tryz.ntmps126 (by simp) ?_
 simp only [argE, List.cons_append, List.nil_append, Nat.zero_add, Nat.reduceAdd]
 try refine gL ?_
 refine RT.mv1 rfl rfl rfl ?_
 refine RT.nilG rfl rfl rfl ?_
 refine RT.faG T rfl rfl rfl rfl ?_
 try refine gL ?_
 exact AtQ.f1 Tryz.results126 rfl rfl (fun w h => h)
theorem of24_fn (ad : Addr) (R : List HP) : Sp B Tryz.prog 128 [.pointer (some ad)] R [] (fun v H' => v = .pointer (some (ad.add 5)) ∧ H' = []) := by
 refine Sp.body Tryz.func128 rfl Tryz.ntmps128 (by simp) ?_
 simp only [argE, List.cons_append, List.nil_append, Nat.zero_add, Nat.reduceAdd]
 try refine gL ?_
 refine RT.mv1 rfl rfl rfl ?_
 refine RT.nilG rfl rfl rfl ?_
 refine RT.faG T rfl rfl rfl rfl ?_
 try refine gL ?_
 exact AtQ.f1 Tryz.results128 rfl rfl (fun w h => h)
theorem of25_fn (ad : Addr) (R : List HP) : Sp B Tryz.prog 129 [.pointer (some ad)] R [] (fun v H' => v = .pointer (some (ad.add 6)) ∧ H' = []) := by
 refine Sp.body Tryz.func129 rfl Tryz.ntmps129 (by simp) ?_
 simp only [argE, List.cons_append, List.nil_append, Nat.zero_add, Nat.reduceAdd]
 try refine gL ?_
 refine RT.mv1 rfl rfl rfl ?_
 refine RT.nilG rfl rfl rfl ?_
 refine RT.faG T rfl rfl rfl rfl ?_
 try refine gL ?_
 exact AtQ.f1 Tryz.results129 rfl rfl (fun w h => h)
theorem of26_fn (ad : Addr) (R : List HP) : Sp B Tryz.prog 131 [.pointer (some ad)] R [] (fun v H' => v = .pointer (some (ad.add 0)) ∧ H' = []) := by
 refine Sp.body Tryz.func131 rfl Tryz.ntmps131 (by simp) ?_
 simp only [argE, List.cons_append, List.nil_append, Nat.zero_add, Nat.reduceAdd]
 try refine gL ?_
 refine RT.mv1 rfl rfl rfl ?_
 refine RT.nilG rfl rfl rfl ?_
 refine RT.faG T rfl rfl rfl rfl ?_
 try refine gL ?_
 exact AtQ.f1 Tryz.results131 rfl rfl (fun w h => h)
theorem of27_fn (ad : Addr) (R : List HP) : Sp B Tryz.prog 133 [.pointer (some ad)] R [] (fun v H' => v = .pointer (some (ad.add 1)) ∧ H' = []) := by
 refine Sp.body Tryz.func133 rfl Tryz.ntmps133 (by simp) ?_
 simp only [argE, List.cons_append, List.nil_append, Nat.zero_add, Nat.reduceAdd]
 try refine gL ?_
 refine RT.mv1 rfl rfl rfl ?_
 refine RT.nilG rfl rfl rfl ?_
 refine RT.faG T rfl rfl rfl rfl ?_
 try refine gL ?_
 exact AtQ.f1 Tryz.results133 rfl rfl (fun w h => h)
theorem of28_fn (ad : Addr) (R : List HP) : Sp B Tryz.prog 135 [.pointer (some ad)] R [] (fun v H' => v = .pointer (some (ad.add 0)) ∧ H' = []) := by
 refine Sp.body Tryz.func135 rfl Tryz.ntmps135 (by simp) ?_
 simp only [argE, List.cons_append, List.nil_append, Nat.zero_add, Nat.reduceAdd]
 try refine gL ?_
 refine RT.mv1 rfl rfl rfl ?_
 refine RT.nilG rfl rfl rfl ?_
 refine RT.faG T rfl rfl rfl rfl ?_
 try refine gL ?_
 exact AtQ.f1 Tryz.results135 rfl rfl (fun w h => h)
theorem of29_fn (ad : Addr) (R : List HP) : Sp B Tryz.prog 136 [.pointer (some ad)] R [] (fun v H' => v = .pointer (some (ad.add 1)) ∧ H' = []) := by
 refine Sp.body Tryz.func136 rfl Tryz.ntmps136 (by simp) ?_
 simp only [argE, List.cons_append, List.nil_append, Nat.zero_add, Nat.reduceAdd]
 try refine gL ?_
 refine RT.mv1 rfl rfl rfl ?_
 refine RT.nilG rfl rfl rfl ?_
 refine RT.faG T rfl rfl rfl rfl ?_
 try refine gL ?_
 exact AtQ.f1 Tryz.results136 rfl rfl (fun w h => h)
theorem of30_fn (ad : Addr) (R : List HP) : Sp B Tryz.prog 138 [.pointer (some ad)] R [] (fun v H' => v = .pointer (some (ad.add 2)) ∧ H' = []) := by
 refine Sp.body Tryz.func138 rfl Tryz.ntmps138 (by simp) ?_
 simp only [argE, List.cons_append, List.nil_append, Nat.zero_add, Nat.reduceAdd]
 try refine gL ?_
 refine RT.mv1 rfl rfl rfl ?_
 refine RT.nilG rfl rfl rfl ?_
 refine RT.faG T rfl rfl rfl rfl ?_
 try refine gL ?_
 exact AtQ.f1 Tryz.results138 rfl rfl (fun w h => h)
theorem of31_fn (ad : Addr) (R : List HP) : Sp B Tryz.prog 140 [.pointer (some ad)] R [] (fun v H' => v = .pointer (some (ad.add 3)) ∧ H' = []) := by
 refine Sp.body Tryz.func140 rfl Tryz.ntmps140 (by simp) ?_
 simp only [argE, List.cons_append, List.nil_append, Nat.zero_add, Nat.reduceAdd]
 try refine gL ?_
 refine RT.mv1 rfl rfl rfl ?_
 refine RT.nilG rfl rfl rfl ?_
 refine RT.faG T rfl rfl rfl rfl ?_
 try refine gL ?_
 exact AtQ.f1 Tryz.results140 rfl rfl (fun w h => h)
theorem of32_fn (ad : Addr) (R : List HP) : Sp B Tryz.prog 142 [.pointer (some ad)] R [] (fun v H' => v = .pointer (some (ad.add 4)) ∧ H' = []) := by
 refine Sp.body Tryz.func142 rfl Tryz.ntmps142 (by simp) ?_
 simp only [argE, List.cons_append, List.nil_append, Nat.zero_add, Nat.reduceAdd]
 try refine gL ?_
 refine RT.mv1 rfl rfl rfl ?_
 refine RT.nilG rfl rfl rfl ?_
 refine RT.faG T rfl rfl rfl rfl ?_
 try refine gL ?_
 exact AtQ.f1 Tryz.results142 rfl rfl (fun w h => h)
theorem of33_fn (ad : Addr) (R : List HP) : Sp B Tryz.prog 144 [.pointer (some ad)] R [] (fun v H' => v = .pointer (some (ad.add 0)) ∧ H' = []) := by
 refine Sp.body Tryz.func144 rfl Tryz.ntmps144 (by simp) ?_
 simp only [argE, List.cons_append, List.nil_append, Nat.zero_add, Nat.reduceAdd]
 try refine gL ?_
 refine RT.mv1 rfl rfl rfl ?_
 refine RT.nilG rfl rfl rfl ?_
 refine RT.faG T rfl rfl rfl rfl ?_
 try refine gL ?_
 exact AtQ.f1 Tryz.results144 rfl rfl (fun w h => h)
end Go.Proofs.YtclcnhfponjdaaaGreatDoor
end
section
namespace Go.Proofs.YtclcnhfponjdaaaGreatDoor
open Go.Sk
set_option maxRecDepth 100000
def findL (fs : List FP) (num : Int) : Option FP := fs.find? fun f => decide (f.num = num)
def fp0 : List Value := [.int .i32 0, .int .u8 0, .bool false, .nilFunc, .nilFunc]
def findV : Option FP → Value
 | some f => .tuple #[.agg f.cells.toArray, .bool true]
 | none => .tuple #[.agg fp0.toArray, .bool false]
attribute [local irreducible] Cs Own Ex Pu Yld RT LJ QJ AtQ CT Rd QSp Sp FinQ Then LoopQ CutQ DT TakeQ EffQ
variable {B : World} {R : List HP} {ra : Option Addr} {rc : Nat} {fs : List FP} {num : Int}
theorem find_set (hR : Rd B R ra fs.length rc 5 (fs.flatMap FP.cells)) (hl : fs.length ≤ 1000) :
  Sp B Tryz.prog 147 [.slice ra fs.length rc, .int .i32 num] R [] (fun v H' => v = findV (findL fs num) ∧ H' = []) := by
 refine Sp.bodyM Tryz.func147 rfl Tryz.ntmps147 (by simp) ?_
 simp only [argE, List.cons_append, List.nil_append, Nat.zero_add, Nat.reduceAdd]
 repeat' (first|refine gL ?_|(refine gb ?_;intro b)|fail)
 revert b
 intro b4
 refine CT.loop (α := Nat) (fun i => [(0, .slice ra fs.length rc), (1, .int .i32 num), (4, ptr b4), (5, .bool false), (8, .slice ra fs.length rc), (9, .int .i64 fs.length), (10, .int .i64 i)]) (fun i => Pu (i ≤ fs.length ∧ findL (fs.drop i) num = findL fs num) :: Cs b4 306 fp0 :: R) (fun i => fs.length - i) 0
  ⟨rfl, rfl, rfl, rfl, rfl, rfl, rfl, trivial⟩ (fun w h => Sat.pu_in ⟨Nat.zero_le _, rfl⟩ h) (fun i => CT.pu fun ⟨hil, hF⟩ => ?_)
 repeat' (first|refine gL ?_|(refine gv ?_;(refine⟨fun hc=>?_,fun hc=>?_⟩<;>first|(exfalso;omega)|skip))|fail)
 ·have hi' : i < fs.length := by omega
  have hgi := List.getElem?_eq_getElem hi'
  have hdr := List.drop_eq_getElem_cons hi'
  revert hgi hdr
  generalize fs[i] = fe
  intro hgi hdr
  rw [hdr] at hF
  refine RT.ix T (j := i * 5) rfl rfl rfl (rD (hR)) (by omega) (by omega) (by omega) rfl rfl ?_
  refine RT.ldra T rfl (rD (hR)) (l := fe.cells) (flat_sub (f := FP.cells) (z := 5) (fun _ => rfl) fs i _ hgi) rfl rfl rfl rfl ?_
  repeat' (first|refine gM ?_|(refine gv ?_;first|(refine⟨fun hc=>?_,fun hc=>?_⟩<;>first|(exfalso;omega)|skip)|refine gk ?_)|(refine gb ?_;intro b)|fail)
  revert b
  intro b7
  skip
  ·have hf : findL fs num = some fe := by rw [← hF]; unfold findL; rw [List.find?_cons_of_pos (by simpa using hc)]
   refine AtQ.finAT (l := fe.cells) (H' := []) (e := 306) (b := b4) T Tryz.results147 rfl rfl rfl rfl sE_ ?_ (fun w h => h.tail.tail) (by first | exact .inl rfl | exact .inr rfl)
   exact ⟨by rw [hf]; rfl, rfl⟩
  ·have hf : findL (fs.drop (i + 1)) num = findL fs num := by rw [← hF]; unfold findL; rw [List.find?_cons_of_neg (by simpa using hc)]
   exact AtQ.loop (i + 1) ⟨rfl, rfl, rfl, rfl, rfl, rfl, rfl, trivial⟩ (fun w h => Sat.pu_in ⟨by omega, hf⟩ h.tail) (by omega)
 ·have hie : i = fs.length := by omega
  rw [hie, List.drop_length] at hF
  try refine gM ?_
  refine AtQ.finAT (l := fp0) (H' := []) (e := 306) (b := b4) T Tryz.results147 rfl rfl rfl rfl sE_ ?_ (fun w h => h.tail) (by first | exact .inl rfl | exact .inr rfl)
  exact ⟨by rw [← hF]; rfl, rfl⟩
theorem find_File (hR : Rd B R ra fs.length rc 5 (fs.flatMap FP.cells)) (hl : fs.length ≤ 1000) :
  Sp B Tryz.prog 286 [.slice ra fs.length rc, .int .i32 num] R [] (fun v H' => v = findV (findL fs num) ∧ H' = []) := by
 refine Sp.bodyM Tryz.func286 rfl Tryz.ntmps286 (by simp) ?_
 simp only [argE, List.cons_append, List.nil_append, Nat.zero_add, Nat.reduceAdd]
 repeat' (first|refine gL ?_|(refine gb ?_;intro b)|fail)
 revert b
 intro b4
 refine CT.loop (α := Nat) (fun i => [(0, .slice ra fs.length rc), (1, .int .i32 num), (4, ptr b4), (5, .bool false), (8, .slice ra fs.length rc), (9, .int .i64 fs.length), (10, .int .i64 i)]) (fun i => Pu (i ≤ fs.length ∧ findL (fs.drop i) num = findL fs num) :: Cs b4 292 fp0 :: R) (fun i => fs.length - i) 0
  ⟨rfl, rfl, rfl, rfl, rfl, rfl, rfl, trivial⟩ (fun w h => Sat.pu_in ⟨Nat.zero_le _, rfl⟩ h) (fun i => CT.pu fun ⟨hil, hF⟩ => ?_)
 repeat' (first|refine gL ?_|(refine gv ?_;(refine⟨fun hc=>?_,fun hc=>?_⟩<;>first|(exfalso;omega)|skip))|fail)
 ·have hi' : i < fs.length := by omega
  have hgi := List.getElem?_eq_getElem hi'
  have hdr := List.drop_eq_getElem_cons hi'
  revert hgi hdr
  generalize fs[i] = fe
  intro hgi hdr
  rw [hdr] at hF
  refine RT.ix T (j := i * 5) rfl rfl rfl (rD (hR)) (by omega) (by omega) (by omega) rfl rfl ?_
  refine RT.ldra T rfl (rD (hR)) (l := fe.cells) (flat_sub (f := FP.cells) (z := 5) (fun _ => rfl) fs i _ hgi) rfl rfl rfl rfl ?_
  repeat' (first|refine gM ?_|(refine gv ?_;first|(refine⟨fun hc=>?_,fun hc=>?_⟩<;>first|(exfalso;omega)|skip)|refine gk ?_)|(refine gb ?_;intro b)|fail)
  revert b
  intro b7
  skip
  ·have hf : findL fs num = some fe := by rw [← hF]; unfold findL; rw [List.find?_cons_of_pos (by simpa using hc)]
   refine AtQ.finAT (l := fe.cells) (H' := []) (e := 292) (b := b4) T Tryz.results286 rfl rfl rfl rfl sE_ ?_ (fun w h => h.tail.tail) (by first | exact .inl rfl | exact .inr rfl)
   exact ⟨by rw [hf]; rfl, rfl⟩
  ·have hf : findL (fs.drop (i + 1)) num = findL fs num := by rw [← hF]; unfold findL; rw [List.find?_cons_of_neg (by simpa using hc)]
   exact AtQ.loop (i + 1) ⟨rfl, rfl, rfl, rfl, rfl, rfl, rfl, trivial⟩ (fun w h => Sat.pu_in ⟨by omega, hf⟩ h.tail) (by omega)
 ·have hie : i = fs.length := by omega
  rw [hie, List.drop_length] at hF
  try refine gM ?_
  refine AtQ.finAT (l := fp0) (H' := []) (e := 292) (b := b4) T Tryz.results286 rfl rfl rfl rfl sE_ ?_ (fun w h => h.tail) (by first | exact .inl rfl | exact .inr rfl)
  exact ⟨by rw [← hF]; rfl, rfl⟩
theorem find_Import (hR : Rd B R ra fs.length rc 5 (fs.flatMap FP.cells)) (hl : fs.length ≤ 1000) :
  Sp B Tryz.prog 285 [.slice ra fs.length rc, .int .i32 num] R [] (fun v H' => v = findV (findL fs num) ∧ H' = []) := by
 refine Sp.bodyM Tryz.func285 rfl Tryz.ntmps285 (by simp) ?_
 simp only [argE, List.cons_append, List.nil_append, Nat.zero_add, Nat.reduceAdd]
 repeat' (first|refine gL ?_|(refine gb ?_;intro b)|fail)
 revert b
 intro b4
 refine CT.loop (α := Nat) (fun i => [(0, .slice ra fs.length rc), (1, .int .i32 num), (4, ptr b4), (5, .bool false), (8, .slice ra fs.length rc), (9, .int .i64 fs.length), (10, .int .i64 i)]) (fun i => Pu (i ≤ fs.length ∧ findL (fs.drop i) num = findL fs num) :: Cs b4 283 fp0 :: R) (fun i => fs.length - i) 0
  ⟨rfl, rfl, rfl, rfl, rfl, rfl, rfl, trivial⟩ (fun w h => Sat.pu_in ⟨Nat.zero_le _, rfl⟩ h) (fun i => CT.pu fun ⟨hil, hF⟩ => ?_)
 repeat' (first|refine gL ?_|(refine gv ?_;(refine⟨fun hc=>?_,fun hc=>?_⟩<;>first|(exfalso;omega)|skip))|fail)
 ·have hi' : i < fs.length := by omega
  have hgi := List.getElem?_eq_getElem hi'
  have hdr := List.drop_eq_getElem_cons hi'
  revert hgi hdr
  generalize fs[i] = fe
  intro hgi hdr
  rw [hdr] at hF
  refine RT.ix T (j := i * 5) rfl rfl rfl (rD (hR)) (by omega) (by omega) (by omega) rfl rfl ?_
  refine RT.ldra T rfl (rD (hR)) (l := fe.cells) (flat_sub (f := FP.cells) (z := 5) (fun _ => rfl) fs i _ hgi) rfl rfl rfl rfl ?_
  repeat' (first|refine gM ?_|(refine gv ?_;first|(refine⟨fun hc=>?_,fun hc=>?_⟩<;>first|(exfalso;omega)|skip)|refine gk ?_)|(refine gb ?_;intro b)|fail)
  revert b
  intro b7
  skip
  ·have hf : findL fs num = some fe := by rw [← hF]; unfold findL; rw [List.find?_cons_of_pos (by simpa using hc)]
   refine AtQ.finAT (l := fe.cells) (H' := []) (e := 283) (b := b4) T Tryz.results285 rfl rfl rfl rfl sE_ ?_ (fun w h => h.tail.tail) (by first | exact .inl rfl | exact .inr rfl)
   exact ⟨by rw [hf]; rfl, rfl⟩
  ·have hf : findL (fs.drop (i + 1)) num = findL fs num := by rw [← hF]; unfold findL; rw [List.find?_cons_of_neg (by simpa using hc)]
   exact AtQ.loop (i + 1) ⟨rfl, rfl, rfl, rfl, rfl, rfl, rfl, trivial⟩ (fun w h => Sat.pu_in ⟨by omega, hf⟩ h.tail) (by omega)
 ·have hie : i = fs.length := by omega
  rw [hie, List.drop_length] at hF
  try refine gM ?_
  refine AtQ.finAT (l := fp0) (H' := []) (e := 283) (b := b4) T Tryz.results285 rfl rfl rfl rfl sE_ ?_ (fun w h => h.tail) (by first | exact .inl rfl | exact .inr rfl)
  exact ⟨by rw [← hF]; rfl, rfl⟩
theorem find_MessageDef (hR : Rd B R ra fs.length rc 5 (fs.flatMap FP.cells)) (hl : fs.length ≤ 1000) :
  Sp B Tryz.prog 283 [.slice ra fs.length rc, .int .i32 num] R [] (fun v H' => v = findV (findL fs num) ∧ H' = []) := by
 refine Sp.bodyM Tryz.func283 rfl Tryz.ntmps283 (by simp) ?_
 simp only [argE, List.cons_append, List.nil_append, Nat.zero_add, Nat.reduceAdd]
 repeat' (first|refine gL ?_|(refine gb ?_;intro b)|fail)
 revert b
 intro b4
 refine CT.loop (α := Nat) (fun i => [(0, .slice ra fs.length rc), (1, .int .i32 num), (4, ptr b4), (5, .bool false), (8, .slice ra fs.length rc), (9, .int .i64 fs.length), (10, .int .i64 i)]) (fun i => Pu (i ≤ fs.length ∧ findL (fs.drop i) num = findL fs num) :: Cs b4 260 fp0 :: R) (fun i => fs.length - i) 0
  ⟨rfl, rfl, rfl, rfl, rfl, rfl, rfl, trivial⟩ (fun w h => Sat.pu_in ⟨Nat.zero_le _, rfl⟩ h) (fun i => CT.pu fun ⟨hil, hF⟩ => ?_)
 repeat' (first|refine gL ?_|(refine gv ?_;(refine⟨fun hc=>?_,fun hc=>?_⟩<;>first|(exfalso;omega)|skip))|fail)
 ·have hi' : i < fs.length := by omega
  have hgi := List.getElem?_eq_getElem hi'
  have hdr := List.drop_eq_getElem_cons hi'
  revert hgi hdr
  generalize fs[i] = fe
  intro hgi hdr
  rw [hdr] at hF
  refine RT.ix T (j := i * 5) rfl rfl rfl (rD (hR)) (by omega) (by omega) (by omega) rfl rfl ?_
  refine RT.ldra T rfl (rD (hR)) (l := fe.cells) (flat_sub (f := FP.cells) (z := 5) (fun _ => rfl) fs i _ hgi) rfl rfl rfl rfl ?_
  repeat' (first|refine gM ?_|(refine gv ?_;first|(refine⟨fun hc=>?_,fun hc=>?_⟩<;>first|(exfalso;omega)|skip)|refine gk ?_)|(refine gb ?_;intro b)|fail)
  revert b
  intro b7
  skip
  ·have hf : findL fs num = some fe := by rw [← hF]; unfold findL; rw [List.find?_cons_of_pos (by simpa using hc)]
   refine AtQ.finAT (l := fe.cells) (H' := []) (e := 260) (b := b4) T Tryz.results283 rfl rfl rfl rfl sE_ ?_ (fun w h => h.tail.tail) (by first | exact .inl rfl | exact .inr rfl)
   exact ⟨by rw [hf]; rfl, rfl⟩
  ·have hf : findL (fs.drop (i + 1)) num = findL fs num := by rw [← hF]; unfold findL; rw [List.find?_cons_of_neg (by simpa using hc)]
   exact AtQ.loop (i + 1) ⟨rfl, rfl, rfl, rfl, rfl, rfl, rfl, trivial⟩ (fun w h => Sat.pu_in ⟨by omega, hf⟩ h.tail) (by omega)
 ·have hie : i = fs.length := by omega
  rw [hie, List.drop_length] at hF
  try refine gM ?_
  refine AtQ.finAT (l := fp0) (H' := []) (e := 260) (b := b4) T Tryz.results283 rfl rfl rfl rfl sE_ ?_ (fun w h => h.tail) (by first | exact .inl rfl | exact .inr rfl)
  exact ⟨by rw [← hF]; rfl, rfl⟩
theorem find_FieldDef (hR : Rd B R ra fs.length rc 5 (fs.flatMap FP.cells)) (hl : fs.length ≤ 1000) :
  Sp B Tryz.prog 282 [.slice ra fs.length rc, .int .i32 num] R [] (fun v H' => v = findV (findL fs num) ∧ H' = []) := by
 refine Sp.bodyM Tryz.func282 rfl Tryz.ntmps282 (by simp) ?_
 simp only [argE, List.cons_append, List.nil_append, Nat.zero_add, Nat.reduceAdd]
 repeat' (first|refine gL ?_|(refine gb ?_;intro b)|fail)
 revert b
 intro b4
 refine CT.loop (α := Nat) (fun i => [(0, .slice ra fs.length rc), (1, .int .i32 num), (4, ptr b4), (5, .bool false), (8, .slice ra fs.length rc), (9, .int .i64 fs.length), (10, .int .i64 i)]) (fun i => Pu (i ≤ fs.length ∧ findL (fs.drop i) num = findL fs num) :: Cs b4 234 fp0 :: R) (fun i => fs.length - i) 0
  ⟨rfl, rfl, rfl, rfl, rfl, rfl, rfl, trivial⟩ (fun w h => Sat.pu_in ⟨Nat.zero_le _, rfl⟩ h) (fun i => CT.pu fun ⟨hil, hF⟩ => ?_)
 repeat' (first|refine gL ?_|(refine gv ?_;(refine⟨fun hc=>?_,fun hc=>?_⟩<;>first|(exfalso;omega)|skip))|fail)
 ·have hi' : i < fs.length := by omega
  have hgi := List.getElem?_eq_getElem hi'
  have hdr := List.drop_eq_getElem_cons hi'
  revert hgi hdr
  generalize fs[i] = fe
  intro hgi hdr
  rw [hdr] at hF
  refine RT.ix T (j := i * 5) rfl rfl rfl (rD (hR)) (by omega) (by omega) (by omega) rfl rfl ?_
  refine RT.ldra T rfl (rD (hR)) (l := fe.cells) (flat_sub (f := FP.cells) (z := 5) (fun _ => rfl) fs i _ hgi) rfl rfl rfl rfl ?_
  repeat' (first|refine gM ?_|(refine gv ?_;first|(refine⟨fun hc=>?_,fun hc=>?_⟩<;>first|(exfalso;omega)|skip)|refine gk ?_)|(refine gb ?_;intro b)|fail)
  revert b
  intro b7
  skip
  ·have hf : findL fs num = some fe := by rw [← hF]; unfold findL; rw [List.find?_cons_of_pos (by simpa using hc)]
   refine AtQ.finAT (l := fe.cells) (H' := []) (e := 234) (b := b4) T Tryz.results282 rfl rfl rfl rfl sE_ ?_ (fun w h => h.tail.tail) (by first | exact .inl rfl | exact .inr rfl)
   exact ⟨by rw [hf]; rfl, rfl⟩
  ·have hf : findL (fs.drop (i + 1)) num = findL fs num := by rw [← hF]; unfold findL; rw [List.find?_cons_of_neg (by simpa using hc)]
   exact AtQ.loop (i + 1) ⟨rfl, rfl, rfl, rfl, rfl, rfl, rfl, trivial⟩ (fun w h => Sat.pu_in ⟨by omega, hf⟩ h.tail) (by omega)
 ·have hie : i = fs.length := by omega
  rw [hie, List.drop_length] at hF
  try refine gM ?_
  refine AtQ.finAT (l := fp0) (H' := []) (e := 234) (b := b4) T Tryz.results282 rfl rfl rfl rfl sE_ ?_ (fun w h => h.tail) (by first | exact .inl rfl | exact .inr rfl)
  exact ⟨by rw [← hF]; rfl, rfl⟩
theorem find_EnumDef (hR : Rd B R ra fs.length rc 5 (fs.flatMap FP.cells)) (hl : fs.length ≤ 1000) :
  Sp B Tryz.prog 284 [.slice ra fs.length rc, .int .i32 num] R [] (fun v H' => v = findV (findL fs num) ∧ H' = []) := by
 refine Sp.bodyM Tryz.func284 rfl Tryz.ntmps284 (by simp) ?_
 simp only [argE, List.cons_append, List.nil_append, Nat.zero_add, Nat.reduceAdd]
 repeat' (first|refine gL ?_|(refine gb ?_;intro b)|fail)
 revert b
 intro b4
 refine CT.loop (α := Nat) (fun i => [(0, .slice ra fs.length rc), (1, .int .i32 num), (4, ptr b4), (5, .bool false), (8, .slice ra fs.length rc), (9, .int .i64 fs.length), (10, .int .i64 i)]) (fun i => Pu (i ≤ fs.length ∧ findL (fs.drop i) num = findL fs num) :: Cs b4 213 fp0 :: R) (fun i => fs.length - i) 0
  ⟨rfl, rfl, rfl, rfl, rfl, rfl, rfl, trivial⟩ (fun w h => Sat.pu_in ⟨Nat.zero_le _, rfl⟩ h) (fun i => CT.pu fun ⟨hil, hF⟩ => ?_)
 repeat' (first|refine gL ?_|(refine gv ?_;(refine⟨fun hc=>?_,fun hc=>?_⟩<;>first|(exfalso;omega)|skip))|fail)
 ·have hi' : i < fs.length := by omega
  have hgi := List.getElem?_eq_getElem hi'
  have hdr := List.drop_eq_getElem_cons hi'
  revert hgi hdr
  generalize fs[i] = fe
  intro hgi hdr
  rw [hdr] at hF
  refine RT.ix T (j := i * 5) rfl rfl rfl (rD (hR)) (by omega) (by omega) (by omega) rfl rfl ?_
  refine RT.ldra T rfl (rD (hR)) (l := fe.cells) (flat_sub (f := FP.cells) (z := 5) (fun _ => rfl) fs i _ hgi) rfl rfl rfl rfl ?_
  repeat' (first|refine gM ?_|(refine gv ?_;first|(refine⟨fun hc=>?_,fun hc=>?_⟩<;>first|(exfalso;omega)|skip)|refine gk ?_)|(refine gb ?_;intro b)|fail)
  revert b
  intro b7
  skip
  ·have hf : findL fs num = some fe := by rw [← hF]; unfold findL; rw [List.find?_cons_of_pos (by simpa using hc)]
   refine AtQ.finAT (l := fe.cells) (H' := []) (e := 213) (b := b4) T Tryz.results284 rfl rfl rfl rfl sE_ ?_ (fun w h => h.tail.tail) (by first | exact .inl rfl | exact .inr rfl)
   exact ⟨by rw [hf]; rfl, rfl⟩
  ·have hf : findL (fs.drop (i + 1)) num = findL fs num := by rw [← hF]; unfold findL; rw [List.find?_cons_of_neg (by simpa using hc)]
   exact AtQ.loop (i + 1) ⟨rfl, rfl, rfl, rfl, rfl, rfl, rfl, trivial⟩ (fun w h => Sat.pu_in ⟨by omega, hf⟩ h.tail) (by omega)
 ·have hie : i = fs.length := by omega
  rw [hie, List.drop_length] at hF
  try refine gM ?_
  refine AtQ.finAT (l := fp0) (H' := []) (e := 213) (b := b4) T Tryz.results284 rfl rfl rfl rfl sE_ ?_ (fun w h => h.tail) (by first | exact .inl rfl | exact .inr rfl)
  exact ⟨by rw [← hF]; rfl, rfl⟩
theorem find_EnumValue (hR : Rd B R ra fs.length rc 5 (fs.flatMap FP.cells)) (hl : fs.length ≤ 1000) :
  Sp B Tryz.prog 280 [.slice ra fs.length rc, .int .i32 num] R [] (fun v H' => v = findV (findL fs num) ∧ H' = []) := by
 refine Sp.bodyM Tryz.func280 rfl Tryz.ntmps280 (by simp) ?_
 simp only [argE, List.cons_append, List.nil_append, Nat.zero_add, Nat.reduceAdd]
 repeat' (first|refine gL ?_|(refine gb ?_;intro b)|fail)
 revert b
 intro b4
 refine CT.loop (α := Nat) (fun i => [(0, .slice ra fs.length rc), (1, .int .i32 num), (4, ptr b4), (5, .bool false), (8, .slice ra fs.length rc), (9, .int .i64 fs.length), (10, .int .i64 i)]) (fun i => Pu (i ≤ fs.length ∧ findL (fs.drop i) num = findL fs num) :: Cs b4 203 fp0 :: R) (fun i => fs.length - i) 0
  ⟨rfl, rfl, rfl, rfl, rfl, rfl, rfl, trivial⟩ (fun w h => Sat.pu_in ⟨Nat.zero_le _, rfl⟩ h) (fun i => CT.pu fun ⟨hil, hF⟩ => ?_)
 repeat' (first|refine gL ?_|(refine gv ?_;(refine⟨fun hc=>?_,fun hc=>?_⟩<;>first|(exfalso;omega)|skip))|fail)
 ·have hi' : i < fs.length := by omega
  have hgi := List.getElem?_eq_getElem hi'
  have hdr := List.drop_eq_getElem_cons hi'
  revert hgi hdr
  generalize fs[i] = fe
  intro hgi hdr
  rw [hdr] at hF
  refine RT.ix T (j := i * 5) rfl rfl rfl (rD (hR)) (by omega) (by omega) (by omega) rfl rfl ?_
  refine RT.ldra T rfl (rD (hR)) (l := fe.cells) (flat_sub (f := FP.cells) (z := 5) (fun _ => rfl) fs i _ hgi) rfl rfl rfl rfl ?_
  repeat' (first|refine gM ?_|(refine gv ?_;first|(refine⟨fun hc=>?_,fun hc=>?_⟩<;>first|(exfalso;omega)|skip)|refine gk ?_)|(refine gb ?_;intro b)|fail)
  revert b
  intro b7
  skip
  ·have hf : findL fs num = some fe := by rw [← hF]; unfold findL; rw [List.find?_cons_of_pos (by simpa using hc)]
   refine AtQ.finAT (l := fe.cells) (H' := []) (e := 203) (b := b4) T Tryz.results280 rfl rfl rfl rfl sE_ ?_ (fun w h => h.tail.tail) (by first | exact .inl rfl | exact .inr rfl)
   exact ⟨by rw [hf]; rfl, rfl⟩
  ·have hf : findL (fs.drop (i + 1)) num = findL fs num := by rw [← hF]; unfold findL; rw [List.find?_cons_of_neg (by simpa using hc)]
   exact AtQ.loop (i + 1) ⟨rfl, rfl, rfl, rfl, rfl, rfl, rfl, trivial⟩ (fun w h => Sat.pu_in ⟨by omega, hf⟩ h.tail) (by omega)
 ·have hie : i = fs.length := by omega
  rw [hie, List.drop_length] at hF
  try refine gM ?_
  refine AtQ.finAT (l := fp0) (H' := []) (e := 203) (b := b4) T Tryz.results280 rfl rfl rfl rfl sE_ ?_ (fun w h => h.tail) (by first | exact .inl rfl | exact .inr rfl)
  exact ⟨by rw [← hF]; rfl, rfl⟩
theorem find_Span (hR : Rd B R ra fs.length rc 5 (fs.flatMap FP.cells)) (hl : fs.length ≤ 1000) :
  Sp B Tryz.prog 281 [.slice ra fs.length rc, .int .i32 num] R [] (fun v H' => v = findV (findL fs num) ∧ H' = []) := by
 refine Sp.bodyM Tryz.func281 rfl Tryz.ntmps281 (by simp) ?_
 simp only [argE, List.cons_append, List.nil_append, Nat.zero_add, Nat.reduceAdd]
 repeat' (first|refine gL ?_|(refine gb ?_;intro b)|fail)
 revert b
 intro b4
 refine CT.loop (α := Nat) (fun i => [(0, .slice ra fs.length rc), (1, .int .i32 num), (4, ptr b4), (5, .bool false), (8, .slice ra fs.length rc), (9, .int .i64 fs.length), (10, .int .i64 i)]) (fun i => Pu (i ≤ fs.length ∧ findL (fs.drop i) num = findL fs num) :: Cs b4 193 fp0 :: R) (fun i => fs.length - i) 0
  ⟨rfl, rfl, rfl, rfl, rfl, rfl, rfl, trivial⟩ (fun w h => Sat.pu_in ⟨Nat.zero_le _, rfl⟩ h) (fun i => CT.pu fun ⟨hil, hF⟩ => ?_)
 repeat' (first|refine gL ?_|(refine gv ?_;(refine⟨fun hc=>?_,fun hc=>?_⟩<;>first|(exfalso;omega)|skip))|fail)
 ·have hi' : i < fs.length := by omega
  have hgi := List.getElem?_eq_getElem hi'
  have hdr := List.drop_eq_getElem_cons hi'
  revert hgi hdr
  generalize fs[i] = fe
  intro hgi hdr
  rw [hdr] at hF
  refine RT.ix T (j := i * 5) rfl rfl rfl (rD (hR)) (by omega) (by omega) (by omega) rfl rfl ?_
  refine RT.ldra T rfl (rD (hR)) (l := fe.cells) (flat_sub (f := FP.cells) (z := 5) (fun _ => rfl) fs i _ hgi) rfl rfl rfl rfl ?_
  repeat' (first|refine gM ?_|(refine gv ?_;first|(refine⟨fun hc=>?_,fun hc=>?_⟩<;>first|(exfalso;omega)|skip)|refine gk ?_)|(refine gb ?_;intro b)|fail)
  revert b
  intro b7
  skip
  ·have hf : findL fs num = some fe := by rw [← hF]; unfold findL; rw [List.find?_cons_of_pos (by simpa using hc)]
   refine AtQ.finAT (l := fe.cells) (H' := []) (e := 193) (b := b4) T Tryz.results281 rfl rfl rfl rfl sE_ ?_ (fun w h => h.tail.tail) (by first | exact .inl rfl | exact .inr rfl)
   exact ⟨by rw [hf]; rfl, rfl⟩
  ·have hf : findL (fs.drop (i + 1)) num = findL fs num := by rw [← hF]; unfold findL; rw [List.find?_cons_of_neg (by simpa using hc)]
   exact AtQ.loop (i + 1) ⟨rfl, rfl, rfl, rfl, rfl, rfl, rfl, trivial⟩ (fun w h => Sat.pu_in ⟨by omega, hf⟩ h.tail) (by omega)
 ·have hie : i = fs.length := by omega
  rw [hie, List.drop_length] at hF
  try refine gM ?_
  refine AtQ.finAT (l := fp0) (H' := []) (e := 193) (b := b4) T Tryz.results281 rfl rfl rfl rfl sE_ ?_ (fun w h => h.tail) (by first | exact .inl rfl | exact .inr rfl)
  exact ⟨by rw [← hF]; rfl, rfl⟩
end Go.Proofs.YtclcnhfponjdaaaGreatDoor
end
section
namespace Go.Proofs.YtclcnhfponjdaaaGreatDoor
open Go.Sk
set_option maxRecDepth 100000
/-- A field's reader, on a record under way (cells: of the tree; er: without its places; ow: its rows; cnt: a bound of their lengths). -/
def GetC {α : Type} (B : World) (R : List HP) (ty : TypeId) (f : FP) (what : FK) (num : Nat) (cells : α → List Value) (er : α → α) (ow : α → List HP) (cnt : α → Nat) (bs : Txt) (a : Option Addr) (n c : Nat) (deep : Int) (upd : α → Nat → Got → Except Nat α) : Prop :=
 ∀ R', (∀ a k c z l, Rd B R a k c z l → Rd B R' a k c z l) → ∀ pd px pr p to at_ x, p ≤ to → to ≤ n → cnt x ≤ p → Rd B R' (some ⟨pd, 0, none⟩) 1 1 3 [ptr pr, .int .i64 (at_ : Nat), .int .i64 deep] →
  SpP B Tryz.prog f.fg ([ptr pd, ptr px] ++ f.cg) R' [Cs px ty (cells x), Bag (ow x), rdo pr a n c p to]
   (fun _ H' => ∃ m q t x', contL what bs p to = some (m, q, t) ∧ t ≤ to ∧ q ≤ t ∧ p < q ∧ cnt x' ≤ t ∧ upd (er x) at_ ⟨num, m, q, t⟩ = .ok (er x') ∧ H' = [Cs px ty (cells x'), Bag (ow x'), rdo pr a n c t to])
   (fun v H' => ∃ pl : Nat, v = wrv pl ∧ H' = [] ∧ (contL what bs p to = none ∧ pl = at_ ∨ ∃ m q t, contL what bs p to = some (m, q, t) ∧ upd (er x) at_ ⟨num, m, q, t⟩ = .error pl))
theorem FK.kind_le (k : FK) : 0 ≤ k.kind ∧ k.kind ≤ 5 := by cases k <;> decide
theorem tag_cases (form : List FK) (bs : Txt) (p to last : Nat) : (∃ v k, vr ((bs.drop p).take (to - p)) 0 0 = .ok v k ∧ v ≤ 4294967295 ∧ v / 8 ≠ 0 ∧ v % 8 ≤ 5 ∧ RS.tag bs ⟨p, to, 0, 0⟩ = ((v / 8, v % 8), ⟨p + k, to, 0, 0⟩)) ∨ ((RS.tag bs ⟨p, to, 0, 0⟩).2.e ≠ 0 ∧ tagL form bs p to last = none) := by
 cases hv : vr ((bs.drop p).take (to - p)) 0 0 with
 | ok v k =>
  have h1 := varint_eq hv
  by_cases hbad : 4294967295 < v ∨ v / 8 = 0 ∨ 5 < v % 8
  ·right
   refine ⟨by unfold RS.tag; simp only [h1, if_true]; rw [if_pos hbad]; simp, ?_⟩
   unfold tagL
   rw [shortV_eq hv]
   by_cases hk : k = (enc v).length
   ·rw [if_pos hk]
    simp only
    have := FK.kind_le (form.getD ((v / 8).toNat - 1) .t)
    exact if_neg (fun h => by omega)
   ·rw [if_neg hk]
  ·left
   exact ⟨v, k, rfl, by omega, by omega, by omega, by unfold RS.tag; simp only [h1, if_true]; rw [if_neg hbad]⟩
 | short =>
  right
  have h1 : RS.varint bs ⟨p, to, 0, 0⟩ = (0, ⟨p, to, 10, p⟩) := by simp [RS.varint, RS.seg, hv]
  exact ⟨by unfold RS.tag; simp [h1], by simp [tagL, shortV, hv]⟩
 | long =>
  right
  have h1 : RS.varint bs ⟨p, to, 0, 0⟩ = (0, ⟨p, to, 11, p⟩) := by simp [RS.varint, RS.seg, hv]
  exact ⟨by unfold RS.tag; simp [h1], by simp [tagL, shortV, hv]⟩
theorem findL_from (num : Int) : ∀ (l : List FP) (o : Nat), (∀ i f, l[i]? = some f → f.num = ((o + i + 1 : Nat) : Int)) → findL l num = if (o : Int) + 1 ≤ num ∧ num ≤ (o : Int) + l.length then l[(num - o - 1).toNat]? else none
 | [], o, _ => by
  rw [if_neg (by simp only [List.length_nil]; omega)]
  rfl
 | f :: l, o, h => by
  have h0 := h 0 f rfl
  unfold findL
  by_cases hf : f.num = num
  ·rw [List.find?_cons_of_pos (by simpa using hf), if_pos (by simp only [List.length_cons]; omega)]
   rw [show (num - o - 1).toNat = 0 by omega]
   rfl
  ·rw [List.find?_cons_of_neg (by simpa using hf)]
   have ih := findL_from num l (o + 1) (fun i g hg => by rw [h (i + 1) g hg]; congr 1; omega)
   unfold findL at ih
   rw [ih]
   by_cases hc : ((o + 1 : Nat) : Int) + 1 ≤ num ∧ num ≤ ((o + 1 : Nat) : Int) + l.length
   ·rw [if_pos hc, if_pos (by simp only [List.length_cons]; omega)]
    rw [show (num - o - 1).toNat = (num - (o + 1 : Nat) - 1).toNat + 1 by omega]
    rfl
   ·rw [if_neg hc, if_neg (by simp only [List.length_cons]; omega)]
theorem findL_num {fs : List FP} (h : ∀ i f, fs[i]? = some f → f.num = ((i + 1 : Nat) : Int)) (num : Int) : findL fs num = if 1 ≤ num ∧ num ≤ fs.length then fs[(num - 1).toNat]? else none := by
 have := findL_from num fs 0 (fun i f hf => by rw [h i f hf]; congr 1; omega)
 simpa using this
theorem gotL_none {form : List FK} {bs : Txt} {p t last q : Nat} {v : Int} (hsv : shortV bs p t = some (v, q)) (hno : ¬ (v ≤ 4294967295 ∧ 1 ≤ v / 8 ∧ v / 8 ≤ form.length ∧ (last < (v / 8).toNat ∨ last = (v / 8).toNat ∧ (form.getD ((v / 8).toNat - 1) .t).list = true) ∧ v % 8 = (form.getD ((v / 8).toNat - 1) .t).kind)) : gotL form bs p t last = none := by
 unfold gotL tagL
 rw [hsv]
 simp only
 rw [if_neg hno]
theorem gotL_yes {form : List FK} {bs : Txt} {p t last q : Nat} {v : Int} (hsv : shortV bs p t = some (v, q)) (hok : v ≤ 4294967295 ∧ 1 ≤ v / 8 ∧ v / 8 ≤ form.length ∧ (last < (v / 8).toNat ∨ last = (v / 8).toNat ∧ (form.getD ((v / 8).toNat - 1) .t).list = true) ∧ v % 8 = (form.getD ((v / 8).toNat - 1) .t).kind) : gotL form bs p t last = match contL (form.getD ((v / 8).toNat - 1) .t) bs q t with | none => none | some (n, fr, t') => some ⟨(v / 8).toNat, n, fr, t'⟩ := by
 unfold gotL tagL
 rw [hsv]
 simp only
 rw [if_pos hok]
 simp only
 cases contL (form.getD ((v / 8).toNat - 1) .t) bs q t <;> rfl
end Go.Proofs.YtclcnhfponjdaaaGreatDoor
end
section
namespace Go.Proofs.YtclcnhfponjdaaaGreatDoor
open Go.Sk
set_option maxRecDepth 100000
theorem AtQ.finPA {B : World} {P : Program} {fn : Func} {Post PP : Value → List HP → Prop} (T : Tab P) {nn : Nat} {E : Env} {H R : List HP} {t ty b e z : Nat} {l : List Value} {R2 H' : List HP} (hr : fn.results = #[.cell t ty]) (he : lk E t = some (.pointer (some ⟨b, 0, none⟩))) (ht : al T.szs ty = some (z, true)) (hz : l.length = z) (hsel : Sel H (Cs b e l) R2)
  (hp : Post (.agg l.toArray) H') (hs : ∀ w, Sat B H w → Sat B (H' ++ R) w) {ex : Exit} (hex : ex = .normal ∨ ex = .ret) : AtQ B (.mk0 nn) E H (FinP B P fn R Post PP) ex := fun a w hA hS => by
 have h := res_agg T hr he ht hz hsel a w hA hS
 rcases hex with rfl | rfl <;> exact ⟨hA.defers, _, h, .inl ⟨_, H', rfl, hp, hs w hS⟩⟩
def sCells (r : Rw FileT) : List Value := [r.v]
/-- Where a record's reading stands. -/
structure RdS (α : Type) where
 p : Nat
 last : Nat
 at_ : Nat
 x : α
attribute [local irreducible] Cs Own Ex Pu Yld RT LJ QJ AtQ CT Rd QSp Sp FinQ Then LoopQ CutQ DT TakeQ EffQ
attribute [local irreducible] Bag
variable {B : World} {R : List HP}
set_option maxHeartbeats 4000000 in
theorem read_Span {form : List FK} {fs : List FP} {ra : Option Addr} {rc : Nat} {a : Option Addr} {n c : Nat} {deep : Int} {bs : Txt} {er : SpanT → SpanT} {ow : SpanT → List HP} {cnt : SpanT → Nat} {upd : SpanT → Nat → Got → Except Nat SpanT}
  (hfs : Rd B R ra fs.length rc 5 (fs.flatMap FP.cells)) (hlen : fs.length = form.length) (hlm : fs.length ≤ 100) (hnum : ∀ i f, fs[i]? = some f → f.num = ((i + 1 : Nat) : Int) ∧ f.kind = (form.getD i .t).kind ∧ f.lst = (form.getD i .t).list)
  (hfun : ∀ f ∈ fs, ∃ gb, al T.funs f.fg = some gb) (hget : ∀ i f, fs[i]? = some f → GetC B R 196 f (form.getD i .t) (i + 1) SpanT.cells er ow cnt bs a n c deep upd) (hd0 : 0 ≤ deep) (hd1 : deep ≤ 1000)
  (hR : Rd B R a n c 1 (ints .u8 bs)) (hb : Bytes bs) (h3 : n ≤ 16777216) (hc0 : cnt span0 = 0) (hbag : ∀ H w, Sat B H w → Sat B (Bag (ow span0) :: H) w) :
  RdrC B R 202 (.slice ra fs.length rc) deep a n c SpanT.cells er ow (fun q t => readR form bs upd q t (er span0)) := by
 intro R' hM p' q t h1 h2
 refine SpP.body Tryz.func202 rfl Tryz.ntmps202 (by simp) ?_
 simp only [argE, List.cons_append, List.nil_append, Nat.zero_add, Nat.reduceAdd]
 repeat' (first|refine gL ?_|(refine gb ?_;intro b)|fail)
 rename_i b6 b7
 revert b
 intro bi
 refine CT.loop (α := RdS SpanT) (fun s => [(0, .slice ra fs.length rc), (1, ptr p'), (2, .int .i64 deep), (6, ptr b6), (7, ptr b7), (8, .int .i32 s.last), (9, ptr bi)])
  (fun s => Pu (s.p ≤ t ∧ cnt s.x ≤ s.p ∧ s.last ≤ 100 ∧ ∃ k, t - s.p < k ∧ recL form bs upd k s.p t s.last (er s.x) = readR form bs upd q t (er span0)) :: rdo p' a n c s.p t :: Cs bi 313 [ptr p', .int .i64 s.at_, .int .i64 deep] :: Cs b7 196 (SpanT.cells s.x) :: Bag (ow s.x) :: Cs b6 196 (SpanT.cells span0) :: R') (fun s => t - s.p) ⟨q, 0, 0, span0⟩
  ⟨rfl, rfl, rfl, rfl, rfl, rfl, rfl, trivial⟩ (fun w h => Sat.pu_in ⟨h1, by show cnt span0 ≤ q; omega, Nat.zero_le _, t - q + 1, by show t - q < t - q + 1; omega, rfl⟩ ((hbag _ w h).frd (Ps := [_, _, _, _, _]) (Qs := []) fR_)) (fun s => CT.pu fun ⟨hpt, hcn, hla, k, hk, hrec⟩ => ?_)
 obtain ⟨p, last, at0, x⟩ := s
 simp only at hpt hcn hla hk hrec ⊢
 try refine gL ?_
 (refine RT.call T rfl fR_ (left_o hpt (by omega)) rfl rfl rfl ?_; rintro _ _ ⟨rfl, rfl⟩; try simp only [List.cons_append, List.nil_append])
 repeat' (first|refine gL ?_|(refine gv ?_;(refine⟨fun hc=>?_,fun hc=>?_⟩<;>first|(exfalso;omega)|skip))|fail)
 rotate_left
 ·have hpt2 : p = t := by omega
  match k, hk, hrec with
  | k + 1, _, hrec =>
   unfold recL at hrec
   rw [if_neg (by omega)] at hrec
   try refine gM ?_
   refine AtQ.finPA (l := SpanT.cells x) (H' := [Bag (ow x)]) (b := b6) (e := 196) T Tryz.results202 rfl rfl rfl sE_ ?_ (fun w h => h.frd (Ps := [_]) (Qs := [_, _, _, _]) fR_) (by first | exact .inl rfl | exact .inr rfl)
   exact ⟨x, hrec.symm, rfl, rfl⟩
 have hplt : p < t := by omega
 have hok : RS.ok n ⟨p, t, 0, 0⟩ := ⟨hpt, h2, Nat.zero_le _⟩
 have hbl := hR.lenI
 have hR' := hM _ _ _ _ _ hR
 have hfs' := hM _ _ _ _ _ hfs
 (refine RT.call T rfl fR_ (at_fn) rfl rfl rfl ?_; rintro _ _ ⟨rfl, rfl⟩; try simp only [List.cons_append, List.nil_append])
 try refine gL ?_
 (refine RT.call T rfl fR_ (rtag_fn (rD (hR')) hb hok (by omega)) rfl rfl rfl ?_; rintro _ _ ⟨rfl, rfl⟩; try simp only [List.cons_append, List.nil_append])
 rcases tag_cases form bs p t last with ⟨v, kk, hv, hv1, hv2, hv3, htag⟩ | ⟨he, htn⟩
 rotate_left
 ·generalize RS.tag bs ⟨p, t, 0, 0⟩ = tg at he ⊢
  obtain ⟨⟨n1, k1⟩, s2⟩ := tg
  simp only at he ⊢
  try refine gL ?_
  (refine RT.call T rfl fR_ (err_fn) rfl rfl rfl ?_; rintro _ _ ⟨rfl, rfl⟩; try simp only [List.cons_append, List.nil_append])
  try refine gQ ?_
  have hres : readR form bs upd q t (er span0) = .error p := by
   match k, hk, hrec with
   | k + 1, _, hrec =>
    unfold recL at hrec
    rw [if_pos hplt] at hrec
    unfold gotL at hrec
    rw [htn] at hrec
    exact hrec.symm
  refine CT.drawnP (Cs bi 313 [ptr p', .int .i64 p, .int .i64 deep] :: R') 20 mixed ?_
  refine DTP.tk (k := 6) [0, 1, 2, 3, 4, 6, 7, 8, 9, 11, 12, 13, 14, 15, 16] [5, 10, 17, 18, 19, 20] ?_
  repeat' (first|refine gL ?_|(refine gv ?_;(refine⟨fun hc=>?_,fun hc=>?_⟩<;>first|(exfalso;omega)|skip))|fail)
  refine AtQ.takeP ?_
  refine DTP.ef 5 ?_
  try refine gL ?_
  refine AtQ.ep ?_
  refine DTP.tk (k := 4) [10] [17, 18, 19, 20] ?_
  try refine gL ?_
  refine AtQ.takeP ?_
  refine DTP.ef 17 ?_
  try refine gL ?_
  refine AtQ.ep ?_
  refine DTP.tk (k := 1) [18, 19] [20] ?_
  try refine gL ?_
  refine AtQ.takeP ?_
  refine DTP.ef 20 ?_
  refine RT.callP T rfl fR_ (need_f (pd := bi) (pr := p') (at_ := p) (deep := deep) (Cs.rd (l := [ptr p', .int .i64 p, .int .i64 deep]) sE_)) rfl rfl rfl (fun v H1 hp => ?_) (fun v H1 hp => ?_)
  ·obtain ⟨rfl, rfl⟩ := hp
   ((repeat refine nx ?_); exact AtQ.finP (H' := []) ⟨p, hres, rfl, rfl⟩ dR_)
  ·exact hp.elim
 rw [htag]
 have hvs := RS.varint_spec (s := ⟨p, t, 0, 0⟩) hok hbl hb
 rw [varint_eq hv] at hvs
 obtain ⟨⟨r1, _, _⟩, _, r3, r4, _, r5⟩ := hvs
 simp only at r1 r3 r4 r5
 have r6 := (r5 trivial).2
 have hsv := shortV_eq hv
 have hel := (enc_len r4).2.1
 have henc := r4
 obtain ⟨v0, v1⟩ := r4
 try refine gL ?_
 (refine RT.call T rfl fR_ (err_fn) rfl rfl rfl ?_; rintro _ _ ⟨rfl, rfl⟩; try simp only [List.cons_append, List.nil_append])
 try refine gQ ?_
 refine CT.drawnP (Cs bi 313 [ptr p', .int .i64 p, .int .i64 deep] :: R') 20 mixed ?_
 refine DTP.tk (k := 6) [0, 1, 2, 3, 4, 6, 7, 8, 9, 11, 12, 13, 14, 15, 16] [5, 10, 17, 18, 19, 20] ?_
 repeat' (first|refine gL ?_|(refine gv ?_;first|(refine⟨fun hc=>?_,fun hc=>?_⟩<;>first|(exfalso;omega)|skip)|refine gk ?_)|fail)
 refine RT.ar rfl rfl (y_shl rfl rfl (by omega) (shl3 (by omega) (by omega))) rfl rfl ?_
 repeat' (first|refine gL ?_|(refine gv ?_;refine gk ?_)|fail)
 refine RT.ar rfl rfl (y_or rfl rfl (or_tag (by omega) (by omega) (by omega) (by omega))) rfl rfl ?_
 rw [show v / 8 * 8 + v % 8 = v by omega]
 try refine gL ?_
 refine AtQ.takeP ?_
 refine DTP.ef 5 ?_
 (refine RT.call T rfl fR_ (at_fn) rfl rfl rfl ?_; rintro _ _ ⟨rfl, rfl⟩; try simp only [List.cons_append, List.nil_append])
 try refine gL ?_
 refine AtQ.ep ?_
 refine DTP.tk (k := 4) [10] [17, 18, 19, 20] ?_
 repeat' (first|refine gL ?_|(refine gv ?_;refine gk ?_)|fail)
 refine AtQ.takeP ?_
 refine DTP.ef 17 ?_
 (refine RT.call T rfl fR_ (size_fn henc) rfl rfl rfl ?_; rintro _ _ ⟨rfl, rfl⟩; try simp only [List.cons_append, List.nil_append])
 try refine gL ?_
 refine AtQ.ep ?_
 refine DTP.tk (k := 1) [18, 19] [20] ?_
 repeat' (first|refine gL ?_|(refine gv ?_;(refine⟨fun hc=>?_,fun hc=>?_⟩<;>first|(exfalso;omega)|skip))|fail)
 rotate_left
 ·have hres : readR form bs upd q t (er span0) = .error p := by
   match k, hk, hrec with
   | k + 1, _, hrec =>
    unfold recL at hrec
    rw [if_pos hplt] at hrec
    unfold gotL tagL at hrec
    rw [hsv, if_neg (by omega)] at hrec
    exact hrec.symm
  refine AtQ.takeP ?_
  refine DTP.ef 20 ?_
  refine RT.callP T rfl fR_ (need_f (pd := bi) (pr := p') (at_ := p) (deep := deep) (Cs.rd (l := [ptr p', .int .i64 p, .int .i64 deep]) sE_)) rfl rfl rfl (fun v H1 hp => ?_) (fun v H1 hp => ?_)
  ·obtain ⟨rfl, rfl⟩ := hp
   ((repeat refine nx ?_); exact AtQ.finP (H' := []) ⟨p, hres, rfl, rfl⟩ dR_)
  ·exact hp.elim
 refine AtQ.takeP ?_
 refine DTP.ef 20 ?_
 (refine RT.call T rfl fR_ (need_t) rfl rfl rfl ?_; rintro _ _ ⟨rfl, rfl⟩; try simp only [List.cons_append, List.nil_append])
 try refine gL ?_
 refine AtQ.eq ?_
 refine DTP.dn ?_
 rw [if_pos (by omega)] at hsv
 have hfl := findL_num (fun i f hf => (hnum i f hf).1) (v / 8)
 try refine gL ?_
 (refine RT.qcall T rfl (QSp.of fR_ (find_Span (fs := fs) (num := v / 8) (rD (hfs')) (by omega))) rfl rfl rfl ?_)
 by_cases hin : 1 ≤ v / 8 ∧ v / 8 ≤ fs.length
 rotate_left
 ·rw [if_neg hin] at hfl
  rw [hfl]
  have hres : readR form bs upd q t (er span0) = .error p := by
   match k, hk, hrec with
   | k + 1, _, hrec =>
    unfold recL at hrec
    rw [if_pos hplt] at hrec
    unfold gotL tagL at hrec
    rw [hsv] at hrec
    simp only at hrec
    rw [if_neg (by omega)] at hrec
    exact hrec.symm
  unfold findV
  repeat' (first|refine gM ?_|(refine gb ?_;intro b)|fail)
  refine RT.callP T rfl fR_ (need_f (pd := bi) (pr := p') (at_ := p) (deep := deep) (Cs.rd (l := [ptr p', .int .i64 p, .int .i64 deep]) sE_)) rfl rfl rfl (fun v H1 hp => ?_) (fun v H1 hp => ?_)
  ·obtain ⟨rfl, rfl⟩ := hp
   ((repeat refine nx ?_); exact AtQ.finP (H' := []) ⟨p, hres, rfl, rfl⟩ dR_)
  ·exact hp.elim
 rw [if_pos hin] at hfl
 have hi : (v / 8 - 1).toNat < fs.length := by omega
 obtain ⟨fe, hfe⟩ : ∃ fe, fs[(v / 8 - 1).toNat]? = some fe := ⟨_, List.getElem?_eq_getElem hi⟩
 rw [hfe] at hfl
 rw [hfl]
 obtain ⟨g1, g2, g3⟩ := hnum _ _ hfe
 obtain ⟨fnum, fkind, flst, ffp, fcp, ffg, fcg⟩ := fe
 rw [show findV (some (⟨fnum, fkind, flst, ffp, fcp, ffg, fcg⟩ : FP)) = .tuple #[.agg #[.int .i32 fnum, .int .u8 fkind, .bool flst, .func (.func ffp) #[] fcp.toArray, .func (.func ffg) #[] fcg.toArray], .bool true] from rfl]
 simp only at g1 g2 g3
 have hidx : (v / 8).toNat - 1 = (v / 8 - 1).toNat := by omega
 have hbad : ¬ ((last < (v / 8).toNat ∨ last = (v / 8).toNat ∧ flst = true) ∧ v % 8 = fkind) → readR form bs upd q t (er span0) = .error p := fun hno => by
  match k, hk, hrec with
  | k + 1, _, hrec =>
   unfold recL at hrec
   rw [if_pos hplt, gotL_none hsv (fun ⟨_, _, _, h4, h5⟩ => hno ⟨by rw [hidx, ← g3] at h4; exact h4, by rw [hidx, ← g2] at h5; exact h5⟩)] at hrec
   exact hrec.symm
 have hcase : v / 8 < last ∨ (v / 8 = last ∧ flst = false) ∨ (last < v / 8 ∧ v % 8 ≠ fkind) ∨ (v / 8 = last ∧ flst = true ∧ v % 8 ≠ fkind) ∨ (last < v / 8 ∧ v % 8 = fkind) ∨ (v / 8 = last ∧ flst = true ∧ v % 8 = fkind) := by
  cases flst <;> simp only [Bool.false_eq_true, true_and, false_and, and_true, and_false, or_false, false_or, reduceCtorEq] <;> omega
 have hn8 : (((v / 8).toNat : Nat) : Int) = v / 8 := Int.toNat_of_nonneg (by omega)
 rcases hcase with hb1 | ⟨hb1, rfl⟩ | ⟨hb1, hb2⟩ | ⟨hb1, rfl, hb2⟩ | hgood
 iterate 4 (
  focus (
   have hres := hbad (fun h => by rcases h with ⟨h1 | ⟨h1, h2⟩, h3⟩ <;> first | omega | exact absurd h2 (by decide) | exact absurd h3 hb2)
   repeat' (first|refine gM ?_|(refine gv ?_;(refine⟨fun hc=>?_,fun hc=>?_⟩<;>first|(exfalso;omega)|skip))|(refine gb ?_;intro b)|fail)
   refine RT.callP T rfl fR_ (need_f (pd := bi) (pr := p') (at_ := p) (deep := deep) (Cs.rd (l := [ptr p', .int .i64 p, .int .i64 deep]) sE_)) rfl rfl rfl (fun v H1 hp => ?_) (fun v H1 hp => ?_)
   ·obtain ⟨rfl, rfl⟩ := hp
    ((repeat refine nx ?_); exact AtQ.finP (H' := []) ⟨p, hres, rfl, rfl⟩ dR_)
   ·exact hp.elim))
 have hgood2 : (last < (v / 8).toNat ∨ last = (v / 8).toNat ∧ flst = true) ∧ v % 8 = fkind := by
  rcases hgood with ⟨h1, h2⟩ | ⟨h1, h2, h3⟩
  ·exact ⟨.inl (by omega), h2⟩
  ·exact ⟨.inr ⟨by omega, h2⟩, h3⟩
 have hgot := gotL_yes hsv (form := form) (last := last) (by rw [hidx, ← g3, ← g2]; exact ⟨hv1, by omega, by omega, hgood2⟩)
 rw [hidx] at hgot
 have hget1 := hget _ _ hfe
 obtain ⟨gbf, hfg⟩ := hfun _ (List.mem_of_getElem? hfe)
 rcases hgood with ⟨hb1, hb2⟩ | ⟨hb1, rfl, hb2⟩
 all_goals (
  repeat' (first|refine gM ?_|(refine gv ?_;(refine⟨fun hc=>?_,fun hc=>?_⟩<;>first|(exfalso;omega)|skip))|(refine gb ?_;intro b)|fail)
  (refine RT.call T rfl fR_ (need_t) rfl rfl rfl ?_; rintro _ _ ⟨rfl, rfl⟩; try simp only [List.cons_append, List.nil_append])
  try refine gM ?_
  refine RT.callCP T (caps := fcg) rfl rfl fR_ (hget1 _ (fun _ _ _ _ _ h => (rD ((hM _ _ _ _ _ h)))) bi b7 p' (p + kk) t p x (by omega) h2 (by omega) (Cs.rd (l := [ptr p', .int .i64 p, .int .i64 deep]) sE_)) (hfg) rfl rfl (fun v9 H1 hp => ?_) (fun v9 H1 hp => ?_)
  ·obtain ⟨pl, rfl, rfl, hp⟩ := hp
   have hres : readR form bs upd q t (er span0) = .error pl := by
    match k, hk, hrec with
    | k + 1, _, hrec =>
     unfold recL at hrec
     rw [if_pos hplt, hgot] at hrec
     rcases hp with ⟨hc1, rfl⟩ | ⟨m, q9, t9, hc1, hu⟩
     ·rw [hc1] at hrec
      exact hrec.symm
     ·rw [hc1] at hrec
      simp only [show (v / 8).toNat = (v / 8 - 1).toNat + 1 by omega, hu] at hrec
      exact hrec.symm
   ((repeat refine nx ?_); exact AtQ.finP (H' := []) ⟨pl, hres, rfl, rfl⟩ dR_)
  obtain ⟨m, q9, t9, x9, hc1, ht1, ht2, ht3, hn9, hu, rfl⟩ := hp
  simp only [List.cons_append, List.nil_append]
  try refine gM ?_
  match k, hk, hrec with
  | k + 1, hk, hrec =>
   unfold recL at hrec
   rw [if_pos hplt, hgot, hc1] at hrec
   have e8 : (v / 8).toNat = (v / 8 - 1).toNat + 1 := by omega
   simp only [e8, hu] at hrec
   refine AtQ.loop ⟨t9, (v / 8).toNat, p, x9⟩ ⟨rfl, rfl, rfl, rfl, rfl, (by rw [hn8]; rfl), rfl, trivial⟩ (fun w h => Sat.pu_in ⟨ht1, hn9, (show (v / 8).toNat ≤ 100 by omega), k, by simp only; omega, by rw [e8]; exact hrec⟩ (h.frd (Ps := [_, _, _, _, _]) (Qs := [_]) fR_)) (by simp only; omega))
set_option maxHeartbeats 4000000 in
theorem read_EnumValue {form : List FK} {fs : List FP} {ra : Option Addr} {rc : Nat} {a : Option Addr} {n c : Nat} {deep : Int} {bs : Txt} {er : EValT → EValT} {ow : EValT → List HP} {cnt : EValT → Nat} {upd : EValT → Nat → Got → Except Nat EValT}
  (hfs : Rd B R ra fs.length rc 5 (fs.flatMap FP.cells)) (hlen : fs.length = form.length) (hlm : fs.length ≤ 100) (hnum : ∀ i f, fs[i]? = some f → f.num = ((i + 1 : Nat) : Int) ∧ f.kind = (form.getD i .t).kind ∧ f.lst = (form.getD i .t).list)
  (hfun : ∀ f ∈ fs, ∃ gb, al T.funs f.fg = some gb) (hget : ∀ i f, fs[i]? = some f → GetC B R 80 f (form.getD i .t) (i + 1) EValT.cells er ow cnt bs a n c deep upd) (hd0 : 0 ≤ deep) (hd1 : deep ≤ 1000)
  (hR : Rd B R a n c 1 (ints .u8 bs)) (hb : Bytes bs) (h3 : n ≤ 16777216) (hc0 : cnt val0 = 0) (hbag : ∀ H w, Sat B H w → Sat B (Bag (ow val0) :: H) w) :
  RdrC B R 196 (.slice ra fs.length rc) deep a n c EValT.cells er ow (fun q t => readR form bs upd q t (er val0)) := by
 intro R' hM p' q t h1 h2
 refine SpP.body Tryz.func196 rfl Tryz.ntmps196 (by simp) ?_
 simp only [argE, List.cons_append, List.nil_append, Nat.zero_add, Nat.reduceAdd]
 repeat' (first|refine gL ?_|(refine gb ?_;intro b)|fail)
 rename_i b6 b7
 revert b
 intro bi
 refine CT.loop (α := RdS EValT) (fun s => [(0, .slice ra fs.length rc), (1, ptr p'), (2, .int .i64 deep), (6, ptr b6), (7, ptr b7), (8, .int .i32 s.last), (9, ptr bi)])
  (fun s => Pu (s.p ≤ t ∧ cnt s.x ≤ s.p ∧ s.last ≤ 100 ∧ ∃ k, t - s.p < k ∧ recL form bs upd k s.p t s.last (er s.x) = readR form bs upd q t (er val0)) :: rdo p' a n c s.p t :: Cs bi 313 [ptr p', .int .i64 s.at_, .int .i64 deep] :: Cs b7 80 (EValT.cells s.x) :: Bag (ow s.x) :: Cs b6 80 (EValT.cells val0) :: R') (fun s => t - s.p) ⟨q, 0, 0, val0⟩
  ⟨rfl, rfl, rfl, rfl, rfl, rfl, rfl, trivial⟩ (fun w h => Sat.pu_in ⟨h1, by show cnt val0 ≤ q; omega, Nat.zero_le _, t - q + 1, by show t - q < t - q + 1; omega, rfl⟩ ((hbag _ w h).frd (Ps := [_, _, _, _, _]) (Qs := []) fR_)) (fun s => CT.pu fun ⟨hpt, hcn, hla, k, hk, hrec⟩ => ?_)
 obtain ⟨p, last, at0, x⟩ := s
 simp only at hpt hcn hla hk hrec ⊢
 try refine gL ?_
 (refine RT.call T rfl fR_ (left_o hpt (by omega)) rfl rfl rfl ?_; rintro _ _ ⟨rfl, rfl⟩; try simp only [List.cons_append, List.nil_append])
 repeat' (first|refine gL ?_|(refine gv ?_;(refine⟨fun hc=>?_,fun hc=>?_⟩<;>first|(exfalso;omega)|skip))|fail)
 rotate_left
 ·have hpt2 : p = t := by omega
  match k, hk, hrec with
  | k + 1, _, hrec =>
   unfold recL at hrec
   rw [if_neg (by omega)] at hrec
   try refine gM ?_
   refine AtQ.finPA (l := EValT.cells x) (H' := [Bag (ow x)]) (b := b6) (e := 80) T Tryz.results196 rfl rfl rfl sE_ ?_ (fun w h => h.frd (Ps := [_]) (Qs := [_, _, _, _]) fR_) (by first | exact .inl rfl | exact .inr rfl)
   exact ⟨x, hrec.symm, rfl, rfl⟩
 have hplt : p < t := by omega
 have hok : RS.ok n ⟨p, t, 0, 0⟩ := ⟨hpt, h2, Nat.zero_le _⟩
 have hbl := hR.lenI
 have hR' := hM _ _ _ _ _ hR
 have hfs' := hM _ _ _ _ _ hfs
 (refine RT.call T rfl fR_ (at_fn) rfl rfl rfl ?_; rintro _ _ ⟨rfl, rfl⟩; try simp only [List.cons_append, List.nil_append])
 try refine gL ?_
 (refine RT.call T rfl fR_ (rtag_fn (rD (hR')) hb hok (by omega)) rfl rfl rfl ?_; rintro _ _ ⟨rfl, rfl⟩; try simp only [List.cons_append, List.nil_append])
 rcases tag_cases form bs p t last with ⟨v, kk, hv, hv1, hv2, hv3, htag⟩ | ⟨he, htn⟩
 rotate_left
 ·generalize RS.tag bs ⟨p, t, 0, 0⟩ = tg at he ⊢
  obtain ⟨⟨n1, k1⟩, s2⟩ := tg
  simp only at he ⊢
  try refine gL ?_
  (refine RT.call T rfl fR_ (err_fn) rfl rfl rfl ?_; rintro _ _ ⟨rfl, rfl⟩; try simp only [List.cons_append, List.nil_append])
  try refine gQ ?_
  have hres : readR form bs upd q t (er val0) = .error p := by
   match k, hk, hrec with
   | k + 1, _, hrec =>
    unfold recL at hrec
    rw [if_pos hplt] at hrec
    unfold gotL at hrec
    rw [htn] at hrec
    exact hrec.symm
  refine CT.drawnP (Cs bi 313 [ptr p', .int .i64 p, .int .i64 deep] :: R') 20 mixed ?_
  refine DTP.tk (k := 6) [0, 1, 2, 3, 4, 6, 7, 8, 9, 11, 12, 13, 14, 15, 16] [5, 10, 17, 18, 19, 20] ?_
  repeat' (first|refine gL ?_|(refine gv ?_;(refine⟨fun hc=>?_,fun hc=>?_⟩<;>first|(exfalso;omega)|skip))|fail)
  refine AtQ.takeP ?_
  refine DTP.ef 5 ?_
  try refine gL ?_
  refine AtQ.ep ?_
  refine DTP.tk (k := 4) [10] [17, 18, 19, 20] ?_
  try refine gL ?_
  refine AtQ.takeP ?_
  refine DTP.ef 17 ?_
  try refine gL ?_
  refine AtQ.ep ?_
  refine DTP.tk (k := 1) [18, 19] [20] ?_
  try refine gL ?_
  refine AtQ.takeP ?_
  refine DTP.ef 20 ?_
  refine RT.callP T rfl fR_ (need_f (pd := bi) (pr := p') (at_ := p) (deep := deep) (Cs.rd (l := [ptr p', .int .i64 p, .int .i64 deep]) sE_)) rfl rfl rfl (fun v H1 hp => ?_) (fun v H1 hp => ?_)
  ·obtain ⟨rfl, rfl⟩ := hp
   ((repeat refine nx ?_); exact AtQ.finP (H' := []) ⟨p, hres, rfl, rfl⟩ dR_)
  ·exact hp.elim
 rw [htag]
 have hvs := RS.varint_spec (s := ⟨p, t, 0, 0⟩) hok hbl hb
 rw [varint_eq hv] at hvs
 obtain ⟨⟨r1, _, _⟩, _, r3, r4, _, r5⟩ := hvs
 simp only at r1 r3 r4 r5
 have r6 := (r5 trivial).2
 have hsv := shortV_eq hv
 have hel := (enc_len r4).2.1
 have henc := r4
 obtain ⟨v0, v1⟩ := r4
 try refine gL ?_
 (refine RT.call T rfl fR_ (err_fn) rfl rfl rfl ?_; rintro _ _ ⟨rfl, rfl⟩; try simp only [List.cons_append, List.nil_append])
 try refine gQ ?_
 refine CT.drawnP (Cs bi 313 [ptr p', .int .i64 p, .int .i64 deep] :: R') 20 mixed ?_
 refine DTP.tk (k := 6) [0, 1, 2, 3, 4, 6, 7, 8, 9, 11, 12, 13, 14, 15, 16] [5, 10, 17, 18, 19, 20] ?_
 repeat' (first|refine gL ?_|(refine gv ?_;first|(refine⟨fun hc=>?_,fun hc=>?_⟩<;>first|(exfalso;omega)|skip)|refine gk ?_)|fail)
 refine RT.ar rfl rfl (y_shl rfl rfl (by omega) (shl3 (by omega) (by omega))) rfl rfl ?_
 repeat' (first|refine gL ?_|(refine gv ?_;refine gk ?_)|fail)
 refine RT.ar rfl rfl (y_or rfl rfl (or_tag (by omega) (by omega) (by omega) (by omega))) rfl rfl ?_
 rw [show v / 8 * 8 + v % 8 = v by omega]
 try refine gL ?_
 refine AtQ.takeP ?_
 refine DTP.ef 5 ?_
 (refine RT.call T rfl fR_ (at_fn) rfl rfl rfl ?_; rintro _ _ ⟨rfl, rfl⟩; try simp only [List.cons_append, List.nil_append])
 try refine gL ?_
 refine AtQ.ep ?_
 refine DTP.tk (k := 4) [10] [17, 18, 19, 20] ?_
 repeat' (first|refine gL ?_|(refine gv ?_;refine gk ?_)|fail)
 refine AtQ.takeP ?_
 refine DTP.ef 17 ?_
 (refine RT.call T rfl fR_ (size_fn henc) rfl rfl rfl ?_; rintro _ _ ⟨rfl, rfl⟩; try simp only [List.cons_append, List.nil_append])
 try refine gL ?_
 refine AtQ.ep ?_
 refine DTP.tk (k := 1) [18, 19] [20] ?_
 repeat' (first|refine gL ?_|(refine gv ?_;(refine⟨fun hc=>?_,fun hc=>?_⟩<;>first|(exfalso;omega)|skip))|fail)
 rotate_left
 ·have hres : readR form bs upd q t (er val0) = .error p := by
   match k, hk, hrec with
   | k + 1, _, hrec =>
    unfold recL at hrec
    rw [if_pos hplt] at hrec
    unfold gotL tagL at hrec
    rw [hsv, if_neg (by omega)] at hrec
    exact hrec.symm
  refine AtQ.takeP ?_
  refine DTP.ef 20 ?_
  refine RT.callP T rfl fR_ (need_f (pd := bi) (pr := p') (at_ := p) (deep := deep) (Cs.rd (l := [ptr p', .int .i64 p, .int .i64 deep]) sE_)) rfl rfl rfl (fun v H1 hp => ?_) (fun v H1 hp => ?_)
  ·obtain ⟨rfl, rfl⟩ := hp
   ((repeat refine nx ?_); exact AtQ.finP (H' := []) ⟨p, hres, rfl, rfl⟩ dR_)
  ·exact hp.elim
 refine AtQ.takeP ?_
 refine DTP.ef 20 ?_
 (refine RT.call T rfl fR_ (need_t) rfl rfl rfl ?_; rintro _ _ ⟨rfl, rfl⟩; try simp only [List.cons_append, List.nil_append])
 try refine gL ?_
 refine AtQ.eq ?_
 refine DTP.dn ?_
 rw [if_pos (by omega)] at hsv
 have hfl := findL_num (fun i f hf => (hnum i f hf).1) (v / 8)
 try refine gL ?_
 (refine RT.qcall T rfl (QSp.of fR_ (find_EnumValue (fs := fs) (num := v / 8) (rD (hfs')) (by omega))) rfl rfl rfl ?_)
 by_cases hin : 1 ≤ v / 8 ∧ v / 8 ≤ fs.length
 rotate_left
 ·rw [if_neg hin] at hfl
  rw [hfl]
  have hres : readR form bs upd q t (er val0) = .error p := by
   match k, hk, hrec with
   | k + 1, _, hrec =>
    unfold recL at hrec
    rw [if_pos hplt] at hrec
    unfold gotL tagL at hrec
    rw [hsv] at hrec
    simp only at hrec
    rw [if_neg (by omega)] at hrec
    exact hrec.symm
  unfold findV
  repeat' (first|refine gM ?_|(refine gb ?_;intro b)|fail)
  refine RT.callP T rfl fR_ (need_f (pd := bi) (pr := p') (at_ := p) (deep := deep) (Cs.rd (l := [ptr p', .int .i64 p, .int .i64 deep]) sE_)) rfl rfl rfl (fun v H1 hp => ?_) (fun v H1 hp => ?_)
  ·obtain ⟨rfl, rfl⟩ := hp
   ((repeat refine nx ?_); exact AtQ.finP (H' := []) ⟨p, hres, rfl, rfl⟩ dR_)
  ·exact hp.elim
 rw [if_pos hin] at hfl
 have hi : (v / 8 - 1).toNat < fs.length := by omega
 obtain ⟨fe, hfe⟩ : ∃ fe, fs[(v / 8 - 1).toNat]? = some fe := ⟨_, List.getElem?_eq_getElem hi⟩
 rw [hfe] at hfl
 rw [hfl]
 obtain ⟨g1, g2, g3⟩ := hnum _ _ hfe
 obtain ⟨fnum, fkind, flst, ffp, fcp, ffg, fcg⟩ := fe
 rw [show findV (some (⟨fnum, fkind, flst, ffp, fcp, ffg, fcg⟩ : FP)) = .tuple #[.agg #[.int .i32 fnum, .int .u8 fkind, .bool flst, .func (.func ffp) #[] fcp.toArray, .func (.func ffg) #[] fcg.toArray], .bool true] from rfl]
 simp only at g1 g2 g3
 have hidx : (v / 8).toNat - 1 = (v / 8 - 1).toNat := by omega
 have hbad : ¬ ((last < (v / 8).toNat ∨ last = (v / 8).toNat ∧ flst = true) ∧ v % 8 = fkind) → readR form bs upd q t (er val0) = .error p := fun hno => by
  match k, hk, hrec with
  | k + 1, _, hrec =>
   unfold recL at hrec
   rw [if_pos hplt, gotL_none hsv (fun ⟨_, _, _, h4, h5⟩ => hno ⟨by rw [hidx, ← g3] at h4; exact h4, by rw [hidx, ← g2] at h5; exact h5⟩)] at hrec
   exact hrec.symm
 have hcase : v / 8 < last ∨ (v / 8 = last ∧ flst = false) ∨ (last < v / 8 ∧ v % 8 ≠ fkind) ∨ (v / 8 = last ∧ flst = true ∧ v % 8 ≠ fkind) ∨ (last < v / 8 ∧ v % 8 = fkind) ∨ (v / 8 = last ∧ flst = true ∧ v % 8 = fkind) := by
  cases flst <;> simp only [Bool.false_eq_true, true_and, false_and, and_true, and_false, or_false, false_or, reduceCtorEq] <;> omega
 have hn8 : (((v / 8).toNat : Nat) : Int) = v / 8 := Int.toNat_of_nonneg (by omega)
 rcases hcase with hb1 | ⟨hb1, rfl⟩ | ⟨hb1, hb2⟩ | ⟨hb1, rfl, hb2⟩ | hgood
 iterate 4 (
  focus (
   have hres := hbad (fun h => by rcases h with ⟨h1 | ⟨h1, h2⟩, h3⟩ <;> first | omega | exact absurd h2 (by decide) | exact absurd h3 hb2)
   repeat' (first|refine gM ?_|(refine gv ?_;(refine⟨fun hc=>?_,fun hc=>?_⟩<;>first|(exfalso;omega)|skip))|(refine gb ?_;intro b)|fail)
   refine RT.callP T rfl fR_ (need_f (pd := bi) (pr := p') (at_ := p) (deep := deep) (Cs.rd (l := [ptr p', .int .i64 p, .int .i64 deep]) sE_)) rfl rfl rfl (fun v H1 hp => ?_) (fun v H1 hp => ?_)
   ·obtain ⟨rfl, rfl⟩ := hp
    ((repeat refine nx ?_); exact AtQ.finP (H' := []) ⟨p, hres, rfl, rfl⟩ dR_)
   ·exact hp.elim))
 have hgood2 : (last < (v / 8).toNat ∨ last = (v / 8).toNat ∧ flst = true) ∧ v % 8 = fkind := by
  rcases hgood with ⟨h1, h2⟩ | ⟨h1, h2, h3⟩
  ·exact ⟨.inl (by omega), h2⟩
  ·exact ⟨.inr ⟨by omega, h2⟩, h3⟩
 have hgot := gotL_yes hsv (form := form) (last := last) (by rw [hidx, ← g3, ← g2]; exact ⟨hv1, by omega, by omega, hgood2⟩)
 rw [hidx] at hgot
 have hget1 := hget _ _ hfe
 obtain ⟨gbf, hfg⟩ := hfun _ (List.mem_of_getElem? hfe)
 rcases hgood with ⟨hb1, hb2⟩ | ⟨hb1, rfl, hb2⟩
 all_goals (
  repeat' (first|refine gM ?_|(refine gv ?_;(refine⟨fun hc=>?_,fun hc=>?_⟩<;>first|(exfalso;omega)|skip))|(refine gb ?_;intro b)|fail)
  (refine RT.call T rfl fR_ (need_t) rfl rfl rfl ?_; rintro _ _ ⟨rfl, rfl⟩; try simp only [List.cons_append, List.nil_append])
  try refine gM ?_
  refine RT.callCP T (caps := fcg) rfl rfl fR_ (hget1 _ (fun _ _ _ _ _ h => (rD ((hM _ _ _ _ _ h)))) bi b7 p' (p + kk) t p x (by omega) h2 (by omega) (Cs.rd (l := [ptr p', .int .i64 p, .int .i64 deep]) sE_)) (hfg) rfl rfl (fun v9 H1 hp => ?_) (fun v9 H1 hp => ?_)
  ·obtain ⟨pl, rfl, rfl, hp⟩ := hp
   have hres : readR form bs upd q t (er val0) = .error pl := by
    match k, hk, hrec with
    | k + 1, _, hrec =>
     unfold recL at hrec
     rw [if_pos hplt, hgot] at hrec
     rcases hp with ⟨hc1, rfl⟩ | ⟨m, q9, t9, hc1, hu⟩
     ·rw [hc1] at hrec
      exact hrec.symm
     ·rw [hc1] at hrec
      simp only [show (v / 8).toNat = (v / 8 - 1).toNat + 1 by omega, hu] at hrec
      exact hrec.symm
   ((repeat refine nx ?_); exact AtQ.finP (H' := []) ⟨pl, hres, rfl, rfl⟩ dR_)
  obtain ⟨m, q9, t9, x9, hc1, ht1, ht2, ht3, hn9, hu, rfl⟩ := hp
  simp only [List.cons_append, List.nil_append]
  try refine gM ?_
  match k, hk, hrec with
  | k + 1, hk, hrec =>
   unfold recL at hrec
   rw [if_pos hplt, hgot, hc1] at hrec
   have e8 : (v / 8).toNat = (v / 8 - 1).toNat + 1 := by omega
   simp only [e8, hu] at hrec
   refine AtQ.loop ⟨t9, (v / 8).toNat, p, x9⟩ ⟨rfl, rfl, rfl, rfl, rfl, (by rw [hn8]; rfl), rfl, trivial⟩ (fun w h => Sat.pu_in ⟨ht1, hn9, (show (v / 8).toNat ≤ 100 by omega), k, by simp only; omega, by rw [e8]; exact hrec⟩ (h.frd (Ps := [_, _, _, _, _]) (Qs := [_]) fR_)) (by simp only; omega))
set_option maxHeartbeats 4000000 in
theorem read_Import {form : List FK} {fs : List FP} {ra : Option Addr} {rc : Nat} {a : Option Addr} {n c : Nat} {deep : Int} {bs : Txt} {er : ImpT → ImpT} {ow : ImpT → List HP} {cnt : ImpT → Nat} {upd : ImpT → Nat → Got → Except Nat ImpT}
  (hfs : Rd B R ra fs.length rc 5 (fs.flatMap FP.cells)) (hlen : fs.length = form.length) (hlm : fs.length ≤ 100) (hnum : ∀ i f, fs[i]? = some f → f.num = ((i + 1 : Nat) : Int) ∧ f.kind = (form.getD i .t).kind ∧ f.lst = (form.getD i .t).list)
  (hfun : ∀ f ∈ fs, ∃ gb, al T.funs f.fg = some gb) (hget : ∀ i f, fs[i]? = some f → GetC B R 161 f (form.getD i .t) (i + 1) ImpT.cells er ow cnt bs a n c deep upd) (hd0 : 0 ≤ deep) (hd1 : deep ≤ 1000)
  (hR : Rd B R a n c 1 (ints .u8 bs)) (hb : Bytes bs) (h3 : n ≤ 16777216) (hc0 : cnt imp0 = 0) (hbag : ∀ H w, Sat B H w → Sat B (Bag (ow imp0) :: H) w) :
  RdrC B R 244 (.slice ra fs.length rc) deep a n c ImpT.cells er ow (fun q t => readR form bs upd q t (er imp0)) := by
 intro R' hM p' q t h1 h2
 refine SpP.body Tryz.func244 rfl Tryz.ntmps244 (by simp) ?_
 simp only [argE, List.cons_append, List.nil_append, Nat.zero_add, Nat.reduceAdd]
 repeat' (first|refine gL ?_|(refine gb ?_;intro b)|fail)
 rename_i b6 b7
 revert b
 intro bi
 refine CT.loop (α := RdS ImpT) (fun s => [(0, .slice ra fs.length rc), (1, ptr p'), (2, .int .i64 deep), (6, ptr b6), (7, ptr b7), (8, .int .i32 s.last), (9, ptr bi)])
  (fun s => Pu (s.p ≤ t ∧ cnt s.x ≤ s.p ∧ s.last ≤ 100 ∧ ∃ k, t - s.p < k ∧ recL form bs upd k s.p t s.last (er s.x) = readR form bs upd q t (er imp0)) :: rdo p' a n c s.p t :: Cs bi 313 [ptr p', .int .i64 s.at_, .int .i64 deep] :: Cs b7 161 (ImpT.cells s.x) :: Bag (ow s.x) :: Cs b6 161 (ImpT.cells imp0) :: R') (fun s => t - s.p) ⟨q, 0, 0, imp0⟩
  ⟨rfl, rfl, rfl, rfl, rfl, rfl, rfl, trivial⟩ (fun w h => Sat.pu_in ⟨h1, by show cnt imp0 ≤ q; omega, Nat.zero_le _, t - q + 1, by show t - q < t - q + 1; omega, rfl⟩ ((hbag _ w h).frd (Ps := [_, _, _, _, _]) (Qs := []) fR_)) (fun s => CT.pu fun ⟨hpt, hcn, hla, k, hk, hrec⟩ => ?_)
 obtain ⟨p, last, at0, x⟩ := s
 simp only at hpt hcn hla hk hrec ⊢
 try refine gL ?_
 (refine RT.call T rfl fR_ (left_o hpt (by omega)) rfl rfl rfl ?_; rintro _ _ ⟨rfl, rfl⟩; try simp only [List.cons_append, List.nil_append])
 repeat' (first|refine gL ?_|(refine gv ?_;(refine⟨fun hc=>?_,fun hc=>?_⟩<;>first|(exfalso;omega)|skip))|fail)
 rotate_left
 ·have hpt2 : p = t := by omega
  match k, hk, hrec with
  | k + 1, _, hrec =>
   unfold recL at hrec
   rw [if_neg (by omega)] at hrec
   try refine gM ?_
   refine AtQ.finPA (l := ImpT.cells x) (H' := [Bag (ow x)]) (b := b6) (e := 161) T Tryz.results244 rfl rfl rfl sE_ ?_ (fun w h => h.frd (Ps := [_]) (Qs := [_, _, _, _]) fR_) (by first | exact .inl rfl | exact .inr rfl)
   exact ⟨x, hrec.symm, rfl, rfl⟩
 have hplt : p < t := by omega
 have hok : RS.ok n ⟨p, t, 0, 0⟩ := ⟨hpt, h2, Nat.zero_le _⟩
 have hbl := hR.lenI
 have hR' := hM _ _ _ _ _ hR
 have hfs' := hM _ _ _ _ _ hfs
 (refine RT.call T rfl fR_ (at_fn) rfl rfl rfl ?_; rintro _ _ ⟨rfl, rfl⟩; try simp only [List.cons_append, List.nil_append])
 try refine gL ?_
 (refine RT.call T rfl fR_ (rtag_fn (rD (hR')) hb hok (by omega)) rfl rfl rfl ?_; rintro _ _ ⟨rfl, rfl⟩; try simp only [List.cons_append, List.nil_append])
 rcases tag_cases form bs p t last with ⟨v, kk, hv, hv1, hv2, hv3, htag⟩ | ⟨he, htn⟩
 rotate_left
 ·generalize RS.tag bs ⟨p, t, 0, 0⟩ = tg at he ⊢
  obtain ⟨⟨n1, k1⟩, s2⟩ := tg
  simp only at he ⊢
  try refine gL ?_
  (refine RT.call T rfl fR_ (err_fn) rfl rfl rfl ?_; rintro _ _ ⟨rfl, rfl⟩; try simp only [List.cons_append, List.nil_append])
  try refine gQ ?_
  have hres : readR form bs upd q t (er imp0) = .error p := by
   match k, hk, hrec with
   | k + 1, _, hrec =>
    unfold recL at hrec
    rw [if_pos hplt] at hrec
    unfold gotL at hrec
    rw [htn] at hrec
    exact hrec.symm
  refine CT.drawnP (Cs bi 313 [ptr p', .int .i64 p, .int .i64 deep] :: R') 20 mixed ?_
  refine DTP.tk (k := 6) [0, 1, 2, 3, 4, 6, 7, 8, 9, 11, 12, 13, 14, 15, 16] [5, 10, 17, 18, 19, 20] ?_
  repeat' (first|refine gL ?_|(refine gv ?_;(refine⟨fun hc=>?_,fun hc=>?_⟩<;>first|(exfalso;omega)|skip))|fail)
  refine AtQ.takeP ?_
  refine DTP.ef 5 ?_
  try refine gL ?_
  refine AtQ.ep ?_
  refine DTP.tk (k := 4) [10] [17, 18, 19, 20] ?_
  try refine gL ?_
  refine AtQ.takeP ?_
  refine DTP.ef 17 ?_
  try refine gL ?_
  refine AtQ.ep ?_
  refine DTP.tk (k := 1) [18, 19] [20] ?_
  try refine gL ?_
  refine AtQ.takeP ?_
  refine DTP.ef 20 ?_
  refine RT.callP T rfl fR_ (need_f (pd := bi) (pr := p') (at_ := p) (deep := deep) (Cs.rd (l := [ptr p', .int .i64 p, .int .i64 deep]) sE_)) rfl rfl rfl (fun v H1 hp => ?_) (fun v H1 hp => ?_)
  ·obtain ⟨rfl, rfl⟩ := hp
   ((repeat refine nx ?_); exact AtQ.finP (H' := []) ⟨p, hres, rfl, rfl⟩ dR_)
  ·exact hp.elim
 rw [htag]
 have hvs := RS.varint_spec (s := ⟨p, t, 0, 0⟩) hok hbl hb
 rw [varint_eq hv] at hvs
 obtain ⟨⟨r1, _, _⟩, _, r3, r4, _, r5⟩ := hvs
 simp only at r1 r3 r4 r5
 have r6 := (r5 trivial).2
 have hsv := shortV_eq hv
 have hel := (enc_len r4).2.1
 have henc := r4
 obtain ⟨v0, v1⟩ := r4
 try refine gL ?_
 (refine RT.call T rfl fR_ (err_fn) rfl rfl rfl ?_; rintro _ _ ⟨rfl, rfl⟩; try simp only [List.cons_append, List.nil_append])
 try refine gQ ?_
 refine CT.drawnP (Cs bi 313 [ptr p', .int .i64 p, .int .i64 deep] :: R') 20 mixed ?_
 refine DTP.tk (k := 6) [0, 1, 2, 3, 4, 6, 7, 8, 9, 11, 12, 13, 14, 15, 16] [5, 10, 17, 18, 19, 20] ?_
 repeat' (first|refine gL ?_|(refine gv ?_;first|(refine⟨fun hc=>?_,fun hc=>?_⟩<;>first|(exfalso;omega)|skip)|refine gk ?_)|fail)
 refine RT.ar rfl rfl (y_shl rfl rfl (by omega) (shl3 (by omega) (by omega))) rfl rfl ?_
 repeat' (first|refine gL ?_|(refine gv ?_;refine gk ?_)|fail)
 refine RT.ar rfl rfl (y_or rfl rfl (or_tag (by omega) (by omega) (by omega) (by omega))) rfl rfl ?_
 rw [show v / 8 * 8 + v % 8 = v by omega]
 try refine gL ?_
 refine AtQ.takeP ?_
 refine DTP.ef 5 ?_
 (refine RT.call T rfl fR_ (at_fn) rfl rfl rfl ?_; rintro _ _ ⟨rfl, rfl⟩; try simp only [List.cons_append, List.nil_append])
 try refine gL ?_
 refine AtQ.ep ?_
 refine DTP.tk (k := 4) [10] [17, 18, 19, 20] ?_
 repeat' (first|refine gL ?_|(refine gv ?_;refine gk ?_)|fail)
 refine AtQ.takeP ?_
 refine DTP.ef 17 ?_
 (refine RT.call T rfl fR_ (size_fn henc) rfl rfl rfl ?_; rintro _ _ ⟨rfl, rfl⟩; try simp only [List.cons_append, List.nil_append])
 try refine gL ?_
 refine AtQ.ep ?_
 refine DTP.tk (k := 1) [18, 19] [20] ?_
 repeat' (first|refine gL ?_|(refine gv ?_;(refine⟨fun hc=>?_,fun hc=>?_⟩<;>first|(exfalso;omega)|skip))|fail)
 rotate_left
 ·have hres : readR form bs upd q t (er imp0) = .error p := by
   match k, hk, hrec with
   | k + 1, _, hrec =>
    unfold recL at hrec
    rw [if_pos hplt] at hrec
    unfold gotL tagL at hrec
    rw [hsv, if_neg (by omega)] at hrec
    exact hrec.symm
  refine AtQ.takeP ?_
  refine DTP.ef 20 ?_
  refine RT.callP T rfl fR_ (need_f (pd := bi) (pr := p') (at_ := p) (deep := deep) (Cs.rd (l := [ptr p', .int .i64 p, .int .i64 deep]) sE_)) rfl rfl rfl (fun v H1 hp => ?_) (fun v H1 hp => ?_)
  ·obtain ⟨rfl, rfl⟩ := hp
   ((repeat refine nx ?_); exact AtQ.finP (H' := []) ⟨p, hres, rfl, rfl⟩ dR_)
  ·exact hp.elim
 refine AtQ.takeP ?_
 refine DTP.ef 20 ?_
 (refine RT.call T rfl fR_ (need_t) rfl rfl rfl ?_; rintro _ _ ⟨rfl, rfl⟩; try simp only [List.cons_append, List.nil_append])
 try refine gL ?_
 refine AtQ.eq ?_
 refine DTP.dn ?_
 rw [if_pos (by omega)] at hsv
 have hfl := findL_num (fun i f hf => (hnum i f hf).1) (v / 8)
 try refine gL ?_
 (refine RT.qcall T rfl (QSp.of fR_ (find_Import (fs := fs) (num := v / 8) (rD (hfs')) (by omega))) rfl rfl rfl ?_)
 by_cases hin : 1 ≤ v / 8 ∧ v / 8 ≤ fs.length
 rotate_left
 ·rw [if_neg hin] at hfl
  rw [hfl]
  have hres : readR form bs upd q t (er imp0) = .error p := by
   match k, hk, hrec with
   | k + 1, _, hrec =>
    unfold recL at hrec
    rw [if_pos hplt] at hrec
    unfold gotL tagL at hrec
    rw [hsv] at hrec
    simp only at hrec
    rw [if_neg (by omega)] at hrec
    exact hrec.symm
  unfold findV
  repeat' (first|refine gM ?_|(refine gb ?_;intro b)|fail)
  refine RT.callP T rfl fR_ (need_f (pd := bi) (pr := p') (at_ := p) (deep := deep) (Cs.rd (l := [ptr p', .int .i64 p, .int .i64 deep]) sE_)) rfl rfl rfl (fun v H1 hp => ?_) (fun v H1 hp => ?_)
  ·obtain ⟨rfl, rfl⟩ := hp
   ((repeat refine nx ?_); exact AtQ.finP (H' := []) ⟨p, hres, rfl, rfl⟩ dR_)
  ·exact hp.elim
 rw [if_pos hin] at hfl
 have hi : (v / 8 - 1).toNat < fs.length := by omega
 obtain ⟨fe, hfe⟩ : ∃ fe, fs[(v / 8 - 1).toNat]? = some fe := ⟨_, List.getElem?_eq_getElem hi⟩
 rw [hfe] at hfl
 rw [hfl]
 obtain ⟨g1, g2, g3⟩ := hnum _ _ hfe
 obtain ⟨fnum, fkind, flst, ffp, fcp, ffg, fcg⟩ := fe
 rw [show findV (some (⟨fnum, fkind, flst, ffp, fcp, ffg, fcg⟩ : FP)) = .tuple #[.agg #[.int .i32 fnum, .int .u8 fkind, .bool flst, .func (.func ffp) #[] fcp.toArray, .func (.func ffg) #[] fcg.toArray], .bool true] from rfl]
 simp only at g1 g2 g3
 have hidx : (v / 8).toNat - 1 = (v / 8 - 1).toNat := by omega
 have hbad : ¬ ((last < (v / 8).toNat ∨ last = (v / 8).toNat ∧ flst = true) ∧ v % 8 = fkind) → readR form bs upd q t (er imp0) = .error p := fun hno => by
  match k, hk, hrec with
  | k + 1, _, hrec =>
   unfold recL at hrec
   rw [if_pos hplt, gotL_none hsv (fun ⟨_, _, _, h4, h5⟩ => hno ⟨by rw [hidx, ← g3] at h4; exact h4, by rw [hidx, ← g2] at h5; exact h5⟩)] at hrec
   exact hrec.symm
 have hcase : v / 8 < last ∨ (v / 8 = last ∧ flst = false) ∨ (last < v / 8 ∧ v % 8 ≠ fkind) ∨ (v / 8 = last ∧ flst = true ∧ v % 8 ≠ fkind) ∨ (last < v / 8 ∧ v % 8 = fkind) ∨ (v / 8 = last ∧ flst = true ∧ v % 8 = fkind) := by
  cases flst <;> simp only [Bool.false_eq_true, true_and, false_and, and_true, and_false, or_false, false_or, reduceCtorEq] <;> omega
 have hn8 : (((v / 8).toNat : Nat) : Int) = v / 8 := Int.toNat_of_nonneg (by omega)
 rcases hcase with hb1 | ⟨hb1, rfl⟩ | ⟨hb1, hb2⟩ | ⟨hb1, rfl, hb2⟩ | hgood
 iterate 4 (
  focus (
   have hres := hbad (fun h => by rcases h with ⟨h1 | ⟨h1, h2⟩, h3⟩ <;> first | omega | exact absurd h2 (by decide) | exact absurd h3 hb2)
   repeat' (first|refine gM ?_|(refine gv ?_;(refine⟨fun hc=>?_,fun hc=>?_⟩<;>first|(exfalso;omega)|skip))|(refine gb ?_;intro b)|fail)
   refine RT.callP T rfl fR_ (need_f (pd := bi) (pr := p') (at_ := p) (deep := deep) (Cs.rd (l := [ptr p', .int .i64 p, .int .i64 deep]) sE_)) rfl rfl rfl (fun v H1 hp => ?_) (fun v H1 hp => ?_)
   ·obtain ⟨rfl, rfl⟩ := hp
    ((repeat refine nx ?_); exact AtQ.finP (H' := []) ⟨p, hres, rfl, rfl⟩ dR_)
   ·exact hp.elim))
 have hgood2 : (last < (v / 8).toNat ∨ last = (v / 8).toNat ∧ flst = true) ∧ v % 8 = fkind := by
  rcases hgood with ⟨h1, h2⟩ | ⟨h1, h2, h3⟩
  ·exact ⟨.inl (by omega), h2⟩
  ·exact ⟨.inr ⟨by omega, h2⟩, h3⟩
 have hgot := gotL_yes hsv (form := form) (last := last) (by rw [hidx, ← g3, ← g2]; exact ⟨hv1, by omega, by omega, hgood2⟩)
 rw [hidx] at hgot
 have hget1 := hget _ _ hfe
 obtain ⟨gbf, hfg⟩ := hfun _ (List.mem_of_getElem? hfe)
 rcases hgood with ⟨hb1, hb2⟩ | ⟨hb1, rfl, hb2⟩
 all_goals (
  repeat' (first|refine gM ?_|(refine gv ?_;(refine⟨fun hc=>?_,fun hc=>?_⟩<;>first|(exfalso;omega)|skip))|(refine gb ?_;intro b)|fail)
  (refine RT.call T rfl fR_ (need_t) rfl rfl rfl ?_; rintro _ _ ⟨rfl, rfl⟩; try simp only [List.cons_append, List.nil_append])
  try refine gM ?_
  refine RT.callCP T (caps := fcg) rfl rfl fR_ (hget1 _ (fun _ _ _ _ _ h => (rD ((hM _ _ _ _ _ h)))) bi b7 p' (p + kk) t p x (by omega) h2 (by omega) (Cs.rd (l := [ptr p', .int .i64 p, .int .i64 deep]) sE_)) (hfg) rfl rfl (fun v9 H1 hp => ?_) (fun v9 H1 hp => ?_)
  ·obtain ⟨pl, rfl, rfl, hp⟩ := hp
   have hres : readR form bs upd q t (er imp0) = .error pl := by
    match k, hk, hrec with
    | k + 1, _, hrec =>
     unfold recL at hrec
     rw [if_pos hplt, hgot] at hrec
     rcases hp with ⟨hc1, rfl⟩ | ⟨m, q9, t9, hc1, hu⟩
     ·rw [hc1] at hrec
      exact hrec.symm
     ·rw [hc1] at hrec
      simp only [show (v / 8).toNat = (v / 8 - 1).toNat + 1 by omega, hu] at hrec
      exact hrec.symm
   ((repeat refine nx ?_); exact AtQ.finP (H' := []) ⟨pl, hres, rfl, rfl⟩ dR_)
  obtain ⟨m, q9, t9, x9, hc1, ht1, ht2, ht3, hn9, hu, rfl⟩ := hp
  simp only [List.cons_append, List.nil_append]
  try refine gM ?_
  match k, hk, hrec with
  | k + 1, hk, hrec =>
   unfold recL at hrec
   rw [if_pos hplt, hgot, hc1] at hrec
   have e8 : (v / 8).toNat = (v / 8 - 1).toNat + 1 := by omega
   simp only [e8, hu] at hrec
   refine AtQ.loop ⟨t9, (v / 8).toNat, p, x9⟩ ⟨rfl, rfl, rfl, rfl, rfl, (by rw [hn8]; rfl), rfl, trivial⟩ (fun w h => Sat.pu_in ⟨ht1, hn9, (show (v / 8).toNat ≤ 100 by omega), k, by simp only; omega, by rw [e8]; exact hrec⟩ (h.frd (Ps := [_, _, _, _, _]) (Qs := [_]) fR_)) (by simp only; omega))
set_option maxHeartbeats 4000000 in
theorem read_FieldDef {form : List FK} {fs : List FP} {ra : Option Addr} {rc : Nat} {a : Option Addr} {n c : Nat} {deep : Int} {bs : Txt} {er : FieldT → FieldT} {ow : FieldT → List HP} {cnt : FieldT → Nat} {upd : FieldT → Nat → Got → Except Nat FieldT}
  (hfs : Rd B R ra fs.length rc 5 (fs.flatMap FP.cells)) (hlen : fs.length = form.length) (hlm : fs.length ≤ 100) (hnum : ∀ i f, fs[i]? = some f → f.num = ((i + 1 : Nat) : Int) ∧ f.kind = (form.getD i .t).kind ∧ f.lst = (form.getD i .t).list)
  (hfun : ∀ f ∈ fs, ∃ gb, al T.funs f.fg = some gb) (hget : ∀ i f, fs[i]? = some f → GetC B R 240 f (form.getD i .t) (i + 1) FieldT.cells er ow cnt bs a n c deep upd) (hd0 : 0 ≤ deep) (hd1 : deep ≤ 1000)
  (hR : Rd B R a n c 1 (ints .u8 bs)) (hb : Bytes bs) (h3 : n ≤ 16777216) (hc0 : cnt field0 = 0) (hbag : ∀ H w, Sat B H w → Sat B (Bag (ow field0) :: H) w) :
  RdrC B R 222 (.slice ra fs.length rc) deep a n c FieldT.cells er ow (fun q t => readR form bs upd q t (er field0)) := by
 intro R' hM p' q t h1 h2
 refine SpP.body Tryz.func222 rfl Tryz.ntmps222 (by simp) ?_
 simp only [argE, List.cons_append, List.nil_append, Nat.zero_add, Nat.reduceAdd]
 repeat' (first|refine gL ?_|(refine gb ?_;intro b)|fail)
 rename_i b6 b7
 revert b
 intro bi
 refine CT.loop (α := RdS FieldT) (fun s => [(0, .slice ra fs.length rc), (1, ptr p'), (2, .int .i64 deep), (6, ptr b6), (7, ptr b7), (8, .int .i32 s.last), (9, ptr bi)])
  (fun s => Pu (s.p ≤ t ∧ cnt s.x ≤ s.p ∧ s.last ≤ 100 ∧ ∃ k, t - s.p < k ∧ recL form bs upd k s.p t s.last (er s.x) = readR form bs upd q t (er field0)) :: rdo p' a n c s.p t :: Cs bi 313 [ptr p', .int .i64 s.at_, .int .i64 deep] :: Cs b7 240 (FieldT.cells s.x) :: Bag (ow s.x) :: Cs b6 240 (FieldT.cells field0) :: R') (fun s => t - s.p) ⟨q, 0, 0, field0⟩
  ⟨rfl, rfl, rfl, rfl, rfl, rfl, rfl, trivial⟩ (fun w h => Sat.pu_in ⟨h1, by show cnt field0 ≤ q; omega, Nat.zero_le _, t - q + 1, by show t - q < t - q + 1; omega, rfl⟩ ((hbag _ w h).frd (Ps := [_, _, _, _, _]) (Qs := []) fR_)) (fun s => CT.pu fun ⟨hpt, hcn, hla, k, hk, hrec⟩ => ?_)
 obtain ⟨p, last, at0, x⟩ := s
 simp only at hpt hcn hla hk hrec ⊢
 try refine gL ?_
 (refine RT.call T rfl fR_ (left_o hpt (by omega)) rfl rfl rfl ?_; rintro _ _ ⟨rfl, rfl⟩; try simp only [List.cons_append, List.nil_append])
 repeat' (first|refine gL ?_|(refine gv ?_;(refine⟨fun hc=>?_,fun hc=>?_⟩<;>first|(exfalso;omega)|skip))|fail)
 rotate_left
 ·have hpt2 : p = t := by omega
  match k, hk, hrec with
  | k + 1, _, hrec =>
   unfold recL at hrec
   rw [if_neg (by omega)] at hrec
   try refine gM ?_
   refine AtQ.finPA (l := FieldT.cells x) (H' := [Bag (ow x)]) (b := b6) (e := 240) T Tryz.results222 rfl rfl rfl sE_ ?_ (fun w h => h.frd (Ps := [_]) (Qs := [_, _, _, _]) fR_) (by first | exact .inl rfl | exact .inr rfl)
   exact ⟨x, hrec.symm, rfl, rfl⟩
 have hplt : p < t := by omega
 have hok : RS.ok n ⟨p, t, 0, 0⟩ := ⟨hpt, h2, Nat.zero_le _⟩
 have hbl := hR.lenI
 have hR' := hM _ _ _ _ _ hR
 have hfs' := hM _ _ _ _ _ hfs
 (refine RT.call T rfl fR_ (at_fn) rfl rfl rfl ?_; rintro _ _ ⟨rfl, rfl⟩; try simp only [List.cons_append, List.nil_append])
 try refine gL ?_
 (refine RT.call T rfl fR_ (rtag_fn (rD (hR')) hb hok (by omega)) rfl rfl rfl ?_; rintro _ _ ⟨rfl, rfl⟩; try simp only [List.cons_append, List.nil_append])
 rcases tag_cases form bs p t last with ⟨v, kk, hv, hv1, hv2, hv3, htag⟩ | ⟨he, htn⟩
 rotate_left
 ·generalize RS.tag bs ⟨p, t, 0, 0⟩ = tg at he ⊢
  obtain ⟨⟨n1, k1⟩, s2⟩ := tg
  simp only at he ⊢
  try refine gL ?_
  (refine RT.call T rfl fR_ (err_fn) rfl rfl rfl ?_; rintro _ _ ⟨rfl, rfl⟩; try simp only [List.cons_append, List.nil_append])
  try refine gQ ?_
  have hres : readR form bs upd q t (er field0) = .error p := by
   match k, hk, hrec with
   | k + 1, _, hrec =>
    unfold recL at hrec
    rw [if_pos hplt] at hrec
    unfold gotL at hrec
    rw [htn] at hrec
    exact hrec.symm
  refine CT.drawnP (Cs bi 313 [ptr p', .int .i64 p, .int .i64 deep] :: R') 20 mixed ?_
  refine DTP.tk (k := 6) [0, 1, 2, 3, 4, 6, 7, 8, 9, 11, 12, 13, 14, 15, 16] [5, 10, 17, 18, 19, 20] ?_
  repeat' (first|refine gL ?_|(refine gv ?_;(refine⟨fun hc=>?_,fun hc=>?_⟩<;>first|(exfalso;omega)|skip))|fail)
  refine AtQ.takeP ?_
  refine DTP.ef 5 ?_
  try refine gL ?_
  refine AtQ.ep ?_
  refine DTP.tk (k := 4) [10] [17, 18, 19, 20] ?_
  try refine gL ?_
  refine AtQ.takeP ?_
  refine DTP.ef 17 ?_
  try refine gL ?_
  refine AtQ.ep ?_
  refine DTP.tk (k := 1) [18, 19] [20] ?_
  try refine gL ?_
  refine AtQ.takeP ?_
  refine DTP.ef 20 ?_
  refine RT.callP T rfl fR_ (need_f (pd := bi) (pr := p') (at_ := p) (deep := deep) (Cs.rd (l := [ptr p', .int .i64 p, .int .i64 deep]) sE_)) rfl rfl rfl (fun v H1 hp => ?_) (fun v H1 hp => ?_)
  ·obtain ⟨rfl, rfl⟩ := hp
   ((repeat refine nx ?_); exact AtQ.finP (H' := []) ⟨p, hres, rfl, rfl⟩ dR_)
  ·exact hp.elim
 rw [htag]
 have hvs := RS.varint_spec (s := ⟨p, t, 0, 0⟩) hok hbl hb
 rw [varint_eq hv] at hvs
 obtain ⟨⟨r1, _, _⟩, _, r3, r4, _, r5⟩ := hvs
 simp only at r1 r3 r4 r5
 have r6 := (r5 trivial).2
 have hsv := shortV_eq hv
 have hel := (enc_len r4).2.1
 have henc := r4
 obtain ⟨v0, v1⟩ := r4
 try refine gL ?_
 (refine RT.call T rfl fR_ (err_fn) rfl rfl rfl ?_; rintro _ _ ⟨rfl, rfl⟩; try simp only [List.cons_append, List.nil_append])
 try refine gQ ?_
 refine CT.drawnP (Cs bi 313 [ptr p', .int .i64 p, .int .i64 deep] :: R') 20 mixed ?_
 refine DTP.tk (k := 6) [0, 1, 2, 3, 4, 6, 7, 8, 9, 11, 12, 13, 14, 15, 16] [5, 10, 17, 18, 19, 20] ?_
 repeat' (first|refine gL ?_|(refine gv ?_;first|(refine⟨fun hc=>?_,fun hc=>?_⟩<;>first|(exfalso;omega)|skip)|refine gk ?_)|fail)
 refine RT.ar rfl rfl (y_shl rfl rfl (by omega) (shl3 (by omega) (by omega))) rfl rfl ?_
 repeat' (first|refine gL ?_|(refine gv ?_;refine gk ?_)|fail)
 refine RT.ar rfl rfl (y_or rfl rfl (or_tag (by omega) (by omega) (by omega) (by omega))) rfl rfl ?_
 rw [show v / 8 * 8 + v % 8 = v by omega]
 try refine gL ?_
 refine AtQ.takeP ?_
 refine DTP.ef 5 ?_
 (refine RT.call T rfl fR_ (at_fn) rfl rfl rfl ?_; rintro _ _ ⟨rfl, rfl⟩; try simp only [List.cons_append, List.nil_append])
 try refine gL ?_
 refine AtQ.ep ?_
 refine DTP.tk (k := 4) [10] [17, 18, 19, 20] ?_
 repeat' (first|refine gL ?_|(refine gv ?_;refine gk ?_)|fail)
 refine AtQ.takeP ?_
 refine DTP.ef 17 ?_
 (refine RT.call T rfl fR_ (size_fn henc) rfl rfl rfl ?_; rintro _ _ ⟨rfl, rfl⟩; try simp only [List.cons_append, List.nil_append])
 try refine gL ?_
 refine AtQ.ep ?_
 refine DTP.tk (k := 1) [18, 19] [20] ?_
 repeat' (first|refine gL ?_|(refine gv ?_;(refine⟨fun hc=>?_,fun hc=>?_⟩<;>first|(exfalso;omega)|skip))|fail)
 rotate_left
 ·have hres : readR form bs upd q t (er field0) = .error p := by
   match k, hk, hrec with
   | k + 1, _, hrec =>
    unfold recL at hrec
    rw [if_pos hplt] at hrec
    unfold gotL tagL at hrec
    rw [hsv, if_neg (by omega)] at hrec
    exact hrec.symm
  refine AtQ.takeP ?_
  refine DTP.ef 20 ?_
  refine RT.callP T rfl fR_ (need_f (pd := bi) (pr := p') (at_ := p) (deep := deep) (Cs.rd (l := [ptr p', .int .i64 p, .int .i64 deep]) sE_)) rfl rfl rfl (fun v H1 hp => ?_) (fun v H1 hp => ?_)
  ·obtain ⟨rfl, rfl⟩ := hp
   ((repeat refine nx ?_); exact AtQ.finP (H' := []) ⟨p, hres, rfl, rfl⟩ dR_)
  ·exact hp.elim
 refine AtQ.takeP ?_
 refine DTP.ef 20 ?_
 (refine RT.call T rfl fR_ (need_t) rfl rfl rfl ?_; rintro _ _ ⟨rfl, rfl⟩; try simp only [List.cons_append, List.nil_append])
 try refine gL ?_
 refine AtQ.eq ?_
 refine DTP.dn ?_
 rw [if_pos (by omega)] at hsv
 have hfl := findL_num (fun i f hf => (hnum i f hf).1) (v / 8)
 try refine gL ?_
 (refine RT.qcall T rfl (QSp.of fR_ (find_FieldDef (fs := fs) (num := v / 8) (rD (hfs')) (by omega))) rfl rfl rfl ?_)
 by_cases hin : 1 ≤ v / 8 ∧ v / 8 ≤ fs.length
 rotate_left
 ·rw [if_neg hin] at hfl
  rw [hfl]
  have hres : readR form bs upd q t (er field0) = .error p := by
   match k, hk, hrec with
   | k + 1, _, hrec =>
    unfold recL at hrec
    rw [if_pos hplt] at hrec
    unfold gotL tagL at hrec
    rw [hsv] at hrec
    simp only at hrec
    rw [if_neg (by omega)] at hrec
    exact hrec.symm
  unfold findV
  repeat' (first|refine gM ?_|(refine gb ?_;intro b)|fail)
  refine RT.callP T rfl fR_ (need_f (pd := bi) (pr := p') (at_ := p) (deep := deep) (Cs.rd (l := [ptr p', .int .i64 p, .int .i64 deep]) sE_)) rfl rfl rfl (fun v H1 hp => ?_) (fun v H1 hp => ?_)
  ·obtain ⟨rfl, rfl⟩ := hp
   ((repeat refine nx ?_); exact AtQ.finP (H' := []) ⟨p, hres, rfl, rfl⟩ dR_)
  ·exact hp.elim
 rw [if_pos hin] at hfl
 have hi : (v / 8 - 1).toNat < fs.length := by omega
 obtain ⟨fe, hfe⟩ : ∃ fe, fs[(v / 8 - 1).toNat]? = some fe := ⟨_, List.getElem?_eq_getElem hi⟩
 rw [hfe] at hfl
 rw [hfl]
 obtain ⟨g1, g2, g3⟩ := hnum _ _ hfe
 obtain ⟨fnum, fkind, flst, ffp, fcp, ffg, fcg⟩ := fe
 rw [show findV (some (⟨fnum, fkind, flst, ffp, fcp, ffg, fcg⟩ : FP)) = .tuple #[.agg #[.int .i32 fnum, .int .u8 fkind, .bool flst, .func (.func ffp) #[] fcp.toArray, .func (.func ffg) #[] fcg.toArray], .bool true] from rfl]
 simp only at g1 g2 g3
 have hidx : (v / 8).toNat - 1 = (v / 8 - 1).toNat := by omega
 have hbad : ¬ ((last < (v / 8).toNat ∨ last = (v / 8).toNat ∧ flst = true) ∧ v % 8 = fkind) → readR form bs upd q t (er field0) = .error p := fun hno => by
  match k, hk, hrec with
  | k + 1, _, hrec =>
   unfold recL at hrec
   rw [if_pos hplt, gotL_none hsv (fun ⟨_, _, _, h4, h5⟩ => hno ⟨by rw [hidx, ← g3] at h4; exact h4, by rw [hidx, ← g2] at h5; exact h5⟩)] at hrec
   exact hrec.symm
 have hcase : v / 8 < last ∨ (v / 8 = last ∧ flst = false) ∨ (last < v / 8 ∧ v % 8 ≠ fkind) ∨ (v / 8 = last ∧ flst = true ∧ v % 8 ≠ fkind) ∨ (last < v / 8 ∧ v % 8 = fkind) ∨ (v / 8 = last ∧ flst = true ∧ v % 8 = fkind) := by
  cases flst <;> simp only [Bool.false_eq_true, true_and, false_and, and_true, and_false, or_false, false_or, reduceCtorEq] <;> omega
 have hn8 : (((v / 8).toNat : Nat) : Int) = v / 8 := Int.toNat_of_nonneg (by omega)
 rcases hcase with hb1 | ⟨hb1, rfl⟩ | ⟨hb1, hb2⟩ | ⟨hb1, rfl, hb2⟩ | hgood
 iterate 4 (
  focus (
   have hres := hbad (fun h => by rcases h with ⟨h1 | ⟨h1, h2⟩, h3⟩ <;> first | omega | exact absurd h2 (by decide) | exact absurd h3 hb2)
   repeat' (first|refine gM ?_|(refine gv ?_;(refine⟨fun hc=>?_,fun hc=>?_⟩<;>first|(exfalso;omega)|skip))|(refine gb ?_;intro b)|fail)
   refine RT.callP T rfl fR_ (need_f (pd := bi) (pr := p') (at_ := p) (deep := deep) (Cs.rd (l := [ptr p', .int .i64 p, .int .i64 deep]) sE_)) rfl rfl rfl (fun v H1 hp => ?_) (fun v H1 hp => ?_)
   ·obtain ⟨rfl, rfl⟩ := hp
    ((repeat refine nx ?_); exact AtQ.finP (H' := []) ⟨p, hres, rfl, rfl⟩ dR_)
   ·exact hp.elim))
 have hgood2 : (last < (v / 8).toNat ∨ last = (v / 8).toNat ∧ flst = true) ∧ v % 8 = fkind := by
  rcases hgood with ⟨h1, h2⟩ | ⟨h1, h2, h3⟩
  ·exact ⟨.inl (by omega), h2⟩
  ·exact ⟨.inr ⟨by omega, h2⟩, h3⟩
 have hgot := gotL_yes hsv (form := form) (last := last) (by rw [hidx, ← g3, ← g2]; exact ⟨hv1, by omega, by omega, hgood2⟩)
 rw [hidx] at hgot
 have hget1 := hget _ _ hfe
 obtain ⟨gbf, hfg⟩ := hfun _ (List.mem_of_getElem? hfe)
 rcases hgood with ⟨hb1, hb2⟩ | ⟨hb1, rfl, hb2⟩
 all_goals (
  repeat' (first|refine gM ?_|(refine gv ?_;(refine⟨fun hc=>?_,fun hc=>?_⟩<;>first|(exfalso;omega)|skip))|(refine gb ?_;intro b)|fail)
  (refine RT.call T rfl fR_ (need_t) rfl rfl rfl ?_; rintro _ _ ⟨rfl, rfl⟩; try simp only [List.cons_append, List.nil_append])
  try refine gM ?_
  refine RT.callCP T (caps := fcg) rfl rfl fR_ (hget1 _ (fun _ _ _ _ _ h => (rD ((hM _ _ _ _ _ h)))) bi b7 p' (p + kk) t p x (by omega) h2 (by omega) (Cs.rd (l := [ptr p', .int .i64 p, .int .i64 deep]) sE_)) (hfg) rfl rfl (fun v9 H1 hp => ?_) (fun v9 H1 hp => ?_)
  ·obtain ⟨pl, rfl, rfl, hp⟩ := hp
   have hres : readR form bs upd q t (er field0) = .error pl := by
    match k, hk, hrec with
    | k + 1, _, hrec =>
     unfold recL at hrec
     rw [if_pos hplt, hgot] at hrec
     rcases hp with ⟨hc1, rfl⟩ | ⟨m, q9, t9, hc1, hu⟩
     ·rw [hc1] at hrec
      exact hrec.symm
     ·rw [hc1] at hrec
      simp only [show (v / 8).toNat = (v / 8 - 1).toNat + 1 by omega, hu] at hrec
      exact hrec.symm
   ((repeat refine nx ?_); exact AtQ.finP (H' := []) ⟨pl, hres, rfl, rfl⟩ dR_)
  obtain ⟨m, q9, t9, x9, hc1, ht1, ht2, ht3, hn9, hu, rfl⟩ := hp
  simp only [List.cons_append, List.nil_append]
  try refine gM ?_
  match k, hk, hrec with
  | k + 1, hk, hrec =>
   unfold recL at hrec
   rw [if_pos hplt, hgot, hc1] at hrec
   have e8 : (v / 8).toNat = (v / 8 - 1).toNat + 1 := by omega
   simp only [e8, hu] at hrec
   refine AtQ.loop ⟨t9, (v / 8).toNat, p, x9⟩ ⟨rfl, rfl, rfl, rfl, rfl, (by rw [hn8]; rfl), rfl, trivial⟩ (fun w h => Sat.pu_in ⟨ht1, hn9, (show (v / 8).toNat ≤ 100 by omega), k, by simp only; omega, by rw [e8]; exact hrec⟩ (h.frd (Ps := [_, _, _, _, _]) (Qs := [_]) fR_)) (by simp only; omega))
end Go.Proofs.YtclcnhfponjdaaaGreatDoor
end
section
namespace Go.Proofs.YtclcnhfponjdaaaGreatDoor
open Go.Sk
set_option maxRecDepth 100000
attribute [local irreducible] Cs Own Ex Pu Yld RT LJ QJ AtQ CT Rd QSp Sp FinQ Then LoopQ CutQ DT TakeQ EffQ
attribute [local irreducible] Bag
variable {B : World} {R : List HP}
set_option maxHeartbeats 4000000 in
theorem read_EnumDef {form : List FK} {fs : List FP} {ra : Option Addr} {rc : Nat} {a : Option Addr} {n c : Nat} {deep : Int} {bs : Txt} {er : EnumT → EnumT} {ow : EnumT → List HP} {cnt : EnumT → Nat} {upd : EnumT → Nat → Got → Except Nat EnumT}
  (hfs : Rd B R ra fs.length rc 5 (fs.flatMap FP.cells)) (hlen : fs.length = form.length) (hlm : fs.length ≤ 100) (hnum : ∀ i f, fs[i]? = some f → f.num = ((i + 1 : Nat) : Int) ∧ f.kind = (form.getD i .t).kind ∧ f.lst = (form.getD i .t).list)
  (hfun : ∀ f ∈ fs, ∃ gb, al T.funs f.fg = some gb) (hget : ∀ i f, fs[i]? = some f → GetC B R 85 f (form.getD i .t) (i + 1) EnumT.cells er ow cnt bs a n c deep upd) (hd0 : 0 ≤ deep) (hd1 : deep ≤ 1000)
  (hR : Rd B R a n c 1 (ints .u8 bs)) (hb : Bytes bs) (h3 : n ≤ 16777216) (hc0 : cnt enum0 = 0) (hbag : ∀ H w, Sat B H w → Sat B (Bag (ow enum0) :: H) w) :
  RdrC B R 232 (.slice ra fs.length rc) deep a n c EnumT.cells er ow (fun q t => readR form bs upd q t (er enum0)) := by
 intro R' hM p' q t h1 h2
 refine SpP.body Tryz.func232 rfl Tryz.ntmps232 (by simp) ?_
 simp only [argE, List.cons_append, List.nil_append, Nat.zero_add, Nat.reduceAdd]
 repeat' (first|refine gL ?_|(refine gb ?_;intro b)|fail)
 rename_i b6 b7
 revert b
 intro bi
 refine CT.loop (α := RdS EnumT) (fun s => [(0, .slice ra fs.length rc), (1, ptr p'), (2, .int .i64 deep), (6, ptr b6), (7, ptr b7), (8, .int .i32 s.last), (9, ptr bi)])
  (fun s => Pu (s.p ≤ t ∧ cnt s.x ≤ s.p ∧ s.last ≤ 100 ∧ ∃ k, t - s.p < k ∧ recL form bs upd k s.p t s.last (er s.x) = readR form bs upd q t (er enum0)) :: rdo p' a n c s.p t :: Cs bi 313 [ptr p', .int .i64 s.at_, .int .i64 deep] :: Cs b7 85 (EnumT.cells s.x) :: Bag (ow s.x) :: Cs b6 85 (EnumT.cells enum0) :: R') (fun s => t - s.p) ⟨q, 0, 0, enum0⟩
  ⟨rfl, rfl, rfl, rfl, rfl, rfl, rfl, trivial⟩ (fun w h => Sat.pu_in ⟨h1, by show cnt enum0 ≤ q; omega, Nat.zero_le _, t - q + 1, by show t - q < t - q + 1; omega, rfl⟩ ((hbag _ w h).frd (Ps := [_, _, _, _, _]) (Qs := []) fR_)) (fun s => CT.pu fun ⟨hpt, hcn, hla, k, hk, hrec⟩ => ?_)
 obtain ⟨p, last, at0, x⟩ := s
 simp only at hpt hcn hla hk hrec ⊢
 try refine gL ?_
 (refine RT.call T rfl fR_ (left_o hpt (by omega)) rfl rfl rfl ?_; rintro _ _ ⟨rfl, rfl⟩; try simp only [List.cons_append, List.nil_append])
 repeat' (first|refine gL ?_|(refine gv ?_;(refine⟨fun hc=>?_,fun hc=>?_⟩<;>first|(exfalso;omega)|skip))|fail)
 rotate_left
 ·have hpt2 : p = t := by omega
  match k, hk, hrec with
  | k + 1, _, hrec =>
   unfold recL at hrec
   rw [if_neg (by omega)] at hrec
   try refine gM ?_
   refine AtQ.finPA (l := EnumT.cells x) (H' := [Bag (ow x)]) (b := b6) (e := 85) T Tryz.results232 rfl rfl rfl sE_ ?_ (fun w h => h.frd (Ps := [_]) (Qs := [_, _, _, _]) fR_) (by first | exact .inl rfl | exact .inr rfl)
   exact ⟨x, hrec.symm, rfl, rfl⟩
 have hplt : p < t := by omega
 have hok : RS.ok n ⟨p, t, 0, 0⟩ := ⟨hpt, h2, Nat.zero_le _⟩
 have hbl := hR.lenI
 have hR' := hM _ _ _ _ _ hR
 have hfs' := hM _ _ _ _ _ hfs
 (refine RT.call T rfl fR_ (at_fn) rfl rfl rfl ?_; rintro _ _ ⟨rfl, rfl⟩; try simp only [List.cons_append, List.nil_append])
 try refine gL ?_
 (refine RT.call T rfl fR_ (rtag_fn (rD (hR')) hb hok (by omega)) rfl rfl rfl ?_; rintro _ _ ⟨rfl, rfl⟩; try simp only [List.cons_append, List.nil_append])
 rcases tag_cases form bs p t last with ⟨v, kk, hv, hv1, hv2, hv3, htag⟩ | ⟨he, htn⟩
 rotate_left
 ·generalize RS.tag bs ⟨p, t, 0, 0⟩ = tg at he ⊢
  obtain ⟨⟨n1, k1⟩, s2⟩ := tg
  simp only at he ⊢
  try refine gL ?_
  (refine RT.call T rfl fR_ (err_fn) rfl rfl rfl ?_; rintro _ _ ⟨rfl, rfl⟩; try simp only [List.cons_append, List.nil_append])
  try refine gQ ?_
  have hres : readR form bs upd q t (er enum0) = .error p := by
   match k, hk, hrec with
   | k + 1, _, hrec =>
    unfold recL at hrec
    rw [if_pos hplt] at hrec
    unfold gotL at hrec
    rw [htn] at hrec
    exact hrec.symm
  refine CT.drawnP (Cs bi 313 [ptr p', .int .i64 p, .int .i64 deep] :: R') 20 mixed ?_
  refine DTP.tk (k := 6) [0, 1, 2, 3, 4, 6, 7, 8, 9, 11, 12, 13, 14, 15, 16] [5, 10, 17, 18, 19, 20] ?_
  repeat' (first|refine gL ?_|(refine gv ?_;(refine⟨fun hc=>?_,fun hc=>?_⟩<;>first|(exfalso;omega)|skip))|fail)
  refine AtQ.takeP ?_
  refine DTP.ef 5 ?_
  try refine gL ?_
  refine AtQ.ep ?_
  refine DTP.tk (k := 4) [10] [17, 18, 19, 20] ?_
  try refine gL ?_
  refine AtQ.takeP ?_
  refine DTP.ef 17 ?_
  try refine gL ?_
  refine AtQ.ep ?_
  refine DTP.tk (k := 1) [18, 19] [20] ?_
  try refine gL ?_
  refine AtQ.takeP ?_
  refine DTP.ef 20 ?_
  refine RT.callP T rfl fR_ (need_f (pd := bi) (pr := p') (at_ := p) (deep := deep) (Cs.rd (l := [ptr p', .int .i64 p, .int .i64 deep]) sE_)) rfl rfl rfl (fun v H1 hp => ?_) (fun v H1 hp => ?_)
  ·obtain ⟨rfl, rfl⟩ := hp
   ((repeat refine nx ?_); exact AtQ.finP (H' := []) ⟨p, hres, rfl, rfl⟩ dR_)
  ·exact hp.elim
 rw [htag]
 have hvs := RS.varint_spec (s := ⟨p, t, 0, 0⟩) hok hbl hb
 rw [varint_eq hv] at hvs
 obtain ⟨⟨r1, _, _⟩, _, r3, r4, _, r5⟩ := hvs
 simp only at r1 r3 r4 r5
 have r6 := (r5 trivial).2
 have hsv := shortV_eq hv
 have hel := (enc_len r4).2.1
 have henc := r4
 obtain ⟨v0, v1⟩ := r4
 try refine gL ?_
 (refine RT.call T rfl fR_ (err_fn) rfl rfl rfl ?_; rintro _ _ ⟨rfl, rfl⟩; try simp only [List.cons_append, List.nil_append])
 try refine gQ ?_
 refine CT.drawnP (Cs bi 313 [ptr p', .int .i64 p, .int .i64 deep] :: R') 20 mixed ?_
 refine DTP.tk (k := 6) [0, 1, 2, 3, 4, 6, 7, 8, 9, 11, 12, 13, 14, 15, 16] [5, 10, 17, 18, 19, 20] ?_
 repeat' (first|refine gL ?_|(refine gv ?_;first|(refine⟨fun hc=>?_,fun hc=>?_⟩<;>first|(exfalso;omega)|skip)|refine gk ?_)|fail)
 refine RT.ar rfl rfl (y_shl rfl rfl (by omega) (shl3 (by omega) (by omega))) rfl rfl ?_
 repeat' (first|refine gL ?_|(refine gv ?_;refine gk ?_)|fail)
 refine RT.ar rfl rfl (y_or rfl rfl (or_tag (by omega) (by omega) (by omega) (by omega))) rfl rfl ?_
 rw [show v / 8 * 8 + v % 8 = v by omega]
 try refine gL ?_
 refine AtQ.takeP ?_
 refine DTP.ef 5 ?_
 (refine RT.call T rfl fR_ (at_fn) rfl rfl rfl ?_; rintro _ _ ⟨rfl, rfl⟩; try simp only [List.cons_append, List.nil_append])
 try refine gL ?_
 refine AtQ.ep ?_
 refine DTP.tk (k := 4) [10] [17, 18, 19, 20] ?_
 repeat' (first|refine gL ?_|(refine gv ?_;refine gk ?_)|fail)
 refine AtQ.takeP ?_
 refine DTP.ef 17 ?_
 (refine RT.call T rfl fR_ (size_fn henc) rfl rfl rfl ?_; rintro _ _ ⟨rfl, rfl⟩; try simp only [List.cons_append, List.nil_append])
 try refine gL ?_
 refine AtQ.ep ?_
 refine DTP.tk (k := 1) [18, 19] [20] ?_
 repeat' (first|refine gL ?_|(refine gv ?_;(refine⟨fun hc=>?_,fun hc=>?_⟩<;>first|(exfalso;omega)|skip))|fail)
 rotate_left
 ·have hres : readR form bs upd q t (er enum0) = .error p := by
   match k, hk, hrec with
   | k + 1, _, hrec =>
    unfold recL at hrec
    rw [if_pos hplt] at hrec
    unfold gotL tagL at hrec
    rw [hsv, if_neg (by omega)] at hrec
    exact hrec.symm
  refine AtQ.takeP ?_
  refine DTP.ef 20 ?_
  refine RT.callP T rfl fR_ (need_f (pd := bi) (pr := p') (at_ := p) (deep := deep) (Cs.rd (l := [ptr p', .int .i64 p, .int .i64 deep]) sE_)) rfl rfl rfl (fun v H1 hp => ?_) (fun v H1 hp => ?_)
  ·obtain ⟨rfl, rfl⟩ := hp
   ((repeat refine nx ?_); exact AtQ.finP (H' := []) ⟨p, hres, rfl, rfl⟩ dR_)
  ·exact hp.elim
 refine AtQ.takeP ?_
 refine DTP.ef 20 ?_
 (refine RT.call T rfl fR_ (need_t) rfl rfl rfl ?_; rintro _ _ ⟨rfl, rfl⟩; try simp only [List.cons_append, List.nil_append])
 try refine gL ?_
 refine AtQ.eq ?_
 refine DTP.dn ?_
 rw [if_pos (by omega)] at hsv
 have hfl := findL_num (fun i f hf => (hnum i f hf).1) (v / 8)
 try refine gL ?_
 (refine RT.qcall T rfl (QSp.of fR_ (find_EnumDef (fs := fs) (num := v / 8) (rD (hfs')) (by omega))) rfl rfl rfl ?_)
 by_cases hin : 1 ≤ v / 8 ∧ v / 8 ≤ fs.length
 rotate_left
 ·rw [if_neg hin] at hfl
  rw [hfl]
  have hres : readR form bs upd q t (er enum0) = .error p := by
   match k, hk, hrec with
   | k + 1, _, hrec =>
    unfold recL at hrec
    rw [if_pos hplt] at hrec
    unfold gotL tagL at hrec
    rw [hsv] at hrec
    simp only at hrec
    rw [if_neg (by omega)] at hrec
    exact hrec.symm
  unfold findV
  repeat' (first|refine gM ?_|(refine gb ?_;intro b)|fail)
  refine RT.callP T rfl fR_ (need_f (pd := bi) (pr := p') (at_ := p) (deep := deep) (Cs.rd (l := [ptr p', .int .i64 p, .int .i64 deep]) sE_)) rfl rfl rfl (fun v H1 hp => ?_) (fun v H1 hp => ?_)
  ·obtain ⟨rfl, rfl⟩ := hp
   ((repeat refine nx ?_); exact AtQ.finP (H' := []) ⟨p, hres, rfl, rfl⟩ dR_)
  ·exact hp.elim
 rw [if_pos hin] at hfl
 have hi : (v / 8 - 1).toNat < fs.length := by omega
 obtain ⟨fe, hfe⟩ : ∃ fe, fs[(v / 8 - 1).toNat]? = some fe := ⟨_, List.getElem?_eq_getElem hi⟩
 rw [hfe] at hfl
 rw [hfl]
 obtain ⟨g1, g2, g3⟩ := hnum _ _ hfe
 obtain ⟨fnum, fkind, flst, ffp, fcp, ffg, fcg⟩ := fe
 rw [show findV (some (⟨fnum, fkind, flst, ffp, fcp, ffg, fcg⟩ : FP)) = .tuple #[.agg #[.int .i32 fnum, .int .u8 fkind, .bool flst, .func (.func ffp) #[] fcp.toArray, .func (.func ffg) #[] fcg.toArray], .bool true] from rfl]
 simp only at g1 g2 g3
 have hidx : (v / 8).toNat - 1 = (v / 8 - 1).toNat := by omega
 have hbad : ¬ ((last < (v / 8).toNat ∨ last = (v / 8).toNat ∧ flst = true) ∧ v % 8 = fkind) → readR form bs upd q t (er enum0) = .error p := fun hno => by
  match k, hk, hrec with
  | k + 1, _, hrec =>
   unfold recL at hrec
   rw [if_pos hplt, gotL_none hsv (fun ⟨_, _, _, h4, h5⟩ => hno ⟨by rw [hidx, ← g3] at h4; exact h4, by rw [hidx, ← g2] at h5; exact h5⟩)] at hrec
   exact hrec.symm
 have hcase : v / 8 < last ∨ (v / 8 = last ∧ flst = false) ∨ (last < v / 8 ∧ v % 8 ≠ fkind) ∨ (v / 8 = last ∧ flst = true ∧ v % 8 ≠ fkind) ∨ (last < v / 8 ∧ v % 8 = fkind) ∨ (v / 8 = last ∧ flst = true ∧ v % 8 = fkind) := by
  cases flst <;> simp only [Bool.false_eq_true, true_and, false_and, and_true, and_false, or_false, false_or, reduceCtorEq] <;> omega
 have hn8 : (((v / 8).toNat : Nat) : Int) = v / 8 := Int.toNat_of_nonneg (by omega)
 rcases hcase with hb1 | ⟨hb1, rfl⟩ | ⟨hb1, hb2⟩ | ⟨hb1, rfl, hb2⟩ | hgood
 iterate 4 (
  focus (
   have hres := hbad (fun h => by rcases h with ⟨h1 | ⟨h1, h2⟩, h3⟩ <;> first | omega | exact absurd h2 (by decide) | exact absurd h3 hb2)
   repeat' (first|refine gM ?_|(refine gv ?_;(refine⟨fun hc=>?_,fun hc=>?_⟩<;>first|(exfalso;omega)|skip))|(refine gb ?_;intro b)|fail)
   refine RT.callP T rfl fR_ (need_f (pd := bi) (pr := p') (at_ := p) (deep := deep) (Cs.rd (l := [ptr p', .int .i64 p, .int .i64 deep]) sE_)) rfl rfl rfl (fun v H1 hp => ?_) (fun v H1 hp => ?_)
   ·obtain ⟨rfl, rfl⟩ := hp
    ((repeat refine nx ?_); exact AtQ.finP (H' := []) ⟨p, hres, rfl, rfl⟩ dR_)
   ·exact hp.elim))
 have hgood2 : (last < (v / 8).toNat ∨ last = (v / 8).toNat ∧ flst = true) ∧ v % 8 = fkind := by
  rcases hgood with ⟨h1, h2⟩ | ⟨h1, h2, h3⟩
  ·exact ⟨.inl (by omega), h2⟩
  ·exact ⟨.inr ⟨by omega, h2⟩, h3⟩
 have hgot := gotL_yes hsv (form := form) (last := last) (by rw [hidx, ← g3, ← g2]; exact ⟨hv1, by omega, by omega, hgood2⟩)
 rw [hidx] at hgot
 have hget1 := hget _ _ hfe
 obtain ⟨gbf, hfg⟩ := hfun _ (List.mem_of_getElem? hfe)
 rcases hgood with ⟨hb1, hb2⟩ | ⟨hb1, rfl, hb2⟩
 all_goals (
  repeat' (first|refine gM ?_|(refine gv ?_;(refine⟨fun hc=>?_,fun hc=>?_⟩<;>first|(exfalso;omega)|skip))|(refine gb ?_;intro b)|fail)
  (refine RT.call T rfl fR_ (need_t) rfl rfl rfl ?_; rintro _ _ ⟨rfl, rfl⟩; try simp only [List.cons_append, List.nil_append])
  try refine gM ?_
  refine RT.callCP T (caps := fcg) rfl rfl fR_ (hget1 _ (fun _ _ _ _ _ h => (rD ((hM _ _ _ _ _ h)))) bi b7 p' (p + kk) t p x (by omega) h2 (by omega) (Cs.rd (l := [ptr p', .int .i64 p, .int .i64 deep]) sE_)) (hfg) rfl rfl (fun v9 H1 hp => ?_) (fun v9 H1 hp => ?_)
  ·obtain ⟨pl, rfl, rfl, hp⟩ := hp
   have hres : readR form bs upd q t (er enum0) = .error pl := by
    match k, hk, hrec with
    | k + 1, _, hrec =>
     unfold recL at hrec
     rw [if_pos hplt, hgot] at hrec
     rcases hp with ⟨hc1, rfl⟩ | ⟨m, q9, t9, hc1, hu⟩
     ·rw [hc1] at hrec
      exact hrec.symm
     ·rw [hc1] at hrec
      simp only [show (v / 8).toNat = (v / 8 - 1).toNat + 1 by omega, hu] at hrec
      exact hrec.symm
   ((repeat refine nx ?_); exact AtQ.finP (H' := []) ⟨pl, hres, rfl, rfl⟩ dR_)
  obtain ⟨m, q9, t9, x9, hc1, ht1, ht2, ht3, hn9, hu, rfl⟩ := hp
  simp only [List.cons_append, List.nil_append]
  try refine gM ?_
  match k, hk, hrec with
  | k + 1, hk, hrec =>
   unfold recL at hrec
   rw [if_pos hplt, hgot, hc1] at hrec
   have e8 : (v / 8).toNat = (v / 8 - 1).toNat + 1 := by omega
   simp only [e8, hu] at hrec
   refine AtQ.loop ⟨t9, (v / 8).toNat, p, x9⟩ ⟨rfl, rfl, rfl, rfl, rfl, (by rw [hn8]; rfl), rfl, trivial⟩ (fun w h => Sat.pu_in ⟨ht1, hn9, (show (v / 8).toNat ≤ 100 by omega), k, by simp only; omega, by rw [e8]; exact hrec⟩ (h.frd (Ps := [_, _, _, _, _]) (Qs := [_]) fR_)) (by simp only; omega))
set_option maxHeartbeats 4000000 in
theorem read_MessageDef {form : List FK} {fs : List FP} {ra : Option Addr} {rc : Nat} {a : Option Addr} {n c : Nat} {deep : Int} {bs : Txt} {er : MsgT → MsgT} {ow : MsgT → List HP} {cnt : MsgT → Nat} {upd : MsgT → Nat → Got → Except Nat MsgT}
  (hfs : Rd B R ra fs.length rc 5 (fs.flatMap FP.cells)) (hlen : fs.length = form.length) (hlm : fs.length ≤ 100) (hnum : ∀ i f, fs[i]? = some f → f.num = ((i + 1 : Nat) : Int) ∧ f.kind = (form.getD i .t).kind ∧ f.lst = (form.getD i .t).list)
  (hfun : ∀ f ∈ fs, ∃ gb, al T.funs f.fg = some gb) (hget : ∀ i f, fs[i]? = some f → GetC B R 187 f (form.getD i .t) (i + 1) MsgT.cells er ow cnt bs a n c deep upd) (hd0 : 0 ≤ deep) (hd1 : deep ≤ 1000)
  (hR : Rd B R a n c 1 (ints .u8 bs)) (hb : Bytes bs) (h3 : n ≤ 16777216) (hc0 : cnt msg0 = 0) (hbag : ∀ H w, Sat B H w → Sat B (Bag (ow msg0) :: H) w) :
  RdrC B R 228 (.slice ra fs.length rc) deep a n c MsgT.cells er ow (fun q t => readR form bs upd q t (er msg0)) := by
 intro R' hM p' q t h1 h2
 refine SpP.body Tryz.func228 rfl Tryz.ntmps228 (by simp) ?_
 simp only [argE, List.cons_append, List.nil_append, Nat.zero_add, Nat.reduceAdd]
 repeat' (first|refine gL ?_|(refine gb ?_;intro b)|fail)
 rename_i b6 b7
 revert b
 intro bi
 refine CT.loop (α := RdS MsgT) (fun s => [(0, .slice ra fs.length rc), (1, ptr p'), (2, .int .i64 deep), (6, ptr b6), (7, ptr b7), (8, .int .i32 s.last), (9, ptr bi)])
  (fun s => Pu (s.p ≤ t ∧ cnt s.x ≤ s.p ∧ s.last ≤ 100 ∧ ∃ k, t - s.p < k ∧ recL form bs upd k s.p t s.last (er s.x) = readR form bs upd q t (er msg0)) :: rdo p' a n c s.p t :: Cs bi 313 [ptr p', .int .i64 s.at_, .int .i64 deep] :: Cs b7 187 (MsgT.cells s.x) :: Bag (ow s.x) :: Cs b6 187 (MsgT.cells msg0) :: R') (fun s => t - s.p) ⟨q, 0, 0, msg0⟩
  ⟨rfl, rfl, rfl, rfl, rfl, rfl, rfl, trivial⟩ (fun w h => Sat.pu_in ⟨h1, by show cnt msg0 ≤ q; omega, Nat.zero_le _, t - q + 1, by show t - q < t - q + 1; omega, rfl⟩ ((hbag _ w h).frd (Ps := [_, _, _, _, _]) (Qs := []) fR_)) (fun s => CT.pu fun ⟨hpt, hcn, hla, k, hk, hrec⟩ => ?_)
 obtain ⟨p, last, at0, x⟩ := s
 simp only at hpt hcn hla hk hrec ⊢
 try refine gL ?_
 (refine RT.call T rfl fR_ (left_o hpt (by omega)) rfl rfl rfl ?_; rintro _ _ ⟨rfl, rfl⟩; try simp only [List.cons_append, List.nil_append])
 repeat' (first|refine gL ?_|(refine gv ?_;(refine⟨fun hc=>?_,fun hc=>?_⟩<;>first|(exfalso;omega)|skip))|fail)
 rotate_left
 ·have hpt2 : p = t := by omega
  match k, hk, hrec with
  | k + 1, _, hrec =>
   unfold recL at hrec
   rw [if_neg (by omega)] at hrec
   try refine gM ?_
   refine AtQ.finPA (l := MsgT.cells x) (H' := [Bag (ow x)]) (b := b6) (e := 187) T Tryz.results228 rfl rfl rfl sE_ ?_ (fun w h => h.frd (Ps := [_]) (Qs := [_, _, _, _]) fR_) (by first | exact .inl rfl | exact .inr rfl)
   exact ⟨x, hrec.symm, rfl, rfl⟩
 have hplt : p < t := by omega
 have hok : RS.ok n ⟨p, t, 0, 0⟩ := ⟨hpt, h2, Nat.zero_le _⟩
 have hbl := hR.lenI
 have hR' := hM _ _ _ _ _ hR
 have hfs' := hM _ _ _ _ _ hfs
 (refine RT.call T rfl fR_ (at_fn) rfl rfl rfl ?_; rintro _ _ ⟨rfl, rfl⟩; try simp only [List.cons_append, List.nil_append])
 try refine gL ?_
 (refine RT.call T rfl fR_ (rtag_fn (rD (hR')) hb hok (by omega)) rfl rfl rfl ?_; rintro _ _ ⟨rfl, rfl⟩; try simp only [List.cons_append, List.nil_append])
 rcases tag_cases form bs p t last with ⟨v, kk, hv, hv1, hv2, hv3, htag⟩ | ⟨he, htn⟩
 rotate_left
 ·generalize RS.tag bs ⟨p, t, 0, 0⟩ = tg at he ⊢
  obtain ⟨⟨n1, k1⟩, s2⟩ := tg
  simp only at he ⊢
  try refine gL ?_
  (refine RT.call T rfl fR_ (err_fn) rfl rfl rfl ?_; rintro _ _ ⟨rfl, rfl⟩; try simp only [List.cons_append, List.nil_append])
  try refine gQ ?_
  have hres : readR form bs upd q t (er msg0) = .error p := by
   match k, hk, hrec with
   | k + 1, _, hrec =>
    unfold recL at hrec
    rw [if_pos hplt] at hrec
    unfold gotL at hrec
    rw [htn] at hrec
    exact hrec.symm
  refine CT.drawnP (Cs bi 313 [ptr p', .int .i64 p, .int .i64 deep] :: R') 20 mixed ?_
  refine DTP.tk (k := 6) [0, 1, 2, 3, 4, 6, 7, 8, 9, 11, 12, 13, 14, 15, 16] [5, 10, 17, 18, 19, 20] ?_
  repeat' (first|refine gL ?_|(refine gv ?_;(refine⟨fun hc=>?_,fun hc=>?_⟩<;>first|(exfalso;omega)|skip))|fail)
  refine AtQ.takeP ?_
  refine DTP.ef 5 ?_
  try refine gL ?_
  refine AtQ.ep ?_
  refine DTP.tk (k := 4) [10] [17, 18, 19, 20] ?_
  try refine gL ?_
  refine AtQ.takeP ?_
  refine DTP.ef 17 ?_
  try refine gL ?_
  refine AtQ.ep ?_
  refine DTP.tk (k := 1) [18, 19] [20] ?_
  try refine gL ?_
  refine AtQ.takeP ?_
  refine DTP.ef 20 ?_
  refine RT.callP T rfl fR_ (need_f (pd := bi) (pr := p') (at_ := p) (deep := deep) (Cs.rd (l := [ptr p', .int .i64 p, .int .i64 deep]) sE_)) rfl rfl rfl (fun v H1 hp => ?_) (fun v H1 hp => ?_)
  ·obtain ⟨rfl, rfl⟩ := hp
   ((repeat refine nx ?_); exact AtQ.finP (H' := []) ⟨p, hres, rfl, rfl⟩ dR_)
  ·exact hp.elim
 rw [htag]
 have hvs := RS.varint_spec (s := ⟨p, t, 0, 0⟩) hok hbl hb
 rw [varint_eq hv] at hvs
 obtain ⟨⟨r1, _, _⟩, _, r3, r4, _, r5⟩ := hvs
 simp only at r1 r3 r4 r5
 have r6 := (r5 trivial).2
 have hsv := shortV_eq hv
 have hel := (enc_len r4).2.1
 have henc := r4
 obtain ⟨v0, v1⟩ := r4
 try refine gL ?_
 (refine RT.call T rfl fR_ (err_fn) rfl rfl rfl ?_; rintro _ _ ⟨rfl, rfl⟩; try simp only [List.cons_append, List.nil_append])
 try refine gQ ?_
 refine CT.drawnP (Cs bi 313 [ptr p', .int .i64 p, .int .i64 deep] :: R') 20 mixed ?_
 refine DTP.tk (k := 6) [0, 1, 2, 3, 4, 6, 7, 8, 9, 11, 12, 13, 14, 15, 16] [5, 10, 17, 18, 19, 20] ?_
 repeat' (first|refine gL ?_|(refine gv ?_;first|(refine⟨fun hc=>?_,fun hc=>?_⟩<;>first|(exfalso;omega)|skip)|refine gk ?_)|fail)
 refine RT.ar rfl rfl (y_shl rfl rfl (by omega) (shl3 (by omega) (by omega))) rfl rfl ?_
 repeat' (first|refine gL ?_|(refine gv ?_;refine gk ?_)|fail)
 refine RT.ar rfl rfl (y_or rfl rfl (or_tag (by omega) (by omega) (by omega) (by omega))) rfl rfl ?_
 rw [show v / 8 * 8 + v % 8 = v by omega]
 try refine gL ?_
 refine AtQ.takeP ?_
 refine DTP.ef 5 ?_
 (refine RT.call T rfl fR_ (at_fn) rfl rfl rfl ?_; rintro _ _ ⟨rfl, rfl⟩; try simp only [List.cons_append, List.nil_append])
 try refine gL ?_
 refine AtQ.ep ?_
 refine DTP.tk (k := 4) [10] [17, 18, 19, 20] ?_
 repeat' (first|refine gL ?_|(refine gv ?_;refine gk ?_)|fail)
 refine AtQ.takeP ?_
 refine DTP.ef 17 ?_
 (refine RT.call T rfl fR_ (size_fn henc) rfl rfl rfl ?_; rintro _ _ ⟨rfl, rfl⟩; try simp only [List.cons_append, List.nil_append])
 try refine gL ?_
 refine AtQ.ep ?_
 refine DTP.tk (k := 1) [18, 19] [20] ?_
 repeat' (first|refine gL ?_|(refine gv ?_;(refine⟨fun hc=>?_,fun hc=>?_⟩<;>first|(exfalso;omega)|skip))|fail)
 rotate_left
 ·have hres : readR form bs upd q t (er msg0) = .error p := by
   match k, hk, hrec with
   | k + 1, _, hrec =>
    unfold recL at hrec
    rw [if_pos hplt] at hrec
    unfold gotL tagL at hrec
    rw [hsv, if_neg (by omega)] at hrec
    exact hrec.symm
  refine AtQ.takeP ?_
  refine DTP.ef 20 ?_
  refine RT.callP T rfl fR_ (need_f (pd := bi) (pr := p') (at_ := p) (deep := deep) (Cs.rd (l := [ptr p', .int .i64 p, .int .i64 deep]) sE_)) rfl rfl rfl (fun v H1 hp => ?_) (fun v H1 hp => ?_)
  ·obtain ⟨rfl, rfl⟩ := hp
   ((repeat refine nx ?_); exact AtQ.finP (H' := []) ⟨p, hres, rfl, rfl⟩ dR_)
  ·exact hp.elim
 refine AtQ.takeP ?_
 refine DTP.ef 20 ?_
 (refine RT.call T rfl fR_ (need_t) rfl rfl rfl ?_; rintro _ _ ⟨rfl, rfl⟩; try simp only [List.cons_append, List.nil_append])
 try refine gL ?_
 refine AtQ.eq ?_
 refine DTP.dn ?_
 rw [if_pos (by omega)] at hsv
 have hfl := findL_num (fun i f hf => (hnum i f hf).1) (v / 8)
 try refine gL ?_
 (refine RT.qcall T rfl (QSp.of fR_ (find_MessageDef (fs := fs) (num := v / 8) (rD (hfs')) (by omega))) rfl rfl rfl ?_)
 by_cases hin : 1 ≤ v / 8 ∧ v / 8 ≤ fs.length
 rotate_left
 ·rw [if_neg hin] at hfl
  rw [hfl]
  have hres : readR form bs upd q t (er msg0) = .error p := by
   match k, hk, hrec with
   | k + 1, _, hrec =>
    unfold recL at hrec
    rw [if_pos hplt] at hrec
    unfold gotL tagL at hrec
    rw [hsv] at hrec
    simp only at hrec
    rw [if_neg (by omega)] at hrec
    exact hrec.symm
  unfold findV
  repeat' (first|refine gM ?_|(refine gb ?_;intro b)|fail)
  refine RT.callP T rfl fR_ (need_f (pd := bi) (pr := p') (at_ := p) (deep := deep) (Cs.rd (l := [ptr p', .int .i64 p, .int .i64 deep]) sE_)) rfl rfl rfl (fun v H1 hp => ?_) (fun v H1 hp => ?_)
  ·obtain ⟨rfl, rfl⟩ := hp
   ((repeat refine nx ?_); exact AtQ.finP (H' := []) ⟨p, hres, rfl, rfl⟩ dR_)
  ·exact hp.elim
 rw [if_pos hin] at hfl
 have hi : (v / 8 - 1).toNat < fs.length := by omega
 obtain ⟨fe, hfe⟩ : ∃ fe, fs[(v / 8 - 1).toNat]? = some fe := ⟨_, List.getElem?_eq_getElem hi⟩
 rw [hfe] at hfl
 rw [hfl]
 obtain ⟨g1, g2, g3⟩ := hnum _ _ hfe
 obtain ⟨fnum, fkind, flst, ffp, fcp, ffg, fcg⟩ := fe
 rw [show findV (some (⟨fnum, fkind, flst, ffp, fcp, ffg, fcg⟩ : FP)) = .tuple #[.agg #[.int .i32 fnum, .int .u8 fkind, .bool flst, .func (.func ffp) #[] fcp.toArray, .func (.func ffg) #[] fcg.toArray], .bool true] from rfl]
 simp only at g1 g2 g3
 have hidx : (v / 8).toNat - 1 = (v / 8 - 1).toNat := by omega
 have hbad : ¬ ((last < (v / 8).toNat ∨ last = (v / 8).toNat ∧ flst = true) ∧ v % 8 = fkind) → readR form bs upd q t (er msg0) = .error p := fun hno => by
  match k, hk, hrec with
  | k + 1, _, hrec =>
   unfold recL at hrec
   rw [if_pos hplt, gotL_none hsv (fun ⟨_, _, _, h4, h5⟩ => hno ⟨by rw [hidx, ← g3] at h4; exact h4, by rw [hidx, ← g2] at h5; exact h5⟩)] at hrec
   exact hrec.symm
 have hcase : v / 8 < last ∨ (v / 8 = last ∧ flst = false) ∨ (last < v / 8 ∧ v % 8 ≠ fkind) ∨ (v / 8 = last ∧ flst = true ∧ v % 8 ≠ fkind) ∨ (last < v / 8 ∧ v % 8 = fkind) ∨ (v / 8 = last ∧ flst = true ∧ v % 8 = fkind) := by
  cases flst <;> simp only [Bool.false_eq_true, true_and, false_and, and_true, and_false, or_false, false_or, reduceCtorEq] <;> omega
 have hn8 : (((v / 8).toNat : Nat) : Int) = v / 8 := Int.toNat_of_nonneg (by omega)
 rcases hcase with hb1 | ⟨hb1, rfl⟩ | ⟨hb1, hb2⟩ | ⟨hb1, rfl, hb2⟩ | hgood
 iterate 4 (
  focus (
   have hres := hbad (fun h => by rcases h with ⟨h1 | ⟨h1, h2⟩, h3⟩ <;> first | omega | exact absurd h2 (by decide) | exact absurd h3 hb2)
   repeat' (first|refine gM ?_|(refine gv ?_;(refine⟨fun hc=>?_,fun hc=>?_⟩<;>first|(exfalso;omega)|skip))|(refine gb ?_;intro b)|fail)
   refine RT.callP T rfl fR_ (need_f (pd := bi) (pr := p') (at_ := p) (deep := deep) (Cs.rd (l := [ptr p', .int .i64 p, .int .i64 deep]) sE_)) rfl rfl rfl (fun v H1 hp => ?_) (fun v H1 hp => ?_)
   ·obtain ⟨rfl, rfl⟩ := hp
    ((repeat refine nx ?_); exact AtQ.finP (H' := []) ⟨p, hres, rfl, rfl⟩ dR_)
   ·exact hp.elim))
 have hgood2 : (last < (v / 8).toNat ∨ last = (v / 8).toNat ∧ flst = true) ∧ v % 8 = fkind := by
  rcases hgood with ⟨h1, h2⟩ | ⟨h1, h2, h3⟩
  ·exact ⟨.inl (by omega), h2⟩
  ·exact ⟨.inr ⟨by omega, h2⟩, h3⟩
 have hgot := gotL_yes hsv (form := form) (last := last) (by rw [hidx, ← g3, ← g2]; exact ⟨hv1, by omega, by omega, hgood2⟩)
 rw [hidx] at hgot
 have hget1 := hget _ _ hfe
 obtain ⟨gbf, hfg⟩ := hfun _ (List.mem_of_getElem? hfe)
 rcases hgood with ⟨hb1, hb2⟩ | ⟨hb1, rfl, hb2⟩
 all_goals (
  repeat' (first|refine gM ?_|(refine gv ?_;(refine⟨fun hc=>?_,fun hc=>?_⟩<;>first|(exfalso;omega)|skip))|(refine gb ?_;intro b)|fail)
  (refine RT.call T rfl fR_ (need_t) rfl rfl rfl ?_; rintro _ _ ⟨rfl, rfl⟩; try simp only [List.cons_append, List.nil_append])
  try refine gM ?_
  refine RT.callCP T (caps := fcg) rfl rfl fR_ (hget1 _ (fun _ _ _ _ _ h => (rD ((hM _ _ _ _ _ h)))) bi b7 p' (p + kk) t p x (by omega) h2 (by omega) (Cs.rd (l := [ptr p', .int .i64 p, .int .i64 deep]) sE_)) (hfg) rfl rfl (fun v9 H1 hp => ?_) (fun v9 H1 hp => ?_)
  ·obtain ⟨pl, rfl, rfl, hp⟩ := hp
   have hres : readR form bs upd q t (er msg0) = .error pl := by
    match k, hk, hrec with
    | k + 1, _, hrec =>
     unfold recL at hrec
     rw [if_pos hplt, hgot] at hrec
     rcases hp with ⟨hc1, rfl⟩ | ⟨m, q9, t9, hc1, hu⟩
     ·rw [hc1] at hrec
      exact hrec.symm
     ·rw [hc1] at hrec
      simp only [show (v / 8).toNat = (v / 8 - 1).toNat + 1 by omega, hu] at hrec
      exact hrec.symm
   ((repeat refine nx ?_); exact AtQ.finP (H' := []) ⟨pl, hres, rfl, rfl⟩ dR_)
  obtain ⟨m, q9, t9, x9, hc1, ht1, ht2, ht3, hn9, hu, rfl⟩ := hp
  simp only [List.cons_append, List.nil_append]
  try refine gM ?_
  match k, hk, hrec with
  | k + 1, hk, hrec =>
   unfold recL at hrec
   rw [if_pos hplt, hgot, hc1] at hrec
   have e8 : (v / 8).toNat = (v / 8 - 1).toNat + 1 := by omega
   simp only [e8, hu] at hrec
   refine AtQ.loop ⟨t9, (v / 8).toNat, p, x9⟩ ⟨rfl, rfl, rfl, rfl, rfl, (by rw [hn8]; rfl), rfl, trivial⟩ (fun w h => Sat.pu_in ⟨ht1, hn9, (show (v / 8).toNat ≤ 100 by omega), k, by simp only; omega, by rw [e8]; exact hrec⟩ (h.frd (Ps := [_, _, _, _, _]) (Qs := [_]) fR_)) (by simp only; omega))
set_option maxHeartbeats 4000000 in
theorem read_File {form : List FK} {fs : List FP} {ra : Option Addr} {rc : Nat} {a : Option Addr} {n c : Nat} {deep : Int} {bs : Txt} {er : FileT → FileT} {ow : FileT → List HP} {cnt : FileT → Nat} {upd : FileT → Nat → Got → Except Nat FileT}
  (hfs : Rd B R ra fs.length rc 5 (fs.flatMap FP.cells)) (hlen : fs.length = form.length) (hlm : fs.length ≤ 100) (hnum : ∀ i f, fs[i]? = some f → f.num = ((i + 1 : Nat) : Int) ∧ f.kind = (form.getD i .t).kind ∧ f.lst = (form.getD i .t).list)
  (hfun : ∀ f ∈ fs, ∃ gb, al T.funs f.fg = some gb) (hget : ∀ i f, fs[i]? = some f → GetC B R 75 f (form.getD i .t) (i + 1) FileT.cells er ow cnt bs a n c deep upd) (hd0 : 0 ≤ deep) (hd1 : deep ≤ 1000)
  (hR : Rd B R a n c 1 (ints .u8 bs)) (hb : Bytes bs) (h3 : n ≤ 16777216) (hc0 : cnt file0 = 0) (hbag : ∀ H w, Sat B H w → Sat B (Bag (ow file0) :: H) w) :
  RdrC B R 252 (.slice ra fs.length rc) deep a n c FileT.cells er ow (fun q t => readR form bs upd q t (er file0)) := by
 intro R' hM p' q t h1 h2
 refine SpP.body Tryz.func252 rfl Tryz.ntmps252 (by simp) ?_
 simp only [argE, List.cons_append, List.nil_append, Nat.zero_add, Nat.reduceAdd]
 repeat' (first|refine gL ?_|(refine gb ?_;intro b)|fail)
 rename_i b6 b7
 revert b
 intro bi
 refine CT.loop (α := RdS FileT) (fun s => [(0, .slice ra fs.length rc), (1, ptr p'), (2, .int .i64 deep), (6, ptr b6), (7, ptr b7), (8, .int .i32 s.last), (9, ptr bi)])
  (fun s => Pu (s.p ≤ t ∧ cnt s.x ≤ s.p ∧ s.last ≤ 100 ∧ ∃ k, t - s.p < k ∧ recL form bs upd k s.p t s.last (er s.x) = readR form bs upd q t (er file0)) :: rdo p' a n c s.p t :: Cs bi 313 [ptr p', .int .i64 s.at_, .int .i64 deep] :: Cs b7 75 (FileT.cells s.x) :: Bag (ow s.x) :: Cs b6 75 (FileT.cells file0) :: R') (fun s => t - s.p) ⟨q, 0, 0, file0⟩
  ⟨rfl, rfl, rfl, rfl, rfl, rfl, rfl, trivial⟩ (fun w h => Sat.pu_in ⟨h1, by show cnt file0 ≤ q; omega, Nat.zero_le _, t - q + 1, by show t - q < t - q + 1; omega, rfl⟩ ((hbag _ w h).frd (Ps := [_, _, _, _, _]) (Qs := []) fR_)) (fun s => CT.pu fun ⟨hpt, hcn, hla, k, hk, hrec⟩ => ?_)
 obtain ⟨p, last, at0, x⟩ := s
 simp only at hpt hcn hla hk hrec ⊢
 try refine gL ?_
 (refine RT.call T rfl fR_ (left_o hpt (by omega)) rfl rfl rfl ?_; rintro _ _ ⟨rfl, rfl⟩; try simp only [List.cons_append, List.nil_append])
 repeat' (first|refine gL ?_|(refine gv ?_;(refine⟨fun hc=>?_,fun hc=>?_⟩<;>first|(exfalso;omega)|skip))|fail)
 rotate_left
 ·have hpt2 : p = t := by omega
  match k, hk, hrec with
  | k + 1, _, hrec =>
   unfold recL at hrec
   rw [if_neg (by omega)] at hrec
   try refine gM ?_
   refine AtQ.finPA (l := FileT.cells x) (H' := [Bag (ow x)]) (b := b6) (e := 75) T Tryz.results252 rfl rfl rfl sE_ ?_ (fun w h => h.frd (Ps := [_]) (Qs := [_, _, _, _]) fR_) (by first | exact .inl rfl | exact .inr rfl)
   exact ⟨x, hrec.symm, rfl, rfl⟩
 have hplt : p < t := by omega
 have hok : RS.ok n ⟨p, t, 0, 0⟩ := ⟨hpt, h2, Nat.zero_le _⟩
 have hbl := hR.lenI
 have hR' := hM _ _ _ _ _ hR
 have hfs' := hM _ _ _ _ _ hfs
 (refine RT.call T rfl fR_ (at_fn) rfl rfl rfl ?_; rintro _ _ ⟨rfl, rfl⟩; try simp only [List.cons_append, List.nil_append])
 try refine gL ?_
 (refine RT.call T rfl fR_ (rtag_fn (rD (hR')) hb hok (by omega)) rfl rfl rfl ?_; rintro _ _ ⟨rfl, rfl⟩; try simp only [List.cons_append, List.nil_append])
 rcases tag_cases form bs p t last with ⟨v, kk, hv, hv1, hv2, hv3, htag⟩ | ⟨he, htn⟩
 rotate_left
 ·generalize RS.tag bs ⟨p, t, 0, 0⟩ = tg at he ⊢
  obtain ⟨⟨n1, k1⟩, s2⟩ := tg
  simp only at he ⊢
  try refine gL ?_
  (refine RT.call T rfl fR_ (err_fn) rfl rfl rfl ?_; rintro _ _ ⟨rfl, rfl⟩; try simp only [List.cons_append, List.nil_append])
  try refine gQ ?_
  have hres : readR form bs upd q t (er file0) = .error p := by
   match k, hk, hrec with
   | k + 1, _, hrec =>
    unfold recL at hrec
    rw [if_pos hplt] at hrec
    unfold gotL at hrec
    rw [htn] at hrec
    exact hrec.symm
  refine CT.drawnP (Cs bi 313 [ptr p', .int .i64 p, .int .i64 deep] :: R') 20 mixed ?_
  refine DTP.tk (k := 6) [0, 1, 2, 3, 4, 6, 7, 8, 9, 11, 12, 13, 14, 15, 16] [5, 10, 17, 18, 19, 20] ?_
  repeat' (first|refine gL ?_|(refine gv ?_;(refine⟨fun hc=>?_,fun hc=>?_⟩<;>first|(exfalso;omega)|skip))|fail)
  refine AtQ.takeP ?_
  refine DTP.ef 5 ?_
  try refine gL ?_
  refine AtQ.ep ?_
  refine DTP.tk (k := 4) [10] [17, 18, 19, 20] ?_
  try refine gL ?_
  refine AtQ.takeP ?_
  refine DTP.ef 17 ?_
  try refine gL ?_
  refine AtQ.ep ?_
  refine DTP.tk (k := 1) [18, 19] [20] ?_
  try refine gL ?_
  refine AtQ.takeP ?_
  refine DTP.ef 20 ?_
  refine RT.callP T rfl fR_ (need_f (pd := bi) (pr := p') (at_ := p) (deep := deep) (Cs.rd (l := [ptr p', .int .i64 p, .int .i64 deep]) sE_)) rfl rfl rfl (fun v H1 hp => ?_) (fun v H1 hp => ?_)
  ·obtain ⟨rfl, rfl⟩ := hp
   ((repeat refine nx ?_); exact AtQ.finP (H' := []) ⟨p, hres, rfl, rfl⟩ dR_)
  ·exact hp.elim
 rw [htag]
 have hvs := RS.varint_spec (s := ⟨p, t, 0, 0⟩) hok hbl hb
 rw [varint_eq hv] at hvs
 obtain ⟨⟨r1, _, _⟩, _, r3, r4, _, r5⟩ := hvs
 simp only at r1 r3 r4 r5
 have r6 := (r5 trivial).2
 have hsv := shortV_eq hv
 have hel := (enc_len r4).2.1
 have henc := r4
 obtain ⟨v0, v1⟩ := r4
 try refine gL ?_
 (refine RT.call T rfl fR_ (err_fn) rfl rfl rfl ?_; rintro _ _ ⟨rfl, rfl⟩; try simp only [List.cons_append, List.nil_append])
 try refine gQ ?_
 refine CT.drawnP (Cs bi 313 [ptr p', .int .i64 p, .int .i64 deep] :: R') 20 mixed ?_
 refine DTP.tk (k := 6) [0, 1, 2, 3, 4, 6, 7, 8, 9, 11, 12, 13, 14, 15, 16] [5, 10, 17, 18, 19, 20] ?_
 repeat' (first|refine gL ?_|(refine gv ?_;first|(refine⟨fun hc=>?_,fun hc=>?_⟩<;>first|(exfalso;omega)|skip)|refine gk ?_)|fail)
 refine RT.ar rfl rfl (y_shl rfl rfl (by omega) (shl3 (by omega) (by omega))) rfl rfl ?_
 repeat' (first|refine gL ?_|(refine gv ?_;refine gk ?_)|fail)
 refine RT.ar rfl rfl (y_or rfl rfl (or_tag (by omega) (by omega) (by omega) (by omega))) rfl rfl ?_
 rw [show v / 8 * 8 + v % 8 = v by omega]
 try refine gL ?_
 refine AtQ.takeP ?_
 refine DTP.ef 5 ?_
 (refine RT.call T rfl fR_ (at_fn) rfl rfl rfl ?_; rintro _ _ ⟨rfl, rfl⟩; try simp only [List.cons_append, List.nil_append])
 try refine gL ?_
 refine AtQ.ep ?_
 refine DTP.tk (k := 4) [10] [17, 18, 19, 20] ?_
 repeat' (first|refine gL ?_|(refine gv ?_;refine gk ?_)|fail)
 refine AtQ.takeP ?_
 refine DTP.ef 17 ?_
 (refine RT.call T rfl fR_ (size_fn henc) rfl rfl rfl ?_; rintro _ _ ⟨rfl, rfl⟩; try simp only [List.cons_append, List.nil_append])
 try refine gL ?_
 refine AtQ.ep ?_
 refine DTP.tk (k := 1) [18, 19] [20] ?_
 repeat' (first|refine gL ?_|(refine gv ?_;(refine⟨fun hc=>?_,fun hc=>?_⟩<;>first|(exfalso;omega)|skip))|fail)
 rotate_left
 ·have hres : readR form bs upd q t (er file0) = .error p := by
   match k, hk, hrec with
   | k + 1, _, hrec =>
    unfold recL at hrec
    rw [if_pos hplt] at hrec
    unfold gotL tagL at hrec
    rw [hsv, if_neg (by omega)] at hrec
    exact hrec.symm
  refine AtQ.takeP ?_
  refine DTP.ef 20 ?_
  refine RT.callP T rfl fR_ (need_f (pd := bi) (pr := p') (at_ := p) (deep := deep) (Cs.rd (l := [ptr p', .int .i64 p, .int .i64 deep]) sE_)) rfl rfl rfl (fun v H1 hp => ?_) (fun v H1 hp => ?_)
  ·obtain ⟨rfl, rfl⟩ := hp
   ((repeat refine nx ?_); exact AtQ.finP (H' := []) ⟨p, hres, rfl, rfl⟩ dR_)
  ·exact hp.elim
 refine AtQ.takeP ?_
 refine DTP.ef 20 ?_
 (refine RT.call T rfl fR_ (need_t) rfl rfl rfl ?_; rintro _ _ ⟨rfl, rfl⟩; try simp only [List.cons_append, List.nil_append])
 try refine gL ?_
 refine AtQ.eq ?_
 refine DTP.dn ?_
 rw [if_pos (by omega)] at hsv
 have hfl := findL_num (fun i f hf => (hnum i f hf).1) (v / 8)
 try refine gL ?_
 (refine RT.qcall T rfl (QSp.of fR_ (find_File (fs := fs) (num := v / 8) (rD (hfs')) (by omega))) rfl rfl rfl ?_)
 by_cases hin : 1 ≤ v / 8 ∧ v / 8 ≤ fs.length
 rotate_left
 ·rw [if_neg hin] at hfl
  rw [hfl]
  have hres : readR form bs upd q t (er file0) = .error p := by
   match k, hk, hrec with
   | k + 1, _, hrec =>
    unfold recL at hrec
    rw [if_pos hplt] at hrec
    unfold gotL tagL at hrec
    rw [hsv] at hrec
    simp only at hrec
    rw [if_neg (by omega)] at hrec
    exact hrec.symm
  unfold findV
  repeat' (first|refine gM ?_|(refine gb ?_;intro b)|fail)
  refine RT.callP T rfl fR_ (need_f (pd := bi) (pr := p') (at_ := p) (deep := deep) (Cs.rd (l := [ptr p', .int .i64 p, .int .i64 deep]) sE_)) rfl rfl rfl (fun v H1 hp => ?_) (fun v H1 hp => ?_)
  ·obtain ⟨rfl, rfl⟩ := hp
   ((repeat refine nx ?_); exact AtQ.finP (H' := []) ⟨p, hres, rfl, rfl⟩ dR_)
  ·exact hp.elim
 rw [if_pos hin] at hfl
 have hi : (v / 8 - 1).toNat < fs.length := by omega
 obtain ⟨fe, hfe⟩ : ∃ fe, fs[(v / 8 - 1).toNat]? = some fe := ⟨_, List.getElem?_eq_getElem hi⟩
 rw [hfe] at hfl
 rw [hfl]
 obtain ⟨g1, g2, g3⟩ := hnum _ _ hfe
 obtain ⟨fnum, fkind, flst, ffp, fcp, ffg, fcg⟩ := fe
 rw [show findV (some (⟨fnum, fkind, flst, ffp, fcp, ffg, fcg⟩ : FP)) = .tuple #[.agg #[.int .i32 fnum, .int .u8 fkind, .bool flst, .func (.func ffp) #[] fcp.toArray, .func (.func ffg) #[] fcg.toArray], .bool true] from rfl]
 simp only at g1 g2 g3
 have hidx : (v / 8).toNat - 1 = (v / 8 - 1).toNat := by omega
 have hbad : ¬ ((last < (v / 8).toNat ∨ last = (v / 8).toNat ∧ flst = true) ∧ v % 8 = fkind) → readR form bs upd q t (er file0) = .error p := fun hno => by
  match k, hk, hrec with
  | k + 1, _, hrec =>
   unfold recL at hrec
   rw [if_pos hplt, gotL_none hsv (fun ⟨_, _, _, h4, h5⟩ => hno ⟨by rw [hidx, ← g3] at h4; exact h4, by rw [hidx, ← g2] at h5; exact h5⟩)] at hrec
   exact hrec.symm
 have hcase : v / 8 < last ∨ (v / 8 = last ∧ flst = false) ∨ (last < v / 8 ∧ v % 8 ≠ fkind) ∨ (v / 8 = last ∧ flst = true ∧ v % 8 ≠ fkind) ∨ (last < v / 8 ∧ v % 8 = fkind) ∨ (v / 8 = last ∧ flst = true ∧ v % 8 = fkind) := by
  cases flst <;> simp only [Bool.false_eq_true, true_and, false_and, and_true, and_false, or_false, false_or, reduceCtorEq] <;> omega
 have hn8 : (((v / 8).toNat : Nat) : Int) = v / 8 := Int.toNat_of_nonneg (by omega)
 rcases hcase with hb1 | ⟨hb1, rfl⟩ | ⟨hb1, hb2⟩ | ⟨hb1, rfl, hb2⟩ | hgood
 iterate 4 (
  focus (
   have hres := hbad (fun h => by rcases h with ⟨h1 | ⟨h1, h2⟩, h3⟩ <;> first | omega | exact absurd h2 (by decide) | exact absurd h3 hb2)
   repeat' (first|refine gM ?_|(refine gv ?_;(refine⟨fun hc=>?_,fun hc=>?_⟩<;>first|(exfalso;omega)|skip))|(refine gb ?_;intro b)|fail)
   refine RT.callP T rfl fR_ (need_f (pd := bi) (pr := p') (at_ := p) (deep := deep) (Cs.rd (l := [ptr p', .int .i64 p, .int .i64 deep]) sE_)) rfl rfl rfl (fun v H1 hp => ?_) (fun v H1 hp => ?_)
   ·obtain ⟨rfl, rfl⟩ := hp
    ((repeat refine nx ?_); exact AtQ.finP (H' := []) ⟨p, hres, rfl, rfl⟩ dR_)
   ·exact hp.elim))
 have hgood2 : (last < (v / 8).toNat ∨ last = (v / 8).toNat ∧ flst = true) ∧ v % 8 = fkind := by
  rcases hgood with ⟨h1, h2⟩ | ⟨h1, h2, h3⟩
  ·exact ⟨.inl (by omega), h2⟩
  ·exact ⟨.inr ⟨by omega, h2⟩, h3⟩
 have hgot := gotL_yes hsv (form := form) (last := last) (by rw [hidx, ← g3, ← g2]; exact ⟨hv1, by omega, by omega, hgood2⟩)
 rw [hidx] at hgot
 have hget1 := hget _ _ hfe
 obtain ⟨gbf, hfg⟩ := hfun _ (List.mem_of_getElem? hfe)
 rcases hgood with ⟨hb1, hb2⟩ | ⟨hb1, rfl, hb2⟩
 all_goals (
  repeat' (first|refine gM ?_|(refine gv ?_;(refine⟨fun hc=>?_,fun hc=>?_⟩<;>first|(exfalso;omega)|skip))|(refine gb ?_;intro b)|fail)
  (refine RT.call T rfl fR_ (need_t) rfl rfl rfl ?_; rintro _ _ ⟨rfl, rfl⟩; try simp only [List.cons_append, List.nil_append])
  try refine gM ?_
  refine RT.callCP T (caps := fcg) rfl rfl fR_ (hget1 _ (fun _ _ _ _ _ h => (rD ((hM _ _ _ _ _ h)))) bi b7 p' (p + kk) t p x (by omega) h2 (by omega) (Cs.rd (l := [ptr p', .int .i64 p, .int .i64 deep]) sE_)) (hfg) rfl rfl (fun v9 H1 hp => ?_) (fun v9 H1 hp => ?_)
  ·obtain ⟨pl, rfl, rfl, hp⟩ := hp
   have hres : readR form bs upd q t (er file0) = .error pl := by
    match k, hk, hrec with
    | k + 1, _, hrec =>
     unfold recL at hrec
     rw [if_pos hplt, hgot] at hrec
     rcases hp with ⟨hc1, rfl⟩ | ⟨m, q9, t9, hc1, hu⟩
     ·rw [hc1] at hrec
      exact hrec.symm
     ·rw [hc1] at hrec
      simp only [show (v / 8).toNat = (v / 8 - 1).toNat + 1 by omega, hu] at hrec
      exact hrec.symm
   ((repeat refine nx ?_); exact AtQ.finP (H' := []) ⟨pl, hres, rfl, rfl⟩ dR_)
  obtain ⟨m, q9, t9, x9, hc1, ht1, ht2, ht3, hn9, hu, rfl⟩ := hp
  simp only [List.cons_append, List.nil_append]
  try refine gM ?_
  match k, hk, hrec with
  | k + 1, hk, hrec =>
   unfold recL at hrec
   rw [if_pos hplt, hgot, hc1] at hrec
   have e8 : (v / 8).toNat = (v / 8 - 1).toNat + 1 := by omega
   simp only [e8, hu] at hrec
   refine AtQ.loop ⟨t9, (v / 8).toNat, p, x9⟩ ⟨rfl, rfl, rfl, rfl, rfl, (by rw [hn8]; rfl), rfl, trivial⟩ (fun w h => Sat.pu_in ⟨ht1, hn9, (show (v / 8).toNat ≤ 100 by omega), k, by simp only; omega, by rw [e8]; exact hrec⟩ (h.frd (Ps := [_, _, _, _, _]) (Qs := [_]) fR_)) (by simp only; omega))
set_option maxHeartbeats 4000000 in
theorem read_set {form : List FK} {fs : List FP} {ra : Option Addr} {rc : Nat} {a : Option Addr} {n c : Nat} {deep : Int} {bs : Txt} {er : (Rw FileT) → (Rw FileT)} {ow : (Rw FileT) → List HP} {cnt : (Rw FileT) → Nat} {upd : (Rw FileT) → Nat → Got → Except Nat (Rw FileT)}
  (hfs : Rd B R ra fs.length rc 5 (fs.flatMap FP.cells)) (hlen : fs.length = form.length) (hlm : fs.length ≤ 100) (hnum : ∀ i f, fs[i]? = some f → f.num = ((i + 1 : Nat) : Int) ∧ f.kind = (form.getD i .t).kind ∧ f.lst = (form.getD i .t).list)
  (hfun : ∀ f ∈ fs, ∃ gb, al T.funs f.fg = some gb) (hget : ∀ i f, fs[i]? = some f → GetC B R 98 f (form.getD i .t) (i + 1) sCells er ow cnt bs a n c deep upd) (hd0 : 0 ≤ deep) (hd1 : deep ≤ 1000)
  (hR : Rd B R a n c 1 (ints .u8 bs)) (hb : Bytes bs) (h3 : n ≤ 16777216) (hc0 : cnt rw0 = 0) (hbag : ∀ H w, Sat B H w → Sat B (Bag (ow rw0) :: H) w) :
  RdrC B R 32 (.slice ra fs.length rc) deep a n c sCells er ow (fun q t => readR form bs upd q t (er rw0)) := by
 intro R' hM p' q t h1 h2
 refine SpP.body Tryz.func32 rfl Tryz.ntmps32 (by simp) ?_
 simp only [argE, List.cons_append, List.nil_append, Nat.zero_add, Nat.reduceAdd]
 repeat' (first|refine gL ?_|(refine gb ?_;intro b)|fail)
 rename_i b6 b7
 revert b
 intro bi
 refine CT.loop (α := RdS (Rw FileT)) (fun s => [(0, .slice ra fs.length rc), (1, ptr p'), (2, .int .i64 deep), (6, ptr b6), (7, ptr b7), (8, .int .i32 s.last), (9, ptr bi)])
  (fun s => Pu (s.p ≤ t ∧ cnt s.x ≤ s.p ∧ s.last ≤ 100 ∧ ∃ k, t - s.p < k ∧ recL form bs upd k s.p t s.last (er s.x) = readR form bs upd q t (er rw0)) :: rdo p' a n c s.p t :: Cs bi 313 [ptr p', .int .i64 s.at_, .int .i64 deep] :: Cs b7 98 (sCells s.x) :: Bag (ow s.x) :: Cs b6 98 (sCells rw0) :: R') (fun s => t - s.p) ⟨q, 0, 0, rw0⟩
  ⟨rfl, rfl, rfl, rfl, rfl, rfl, rfl, trivial⟩ (fun w h => Sat.pu_in ⟨h1, by show cnt rw0 ≤ q; omega, Nat.zero_le _, t - q + 1, by show t - q < t - q + 1; omega, rfl⟩ ((hbag _ w h).frd (Ps := [_, _, _, _, _]) (Qs := []) fR_)) (fun s => CT.pu fun ⟨hpt, hcn, hla, k, hk, hrec⟩ => ?_)
 obtain ⟨p, last, at0, x⟩ := s
 simp only at hpt hcn hla hk hrec ⊢
 try refine gL ?_
 (refine RT.call T rfl fR_ (left_o hpt (by omega)) rfl rfl rfl ?_; rintro _ _ ⟨rfl, rfl⟩; try simp only [List.cons_append, List.nil_append])
 repeat' (first|refine gL ?_|(refine gv ?_;(refine⟨fun hc=>?_,fun hc=>?_⟩<;>first|(exfalso;omega)|skip))|fail)
 rotate_left
 ·have hpt2 : p = t := by omega
  match k, hk, hrec with
  | k + 1, _, hrec =>
   unfold recL at hrec
   rw [if_neg (by omega)] at hrec
   try refine gM ?_
   refine AtQ.finPA (l := sCells x) (H' := [Bag (ow x)]) (b := b6) (e := 98) T Tryz.results32 rfl rfl rfl sE_ ?_ (fun w h => h.frd (Ps := [_]) (Qs := [_, _, _, _]) fR_) (by first | exact .inl rfl | exact .inr rfl)
   exact ⟨x, hrec.symm, rfl, rfl⟩
 have hplt : p < t := by omega
 have hok : RS.ok n ⟨p, t, 0, 0⟩ := ⟨hpt, h2, Nat.zero_le _⟩
 have hbl := hR.lenI
 have hR' := hM _ _ _ _ _ hR
 have hfs' := hM _ _ _ _ _ hfs
 (refine RT.call T rfl fR_ (at_fn) rfl rfl rfl ?_; rintro _ _ ⟨rfl, rfl⟩; try simp only [List.cons_append, List.nil_append])
 try refine gL ?_
 (refine RT.call T rfl fR_ (rtag_fn (rD (hR')) hb hok (by omega)) rfl rfl rfl ?_; rintro _ _ ⟨rfl, rfl⟩; try simp only [List.cons_append, List.nil_append])
 rcases tag_cases form bs p t last with ⟨v, kk, hv, hv1, hv2, hv3, htag⟩ | ⟨he, htn⟩
 rotate_left
 ·generalize RS.tag bs ⟨p, t, 0, 0⟩ = tg at he ⊢
  obtain ⟨⟨n1, k1⟩, s2⟩ := tg
  simp only at he ⊢
  try refine gL ?_
  (refine RT.call T rfl fR_ (err_fn) rfl rfl rfl ?_; rintro _ _ ⟨rfl, rfl⟩; try simp only [List.cons_append, List.nil_append])
  try refine gQ ?_
  have hres : readR form bs upd q t (er rw0) = .error p := by
   match k, hk, hrec with
   | k + 1, _, hrec =>
    unfold recL at hrec
    rw [if_pos hplt] at hrec
    unfold gotL at hrec
    rw [htn] at hrec
    exact hrec.symm
  refine CT.drawnP (Cs bi 313 [ptr p', .int .i64 p, .int .i64 deep] :: R') 20 mixed ?_
  refine DTP.tk (k := 6) [0, 1, 2, 3, 4, 6, 7, 8, 9, 11, 12, 13, 14, 15, 16] [5, 10, 17, 18, 19, 20] ?_
  repeat' (first|refine gL ?_|(refine gv ?_;(refine⟨fun hc=>?_,fun hc=>?_⟩<;>first|(exfalso;omega)|skip))|fail)
  refine AtQ.takeP ?_
  refine DTP.ef 5 ?_
  try refine gL ?_
  refine AtQ.ep ?_
  refine DTP.tk (k := 4) [10] [17, 18, 19, 20] ?_
  try refine gL ?_
  refine AtQ.takeP ?_
  refine DTP.ef 17 ?_
  try refine gL ?_
  refine AtQ.ep ?_
  refine DTP.tk (k := 1) [18, 19] [20] ?_
  try refine gL ?_
  refine AtQ.takeP ?_
  refine DTP.ef 20 ?_
  refine RT.callP T rfl fR_ (need_f (pd := bi) (pr := p') (at_ := p) (deep := deep) (Cs.rd (l := [ptr p', .int .i64 p, .int .i64 deep]) sE_)) rfl rfl rfl (fun v H1 hp => ?_) (fun v H1 hp => ?_)
  ·obtain ⟨rfl, rfl⟩ := hp
   ((repeat refine nx ?_); exact AtQ.finP (H' := []) ⟨p, hres, rfl, rfl⟩ dR_)
  ·exact hp.elim
 rw [htag]
 have hvs := RS.varint_spec (s := ⟨p, t, 0, 0⟩) hok hbl hb
 rw [varint_eq hv] at hvs
 obtain ⟨⟨r1, _, _⟩, _, r3, r4, _, r5⟩ := hvs
 simp only at r1 r3 r4 r5
 have r6 := (r5 trivial).2
 have hsv := shortV_eq hv
 have hel := (enc_len r4).2.1
 have henc := r4
 obtain ⟨v0, v1⟩ := r4
 try refine gL ?_
 (refine RT.call T rfl fR_ (err_fn) rfl rfl rfl ?_; rintro _ _ ⟨rfl, rfl⟩; try simp only [List.cons_append, List.nil_append])
 try refine gQ ?_
 refine CT.drawnP (Cs bi 313 [ptr p', .int .i64 p, .int .i64 deep] :: R') 20 mixed ?_
 refine DTP.tk (k := 6) [0, 1, 2, 3, 4, 6, 7, 8, 9, 11, 12, 13, 14, 15, 16] [5, 10, 17, 18, 19, 20] ?_
 repeat' (first|refine gL ?_|(refine gv ?_;first|(refine⟨fun hc=>?_,fun hc=>?_⟩<;>first|(exfalso;omega)|skip)|refine gk ?_)|fail)
 refine RT.ar rfl rfl (y_shl rfl rfl (by omega) (shl3 (by omega) (by omega))) rfl rfl ?_
 repeat' (first|refine gL ?_|(refine gv ?_;refine gk ?_)|fail)
 refine RT.ar rfl rfl (y_or rfl rfl (or_tag (by omega) (by omega) (by omega) (by omega))) rfl rfl ?_
 rw [show v / 8 * 8 + v % 8 = v by omega]
 try refine gL ?_
 refine AtQ.takeP ?_
 refine DTP.ef 5 ?_
 (refine RT.call T rfl fR_ (at_fn) rfl rfl rfl ?_; rintro _ _ ⟨rfl, rfl⟩; try simp only [List.cons_append, List.nil_append])
 try refine gL ?_
 refine AtQ.ep ?_
 refine DTP.tk (k := 4) [10] [17, 18, 19, 20] ?_
 repeat' (first|refine gL ?_|(refine gv ?_;refine gk ?_)|fail)
 refine AtQ.takeP ?_
 refine DTP.ef 17 ?_
 (refine RT.call T rfl fR_ (size_fn henc) rfl rfl rfl ?_; rintro _ _ ⟨rfl, rfl⟩; try simp only [List.cons_append, List.nil_append])
 try refine gL ?_
 refine AtQ.ep ?_
 refine DTP.tk (k := 1) [18, 19] [20] ?_
 repeat' (first|refine gL ?_|(refine gv ?_;(refine⟨fun hc=>?_,fun hc=>?_⟩<;>first|(exfalso;omega)|skip))|fail)
 rotate_left
 ·have hres : readR form bs upd q t (er rw0) = .error p := by
   match k, hk, hrec with
   | k + 1, _, hrec =>
    unfold recL at hrec
    rw [if_pos hplt] at hrec
    unfold gotL tagL at hrec
    rw [hsv, if_neg (by omega)] at hrec
    exact hrec.symm
  refine AtQ.takeP ?_
  refine DTP.ef 20 ?_
  refine RT.callP T rfl fR_ (need_f (pd := bi) (pr := p') (at_ := p) (deep := deep) (Cs.rd (l := [ptr p', .int .i64 p, .int .i64 deep]) sE_)) rfl rfl rfl (fun v H1 hp => ?_) (fun v H1 hp => ?_)
  ·obtain ⟨rfl, rfl⟩ := hp
   ((repeat refine nx ?_); exact AtQ.finP (H' := []) ⟨p, hres, rfl, rfl⟩ dR_)
  ·exact hp.elim
 refine AtQ.takeP ?_
 refine DTP.ef 20 ?_
 (refine RT.call T rfl fR_ (need_t) rfl rfl rfl ?_; rintro _ _ ⟨rfl, rfl⟩; try simp only [List.cons_append, List.nil_append])
 try refine gL ?_
 refine AtQ.eq ?_
 refine DTP.dn ?_
 rw [if_pos (by omega)] at hsv
 have hfl := findL_num (fun i f hf => (hnum i f hf).1) (v / 8)
 try refine gL ?_
 (refine RT.qcall T rfl (QSp.of fR_ (find_set (fs := fs) (num := v / 8) (rD (hfs')) (by omega))) rfl rfl rfl ?_)
 by_cases hin : 1 ≤ v / 8 ∧ v / 8 ≤ fs.length
 rotate_left
 ·rw [if_neg hin] at hfl
  rw [hfl]
  have hres : readR form bs upd q t (er rw0) = .error p := by
   match k, hk, hrec with
   | k + 1, _, hrec =>
    unfold recL at hrec
    rw [if_pos hplt] at hrec
    unfold gotL tagL at hrec
    rw [hsv] at hrec
    simp only at hrec
    rw [if_neg (by omega)] at hrec
    exact hrec.symm
  unfold findV
  repeat' (first|refine gM ?_|(refine gb ?_;intro b)|fail)
  refine RT.callP T rfl fR_ (need_f (pd := bi) (pr := p') (at_ := p) (deep := deep) (Cs.rd (l := [ptr p', .int .i64 p, .int .i64 deep]) sE_)) rfl rfl rfl (fun v H1 hp => ?_) (fun v H1 hp => ?_)
  ·obtain ⟨rfl, rfl⟩ := hp
   ((repeat refine nx ?_); exact AtQ.finP (H' := []) ⟨p, hres, rfl, rfl⟩ dR_)
  ·exact hp.elim
 rw [if_pos hin] at hfl
 have hi : (v / 8 - 1).toNat < fs.length := by omega
 obtain ⟨fe, hfe⟩ : ∃ fe, fs[(v / 8 - 1).toNat]? = some fe := ⟨_, List.getElem?_eq_getElem hi⟩
 rw [hfe] at hfl
 rw [hfl]
 obtain ⟨g1, g2, g3⟩ := hnum _ _ hfe
 obtain ⟨fnum, fkind, flst, ffp, fcp, ffg, fcg⟩ := fe
 rw [show findV (some (⟨fnum, fkind, flst, ffp, fcp, ffg, fcg⟩ : FP)) = .tuple #[.agg #[.int .i32 fnum, .int .u8 fkind, .bool flst, .func (.func ffp) #[] fcp.toArray, .func (.func ffg) #[] fcg.toArray], .bool true] from rfl]
 simp only at g1 g2 g3
 have hidx : (v / 8).toNat - 1 = (v / 8 - 1).toNat := by omega
 have hbad : ¬ ((last < (v / 8).toNat ∨ last = (v / 8).toNat ∧ flst = true) ∧ v % 8 = fkind) → readR form bs upd q t (er rw0) = .error p := fun hno => by
  match k, hk, hrec with
  | k + 1, _, hrec =>
   unfold recL at hrec
   rw [if_pos hplt, gotL_none hsv (fun ⟨_, _, _, h4, h5⟩ => hno ⟨by rw [hidx, ← g3] at h4; exact h4, by rw [hidx, ← g2] at h5; exact h5⟩)] at hrec
   exact hrec.symm
 have hcase : v / 8 < last ∨ (v / 8 = last ∧ flst = false) ∨ (last < v / 8 ∧ v % 8 ≠ fkind) ∨ (v / 8 = last ∧ flst = true ∧ v % 8 ≠ fkind) ∨ (last < v / 8 ∧ v % 8 = fkind) ∨ (v / 8 = last ∧ flst = true ∧ v % 8 = fkind) := by
  cases flst <;> simp only [Bool.false_eq_true, true_and, false_and, and_true, and_false, or_false, false_or, reduceCtorEq] <;> omega
 have hn8 : (((v / 8).toNat : Nat) : Int) = v / 8 := Int.toNat_of_nonneg (by omega)
 rcases hcase with hb1 | ⟨hb1, rfl⟩ | ⟨hb1, hb2⟩ | ⟨hb1, rfl, hb2⟩ | hgood
 iterate 4 (
  focus (
   have hres := hbad (fun h => by rcases h with ⟨h1 | ⟨h1, h2⟩, h3⟩ <;> first | omega | exact absurd h2 (by decide) | exact absurd h3 hb2)
   repeat' (first|refine gM ?_|(refine gv ?_;(refine⟨fun hc=>?_,fun hc=>?_⟩<;>first|(exfalso;omega)|skip))|(refine gb ?_;intro b)|fail)
   refine RT.callP T rfl fR_ (need_f (pd := bi) (pr := p') (at_ := p) (deep := deep) (Cs.rd (l := [ptr p', .int .i64 p, .int .i64 deep]) sE_)) rfl rfl rfl (fun v H1 hp => ?_) (fun v H1 hp => ?_)
   ·obtain ⟨rfl, rfl⟩ := hp
    ((repeat refine nx ?_); exact AtQ.finP (H' := []) ⟨p, hres, rfl, rfl⟩ dR_)
   ·exact hp.elim))
 have hgood2 : (last < (v / 8).toNat ∨ last = (v / 8).toNat ∧ flst = true) ∧ v % 8 = fkind := by
  rcases hgood with ⟨h1, h2⟩ | ⟨h1, h2, h3⟩
  ·exact ⟨.inl (by omega), h2⟩
  ·exact ⟨.inr ⟨by omega, h2⟩, h3⟩
 have hgot := gotL_yes hsv (form := form) (last := last) (by rw [hidx, ← g3, ← g2]; exact ⟨hv1, by omega, by omega, hgood2⟩)
 rw [hidx] at hgot
 have hget1 := hget _ _ hfe
 obtain ⟨gbf, hfg⟩ := hfun _ (List.mem_of_getElem? hfe)
 rcases hgood with ⟨hb1, hb2⟩ | ⟨hb1, rfl, hb2⟩
 all_goals (
  repeat' (first|refine gM ?_|(refine gv ?_;(refine⟨fun hc=>?_,fun hc=>?_⟩<;>first|(exfalso;omega)|skip))|(refine gb ?_;intro b)|fail)
  (refine RT.call T rfl fR_ (need_t) rfl rfl rfl ?_; rintro _ _ ⟨rfl, rfl⟩; try simp only [List.cons_append, List.nil_append])
  try refine gM ?_
  refine RT.callCP T (caps := fcg) rfl rfl fR_ (hget1 _ (fun _ _ _ _ _ h => (rD ((hM _ _ _ _ _ h)))) bi b7 p' (p + kk) t p x (by omega) h2 (by omega) (Cs.rd (l := [ptr p', .int .i64 p, .int .i64 deep]) sE_)) (hfg) rfl rfl (fun v9 H1 hp => ?_) (fun v9 H1 hp => ?_)
  ·obtain ⟨pl, rfl, rfl, hp⟩ := hp
   have hres : readR form bs upd q t (er rw0) = .error pl := by
    match k, hk, hrec with
    | k + 1, _, hrec =>
     unfold recL at hrec
     rw [if_pos hplt, hgot] at hrec
     rcases hp with ⟨hc1, rfl⟩ | ⟨m, q9, t9, hc1, hu⟩
     ·rw [hc1] at hrec
      exact hrec.symm
     ·rw [hc1] at hrec
      simp only [show (v / 8).toNat = (v / 8 - 1).toNat + 1 by omega, hu] at hrec
      exact hrec.symm
   ((repeat refine nx ?_); exact AtQ.finP (H' := []) ⟨pl, hres, rfl, rfl⟩ dR_)
  obtain ⟨m, q9, t9, x9, hc1, ht1, ht2, ht3, hn9, hu, rfl⟩ := hp
  simp only [List.cons_append, List.nil_append]
  try refine gM ?_
  match k, hk, hrec with
  | k + 1, hk, hrec =>
   unfold recL at hrec
   rw [if_pos hplt, hgot, hc1] at hrec
   have e8 : (v / 8).toNat = (v / 8 - 1).toNat + 1 := by omega
   simp only [e8, hu] at hrec
   refine AtQ.loop ⟨t9, (v / 8).toNat, p, x9⟩ ⟨rfl, rfl, rfl, rfl, rfl, (by rw [hn8]; rfl), rfl, trivial⟩ (fun w h => Sat.pu_in ⟨ht1, hn9, (show (v / 8).toNat ≤ 100 by omega), k, by simp only; omega, by rw [e8]; exact hrec⟩ (h.frd (Ps := [_, _, _, _, _]) (Qs := [_]) fR_)) (by simp only; omega))
end Go.Proofs.YtclcnhfponjdaaaGreatDoor
end
section
namespace Go.Proofs.YtclcnhfponjdaaaGreatDoor
open Go.Sk
set_option maxRecDepth 100000
attribute [local irreducible] Cs Own Ex Pu Yld RT LJ QJ AtQ CT Rd QSp Sp FinQ Then LoopQ CutQ DT TakeQ EffQ
variable {B : World} {R : List HP}
end Go.Proofs.YtclcnhfponjdaaaGreatDoor
end
section
namespace Go.Proofs.YtclcnhfponjdaaaGreatDoor
open Go.Sk
set_option maxRecDepth 100000
attribute [local irreducible] Cs Own Ex Pu Yld RT LJ QJ AtQ CT Rd QSp Sp FinQ Then LoopQ CutQ DT TakeQ EffQ
variable {B : World}
end Go.Proofs.YtclcnhfponjdaaaGreatDoor
end
section
namespace Go.Proofs.YtclcnhfponjdaaaGreatDoor
open Go.Sk
set_option maxRecDepth 100000
attribute [local irreducible] Cs Own Ex Pu Yld RT LJ QJ AtQ CT Rd QSp Sp FinQ Then LoopQ CutQ DT TakeQ EffQ
variable {B : World} {R : List HP}
def fEr (f : FileT) : FileT := ⟨f.path, f.pack, barR f.imps, none, 0, f.msgs.map mEr, ⟨none, 0, f.enums.l.map EnumT.er⟩⟩
end Go.Proofs.YtclcnhfponjdaaaGreatDoor
end
