/- Merged: Z9, P25, Z10, J1, J2, J3, J4, J5, J6, F2, J7, D2, D3. -/
import Derived.Test.YtdemnhdoadjhhaaGreatDoorWC
import Derived.Test.YtdemnhdoadjhhaaGreatDoorWB
import Derived.Test.YtdemnhdoadjhhaaGreatDoorTb
import Derived.Test.YtdemnhdoadjhhaaGreatDoorSkA
import Derived.Test.YtdemnhdoadjhhaaGreatDoorSkB
import Derived.Test.YtdemnhdoadjhhaaGreatDoorWA
import Derived.Test.YtdemnhdoadjhhaaGreatDoorRows
import Derived.ProofKit
set_option linter.unusedVariables false
set_option linter.unusedSimpArgs false
section
namespace Go.Proofs.YtdemnhdoadjhhaaGreatDoor
open Go.Sk
set_option maxRecDepth 100000
attribute [local irreducible] Cs Own Ex Pu Yld RT LJ QJ AtQ CT Rd QSp Sp FinQ Then LoopQ CutQ DT TakeQ EffQ
variable {B : World} {R : List HP}
set_option maxHeartbeats 8000000 in
theorem symbols_fn {f : FileT} (hin : f.In (Rd B R)) (hok : f.Ok) (hsm : FSm f) :
  Sp B Tryz.prog 12 [.agg f.cells.toArray] R [] (fun v H' => ∃ (a : Option Addr) (c : Nat) (l : List SymT), v = .slice a l.length c ∧ l.length ≤ c ∧ l.Perm (symF f) ∧ Srt befB l ∧ H' = [Own a c 79 3 l.length (l.flatMap SymT.cells)]) := by
 have hsok := symF_ok hok
 have hsl := symF_len f
 obtain ⟨path, pack, ⟨ia, ic, il⟩, ma, mc, msgs, ⟨ea, ec, es⟩⟩ := f
 obtain ⟨_, rm, rm2, re, re2⟩ := hin
 obtain ⟨⟨pb, _⟩, ⟨kb, _⟩, _, ⟨⟨lm, _⟩, om⟩, ⟨⟨le, _⟩, oe⟩⟩ := hok
 obtain ⟨s1, s2, s3, s4, s5, hnm, hpk, hen, hful, hcnt⟩ := hsm
 dsimp only at rm rm2 re re2 pb kb lm om le oe s1 s2 s4 hnm hpk hen hful hcnt hsl
 generalize hL : symF ⟨path, pack, ⟨ia, ic, il⟩, ma, mc, msgs, ⟨ea, ec, es⟩⟩ = L at *
 unfold symF at hL
 dsimp only at hL
 dsimp only [FileT.cells, Rw.v]
 refine Sp.body Tryz.func12 rfl Tryz.ntmps12 (by simp) ?_
 simp only [argE, List.cons_append, List.nil_append, Nat.zero_add, Nat.reduceAdd]
 repeat' (first|refine gL ?_|(refine gb ?_;intro b)|fail)
 rename_i fb0
 revert b
 intro lb
 revert fb0
 intro fb
 refine RT.mkF rfl rfl rfl ?_
 repeat' (first|refine gL ?_|(refine gb ?_;intro b)|fail)
 revert b
 intro cb
 refine RT.mkF rfl rfl rfl ?_
 repeat' (first|refine gL ?_|(refine gb ?_;intro b)|fail)
 rename_i eb0
 revert b
 intro mb
 revert eb0
 intro eb
 refine RT.mkF rfl rfl rfl ?_
 try refine gL ?_
 refine CT.weak (fun w h => Sat.nilOwn (e := 79) (sz := 3) h) ?_
 refine CT.loop (α := Nat × Option Addr × Nat) (fun s => [(1, .pointer (some ⟨fb, 0, none⟩)), (3, ptr lb), (5, ptr eb), (6, ptr mb), (15, .slice ma msgs.length mc), (16, .int .i64 msgs.length), (17, .int .i64 s.1)])
  (fun s => Pu (s.1 ≤ msgs.length) :: (clo cb mb eb lb fb [vS path, vS pack, Value.slice ia il.length ic, Value.slice ma msgs.length mc, Value.slice ea es.length ec] s.2.1 s.2.2 (symMs path (msgs.take s.1) pack) ++ R)) (fun s => msgs.length - s.1) (0, none, 0)
  ⟨rfl, rfl, rfl, rfl, rfl, rfl, rfl, trivial⟩ (fun w h => Sat.pu_in (Nat.zero_le _) (by dsimp only; rw [List.take_zero, symMs]; exact h.frd (Ps := [_, _, _, _, _, _]) (Qs := []) fR_)) (fun ⟨i, a2, c2⟩ => CT.pu fun hil => ?_)
 dsimp only at hil ⊢
 simp only [List.cons_append, List.nil_append]
 repeat' (first|refine gL ?_|(refine gv ?_;(refine⟨fun hc=>?_,fun hc=>?_⟩<;>first|(exfalso;omega)|skip))|fail)
 ·have hi' : i < msgs.length := by omega
  have hgi := List.getElem?_eq_getElem hi'
  revert hgi
  generalize msgs[i] = m2
  intro hgi
  have hme2 := List.mem_of_getElem? hgi
  have hcn := sum_snoc (f := cntM) hgi
  rw [← cntMs_eq, ← cntMs_eq] at hcn
  refine RT.ix T (j := i * 7) rfl rfl rfl (rD (rm)) (by omega) (by omega) (by omega) rfl rfl ?_
  refine RT.ldra T rfl (rD (rm)) (l := m2.cells) (flat_sub (f := MsgT.cells) (z := 7) (fun _ => rfl) msgs i _ hgi) rfl rfl rfl rfl ?_
  repeat' (first|refine gM ?_|(refine gb ?_;intro b)|fail)
  refine RT.callC T (caps := [ptr cb, ptr mb, ptr eb]) rfl rfl fR_ (cmsg_fn m2.deep (pb := cb) (mb := mb) (eb := eb) (lb := lb) (fb := fb) (path := path) (a := a2) (c := c2) (l := symMs path (msgs.take i) pack) (m := m2) (sc := pack) (Nat.le_refl _) (MsgT.In.mono (fun _ _ _ _ _ h => (rD (h))) (rm2 m2 hme2)) (om m2 hme2) (MsgT.nmL_mem hnm hme2) (MsgT.fulL_mem hful hme2) kb (by omega) (by rw [symMs_len]; omega)) rfl rfl rfl ?_
  rintro _ _ ⟨rfl, a3, c3, rfl⟩
  simp only [List.cons_append, List.nil_append]
  repeat' (first|refine gL ?_|(refine gv ?_;refine gk ?_)|fail)
  refine AtQ.loop (i + 1, a3, c3) ⟨rfl, rfl, rfl, rfl, rfl, rfl, rfl, trivial⟩ (fun w h => Sat.pu_in (by dsimp only; omega) ?_) (by dsimp only; omega)
  dsimp only
  rw [← symMs_snoc hgi]
  exact h.frd (Ps := [_, _, _, _, _, _]) (Qs := [_]) fR_
 rw [List.take_of_length_le (by omega)]
 clear hil rm rm2
 generalize hL3 : symMs path msgs pack = L3 at *
 have hl3 : L3.length = cntMs msgs := by rw [← hL3, symMs_len]
 refine CT.loop (α := Nat × Option Addr × Nat) (fun s => [(1, .pointer (some ⟨fb, 0, none⟩)), (3, ptr lb), (5, ptr eb), (28, .slice ea es.length ec), (29, .int .i64 es.length), (30, .int .i64 s.1)])
  (fun s => Pu (s.1 ≤ es.length) :: (clo cb mb eb lb fb [vS path, vS pack, Value.slice ia il.length ic, Value.slice ma msgs.length mc, Value.slice ea es.length ec] s.2.1 s.2.2 (L3 ++ (es.take s.1).flatMap (symE path pack)) ++ R)) (fun s => es.length - s.1) (0, a2, c2)
  ⟨rfl, rfl, rfl, rfl, rfl, rfl, trivial⟩ (fun w h => Sat.pu_in (Nat.zero_le _) (by dsimp only; rw [List.take_zero, List.flatMap_nil, List.append_nil]; exact h)) (fun ⟨i, a2, c2⟩ => CT.pu fun hil => ?_)
 dsimp only at hil ⊢
 simp only [List.cons_append, List.nil_append]
 repeat' (first|refine gL ?_|(refine gv ?_;(refine⟨fun hc=>?_,fun hc=>?_⟩<;>first|(exfalso;omega)|skip))|fail)
 ·have hi' : i < es.length := by omega
  have hgi := List.getElem?_eq_getElem hi'
  revert hgi
  generalize es[i] = e2
  intro hgi
  have hme2 := List.mem_of_getElem? hgi
  have hcn := sum_snoc (f := cntE) hgi
  refine RT.ix T (j := i * 5) rfl rfl rfl (rD (re)) (by omega) (by omega) (by omega) rfl rfl ?_
  refine RT.ldra T rfl (rD (re)) (l := e2.cells) (flat_sub (f := EnumT.cells) (z := 5) (fun _ => rfl) es i _ hgi) rfl rfl rfl rfl ?_
  repeat' (first|refine gM ?_|(refine gb ?_;intro b)|fail)
  refine RT.callC T (caps := [ptr cb]) rfl rfl fR_ (cenum_fn (pb := cb) (lb := lb) (fb := fb) (path := path) (a := a2) (c := c2) (l := L3 ++ (es.take i).flatMap (symE path pack)) (e := e2) (sc := pack) (EnumT.In.mono (fun _ _ _ _ _ h => (rD (h))) (re2 e2 hme2)) (oe e2 hme2) (hen e2 hme2) kb hpk (by rw [List.length_append, symEs_len]; omega)) rfl rfl rfl ?_
  rintro _ _ ⟨rfl, a3, c3, rfl⟩
  simp only [List.cons_append, List.nil_append]
  repeat' (first|refine gL ?_|(refine gv ?_;refine gk ?_)|fail)
  refine AtQ.loop (i + 1, a3, c3) ⟨rfl, rfl, rfl, rfl, rfl, rfl, trivial⟩ (fun w h => Sat.pu_in (by dsimp only; omega) ?_) (by dsimp only; omega)
  dsimp only
  rw [← flat_snoc hgi, ← List.append_assoc]
  exact h.frd (Ps := [_, _, _, _, _, _]) (Qs := [_]) fR_
 rw [List.take_of_length_le (by omega), hL]
 refine RT.fact (p := L.length ≤ c2) (fun w h => (Own.facts h sE_).2.1) fun hLc => ?_
 refine RT.call T rfl fR_ (sort_fn (a := a2) (c := c2) (N := L.length) (D := L) rfl hLc (by omega) hsok) rfl rfl rfl ?_
 rintro _ _ ⟨rfl, D', p1, p2, rfl⟩
 simp only [List.cons_append, List.nil_append]
 try refine gL ?_
 refine AtQ.fin1 Tryz.results12 (H' := [Own a2 c2 79 3 D'.length (D'.flatMap SymT.cells)]) rfl ⟨a2, c2, D', by rw [p1.length_eq], by rw [p1.length_eq]; exact hLc, p1, p2, rfl⟩ (fun w h => ?_)
 rw [p1.length_eq]
 exact h.frd (Ps := [_]) (Qs := [_, _, _, _, _]) fR_
end Go.Proofs.YtdemnhdoadjhhaaGreatDoor
end
section
namespace Go.Proofs.YtdemnhdoadjhhaaGreatDoor
open Go.Sk
theorem partsF_app : ∀ (a b cur : List Int), partsF (a ++ 46 :: b) cur = partsF a cur ++ partsF b []
 | [], b, cur => by simp [partsF]
 | c :: r, b, cur => by
  rw [List.cons_append, partsF_cons, partsF_cons]
  split
  ·rw [partsF_app r b, List.cons_append]
  ·rw [partsF_app r b]
theorem partsF_no : ∀ (b cur : List Int), (∀ x ∈ b, x ≠ 46) → partsF b cur = [cur ++ b]
 | [], cur, _ => by simp [partsF]
 | c :: r, cur, h => by
  rw [partsF_cons, if_neg (h c (by simp)), partsF_no r _ (fun x hx => h x (by simp [hx]))]
  simp
theorem parts_all {l : List Int} : (∀ j, j < (partsL l).length → identP ((partsL l).getD j [])) ↔ ∀ p ∈ partsL l, identP p := by
 constructor
 ·intro h p hp
  obtain ⟨j, hj, e⟩ := List.mem_iff_getElem.1 hp
  have := h j hj
  rw [List.getD_eq_getElem?_getD, List.getElem?_eq_getElem hj] at this
  rw [← e]; exact this
 ·intro h j hj
  rw [List.getD_eq_getElem?_getD, List.getElem?_eq_getElem hj]
  exact h _ (List.getElem_mem hj)
theorem fullP_of {l : Txt} (h : fullB l = true) : fullP l := by
 by_cases hp : fullP l
 ·exact hp
 ·rw [fullB_f hp] at h; cases h
theorem identP_of {l : Txt} (h : identB l = true) : identP l := by
 rcases identB_cases l with ⟨_, h2⟩ | ⟨h1, _⟩
 ·exact h2
 ·rw [h] at h1; cases h1
theorem ident_dot {l : Txt} (h : identP l) : ∀ x ∈ l, x ≠ 46 := fun x hx e => by
 obtain ⟨j, hj, he⟩ := List.mem_iff_getElem.1 hx
 have h2 := h.2.2.2 j hj
 rw [List.getD_eq_getElem?_getD, List.getElem?_eq_getElem hj, Option.getD_some, he, e] at h2
 revert h2
 unfold okC isDig
 decide
theorem full_j {sc nm : Txt} (hs : sc = [] ∨ fullB sc = true) (hi : identB nm = true) (hl : (joinL [sc, nm]).length ≤ 255) : fullB (joinL [sc, nm]) = true := by
 have hp := identP_of hi
 have hne : nm ≠ [] := fun e => by
  have := hp.1
  rw [e] at this
  simp at this
 refine fullB_t ⟨hl, parts_all.2 fun p hpp => ?_⟩
 rw [J_def] at hpp
 by_cases h : sc = []
 ·rw [if_pos h] at hpp
  unfold partsL at hpp
  rw [partsF_no _ _ (ident_dot hp), List.nil_append, List.mem_singleton] at hpp
  rw [hpp]; exact hp
 ·rw [if_neg h, if_neg hne] at hpp
  unfold partsL at hpp
  rw [partsF_app, partsF_no nm _ (ident_dot hp), List.nil_append] at hpp
  rcases List.mem_append.1 hpp with hpp | hpp
  ·have hf := (fullP_of (hs.resolve_left h)).2
   exact parts_all.1 hf p hpp
  ·rw [List.mem_singleton.1 hpp]; exact hp
/-- What is given is put behind, stays unlike, and is full names. -/
def EX (L : List Txt) (F : List Txt → Rs) : Prop := ∀ g h, F g = .ok h → h = g ++ L ∧ (g.Nodup → h.Nodup) ∧ ∀ y ∈ L, fullB y = true
theorem EX.ok : EX [] .ok := fun g h e => by cases e; exact ⟨by simp, fun h => h, fun y hy => by cases hy⟩
section
variable {L L' : List Txt}
theorem EX.must {b : Bool} {e : Int} {t' : Txt} {K : List Txt → Rs} (h : EX L K) : EX L (fun g => must b e t' (K g)) := fun g h' eq => by
 cases b
 ·cases eq
 ·exact h g h' eq
theorem EX.opt {o : Option Flt} {K : List Txt → Rs} (h : EX L K) : EX L (fun g => opt o (K g)) := fun g h' eq => by
 cases o with
 | none => exact h g h' eq
 | some x => cases eq
theorem EX.bnd {F K : List Txt → Rs} (hF : EX L F) (hK : EX L' K) : EX (L ++ L') (fun g => bnd (F g) K) := fun g h eq => by
 dsimp only at eq
 cases e1 : F g with
 | error x => rw [e1] at eq; cases eq
 | ok g1 =>
  rw [e1, bnd_ok] at eq
  obtain ⟨a1, a2, a3⟩ := hF g g1 e1
  obtain ⟨b1, b2, b3⟩ := hK g1 h eq
  exact ⟨by rw [b1, a1, List.append_assoc], fun hn => b2 (a2 hn), fun y hy => (List.mem_append.1 hy).elim (a3 y) (b3 y)⟩
theorem EX.give {nm sc : Txt} {K : List Txt → Rs} (hs : sc = [] ∨ fullB sc = true) (hK : fullB (joinL [sc, nm]) = true → EX L K) : EX (joinL [sc, nm] :: L) (fun g => Go.Proofs.YtdemnhdoadjhhaaGreatDoor.bnd (giveR nm (joinL [sc, nm]) g) K) := fun g h eq => by
 dsimp only at eq
 cases e1 : giveR nm (joinL [sc, nm]) g with
 | error x => rw [e1] at eq; cases eq
 | ok g1 =>
  rw [e1, bnd_ok] at eq
  obtain ⟨h1, h2, h3, rfl⟩ := give_ok e1
  have hf := full_j hs h1 h2
  obtain ⟨b1, b2, b3⟩ := hK hf _ h eq
  refine ⟨by rw [b1]; simp, fun hn => b2 ?_, fun y hy => (List.mem_cons.1 hy).elim (fun e => by rw [e]; exact hf) (b3 y)⟩
  refine List.nodup_append.2 ⟨hn, by simp, fun a ha b hb e => h3 ?_⟩
  rw [List.mem_singleton] at hb
  rw [← hb, ← e]; exact ha
end
theorem ex_field {names : List Txt} {res : List SpanT} {no : Nat} {full : Txt} {ah : List FieldT} {f : FieldT} (hs : full = [] ∨ fullB full = true) : EX [joinL [full, f.nm]] (fieldR names res no full ah f) := by
 unfold fieldR fieldR7 fieldR8 fieldR11 fieldR14 fieldR15 fieldR16 fieldR17
 refine EX.give hs fun _ => ?_
 repeat (first | exact EX.ok | refine EX.must ?_)
theorem ex_fields {names : List Txt} {res : List SpanT} {no : Nat} {full : Txt} (hs : full = [] ∨ fullB full = true) : ∀ {l ah : List FieldT}, EX (l.map fun f => joinL [full, f.nm]) (fieldsR names res no full ah l)
 | [], ah => by cases ah <;> exact EX.ok
 | f :: l, ah => by
  have e : fieldsR names res no full ah (f :: l) = fun g => bnd (fieldR names res no full ah f g) (fieldsR names res no full (ah ++ [f]) l) := by funext g; rw [fieldsR]
  rw [e]
  exact EX.bnd (ex_field hs) (ex_fields hs)
theorem ex_oneofs {fields : List FieldT} {full : Txt} (hs : full = [] ∨ fullB full = true) : ∀ {l : List Txt} {i : Nat}, EX (l.map fun o => joinL [full, o]) (oneofsR fields full i l)
 | [], i => EX.ok
 | o :: l, i => by
  have e : oneofsR fields full i (o :: l) = fun g => bnd (giveR o (joinL [full, o]) g) fun g => Go.Proofs.YtdemnhdoadjhhaaGreatDoor.must (decide (∃ f ∈ fields, f.oneof = (i : Int) + 1)) 64 (joinL [full, o]) (oneofsR fields full (i + 1) l g) := by funext g; rw [oneofsR]
  rw [e]
  exact EX.give hs fun _ => EX.must (ex_oneofs hs)
theorem ex_vals {names : List Txt} {res : List SpanT} {ali : Bool} {sc : Txt} (hs : sc = [] ∨ fullB sc = true) : ∀ {l ah : List EValT}, EX (l.map fun v => joinL [sc, v.nm]) (valsR names res ali sc ah l)
 | [], ah => by cases ah <;> exact EX.ok
 | v :: l, ah => by
  have e : valsR names res ali sc ah (v :: l) = fun g => bnd (giveR v.nm (joinL [sc, v.nm]) g) fun g => Go.Proofs.YtdemnhdoadjhhaaGreatDoor.must (decide (v.nm ∉ names) && !anyS res v.num) 63 (joinL [sc, v.nm]) (Go.Proofs.YtdemnhdoadjhhaaGreatDoor.must (ali || decide (∀ o ∈ ah, o.num ≠ v.num)) 66 (joinL [sc, v.nm]) (valsR names res ali sc (ah ++ [v]) l g)) := by funext g; rw [valsR]
  rw [e]
  exact EX.give hs fun _ => EX.must (EX.must (ex_vals hs))
abbrev fulls (l : List SymT) : List Txt := l.map SymT.full
theorem ex_enum {e : EnumT} {sc fl : Txt} (hs : sc = [] ∨ fullB sc = true) : EX (fulls (symE fl sc e)) (enumR e sc) := by
 have hl : fulls (symE fl sc e) = joinL [sc, e.nm] :: e.vals.l.map (fun v => joinL [sc, v.nm]) := by
  unfold symE fulls
  simp [Function.comp_def]
 rw [hl]
 unfold enumR
 exact EX.give hs fun _ => EX.must (EX.must (EX.opt (EX.opt (ex_vals hs))))
theorem ex_enums {sc fl : Txt} (hs : sc = [] ∨ fullB sc = true) : ∀ {l : List EnumT}, EX (fulls (l.flatMap (symE fl sc))) (enumsR sc l)
 | [] => EX.ok
 | e :: l => by
  have ee : enumsR sc (e :: l) = fun g => bnd (enumR e sc g) (enumsR sc l) := by funext g; rw [enumsR]
  rw [ee, List.flatMap_cons]
  unfold fulls
  rw [List.map_append]
  exact EX.bnd (ex_enum hs) (ex_enums hs)
mutual
theorem ex_msg {fl : Txt} : ∀ {m : MsgT} {sc : Txt} {deep : Nat}, (sc = [] ∨ fullB sc = true) → EX (fulls (symM fl m sc)) (msgR m sc deep)
 | .mk nm fields oneofs ma mc msgs enums res names, sc, deep, hs => by
  have ee : msgR (.mk nm fields oneofs ma mc msgs enums res names) sc deep = fun g =>
   bnd (giveR nm (joinL [sc, nm]) g) fun g =>
   Go.Proofs.YtdemnhdoadjhhaaGreatDoor.must (decide (deep < 16) && decide (fields.l.length ≤ 1000)) 68 (joinL [sc, nm]) <|
   Go.Proofs.YtdemnhdoadjhhaaGreatDoor.opt (spansF 1 536870911 (joinL [sc, nm]) [] res.l) <|
   Go.Proofs.YtdemnhdoadjhhaaGreatDoor.opt (namesF (joinL [sc, nm]) [] names.l) <|
   bnd (fieldsR names.l res.l oneofs.l.length (joinL [sc, nm]) [] fields.l g) fun g =>
   bnd (oneofsR fields.l (joinL [sc, nm]) 0 oneofs.l g) fun g =>
   bnd (msgsR msgs (joinL [sc, nm]) (deep + 1) g) fun g =>
   enumsR (joinL [sc, nm]) enums.l g := by funext g; rw [msgR]
  have hl : fulls (symM fl (.mk nm fields oneofs ma mc msgs enums res names) sc) = joinL [sc, nm] :: ((fields.l.map fun f => joinL [joinL [sc, nm], f.nm]) ++ ((oneofs.l.map fun o => joinL [joinL [sc, nm], o]) ++ (fulls (symMs fl msgs (joinL [sc, nm])) ++ fulls (enums.l.flatMap (symE fl (joinL [sc, nm])))))) := by
   unfold symM fulls
   simp [Function.comp_def]
  rw [ee, hl]
  exact EX.give hs fun hf => EX.must (EX.opt (EX.opt (EX.bnd (ex_fields (.inr hf)) (EX.bnd (ex_oneofs (.inr hf)) (EX.bnd (ex_msgs (.inr hf)) (ex_enums (.inr hf)))))))
theorem ex_msgs {fl : Txt} : ∀ {l : List MsgT} {sc : Txt} {deep : Nat}, (sc = [] ∨ fullB sc = true) → EX (fulls (symMs fl l sc)) (msgsR l sc deep)
 | [], sc, deep, _ => by
  have ee : msgsR [] sc deep = .ok := by funext g; rw [msgsR]
  rw [ee]; unfold symMs; exact EX.ok
 | m :: l, sc, deep, hs => by
  have ee : msgsR (m :: l) sc deep = fun g => bnd (msgR m sc deep g) fun g => msgsR l sc deep g := by funext g; rw [msgsR]
  have hl : fulls (symMs fl (m :: l) sc) = fulls (symM fl m sc) ++ fulls (symMs fl l sc) := by
   have e : symMs fl (m :: l) sc = symM fl m sc ++ symMs fl l sc := by rw [symMs]
   unfold fulls
   rw [e, List.map_append]
  rw [ee, hl]
  exact EX.bnd (ex_msg hs) (ex_msgs hs)
end
/-- The names of a file that is right. -/
theorem apart {f : FileT} (h : (checkL f).1 = 0) : (checkL f).2 = [] ∧ ((symF f).map SymT.full).Nodup ∧ ∀ s ∈ symF f, fullB s.full = true := by
 unfold checkL at h ⊢
 cases hr : fileR f with
 | error y =>
  rw [hr] at h
  obtain ⟨e, t⟩ := y
  exact absurd h (nz_file e t hr)
 | ok hh =>
  refine ⟨rfl, ?_⟩
  unfold fileR at hr
  cases c1 : pathB f.path
  ·rw [c1] at hr; cases hr
  cases c2 : (decide (f.pack = []) || fullB f.pack)
  ·rw [c1, c2, must_t rfl] at hr; cases hr
  cases c3 : decide (f.imps.l.length ≤ 256)
  ·rw [c1, c2, c3, must_t rfl, must_t rfl] at hr; cases hr
  rw [c1, c2, c3, must_t rfl, must_t rfl, must_t rfl] at hr
  cases c4 : impsF [] f.imps.l with
  | some x => rw [c4] at hr; cases hr
  | none =>
   rw [c4, opt_none] at hr
   have hs : f.pack = [] ∨ fullB f.pack = true := by
    rw [Bool.or_eq_true, decide_eq_true_eq] at c2
    exact c2
   have he : EX (fulls (symMs f.path f.msgs f.pack) ++ fulls (f.enums.l.flatMap (symE f.path f.pack))) (fun g => bnd (msgsR f.msgs f.pack 0 g) fun g => enumsR f.pack f.enums.l g) := EX.bnd (ex_msgs hs) (ex_enums hs)
   obtain ⟨e1, e2, e3⟩ := he [] hh hr
   rw [← List.map_append] at e1 e3
   rw [List.nil_append] at e1
   have e4 := e2 List.Pairwise.nil
   rw [e1] at e4
   exact ⟨e4, fun s hs => e3 _ (List.mem_map.2 ⟨s, hs, rfl⟩)⟩
end Go.Proofs.YtdemnhdoadjhhaaGreatDoor
end
section
namespace Go.Proofs.YtdemnhdoadjhhaaGreatDoor
open Go.Sk
set_option maxRecDepth 100000
theorem symE_file {fl sc : Txt} {e : EnumT} : ∀ s ∈ symE fl sc e, s.file = fl := fun s h => by
 unfold symE at h
 rcases List.mem_cons.1 h with rfl | h
 ·rfl
 ·obtain ⟨v, _, rfl⟩ := List.mem_map.1 h
  rfl
theorem symEs_file {fl sc : Txt} {l : List EnumT} : ∀ s ∈ l.flatMap (symE fl sc), s.file = fl := fun s h => by
 obtain ⟨e, _, h⟩ := List.mem_flatMap.1 h
 exact symE_file s h
mutual
theorem symM_file {fl : Txt} : ∀ {m : MsgT} {sc : Txt}, ∀ s ∈ symM fl m sc, s.file = fl
 | .mk nm fields oneofs ma mc msgs enums res names, sc, s, h => by
  unfold symM at h
  rcases List.mem_cons.1 h with rfl | h
  ·rfl
  rcases List.mem_append.1 h with h | h
  ·obtain ⟨v, _, rfl⟩ := List.mem_map.1 h
   rfl
  rcases List.mem_append.1 h with h | h
  ·obtain ⟨v, _, rfl⟩ := List.mem_map.1 h
   rfl
  rcases List.mem_append.1 h with h | h
  ·exact symMs_file s h
  ·exact symEs_file s h
theorem symMs_file {fl : Txt} : ∀ {l : List MsgT} {sc : Txt}, ∀ s ∈ symMs fl l sc, s.file = fl
 | [], sc, s, h => by unfold symMs at h; cases h
 | m :: l, sc, s, h => by
  unfold symMs at h
  rcases List.mem_append.1 h with h | h
  ·exact symM_file s h
  ·exact symMs_file s h
end
theorem symF_file {f : FileT} : ∀ s ∈ symF f, s.file = f.path := fun s h => by
 unfold symF at h
 rcases List.mem_append.1 h with h | h
 ·exact symMs_file s h
 ·exact symEs_file s h
attribute [local irreducible] Cs Own Ex Pu Yld RT LJ QJ AtQ CT Rd QSp Sp FinQ Then LoopQ CutQ DT TakeQ EffQ
variable {B : World} {R : List HP}
end Go.Proofs.YtdemnhdoadjhhaaGreatDoor
end
section
namespace Go.Proofs.YtdemnhdoadjhhaaGreatDoor
open Go.Sk
set_option maxRecDepth 100000
def markP (a b : Int) : Txt := [97 + a % 26, 97 + a / 26 % 26, 97 + a / 676 % 26, 97 + b % 26, 97 + b / 26 % 26]
def markT (a b : Int) : Txt := if a < 0 then [45] ++ markP (-a) b else markP a b
theorem markP_byt {a b : Int} : Byt (markP a b) := by
 intro x hx
 simp only [markP, List.mem_cons, List.not_mem_nil, or_false] at hx
 unfold isB
 omega
theorem same_sym (s : SymT) : sameS Tryz.prog 79 s.cells = true := by kernel_rfl
attribute [local irreducible] Cs Own Ex Pu Yld RT LJ QJ AtQ CT Rd QSp Sp FinQ Then LoopQ CutQ DT TakeQ EffQ
variable {B : World} {R : List HP}
set_option maxHeartbeats 1000000 in
theorem mark0_fn {a b : Int} (a0 : 0 ≤ a) (a1 : a ≤ 1000000000000) (b0 : 0 ≤ b) (b1 : b ≤ 1000000000000) :
  Sp B Tryz.prog 109 [.int .i64 a, .int .i64 b] R [] (fun v H' => v = vS (markP a b) ∧ H' = []) := by
 refine Sp.body Tryz.func109 rfl Tryz.ntmps109 (by simp) ?_
 simp only [argE, List.cons_append, List.nil_append, Nat.zero_add, Nat.reduceAdd]
 repeat' (first|refine gL ?_|(refine gv ?_;(refine⟨fun hc=>?_,fun hc=>?_⟩<;>first|(exfalso;omega)|skip))|fail)
 refine RT.rem rfl rfl (by omega) (r := a % 26) (Int.tmod_eq_emod_of_nonneg a0) rfl rfl ?_
 repeat' (first|refine gL ?_|(refine gv ?_;refine gk ?_)|fail)
 refine RT.quo rfl rfl (by omega) (r := a / 26) (by rw [Int.tdiv_eq_ediv_of_nonneg a0]; exact wr_i64 (by omega) (by omega)) rfl rfl ?_
 refine RT.rem rfl rfl (by omega) (r := a / 26 % 26) (Int.tmod_eq_emod_of_nonneg (by omega)) rfl rfl ?_
 repeat' (first|refine gL ?_|(refine gv ?_;refine gk ?_)|fail)
 refine RT.quo rfl rfl (by omega) (r := a / 676) (by rw [Int.tdiv_eq_ediv_of_nonneg a0]; exact wr_i64 (by omega) (by omega)) rfl rfl ?_
 refine RT.rem rfl rfl (by omega) (r := a / 676 % 26) (Int.tmod_eq_emod_of_nonneg (by omega)) rfl rfl ?_
 repeat' (first|refine gL ?_|(refine gv ?_;refine gk ?_)|fail)
 refine RT.rem rfl rfl (by omega) (r := b % 26) (Int.tmod_eq_emod_of_nonneg b0) rfl rfl ?_
 repeat' (first|refine gL ?_|(refine gv ?_;refine gk ?_)|fail)
 refine RT.quo rfl rfl (by omega) (r := b / 26) (by rw [Int.tdiv_eq_ediv_of_nonneg b0]; exact wr_i64 (by omega) (by omega)) rfl rfl ?_
 refine RT.rem rfl rfl (by omega) (r := b / 26 % 26) (Int.tmod_eq_emod_of_nonneg (by omega)) rfl rfl ?_
 repeat' (first|refine gL ?_|(refine gv ?_;refine gk ?_)|fail)
 refine RT.bs T (l := ints .u8 (markP a b)) rfl rfl rfl rfl rfl rfl rfl (fun b2 d2 hd2 => ?_)
 refine RT.convBS T rfl (Own.rdI sE_ rfl hd2) markP_byt Tryz.underlying162 Tryz.underlying5 rfl rfl rfl ?_
 try refine gL ?_
 exact AtQ.f1 (HH := []) Tryz.results109 rfl rfl dR_
theorem mark_fn {a b : Int} (a0 : -1000000000000 ≤ a) (a1 : a ≤ 1000000000000) (b0 : 0 ≤ b) (b1 : b ≤ 1000000000000) :
  Sp B Tryz.prog 109 [.int .i64 a, .int .i64 b] R [] (fun v H' => v = vS (markT a b) ∧ H' = []) := by
 unfold markT
 by_cases h : a < 0
 ·rw [if_pos h]
  refine Sp.body Tryz.func109 rfl Tryz.ntmps109 (by simp) ?_
  simp only [argE, List.cons_append, List.nil_append, Nat.zero_add, Nat.reduceAdd]
  repeat' (first|refine gL ?_|(refine gv ?_;(refine⟨fun hc=>?_,fun hc=>?_⟩<;>first|(exfalso;omega)|skip))|fail)
  refine RT.neg rfl (r := -a) (by rw [Int.zero_sub]; exact wr_i64 (by omega) (by omega)) rfl rfl ?_
  try refine gL ?_
  (refine RT.call T rfl fR_ (mark0_fn (a := -a) (b := b) (by omega) (by omega) b0 b1) rfl rfl rfl ?_; rintro _ _ ⟨rfl, rfl⟩; try simp only [List.cons_append, List.nil_append])
  refine RT.cats (l := [45]) rfl rfl (by simp [markP]) rfl rfl ?_
  try refine gL ?_
  exact AtQ.f1 (HH := []) Tryz.results109 rfl rfl dR_
 ·rw [if_neg h]
  exact mark0_fn (by omega) a1 b0 b1
theorem sameSym_fn {a a' : Option Addr} {c c' : Nat} {l : List SymT} (hR : Rd B R a l.length c 3 (l.flatMap SymT.cells)) (hR' : Rd B R a' l.length c' 3 (l.flatMap SymT.cells)) (hl : l.length ≤ 1073741824) :
  Sp B Tryz.prog 17 [.slice a l.length c, .slice a' l.length c'] R [] (fun v H' => v = .bool true ∧ H' = []) := by
 refine Sp.body Tryz.func17 rfl Tryz.ntmps17 (by simp) ?_
 simp only [argE, List.cons_append, List.nil_append, Nat.zero_add, Nat.reduceAdd]
 repeat' (first|refine gL ?_|(refine gv ?_;(refine⟨fun hc=>?_,fun hc=>?_⟩<;>first|(exfalso;omega)|skip))|fail)
 refine CT.loop (α := Nat) (fun k => [(0, .slice a l.length c), (1, .slice a' l.length c'), (5, .int .i64 k)]) (fun k => Pu (k ≤ l.length) :: R) (fun k => l.length - k) 0
  ⟨rfl, rfl, rfl, trivial⟩ (fun w h => Sat.pu_in (Nat.zero_le _) h) (fun k => CT.pu fun hk5 => ?_)
 repeat' (first|refine gL ?_|(refine gv ?_;(refine⟨fun hc=>?_,fun hc=>?_⟩<;>first|(exfalso;omega)|skip))|fail)
 ·have hkl : k < l.length := by omega
  have hgk := List.getElem?_eq_getElem hkl
  revert hgk
  generalize l[k] = sp
  intro hgk
  refine RT.ix T (j := k * 3) rfl rfl rfl (rD (hR)) (by omega) (by omega) (by omega) rfl rfl ?_
  refine RT.ldra T rfl (rD (hR)) (l := sp.cells) (flat_sub (f := SymT.cells) (z := 3) (fun _ => rfl) _ k _ hgk) rfl rfl rfl rfl ?_
  try refine gL ?_
  refine RT.ix T (j := k * 3) rfl rfl rfl (rD (hR')) (by omega) (by omega) (by omega) rfl rfl ?_
  refine RT.ldra T rfl (rD (hR')) (l := sp.cells) (flat_sub (f := SymT.cells) (z := 3) (fun _ => rfl) _ k _ hgk) rfl rfl rfl rfl ?_
  refine RT.neS rfl rfl (same_sym sp) rfl rfl ?_
  repeat' (first|refine gL ?_|(refine gv ?_;refine gk ?_)|fail)
  exact AtQ.loop (k + 1) ⟨rfl, rfl, rfl, trivial⟩ (fun w h => Sat.pu_in (by omega) h) (by omega)
 ·exact AtQ.f1 (HH := []) Tryz.results17 rfl rfl dR_
end Go.Proofs.YtdemnhdoadjhhaaGreatDoor
end
section
namespace Go.Proofs.YtdemnhdoadjhhaaGreatDoor
open Go.Sk
set_option maxRecDepth 100000
/-- A row of symbols that came out. -/
structure ES where
 a : Option Addr
 n : Nat
 c : Nat
 l : List SymT
def ES.sl (e : ES) : Value := .slice e.a e.n e.c
abbrev ownY (a : Option Addr) (c : Nat) (l : List SymT) (n : Nat) : HP := Own a c 79 3 n (l.flatMap SymT.cells)
def ES.own (e : ES) : HP := ownY e.a e.c e.l e.n
abbrev nil0 : Value := .slice none 0 0
abbrev bkC (v : Value) : List Value := [nil0, nil0, nil0, nil0, nil0, nil0, nil0, v, nil0, nil0, nil0, nil0, nil0, nil0, nil0, nil0, nil0, nil0, nil0, nil0, nil0, nil0, nil0]
/-- The book: it holds these rows of symbols, and nothing else. -/
def BkY (p : Nat) (es : List ES) : HP := Ex fun x : Option Addr × Nat => [Cs p 65 (bkC (.slice x.1 es.length x.2)), Own x.1 x.2 35 1 es.length (es.map ES.sl), Bag (es.map ES.own)]
attribute [local irreducible] Cs Own Ex Pu Yld RT LJ QJ AtQ CT Rd QSp Sp FinQ Then LoopQ CutQ DT TakeQ EffQ
attribute [local irreducible] Bag Twi
variable {B : World} {R : List HP}
theorem bookSym_fn {p n c : Nat} {a : Option Addr} {l : List SymT} {es : List ES} (hk : es.length ≤ 1000000) :
  Sp B Tryz.prog 18 [ptr p, .slice a n c] R [ownY a c l n, BkY p es] (fun v H' => v = .tuple #[] ∧ H' = [BkY p (es ++ [⟨a, n, c, l⟩])]) := by
 refine Sp.weak (Pre' := [BkY p es, ownY a c l n]) (fun w h => h.frd (Ps := [_, _]) (Qs := []) fR_) ?_
 refine Sp.body Tryz.func18 rfl Tryz.ntmps18 (by simp) ?_
 simp only [argE, List.cons_append, List.nil_append, Nat.zero_add, Nat.reduceAdd]
 refine CT.ex (fun x => ?_)
 obtain ⟨ab, cb⟩ := x
 simp only [List.cons_append, List.nil_append]
 try refine gL ?_
 refine RT.push T rfl rfl rfl rfl (fun a' c' => by ((repeat constructor);done)) (by omega) (by omega) rfl rfl rfl rfl (fun a2 c2 b2 c3 hac => ?_)
 try refine gL ?_
 refine AtQ.f0 (HH := [BkY p (es ++ [⟨a, n, c, l⟩])]) Tryz.results18 (fun w h => ?_) (by first | exact .inl rfl | exact .inr rfl)
 have e1 : es.length + 1 = (es ++ [(⟨a, n, c, l⟩ : ES)]).length := by simp
 have e2 : es.map ES.sl ++ [.slice a n c] = (es ++ [(⟨a, n, c, l⟩ : ES)]).map ES.sl := by simp [ES.sl]
 have h2 := h.frd (Ps := [ownY a c l n, Bag (es.map ES.own), Cs p 65 (bkC (.slice a2 (es.length + 1) c2)), Own a2 c2 35 1 (es.length + 1) (es.map ES.sl ++ [.slice a n c])]) (Qs := []) fR_
 have h3 : Sat B (Bag (es.map ES.own ++ [ownY a c l n]) :: Cs p 65 (bkC (.slice a2 (es.length + 1) c2)) :: Own a2 c2 35 1 (es.length + 1) (es.map ES.sl ++ [.slice a n c]) :: R) w := Bag.push h2
 rw [e1, e2, show es.map ES.own ++ [ownY a c l n] = (es ++ [(⟨a, n, c, l⟩ : ES)]).map ES.own by simp [ES.own]] at h3
 exact Sat.ex_in (a2, c2) (h3.frd (Ps := [_, _, _]) (Qs := []) fR_)
def mk (i n : Nat) : List SymT := (List.range n).map fun (k : Nat) => ⟨markT i k, 0, []⟩
def mk' (i n : Nat) : List SymT := (List.range n).map fun (k : Nat) => ⟨markT (-1 - (i : Int)) k, 0, []⟩
theorem mk_len (i n : Nat) : (mk i n).length = n := by simp [mk]
theorem mk'_len (i n : Nat) : (mk' i n).length = n := by simp [mk']
theorem mk_get {i n k : Nat} (h : k < n) : (mk i n)[k]? = some ⟨markT i k, 0, []⟩ := by simp [mk, h]
theorem mk'_get {i n k : Nat} (h : k < n) : (mk' i n)[k]? = some ⟨markT (-1 - (i : Int)) k, 0, []⟩ := by simp [mk', h]
theorem mk'_succ (i n : Nat) : mk' i n ++ [⟨markT (-1 - (i : Int)) n, 0, []⟩] = mk' i (n + 1) := by simp [mk', List.range_succ]
theorem mk_ext {i n : Nat} {l : List SymT} (hl : l.length = n) (h : ∀ k, k < n → l[k]? = some ⟨markT i k, 0, []⟩) : l = mk i n := by
 refine List.ext_getElem? fun k => ?_
 by_cases hk : k < n
 ·rw [h k hk, mk_get hk]
 ·rw [List.getElem?_eq_none (by omega), List.getElem?_eq_none (by rw [mk_len]; omega)]
theorem fsub (l : List SymT) (k : Nat) (x : SymT) (h : l[k]? = some x) : ((l.flatMap SymT.cells).drop (k * 3)).take 3 = x.cells := flat_sub (f := SymT.cells) (z := 3) (fun _ => rfl) l k x h
/-- The rows that are marked so far. -/
def Done (es x : List ES) : Prop := x.length ≤ es.length ∧ ∀ j e, es[j]? = some e → j < x.length → x[j]? = some ⟨e.a, e.n, e.c, mk j e.n⟩
theorem Done.step {es x : List ES} {e : ES} (h : Done es x) (he : es[x.length]? = some e) : Done es (x ++ [⟨e.a, e.n, e.c, mk x.length e.n⟩]) := by
 have hi := (List.getElem?_eq_some_iff.1 he).1
 refine ⟨by simp only [List.length_append, List.length_cons, List.length_nil]; omega, fun j e' hj hlt => ?_⟩
 by_cases hjx : j < x.length
 ·rw [List.getElem?_append_left hjx]
  exact h.2 j e' hj hjx
 ·have : j = x.length := by simp only [List.length_append, List.length_cons, List.length_nil] at hlt; omega
  subst this
  rw [he] at hj
  cases hj
  simp
/-- A row, and the one that grew out of it by these symbols. -/
structure TW where
 e : ES
 a' : Option Addr
 c' : Nat
 m : List SymT
def TW.own (t : TW) : HP := Twi 79 3 t.e.a t.e.n t.e.c (t.e.l.flatMap SymT.cells) t.a' (t.e.n + t.m.length) t.c' ((t.e.l ++ t.m).flatMap SymT.cells)
def TW.sl (t : TW) : Value := .slice t.a' (t.e.n + t.m.length) t.c'
def DoneT (es : List ES) (x : List TW) : Prop := x.length ≤ es.length ∧ ∀ j, j < x.length → ∃ t, x[j]? = some t ∧ es[j]? = some t.e ∧ t.m = mk' j 16 ∧ t.e.n + 16 ≤ t.c' ∧ t.e.n ≤ t.e.c
theorem DoneT.step {es : List ES} {x : List TW} {e : ES} {a' : Option Addr} {c' : Nat} (h : DoneT es x) (he : es[x.length]? = some e) (hc : e.n + 16 ≤ c') (hc2 : e.n ≤ e.c) : DoneT es (x ++ [⟨e, a', c', mk' x.length 16⟩]) := by
 have hi := (List.getElem?_eq_some_iff.1 he).1
 refine ⟨by simp only [List.length_append, List.length_cons, List.length_nil]; omega, fun j hlt => ?_⟩
 by_cases hjx : j < x.length
 ·rw [List.getElem?_append_left hjx]
  exact h.2 j hjx
 ·have : j = x.length := by simp only [List.length_append, List.length_cons, List.length_nil] at hlt; omega
  subst this
  exact ⟨⟨e, a', c', mk' x.length 16⟩, by simp, he, rfl, hc, hc2⟩
theorem ownY_facts {a : Option Addr} {c n : Nat} {l : List SymT} {H : List HP} {w : World} (h : Sat B (ownY a c l n :: H) w) : l.length = n ∧ n ≤ c := by
 have h2 := Own.facts h .h
 have h3 := flat_len sym_len l
 exact ⟨by omega, h2.2.1⟩
end Go.Proofs.YtdemnhdoadjhhaaGreatDoor
end
section
namespace Go.Proofs.YtdemnhdoadjhhaaGreatDoor
open Go.Sk
set_option maxRecDepth 100000
attribute [local irreducible] Cs Own Ex Pu Yld RT LJ QJ AtQ CT Rd QSp Sp FinQ Then LoopQ CutQ DT TakeQ EffQ
attribute [local irreducible] Bag Twi
variable {B : World} {R : List HP}
set_option maxHeartbeats 16000000 in
theorem ownSym_fn {ah : Option Addr} {ch : Nat} {es : List ES} (hk : es.length ≤ 1000000) (hn : ∀ e ∈ es, e.n ≤ 1073741824) :
  Sp B Tryz.prog 64 [.slice ah es.length ch] R [Own ah ch 35 1 es.length (es.map ES.sl), Bag (es.map ES.own)] (fun v H' => v = .bool true ∧ H' = []) := by
 refine Sp.body Tryz.func64 rfl Tryz.ntmps64 (by simp) ?_
 simp only [argE, List.cons_append, List.nil_append, Nat.zero_add, Nat.reduceAdd]
 try refine gL ?_
 refine CT.fact (p := (es.map ES.sl).length = es.length * 1 ∧ es.length ≤ ch ∧ ch ≤ maxLen) (fun w h => Own.facts h .h) (fun hf => ?_)
 obtain ⟨hf1, hf2, _⟩ := hf
 have hsl : ∀ (j : Nat) (e : ES), es[j]? = some e → (es.map ES.sl)[j]? = some (Value.slice e.a e.n e.c) := fun j e he => by simp [he, ES.sl]
 refine CT.loop (α := List ES) (fun x => [(0, .slice ah es.length ch), (3, .int .i64 x.length)]) (fun x => Pu (Done es x) :: Bag (x.map ES.own) :: Bag ((es.drop x.length).map ES.own) :: Own ah ch 35 1 es.length (es.map ES.sl) :: R) (fun x => es.length - x.length) [] ⟨rfl, rfl, trivial⟩
  (fun w h => Sat.pu_in ⟨Nat.zero_le _, fun j e _ h => absurd h (by simp)⟩ (Bag.nil_ (h.frd (Ps := [_, _]) (Qs := []) fR_))) (fun x => CT.pu fun hx => ?_)
 have hxl := hx.1
 repeat' (first|refine gL ?_|(refine gv ?_;(refine⟨fun hc=>?_,fun hc=>?_⟩<;>first|(exfalso;omega)|skip))|fail)
 ·have hlt : x.length < es.length := by omega
  obtain ⟨e, he⟩ : ∃ e, es[x.length]? = some e := ⟨_, List.getElem?_eq_getElem hlt⟩
  have hmem : e ∈ es := List.mem_of_getElem? he
  have hen := hn e hmem
  have hd : es.drop x.length = e :: es.drop (x.length + 1) := by
   obtain ⟨h1, rfl⟩ := List.getElem?_eq_some_iff.1 he
   exact List.drop_eq_getElem_cons h1
  rw [hd, List.map_cons]
  refine CT.weak (H' := ownY e.a e.c e.l e.n :: Bag (x.map ES.own) :: Bag ((es.drop (x.length + 1)).map ES.own) :: Own ah ch 35 1 es.length (es.map ES.sl) :: R) (fun w h => ?_) ?_
  ·have h2 := h.frd (Ps := [Bag (e.own :: (es.drop (x.length + 1)).map ES.own), Bag (x.map ES.own), Own ah ch 35 1 es.length (es.map ES.sl)]) (Qs := []) fR_
   exact (Bag.head h2).frd (Ps := [_, _, _, _]) (Qs := []) fR_
  skip
  refine CT.loop (α := Nat × List SymT) (fun y => [(0, .slice ah es.length ch), (3, .int .i64 x.length), (4, .int .i64 y.1)]) (fun y => Pu (y.1 ≤ e.n ∧ y.2.length = e.n ∧ e.n ≤ e.c ∧ ∀ k, k < y.1 → y.2[k]? = some ⟨markT x.length k, 0, []⟩) :: ownY e.a e.c y.2 e.n :: Bag (x.map ES.own) :: Bag ((es.drop (x.length + 1)).map ES.own) :: Own ah ch 35 1 es.length (es.map ES.sl) :: R) (fun y => e.n - y.1) (0, e.l) ⟨rfl, rfl, rfl, trivial⟩
   (fun w h => Sat.pu_in ⟨Nat.zero_le _, (ownY_facts h).1, (ownY_facts h).2, fun k h => absurd h (by simp)⟩ h) (fun y => CT.pu fun hy => ?_)
  obtain ⟨k, l⟩ := y
  obtain ⟨y1, y2, yc, y3⟩ := hy
  dsimp only at y1 y2 yc y3 ⊢
  have hxn : (x.length : Int) < es.length := by omega
  try refine gQ ?_
  refine RT.ix T (j := x.length) rfl rfl rfl (Own.rd sE_ hf1 hf2) (by omega) (by omega) (by omega) rfl rfl ?_
  refine RT.ldr T rfl (Own.rd sE_ hf1 hf2) (hsl _ _ he) rfl rfl rfl ?_
  repeat' (first|refine gQ ?_|(refine gv ?_;first|(refine⟨fun hc=>?_,fun hc=>?_⟩<;>first|(exfalso;omega)|skip)|refine gk ?_)|fail)
  ·refine CT.tail 10 mixed (by kernel_rfl) ?_
   dsimp only [List.take_succ_cons, List.take_zero]
   try refine gL ?_
   refine RT.ix T (j := x.length) rfl rfl rfl (Own.rd sE_ hf1 hf2) (by omega) (by omega) (by omega) rfl rfl ?_
   refine RT.ldr T rfl (Own.rd sE_ hf1 hf2) (hsl _ _ he) rfl rfl rfl ?_
   try refine gL ?_
   (refine RT.qcall T rfl (QSp.of fR_ (mark_fn (a := x.length) (b := k) (by omega) (by omega) (by omega) (by omega))) rfl rfl rfl ?_)
   try refine gL ?_
   have hy3 : (l.flatMap SymT.cells).length = e.n * 3 := by rw [flat_len sym_len, y2]
   refine RT.ix T (j := k * 3) rfl rfl rfl (Own.rd sE_ hy3 yc) (by omega) (by omega) (by omega) rfl rfl ?_
   try refine gL ?_
   refine AtQ.tail ?_
   refine RT.stoA T (v := (⟨markT x.length k, 0, []⟩ : SymT).cells) rfl rfl rfl (by ((repeat constructor);done)) (by rw [flat_len sym_len, sym_len]; omega) (by rw [sym_len]; decide) rfl rfl rfl ?_
   rw [sym_len, flat_set sym_len _ (by omega)]
   repeat' (first|refine gL ?_|(refine gv ?_;refine gk ?_)|fail)
   refine AtQ.loop (k + 1, l.set k ⟨markT x.length k, 0, []⟩) ⟨rfl, rfl, rfl, trivial⟩ (fun w h => Sat.pu_in ⟨by simp only; omega, by simp only [List.length_set]; exact y2, yc, fun q hq => ?_⟩ h) (by simp only; omega)
   simp only at hq ⊢
   rw [List.getElem?_set]
   by_cases hqk : k = q
   ·subst hqk
    rw [if_pos rfl, if_pos (by omega)]
   ·rw [if_neg hqk]
    exact y3 q (by omega)
  ·have hke : k = e.n := by omega
   subst hke
   have hlm : l = mk x.length e.n := mk_ext y2 y3
   subst hlm
   refine AtQ.loop (x ++ [⟨e.a, e.n, e.c, mk x.length e.n⟩]) ⟨rfl, ?_, trivial⟩ (fun w h => Sat.pu_in (hx.step he) ?_) (by simp only [List.length_append, List.length_cons, List.length_nil]; omega)
   ·simp only [List.length_append, List.length_cons, List.length_nil]
    rfl
   ·simp only [List.length_append, List.length_cons, List.length_nil, List.map_append, List.map_cons, List.map_nil]
    exact Bag.push h
 ·have hxe : x.length = es.length := by omega
  have hg : ∀ (j : Nat) (e : ES), es[j]? = some e → x[j]? = some ⟨e.a, e.n, e.c, mk j e.n⟩ := fun j e he => hx.2 j e he (by rw [hxe]; exact (List.getElem?_eq_some_iff.1 he).1)
  refine CT.weak (H' := Own none 0 35 1 0 [] :: Bag (x.map ES.own) :: Own ah ch 35 1 es.length (es.map ES.sl) :: R) (fun w h => Sat.nilOwn (h.frd (Ps := [_, _]) (Qs := [_]) fR_)) ?_
  refine CT.loop (α := List TW × Option Addr × Nat) (fun y => [(0, .slice ah es.length ch), (5, .slice y.2.1 y.1.length y.2.2), (6, .int .i64 y.1.length)]) (fun y => Pu (DoneT x y.1 ∧ y.1.length ≤ y.2.2) :: Own y.2.1 y.2.2 35 1 y.1.length (y.1.map TW.sl) :: Bag (y.1.map TW.own) :: Bag ((x.drop y.1.length).map ES.own) :: Own ah ch 35 1 es.length (es.map ES.sl) :: R) (fun y => es.length - y.1.length) ([], none, 0) ⟨rfl, rfl, rfl, trivial⟩
   (fun w h => Sat.pu_in ⟨⟨Nat.zero_le _, fun j h => absurd h (by simp)⟩, Nat.le_refl _⟩ ((Bag.nil_ h).frd (Ps := [_, _, _, _]) (Qs := []) fR_)) (fun y => CT.pu fun hy => ?_)
  obtain ⟨tw, al, cl⟩ := y
  obtain ⟨hy1, hy2⟩ := hy
  dsimp only at hy1 hy2 ⊢
  have hyl := hy1.1
  rw [hxe] at hyl
  repeat' (first|refine gL ?_|(refine gv ?_;(refine⟨fun hc=>?_,fun hc=>?_⟩<;>first|(exfalso;omega)|skip))|fail)
  ·have hlt : tw.length < es.length := by omega
   obtain ⟨e, he⟩ : ∃ e, es[tw.length]? = some e := ⟨_, List.getElem?_eq_getElem hlt⟩
   have hen := hn e (List.mem_of_getElem? he)
   have hxe2 := hg _ _ he
   have hd : x.drop tw.length = ⟨e.a, e.n, e.c, mk tw.length e.n⟩ :: x.drop (tw.length + 1) := by
    obtain ⟨h1, h2⟩ := List.getElem?_eq_some_iff.1 hxe2
    rw [← h2]
    exact List.drop_eq_getElem_cons h1
   rw [hd, List.map_cons]
   refine RT.weak (H' := ownY e.a e.c (mk tw.length e.n) e.n :: Own al cl 35 1 tw.length (tw.map TW.sl) :: Bag (tw.map TW.own) :: Bag ((x.drop (tw.length + 1)).map ES.own) :: Own ah ch 35 1 es.length (es.map ES.sl) :: R) (fun w h => ?_) ?_
   ·have h2 := h.frd (Ps := [Bag (ES.own ⟨e.a, e.n, e.c, mk tw.length e.n⟩ :: (x.drop (tw.length + 1)).map ES.own), Own al cl 35 1 tw.length (tw.map TW.sl), Bag (tw.map TW.own), Own ah ch 35 1 es.length (es.map ES.sl)]) (Qs := []) fR_
    exact (Bag.head h2).frd (Ps := [_, _, _, _, _]) (Qs := []) fR_
   refine RT.ix T (j := tw.length) rfl rfl rfl (Own.rd sE_ hf1 hf2) (by omega) (by omega) (by omega) rfl rfl ?_
   refine RT.ldr T rfl (Own.rd sE_ hf1 hf2) (hsl _ _ he) rfl rfl rfl ?_
   try refine gL ?_
   refine CT.loop (α := Nat × Option Addr × Nat) (fun z => [(0, .slice ah es.length ch), (5, .slice al tw.length cl), (6, .int .i64 tw.length), (7, .slice z.2.1 (e.n + z.1) z.2.2), (8, .int .i64 z.1)]) (fun z => Pu (z.1 ≤ 16 ∧ e.n + z.1 ≤ z.2.2) :: Twi 79 3 e.a e.n e.c ((mk tw.length e.n).flatMap SymT.cells) z.2.1 (e.n + z.1) z.2.2 ((mk tw.length e.n ++ mk' tw.length z.1).flatMap SymT.cells) :: Own al cl 35 1 tw.length (tw.map TW.sl) :: Bag (tw.map TW.own) :: Bag ((x.drop (tw.length + 1)).map ES.own) :: Own ah ch 35 1 es.length (es.map ES.sl) :: R) (fun z => 16 - z.1) (0, e.a, e.c) ⟨rfl, rfl, rfl, rfl, rfl, trivial⟩
    (fun w h => Sat.pu_in ⟨by omega, (ownY_facts h).2⟩ ?_) (fun z => CT.pu fun hz => ?_)
   ·rw [show mk' tw.length 0 = [] from rfl, List.append_nil]
    exact h.mono fun _ hs => star_head_mono (fun _ ho => Twi.start ho) hs
   obtain ⟨q, a2, c2⟩ := z
   obtain ⟨hz1, hz2⟩ := hz
   dsimp only at hz1 hz2 ⊢
   repeat' (first|refine gL ?_|(refine gv ?_;first|(refine⟨fun hc=>?_,fun hc=>?_⟩<;>first|(exfalso;omega)|skip)|refine gk ?_)|fail)
   ·(refine RT.call T rfl fR_ (mark_fn (a := -1 - (tw.length : Int)) (b := q) (by omega) (by omega) (by omega) (by omega)) rfl rfl rfl ?_; rintro _ _ ⟨rfl, rfl⟩; try simp only [List.cons_append, List.nil_append])
    try refine gM ?_
    refine RT.bsA T (l := (⟨markT (-1 - (tw.length : Int)) q, 0, []⟩ : SymT).cells) rfl rfl rfl rfl rfl rfl rfl rfl (fun b3 => ?_)
    refine RT.appT T rfl rfl rfl sE_ (Own.rd sE_ rfl (Nat.le_refl _)) (one_sym _) (by omega) (by omega) rfl rfl rfl rfl (fun a3 c3 hac => ?_)
    have hst : (mk tw.length e.n ++ mk' tw.length q).flatMap SymT.cells ++ (⟨markT (-1 - (tw.length : Int)) q, 0, []⟩ : SymT).cells = (mk tw.length e.n ++ mk' tw.length (q + 1)).flatMap SymT.cells := by rw [← mk'_succ, ← List.append_assoc]; simp
    rw [hst]
    repeat' (first|refine gL ?_|(refine gv ?_;refine gk ?_)|fail)
    exact AtQ.loop (q + 1, a3, c3) ⟨rfl, rfl, rfl, rfl, rfl, trivial⟩ (fun w h => Sat.pu_in ⟨by simp only; omega, by simp only; omega⟩ (h.frd (Ps := [_, _, _, _, _]) (Qs := [_]) fR_)) (by simp only; omega)
   ·have hq : q = 16 := by omega
    subst hq
    refine RT.push T rfl rfl rfl rfl (fun a' c' => by ((repeat constructor);done)) (by omega) (by omega) rfl rfl rfl rfl (fun a3 c3 b3 d3 hac => ?_)
    repeat' (first|refine gL ?_|(refine gv ?_;refine gk ?_)|fail)
    refine AtQ.fact (p := e.n ≤ e.c) (fun w h => ?_) (fun hec => ?_)
    ·have h2 := h.sel (p := Twi 79 3 e.a e.n e.c ((mk tw.length e.n).flatMap SymT.cells) a2 (e.n + 16) c2 ((mk tw.length e.n ++ mk' tw.length 16).flatMap SymT.cells)) sE_
     rcases Twi.cases h2 with ⟨e1, e2, _, _, ho⟩ | ⟨n', zs, e1, _, ho⟩
     ·have := Own.facts ho .h; omega
     ·have := Own.facts ho .h; omega
    refine AtQ.loop (tw ++ [⟨⟨e.a, e.n, e.c, mk tw.length e.n⟩, a2, c2, mk' tw.length 16⟩], a3, c3) ⟨rfl, ?_, ?_, trivial⟩ (fun w h => Sat.pu_in ⟨hy1.step hxe2 hz2 hec, by simp only [List.length_append, List.length_cons, List.length_nil]; exact hac⟩ ?_) (by simp only [List.length_append, List.length_cons, List.length_nil]; omega)
    ·simp only [List.length_append, List.length_cons, List.length_nil]
     rfl
    ·simp only [List.length_append, List.length_cons, List.length_nil]
     rfl
    ·simp only [List.length_append, List.length_cons, List.length_nil, List.map_append, List.map_cons, List.map_nil]
     have h2 := h.frd (Ps := [TW.own ⟨⟨e.a, e.n, e.c, mk tw.length e.n⟩, a2, c2, mk' tw.length 16⟩, Bag (tw.map TW.own), Own a3 c3 35 1 (tw.length + 1) (tw.map TW.sl ++ [Value.slice a2 (e.n + 16) c2]), Bag ((x.drop (tw.length + 1)).map ES.own), Own ah ch 35 1 es.length (es.map ES.sl)]) (Qs := []) (by
      unfold TW.own
      rw [mk'_len]
      (repeat (first|exact Fr.nil|(apply Fr.cons;focus ((repeat constructor);done)))))
     have h3 := (Bag.push h2).frd (Ps := [Own a3 c3 35 1 (tw.length + 1) (tw.map TW.sl ++ [Value.slice a2 (e.n + 16) c2]), _, _, _]) (Qs := []) fR_
     rw [show TW.sl ⟨⟨e.a, e.n, e.c, mk tw.length e.n⟩, a2, c2, mk' tw.length 16⟩ = Value.slice a2 (e.n + 16) c2 by unfold TW.sl; rw [mk'_len]]
     exact h3
  ·have hte : tw.length = es.length := by omega
   have hT : ∀ (j : Nat) (e : ES), es[j]? = some e → ∃ t, tw[j]? = some t ∧ t = ⟨⟨e.a, e.n, e.c, mk j e.n⟩, t.a', t.c', mk' j 16⟩ ∧ e.n + 16 ≤ t.c' ∧ e.n ≤ e.c := fun j e he => by
    have hj := (List.getElem?_eq_some_iff.1 he).1
    obtain ⟨t, h1, h2, h3, h4, h5⟩ := hy1.2 j (by omega)
    rw [hg j e he] at h2
    cases h2e : t.e
    rw [h2e] at h2 h4 h5
    cases h2
    refine ⟨t, h1, ?_, h4, h5⟩
    cases t
    simp_all
   clear hy1 hx hg
   refine CT.loop (α := Nat) (fun j => [(0, .slice ah es.length ch), (5, .slice al tw.length cl), (9, .int .i64 j)]) (fun j => Pu (j ≤ es.length) :: Own al cl 35 1 tw.length (tw.map TW.sl) :: Bag (tw.map TW.own) :: Own ah ch 35 1 es.length (es.map ES.sl) :: R) (fun j => es.length - j) 0 ⟨rfl, rfl, rfl, trivial⟩
    (fun w h => Sat.pu_in (Nat.zero_le _) (h.frd (Ps := [_, _, _]) (Qs := [_]) fR_)) (fun j => CT.pu fun hj => ?_)
   repeat' (first|refine gL ?_|(refine gv ?_;(refine⟨fun hc=>?_,fun hc=>?_⟩<;>first|(exfalso;omega)|skip))|fail)
   ·obtain ⟨e, he⟩ : ∃ e, es[j]? = some e := ⟨_, List.getElem?_eq_getElem (by omega)⟩
    have hen := hn e (List.mem_of_getElem? he)
    obtain ⟨t, ht1, ht2, ht3, ht4⟩ := hT j e he
    have htl : (tw.map TW.sl)[j]? = some (Value.slice t.a' (e.n + 16) t.c') := by
     rw [List.getElem?_map, ht1, Option.map_some, ht2]
     unfold TW.sl
     rw [mk'_len]
    have hto : (tw.map TW.own)[j]? = some (Twi 79 3 e.a e.n e.c ((mk j e.n).flatMap SymT.cells) t.a' (e.n + 16) t.c' ((mk j e.n ++ mk' j 16).flatMap SymT.cells)) := by
     rw [List.getElem?_map, ht1, Option.map_some, ht2]
     unfold TW.own
     rw [mk'_len]
    have hml : (tw.map TW.sl).length = tw.length * 1 := by simp
    have R1 : ∀ H, Rd B (Bag (tw.map TW.own) :: H) e.a e.n e.c 3 ((mk j e.n).flatMap SymT.cells) := fun H => Rd.bag hto (Twi.rd_old (by rw [flat_len sym_len, mk_len]) ht4)
    have R2 : ∀ H, Rd B (Bag (tw.map TW.own) :: H) t.a' (e.n + 16) t.c' 3 ((mk j e.n ++ mk' j 16).flatMap SymT.cells) := fun H => Rd.bag hto (Twi.rd_new (by rw [flat_len sym_len, List.length_append, mk_len, mk'_len]) ht3)
    refine RT.ix T (j := j) rfl rfl rfl (Own.rd sE_ hf1 hf2) (by omega) (by omega) (by omega) rfl rfl ?_
    refine RT.ldr T rfl (Own.rd sE_ hf1 hf2) (hsl _ _ he) rfl rfl rfl ?_
    try refine gL ?_
    refine CT.loop (α := Nat) (fun k => [(0, .slice ah es.length ch), (5, .slice al tw.length cl), (9, .int .i64 j), (10, .int .i64 e.n), (11, .int .i64 k)]) (fun k => Pu (k ≤ e.n) :: Own al cl 35 1 tw.length (tw.map TW.sl) :: Bag (tw.map TW.own) :: Own ah ch 35 1 es.length (es.map ES.sl) :: R) (fun k => e.n - k) 0 ⟨rfl, rfl, rfl, rfl, rfl, trivial⟩
     (fun w h => Sat.pu_in (Nat.zero_le _) h) (fun k => CT.pu fun hk => ?_)
    repeat' (first|refine gL ?_|(refine gv ?_;(refine⟨fun hc=>?_,fun hc=>?_⟩<;>first|(exfalso;omega)|skip))|fail)
    ·have hkn : k < e.n := by omega
     have g2 : (mk j e.n ++ mk' j 16)[k]? = some ⟨markT j k, 0, []⟩ := by rw [List.getElem?_append_left (by rw [mk_len]; exact hkn), mk_get hkn]
     refine RT.ix T (j := j) rfl rfl rfl (Own.rd sE_ hf1 hf2) (by omega) (by omega) (by omega) rfl rfl ?_
     refine RT.ldr T rfl (Own.rd sE_ hf1 hf2) (hsl _ _ he) rfl rfl rfl ?_
     try refine gL ?_
     refine RT.ix T (j := k * 3) rfl rfl rfl (rD (R1 _)) (by omega) (by omega) (by omega) rfl rfl ?_
     refine RT.ldra T rfl (rD (R1 _)) (l := (⟨markT j k, 0, []⟩ : SymT).cells) (fsub _ k _ (mk_get hkn)) rfl rfl rfl rfl ?_
     try refine gL ?_
     (refine RT.qcall T rfl (QSp.of fR_ (mark_fn (a := j) (b := k) (by omega) (by omega) (by omega) (by omega))) rfl rfl rfl ?_)
     try refine gL ?_
     refine RT.neS (xs := (⟨markT j k, 0, []⟩ : SymT).cells) rfl rfl (same_sym _) rfl rfl ?_
     try refine gL ?_
     refine RT.ix T (j := j) rfl rfl rfl (Own.rd sE_ hml hy2) (by omega) (by omega) (by omega) rfl rfl ?_
     refine RT.ldr T rfl (Own.rd sE_ hml hy2) htl rfl rfl rfl ?_
     try refine gL ?_
     refine RT.ix T (j := k * 3) rfl rfl rfl (rD (R2 _)) (by omega) (by omega) (by omega) rfl rfl ?_
     refine RT.ldra T rfl (rD (R2 _)) (l := (⟨markT j k, 0, []⟩ : SymT).cells) (fsub _ k _ g2) rfl rfl rfl rfl ?_
     try refine gL ?_
     (refine RT.qcall T rfl (QSp.of fR_ (mark_fn (a := j) (b := k) (by omega) (by omega) (by omega) (by omega))) rfl rfl rfl ?_)
     try refine gL ?_
     refine RT.neS (xs := (⟨markT j k, 0, []⟩ : SymT).cells) rfl rfl (same_sym _) rfl rfl ?_
     repeat' (first|refine gL ?_|(refine gv ?_;refine gk ?_)|fail)
     exact AtQ.loop (k + 1) ⟨rfl, rfl, rfl, rfl, rfl, trivial⟩ (fun w h => Sat.pu_in (by omega) h) (by omega)
    ·refine CT.loop (α := Nat) (fun k => [(0, .slice ah es.length ch), (5, .slice al tw.length cl), (9, .int .i64 j), (10, .int .i64 e.n), (12, .int .i64 k)]) (fun k => Pu (k ≤ 16) :: Own al cl 35 1 tw.length (tw.map TW.sl) :: Bag (tw.map TW.own) :: Own ah ch 35 1 es.length (es.map ES.sl) :: R) (fun k => 16 - k) 0 ⟨rfl, rfl, rfl, rfl, rfl, trivial⟩
      (fun w h => Sat.pu_in (Nat.zero_le _) h) (fun q => CT.pu fun hq => ?_)
     repeat' (first|refine gL ?_|(refine gv ?_;first|(refine⟨fun hc=>?_,fun hc=>?_⟩<;>first|(exfalso;omega)|skip)|refine gk ?_)|fail)
     ·have hqn : q < 16 := by omega
      have g3 : (mk j e.n ++ mk' j 16)[e.n + q]? = some ⟨markT (-1 - (j : Int)) q, 0, []⟩ := by rw [List.getElem?_append_right (by rw [mk_len]; omega), mk_len, Nat.add_sub_cancel_left, mk'_get hqn]
      refine RT.ix T (j := j) rfl rfl rfl (Own.rd sE_ hml hy2) (by omega) (by omega) (by omega) rfl rfl ?_
      refine RT.ldr T rfl (Own.rd sE_ hml hy2) htl rfl rfl rfl ?_
      repeat' (first|refine gL ?_|(refine gv ?_;refine gk ?_)|fail)
      refine RT.ix T (j := (e.n + q) * 3) rfl rfl rfl (rD (R2 _)) (by omega) (by omega) (by omega) rfl rfl ?_
      refine RT.ldra T rfl (rD (R2 _)) (l := (⟨markT (-1 - (j : Int)) q, 0, []⟩ : SymT).cells) (fsub _ (e.n + q) _ g3) rfl rfl rfl rfl ?_
      repeat' (first|refine gL ?_|(refine gv ?_;refine gk ?_)|fail)
      (refine RT.qcall T rfl (QSp.of fR_ (mark_fn (a := -1 - (j : Int)) (b := q) (by omega) (by omega) (by omega) (by omega))) rfl rfl rfl ?_)
      try refine gL ?_
      refine RT.neS (xs := (⟨markT (-1 - (j : Int)) q, 0, []⟩ : SymT).cells) rfl rfl (same_sym _) rfl rfl ?_
      repeat' (first|refine gL ?_|(refine gv ?_;refine gk ?_)|fail)
      exact AtQ.loop (q + 1) ⟨rfl, rfl, rfl, rfl, rfl, trivial⟩ (fun w h => Sat.pu_in (by omega) h) (by omega)
     ·exact AtQ.loop (j + 1) ⟨rfl, rfl, rfl, trivial⟩ (fun w h => Sat.pu_in (by omega) h) (by omega)
   ·exact AtQ.f1 (HH := []) Tryz.results64 rfl rfl (fun w h => h.tail.tail.tail)
end Go.Proofs.YtdemnhdoadjhhaaGreatDoor
end
section
namespace Go.Proofs.YtdemnhdoadjhhaaGreatDoor
open Go.Sk
set_option maxRecDepth 100000
attribute [local irreducible] Cs Own Ex Pu Yld RT LJ QJ AtQ CT Rd QSp Sp FinQ Then LoopQ CutQ DT TakeQ EffQ
attribute [local irreducible] Bag Twi
variable {B : World} {R : List HP}
theorem ownBytes_nil : Sp B Tryz.prog 57 [.slice none 0 0] R [] (fun v H' => v = .bool true ∧ H' = []) := by
 refine Sp.body Tryz.func57 rfl Tryz.ntmps57 (by simp) ?_
 simp only [argE, List.cons_append, List.nil_append, Nat.zero_add, Nat.reduceAdd]
 repeat' (first|refine gS ?_|(refine gv ?_;(refine⟨fun hc=>?_,fun hc=>?_⟩<;>first|(exfalso;omega)|skip))|(refine CT.id_ ?_;refine CT.loop0 ?_)|refine gc ?_|fail)
 exact AtQ.f1 (HH := []) Tryz.results57 rfl rfl (fun w h => h)
theorem ownTexts_nil : Sp B Tryz.prog 58 [.slice none 0 0] R [] (fun v H' => v = .bool true ∧ H' = []) := by
 refine Sp.body Tryz.func58 rfl Tryz.ntmps58 (by simp) ?_
 simp only [argE, List.cons_append, List.nil_append, Nat.zero_add, Nat.reduceAdd]
 repeat' (first|refine gS ?_|(refine gv ?_;(refine⟨fun hc=>?_,fun hc=>?_⟩<;>first|(exfalso;omega)|skip))|(refine CT.id_ ?_;refine CT.loop0 ?_)|refine gc ?_|fail)
 exact AtQ.f1 (HH := []) Tryz.results58 rfl rfl (fun w h => h)
theorem ownInts_nil : Sp B Tryz.prog 59 [.slice none 0 0] R [] (fun v H' => v = .bool true ∧ H' = []) := by
 refine Sp.body Tryz.func59 rfl Tryz.ntmps59 (by simp) ?_
 simp only [argE, List.cons_append, List.nil_append, Nat.zero_add, Nat.reduceAdd]
 repeat' (first|refine gS ?_|(refine gv ?_;(refine⟨fun hc=>?_,fun hc=>?_⟩<;>first|(exfalso;omega)|skip))|(refine CT.id_ ?_;refine CT.loop0 ?_)|refine gc ?_|fail)
 exact AtQ.f1 (HH := []) Tryz.results59 rfl rfl (fun w h => h)
theorem ownSpans_nil : Sp B Tryz.prog 60 [.slice none 0 0] R [] (fun v H' => v = .bool true ∧ H' = []) := by
 refine Sp.body Tryz.func60 rfl Tryz.ntmps60 (by simp) ?_
 simp only [argE, List.cons_append, List.nil_append, Nat.zero_add, Nat.reduceAdd]
 repeat' (first|refine gS ?_|(refine gv ?_;(refine⟨fun hc=>?_,fun hc=>?_⟩<;>first|(exfalso;omega)|skip))|(refine CT.id_ ?_;refine CT.loop0 ?_)|refine gc ?_|fail)
 exact AtQ.f1 (HH := []) Tryz.results60 rfl rfl (fun w h => h)
theorem ownImports_nil : Sp B Tryz.prog 61 [.slice none 0 0] R [] (fun v H' => v = .bool true ∧ H' = []) := by
 refine Sp.body Tryz.func61 rfl Tryz.ntmps61 (by simp) ?_
 simp only [argE, List.cons_append, List.nil_append, Nat.zero_add, Nat.reduceAdd]
 repeat' (first|refine gS ?_|(refine gv ?_;(refine⟨fun hc=>?_,fun hc=>?_⟩<;>first|(exfalso;omega)|skip))|(refine CT.id_ ?_;refine CT.loop0 ?_)|refine gc ?_|fail)
 exact AtQ.f1 (HH := []) Tryz.results61 rfl rfl (fun w h => h)
theorem ownEnumValues_nil : Sp B Tryz.prog 62 [.slice none 0 0] R [] (fun v H' => v = .bool true ∧ H' = []) := by
 refine Sp.body Tryz.func62 rfl Tryz.ntmps62 (by simp) ?_
 simp only [argE, List.cons_append, List.nil_append, Nat.zero_add, Nat.reduceAdd]
 repeat' (first|refine gS ?_|(refine gv ?_;(refine⟨fun hc=>?_,fun hc=>?_⟩<;>first|(exfalso;omega)|skip))|(refine CT.id_ ?_;refine CT.loop0 ?_)|refine gc ?_|fail)
 exact AtQ.f1 (HH := []) Tryz.results62 rfl rfl (fun w h => h)
theorem ownFieldDefs_nil : Sp B Tryz.prog 63 [.slice none 0 0] R [] (fun v H' => v = .bool true ∧ H' = []) := by
 refine Sp.body Tryz.func63 rfl Tryz.ntmps63 (by simp) ?_
 simp only [argE, List.cons_append, List.nil_append, Nat.zero_add, Nat.reduceAdd]
 repeat' (first|refine gS ?_|(refine gv ?_;(refine⟨fun hc=>?_,fun hc=>?_⟩<;>first|(exfalso;omega)|skip))|(refine CT.id_ ?_;refine CT.loop0 ?_)|refine gc ?_|fail)
 exact AtQ.f1 (HH := []) Tryz.results63 rfl rfl (fun w h => h)
theorem ownRows_nil : Sp B Tryz.prog 65 [.slice none 0 0] R [] (fun v H' => v = .bool true ∧ H' = []) := by
 refine Sp.body Tryz.func65 rfl Tryz.ntmps65 (by simp) ?_
 simp only [argE, List.cons_append, List.nil_append, Nat.zero_add, Nat.reduceAdd]
 repeat' (first|refine gS ?_|(refine gv ?_;(refine⟨fun hc=>?_,fun hc=>?_⟩<;>first|(exfalso;omega)|skip))|(refine CT.id_ ?_;refine CT.loop0 ?_)|refine gc ?_|fail)
 exact AtQ.f1 (HH := []) Tryz.results65 rfl rfl (fun w h => h)
theorem ownTokens_nil : Sp B Tryz.prog 66 [.slice none 0 0] R [] (fun v H' => v = .bool true ∧ H' = []) := by
 refine Sp.body Tryz.func66 rfl Tryz.ntmps66 (by simp) ?_
 simp only [argE, List.cons_append, List.nil_append, Nat.zero_add, Nat.reduceAdd]
 repeat' (first|refine gS ?_|(refine gv ?_;(refine⟨fun hc=>?_,fun hc=>?_⟩<;>first|(exfalso;omega)|skip))|(refine CT.id_ ?_;refine CT.loop0 ?_)|refine gc ?_|fail)
 exact AtQ.f1 (HH := []) Tryz.results66 rfl rfl (fun w h => h)
theorem ownVerdicts_nil : Sp B Tryz.prog 67 [.slice none 0 0] R [] (fun v H' => v = .bool true ∧ H' = []) := by
 refine Sp.body Tryz.func67 rfl Tryz.ntmps67 (by simp) ?_
 simp only [argE, List.cons_append, List.nil_append, Nat.zero_add, Nat.reduceAdd]
 repeat' (first|refine gS ?_|(refine gv ?_;(refine⟨fun hc=>?_,fun hc=>?_⟩<;>first|(exfalso;omega)|skip))|(refine CT.id_ ?_;refine CT.loop0 ?_)|refine gc ?_|fail)
 exact AtQ.f1 (HH := []) Tryz.results67 rfl rfl (fun w h => h)
theorem ownCached_nil : Sp B Tryz.prog 68 [.slice none 0 0] R [] (fun v H' => v = .bool true ∧ H' = []) := by
 refine Sp.body Tryz.func68 rfl Tryz.ntmps68 (by simp) ?_
 simp only [argE, List.cons_append, List.nil_append, Nat.zero_add, Nat.reduceAdd]
 repeat' (first|refine gS ?_|(refine gv ?_;(refine⟨fun hc=>?_,fun hc=>?_⟩<;>first|(exfalso;omega)|skip))|(refine CT.id_ ?_;refine CT.loop0 ?_)|refine gc ?_|fail)
 exact AtQ.f1 (HH := []) Tryz.results68 rfl rfl (fun w h => h)
theorem ownPinned_nil : Sp B Tryz.prog 69 [.slice none 0 0] R [] (fun v H' => v = .bool true ∧ H' = []) := by
 refine Sp.body Tryz.func69 rfl Tryz.ntmps69 (by simp) ?_
 simp only [argE, List.cons_append, List.nil_append, Nat.zero_add, Nat.reduceAdd]
 repeat' (first|refine gS ?_|(refine gv ?_;(refine⟨fun hc=>?_,fun hc=>?_⟩<;>first|(exfalso;omega)|skip))|(refine CT.id_ ?_;refine CT.loop0 ?_)|refine gc ?_|fail)
 exact AtQ.f1 (HH := []) Tryz.results69 rfl rfl (fun w h => h)
theorem ownRaws_nil : Sp B Tryz.prog 70 [.slice none 0 0] R [] (fun v H' => v = .bool true ∧ H' = []) := by
 refine Sp.body Tryz.func70 rfl Tryz.ntmps70 (by simp) ?_
 simp only [argE, List.cons_append, List.nil_append, Nat.zero_add, Nat.reduceAdd]
 repeat' (first|refine gS ?_|(refine gv ?_;(refine⟨fun hc=>?_,fun hc=>?_⟩<;>first|(exfalso;omega)|skip))|(refine CT.id_ ?_;refine CT.loop0 ?_)|refine gc ?_|fail)
 exact AtQ.f1 (HH := []) Tryz.results70 rfl rfl (fun w h => h)
theorem ownEnums_nil : Sp B Tryz.prog 71 [.slice none 0 0] R [] (fun v H' => v = .bool true ∧ H' = []) := by
 refine Sp.body Tryz.func71 rfl Tryz.ntmps71 (by simp) ?_
 simp only [argE, List.cons_append, List.nil_append, Nat.zero_add, Nat.reduceAdd]
 repeat' (first|refine gS ?_|(refine gv ?_;(refine⟨fun hc=>?_,fun hc=>?_⟩<;>first|(exfalso;omega)|skip))|(refine CT.id_ ?_;refine CT.loop0 ?_)|refine gc ?_|fail)
 exact AtQ.f1 (HH := []) Tryz.results71 rfl rfl (fun w h => h)
theorem ownMessages_nil : Sp B Tryz.prog 72 [.slice none 0 0] R [] (fun v H' => v = .bool true ∧ H' = []) := by
 refine Sp.body Tryz.func72 rfl Tryz.ntmps72 (by simp) ?_
 simp only [argE, List.cons_append, List.nil_append, Nat.zero_add, Nat.reduceAdd]
 repeat' (first|refine gS ?_|(refine gv ?_;(refine⟨fun hc=>?_,fun hc=>?_⟩<;>first|(exfalso;omega)|skip))|(refine CT.id_ ?_;refine CT.loop0 ?_)|refine gc ?_|fail)
 exact AtQ.f1 (HH := []) Tryz.results72 rfl rfl (fun w h => h)
theorem ownFiles_nil : Sp B Tryz.prog 73 [.slice none 0 0] R [] (fun v H' => v = .bool true ∧ H' = []) := by
 refine Sp.body Tryz.func73 rfl Tryz.ntmps73 (by simp) ?_
 simp only [argE, List.cons_append, List.nil_append, Nat.zero_add, Nat.reduceAdd]
 repeat' (first|refine gS ?_|(refine gv ?_;(refine⟨fun hc=>?_,fun hc=>?_⟩<;>first|(exfalso;omega)|skip))|(refine CT.id_ ?_;refine CT.loop0 ?_)|refine gc ?_|fail)
 exact AtQ.f1 (HH := []) Tryz.results73 rfl rfl (fun w h => h)
theorem ownValues_nil : Sp B Tryz.prog 74 [.slice none 0 0] R [] (fun v H' => v = .bool true ∧ H' = []) := by
 refine Sp.body Tryz.func74 rfl Tryz.ntmps74 (by simp) ?_
 simp only [argE, List.cons_append, List.nil_append, Nat.zero_add, Nat.reduceAdd]
 repeat' (first|refine gS ?_|(refine gv ?_;(refine⟨fun hc=>?_,fun hc=>?_⟩<;>first|(exfalso;omega)|skip))|(refine CT.id_ ?_;refine CT.loop0 ?_)|refine gc ?_|fail)
 exact AtQ.f1 (HH := []) Tryz.results74 rfl rfl (fun w h => h)
theorem ownFields_nil : Sp B Tryz.prog 75 [.slice none 0 0] R [] (fun v H' => v = .bool true ∧ H' = []) := by
 refine Sp.body Tryz.func75 rfl Tryz.ntmps75 (by simp) ?_
 simp only [argE, List.cons_append, List.nil_append, Nat.zero_add, Nat.reduceAdd]
 repeat' (first|refine gS ?_|(refine gv ?_;(refine⟨fun hc=>?_,fun hc=>?_⟩<;>first|(exfalso;omega)|skip))|(refine CT.id_ ?_;refine CT.loop0 ?_)|refine gc ?_|fail)
 exact AtQ.f1 (HH := []) Tryz.results75 rfl rfl (fun w h => h)
theorem ownMsgs_nil : Sp B Tryz.prog 76 [.slice none 0 0] R [] (fun v H' => v = .bool true ∧ H' = []) := by
 refine Sp.body Tryz.func76 rfl Tryz.ntmps76 (by simp) ?_
 simp only [argE, List.cons_append, List.nil_append, Nat.zero_add, Nat.reduceAdd]
 repeat' (first|refine gS ?_|(refine gv ?_;(refine⟨fun hc=>?_,fun hc=>?_⟩<;>first|(exfalso;omega)|skip))|(refine CT.id_ ?_;refine CT.loop0 ?_)|refine gc ?_|fail)
 exact AtQ.f1 (HH := []) Tryz.results76 rfl rfl (fun w h => h)
theorem ownBoxes_nil : Sp B Tryz.prog 77 [.slice none 0 0] R [] (fun v H' => v = .bool true ∧ H' = []) := by
 refine Sp.body Tryz.func77 rfl Tryz.ntmps77 (by simp) ?_
 simp only [argE, List.cons_append, List.nil_append, Nat.zero_add, Nat.reduceAdd]
 repeat' (first|refine gS ?_|(refine gv ?_;(refine⟨fun hc=>?_,fun hc=>?_⟩<;>first|(exfalso;omega)|skip))|(refine CT.id_ ?_;refine CT.loop0 ?_)|refine gc ?_|fail)
 exact AtQ.f1 (HH := []) Tryz.results77 rfl rfl (fun w h => h)
theorem ownResults_nil : Sp B Tryz.prog 78 [.slice none 0 0] R [] (fun v H' => v = .bool true ∧ H' = []) := by
 refine Sp.body Tryz.func78 rfl Tryz.ntmps78 (by simp) ?_
 simp only [argE, List.cons_append, List.nil_append, Nat.zero_add, Nat.reduceAdd]
 repeat' (first|refine gS ?_|(refine gv ?_;(refine⟨fun hc=>?_,fun hc=>?_⟩<;>first|(exfalso;omega)|skip))|(refine CT.id_ ?_;refine CT.loop0 ?_)|refine gc ?_|fail)
 exact AtQ.f1 (HH := []) Tryz.results78 rfl rfl (fun w h => h)
theorem ownDones_nil : Sp B Tryz.prog 79 [.slice none 0 0] R [] (fun v H' => v = .bool true ∧ H' = []) := by
 refine Sp.body Tryz.func79 rfl Tryz.ntmps79 (by simp) ?_
 simp only [argE, List.cons_append, List.nil_append, Nat.zero_add, Nat.reduceAdd]
 repeat' (first|refine gS ?_|(refine gv ?_;(refine⟨fun hc=>?_,fun hc=>?_⟩<;>first|(exfalso;omega)|skip))|(refine CT.id_ ?_;refine CT.loop0 ?_)|refine gc ?_|fail)
 exact AtQ.f1 (HH := []) Tryz.results79 rfl rfl (fun w h => h)
set_option maxHeartbeats 4000000 in
theorem own_fn {p : Nat} {es : List ES} (hk : es.length ≤ 1000000) (hn : ∀ e ∈ es, e.n ≤ 1073741824) :
  Sp B Tryz.prog 19 [ptr p] R [BkY p es] (fun v H' => v = .bool true ∧ H' = []) := by
 refine Sp.body Tryz.func19 rfl Tryz.ntmps19 (by simp) ?_
 simp only [argE, List.cons_append, List.nil_append, Nat.zero_add, Nat.reduceAdd]
 refine CT.ex (fun x => ?_)
 obtain ⟨ab, cb⟩ := x
 simp only [List.cons_append, List.nil_append]
 try refine gL ?_
 (refine RT.call T rfl fR_ (ownBytes_nil) rfl rfl rfl ?_; rintro _ _ ⟨rfl, rfl⟩; try simp only [List.cons_append, List.nil_append])
 try refine gL ?_
 (refine RT.call T rfl fR_ (ownTexts_nil) rfl rfl rfl ?_; rintro _ _ ⟨rfl, rfl⟩; try simp only [List.cons_append, List.nil_append])
 try refine gL ?_
 (refine RT.call T rfl fR_ (ownInts_nil) rfl rfl rfl ?_; rintro _ _ ⟨rfl, rfl⟩; try simp only [List.cons_append, List.nil_append])
 try refine gL ?_
 (refine RT.call T rfl fR_ (ownSpans_nil) rfl rfl rfl ?_; rintro _ _ ⟨rfl, rfl⟩; try simp only [List.cons_append, List.nil_append])
 try refine gL ?_
 (refine RT.call T rfl fR_ (ownImports_nil) rfl rfl rfl ?_; rintro _ _ ⟨rfl, rfl⟩; try simp only [List.cons_append, List.nil_append])
 try refine gL ?_
 (refine RT.call T rfl fR_ (ownEnumValues_nil) rfl rfl rfl ?_; rintro _ _ ⟨rfl, rfl⟩; try simp only [List.cons_append, List.nil_append])
 try refine gL ?_
 (refine RT.call T rfl fR_ (ownFieldDefs_nil) rfl rfl rfl ?_; rintro _ _ ⟨rfl, rfl⟩; try simp only [List.cons_append, List.nil_append])
 try refine gL ?_
 refine RT.call T rfl fR_ (ownSym_fn hk hn) rfl rfl rfl ?_
 rintro _ _ ⟨rfl, rfl⟩
 simp only [List.cons_append, List.nil_append]
 try refine gL ?_
 (refine RT.call T rfl fR_ (ownRows_nil) rfl rfl rfl ?_; rintro _ _ ⟨rfl, rfl⟩; try simp only [List.cons_append, List.nil_append])
 try refine gL ?_
 (refine RT.call T rfl fR_ (ownTokens_nil) rfl rfl rfl ?_; rintro _ _ ⟨rfl, rfl⟩; try simp only [List.cons_append, List.nil_append])
 try refine gL ?_
 (refine RT.call T rfl fR_ (ownVerdicts_nil) rfl rfl rfl ?_; rintro _ _ ⟨rfl, rfl⟩; try simp only [List.cons_append, List.nil_append])
 try refine gL ?_
 (refine RT.call T rfl fR_ (ownCached_nil) rfl rfl rfl ?_; rintro _ _ ⟨rfl, rfl⟩; try simp only [List.cons_append, List.nil_append])
 try refine gL ?_
 (refine RT.call T rfl fR_ (ownPinned_nil) rfl rfl rfl ?_; rintro _ _ ⟨rfl, rfl⟩; try simp only [List.cons_append, List.nil_append])
 try refine gL ?_
 (refine RT.call T rfl fR_ (ownRaws_nil) rfl rfl rfl ?_; rintro _ _ ⟨rfl, rfl⟩; try simp only [List.cons_append, List.nil_append])
 try refine gL ?_
 (refine RT.call T rfl fR_ (ownEnums_nil) rfl rfl rfl ?_; rintro _ _ ⟨rfl, rfl⟩; try simp only [List.cons_append, List.nil_append])
 try refine gL ?_
 (refine RT.call T rfl fR_ (ownMessages_nil) rfl rfl rfl ?_; rintro _ _ ⟨rfl, rfl⟩; try simp only [List.cons_append, List.nil_append])
 try refine gL ?_
 (refine RT.call T rfl fR_ (ownFiles_nil) rfl rfl rfl ?_; rintro _ _ ⟨rfl, rfl⟩; try simp only [List.cons_append, List.nil_append])
 try refine gL ?_
 (refine RT.call T rfl fR_ (ownValues_nil) rfl rfl rfl ?_; rintro _ _ ⟨rfl, rfl⟩; try simp only [List.cons_append, List.nil_append])
 try refine gL ?_
 (refine RT.call T rfl fR_ (ownFields_nil) rfl rfl rfl ?_; rintro _ _ ⟨rfl, rfl⟩; try simp only [List.cons_append, List.nil_append])
 try refine gL ?_
 (refine RT.call T rfl fR_ (ownMsgs_nil) rfl rfl rfl ?_; rintro _ _ ⟨rfl, rfl⟩; try simp only [List.cons_append, List.nil_append])
 try refine gL ?_
 (refine RT.call T rfl fR_ (ownBoxes_nil) rfl rfl rfl ?_; rintro _ _ ⟨rfl, rfl⟩; try simp only [List.cons_append, List.nil_append])
 try refine gL ?_
 (refine RT.call T rfl fR_ (ownResults_nil) rfl rfl rfl ?_; rintro _ _ ⟨rfl, rfl⟩; try simp only [List.cons_append, List.nil_append])
 try refine gL ?_
 (refine RT.call T rfl fR_ (ownDones_nil) rfl rfl rfl ?_; rintro _ _ ⟨rfl, rfl⟩; try simp only [List.cons_append, List.nil_append])
 try refine gL ?_
 exact AtQ.f1 (HH := []) Tryz.results19 rfl rfl dR_
end Go.Proofs.YtdemnhdoadjhhaaGreatDoor
end
section
namespace Go.Proofs.YtdemnhdoadjhhaaGreatDoor
open Go.Sk
set_option maxRecDepth 100000
section
variable {B : World} {H : List HP} {w : World}
/-- A row that can be read, with a room as it is. -/
def RdC (B : World) (H : List HP) : Option Addr → Nat → Nat → Nat → List Value → Prop := fun a k c z xs => Rd B H a k c z xs ∧ c ≤ 9223372036854775807
theorem Has.rdc {a : Option Addr} {c : Nat} {e : TypeId} {sz k : Nat} {xs : List Value} (h : Has B H (Own a c e sz k xs)) (hS : Sat B H w) : RdC B H a k c sz xs :=
 ⟨h.rd hS, by obtain ⟨R, h1⟩ := h w hS; exact (Own.facts h1 .h).2.2⟩
theorem e5c_of (hS : Sat B H w) {e : EnumT} (h : ∀ p ∈ eRows e, Has B H p) : e5 (RdC B H) e := by
 unfold eRows at h
 simp only [List.forall_mem_cons] at h
 obtain ⟨h1, h2, h3, _⟩ := h
 exact ⟨Has.rdc h1 hS, Has.rdc h2 hS, Has.rdc h3 hS⟩
theorem e5cL_of (hS : Sat B H w) {l : List EnumT} (h : Has B H (Bag (l.flatMap eRows))) : ∀ e ∈ l, e5 (RdC B H) e := fun e he => e5c_of hS fun p hp => h.bag (List.mem_flatMap.2 ⟨e, he, hp⟩)
mutual
theorem m5c_of (hS : Sat B H w) : ∀ {m : MsgT}, (∀ p ∈ mRows m, Has B H p) → m5 (RdC B H) m
 | .mk nm fields oneofs ma mc msgs enums res names, h => by
  unfold mRows at h
  unfold m5
  simp only [List.forall_mem_cons] at h
  obtain ⟨h1, h2, h3, h4, h5, h6, h7, h8, _⟩ := h
  exact ⟨Has.rdc h1 hS, Has.rdc h2 hS, Has.rdc h3 hS, Has.rdc h4 hS, Has.rdc h5 hS, m5cL_of hS h6, Has.rdc h7 hS, e5cL_of hS h8⟩
theorem m5cL_of (hS : Sat B H w) : ∀ {l : List MsgT}, Has B H (Bag (mRowsL l)) → m5L (RdC B H) l
 | [], _ => by unfold m5L; trivial
 | m :: l, h => by
  unfold m5L
  unfold mRowsL at h
  exact ⟨m5c_of hS fun p hp => h.bag (List.mem_append_left _ hp), m5cL_of hS fun w' hS' => by
   obtain ⟨R, h1⟩ := h w' hS'
   have h2 : Sat B (mRows m ++ (mRowsL l ++ R)) w' := by
    have := Bag.open_ h1
    rwa [List.append_assoc] at this
   exact ⟨mRows m ++ R, Bag.close (h2.mono fun hh hs => by
    have h3 : star ((mRowsL l ++ R) ++ mRows m) hh := star_comm hs
    rw [List.append_assoc] at h3
    obtain ⟨x, y, d, lx, ly, hb, hr⟩ := star_cut _ h3
    exact star_glue _ d lx ly hb (star_comm hr))⟩⟩
end
theorem f5c_of (hS : Sat B H w) {l : List FileT} (h : Has B H (Bag (l.flatMap fRows))) : ∀ f ∈ l, f5 (RdC B H) f := fun f hf => by
 have hm : ∀ p ∈ fRows f, Has B H p := fun p hp => h.bag (List.mem_flatMap.2 ⟨f, hf, hp⟩)
 unfold fRows at hm
 simp only [List.forall_mem_cons] at hm
 obtain ⟨h1, h2, h3, h4, h5, _⟩ := hm
 exact ⟨Has.rdc h1 hS, Has.rdc h2 hS, m5cL_of hS (by rw [mRowsL_flat]; exact h3), Has.rdc h4 hS, e5cL_of hS h5⟩
theorem row5_in {α : Type} {f : α → List Value} {z c : Nat} {a : Option Addr} {l : List α} {x : α} (h : row5 (RdC B H) z f x a c l) (hz : ∀ x, (f x).length = z) : Rd B H a l.length c z (l.flatMap f) ∧ l.length ≤ c ∧ c ≤ 9223372036854775807 :=
 ⟨row5_pre hz h.1, by have := h.1.le; omega, h.2⟩
theorem tx5_in {r : Rw Txt} (h : tx5 (RdC B H) r) : Rd B H r.a r.l.length r.c 1 (r.l.map vS) ∧ r.l.length ≤ r.c ∧ r.c ≤ 9223372036854775807 := by
 refine ⟨?_, by have := h.1.le; omega, h.2⟩
 have h2 := Rd.subT (j := r.l.length) h.1 (by omega)
 rwa [List.take_left] at h2
theorem e5_in {e : EnumT} (h : e5 (RdC B H) e) : e.In (Rd B H) := ⟨(row5_in h.1 (fun _ => rfl)).1, (row5_in h.2.1 (fun _ => rfl)).1, (tx5_in h.2.2).1⟩
theorem e5_ok {e e0 : EnumT} (h : e5 (RdC B H) e) (he : EnumT.er e = EnumT.er e0) (ho : e0.Ok) : e.Ok := by
 obtain ⟨h1, h2, h3⟩ := h
 simp only [EnumT.er, barR, EnumT.mk.injEq, Rw.mk.injEq, true_and] at he
 obtain ⟨q1, q2, q3, q4, q5⟩ := he
 obtain ⟨o1, o2, o3, o4, o5, o6, o7⟩ := ho
 refine ⟨q1 ▸ o1, ⟨q2 ▸ o2.1, (row5_in h1 (fun _ => rfl)).2⟩, q2 ▸ o3, ⟨q4 ▸ o4.1, (row5_in h2 (fun _ => rfl)).2⟩, q4 ▸ o5, ⟨q5 ▸ o6.1, (tx5_in h3).2⟩, q5 ▸ o7⟩
theorem e5L_ok : ∀ {l l0 : List EnumT}, (∀ e ∈ l, e5 (RdC B H) e) → l.map EnumT.er = l0.map EnumT.er → (∀ e ∈ l0, e.Ok) → ∀ e ∈ l, e.Ok
 | [], _, _, _, _ => fun e he => by cases he
 | x :: l, [], _, h, _ => by cases h
 | x :: l, y :: l0, h, he, ho => by
  simp only [List.map_cons, List.cons.injEq] at he
  intro e hm
  rcases List.mem_cons.1 hm with rfl | hm
  ·exact e5_ok (h _ List.mem_cons_self) he.1 (ho _ List.mem_cons_self)
  ·exact e5L_ok (fun e he => h e (List.mem_cons_of_mem _ he)) he.2 (fun e he => ho e (List.mem_cons_of_mem _ he)) e hm
mutual
theorem m5_in : ∀ {m : MsgT}, m5 (RdC B H) m → m.In (Rd B H)
 | .mk nm fields oneofs ma mc msgs enums res names, h => by
  unfold m5 at h
  unfold MsgT.In
  obtain ⟨h1, h2, h3, h4, h5, h6, h7, h8⟩ := h
  exact ⟨(row5_in h1 (fun _ => rfl)).1, (tx5_in h3).1, (row5_in h5 (fun _ => rfl)).1, (row5_in h7 (fun _ => rfl)).1, fun e he => e5_in (h8 e he), (row5_in h2 (fun _ => rfl)).1, (tx5_in h4).1, m5L_in h6⟩
theorem m5L_in : ∀ {l : List MsgT}, m5L (RdC B H) l → MsgT.InL (Rd B H) l
 | [], _ => by unfold MsgT.InL; trivial
 | m :: l, h => by
  unfold m5L at h
  unfold MsgT.InL
  exact ⟨m5_in h.1, m5L_in h.2⟩
end
theorem mEr_len {l l0 : List MsgT} (h : mErL l = mErL l0) : l.length = l0.length := by
 rw [mErL_map, mErL_map] at h
 have := congrArg List.length h
 simpa using this
theorem er_len {l l0 : List EnumT} (h : l.map EnumT.er = l0.map EnumT.er) : l.length = l0.length := by
 have := congrArg List.length h
 simpa using this
mutual
theorem m5_ok : ∀ {m m0 : MsgT}, m5 (RdC B H) m → mEr m = mEr m0 → m0.Ok → m.Ok
 | .mk nm fields oneofs ma mc msgs enums res names, .mk nm0 fields0 oneofs0 ma0 mc0 msgs0 enums0 res0 names0, h, he, ho => by
  unfold m5 at h
  unfold mEr at he
  unfold MsgT.Ok at ho ⊢
  obtain ⟨h1, h2, h3, h4, h5, h6, h7, h8⟩ := h
  obtain ⟨o1, ⟨o2, o2'⟩, ⟨o3, o3'⟩, o4, ⟨o5, o5'⟩, ⟨o6, o6'⟩, ⟨o7, o7'⟩, o8⟩ := ho
  simp only [barR, MsgT.mk.injEq, Rw.mk.injEq, true_and] at he
  obtain ⟨q1, q2, q3, q4, q5, q6, q7⟩ := he
  exact ⟨q1 ▸ o1, ⟨⟨q2 ▸ o2.1, (row5_in h1 (fun _ => rfl)).2⟩, q2 ▸ o2'⟩, ⟨⟨q3 ▸ o3.1, (tx5_in h3).2⟩, q3 ▸ o3'⟩, ⟨by dsimp only; rw [mEr_len q4]; exact o4.1, (row5_in h5 (fun _ => rfl)).2⟩,
   ⟨⟨by rw [er_len q5]; exact o5.1, (row5_in h7 (fun _ => rfl)).2⟩, e5L_ok h8 q5 o5'⟩, ⟨⟨q6 ▸ o6.1, (row5_in h2 (fun _ => rfl)).2⟩, q6 ▸ o6'⟩, ⟨⟨q7 ▸ o7.1, (tx5_in h4).2⟩, q7 ▸ o7'⟩, m5L_ok h6 q4 o8⟩
theorem m5L_ok : ∀ {l l0 : List MsgT}, m5L (RdC B H) l → mErL l = mErL l0 → MsgT.OkL l0 → MsgT.OkL l
 | [], _, _, _, _ => by unfold MsgT.OkL; trivial
 | m :: l, [], _, he, _ => by unfold mErL at he; cases he
 | m :: l, m0 :: l0, h, he, ho => by
  unfold m5L at h
  unfold mErL at he
  unfold MsgT.OkL at ho ⊢
  simp only [List.cons.injEq] at he
  exact ⟨m5_ok h.1 he.1 ho.1, m5L_ok h.2 he.2 ho.2⟩
end
end
theorem enumsR_er {sc : Txt} : ∀ {l : List EnumT} {g : List Txt}, enumsR sc (l.map EnumT.er) g = enumsR sc l g
 | [], _ => rfl
 | e :: l, g => by
  rw [List.map_cons, enumsR, enumsR]
  have h : enumR (EnumT.er e) sc g = enumR e sc g := rfl
  rw [h]
  congr 1
  funext g
  exact enumsR_er
mutual
theorem msgR_er : ∀ {m : MsgT} {sc : Txt} {d : Nat} {g : List Txt}, msgR (mEr m) sc d g = msgR m sc d g
 | .mk nm fields oneofs ma mc msgs enums res names, sc, d, g => by
  unfold mEr
  rw [msgR, msgR]
  simp only [barR, enumsR_er]
  have h : ∀ g, msgsR (mErL msgs) (joinL [sc, nm]) (d + 1) g = msgsR msgs (joinL [sc, nm]) (d + 1) g := fun g => msgsR_er
  simp only [h]
  rfl
theorem msgsR_er : ∀ {l : List MsgT} {sc : Txt} {d : Nat} {g : List Txt}, msgsR (mErL l) sc d g = msgsR l sc d g
 | [], sc, d, g => by unfold mErL; rfl
 | m :: l, sc, d, g => by
  unfold mErL
  rw [msgsR, msgsR, msgR_er]
  congr 1
  funext g
  exact msgsR_er
end
theorem symEs_er {fl sc : Txt} {l : List EnumT} : (l.map EnumT.er).flatMap (symE fl sc) = l.flatMap (symE fl sc) := by
 rw [List.flatMap_map]
 rfl
mutual
theorem symM_er {fl : Txt} : ∀ {m : MsgT} {sc : Txt}, symM fl (mEr m) sc = symM fl m sc
 | .mk nm fields oneofs ma mc msgs enums res names, sc => by
  unfold mEr
  rw [symM, symM]
  simp only [barR, symEs_er]
  rw [symMs_er]
theorem symMs_er {fl : Txt} : ∀ {l : List MsgT} {sc : Txt}, symMs fl (mErL l) sc = symMs fl l sc
 | [], sc => by unfold mErL; rfl
 | m :: l, sc => by
  unfold mErL
  rw [symMs, symMs, symM_er, symMs_er]
end
theorem esm_er {l : List EnumT} : (∀ e ∈ l.map EnumT.er, ESm e) ↔ ∀ e ∈ l, ESm e := by
 rw [List.forall_mem_map]
 exact Iff.rfl
theorem enm_er {l : List EnumT} : (∀ e ∈ l.map EnumT.er, ENm e) ↔ ∀ e ∈ l, ENm e := by
 rw [List.forall_mem_map]
 exact Iff.rfl
theorem mErL_len (l : List MsgT) : (mErL l).length = l.length := by rw [mErL_map, List.length_map]
theorem cntE_er {l : List EnumT} : ((l.map EnumT.er).map cntE).sum = (l.map cntE).sum := by
 rw [List.map_map]
 rfl
mutual
theorem sm_er : ∀ {m : MsgT}, (mEr m).Sm ↔ m.Sm
 | .mk nm fields oneofs ma mc msgs enums res names => by
  unfold mEr MsgT.Sm
  simp only [barR, esm_er, List.length_map, mErL_len]
  rw [smL_er]
theorem smL_er : ∀ {l : List MsgT}, MsgT.SmL (mErL l) ↔ MsgT.SmL l
 | [] => by unfold mErL; exact Iff.rfl
 | m :: l => by
  unfold mErL MsgT.SmL
  rw [sm_er, smL_er]
end
mutual
theorem nm_er : ∀ {m : MsgT}, (mEr m).Nm ↔ m.Nm
 | .mk nm fields oneofs ma mc msgs enums res names => by
  unfold mEr MsgT.Nm
  simp only [barR, enm_er]
  rw [nmL_er]
theorem nmL_er : ∀ {l : List MsgT}, MsgT.NmL (mErL l) ↔ MsgT.NmL l
 | [] => by unfold mErL; exact Iff.rfl
 | m :: l => by
  unfold mErL MsgT.NmL
  rw [nm_er, nmL_er]
end
mutual
theorem ful_er : ∀ {m : MsgT} {ah : Int}, (mEr m).Ful ah ↔ m.Ful ah
 | .mk nm fields oneofs ma mc msgs enums res names, ah => by
  unfold mEr MsgT.Ful
  rw [fulL_er]
theorem fulL_er : ∀ {l : List MsgT} {ah : Int}, MsgT.FulL (mErL l) ah ↔ MsgT.FulL l ah
 | [], ah => by unfold mErL; exact Iff.rfl
 | m :: l, ah => by
  unfold mErL MsgT.FulL
  rw [ful_er, fulL_er]
end
mutual
theorem cnt_er : ∀ {m : MsgT}, cntM (mEr m) = cntM m
 | .mk nm fields oneofs ma mc msgs enums res names => by
  unfold mEr cntM
  simp only [barR, cntE_er]
  rw [cntL_er]
theorem cntL_er : ∀ {l : List MsgT}, cntMs (mErL l) = cntMs l
 | [] => by unfold mErL; rfl
 | m :: l => by
  unfold mErL cntMs
  rw [cnt_er, cntL_er]
end
theorem fsm_er {f : FileT} : FSm (fEr f) ↔ FSm f := by
 have hm : (fEr f).msgs = mErL f.msgs := (mErL_map _).symm
 constructor
 ·rintro ⟨h1, h2, h3, h4, h5, h6, h7, h8, h9, h10⟩
  rw [hm] at h2 h3 h6 h9 h10
  exact ⟨h1, by rwa [mErL_len] at h2, smL_er.1 h3, by simpa [fEr] using h4, esm_er.1 h5, nmL_er.1 h6, h7, enm_er.1 h8, fulL_er.1 h9, by
   rw [cntL_er] at h10
   rw [← cntE_er]
   exact h10⟩
 ·rintro ⟨h1, h2, h3, h4, h5, h6, h7, h8, h9, h10⟩
  exact ⟨h1, by rwa [hm, mErL_len], by rw [hm]; exact smL_er.2 h3, by simpa [fEr] using h4, esm_er.2 h5, by rw [hm]; exact nmL_er.2 h6, h7, enm_er.2 h8, by rw [hm]; exact fulL_er.2 h9, by
   rw [hm, cntL_er]
   rw [← cntE_er] at h10
   exact h10⟩
theorem fileR_er {f : FileT} : fileR (fEr f) = fileR f := by
 unfold fileR fEr
 simp only [barR]
 have h : ∀ g, msgsR (f.msgs.map mEr) f.pack 0 g = msgsR f.msgs f.pack 0 g := fun g => by rw [← mErL_map, msgsR_er]
 simp only [h, enumsR_er]
 rfl
theorem symF_er {f : FileT} : symF (fEr f) = symF f := by
 unfold symF fEr
 simp only
 rw [symEs_er, ← mErL_map, symMs_er]
/-- A file that is lent. -/
theorem lent_file {B : World} {H : List HP} {f3 f : FileT} (h : f5 (RdC B H) f3) (he : fEr f3 = fEr f) (ho : f.Ok) (hs : FSm f) : f3.In (Rd B H) ∧ f3.Ok ∧ FSm f3 ∧ checkL f3 = checkL f ∧ symF f3 = symF f := by
 obtain ⟨h1, h2, h3, h4, h5⟩ := h
 have hs3 : FSm f3 := by rw [← fsm_er, he, fsm_er]; exact hs
 have hr : fileR f3 = fileR f := by rw [← fileR_er, he, fileR_er]
 have hy : symF f3 = symF f := by rw [← symF_er, he, symF_er]
 refine ⟨⟨(row5_in h1 (fun _ => rfl)).1, (row5_in h2 (fun _ => rfl)).1, fun m hm => MsgT.inL_mem (m5L_in h3) hm, (row5_in h4 (fun _ => rfl)).1, fun e he => e5_in (h5 e he)⟩, ?_, hs3, by unfold checkL; rw [hr], hy⟩
 simp only [fEr, barR, FileT.mk.injEq, Rw.mk.injEq, true_and] at he
 obtain ⟨q1, q2, q3, q4, q5⟩ := he
 rw [← mErL_map, ← mErL_map] at q4
 have ho4 := ho.msgs
 exact ⟨q1 ▸ ho.path, q2 ▸ ho.pack, ⟨⟨q3 ▸ ho.imps.1.1, (row5_in h1 (fun _ => rfl)).2⟩, q3 ▸ ho.imps.2⟩, ⟨⟨by dsimp only; rw [mEr_len q4]; exact ho4.1.1, (row5_in h2 (fun _ => rfl)).2⟩, fun m hm => MsgT.okL_mem (m5L_ok h3 q4 (MsgT.okL_of ho4.2)) hm⟩,
  ⟨⟨by rw [er_len q5]; exact ho.enums.1.1, (row5_in h4 (fun _ => rfl)).2⟩, e5L_ok h5 q5 ho.enums.2⟩⟩
end Go.Proofs.YtdemnhdoadjhhaaGreatDoor
end
section
namespace Go.Proofs.YtdemnhdoadjhhaaGreatDoor
open Go.Sk
set_option maxRecDepth 100000
theorem f5_mono {X Y : Option Addr → Nat → Nat → Nat → List Value → Prop} (h : ∀ a k c z xs, X a k c z xs → Y a k c z xs) : ∀ {f : FileT}, f5 X f → f5 Y f := by
 have he : ∀ {e : EnumT}, e5 X e → e5 Y e := fun h1 => ⟨h _ _ _ _ _ h1.1, h _ _ _ _ _ h1.2.1, h _ _ _ _ _ h1.2.2⟩
 have hm : ∀ n, ∀ l : List MsgT, MsgT.deepL l ≤ n → m5L X l → m5L Y l := fun n => by
  induction n with
  | zero =>
   intro l hl h1
   match l, hl, h1 with
   | [], _, _ => unfold m5L; trivial
   | .mk _ _ _ _ _ _ _ _ _ :: l, hl, _ => unfold MsgT.deepL MsgT.deep at hl; omega
  | succ n ih =>
   intro l
   induction l with
   | nil => intro _ _; unfold m5L; trivial
   | cons m l il =>
    intro hl h1
    unfold MsgT.deepL at hl
    unfold m5L at h1 ⊢
    refine ⟨?_, il (by omega) h1.2⟩
    have h2 := h1.1
    cases m with | mk nm fields oneofs ma mc msgs enums res names =>
    unfold MsgT.deep at hl
    unfold m5 at h2 ⊢
    obtain ⟨a1, a2, a3, a4, a5, a6, a7, a8⟩ := h2
    exact ⟨h _ _ _ _ _ a1, h _ _ _ _ _ a2, h _ _ _ _ _ a3, h _ _ _ _ _ a4, h _ _ _ _ _ a5, ih _ (by omega) a6, h _ _ _ _ _ a7, fun e q => he (a8 e q)⟩
 rintro f ⟨h1, h2, h3, h4, h5⟩
 exact ⟨h _ _ _ _ _ h1, h _ _ _ _ _ h2, hm _ _ (Nat.le_refl _) h3, h _ _ _ _ _ h4, fun e q => he (h5 e q)⟩
theorem two_of {l : List FileT} {f o : FileT} (h : l.map fEr = [f, o].map fEr) : ∃ f3 o3, l = [f3, o3] ∧ fEr f3 = fEr f ∧ fEr o3 = fEr o := by
 match l, h with
 | [], h => cases h
 | [_], h => simp at h
 | [f3, o3], h =>
  simp only [List.map_cons, List.map_nil, List.cons.injEq, and_true] at h
  exact ⟨f3, o3, rfl, h.1, h.2⟩
 | _ :: _ :: _ :: _, h => simp at h
theorem sym_same {f : FileT} {a b : List SymT} (ha : a.Perm (symF f)) (hb : b.Perm (symF f)) (h1 : Srt befB a) (h2 : Srt befB b) : a = b :=
 srt_eq (fun x y hx hy q1 q2 => bef_uniq q1 q2 ((symF_file x (ha.mem_iff.1 hx)).trans (symF_file y (hb.mem_iff.1 hy)).symm)) (ha.trans hb.symm) h1 h2
attribute [local irreducible] Cs Own Ex Pu Yld RT LJ QJ AtQ CT Rd QSp Sp FinQ Then LoopQ CutQ DT TakeQ EffQ
attribute [local irreducible] Bag Twi BkY
variable {B : World} {R : List HP}
theorem newBook {p : Nat} {w : World} {H : List HP} (h : Sat B (Cs p 65 (bkC nil0) :: H) w) : Sat B (BkY p [] :: H) w := by
 unfold BkY
 exact Sat.ex_in (none, 0) ((Sat.nilOwn (e := 35) (sz := 1) (Bag.nil_ h)).frd (Ps := [_, _, _]) (Qs := []) fR_)
set_option maxHeartbeats 32000000 in
theorem does_fn {mM : Int} (haw : ∀ R, Sp B Tryz.prog 8 [] R [] (fun v H' => v = .bool true ∧ H' = [])) (hU : Lib.Utf8Tabs 1 2 B) (hM : B.cell? ⟨0, 0, none⟩ = some (.int .i64 mM))
  {f o : FileT} (hin : f.In (Rd B R)) (hok : f.Ok) (hin2 : o.In (Rd B R)) (hok2 : o.Ok) :
  Sp B Tryz.prog 3 [.agg f.cells.toArray, .agg o.cells.toArray] R [] (fun v H' => v = .bool true ∧ H' = []) := by
 refine Sp.body Tryz.func3 rfl Tryz.ntmps3 (by simp) ?_
 simp only [argE, List.cons_append, List.nil_append, Nat.zero_add, Nat.reduceAdd]
 repeat' (first|refine gL ?_|(refine gb ?_;intro b)|fail)
 revert b
 intro ob
 revert b
 intro fb
 refine RT.call T rfl fR_ (haw _) rfl rfl rfl ?_
 rintro _ _ ⟨rfl, rfl⟩
 try simp only [List.cons_append, List.nil_append]
 try refine gQ ?_
 refine CT.drawn [Cs ob 26 o.cells, Cs fb 26 f.cells] 3 mixed ?_
 (refine DT.takes (k := 4) [0, 2] [1, 3] (fun w h => Sat.ones (by (repeat (first|exact Fr.nil|(apply Fr.cons;focus ((repeat constructor);done))))) h) (by kernel_rfl) (by kernel_rfl) (by kernel_rfl) rfl (Clos.ofB (by kernel_rfl)) ?_)
 try refine gM ?_
 refine AtQ.take ?_
 (refine DT.eff 1 rfl (by kernel_rfl) ?_)
 refine RT.call T rfl fR_ (weightB_fn (f := f) (FileT.In.mono (fun _ _ _ _ _ h => (rD (h))) hin) hok) rfl rfl rfl ?_
 rintro _ _ ⟨⟨w1, rfl, hw10, hw11, hw1⟩, rfl⟩
 try simp only [List.cons_append, List.nil_append]
 (refine RT.nil ?_; refine AtQ.eff (fun w h => Sat.ones fR_ h) ?_)
 (refine DT.eff 3 rfl (by kernel_rfl) ?_)
 refine RT.call T rfl fR_ (weightB_fn (f := o) (FileT.In.mono (fun _ _ _ _ _ h => (rD (h))) hin2) hok2) rfl rfl rfl ?_
 rintro _ _ ⟨⟨w2, rfl, hw20, hw21, hw2⟩, rfl⟩
 try simp only [List.cons_append, List.nil_append]
 (refine RT.nil ?_; refine AtQ.eff' (by kernel_rfl) ?_)
 (refine DT.eff 4 rfl (by kernel_rfl) ?_)
 repeat' (first|refine gL ?_|(refine gv ?_;refine gk ?_)|fail)
 refine AtQ.eff' (by kernel_rfl) ?_
 (refine DT.eff 5 rfl (by kernel_rfl) ?_)
 repeat' (first|refine gL ?_|(refine gv ?_;(refine⟨fun hc=>?_,fun hc=>?_⟩<;>first|(exfalso;omega)|skip))|fail)
 all_goals
  refine AtQ.eff' (by kernel_rfl) ?_
  (refine DT.done (by kernel_rfl) ?_)
  try refine gM ?_
 ·exact AtQ.f1 (HH := []) Tryz.results3 rfl rfl dR_
 have hf := hw1 (by omega)
 have ho := hw2 (by omega)
 refine RT.bsA T (l := [f, o].flatMap FileT.cells) rfl rfl rfl rfl rfl rfl rfl rfl (fun a2 => ?_)
 try refine gL ?_
 have hmem : ∀ {P : FileT → Prop}, P f → P o → ∀ x ∈ [f, o], P x := fun h1 h2 x hx => by
  rcases List.mem_cons.1 hx with rfl | hx
  ·exact h1
  ·rw [List.mem_singleton.1 hx]; exact h2
 refine RT.call T rfl fR_ (lentF_fn (r := ⟨a2, 2, [f, o]⟩) (Own.rd sE_ rfl (Nat.le_refl _)) (show 2 ≤ 2097152 by decide)
  (hmem (FileT.In.mono (fun _ _ _ _ _ h => (rD (h))) hin) (FileT.In.mono (fun _ _ _ _ _ h => (rD (h))) hin2)) (hmem hf ho)) rfl rfl rfl ?_
 rintro _ _ ⟨a3, c3, l3, rfl, hl3, rfl⟩
 simp only [List.cons_append, List.nil_append]
 refine RT.fact (p := ∀ f ∈ l3, f5 (RdC B _) f) (fun w h => f5c_of h (Has.sel sE_)) (fun hf5 => ?_)
 refine RT.fact (p := row5 (Rd B _) 5 FileT.cells lentFl a3 c3 l3) (fun w h => Has.rd (Has.sel .h) h) (fun hrow => ?_)
 obtain ⟨f3, o3, rfl, hf3, ho3⟩ := two_of hl3
 have g1 := hf5 f3 List.mem_cons_self
 have g2 := hf5 o3 (List.mem_cons_of_mem _ List.mem_cons_self)
 obtain ⟨fi, fk, fs, fc, fy⟩ := lent_file g1 hf3 hok hf
 obtain ⟨oi, ok, os, oc, oy⟩ := lent_file g2 ho3 hok2 ho
 have hr0 := row5_pre (f := FileT.cells) (z := 5) (fun _ => rfl) hrow
 have hsb : ∀ x ∈ [f3, o3], f5 (Rd B _) x := fun x hx => f5_mono (fun _ _ _ _ _ h => h.1) (hf5 x hx)
 clear g1 g2 hf5
 unfold row5 at hrow
 try refine gL ?_
 refine RT.ix T (j := 0) rfl rfl rfl (rD (hr0)) (by decide) (show (0 : Int) < 2 by decide) rfl rfl rfl ?_
 refine RT.ldra T rfl (rD (hr0)) (l := f3.cells) rfl rfl rfl rfl rfl ?_
 skip
 refine RT.call T rfl fR_ (checkC_fn (f := f3) hU hM (FileT.In.mono (fun _ _ _ _ _ h => (rD (h))) fi) fk fs.ns) rfl rfl rfl ?_
 rintro _ _ ⟨rfl, rfl⟩
 simp only [List.nil_append]
 rw [fc]
 repeat' (first|refine gM ?_|(refine gb ?_;intro b)|fail)
 revert b
 intro b8
 refine RT.ix T (j := 5) rfl rfl rfl (rD (hr0)) (by decide) (show (1 : Int) < 2 by decide) rfl rfl rfl ?_
 refine RT.ldra T rfl (rD (hr0)) (l := o3.cells) rfl rfl rfl rfl rfl ?_
 skip
 refine RT.call T rfl fR_ (checkC_fn (f := o3) hU hM (FileT.In.mono (fun _ _ _ _ _ h => (rD (h))) oi) ok os.ns) rfl rfl rfl ?_
 rintro _ _ ⟨rfl, rfl⟩
 simp only [List.nil_append]
 rw [oc]
 repeat' (first|refine gM ?_|(refine gb ?_;intro b)|fail)
 revert b
 intro b9
 refine RT.ix T (j := 0) rfl rfl rfl (rD (hr0)) (by decide) (show (0 : Int) < 2 by decide) rfl rfl rfl ?_
 refine RT.ldra T rfl (rD (hr0)) (l := f3.cells) rfl rfl rfl rfl rfl ?_
 skip
 refine RT.call T rfl fR_ (symbols_fn (f := f3) (FileT.In.mono (fun _ _ _ _ _ h => (rD (h))) fi) fk fs) rfl rfl rfl ?_
 rintro _ _ ⟨xa, xc, xl, rfl, hxc, hxp, hxs, rfl⟩
 simp only [List.cons_append, List.nil_append]
 try refine gL ?_
 refine RT.ix T (j := 5) rfl rfl rfl (rD (hr0)) (by decide) (show (1 : Int) < 2 by decide) rfl rfl rfl ?_
 refine RT.ldra T rfl (rD (hr0)) (l := o3.cells) rfl rfl rfl rfl rfl ?_
 skip
 refine RT.call T rfl fR_ (symbols_fn (f := o3) (FileT.In.mono (fun _ _ _ _ _ h => (rD (h))) oi) ok os) rfl rfl rfl ?_
 rintro _ _ ⟨ya, yc, yl, rfl, hyc, hyp, hys, rfl⟩
 simp only [List.cons_append, List.nil_append]
 try refine gL ?_
 refine RT.ix T (j := 0) rfl rfl rfl (rD (hr0)) (by decide) (show (0 : Int) < 2 by decide) rfl rfl rfl ?_
 refine RT.ldra T rfl (rD (hr0)) (l := f3.cells) rfl rfl rfl rfl rfl ?_
 skip
 refine RT.call T rfl fR_ (symbols_fn (f := f3) (FileT.In.mono (fun _ _ _ _ _ h => (rD (h))) fi) fk fs) rfl rfl rfl ?_
 rintro _ _ ⟨za, zc, zl, rfl, hzc, hzp, hzs, rfl⟩
 simp only [List.cons_append, List.nil_append]
 try refine gL ?_
 refine RT.ix T (j := 0) rfl rfl rfl (rD (hr0)) (by decide) (show (0 : Int) < 2 by decide) rfl rfl rfl ?_
 refine RT.ldra T rfl (rD (hr0)) (l := f3.cells) rfl rfl rfl rfl rfl ?_
 skip
 refine RT.call T rfl fR_ (checkC_fn (f := f3) hU hM (FileT.In.mono (fun _ _ _ _ _ h => (rD (h))) fi) fk fs.ns) rfl rfl rfl ?_
 rintro _ _ ⟨rfl, rfl⟩
 simp only [List.nil_append]
 rw [fc]
 repeat' (first|refine gM ?_|(refine gb ?_;intro b)|fail)
 revert b
 intro b13
 rw [fy] at hxp hzp
 rw [oy] at hyp
 refine RT.call T rfl fR_ (wholeF_fn (a := a3) (c := c3) (a' := a2) (c' := 2) (l := [f, o]) (l2 := [f3, o3]) (by unfold row5; exact (rD (hrow))) (fun x hx => f5_mono (fun _ _ _ _ _ h => (rD (h))) (hsb x hx)) hl3
  (Own.rd sE_ rfl (Nat.le_refl _)) (hmem (FileT.In.mono (fun _ _ _ _ _ h => (rD (h))) hin) (FileT.In.mono (fun _ _ _ _ _ h => (rD (h))) hin2)) (hmem hok hok2) (hmem hf ho) (show 2 ≤ 2097152 by decide)) rfl rfl rfl ?_
 rintro _ _ ⟨rfl, rfl⟩
 simp only [List.cons_append, List.nil_append]
 try refine gL ?_
 refine RT.call T rfl fR_ (spoilF_fn (a := a3) (c := c3) (l := [f3, o3])) rfl rfl rfl ?_
 rintro _ _ ⟨rfl, rfl⟩
 simp only [List.cons_append, List.nil_append]
 try refine gM ?_
 clear hrow hr0 hsb fi fk fs fc fy oi ok os oc oy
 refine RT.call T rfl fR_ (rcheck_fn (f := f) (FileT.In.mono (fun _ _ _ _ _ h => (rD (h))) hin) hok hf) rfl rfl rfl ?_
 rintro _ _ ⟨rfl, rfl⟩
 simp only [List.nil_append]
 repeat' (first|refine gM ?_|(refine gb ?_;intro b)|fail)
 revert b
 intro b15
 refine RT.call T rfl fR_ (rsymbolsS_fn (f := f) (FileT.In.mono (fun _ _ _ _ _ h => (rD (h))) hin) hok hf) rfl rfl rfl ?_
 rintro _ _ ⟨pa, pc, pl, rfl, hpc, hpp, hps, rfl⟩
 simp only [List.cons_append, List.nil_append]
 try refine gM ?_
 refine RT.call T rfl fR_ (rsymbolsS_fn (f := o) (FileT.In.mono (fun _ _ _ _ _ h => (rD (h))) hin2) hok2 ho) rfl rfl rfl ?_
 rintro _ _ ⟨qa, qc, ql, rfl, hqc, hqp, hqs, rfl⟩
 simp only [List.cons_append, List.nil_append]
 have hpl : pl.length ≤ 16777216 := by rw [hpp.length_eq, symF_len]; exact hf.cnt
 have hql : ql.length ≤ 16777216 := by rw [hqp.length_eq, symF_len]; exact ho.cnt
 obtain rfl := sym_same hxp hpp hxs hps
 obtain rfl := sym_same hzp hxp hzs hxs
 obtain rfl := sym_same hyp hqp hys hqs
 try refine gL ?_
 refine RT.call T rfl fR_ (sameSym_fn (l := zl) (a := xa) (c := xc) (a' := pa) (c' := pc) (own_rd sE_ hxc) (own_rd sE_ hpc) (by omega)) rfl rfl rfl ?_
 rintro _ _ ⟨rfl, rfl⟩
 simp only [List.nil_append]
 try refine gL ?_
 refine RT.call T rfl fR_ (sameSym_fn (l := zl) (a := za) (c := zc) (a' := pa) (c' := pc) (own_rd sE_ hzc) (own_rd sE_ hpc) (by omega)) rfl rfl rfl ?_
 rintro _ _ ⟨rfl, rfl⟩
 simp only [List.nil_append]
 try refine gL ?_
 refine RT.call T rfl fR_ (sameSym_fn (l := yl) (a := ya) (c := yc) (a' := qa) (c' := qc) (own_rd sE_ hyc) (own_rd sE_ hqc) (by omega)) rfl rfl rfl ?_
 rintro _ _ ⟨rfl, rfl⟩
 simp only [List.nil_append]
 repeat' (first|refine gL ?_|(refine gb ?_;intro b)|fail)
 revert b
 intro bb
 refine RT.weak (fun w h => newBook h) ?_
 refine RT.call T rfl fR_ (bookSym_fn (p := bb) (a := xa) (c := xc) (n := zl.length) (l := zl) (es := []) (by decide)) rfl rfl rfl ?_
 rintro _ _ ⟨rfl, rfl⟩
 simp only [List.cons_append, List.nil_append]
 try refine gL ?_
 refine RT.call T rfl fR_ (bookSym_fn (p := bb) (a := ya) (c := yc) (n := yl.length) (l := yl) (es := [⟨xa, zl.length, xc, zl⟩]) (by simp)) rfl rfl rfl ?_
 rintro _ _ ⟨rfl, rfl⟩
 simp only [List.cons_append, List.nil_append]
 try refine gL ?_
 refine RT.call T rfl fR_ (bookSym_fn (p := bb) (a := za) (c := zc) (n := zl.length) (l := zl) (es := [⟨xa, zl.length, xc, zl⟩, ⟨ya, yl.length, yc, yl⟩]) (by simp)) rfl rfl rfl ?_
 rintro _ _ ⟨rfl, rfl⟩
 simp only [List.cons_append, List.nil_append]
 try refine gL ?_
 refine RT.call T rfl fR_ (own_fn (p := bb) (es := [⟨xa, zl.length, xc, zl⟩, ⟨ya, yl.length, yc, yl⟩, ⟨za, zl.length, zc, zl⟩]) (by simp) (by
  simp only [List.forall_mem_cons, List.not_mem_nil, false_implies, implies_true, and_true]
  omega)) rfl rfl rfl ?_
 rintro _ _ ⟨rfl, rfl⟩
 simp only [List.nil_append]
 try refine gM ?_
 refine RT.eqS (xs := [.int .i64 (checkL f).1, vS (checkL f).2]) rfl rfl (by kernel_rfl) rfl rfl ?_
 try refine gM ?_
 refine RT.eqS (xs := [.int .i64 (checkL f).1, vS (checkL f).2]) rfl rfl (by kernel_rfl) rfl rfl ?_
 try refine gM ?_
 (refine RT.qcall T rfl (QSp.of fR_ (rcheck_fn (f := o) (FileT.In.mono (fun _ _ _ _ _ h => (rD (h))) hin2) hok2 ho)) rfl rfl rfl ?_)
 skip
 refine RT.eqS (xs := [.int .i64 (checkL o).1, vS (checkL o).2]) rfl rfl (by kernel_rfl) rfl rfl ?_
 try refine gM ?_
 exact AtQ.f1 (HH := []) Tryz.results3 rfl rfl dR_
end Go.Proofs.YtdemnhdoadjhhaaGreatDoor
end
section
namespace Go.Proofs.YtdemnhdoadjhhaaGreatDoor
open Go.Sk
set_option maxRecDepth 100000
attribute [local irreducible] Cs Own Ex Pu Yld RT LJ QJ AtQ CT Rd QSp Sp FinQ Then LoopQ CutQ DT TakeQ EffQ
variable {B : World} {R : List HP}
/-- Numbers as a map that says true. -/
def MI (ks : List Int) : List (Value × Value) := ks.map fun x => (.int .i32 x, .bool true)
theorem mi_in {ks : List Int} {x : Int} (h : x ∈ ks) : ∃ i : Nat, (MI ks)[i]? = some (Value.int .i32 x, Value.bool true) := by
 obtain ⟨i, hi, rfl⟩ := List.getElem_of_mem h
 exact ⟨i, by unfold MI; rw [List.getElem?_map, List.getElem?_eq_getElem hi]; rfl⟩
theorem mi_no {ks : List Int} {x : Int} (h : x ∉ ks) : MGet (MI ks) (.int .i32 x) none := fun y hy => by
 unfold MI at hy
 obtain ⟨z, hz, rfl⟩ := List.mem_map.1 hy
 intro e
 injection e with _ e
 subst e
 exact h hz
theorem mi_set {ks : List Int} {x : Int} {i : Nat} (h : (MI ks)[i]? = some (Value.int .i32 x, Value.bool true)) : (MI ks).set i (.int .i32 x, .bool true) = MI ks := by
 apply List.ext_getElem?
 intro j
 rw [List.getElem?_set]
 split
 ·rename_i hij
  subst hij
  rw [h]
  split
  ·rfl
  ·rename_i hlt
   rw [List.getElem?_eq_none (by omega)] at h
   cases h
 ·rfl
theorem mi_push {ks : List Int} {x : Int} : MI ks ++ [(.int .i32 x, .bool true)] = MI (ks ++ [x]) := by simp [MI]
abbrev own32 (a : Option Addr) (c : Nat) (l : List Int) : HP := Own a c 21 1 l.length (ints .i32 l)
set_option maxHeartbeats 8000000 in
theorem free_fn {m : MsgT} {n : Int} (hF : ∀ H, Rd B (H ++ R) m.fields.a m.fields.l.length m.fields.c 9 (m.fields.l.flatMap FieldT.cells)) (hS : ∀ H, Rd B (H ++ R) m.res.a m.res.l.length m.res.c 2 (m.res.l.flatMap SpanT.cells))
  (hf : m.fields.l.length ≤ 140737488355328) (hr : m.res.l.length ≤ 140737488355328) (hok : ∀ s ∈ m.res.l, s.Ok) (n0 : -9223372036854775808 ≤ n) (n1 : n ≤ 9223372036854775807) :
  Sp B Tryz.prog 20 [.agg m.cells.toArray, .int .i64 n] R [] (fun v H' => ∃ a c, v = .slice a (freeL m.res.l (m.fields.l.map FieldT.num) n).length c ∧ H' = [own32 a c (freeL m.res.l (m.fields.l.map FieldT.num) n)]) := by
 refine Sp.body Tryz.func20 rfl Tryz.ntmps20 (by simp) ?_
 simp only [argE, List.cons_append, List.nil_append, Nat.zero_add, Nat.reduceAdd]
 have hN : ((many n : Nat) : Int) = min (max n 0) 1000 := by unfold many; omega
 have hN2 : many n ≤ 1000 := by unfold many; omega
 repeat' (first|refine gL ?_|(refine gb ?_;intro b)|fail)
 refine RT.maxI rfl rfl (r := max n 0) (by omega) rfl rfl ?_
 skip
 refine RT.minI rfl rfl (r := (many n : Nat)) (by rw [hN]; omega) rfl rfl ?_
 try refine gL ?_
 revert b
 intro b0
 refine RT.mkmap (.int .i32) rfl rfl (fun bm => ?_)
 try refine gL ?_
 refine CT.loop (α := Nat × List Int) (fun s => [(2, .pointer (some ⟨b0, 0, none⟩)), (5, .map (some bm)), (1, .int .i64 (many n : Nat)), (17, m.fields.v), (18, .int .i64 m.fields.l.length), (19, .int .i64 s.1)])
  (fun s => Pu (s.1 ≤ m.fields.l.length ∧ ∀ x, x ∈ s.2 ↔ x ∈ (m.fields.l.map FieldT.num).take s.1) :: Mp (.int .i32) bm (MI s.2) :: Cs b0 72 m.cells :: R) (fun s => m.fields.l.length - s.1) (0, [])
  ⟨rfl, rfl, rfl, rfl, rfl, rfl, trivial⟩ (fun w h => Sat.pu_in ⟨Nat.zero_le _, fun x => by simp⟩ h) (fun ⟨i, ks⟩ => ?_)
 refine CT.pu fun ⟨hi, hks⟩ => ?_
 dsimp only at hi hks ⊢
 repeat' (first|refine gL ?_|(refine gv ?_;(refine⟨fun hc=>?_,fun hc=>?_⟩<;>first|(exfalso;omega)|skip))|fail)
 ·have hil : i < m.fields.l.length := by dsimp only at *; omega
  refine RT.ix T (j := i * 9) rfl rfl rfl (by exact hF [_, _]) (by omega) (by omega) (by omega) rfl rfl ?_
  refine RT.ldra T rfl (by exact hF [_, _]) (l := m.fields.l[i].cells) (flat_sub (f := FieldT.cells) (z := 9) (fun _ => rfl) m.fields.l i _ (List.getElem?_eq_getElem hil)) rfl rfl rfl rfl ?_
  repeat' (first|refine gM ?_|(refine gb ?_;intro b)|fail)
  have hnx : ∀ (ks' : List Int), (∀ x, x ∈ ks' ↔ x ∈ ks ∨ x = m.fields.l[i].num) → ∀ x, x ∈ ks' ↔ x ∈ (m.fields.l.map FieldT.num).take (i + 1) := fun ks' h x => by
   rw [h, hks, List.take_add_one, List.getElem?_map, List.getElem?_eq_getElem hil, List.mem_append]
   simp
  by_cases hin : m.fields.l[i].num ∈ ks
  ·obtain ⟨q, hq⟩ := mi_in hin
   refine RT.mapSet (dk := .int .i32) (l := MI ks) rfl rfl rfl (by ((repeat constructor);done)) rfl hq Tryz.underlying155 Tryz.underlying21 rfl ?_
   rw [mi_set hq]
   repeat' (first|refine gL ?_|(refine gv ?_;refine gk ?_)|fail)
   exact AtQ.loop (i + 1, ks) ⟨rfl, rfl, rfl, rfl, rfl, rfl, trivial⟩ (fun w h => Sat.pu_in ⟨by omega, hnx ks fun x => ⟨.inl, fun h => h.elim id fun e => e ▸ hin⟩⟩ h.tail) (by dsimp only; omega)
  ·refine RT.mapNew (dk := .int .i32) (l := MI ks) rfl rfl rfl (by ((repeat constructor);done)) rfl (mi_no hin) Tryz.underlying155 Tryz.underlying21 rfl ?_
   rw [mi_push]
   repeat' (first|refine gL ?_|(refine gv ?_;refine gk ?_)|fail)
   exact AtQ.loop (i + 1, ks ++ [m.fields.l[i].num]) ⟨rfl, rfl, rfl, rfl, rfl, rfl, trivial⟩ (fun w h => Sat.pu_in ⟨by omega, hnx _ fun x => by simp⟩ h.tail) (by dsimp only; omega)
 obtain rfl : i = m.fields.l.length := by dsimp only at *; omega
 have hks : ∀ x, x ∈ ks ↔ x ∈ m.fields.l.map FieldT.num := fun x => by rw [hks, List.take_of_length_le (by simp)]
 refine CT.weak (fun w h => Sat.nilOwn (e := 21) (sz := 1) h) ?_
 refine CT.loop (α := Nat × List Int × Option Addr × Nat) (fun s => [(2, .pointer (some ⟨b0, 0, none⟩)), (5, .map (some bm)), (1, .int .i64 (many n : Nat)), (9, .int .i64 (s.1 : Nat)), (8, .slice s.2.2.1 s.2.1.length s.2.2.2)])
  (fun s => Pu (s.1 ≤ 2147483648 ∧ 1 ≤ s.1 ∧ s.2.1.length ≤ many n ∧ s.2.1 = goods m.res.l (m.fields.l.map FieldT.num) s.1) :: own32 s.2.2.1 s.2.2.2 s.2.1 :: Mp (.int .i32) bm (MI ks) :: Cs b0 72 m.cells :: R) (fun s => 2147483649 - s.1) (1, [], none, 0)
  ⟨rfl, rfl, rfl, rfl, rfl, trivial⟩ (fun w h => Sat.pu_in ⟨by decide, by decide, Nat.zero_le _, goods_one.symm⟩ h) (fun ⟨k, l, a, c⟩ => ?_)
 refine CT.pu fun ⟨hk1, hk0, hlm, hl⟩ => ?_
 dsimp only at hk1 hk0 hlm hl ⊢
 repeat' (first|refine gL ?_|(refine gv ?_;first|(refine⟨fun hc=>?_,fun hc=>?_⟩<;>first|(exfalso;omega)|skip)|refine gk ?_)|(refine gb ?_;intro b)|fail)
 ·have hk : k ≤ 536870911 := by omega
  have hkm : k % 4294967296 = k := by omega
  refine RT.mkF rfl rfl rfl ?_
  skip
  refine RT.call T rfl fR_ (index_fn (B := B) (R := own32 a c l :: Mp (.int .i32) bm (MI ks) :: Cs b0 72 m.cells :: R) (b := b) (x := (k : Int)) (l := m.res.l) (a := m.res.a) (c := m.res.c) rfl hr (fun H => by simpa only [List.append_assoc, List.cons_append, List.nil_append] using hS (H ++ [Cs b 21 [.int .i32 k], own32 a c l, Mp (.int .i32) bm (MI ks), Cs b0 72 m.cells]))) rfl rfl rfl ?_
  rintro _ _ ⟨rfl, rfl⟩
  try simp only [List.cons_append, List.nil_append]
  rcases Int.lt_or_le (ixf (k : Int) m.res.l 0) 0 with hx | hx
  ·have hno := ixf_none hx
   have hgood : good m.res.l (m.fields.l.map FieldT.num) (k : Int) = (mayB k && !(decide ((k : Int) ∈ m.fields.l.map FieldT.num))) := by
    unfold good
    rw [hno]
    simp
   have hgs := goods_succ (res := m.res.l) (nums := m.fields.l.map FieldT.num) (k := k)
   rw [hgood, ← hl] at hgs
   repeat' (first|refine gL ?_|(refine gv ?_;(refine⟨fun hc=>?_,fun hc=>?_⟩<;>first|(exfalso;omega)|skip))|fail)
   (refine RT.call T rfl fR_ (may_fn (n := (k : Int))) rfl rfl rfl ?_; rintro _ _ ⟨rfl, rfl⟩; try simp only [List.cons_append, List.nil_append])
   cases hm : mayB (k : Int) with
   | false =>
    rw [hm] at hgs
    repeat' (first|refine gL ?_|(refine gv ?_;refine gk ?_)|fail)
    exact AtQ.loop (k + 1, l, a, c) ⟨rfl, rfl, rfl, rfl, rfl, trivial⟩ (fun w h => Sat.pu_in ⟨by omega, by omega, hlm, by rw [hgs]; simp⟩ h.tail) (by dsimp only; omega)
   | true =>
    rw [hm] at hgs
    try refine gL ?_
    by_cases hin : (k : Int) ∈ ks
    ·rw [decide_eq_true ((hks _).1 hin)] at hgs
     refine RT.lookup (dk := .int .i32) (r := some (.bool true)) T rfl rfl sE_ rfl (mi_in hin) Tryz.underlying155 Tryz.underlying21 rfl rfl rfl ?_
     dsimp only [Option.getD]
     repeat' (first|refine gL ?_|(refine gv ?_;refine gk ?_)|fail)
     exact AtQ.loop (k + 1, l, a, c) ⟨rfl, rfl, rfl, rfl, rfl, trivial⟩ (fun w h => Sat.pu_in ⟨by omega, by omega, hlm, by rw [hgs]; simp⟩ h.tail) (by dsimp only; omega)
    ·rw [decide_eq_false (fun h => hin ((hks _).2 h))] at hgs
     refine RT.lookup (dk := .int .i32) (r := none) T rfl rfl sE_ rfl (mi_no hin) Tryz.underlying155 Tryz.underlying21 rfl rfl rfl ?_
     dsimp only [Option.getD]
     repeat' (first|refine gL ?_|(refine gv ?_;refine gk ?_)|(refine RT.isPush ?_;refine gp ?_;intro a' c' b' c1' hac)|fail)
     exact AtQ.loop (k + 1, l ++ [(k : Int)], a', c') ⟨rfl, rfl, rfl, rfl, by rw [List.length_append]; rfl, trivial⟩
      (fun w h => Sat.pu_in ⟨by omega, by omega, by rw [List.length_append, List.length_singleton]; omega, by rw [hgs]; rfl⟩ (by have h2 := h.tail; simp only [own32, List.length_append, List.length_singleton]; exact h2)) (by dsimp only; omega)
  ·obtain ⟨j, sp, hj, hx', hsp⟩ := ixf_some hx
   rw [Nat.zero_add] at hx'
   rw [hx']
   obtain ⟨_, hs1, hs2⟩ := hok sp (List.mem_of_getElem? hj)
   have hsp1 := of_decide_eq_true hsp
   repeat' (first|refine gL ?_|(refine gv ?_;(refine⟨fun hc=>?_,fun hc=>?_⟩<;>first|(exfalso;omega)|skip))|fail)
   have hjl : j < m.res.l.length := (List.getElem?_eq_some_iff.1 hj).1
   refine RT.ix T (j := j * 2) rfl rfl rfl (by exact hS [_, _, _, _]) (by omega) (by omega) (by omega) rfl rfl ?_
   skip
   refine RT.faA T rfl rfl rfl rfl ?_
   refine RT.ldr (u := .int .i32 sp.t) T rfl (by exact hS [_, _, _, _]) (by rw [flat_get (f := SpanT.cells) (z := 2) (fun _ => rfl) hj (by decide)]; rfl) rfl rfl rfl ?_
   repeat' (first|refine gL ?_|(refine gv ?_;refine gk ?_)|fail)
   exact AtQ.loop (sp.t.toNat + 1, l, a, c) ⟨rfl, rfl, rfl, by show some (Value.int .i64 _) = some (Value.int .i64 _); congr 2; omega, rfl, trivial⟩
    (fun w h => Sat.pu_in ⟨by omega, by omega, hlm, by rw [goods_span (List.mem_of_getElem? hj) hsp (by omega)]; exact hl⟩ h.tail) (by dsimp only; omega)
 ·have hfr := hl.trans (free_stop (k := k) (n := n) (.inr (by rw [← hl]; omega)) (by rw [← hl]; exact hlm))
  exact AtQ.fin1 Tryz.results20 rfl ⟨a, c, by rw [← hfr], by rw [← hfr]⟩ (fun w h => Sat.frd (Ps := [own32 a c l]) (Qs := [_, _]) h fR_)
 ·have hfr := hl.trans (free_stop (k := k) (n := n) (.inl (by omega)) (by rw [← hl]; exact hlm))
  exact AtQ.fin1 Tryz.results20 rfl ⟨a, c, by rw [← hfr], by rw [← hfr]⟩ (fun w h => Sat.frd (Ps := [own32 a c l]) (Qs := [_, _]) h fR_)
end Go.Proofs.YtdemnhdoadjhhaaGreatDoor
end
section
namespace Go.Proofs.YtdemnhdoadjhhaaGreatDoor
open Go.Sk
set_option maxRecDepth 100000
abbrev lfl : FieldT := ⟨[120], 1, 1, 5, [], 0, 0, 0, []⟩
abbrev lms (fa : Option Addr) : MsgT := .mk [77] ⟨fa, 1, [lfl]⟩ ⟨none, 0, []⟩ none 0 [] ⟨none, 0, []⟩ ⟨none, 0, []⟩ ⟨none, 0, []⟩
abbrev lev : EValT := ⟨[88], 0⟩
abbrev len (va : Option Addr) : EnumT := ⟨[69], ⟨va, 1, [lev]⟩, false, ⟨none, 0, []⟩, ⟨none, 0, []⟩⟩
abbrev lfi (k : Txt) (fa ma va ea : Option Addr) : FileT := ⟨[112], k, ⟨none, 0, []⟩, ma, 1, [lms fa], ⟨ea, 1, [len va]⟩⟩
instance decLet : DecidablePred isLet := fun x => by unfold isLet; infer_instance
instance decDig : DecidablePred isDig := fun x => by unfold isDig; infer_instance
instance decOkC : DecidablePred okC := fun x => by unfold okC; infer_instance
def idC (l : Txt) : Bool := decide (0 < l.length) && decide (l.length ≤ 255) && decide (¬ isDig (l.getD 0 0)) && l.all fun x => decide (okC x)
theorem idB_eq : identB = idC := by
 funext l
 rw [Bool.eq_iff_iff]
 unfold idC
 rw [Bool.and_eq_true, Bool.and_eq_true, Bool.and_eq_true, decide_eq_true_eq, decide_eq_true_eq, decide_eq_true_eq, List.all_eq_true]
 have h : identB l = true ↔ identP l := by
  rcases identB_cases l with ⟨h1, h2⟩ | ⟨h1, h2⟩
  ·exact ⟨fun _ => h2, fun _ => h1⟩
  ·exact ⟨fun h => (by rw [h1] at h; cases h), fun h => absurd h h2⟩
 rw [h]
 unfold identP
 have h3 : (∀ j, j < l.length → okC (l.getD j 0)) ↔ ∀ x ∈ l, decide (okC x) = true := by
  constructor
  ·intro h x hx
   obtain ⟨i, hi, rfl⟩ := List.getElem_of_mem hx
   have := h i hi
   rw [List.getD_eq_getElem?_getD, List.getElem?_eq_getElem hi] at this
   exact decide_eq_true this
  ·intro h j hj
   rw [List.getD_eq_getElem?_getD, List.getElem?_eq_getElem hj]
   exact of_decide_eq_true (h _ (List.getElem_mem hj))
 rw [h3]
 exact ⟨fun ⟨a, b, c, d⟩ => ⟨⟨⟨a, b⟩, c⟩, d⟩, fun ⟨⟨⟨a, b⟩, c⟩, d⟩ => ⟨a, b, c, d⟩⟩
def fuC (l : Txt) : Bool := decide (l.length ≤ 255) && (partsL l).all idC
theorem fuB_eq : fullB = fuC := by
 funext l
 rw [Bool.eq_iff_iff]
 unfold fuC
 rw [Bool.and_eq_true, decide_eq_true_eq, List.all_eq_true]
 have h : fullB l = true ↔ fullP l := by
  exact ⟨fun h2 => Classical.byContradiction fun h => (by rw [fullB_f h] at h2; cases h2), fullB_t⟩
 rw [h]
 unfold fullP
 have hi : ∀ l, identP l ↔ idC l = true := fun l => by
  rw [← idB_eq]
  rcases identB_cases l with ⟨h1, h2⟩ | ⟨h1, h2⟩
  ·exact ⟨fun _ => h1, fun _ => h2⟩
  ·exact ⟨fun h => absurd h h2, fun h => by rw [h1] at h; cases h⟩
 have h3 : (∀ j, j < (partsL l).length → identP ((partsL l).getD j [])) ↔ ∀ x ∈ partsL l, idC x = true := by
  constructor
  ·intro h x hx
   obtain ⟨i, hj, rfl⟩ := List.getElem_of_mem hx
   have := h i hj
   rw [List.getD_eq_getElem?_getD, List.getElem?_eq_getElem hj] at this
   exact (hi _).1 this
  ·intro h j hj
   rw [List.getD_eq_getElem?_getD, List.getElem?_eq_getElem hj]
   exact (hi _).2 (h _ (List.getElem_mem hj))
 rw [h3]
theorem rd0 {B : World} {H : List HP} {z : Nat} : Rd B H none 0 0 z [] := ⟨by simp, Nat.le_refl _, fun w _ => ⟨fun h => absurd h (by omega), fun j u h => by simp at h⟩⟩
theorem ok0 {α : Type} : OkN (⟨none, 0, []⟩ : Rw α) := ⟨Nat.zero_le _, Nat.le_refl _, Nat.zero_le _⟩
theorem ok1 {α : Type} {a : Option Addr} {x : α} : OkN (⟨a, 1, [x]⟩ : Rw α) := ⟨by simp, by simp, by simp⟩
theorem oks (t : Txt) (h : t.all (fun x => decide (0 ≤ x ∧ x ≤ 255)) = true) (hl : t.length ≤ 100) : OkT t := ⟨fun x hx => by
 have := of_decide_eq_true (List.all_eq_true.1 h x hx)
 unfold isB
 omega, by omega⟩
theorem lfi_ok {k : Txt} {fa ma va ea : Option Addr} (hk : OkT k) : (lfi k fa ma va ea).Ok := by
 refine ⟨oks [112] rfl (by decide), hk, ⟨ok0, by simp⟩, ⟨ok1, fun m hm => ?_⟩, ⟨ok1, fun e he => ?_⟩⟩
 ·rw [List.mem_singleton.1 hm]
  unfold MsgT.Ok MsgT.OkL
  refine ⟨oks [77] rfl (by decide), ⟨ok1, fun f hf => ?_⟩, ⟨ok0, by simp⟩, ok0, ⟨ok0, by simp⟩, ⟨ok0, by simp⟩, ⟨ok0, by simp⟩, trivial⟩
  rw [List.mem_singleton.1 hf]
  exact ⟨oks [120] rfl (by decide), ⟨by decide, by decide⟩, ⟨by decide, by decide⟩, ⟨by decide, by decide⟩, oks [] rfl (by decide), ⟨by decide, by decide⟩, ⟨by decide, by decide⟩, ⟨by decide, by decide⟩, oks [] rfl (by decide)⟩
 ·rw [List.mem_singleton.1 he]
  refine ⟨oks [69] rfl (by decide), ok1, fun v hv => ?_, ok0, by simp, ok0, by simp⟩
  rw [List.mem_singleton.1 hv]
  exact ⟨oks [88] rfl (by decide), by decide, by decide⟩
theorem lfi_sm {k : Txt} {fa ma va ea : Option Addr} (hk : k.length ≤ 100) : FSm (lfi k fa ma va ea) := by
 refine ⟨by simp, by simp, ?_, by simp, fun e he => ?_, ?_, by dsimp only; omega, fun e he => ?_, ?_, ?_⟩
 ·unfold MsgT.SmL MsgT.Sm MsgT.SmL; simp
 ·rw [List.mem_singleton.1 he]; exact ⟨by simp, by simp, by simp⟩
 ·unfold MsgT.NmL MsgT.Nm MsgT.NmL; simp [FNm, SmT]
 ·rw [List.mem_singleton.1 he]; exact ⟨by simp, by simp, by simp [SmT]⟩
 ·unfold MsgT.FulL MsgT.Ful MsgT.FulL; simp; omega
 ·simp [cntMs, cntM, cntE]
theorem lfi_in {B : World} {H : List HP} {k : Txt} {fa ma va ea : Option Addr} (h1 : Rd B H fa 1 1 9 lfl.cells) (h2 : Rd B H ma 1 1 7 (lms fa).cells) (h3 : Rd B H va 1 1 2 lev.cells) (h4 : Rd B H ea 1 1 5 (len va).cells) : (lfi k fa ma va ea).In (Rd B H) := by
 refine ⟨rd0, by simpa using h2, fun m hm => ?_, by simpa using h4, fun e he => ?_⟩
 ·rw [List.mem_singleton.1 hm]
  unfold MsgT.In MsgT.InL
  exact ⟨by simpa using h1, rd0, rd0, rd0, by simp, rd0, rd0, trivial⟩
 ·rw [List.mem_singleton.1 he]
  exact ⟨by simpa using h3, rd0, rd0⟩
theorem lfi_right {fa ma va ea : Option Addr} : checkL (lfi [97, 46, 98] fa ma va ea) = (0, []) := by
 unfold checkL fileR
 simp only [msgsR, msgR, fieldsR, fieldR, oneofsR, enumsR, enumR, valsR, giveR, namesF]
 rw [idB_eq, fuB_eq]
 kernel_rfl
theorem lfi_wrong {fa ma va ea : Option Addr} : checkL (lfi [97, 46, 46, 98] fa ma va ea) = (60, [97, 46, 46, 98]) := by
 unfold checkL fileR
 rw [must_t (by kernel_rfl), must_f (by rw [fuB_eq]; kernel_rfl)]
def ly4 : List SymT := [⟨[97, 46, 98, 46, 69], 2, [112]⟩, ⟨[97, 46, 98, 46, 77], 1, [112]⟩, ⟨[97, 46, 98, 46, 77, 46, 120], 4, [112]⟩, ⟨[97, 46, 98, 46, 88], 3, [112]⟩]
theorem lfi_sym {fa ma va ea : Option Addr} : symF (lfi [97, 46, 98] fa ma va ea) = [⟨[97, 46, 98, 46, 77], 1, [112]⟩, ⟨[97, 46, 98, 46, 77, 46, 120], 4, [112]⟩, ⟨[97, 46, 98, 46, 69], 2, [112]⟩, ⟨[97, 46, 98, 46, 88], 3, [112]⟩] := by kernel_rfl
theorem ly4_srt : Srt befB ly4 := by
 unfold Srt ly4
 simp only [List.pairwise_cons, List.mem_cons, List.not_mem_nil, or_false, forall_eq_or_imp, forall_eq, false_implies, implies_true, List.Pairwise.nil, and_true]
 exact ⟨⟨by kernel_rfl, by kernel_rfl, by kernel_rfl⟩, ⟨by kernel_rfl, by kernel_rfl⟩, by kernel_rfl⟩
theorem ly4_perm {fa ma va ea : Option Addr} : ly4.Perm (symF (lfi [97, 46, 98] fa ma va ea)) := by
 rw [lfi_sym]
 unfold ly4
 exact (List.Perm.swap _ _ _).trans ((List.Perm.cons _ (List.Perm.swap _ _ _)))
theorem free_2 : freeL [] [1] 2 = [2, 3] := by
 obtain ⟨m, hm⟩ := goods_pre (res := []) (nums := [1]) (k := 4) (t := 536870912) (by decide)
 have h4 : goods [] [1] 4 = [2, 3] := by kernel_rfl
 unfold freeL
 rw [hm, h4]
 rfl
attribute [local irreducible] Cs Own Ex Pu Yld RT LJ QJ AtQ CT Rd QSp Sp FinQ Then LoopQ CutQ DT TakeQ EffQ
variable {B : World} {R : List HP}
theorem little_fn : Sp B Tryz.prog 30 [] R [] (fun v H' => ∃ fa ma va ea, v = .agg (lfi [97, 46, 98] fa ma va ea).cells.toArray ∧ H' = [Own fa 1 87 9 1 lfl.cells, Own ma 1 72 7 1 (lms fa).cells, Own va 1 111 2 1 lev.cells, Own ea 1 109 5 1 (len va).cells]) := by
 refine Sp.bodyM Tryz.func30 rfl Tryz.ntmps30 (by simp) ?_
 simp only [argE, List.cons_append, List.nil_append, Nat.zero_add, Nat.reduceAdd]
 repeat' (first|refine gM ?_|(refine gb ?_;intro b)|fail)
 revert b
 intro b0
 refine RT.bsA T (l := lfl.cells) rfl rfl rfl rfl rfl rfl rfl rfl (fun a1 => ?_)
 repeat' (first|refine gM ?_|(refine gb ?_;intro b)|fail)
 revert b
 intro b1
 refine RT.bsA T (l := lev.cells) rfl rfl rfl rfl rfl rfl rfl rfl (fun a2 => ?_)
 repeat' (first|refine gM ?_|(refine gb ?_;intro b)|fail)
 revert b
 intro b2
 refine RT.bsA T (l := (lms a1).cells) rfl rfl rfl rfl rfl rfl rfl rfl (fun a3 => ?_)
 try refine gM ?_
 refine RT.bsA T (l := (len a2).cells) rfl rfl rfl rfl rfl rfl rfl rfl (fun a4 => ?_)
 try refine gM ?_
 refine AtQ.finA (l := (lfi [97, 46, 98] a1 a3 a2 a4).cells) (H' := [Own a1 1 87 9 1 lfl.cells, Own a3 1 72 7 1 (lms a1).cells, Own a2 1 111 2 1 lev.cells, Own a4 1 109 5 1 (len a2).cells]) T Tryz.results30 rfl rfl rfl sE_ ⟨a1, a3, a2, a4, rfl, rfl⟩ (fun w h => h.frd (Ps := [_, _, _, _]) (Qs := [_, _, _]) fR_) (by first | exact .inl rfl | exact .inr rfl)
set_option maxHeartbeats 8000000 in
theorem awakeW_fn {mM : Int} (hU : Lib.Utf8Tabs 1 2 B) (hM : B.cell? ⟨0, 0, none⟩ = some (.int .i64 mM)) (R : List HP) :
  Sp B Tryz.prog 8 [] R [] (fun v H' => v = .bool true ∧ H' = []) := by
 refine Sp.body Tryz.func8 rfl Tryz.ntmps8 (by simp) ?_
 simp only [argE, List.cons_append, List.nil_append, Nat.zero_add, Nat.reduceAdd]
 try refine gL ?_
 refine RT.call T rfl fR_ little_fn rfl rfl rfl ?_
 rintro _ _ ⟨fa, ma, va, ea, rfl, rfl⟩
 simp only [List.cons_append, List.nil_append]
 repeat' (first|refine gM ?_|(refine gb ?_;intro b)|fail)
 revert b
 intro fb
 refine RT.call T rfl fR_ (checkC_fn (f := lfi [97, 46, 98] fa ma va ea) hU hM (lfi_in (Own.rd sE_ rfl (Nat.le_refl _)) (Own.rd sE_ rfl (Nat.le_refl _)) (Own.rd sE_ rfl (Nat.le_refl _)) (Own.rd sE_ rfl (Nat.le_refl _))) (lfi_ok (oks _ rfl (by decide))) (lfi_sm (by decide)).ns) rfl rfl rfl ?_
 rintro _ _ ⟨rfl, rfl⟩
 rw [lfi_right]
 simp only [List.nil_append]
 repeat' (first|refine gM ?_|(refine gb ?_;intro b)|fail)
 revert b
 intro ab
 refine RT.call T rfl fR_ (symbols_fn (f := lfi [97, 46, 98] fa ma va ea) (lfi_in (Own.rd sE_ rfl (Nat.le_refl _)) (Own.rd sE_ rfl (Nat.le_refl _)) (Own.rd sE_ rfl (Nat.le_refl _)) (Own.rd sE_ rfl (Nat.le_refl _))) (lfi_ok (oks _ rfl (by decide))) (lfi_sm (by decide))) rfl rfl rfl ?_
 rintro _ _ ⟨sa, sc, sl, rfl, hsc, hsp, hss, rfl⟩
 simp only [List.cons_append, List.nil_append]
 obtain rfl := sym_same hsp ly4_perm hss ly4_srt
 unfold ly4 at *
 try refine gM ?_
 refine RT.call T rfl fR_ (checkC_fn (f := lfi [97, 46, 46, 98] fa ma va ea) hU hM (lfi_in (Own.rd sE_ rfl (Nat.le_refl _)) (Own.rd sE_ rfl (Nat.le_refl _)) (Own.rd sE_ rfl (Nat.le_refl _)) (Own.rd sE_ rfl (Nat.le_refl _))) (lfi_ok (oks _ rfl (by decide))) (lfi_sm (by decide)).ns) rfl rfl rfl ?_
 rintro _ _ ⟨rfl, rfl⟩
 rw [lfi_wrong]
 simp only [List.nil_append]
 repeat' (first|refine gM ?_|(refine gb ?_;intro b)|fail)
 revert b
 intro bb
 refine RT.call T rfl fR_ little_fn rfl rfl rfl ?_
 rintro _ _ ⟨fa2, ma2, va2, ea2, rfl, rfl⟩
 simp only [List.cons_append, List.nil_append]
 skip
 refine RT.fieldv (v := .slice ma2 1 1) rfl Tryz.underlying26 rfl (by kernel_rfl) rfl rfl rfl ?_
 refine RT.ix T (j := 0) rfl rfl rfl (Own.rd sE_ rfl (Nat.le_refl _)) (by decide) (show (0 : Int) < 1 by decide) rfl rfl rfl ?_
 refine RT.ldra T rfl (Own.rd sE_ rfl (Nat.le_refl _)) (l := (lms fa2).cells) rfl rfl rfl rfl rfl ?_
 skip
 refine RT.call T rfl fR_ (free_fn (m := lms fa2) (n := 2) (fun H => Rd.under (Own.rd sE_ rfl (Nat.le_refl _)) H) (fun H => rd0) (by simp [MsgT.fields]) (by simp [MsgT.res]) (by simp [MsgT.res]) (by decide) (by decide)) rfl rfl rfl ?_
 rw [show freeL (lms fa2).res.l ((lms fa2).fields.l.map FieldT.num) 2 = [2, 3] from free_2]
 rintro _ _ ⟨na, nc, rfl, rfl⟩
 simp only [List.cons_append, List.nil_append]
 refine RT.fact (p := 2 ≤ nc) (fun w h => (Own.facts h sE_).2.1) fun hnc => ?_
 try refine gM ?_
 refine RT.eqS (xs := [.int .i64 0, vS []]) rfl rfl (by kernel_rfl) rfl rfl ?_
 try refine gM ?_
 refine RT.eqS (xs := [.int .i64 60, vS [97, 46, 46, 98]]) rfl rfl (by kernel_rfl) rfl rfl ?_
 repeat' (first|refine gM ?_|(refine gv ?_;(refine⟨fun hc=>?_,fun hc=>?_⟩<;>first|(exfalso;omega)|skip))|fail)
 refine RT.ix T (j := 0) rfl rfl rfl (own_rd sE_ hsc) (by decide) (show (0 : Int) < 4 by decide) rfl rfl rfl ?_
 refine RT.faA T rfl rfl rfl rfl ?_
 refine RT.ldr (u := vS [97, 46, 98, 46, 69]) T rfl (own_rd sE_ hsc) rfl rfl rfl rfl ?_
 refine RT.eqsame rfl rfl rfl rfl ?_
 try refine gM ?_
 refine RT.ix T (j := 9) rfl rfl rfl (own_rd sE_ hsc) (by decide) (show (3 : Int) < 4 by decide) rfl rfl rfl ?_
 refine RT.faA T rfl rfl rfl rfl ?_
 refine RT.ldr (u := vS [97, 46, 98, 46, 88]) T rfl (own_rd sE_ hsc) rfl rfl rfl rfl ?_
 refine RT.eqsame rfl rfl rfl rfl ?_
 repeat' (first|refine gM ?_|(refine gv ?_;(refine⟨fun hc=>?_,fun hc=>?_⟩<;>first|(exfalso;omega)|skip))|fail)
 refine RT.ix T (j := 0) rfl rfl rfl (Own.rdI (l := [2, 3]) sE_ rfl hnc) (by decide) (show (0 : Int) < 2 by decide) rfl rfl rfl ?_
 refine RT.ldi T rfl (Own.rdI (l := [2, 3]) sE_ rfl hnc) (by decide) rfl rfl rfl ?_
 repeat' (first|refine gM ?_|(refine gv ?_;(refine⟨fun hc=>?_,fun hc=>?_⟩<;>first|(exfalso;omega)|skip))|fail)
 refine RT.ix T (j := 1) rfl rfl rfl (Own.rdI (l := [2, 3]) sE_ rfl hnc) (by decide) (show (1 : Int) < 2 by decide) rfl rfl rfl ?_
 refine RT.ldi T rfl (Own.rdI (l := [2, 3]) sE_ rfl hnc) (by decide) rfl rfl rfl ?_
 repeat' (first|refine gM ?_|(refine gv ?_;(refine⟨fun hc=>?_,fun hc=>?_⟩<;>first|(exfalso;omega)|skip))|fail)
 exact AtQ.f1 (HH := []) Tryz.results8 rfl rfl dR_
 all_goals exact absurd (by decide) hc
end Go.Proofs.YtdemnhdoadjhhaaGreatDoor
end
section
namespace Go.Sk
open Go.ChangeShapes Go.WideShapes Go.ChangeAt Go.RowKit
section
variable {H : Type} {enc : TypeId × Value → H} {P : Program} {W : World}
/-- As read_sliceW; the elements are read by less. -/
theorem read_sliceF {t e : TypeId} {cs : List Value} {x : DataW H × List MemPlace} {fuel : Nat} (ht : P.underlying t = some (.slice e)) (hz : 0 < P.cellsOf e) (h : DataW.trod enc P W 0 (fun _ => true) true fuel t cs = some x) (hw : Light P t x.1) :
  ∃ (a : Option Addr) (n c : Nat) (es : List (List Value)), cs = [.slice a n c] ∧ n ≤ c ∧ c * P.bytesOf e ≤ reachBytes ∧ es.length = n ∧ (∀ ce ∈ es, ce.length = P.cellsOf e ∧ ∃ m y, m < fuel ∧ DataW.trod enc P W 0 (fun _ => true) true m e ce = some y ∧ Light P e y.1) ∧ ∀ Hs, Rd W Hs a n c (P.cellsOf e) es.flatten := by
 rcases DataW.trod_slice ht h with ⟨rfl, _⟩ | ⟨a, n, c, elems, rest, m, hm, rfl, rfl, _, hnc, hcm, hel, hget, hrest, _⟩
 ·exact ⟨none, 0, 0, [], rfl, Nat.le_refl _, by simp, rfl, fun _ h => absurd h (by simp), fun _ => Rd.none_⟩
 ·obtain ⟨hrl, _⟩ := hrest rfl
  have hw' : ∀ q ∈ ((elems.length + rest.length) * P.bytesOf e :: (DataW.weightsAll P e (elems.map (·.1)) ++ DataW.weightsAll P e (rest.map (·.1)))), q ≤ reachBytes := by
   intro q hq
   refine hw q ?_
   simp only [DataW.weights, ht, List.length_map]
   exact hq
  have hcb : c * P.bytesOf e ≤ reachBytes := by
   have := hw' _ List.mem_cons_self
   rwa [hel, hrl, show n + (c - n) = c by omega] at this
  have hlight : ∀ y ∈ elems, Light P e y.1 := fun y hy => light_all (fun q hq => hw' q (List.mem_cons_of_mem _ (List.mem_append_left _ hq))) y.1 (List.mem_map.2 ⟨y, hy, rfl⟩)
  have hcells : ∀ i, i < n → ∃ ce, W.cells? 0 (a.add (i * P.cellsOf e)) (P.cellsOf e) = some ce ∧ ∃ y, DataW.trod enc P W 0 (fun _ => true) true m e ce = some y ∧ Light P e y.1 := fun i hi => by
   have h1 := hget i hi
   rw [List.getElem?_eq_getElem (by omega), Option.bind_eq_some_iff] at h1
   obtain ⟨ce, h2, h3⟩ := h1
   exact ⟨ce, h2, _, h3, hlight _ (List.getElem_mem _)⟩
  let f : Nat → List Value := fun i => (W.cells? 0 (a.add (i * P.cellsOf e)) (P.cellsOf e)).getD []
  have hf : ∀ i, i < n → W.cells? 0 (a.add (i * P.cellsOf e)) (P.cellsOf e) = some (f i) ∧ ∃ y, DataW.trod enc P W 0 (fun _ => true) true m e (f i) = some y ∧ Light P e y.1 := fun i hi => by
   obtain ⟨ce, h1, h2⟩ := hcells i hi
   simp only [f, h1, Option.getD_some]
   exact ⟨trivial, h2⟩
  have hlen : ∀ ce ∈ (List.range n).map f, ce.length = P.cellsOf e := fun ce hce => by
   obtain ⟨i, hi, rfl⟩ := List.mem_map.1 hce
   exact (World.cells?_some (hf i (List.mem_range.1 hi)).1).2.1
  refine ⟨some a, n, c, (List.range n).map f, rfl, hnc, hcb, by simp, fun ce hce => ⟨hlen ce hce, ?_⟩, fun Hs => ⟨?_, hnc, fun w hS => ⟨fun _ => rfl, fun j u hj => ?_⟩⟩⟩
  ·obtain ⟨i, hi, rfl⟩ := List.mem_map.1 hce
   obtain ⟨y, h1, h2⟩ := (hf i (List.mem_range.1 hi)).2
   exact ⟨m, y, by omega, h1, h2⟩
  ·rw [List.length_flatten, List.map_map]
   have : (List.range n).map (List.length ∘ f) = List.replicate n (P.cellsOf e) := by
    apply List.ext_getElem
    ·simp
    ·intro i h1 h2
     simp only [List.getElem_map, List.getElem_range, Function.comp, List.getElem_replicate]
     exact hlen _ (List.mem_map.2 ⟨i, List.mem_range.2 (by simpa using h1), rfl⟩)
   rw [this, List.sum_replicate_nat]
  ·obtain ⟨i, ce, r, h1, h2, h3, h4⟩ := getElem?_flat _ hlen j u hj
   have hi : i < n := by have := (List.getElem?_eq_some_iff.1 h1).1; simpa using this
   have hce : ce = f i := by
    rw [List.getElem?_map, List.getElem?_range hi] at h1
    simpa using h1.symm
   subst hce
   have hcell := (World.cells?_some (hf i hi).1).2.2 r h2
   rw [h4] at hcell
   rw [adr, Option.getD_some, h3]
   refine hS.cellOld ?_
   rw [addr_addadd] at hcell
   exact hcell
/-- A row of things, each read by its own law. -/
theorem read_rw {α : Type} (cells : α → List Value) (ok : α → Prop) {t e : TypeId} {z by_ : Nat} {cs : List Value} {x : DataW H × List MemPlace} {fuel : Nat} (ht : P.underlying t = some (.slice e)) (hz : P.cellsOf e = z) (hz0 : 0 < z) (hb : P.bytesOf e = by_) (hb0 : 0 < by_)
  (hel : ∀ m ce y, m < fuel → ce.length = z → DataW.trod enc P W 0 (fun _ => true) true m e ce = some y → Light P e y.1 → ∃ a : α, ce = cells a ∧ ok a)
  (h : DataW.trod enc P W 0 (fun _ => true) true fuel t cs = some x) (hw : Light P t x.1) :
  ∃ r : Rw α, cs = [r.v] ∧ OkN r ∧ (∀ a ∈ r.l, ok a) ∧ ∀ Hs, Rd W Hs r.a r.l.length r.c z (r.l.flatMap cells) := by
 subst hz hb
 obtain ⟨a, n, c, es, rfl, h1, h2, h3, h4, h5⟩ := read_sliceF ht hz0 h hw
 have hl : ∃ l : List α, es = l.map cells ∧ ∀ a ∈ l, ok a := by
  clear h3 h5
  induction es with
  | nil => exact ⟨[], rfl, fun _ h => absurd h (by simp)⟩
  | cons ce es ih =>
   obtain ⟨l, e1, e2⟩ := ih (fun c hc => h4 c (by simp [hc]))
   obtain ⟨hlen, m, y, hm, hy, hly⟩ := h4 ce (by simp)
   obtain ⟨b, rfl, hbk⟩ := hel m ce y hm hlen hy hly
   exact ⟨b :: l, by rw [e1]; rfl, fun x hx => by
    rcases List.mem_cons.1 hx with rfl | hx
    ·exact hbk
    ·exact e2 x hx⟩
 obtain ⟨l, rfl, hok⟩ := hl
 rw [List.length_map] at h3
 have hc : c ≤ 140737488355328 := by
  have : c * 1 ≤ c * P.bytesOf e := Nat.mul_le_mul_left _ hb0
  unfold reachBytes at h2
  omega
 refine ⟨⟨a, c, l⟩, by rw [← h3]; rfl, ⟨show l.length ≤ 140737488355328 from by omega, by rw [h3]; exact h1, Nat.le_trans hc (by decide)⟩, hok, fun Hs => ?_⟩
 have := h5 Hs
 rw [← h3, ← List.flatMap_def] at this
 exact this
/-- A field of one cell. -/
theorem fld1 {t : TypeId} {cs : List Value} {x : DataW H × List MemPlace} {fuel : Nat} {fs : Array Field} (ht : P.underlying t = some (.struct fs)) (h : DataW.trod enc P W 0 (fun _ => true) true fuel t cs = some x) (hw : Light P t x.1) (i : Nat) {tf : TypeId}
  (hf : (fs[i]?).map (fun f => (f.type, f.offset)) = some (tf, i)) (hc : P.cellsOf tf = 1) : ∃ m y, m < fuel ∧ DataW.trod enc P W 0 (fun _ => true) true m tf ((cs.drop i).take 1) = some y ∧ Light P tf y.1 := by
 obtain ⟨f, hf1, hf2⟩ := Option.map_eq_some_iff.1 hf
 simp only [Prod.mk.injEq] at hf2
 obtain ⟨rfl, hoff⟩ := hf2
 obtain ⟨xs, n, hn, hx, _, hl, hg⟩ := DataW.trod_struct ht h
 have hi : i < xs.length := by rw [hl]; exact (Array.getElem?_eq_some_iff.1 hf1).1
 obtain ⟨m, y, h1, h2⟩ := trod_field ht h hw i f hf1
 have h3 := hg i f hf1
 rw [List.getElem?_eq_getElem hi] at h3
 have hly : Light P f.type xs[i].1 := by
  have hw' : ∀ q ∈ DataW.weightsEach P (fs.toList.map (·.type)) (xs.map (·.1)), q ≤ reachBytes := by
   intro q hq
   refine hw q ?_
   rw [hx]
   simp only [DataW.weights, ht]
   exact hq
  refine light_each hw' (j := i) ?_ ?_
  ·rw [List.getElem?_map, Array.getElem?_toList, hf1]; rfl
  ·rw [List.getElem?_map, List.getElem?_eq_getElem hi]; rfl
 rw [hoff, hc] at h3
 exact ⟨n, _, by omega, h3, hly⟩
theorem take1 {cs : List Value} {i : Nat} {v : Value} (h : (cs.drop i).take 1 = [v]) : cs[i]? = some v := by
 have := congrArg (·[0]?) h
 simpa [List.getElem?_take, List.getElem?_drop] using this
theorem fldI {t : TypeId} {cs : List Value} {x : DataW H × List MemPlace} {fuel : Nat} {fs : Array Field} {k : IntKind} (ht : P.underlying t = some (.struct fs)) (h : DataW.trod enc P W 0 (fun _ => true) true fuel t cs = some x) (hw : Light P t x.1) (i : Nat) {tf : TypeId}
  (hf : (fs[i]?).map (fun f => (f.type, f.offset)) = some (tf, i)) (hc : P.cellsOf tf = 1) (hu : P.underlying tf = some (.int k)) : ∃ n, cs[i]? = some (.int k n) ∧ (Lit.int k n).wf = true := by
 obtain ⟨m, y, _, h1, _⟩ := fld1 ht h hw i hf hc
 obtain ⟨n, h2, _, h3⟩ := DataW.trod_int hu h1
 exact ⟨n, take1 h2, h3⟩
theorem fldBo {t : TypeId} {cs : List Value} {x : DataW H × List MemPlace} {fuel : Nat} {fs : Array Field} (ht : P.underlying t = some (.struct fs)) (h : DataW.trod enc P W 0 (fun _ => true) true fuel t cs = some x) (hw : Light P t x.1) (i : Nat) {tf : TypeId}
  (hf : (fs[i]?).map (fun f => (f.type, f.offset)) = some (tf, i)) (hc : P.cellsOf tf = 1) (hu : P.underlying tf = some .bool) : ∃ b, cs[i]? = some (.bool b) := by
 obtain ⟨m, y, _, h1, _⟩ := fld1 ht h hw i hf hc
 obtain ⟨b, h2, _⟩ := DataW.trod_bool hu h1
 exact ⟨b, take1 h2⟩
theorem read_txt {tf : TypeId} {cs : List Value} {y : DataW H × List MemPlace} {m : Nat} (hu : P.underlying tf = some .string) (h : DataW.trod enc P W 0 (fun _ => true) true m tf cs = some y) (hw : Light P tf y.1) : ∃ t : Txt, cs = [vS t] ∧ OkT t := by
 obtain ⟨s, rfl, rfl, _⟩ := DataW.trod_string hu h
 obtain ⟨l, hb, rfl, hn⟩ := str_of s
 refine ⟨l, rfl, hb, ?_⟩
 have := hw (str l).data.toList.length (by simp [DataW.weights])
 have hs : (str l).data.toList.length = l.length := by simp [str]
 rw [hs] at this
 unfold reachBytes at this
 omega
theorem fldS {t : TypeId} {cs : List Value} {x : DataW H × List MemPlace} {fuel : Nat} {fs : Array Field} (ht : P.underlying t = some (.struct fs)) (h : DataW.trod enc P W 0 (fun _ => true) true fuel t cs = some x) (hw : Light P t x.1) (i : Nat) {tf : TypeId}
  (hf : (fs[i]?).map (fun f => (f.type, f.offset)) = some (tf, i)) (hc : P.cellsOf tf = 1) (hu : P.underlying tf = some .string) : ∃ s : Txt, cs[i]? = some (vS s) ∧ OkT s := by
 obtain ⟨m, y, _, h1, h2⟩ := fld1 ht h hw i hf hc
 obtain ⟨s, h3, h4⟩ := read_txt hu h1 h2
 exact ⟨s, take1 h3, h4⟩
theorem fldR {α : Type} (cells : α → List Value) (ok : α → Prop) {t : TypeId} {cs : List Value} {x : DataW H × List MemPlace} {fuel : Nat} {fs : Array Field} (ht : P.underlying t = some (.struct fs)) (h : DataW.trod enc P W 0 (fun _ => true) true fuel t cs = some x) (hw : Light P t x.1) (i : Nat) {tf e : TypeId} {z by_ : Nat}
  (hf : (fs[i]?).map (fun f => (f.type, f.offset)) = some (tf, i)) (hc : P.cellsOf tf = 1) (hu : P.underlying tf = some (.slice e)) (hz : P.cellsOf e = z) (hz0 : 0 < z) (hb : P.bytesOf e = by_) (hb0 : 0 < by_)
  (hel : ∀ m ce y, m < fuel → ce.length = z → DataW.trod enc P W 0 (fun _ => true) true m e ce = some y → Light P e y.1 → ∃ a : α, ce = cells a ∧ ok a) :
  ∃ r : Rw α, cs[i]? = some r.v ∧ OkN r ∧ (∀ a ∈ r.l, ok a) ∧ ∀ Hs, Rd W Hs r.a r.l.length r.c z (r.l.flatMap cells) := by
 obtain ⟨m, y, hm, h1, h2⟩ := fld1 ht h hw i hf hc
 obtain ⟨r, h3, h4⟩ := read_rw cells ok hu hz hz0 hb hb0 (fun m' ce y' hm' => hel m' ce y' (by omega)) h1 h2
 exact ⟨r, take1 h3, h4⟩
theorem lst_eq {cs vs : List Value} (hl : cs.length = vs.length) (h : ∀ i, i < vs.length → cs[i]? = vs[i]?) : cs = vs := by
 apply List.ext_getElem?
 intro i
 by_cases hi : i < vs.length
 ·exact h i hi
 ·rw [List.getElem?_eq_none (by omega), List.getElem?_eq_none (by omega)]
theorem str_len {t : TypeId} {cs : List Value} {x : DataW H × List MemPlace} {fuel : Nat} {fs : Array Field} (ht : P.underlying t = some (.struct fs)) (h : DataW.trod enc P W 0 (fun _ => true) true fuel t cs = some x) : cs.length = P.cellsOf t := by
 obtain ⟨_, _, _, _, hl, _⟩ := DataW.trod_struct ht h
 exact hl
theorem wf_i32' {a : Int} (h : (Lit.int .i32 a).wf = true) : I32 a := by
 simp only [Lit.wf, Bool.and_eq_true, decide_eq_true_eq, IntKind.min, IntKind.max, IntKind.signed, IntKind.bits] at h
 obtain ⟨h0, h1⟩ := h
 simp at h0 h1
 exact ⟨h0, by omega⟩
theorem wf_u8' {a : Int} (h : (Lit.int .u8 a).wf = true) : U8 a := by
 simp only [Lit.wf, Bool.and_eq_true, decide_eq_true_eq, IntKind.min, IntKind.max, IntKind.signed, IntKind.bits] at h
 obtain ⟨h0, h1⟩ := h
 simp at h0 h1
 exact ⟨h0, by omega⟩
theorem wf_i64' {a : Int} (h : (Lit.int .i64 a).wf = true) : -9223372036854775808 ≤ a ∧ a ≤ 9223372036854775807 := by
 simp only [Lit.wf, Bool.and_eq_true, decide_eq_true_eq, IntKind.min, IntKind.max, IntKind.signed, IntKind.bits] at h
 obtain ⟨h0, h1⟩ := h
 simp at h0 h1
 exact ⟨h0, by omega⟩
end
end Go.Sk
end
section
namespace Go.Proofs.YtdemnhdoadjhhaaGreatDoor
open Go.Sk Go.ChangeShapes Go.WideShapes Go.ChangeAt Go.RowKit
set_option maxRecDepth 100000
section
variable {H : Type} {enc : TypeId × Value → H} {W : World}
theorem read_span {cs : List Value} {x : DataW H × List MemPlace} {fuel : Nat} (h : DataW.trod enc Tryz.prog W 0 (fun _ => true) true fuel 158 cs = some x) (hw : Light Tryz.prog 158 x.1) : ∃ s : SpanT, cs = s.cells ∧ s.Ok := by
 have hl := str_len Tryz.underlying158 h
 obtain ⟨v0, h0, w0⟩ := fldI Tryz.underlying158 h hw 0 (tf := 21) (k := .i32) (by kernel_rfl) (by kernel_rfl) (by kernel_rfl)
 obtain ⟨v1, h1, w1⟩ := fldI Tryz.underlying158 h hw 1 (tf := 21) (k := .i32) (by kernel_rfl) (by kernel_rfl) (by kernel_rfl)
 refine ⟨⟨v0, v1⟩, lst_eq (by rw [hl]; kernel_rfl) (fun i hi => ?_), wf_i32' w0, wf_i32' w1⟩
 match i, hi with
 | 0, _ => exact h0
 | 1, _ => exact h1
 | i + 2, hi => exact absurd hi (by simp [SpanT.cells])
theorem read_eval {cs : List Value} {x : DataW H × List MemPlace} {fuel : Nat} (h : DataW.trod enc Tryz.prog W 0 (fun _ => true) true fuel 111 cs = some x) (hw : Light Tryz.prog 111 x.1) : ∃ s : EValT, cs = s.cells ∧ s.Ok := by
 have hl := str_len Tryz.underlying111 h
 obtain ⟨v0, h0, w0⟩ := fldS Tryz.underlying111 h hw 0 (tf := 9) (by kernel_rfl) (by kernel_rfl) (by kernel_rfl)
 obtain ⟨v1, h1, w1⟩ := fldI Tryz.underlying111 h hw 1 (tf := 21) (k := .i32) (by kernel_rfl) (by kernel_rfl) (by kernel_rfl)
 refine ⟨⟨v0, v1⟩, lst_eq (by rw [hl]; kernel_rfl) (fun i hi => ?_), w0, wf_i32' w1⟩
 match i, hi with
 | 0, _ => exact h0
 | 1, _ => exact h1
 | i + 2, hi => exact absurd hi (by simp [EValT.cells])
theorem read_imp {cs : List Value} {x : DataW H × List MemPlace} {fuel : Nat} (h : DataW.trod enc Tryz.prog W 0 (fun _ => true) true fuel 94 cs = some x) (hw : Light Tryz.prog 94 x.1) : ∃ s : ImpT, cs = s.cells ∧ s.Ok := by
 have hl := str_len Tryz.underlying94 h
 obtain ⟨v0, h0, w0⟩ := fldS Tryz.underlying94 h hw 0 (tf := 9) (by kernel_rfl) (by kernel_rfl) (by kernel_rfl)
 obtain ⟨v1, h1⟩ := fldBo Tryz.underlying94 h hw 1 (tf := 4) (by kernel_rfl) (by kernel_rfl) (by kernel_rfl)
 refine ⟨⟨v0, v1⟩, lst_eq (by rw [hl]; kernel_rfl) (fun i hi => ?_), w0⟩
 match i, hi with
 | 0, _ => exact h0
 | 1, _ => exact h1
 | i + 2, hi => exact absurd hi (by simp [ImpT.cells])
theorem read_field {cs : List Value} {x : DataW H × List MemPlace} {fuel : Nat} (h : DataW.trod enc Tryz.prog W 0 (fun _ => true) true fuel 87 cs = some x) (hw : Light Tryz.prog 87 x.1) : ∃ s : FieldT, cs = s.cells ∧ s.Ok := by
 have hl := str_len Tryz.underlying87 h
 obtain ⟨v0, h0, w0⟩ := fldS Tryz.underlying87 h hw 0 (tf := 9) (by kernel_rfl) (by kernel_rfl) (by kernel_rfl)
 obtain ⟨v1, h1, w1⟩ := fldI Tryz.underlying87 h hw 1 (tf := 21) (k := .i32) (by kernel_rfl) (by kernel_rfl) (by kernel_rfl)
 obtain ⟨v2, h2, w2⟩ := fldI Tryz.underlying87 h hw 2 (tf := 83) (k := .u8) (by kernel_rfl) (by kernel_rfl) (by kernel_rfl)
 obtain ⟨v3, h3, w3⟩ := fldI Tryz.underlying87 h hw 3 (tf := 84) (k := .u8) (by kernel_rfl) (by kernel_rfl) (by kernel_rfl)
 obtain ⟨v4, h4, w4⟩ := fldS Tryz.underlying87 h hw 4 (tf := 9) (by kernel_rfl) (by kernel_rfl) (by kernel_rfl)
 obtain ⟨v5, h5, w5⟩ := fldI Tryz.underlying87 h hw 5 (tf := 84) (k := .u8) (by kernel_rfl) (by kernel_rfl) (by kernel_rfl)
 obtain ⟨v6, h6, w6⟩ := fldI Tryz.underlying87 h hw 6 (tf := 3) (k := .i64) (by kernel_rfl) (by kernel_rfl) (by kernel_rfl)
 obtain ⟨v7, h7, w7⟩ := fldI Tryz.underlying87 h hw 7 (tf := 85) (k := .u8) (by kernel_rfl) (by kernel_rfl) (by kernel_rfl)
 obtain ⟨v8, h8, w8⟩ := fldS Tryz.underlying87 h hw 8 (tf := 9) (by kernel_rfl) (by kernel_rfl) (by kernel_rfl)
 refine ⟨⟨v0, v1, v2, v3, v4, v5, v6, v7, v8⟩, lst_eq (by rw [hl]; kernel_rfl) (fun i hi => ?_), w0, wf_i32' w1, wf_u8' w2, wf_u8' w3, w4, wf_u8' w5, wf_i64' w6, wf_u8' w7, w8⟩
 match i, hi with
 | 0, _ => exact h0
 | 1, _ => exact h1
 | 2, _ => exact h2
 | 3, _ => exact h3
 | 4, _ => exact h4
 | 5, _ => exact h5
 | 6, _ => exact h6
 | 7, _ => exact h7
 | 8, _ => exact h8
 | i + 9, hi => exact absurd hi (by simp [FieldT.cells])
theorem flat_vS (l : List Txt) : l.flatMap (fun t => [vS t]) = l.map vS := by
 induction l with
 | nil => rfl
 | cons t l ih => rw [List.flatMap_cons, ih]; rfl
theorem read_enum {cs : List Value} {x : DataW H × List MemPlace} {fuel : Nat} (h : DataW.trod enc Tryz.prog W 0 (fun _ => true) true fuel 109 cs = some x) (hw : Light Tryz.prog 109 x.1) : ∃ e : EnumT, cs = e.cells ∧ e.Ok ∧ ∀ Hs, e.In (Rd W Hs) := by
 have hl := str_len Tryz.underlying109 h
 obtain ⟨v0, h0, w0⟩ := fldS Tryz.underlying109 h hw 0 (tf := 9) (by kernel_rfl) (by kernel_rfl) (by kernel_rfl)
 obtain ⟨v1, h1, n1, w1, r1⟩ := fldR EValT.cells EValT.Ok Tryz.underlying109 h hw 1 (tf := 107) (e := 111) (z := 2) (by_ := 24) (by kernel_rfl) (by kernel_rfl) (by kernel_rfl) (by kernel_rfl) (by decide) (by kernel_rfl) (by decide) (fun _ _ _ _ _ h hw => read_eval h hw)
 obtain ⟨v2, h2⟩ := fldBo Tryz.underlying109 h hw 2 (tf := 4) (by kernel_rfl) (by kernel_rfl) (by kernel_rfl)
 obtain ⟨v3, h3, n3, w3, r3⟩ := fldR SpanT.cells SpanT.Ok Tryz.underlying109 h hw 3 (tf := 70) (e := 158) (z := 2) (by_ := 8) (by kernel_rfl) (by kernel_rfl) (by kernel_rfl) (by kernel_rfl) (by decide) (by kernel_rfl) (by decide) (fun _ _ _ _ _ h hw => read_span h hw)
 obtain ⟨v4, h4, n4, w4, r4⟩ := fldR (fun t : Txt => [vS t]) OkT Tryz.underlying109 h hw 4 (tf := 69) (e := 9) (z := 1) (by_ := 16) (by kernel_rfl) (by kernel_rfl) (by kernel_rfl) (by kernel_rfl) (by decide) (by kernel_rfl) (by decide) (fun _ _ _ _ _ h hw => read_txt (by kernel_rfl) h hw)
 refine ⟨⟨v0, v1, v2, v3, v4⟩, lst_eq (by rw [hl]; kernel_rfl) (fun i hi => ?_), ⟨w0, n1, w1, n3, w3, n4, w4⟩, fun Hs => ⟨r1 Hs, r3 Hs, by have := r4 Hs; rwa [flat_vS] at this⟩⟩
 match i, hi with
 | 0, _ => exact h0
 | 1, _ => exact h1
 | 2, _ => exact h2
 | 3, _ => exact h3
 | 4, _ => exact h4
 | i + 5, hi => exact absurd hi (by simp [EnumT.cells])
theorem read_msg : ∀ (fuel : Nat) {cs : List Value} {x : DataW H × List MemPlace}, DataW.trod enc Tryz.prog W 0 (fun _ => true) true fuel 72 cs = some x → Light Tryz.prog 72 x.1 → ∃ m : MsgT, cs = m.cells ∧ m.Ok ∧ ∀ Hs, m.In (Rd W Hs) := by
 intro fuel
 induction fuel using Nat.strongRecOn with
 | _ fuel ih =>
 intro cs x h hw
 have hl := str_len Tryz.underlying72 h
 obtain ⟨v0, h0, w0⟩ := fldS Tryz.underlying72 h hw 0 (tf := 9) (by kernel_rfl) (by kernel_rfl) (by kernel_rfl)
 obtain ⟨v1, h1, n1, w1, r1⟩ := fldR FieldT.cells FieldT.Ok Tryz.underlying72 h hw 1 (tf := 68) (e := 87) (z := 9) (by_ := 80) (by kernel_rfl) (by kernel_rfl) (by kernel_rfl) (by kernel_rfl) (by decide) (by kernel_rfl) (by decide) (fun _ _ _ _ _ h hw => read_field h hw)
 obtain ⟨v2, h2, n2, w2, r2⟩ := fldR (fun t : Txt => [vS t]) OkT Tryz.underlying72 h hw 2 (tf := 69) (e := 9) (z := 1) (by_ := 16) (by kernel_rfl) (by kernel_rfl) (by kernel_rfl) (by kernel_rfl) (by decide) (by kernel_rfl) (by decide) (fun _ _ _ _ _ h hw => read_txt (by kernel_rfl) h hw)
 obtain ⟨v3, h3, n3, w3, r3⟩ := fldR MsgT.cells (fun m => m.Ok ∧ ∀ Hs, m.In (Rd W Hs)) Tryz.underlying72 h hw 3 (tf := 23) (e := 72) (z := 7) (by_ := 160) (by kernel_rfl) (by kernel_rfl) (by kernel_rfl) (by kernel_rfl) (by decide) (by kernel_rfl) (by decide) (fun m _ _ hm _ h hw => ih m hm h hw)
 obtain ⟨v4, h4, n4, w4, r4⟩ := fldR EnumT.cells (fun e => e.Ok ∧ ∀ Hs, e.In (Rd W Hs)) Tryz.underlying72 h hw 4 (tf := 24) (e := 109) (z := 5) (by_ := 96) (by kernel_rfl) (by kernel_rfl) (by kernel_rfl) (by kernel_rfl) (by decide) (by kernel_rfl) (by decide) (fun _ _ _ _ _ h hw => read_enum h hw)
 obtain ⟨v5, h5, n5, w5, r5⟩ := fldR SpanT.cells SpanT.Ok Tryz.underlying72 h hw 5 (tf := 70) (e := 158) (z := 2) (by_ := 8) (by kernel_rfl) (by kernel_rfl) (by kernel_rfl) (by kernel_rfl) (by decide) (by kernel_rfl) (by decide) (fun _ _ _ _ _ h hw => read_span h hw)
 obtain ⟨v6, h6, n6, w6, r6⟩ := fldR (fun t : Txt => [vS t]) OkT Tryz.underlying72 h hw 6 (tf := 69) (e := 9) (z := 1) (by_ := 16) (by kernel_rfl) (by kernel_rfl) (by kernel_rfl) (by kernel_rfl) (by decide) (by kernel_rfl) (by decide) (fun _ _ _ _ _ h hw => read_txt (by kernel_rfl) h hw)
 refine ⟨.mk v0 v1 v2 v3.a v3.c v3.l v4 v5 v6, lst_eq (by rw [hl]; kernel_rfl) (fun i hi => ?_), ?_, fun Hs => ?_⟩
 ·match i, hi with
  | 0, _ => exact h0
  | 1, _ => exact h1
  | 2, _ => exact h2
  | 3, _ => exact h3
  | 4, _ => exact h4
  | 5, _ => exact h5
  | 6, _ => exact h6
  | i + 7, hi => exact absurd hi (by simp [MsgT.cells])
 ·unfold MsgT.Ok
  exact ⟨w0, ⟨n1, w1⟩, ⟨n2, w2⟩, n3, ⟨n4, fun e he => (w4 e he).1⟩, ⟨n5, w5⟩, ⟨n6, w6⟩, MsgT.okL_of fun m hm => (w3 m hm).1⟩
 ·unfold MsgT.In
  exact ⟨r1 Hs, by have := r2 Hs; rwa [flat_vS] at this, r3 Hs, r4 Hs, fun e he => (w4 e he).2 Hs, r5 Hs, by have := r6 Hs; rwa [flat_vS] at this, MsgT.inL_of fun m hm => (w3 m hm).2 Hs⟩
theorem read_file {cs : List Value} {x : DataW H × List MemPlace} {fuel : Nat} (h : DataW.trod enc Tryz.prog W 0 (fun _ => true) true fuel 26 cs = some x) (hw : Light Tryz.prog 26 x.1) : ∃ f : FileT, cs = f.cells ∧ f.Ok ∧ ∀ Hs, f.In (Rd W Hs) := by
 have hl := str_len Tryz.underlying26 h
 obtain ⟨v0, h0, w0⟩ := fldS Tryz.underlying26 h hw 0 (tf := 9) (by kernel_rfl) (by kernel_rfl) (by kernel_rfl)
 obtain ⟨v1, h1, w1⟩ := fldS Tryz.underlying26 h hw 1 (tf := 9) (by kernel_rfl) (by kernel_rfl) (by kernel_rfl)
 obtain ⟨v2, h2, n2, w2, r2⟩ := fldR ImpT.cells ImpT.Ok Tryz.underlying26 h hw 2 (tf := 22) (e := 94) (z := 2) (by_ := 24) (by kernel_rfl) (by kernel_rfl) (by kernel_rfl) (by kernel_rfl) (by decide) (by kernel_rfl) (by decide) (fun _ _ _ _ _ h hw => read_imp h hw)
 obtain ⟨v3, h3, n3, w3, r3⟩ := fldR MsgT.cells (fun m => m.Ok ∧ ∀ Hs, m.In (Rd W Hs)) Tryz.underlying26 h hw 3 (tf := 23) (e := 72) (z := 7) (by_ := 160) (by kernel_rfl) (by kernel_rfl) (by kernel_rfl) (by kernel_rfl) (by decide) (by kernel_rfl) (by decide) (fun m _ _ _ _ h hw => read_msg m h hw)
 obtain ⟨v4, h4, n4, w4, r4⟩ := fldR EnumT.cells (fun e => e.Ok ∧ ∀ Hs, e.In (Rd W Hs)) Tryz.underlying26 h hw 4 (tf := 24) (e := 109) (z := 5) (by_ := 96) (by kernel_rfl) (by kernel_rfl) (by kernel_rfl) (by kernel_rfl) (by decide) (by kernel_rfl) (by decide) (fun _ _ _ _ _ h hw => read_enum h hw)
 refine ⟨⟨v0, v1, v2, v3.a, v3.c, v3.l, v4⟩, lst_eq (by rw [hl]; kernel_rfl) (fun i hi => ?_), ⟨w0, w1, ⟨n2, w2⟩, ⟨n3, fun m hm => (w3 m hm).1⟩, ⟨n4, fun e he => (w4 e he).1⟩⟩, fun Hs => ⟨r2 Hs, r3 Hs, fun m hm => (w3 m hm).2 Hs, r4 Hs, fun e he => (w4 e he).2 Hs⟩⟩
 match i, hi with
 | 0, _ => exact h0
 | 1, _ => exact h1
 | 2, _ => exact h2
 | 3, _ => exact h3
 | 4, _ => exact h4
 | i + 5, hi => exact absurd hi (by simp [FileT.cells])
end
end Go.Proofs.YtdemnhdoadjhhaaGreatDoor
end
