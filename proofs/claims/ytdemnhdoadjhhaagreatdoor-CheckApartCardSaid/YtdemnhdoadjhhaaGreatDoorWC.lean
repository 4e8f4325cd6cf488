/- Merged: P25, H6, H7, H8, H9, H10, B15, B16r, B17r, Z10. -/
import Derived.Test.YtdemnhdoadjhhaaGreatDoorWB
import Derived.Test.YtdemnhdoadjhhaaGreatDoorSkB
import Derived.Test.YtdemnhdoadjhhaaGreatDoorSkA
import Derived.Test.YtdemnhdoadjhhaaGreatDoorWA
set_option linter.unusedVariables false
set_option linter.unusedSimpArgs false
section
namespace Go.Proofs.YtdemnhdoadjhhaaGreatDoor
open Go.Sk
theorem partsF_app : ∀ (a b cur : List Int), partsF (a ++ 46 :: b) cur = partsF a cur ++ partsF b []
 | [], b, cur => by simp [partsF]
 | c :: r, b, cur => by
  rw [List.cons_append, partsF_cons, partsF_cons]
  split
  ·rw [partsF_app r b, List.cons_append]
  ·rw [partsF_app r b]
theorem partsF_no : ∀ (b cur : List Int), (∀ x ∈ b, x ≠ 46) → partsF b cur = [cur ++ b]
 | [], cur, _ => by simp [partsF]
 | c :: r, cur, h => by
  rw [partsF_cons, if_neg (h c (by simp)), partsF_no r _ (fun x hx => h x (by simp [hx]))]
  simp
theorem parts_all {l : List Int} : (∀ j, j < (partsL l).length → identP ((partsL l).getD j [])) ↔ ∀ p ∈ partsL l, identP p := by
 constructor
 ·intro h p hp
  obtain ⟨j, hj, e⟩ := List.mem_iff_getElem.1 hp
  have := h j hj
  rw [List.getD_eq_getElem?_getD, List.getElem?_eq_getElem hj] at this
  rw [← e]; exact this
 ·intro h j hj
  rw [List.getD_eq_getElem?_getD, List.getElem?_eq_getElem hj]
  exact h _ (List.getElem_mem hj)
theorem fullP_of {l : Txt} (h : fullB l = true) : fullP l := by
 by_cases hp : fullP l
 ·exact hp
 ·rw [fullB_f hp] at h; cases h
theorem identP_of {l : Txt} (h : identB l = true) : identP l := by
 rcases identB_cases l with ⟨_, h2⟩ | ⟨h1, _⟩
 ·exact h2
 ·rw [h] at h1; cases h1
theorem ident_dot {l : Txt} (h : identP l) : ∀ x ∈ l, x ≠ 46 := fun x hx e => by
 obtain ⟨j, hj, he⟩ := List.mem_iff_getElem.1 hx
 have h2 := h.2.2.2 j hj
 rw [List.getD_eq_getElem?_getD, List.getElem?_eq_getElem hj, Option.getD_some, he, e] at h2
 revert h2
 unfold okC isDig
 decide
theorem full_j {sc nm : Txt} (hs : sc = [] ∨ fullB sc = true) (hi : identB nm = true) (hl : (joinL [sc, nm]).length ≤ 255) : fullB (joinL [sc, nm]) = true := by
 have hp := identP_of hi
 have hne : nm ≠ [] := fun e => by
  have := hp.1
  rw [e] at this
  simp at this
 refine fullB_t ⟨hl, parts_all.2 fun p hpp => ?_⟩
 rw [J_def] at hpp
 by_cases h : sc = []
 ·rw [if_pos h] at hpp
  unfold partsL at hpp
  rw [partsF_no _ _ (ident_dot hp), List.nil_append, List.mem_singleton] at hpp
  rw [hpp]; exact hp
 ·rw [if_neg h, if_neg hne] at hpp
  unfold partsL at hpp
  rw [partsF_app, partsF_no nm _ (ident_dot hp), List.nil_append] at hpp
  rcases List.mem_append.1 hpp with hpp | hpp
  ·have hf := (fullP_of (hs.resolve_left h)).2
   exact parts_all.1 hf p hpp
  ·rw [List.mem_singleton.1 hpp]; exact hp
/-- What is given is put behind, stays unlike, and is full names. -/
def EX (L : List Txt) (F : List Txt → Rs) : Prop := ∀ g h, F g = .ok h → h = g ++ L ∧ (g.Nodup → h.Nodup) ∧ ∀ y ∈ L, fullB y = true
theorem EX.ok : EX [] .ok := fun g h e => by cases e; exact ⟨by simp, fun h => h, fun y hy => by cases hy⟩
section
variable {L L' : List Txt}
theorem EX.must {b : Bool} {e : Int} {t' : Txt} {K : List Txt → Rs} (h : EX L K) : EX L (fun g => must b e t' (K g)) := fun g h' eq => by
 cases b
 ·cases eq
 ·exact h g h' eq
theorem EX.opt {o : Option Flt} {K : List Txt → Rs} (h : EX L K) : EX L (fun g => opt o (K g)) := fun g h' eq => by
 cases o with
 | none => exact h g h' eq
 | some x => cases eq
theorem EX.bnd {F K : List Txt → Rs} (hF : EX L F) (hK : EX L' K) : EX (L ++ L') (fun g => bnd (F g) K) := fun g h eq => by
 dsimp only at eq
 cases e1 : F g with
 | error x => rw [e1] at eq; cases eq
 | ok g1 =>
  rw [e1, bnd_ok] at eq
  obtain ⟨a1, a2, a3⟩ := hF g g1 e1
  obtain ⟨b1, b2, b3⟩ := hK g1 h eq
  exact ⟨by rw [b1, a1, List.append_assoc], fun hn => b2 (a2 hn), fun y hy => (List.mem_append.1 hy).elim (a3 y) (b3 y)⟩
theorem EX.give {nm sc : Txt} {K : List Txt → Rs} (hs : sc = [] ∨ fullB sc = true) (hK : fullB (joinL [sc, nm]) = true → EX L K) : EX (joinL [sc, nm] :: L) (fun g => Go.Proofs.YtdemnhdoadjhhaaGreatDoor.bnd (giveR nm (joinL [sc, nm]) g) K) := fun g h eq => by
 dsimp only at eq
 cases e1 : giveR nm (joinL [sc, nm]) g with
 | error x => rw [e1] at eq; cases eq
 | ok g1 =>
  rw [e1, bnd_ok] at eq
  obtain ⟨h1, h2, h3, rfl⟩ := give_ok e1
  have hf := full_j hs h1 h2
  obtain ⟨b1, b2, b3⟩ := hK hf _ h eq
  refine ⟨by rw [b1]; simp, fun hn => b2 ?_, fun y hy => (List.mem_cons.1 hy).elim (fun e => by rw [e]; exact hf) (b3 y)⟩
  refine List.nodup_append.2 ⟨hn, by simp, fun a ha b hb e => h3 ?_⟩
  rw [List.mem_singleton] at hb
  rw [← hb, ← e]; exact ha
end
theorem ex_field {names : List Txt} {res : List SpanT} {no : Nat} {full : Txt} {ah : List FieldT} {f : FieldT} (hs : full = [] ∨ fullB full = true) : EX [joinL [full, f.nm]] (fieldR names res no full ah f) := by
 unfold fieldR fieldR7 fieldR8 fieldR11 fieldR14 fieldR15 fieldR16 fieldR17
 refine EX.give hs fun _ => ?_
 repeat (first | exact EX.ok | refine EX.must ?_)
theorem ex_fields {names : List Txt} {res : List SpanT} {no : Nat} {full : Txt} (hs : full = [] ∨ fullB full = true) : ∀ {l ah : List FieldT}, EX (l.map fun f => joinL [full, f.nm]) (fieldsR names res no full ah l)
 | [], ah => by cases ah <;> exact EX.ok
 | f :: l, ah => by
  have e : fieldsR names res no full ah (f :: l) = fun g => bnd (fieldR names res no full ah f g) (fieldsR names res no full (ah ++ [f]) l) := by funext g; rw [fieldsR]
  rw [e]
  exact EX.bnd (ex_field hs) (ex_fields hs)
theorem ex_oneofs {fields : List FieldT} {full : Txt} (hs : full = [] ∨ fullB full = true) : ∀ {l : List Txt} {i : Nat}, EX (l.map fun o => joinL [full, o]) (oneofsR fields full i l)
 | [], i => EX.ok
 | o :: l, i => by
  have e : oneofsR fields full i (o :: l) = fun g => bnd (giveR o (joinL [full, o]) g) fun g => Go.Proofs.YtdemnhdoadjhhaaGreatDoor.must (decide (∃ f ∈ fields, f.oneof = (i : Int) + 1)) 64 (joinL [full, o]) (oneofsR fields full (i + 1) l g) := by funext g; rw [oneofsR]
  rw [e]
  exact EX.give hs fun _ => EX.must (ex_oneofs hs)
theorem ex_vals {names : List Txt} {res : List SpanT} {ali : Bool} {sc : Txt} (hs : sc = [] ∨ fullB sc = true) : ∀ {l ah : List EValT}, EX (l.map fun v => joinL [sc, v.nm]) (valsR names res ali sc ah l)
 | [], ah => by cases ah <;> exact EX.ok
 | v :: l, ah => by
  have e : valsR names res ali sc ah (v :: l) = fun g => bnd (giveR v.nm (joinL [sc, v.nm]) g) fun g => Go.Proofs.YtdemnhdoadjhhaaGreatDoor.must (decide (v.nm ∉ names) && !anyS res v.num) 63 (joinL [sc, v.nm]) (Go.Proofs.YtdemnhdoadjhhaaGreatDoor.must (ali || decide (∀ o ∈ ah, o.num ≠ v.num)) 66 (joinL [sc, v.nm]) (valsR names res ali sc (ah ++ [v]) l g)) := by funext g; rw [valsR]
  rw [e]
  exact EX.give hs fun _ => EX.must (EX.must (ex_vals hs))
abbrev fulls (l : List SymT) : List Txt := l.map SymT.full
theorem ex_enum {e : EnumT} {sc fl : Txt} (hs : sc = [] ∨ fullB sc = true) : EX (fulls (symE fl sc e)) (enumR e sc) := by
 have hl : fulls (symE fl sc e) = joinL [sc, e.nm] :: e.vals.l.map (fun v => joinL [sc, v.nm]) := by
  unfold symE fulls
  simp [Function.comp_def]
 rw [hl]
 unfold enumR
 exact EX.give hs fun _ => EX.must (EX.must (EX.opt (EX.opt (ex_vals hs))))
theorem ex_enums {sc fl : Txt} (hs : sc = [] ∨ fullB sc = true) : ∀ {l : List EnumT}, EX (fulls (l.flatMap (symE fl sc))) (enumsR sc l)
 | [] => EX.ok
 | e :: l => by
  have ee : enumsR sc (e :: l) = fun g => bnd (enumR e sc g) (enumsR sc l) := by funext g; rw [enumsR]
  rw [ee, List.flatMap_cons]
  unfold fulls
  rw [List.map_append]
  exact EX.bnd (ex_enum hs) (ex_enums hs)
mutual
theorem ex_msg {fl : Txt} : ∀ {m : MsgT} {sc : Txt} {deep : Nat}, (sc = [] ∨ fullB sc = true) → EX (fulls (symM fl m sc)) (msgR m sc deep)
 | .mk nm fields oneofs ma mc msgs enums res names, sc, deep, hs => by
  have ee : msgR (.mk nm fields oneofs ma mc msgs enums res names) sc deep = fun g =>
   bnd (giveR nm (joinL [sc, nm]) g) fun g =>
   Go.Proofs.YtdemnhdoadjhhaaGreatDoor.must (decide (deep < 16) && decide (fields.l.length ≤ 1000)) 68 (joinL [sc, nm]) <|
   Go.Proofs.YtdemnhdoadjhhaaGreatDoor.opt (spansF 1 536870911 (joinL [sc, nm]) [] res.l) <|
   Go.Proofs.YtdemnhdoadjhhaaGreatDoor.opt (namesF (joinL [sc, nm]) [] names.l) <|
   bnd (fieldsR names.l res.l oneofs.l.length (joinL [sc, nm]) [] fields.l g) fun g =>
   bnd (oneofsR fields.l (joinL [sc, nm]) 0 oneofs.l g) fun g =>
   bnd (msgsR msgs (joinL [sc, nm]) (deep + 1) g) fun g =>
   enumsR (joinL [sc, nm]) enums.l g := by funext g; rw [msgR]
  have hl : fulls (symM fl (.mk nm fields oneofs ma mc msgs enums res names) sc) = joinL [sc, nm] :: ((fields.l.map fun f => joinL [joinL [sc, nm], f.nm]) ++ ((oneofs.l.map fun o => joinL [joinL [sc, nm], o]) ++ (fulls (symMs fl msgs (joinL [sc, nm])) ++ fulls (enums.l.flatMap (symE fl (joinL [sc, nm])))))) := by
   unfold symM fulls
   simp [Function.comp_def]
  rw [ee, hl]
  exact EX.give hs fun hf => EX.must (EX.opt (EX.opt (EX.bnd (ex_fields (.inr hf)) (EX.bnd (ex_oneofs (.inr hf)) (EX.bnd (ex_msgs (.inr hf)) (ex_enums (.inr hf)))))))
theorem ex_msgs {fl : Txt} : ∀ {l : List MsgT} {sc : Txt} {deep : Nat}, (sc = [] ∨ fullB sc = true) → EX (fulls (symMs fl l sc)) (msgsR l sc deep)
 | [], sc, deep, _ => by
  have ee : msgsR [] sc deep = .ok := by funext g; rw [msgsR]
  rw [ee]; unfold symMs; exact EX.ok
 | m :: l, sc, deep, hs => by
  have ee : msgsR (m :: l) sc deep = fun g => bnd (msgR m sc deep g) fun g => msgsR l sc deep g := by funext g; rw [msgsR]
  have hl : fulls (symMs fl (m :: l) sc) = fulls (symM fl m sc) ++ fulls (symMs fl l sc) := by
   have e : symMs fl (m :: l) sc = symM fl m sc ++ symMs fl l sc := by rw [symMs]
   unfold fulls
   rw [e, List.map_append]
  rw [ee, hl]
  exact EX.bnd (ex_msg hs) (ex_msgs hs)
end
/-- The names of a file that is right. -/
theorem apart {f : FileT} (h : (checkL f).1 = 0) : (checkL f).2 = [] ∧ ((symF f).map SymT.full).Nodup ∧ ∀ s ∈ symF f, fullB s.full = true := by
 unfold checkL at h ⊢
 cases hr : fileR f with
 | error y =>
  rw [hr] at h
  obtain ⟨e, t⟩ := y
  exact absurd h (nz_file e t hr)
 | ok hh =>
  refine ⟨rfl, ?_⟩
  unfold fileR at hr
  cases c1 : pathB f.path
  ·rw [c1] at hr; cases hr
  cases c2 : (decide (f.pack = []) || fullB f.pack)
  ·rw [c1, c2, must_t rfl] at hr; cases hr
  cases c3 : decide (f.imps.l.length ≤ 256)
  ·rw [c1, c2, c3, must_t rfl, must_t rfl] at hr; cases hr
  rw [c1, c2, c3, must_t rfl, must_t rfl, must_t rfl] at hr
  cases c4 : impsF [] f.imps.l with
  | some x => rw [c4] at hr; cases hr
  | none =>
   rw [c4, opt_none] at hr
   have hs : f.pack = [] ∨ fullB f.pack = true := by
    rw [Bool.or_eq_true, decide_eq_true_eq] at c2
    exact c2
   have he : EX (fulls (symMs f.path f.msgs f.pack) ++ fulls (f.enums.l.flatMap (symE f.path f.pack))) (fun g => bnd (msgsR f.msgs f.pack 0 g) fun g => enumsR f.pack f.enums.l g) := EX.bnd (ex_msgs hs) (ex_enums hs)
   obtain ⟨e1, e2, e3⟩ := he [] hh hr
   rw [← List.map_append] at e1 e3
   rw [List.nil_append] at e1
   have e4 := e2 List.Pairwise.nil
   rw [e1] at e4
   exact ⟨e4, fun s hs => e3 _ (List.mem_map.2 ⟨s, hs, rfl⟩)⟩
end Go.Proofs.YtdemnhdoadjhhaaGreatDoor
end
section
namespace Go.Proofs.YtdemnhdoadjhhaaGreatDoor
open Go.Sk
set_option maxRecDepth 100000
theorem map_getT {l : List Txt} {j : Nat} {x : Txt} (h : l[j]? = some x) : (l.map vS)[j]? = some (vS x) := by rw [List.getElem?_map, h]; rfl
attribute [local irreducible] Cs Own Ex Pu Yld RT LJ QJ AtQ CT Rd QSp Sp FinQ Then LoopQ CutQ DT TakeQ EffQ
variable {B : World} {R : List HP}
set_option maxHeartbeats 4000000 in
theorem enum_fn {br bm : Nat} {g : List Txt} {e : EnumT} {sc : Txt} (hin : e.In (Rd B R)) (hok : e.Ok) (hnm : ENm e) (hg : BL g) (hs : Byt sc) (hsl : sc.length ≤ 16777216) :
  SpP B Tryz.prog 93 [ptr br, .agg e.cells.toArray, vS sc] R [rdr br bm, giv bm g] (PostR (enumR e sc g) [rdr br bm] bm) (PPR (enumR e sc g)) := by
 obtain ⟨nm, ⟨va, vc, vl⟩, ali, ⟨ra, rc, rl⟩, ⟨na, nc, nl⟩⟩ := e
 obtain ⟨hv, hr, hn⟩ := hin
 obtain ⟨⟨ho1, _⟩, ⟨ho2, _⟩, ho3, ⟨ho4, _⟩, ho5, ⟨ho6, _⟩, ho7⟩ := hok
 obtain ⟨hm1, hm2, hm3⟩ := hnm
 dsimp only at hv hr hn ho1 ho2 ho3 ho4 ho5 ho6 ho7 hm1 hm2 hm3
 have hT : enumR ⟨nm, ⟨va, vc, vl⟩, ali, ⟨ra, rc, rl⟩, ⟨na, nc, nl⟩⟩ sc g = enumR ⟨nm, ⟨va, vc, vl⟩, ali, ⟨ra, rc, rl⟩, ⟨na, nc, nl⟩⟩ sc g := rfl
 conv at hT => rhs; unfold enumR
 dsimp only at hT
 generalize enumR ⟨nm, ⟨va, vc, vl⟩, ali, ⟨ra, rc, rl⟩, ⟨na, nc, nl⟩⟩ sc g = TT at *
 dsimp only [EnumT.cells, Rw.v]
 refine SpP.body Tryz.func93 rfl Tryz.ntmps93 (by simp) ?_
 simp only [argE, List.cons_append, List.nil_append, Nat.zero_add, Nat.reduceAdd]
 repeat' (first|(refine gv ?_;first|refine RT.id ?_|(refine⟨fun hc=>?_,fun hc=>?_⟩<;>first|(exfalso;omega)|skip)|refine gk ?_|refine num_m fun r hr=>?_|intro r hr)|refine gs ?_|(refine gb ?_;intro b)|refine gn ?_|(refine RT.isPush ?_;refine gp ?_;intro a' c' b' c1' hac)|refine gc ?_|fail)
 revert b
 intro eb
 (refine RT.bs T (l := strs [sc,  nm]) rfl rfl rfl rfl rfl rfl rfl (fun a9 c9 h9 => ?_); (refine RT.call T rfl fR_ (join_fn (ls := [sc,  nm]) (Own.rd (by ((repeat constructor);done)) rfl h9) rfl (b2  hs  ho1) ( s2l hsl hm1)) rfl rfl rfl ?_; rintro _ _ ⟨rfl, rfl⟩; try simp only [List.cons_append, List.nil_append]); refine RT.weak (fun w h => h.tail) ?_)
 repeat' (first|(refine gv ?_;first|refine RT.id ?_|(refine⟨fun hc=>?_,fun hc=>?_⟩<;>first|(exfalso;omega)|skip)|refine gk ?_|refine num_m fun r hr=>?_|intro r hr)|refine gs ?_|(refine gb ?_;intro b)|refine gn ?_|(refine RT.isPush ?_;refine gp ?_;intro a' c' b' c1' hac)|refine gc ?_|fail)
 have hjl := @j2_len sc nm
 (refine RT.callP T rfl fR_ (give_fn (br := br) (bm := bm) hg ho1 (j2_byt hs ho1) hm1 (show (joinL [sc, nm]).length ≤ 140737488355327 by omega)) rfl rfl rfl (fun v H1 hp => ?_) (fun v H1 hp => ?_))
 ·obtain ⟨e, t, h1, rfl, rfl⟩ := hp
  ((repeat refine nx ?_); exact AtQ.finP (H' := []) ⟨e, t, by rw [hT, h1]; rfl, rfl, rfl⟩ dR_)
 obtain ⟨g1, h1, hb1, rfl⟩ := hp
 rw [h1] at hT
 rw [bnd_ok] at hT
 simp only [List.cons_append, List.nil_append]
 repeat' (first|(refine gv ?_;first|refine RT.id ?_|(refine⟨fun hc=>?_,fun hc=>?_⟩<;>first|(exfalso;omega)|skip)|refine gk ?_|refine num_m fun r hr=>?_|intro r hr)|refine gs ?_|(refine gb ?_;intro b)|refine gn ?_|(refine RT.isPush ?_;refine gp ?_;intro a' c' b' c1' hac)|refine gc ?_|fail)
 rotate_left
 ·(refine RT.callP T rfl fR_ (must_fn (p := false) (e := 68) (t := joinL [sc, nm])) rfl rfl rfl (fun v H1 hp => ?_) (fun v H1 hp => ?_))
  ·obtain ⟨_, rfl, rfl⟩ := hp
   ((repeat refine nx ?_); exact AtQ.finP (H' := []) ⟨68, joinL [sc, nm], by rw [hT]; exact must_f (decide_eq_false (by omega)), rfl, rfl⟩ dR_)
  ·cases hp.1
 rw [must_t (decide_eq_true (by omega))] at hT
 (refine RT.callP T rfl fR_ (must_fn (p := true) (e := 68) (t := joinL [sc, nm])) rfl rfl rfl (fun v H1 hp => ?_) (fun v H1 hp => ?_))
 ·cases hp.1
 obtain ⟨_, rfl⟩ := hp
 simp only [List.nil_append]
 repeat' (first|(refine gv ?_;first|refine RT.id ?_|(refine⟨fun hc=>?_,fun hc=>?_⟩<;>first|(exfalso;omega)|skip)|refine gk ?_|refine num_m fun r hr=>?_|intro r hr)|refine gs ?_|(refine gb ?_;intro b)|refine gn ?_|(refine RT.isPush ?_;refine gp ?_;intro a' c' b' c1' hac)|refine gc ?_|fail)
 ·have hl0 : 0 < vl.length := by omega
  have hg0 := List.getElem?_eq_getElem hl0
  revert hg0
  generalize vl[0] = v0
  intro hg0
  refine RT.ix T (j := 0) rfl rfl rfl (by repeat (first | exact (hv) | apply Rd.cons)) (by omega) (by omega) rfl rfl rfl ?_
  refine RT.faA T rfl rfl rfl rfl ?_
  refine RT.ldr (u := .int .i32 v0.num) T rfl (by repeat (first | exact (hv) | apply Rd.cons)) (by rw [show (0 + 1 : Nat) = 0 * 2 + 1 from rfl, flat_get (f := EValT.cells) (z := 2) (fun _ => rfl) hg0 (by decide)]; rfl) rfl rfl rfl ?_
  repeat' (first|(refine gv ?_;first|refine RT.id ?_|(refine⟨fun hc=>?_,fun hc=>?_⟩<;>first|(exfalso;omega)|skip)|refine gk ?_|refine num_m fun r hr=>?_|intro r hr)|refine gs ?_|(refine gb ?_;intro b)|refine gn ?_|(refine RT.isPush ?_;refine gp ?_;intro a' c' b' c1' hac)|refine gc ?_|fail)
  rotate_left
  ·(refine RT.callP T rfl fR_ (must_fn (p := false) (e := 66) (t := joinL [sc, nm])) rfl rfl rfl (fun v H1 hp => ?_) (fun v H1 hp => ?_))
   ·obtain ⟨_, rfl, rfl⟩ := hp
    ((repeat refine nx ?_); exact AtQ.finP (H' := []) ⟨66, joinL [sc, nm], by rw [hT]; exact must_f (decide_eq_false (by rintro ⟨v, hv, h0⟩; rw [hg0] at hv; cases hv; omega)), rfl, rfl⟩ dR_)
   ·cases hp.1
  rw [must_t (decide_eq_true ⟨v0, hg0, by omega⟩)] at hT
  (refine RT.callP T rfl fR_ (must_fn (p := true) (e := 66) (t := joinL [sc, nm])) rfl rfl rfl (fun v H1 hp => ?_) (fun v H1 hp => ?_))
  ·cases hp.1
  obtain ⟨_, rfl⟩ := hp
  simp only [List.nil_append]
  repeat' (first|(refine gv ?_;first|refine RT.id ?_|(refine⟨fun hc=>?_,fun hc=>?_⟩<;>first|(exfalso;omega)|skip)|refine gk ?_|refine num_m fun r hr=>?_|intro r hr)|refine gs ?_|(refine gb ?_;intro b)|refine gn ?_|(refine RT.isPush ?_;refine gp ?_;intro a' c' b' c1' hac)|refine gc ?_|fail)
  (refine RT.callP T rfl fR_ (spans_fn (r := ⟨ra, rc, rl⟩) (lo := -2147483648) (hi := 2147483647) (t := joinL [sc, nm]) (by repeat (first | exact (hr) | apply Rd.cons)) ho4) rfl rfl rfl (fun v H1 hp => ?_) (fun v H1 hp => ?_))
  ·obtain ⟨e, t, h2, rfl, rfl⟩ := hp
   ((repeat refine nx ?_); exact AtQ.finP (H' := []) ⟨e, t, by rw [hT, h2]; rfl, rfl, rfl⟩ dR_)
  obtain ⟨h2, rfl⟩ := hp
  rw [h2] at hT
  rw [opt_none] at hT
  simp only [List.nil_append]
  repeat' (first|(refine gv ?_;first|refine RT.id ?_|(refine⟨fun hc=>?_,fun hc=>?_⟩<;>first|(exfalso;omega)|skip)|refine gk ?_|refine num_m fun r hr=>?_|intro r hr)|refine gs ?_|(refine gb ?_;intro b)|refine gn ?_|(refine RT.isPush ?_;refine gp ?_;intro a' c' b' c1' hac)|refine gc ?_|fail)
  (refine RT.callP T rfl fR_ (reserved_fn (r := ⟨na, nc, nl⟩) (sc := sc) ⟨(by repeat (first | exact (hn) | apply Rd.cons)), ho6, fun t ht => (ho7 t ht).1, hm3⟩ hs hsl) rfl rfl rfl (fun v H1 hp => ?_) (fun v H1 hp => ?_))
  ·obtain ⟨e, t, h3, rfl, rfl⟩ := hp
   ((repeat refine nx ?_); exact AtQ.finP (H' := []) ⟨e, t, by rw [hT, h3]; try rfl, rfl, rfl⟩ dR_)
  obtain ⟨h3, rfl⟩ := hp
  rw [h3] at hT
  rw [opt_none] at hT
  simp only [List.nil_append]
  repeat' (first|(refine gv ?_;first|refine RT.id ?_|(refine⟨fun hc=>?_,fun hc=>?_⟩<;>first|(exfalso;omega)|skip)|refine gk ?_|refine num_m fun r hr=>?_|intro r hr)|refine gs ?_|(refine gb ?_;intro b)|refine gn ?_|(refine RT.isPush ?_;refine gp ?_;intro a' c' b' c1' hac)|refine gc ?_|fail)
  clear h1 h2 h3 hg0
  obtain ⟨es, hes⟩ : ∃ es, es = [vS nm, Value.slice va vl.length vc, Value.bool ali, Value.slice ra rl.length rc, Value.slice na nl.length nc] := ⟨_, rfl⟩
  rw [← hes]
  refine CT.loop (α := Nat × List Txt) (fun s => [(0, ptr br), (2, vS sc), (4, .pointer (some ⟨eb, 0, none⟩)), (49, .slice va vl.length vc), (50, .int .i64 vl.length), (51, .int .i64 s.1)])
   (fun s => Pu (s.1 ≤ vl.length ∧ BL s.2 ∧ TT = valsR nl rl ali sc (vl.take s.1) (vl.drop s.1) s.2) :: rdr br bm :: giv bm s.2 :: Cs eb 109 es :: R) (fun s => vl.length - s.1) (0, g1)
   ⟨rfl, rfl, rfl, rfl, rfl, rfl, trivial⟩ (fun w h => Sat.pu_in ⟨Nat.zero_le _, hb1, hT⟩ h) (fun ⟨i, gi⟩ => CT.pu fun ⟨hil, hbi, hTi⟩ => ?_)
  dsimp only at hil hbi hTi ⊢
  clear hT hb1
  subst hes
  repeat' (first|(refine gv ?_;first|refine RT.id ?_|(refine⟨fun hc=>?_,fun hc=>?_⟩<;>first|(exfalso;omega)|skip)|refine gk ?_|refine num_m fun r hr=>?_|intro r hr)|refine gs ?_|(refine gb ?_;intro b)|refine gn ?_|(refine RT.isPush ?_;refine gp ?_;intro a' c' b' c1' hac)|refine gc ?_|fail)
  ·have hi' : i < vl.length := by omega
   have hgi := List.getElem?_eq_getElem hi'
   rw [List.drop_eq_getElem_cons hi', valsR] at hTi
   have htk : vl.take i ++ [vl[i]] = vl.take (i + 1) := by rw [List.take_add_one, hgi]; rfl
   rw [htk] at hTi
   clear htk
   revert hTi hgi
   generalize vl[i] = ev
   intro hTi hgi
   have hme := List.mem_of_getElem? hgi
   have hvb := (ho3 ev hme).1.1
   have hvs := hm2 ev hme
   refine RT.ix T (j := i * 2) rfl rfl rfl (by repeat (first | exact (hv) | apply Rd.cons)) (by omega) (by omega) (by omega) rfl rfl ?_
   refine RT.ldra T rfl (by repeat (first | exact (hv) | apply Rd.cons)) (l := ev.cells) (flat_sub (f := EValT.cells) (z := 2) (fun _ => rfl) vl i _ hgi) rfl rfl rfl rfl ?_
   repeat' (first|(refine gv ?_;first|refine RT.id ?_|(refine⟨fun hc=>?_,fun hc=>?_⟩<;>first|(exfalso;omega)|skip)|refine gk ?_|refine num_m fun r hr=>?_|intro r hr)|refine gs ?_|(refine gb ?_;intro b)|refine gn ?_|(refine RT.isPush ?_;refine gp ?_;intro a' c' b' c1' hac)|refine gt ?_|refine gc ?_|fail)
   (refine RT.bs T (l := strs [sc,  ev.nm]) rfl rfl rfl rfl rfl rfl rfl (fun a9 c9 h9 => ?_); (refine RT.call T rfl fR_ (join_fn (ls := [sc,  ev.nm]) (Own.rd (by ((repeat constructor);done)) rfl h9) rfl (b2  hs  hvb) ( s2l hsl hvs)) rfl rfl rfl ?_; rintro _ _ ⟨rfl, rfl⟩; try simp only [List.cons_append, List.nil_append]); refine RT.weak (fun w h => h.tail) ?_)
   repeat' (first|(refine gv ?_;first|refine RT.id ?_|(refine⟨fun hc=>?_,fun hc=>?_⟩<;>first|(exfalso;omega)|skip)|refine gk ?_|refine num_m fun r hr=>?_|intro r hr)|refine gs ?_|(refine gb ?_;intro b)|refine gn ?_|(refine RT.isPush ?_;refine gp ?_;intro a' c' b' c1' hac)|refine gc ?_|fail)
   have hjv := @j2_len sc ev.nm
   have hjb := j2_byt hs hvb
   generalize joinL [sc, ev.nm] = at_ at *
   (refine RT.callP T rfl fR_ (give_fn (br := br) (bm := bm) (g := gi) hbi hvb hjb hvs (show at_.length ≤ 140737488355327 by omega)) rfl rfl rfl (fun v H1 hp => ?_) (fun v H1 hp => ?_))
   ·obtain ⟨e, t, h4, rfl, rfl⟩ := hp
    ((repeat refine nx ?_); exact AtQ.finP (H' := []) ⟨e, t, by rw [hTi, h4]; rfl, rfl, rfl⟩ dR_)
   obtain ⟨g2, h4, hb2, rfl⟩ := hp
   rw [h4] at hTi
   rw [bnd_ok] at hTi
   simp only [List.cons_append, List.nil_append]
   repeat' (first|(refine gv ?_;first|refine RT.id ?_|(refine⟨fun hc=>?_,fun hc=>?_⟩<;>first|(exfalso;omega)|skip)|refine gk ?_|refine num_m fun r hr=>?_|intro r hr)|refine gs ?_|(refine gb ?_;intro b)|refine gn ?_|(refine RT.isPush ?_;refine gp ?_;intro a' c' b' c1' hac)|refine gc ?_|fail)
   (refine RT.call T rfl fR_ (contT_fn (l := nl) (x := ev.nm) rfl ho6 (by repeat (first | exact (hn) | apply Rd.cons)) (fun t ht => (ho7 t ht).1) hvb) rfl rfl rfl ?_; rintro _ _ ⟨rfl, rfl⟩; try simp only [List.cons_append, List.nil_append])
   have pan63 : (decide (ev.nm ∉ nl) && !anyS rl ev.num) = false → TT = .error (63, at_) := fun h => by rw [hTi]; exact must_f h
   by_cases hmn : ev.nm ∈ nl
   ·rw [decide_eq_true hmn]
    repeat' (first|(refine gv ?_;first|refine RT.id ?_|(refine⟨fun hc=>?_,fun hc=>?_⟩<;>first|(exfalso;omega)|skip)|refine gk ?_|refine num_m fun r hr=>?_|intro r hr)|refine gs ?_|(refine gb ?_;intro b)|refine gn ?_|(refine RT.isPush ?_;refine gp ?_;intro a' c' b' c1' hac)|refine gc ?_|fail)
    (refine RT.callP T rfl fR_ (must_fn (p := false) (e := 63) (t := at_)) rfl rfl rfl (fun v H1 hp => ?_) (fun v H1 hp => ?_))
    ·obtain ⟨_, rfl, rfl⟩ := hp
     ((repeat refine nx ?_); exact AtQ.finP (H' := []) ⟨63, at_, pan63 (by rw [decide_eq_false (fun h => h hmn)]; rfl), rfl, rfl⟩ dR_)
    ·cases hp.1
   ·rw [decide_eq_false hmn]
    repeat' (first|(refine gv ?_;first|refine RT.id ?_|(refine⟨fun hc=>?_,fun hc=>?_⟩<;>first|(exfalso;omega)|skip)|refine gk ?_|refine num_m fun r hr=>?_|intro r hr)|refine gs ?_|(refine gb ?_;intro b)|refine gn ?_|(refine RT.isPush ?_;refine gp ?_;intro a' c' b' c1' hac)|refine gc ?_|fail)
    (refine RT.call T rfl fR_ (within_fn (r := ⟨ra, rc, rl⟩) (x := ev.num) (by repeat (first | exact (hr) | apply Rd.cons)) ho4) rfl rfl rfl ?_; rintro _ _ ⟨rfl, rfl⟩; try simp only [List.cons_append, List.nil_append])
    cases han : anyS rl ev.num
    rotate_left
    ·repeat' (first|(refine gv ?_;first|refine RT.id ?_|(refine⟨fun hc=>?_,fun hc=>?_⟩<;>first|(exfalso;omega)|skip)|refine gk ?_|refine num_m fun r hr=>?_|intro r hr)|refine gs ?_|(refine gb ?_;intro b)|refine gn ?_|(refine RT.isPush ?_;refine gp ?_;intro a' c' b' c1' hac)|refine gc ?_|fail)
     (refine RT.callP T rfl fR_ (must_fn (p := false) (e := 63) (t := at_)) rfl rfl rfl (fun v H1 hp => ?_) (fun v H1 hp => ?_))
     ·obtain ⟨_, rfl, rfl⟩ := hp
      ((repeat refine nx ?_); exact AtQ.finP (H' := []) ⟨63, at_, pan63 (by rw [han, decide_eq_true hmn]; rfl), rfl, rfl⟩ dR_)
     ·cases hp.1
    ·repeat' (first|(refine gv ?_;first|refine RT.id ?_|(refine⟨fun hc=>?_,fun hc=>?_⟩<;>first|(exfalso;omega)|skip)|refine gk ?_|refine num_m fun r hr=>?_|intro r hr)|refine gs ?_|(refine gb ?_;intro b)|refine gn ?_|(refine RT.isPush ?_;refine gp ?_;intro a' c' b' c1' hac)|refine gc ?_|fail)
     (refine RT.callP T rfl fR_ (must_fn (p := true) (e := 63) (t := at_)) rfl rfl rfl (fun v H1 hp => ?_) (fun v H1 hp => ?_))
     ·cases hp.1
     obtain ⟨_, rfl⟩ := hp
     rw [must_t (by rw [han, decide_eq_true hmn]; rfl)] at hTi
     simp only [List.nil_append]
     cases hal : ali
     ·subst hal
      repeat' (first|(refine gv ?_;first|refine RT.id ?_|(refine⟨fun hc=>?_,fun hc=>?_⟩<;>first|(exfalso;omega)|skip)|refine gk ?_|refine num_m fun r hr=>?_|intro r hr)|refine gs ?_|(refine gb ?_;intro b)|refine gn ?_|(refine RT.isPush ?_;refine gp ?_;intro a' c' b' c1' hac)|refine gc ?_|fail)
      refine RT.slhi T (j := i) rfl rfl rfl (by have := Rd.le hv; omega) rfl rfl rfl ?_
      rw [asub_z]
      have hA := Rd.flatPre (f := EValT.cells) (j := i) (fun _ => rfl) hv rfl hil
      have hAl : (vl.take i).length = i := by rw [List.length_take]; omega
      repeat' (first|(refine gv ?_;first|refine RT.id ?_|(refine⟨fun hc=>?_,fun hc=>?_⟩<;>first|(exfalso;omega)|skip)|refine gk ?_|refine num_m fun r hr=>?_|intro r hr)|refine gs ?_|(refine gb ?_;intro b)|refine gn ?_|(refine RT.isPush ?_;refine gp ?_;intro a' c' b' c1' hac)|refine gc ?_|fail)
      refine RT.mkF rfl rfl rfl ?_
      repeat' (first|(refine gv ?_;first|refine RT.id ?_|(refine⟨fun hc=>?_,fun hc=>?_⟩<;>first|(exfalso;omega)|skip)|refine gk ?_|refine num_m fun r hr=>?_|intro r hr)|refine gs ?_|(refine gb ?_;intro b)|refine gn ?_|(refine RT.isPush ?_;refine gp ?_;intro a' c' b' c1' hac)|refine gc ?_|fail)
      refine RT.call T rfl (by (repeat (first|exact Fr.nil|(apply Fr.cons;focus ((repeat constructor);done))))) (contfV_fn (l := vl.take i) (p := fun o => decide (o.num = ev.num)) (f := 124) (caps := [.pointer (some ⟨b, 0, none⟩)]) (Pre := [Cs b 111 ev.cells]) hAl (by omega) (by repeat (first | exact (hA) | apply Rd.cons)) rfl (fun s _ => enum1_fn)) rfl rfl rfl ?_
      rintro _ _ ⟨rfl, rfl⟩
      simp only [List.cons_append, List.nil_append]
      have hany : decide (∀ o ∈ vl.take i, o.num ≠ ev.num) = !((vl.take i).any fun o => decide (o.num = ev.num)) := by
       rw [Bool.eq_iff_iff]
       simp
      rw [Bool.false_or, hany] at hTi
      cases hq : (vl.take i).any fun o => decide (o.num = ev.num)
      ·rw [hq] at hTi
       repeat' (first|(refine gv ?_;first|refine RT.id ?_|(refine⟨fun hc=>?_,fun hc=>?_⟩<;>first|(exfalso;omega)|skip)|refine gk ?_|refine num_m fun r hr=>?_|intro r hr)|refine gs ?_|(refine gb ?_;intro b)|refine gn ?_|(refine RT.isPush ?_;refine gp ?_;intro a' c' b' c1' hac)|refine gc ?_|fail)
       (refine RT.callP T rfl fR_ (must_fn (p := true) (e := 66) (t := at_)) rfl rfl rfl (fun v H1 hp => ?_) (fun v H1 hp => ?_))
       ·cases hp.1
       obtain ⟨_, rfl⟩ := hp
       rw [must_t (p := !false) rfl] at hTi
       repeat' (first|(refine gv ?_;first|refine RT.id ?_|(refine⟨fun hc=>?_,fun hc=>?_⟩<;>first|(exfalso;omega)|skip)|refine gk ?_|refine num_m fun r hr=>?_|intro r hr)|refine gs ?_|(refine gb ?_;intro b)|refine gn ?_|(refine RT.isPush ?_;refine gp ?_;intro a' c' b' c1' hac)|refine gc ?_|fail)
       exact AtQ.loop (i + 1, g2) ⟨rfl, rfl, rfl, rfl, rfl, rfl, trivial⟩ (fun w h => Sat.pu_in ⟨by omega, hb2, hTi⟩ (h.frd (Ps := [rdr br bm, giv bm g2, Cs eb 109 _]) (Qs := [_]) (by (repeat (first|exact Fr.nil|(apply Fr.cons;focus ((repeat constructor);done))))))) (by dsimp only; omega)
      ·rw [hq] at hTi
       repeat' (first|(refine gv ?_;first|refine RT.id ?_|(refine⟨fun hc=>?_,fun hc=>?_⟩<;>first|(exfalso;omega)|skip)|refine gk ?_|refine num_m fun r hr=>?_|intro r hr)|refine gs ?_|(refine gb ?_;intro b)|refine gn ?_|(refine RT.isPush ?_;refine gp ?_;intro a' c' b' c1' hac)|refine gc ?_|fail)
       (refine RT.callP T rfl fR_ (must_fn (p := false) (e := 66) (t := at_)) rfl rfl rfl (fun v H1 hp => ?_) (fun v H1 hp => ?_))
       ·obtain ⟨_, rfl, rfl⟩ := hp
        ((repeat refine nx ?_); exact AtQ.finP (H' := []) ⟨66, at_, by rw [hTi]; exact must_f rfl, rfl, rfl⟩ dR_)
       ·cases hp.1
     ·subst hal
      rw [Bool.true_or, must_t rfl] at hTi
      repeat' (first|(refine gv ?_;first|refine RT.id ?_|(refine⟨fun hc=>?_,fun hc=>?_⟩<;>first|(exfalso;omega)|skip)|refine gk ?_|refine num_m fun r hr=>?_|intro r hr)|refine gs ?_|(refine gb ?_;intro b)|refine gn ?_|(refine RT.isPush ?_;refine gp ?_;intro a' c' b' c1' hac)|refine gc ?_|fail)
      (refine RT.callP T rfl fR_ (must_fn (p := true) (e := 66) (t := at_)) rfl rfl rfl (fun v H1 hp => ?_) (fun v H1 hp => ?_))
      ·cases hp.1
      obtain ⟨_, rfl⟩ := hp
      repeat' (first|(refine gv ?_;first|refine RT.id ?_|(refine⟨fun hc=>?_,fun hc=>?_⟩<;>first|(exfalso;omega)|skip)|refine gk ?_|refine num_m fun r hr=>?_|intro r hr)|refine gs ?_|(refine gb ?_;intro b)|refine gn ?_|(refine RT.isPush ?_;refine gp ?_;intro a' c' b' c1' hac)|refine gc ?_|fail)
      exact AtQ.loop (i + 1, g2) ⟨rfl, rfl, rfl, rfl, rfl, rfl, trivial⟩ (fun w h => Sat.pu_in ⟨by omega, hb2, hTi⟩ (h.frd (Ps := [rdr br bm, giv bm g2, Cs eb 109 _]) (Qs := [_]) (by (repeat (first|exact Fr.nil|(apply Fr.cons;focus ((repeat constructor);done))))))) (by dsimp only; omega)
  ·refine AtQ.ofFinN (AtQ.fin0 Tryz.results93 (H' := [rdr br bm, giv bm gi]) ⟨gi, ?_, hbi, rfl⟩ (fun w h => h.frd (Ps := [rdr br bm, giv bm gi]) (Qs := [_]) (by (repeat (first|exact Fr.nil|(apply Fr.cons;focus ((repeat constructor);done)))))) _ (.inl rfl))
   rw [hTi, List.drop_of_length_le (by omega)]
   cases vl.take i <;> rfl
 ·(refine RT.callP T rfl fR_ (must_fn (p := false) (e := 66) (t := joinL [sc, nm])) rfl rfl rfl (fun v H1 hp => ?_) (fun v H1 hp => ?_))
  ·obtain ⟨_, rfl, rfl⟩ := hp
   ((repeat refine nx ?_); exact AtQ.finP (H' := []) ⟨66, joinL [sc, nm], by rw [hT]; exact must_f (decide_eq_false (by rintro ⟨v, hv, h0⟩; have := (List.getElem?_eq_some_iff.1 hv).1; omega)), rfl, rfl⟩ dR_)
  ·cases hp.1
end Go.Proofs.YtdemnhdoadjhhaaGreatDoor
end
section
namespace Go.Proofs.YtdemnhdoadjhhaaGreatDoor
open Go.Sk
set_option maxRecDepth 100000
theorem camelF_byt : ∀ {l : List Int} {b : Bool}, Byt l → Byt (camelF b l)
 | [], _, _ => Byt.nil
 | c :: r, b, h => by
  have hc := h c (by simp)
  have hr : Byt r := fun x hx => h x (by simp [hx])
  unfold isB at hc
  unfold camelF
  split
  ·exact camelF_byt hr
  ·intro x hx
   rcases List.mem_cons.1 hx with rfl | hx
   ·unfold isB
    split <;> omega
   ·exact camelF_byt hr x hx
theorem json_byt {f : FieldT} (hj : Byt f.js) (hn : Byt f.nm) : Byt (jsonL f) := by
 unfold jsonL
 split
 ·exact camelF_byt hn
 ·exact hj
/-- A message's rows, as check.field reads them. -/
structure MR (B : World) (R : List HP) (fields : Rw FieldT) (oneofs names : Rw Txt) (res : Rw SpanT) : Prop where
 rf : Rd B R fields.a fields.l.length fields.c 9 (fields.l.flatMap FieldT.cells)
 rs : Rd B R res.a res.l.length res.c 2 (res.l.flatMap SpanT.cells)
 rn : TxR B R names
 ro : TxR B R oneofs
 lf : fields.l.length ≤ 140737488355328
 ls : res.l.length ≤ 140737488355328
 fo : ∀ f ∈ fields.l, f.Ok ∧ FNm f
attribute [local irreducible] Cs Own Ex Pu Yld RT LJ QJ AtQ CT Rd QSp Sp FinQ Then LoopQ CutQ DT TakeQ EffQ
variable {B : World} {R : List HP}
set_option maxHeartbeats 8000000 in
theorem field_fn {mM : Int} (hU : Lib.Utf8Tabs 1 2 B) (hM : B.cell? ⟨0, 0, none⟩ = some (.int .i64 mM)) {br bm i : Nat} {g : List Txt} {fields : Rw FieldT} {oneofs names : Rw Txt} {res : Rw SpanT} {n0 ms es : Value} {f : FieldT} {full : Txt}
  (hm : MR B R fields oneofs names res) (hgf : fields.l[i]? = some f) (hg : BL g) (hs : Byt full) (hsl : full.length ≤ 16777216) :
  SpP B Tryz.prog 118 [ptr br, .agg #[n0, fields.v, oneofs.v, ms, es, res.v, names.v], .int .i64 i, vS full] R [rdr br bm, giv bm g] (PostR (fieldR names.l res.l oneofs.l.length full (fields.l.take i) f g) [rdr br bm] bm) (PPR (fieldR names.l res.l oneofs.l.length full (fields.l.take i) f g)) := by
 obtain ⟨fa, fc, fl⟩ := fields
 obtain ⟨oa, oc, ol⟩ := oneofs
 obtain ⟨na, nc, nl⟩ := names
 obtain ⟨ra, rc, rl⟩ := res
 obtain ⟨rf, rs, ⟨hn, ho6, hnb, hnm⟩, ⟨_, ho8, _, _⟩, lf, ls, fo⟩ := hm
 dsimp only at rf rs hn ho6 hnb hnm ho8 lf ls fo hgf
 obtain ⟨⟨⟨fnb, _⟩, fnum, fcard, fkind, ⟨ftb, _⟩, fkey, foo, fpk, ⟨fjb, _⟩⟩, fns, fts, fjs⟩ := fo f (List.mem_of_getElem? hgf)
 have hT : fieldR nl rl ol.length full (fl.take i) f g = fieldR nl rl ol.length full (fl.take i) f g := rfl
 conv at hT => rhs; unfold fieldR
 have hil : i < fl.length := (List.getElem?_eq_some_iff.1 hgf).1
 dsimp only [Rw.v]
 generalize hah : fl.take i = ah at *
 generalize fieldR nl rl ol.length full ah f g = TT at *
 refine SpP.body Tryz.func118 rfl Tryz.ntmps118 (by simp) ?_
 simp only [argE, List.cons_append, List.nil_append, Nat.zero_add, Nat.reduceAdd]
 repeat' (first|(refine gv ?_;first|refine RT.id ?_|(refine⟨fun hc=>?_,fun hc=>?_⟩<;>first|(exfalso;omega)|skip)|refine gk ?_|refine num_m fun r hr=>?_|intro r hr)|refine gs ?_|(refine gb ?_;intro b)|refine gn ?_|(refine RT.isPush ?_;refine gp ?_;intro a' c' b' c1' hac)|(refine CT.id_ ?_;first|refine nx ?_|refine CT.cond_t rfl ?_|refine CT.cond_f rfl ?_))
 first | (refine CT.region ?_) | (refine CT.quiet mixed (by kernel_rfl) ?_)
 repeat' (first|(refine gv ?_;first|refine RT.id ?_|(refine⟨fun hc=>?_,fun hc=>?_⟩<;>first|(exfalso;omega)|skip)|refine gk ?_|refine num_m fun r hr=>?_|intro r hr)|refine gs ?_|(refine gb ?_;intro b)|refine gn ?_|(refine RT.isPush ?_;refine gp ?_;intro a' c' b' c1' hac)|(refine CT.id_ ?_;first|refine nx ?_|refine CT.cond_t rfl ?_|refine CT.cond_f rfl ?_))
 revert b
 intro mb
 refine CT.drawn (Cs mb 72 [n0, .slice fa fl.length fc, .slice oa ol.length oc, ms, es, .slice ra rl.length rc, .slice na nl.length nc] :: rdr br bm :: giv bm g :: R) 11 mixed ?_
 refine DT.takes (k := 3) [0, 1, 2, 3, 4, 5, 6, 7, 8] [9, 10, 11] (fun w h => h) (by kernel_rfl) (by kernel_rfl) (by kernel_rfl) rfl (Clos.ofB (by kernel_rfl)) ?_
 repeat' (first|(refine gv ?_;first|refine RT.id ?_|(refine⟨fun hc=>?_,fun hc=>?_⟩<;>first|(exfalso;omega)|skip)|refine gk ?_|refine num_m fun r hr=>?_|intro r hr)|refine gs ?_|(refine gb ?_;intro b)|refine gn ?_|(refine RT.isPush ?_;refine gp ?_;intro a' c' b' c1' hac)|refine gc ?_|fail)
 refine RT.ix T (j := i * 9) rfl rfl rfl (by repeat (first | exact (rf) | apply Rd.cons)) (by omega) (by omega) (by omega) rfl rfl ?_
 refine RT.ldra T rfl (by repeat (first | exact (rf) | apply Rd.cons)) (l := f.cells) (flat_sub (f := FieldT.cells) (z := 9) (fun _ => rfl) fl i _ hgf) rfl rfl rfl rfl ?_
 repeat' (first|(refine gv ?_;first|refine RT.id ?_|(refine⟨fun hc=>?_,fun hc=>?_⟩<;>first|(exfalso;omega)|skip)|refine gk ?_|refine num_m fun r hr=>?_|intro r hr)|refine gs ?_|(refine gb ?_;intro b)|refine gn ?_|(refine RT.isPush ?_;refine gp ?_;intro a' c' b' c1' hac)|refine gc ?_|fail)
 refine RT.slhi T (j := i) rfl rfl rfl (by have := Rd.le rf; omega) rfl rfl rfl ?_
 rw [asub_z]
 repeat' (first|(refine gv ?_;first|refine RT.id ?_|(refine⟨fun hc=>?_,fun hc=>?_⟩<;>first|(exfalso;omega)|skip)|refine gk ?_|refine num_m fun r hr=>?_|intro r hr)|refine gs ?_|(refine gb ?_;intro b)|refine gn ?_|(refine RT.isPush ?_;refine gp ?_;intro a' c' b' c1' hac)|refine gc ?_|fail)
 refine AtQ.take ?_
 (refine DT.eff 9 rfl (by kernel_rfl) ?_)
 repeat' (first|(refine gv ?_;first|refine RT.id ?_|(refine⟨fun hc=>?_,fun hc=>?_⟩<;>first|(exfalso;omega)|skip)|refine gk ?_|refine num_m fun r hr=>?_|intro r hr)|refine gs ?_|(refine gb ?_;intro b)|refine gn ?_|(refine RT.isPush ?_;refine gp ?_;intro a' c' b' c1' hac)|refine gt ?_|refine gc ?_|fail)
 revert b
 intro fb
 refine AtQ.eff (fun w h => h.tail) ?_
 (refine DT.eff 10 rfl (by kernel_rfl) ?_)
 repeat' (first|(refine gv ?_;first|refine RT.id ?_|(refine⟨fun hc=>?_,fun hc=>?_⟩<;>first|(exfalso;omega)|skip)|refine gk ?_|refine num_m fun r hr=>?_|intro r hr)|refine gs ?_|(refine gb ?_;intro b)|refine gn ?_|(refine RT.isPush ?_;refine gp ?_;intro a' c' b' c1' hac)|refine gt ?_|refine gc ?_|fail)
 refine AtQ.eff (fun w h => h.tail) ?_
 (refine DT.eff 11 rfl (by kernel_rfl) ?_)
 repeat' (first|(refine gv ?_;first|refine RT.id ?_|(refine⟨fun hc=>?_,fun hc=>?_⟩<;>first|(exfalso;omega)|skip)|refine gk ?_|refine num_m fun r hr=>?_|intro r hr)|refine gs ?_|(refine gb ?_;intro b)|refine gn ?_|(refine RT.isPush ?_;refine gp ?_;intro a' c' b' c1' hac)|refine gc ?_|fail)
 refine AtQ.eff' (by kernel_rfl) ?_
 (refine DT.done (by kernel_rfl) ?_)
 repeat' (first|(refine gv ?_;first|refine RT.id ?_|(refine⟨fun hc=>?_,fun hc=>?_⟩<;>first|(exfalso;omega)|skip)|refine gk ?_|refine num_m fun r hr=>?_|intro r hr)|refine gs ?_|(refine gb ?_;intro b)|refine gn ?_|(refine RT.isPush ?_;refine gp ?_;intro a' c' b' c1' hac)|refine gc ?_|fail)
 (refine RT.bs T (l := strs [full,  f.nm]) rfl rfl rfl rfl rfl rfl rfl (fun a9 c9 h9 => ?_); (refine RT.call T rfl fR_ (join_fn (ls := [full,  f.nm]) (Own.rd (by ((repeat constructor);done)) rfl h9) rfl (b2  hs  fnb) ( s2l hsl fns)) rfl rfl rfl ?_; rintro _ _ ⟨rfl, rfl⟩; try simp only [List.cons_append, List.nil_append]); refine RT.weak (fun w h => h.tail) ?_)
 repeat' (first|(refine gv ?_;first|refine RT.id ?_|(refine⟨fun hc=>?_,fun hc=>?_⟩<;>first|(exfalso;omega)|skip)|refine gk ?_|refine num_m fun r hr=>?_|intro r hr)|refine gs ?_|(refine gb ?_;intro b)|refine gn ?_|(refine RT.isPush ?_;refine gp ?_;intro a' c' b' c1' hac)|refine gc ?_|fail)
 have hjl := @j2_len full f.nm
 have hjb := j2_byt hs fnb
 generalize joinL [full, f.nm] = at_ at *
 (refine RT.callP T rfl fR_ (give_fn (br := br) (bm := bm) (g := g) hg fnb hjb fns (show at_.length ≤ 140737488355327 by omega)) rfl rfl rfl (fun v H1 hp => ?_) (fun v H1 hp => ?_))
 ·obtain ⟨e, t, h4, rfl, rfl⟩ := hp
  ((repeat refine nx ?_); exact AtQ.finP (H' := []) ⟨e, t, by rw [hT, h4]; rfl, rfl, rfl⟩ dR_)
 obtain ⟨g2, h4, hb2, rfl⟩ := hp
 rw [h4] at hT
 rw [bnd_ok] at hT
 simp only [List.cons_append, List.nil_append]
 clear h4
 repeat' (first|(refine gv ?_;first|refine RT.id ?_|(refine⟨fun hc=>?_,fun hc=>?_⟩<;>first|(exfalso;omega)|skip)|refine gk ?_|refine num_m fun r hr=>?_|intro r hr)|refine gs ?_|(refine gb ?_;intro b)|refine gn ?_|(refine RT.isPush ?_;refine gp ?_;intro a' c' b' c1' hac)|refine gc ?_|fail)
 (refine RT.call T rfl fR_ (contT_fn (l := nl) (x := f.nm) rfl ho6 (by repeat (first | exact (hn) | apply Rd.cons)) hnb fnb) rfl rfl rfl ?_; rintro _ _ ⟨rfl, rfl⟩; try simp only [List.cons_append, List.nil_append])
 repeat' (first|(refine gv ?_;first|refine RT.id ?_|(refine⟨fun hc=>?_,fun hc=>?_⟩<;>first|(exfalso;omega)|skip)|refine gk ?_|refine num_m fun r hr=>?_|intro r hr)|refine gs ?_|(refine gb ?_;intro b)|refine gn ?_|(refine RT.isPush ?_;refine gp ?_;intro a' c' b' c1' hac)|refine gc ?_|fail)
 have hA := Rd.flatPre (f := FieldT.cells) (j := i) (fun _ => rfl) rf rfl (Nat.le_of_lt hil)
 rw [hah] at hA
 have hAl : ah.length = i := by rw [← hah, List.length_take]; omega
 by_cases hmn : f.nm ∈ nl
 ·rw [decide_eq_true hmn]
  repeat' (first|(refine gv ?_;first|refine RT.id ?_|(refine⟨fun hc=>?_,fun hc=>?_⟩<;>first|(exfalso;omega)|skip)|refine gk ?_|refine num_m fun r hr=>?_|intro r hr)|refine gs ?_|(refine gb ?_;intro b)|refine gn ?_|(refine RT.isPush ?_;refine gp ?_;intro a' c' b' c1' hac)|refine gc ?_|fail)
  (refine RT.callP T rfl fR_ (must_fn (p := false) (e := 63) (t := at_)) rfl rfl rfl (fun v H1 hp => ?_) (fun v H1 hp => absurd hp.1 (by decide)); obtain ⟨_, rfl, rfl⟩ := hp; (repeat refine nx ?_); exact AtQ.finP (H' := []) ⟨63, at_, by rw [hT]; exact must_f (decide_eq_false (fun h => h hmn)), rfl, rfl⟩ dR_)
 rw [decide_eq_false hmn]
 rw [must_t (decide_eq_true hmn)] at hT
 repeat' (first|(refine gv ?_;first|refine RT.id ?_|(refine⟨fun hc=>?_,fun hc=>?_⟩<;>first|(exfalso;omega)|skip)|refine gk ?_|refine num_m fun r hr=>?_|intro r hr)|refine gs ?_|(refine gb ?_;intro b)|refine gn ?_|(refine RT.isPush ?_;refine gp ?_;intro a' c' b' c1' hac)|refine gc ?_|fail)
 (refine RT.callP T rfl fR_ (must_fn (p := true) (e := 63) (t := at_)) rfl rfl rfl (fun v H1 hp => absurd hp.1 (by decide)) (fun v H1 hp => ?_); obtain ⟨_, rfl⟩ := hp; try simp only [List.nil_append])
 (refine RT.env (E' := [(0, _), (5, _), (8, _), (9, _), (10, _)]) ⟨rfl, rfl, rfl, rfl, rfl, trivial⟩ ?_)
 repeat' (first|(refine gv ?_;first|refine RT.id ?_|(refine⟨fun hc=>?_,fun hc=>?_⟩<;>first|(exfalso;omega)|skip)|refine gk ?_|refine num_m fun r hr=>?_|intro r hr)|refine gs ?_|(refine gb ?_;intro b)|refine gn ?_|(refine RT.isPush ?_;refine gp ?_;intro a' c' b' c1' hac)|refine gc ?_|fail)
 (refine RT.call T rfl fR_ (may_fn (n := f.num)) rfl rfl rfl ?_; rintro _ _ ⟨rfl, rfl⟩; try simp only [List.cons_append, List.nil_append])
 cases hmay : mayB f.num
 ·repeat' (first|(refine gv ?_;first|refine RT.id ?_|(refine⟨fun hc=>?_,fun hc=>?_⟩<;>first|(exfalso;omega)|skip)|refine gk ?_|refine num_m fun r hr=>?_|intro r hr)|refine gs ?_|(refine gb ?_;intro b)|refine gn ?_|(refine RT.isPush ?_;refine gp ?_;intro a' c' b' c1' hac)|refine gc ?_|fail)
  (refine RT.callP T rfl fR_ (must_fn (p := false) (e := 62) (t := at_)) rfl rfl rfl (fun v H1 hp => ?_) (fun v H1 hp => absurd hp.1 (by decide)); obtain ⟨_, rfl, rfl⟩ := hp; (repeat refine nx ?_); exact AtQ.finP (H' := []) ⟨62, at_, by rw [hT, hmay]; exact must_f rfl, rfl, rfl⟩ dR_)
 rw [hmay, Bool.true_and] at hT
 repeat' (first|(refine gv ?_;first|refine RT.id ?_|(refine⟨fun hc=>?_,fun hc=>?_⟩<;>first|(exfalso;omega)|skip)|refine gk ?_|refine num_m fun r hr=>?_|intro r hr)|refine gs ?_|(refine gb ?_;intro b)|refine gn ?_|(refine RT.isPush ?_;refine gp ?_;intro a' c' b' c1' hac)|refine gc ?_|fail)
 refine RT.mkF rfl rfl rfl ?_
 repeat' (first|(refine gv ?_;first|refine RT.id ?_|(refine⟨fun hc=>?_,fun hc=>?_⟩<;>first|(exfalso;omega)|skip)|refine gk ?_|refine num_m fun r hr=>?_|intro r hr)|refine gs ?_|(refine gb ?_;intro b)|refine gn ?_|(refine RT.isPush ?_;refine gp ?_;intro a' c' b' c1' hac)|refine gc ?_|fail)
 refine RT.call T rfl (by (repeat (first|exact Fr.nil|(apply Fr.cons;focus ((repeat constructor);done))))) (contfF_fn (l := ah) (p := fun o => decide (o.num = f.num)) (f := 141) (caps := [.pointer (some ⟨fb, 0, none⟩)]) (Pre := [Cs fb 87 f.cells]) hAl (by omega) (by repeat (first | exact (hA) | apply Rd.cons)) rfl (fun s _ => field1_fn)) rfl rfl rfl ?_
 rintro _ _ ⟨rfl, rfl⟩
 simp only [List.cons_append, List.nil_append]
 have hany : decide (∀ o ∈ ah, o.num ≠ f.num) = !(ah.any fun o => decide (o.num = f.num)) := by
  rw [Bool.eq_iff_iff]
  simp
 rw [hany] at hT
 cases hq : ah.any fun o => decide (o.num = f.num)
 rotate_left
 ·repeat' (first|(refine gv ?_;first|refine RT.id ?_|(refine⟨fun hc=>?_,fun hc=>?_⟩<;>first|(exfalso;omega)|skip)|refine gk ?_|refine num_m fun r hr=>?_|intro r hr)|refine gs ?_|(refine gb ?_;intro b)|refine gn ?_|(refine RT.isPush ?_;refine gp ?_;intro a' c' b' c1' hac)|refine gc ?_|fail)
  (refine RT.callP T rfl fR_ (must_fn (p := false) (e := 62) (t := at_)) rfl rfl rfl (fun v H1 hp => ?_) (fun v H1 hp => absurd hp.1 (by decide)); obtain ⟨_, rfl, rfl⟩ := hp; (repeat refine nx ?_); exact AtQ.finP (H' := []) ⟨62, at_, by rw [hT, hq]; exact must_f rfl, rfl, rfl⟩ dR_)
 rw [hq, must_t (p := !false) rfl] at hT
 repeat' (first|(refine gv ?_;first|refine RT.id ?_|(refine⟨fun hc=>?_,fun hc=>?_⟩<;>first|(exfalso;omega)|skip)|refine gk ?_|refine num_m fun r hr=>?_|intro r hr)|refine gs ?_|(refine gb ?_;intro b)|refine gn ?_|(refine RT.isPush ?_;refine gp ?_;intro a' c' b' c1' hac)|refine gc ?_|fail)
 (refine RT.callP T rfl fR_ (must_fn (p := true) (e := 62) (t := at_)) rfl rfl rfl (fun v H1 hp => absurd hp.1 (by decide)) (fun v H1 hp => ?_); obtain ⟨_, rfl⟩ := hp; try simp only [List.nil_append])
 clear hany hq
 (refine RT.env (E' := [(0, _), (5, _), (8, _), (9, _), (10, _)]) ⟨rfl, rfl, rfl, rfl, rfl, trivial⟩ ?_)
 repeat' (first|(refine gv ?_;first|refine RT.id ?_|(refine⟨fun hc=>?_,fun hc=>?_⟩<;>first|(exfalso;omega)|skip)|refine gk ?_|refine num_m fun r hr=>?_|intro r hr)|refine gs ?_|(refine gb ?_;intro b)|refine gn ?_|(refine RT.isPush ?_;refine gp ?_;intro a' c' b' c1' hac)|refine gc ?_|fail)
 (refine RT.call T rfl fR_ (within_fn (r := ⟨ra, rc, rl⟩) (x := f.num) (by repeat (first | exact (rs) | apply Rd.cons)) ls) rfl rfl rfl ?_; rintro _ _ ⟨rfl, rfl⟩; try simp only [List.cons_append, List.nil_append])
 cases han : anyS rl f.num
 rotate_left
 ·repeat' (first|(refine gv ?_;first|refine RT.id ?_|(refine⟨fun hc=>?_,fun hc=>?_⟩<;>first|(exfalso;omega)|skip)|refine gk ?_|refine num_m fun r hr=>?_|intro r hr)|refine gs ?_|(refine gb ?_;intro b)|refine gn ?_|(refine RT.isPush ?_;refine gp ?_;intro a' c' b' c1' hac)|refine gc ?_|fail)
  (refine RT.callP T rfl fR_ (must_fn (p := false) (e := 63) (t := at_)) rfl rfl rfl (fun v H1 hp => ?_) (fun v H1 hp => absurd hp.1 (by decide)); obtain ⟨_, rfl, rfl⟩ := hp; (repeat refine nx ?_); exact AtQ.finP (H' := []) ⟨63, at_, by rw [hT, han]; exact must_f rfl, rfl, rfl⟩ dR_)
 rw [han, must_t (p := !false) rfl] at hT
 repeat' (first|(refine gv ?_;first|refine RT.id ?_|(refine⟨fun hc=>?_,fun hc=>?_⟩<;>first|(exfalso;omega)|skip)|refine gk ?_|refine num_m fun r hr=>?_|intro r hr)|refine gs ?_|(refine gb ?_;intro b)|refine gn ?_|(refine RT.isPush ?_;refine gp ?_;intro a' c' b' c1' hac)|refine gc ?_|fail)
 (refine RT.callP T rfl fR_ (must_fn (p := true) (e := 63) (t := at_)) rfl rfl rfl (fun v H1 hp => absurd hp.1 (by decide)) (fun v H1 hp => ?_); obtain ⟨_, rfl⟩ := hp; try simp only [List.nil_append])
 (refine RT.env (E' := [(0, _), (5, _), (8, _), (9, _), (10, _)]) ⟨rfl, rfl, rfl, rfl, rfl, trivial⟩ ?_)
 repeat' (first|(refine gv ?_;first|refine RT.id ?_|(refine⟨fun hc=>?_,fun hc=>?_⟩<;>first|(exfalso;omega)|skip)|refine gk ?_|refine num_m fun r hr=>?_|intro r hr)|refine gs ?_|(refine gb ?_;intro b)|refine gn ?_|(refine RT.isPush ?_;refine gp ?_;intro a' c' b' c1' hac)|(refine CT.id_ ?_;first|refine nx ?_|refine CT.cond_t rfl ?_|refine CT.cond_f rfl ?_))
 refine CT.cut (α := Unit) (fun _ => [(0, ptr br), (5, .pointer (some ⟨mb, 0, none⟩)), (8, .pointer (some ⟨fb, 0, none⟩)), (9, .slice fa i fc), (10, vS at_)]) (fun _ => Pu (TT = fieldR8 ol.length ah f at_ g2) :: rdr br bm :: giv bm g2 :: Cs fb 87 f.cells :: Cs mb 72 [n0, .slice fa fl.length fc, .slice oa ol.length oc, ms, es, .slice ra rl.length rc, .slice na nl.length nc] :: R) ?_ (fun _ => ?_)
 ·unfold fieldR7 at hT
  repeat' (first|(refine gv ?_;first|refine RT.id ?_|(refine⟨fun hc=>?_,fun hc=>?_⟩<;>first|(exfalso;omega)|skip)|refine gk ?_|refine num_m fun r hr=>?_|intro r hr)|refine gs ?_|(refine gb ?_;intro b)|refine gn ?_|(refine RT.isPush ?_;refine gp ?_;intro a' c' b' c1' hac)|refine gc ?_|fail)
  ·rw [must_t (by rw [decide_eq_true ⟨by omega, by omega⟩, decide_eq_true (by omega)]; rfl)] at hT
   (refine RT.callP T rfl fR_ (must_fn (p := true) (e := 69) (t := at_)) rfl rfl rfl (fun v H1 hp => absurd hp.1 (by decide)) (fun v H1 hp => ?_); obtain ⟨_, rfl⟩ := hp; try simp only [List.nil_append])
   repeat' (first|(refine gv ?_;first|refine RT.id ?_|(refine⟨fun hc=>?_,fun hc=>?_⟩<;>first|(exfalso;omega)|skip)|refine gk ?_|refine num_m fun r hr=>?_|intro r hr)|refine gs ?_|(refine gb ?_;intro b)|refine gn ?_|(refine RT.isPush ?_;refine gp ?_;intro a' c' b' c1' hac)|refine gc ?_|fail)
   exact AtQ.cut () ⟨rfl, rfl, rfl, rfl, rfl, trivial⟩ (fun w h => Sat.pu_in hT (h.frd (Ps := [rdr br bm, giv bm g2, Cs fb 87 f.cells, Cs mb 72 _]) (Qs := []) (by (repeat (first|exact Fr.nil|(apply Fr.cons;focus ((repeat constructor);done)))))))
  ·(refine RT.call T rfl fR_ (kind_fn (k := f.kind)) rfl rfl rfl ?_; rintro _ _ ⟨rfl, rfl⟩; try simp only [List.cons_append, List.nil_append])
   cases hk : kindB f.kind
   ·repeat' (first|(refine gv ?_;first|refine RT.id ?_|(refine⟨fun hc=>?_,fun hc=>?_⟩<;>first|(exfalso;omega)|skip)|refine gk ?_|refine num_m fun r hr=>?_|intro r hr)|refine gs ?_|(refine gb ?_;intro b)|refine gn ?_|(refine RT.isPush ?_;refine gp ?_;intro a' c' b' c1' hac)|refine gc ?_|fail)
    (refine RT.callP T rfl fR_ (must_fn (p := false) (e := 69) (t := at_)) rfl rfl rfl (fun v H1 hp => ?_) (fun v H1 hp => absurd hp.1 (by decide)); obtain ⟨_, rfl, rfl⟩ := hp; (repeat refine nx ?_); exact AtQ.finP (H' := []) ⟨69, at_, by rw [hT, hk]; exact must_f (by rw [decide_eq_false (p := f.kind = 0) (by omega)]; simp), rfl, rfl⟩ dR_)
   ·rw [must_t (by rw [decide_eq_true ⟨by omega, by omega⟩, hk]; simp)] at hT
    repeat' (first|(refine gv ?_;first|refine RT.id ?_|(refine⟨fun hc=>?_,fun hc=>?_⟩<;>first|(exfalso;omega)|skip)|refine gk ?_|refine num_m fun r hr=>?_|intro r hr)|refine gs ?_|(refine gb ?_;intro b)|refine gn ?_|(refine RT.isPush ?_;refine gp ?_;intro a' c' b' c1' hac)|refine gc ?_|fail)
    (refine RT.callP T rfl fR_ (must_fn (p := true) (e := 69) (t := at_)) rfl rfl rfl (fun v H1 hp => absurd hp.1 (by decide)) (fun v H1 hp => ?_); obtain ⟨_, rfl⟩ := hp; try simp only [List.nil_append])
    repeat' (first|(refine gv ?_;first|refine RT.id ?_|(refine⟨fun hc=>?_,fun hc=>?_⟩<;>first|(exfalso;omega)|skip)|refine gk ?_|refine num_m fun r hr=>?_|intro r hr)|refine gs ?_|(refine gb ?_;intro b)|refine gn ?_|(refine RT.isPush ?_;refine gp ?_;intro a' c' b' c1' hac)|refine gc ?_|fail)
    exact AtQ.cut () ⟨rfl, rfl, rfl, rfl, rfl, trivial⟩ (fun w h => Sat.pu_in hT (h.frd (Ps := [rdr br bm, giv bm g2, Cs fb 87 f.cells, Cs mb 72 _]) (Qs := []) (by (repeat (first|exact Fr.nil|(apply Fr.cons;focus ((repeat constructor);done)))))))
  ·(refine RT.callP T rfl fR_ (must_fn (p := false) (e := 69) (t := at_)) rfl rfl rfl (fun v H1 hp => ?_) (fun v H1 hp => absurd hp.1 (by decide)); obtain ⟨_, rfl, rfl⟩ := hp; (repeat refine nx ?_); exact AtQ.finP (H' := []) ⟨69, at_, by rw [hT]; exact must_f (by rw [decide_eq_false (p := 1 ≤ f.card ∧ f.card ≤ 4) (by omega)]; rfl), rfl, rfl⟩ dR_)
  ·(refine RT.callP T rfl fR_ (must_fn (p := false) (e := 69) (t := at_)) rfl rfl rfl (fun v H1 hp => ?_) (fun v H1 hp => absurd hp.1 (by decide)); obtain ⟨_, rfl, rfl⟩ := hp; (repeat refine nx ?_); exact AtQ.finP (H' := []) ⟨69, at_, by rw [hT]; exact must_f (by rw [decide_eq_false (p := 1 ≤ f.card ∧ f.card ≤ 4) (by omega)]; rfl), rfl, rfl⟩ dR_)
 clear hT
 refine A0 ?_
 refine CT.pu fun hT => ?_
 unfold fieldR8 at hT
 repeat' (first|(refine gv ?_;first|refine RT.id ?_|(refine⟨fun hc=>?_,fun hc=>?_⟩<;>first|(exfalso;omega)|skip)|refine gk ?_|refine num_m fun r hr=>?_|intro r hr)|refine gs ?_|(refine gb ?_;intro b)|refine gn ?_|(refine RT.isPush ?_;refine gp ?_;intro a' c' b' c1' hac)|(refine CT.id_ ?_;first|refine nx ?_|refine CT.cond_t rfl ?_|refine CT.cond_f rfl ?_))
 first | (refine CT.region ?_) | (refine CT.quiet mixed (by kernel_rfl) ?_)
 repeat' (first|(refine gv ?_;first|refine RT.id ?_|(refine⟨fun hc=>?_,fun hc=>?_⟩<;>first|(exfalso;omega)|skip)|refine gk ?_|refine num_m fun r hr=>?_|intro r hr)|refine gs ?_|(refine gb ?_;intro b)|refine gn ?_|(refine RT.isPush ?_;refine gp ?_;intro a' c' b' c1' hac)|(refine CT.id_ ?_;first|refine nx ?_|refine CT.cond_t rfl ?_|refine CT.cond_f rfl ?_))
 (refine RT.call T rfl fR_ (named_fn (k := f.kind)) rfl rfl rfl ?_; rintro _ _ ⟨rfl, rfl⟩; try simp only [List.cons_append, List.nil_append])
 repeat' (first|(refine gv ?_;first|refine RT.id ?_|(refine⟨fun hc=>?_,fun hc=>?_⟩<;>first|(exfalso;omega)|skip)|refine gk ?_|refine num_m fun r hr=>?_|intro r hr)|refine gs ?_|(refine gb ?_;intro b)|refine gn ?_|(refine RT.isPush ?_;refine gp ?_;intro a' c' b' c1' hac)|(refine CT.id_ ?_;first|refine nx ?_|refine CT.cond_t rfl ?_|refine CT.cond_f rfl ?_))
 refine CT.cut (α := Unit) (fun _ => [(0, ptr br), (5, .pointer (some ⟨mb, 0, none⟩)), (8, .pointer (some ⟨fb, 0, none⟩)), (9, .slice fa i fc), (10, vS at_)]) (fun _ => Pu (TT = fieldR11 ol.length ah f at_ g2) :: rdr br bm :: giv bm g2 :: Cs fb 87 f.cells :: Cs mb 72 [n0, .slice fa fl.length fc, .slice oa ol.length oc, ms, es, .slice ra rl.length rc, .slice na nl.length nc] :: R) ?_ (fun _ => ?_)
 ·cases hnk : namedB f.kind
  ·repeat' (first|(refine gv ?_;first|refine RT.id ?_|(refine⟨fun hc=>?_,fun hc=>?_⟩<;>first|(exfalso;omega)|skip)|refine gk ?_|refine num_m fun r hr=>?_|intro r hr)|refine gs ?_|(refine gb ?_;intro b)|refine gn ?_|(refine RT.isPush ?_;refine gp ?_;intro a' c' b' c1' hac)|refine gc ?_|fail)
   refine RT.eqs (l := f.ty) (l' := []) rfl rfl ftb Byt.nil rfl rfl (fun he => ?_) (fun he => ?_)
   ·rw [must_t (by rw [hnk, if_neg (by decide)]; exact decide_eq_true he)] at hT
    repeat' (first|(refine gv ?_;first|refine RT.id ?_|(refine⟨fun hc=>?_,fun hc=>?_⟩<;>first|(exfalso;omega)|skip)|refine gk ?_|refine num_m fun r hr=>?_|intro r hr)|refine gs ?_|(refine gb ?_;intro b)|refine gn ?_|(refine RT.isPush ?_;refine gp ?_;intro a' c' b' c1' hac)|refine gc ?_|fail)
    (refine RT.callP T rfl fR_ (must_fn (p := true) (e := 69) (t := at_)) rfl rfl rfl (fun v H1 hp => absurd hp.1 (by decide)) (fun v H1 hp => ?_); obtain ⟨_, rfl⟩ := hp; try simp only [List.nil_append])
    repeat' (first|(refine gv ?_;first|refine RT.id ?_|(refine⟨fun hc=>?_,fun hc=>?_⟩<;>first|(exfalso;omega)|skip)|refine gk ?_|refine num_m fun r hr=>?_|intro r hr)|refine gs ?_|(refine gb ?_;intro b)|refine gn ?_|(refine RT.isPush ?_;refine gp ?_;intro a' c' b' c1' hac)|refine gc ?_|fail)
    exact AtQ.cut () ⟨rfl, rfl, rfl, rfl, rfl, trivial⟩ (fun w h => Sat.pu_in hT (h.frd (Ps := [rdr br bm, giv bm g2, Cs fb 87 f.cells, Cs mb 72 _]) (Qs := []) (by (repeat (first|exact Fr.nil|(apply Fr.cons;focus ((repeat constructor);done)))))))
   ·repeat' (first|(refine gv ?_;first|refine RT.id ?_|(refine⟨fun hc=>?_,fun hc=>?_⟩<;>first|(exfalso;omega)|skip)|refine gk ?_|refine num_m fun r hr=>?_|intro r hr)|refine gs ?_|(refine gb ?_;intro b)|refine gn ?_|(refine RT.isPush ?_;refine gp ?_;intro a' c' b' c1' hac)|refine gc ?_|fail)
    (refine RT.callP T rfl fR_ (must_fn (p := false) (e := 69) (t := at_)) rfl rfl rfl (fun v H1 hp => ?_) (fun v H1 hp => absurd hp.1 (by decide)); obtain ⟨_, rfl, rfl⟩ := hp; (repeat refine nx ?_); exact AtQ.finP (H' := []) ⟨69, at_, by rw [hT]; exact must_f (by rw [hnk, if_neg (by decide)]; exact decide_eq_false he), rfl, rfl⟩ dR_)
  ·repeat' (first|(refine gv ?_;first|refine RT.id ?_|(refine⟨fun hc=>?_,fun hc=>?_⟩<;>first|(exfalso;omega)|skip)|refine gk ?_|refine num_m fun r hr=>?_|intro r hr)|refine gs ?_|(refine gb ?_;intro b)|refine gn ?_|(refine RT.isPush ?_;refine gp ?_;intro a' c' b' c1' hac)|refine gc ?_|fail)
   (refine RT.call T rfl fR_ (ref_fn (l := f.ty) hM ftb fts) rfl rfl rfl ?_; rintro _ _ ⟨rfl, rfl⟩; try simp only [List.cons_append, List.nil_append])
   cases hrf : refB f.ty
   ·repeat' (first|(refine gv ?_;first|refine RT.id ?_|(refine⟨fun hc=>?_,fun hc=>?_⟩<;>first|(exfalso;omega)|skip)|refine gk ?_|refine num_m fun r hr=>?_|intro r hr)|refine gs ?_|(refine gb ?_;intro b)|refine gn ?_|(refine RT.isPush ?_;refine gp ?_;intro a' c' b' c1' hac)|refine gc ?_|fail)
    (refine RT.callP T rfl fR_ (must_fn (p := false) (e := 69) (t := at_)) rfl rfl rfl (fun v H1 hp => ?_) (fun v H1 hp => absurd hp.1 (by decide)); obtain ⟨_, rfl, rfl⟩ := hp; (repeat refine nx ?_); exact AtQ.finP (H' := []) ⟨69, at_, by rw [hT]; exact must_f (by rw [hnk, if_pos rfl]; exact hrf), rfl, rfl⟩ dR_)
   ·rw [must_t (by rw [hnk, if_pos rfl]; exact hrf)] at hT
    repeat' (first|(refine gv ?_;first|refine RT.id ?_|(refine⟨fun hc=>?_,fun hc=>?_⟩<;>first|(exfalso;omega)|skip)|refine gk ?_|refine num_m fun r hr=>?_|intro r hr)|refine gs ?_|(refine gb ?_;intro b)|refine gn ?_|(refine RT.isPush ?_;refine gp ?_;intro a' c' b' c1' hac)|refine gc ?_|fail)
    (refine RT.callP T rfl fR_ (must_fn (p := true) (e := 69) (t := at_)) rfl rfl rfl (fun v H1 hp => absurd hp.1 (by decide)) (fun v H1 hp => ?_); obtain ⟨_, rfl⟩ := hp; try simp only [List.nil_append])
    repeat' (first|(refine gv ?_;first|refine RT.id ?_|(refine⟨fun hc=>?_,fun hc=>?_⟩<;>first|(exfalso;omega)|skip)|refine gk ?_|refine num_m fun r hr=>?_|intro r hr)|refine gs ?_|(refine gb ?_;intro b)|refine gn ?_|(refine RT.isPush ?_;refine gp ?_;intro a' c' b' c1' hac)|refine gc ?_|fail)
    exact AtQ.cut () ⟨rfl, rfl, rfl, rfl, rfl, trivial⟩ (fun w h => Sat.pu_in hT (h.frd (Ps := [rdr br bm, giv bm g2, Cs fb 87 f.cells, Cs mb 72 _]) (Qs := []) (by (repeat (first|exact Fr.nil|(apply Fr.cons;focus ((repeat constructor);done)))))))
 clear hT
 refine A0 ?_
 refine CT.pu fun hT => ?_
 unfold fieldR11 at hT
 repeat' (first|(refine gv ?_;first|refine RT.id ?_|(refine⟨fun hc=>?_,fun hc=>?_⟩<;>first|(exfalso;omega)|skip)|refine gk ?_|refine num_m fun r hr=>?_|intro r hr)|refine gs ?_|(refine gb ?_;intro b)|refine gn ?_|(refine RT.isPush ?_;refine gp ?_;intro a' c' b' c1' hac)|(refine CT.id_ ?_;first|refine nx ?_|refine CT.cond_t rfl ?_|refine CT.cond_f rfl ?_))
 refine CT.cut (α := Bool) (fun q => [(94, .bool q), (0, ptr br), (5, .pointer (some ⟨mb, 0, none⟩)), (8, .pointer (some ⟨fb, 0, none⟩)), (9, .slice fa i fc), (10, vS at_)]) (fun q => Pu (q = decide (f.card = 4)) :: rdr br bm :: giv bm g2 :: Cs fb 87 f.cells :: Cs mb 72 [n0, .slice fa fl.length fc, .slice oa ol.length oc, ms, es, .slice ra rl.length rc, .slice na nl.length nc] :: R) ?_ (fun q => ?_)
 ·repeat' (first|(refine gv ?_;first|refine RT.id ?_|(refine⟨fun hc=>?_,fun hc=>?_⟩<;>first|(exfalso;omega)|skip)|refine gk ?_|refine num_m fun r hr=>?_|intro r hr)|refine gs ?_|(refine gb ?_;intro b)|refine gn ?_|(refine RT.isPush ?_;refine gp ?_;intro a' c' b' c1' hac)|refine gc ?_|fail)
  ·exact AtQ.cut true ⟨rfl, rfl, rfl, rfl, rfl, rfl, trivial⟩ (fun w h => Sat.pu_in (decide_eq_true (by omega)).symm h)
  ·exact AtQ.cut false ⟨rfl, rfl, rfl, rfl, rfl, rfl, trivial⟩ (fun w h => Sat.pu_in (decide_eq_false (by omega)).symm h)
 refine A0 ?_
 refine CT.pu fun hq => ?_
 repeat' (first|(refine gv ?_;first|refine RT.id ?_|(refine⟨fun hc=>?_,fun hc=>?_⟩<;>first|(exfalso;omega)|skip)|refine gk ?_|refine num_m fun r hr=>?_|intro r hr)|refine gs ?_|(refine gb ?_;intro b)|refine gn ?_|(refine RT.isPush ?_;refine gp ?_;intro a' c' b' c1' hac)|(refine CT.id_ ?_;first|refine nx ?_|refine CT.cond_t rfl ?_|refine CT.cond_f rfl ?_))
 refine CT.cut (α := Unit) (fun _ => [(0, ptr br), (5, .pointer (some ⟨mb, 0, none⟩)), (8, .pointer (some ⟨fb, 0, none⟩)), (9, .slice fa i fc), (10, vS at_)]) (fun _ => Pu (TT = fieldR14 ol.length ah f at_ g2) :: rdr br bm :: giv bm g2 :: Cs fb 87 f.cells :: Cs mb 72 [n0, .slice fa fl.length fc, .slice oa ol.length oc, ms, es, .slice ra rl.length rc, .slice na nl.length nc] :: R) ?_ (fun _ => ?_)
 ·cases hq4 : q
  ·rw [hq4] at hq
   have hne := of_decide_eq_false hq.symm
   rw [if_neg hne] at hT
   repeat' (first|(refine gv ?_;first|refine RT.id ?_|(refine⟨fun hc=>?_,fun hc=>?_⟩<;>first|(exfalso;omega)|skip)|refine gk ?_|refine num_m fun r hr=>?_|intro r hr)|refine gs ?_|(refine gb ?_;intro b)|refine gn ?_|(refine RT.isPush ?_;refine gp ?_;intro a' c' b' c1' hac)|refine gc ?_|fail)
   ·rw [must_t (decide_eq_true (by omega))] at hT
    (refine RT.callP T rfl fR_ (must_fn (p := true) (e := 65) (t := at_)) rfl rfl rfl (fun v H1 hp => absurd hp.1 (by decide)) (fun v H1 hp => ?_); obtain ⟨_, rfl⟩ := hp; try simp only [List.nil_append])
    repeat' (first|(refine gv ?_;first|refine RT.id ?_|(refine⟨fun hc=>?_,fun hc=>?_⟩<;>first|(exfalso;omega)|skip)|refine gk ?_|refine num_m fun r hr=>?_|intro r hr)|refine gs ?_|(refine gb ?_;intro b)|refine gn ?_|(refine RT.isPush ?_;refine gp ?_;intro a' c' b' c1' hac)|refine gc ?_|fail)
    exact AtQ.cut () ⟨rfl, rfl, rfl, rfl, rfl, trivial⟩ (fun w h => Sat.pu_in hT (h.frd (Ps := [rdr br bm, giv bm g2, Cs fb 87 f.cells, Cs mb 72 _]) (Qs := []) (by (repeat (first|exact Fr.nil|(apply Fr.cons;focus ((repeat constructor);done)))))))
   ·(refine RT.callP T rfl fR_ (must_fn (p := false) (e := 65) (t := at_)) rfl rfl rfl (fun v H1 hp => ?_) (fun v H1 hp => absurd hp.1 (by decide)); obtain ⟨_, rfl, rfl⟩ := hp; (repeat refine nx ?_); exact AtQ.finP (H' := []) ⟨65, at_, by rw [hT]; exact must_f (decide_eq_false (by omega)), rfl, rfl⟩ dR_)
  ·rw [hq4] at hq
   have hne := of_decide_eq_true hq.symm
   rw [if_pos hne] at hT
   repeat' (first|(refine gv ?_;first|refine RT.id ?_|(refine⟨fun hc=>?_,fun hc=>?_⟩<;>first|(exfalso;omega)|skip)|refine gk ?_|refine num_m fun r hr=>?_|intro r hr)|refine gs ?_|(refine gb ?_;intro b)|refine gn ?_|(refine RT.isPush ?_;refine gp ?_;intro a' c' b' c1' hac)|refine gc ?_|fail)
   (refine RT.call T rfl fR_ (key_fn (k := f.key)) rfl rfl rfl ?_; rintro _ _ ⟨rfl, rfl⟩; try simp only [List.cons_append, List.nil_append])
   cases hk : keyB f.key
   ·repeat' (first|(refine gv ?_;first|refine RT.id ?_|(refine⟨fun hc=>?_,fun hc=>?_⟩<;>first|(exfalso;omega)|skip)|refine gk ?_|refine num_m fun r hr=>?_|intro r hr)|refine gs ?_|(refine gb ?_;intro b)|refine gn ?_|(refine RT.isPush ?_;refine gp ?_;intro a' c' b' c1' hac)|refine gc ?_|fail)
    (refine RT.callP T rfl fR_ (must_fn (p := false) (e := 65) (t := at_)) rfl rfl rfl (fun v H1 hp => ?_) (fun v H1 hp => absurd hp.1 (by decide)); obtain ⟨_, rfl, rfl⟩ := hp; (repeat refine nx ?_); exact AtQ.finP (H' := []) ⟨65, at_, by rw [hT]; exact must_f hk, rfl, rfl⟩ dR_)
   ·rw [must_t hk] at hT
    repeat' (first|(refine gv ?_;first|refine RT.id ?_|(refine⟨fun hc=>?_,fun hc=>?_⟩<;>first|(exfalso;omega)|skip)|refine gk ?_|refine num_m fun r hr=>?_|intro r hr)|refine gs ?_|(refine gb ?_;intro b)|refine gn ?_|(refine RT.isPush ?_;refine gp ?_;intro a' c' b' c1' hac)|refine gc ?_|fail)
    (refine RT.callP T rfl fR_ (must_fn (p := true) (e := 65) (t := at_)) rfl rfl rfl (fun v H1 hp => absurd hp.1 (by decide)) (fun v H1 hp => ?_); obtain ⟨_, rfl⟩ := hp; try simp only [List.nil_append])
    repeat' (first|(refine gv ?_;first|refine RT.id ?_|(refine⟨fun hc=>?_,fun hc=>?_⟩<;>first|(exfalso;omega)|skip)|refine gk ?_|refine num_m fun r hr=>?_|intro r hr)|refine gs ?_|(refine gb ?_;intro b)|refine gn ?_|(refine RT.isPush ?_;refine gp ?_;intro a' c' b' c1' hac)|refine gc ?_|fail)
    exact AtQ.cut () ⟨rfl, rfl, rfl, rfl, rfl, trivial⟩ (fun w h => Sat.pu_in hT (h.frd (Ps := [rdr br bm, giv bm g2, Cs fb 87 f.cells, Cs mb 72 _]) (Qs := []) (by (repeat (first|exact Fr.nil|(apply Fr.cons;focus ((repeat constructor);done)))))))
 clear hT hq
 refine A0 ?_
 refine CT.pu fun hT => ?_
 unfold fieldR14 at hT
 repeat' (first|(refine gv ?_;first|refine RT.id ?_|(refine⟨fun hc=>?_,fun hc=>?_⟩<;>first|(exfalso;omega)|skip)|refine gk ?_|refine num_m fun r hr=>?_|intro r hr)|refine gs ?_|(refine gb ?_;intro b)|refine gn ?_|(refine RT.isPush ?_;refine gp ?_;intro a' c' b' c1' hac)|(refine CT.id_ ?_;first|refine nx ?_|refine CT.cond_t rfl ?_|refine CT.cond_f rfl ?_))
 refine CT.cut (α := Unit) (fun _ => [(0, ptr br), (5, .pointer (some ⟨mb, 0, none⟩)), (8, .pointer (some ⟨fb, 0, none⟩)), (9, .slice fa i fc), (10, vS at_)]) (fun _ => Pu (TT = fieldR15 ah f at_ g2) :: rdr br bm :: giv bm g2 :: Cs fb 87 f.cells :: Cs mb 72 [n0, .slice fa fl.length fc, .slice oa ol.length oc, ms, es, .slice ra rl.length rc, .slice na nl.length nc] :: R) ?_ (fun _ => ?_)
 ·have pan : (decide (0 ≤ f.oneof ∧ f.oneof ≤ ol.length) && decide (f.oneof = 0 ∨ f.card = 1)) = false → TT = .error (64, at_) := fun h => by rw [hT]; exact must_f h
  have go : (decide (0 ≤ f.oneof ∧ f.oneof ≤ ol.length) && decide (f.oneof = 0 ∨ f.card = 1)) = true → TT = fieldR15 ah f at_ g2 := fun h => by rw [hT]; exact must_t h
  clear hT
  repeat' (first|(refine gv ?_;first|refine RT.id ?_|(refine⟨fun hc=>?_,fun hc=>?_⟩<;>first|(exfalso;omega)|skip)|refine gk ?_|refine num_m fun r hr=>?_|intro r hr)|refine gs ?_|(refine gb ?_;intro b)|refine gn ?_|(refine RT.isPush ?_;refine gp ?_;intro a' c' b' c1' hac)|refine gc ?_|fail)
  ·(refine RT.callP T rfl fR_ (must_fn (p := true) (e := 64) (t := at_)) rfl rfl rfl (fun v H1 hp => absurd hp.1 (by decide)) (fun v H1 hp => ?_); obtain ⟨_, rfl⟩ := hp; try simp only [List.nil_append])
   repeat' (first|(refine gv ?_;first|refine RT.id ?_|(refine⟨fun hc=>?_,fun hc=>?_⟩<;>first|(exfalso;omega)|skip)|refine gk ?_|refine num_m fun r hr=>?_|intro r hr)|refine gs ?_|(refine gb ?_;intro b)|refine gn ?_|(refine RT.isPush ?_;refine gp ?_;intro a' c' b' c1' hac)|refine gc ?_|fail)
   exact AtQ.cut () ⟨rfl, rfl, rfl, rfl, rfl, trivial⟩ (fun w h => Sat.pu_in (go (by rw [Bool.and_eq_true, decide_eq_true_eq, decide_eq_true_eq]; omega)) (h.frd (Ps := [rdr br bm, giv bm g2, Cs fb 87 f.cells, Cs mb 72 _]) (Qs := []) (by (repeat (first|exact Fr.nil|(apply Fr.cons;focus ((repeat constructor);done)))))))
  ·(refine RT.callP T rfl fR_ (must_fn (p := true) (e := 64) (t := at_)) rfl rfl rfl (fun v H1 hp => absurd hp.1 (by decide)) (fun v H1 hp => ?_); obtain ⟨_, rfl⟩ := hp; try simp only [List.nil_append])
   repeat' (first|(refine gv ?_;first|refine RT.id ?_|(refine⟨fun hc=>?_,fun hc=>?_⟩<;>first|(exfalso;omega)|skip)|refine gk ?_|refine num_m fun r hr=>?_|intro r hr)|refine gs ?_|(refine gb ?_;intro b)|refine gn ?_|(refine RT.isPush ?_;refine gp ?_;intro a' c' b' c1' hac)|refine gc ?_|fail)
   exact AtQ.cut () ⟨rfl, rfl, rfl, rfl, rfl, trivial⟩ (fun w h => Sat.pu_in (go (by rw [Bool.and_eq_true, decide_eq_true_eq, decide_eq_true_eq]; omega)) (h.frd (Ps := [rdr br bm, giv bm g2, Cs fb 87 f.cells, Cs mb 72 _]) (Qs := []) (by (repeat (first|exact Fr.nil|(apply Fr.cons;focus ((repeat constructor);done)))))))
  ·(refine RT.callP T rfl fR_ (must_fn (p := false) (e := 64) (t := at_)) rfl rfl rfl (fun v H1 hp => ?_) (fun v H1 hp => absurd hp.1 (by decide)); obtain ⟨_, rfl, rfl⟩ := hp; (repeat refine nx ?_); exact AtQ.finP (H' := []) ⟨64, at_, pan (by rw [Bool.and_eq_false_iff, decide_eq_false_iff_not, decide_eq_false_iff_not]; omega), rfl, rfl⟩ dR_)
  ·(refine RT.callP T rfl fR_ (must_fn (p := false) (e := 64) (t := at_)) rfl rfl rfl (fun v H1 hp => ?_) (fun v H1 hp => absurd hp.1 (by decide)); obtain ⟨_, rfl, rfl⟩ := hp; (repeat refine nx ?_); exact AtQ.finP (H' := []) ⟨64, at_, pan (by rw [Bool.and_eq_false_iff, decide_eq_false_iff_not, decide_eq_false_iff_not]; omega), rfl, rfl⟩ dR_)
  ·(refine RT.callP T rfl fR_ (must_fn (p := false) (e := 64) (t := at_)) rfl rfl rfl (fun v H1 hp => ?_) (fun v H1 hp => absurd hp.1 (by decide)); obtain ⟨_, rfl, rfl⟩ := hp; (repeat refine nx ?_); exact AtQ.finP (H' := []) ⟨64, at_, pan (by rw [Bool.and_eq_false_iff, decide_eq_false_iff_not, decide_eq_false_iff_not]; omega), rfl, rfl⟩ dR_)
 clear hT
 refine A0 ?_
 refine CT.pu fun hT => ?_
 unfold fieldR15 at hT
 repeat' (first|(refine gv ?_;first|refine RT.id ?_|(refine⟨fun hc=>?_,fun hc=>?_⟩<;>first|(exfalso;omega)|skip)|refine gk ?_|refine num_m fun r hr=>?_|intro r hr)|refine gs ?_|(refine gb ?_;intro b)|refine gn ?_|(refine RT.isPush ?_;refine gp ?_;intro a' c' b' c1' hac)|(refine CT.id_ ?_;first|refine nx ?_|refine CT.cond_t rfl ?_|refine CT.cond_f rfl ?_))
 refine CT.cut (α := Unit) (fun _ => [(0, ptr br), (5, .pointer (some ⟨mb, 0, none⟩)), (8, .pointer (some ⟨fb, 0, none⟩)), (9, .slice fa i fc), (10, vS at_)]) (fun _ => Pu (TT = fieldR16 ah f at_ g2) :: rdr br bm :: giv bm g2 :: Cs fb 87 f.cells :: Cs mb 72 [n0, .slice fa fl.length fc, .slice oa ol.length oc, ms, es, .slice ra rl.length rc, .slice na nl.length nc] :: R) ?_ (fun _ => ?_)
 ·have pan : (decide (f.packed ≤ 2) && (decide (f.packed = 0) || decide (f.card = 3) && packsB f.kind)) = false → TT = .error (67, at_) := fun h => by rw [hT]; exact must_f h
  have go : (decide (f.packed ≤ 2) && (decide (f.packed = 0) || decide (f.card = 3) && packsB f.kind)) = true → TT = fieldR16 ah f at_ g2 := fun h => by rw [hT]; exact must_t h
  clear hT
  repeat' (first|(refine gv ?_;first|refine RT.id ?_|(refine⟨fun hc=>?_,fun hc=>?_⟩<;>first|(exfalso;omega)|skip)|refine gk ?_|refine num_m fun r hr=>?_|intro r hr)|refine gs ?_|(refine gb ?_;intro b)|refine gn ?_|(refine RT.isPush ?_;refine gp ?_;intro a' c' b' c1' hac)|refine gc ?_|fail)
  ·(refine RT.callP T rfl fR_ (must_fn (p := true) (e := 67) (t := at_)) rfl rfl rfl (fun v H1 hp => absurd hp.1 (by decide)) (fun v H1 hp => ?_); obtain ⟨_, rfl⟩ := hp; try simp only [List.nil_append])
   repeat' (first|(refine gv ?_;first|refine RT.id ?_|(refine⟨fun hc=>?_,fun hc=>?_⟩<;>first|(exfalso;omega)|skip)|refine gk ?_|refine num_m fun r hr=>?_|intro r hr)|refine gs ?_|(refine gb ?_;intro b)|refine gn ?_|(refine RT.isPush ?_;refine gp ?_;intro a' c' b' c1' hac)|refine gc ?_|fail)
   exact AtQ.cut () ⟨rfl, rfl, rfl, rfl, rfl, trivial⟩ (fun w h => Sat.pu_in (go (by rw [decide_eq_true (p := f.packed ≤ 2) (by omega), decide_eq_true (p := f.packed = 0) (by omega)]; rfl)) (h.frd (Ps := [rdr br bm, giv bm g2, Cs fb 87 f.cells, Cs mb 72 _]) (Qs := []) (by (repeat (first|exact Fr.nil|(apply Fr.cons;focus ((repeat constructor);done)))))))
  ·(refine RT.call T rfl fR_ (packs_fn (k := f.kind)) rfl rfl rfl ?_; rintro _ _ ⟨rfl, rfl⟩; try simp only [List.cons_append, List.nil_append])
   cases hk : packsB f.kind
   ·repeat' (first|(refine gv ?_;first|refine RT.id ?_|(refine⟨fun hc=>?_,fun hc=>?_⟩<;>first|(exfalso;omega)|skip)|refine gk ?_|refine num_m fun r hr=>?_|intro r hr)|refine gs ?_|(refine gb ?_;intro b)|refine gn ?_|(refine RT.isPush ?_;refine gp ?_;intro a' c' b' c1' hac)|refine gc ?_|fail)
    (refine RT.callP T rfl fR_ (must_fn (p := false) (e := 67) (t := at_)) rfl rfl rfl (fun v H1 hp => ?_) (fun v H1 hp => absurd hp.1 (by decide)); obtain ⟨_, rfl, rfl⟩ := hp; (repeat refine nx ?_); exact AtQ.finP (H' := []) ⟨67, at_, pan (by rw [hk, decide_eq_false (p := f.packed = 0) (by omega)]; simp), rfl, rfl⟩ dR_)
   ·repeat' (first|(refine gv ?_;first|refine RT.id ?_|(refine⟨fun hc=>?_,fun hc=>?_⟩<;>first|(exfalso;omega)|skip)|refine gk ?_|refine num_m fun r hr=>?_|intro r hr)|refine gs ?_|(refine gb ?_;intro b)|refine gn ?_|(refine RT.isPush ?_;refine gp ?_;intro a' c' b' c1' hac)|refine gc ?_|fail)
    (refine RT.callP T rfl fR_ (must_fn (p := true) (e := 67) (t := at_)) rfl rfl rfl (fun v H1 hp => absurd hp.1 (by decide)) (fun v H1 hp => ?_); obtain ⟨_, rfl⟩ := hp; try simp only [List.nil_append])
    repeat' (first|(refine gv ?_;first|refine RT.id ?_|(refine⟨fun hc=>?_,fun hc=>?_⟩<;>first|(exfalso;omega)|skip)|refine gk ?_|refine num_m fun r hr=>?_|intro r hr)|refine gs ?_|(refine gb ?_;intro b)|refine gn ?_|(refine RT.isPush ?_;refine gp ?_;intro a' c' b' c1' hac)|refine gc ?_|fail)
    exact AtQ.cut () ⟨rfl, rfl, rfl, rfl, rfl, trivial⟩ (fun w h => Sat.pu_in (go (by rw [hk, decide_eq_true (p := f.packed ≤ 2) (by omega), decide_eq_true (p := f.card = 3) (by omega)]; simp)) (h.frd (Ps := [rdr br bm, giv bm g2, Cs fb 87 f.cells, Cs mb 72 _]) (Qs := []) (by (repeat (first|exact Fr.nil|(apply Fr.cons;focus ((repeat constructor);done)))))))
  ·(refine RT.callP T rfl fR_ (must_fn (p := false) (e := 67) (t := at_)) rfl rfl rfl (fun v H1 hp => ?_) (fun v H1 hp => absurd hp.1 (by decide)); obtain ⟨_, rfl, rfl⟩ := hp; (repeat refine nx ?_); exact AtQ.finP (H' := []) ⟨67, at_, pan (by rw [decide_eq_false (p := f.packed = 0) (by omega), decide_eq_false (p := f.card = 3) (by omega)]; simp), rfl, rfl⟩ dR_)
  ·(refine RT.callP T rfl fR_ (must_fn (p := false) (e := 67) (t := at_)) rfl rfl rfl (fun v H1 hp => ?_) (fun v H1 hp => absurd hp.1 (by decide)); obtain ⟨_, rfl, rfl⟩ := hp; (repeat refine nx ?_); exact AtQ.finP (H' := []) ⟨67, at_, pan (by rw [decide_eq_false (p := f.packed ≤ 2) (by omega)]; rfl), rfl, rfl⟩ dR_)
 clear hT
 refine A0 ?_
 refine CT.pu fun hT => ?_
 unfold fieldR16 at hT
 repeat' (first|(refine gv ?_;first|refine RT.id ?_|(refine⟨fun hc=>?_,fun hc=>?_⟩<;>first|(exfalso;omega)|skip)|refine gk ?_|refine num_m fun r hr=>?_|intro r hr)|refine gs ?_|(refine gb ?_;intro b)|refine gn ?_|(refine RT.isPush ?_;refine gp ?_;intro a' c' b' c1' hac)|refine gc ?_|fail)
 (refine RT.call T rfl fR_ (goodS_fn hU fjb (by omega)) rfl rfl rfl ?_; rintro _ _ ⟨rfl, rfl⟩; try simp only [List.cons_append, List.nil_append])
 have pan : (decide (goodL f.js < 0) && decide (f.js.length ≤ 255) && decide ((64 : Int) ∉ f.js)) = false → TT = .error (60, at_) := fun h => by rw [hT]; exact must_f h
 have go : (decide (goodL f.js < 0) && decide (f.js.length ≤ 255) && decide ((64 : Int) ∉ f.js)) = true → TT = fieldR17 ah f at_ g2 := fun h => by rw [hT]; exact must_t h
 clear hT
 generalize hgl : goodL f.js = gl at *
 repeat' (first|(refine gv ?_;first|refine RT.id ?_|(refine⟨fun hc=>?_,fun hc=>?_⟩<;>first|(exfalso;omega)|skip)|refine gk ?_|refine num_m fun r hr=>?_|intro r hr)|refine gs ?_|(refine gb ?_;intro b)|refine gn ?_|(refine RT.isPush ?_;refine gp ?_;intro a' c' b' c1' hac)|refine gc ?_|fail)
 rotate_left
 ·(refine RT.callP T rfl fR_ (must_fn (p := false) (e := 60) (t := at_)) rfl rfl rfl (fun v H1 hp => ?_) (fun v H1 hp => absurd hp.1 (by decide)); obtain ⟨_, rfl, rfl⟩ := hp; (repeat refine nx ?_); exact AtQ.finP (H' := []) ⟨60, at_, pan (by rw [decide_eq_false (p := f.js.length ≤ 255) (by omega)]; simp), rfl, rfl⟩ dR_)
 ·(refine RT.callP T rfl fR_ (must_fn (p := false) (e := 60) (t := at_)) rfl rfl rfl (fun v H1 hp => ?_) (fun v H1 hp => absurd hp.1 (by decide)); obtain ⟨_, rfl, rfl⟩ := hp; (repeat refine nx ?_); exact AtQ.finP (H' := []) ⟨60, at_, pan (by rw [decide_eq_false (p := gl < 0) (by omega)]; rfl), rfl, rfl⟩ dR_)
 (refine RT.call T rfl fR_ (contains_fn (l := f.js) fjb) rfl rfl rfl ?_; rintro _ _ ⟨rfl, rfl⟩; try simp only [List.cons_append, List.nil_append])
 by_cases hat : (64 : Int) ∈ f.js
 ·rw [decide_eq_true hat]
  repeat' (first|(refine gv ?_;first|refine RT.id ?_|(refine⟨fun hc=>?_,fun hc=>?_⟩<;>first|(exfalso;omega)|skip)|refine gk ?_|refine num_m fun r hr=>?_|intro r hr)|refine gs ?_|(refine gb ?_;intro b)|refine gn ?_|(refine RT.isPush ?_;refine gp ?_;intro a' c' b' c1' hac)|refine gc ?_|fail)
  (refine RT.callP T rfl fR_ (must_fn (p := false) (e := 60) (t := at_)) rfl rfl rfl (fun v H1 hp => ?_) (fun v H1 hp => absurd hp.1 (by decide)); obtain ⟨_, rfl, rfl⟩ := hp; (repeat refine nx ?_); exact AtQ.finP (H' := []) ⟨60, at_, pan (by rw [decide_eq_false (p := (64 : Int) ∉ f.js) (fun h => h hat)]; simp), rfl, rfl⟩ dR_)
 rw [decide_eq_false hat]
 repeat' (first|(refine gv ?_;first|refine RT.id ?_|(refine⟨fun hc=>?_,fun hc=>?_⟩<;>first|(exfalso;omega)|skip)|refine gk ?_|refine num_m fun r hr=>?_|intro r hr)|refine gs ?_|(refine gb ?_;intro b)|refine gn ?_|(refine RT.isPush ?_;refine gp ?_;intro a' c' b' c1' hac)|refine gc ?_|fail)
 (refine RT.callP T rfl fR_ (must_fn (p := true) (e := 60) (t := at_)) rfl rfl rfl (fun v H1 hp => absurd hp.1 (by decide)) (fun v H1 hp => ?_); obtain ⟨_, rfl⟩ := hp; try simp only [List.nil_append])
 have hT := go (by rw [decide_eq_true (p := gl < 0) (by omega), decide_eq_true (p := f.js.length ≤ 255) (by omega), decide_eq_true hat]; rfl)
 clear go pan
 unfold fieldR17 at hT
 (refine RT.env (E' := [(0, _), (5, _), (8, _), (9, _), (10, _)]) ⟨rfl, rfl, rfl, rfl, rfl, trivial⟩ ?_)
 repeat' (first|(refine gv ?_;first|refine RT.id ?_|(refine⟨fun hc=>?_,fun hc=>?_⟩<;>first|(exfalso;omega)|skip)|refine gk ?_|refine num_m fun r hr=>?_|intro r hr)|refine gs ?_|(refine gb ?_;intro b)|refine gn ?_|(refine RT.isPush ?_;refine gp ?_;intro a' c' b' c1' hac)|refine gc ?_|fail)
 refine CT.loop (α := Nat) (fun k => [(8, .pointer (some ⟨fb, 0, none⟩)), (10, vS at_), (166, .slice fa i fc), (167, .int .i64 i), (168, .int .i64 k)]) (fun k => Pu (k ≤ i ∧ ∀ o ∈ ah.take k, jsonL o ≠ jsonL f ∧ jsonL o ≠ f.nm ∧ o.nm ≠ jsonL f) :: rdr br bm :: giv bm g2 :: Cs fb 87 f.cells :: R) (fun k => i - k) 0
  ⟨rfl, rfl, rfl, rfl, rfl, trivial⟩ (fun w h => Sat.pu_in ⟨Nat.zero_le _, fun o ho => by simp at ho⟩ (h.frd (Ps := [rdr br bm, giv bm g2, Cs fb 87 f.cells]) (Qs := [_]) (by (repeat (first|exact Fr.nil|(apply Fr.cons;focus ((repeat constructor);done))))))) (fun k => CT.pu fun ⟨hki, hko⟩ => ?_)
 repeat' (first|(refine gv ?_;first|refine RT.id ?_|(refine⟨fun hc=>?_,fun hc=>?_⟩<;>first|(exfalso;omega)|skip)|refine gk ?_|refine num_m fun r hr=>?_|intro r hr)|refine gs ?_|(refine gb ?_;intro b)|refine gn ?_|(refine RT.isPush ?_;refine gp ?_;intro a' c' b' c1' hac)|(refine CT.id_ ?_;first|refine nx ?_|refine CT.cond_t rfl ?_|refine CT.cond_f rfl ?_))
 first | (refine CT.region ?_) | (refine CT.quiet mixed (by kernel_rfl) ?_)
 repeat' (first|(refine gv ?_;first|refine RT.id ?_|(refine⟨fun hc=>?_,fun hc=>?_⟩<;>first|(exfalso;omega)|skip)|refine gk ?_|refine num_m fun r hr=>?_|intro r hr)|refine gs ?_|(refine gb ?_;intro b)|refine gn ?_|(refine RT.isPush ?_;refine gp ?_;intro a' c' b' c1' hac)|(refine CT.id_ ?_;first|refine nx ?_|refine CT.cond_t rfl ?_|refine CT.cond_f rfl ?_))
 repeat' (first|(refine gv ?_;first|refine RT.id ?_|(refine⟨fun hc=>?_,fun hc=>?_⟩<;>first|(exfalso;omega)|skip)|refine gk ?_|refine num_m fun r hr=>?_|intro r hr)|refine gs ?_|(refine gb ?_;intro b)|refine gn ?_|(refine RT.isPush ?_;refine gp ?_;intro a' c' b' c1' hac)|refine gc ?_|fail)
 ·have hka : k < ah.length := by omega
  have hgk := List.getElem?_eq_getElem hka
  revert hgk
  generalize ah[k] = o
  intro hgk
  have hof : o ∈ fl := List.mem_of_mem_take (by rw [hah]; exact List.mem_of_getElem? hgk)
  obtain ⟨⟨⟨onb, _⟩, _, _, _, _, _, _, _, ⟨ojb, _⟩⟩, ons, _, ojs⟩ := fo o hof
  refine RT.ix T (j := k * 9) rfl rfl rfl (by repeat (first | exact (hA) | apply Rd.cons)) (by omega) (by omega) (by omega) rfl rfl ?_
  refine RT.ldra T rfl (by repeat (first | exact (hA) | apply Rd.cons)) (l := o.cells) (flat_sub (f := FieldT.cells) (z := 9) (fun _ => rfl) ah k _ hgk) rfl rfl rfl rfl ?_
  repeat' (first|(refine gv ?_;first|refine RT.id ?_|(refine⟨fun hc=>?_,fun hc=>?_⟩<;>first|(exfalso;omega)|skip)|refine gk ?_|refine num_m fun r hr=>?_|intro r hr)|refine gs ?_|(refine gb ?_;intro b)|refine gn ?_|(refine RT.isPush ?_;refine gp ?_;intro a' c' b' c1' hac)|(refine CT.id_ ?_;first|refine nx ?_|refine CT.cond_t rfl ?_|refine CT.cond_f rfl ?_))
  (apply RT.staggW T;exact rfl;exact rfl;exact rfl;(focus ((repeat constructor);done));iterate 4 exact rfl)
  repeat' (first|(refine gv ?_;first|refine RT.id ?_|(refine⟨fun hc=>?_,fun hc=>?_⟩<;>first|(exfalso;omega)|skip)|refine gk ?_|refine num_m fun r hr=>?_|intro r hr)|refine gs ?_|(refine gb ?_;intro b)|refine gn ?_|(refine RT.isPush ?_;refine gp ?_;intro a' c' b' c1' hac)|(refine CT.id_ ?_;first|refine nx ?_|refine CT.cond_t rfl ?_|refine CT.cond_f rfl ?_))
  revert b
  intro ob
  refine CT.tail 20 mixed (by kernel_rfl) ?_
  dsimp only [List.take_succ_cons, List.take_zero]
  repeat' (first|(refine gv ?_;first|refine RT.id ?_|(refine⟨fun hc=>?_,fun hc=>?_⟩<;>first|(exfalso;omega)|skip)|refine gk ?_|refine num_m fun r hr=>?_|intro r hr)|refine gs ?_|(refine gb ?_;intro b)|refine gn ?_|(refine RT.isPush ?_;refine gp ?_;intro a' c' b' c1' hac)|refine gt ?_|refine gc ?_|fail)
  (refine RT.qcall T rfl (QSp.of (by (repeat (first|exact Fr.nil|(apply Fr.cons;focus ((repeat constructor);done))))) (json_fn (f := o) ojb onb ons)) rfl rfl rfl ?_)
  repeat' (first|(refine gv ?_;first|refine RT.id ?_|(refine⟨fun hc=>?_,fun hc=>?_⟩<;>first|(exfalso;omega)|skip)|refine gk ?_|refine num_m fun r hr=>?_|intro r hr)|refine gs ?_|(refine gb ?_;intro b)|refine gn ?_|(refine RT.isPush ?_;refine gp ?_;intro a' c' b' c1' hac)|refine gt ?_|refine gc ?_|fail)
  (refine RT.qcall T rfl (QSp.of (by (repeat (first|exact Fr.nil|(apply Fr.cons;focus ((repeat constructor);done))))) (json_fn (f := f) fjb fnb fns)) rfl rfl rfl ?_)
  repeat' (first|(refine gv ?_;first|refine RT.id ?_|(refine⟨fun hc=>?_,fun hc=>?_⟩<;>first|(exfalso;omega)|skip)|refine gk ?_|refine num_m fun r hr=>?_|intro r hr)|refine gs ?_|(refine gb ?_;intro b)|refine gn ?_|(refine RT.isPush ?_;refine gp ?_;intro a' c' b' c1' hac)|refine gt ?_|refine gc ?_|fail)
  have hjo := json_byt ojb onb
  have hjf := json_byt fjb fnb
  have pan : ∀ o ∈ ah, ¬(jsonL o ≠ jsonL f ∧ jsonL o ≠ f.nm ∧ o.nm ≠ jsonL f) → TT = .error (61, at_) := fun o ho h => by rw [hT]; exact must_f (decide_eq_false fun h2 => h (h2 o ho))
  refine RT.nes (l := jsonL o) (l' := jsonL f) rfl rfl hjo hjf rfl rfl (fun he1 => ?_) (fun he1 => ?_)
  ·repeat' (first|(refine gv ?_;first|refine RT.id ?_|(refine⟨fun hc=>?_,fun hc=>?_⟩<;>first|(exfalso;omega)|skip)|refine gk ?_|refine num_m fun r hr=>?_|intro r hr)|refine gs ?_|(refine gb ?_;intro b)|refine gn ?_|(refine RT.isPush ?_;refine gp ?_;intro a' c' b' c1' hac)|refine gt ?_|refine gc ?_|fail)
   refine AtQ.tail ?_
   (refine RT.callP T rfl fR_ (must_fn (p := false) (e := 61) (t := at_)) rfl rfl rfl (fun v H1 hp => ?_) (fun v H1 hp => absurd hp.1 (by decide)); obtain ⟨_, rfl, rfl⟩ := hp; (repeat refine nx ?_); exact AtQ.finP (H' := []) ⟨61, at_, pan o (List.mem_of_getElem? hgk) (fun h => h.1 he1), rfl, rfl⟩ dR_)
  ·repeat' (first|(refine gv ?_;first|refine RT.id ?_|(refine⟨fun hc=>?_,fun hc=>?_⟩<;>first|(exfalso;omega)|skip)|refine gk ?_|refine num_m fun r hr=>?_|intro r hr)|refine gs ?_|(refine gb ?_;intro b)|refine gn ?_|(refine RT.isPush ?_;refine gp ?_;intro a' c' b' c1' hac)|refine gt ?_|refine gc ?_|fail)
   (refine RT.qcall T rfl (QSp.of (by (repeat (first|exact Fr.nil|(apply Fr.cons;focus ((repeat constructor);done))))) (json_fn (f := o) ojb onb ons)) rfl rfl rfl ?_)
   repeat' (first|(refine gv ?_;first|refine RT.id ?_|(refine⟨fun hc=>?_,fun hc=>?_⟩<;>first|(exfalso;omega)|skip)|refine gk ?_|refine num_m fun r hr=>?_|intro r hr)|refine gs ?_|(refine gb ?_;intro b)|refine gn ?_|(refine RT.isPush ?_;refine gp ?_;intro a' c' b' c1' hac)|refine gt ?_|refine gc ?_|fail)
   refine RT.nes (l := jsonL o) (l' := f.nm) rfl rfl hjo fnb rfl rfl (fun he2 => ?_) (fun he2 => ?_)
   ·repeat' (first|(refine gv ?_;first|refine RT.id ?_|(refine⟨fun hc=>?_,fun hc=>?_⟩<;>first|(exfalso;omega)|skip)|refine gk ?_|refine num_m fun r hr=>?_|intro r hr)|refine gs ?_|(refine gb ?_;intro b)|refine gn ?_|(refine RT.isPush ?_;refine gp ?_;intro a' c' b' c1' hac)|refine gt ?_|refine gc ?_|fail)
    refine AtQ.tail ?_
    (refine RT.callP T rfl fR_ (must_fn (p := false) (e := 61) (t := at_)) rfl rfl rfl (fun v H1 hp => ?_) (fun v H1 hp => absurd hp.1 (by decide)); obtain ⟨_, rfl, rfl⟩ := hp; (repeat refine nx ?_); exact AtQ.finP (H' := []) ⟨61, at_, pan o (List.mem_of_getElem? hgk) (fun h => h.2.1 he2), rfl, rfl⟩ dR_)
   ·repeat' (first|(refine gv ?_;first|refine RT.id ?_|(refine⟨fun hc=>?_,fun hc=>?_⟩<;>first|(exfalso;omega)|skip)|refine gk ?_|refine num_m fun r hr=>?_|intro r hr)|refine gs ?_|(refine gb ?_;intro b)|refine gn ?_|(refine RT.isPush ?_;refine gp ?_;intro a' c' b' c1' hac)|refine gt ?_|refine gc ?_|fail)
    (refine RT.qcall T rfl (QSp.of (by (repeat (first|exact Fr.nil|(apply Fr.cons;focus ((repeat constructor);done))))) (json_fn (f := f) fjb fnb fns)) rfl rfl rfl ?_)
    refine RT.nes (l := o.nm) (l' := jsonL f) rfl rfl onb hjf rfl rfl (fun he3 => ?_) (fun he3 => ?_)
    ·repeat' (first|(refine gv ?_;first|refine RT.id ?_|(refine⟨fun hc=>?_,fun hc=>?_⟩<;>first|(exfalso;omega)|skip)|refine gk ?_|refine num_m fun r hr=>?_|intro r hr)|refine gs ?_|(refine gb ?_;intro b)|refine gn ?_|(refine RT.isPush ?_;refine gp ?_;intro a' c' b' c1' hac)|refine gt ?_|refine gc ?_|fail)
     refine AtQ.tail ?_
     (refine RT.callP T rfl fR_ (must_fn (p := false) (e := 61) (t := at_)) rfl rfl rfl (fun v H1 hp => ?_) (fun v H1 hp => absurd hp.1 (by decide)); obtain ⟨_, rfl, rfl⟩ := hp; (repeat refine nx ?_); exact AtQ.finP (H' := []) ⟨61, at_, pan o (List.mem_of_getElem? hgk) (fun h => h.2.2 he3), rfl, rfl⟩ dR_)
    ·repeat' (first|(refine gv ?_;first|refine RT.id ?_|(refine⟨fun hc=>?_,fun hc=>?_⟩<;>first|(exfalso;omega)|skip)|refine gk ?_|refine num_m fun r hr=>?_|intro r hr)|refine gs ?_|(refine gb ?_;intro b)|refine gn ?_|(refine RT.isPush ?_;refine gp ?_;intro a' c' b' c1' hac)|refine gt ?_|refine gc ?_|fail)
     refine AtQ.tail ?_
     (refine RT.callP T rfl fR_ (must_fn (p := true) (e := 61) (t := at_)) rfl rfl rfl (fun v H1 hp => absurd hp.1 (by decide)) (fun v H1 hp => ?_); obtain ⟨_, rfl⟩ := hp; try simp only [List.nil_append])
     repeat' (first|(refine gv ?_;first|refine RT.id ?_|(refine⟨fun hc=>?_,fun hc=>?_⟩<;>first|(exfalso;omega)|skip)|refine gk ?_|refine num_m fun r hr=>?_|intro r hr)|refine gs ?_|(refine gb ?_;intro b)|refine gn ?_|(refine RT.isPush ?_;refine gp ?_;intro a' c' b' c1' hac)|refine gc ?_|fail)
     exact AtQ.loop (k + 1) ⟨rfl, rfl, rfl, rfl, rfl, trivial⟩ (fun w h => Sat.pu_in ⟨by omega, sm_take hgk hko ⟨he1, he2, he3⟩⟩ (h.frd (Ps := [rdr br bm, giv bm g2, Cs fb 87 f.cells]) (Qs := [_]) (by (repeat (first|exact Fr.nil|(apply Fr.cons;focus ((repeat constructor);done))))))) (by omega)
 ·have hke : k = i := by omega
  rw [List.take_of_length_le (by omega)] at hko
  refine AtQ.ofFinN (AtQ.fin0 Tryz.results118 (H' := [rdr br bm, giv bm g2]) ⟨g2, by rw [hT]; exact must_t (decide_eq_true hko), hb2, rfl⟩ (fun w h => h.frd (Ps := [rdr br bm, giv bm g2]) (Qs := [_]) (by (repeat (first|exact Fr.nil|(apply Fr.cons;focus ((repeat constructor);done)))))) _ (.inl rfl))
end Go.Proofs.YtdemnhdoadjhhaaGreatDoor
end
section
namespace Go.Proofs.YtdemnhdoadjhhaaGreatDoor
open Go.Sk
set_option maxRecDepth 100000
theorem giveR_ok {nm full : Txt} {g g' : List Txt} (h : giveR nm full g = .ok g') : identB nm = true ∧ full.length ≤ 255 ∧ full ∉ g ∧ g' = g ++ [full] := by
 unfold giveR must at h
 split at h
 ·rename_i h1
  rw [Bool.and_eq_true, decide_eq_true_eq] at h1
  split at h
  ·rename_i h2
   cases h
   exact ⟨h1.1, h1.2, of_decide_eq_true h2, rfl⟩
  ·cases h
 ·cases h
theorem drop_eq {α : Type} {l : List α} {i : Nat} {x : α} (h : l[i]? = some x) : l.drop i = x :: l.drop (i + 1) := by
 obtain ⟨hi, rfl⟩ := List.getElem?_eq_some_iff.1 h
 exact List.drop_eq_getElem_cons hi
theorem take_eq {α : Type} {l : List α} {i : Nat} {x : α} (h : l[i]? = some x) : l.take i ++ [x] = l.take (i + 1) := by
 rw [List.take_add_one, h]
 rfl
attribute [local irreducible] Cs Own Ex Pu Yld RT LJ QJ AtQ CT Rd QSp Sp FinQ Then LoopQ CutQ DT TakeQ EffQ
variable {B : World}
set_option maxHeartbeats 16000000 in
theorem message_fn {mM : Int} (hU : Lib.Utf8Tabs 1 2 B) (hM : B.cell? ⟨0, 0, none⟩ = some (.int .i64 mM)) {br bm : Nat} (d : Nat) :
  ∀ {R : List HP} {m : MsgT} {sc : Txt} {deep : Nat} {g : List Txt}, m.deep ≤ d → m.In (Rd B R) → m.Ok → m.Nm → BL g → Byt sc → sc.length ≤ 16777216 → deep ≤ 16 →
  SpP B Tryz.prog 92 [ptr br, .agg m.cells.toArray, vS sc, .int .i64 deep] R [rdr br bm, giv bm g] (PostR (msgR m sc deep g) [rdr br bm] bm) (PPR (msgR m sc deep g)) := by
 induction d using Nat.strongRecOn with
 | _ d ih =>
 intro R m sc deep g hd hin hok hnm hg hs hsl hdp
 obtain ⟨nm, ⟨fa, fc, fl⟩, ⟨oa, oc, ol⟩, ma, mc, msgs, ⟨ea, ec, el⟩, ⟨ra, rc, rl⟩, ⟨na, nc, nl⟩⟩ := m
 unfold MsgT.In at hin
 unfold MsgT.Ok at hok
 unfold MsgT.Nm at hnm
 unfold MsgT.deep at hd
 obtain ⟨rf, ro, rm, re, re2, rs, rn, rm2⟩ := hin
 obtain ⟨⟨ho1, _⟩, ⟨⟨lf, _⟩, of_⟩, ⟨⟨lo, _⟩, oo⟩, ⟨lm, _⟩, ⟨⟨le, _⟩, oe⟩, ⟨⟨ls, _⟩, os⟩, ⟨⟨ln, _⟩, on_⟩, om⟩ := hok
 obtain ⟨hm1, hmf, hmo, hmn, hme, hmm⟩ := hnm
 dsimp only at rf ro rm re re2 rs rn lf of_ lo oo lm le oe ls os ln on_ hmf hmo hmn hme
 have hT : msgR (.mk nm ⟨fa, fc, fl⟩ ⟨oa, oc, ol⟩ ma mc msgs ⟨ea, ec, el⟩ ⟨ra, rc, rl⟩ ⟨na, nc, nl⟩) sc deep g = msgR (.mk nm ⟨fa, fc, fl⟩ ⟨oa, oc, ol⟩ ma mc msgs ⟨ea, ec, el⟩ ⟨ra, rc, rl⟩ ⟨na, nc, nl⟩) sc deep g := rfl
 conv at hT => rhs; unfold msgR
 dsimp only at hT
 generalize msgR (.mk nm ⟨fa, fc, fl⟩ ⟨oa, oc, ol⟩ ma mc msgs ⟨ea, ec, el⟩ ⟨ra, rc, rl⟩ ⟨na, nc, nl⟩) sc deep g = TT at *
 dsimp only [MsgT.cells, Rw.v, MsgT.nm, MsgT.fields, MsgT.oneofs, MsgT.ma, MsgT.mc, MsgT.msgs, MsgT.enums, MsgT.res, MsgT.names]
 refine SpP.body Tryz.func92 rfl Tryz.ntmps92 (by simp) ?_
 simp only [argE, List.cons_append, List.nil_append, Nat.zero_add, Nat.reduceAdd]
 repeat' (first|(refine gv ?_;first|refine RT.id ?_|(refine⟨fun hc=>?_,fun hc=>?_⟩<;>first|(exfalso;omega)|skip)|refine gk ?_|refine num_m fun r hr=>?_|intro r hr)|refine gs ?_|(refine gb ?_;intro b)|refine gn ?_|(refine RT.isPush ?_;refine gp ?_;intro a' c' b' c1' hac)|refine gc ?_|fail)
 revert b
 intro mb
 (refine RT.bs T (l := strs [sc,  nm]) rfl rfl rfl rfl rfl rfl rfl (fun a9 c9 h9 => ?_); (refine RT.call T rfl fR_ (join_fn (ls := [sc,  nm]) (Own.rd (by ((repeat constructor);done)) rfl h9) rfl (b2  hs  ho1) ( s2l hsl hm1)) rfl rfl rfl ?_; rintro _ _ ⟨rfl, rfl⟩; try simp only [List.cons_append, List.nil_append]); refine RT.weak (fun w h => h.tail) ?_)
 repeat' (first|(refine gv ?_;first|refine RT.id ?_|(refine⟨fun hc=>?_,fun hc=>?_⟩<;>first|(exfalso;omega)|skip)|refine gk ?_|refine num_m fun r hr=>?_|intro r hr)|refine gs ?_|(refine gb ?_;intro b)|refine gn ?_|(refine RT.isPush ?_;refine gp ?_;intro a' c' b' c1' hac)|refine gc ?_|fail)
 have hjl := @j2_len sc nm
 have hjb := j2_byt hs ho1
 generalize joinL [sc, nm] = full at *
 (refine RT.callP T rfl fR_ (give_fn (br := br) (bm := bm) (g := g) hg ho1 hjb hm1 (show full.length ≤ 140737488355327 by omega)) rfl rfl rfl (fun v H1 hp => ?_) (fun v H1 hp => ?_))
 ·obtain ⟨e, t, h4, rfl, rfl⟩ := hp
  ((repeat refine nx ?_); exact AtQ.finP (H' := []) ⟨e, t, by rw [hT, h4]; rfl, rfl, rfl⟩ dR_)
 obtain ⟨g1, h4, hb1, rfl⟩ := hp
 rw [h4] at hT
 rw [bnd_ok] at hT
 obtain ⟨_, hfl, _, _⟩ := giveR_ok h4
 clear h4 hjl
 simp only [List.cons_append, List.nil_append]
 repeat' (first|(refine gv ?_;first|refine RT.id ?_|(refine⟨fun hc=>?_,fun hc=>?_⟩<;>first|(exfalso;omega)|skip)|refine gk ?_|refine num_m fun r hr=>?_|intro r hr)|refine gs ?_|(refine gb ?_;intro b)|refine gn ?_|(refine RT.isPush ?_;refine gp ?_;intro a' c' b' c1' hac)|refine gc ?_|fail)
 rotate_left
 ·(refine RT.callP T rfl fR_ (must_fn (p := false) (e := 68) (t := full)) rfl rfl rfl (fun v H1 hp => ?_) (fun v H1 hp => absurd hp.1 (by decide)); obtain ⟨_, rfl, rfl⟩ := hp; (repeat refine nx ?_); exact AtQ.finP (H' := []) ⟨68, full, by rw [hT]; exact must_f (by rw [decide_eq_false (p := fl.length ≤ 1000) (by omega)]; simp), rfl, rfl⟩ dR_)
 ·(refine RT.callP T rfl fR_ (must_fn (p := false) (e := 68) (t := full)) rfl rfl rfl (fun v H1 hp => ?_) (fun v H1 hp => absurd hp.1 (by decide)); obtain ⟨_, rfl, rfl⟩ := hp; (repeat refine nx ?_); exact AtQ.finP (H' := []) ⟨68, full, by rw [hT]; exact must_f (by rw [decide_eq_false (p := deep < 16) (by omega)]; rfl), rfl, rfl⟩ dR_)
 (refine RT.callP T rfl fR_ (must_fn (p := true) (e := 68) (t := full)) rfl rfl rfl (fun v H1 hp => absurd hp.1 (by decide)) (fun v H1 hp => ?_); obtain ⟨_, rfl⟩ := hp; try simp only [List.nil_append])
 rw [must_t (by rw [decide_eq_true (p := deep < 16) (by omega), decide_eq_true (p := fl.length ≤ 1000) (by omega)]; rfl)] at hT
 (refine RT.env (E' := [(0, _), (3, _), (5, _), (8, _)]) ⟨rfl, rfl, rfl, rfl, trivial⟩ ?_)
 repeat' (first|(refine gv ?_;first|refine RT.id ?_|(refine⟨fun hc=>?_,fun hc=>?_⟩<;>first|(exfalso;omega)|skip)|refine gk ?_|refine num_m fun r hr=>?_|intro r hr)|refine gs ?_|(refine gb ?_;intro b)|refine gn ?_|(refine RT.isPush ?_;refine gp ?_;intro a' c' b' c1' hac)|refine gc ?_|fail)
 (refine RT.callP T rfl fR_ (spans_fn (r := ⟨ra, rc, rl⟩) (lo := 1) (hi := 536870911) (t := full) (by repeat (first | exact (rs) | apply Rd.cons)) ls) rfl rfl rfl (fun v H1 hp => ?_) (fun v H1 hp => ?_))
 ·obtain ⟨e, t, h2, rfl, rfl⟩ := hp
  ((repeat refine nx ?_); exact AtQ.finP (H' := []) ⟨e, t, by rw [hT, h2]; try rfl, rfl, rfl⟩ dR_)
 obtain ⟨h2, rfl⟩ := hp
 rw [h2] at hT
 rw [opt_none] at hT
 simp only [List.nil_append]
 repeat' (first|(refine gv ?_;first|refine RT.id ?_|(refine⟨fun hc=>?_,fun hc=>?_⟩<;>first|(exfalso;omega)|skip)|refine gk ?_|refine num_m fun r hr=>?_|intro r hr)|refine gs ?_|(refine gb ?_;intro b)|refine gn ?_|(refine RT.isPush ?_;refine gp ?_;intro a' c' b' c1' hac)|refine gc ?_|fail)
 (refine RT.callP T rfl fR_ (reserved_fn (r := ⟨na, nc, nl⟩) (sc := full) ⟨(by repeat (first | exact (rn) | apply Rd.cons)), ln, fun t ht => (on_ t ht).1, hmn⟩ hjb (by omega)) rfl rfl rfl (fun v H1 hp => ?_) (fun v H1 hp => ?_))
 ·obtain ⟨e, t, h3, rfl, rfl⟩ := hp
  ((repeat refine nx ?_); exact AtQ.finP (H' := []) ⟨e, t, by rw [hT, h3]; try rfl, rfl, rfl⟩ dR_)
 obtain ⟨h3, rfl⟩ := hp
 rw [h3] at hT
 rw [opt_none] at hT
 simp only [List.nil_append]
 clear h2 h3
 repeat' (first|(refine gv ?_;first|refine RT.id ?_|(refine⟨fun hc=>?_,fun hc=>?_⟩<;>first|(exfalso;omega)|skip)|refine gk ?_|refine num_m fun r hr=>?_|intro r hr)|refine gs ?_|(refine gb ?_;intro b)|refine gn ?_|(refine RT.isPush ?_;refine gp ?_;intro a' c' b' c1' hac)|refine gc ?_|fail)
 generalize hK : (fun g => bnd (oneofsR fl full 0 ol g) fun g => bnd (msgsR msgs full (deep + 1) g) fun g => enumsR full el g) = K at hT
 obtain ⟨mcl, hmcl⟩ : ∃ mcl, mcl = [vS nm, Value.slice fa fl.length fc, Value.slice oa ol.length oc, Value.slice ma msgs.length mc, Value.slice ea el.length ec, Value.slice ra rl.length rc, Value.slice na nl.length nc] := ⟨_, rfl⟩
 rw [← hmcl]
 refine CT.loop (α := Nat × List Txt) (fun s => [(0, ptr br), (3, .int .i64 deep), (5, .pointer (some ⟨mb, 0, none⟩)), (8, vS full), (47, .int .i64 fl.length), (48, .int .i64 s.1)])
  (fun s => Pu (s.1 ≤ fl.length ∧ BL s.2 ∧ TT = bnd (fieldsR nl rl ol.length full (fl.take s.1) (fl.drop s.1) s.2) K) :: rdr br bm :: giv bm s.2 :: Cs mb 72 mcl :: R) (fun s => fl.length - s.1) (0, g1)
  ⟨rfl, rfl, rfl, rfl, rfl, rfl, trivial⟩ (fun w h => Sat.pu_in ⟨Nat.zero_le _, hb1, hT⟩ h) (fun ⟨k, gk9⟩ => CT.pu fun ⟨hkl, hbk, hTk⟩ => ?_)
 clear hT hb1
 dsimp only at hkl hbk hTk ⊢
 subst hmcl
 repeat' (first|(refine gv ?_;first|refine RT.id ?_|(refine⟨fun hc=>?_,fun hc=>?_⟩<;>first|(exfalso;omega)|skip)|refine gk ?_|refine num_m fun r hr=>?_|intro r hr)|refine gs ?_|(refine gb ?_;intro b)|refine gn ?_|(refine RT.isPush ?_;refine gp ?_;intro a' c' b' c1' hac)|(refine CT.id_ ?_;first|refine nx ?_|refine CT.cond_t rfl ?_|refine CT.cond_f rfl ?_))
 first | (refine CT.region ?_) | (refine CT.quiet mixed (by kernel_rfl) ?_)
 repeat' (first|(refine gv ?_;first|refine RT.id ?_|(refine⟨fun hc=>?_,fun hc=>?_⟩<;>first|(exfalso;omega)|skip)|refine gk ?_|refine num_m fun r hr=>?_|intro r hr)|refine gs ?_|(refine gb ?_;intro b)|refine gn ?_|(refine RT.isPush ?_;refine gp ?_;intro a' c' b' c1' hac)|refine gc ?_|fail)
 ·have hk' : k < fl.length := by omega
  have hgk := List.getElem?_eq_getElem hk'
  revert hgk
  generalize fl[k] = f
  intro hgk
  rw [drop_eq hgk, fieldsR] at hTk
  repeat' (first|(refine gv ?_;first|refine RT.id ?_|(refine⟨fun hc=>?_,fun hc=>?_⟩<;>first|(exfalso;omega)|skip)|refine gk ?_|refine num_m fun r hr=>?_|intro r hr)|refine gs ?_|(refine gb ?_;intro b)|refine gn ?_|(refine RT.isPush ?_;refine gp ?_;intro a' c' b' c1' hac)|refine gt ?_|refine gc ?_|fail)
  (refine RT.callP T rfl fR_ (field_fn (fields := ⟨fa, fc, fl⟩) (oneofs := ⟨oa, oc, ol⟩) (names := ⟨na, nc, nl⟩) (res := ⟨ra, rc, rl⟩) (n0 := vS nm) (ms := .slice ma msgs.length mc) (es := .slice ea el.length ec) (full := full) (br := br) (bm := bm) (g := gk9) hU hM ⟨(by repeat (first | exact (rf) | apply Rd.cons)), (by repeat (first | exact (rs) | apply Rd.cons)), ⟨(by repeat (first | exact (rn) | apply Rd.cons)), ln, fun t ht => (on_ t ht).1, hmn⟩, ⟨(by repeat (first | exact (ro) | apply Rd.cons)), lo, fun t ht => (oo t ht).1, hmo⟩, lf, ls, fun f hf => ⟨of_ f hf, hmf f hf⟩⟩ hgk hbk hjb (by omega)) rfl rfl rfl (fun v H1 hp => ?_) (fun v H1 hp => ?_))
  ·obtain ⟨e, t, h5, rfl, rfl⟩ := hp
   ((repeat refine nx ?_); exact AtQ.finP (H' := []) ⟨e, t, by rw [hTk, h5]; try rfl, rfl, rfl⟩ dR_)
  obtain ⟨g3, h5, hb3, rfl⟩ := hp
  rw [h5, take_eq hgk] at hTk
  rw [bnd_ok] at hTk
  simp only [List.cons_append, List.nil_append]
  clear h5
  repeat' (first|(refine gv ?_;first|refine RT.id ?_|(refine⟨fun hc=>?_,fun hc=>?_⟩<;>first|(exfalso;omega)|skip)|refine gk ?_|refine num_m fun r hr=>?_|intro r hr)|refine gs ?_|(refine gb ?_;intro b)|refine gn ?_|(refine RT.isPush ?_;refine gp ?_;intro a' c' b' c1' hac)|refine gc ?_|fail)
  exact AtQ.loop (k + 1, g3) ⟨rfl, rfl, rfl, rfl, rfl, rfl, trivial⟩ (fun w h => Sat.pu_in ⟨by omega, hb3, hTk⟩ h) (by dsimp only; omega)
 rw [List.drop_of_length_le (by omega), fieldsR] at hTk
 rw [bnd_ok] at hTk
 subst hK
 dsimp only at hTk
 repeat' (first|(refine gv ?_;first|refine RT.id ?_|(refine⟨fun hc=>?_,fun hc=>?_⟩<;>first|(exfalso;omega)|skip)|refine gk ?_|refine num_m fun r hr=>?_|intro r hr)|refine gs ?_|(refine gb ?_;intro b)|refine gn ?_|(refine RT.isPush ?_;refine gp ?_;intro a' c' b' c1' hac)|refine gc ?_|fail)
 clear hkl
 obtain ⟨mcl, hmcl⟩ : ∃ mcl, mcl = [vS nm, Value.slice fa fl.length fc, Value.slice oa ol.length oc, Value.slice ma msgs.length mc, Value.slice ea el.length ec, Value.slice ra rl.length rc, Value.slice na nl.length nc] := ⟨_, rfl⟩
 rw [← hmcl]
 refine CT.loop (α := Nat × List Txt) (fun s => [(0, ptr br), (3, .int .i64 deep), (5, .pointer (some ⟨mb, 0, none⟩)), (8, vS full), (58, .slice oa ol.length oc), (59, .int .i64 ol.length), (60, .int .i64 s.1)])
  (fun s => Pu (s.1 ≤ ol.length ∧ BL s.2 ∧ TT = bnd (oneofsR fl full s.1 (ol.drop s.1) s.2) fun g => bnd (msgsR msgs full (deep + 1) g) fun g => enumsR full el g) :: rdr br bm :: giv bm s.2 :: Cs mb 72 mcl :: R) (fun s => ol.length - s.1) (0, gk9)
  ⟨rfl, rfl, rfl, rfl, rfl, rfl, rfl, trivial⟩ (fun w h => Sat.pu_in ⟨Nat.zero_le _, hbk, hTk⟩ h) (fun ⟨k, gk9⟩ => CT.pu fun ⟨hkl, hbk, hTk⟩ => ?_)
 dsimp only at hkl hbk hTk ⊢
 subst hmcl
 repeat' (first|(refine gv ?_;first|refine RT.id ?_|(refine⟨fun hc=>?_,fun hc=>?_⟩<;>first|(exfalso;omega)|skip)|refine gk ?_|refine num_m fun r hr=>?_|intro r hr)|refine gs ?_|(refine gb ?_;intro b)|refine gn ?_|(refine RT.isPush ?_;refine gp ?_;intro a' c' b' c1' hac)|(refine CT.id_ ?_;first|refine nx ?_|refine CT.cond_t rfl ?_|refine CT.cond_f rfl ?_))
 first | (refine CT.region ?_) | (refine CT.quiet mixed (by kernel_rfl) ?_)
 repeat' (first|(refine gv ?_;first|refine RT.id ?_|(refine⟨fun hc=>?_,fun hc=>?_⟩<;>first|(exfalso;omega)|skip)|refine gk ?_|refine num_m fun r hr=>?_|intro r hr)|refine gs ?_|(refine gb ?_;intro b)|refine gn ?_|(refine RT.isPush ?_;refine gp ?_;intro a' c' b' c1' hac)|refine gc ?_|fail)
 ·have hk' : k < ol.length := by omega
  have hgk := List.getElem?_eq_getElem hk'
  revert hgk
  generalize ol[k] = o
  intro hgk
  rw [drop_eq hgk, oneofsR] at hTk
  have hob := (oo o (List.mem_of_getElem? hgk)).1
  have hos := hmo o (List.mem_of_getElem? hgk)
  refine RT.ix T (j := k) rfl rfl rfl (by repeat (first | exact (ro) | apply Rd.cons)) (by omega) (by omega) (by omega) rfl rfl ?_
  refine RT.ldr T rfl (by repeat (first | exact (ro) | apply Rd.cons)) (map_getT hgk) rfl rfl rfl ?_
  repeat' (first|(refine gv ?_;first|refine RT.id ?_|(refine⟨fun hc=>?_,fun hc=>?_⟩<;>first|(exfalso;omega)|skip)|refine gk ?_|refine num_m fun r hr=>?_|intro r hr)|refine gs ?_|(refine gb ?_;intro b)|refine gn ?_|(refine RT.isPush ?_;refine gp ?_;intro a' c' b' c1' hac)|refine gc ?_|fail)
  (refine RT.bs T (l := strs [full,  o]) rfl rfl rfl rfl rfl rfl rfl (fun a9 c9 h9 => ?_); (refine RT.call T rfl fR_ (join_fn (ls := [full,  o]) (Own.rd (by ((repeat constructor);done)) rfl h9) rfl (b2  hjb  hob) ( s2l (by omega) hos)) rfl rfl rfl ?_; rintro _ _ ⟨rfl, rfl⟩; try simp only [List.cons_append, List.nil_append]); refine RT.weak (fun w h => h.tail) ?_)
  repeat' (first|(refine gv ?_;first|refine RT.id ?_|(refine⟨fun hc=>?_,fun hc=>?_⟩<;>first|(exfalso;omega)|skip)|refine gk ?_|refine num_m fun r hr=>?_|intro r hr)|refine gs ?_|(refine gb ?_;intro b)|refine gn ?_|(refine RT.isPush ?_;refine gp ?_;intro a' c' b' c1' hac)|refine gc ?_|fail)
  have hjl := @j2_len full o
  have hjo := j2_byt hjb hob
  generalize joinL [full, o] = at_ at *
  (refine RT.callP T rfl fR_ (give_fn (br := br) (bm := bm) (g := gk9) hbk hob hjo hos (show at_.length ≤ 140737488355327 by omega)) rfl rfl rfl (fun v H1 hp => ?_) (fun v H1 hp => ?_))
  ·obtain ⟨e, t, h5, rfl, rfl⟩ := hp
   ((repeat refine nx ?_); exact AtQ.finP (H' := []) ⟨e, t, by rw [hTk, h5]; try rfl, rfl, rfl⟩ dR_)
  obtain ⟨g3, h5, hb3, rfl⟩ := hp
  rw [h5, bnd_ok] at hTk
  simp only [List.cons_append, List.nil_append]
  clear h5
  repeat' (first|(refine gv ?_;first|refine RT.id ?_|(refine⟨fun hc=>?_,fun hc=>?_⟩<;>first|(exfalso;omega)|skip)|refine gk ?_|refine num_m fun r hr=>?_|intro r hr)|refine gs ?_|(refine gb ?_;intro b)|refine gn ?_|(refine RT.isPush ?_;refine gp ?_;intro a' c' b' c1' hac)|refine gc ?_|fail)
  refine RT.mkF rfl rfl rfl ?_
  repeat' (first|(refine gv ?_;first|refine RT.id ?_|(refine⟨fun hc=>?_,fun hc=>?_⟩<;>first|(exfalso;omega)|skip)|refine gk ?_|refine num_m fun r hr=>?_|intro r hr)|refine gs ?_|(refine gb ?_;intro b)|refine gn ?_|(refine RT.isPush ?_;refine gp ?_;intro a' c' b' c1' hac)|refine gc ?_|fail)
  refine RT.call T rfl (by (repeat (first|exact Fr.nil|(apply Fr.cons;focus ((repeat constructor);done))))) (contfF_fn (l := fl) (p := fun f => decide (f.oneof = (k : Int) + 1)) (f := 120) (caps := [.pointer (some ⟨b, 0, none⟩)]) (Pre := [Cs b 3 [.int .i64 k]]) rfl (by omega) (by repeat (first | exact (rf) | apply Rd.cons)) rfl (fun s _ => message1_fn (by omega))) rfl rfl rfl ?_
  rintro _ _ ⟨rfl, rfl⟩
  simp only [List.cons_append, List.nil_append]
  have hany : decide (∃ f ∈ fl, f.oneof = (k : Int) + 1) = (fl.any fun f => decide (f.oneof = (k : Int) + 1)) := by
   rw [Bool.eq_iff_iff]
   simp
  rw [hany] at hTk
  cases hq : fl.any fun f => decide (f.oneof = (k : Int) + 1)
  ·repeat' (first|(refine gv ?_;first|refine RT.id ?_|(refine⟨fun hc=>?_,fun hc=>?_⟩<;>first|(exfalso;omega)|skip)|refine gk ?_|refine num_m fun r hr=>?_|intro r hr)|refine gs ?_|(refine gb ?_;intro b)|refine gn ?_|(refine RT.isPush ?_;refine gp ?_;intro a' c' b' c1' hac)|refine gc ?_|fail)
   (refine RT.callP T rfl fR_ (must_fn (p := false) (e := 64) (t := at_)) rfl rfl rfl (fun v H1 hp => ?_) (fun v H1 hp => absurd hp.1 (by decide)); obtain ⟨_, rfl, rfl⟩ := hp; (repeat refine nx ?_); exact AtQ.finP (H' := []) ⟨64, at_, by rw [hTk, hq, must_f rfl]; rfl, rfl, rfl⟩ dR_)
  rw [hq, must_t rfl] at hTk
  repeat' (first|(refine gv ?_;first|refine RT.id ?_|(refine⟨fun hc=>?_,fun hc=>?_⟩<;>first|(exfalso;omega)|skip)|refine gk ?_|refine num_m fun r hr=>?_|intro r hr)|refine gs ?_|(refine gb ?_;intro b)|refine gn ?_|(refine RT.isPush ?_;refine gp ?_;intro a' c' b' c1' hac)|refine gc ?_|fail)
  (refine RT.callP T rfl fR_ (must_fn (p := true) (e := 64) (t := at_)) rfl rfl rfl (fun v H1 hp => absurd hp.1 (by decide)) (fun v H1 hp => ?_); obtain ⟨_, rfl⟩ := hp; try simp only [List.nil_append])
  repeat' (first|(refine gv ?_;first|refine RT.id ?_|(refine⟨fun hc=>?_,fun hc=>?_⟩<;>first|(exfalso;omega)|skip)|refine gk ?_|refine num_m fun r hr=>?_|intro r hr)|refine gs ?_|(refine gb ?_;intro b)|refine gn ?_|(refine RT.isPush ?_;refine gp ?_;intro a' c' b' c1' hac)|refine gc ?_|fail)
  exact AtQ.loop (k + 1, g3) ⟨rfl, rfl, rfl, rfl, rfl, rfl, rfl, trivial⟩ (fun w h => Sat.pu_in ⟨by omega, hb3, hTk⟩ (h.frd (Ps := [rdr br bm, giv bm g3, Cs mb 72 _]) (Qs := [_]) (by (repeat (first|exact Fr.nil|(apply Fr.cons;focus ((repeat constructor);done))))))) (by dsimp only; omega)
 rw [List.drop_of_length_le (by omega), oneofsR] at hTk
 rw [bnd_ok] at hTk
 repeat' (first|(refine gv ?_;first|refine RT.id ?_|(refine⟨fun hc=>?_,fun hc=>?_⟩<;>first|(exfalso;omega)|skip)|refine gk ?_|refine num_m fun r hr=>?_|intro r hr)|refine gs ?_|(refine gb ?_;intro b)|refine gn ?_|(refine RT.isPush ?_;refine gp ?_;intro a' c' b' c1' hac)|refine gc ?_|fail)
 clear hkl
 obtain ⟨mcl, hmcl⟩ : ∃ mcl, mcl = [vS nm, Value.slice fa fl.length fc, Value.slice oa ol.length oc, Value.slice ma msgs.length mc, Value.slice ea el.length ec, Value.slice ra rl.length rc, Value.slice na nl.length nc] := ⟨_, rfl⟩
 rw [← hmcl]
 refine CT.loop (α := Nat × List Txt) (fun s => [(0, ptr br), (3, .int .i64 deep), (5, .pointer (some ⟨mb, 0, none⟩)), (8, vS full), (81, .slice ma msgs.length mc), (82, .int .i64 msgs.length), (83, .int .i64 s.1)])
  (fun s => Pu (s.1 ≤ msgs.length ∧ BL s.2 ∧ TT = bnd (msgsR (msgs.drop s.1) full (deep + 1) s.2) fun g => enumsR full el g) :: rdr br bm :: giv bm s.2 :: Cs mb 72 mcl :: R) (fun s => msgs.length - s.1) (0, gk9)
  ⟨rfl, rfl, rfl, rfl, rfl, rfl, rfl, trivial⟩ (fun w h => Sat.pu_in ⟨Nat.zero_le _, hbk, hTk⟩ h) (fun ⟨k, gk9⟩ => CT.pu fun ⟨hkl, hbk, hTk⟩ => ?_)
 dsimp only at hkl hbk hTk ⊢
 subst hmcl
 repeat' (first|(refine gv ?_;first|refine RT.id ?_|(refine⟨fun hc=>?_,fun hc=>?_⟩<;>first|(exfalso;omega)|skip)|refine gk ?_|refine num_m fun r hr=>?_|intro r hr)|refine gs ?_|(refine gb ?_;intro b)|refine gn ?_|(refine RT.isPush ?_;refine gp ?_;intro a' c' b' c1' hac)|(refine CT.id_ ?_;first|refine nx ?_|refine CT.cond_t rfl ?_|refine CT.cond_f rfl ?_))
 first | (refine CT.region ?_) | (refine CT.quiet mixed (by kernel_rfl) ?_)
 repeat' (first|(refine gv ?_;first|refine RT.id ?_|(refine⟨fun hc=>?_,fun hc=>?_⟩<;>first|(exfalso;omega)|skip)|refine gk ?_|refine num_m fun r hr=>?_|intro r hr)|refine gs ?_|(refine gb ?_;intro b)|refine gn ?_|(refine RT.isPush ?_;refine gp ?_;intro a' c' b' c1' hac)|refine gc ?_|fail)
 ·have hk' : k < msgs.length := by omega
  have hgk := List.getElem?_eq_getElem hk'
  revert hgk
  generalize msgs[k] = m2
  intro hgk
  rw [drop_eq hgk, msgsR] at hTk
  have hme2 := List.mem_of_getElem? hgk
  have hmd := MsgT.deep_mem hme2
  refine RT.ix T (j := k * 7) rfl rfl rfl (by repeat (first | exact (rm) | apply Rd.cons)) (by omega) (by omega) (by omega) rfl rfl ?_
  refine RT.ldra T rfl (by repeat (first | exact (rm) | apply Rd.cons)) (l := m2.cells) (flat_sub (f := MsgT.cells) (z := 7) (fun _ => rfl) msgs k _ hgk) rfl rfl rfl rfl ?_
  repeat' (first|(refine gv ?_;first|refine RT.id ?_|(refine⟨fun hc=>?_,fun hc=>?_⟩<;>first|(exfalso;omega)|skip)|refine gk ?_|refine num_m fun r hr=>?_|intro r hr)|refine gs ?_|(refine gb ?_;intro b)|refine gn ?_|(refine RT.isPush ?_;refine gp ?_;intro a' c' b' c1' hac)|refine gt ?_|refine gc ?_|fail)
  rw [show (deep : Int) + 1 = ((deep + 1 : Nat) : Int) by omega]
  (refine RT.callP T rfl fR_ (@ih m2.deep (by omega) _ m2 full (deep + 1) gk9 (Nat.le_refl _) (MsgT.In.mono (fun _ _ _ _ _ h => (by repeat (first | exact (h) | apply Rd.cons))) (MsgT.inL_mem rm2 hme2)) (MsgT.okL_mem om hme2) (MsgT.nmL_mem hmm hme2) hbk hjb (by omega) (by omega)) rfl rfl rfl (fun v H1 hp => ?_) (fun v H1 hp => ?_))
  ·obtain ⟨e, t, h5, rfl, rfl⟩ := hp
   ((repeat refine nx ?_); exact AtQ.finP (H' := []) ⟨e, t, by rw [hTk, h5]; try rfl, rfl, rfl⟩ dR_)
  obtain ⟨g3, h5, hb3, rfl⟩ := hp
  rw [h5, bnd_ok] at hTk
  simp only [List.cons_append, List.nil_append]
  clear h5
  repeat' (first|(refine gv ?_;first|refine RT.id ?_|(refine⟨fun hc=>?_,fun hc=>?_⟩<;>first|(exfalso;omega)|skip)|refine gk ?_|refine num_m fun r hr=>?_|intro r hr)|refine gs ?_|(refine gb ?_;intro b)|refine gn ?_|(refine RT.isPush ?_;refine gp ?_;intro a' c' b' c1' hac)|refine gc ?_|fail)
  exact AtQ.loop (k + 1, g3) ⟨rfl, rfl, rfl, rfl, rfl, rfl, rfl, trivial⟩ (fun w h => Sat.pu_in ⟨by omega, hb3, hTk⟩ (h.frd (Ps := [rdr br bm, giv bm g3, Cs mb 72 _]) (Qs := [_]) (by (repeat (first|exact Fr.nil|(apply Fr.cons;focus ((repeat constructor);done))))))) (by dsimp only; omega)
 rw [List.drop_of_length_le (by omega), msgsR] at hTk
 rw [bnd_ok] at hTk
 repeat' (first|(refine gv ?_;first|refine RT.id ?_|(refine⟨fun hc=>?_,fun hc=>?_⟩<;>first|(exfalso;omega)|skip)|refine gk ?_|refine num_m fun r hr=>?_|intro r hr)|refine gs ?_|(refine gb ?_;intro b)|refine gn ?_|(refine RT.isPush ?_;refine gp ?_;intro a' c' b' c1' hac)|refine gc ?_|fail)
 clear hkl
 obtain ⟨mcl, hmcl⟩ : ∃ mcl, mcl = [vS nm, Value.slice fa fl.length fc, Value.slice oa ol.length oc, Value.slice ma msgs.length mc, Value.slice ea el.length ec, Value.slice ra rl.length rc, Value.slice na nl.length nc] := ⟨_, rfl⟩
 rw [← hmcl]
 refine CT.loop (α := Nat × List Txt) (fun s => [(0, ptr br), (3, .int .i64 deep), (5, .pointer (some ⟨mb, 0, none⟩)), (8, vS full), (95, .slice ea el.length ec), (96, .int .i64 el.length), (97, .int .i64 s.1)])
  (fun s => Pu (s.1 ≤ el.length ∧ BL s.2 ∧ TT = enumsR full (el.drop s.1) s.2) :: rdr br bm :: giv bm s.2 :: Cs mb 72 mcl :: R) (fun s => el.length - s.1) (0, gk9)
  ⟨rfl, rfl, rfl, rfl, rfl, rfl, rfl, trivial⟩ (fun w h => Sat.pu_in ⟨Nat.zero_le _, hbk, hTk⟩ h) (fun ⟨k, gk9⟩ => CT.pu fun ⟨hkl, hbk, hTk⟩ => ?_)
 dsimp only at hkl hbk hTk ⊢
 subst hmcl
 repeat' (first|(refine gv ?_;first|refine RT.id ?_|(refine⟨fun hc=>?_,fun hc=>?_⟩<;>first|(exfalso;omega)|skip)|refine gk ?_|refine num_m fun r hr=>?_|intro r hr)|refine gs ?_|(refine gb ?_;intro b)|refine gn ?_|(refine RT.isPush ?_;refine gp ?_;intro a' c' b' c1' hac)|(refine CT.id_ ?_;first|refine nx ?_|refine CT.cond_t rfl ?_|refine CT.cond_f rfl ?_))
 first | (refine CT.region ?_) | (refine CT.quiet mixed (by kernel_rfl) ?_)
 repeat' (first|(refine gv ?_;first|refine RT.id ?_|(refine⟨fun hc=>?_,fun hc=>?_⟩<;>first|(exfalso;omega)|skip)|refine gk ?_|refine num_m fun r hr=>?_|intro r hr)|refine gs ?_|(refine gb ?_;intro b)|refine gn ?_|(refine RT.isPush ?_;refine gp ?_;intro a' c' b' c1' hac)|refine gc ?_|fail)
 ·have hk' : k < el.length := by omega
  have hgk := List.getElem?_eq_getElem hk'
  revert hgk
  generalize el[k] = e2
  intro hgk
  rw [drop_eq hgk, enumsR] at hTk
  have hme2 := List.mem_of_getElem? hgk
  refine RT.ix T (j := k * 5) rfl rfl rfl (by repeat (first | exact (re) | apply Rd.cons)) (by omega) (by omega) (by omega) rfl rfl ?_
  refine RT.ldra T rfl (by repeat (first | exact (re) | apply Rd.cons)) (l := e2.cells) (flat_sub (f := EnumT.cells) (z := 5) (fun _ => rfl) el k _ hgk) rfl rfl rfl rfl ?_
  repeat' (first|(refine gv ?_;first|refine RT.id ?_|(refine⟨fun hc=>?_,fun hc=>?_⟩<;>first|(exfalso;omega)|skip)|refine gk ?_|refine num_m fun r hr=>?_|intro r hr)|refine gs ?_|(refine gb ?_;intro b)|refine gn ?_|(refine RT.isPush ?_;refine gp ?_;intro a' c' b' c1' hac)|refine gt ?_|refine gc ?_|fail)
  (refine RT.callP T rfl fR_ (enum_fn (e := e2) (sc := full) (g := gk9) (EnumT.In.mono (fun _ _ _ _ _ h => (by repeat (first | exact (h) | apply Rd.cons))) (re2 e2 hme2)) (oe e2 hme2) (hme e2 hme2) hbk hjb (by omega)) rfl rfl rfl (fun v H1 hp => ?_) (fun v H1 hp => ?_))
  ·obtain ⟨e, t, h5, rfl, rfl⟩ := hp
   ((repeat refine nx ?_); exact AtQ.finP (H' := []) ⟨e, t, by rw [hTk, h5]; try rfl, rfl, rfl⟩ dR_)
  obtain ⟨g3, h5, hb3, rfl⟩ := hp
  rw [h5, bnd_ok] at hTk
  simp only [List.cons_append, List.nil_append]
  clear h5
  repeat' (first|(refine gv ?_;first|refine RT.id ?_|(refine⟨fun hc=>?_,fun hc=>?_⟩<;>first|(exfalso;omega)|skip)|refine gk ?_|refine num_m fun r hr=>?_|intro r hr)|refine gs ?_|(refine gb ?_;intro b)|refine gn ?_|(refine RT.isPush ?_;refine gp ?_;intro a' c' b' c1' hac)|refine gc ?_|fail)
  exact AtQ.loop (k + 1, g3) ⟨rfl, rfl, rfl, rfl, rfl, rfl, rfl, trivial⟩ (fun w h => Sat.pu_in ⟨by omega, hb3, hTk⟩ (h.frd (Ps := [rdr br bm, giv bm g3, Cs mb 72 _]) (Qs := [_]) (by (repeat (first|exact Fr.nil|(apply Fr.cons;focus ((repeat constructor);done))))))) (by dsimp only; omega)
 rw [List.drop_of_length_le (by omega), enumsR] at hTk
 exact AtQ.ofFinN (AtQ.fin0 Tryz.results92 (H' := [rdr br bm, giv bm gk9]) ⟨gk9, hTk, hbk, rfl⟩ (fun w h => h.frd (Ps := [rdr br bm, giv bm gk9]) (Qs := [_]) (by (repeat (first|exact Fr.nil|(apply Fr.cons;focus ((repeat constructor);done)))))) _ (.inl rfl))
end Go.Proofs.YtdemnhdoadjhhaaGreatDoor
end
section
namespace Go.Proofs.YtdemnhdoadjhhaaGreatDoor
open Go.Sk
set_option maxRecDepth 100000
theorem fullB_len {l : Txt} (h : fullB l = true) : l.length ≤ 255 := by
 by_cases hp : fullP l
 ·exact hp.1
 ·rw [fullB_f hp] at h
  cases h
attribute [local irreducible] Cs Own Ex Pu Yld RT LJ QJ AtQ CT Rd QSp Sp FinQ Then LoopQ CutQ DT TakeQ EffQ
variable {B : World} {R : List HP}
set_option maxHeartbeats 16000000 in
theorem file_fn {mM : Int} (hU : Lib.Utf8Tabs 1 2 B) (hM : B.cell? ⟨0, 0, none⟩ = some (.int .i64 mM)) {br bm : Nat} {f : FileT} (hin : f.In (Rd B R)) (hok : f.Ok) (hsm : FNs f) :
  SpP B Tryz.prog 36 [ptr br, .agg f.cells.toArray] R [rdr br bm, giv bm []] (PostR (fileR f) [rdr br bm] bm) (PPR (fileR f)) := by
 obtain ⟨path, pack, ⟨ia, ic, il⟩, ma, mc, msgs, ⟨ea, ec, el⟩⟩ := f
 obtain ⟨ri, rm, rm2, re, re2⟩ := hin
 obtain ⟨⟨pb, pl⟩, ⟨kb, _⟩, ⟨⟨li, _⟩, oi⟩, ⟨⟨lm, _⟩, om⟩, ⟨⟨le, _⟩, oe⟩⟩ := hok
 obtain ⟨nms, pk, enm⟩ := hsm
 dsimp only at ri rm rm2 re re2 pb pl kb li oi lm om le oe nms pk enm
 have hT : fileR ⟨path, pack, ⟨ia, ic, il⟩, ma, mc, msgs, ⟨ea, ec, el⟩⟩ = fileR ⟨path, pack, ⟨ia, ic, il⟩, ma, mc, msgs, ⟨ea, ec, el⟩⟩ := rfl
 conv at hT => rhs; unfold fileR
 dsimp only at hT
 generalize fileR ⟨path, pack, ⟨ia, ic, il⟩, ma, mc, msgs, ⟨ea, ec, el⟩⟩ = TT at *
 dsimp only [FileT.cells, Rw.v]
 refine SpP.body Tryz.func36 rfl Tryz.ntmps36 (by simp) ?_
 simp only [argE, List.cons_append, List.nil_append, Nat.zero_add, Nat.reduceAdd]
 repeat' (first|(refine gv ?_;first|refine RT.id ?_|(refine⟨fun hc=>?_,fun hc=>?_⟩<;>first|(exfalso;omega)|skip)|refine gk ?_|refine num_m fun r hr=>?_|intro r hr)|refine gs ?_|(refine gb ?_;intro b)|refine gn ?_|(refine RT.isPush ?_;refine gp ?_;intro a' c' b' c1' hac)|(refine CT.id_ ?_;first|refine nx ?_|refine CT.cond_t rfl ?_|refine CT.cond_f rfl ?_))
 first | (refine CT.region ?_) | (refine CT.quiet mixed (by kernel_rfl) ?_)
 repeat' (first|(refine gv ?_;first|refine RT.id ?_|(refine⟨fun hc=>?_,fun hc=>?_⟩<;>first|(exfalso;omega)|skip)|refine gk ?_|refine num_m fun r hr=>?_|intro r hr)|refine gs ?_|(refine gb ?_;intro b)|refine gn ?_|(refine RT.isPush ?_;refine gp ?_;intro a' c' b' c1' hac)|(refine CT.id_ ?_;first|refine nx ?_|refine CT.cond_t rfl ?_|refine CT.cond_f rfl ?_))
 revert b
 intro xb
 refine CT.tail 5 mixed (by kernel_rfl) ?_
 dsimp only [List.take_succ_cons, List.take_zero]
 repeat' (first|(refine gv ?_;first|refine RT.id ?_|(refine⟨fun hc=>?_,fun hc=>?_⟩<;>first|(exfalso;omega)|skip)|refine gk ?_|refine num_m fun r hr=>?_|intro r hr)|refine gs ?_|(refine gb ?_;intro b)|refine gn ?_|(refine RT.isPush ?_;refine gp ?_;intro a' c' b' c1' hac)|refine gc ?_|fail)
 (refine RT.qcall T rfl (QSp.of (by (repeat (first|exact Fr.nil|(apply Fr.cons;focus ((repeat constructor);done))))) (path_fn (s := path) pb pl)) rfl rfl rfl ?_)
 repeat' (first|(refine gv ?_;first|refine RT.id ?_|(refine⟨fun hc=>?_,fun hc=>?_⟩<;>first|(exfalso;omega)|skip)|refine gk ?_|refine num_m fun r hr=>?_|intro r hr)|refine gs ?_|(refine gb ?_;intro b)|refine gn ?_|(refine RT.isPush ?_;refine gp ?_;intro a' c' b' c1' hac)|refine gc ?_|fail)
 refine AtQ.tail ?_
 cases hpb : pathB path
 ·(refine RT.callP T rfl fR_ (must_fn (p := false) (e := 60) (t := path)) rfl rfl rfl (fun v H1 hp => ?_) (fun v H1 hp => absurd hp.1 (by decide)); obtain ⟨_, rfl, rfl⟩ := hp; (repeat refine nx ?_); exact AtQ.finP (H' := []) ⟨60, path, by rw [hT]; exact must_f hpb, rfl, rfl⟩ dR_)
 rw [must_t hpb] at hT
 (refine RT.callP T rfl fR_ (must_fn (p := true) (e := 60) (t := path)) rfl rfl rfl (fun v H1 hp => absurd hp.1 (by decide)) (fun v H1 hp => ?_); obtain ⟨_, rfl⟩ := hp; try simp only [List.nil_append])
 repeat' (first|(refine gv ?_;first|refine RT.id ?_|(refine⟨fun hc=>?_,fun hc=>?_⟩<;>first|(exfalso;omega)|skip)|refine gk ?_|refine num_m fun r hr=>?_|intro r hr)|refine gs ?_|(refine gb ?_;intro b)|refine gn ?_|(refine RT.isPush ?_;refine gp ?_;intro a' c' b' c1' hac)|(refine CT.id_ ?_;first|refine nx ?_|refine CT.cond_t rfl ?_|refine CT.cond_f rfl ?_))
 have hcut : fullB pack = true ∨ pack = [] → pack.length ≤ 255 := fun h => h.elim fullB_len fun h => by rw [h]; decide
 refine CT.cut (α := Unit) (fun _ => [(0, ptr br), (3, .pointer (some ⟨xb, 0, none⟩))]) (fun _ => Pu ((decide (pack = []) || fullB pack) = true) :: Cs xb 26 [vS path, vS pack, .slice ia il.length ic, .slice ma msgs.length mc, .slice ea el.length ec] :: rdr br bm :: giv bm [] :: R) ?_ (fun _ => ?_)
 ·refine CT.tail 10 mixed (by kernel_rfl) ?_
  dsimp only [List.take_succ_cons, List.take_zero]
  repeat' (first|(refine gv ?_;first|refine RT.id ?_|(refine⟨fun hc=>?_,fun hc=>?_⟩<;>first|(exfalso;omega)|skip)|refine gk ?_|refine num_m fun r hr=>?_|intro r hr)|refine gs ?_|(refine gb ?_;intro b)|refine gn ?_|(refine RT.isPush ?_;refine gp ?_;intro a' c' b' c1' hac)|refine gc ?_|fail)
  refine RT.eqs (l := pack) (l' := []) rfl rfl kb Byt.nil rfl rfl (fun he => ?_) (fun he => ?_)
  ·repeat' (first|(refine gv ?_;first|refine RT.id ?_|(refine⟨fun hc=>?_,fun hc=>?_⟩<;>first|(exfalso;omega)|skip)|refine gk ?_|refine num_m fun r hr=>?_|intro r hr)|refine gs ?_|(refine gb ?_;intro b)|refine gn ?_|(refine RT.isPush ?_;refine gp ?_;intro a' c' b' c1' hac)|refine gc ?_|fail)
   refine AtQ.tail ?_
   (refine RT.callP T rfl fR_ (must_fn (p := true) (e := 60) (t := pack)) rfl rfl rfl (fun v H1 hp => absurd hp.1 (by decide)) (fun v H1 hp => ?_); obtain ⟨_, rfl⟩ := hp; try simp only [List.nil_append])
   repeat' (first|(refine gv ?_;first|refine RT.id ?_|(refine⟨fun hc=>?_,fun hc=>?_⟩<;>first|(exfalso;omega)|skip)|refine gk ?_|refine num_m fun r hr=>?_|intro r hr)|refine gs ?_|(refine gb ?_;intro b)|refine gn ?_|(refine RT.isPush ?_;refine gp ?_;intro a' c' b' c1' hac)|refine gc ?_|fail)
   exact AtQ.cut () ⟨rfl, rfl, trivial⟩ (fun w h => Sat.pu_in (by rw [decide_eq_true he]; rfl) h)
  ·repeat' (first|(refine gv ?_;first|refine RT.id ?_|(refine⟨fun hc=>?_,fun hc=>?_⟩<;>first|(exfalso;omega)|skip)|refine gk ?_|refine num_m fun r hr=>?_|intro r hr)|refine gs ?_|(refine gb ?_;intro b)|refine gn ?_|(refine RT.isPush ?_;refine gp ?_;intro a' c' b' c1' hac)|refine gc ?_|fail)
   (refine RT.qcall T rfl (QSp.of (by (repeat (first|exact Fr.nil|(apply Fr.cons;focus ((repeat constructor);done))))) (full_fn (l := pack) hM kb (by omega))) rfl rfl rfl ?_)
   repeat' (first|(refine gv ?_;first|refine RT.id ?_|(refine⟨fun hc=>?_,fun hc=>?_⟩<;>first|(exfalso;omega)|skip)|refine gk ?_|refine num_m fun r hr=>?_|intro r hr)|refine gs ?_|(refine gb ?_;intro b)|refine gn ?_|(refine RT.isPush ?_;refine gp ?_;intro a' c' b' c1' hac)|refine gc ?_|fail)
   refine AtQ.tail ?_
   cases hfk : fullB pack
   ·(refine RT.callP T rfl fR_ (must_fn (p := false) (e := 60) (t := pack)) rfl rfl rfl (fun v H1 hp => ?_) (fun v H1 hp => absurd hp.1 (by decide)); obtain ⟨_, rfl, rfl⟩ := hp; (repeat refine nx ?_); exact AtQ.finP (H' := []) ⟨60, pack, by rw [hT]; exact must_f (by rw [hfk, decide_eq_false he]; rfl), rfl, rfl⟩ dR_)
   ·(refine RT.callP T rfl fR_ (must_fn (p := true) (e := 60) (t := pack)) rfl rfl rfl (fun v H1 hp => absurd hp.1 (by decide)) (fun v H1 hp => ?_); obtain ⟨_, rfl⟩ := hp; try simp only [List.nil_append])
    repeat' (first|(refine gv ?_;first|refine RT.id ?_|(refine⟨fun hc=>?_,fun hc=>?_⟩<;>first|(exfalso;omega)|skip)|refine gk ?_|refine num_m fun r hr=>?_|intro r hr)|refine gs ?_|(refine gb ?_;intro b)|refine gn ?_|(refine RT.isPush ?_;refine gp ?_;intro a' c' b' c1' hac)|refine gc ?_|fail)
    exact AtQ.cut () ⟨rfl, rfl, trivial⟩ (fun w h => Sat.pu_in (by simp) h)
 refine A0 ?_
 refine CT.pu fun hpk => ?_
 rw [must_t hpk] at hT
 have hkl : pack.length ≤ 255 := hcut (by rw [Bool.or_eq_true, decide_eq_true_eq] at hpk; exact hpk.symm)
 clear hcut hpk
 repeat' (first|(refine gv ?_;first|refine RT.id ?_|(refine⟨fun hc=>?_,fun hc=>?_⟩<;>first|(exfalso;omega)|skip)|refine gk ?_|refine num_m fun r hr=>?_|intro r hr)|refine gs ?_|(refine gb ?_;intro b)|refine gn ?_|(refine RT.isPush ?_;refine gp ?_;intro a' c' b' c1' hac)|refine gc ?_|fail)
 rotate_left
 ·(refine RT.callP T rfl fR_ (must_fn (p := false) (e := 68) (t := path)) rfl rfl rfl (fun v H1 hp => ?_) (fun v H1 hp => absurd hp.1 (by decide)); obtain ⟨_, rfl, rfl⟩ := hp; (repeat refine nx ?_); exact AtQ.finP (H' := []) ⟨68, path, by rw [hT]; exact must_f (decide_eq_false (by omega)), rfl, rfl⟩ dR_)
 rw [must_t (decide_eq_true (by omega))] at hT
 (refine RT.callP T rfl fR_ (must_fn (p := true) (e := 68) (t := path)) rfl rfl rfl (fun v H1 hp => absurd hp.1 (by decide)) (fun v H1 hp => ?_); obtain ⟨_, rfl⟩ := hp; try simp only [List.nil_append])
 repeat' (first|(refine gv ?_;first|refine RT.id ?_|(refine⟨fun hc=>?_,fun hc=>?_⟩<;>first|(exfalso;omega)|skip)|refine gk ?_|refine num_m fun r hr=>?_|intro r hr)|refine gs ?_|(refine gb ?_;intro b)|refine gn ?_|(refine RT.isPush ?_;refine gp ?_;intro a' c' b' c1' hac)|refine gc ?_|fail)
 refine RT.mkmap .string rfl rfl (fun sb => ?_)
 repeat' (first|(refine gv ?_;first|refine RT.id ?_|(refine⟨fun hc=>?_,fun hc=>?_⟩<;>first|(exfalso;omega)|skip)|refine gk ?_|refine num_m fun r hr=>?_|intro r hr)|refine gs ?_|(refine gb ?_;intro b)|refine gn ?_|(refine RT.isPush ?_;refine gp ?_;intro a' c' b' c1' hac)|refine gc ?_|fail)
 generalize hK : (bnd (msgsR msgs pack 0 []) fun g => enumsR pack el g) = K at hT
 refine CT.loop (α := Nat) (fun k => [(0, ptr br), (3, .pointer (some ⟨xb, 0, none⟩)), (4, .map (some sb)), (37, .slice ia il.length ic), (38, .int .i64 il.length), (39, .int .i64 k)])
  (fun k => Pu (k ≤ il.length ∧ TT = opt (impsF ((il.take k).map ImpT.path) (il.drop k)) K) :: giv sb ((il.take k).map ImpT.path) :: Cs xb 26 [vS path, vS pack, Value.slice ia il.length ic, Value.slice ma msgs.length mc, Value.slice ea el.length ec] :: rdr br bm :: giv bm [] :: R) (fun k => il.length - k) 0
  ⟨rfl, rfl, rfl, rfl, rfl, rfl, trivial⟩ (fun w h => Sat.pu_in ⟨Nat.zero_le _, hT⟩ h) (fun k => CT.pu fun ⟨hkl3, hTk⟩ => ?_)
 clear hT
 repeat' (first|(refine gv ?_;first|refine RT.id ?_|(refine⟨fun hc=>?_,fun hc=>?_⟩<;>first|(exfalso;omega)|skip)|refine gk ?_|refine num_m fun r hr=>?_|intro r hr)|refine gs ?_|(refine gb ?_;intro b)|refine gn ?_|(refine RT.isPush ?_;refine gp ?_;intro a' c' b' c1' hac)|(refine CT.id_ ?_;first|refine nx ?_|refine CT.cond_t rfl ?_|refine CT.cond_f rfl ?_))
 first | (refine CT.region ?_) | (refine CT.quiet mixed (by kernel_rfl) ?_)
 repeat' (first|(refine gv ?_;first|refine RT.id ?_|(refine⟨fun hc=>?_,fun hc=>?_⟩<;>first|(exfalso;omega)|skip)|refine gk ?_|refine num_m fun r hr=>?_|intro r hr)|refine gs ?_|(refine gb ?_;intro b)|refine gn ?_|(refine RT.isPush ?_;refine gp ?_;intro a' c' b' c1' hac)|(refine CT.id_ ?_;first|refine nx ?_|refine CT.cond_t rfl ?_|refine CT.cond_f rfl ?_))
 ·have hk' : k < il.length := by omega
  have hgk := List.getElem?_eq_getElem hk'
  revert hgk
  generalize il[k] = im
  intro hgk
  rw [drop_eq hgk, impsF] at hTk
  have hib := oi im (List.mem_of_getElem? hgk)
  have htk : (il.take (k + 1)).map ImpT.path = (il.take k).map ImpT.path ++ [im.path] := by rw [← take_eq hgk, List.map_append]; rfl
  have hpbl : BL ((il.take k).map ImpT.path) := fun t ht => by
   obtain ⟨i, hi, rfl⟩ := List.mem_map.1 ht
   exact (oi i (List.mem_of_mem_take hi)).1
  rw [← htk] at hTk
  generalize (il.take k).map ImpT.path = ah at *
  repeat' (first|(refine gv ?_;first|refine RT.id ?_|(refine⟨fun hc=>?_,fun hc=>?_⟩<;>first|(exfalso;omega)|skip)|refine gk ?_|refine num_m fun r hr=>?_|intro r hr)|refine gs ?_|(refine gb ?_;intro b)|refine gn ?_|(refine RT.isPush ?_;refine gp ?_;intro a' c' b' c1' hac)|(refine CT.id_ ?_;first|refine nx ?_|refine CT.cond_t rfl ?_|refine CT.cond_f rfl ?_))
  first | (refine CT.region ?_) | (refine CT.quiet mixed (by kernel_rfl) ?_)
  repeat' (first|(refine gv ?_;first|refine RT.id ?_|(refine⟨fun hc=>?_,fun hc=>?_⟩<;>first|(exfalso;omega)|skip)|refine gk ?_|refine num_m fun r hr=>?_|intro r hr)|refine gs ?_|(refine gb ?_;intro b)|refine gn ?_|(refine RT.isPush ?_;refine gp ?_;intro a' c' b' c1' hac)|(refine CT.id_ ?_;first|refine nx ?_|refine CT.cond_t rfl ?_|refine CT.cond_f rfl ?_))
  refine RT.ix T (j := k * 2) rfl rfl rfl (by repeat (first | exact (ri) | apply Rd.cons)) (by omega) (by omega) (by omega) rfl rfl ?_
  refine RT.ldra T rfl (by repeat (first | exact (ri) | apply Rd.cons)) (l := im.cells) (flat_sub (f := ImpT.cells) (z := 2) (fun _ => rfl) il k _ hgk) rfl rfl rfl rfl ?_
  repeat' (first|(refine gv ?_;first|refine RT.id ?_|(refine⟨fun hc=>?_,fun hc=>?_⟩<;>first|(exfalso;omega)|skip)|refine gk ?_|refine num_m fun r hr=>?_|intro r hr)|refine gs ?_|(refine gb ?_;intro b)|refine gn ?_|(refine RT.isPush ?_;refine gp ?_;intro a' c' b' c1' hac)|(refine CT.id_ ?_;first|refine nx ?_|refine CT.cond_t rfl ?_|refine CT.cond_f rfl ?_))
  (apply RT.staggW T;exact rfl;exact rfl;exact rfl;(focus ((repeat constructor);done));iterate 4 exact rfl)
  repeat' (first|(refine gv ?_;first|refine RT.id ?_|(refine⟨fun hc=>?_,fun hc=>?_⟩<;>first|(exfalso;omega)|skip)|refine gk ?_|refine num_m fun r hr=>?_|intro r hr)|refine gs ?_|(refine gb ?_;intro b)|refine gn ?_|(refine RT.isPush ?_;refine gp ?_;intro a' c' b' c1' hac)|(refine CT.id_ ?_;first|refine nx ?_|refine CT.cond_t rfl ?_|refine CT.cond_f rfl ?_))
  refine CT.tail 5 mixed (by kernel_rfl) ?_
  dsimp only [List.take_succ_cons, List.take_zero]
  repeat' (first|(refine gv ?_;first|refine RT.id ?_|(refine⟨fun hc=>?_,fun hc=>?_⟩<;>first|(exfalso;omega)|skip)|refine gk ?_|refine num_m fun r hr=>?_|intro r hr)|refine gs ?_|(refine gb ?_;intro b)|refine gn ?_|(refine RT.isPush ?_;refine gp ?_;intro a' c' b' c1' hac)|refine gc ?_|fail)
  (refine RT.qcall T rfl (QSp.of (by (repeat (first|exact Fr.nil|(apply Fr.cons;focus ((repeat constructor);done))))) (path_fn (s := im.path) hib.1 hib.2)) rfl rfl rfl ?_)
  repeat' (first|(refine gv ?_;first|refine RT.id ?_|(refine⟨fun hc=>?_,fun hc=>?_⟩<;>first|(exfalso;omega)|skip)|refine gk ?_|refine num_m fun r hr=>?_|intro r hr)|refine gs ?_|(refine gb ?_;intro b)|refine gn ?_|(refine RT.isPush ?_;refine gp ?_;intro a' c' b' c1' hac)|refine gc ?_|fail)
  refine AtQ.tail ?_
  cases hpi : pathB im.path
  ·(refine RT.callP T rfl fR_ (must_fn (p := false) (e := 60) (t := im.path)) rfl rfl rfl (fun v H1 hp => ?_) (fun v H1 hp => absurd hp.1 (by decide)); obtain ⟨_, rfl, rfl⟩ := hp; (repeat refine nx ?_); exact AtQ.finP (H' := []) ⟨60, im.path, by rw [hTk, hpi, if_neg (by decide)]; rfl, rfl, rfl⟩ dR_)
  rw [hpi, if_pos rfl] at hTk
  (refine RT.callP T rfl fR_ (must_fn (p := true) (e := 60) (t := im.path)) rfl rfl rfl (fun v H1 hp => absurd hp.1 (by decide)) (fun v H1 hp => ?_); obtain ⟨_, rfl⟩ := hp; try simp only [List.nil_append])
  repeat' (first|(refine gv ?_;first|refine RT.id ?_|(refine⟨fun hc=>?_,fun hc=>?_⟩<;>first|(exfalso;omega)|skip)|refine gk ?_|refine num_m fun r hr=>?_|intro r hr)|refine gs ?_|(refine gb ?_;intro b)|refine gn ?_|(refine RT.isPush ?_;refine gp ?_;intro a' c' b' c1' hac)|refine gc ?_|fail)
  by_cases hm : im.path ∈ ah
  ·rw [if_pos hm] at hTk
   obtain ⟨i, hgi⟩ := gv_in hm
   refine RT.lookup (dk := .string) (r := some (.int .i64 1)) T rfl rfl (by ((repeat constructor);done)) trivial ⟨i, hgi⟩ Tryz.underlying102 Tryz.underlying9 rfl rfl rfl ?_
   dsimp only [Option.getD]
   repeat' (first|(refine gv ?_;first|refine RT.id ?_|(refine⟨fun hc=>?_,fun hc=>?_⟩<;>first|(exfalso;omega)|skip)|refine gk ?_|refine num_m fun r hr=>?_|intro r hr)|refine gs ?_|(refine gb ?_;intro b)|refine gn ?_|(refine RT.isPush ?_;refine gp ?_;intro a' c' b' c1' hac)|refine gc ?_|fail)
   refine RT.mapSet (dk := .string) (l := gvl ah) rfl rfl rfl (by ((repeat constructor);done)) trivial hgi Tryz.underlying102 Tryz.underlying9 rfl ?_
   repeat' (first|(refine gv ?_;first|refine RT.id ?_|(refine⟨fun hc=>?_,fun hc=>?_⟩<;>first|(exfalso;omega)|skip)|refine gk ?_|refine num_m fun r hr=>?_|intro r hr)|refine gs ?_|(refine gb ?_;intro b)|refine gn ?_|(refine RT.isPush ?_;refine gp ?_;intro a' c' b' c1' hac)|refine gc ?_|fail)
   refine RT.lookup (dk := .string) (r := some (.int .i64 2)) T rfl rfl (by ((repeat constructor);done)) trivial ⟨i, by rw [List.getElem?_set_self (List.getElem?_eq_some_iff.1 hgi).1]; rfl⟩ Tryz.underlying102 Tryz.underlying9 rfl rfl rfl ?_
   dsimp only [Option.getD]
   repeat' (first|(refine gv ?_;first|refine RT.id ?_|(refine⟨fun hc=>?_,fun hc=>?_⟩<;>first|(exfalso;omega)|skip)|refine gk ?_|refine num_m fun r hr=>?_|intro r hr)|refine gs ?_|(refine gb ?_;intro b)|refine gn ?_|(refine RT.isPush ?_;refine gp ?_;intro a' c' b' c1' hac)|refine gc ?_|fail)
   (refine RT.callP T rfl fR_ (must_fn (p := false) (e := 61) (t := im.path)) rfl rfl rfl (fun v H1 hp => ?_) (fun v H1 hp => absurd hp.1 (by decide)); obtain ⟨_, rfl, rfl⟩ := hp; (repeat refine nx ?_); exact AtQ.finP (H' := []) ⟨61, im.path, by rw [hTk]; rfl, rfl, rfl⟩ dR_)
  ·rw [if_neg hm] at hTk
   refine RT.lookup (dk := .string) (r := none) T rfl rfl (by ((repeat constructor);done)) trivial (gv_no hpbl hib.1 hm) Tryz.underlying102 Tryz.underlying9 rfl rfl rfl ?_
   dsimp only [Option.getD]
   repeat' (first|(refine gv ?_;first|refine RT.id ?_|(refine⟨fun hc=>?_,fun hc=>?_⟩<;>first|(exfalso;omega)|skip)|refine gk ?_|refine num_m fun r hr=>?_|intro r hr)|refine gs ?_|(refine gb ?_;intro b)|refine gn ?_|(refine RT.isPush ?_;refine gp ?_;intro a' c' b' c1' hac)|refine gc ?_|fail)
   refine RT.mapNew (dk := .string) (l := gvl ah) rfl rfl rfl (by ((repeat constructor);done)) trivial (gv_no hpbl hib.1 hm) Tryz.underlying102 Tryz.underlying9 rfl ?_
   rw [show (0 : Int) + 1 = 1 from rfl, gv_push, ← htk]
   obtain ⟨i, hgi⟩ := gv_in (g := (il.take (k + 1)).map ImpT.path) (x := im.path) (by rw [htk]; simp)
   repeat' (first|(refine gv ?_;first|refine RT.id ?_|(refine⟨fun hc=>?_,fun hc=>?_⟩<;>first|(exfalso;omega)|skip)|refine gk ?_|refine num_m fun r hr=>?_|intro r hr)|refine gs ?_|(refine gb ?_;intro b)|refine gn ?_|(refine RT.isPush ?_;refine gp ?_;intro a' c' b' c1' hac)|refine gc ?_|fail)
   refine RT.lookup (dk := .string) (r := some (.int .i64 1)) T rfl rfl (by ((repeat constructor);done)) trivial ⟨i, hgi⟩ Tryz.underlying102 Tryz.underlying9 rfl rfl rfl ?_
   dsimp only [Option.getD]
   repeat' (first|(refine gv ?_;first|refine RT.id ?_|(refine⟨fun hc=>?_,fun hc=>?_⟩<;>first|(exfalso;omega)|skip)|refine gk ?_|refine num_m fun r hr=>?_|intro r hr)|refine gs ?_|(refine gb ?_;intro b)|refine gn ?_|(refine RT.isPush ?_;refine gp ?_;intro a' c' b' c1' hac)|refine gc ?_|fail)
   (refine RT.callP T rfl fR_ (must_fn (p := true) (e := 61) (t := im.path)) rfl rfl rfl (fun v H1 hp => absurd hp.1 (by decide)) (fun v H1 hp => ?_); obtain ⟨_, rfl⟩ := hp; try simp only [List.nil_append])
   repeat' (first|(refine gv ?_;first|refine RT.id ?_|(refine⟨fun hc=>?_,fun hc=>?_⟩<;>first|(exfalso;omega)|skip)|refine gk ?_|refine num_m fun r hr=>?_|intro r hr)|refine gs ?_|(refine gb ?_;intro b)|refine gn ?_|(refine RT.isPush ?_;refine gp ?_;intro a' c' b' c1' hac)|refine gc ?_|fail)
   exact AtQ.loop (k + 1) ⟨rfl, rfl, rfl, rfl, rfl, rfl, trivial⟩ (fun w h => Sat.pu_in ⟨by omega, hTk⟩ (h.frd (Ps := [giv sb ((il.take (k + 1)).map ImpT.path), Cs xb 26 _, rdr br bm, giv bm []]) (Qs := [_]) (by (repeat (first|exact Fr.nil|(apply Fr.cons;focus ((repeat constructor);done))))))) (by omega)
 rw [List.drop_of_length_le (by omega), impsF, opt_none] at hTk
 subst hK
 repeat' (first|(refine gv ?_;first|refine RT.id ?_|(refine⟨fun hc=>?_,fun hc=>?_⟩<;>first|(exfalso;omega)|skip)|refine gk ?_|refine num_m fun r hr=>?_|intro r hr)|refine gs ?_|(refine gb ?_;intro b)|refine gn ?_|(refine RT.isPush ?_;refine gp ?_;intro a' c' b' c1' hac)|refine gc ?_|fail)
 refine CT.loop (α := Nat × List Txt) (fun s => [(0, ptr br), (3, .pointer (some ⟨xb, 0, none⟩)), (64, .slice ma msgs.length mc), (65, .int .i64 msgs.length), (66, .int .i64 s.1)])
  (fun s => Pu (s.1 ≤ msgs.length ∧ BL s.2 ∧ TT = bnd (msgsR (msgs.drop s.1) pack 0 s.2) fun g => enumsR pack el g) :: rdr br bm :: giv bm s.2 :: Cs xb 26 [vS path, vS pack, Value.slice ia il.length ic, Value.slice ma msgs.length mc, Value.slice ea el.length ec] :: R) (fun s => msgs.length - s.1) (0, [])
  ⟨rfl, rfl, rfl, rfl, rfl, trivial⟩ (fun w h => Sat.pu_in ⟨Nat.zero_le _, (fun y hy => by cases hy), hTk⟩ (h.frd (Ps := [rdr br bm, giv bm [], Cs xb 26 _]) (Qs := [_]) (by (repeat (first|exact Fr.nil|(apply Fr.cons;focus ((repeat constructor);done))))))) (fun ⟨k, gk9⟩ => CT.pu fun ⟨hkl2, hbk, hTk⟩ => ?_)
 dsimp only at hkl2 hbk hTk ⊢
 repeat' (first|(refine gv ?_;first|refine RT.id ?_|(refine⟨fun hc=>?_,fun hc=>?_⟩<;>first|(exfalso;omega)|skip)|refine gk ?_|refine num_m fun r hr=>?_|intro r hr)|refine gs ?_|(refine gb ?_;intro b)|refine gn ?_|(refine RT.isPush ?_;refine gp ?_;intro a' c' b' c1' hac)|(refine CT.id_ ?_;first|refine nx ?_|refine CT.cond_t rfl ?_|refine CT.cond_f rfl ?_))
 first | (refine CT.region ?_) | (refine CT.quiet mixed (by kernel_rfl) ?_)
 repeat' (first|(refine gv ?_;first|refine RT.id ?_|(refine⟨fun hc=>?_,fun hc=>?_⟩<;>first|(exfalso;omega)|skip)|refine gk ?_|refine num_m fun r hr=>?_|intro r hr)|refine gs ?_|(refine gb ?_;intro b)|refine gn ?_|(refine RT.isPush ?_;refine gp ?_;intro a' c' b' c1' hac)|refine gc ?_|fail)
 ·have hk' : k < msgs.length := by omega
  have hgk := List.getElem?_eq_getElem hk'
  revert hgk
  generalize msgs[k] = m2
  intro hgk
  rw [drop_eq hgk, msgsR] at hTk
  have hme2 := List.mem_of_getElem? hgk
  refine RT.ix T (j := k * 7) rfl rfl rfl (by repeat (first | exact (rm) | apply Rd.cons)) (by omega) (by omega) (by omega) rfl rfl ?_
  refine RT.ldra T rfl (by repeat (first | exact (rm) | apply Rd.cons)) (l := m2.cells) (flat_sub (f := MsgT.cells) (z := 7) (fun _ => rfl) msgs k _ hgk) rfl rfl rfl rfl ?_
  repeat' (first|(refine gv ?_;first|refine RT.id ?_|(refine⟨fun hc=>?_,fun hc=>?_⟩<;>first|(exfalso;omega)|skip)|refine gk ?_|refine num_m fun r hr=>?_|intro r hr)|refine gs ?_|(refine gb ?_;intro b)|refine gn ?_|(refine RT.isPush ?_;refine gp ?_;intro a' c' b' c1' hac)|refine gt ?_|refine gc ?_|fail)
  (refine RT.callP T rfl fR_ (@message_fn _ _ hU hM br bm m2.deep _ m2 pack 0 gk9 (Nat.le_refl _) (MsgT.In.mono (fun _ _ _ _ _ h => (by repeat (first | exact (h) | apply Rd.cons))) (rm2 m2 hme2)) (om m2 hme2) (MsgT.nmL_mem nms hme2) hbk kb (by omega) (by omega)) rfl rfl rfl (fun v H1 hp => ?_) (fun v H1 hp => ?_))
  ·obtain ⟨e, t, h5, rfl, rfl⟩ := hp
   ((repeat refine nx ?_); exact AtQ.finP (H' := []) ⟨e, t, by rw [hTk, h5]; try rfl, rfl, rfl⟩ dR_)
  obtain ⟨g3, h5, hb3, rfl⟩ := hp
  rw [h5, bnd_ok] at hTk
  simp only [List.cons_append, List.nil_append]
  clear h5
  repeat' (first|(refine gv ?_;first|refine RT.id ?_|(refine⟨fun hc=>?_,fun hc=>?_⟩<;>first|(exfalso;omega)|skip)|refine gk ?_|refine num_m fun r hr=>?_|intro r hr)|refine gs ?_|(refine gb ?_;intro b)|refine gn ?_|(refine RT.isPush ?_;refine gp ?_;intro a' c' b' c1' hac)|refine gc ?_|fail)
  exact AtQ.loop (k + 1, g3) ⟨rfl, rfl, rfl, rfl, rfl, trivial⟩ (fun w h => Sat.pu_in ⟨by omega, hb3, hTk⟩ (h.frd (Ps := [rdr br bm, giv bm g3, Cs xb 26 _]) (Qs := [_]) (by (repeat (first|exact Fr.nil|(apply Fr.cons;focus ((repeat constructor);done))))))) (by dsimp only; omega)
 rw [List.drop_of_length_le (by omega), msgsR] at hTk
 rw [bnd_ok] at hTk
 repeat' (first|(refine gv ?_;first|refine RT.id ?_|(refine⟨fun hc=>?_,fun hc=>?_⟩<;>first|(exfalso;omega)|skip)|refine gk ?_|refine num_m fun r hr=>?_|intro r hr)|refine gs ?_|(refine gb ?_;intro b)|refine gn ?_|(refine RT.isPush ?_;refine gp ?_;intro a' c' b' c1' hac)|refine gc ?_|fail)
 refine CT.loop (α := Nat × List Txt) (fun s => [(0, ptr br), (3, .pointer (some ⟨xb, 0, none⟩)), (77, .slice ea el.length ec), (78, .int .i64 el.length), (79, .int .i64 s.1)])
  (fun s => Pu (s.1 ≤ el.length ∧ BL s.2 ∧ TT = enumsR pack (el.drop s.1) s.2) :: rdr br bm :: giv bm s.2 :: Cs xb 26 [vS path, vS pack, Value.slice ia il.length ic, Value.slice ma msgs.length mc, Value.slice ea el.length ec] :: R) (fun s => el.length - s.1) (0, gk9)
  ⟨rfl, rfl, rfl, rfl, rfl, trivial⟩ (fun w h => Sat.pu_in ⟨Nat.zero_le _, hbk, hTk⟩ (h.frd (Ps := [rdr br bm, giv bm gk9, Cs xb 26 _]) (Qs := []) (by (repeat (first|exact Fr.nil|(apply Fr.cons;focus ((repeat constructor);done))))))) (fun ⟨k, gk9⟩ => CT.pu fun ⟨hkl2, hbk, hTk⟩ => ?_)
 dsimp only at hkl2 hbk hTk ⊢
 repeat' (first|(refine gv ?_;first|refine RT.id ?_|(refine⟨fun hc=>?_,fun hc=>?_⟩<;>first|(exfalso;omega)|skip)|refine gk ?_|refine num_m fun r hr=>?_|intro r hr)|refine gs ?_|(refine gb ?_;intro b)|refine gn ?_|(refine RT.isPush ?_;refine gp ?_;intro a' c' b' c1' hac)|(refine CT.id_ ?_;first|refine nx ?_|refine CT.cond_t rfl ?_|refine CT.cond_f rfl ?_))
 first | (refine CT.region ?_) | (refine CT.quiet mixed (by kernel_rfl) ?_)
 repeat' (first|(refine gv ?_;first|refine RT.id ?_|(refine⟨fun hc=>?_,fun hc=>?_⟩<;>first|(exfalso;omega)|skip)|refine gk ?_|refine num_m fun r hr=>?_|intro r hr)|refine gs ?_|(refine gb ?_;intro b)|refine gn ?_|(refine RT.isPush ?_;refine gp ?_;intro a' c' b' c1' hac)|refine gc ?_|fail)
 ·have hk' : k < el.length := by omega
  have hgk := List.getElem?_eq_getElem hk'
  revert hgk
  generalize el[k] = e2
  intro hgk
  rw [drop_eq hgk, enumsR] at hTk
  have hme2 := List.mem_of_getElem? hgk
  refine RT.ix T (j := k * 5) rfl rfl rfl (by repeat (first | exact (re) | apply Rd.cons)) (by omega) (by omega) (by omega) rfl rfl ?_
  refine RT.ldra T rfl (by repeat (first | exact (re) | apply Rd.cons)) (l := e2.cells) (flat_sub (f := EnumT.cells) (z := 5) (fun _ => rfl) el k _ hgk) rfl rfl rfl rfl ?_
  repeat' (first|(refine gv ?_;first|refine RT.id ?_|(refine⟨fun hc=>?_,fun hc=>?_⟩<;>first|(exfalso;omega)|skip)|refine gk ?_|refine num_m fun r hr=>?_|intro r hr)|refine gs ?_|(refine gb ?_;intro b)|refine gn ?_|(refine RT.isPush ?_;refine gp ?_;intro a' c' b' c1' hac)|refine gt ?_|refine gc ?_|fail)
  (refine RT.callP T rfl fR_ (enum_fn (e := e2) (sc := pack) (g := gk9) (EnumT.In.mono (fun _ _ _ _ _ h => (by repeat (first | exact (h) | apply Rd.cons))) (re2 e2 hme2)) (oe e2 hme2) (enm e2 hme2) hbk kb (by omega)) rfl rfl rfl (fun v H1 hp => ?_) (fun v H1 hp => ?_))
  ·obtain ⟨e, t, h5, rfl, rfl⟩ := hp
   ((repeat refine nx ?_); exact AtQ.finP (H' := []) ⟨e, t, by rw [hTk, h5]; try rfl, rfl, rfl⟩ dR_)
  obtain ⟨g3, h5, hb3, rfl⟩ := hp
  rw [h5, bnd_ok] at hTk
  simp only [List.cons_append, List.nil_append]
  clear h5
  repeat' (first|(refine gv ?_;first|refine RT.id ?_|(refine⟨fun hc=>?_,fun hc=>?_⟩<;>first|(exfalso;omega)|skip)|refine gk ?_|refine num_m fun r hr=>?_|intro r hr)|refine gs ?_|(refine gb ?_;intro b)|refine gn ?_|(refine RT.isPush ?_;refine gp ?_;intro a' c' b' c1' hac)|refine gc ?_|fail)
  exact AtQ.loop (k + 1, g3) ⟨rfl, rfl, rfl, rfl, rfl, trivial⟩ (fun w h => Sat.pu_in ⟨by omega, hb3, hTk⟩ (h.frd (Ps := [rdr br bm, giv bm g3, Cs xb 26 _]) (Qs := [_]) (by (repeat (first|exact Fr.nil|(apply Fr.cons;focus ((repeat constructor);done))))))) (by dsimp only; omega)
 rw [List.drop_of_length_le (by omega), enumsR] at hTk
 exact AtQ.ofFinN (AtQ.fin0 Tryz.results36 (H' := [rdr br bm, giv bm gk9]) ⟨gk9, hTk, hbk, rfl⟩ (fun w h => h.frd (Ps := [rdr br bm, giv bm gk9]) (Qs := [_]) (by (repeat (first|exact Fr.nil|(apply Fr.cons;focus ((repeat constructor);done)))))) _ (.inl rfl))
end Go.Proofs.YtdemnhdoadjhhaaGreatDoor
end
section
namespace Go.Proofs.YtdemnhdoadjhhaaGreatDoor
open Go.Sk
set_option maxRecDepth 100000
attribute [local irreducible] Cs Own Ex Pu Yld RT LJ QJ AtQ CT Rd QSp Sp FinQ Then LoopQ CutQ DT TakeQ EffQ
attribute [local irreducible] FinD SpD RecQ
variable {B : World} {R : List HP}
theorem chk1_ret {cb : Nat} {l : List Value} : SpD B Tryz.prog 35 [ptr cb] .returning .returning R [Cs cb 33 l] [Cs cb 33 l] := by
 refine SpD.body Tryz.func35 rfl Tryz.results35 Tryz.ntmps35 (by simp) (by decide) (.inl ⟨rfl, rfl, rfl⟩) ?_
 simp only [argE, List.cons_append, List.nil_append, Nat.zero_add, Nat.reduceAdd]
 repeat' (first|(refine gv ?_;first|refine RT.id ?_|(refine⟨fun hc=>?_,fun hc=>?_⟩<;>first|(exfalso;omega)|skip)|refine gk ?_|refine num_m fun r hr=>?_|intro r hr)|refine gs ?_|(refine gb ?_;intro b)|refine gn ?_|(refine RT.isPush ?_;refine gp ?_;intro a' c' b' c1' hac)|refine gc ?_|fail)
 refine RT.inil rfl ⟨_, Tryz.underlying20⟩ (.inl ⟨rfl, rfl⟩) rfl rfl ?_
 repeat' (first|(refine gv ?_;first|refine RT.id ?_|(refine⟨fun hc=>?_,fun hc=>?_⟩<;>first|(exfalso;omega)|skip)|refine gk ?_|refine num_m fun r hr=>?_|intro r hr)|refine gs ?_|(refine gb ?_;intro b)|refine gn ?_|(refine RT.isPush ?_;refine gp ?_;intro a' c' b' c1' hac)|refine gc ?_|fail)
 exact AtQ.rec_ (.inl rfl) (fun w h => h)
theorem chk1_pan {cb : Nat} {e : Int} {t : Txt} : SpD B Tryz.prog 35 [ptr cb] (.panicking (pan (wv e t))) (.panicking [{ v := wv e t, recovered := true }]) R [Cs cb 33 [.int .i64 0, .string ByteArray.empty]] [Cs cb 33 [.int .i64 e, vS t]] := by
 refine SpD.body Tryz.func35 rfl Tryz.results35 Tryz.ntmps35 (by simp) (by decide) (.inr ⟨_, rfl, rfl, rfl⟩) ?_
 simp only [argE, List.cons_append, List.nil_append, Nat.zero_add, Nat.reduceAdd]
 repeat' (first|(refine gv ?_;first|refine RT.id ?_|(refine⟨fun hc=>?_,fun hc=>?_⟩<;>first|(exfalso;omega)|skip)|refine gk ?_|refine num_m fun r hr=>?_|intro r hr)|refine gs ?_|(refine gb ?_;intro b)|refine gn ?_|(refine RT.isPush ?_;refine gp ?_;intro a' c' b' c1' hac)|refine gc ?_|fail)
 refine RT.inil rfl ⟨_, Tryz.underlying20⟩ (.inr ⟨_, _, rfl, rfl⟩) rfl rfl ?_
 repeat' (first|(refine gv ?_;first|refine RT.id ?_|(refine⟨fun hc=>?_,fun hc=>?_⟩<;>first|(exfalso;omega)|skip)|refine gk ?_|refine num_m fun r hr=>?_|intro r hr)|refine gs ?_|(refine gb ?_;intro b)|refine gn ?_|(refine RT.isPush ?_;refine gp ?_;intro a' c' b' c1' hac)|refine gc ?_|fail)
 refine RT.tassert rfl Tryz.underlying100 (by intro b h; cases h) rfl rfl ?_
 repeat' (first|(refine gv ?_;first|refine RT.id ?_|(refine⟨fun hc=>?_,fun hc=>?_⟩<;>first|(exfalso;omega)|skip)|refine gk ?_|refine num_m fun r hr=>?_|intro r hr)|refine gs ?_|(refine gb ?_;intro b)|refine gn ?_|(refine RT.isPush ?_;refine gp ?_;intro a' c' b' c1' hac)|refine gt ?_|refine gc ?_|fail)
 exact AtQ.rec_ (.inl rfl) (fun w h => h.frd (Ps := [Cs cb 33 _]) (Qs := [_]) (by (repeat (first|exact Fr.nil|(apply Fr.cons;focus ((repeat constructor);done))))))
theorem checkL_ok {f : FileT} {g : List Txt} (h : fileR f = .ok g) : checkL f = (0, []) := by
 unfold checkL
 rw [h]
theorem checkL_err {f : FileT} {e : Int} {t : Txt} (h : fileR f = .error (e, t)) : checkL f = (e, t) := by
 unfold checkL
 rw [h]
set_option maxHeartbeats 1000000 in
theorem checkC_fn {mM : Int} (hU : Lib.Utf8Tabs 1 2 B) (hM : B.cell? ⟨0, 0, none⟩ = some (.int .i64 mM)) {f : FileT} (hin : f.In (Rd B R)) (hok : f.Ok) (hsm : FNs f) :
  Sp B Tryz.prog 11 [.agg f.cells.toArray] R [] (fun v H' => v = .agg #[.int .i64 (checkL f).1, vS (checkL f).2] ∧ H' = []) := by
 refine Sp.bodyD Tryz.func11 rfl Tryz.ntmps11 (by simp) ?_
 simp only [argE, List.cons_append, List.nil_append, Nat.zero_add, Nat.reduceAdd]
 repeat' (first|(refine gv ?_;first|refine RT.id ?_|(refine⟨fun hc=>?_,fun hc=>?_⟩<;>first|(exfalso;omega)|skip)|refine gk ?_|refine num_m fun r hr=>?_|intro r hr)|refine gs ?_|(refine gb ?_;intro b)|refine gn ?_|(refine RT.isPush ?_;refine gp ?_;intro a' c' b' c1' hac)|(refine CT.id_ ?_;first|refine nx ?_|refine CT.cond_t rfl ?_|refine CT.cond_f rfl ?_))
 first | (refine CT.region ?_) | (refine CT.quiet mixed (by kernel_rfl) ?_)
 repeat' (first|(refine gv ?_;first|refine RT.id ?_|(refine⟨fun hc=>?_,fun hc=>?_⟩<;>first|(exfalso;omega)|skip)|refine gk ?_|refine num_m fun r hr=>?_|intro r hr)|refine gs ?_|(refine gb ?_;intro b)|refine gn ?_|(refine RT.isPush ?_;refine gp ?_;intro a' c' b' c1' hac)|(refine CT.id_ ?_;first|refine nx ?_|refine CT.cond_t rfl ?_|refine CT.cond_f rfl ?_))
 rename_i xb
 revert b
 intro cb
 first | (refine CT.region ?_) | (refine CT.quiet mixed (by kernel_rfl) ?_)
 repeat' (first|(refine gv ?_;first|refine RT.id ?_|(refine⟨fun hc=>?_,fun hc=>?_⟩<;>first|(exfalso;omega)|skip)|refine gk ?_|refine num_m fun r hr=>?_|intro r hr)|refine gs ?_|(refine gb ?_;intro b)|refine gn ?_|(refine RT.isPush ?_;refine gp ?_;intro a' c' b' c1' hac)|(refine CT.id_ ?_;first|refine nx ?_|refine CT.cond_t rfl ?_|refine CT.cond_f rfl ?_))
 refine RT.mkF rfl rfl rfl ?_
 refine RT.defer (caps := [ptr cb]) rfl rfl rfl ?_
 repeat' (first|(refine gv ?_;first|refine RT.id ?_|(refine⟨fun hc=>?_,fun hc=>?_⟩<;>first|(exfalso;omega)|skip)|refine gk ?_|refine num_m fun r hr=>?_|intro r hr)|refine gs ?_|(refine gb ?_;intro b)|refine gn ?_|(refine RT.isPush ?_;refine gp ?_;intro a' c' b' c1' hac)|refine gc ?_|fail)
 refine RT.mkmap .string rfl rfl (fun bm => ?_)
 repeat' (first|(refine gv ?_;first|refine RT.id ?_|(refine⟨fun hc=>?_,fun hc=>?_⟩<;>first|(exfalso;omega)|skip)|refine gk ?_|refine num_m fun r hr=>?_|intro r hr)|refine gs ?_|(refine gb ?_;intro b)|refine gn ?_|(refine RT.isPush ?_;refine gp ?_;intro a' c' b' c1' hac)|refine gc ?_|fail)
 revert b
 intro br
 repeat' (first|(refine gv ?_;first|refine RT.id ?_|(refine⟨fun hc=>?_,fun hc=>?_⟩<;>first|(exfalso;omega)|skip)|refine gk ?_|refine num_m fun r hr=>?_|intro r hr)|refine gs ?_|(refine gb ?_;intro b)|refine gn ?_|(refine RT.isPush ?_;refine gp ?_;intro a' c' b' c1' hac)|refine gt ?_|refine gc ?_|fail)
 (refine RT.callP T rfl fR_ (file_fn (br := br) (bm := bm) (f := f) hU hM (FileT.In.mono (fun _ _ _ _ _ h => (by repeat (first | exact (h) | apply Rd.cons))) hin) hok hsm) rfl rfl rfl (fun v H1 hp => ?_) (fun v H1 hp => ?_))
 ·obtain ⟨e, t, h1, rfl, rfl⟩ := hp
  (repeat refine nx ?_)
  exact AtQ.finDp (n := 12) (R2 := Cs xb 26 f.cells :: R) (fun args w => run_call (T := T) rfl) chk1_pan (by (repeat (first|exact Fr.nil|(apply Fr.cons;focus ((repeat constructor);done))))) (res_agg T Tryz.results11 rfl rfl rfl .h) ⟨by rw [checkL_err h1], rfl⟩ (fun w h => h.tail.tail)
 obtain ⟨g1, h1, hb1, rfl⟩ := hp
 simp only [List.cons_append, List.nil_append]
 repeat' (first|(refine gv ?_;first|refine RT.id ?_|(refine⟨fun hc=>?_,fun hc=>?_⟩<;>first|(exfalso;omega)|skip)|refine gk ?_|refine num_m fun r hr=>?_|intro r hr)|refine gs ?_|(refine gb ?_;intro b)|refine gn ?_|(refine RT.isPush ?_;refine gp ?_;intro a' c' b' c1' hac)|refine gc ?_|fail)
 repeat' (first|(refine gv ?_;first|refine RT.id ?_|(refine⟨fun hc=>?_,fun hc=>?_⟩<;>first|(exfalso;omega)|skip)|refine gk ?_|refine num_m fun r hr=>?_|intro r hr)|refine gs ?_|(refine gb ?_;intro b)|refine gn ?_|(refine RT.isPush ?_;refine gp ?_;intro a' c' b' c1' hac)|refine gt ?_|refine gc ?_|fail)
 exact AtQ.finD (n := 12) (Hf := []) (R2 := rdr br bm :: giv bm g1 :: Cs xb 26 f.cells :: R) (fun args w => run_call (T := T) rfl) chk1_ret (by (repeat (first|exact Fr.nil|(apply Fr.cons;focus ((repeat constructor);done))))) (res_agg T Tryz.results11 rfl rfl rfl .h) ⟨by rw [checkL_ok h1]; rfl, rfl⟩ (fun w h => h.tail.tail.tail.tail) (.inr rfl)
end Go.Proofs.YtdemnhdoadjhhaaGreatDoor
end
section
namespace Go.Proofs.YtdemnhdoadjhhaaGreatDoor
open Go.Sk
set_option maxRecDepth 100000
attribute [local irreducible] Cs Own Ex Pu Yld RT LJ QJ AtQ CT Rd QSp Sp FinQ Then LoopQ CutQ DT TakeQ EffQ
attribute [local irreducible] Bd
variable {B : World} {R : List HP}
theorem rin_fn {x lo hi : Int} : Sp B Tryz.prog 112 [.int .u8 x, .int .u8 lo, .int .u8 hi] R [] (fun v H' => v = .bool (decide (lo ≤ x ∧ x ≤ hi)) ∧ H' = []) := by
 refine Sp.body Tryz.func112 rfl Tryz.ntmps112 (by simp) ?_
 simp only [argE, List.cons_append, List.nil_append, Nat.zero_add, Nat.reduceAdd]
 repeat' (first|(refine gv ?_;first|refine RT.id ?_|(refine⟨fun hc=>?_,fun hc=>?_⟩<;>first|(exfalso;omega)|skip)|refine gk ?_|refine num_m fun r hr=>?_|intro r hr)|refine gs ?_|(refine gb ?_;intro b)|refine gn ?_|(refine RT.isPush ?_;refine gp ?_;intro a' c' b' c1' hac)|refine gc ?_|fail)
 all_goals exact AtQ.f1 Tryz.results112 rfl (by first | (apply dec_t; omega) | (apply dec_f; omega)) (fun w h => h)
theorem rsmall_fn {x : Int} : Sp B Tryz.prog 110 [.int .u8 x] R [] (fun v H' => v = .bool (decide (97 ≤ x ∧ x ≤ 122)) ∧ H' = []) := by
 refine Sp.body Tryz.func110 rfl Tryz.ntmps110 (by simp) ?_
 simp only [argE, List.cons_append, List.nil_append, Nat.zero_add, Nat.reduceAdd]
 repeat' (first|(refine gv ?_;first|refine RT.id ?_|(refine⟨fun hc=>?_,fun hc=>?_⟩<;>first|(exfalso;omega)|skip)|refine gk ?_|refine num_m fun r hr=>?_|intro r hr)|refine gs ?_|(refine gb ?_;intro b)|refine gn ?_|(refine RT.isPush ?_;refine gp ?_;intro a' c' b' c1' hac)|refine gc ?_|fail)
 (refine RT.call T rfl fR_ (rin_fn) rfl rfl rfl ?_; rintro _ _ ⟨rfl, rfl⟩; try simp only [List.cons_append, List.nil_append])
 repeat' (first|(refine gv ?_;first|refine RT.id ?_|(refine⟨fun hc=>?_,fun hc=>?_⟩<;>first|(exfalso;omega)|skip)|refine gk ?_|refine num_m fun r hr=>?_|intro r hr)|refine gs ?_|(refine gb ?_;intro b)|refine gn ?_|(refine RT.isPush ?_;refine gp ?_;intro a' c' b' c1' hac)|refine gc ?_|fail)
 exact AtQ.f1 Tryz.results110 rfl rfl (fun w h => h)
theorem rcapital_fn {x : Int} : Sp B Tryz.prog 111 [.int .u8 x] R [] (fun v H' => v = .bool (decide (65 ≤ x ∧ x ≤ 90)) ∧ H' = []) := by
 refine Sp.body Tryz.func111 rfl Tryz.ntmps111 (by simp) ?_
 simp only [argE, List.cons_append, List.nil_append, Nat.zero_add, Nat.reduceAdd]
 repeat' (first|(refine gv ?_;first|refine RT.id ?_|(refine⟨fun hc=>?_,fun hc=>?_⟩<;>first|(exfalso;omega)|skip)|refine gk ?_|refine num_m fun r hr=>?_|intro r hr)|refine gs ?_|(refine gb ?_;intro b)|refine gn ?_|(refine RT.isPush ?_;refine gp ?_;intro a' c' b' c1' hac)|refine gc ?_|fail)
 (refine RT.call T rfl fR_ (rin_fn) rfl rfl rfl ?_; rintro _ _ ⟨rfl, rfl⟩; try simp only [List.cons_append, List.nil_append])
 repeat' (first|(refine gv ?_;first|refine RT.id ?_|(refine⟨fun hc=>?_,fun hc=>?_⟩<;>first|(exfalso;omega)|skip)|refine gk ?_|refine num_m fun r hr=>?_|intro r hr)|refine gs ?_|(refine gb ?_;intro b)|refine gn ?_|(refine RT.isPush ?_;refine gp ?_;intro a' c' b' c1' hac)|refine gc ?_|fail)
 exact AtQ.f1 Tryz.results111 rfl rfl (fun w h => h)
theorem rdigit_fn {x : Int} : Sp B Tryz.prog 85 [.int .u8 x] R [] (fun v H' => v = .bool (decide (48 ≤ x ∧ x ≤ 57)) ∧ H' = []) := by
 refine Sp.body Tryz.func85 rfl Tryz.ntmps85 (by simp) ?_
 simp only [argE, List.cons_append, List.nil_append, Nat.zero_add, Nat.reduceAdd]
 repeat' (first|(refine gv ?_;first|refine RT.id ?_|(refine⟨fun hc=>?_,fun hc=>?_⟩<;>first|(exfalso;omega)|skip)|refine gk ?_|refine num_m fun r hr=>?_|intro r hr)|refine gs ?_|(refine gb ?_;intro b)|refine gn ?_|(refine RT.isPush ?_;refine gp ?_;intro a' c' b' c1' hac)|refine gc ?_|fail)
 (refine RT.call T rfl fR_ (rin_fn) rfl rfl rfl ?_; rintro _ _ ⟨rfl, rfl⟩; try simp only [List.cons_append, List.nil_append])
 repeat' (first|(refine gv ?_;first|refine RT.id ?_|(refine⟨fun hc=>?_,fun hc=>?_⟩<;>first|(exfalso;omega)|skip)|refine gk ?_|refine num_m fun r hr=>?_|intro r hr)|refine gs ?_|(refine gb ?_;intro b)|refine gn ?_|(refine RT.isPush ?_;refine gp ?_;intro a' c' b' c1' hac)|refine gc ?_|fail)
 exact AtQ.f1 Tryz.results85 rfl rfl (fun w h => h)
theorem rletter_fn {x : Int} : Sp B Tryz.prog 84 [.int .u8 x] R [] (fun v H' => v = .bool (decide (isLet x)) ∧ H' = []) := by
 refine Sp.body Tryz.func84 rfl Tryz.ntmps84 (by simp) ?_
 simp only [argE, List.cons_append, List.nil_append, Nat.zero_add, Nat.reduceAdd]
 repeat' (first|(refine gv ?_;first|refine RT.id ?_|(refine⟨fun hc=>?_,fun hc=>?_⟩<;>first|(exfalso;omega)|skip)|refine gk ?_|refine num_m fun r hr=>?_|intro r hr)|refine gs ?_|(refine gb ?_;intro b)|refine gn ?_|(refine RT.isPush ?_;refine gp ?_;intro a' c' b' c1' hac)|refine gc ?_|fail)
 (refine RT.call T rfl fR_ (rsmall_fn) rfl rfl rfl ?_; rintro _ _ ⟨rfl, rfl⟩; try simp only [List.cons_append, List.nil_append])
 by_cases ha : 97 ≤ x ∧ x ≤ 122
 ·rw [decide_eq_true ha]
  repeat' (first|(refine gv ?_;first|refine RT.id ?_|(refine⟨fun hc=>?_,fun hc=>?_⟩<;>first|(exfalso;omega)|skip)|refine gk ?_|refine num_m fun r hr=>?_|intro r hr)|refine gs ?_|(refine gb ?_;intro b)|refine gn ?_|(refine RT.isPush ?_;refine gp ?_;intro a' c' b' c1' hac)|refine gc ?_|fail)
  exact AtQ.f1 Tryz.results84 rfl (by rw [decide_eq_true (show isLet x from .inl ha)]) (fun w h => h)
 ·rw [decide_eq_false ha]
  repeat' (first|(refine gv ?_;first|refine RT.id ?_|(refine⟨fun hc=>?_,fun hc=>?_⟩<;>first|(exfalso;omega)|skip)|refine gk ?_|refine num_m fun r hr=>?_|intro r hr)|refine gs ?_|(refine gb ?_;intro b)|refine gn ?_|(refine RT.isPush ?_;refine gp ?_;intro a' c' b' c1' hac)|refine gc ?_|fail)
  (refine RT.qcall T rfl (QSp.of (by (repeat (first|exact Fr.nil|(apply Fr.cons;focus ((repeat constructor);done))))) (rcapital_fn)) rfl rfl rfl ?_)
  by_cases hA : 65 ≤ x ∧ x ≤ 90
  ·rw [decide_eq_true hA]
   repeat' (first|(refine gv ?_;first|refine RT.id ?_|(refine⟨fun hc=>?_,fun hc=>?_⟩<;>first|(exfalso;omega)|skip)|refine gk ?_|refine num_m fun r hr=>?_|intro r hr)|refine gs ?_|(refine gb ?_;intro b)|refine gn ?_|(refine RT.isPush ?_;refine gp ?_;intro a' c' b' c1' hac)|refine gc ?_|fail)
   exact AtQ.f1 Tryz.results84 rfl (by rw [decide_eq_true (show isLet x from .inr (.inl hA))]) (fun w h => h)
  ·rw [decide_eq_false hA]
   repeat' (first|(refine gv ?_;first|refine RT.id ?_|(refine⟨fun hc=>?_,fun hc=>?_⟩<;>first|(exfalso;omega)|skip)|refine gk ?_|refine num_m fun r hr=>?_|intro r hr)|refine gs ?_|(refine gb ?_;intro b)|refine gn ?_|(refine RT.isPush ?_;refine gp ?_;intro a' c' b' c1' hac)|refine gc ?_|fail)
   ·exact AtQ.f1 Tryz.results84 rfl (by rw [decide_eq_true (show isLet x from .inr (.inr (by assumption)))]) (fun w h => h)
   ·exact AtQ.f1 Tryz.results84 rfl (by rw [decide_eq_false (show ¬ isLet x from by rintro (h | h | h); exact ha h; exact hA h; exact absurd h (by assumption))]) (fun w h => h)
end Go.Proofs.YtdemnhdoadjhhaaGreatDoor
end
section
namespace Go.Proofs.YtdemnhdoadjhhaaGreatDoor
open Go.Sk
set_option maxRecDepth 100000
attribute [local irreducible] Cs Own Ex Pu Yld RT LJ QJ AtQ CT Rd QSp Sp FinQ Then LoopQ CutQ DT TakeQ EffQ
attribute [local irreducible] Bd
variable {B : World} {R : List HP}
set_option maxHeartbeats 1000000 in
theorem rident_fn {l : List Int} (hb : Byt l) (hl : l.length ≤ 140737488355328) : Sp B Tryz.prog 27 [.string (str l)] R [] (fun v H' => v = .bool (identB l) ∧ H' = []) := by
 refine Sp.body Tryz.func27 rfl Tryz.ntmps27 (by simp) ?_
 simp only [argE, List.cons_append, List.nil_append, Nat.zero_add, Nat.reduceAdd]
 repeat' (first|(refine gv ?_;first|refine RT.id ?_|(refine⟨fun hc=>?_,fun hc=>?_⟩<;>first|(exfalso;omega)|skip)|refine gk ?_|refine num_m fun r hr=>?_|intro r hr)|refine gs ?_|(refine gb ?_;intro b)|refine gn ?_|(refine RT.isPush ?_;refine gp ?_;intro a' c' b' c1' hac)|refine gc ?_|fail)
 ·exact AtQ.f1 Tryz.results27 rfl (by rw [identB_f (by rintro ⟨h0, _⟩; omega)]) (fun w h => h)
 ·exact AtQ.f1 Tryz.results27 rfl (by rw [identB_f (by rintro ⟨_, h0, _⟩; omega)]) (fun w h => h)
 ·refine CT.loop (α := Nat) (fun i => [(0, .string (str l)), (3, .int .i64 i)]) (fun i => Pu (i ≤ l.length ∧ (∀ j, j < i → okC (l.getD j 0)) ∧ (0 < i → ¬ isDig (l.getD 0 0))) :: R) (fun i => l.length - i) 0 ⟨rfl, rfl, trivial⟩
   (fun w h => Sat.pu_in ⟨Nat.zero_le _, fun j hj => absurd hj (by omega), fun h => absurd h (by omega)⟩ h) (fun i => CT.pu fun ⟨hi, ho, hz⟩ => ?_)
  have next : okC (l.getD i 0) → ∀ j, j < i + 1 → okC (l.getD j 0) := fun h j hj => by
   by_cases hji : j = i
   ·rw [hji]; exact h
   ·exact ho j (by omega)
  repeat' (first|(refine gv ?_;first|refine RT.id ?_|(refine⟨fun hc=>?_,fun hc=>?_⟩<;>first|(exfalso;omega)|skip)|refine gk ?_|refine num_m fun r hr=>?_|intro r hr)|refine gs ?_|(refine gb ?_;intro b)|refine gn ?_|(refine RT.isPush ?_;refine gp ?_;intro a' c' b' c1' hac)|refine gc ?_|fail)
  ·(refine RT.ixs T (j := i) rfl rfl (by omega) (by omega) (by assumption) rfl rfl rfl ?_)
   obtain ⟨c0, c1⟩ := hb.get (i := i) (by omega)
   have bad : ¬ okC (l.getD i 0) → identB l = false := fun h => identB_f (by rintro ⟨_, _, _, h0⟩; exact h (h0 i (by omega)))
   have bad0 : i = 0 → isDig (l.getD i 0) → identB l = false := fun h hd => identB_f (by rintro ⟨_, _, h0, _⟩; rw [h] at hd; exact h0 hd)
   have hz0 : ¬ isDig (l.getD i 0) → 0 < i + 1 → ¬ isDig (l.getD 0 0) := fun h _ => by
    by_cases h0 : i = 0
    ·rw [h0] at h; exact h
    ·exact hz (by omega)
   have hz1 : ¬ i = 0 → 0 < i + 1 → ¬ isDig (l.getD 0 0) := fun h _ => hz (by omega)
   (refine RT.call T rfl fR_ (rletter_fn) rfl rfl rfl ?_; rintro _ _ ⟨rfl, rfl⟩; try simp only [List.cons_append, List.nil_append])
   repeat' (first|(refine gv ?_;first|refine RT.id ?_|(refine⟨fun hc=>?_,fun hc=>?_⟩<;>first|(exfalso;omega)|skip)|refine gk ?_|refine num_m fun r hr=>?_|intro r hr)|refine gs ?_|(refine gb ?_;intro b)|refine gn ?_|(refine RT.isPush ?_;refine gp ?_;intro a' c' b' c1' hac)|refine gc ?_|fail)
   (refine RT.ixs T (j := i) rfl rfl (by omega) (by omega) (by assumption) rfl rfl rfl ?_)
   (refine RT.call T rfl fR_ (rdigit_fn) rfl rfl rfl ?_; rintro _ _ ⟨rfl, rfl⟩; try simp only [List.cons_append, List.nil_append])
   generalize hcc : l.getD i 0 = c at *
   by_cases ha : isLet c
   ·have hnd : ¬ isDig c := by
     rintro ⟨d0, d1⟩
     rcases ha with h | h | h <;> omega
    rw [decide_eq_true ha]
    repeat' (first|(refine gv ?_;first|refine RT.id ?_|(refine⟨fun hc=>?_,fun hc=>?_⟩<;>first|(exfalso;omega)|skip)|refine gk ?_|refine num_m fun r hr=>?_|intro r hr)|refine gs ?_|(refine gb ?_;intro b)|refine gn ?_|(refine RT.isPush ?_;refine gp ?_;intro a' c' b' c1' hac)|refine gc ?_|fail)
    exact AtQ.loop (i + 1) ⟨rfl, rfl, trivial⟩ (fun w h => Sat.pu_in ⟨by omega, next (.inl ha), hz0 hnd⟩ h) (by omega)
   ·rw [decide_eq_false ha]
    by_cases hd : 48 ≤ c ∧ c ≤ 57
    ·rw [decide_eq_true hd]
     repeat' (first|(refine gv ?_;first|refine RT.id ?_|(refine⟨fun hc=>?_,fun hc=>?_⟩<;>first|(exfalso;omega)|skip)|refine gk ?_|refine num_m fun r hr=>?_|intro r hr)|refine gs ?_|(refine gb ?_;intro b)|refine gn ?_|(refine RT.isPush ?_;refine gp ?_;intro a' c' b' c1' hac)|refine gc ?_|fail)
     ·have hi0 : i = 0 := by omega
      exact AtQ.f1 Tryz.results27 rfl (by rw [bad0 hi0 hd]) (fun w h => h)
     ·exact AtQ.loop (i + 1) ⟨rfl, rfl, trivial⟩ (fun w h => Sat.pu_in ⟨by omega, next (.inr hd), hz1 (by omega)⟩ h) (by omega)
    ·rw [decide_eq_false hd]
     repeat' (first|(refine gv ?_;first|refine RT.id ?_|(refine⟨fun hc=>?_,fun hc=>?_⟩<;>first|(exfalso;omega)|skip)|refine gk ?_|refine num_m fun r hr=>?_|intro r hr)|refine gs ?_|(refine gb ?_;intro b)|refine gn ?_|(refine RT.isPush ?_;refine gp ?_;intro a' c' b' c1' hac)|refine gc ?_|fail)
     exact AtQ.f1 Tryz.results27 rfl (by rw [bad (by rintro (h | h); exact ha h; exact hd h)]) (fun w h => h)
  ·have hie : i = l.length := by omega
   subst hie
   exact AtQ.f1 Tryz.results27 rfl (by rw [identB_t ⟨by omega, by omega, hz (by omega), ho⟩]) (fun w h => h)
end Go.Proofs.YtdemnhdoadjhhaaGreatDoor
end
section
namespace Go.Proofs.YtdemnhdoadjhhaaGreatDoor
open Go.Sk
set_option maxRecDepth 100000
/-- A state of the document's Parts. -/
def ParI (l : List Int) (i from_ : Nat) (out : List (List Int)) : Prop := from_ ≤ i ∧ i ≤ l.length + 1 ∧ out.length ≤ i ∧ (i ≤ l.length → partsL l = out ++ partsF (l.drop i) ((l.drop from_).take (i - from_))) ∧ (l.length < i → out = partsL l)
theorem take_snoc {l : List Int} {i from_ : Nat} (h1 : from_ ≤ i) (h2 : i < l.length) : (l.drop from_).take (i + 1 - from_) = (l.drop from_).take (i - from_) ++ [l.getD i 0] := by
 rw [show i + 1 - from_ = (i - from_) + 1 by omega, List.take_add_one, List.getElem?_drop, show from_ + (i - from_) = i by omega, List.getElem?_eq_getElem h2]
 simp [List.getElem?_eq_getElem h2]
theorem ParI.dot {l : List Int} {i from_ : Nat} {out : List (List Int)} (h : ParI l i from_ out) (hi : i ≤ l.length) (hc : i = l.length ∨ l.getD i 0 = 46) : ParI l (i + 1) (i + 1) (out ++ [(l.drop from_).take (i - from_)]) := by
 obtain ⟨h1, h2, h3, h4, h5⟩ := h
 have h4' := h4 hi
 refine ⟨Nat.le_refl _, by omega, by simp; omega, fun h => ?_, fun h => ?_⟩
 ·rw [drop_get (by omega), partsF, if_pos (by rcases hc with hc | hc; omega; exact hc)] at h4'
  rw [h4']
  simp
 ·rw [show i = l.length by omega, List.drop_length, partsF] at h4'
  rw [h4', show i = l.length by omega]
theorem ParI.go {l : List Int} {i from_ : Nat} {out : List (List Int)} (h : ParI l i from_ out) (hi : i < l.length) (hc : l.getD i 0 ≠ 46) : ParI l (i + 1) from_ out := by
 obtain ⟨h1, h2, h3, h4, h5⟩ := h
 have h4' := h4 (by omega)
 refine ⟨by omega, by omega, by omega, fun h => ?_, fun h => absurd h (by omega)⟩
 rw [drop_get hi, partsF, if_neg hc] at h4'
 rw [take_snoc h1 hi]
 exact h4'
attribute [local irreducible] Cs Own Ex Pu Yld RT LJ QJ AtQ CT Rd QSp Sp FinQ Then LoopQ CutQ DT TakeQ EffQ
attribute [local irreducible] Bd
variable {B : World} {R : List HP}
set_option maxHeartbeats 1000000 in
theorem rparts_fn {l : List Int} (hb : Byt l) (hl : l.length ≤ 1000000000000) : Sp B Tryz.prog 83 [.string (str l)] R [] (fun v H' => ∃ a c, v = .slice a (partsL l).length c ∧ H' = [Own a c 9 1 (partsL l).length (strs (partsL l))]) := by
 refine Sp.body Tryz.func83 rfl Tryz.ntmps83 (by simp) ?_
 simp only [argE, List.cons_append, List.nil_append, Nat.zero_add, Nat.reduceAdd]
 repeat' (first|(refine gv ?_;first|refine RT.id ?_|(refine⟨fun hc=>?_,fun hc=>?_⟩<;>first|(exfalso;omega)|skip)|refine gk ?_|refine num_m fun r hr=>?_|intro r hr)|refine gs ?_|(refine gb ?_;intro b)|refine gn ?_|(refine RT.isPush ?_;refine gp ?_;intro a' c' b' c1' hac)|refine gc ?_|fail)
 refine CT.weak (fun w h => Sat.nilOwn (e := 9) (sz := 1) h) ?_
 refine CT.loop (α := Nat × Nat × List (List Int) × Option Addr × Nat) (fun s => [(0, .string (str l)), (3, .slice s.2.2.2.1 s.2.2.1.length s.2.2.2.2), (4, .int .i64 s.2.1), (5, .int .i64 s.1)]) (fun s => Pu (ParI l s.1 s.2.1 s.2.2.1) :: Own s.2.2.2.1 s.2.2.2.2 9 1 s.2.2.1.length (strs s.2.2.1) :: R) (fun s => l.length + 1 - s.1) (0, 0, [], none, 0) ⟨rfl, rfl, rfl, rfl, trivial⟩
  (fun w h => Sat.pu_in ⟨Nat.le_refl _, by simp, by simp, fun _ => by simp [partsL], fun h => absurd h (by simp)⟩ h) (fun s => CT.pu fun hs => ?_)
 obtain ⟨i, from_, out, a, c⟩ := s
 simp only at hs ⊢
 obtain ⟨hs1, hs2, hs3, hs4, hs5⟩ := id hs
 have push : ∀ (y : List Int) (a' : Option Addr) (c' : Nat) (w : World), Sat B (Own a' c' 9 1 (out.length + 1) (strs out ++ [.string (str y)]) :: R) w → Sat B (Own a' c' 9 1 (out ++ [y]).length (strs (out ++ [y])) :: R) w := fun y a' c' w h => by
  have e : strs out ++ [.string (str y)] = strs (out ++ [y]) := by simp [strs]
  rw [e, show out.length + 1 = (out ++ [y]).length by simp] at h
  exact h
 repeat' (first|(refine gv ?_;first|refine RT.id ?_|(refine⟨fun hc=>?_,fun hc=>?_⟩<;>first|(exfalso;omega)|skip)|refine gk ?_|refine num_m fun r hr=>?_|intro r hr)|refine gs ?_|(refine gb ?_;intro b)|refine gn ?_|(refine RT.isPush ?_;refine gp ?_;intro a' c' b' c1' hac)|refine gc ?_|fail)
 ·refine RT.slsB T (j := from_) (j' := i) rfl rfl rfl rfl rfl hs1 (by omega) rfl rfl rfl ?_
  refine RT.push T rfl rfl rfl rfl (fun a' c' => by ((repeat constructor);done)) (by omega) (by omega) rfl rfl rfl rfl (fun a' c' b' c1' hac => ?_)
  repeat' (first|(refine gv ?_;first|refine RT.id ?_|(refine⟨fun hc=>?_,fun hc=>?_⟩<;>first|(exfalso;omega)|skip)|refine gk ?_|refine num_m fun r hr=>?_|intro r hr)|refine gs ?_|(refine gb ?_;intro b)|refine gn ?_|(refine RT.isPush ?_;refine gp ?_;intro a' c' b' c1' hac)|refine gc ?_|fail)
  exact AtQ.loop (i + 1, i + 1, out ++ [(l.drop from_).take (i - from_)], a', c') ⟨rfl, by simp only [List.length_append, List.length_singleton]; rfl, rfl, rfl, trivial⟩ (fun w h => Sat.pu_in (hs.dot (by omega) (.inl (by omega))) (push _ _ _ _ (h.frd (Ps := [_]) (Qs := []) (by (repeat (first|exact Fr.nil|(apply Fr.cons;focus ((repeat constructor);done)))))))) (by simp only; omega)
 ·(refine RT.ixs T (j := i) rfl rfl (by omega) (by omega) (by assumption) rfl rfl rfl ?_)
  repeat' (first|(refine gv ?_;first|refine RT.id ?_|(refine⟨fun hc=>?_,fun hc=>?_⟩<;>first|(exfalso;omega)|skip)|refine gk ?_|refine num_m fun r hr=>?_|intro r hr)|refine gs ?_|(refine gb ?_;intro b)|refine gn ?_|(refine RT.isPush ?_;refine gp ?_;intro a' c' b' c1' hac)|refine gc ?_|fail)
  ·refine RT.slsB T (j := from_) (j' := i) rfl rfl rfl rfl rfl hs1 (by omega) rfl rfl rfl ?_
   refine RT.push T rfl rfl rfl rfl (fun a' c' => by ((repeat constructor);done)) (by omega) (by omega) rfl rfl rfl rfl (fun a' c' b' c1' hac => ?_)
   repeat' (first|(refine gv ?_;first|refine RT.id ?_|(refine⟨fun hc=>?_,fun hc=>?_⟩<;>first|(exfalso;omega)|skip)|refine gk ?_|refine num_m fun r hr=>?_|intro r hr)|refine gs ?_|(refine gb ?_;intro b)|refine gn ?_|(refine RT.isPush ?_;refine gp ?_;intro a' c' b' c1' hac)|refine gc ?_|fail)
   exact AtQ.loop (i + 1, i + 1, out ++ [(l.drop from_).take (i - from_)], a', c') ⟨rfl, by simp only [List.length_append, List.length_singleton]; rfl, rfl, rfl, trivial⟩ (fun w h => Sat.pu_in (hs.dot (by omega) (.inr (by assumption))) (push _ _ _ _ (h.frd (Ps := [_]) (Qs := []) (by (repeat (first|exact Fr.nil|(apply Fr.cons;focus ((repeat constructor);done)))))))) (by simp only; omega)
  ·exact AtQ.loop (i + 1, from_, out, a, c) ⟨rfl, rfl, rfl, rfl, trivial⟩ (fun w h => Sat.pu_in (hs.go (by omega) (by assumption)) h) (by simp only; omega)
 ·have he := hs5 (by omega)
  subst he
  refine AtQ.fin1 (H' := [Own a c 9 1 (partsL l).length (strs (partsL l))]) Tryz.results83 rfl ?_ (fun _ h => h)
  exact ⟨a, c, rfl, rfl⟩
set_option maxHeartbeats 1000000 in
theorem rfull_fn {l : List Int} (hb : Byt l) (hl : l.length ≤ 140737488355328) : Sp B Tryz.prog 23 [.string (str l)] R [] (fun v H' => v = .bool (fullB l) ∧ H' = []) := by
 refine Sp.body Tryz.func23 rfl Tryz.ntmps23 (by simp) ?_
 simp only [argE, List.cons_append, List.nil_append, Nat.zero_add, Nat.reduceAdd]
 repeat' (first|(refine gv ?_;first|refine RT.id ?_|(refine⟨fun hc=>?_,fun hc=>?_⟩<;>first|(exfalso;omega)|skip)|refine gk ?_|refine num_m fun r hr=>?_|intro r hr)|refine gs ?_|(refine gb ?_;intro b)|refine gn ?_|(refine RT.isPush ?_;refine gp ?_;intro a' c' b' c1' hac)|refine gc ?_|fail)
 ·exact AtQ.f1 Tryz.results23 rfl (by rw [fullB_f (by rintro ⟨h, _⟩; omega)]) (fun w h => h)
 ·refine RT.call T rfl (by (repeat (first|exact Fr.nil|(apply Fr.cons;focus ((repeat constructor);done))))) (rparts_fn hb (by omega)) rfl rfl rfl ?_
  rintro _ _ ⟨a, c, rfl, rfl⟩
  simp only [List.cons_append, List.nil_append]
  have hpl := (partsF_len l []).1
  have hpb := partsF_byt l [] hb Byt.nil
  have hpl2 := (partsF_len l []).2
  refine RT.fact (p := (partsL l).length ≤ c) (fun w h => (Own.facts h (by ((repeat constructor);done))).2.1) fun hpc => ?_
  have hget : ∀ j, j < (partsL l).length → Byt ((partsL l).getD j []) ∧ ((partsL l).getD j []).length ≤ l.length := fun j hj => by
   rw [List.getD_eq_getElem?_getD, List.getElem?_eq_getElem hj]
   have := hpl2 _ (List.getElem_mem hj)
   exact ⟨hpb _ (List.getElem_mem hj), by simpa using this⟩
  repeat' (first|(refine gv ?_;first|refine RT.id ?_|(refine⟨fun hc=>?_,fun hc=>?_⟩<;>first|(exfalso;omega)|skip)|refine gk ?_|refine num_m fun r hr=>?_|intro r hr)|refine gs ?_|(refine gb ?_;intro b)|refine gn ?_|(refine RT.isPush ?_;refine gp ?_;intro a' c' b' c1' hac)|refine gc ?_|fail)
  refine CT.loop (α := Nat) (fun i => [(3, .slice a (partsL l).length c), (4, .int .i64 i)]) (fun i => Pu (i ≤ (partsL l).length ∧ ∀ j, j < i → identP ((partsL l).getD j [])) :: Own a c 9 1 (partsL l).length (strs (partsL l)) :: R) (fun i => (partsL l).length - i) 0 ⟨rfl, rfl, trivial⟩
   (fun w h => Sat.pu_in ⟨Nat.zero_le _, fun j hj => absurd hj (by omega)⟩ h) (fun i => CT.pu fun ⟨hi, ho⟩ => ?_)
  have hpl' : (partsL l).length ≤ l.length + 1 := hpl
  repeat' (first|(refine gv ?_;first|refine RT.id ?_|(refine⟨fun hc=>?_,fun hc=>?_⟩<;>first|(exfalso;omega)|skip)|refine gk ?_|refine num_m fun r hr=>?_|intro r hr)|refine gs ?_|(refine gb ?_;intro b)|refine gn ?_|(refine RT.isPush ?_;refine gp ?_;intro a' c' b' c1' hac)|refine gc ?_|fail)
  ·obtain ⟨g1, g2⟩ := hget i (by omega)
   refine RT.ix T (j := i) rfl rfl rfl (Own.rd (by ((repeat constructor);done)) (by rw [strs_len, Nat.mul_one]) hpc) (by omega) (by omega) (by omega) rfl rfl ?_
   refine RT.ldr T rfl (Own.rd (by ((repeat constructor);done)) (by rw [strs_len, Nat.mul_one]) hpc) (strs_get (i := i) (by omega)) rfl rfl rfl ?_
   (refine RT.call T rfl fR_ (rident_fn g1 (by omega)) rfl rfl rfl ?_; rintro _ _ ⟨rfl, rfl⟩; try simp only [List.cons_append, List.nil_append])
   rcases identB_cases ((partsL l).getD i []) with ⟨e, hp⟩ | ⟨e, hp⟩
   ·rw [e]
    repeat' (first|(refine gv ?_;first|refine RT.id ?_|(refine⟨fun hc=>?_,fun hc=>?_⟩<;>first|(exfalso;omega)|skip)|refine gk ?_|refine num_m fun r hr=>?_|intro r hr)|refine gs ?_|(refine gb ?_;intro b)|refine gn ?_|(refine RT.isPush ?_;refine gp ?_;intro a' c' b' c1' hac)|refine gc ?_|fail)
    exact AtQ.loop (i + 1) ⟨rfl, rfl, trivial⟩ (fun w h => Sat.pu_in ⟨by omega, fun j hj => by
     by_cases hji : j = i
     ·rw [hji]; exact hp
     ·exact ho j (by omega)⟩ h) (by omega)
   ·rw [e]
    repeat' (first|(refine gv ?_;first|refine RT.id ?_|(refine⟨fun hc=>?_,fun hc=>?_⟩<;>first|(exfalso;omega)|skip)|refine gk ?_|refine num_m fun r hr=>?_|intro r hr)|refine gs ?_|(refine gb ?_;intro b)|refine gn ?_|(refine RT.isPush ?_;refine gp ?_;intro a' c' b' c1' hac)|refine gc ?_|fail)
    exact AtQ.f1 Tryz.results23 rfl (by rw [fullB_f (fun h => hp (h.2 i (by omega)))]) (fun w h => h.tail)
  ·have hie : i = (partsL l).length := by omega
   subst hie
   exact AtQ.f1 Tryz.results23 rfl (by rw [fullB_t ⟨by omega, ho⟩]) (fun w h => h.tail)
end Go.Proofs.YtdemnhdoadjhhaaGreatDoor
end
section
namespace Go.Proofs.YtdemnhdoadjhhaaGreatDoor
open Go.Sk
set_option maxRecDepth 100000
theorem symE_file {fl sc : Txt} {e : EnumT} : ∀ s ∈ symE fl sc e, s.file = fl := fun s h => by
 unfold symE at h
 rcases List.mem_cons.1 h with rfl | h
 ·rfl
 ·obtain ⟨v, _, rfl⟩ := List.mem_map.1 h
  rfl
theorem symEs_file {fl sc : Txt} {l : List EnumT} : ∀ s ∈ l.flatMap (symE fl sc), s.file = fl := fun s h => by
 obtain ⟨e, _, h⟩ := List.mem_flatMap.1 h
 exact symE_file s h
mutual
theorem symM_file {fl : Txt} : ∀ {m : MsgT} {sc : Txt}, ∀ s ∈ symM fl m sc, s.file = fl
 | .mk nm fields oneofs ma mc msgs enums res names, sc, s, h => by
  unfold symM at h
  rcases List.mem_cons.1 h with rfl | h
  ·rfl
  rcases List.mem_append.1 h with h | h
  ·obtain ⟨v, _, rfl⟩ := List.mem_map.1 h
   rfl
  rcases List.mem_append.1 h with h | h
  ·obtain ⟨v, _, rfl⟩ := List.mem_map.1 h
   rfl
  rcases List.mem_append.1 h with h | h
  ·exact symMs_file s h
  ·exact symEs_file s h
theorem symMs_file {fl : Txt} : ∀ {l : List MsgT} {sc : Txt}, ∀ s ∈ symMs fl l sc, s.file = fl
 | [], sc, s, h => by unfold symMs at h; cases h
 | m :: l, sc, s, h => by
  unfold symMs at h
  rcases List.mem_append.1 h with h | h
  ·exact symM_file s h
  ·exact symMs_file s h
end
theorem symF_file {f : FileT} : ∀ s ∈ symF f, s.file = f.path := fun s h => by
 unfold symF at h
 rcases List.mem_append.1 h with h | h
 ·exact symMs_file s h
 ·exact symEs_file s h
theorem srt_adj {l : List SymT} (h : Srt befB l) {i : Nat} {x y : SymT} (hx : l[i]? = some x) (hy : l[i + 1]? = some y) : ltL y.full x.full = false := by
 obtain ⟨h1, rfl⟩ := List.getElem?_eq_some_iff.1 hx
 obtain ⟨h2, rfl⟩ := List.getElem?_eq_some_iff.1 hy
 exact (bef_f.1 (List.pairwise_iff_getElem.1 h i (i + 1) h1 h2 (by omega))).1
theorem nodup_adj {l : List SymT} (h : (l.map SymT.full).Nodup) {i : Nat} {x y : SymT} (hx : l[i]? = some x) (hy : l[i + 1]? = some y) : y.full ≠ x.full := by
 obtain ⟨h1, rfl⟩ := List.getElem?_eq_some_iff.1 hx
 obtain ⟨h2, rfl⟩ := List.getElem?_eq_some_iff.1 hy
 have := List.pairwise_iff_getElem.1 h i (i + 1) (by simpa using h1) (by simpa using h2) (by omega)
 simp only [List.getElem_map] at this
 exact fun e => this e.symm
attribute [local irreducible] Cs Own Ex Pu Yld RT LJ QJ AtQ CT Rd QSp Sp FinQ Then LoopQ CutQ DT TakeQ EffQ
variable {B : World} {R : List HP}
set_option maxHeartbeats 8000000 in
theorem apart_fn {mM : Int} (haw : ∀ R, Sp B Tryz.prog 8 [] R [] (fun v H' => v = .bool true ∧ H' = [])) (hU : Lib.Utf8Tabs 1 2 B) (hM : B.cell? ⟨0, 0, none⟩ = some (.int .i64 mM))
  {f : FileT} (hin : f.In (Rd B R)) (hok : f.Ok) :
  Sp B Tryz.prog 5 [.agg f.cells.toArray] R [] (fun v H' => v = .bool true ∧ H' = []) := by
 refine Sp.body Tryz.func5 rfl Tryz.ntmps5 (by simp) ?_
 simp only [argE, List.cons_append, List.nil_append, Nat.zero_add, Nat.reduceAdd]
 repeat' (first|(refine gv ?_;first|refine RT.id ?_|(refine⟨fun hc=>?_,fun hc=>?_⟩<;>first|(exfalso;omega)|skip)|refine gk ?_|refine num_m fun r hr=>?_|intro r hr)|refine gs ?_|(refine gb ?_;intro b)|refine gn ?_|(refine RT.isPush ?_;refine gp ?_;intro a' c' b' c1' hac)|refine gc ?_|fail)
 revert b
 intro fb
 refine RT.call T rfl (by (repeat (first|exact Fr.nil|(apply Fr.cons;focus ((repeat constructor);done))))) (haw _) rfl rfl rfl ?_
 rintro _ _ ⟨rfl, rfl⟩
 try simp only [List.cons_append, List.nil_append]
 repeat' (first|(refine gv ?_;first|refine RT.id ?_|(refine⟨fun hc=>?_,fun hc=>?_⟩<;>first|(exfalso;omega)|skip)|refine gk ?_|refine num_m fun r hr=>?_|intro r hr)|refine gs ?_|(refine gb ?_;intro b)|refine gn ?_|(refine RT.isPush ?_;refine gp ?_;intro a' c' b' c1' hac)|refine gt ?_|refine gc ?_|fail)
 refine RT.call T rfl (by (repeat (first|exact Fr.nil|(apply Fr.cons;focus ((repeat constructor);done))))) (weight_fn (f := f) (FileT.In.mono (fun _ _ _ _ _ h => (by repeat (first | exact (h) | apply Rd.cons))) hin) hok) rfl rfl rfl ?_
 rintro _ _ ⟨⟨w1, rfl, hw10, hw1⟩, rfl⟩
 try simp only [List.cons_append, List.nil_append]
 repeat' (first|(refine gv ?_;first|refine RT.id ?_|(refine⟨fun hc=>?_,fun hc=>?_⟩<;>first|(exfalso;omega)|skip)|refine gk ?_|refine num_m fun r hr=>?_|intro r hr)|refine gs ?_|(refine gb ?_;intro b)|refine gn ?_|(refine RT.isPush ?_;refine gp ?_;intro a' c' b' c1' hac)|refine gt ?_|refine gc ?_|fail)
 ·exact AtQ.f1 (HH := []) Tryz.results5 rfl rfl dR_
 have hf := hw1 (by omega)
 refine RT.call T rfl (by (repeat (first|exact Fr.nil|(apply Fr.cons;focus ((repeat constructor);done))))) (checkC_fn (f := f) hU hM (FileT.In.mono (fun _ _ _ _ _ h => (by repeat (first | exact (h) | apply Rd.cons))) hin) hok hf.ns) rfl rfl rfl ?_
 rintro _ _ ⟨rfl, rfl⟩
 simp only [List.nil_append]
 have hap := apart (f := f)
 generalize checkL f = q1 at hap ⊢
 obtain ⟨q1, q2⟩ := q1
 dsimp only at hap ⊢
 repeat' (first|(refine gv ?_;first|refine RT.id ?_|(refine⟨fun hc=>?_,fun hc=>?_⟩<;>first|(exfalso;omega)|skip)|refine gk ?_|refine num_m fun r hr=>?_|intro r hr)|refine gs ?_|(refine gb ?_;intro b)|refine gn ?_|(refine RT.isPush ?_;refine gp ?_;intro a' c' b' c1' hac)|refine gt ?_|refine gc ?_|fail)
 revert b
 intro ab
 refine RT.call T rfl (by (repeat (first|exact Fr.nil|(apply Fr.cons;focus ((repeat constructor);done))))) (symbols_fn (f := f) (FileT.In.mono (fun _ _ _ _ _ h => (by repeat (first | exact (h) | apply Rd.cons))) hin) hok hf) rfl rfl rfl ?_
 rintro _ _ ⟨la, lc, sl, rfl, hlc, hpm, hst, rfl⟩
 simp only [List.cons_append, List.nil_append]
 repeat' (first|(refine gv ?_;first|refine RT.id ?_|(refine⟨fun hc=>?_,fun hc=>?_⟩<;>first|(exfalso;omega)|skip)|refine gk ?_|refine num_m fun r hr=>?_|intro r hr)|refine gs ?_|(refine gb ?_;intro b)|refine gn ?_|(refine RT.isPush ?_;refine gp ?_;intro a' c' b' c1' hac)|refine gt ?_|refine gc ?_|fail)
 refine RT.call T rfl (by (repeat (first|exact Fr.nil|(apply Fr.cons;focus ((repeat constructor);done))))) (rsymbols_fn (f := f) (FileT.In.mono (fun _ _ _ _ _ h => (by repeat (first | exact (h) | apply Rd.cons))) hin) hok hf) rfl rfl rfl ?_
 rintro _ _ ⟨ra, rc, rl, rfl, hrc, hpr, rfl⟩
 simp only [List.cons_append, List.nil_append]
 have hll : sl.length = rl.length := by rw [hpm.length_eq, hpr.length_eq]
 have hsl : sl.length ≤ 16777216 := by rw [hpm.length_eq, symF_len]; exact hf.cnt
 have hsok : ∀ s ∈ sl, s.Ok := fun s hs => symF_ok hok s (hpm.mem_iff.1 hs)
 have hsfl : ∀ s ∈ sl, s.file = f.path := fun s hs => symF_file s (hpm.mem_iff.1 hs)
 have hpb := hok.path.1
 have hap2 : q1 = 0 → q2 = [] ∧ (sl.map SymT.full).Nodup ∧ ∀ s ∈ sl, fullB s.full = true := fun h => by
  obtain ⟨h1, h2, h3⟩ := hap h
  exact ⟨h1, (hpm.map SymT.full).nodup_iff.2 h2, fun s hs => h3 s (hpm.mem_iff.1 hs)⟩
 have hfc : f.cells = [vS f.path, vS f.pack, f.imps.v, .slice f.ma f.msgs.length f.mc, f.enums.v] := rfl
 clear hap hin hw1 hf hw10
 refine RT.weak (H' := Own la lc 79 3 sl.length (sl.flatMap SymT.cells) :: Cs ab 33 [.int .i64 q1, vS q2] :: Cs fb 26 f.cells :: R) (fun w h => h.frd (Ps := [_, _, _]) (Qs := [_]) (by (repeat (first|exact Fr.nil|(apply Fr.cons;focus ((repeat constructor);done)))))) ?_
 repeat' (first|(refine gv ?_;first|refine RT.id ?_|(refine⟨fun hc=>?_,fun hc=>?_⟩<;>first|(exfalso;omega)|skip)|refine gk ?_|refine num_m fun r hr=>?_|intro r hr)|refine gs ?_|(refine gb ?_;intro b)|refine gn ?_|(refine RT.isPush ?_;refine gp ?_;intro a' c' b' c1' hac)|refine gt ?_|refine gc ?_|fail)
 refine CT.loop (α := Nat) (fun i => [(1, .pointer (some ⟨fb, 0, none⟩)), (4, .pointer (some ⟨ab, 0, none⟩)), (5, .slice la sl.length lc), (7, .int .i64 i)])
  (fun i => Pu (i ≤ sl.length) :: Own la lc 79 3 sl.length (sl.flatMap SymT.cells) :: Cs ab 33 [.int .i64 q1, vS q2] :: Cs fb 26 f.cells :: R) (fun i => sl.length - i) 0
  ⟨rfl, rfl, rfl, rfl, trivial⟩ (fun w h => Sat.pu_in (Nat.zero_le _) h) (fun i => CT.pu fun hi => ?_)
 repeat' (first|(refine gv ?_;first|refine RT.id ?_|(refine⟨fun hc=>?_,fun hc=>?_⟩<;>first|(exfalso;omega)|skip)|refine gk ?_|refine num_m fun r hr=>?_|intro r hr)|refine gs ?_|(refine gb ?_;intro b)|refine gn ?_|(refine RT.isPush ?_;refine gp ?_;intro a' c' b' c1' hac)|refine gc ?_|fail)
 ·have hi' : i < sl.length := by omega
  obtain ⟨s, hs⟩ : ∃ s, sl[i]? = some s := ⟨_, List.getElem?_eq_getElem hi'⟩
  have hsm := List.mem_of_getElem? hs
  refine RT.ix T (j := i * 3) rfl rfl rfl (own_rd (by ((repeat constructor);done)) hlc) (by omega) (by omega) (by omega) rfl rfl ?_
  refine RT.faA T rfl rfl rfl rfl ?_
  refine RT.ldr (u := vS s.file) T rfl (own_rd (by ((repeat constructor);done)) hlc) (by rw [flat_get (f := SymT.cells) (z := 3) (fun _ => rfl) hs (by decide)]; rfl) rfl rfl rfl ?_
  rw [hfc]
  repeat' (first|(refine gv ?_;first|refine RT.id ?_|(refine⟨fun hc=>?_,fun hc=>?_⟩<;>first|(exfalso;omega)|skip)|refine gk ?_|refine num_m fun r hr=>?_|intro r hr)|refine gs ?_|(refine gb ?_;intro b)|refine gn ?_|(refine RT.isPush ?_;refine gp ?_;intro a' c' b' c1' hac)|refine gc ?_|fail)
  refine RT.nes (l := s.file) (l' := f.path) rfl rfl (hsok s hsm).2.2 hpb rfl rfl (fun he => ?_) (fun he => absurd (hsfl s hsm) he)
  repeat' (first|(refine gv ?_;first|refine RT.id ?_|(refine⟨fun hc=>?_,fun hc=>?_⟩<;>first|(exfalso;omega)|skip)|refine gk ?_|refine num_m fun r hr=>?_|intro r hr)|refine gs ?_|(refine gb ?_;intro b)|refine gn ?_|(refine RT.isPush ?_;refine gp ?_;intro a' c' b' c1' hac)|refine gc ?_|fail)
  ·obtain ⟨i, rfl⟩ : ∃ k, i = k + 1 := ⟨i - 1, by omega⟩
   obtain ⟨s0, hs0⟩ : ∃ s, sl[i]? = some s := ⟨_, List.getElem?_eq_getElem (by omega)⟩
   have hsm0 := List.mem_of_getElem? hs0
   refine RT.ix T (j := (i + 1) * 3) rfl rfl rfl (own_rd (by ((repeat constructor);done)) hlc) (by omega) (by omega) (by omega) rfl rfl ?_
   refine RT.faA T rfl rfl rfl rfl ?_
   refine RT.ldr (u := vS s.full) T rfl (own_rd (by ((repeat constructor);done)) hlc) (by rw [flat_get (f := SymT.cells) (z := 3) (fun _ => rfl) hs (by decide)]; rfl) rfl rfl rfl ?_
   repeat' (first|(refine gv ?_;first|refine RT.id ?_|(refine⟨fun hc=>?_,fun hc=>?_⟩<;>first|(exfalso;omega)|skip)|refine gk ?_|refine num_m fun r hr=>?_|intro r hr)|refine gs ?_|(refine gb ?_;intro b)|refine gn ?_|(refine RT.isPush ?_;refine gp ?_;intro a' c' b' c1' hac)|refine gc ?_|fail)
   refine RT.ix T (j := i * 3) rfl rfl rfl (own_rd (by ((repeat constructor);done)) hlc) (by omega) (by omega) (by omega) rfl rfl ?_
   refine RT.faA T rfl rfl rfl rfl ?_
   refine RT.ldr (u := vS s0.full) T rfl (own_rd (by ((repeat constructor);done)) hlc) (by rw [flat_get (f := SymT.cells) (z := 3) (fun _ => rfl) hs0 (by decide)]; rfl) rfl rfl rfl ?_
   refine RT.lts (l := s.full) (l' := s0.full) rfl rfl (hsok s hsm).1 (hsok s0 hsm0).1 rfl rfl ?_
   rw [srt_adj hst hs0 hs]
   repeat' (first|(refine gv ?_;first|refine RT.id ?_|(refine⟨fun hc=>?_,fun hc=>?_⟩<;>first|(exfalso;omega)|skip)|refine gk ?_|refine num_m fun r hr=>?_|intro r hr)|refine gs ?_|(refine gb ?_;intro b)|refine gn ?_|(refine RT.isPush ?_;refine gp ?_;intro a' c' b' c1' hac)|refine gc ?_|fail)
   exact AtQ.loop (i + 1 + 1) ⟨rfl, rfl, rfl, rfl, trivial⟩ (fun w h => Sat.pu_in (by omega) h) (by omega)
  ·exact AtQ.loop (i + 1) ⟨rfl, rfl, rfl, rfl, trivial⟩ (fun w h => Sat.pu_in (by omega) h) (by omega)
 rotate_left
 ·exact AtQ.f1 (HH := []) Tryz.results5 rfl rfl dR_
 obtain ⟨rfl, hnd, hfu⟩ := hap2 (by omega)
 clear hap2
 refine CT.loop (α := Nat) (fun i => [(4, .pointer (some ⟨ab, 0, none⟩)), (5, .slice la sl.length lc), (8, .int .i64 i)])
  (fun i => Pu (i ≤ sl.length) :: Own la lc 79 3 sl.length (sl.flatMap SymT.cells) :: Cs ab 33 [.int .i64 q1, vS []] :: Cs fb 26 f.cells :: R) (fun i => sl.length - i) 0
  ⟨rfl, rfl, rfl, trivial⟩ (fun w h => Sat.pu_in (Nat.zero_le _) h) (fun i => CT.pu fun hi => ?_)
 repeat' (first|(refine gv ?_;first|refine RT.id ?_|(refine⟨fun hc=>?_,fun hc=>?_⟩<;>first|(exfalso;omega)|skip)|refine gk ?_|refine num_m fun r hr=>?_|intro r hr)|refine gs ?_|(refine gb ?_;intro b)|refine gn ?_|(refine RT.isPush ?_;refine gp ?_;intro a' c' b' c1' hac)|refine gc ?_|fail)
 ·have hi' : i < sl.length := by omega
  obtain ⟨s, hs⟩ : ∃ s, sl[i]? = some s := ⟨_, List.getElem?_eq_getElem hi'⟩
  have hsm := List.mem_of_getElem? hs
  refine RT.ix T (j := i * 3) rfl rfl rfl (own_rd (by ((repeat constructor);done)) hlc) (by omega) (by omega) (by omega) rfl rfl ?_
  refine RT.faA T rfl rfl rfl rfl ?_
  refine RT.ldr (u := vS s.full) T rfl (own_rd (by ((repeat constructor);done)) hlc) (by rw [flat_get (f := SymT.cells) (z := 3) (fun _ => rfl) hs (by decide)]; rfl) rfl rfl rfl ?_
  have hfs := hfu s hsm
  have hfl := fullB_len hfs
  (refine RT.call T rfl fR_ (rfull_fn (hsok s hsm).1 (by omega)) rfl rfl rfl ?_; rintro _ _ ⟨rfl, rfl⟩; try simp only [List.cons_append, List.nil_append])
  rw [hfs]
  repeat' (first|(refine gv ?_;first|refine RT.id ?_|(refine⟨fun hc=>?_,fun hc=>?_⟩<;>first|(exfalso;omega)|skip)|refine gk ?_|refine num_m fun r hr=>?_|intro r hr)|refine gs ?_|(refine gb ?_;intro b)|refine gn ?_|(refine RT.isPush ?_;refine gp ?_;intro a' c' b' c1' hac)|refine gc ?_|fail)
  ·obtain ⟨i, rfl⟩ : ∃ k, i = k + 1 := ⟨i - 1, by omega⟩
   obtain ⟨s0, hs0⟩ : ∃ s, sl[i]? = some s := ⟨_, List.getElem?_eq_getElem (by omega)⟩
   have hsm0 := List.mem_of_getElem? hs0
   refine RT.ix T (j := (i + 1) * 3) rfl rfl rfl (own_rd (by ((repeat constructor);done)) hlc) (by omega) (by omega) (by omega) rfl rfl ?_
   refine RT.faA T rfl rfl rfl rfl ?_
   refine RT.ldr (u := vS s.full) T rfl (own_rd (by ((repeat constructor);done)) hlc) (by rw [flat_get (f := SymT.cells) (z := 3) (fun _ => rfl) hs (by decide)]; rfl) rfl rfl rfl ?_
   repeat' (first|(refine gv ?_;first|refine RT.id ?_|(refine⟨fun hc=>?_,fun hc=>?_⟩<;>first|(exfalso;omega)|skip)|refine gk ?_|refine num_m fun r hr=>?_|intro r hr)|refine gs ?_|(refine gb ?_;intro b)|refine gn ?_|(refine RT.isPush ?_;refine gp ?_;intro a' c' b' c1' hac)|refine gc ?_|fail)
   refine RT.ix T (j := i * 3) rfl rfl rfl (own_rd (by ((repeat constructor);done)) hlc) (by omega) (by omega) (by omega) rfl rfl ?_
   refine RT.faA T rfl rfl rfl rfl ?_
   refine RT.ldr (u := vS s0.full) T rfl (own_rd (by ((repeat constructor);done)) hlc) (by rw [flat_get (f := SymT.cells) (z := 3) (fun _ => rfl) hs0 (by decide)]; rfl) rfl rfl rfl ?_
   refine RT.eqs (l := s.full) (l' := s0.full) rfl rfl (hsok s hsm).1 (hsok s0 hsm0).1 rfl rfl (fun he => absurd he (nodup_adj hnd hs0 hs)) (fun he => ?_)
   repeat' (first|(refine gv ?_;first|refine RT.id ?_|(refine⟨fun hc=>?_,fun hc=>?_⟩<;>first|(exfalso;omega)|skip)|refine gk ?_|refine num_m fun r hr=>?_|intro r hr)|refine gs ?_|(refine gb ?_;intro b)|refine gn ?_|(refine RT.isPush ?_;refine gp ?_;intro a' c' b' c1' hac)|refine gc ?_|fail)
   exact AtQ.loop (i + 1 + 1) ⟨rfl, rfl, rfl, trivial⟩ (fun w h => Sat.pu_in (by omega) h) (by omega)
  ·exact AtQ.loop (i + 1) ⟨rfl, rfl, rfl, trivial⟩ (fun w h => Sat.pu_in (by omega) h) (by omega)
 ·refine RT.eqs (l := []) (l' := []) rfl rfl Byt.nil Byt.nil rfl rfl (fun he => ?_) (fun he => absurd rfl he)
  repeat' (first|(refine gv ?_;first|refine RT.id ?_|(refine⟨fun hc=>?_,fun hc=>?_⟩<;>first|(exfalso;omega)|skip)|refine gk ?_|refine num_m fun r hr=>?_|intro r hr)|refine gs ?_|(refine gb ?_;intro b)|refine gn ?_|(refine RT.isPush ?_;refine gp ?_;intro a' c' b' c1' hac)|refine gc ?_|fail)
  exact AtQ.f1 (HH := []) Tryz.results5 rfl rfl dR_
end Go.Proofs.YtdemnhdoadjhhaaGreatDoor
end
