/- Merged: E11, O6, D50, T3, T4, T5, T6, U1, U2, J50, U3, U4, R20, R21, R22, R23, LW. -/
import Derived.Test.YtclcnhfponjdaaaGreatDoorWB
import Derived.Test.YtclcnhfponjdaaaGreatDoorSkB
import Derived.Test.YtclcnhfponjdaaaGreatDoorWA
import Derived.Test.YtclcnhfponjdaaaGreatDoorSkA
set_option linter.unusedVariables false
set_option linter.unusedSimpArgs false
section
namespace Go.Proofs.YtclcnhfponjdaaaGreatDoor
open Go.Sk
set_option maxRecDepth 100000
def encB (l : List FileT) : Txt := (encodeL l).1.getD []
theorem encodeL_bad {l : List FileT} (h : l.all goodFl = false) : encodeL l = (none, 70) := by unfold encodeL; rw [if_neg (by rw [h]; decide)]
theorem encodeL_ok {l : List FileT} (h : l.all goodFl = true) (h2 : (setB l).length ≤ 16777216) : encodeL l = (some (setB l), 0) := by unfold encodeL; rw [if_pos h, if_pos h2]
theorem encodeL_full {l : List FileT} (h : l.all goodFl = true) (h2 : ¬ (setB l).length ≤ 16777216) : encodeL l = (none, 71) := by unfold encodeL; rw [if_pos h, if_neg h2]
attribute [local irreducible] Cs Own Ex Pu Yld RT LJ QJ AtQ CT Rd QSp Sp FinQ Then LoopQ CutQ DT TakeQ EffQ
attribute [local irreducible] FinD SpD RecQ Bag Wr StAt
variable {B : World} {R : List HP}
theorem enc1_ret {cb ce : Nat} : SpD B Tryz.prog 59 [ptr cb, ptr ce] .returning .returning R [] [] := by
 refine SpD.body2 Tryz.func59 rfl Tryz.results59 Tryz.ntmps59 (by simp) (by decide) (by decide) (.inl ⟨rfl, rfl, rfl⟩) ?_
 simp only [argE, List.cons_append, List.nil_append, Nat.zero_add, Nat.reduceAdd]
 try refine gL ?_
 refine RT.innil rfl ⟨_, Tryz.underlying20⟩ (.inl ⟨rfl, rfl⟩) rfl rfl ?_
 try refine gL ?_
 exact AtQ.rec_ (.inl rfl) (fun w h => h)
theorem enc1_pan {cb ce : Nat} {x y : Value} : SpD B Tryz.prog 59 [ptr cb, ptr ce] (.panicking (pan rfv)) (.panicking [{ v := rfv, recovered := true }]) R [Cs cb 23 [x], Cs ce 29 [y]] [Cs cb 23 [.slice none 0 0], Cs ce 29 [.int .i64 70]] := by
 refine SpD.body2 Tryz.func59 rfl Tryz.results59 Tryz.ntmps59 (by simp) (by decide) (by decide) (.inr ⟨_, rfl, rfl, rfl⟩) ?_
 simp only [argE, List.cons_append, List.nil_append, Nat.zero_add, Nat.reduceAdd]
 try refine gL ?_
 refine RT.innil rfl ⟨_, Tryz.underlying20⟩ (.inr ⟨_, _, rfl, rfl⟩) rfl rfl ?_
 try refine gL ?_
 refine RT.tassert rfl Tryz.underlying148 (by intro b h; cases h) rfl rfl ?_
 repeat' (first|refine gM ?_|(refine gb ?_;intro b)|fail)
 exact AtQ.rec_ (.inl rfl) (fun w h => h.frd (Ps := [_, _]) (Qs := [_]) fR_)
theorem star_drop {X : List HP} {h : PH} (A : List HP) (s : star (A ++ X) h) : star X h := by
 obtain ⟨_, _, _, _, l2, _, sR⟩ := star_split A X h s
 exact star_up X l2 sR
theorem Sat.dropMid {p : HP} {X : List HP} {w : World} (A : List HP) (s : Sat B (p :: (A ++ X)) w) : Sat B (p :: X) w := s.mono fun _ hs => star_cons_mono (fun _ hs => star_drop A hs) hs
theorem goodFl_ms {f : FileT} (h : goodFl f = true) : goodMsL f.msgs 0 = true := by
 unfold goodFl at h
 simp only [Bool.and_eq_true] at h
 exact h.1.2
set_option maxHeartbeats 8000000 in
theorem encode_fn (hT : Lib.Utf8Tabs 0 1 B) {a : Option Addr} {c : Nat} {l : List FileT} (hR : Rd B R a l.length c 5 (l.flatMap FileT.cells)) (hin : ∀ f ∈ l, f.In (Rd B R)) (hok : ∀ f ∈ l, f.Ok) (hl : l.length ≤ 140737488355328) :
  Sp B Tryz.prog 18 [.slice a l.length c] R [] (fun v H' => ∃ a2 c2, v = .tuple #[.slice a2 (encB l).length c2, .int .i64 (encodeL l).2] ∧ H' = [own8 a2 c2 (encB l) (encB l).length]) := by
 refine Sp.bodyD Tryz.func18 rfl Tryz.ntmps18 (by simp) ?_
 simp only [argE, List.cons_append, List.nil_append, Nat.zero_add, Nat.reduceAdd]
 repeat' (first|refine gL ?_|(refine gb ?_;intro b)|fail)
 rename_i cb
 revert b
 intro ce
 refine RT.mkF rfl rfl rfl ?_
 refine RT.defer (caps := [ptr cb, ptr ce]) rfl rfl rfl ?_
 try refine gL ?_
 refine CT.loop (α := Nat) (fun i => [(0, .slice a l.length c), (2, ptr cb), (3, ptr ce), (9, .slice a l.length c), (10, .int .i64 l.length), (11, .int .i64 i)]) (fun i => Pu (i ≤ l.length ∧ (l.take i).all goodFl = true) :: Cs ce 29 [.int .i64 0] :: Cs cb 23 [.slice none 0 0] :: R) (fun i => l.length - i) 0
  ⟨rfl, rfl, rfl, rfl, rfl, rfl, trivial⟩ (fun w h => Sat.pu_in ⟨Nat.zero_le _, rfl⟩ h) (fun i => CT.pu fun ⟨hil, hF⟩ => ?_)
 repeat' (first|refine gL ?_|(refine gv ?_;(refine⟨fun hc=>?_,fun hc=>?_⟩<;>first|(exfalso;omega)|skip))|fail)
 ·have hi' : i < l.length := by omega
  have hgi := List.getElem?_eq_getElem hi'
  revert hgi
  generalize l[i] = f
  intro hgi
  have hme := List.mem_of_getElem? hgi
  refine RT.ix T (j := i * 5) rfl rfl rfl (rD (hR)) (by omega) (by omega) (by omega) rfl rfl ?_
  refine RT.ldra T rfl (rD (hR)) (l := f.cells) (flat_sub (f := FileT.cells) (z := 5) (fun _ => rfl) l i _ hgi) rfl rfl rfl rfl ?_
  repeat' (first|refine gM ?_|(refine gb ?_;intro b)|fail)
  revert b
  intro b5
  skip
  (refine RT.callP T rfl fR_ (goodFl_fn hT (f := f) (FileT.In.mono (fun _ _ _ _ _ h => (rD (h))) (hin f hme)) (hok f hme)) rfl rfl rfl (fun v H1 hp => ?_) (fun v H1 hp => ?_))
  ·obtain ⟨h4, rfl, rfl⟩ := hp
   (repeat refine nx ?_)
   have hb := all_not (f := goodFl) hgi h4
   exact AtQ.finDp (n := 41) (R2 := Cs b5 75 f.cells :: R) (Hf := [own8 none 0 [] 0]) (fun args w => run_call (T := T) rfl) enc1_pan fR_ (res_two T Tryz.results18 rfl rfl sE_ rfl rfl sE_) ⟨none, 0, by unfold encB; rw [encodeL_bad hb]; rfl, by unfold encB; rw [encodeL_bad hb]; rfl⟩ (fun w h => Sat.nilOwn h.tail.tail.tail)
  obtain ⟨h4, rfl⟩ := hp
  simp only [List.nil_append]
  repeat' (first|refine gL ?_|(refine gv ?_;refine gk ?_)|fail)
  exact AtQ.loop (i + 1) ⟨rfl, rfl, rfl, rfl, rfl, rfl, trivial⟩ (fun w h => Sat.pu_in ⟨by omega, all_take hgi hF h4⟩ h.tail) (by omega)
 obtain rfl : i = l.length := by omega
 rw [List.take_length] at hF
 refine RT.call T rfl fR_ (newWriter_ok (by decide) (by decide)) rfl rfl rfl ?_
 rintro _ _ ⟨pw, rfl, rfl⟩
 simp only [List.cons_append, List.nil_append]
 try refine gL ?_
 refine RT.call T rfl fR_ tables_fn rfl rfl rfl ?_
 rintro _ _ ⟨t, rfl, rfl⟩
 refine RT.weak (fun w h => h.sel (selApp (tblH t))) ?_
 refine RT.fact (p := Facts B (tblH t ++ (Cs ce 29 [.int .i64 0] :: Cs cb 23 [.slice none 0 0] :: R)) t) (fun w h => facts_of h.tail) (fun hT => ?_)
 repeat' (first|refine gL ?_|(refine gb ?_;intro b)|fail)
 rename_i bo
 revert b
 intro bs
 have hO : Rd B (Cs bs 98 [.slice a l.length c] :: Cs bo 156 [ptr pw, .int .i64 0] :: (tblH t ++ (Cs ce 29 [.int .i64 0] :: Cs cb 23 [.slice none 0 0] :: R))) (some ⟨bo, 0, none⟩) 1 1 2 [ptr pw, .int .i64 0] := Cs.rd (.t .h)
 have hX : StAt B (Cs bs 98 [.slice a l.length c] :: Cs bo 156 [ptr pw, .int .i64 0] :: (tblH t ++ (Cs ce 29 [.int .i64 0] :: Cs cb 23 [.slice none 0 0] :: R))) ⟨bs, 0, none⟩ [.slice a l.length c] := StAt.cs (Cs.rd (l := [.slice a l.length c]) .h)
 have hu2 : ∀ {a' k' c' z' xs'}, Rd B R a' k' c' z' xs' → Rd B (Cs bs 98 [.slice a l.length c] :: Cs bo 156 [ptr pw, .int .i64 0] :: (tblH t ++ (Cs ce 29 [.int .i64 0] :: Cs cb 23 [.slice none 0 0] :: R))) a' k' c' z' xs' := fun h => ((Rd.under h.cons.cons (tblH t)).cons).cons
 have hS0 : Wok 104 ⟨[], 16777216, [], 0⟩ := ⟨⟨by decide, by decide, by decide⟩, by decide, fun _ => ⟨fun x h => (by cases h), by decide⟩⟩
 refine RT.call T rfl fR_ (set_w (pe := bo) (pw := pw) (ad := ⟨bs, 0, none⟩) (v := ⟨a, c, l⟩) hT.cons.cons hO hX hl (hu2 hR) hok (fun f hf => FileT.In.mono (fun _ _ _ _ _ h => hu2 h) (hin f hf)) (fun f hf => goodFl_ms (List.all_eq_true.1 hF f hf)) hS0) rfl rfl rfl ?_
 rintro _ _ ⟨rfl, S1, hW, rfl⟩
 simp only [List.cons_append, List.nil_append]
 refine RT.weak (fun w h => Sat.dropMid (Cs bs 98 [.slice a l.length c] :: Cs bo 156 [ptr pw, .int .i64 0] :: tblH t) h) ?_
 clear hT hO hX hu2
 dsimp only at hW
 try refine gL ?_
 by_cases hfit : (setB l).length ≤ 16777216
 ·have e1 := hW.fits rfl (by simp only [List.length_nil]; omega)
  have hd : WS.done S1 = (setB l, 0) := by rw [e1]; rfl
  refine RT.call T rfl fR_ (done_fn hW.ok (by have := (hW.wok hS0).2.1; omega)) rfl rfl rfl ?_
  rw [hd]
  rintro _ _ ⟨a2, c2, rfl, rfl⟩
  simp only [List.cons_append, List.nil_append]
  repeat' (first|refine gL ?_|(refine gv ?_;(refine⟨fun hc=>?_,fun hc=>?_⟩<;>first|(exfalso;omega)|skip))|fail)
  exact AtQ.finD (n := 41) (R2 := own8 a2 c2 (setB l) (setB l).length :: Wr pw S1 :: Cs ce 29 [.int .i64 0] :: Cs cb 23 [.slice a2 (setB l).length c2] :: R) (Hf := [own8 a2 c2 (setB l) (setB l).length]) (fun args w => run_call (T := T) rfl) enc1_ret fR_ (res_two T Tryz.results18 rfl rfl sE_ rfl rfl sE_)
   ⟨a2, c2, by unfold encB; rw [encodeL_ok hF hfit]; rfl, by unfold encB; rw [encodeL_ok hF hfit]; rfl⟩ (fun w h => h.frd (Ps := [_]) (Qs := [_, _, _]) fR_) (.inr rfl)
 ·have e1 := hW.not rfl (by simp only [List.length_nil]; omega)
  have hne := e1.1
  have hd : WS.done S1 = ([], S1.e) := by unfold WS.done; rw [if_neg hne]
  refine RT.call T rfl fR_ (done_fn hW.ok (by have := (hW.wok hS0).2.1; omega)) rfl rfl rfl ?_
  rw [hd]
  rintro _ _ ⟨a2, c2, rfl, rfl⟩
  simp only [List.cons_append, List.nil_append]
  repeat' (first|refine gL ?_|(refine gv ?_;(refine⟨fun hc=>?_,fun hc=>?_⟩<;>first|(exfalso;omega)|skip))|fail)
  exact AtQ.finD (n := 41) (R2 := own8 a2 c2 [] 0 :: Wr pw S1 :: Cs ce 29 [.int .i64 71] :: Cs cb 23 [.slice none 0 0] :: R) (Hf := [own8 none 0 [] 0]) (fun args w => run_call (T := T) rfl) enc1_ret fR_ (res_two T Tryz.results18 rfl rfl sE_ rfl rfl sE_)
   ⟨none, 0, by unfold encB; rw [encodeL_full hF hfit]; rfl, by unfold encB; rw [encodeL_full hF hfit]; rfl⟩ (fun w h => Sat.nilOwn h.tail.tail.tail.tail) (.inr rfl)
end Go.Proofs.YtclcnhfponjdaaaGreatDoor
end
section
namespace Go.Proofs.YtclcnhfponjdaaaGreatDoor
open Go.Sk
set_option maxRecDepth 100000
theorem fileB_le (x : FileT) : (fileB x).length ≤ 8 * wF x := by
 have h2 := fText_le 1 x.path
 have h3 := fText_le 2 x.pack
 have h4 := imps_le 3 x.imps.l
 have h5 := msgs_le x.msgs 0
 have h6 := enums_le 5 x.enums.l
 unfold fileB wF
 simp only [List.length_append]
 omega
theorem RT.outp {B : World} {n : Fm} {p : Nat} {l0 rest : List Oper} {E : Env} {H : List HP} {Q : Exit → Act → World → Prop} {b : Txt} {bad : Bool} (h : ∀ x : Option Addr × Nat, RT B Tryz.prog n true l0 rest E (outp p x.1 b.length x.2 bad :: own8 x.1 x.2 b b.length :: H) Q) : RT B Tryz.prog n true l0 rest E (OutP p b bad :: H) Q := RT.ex h
attribute [local irreducible] Cs Own Ex Pu Yld RT LJ QJ AtQ CT Rd QSp Sp FinQ Then LoopQ CutQ DT TakeQ EffQ
attribute [local irreducible] OutP
variable {B : World} {R : List HP}
set_option maxHeartbeats 4000000 in
theorem rencode_fn {a : Option Addr} {c : Nat} {l : List FileT} (hR : Rd B R a l.length c 5 (l.flatMap FileT.cells)) (hin : ∀ f ∈ l, f.In (Rd B R)) (hok : ∀ f ∈ l, f.Ok) (hw : wFs l ≤ 33554432) :
  Sp B Tryz.prog 22 [.slice a l.length c] R [] (fun v H' => ∃ a2 c2, v = .tuple #[.slice a2 (encB l).length c2, .int .i64 (encodeL l).2] ∧ H' = [own8 a2 c2 (encB l) (encB l).length]) := by
 have hll := (wFs_sm hw).1
 have hsl := set_le l
 unfold wFs at hw
 refine Sp.body Tryz.func22 rfl Tryz.ntmps22 (by simp) ?_
 simp only [argE, List.cons_append, List.nil_append, Nat.zero_add, Nat.reduceAdd]
 repeat' (first|refine gL ?_|(refine gb ?_;intro b)|fail)
 revert b
 intro bo
 refine CT.weak (fun w h => newOut h) ?_
 refine CT.loop (α := Nat) (fun i => [(0, .slice a l.length c), (4, .pointer (some ⟨bo, 0, none⟩)), (5, .int .i64 i)]) (fun i => Pu (i ≤ l.length) :: OutP bo (fRecs 1 fileB (l.take i)) (false || !(l.take i).all goodFl) :: R) (fun i => l.length - i) 0
  ⟨rfl, rfl, rfl, trivial⟩ (fun w h => Sat.pu_in (Nat.zero_le _) h) (fun i => CT.pu fun hil => ?_)
 have htl : (fRecs 1 fileB (l.take i)).length ≤ (fRecs 1 fileB l).length := take_le (f := fun x => fBytes 1 (fileB x)) l i
 have hst : (fRecs 1 fileB l).length ≤ 8 * wFs l := hsl
 unfold wFs at hst
 repeat' (first|refine gL ?_|(refine gv ?_;(refine⟨fun hc=>?_,fun hc=>?_⟩<;>first|(exfalso;omega)|skip))|fail)
 ·have hi' : i < l.length := by omega
  have hgi := List.getElem?_eq_getElem hi'
  revert hgi
  generalize l[i] = s
  intro hgi
  have hme := List.mem_of_getElem? hgi
  have hws := sum_mem (f := wF) hme
  refine RT.ix T (j := i * 5) rfl rfl rfl (rD (hR)) (by omega) (by omega) (by omega) rfl rfl ?_
  refine RT.ldra T rfl (rD (hR)) (l := s.cells) (flat_sub (f := FileT.cells) (z := 5) (fun _ => rfl) l i _ hgi) rfl rfl rfl rfl ?_
  skip
  refine RT.call T rfl fR_ (ofile_fn (f := s) (FileT.In.mono (fun _ _ _ _ _ h => (rD (h))) (hin s hme)) (hok s hme) (by omega)) rfl rfl rfl ?_
  rintro _ _ ⟨bi, rfl, rfl⟩
  simp only [List.cons_append, List.nil_append]
  skip
  have hbl := fileB_le s
  (refine RT.call T rfl fR_ (orecord_fn (num := 1) (b := fRecs 1 fileB (l.take i)) (by decide) (by decide) (by omega) (by omega)) rfl rfl rfl ?_; rintro _ _ ⟨rfl, rfl⟩; try simp only [List.cons_append, List.nil_append])
  repeat' (first|refine gL ?_|(refine gv ?_;refine gk ?_)|fail)
  exact AtQ.loop (i + 1) ⟨rfl, rfl, rfl, trivial⟩ (fun w h => Sat.pu_in (by omega) (by rw [fRecs_snoc hgi, ← or_all (f := goodFl) _ hgi]; exact h.frd (Ps := [_]) (Qs := []) fR_)) (by omega)
 obtain rfl : i = l.length := by omega
 rw [List.take_length, Bool.false_or]
 refine RT.outp fun x => ?_
 have hs : fRecs 1 fileB l = setB l := rfl
 rw [hs] at *
 cases hg : l.all goodFl
 ·try refine gL ?_
  exact AtQ.fin2 (H' := [own8 none 0 [] 0]) Tryz.results22 rfl rfl ⟨none, 0, by unfold encB; rw [encodeL_bad hg]; rfl, by unfold encB; rw [encodeL_bad hg]; rfl⟩ (fun w h => Sat.nilOwn h.tail.tail)
 ·repeat' (first|refine gL ?_|(refine gv ?_;(refine⟨fun hc=>?_,fun hc=>?_⟩<;>first|(exfalso;omega)|skip))|fail)
  ·exact AtQ.fin2 (H' := [own8 none 0 [] 0]) Tryz.results22 rfl rfl ⟨none, 0, by unfold encB; rw [encodeL_full hg (by omega)]; rfl, by unfold encB; rw [encodeL_full hg (by omega)]; rfl⟩ (fun w h => Sat.nilOwn h.tail.tail)
  ·exact AtQ.fin2 (H' := [own8 x.1 x.2 (setB l) (setB l).length]) Tryz.results22 rfl rfl ⟨x.1, x.2, by unfold encB; rw [encodeL_ok hg (by omega)]; rfl, by unfold encB; rw [encodeL_ok hg (by omega)]; rfl⟩ (fun w h => h.frd (Ps := [_]) (Qs := [_]) fR_)
end Go.Proofs.YtclcnhfponjdaaaGreatDoor
end
section
namespace Go.Proofs.YtclcnhfponjdaaaGreatDoor
open Go.Sk
set_option maxRecDepth 100000
def hshS (h x : Int) : Int := (IntKind.u64.wrap ((BitVec.ofInt IntKind.u64.bits h ^^^ BitVec.ofInt IntKind.u64.bits (x % 18446744073709551616)).toNat : Int) * 1099511628211) % 18446744073709551616
def digB (l : Txt) : Int := l.foldl hshS 14695981039346656037
def digestL (f : FileT) : Int := if (encodeL [f]).2 = 0 then digB (encB [f]) else 0
theorem dig_step {l : Txt} {i : Nat} (h : i < l.length) : (l.take (i + 1)).foldl hshS 14695981039346656037 = hshS ((l.take i).foldl hshS 14695981039346656037) (l.getD i 0) := by
 rw [List.take_add_one, List.getElem?_eq_getElem h, List.foldl_append, List.getD_eq_getElem?_getD, List.getElem?_eq_getElem h]
 rfl
theorem encB_len (l : List FileT) : (encB l).length ≤ 16777216 := by
 unfold encB encodeL
 split
 ·split
  ·assumption
  ·simp
 ·simp
attribute [local irreducible] Cs Own Ex Pu Yld RT LJ QJ AtQ CT Rd QSp Sp FinQ Then LoopQ CutQ DT TakeQ EffQ
variable {B : World} {R : List HP}
set_option maxHeartbeats 2000000 in
theorem digest_fn (hT : Lib.Utf8Tabs 0 1 B) {f : FileT} (hin : f.In (Rd B R)) (hok : f.Ok) :
  Sp B Tryz.prog 23 [.agg f.cells.toArray] R [] (fun v H' => v = .int .u64 (digestL f) ∧ H' = []) := by
 refine Sp.body Tryz.func23 rfl Tryz.ntmps23 (by simp) ?_
 simp only [argE, List.cons_append, List.nil_append, Nat.zero_add, Nat.reduceAdd]
 repeat' (first|refine gM ?_|(refine gb ?_;intro b)|fail)
 revert b
 intro b1
 refine RT.bsA T (l := f.cells) rfl rfl rfl rfl rfl rfl rfl rfl (fun a0 => ?_)
 skip
 have hR0 : Rd B (Own a0 1 75 5 1 f.cells :: Cs b1 75 f.cells :: R) a0 ([f] : List FileT).length 1 5 (([f] : List FileT).flatMap FileT.cells) := by
  have := Own.rd (B := B) (H := Own a0 1 75 5 1 f.cells :: Cs b1 75 f.cells :: R) (a := a0) (c := 1) (sz := 5) (k := 1) (xs := f.cells) .h rfl (Nat.le_refl _)
  simpa using this
 refine RT.call T rfl fR_ (encode_fn (l := [f]) (a := a0) (c := 1) hT hR0 (fun g hg => by rw [List.mem_singleton.1 hg]; exact FileT.In.mono (fun _ _ _ _ _ h => (rD (h))) hin) (fun g hg => by rw [List.mem_singleton.1 hg]; exact hok) (by simp)) rfl rfl rfl ?_
 rintro _ _ ⟨a2, c2, rfl, rfl⟩
 simp only [List.cons_append, List.nil_append]
 have hel := encB_len [f]
 unfold digestL
 generalize encB [f] = bs at *
 generalize (encodeL [f]).2 = er at *
 repeat' (first|refine gL ?_|(refine gv ?_;(refine⟨fun hc=>?_,fun hc=>?_⟩<;>first|(exfalso;omega)|skip))|fail)
 ·rw [if_pos hc]
  refine CT.fact (p := bs.length ≤ c2) (fun w h => (Own.facts h .h).2.1) fun hc2 => ?_
  refine CT.loop (α := Nat) (fun i => [(16, .slice a2 bs.length c2), (17, .int .i64 bs.length), (18, .int .i64 i), (5, .int .u64 ((bs.take i).foldl hshS 14695981039346656037))]) (fun i => Pu (i ≤ bs.length) :: own8 a2 c2 bs bs.length :: R) (fun i => bs.length - i) 0
   ⟨rfl, rfl, rfl, rfl, trivial⟩ (fun w h => Sat.pu_in (Nat.zero_le _) (h.frd (Ps := [_]) (Qs := [_, _]) fR_)) (fun i => CT.pu fun hil => ?_)
  repeat' (first|refine gL ?_|(refine gv ?_;(refine⟨fun hc=>?_,fun hc=>?_⟩<;>first|(exfalso;omega)|skip))|fail)
  ·have hi' : i < bs.length := by omega
   refine RT.ix T (j := i) rfl rfl rfl (Own.rdI sE_ rfl hc2) (by omega) (by omega) (by omega) rfl rfl ?_
   refine RT.ldi T rfl (Own.rdI sE_ rfl hc2) (by omega) rfl rfl rfl ?_
   repeat' (first|refine gL ?_|(refine gv ?_;refine num_m fun r hr=>?_)|fail)
   subst hr
   refine RT.ar rfl rfl (y_xor rfl rfl rfl) rfl rfl ?_
   repeat' (first|refine gL ?_|(refine gv ?_;first|refine gk ?_|refine num_m fun r hr=>?_)|fail)
   have hE : r = hshS ((bs.take i).foldl hshS 14695981039346656037) (bs.getD i 0) := hr.symm
   exact AtQ.loop (i + 1) ⟨rfl, rfl, rfl, by rw [dig_step hi', ← hE]; rfl, trivial⟩ (fun w h => Sat.pu_in (by omega) h) (by omega)
  ·obtain rfl : i = bs.length := by omega
   rw [List.take_length]
   exact AtQ.f1 (HH := []) Tryz.results23 rfl rfl (fun w h => h.tail)
 ·rw [if_neg hc]
  exact AtQ.f1 (HH := []) Tryz.results23 rfl rfl dR_
set_option maxHeartbeats 2000000 in
theorem rdigest_fn {f : FileT} (hin : f.In (Rd B R)) (hok : f.Ok) (hw : wF f ≤ 33554432) :
  Sp B Tryz.prog 24 [.agg f.cells.toArray] R [] (fun v H' => v = .int .u64 (digestL f) ∧ H' = []) := by
 refine Sp.body Tryz.func24 rfl Tryz.ntmps24 (by simp) ?_
 simp only [argE, List.cons_append, List.nil_append, Nat.zero_add, Nat.reduceAdd]
 repeat' (first|refine gM ?_|(refine gb ?_;intro b)|fail)
 revert b
 intro b1
 refine RT.bsA T (l := f.cells) rfl rfl rfl rfl rfl rfl rfl rfl (fun a0 => ?_)
 skip
 have hR0 : Rd B (Own a0 1 75 5 1 f.cells :: Cs b1 75 f.cells :: R) a0 ([f] : List FileT).length 1 5 (([f] : List FileT).flatMap FileT.cells) := by
  have := Own.rd (B := B) (H := Own a0 1 75 5 1 f.cells :: Cs b1 75 f.cells :: R) (a := a0) (c := 1) (sz := 5) (k := 1) (xs := f.cells) .h rfl (Nat.le_refl _)
  simpa using this
 refine RT.call T rfl fR_ (rencode_fn (l := [f]) (a := a0) (c := 1) hR0 (fun g hg => by rw [List.mem_singleton.1 hg]; exact FileT.In.mono (fun _ _ _ _ _ h => (rD (h))) hin) (fun g hg => by rw [List.mem_singleton.1 hg]; exact hok) (by simpa [wFs] using hw)) rfl rfl rfl ?_
 rintro _ _ ⟨a2, c2, rfl, rfl⟩
 simp only [List.cons_append, List.nil_append]
 have hel := encB_len [f]
 unfold digestL
 generalize encB [f] = bs at *
 generalize (encodeL [f]).2 = er at *
 repeat' (first|refine gL ?_|(refine gv ?_;(refine⟨fun hc=>?_,fun hc=>?_⟩<;>first|(exfalso;omega)|skip))|fail)
 ·rw [if_pos hc]
  refine CT.fact (p := bs.length ≤ c2) (fun w h => (Own.facts h .h).2.1) fun hc2 => ?_
  refine CT.loop (α := Nat) (fun i => [(3, .slice a2 bs.length c2), (6, .int .i64 i), (5, .int .u64 ((bs.take i).foldl hshS 14695981039346656037))]) (fun i => Pu (i ≤ bs.length) :: own8 a2 c2 bs bs.length :: R) (fun i => bs.length - i) 0
   ⟨rfl, rfl, rfl, trivial⟩ (fun w h => Sat.pu_in (Nat.zero_le _) (h.frd (Ps := [_]) (Qs := [_, _]) fR_)) (fun i => CT.pu fun hil => ?_)
  repeat' (first|refine gL ?_|(refine gv ?_;(refine⟨fun hc=>?_,fun hc=>?_⟩<;>first|(exfalso;omega)|skip))|fail)
  ·have hi' : i < bs.length := by omega
   refine RT.ix T (j := i) rfl rfl rfl (Own.rdI sE_ rfl hc2) (by omega) (by omega) (by omega) rfl rfl ?_
   refine RT.ldi T rfl (Own.rdI sE_ rfl hc2) (by omega) rfl rfl rfl ?_
   repeat' (first|refine gL ?_|(refine gv ?_;refine num_m fun r hr=>?_)|fail)
   subst hr
   refine RT.ar rfl rfl (y_xor rfl rfl rfl) rfl rfl ?_
   repeat' (first|refine gL ?_|(refine gv ?_;first|refine gk ?_|refine num_m fun r hr=>?_)|fail)
   have hE : r = hshS ((bs.take i).foldl hshS 14695981039346656037) (bs.getD i 0) := hr.symm
   exact AtQ.loop (i + 1) ⟨rfl, rfl, by rw [dig_step hi', ← hE]; rfl, trivial⟩ (fun w h => Sat.pu_in (by omega) h) (by omega)
  ·obtain rfl : i = bs.length := by omega
   rw [List.take_length]
   exact AtQ.f1 (HH := []) Tryz.results24 rfl rfl (fun w h => h.tail)
 ·rw [if_neg hc]
  exact AtQ.f1 (HH := []) Tryz.results24 rfl rfl dR_
end Go.Proofs.YtclcnhfponjdaaaGreatDoor
end
section
namespace Go.Proofs.YtclcnhfponjdaaaGreatDoor
open Go.Sk
set_option maxRecDepth 100000
attribute [local irreducible] Cs Own Ex Pu Yld RT LJ QJ AtQ CT Rd QSp Sp FinQ Then LoopQ CutQ DT TakeQ EffQ
variable {B : World} {R : List HP}
set_option maxHeartbeats 8000000 in
theorem lentE_fn {r : Rw EnumT} (hR : Rd B R r.a r.l.length r.c 5 (r.l.flatMap EnumT.cells)) (hk : r.l.length ≤ 8388608) (hin : ∀ e ∈ r.l, e.In (Rd B R)) (hsm : ∀ e ∈ r.l, ESm e) :
  Sp B Tryz.prog 67 [r.v] R [] (fun v H' => ∃ (a : Option Addr) (c : Nat) (l : List EnumT), v = .slice a l.length c ∧ l.map EnumT.er = r.l.map EnumT.er ∧ H' = [rowH 85 5 EnumT.cells lentE a c l, Bag (l.flatMap eRows)]) := by
 obtain ⟨a, c, l⟩ := r
 simp only [Rw.v] at *
 refine Sp.body Tryz.func67 rfl Tryz.ntmps67 (by simp) ?_
 simp only [argE, List.cons_append, List.nil_append, Nat.zero_add, Nat.reduceAdd]
 try refine gL ?_
 refine CT.weak (fun w h => Sat.nilOwn (e := 85) (sz := 5) (Bag.nil_ h)) ?_
 refine CT.loop (α := Nat × List EnumT × Option Addr × Nat) (fun s => [(0, .slice a l.length c), (3, .slice s.2.2.1 s.2.1.length s.2.2.2), (4, .int .i64 s.1)])
  (fun s => Pu (s.1 ≤ l.length ∧ s.2.1.map EnumT.er = (l.take s.1).map EnumT.er) :: Own s.2.2.1 s.2.2.2 85 5 s.2.1.length (s.2.1.flatMap EnumT.cells) :: Bag (s.2.1.flatMap eRows) :: R) (fun s => l.length - s.1) (0, [], none, 0)
  ⟨rfl, rfl, rfl, trivial⟩ (fun w h => Sat.pu_in ⟨Nat.zero_le _, rfl⟩ h) (fun ⟨i, l2, a2, c2⟩ => CT.pu fun ⟨hi, hl2⟩ => ?_)
 dsimp only at hi hl2 ⊢
 have hn2 : l2.length = i := by have := congrArg List.length hl2; simp at this; omega
 repeat' (first|refine gL ?_|(refine gv ?_;(refine⟨fun hc=>?_,fun hc=>?_⟩<;>first|(exfalso;omega)|skip))|fail)
 ·have hil : i < l.length := by omega
  have hgi := List.getElem?_eq_getElem hil
  revert hgi
  generalize l[i] = e
  intro hgi
  have hme := List.mem_of_getElem? hgi
  obtain ⟨es1, es2, es3⟩ := hsm e hme
  obtain ⟨ei1, ei2, ei3⟩ := hin e hme
  refine RT.ix T (j := i * 5) rfl rfl rfl (rD (hR)) (by omega) (by omega) (by omega) rfl rfl ?_
  refine RT.ldra T rfl (rD (hR)) (l := e.cells) (flat_sub (f := EnumT.cells) (z := 5) (fun _ => rfl) l i _ hgi) rfl rfl rfl rfl ?_
  repeat' (first|refine gM ?_|(refine gb ?_;intro b)|fail)
  revert b
  intro b0
  refine RT.weak (fun w h => Sat.nilOwn (e := 80) (sz := 2) h) ?_
  refine RT.app T (xs := []) (ys := e.vals.l.flatMap EValT.cells) rfl rfl rfl (fun a' c' => by ((repeat constructor);done)) (rD (ei1)) (one_flat one_ev _) (by omega) (by omega) rfl rfl rfl rfl (fun a3 c3 hc3 => ?_)
  simp only [Nat.zero_add, List.nil_append]
  try refine gL ?_
  refine RT.weak (fun w h => Sat.nilOwn (e := 196) (sz := 2) h) ?_
  refine RT.app T (xs := []) (ys := e.res.l.flatMap SpanT.cells) rfl rfl rfl (fun a' c' => by ((repeat constructor);done)) (rD (ei2)) (one_flat one_sp _) (by omega) (by omega) rfl rfl rfl rfl (fun a4 c4 hc4 => ?_)
  simp only [Nat.zero_add, List.nil_append]
  try refine gL ?_
  refine CT.loop (α := Nat × (Option Addr × Nat) × (Option Addr × Nat)) (fun s => [(0, .slice a l.length c), (3, .slice a2 l2.length c2), (4, .int .i64 i), (5, .pointer (some ⟨b0, 0, none⟩)), (6, .slice s.2.1.1 (e.vals.l.length + s.1) s.2.1.2), (7, .slice s.2.2.1 (e.res.l.length + s.1) s.2.2.2), (8, .int .i64 s.1)])
   (fun s => Pu (s.1 ≤ 5) :: Own s.2.2.1 s.2.2.2 196 2 (e.res.l.length + s.1) ((e.res.l ++ List.replicate s.1 lentSp).flatMap SpanT.cells) :: Own s.2.1.1 s.2.1.2 80 2 (e.vals.l.length + s.1) ((e.vals.l ++ List.replicate s.1 lentEV).flatMap EValT.cells) ::
    Cs b0 85 e.cells :: Own a2 c2 85 5 l2.length (l2.flatMap EnumT.cells) :: Bag (l2.flatMap eRows) :: R) (fun s => 5 - s.1) (0, (a3, c3), (a4, c4))
   ⟨rfl, rfl, rfl, rfl, rfl, rfl, rfl, trivial⟩ (fun w h => Sat.pu_in (Nat.zero_le _) (by simp only [List.replicate_zero, List.append_nil, Nat.add_zero]; exact h)) (fun ⟨k, ⟨a5, c5⟩, a6, c6⟩ => CT.pu fun hk5 => ?_)
  dsimp only at hk5 ⊢
  repeat' (first|refine gL ?_|(refine gv ?_;(refine⟨fun hc=>?_,fun hc=>?_⟩<;>first|(exfalso;omega)|skip))|fail)
  ·refine RT.bsA T (l := lentEV.cells) rfl rfl rfl rfl rfl rfl rfl rfl (fun a7 => ?_)
   refine RT.app T (xs := (e.vals.l ++ List.replicate k lentEV).flatMap EValT.cells) (ys := lentEV.cells) rfl rfl rfl (fun a' c' => by ((repeat constructor);done)) (Own.rd sE_ rfl (Nat.le_refl _)) (one_ev _) (by omega) (by omega) rfl rfl rfl rfl (fun a8 c8 hc8 => ?_)
   try refine gL ?_
   refine RT.bsA T (l := lentSp.cells) rfl rfl rfl rfl rfl rfl rfl rfl (fun a9 => ?_)
   refine RT.app T (xs := (e.res.l ++ List.replicate k lentSp).flatMap SpanT.cells) (ys := lentSp.cells) rfl rfl rfl (fun a' c' => by ((repeat constructor);done)) (Own.rd sE_ rfl (Nat.le_refl _)) (one_sp _) (by omega) (by omega) rfl rfl rfl rfl (fun a10 c10 hc10 => ?_)
   repeat' (first|refine gL ?_|(refine gv ?_;refine gk ?_)|fail)
   exact AtQ.loop (k + 1, (a8, c8), (a10, c10)) ⟨rfl, rfl, rfl, rfl, rfl, rfl, rfl, trivial⟩ (fun w h => Sat.pu_in (by omega) (by
    have h2 := h.tail.tail
    rw [flat_app, flat_app, rep_snoc, rep_snoc] at h2
    exact h2)) (by dsimp only; omega)
  obtain rfl : k = 5 := by omega
  refine RT.fact (p := e.vals.l.length + 5 ≤ c5 ∧ e.res.l.length + 5 ≤ c6) (fun w h => ⟨(Own.facts h (.t .h)).2.1, (Own.facts h .h).2.1⟩) (fun ⟨hc5, hc6⟩ => ?_)
  refine RT.slhi T (j := e.vals.l.length) rfl rfl rfl (by omega) rfl rfl rfl ?_
  rw [asub_z]
  try refine gL ?_
  refine RT.slhi T (j := e.res.l.length) rfl rfl rfl (by omega) rfl rfl rfl ?_
  rw [asub_z]
  try refine gL ?_
  refine RT.call T rfl fR_ (lentT_fn (a := e.names.a) (n := e.names.l.length) (c := e.names.c) (ls := e.names.l) (rD (ei3)) rfl (by omega)) rfl rfl rfl ?_
  rintro _ _ ⟨a7, c7, rfl, hc7, rfl⟩
  simp only [List.cons_append, List.nil_append]
  try refine gM ?_
  refine RT.bsA T (l := EnumT.cells ⟨e.nm, ⟨a5, c5, e.vals.l⟩, e.ali, ⟨a6, c6, e.res.l⟩, ⟨a7, c7, e.names.l⟩⟩) rfl rfl rfl rfl rfl rfl rfl rfl (fun a9 => ?_)
  refine RT.app T (xs := l2.flatMap EnumT.cells) (ys := EnumT.cells ⟨e.nm, ⟨a5, c5, e.vals.l⟩, e.ali, ⟨a6, c6, e.res.l⟩, ⟨a7, c7, e.names.l⟩⟩) rfl rfl rfl (fun a' c' => by ((repeat constructor);done)) (Own.rd sE_ rfl (Nat.le_refl _)) (one_en _) (by omega) (by omega) rfl rfl rfl rfl (fun a10 c10 hc10 => ?_)
  repeat' (first|refine gL ?_|(refine gv ?_;refine gk ?_)|fail)
  exact AtQ.loop (i + 1, l2 ++ [⟨e.nm, ⟨a5, c5, e.vals.l⟩, e.ali, ⟨a6, c6, e.res.l⟩, ⟨a7, c7, e.names.l⟩⟩], a10, c10) ⟨rfl, by rw [List.length_append]; rfl, rfl, trivial⟩ (fun w h => Sat.pu_in ⟨by omega, by
   rw [List.map_append, hl2, List.take_add_one, hgi, List.map_append]
   rfl⟩ (by
    have h2 := h.frd (Ps := [rowH 80 2 EValT.cells lentEV a5 c5 e.vals.l, rowH 196 2 SpanT.cells lentSp a6 c6 e.res.l, txH ⟨a7, c7, e.names.l⟩, Bag (l2.flatMap eRows), Own a10 c10 85 5 (l2.length + 1) (l2.flatMap EnumT.cells ++ EnumT.cells ⟨e.nm, ⟨a5, c5, e.vals.l⟩, e.ali, ⟨a6, c6, e.res.l⟩, ⟨a7, c7, e.names.l⟩⟩)]) (Qs := [_, _]) (R := R) fR_
    have h3 := Bag.add (qs := eRows ⟨e.nm, ⟨a5, c5, e.vals.l⟩, e.ali, ⟨a6, c6, e.res.l⟩, ⟨a7, c7, e.names.l⟩⟩) (ps := l2.flatMap eRows) h2
    have h4 := h3.fr (Ps := [Own a10 c10 85 5 (l2.length + 1) (l2.flatMap EnumT.cells ++ EnumT.cells ⟨e.nm, ⟨a5, c5, e.vals.l⟩, e.ali, ⟨a6, c6, e.res.l⟩, ⟨a7, c7, e.names.l⟩⟩), Bag (l2.flatMap eRows ++ eRows ⟨e.nm, ⟨a5, c5, e.vals.l⟩, e.ali, ⟨a6, c6, e.res.l⟩, ⟨a7, c7, e.names.l⟩⟩)]) (R := R) fR_
    rw [flat_app] at h4
    simp only [List.length_append, List.length_singleton, List.flatMap_append, List.flatMap_cons, List.flatMap_nil, List.append_nil] at h4 ⊢
    exact h4)) (by dsimp only; omega)
 obtain rfl : i = l.length := by omega
 rw [List.take_length] at hl2
 refine CT.loop (α := Nat × Option Addr × Nat) (fun s => [(0, .slice a l.length c), (3, .slice s.2.1 (l2.length + s.1) s.2.2), (9, .int .i64 s.1)])
  (fun s => Pu (s.1 ≤ 5) :: Own s.2.1 s.2.2 85 5 (l2.length + s.1) ((l2 ++ List.replicate s.1 lentE).flatMap EnumT.cells) :: Bag (l2.flatMap eRows) :: R) (fun s => 5 - s.1) (0, a2, c2)
  ⟨rfl, rfl, rfl, trivial⟩ (fun w h => Sat.pu_in (Nat.zero_le _) (by simp only [List.replicate_zero, List.append_nil, Nat.add_zero]; exact h)) (fun ⟨k, a5, c5⟩ => CT.pu fun hk5 => ?_)
 dsimp only at hk5 ⊢
 repeat' (first|refine gL ?_|(refine gv ?_;(refine⟨fun hc=>?_,fun hc=>?_⟩<;>first|(exfalso;omega)|skip))|fail)
 ·refine RT.bsA T (l := lentE.cells) rfl rfl rfl rfl rfl rfl rfl rfl (fun a7 => ?_)
  refine RT.app T (xs := (l2 ++ List.replicate k lentE).flatMap EnumT.cells) (ys := lentE.cells) rfl rfl rfl (fun a' c' => by ((repeat constructor);done)) (Own.rd sE_ rfl (Nat.le_refl _)) (one_en _) (by omega) (by omega) rfl rfl rfl rfl (fun a8 c8 hc8 => ?_)
  repeat' (first|refine gL ?_|(refine gv ?_;refine gk ?_)|fail)
  exact AtQ.loop (k + 1, a8, c8) ⟨rfl, rfl, rfl, trivial⟩ (fun w h => Sat.pu_in (by omega) (by
   have h2 := h.tail
   rw [flat_app, rep_snoc] at h2
   exact h2)) (by dsimp only; omega)
 obtain rfl : k = 5 := by omega
 refine RT.fact (p := l2.length + 5 ≤ c5) (fun w h => (Own.facts h .h).2.1) (fun hc5 => ?_)
 refine RT.slhi T (j := l.length) rfl rfl rfl (by omega) rfl rfl rfl ?_
 rw [asub_z]
 try refine gL ?_
 exact AtQ.fin1 (H' := [rowH 85 5 EnumT.cells lentE a5 c5 l2, Bag (l2.flatMap eRows)]) Tryz.results67 rfl ⟨a5, c5, l2, by rw [hn2], hl2, rfl⟩ (fun w h => h)
end Go.Proofs.YtclcnhfponjdaaaGreatDoor
end
section
namespace Go.Proofs.YtclcnhfponjdaaaGreatDoor
open Go.Sk
set_option maxRecDepth 100000
attribute [local irreducible] Cs Own Ex Pu Yld RT LJ QJ AtQ CT Rd QSp Sp FinQ Then LoopQ CutQ DT TakeQ EffQ
variable {B : World}
set_option maxHeartbeats 16000000 in
theorem lentM_fn (d : Nat) : ∀ {R : List HP} {a : Option Addr} {c : Nat} {l : List MsgT}, MsgT.deepL l ≤ d → Rd B R a l.length c 7 (l.flatMap MsgT.cells) → l.length ≤ 8388608 → MsgT.InL (Rd B R) l → MsgT.SmL l →
  Sp B Tryz.prog 66 [.slice a l.length c] R [] (fun v H' => ∃ (a : Option Addr) (c : Nat) (l' : List MsgT), v = .slice a l'.length c ∧ l'.map mEr = l.map mEr ∧ H' = [rowH 187 7 MsgT.cells lentM a c l', Bag (l'.flatMap mRows)]) := by
 induction d using Nat.strongRecOn with
 | _ d ih =>
 intro R a c l hd hR hk hin hsm
 refine Sp.body Tryz.func66 rfl Tryz.ntmps66 (by simp) ?_
 simp only [argE, List.cons_append, List.nil_append, Nat.zero_add, Nat.reduceAdd]
 try refine gL ?_
 refine CT.weak (fun w h => Sat.nilOwn (e := 187) (sz := 7) (Bag.nil_ h)) ?_
 refine CT.loop (α := Nat × List MsgT × Option Addr × Nat) (fun s => [(0, .slice a l.length c), (3, .slice s.2.2.1 s.2.1.length s.2.2.2), (4, .int .i64 s.1)])
  (fun s => Pu (s.1 ≤ l.length ∧ s.2.1.map mEr = (l.take s.1).map mEr) :: Own s.2.2.1 s.2.2.2 187 7 s.2.1.length (s.2.1.flatMap MsgT.cells) :: Bag (s.2.1.flatMap mRows) :: R) (fun s => l.length - s.1) (0, [], none, 0)
  ⟨rfl, rfl, rfl, trivial⟩ (fun w h => Sat.pu_in ⟨Nat.zero_le _, rfl⟩ h) (fun ⟨i, l2, a2, c2⟩ => CT.pu fun ⟨hi, hl2⟩ => ?_)
 dsimp only at hi hl2 ⊢
 have hn2 : l2.length = i := by have := congrArg List.length hl2; simp at this; omega
 repeat' (first|refine gL ?_|(refine gv ?_;(refine⟨fun hc=>?_,fun hc=>?_⟩<;>first|(exfalso;omega)|skip))|fail)
 ·have hil : i < l.length := by omega
  have hgi := List.getElem?_eq_getElem hil
  revert hgi
  generalize l[i] = m
  intro hgi
  have hme := List.mem_of_getElem? hgi
  have hmo := MsgT.smL_mem hsm hme
  have hmi := MsgT.inL_mem hin hme
  have hmd := Nat.le_trans (MsgT.deep_mem hme) hd
  obtain ⟨nm, fields, oneofs, ma, mc, msgs, enums, res, names⟩ := m
  unfold MsgT.Sm at hmo
  unfold MsgT.In at hmi
  unfold MsgT.deep at hmd
  obtain ⟨es1, es2, es3, es4, es5, es6, es7, es8⟩ := hmo
  obtain ⟨if1, io1, im1, ie1, ie2, ir1, it1, im2⟩ := hmi
  refine RT.ix T (j := i * 7) rfl rfl rfl (rD (hR)) (by omega) (by omega) (by omega) rfl rfl ?_
  refine RT.ldra T rfl (rD (hR)) (l := [vS nm, fields.v, oneofs.v, .slice ma msgs.length mc, enums.v, res.v, names.v]) (flat_sub (f := MsgT.cells) (z := 7) (fun _ => rfl) l i _ hgi) rfl rfl rfl rfl ?_
  repeat' (first|refine gM ?_|(refine gb ?_;intro b)|fail)
  revert b
  intro b0
  refine RT.weak (fun w h => Sat.nilOwn (e := 240) (sz := 9) h) ?_
  refine RT.app T (xs := []) (ys := fields.l.flatMap FieldT.cells) rfl rfl rfl (fun a' c' => by ((repeat constructor);done)) (rD (if1)) (one_flat one_fd _) (by omega) (by omega) rfl rfl rfl rfl (fun a3 c3 hc3 => ?_)
  simp only [Nat.zero_add, List.nil_append]
  try refine gL ?_
  refine RT.weak (fun w h => Sat.nilOwn (e := 196) (sz := 2) h) ?_
  refine RT.app T (xs := []) (ys := res.l.flatMap SpanT.cells) rfl rfl rfl (fun a' c' => by ((repeat constructor);done)) (rD (ir1)) (one_flat one_sp _) (by omega) (by omega) rfl rfl rfl rfl (fun a4 c4 hc4 => ?_)
  simp only [Nat.zero_add, List.nil_append]
  try refine gL ?_
  refine CT.loop (α := Nat × (Option Addr × Nat) × (Option Addr × Nat)) (fun s => [(0, .slice a l.length c), (3, .slice a2 l2.length c2), (4, .int .i64 i), (5, .pointer (some ⟨b0, 0, none⟩)), (6, .slice s.2.1.1 (fields.l.length + s.1) s.2.1.2), (7, .slice s.2.2.1 (res.l.length + s.1) s.2.2.2), (8, .int .i64 s.1)])
   (fun s => Pu (s.1 ≤ 5) :: Own s.2.2.1 s.2.2.2 196 2 (res.l.length + s.1) ((res.l ++ List.replicate s.1 lentSp).flatMap SpanT.cells) :: Own s.2.1.1 s.2.1.2 240 9 (fields.l.length + s.1) ((fields.l ++ List.replicate s.1 lentF).flatMap FieldT.cells) ::
    Cs b0 187 [vS nm, fields.v, oneofs.v, .slice ma msgs.length mc, enums.v, res.v, names.v] :: Own a2 c2 187 7 l2.length (l2.flatMap MsgT.cells) :: Bag (l2.flatMap mRows) :: R) (fun s => 5 - s.1) (0, (a3, c3), (a4, c4))
   ⟨rfl, rfl, rfl, rfl, rfl, rfl, rfl, trivial⟩ (fun w h => Sat.pu_in (Nat.zero_le _) (by simp only [List.replicate_zero, List.append_nil, Nat.add_zero]; exact h)) (fun ⟨k, ⟨a5, c5⟩, a6, c6⟩ => CT.pu fun hk5 => ?_)
  dsimp only at hk5 ⊢
  repeat' (first|refine gL ?_|(refine gv ?_;(refine⟨fun hc=>?_,fun hc=>?_⟩<;>first|(exfalso;omega)|skip))|fail)
  ·refine RT.bsA T (l := lentF.cells) rfl rfl rfl rfl rfl rfl rfl rfl (fun a7 => ?_)
   refine RT.app T (xs := (fields.l ++ List.replicate k lentF).flatMap FieldT.cells) (ys := lentF.cells) rfl rfl rfl (fun a' c' => by ((repeat constructor);done)) (Own.rd sE_ rfl (Nat.le_refl _)) (one_fd _) (by omega) (by omega) rfl rfl rfl rfl (fun a8 c8 hc8 => ?_)
   try refine gL ?_
   refine RT.bsA T (l := lentSp.cells) rfl rfl rfl rfl rfl rfl rfl rfl (fun a9 => ?_)
   refine RT.app T (xs := (res.l ++ List.replicate k lentSp).flatMap SpanT.cells) (ys := lentSp.cells) rfl rfl rfl (fun a' c' => by ((repeat constructor);done)) (Own.rd sE_ rfl (Nat.le_refl _)) (one_sp _) (by omega) (by omega) rfl rfl rfl rfl (fun a10 c10 hc10 => ?_)
   repeat' (first|refine gL ?_|(refine gv ?_;refine gk ?_)|fail)
   exact AtQ.loop (k + 1, (a8, c8), (a10, c10)) ⟨rfl, rfl, rfl, rfl, rfl, rfl, rfl, trivial⟩ (fun w h => Sat.pu_in (by omega) (by
    have h2 := h.tail.tail
    rw [flat_app, flat_app, rep_snoc, rep_snoc] at h2
    exact h2)) (by dsimp only; omega)
  obtain rfl : k = 5 := by omega
  refine RT.fact (p := fields.l.length + 5 ≤ c5 ∧ res.l.length + 5 ≤ c6) (fun w h => ⟨(Own.facts h (.t .h)).2.1, (Own.facts h .h).2.1⟩) (fun ⟨hc5, hc6⟩ => ?_)
  refine RT.slhi T (j := fields.l.length) rfl rfl rfl (by omega) rfl rfl rfl ?_
  rw [asub_z]
  try refine gL ?_
  refine RT.slhi T (j := res.l.length) rfl rfl rfl (by omega) rfl rfl rfl ?_
  rw [asub_z]
  try refine gL ?_
  refine RT.call T rfl fR_ (lentT_fn (a := oneofs.a) (n := oneofs.l.length) (c := oneofs.c) (ls := oneofs.l) (rD (io1)) rfl (by omega)) rfl rfl rfl ?_
  rintro _ _ ⟨a7, c7, rfl, hc7, rfl⟩
  simp only [List.cons_append, List.nil_append]
  try refine gL ?_
  refine RT.call T rfl fR_ (lentT_fn (a := names.a) (n := names.l.length) (c := names.c) (ls := names.l) (rD (it1)) rfl (by omega)) rfl rfl rfl ?_
  rintro _ _ ⟨a8, c8, rfl, hc8, rfl⟩
  simp only [List.cons_append, List.nil_append]
  try refine gL ?_
  refine RT.call T rfl fR_ (ih (MsgT.deepL msgs) (by omega) (a := ma) (c := mc) (l := msgs) (Nat.le_refl _) (rD (im1)) (by omega) (by exact MsgT.InL.mono (fun _ _ _ _ _ h => (rD (h))) im2) es8) rfl rfl rfl ?_
  rintro _ _ ⟨a9, c9, l9, rfl, hl9, rfl⟩
  simp only [List.cons_append, List.nil_append]
  try refine gL ?_
  refine RT.call T rfl fR_ (lentE_fn (r := enums) (rD (ie1)) (by omega) (fun e he => (ie2 e he).mono (fun _ _ _ _ _ h => (rD (h)))) es6) rfl rfl rfl ?_
  rintro _ _ ⟨a11, c11, l11, rfl, hl11, rfl⟩
  simp only [List.cons_append, List.nil_append]
  try refine gM ?_
  obtain ⟨m2, hm2⟩ : ∃ m2 : MsgT, m2 = (.mk nm ⟨a5, c5, fields.l⟩ ⟨a7, c7, oneofs.l⟩ a9 c9 l9 ⟨a11, c11, l11⟩ ⟨a6, c6, res.l⟩ ⟨a8, c8, names.l⟩) := ⟨_, rfl⟩
  have hmc : m2.cells = [vS nm, .slice a5 fields.l.length c5, .slice a7 oneofs.l.length c7, .slice a9 l9.length c9, .slice a11 l11.length c11, .slice a6 res.l.length c6, .slice a8 names.l.length c8] := by rw [hm2]; rfl
  have hmr : mRows m2 = [rowH 240 9 FieldT.cells lentF a5 c5 fields.l, rowH 196 2 SpanT.cells lentSp a6 c6 res.l, txH ⟨a7, c7, oneofs.l⟩, txH ⟨a8, c8, names.l⟩,
    rowH 187 7 MsgT.cells lentM a9 c9 l9, Bag (l9.flatMap mRows), rowH 85 5 EnumT.cells lentE a11 c11 l11, Bag (l11.flatMap eRows)] := by
   rw [hm2]; unfold mRows; rw [mRowsL_flat]
  have hmq : mEr m2 = mEr (.mk nm fields oneofs ma mc msgs enums res names) := by
   rw [hm2]; unfold mEr; rw [mErL_map, mErL_map, hl9, hl11]; rfl
  refine RT.bsA T (l := [vS nm, .slice a5 fields.l.length c5, .slice a7 oneofs.l.length c7, .slice a9 l9.length c9, .slice a11 l11.length c11, .slice a6 res.l.length c6, .slice a8 names.l.length c8]) rfl rfl rfl rfl rfl rfl rfl rfl (fun a12 => ?_)
  refine RT.app T (xs := l2.flatMap MsgT.cells) (ys := [vS nm, .slice a5 fields.l.length c5, .slice a7 oneofs.l.length c7, .slice a9 l9.length c9, .slice a11 l11.length c11, .slice a6 res.l.length c6, .slice a8 names.l.length c8]) rfl rfl rfl (fun a' c' => by ((repeat constructor);done)) (Own.rd sE_ rfl (Nat.le_refl _)) (hmc ▸ one_ms m2) (by omega) (by omega) rfl rfl rfl rfl (fun a10 c10 hc10 => ?_)
  repeat' (first|refine gL ?_|(refine gv ?_;refine gk ?_)|fail)
  exact AtQ.loop (i + 1, l2 ++ [m2], a10, c10) ⟨rfl, by rw [List.length_append]; rfl, rfl, trivial⟩ (fun w h => Sat.pu_in ⟨by omega, by
   rw [List.map_append, hl2, List.take_add_one, hgi, List.map_append, List.map_cons, hmq]
   rfl⟩ (by
    have h2 := h.frd (Ps := [rowH 240 9 FieldT.cells lentF a5 c5 fields.l, rowH 196 2 SpanT.cells lentSp a6 c6 res.l, txH ⟨a7, c7, oneofs.l⟩, txH ⟨a8, c8, names.l⟩,
     rowH 187 7 MsgT.cells lentM a9 c9 l9, Bag (l9.flatMap mRows), rowH 85 5 EnumT.cells lentE a11 c11 l11, Bag (l11.flatMap eRows), Bag (l2.flatMap mRows), Own a10 c10 187 7 (l2.length + 1) (l2.flatMap MsgT.cells ++ [vS nm, .slice a5 fields.l.length c5, .slice a7 oneofs.l.length c7, .slice a9 l9.length c9, .slice a11 l11.length c11, .slice a6 res.l.length c6, .slice a8 names.l.length c8])]) (Qs := [_, _]) (R := R) fR_
    have h3 := Bag.add (qs := mRows m2) (ps := l2.flatMap mRows) (by rw [hmr]; exact h2)
    have h4 := h3.fr (Ps := [Own a10 c10 187 7 (l2.length + 1) (l2.flatMap MsgT.cells ++ [vS nm, .slice a5 fields.l.length c5, .slice a7 oneofs.l.length c7, .slice a9 l9.length c9, .slice a11 l11.length c11, .slice a6 res.l.length c6, .slice a8 names.l.length c8]), Bag (l2.flatMap mRows ++ mRows m2)]) (R := R) fR_
    rw [← hmc, flat_app] at h4
    simp only [List.length_append, List.length_singleton, List.flatMap_append, List.flatMap_cons, List.flatMap_nil, List.append_nil] at h4 ⊢
    exact h4)) (by dsimp only; omega)
 obtain rfl : i = l.length := by omega
 rw [List.take_length] at hl2
 refine CT.loop (α := Nat × Option Addr × Nat) (fun s => [(0, .slice a l.length c), (3, .slice s.2.1 (l2.length + s.1) s.2.2), (9, .int .i64 s.1)])
  (fun s => Pu (s.1 ≤ 5) :: Own s.2.1 s.2.2 187 7 (l2.length + s.1) ((l2 ++ List.replicate s.1 lentM).flatMap MsgT.cells) :: Bag (l2.flatMap mRows) :: R) (fun s => 5 - s.1) (0, a2, c2)
  ⟨rfl, rfl, rfl, trivial⟩ (fun w h => Sat.pu_in (Nat.zero_le _) (by simp only [List.replicate_zero, List.append_nil, Nat.add_zero]; exact h)) (fun ⟨k, a5, c5⟩ => CT.pu fun hk5 => ?_)
 dsimp only at hk5 ⊢
 repeat' (first|refine gL ?_|(refine gv ?_;(refine⟨fun hc=>?_,fun hc=>?_⟩<;>first|(exfalso;omega)|skip))|fail)
 ·refine RT.bsA T (l := lentM.cells) rfl rfl rfl rfl rfl rfl rfl rfl (fun a7 => ?_)
  refine RT.app T (xs := (l2 ++ List.replicate k lentM).flatMap MsgT.cells) (ys := lentM.cells) rfl rfl rfl (fun a' c' => by ((repeat constructor);done)) (Own.rd sE_ rfl (Nat.le_refl _)) (one_ms _) (by omega) (by omega) rfl rfl rfl rfl (fun a8 c8 hc8 => ?_)
  repeat' (first|refine gL ?_|(refine gv ?_;refine gk ?_)|fail)
  exact AtQ.loop (k + 1, a8, c8) ⟨rfl, rfl, rfl, trivial⟩ (fun w h => Sat.pu_in (by omega) (by
   have h2 := h.tail
   rw [flat_app, rep_snoc] at h2
   exact h2)) (by dsimp only; omega)
 obtain rfl : k = 5 := by omega
 refine RT.fact (p := l2.length + 5 ≤ c5) (fun w h => (Own.facts h .h).2.1) (fun hc5 => ?_)
 refine RT.slhi T (j := l.length) rfl rfl rfl (by omega) rfl rfl rfl ?_
 rw [asub_z]
 try refine gL ?_
 exact AtQ.fin1 (H' := [rowH 187 7 MsgT.cells lentM a5 c5 l2, Bag (l2.flatMap mRows)]) Tryz.results66 rfl ⟨a5, c5, l2, by rw [hn2], hl2, rfl⟩ (fun w h => h)
end Go.Proofs.YtclcnhfponjdaaaGreatDoor
end
section
namespace Go.Proofs.YtclcnhfponjdaaaGreatDoor
open Go.Sk
set_option maxRecDepth 100000
attribute [local irreducible] Cs Own Ex Pu Yld RT LJ QJ AtQ CT Rd QSp Sp FinQ Then LoopQ CutQ DT TakeQ EffQ
variable {B : World} {R : List HP}
def fRows (f : FileT) : List HP := [rowH 161 2 ImpT.cells lentIm f.imps.a f.imps.c f.imps.l, rowH 187 7 MsgT.cells lentM f.ma f.mc f.msgs, Bag (f.msgs.flatMap mRows), rowH 85 5 EnumT.cells lentE f.enums.a f.enums.c f.enums.l, Bag (f.enums.l.flatMap eRows)]
def fEr (f : FileT) : FileT := ⟨f.path, f.pack, barR f.imps, none, 0, f.msgs.map mEr, ⟨none, 0, f.enums.l.map EnumT.er⟩⟩
set_option maxHeartbeats 8000000 in
theorem lentF_fn {r : Rw FileT} (hR : Rd B R r.a r.l.length r.c 5 (r.l.flatMap FileT.cells)) (hk : r.l.length ≤ 8388608) (hin : ∀ f ∈ r.l, f.In (Rd B R)) (hsm : ∀ f ∈ r.l, FSm f) :
  Sp B Tryz.prog 21 [r.v] R [] (fun v H' => ∃ (a : Option Addr) (c : Nat) (l : List FileT), v = .slice a l.length c ∧ l.map fEr = r.l.map fEr ∧ H' = [rowH 75 5 FileT.cells lentFl a c l, Bag (l.flatMap fRows)]) := by
 obtain ⟨a, c, l⟩ := r
 simp only [Rw.v] at *
 refine Sp.body Tryz.func21 rfl Tryz.ntmps21 (by simp) ?_
 simp only [argE, List.cons_append, List.nil_append, Nat.zero_add, Nat.reduceAdd]
 try refine gL ?_
 refine CT.weak (fun w h => Sat.nilOwn (e := 75) (sz := 5) (Bag.nil_ h)) ?_
 refine CT.loop (α := Nat × List FileT × Option Addr × Nat) (fun s => [(0, .slice a l.length c), (3, .slice s.2.2.1 s.2.1.length s.2.2.2), (4, .int .i64 s.1)])
  (fun s => Pu (s.1 ≤ l.length ∧ s.2.1.map fEr = (l.take s.1).map fEr) :: Own s.2.2.1 s.2.2.2 75 5 s.2.1.length (s.2.1.flatMap FileT.cells) :: Bag (s.2.1.flatMap fRows) :: R) (fun s => l.length - s.1) (0, [], none, 0)
  ⟨rfl, rfl, rfl, trivial⟩ (fun w h => Sat.pu_in ⟨Nat.zero_le _, rfl⟩ h) (fun ⟨i, l2, a2, c2⟩ => CT.pu fun ⟨hi, hl2⟩ => ?_)
 dsimp only at hi hl2 ⊢
 have hn2 : l2.length = i := by have := congrArg List.length hl2; simp at this; omega
 repeat' (first|refine gL ?_|(refine gv ?_;(refine⟨fun hc=>?_,fun hc=>?_⟩<;>first|(exfalso;omega)|skip))|fail)
 ·have hil : i < l.length := by omega
  have hgi := List.getElem?_eq_getElem hil
  revert hgi
  generalize l[i] = f
  intro hgi
  have hme := List.mem_of_getElem? hgi
  obtain ⟨es1, es2, es3, es4, es5⟩ := hsm f hme
  obtain ⟨ii1, im1, im2, ie1, ie2⟩ := hin f hme
  refine RT.ix T (j := i * 5) rfl rfl rfl (rD (hR)) (by omega) (by omega) (by omega) rfl rfl ?_
  refine RT.ldra T rfl (rD (hR)) (l := f.cells) (flat_sub (f := FileT.cells) (z := 5) (fun _ => rfl) l i _ hgi) rfl rfl rfl rfl ?_
  repeat' (first|refine gM ?_|(refine gb ?_;intro b)|fail)
  revert b
  intro b0
  refine RT.weak (fun w h => Sat.nilOwn (e := 161) (sz := 2) h) ?_
  refine RT.app T (xs := []) (ys := f.imps.l.flatMap ImpT.cells) rfl rfl rfl (fun a' c' => by ((repeat constructor);done)) (rD (ii1)) (one_flat one_im _) (by omega) (by omega) rfl rfl rfl rfl (fun a3 c3 hc3 => ?_)
  simp only [Nat.zero_add, List.nil_append]
  try refine gL ?_
  refine CT.loop (α := Nat × Option Addr × Nat) (fun s => [(0, .slice a l.length c), (3, .slice a2 l2.length c2), (4, .int .i64 i), (5, .pointer (some ⟨b0, 0, none⟩)), (6, .slice s.2.1 (f.imps.l.length + s.1) s.2.2), (7, .int .i64 s.1)])
   (fun s => Pu (s.1 ≤ 5) :: Own s.2.1 s.2.2 161 2 (f.imps.l.length + s.1) ((f.imps.l ++ List.replicate s.1 lentIm).flatMap ImpT.cells) ::
    Cs b0 75 f.cells :: Own a2 c2 75 5 l2.length (l2.flatMap FileT.cells) :: Bag (l2.flatMap fRows) :: R) (fun s => 5 - s.1) (0, a3, c3)
   ⟨rfl, rfl, rfl, rfl, rfl, rfl, trivial⟩ (fun w h => Sat.pu_in (Nat.zero_le _) (by simp only [List.replicate_zero, List.append_nil, Nat.add_zero]; exact h)) (fun ⟨k, a5, c5⟩ => CT.pu fun hk5 => ?_)
  dsimp only at hk5 ⊢
  repeat' (first|refine gL ?_|(refine gv ?_;(refine⟨fun hc=>?_,fun hc=>?_⟩<;>first|(exfalso;omega)|skip))|fail)
  ·refine RT.bsA T (l := lentIm.cells) rfl rfl rfl rfl rfl rfl rfl rfl (fun a7 => ?_)
   refine RT.app T (xs := (f.imps.l ++ List.replicate k lentIm).flatMap ImpT.cells) (ys := lentIm.cells) rfl rfl rfl (fun a' c' => by ((repeat constructor);done)) (Own.rd sE_ rfl (Nat.le_refl _)) (one_im _) (by omega) (by omega) rfl rfl rfl rfl (fun a8 c8 hc8 => ?_)
   repeat' (first|refine gL ?_|(refine gv ?_;refine gk ?_)|fail)
   exact AtQ.loop (k + 1, a8, c8) ⟨rfl, rfl, rfl, rfl, rfl, rfl, trivial⟩ (fun w h => Sat.pu_in (by omega) (by
    have h2 := h.tail
    rw [flat_app, rep_snoc] at h2
    exact h2)) (by dsimp only; omega)
  obtain rfl : k = 5 := by omega
  refine RT.fact (p := f.imps.l.length + 5 ≤ c5) (fun w h => (Own.facts h .h).2.1) (fun hc5 => ?_)
  refine RT.slhi T (j := f.imps.l.length) rfl rfl rfl (by omega) rfl rfl rfl ?_
  rw [asub_z]
  try refine gL ?_
  refine RT.call T rfl fR_ (lentM_fn _ (a := f.ma) (c := f.mc) (l := f.msgs) (Nat.le_refl _) (rD (im1)) (by omega) (MsgT.inL_of fun m hm => MsgT.In.mono (fun _ _ _ _ _ h => (rD (h))) (im2 m hm)) es3) rfl rfl rfl ?_
  rintro _ _ ⟨a9, c9, l9, rfl, hl9, rfl⟩
  simp only [List.cons_append, List.nil_append]
  try refine gL ?_
  refine RT.call T rfl fR_ (lentE_fn (r := f.enums) (rD (ie1)) (by omega) (fun e he => (ie2 e he).mono (fun _ _ _ _ _ h => (rD (h)))) es5) rfl rfl rfl ?_
  rintro _ _ ⟨a11, c11, l11, rfl, hl11, rfl⟩
  simp only [List.cons_append, List.nil_append]
  try refine gM ?_
  obtain ⟨f2, hf2⟩ : ∃ f2 : FileT, f2 = ⟨f.path, f.pack, ⟨a5, c5, f.imps.l⟩, a9, c9, l9, ⟨a11, c11, l11⟩⟩ := ⟨_, rfl⟩
  have hmc : f2.cells = [vS f.path, vS f.pack, .slice a5 f.imps.l.length c5, .slice a9 l9.length c9, .slice a11 l11.length c11] := by rw [hf2]; rfl
  have hmr : fRows f2 = [rowH 161 2 ImpT.cells lentIm a5 c5 f.imps.l, rowH 187 7 MsgT.cells lentM a9 c9 l9, Bag (l9.flatMap mRows), rowH 85 5 EnumT.cells lentE a11 c11 l11, Bag (l11.flatMap eRows)] := by rw [hf2]; rfl
  have hmq : fEr f2 = fEr f := by rw [hf2]; unfold fEr; dsimp only; rw [hl9, hl11]; rfl
  refine RT.bsA T (l := [vS f.path, vS f.pack, .slice a5 f.imps.l.length c5, .slice a9 l9.length c9, .slice a11 l11.length c11]) rfl rfl rfl rfl rfl rfl rfl rfl (fun a12 => ?_)
  refine RT.app T (xs := l2.flatMap FileT.cells) (ys := [vS f.path, vS f.pack, .slice a5 f.imps.l.length c5, .slice a9 l9.length c9, .slice a11 l11.length c11]) rfl rfl rfl (fun a' c' => by ((repeat constructor);done)) (Own.rd sE_ rfl (Nat.le_refl _)) (hmc ▸ one_fl f2) (by omega) (by omega) rfl rfl rfl rfl (fun a10 c10 hc10 => ?_)
  repeat' (first|refine gL ?_|(refine gv ?_;refine gk ?_)|fail)
  exact AtQ.loop (i + 1, l2 ++ [f2], a10, c10) ⟨rfl, by rw [List.length_append]; rfl, rfl, trivial⟩ (fun w h => Sat.pu_in ⟨by omega, by
   rw [List.map_append, hl2, List.take_add_one, hgi, List.map_append, List.map_cons, hmq]
   rfl⟩ (by
    have h2 := h.frd (Ps := [rowH 161 2 ImpT.cells lentIm a5 c5 f.imps.l, rowH 187 7 MsgT.cells lentM a9 c9 l9, Bag (l9.flatMap mRows), rowH 85 5 EnumT.cells lentE a11 c11 l11, Bag (l11.flatMap eRows), Bag (l2.flatMap fRows), Own a10 c10 75 5 (l2.length + 1) (l2.flatMap FileT.cells ++ [vS f.path, vS f.pack, .slice a5 f.imps.l.length c5, .slice a9 l9.length c9, .slice a11 l11.length c11])]) (Qs := [_, _]) (R := R) fR_
    have h3 := Bag.add (qs := fRows f2) (ps := l2.flatMap fRows) (by rw [hmr]; exact h2)
    have h4 := h3.fr (Ps := [Own a10 c10 75 5 (l2.length + 1) (l2.flatMap FileT.cells ++ [vS f.path, vS f.pack, .slice a5 f.imps.l.length c5, .slice a9 l9.length c9, .slice a11 l11.length c11]), Bag (l2.flatMap fRows ++ fRows f2)]) (R := R) fR_
    rw [← hmc, flat_app] at h4
    simp only [List.length_append, List.length_singleton, List.flatMap_append, List.flatMap_cons, List.flatMap_nil, List.append_nil] at h4 ⊢
    exact h4)) (by dsimp only; omega)
 obtain rfl : i = l.length := by omega
 rw [List.take_length] at hl2
 refine CT.loop (α := Nat × Option Addr × Nat) (fun s => [(0, .slice a l.length c), (3, .slice s.2.1 (l2.length + s.1) s.2.2), (8, .int .i64 s.1)])
  (fun s => Pu (s.1 ≤ 5) :: Own s.2.1 s.2.2 75 5 (l2.length + s.1) ((l2 ++ List.replicate s.1 lentFl).flatMap FileT.cells) :: Bag (l2.flatMap fRows) :: R) (fun s => 5 - s.1) (0, a2, c2)
  ⟨rfl, rfl, rfl, trivial⟩ (fun w h => Sat.pu_in (Nat.zero_le _) (by simp only [List.replicate_zero, List.append_nil, Nat.add_zero]; exact h)) (fun ⟨k, a5, c5⟩ => CT.pu fun hk5 => ?_)
 dsimp only at hk5 ⊢
 repeat' (first|refine gL ?_|(refine gv ?_;(refine⟨fun hc=>?_,fun hc=>?_⟩<;>first|(exfalso;omega)|skip))|fail)
 ·refine RT.bsA T (l := lentFl.cells) rfl rfl rfl rfl rfl rfl rfl rfl (fun a7 => ?_)
  refine RT.app T (xs := (l2 ++ List.replicate k lentFl).flatMap FileT.cells) (ys := lentFl.cells) rfl rfl rfl (fun a' c' => by ((repeat constructor);done)) (Own.rd sE_ rfl (Nat.le_refl _)) (one_fl _) (by omega) (by omega) rfl rfl rfl rfl (fun a8 c8 hc8 => ?_)
  repeat' (first|refine gL ?_|(refine gv ?_;refine gk ?_)|fail)
  exact AtQ.loop (k + 1, a8, c8) ⟨rfl, rfl, rfl, trivial⟩ (fun w h => Sat.pu_in (by omega) (by
   have h2 := h.tail
   rw [flat_app, rep_snoc] at h2
   exact h2)) (by dsimp only; omega)
 obtain rfl : k = 5 := by omega
 refine RT.fact (p := l2.length + 5 ≤ c5) (fun w h => (Own.facts h .h).2.1) (fun hc5 => ?_)
 refine RT.slhi T (j := l.length) rfl rfl rfl (by omega) rfl rfl rfl ?_
 rw [asub_z]
 try refine gL ?_
 exact AtQ.fin1 (H' := [rowH 75 5 FileT.cells lentFl a5 c5 l2, Bag (l2.flatMap fRows)]) Tryz.results21 rfl ⟨a5, c5, l2, by rw [hn2], hl2, rfl⟩ (fun w h => h)
end Go.Proofs.YtclcnhfponjdaaaGreatDoor
end
section
namespace Go.Proofs.YtclcnhfponjdaaaGreatDoor
open Go.Sk
set_option maxRecDepth 100000
/-- A row with the room behind it. -/
def row5 {α : Type} (X : Option Addr → Nat → Nat → Nat → List Value → Prop) (z : Nat) (f : α → List Value) (x : α) (a : Option Addr) (c : Nat) (l : List α) : Prop := X a (l.length + 5) c z ((l ++ List.replicate 5 x).flatMap f)
def tx5 (X : Option Addr → Nat → Nat → Nat → List Value → Prop) (r : Rw Txt) : Prop := X r.a (r.l.length + 2) r.c 1 (tstr (r.l ++ [own2, own2]))
def e5 (X : Option Addr → Nat → Nat → Nat → List Value → Prop) (e : EnumT) : Prop := row5 X 2 EValT.cells lentEV e.vals.a e.vals.c e.vals.l ∧ row5 X 2 SpanT.cells lentSp e.res.a e.res.c e.res.l ∧ tx5 X e.names
mutual
def m5 (X : Option Addr → Nat → Nat → Nat → List Value → Prop) : MsgT → Prop
 | .mk _ fields oneofs ma mc msgs enums res names => row5 X 9 FieldT.cells lentF fields.a fields.c fields.l ∧ row5 X 2 SpanT.cells lentSp res.a res.c res.l ∧ tx5 X oneofs ∧ tx5 X names ∧
  row5 X 7 MsgT.cells lentM ma mc msgs ∧ m5L X msgs ∧ row5 X 5 EnumT.cells lentE enums.a enums.c enums.l ∧ ∀ e ∈ enums.l, e5 X e
def m5L (X : Option Addr → Nat → Nat → Nat → List Value → Prop) : List MsgT → Prop
 | [] => True
 | m :: l => m5 X m ∧ m5L X l
end
theorem m5L_mem {X : Option Addr → Nat → Nat → Nat → List Value → Prop} : ∀ {l : List MsgT} {m : MsgT}, m5L X l → m ∈ l → m5 X m
 | [], _, _, h => by cases h
 | x :: l, m, hl, h => by
  unfold m5L at hl
  rcases List.mem_cons.1 h with rfl | h
  ·exact hl.1
  ·exact m5L_mem hl.2 h
structure f5 (X : Option Addr → Nat → Nat → Nat → List Value → Prop) (f : FileT) : Prop where
 imps : row5 X 2 ImpT.cells lentIm f.imps.a f.imps.c f.imps.l
 msgs : row5 X 7 MsgT.cells lentM f.ma f.mc f.msgs
 sub : m5L X f.msgs
 enums : row5 X 5 EnumT.cells lentE f.enums.a f.enums.c f.enums.l
 esub : ∀ e ∈ f.enums.l, e5 X e
section
variable {B : World} {H : List HP} {w : World}
/-- A piece lies somewhere in H. -/
def Has (B : World) (H : List HP) (p : HP) : Prop := ∀ w, Sat B H w → ∃ R, Sat B (p :: R) w
theorem Has.sel {p : HP} {R : List HP} (s : Sel H p R) : Has B H p := fun w h => ⟨R, h.sel s⟩
theorem Has.bag {p : HP} {ps : List HP} (h : Has B H (Bag ps)) (hp : p ∈ ps) : Has B H p := fun w hS => by
 obtain ⟨R, h1⟩ := h w hS
 obtain ⟨i, hi⟩ := List.getElem?_of_mem hp
 exact ⟨_, Bag.at_ hi h1⟩
theorem Has.rd {a : Option Addr} {c : Nat} {e : TypeId} {sz k : Nat} {xs : List Value} (h : Has B H (Own a c e sz k xs)) (hS : Sat B H w) : Rd B H a k c sz xs := by
 obtain ⟨R, h1⟩ := h w hS
 obtain ⟨f1, f2, _⟩ := Own.facts h1 .h
 exact ⟨f1, f2, fun w' hS' => by
  obtain ⟨R', h2⟩ := h w' hS'
  exact (Own.rd (H := _ :: R') .h f1 f2).2.2 w' h2⟩
theorem e5_of (hS : Sat B H w) {e : EnumT} (h : ∀ p ∈ eRows e, Has B H p) : e5 (Rd B H) e := by
 unfold eRows at h
 simp only [List.forall_mem_cons] at h
 obtain ⟨h1, h2, h3, _⟩ := h
 exact ⟨Has.rd h1 hS, Has.rd h2 hS, Has.rd h3 hS⟩
theorem e5L_of (hS : Sat B H w) {l : List EnumT} (h : Has B H (Bag (l.flatMap eRows))) : ∀ e ∈ l, e5 (Rd B H) e := fun e he => e5_of hS fun p hp => h.bag (List.mem_flatMap.2 ⟨e, he, hp⟩)
mutual
theorem m5_of (hS : Sat B H w) : ∀ {m : MsgT}, (∀ p ∈ mRows m, Has B H p) → m5 (Rd B H) m
 | .mk nm fields oneofs ma mc msgs enums res names, h => by
  unfold mRows at h
  unfold m5
  simp only [List.forall_mem_cons] at h
  obtain ⟨h1, h2, h3, h4, h5, h6, h7, h8, _⟩ := h
  exact ⟨Has.rd h1 hS, Has.rd h2 hS, Has.rd h3 hS, Has.rd h4 hS, Has.rd h5 hS, m5L_of hS h6, Has.rd h7 hS, e5L_of hS h8⟩
theorem m5L_of (hS : Sat B H w) : ∀ {l : List MsgT}, Has B H (Bag (mRowsL l)) → m5L (Rd B H) l
 | [], _ => by unfold m5L; trivial
 | m :: l, h => by
  unfold m5L
  unfold mRowsL at h
  exact ⟨m5_of hS fun p hp => h.bag (List.mem_append_left _ hp), m5L_of hS fun w' hS' => by
   obtain ⟨R, h1⟩ := h w' hS'
   have h2 : Sat B (mRows m ++ (mRowsL l ++ R)) w' := by
    have := Bag.open_ h1
    rwa [List.append_assoc] at this
   exact ⟨mRows m ++ R, Bag.close (h2.mono fun hh hs => by
    have h3 : star ((mRowsL l ++ R) ++ mRows m) hh := star_comm hs
    rw [List.append_assoc] at h3
    obtain ⟨x, y, d, lx, ly, hb, hr⟩ := star_cut _ h3
    exact star_glue _ d lx ly hb (star_comm hr))⟩⟩
end
end
end Go.Proofs.YtclcnhfponjdaaaGreatDoor
end
section
namespace Go.Proofs.YtclcnhfponjdaaaGreatDoor
open Go.Sk
set_option maxRecDepth 100000
theorem same_sp (s : SpanT) : sameS Tryz.prog 196 s.cells = true := by kernel_rfl
theorem same_fd (f : FieldT) : sameS Tryz.prog 240 f.cells = true := by kernel_rfl
theorem same_ev (v : EValT) : sameS Tryz.prog 80 v.cells = true := by kernel_rfl
theorem same_im (i : ImpT) : sameS Tryz.prog 161 i.cells = true := by kernel_rfl
theorem five_at {α : Type} {l : List α} {x : α} {k : Nat} (h1 : l.length ≤ k) (h2 : k < l.length + 5) : (l ++ List.replicate 5 x)[k]? = some x := by
 rw [List.getElem?_append_right h1, List.getElem?_replicate, if_pos (by omega)]
theorem five_lo {α : Type} {l : List α} {x y : α} {k : Nat} (h : l[k]? = some y) : (l ++ List.replicate 5 x)[k]? = some y := by
 rw [List.getElem?_append_left (List.getElem?_eq_some_iff.1 h).1]
 exact h
attribute [local irreducible] Cs Own Ex Pu Yld RT LJ QJ AtQ CT Rd QSp Sp FinQ Then LoopQ CutQ DT TakeQ EffQ
variable {B : World} {R : List HP}
set_option maxHeartbeats 4000000 in
theorem wholeS_fn {a a' : Option Addr} {c c' : Nat} {l : List SpanT} (hx : row5 (Rd B R) 2 SpanT.cells lentSp a c l) (hy : Rd B R a' l.length c' 2 (l.flatMap SpanT.cells)) (hk : l.length ≤ 8388608) :
  Sp B Tryz.prog 164 [.slice a l.length c, .slice a' l.length c'] R [] (fun v H' => v = .bool true ∧ H' = []) := by
 unfold row5 at hx
 have hc5 := hx.le
 refine Sp.body Tryz.func164 rfl Tryz.ntmps164 (by simp) ?_
 simp only [argE, List.cons_append, List.nil_append, Nat.zero_add, Nat.reduceAdd]
 repeat' (first|refine gL ?_|(refine gv ?_;first|(refine⟨fun hc=>?_,fun hc=>?_⟩<;>first|(exfalso;omega)|skip)|refine gk ?_)|fail)
 refine RT.slhi T (j := l.length + 5) rfl rfl (by omega) (by omega) rfl rfl rfl ?_
 rw [asub_z]
 try refine gL ?_
 refine CT.loop (α := Nat) (fun k => [(0, .slice a l.length c), (1, .slice a' l.length c'), (5, .int .i64 l.length), (6, .slice a (l.length + 5) c), (7, .int .i64 k)]) (fun k => Pu (k ≤ l.length + 5) :: R) (fun k => l.length + 5 - k) 0
  ⟨rfl, rfl, rfl, rfl, rfl, trivial⟩ (fun w h => Sat.pu_in (Nat.zero_le _) h) (fun k => CT.pu fun hk5 => ?_)
 repeat' (first|refine gL ?_|(refine gv ?_;first|(refine⟨fun hc=>?_,fun hc=>?_⟩<;>first|(exfalso;omega)|skip)|refine gk ?_)|fail)
 ·have hkl : k < l.length := by omega
  have hgk := List.getElem?_eq_getElem hkl
  revert hgk
  generalize l[k] = sp
  intro hgk
  refine RT.ix T (j := k * 2) rfl rfl rfl (by exact hx) (by omega) (by omega) (by omega) rfl rfl ?_
  refine RT.ldra T rfl (by exact hx) (l := sp.cells) (flat_sub (f := SpanT.cells) (z := 2) (fun _ => rfl) _ k _ (five_lo hgk)) rfl rfl rfl rfl ?_
  try refine gL ?_
  refine RT.ix T (j := k * 2) rfl rfl rfl (by exact hy) (by omega) (by omega) (by omega) rfl rfl ?_
  refine RT.ldra T rfl (by exact hy) (l := sp.cells) (flat_sub (f := SpanT.cells) (z := 2) (fun _ => rfl) _ k _ hgk) rfl rfl rfl rfl ?_
  refine RT.neS rfl rfl (same_sp sp) rfl rfl ?_
  repeat' (first|refine gL ?_|(refine gv ?_;first|(refine⟨fun hc=>?_,fun hc=>?_⟩<;>first|(exfalso;omega)|skip)|refine gk ?_)|fail)
  exact AtQ.loop (k + 1) ⟨rfl, rfl, rfl, rfl, rfl, trivial⟩ (fun w h => Sat.pu_in (by omega) h) (by omega)
 ·refine RT.ix T (j := k * 2) rfl rfl rfl (by exact hx) (by omega) (by omega) (by omega) rfl rfl ?_
  refine RT.faA T rfl rfl rfl rfl ?_
  refine RT.ldr (u := .int .i32 (-77)) T rfl (by exact hx) (by rw [flat_get (f := SpanT.cells) (z := 2) (fun _ => rfl) (five_at (by omega) (by omega)) (by decide)]; rfl) rfl rfl rfl ?_
  repeat' (first|refine gL ?_|(refine gv ?_;first|(refine⟨fun hc=>?_,fun hc=>?_⟩<;>first|(exfalso;omega)|skip)|refine gk ?_)|fail)
  exact AtQ.loop (k + 1) ⟨rfl, rfl, rfl, rfl, rfl, trivial⟩ (fun w h => Sat.pu_in (by omega) h) (by omega)
 ·exact AtQ.f1 Tryz.results164 rfl rfl (fun w h => h)
end Go.Proofs.YtclcnhfponjdaaaGreatDoor
end
section
namespace Go.Proofs.YtclcnhfponjdaaaGreatDoor
open Go.Sk
set_option maxRecDepth 100000
theorem nebool {B : World} {P : Program} {n : Fm} {m : Bool} {l0 rest : List Oper} {E : Env} {H : List HP} {Q : Exit → Act → World → Prop} {d : Nat} {ty t t' : TypeId} {pos : String} {af : Array Edge} {g : Option (Nat × Bool)} {x y : Operand} {b : Bool} (hu : P.underlying t = some .bool)
  (hx : ev E x = some (.bool b)) (hy : ev E y = some (.bool b)) (hw : wt l0 E g = some true) (hd : Nat.blt d n = true)
  (k1 : RT B P n m l0 rest ((d, .bool false) :: E) H Q) : RT B P n m l0 (⟨some d, .binOp .neq t x y t', ty, pos, af, g⟩ :: rest) E H Q :=
 RT.neb hu hx hy hw hd (by cases b <;> exact k1)
theorem er_at {α β : Type} {f : α → β} {l l2 : List α} {i : Nat} {x : α} (h : l2.map f = l.map f) (hx : l[i]? = some x) : ∃ y, l2[i]? = some y ∧ f y = f x := by
 have h1 : (l2.map f)[i]? = (l.map f)[i]? := by rw [h]
 rw [List.getElem?_map, List.getElem?_map, hx] at h1
 obtain ⟨y, hy, e⟩ := Option.map_eq_some_iff.1 h1
 exact ⟨y, hy, e⟩
theorem row5_pre {B : World} {R : List HP} {α : Type} {f : α → List Value} {z c : Nat} {a : Option Addr} {l : List α} {x : α} (hz : ∀ x, (f x).length = z) (h : Rd B R a (l.length + 5) c z ((l ++ List.replicate 5 x).flatMap f)) : Rd B R a l.length c z (l.flatMap f) := by
 have := h.sub (Nat.zero_le l.length) (by omega)
 rw [asub_z, Nat.sub_zero, Nat.sub_zero, Nat.zero_mul, List.drop_zero, List.flatMap_append, List.take_left' (flat_len hz l)] at this
 exact this
attribute [local irreducible] Cs Own Ex Pu Yld RT LJ QJ AtQ CT Rd QSp Sp FinQ Then LoopQ CutQ DT TakeQ EffQ
variable {B : World} {R : List HP}
set_option maxHeartbeats 8000000 in
theorem wholeE_fn {a a' : Option Addr} {c c' : Nat} {l l2 : List EnumT} (hx : row5 (Rd B R) 5 EnumT.cells lentE a c l2) (hxs : ∀ e ∈ l2, e5 (Rd B R) e) (her : l2.map EnumT.er = l.map EnumT.er) (hy : Rd B R a' l.length c' 5 (l.flatMap EnumT.cells)) (hys : ∀ e ∈ l, e.In (Rd B R)) (hok : ∀ e ∈ l, e.Ok) (hsm : ∀ e ∈ l, ESm e) (hk : l.length ≤ 8388608) :
  Sp B Tryz.prog 71 [.slice a l2.length c, .slice a' l.length c'] R [] (fun v H' => v = .bool true ∧ H' = []) := by
 unfold row5 at hx
 have hc5 := hx.le
 have hx0 := row5_pre (f := EnumT.cells) (z := 5) (fun _ => rfl) hx
 have hlen : l2.length = l.length := by simpa using congrArg List.length her
 rw [hlen] at hx hx0 hc5 ⊢
 refine Sp.body Tryz.func71 rfl Tryz.ntmps71 (by simp) ?_
 simp only [argE, List.cons_append, List.nil_append, Nat.zero_add, Nat.reduceAdd]
 repeat' (first|refine gL ?_|(refine gv ?_;first|(refine⟨fun hc=>?_,fun hc=>?_⟩<;>first|(exfalso;omega)|skip)|refine gk ?_)|fail)
 refine RT.slhi T (j := l.length + 5) rfl rfl (by omega) (by omega) rfl rfl rfl ?_
 rw [asub_z]
 try refine gL ?_
 refine CT.loop (α := Nat) (fun k => [(0, .slice a l.length c), (1, .slice a' l.length c'), (5, .int .i64 l.length), (6, .slice a (l.length + 5) c), (7, .int .i64 k)]) (fun k => Pu (l.length ≤ k ∧ k ≤ l.length + 5) :: R) (fun k => l.length + 5 - k) l.length
  ⟨rfl, rfl, rfl, rfl, rfl, trivial⟩ (fun w h => Sat.pu_in ⟨Nat.le_refl _, by omega⟩ h) (fun k => CT.pu fun ⟨hk4, hk5⟩ => ?_)
 repeat' (first|refine gL ?_|(refine gv ?_;first|(refine⟨fun hc=>?_,fun hc=>?_⟩<;>first|(exfalso;omega)|skip)|refine gk ?_)|fail)
 ·refine RT.ix T (j := k * 5) rfl rfl rfl (by exact hx) (by omega) (by omega) (by omega) rfl rfl ?_
  refine RT.faA T rfl rfl rfl rfl ?_
  refine RT.ldr (u := vS lentT) T rfl (by exact hx) (by rw [flat_get (f := EnumT.cells) (z := 5) (fun _ => rfl) (five_at (by omega) (by omega)) (by decide)]; rfl) rfl rfl rfl ?_
  refine RT.nesame rfl rfl rfl rfl ?_
  repeat' (first|refine gL ?_|(refine gv ?_;refine gk ?_)|fail)
  exact AtQ.loop (k + 1) ⟨rfl, rfl, rfl, rfl, rfl, trivial⟩ (fun w h => Sat.pu_in (by omega) h) (by omega)
 refine CT.loop (α := Nat) (fun i => [(0, .slice a l.length c), (1, .slice a' l.length c'), (5, .int .i64 l.length), (8, .int .i64 i)]) (fun i => Pu (i ≤ l.length) :: R) (fun i => l.length - i) 0
  ⟨rfl, rfl, rfl, rfl, trivial⟩ (fun w h => Sat.pu_in (Nat.zero_le _) h) (fun i => CT.pu fun hi => ?_)
 repeat' (first|refine gL ?_|(refine gv ?_;(refine⟨fun hc=>?_,fun hc=>?_⟩<;>first|(exfalso;omega)|skip))|fail)
 ·have hil : i < l.length := by omega
  have hgi := List.getElem?_eq_getElem hil
  revert hgi
  generalize l[i] = e
  intro hgi
  obtain ⟨e2, hg2, hee⟩ := er_at her hgi
  have he5 := hxs e2 (List.mem_of_getElem? hg2)
  have hein := hys e (List.mem_of_getElem? hgi)
  have hesm := hsm e (List.mem_of_getElem? hgi)
  have heok := hok e (List.mem_of_getElem? hgi)
  obtain ⟨nm, ⟨va, vc, vl⟩, ali, ⟨ra, rc, rl⟩, ⟨na, nc, nl⟩⟩ := e
  obtain ⟨nm2, ⟨va2, vc2, vl2⟩, ali2, ⟨ra2, rc2, rl2⟩, ⟨na2, nc2, nl2⟩⟩ := e2
  simp only [EnumT.er, barR, EnumT.mk.injEq, Rw.mk.injEq, true_and] at hee
  obtain ⟨rfl, rfl, rfl, rfl, rfl⟩ := hee
  obtain ⟨x1, x2, x3⟩ := he5
  obtain ⟨y1, y2, y3⟩ := hein
  obtain ⟨z1, z2, z3⟩ := hesm
  obtain ⟨⟨o1, _⟩, _, o2, _, _, _, o3⟩ := heok
  unfold row5 at x1 x2
  unfold tx5 at x3
  dsimp only at x1 x2 x3 y1 y2 y3 z1 z2 z3 o1 o2 o3
  have hv5 := x1.le
  refine RT.ix T (j := i * 5) rfl rfl rfl (by exact hy) (by omega) (by omega) (by omega) rfl rfl ?_
  refine RT.ldra T rfl (by exact hy) (l := [vS nm2, .slice va vl2.length vc, .bool ali2, .slice ra rl2.length rc, .slice na nl2.length nc]) (by exact flat_sub (f := EnumT.cells) (z := 5) (fun _ => rfl) _ i _ hgi) rfl rfl rfl rfl ?_
  repeat' (first|refine gM ?_|(refine gb ?_;intro b)|fail)
  refine RT.ix T (j := i * 5) rfl rfl rfl (rD (hx0)) (by omega) (by omega) (by omega) rfl rfl ?_
  refine RT.faA T rfl rfl rfl rfl ?_
  refine RT.ldr (u := vS nm2) T rfl (rD (hx0)) (by rw [flat_get (f := EnumT.cells) (z := 5) (fun _ => rfl) hg2 (by decide)]; rfl) rfl rfl rfl ?_
  try refine gL ?_
  refine RT.nesame rfl rfl rfl rfl ?_
  try refine gL ?_
  refine RT.ix T (j := i * 5) rfl rfl rfl (rD (hx0)) (by omega) (by omega) (by omega) rfl rfl ?_
  refine RT.faA T rfl rfl rfl rfl ?_
  refine RT.ldr (u := .bool ali2) T rfl (rD (hx0)) (by rw [flat_get (f := EnumT.cells) (z := 5) (fun _ => rfl) hg2 (by decide)]; rfl) rfl rfl rfl ?_
  try refine gL ?_
  refine nebool Tryz.underlying4 rfl rfl rfl rfl ?_
  try refine gL ?_
  refine RT.ix T (j := i * 5) rfl rfl rfl (rD (hx0)) (by omega) (by omega) (by omega) rfl rfl ?_
  refine RT.faA T rfl rfl rfl rfl ?_
  refine RT.ldr (u := .slice va2 vl2.length vc2) T rfl (rD (hx0)) (by rw [flat_get (f := EnumT.cells) (z := 5) (fun _ => rfl) hg2 (by decide)]; rfl) rfl rfl rfl ?_
  repeat' (first|refine gL ?_|(refine gv ?_;(refine⟨fun hc=>?_,fun hc=>?_⟩<;>first|(exfalso;omega)|skip))|fail)
  refine RT.ix T (j := i * 5) rfl rfl rfl (rD (hx0)) (by omega) (by omega) (by omega) rfl rfl ?_
  refine RT.faA T rfl rfl rfl rfl ?_
  refine RT.ldr (u := .slice va2 vl2.length vc2) T rfl (rD (hx0)) (by rw [flat_get (f := EnumT.cells) (z := 5) (fun _ => rfl) hg2 (by decide)]; rfl) rfl rfl rfl ?_
  repeat' (first|refine gL ?_|(refine gv ?_;first|(refine⟨fun hc=>?_,fun hc=>?_⟩<;>first|(exfalso;omega)|skip)|refine gk ?_)|fail)
  refine RT.ix T (j := i * 5) rfl rfl rfl (rD (hx0)) (by omega) (by omega) (by omega) rfl rfl ?_
  refine RT.faA T rfl rfl rfl rfl ?_
  refine RT.ldr (u := .slice va2 vl2.length vc2) T rfl (rD (hx0)) (by rw [flat_get (f := EnumT.cells) (z := 5) (fun _ => rfl) hg2 (by decide)]; rfl) rfl rfl rfl ?_
  repeat' (first|refine gL ?_|(refine gv ?_;refine gk ?_)|fail)
  refine RT.slhi T (j := vl2.length + 5) rfl rfl (by omega) (by omega) rfl rfl rfl ?_
  rw [asub_z]
  try refine gL ?_
  refine CT.loop (α := Nat) (fun k => [(0, .slice a l.length c), (1, .slice a' l.length c'), (5, .int .i64 l.length), (8, .int .i64 i), (9, .pointer (some ⟨b, 0, none⟩)), (10, .int .i64 vl2.length), (11, .slice va2 (vl2.length + 5) vc2), (12, .int .i64 k)]) (fun k => Pu (k ≤ vl2.length + 5) :: Cs b 85 [vS nm2, .slice va vl2.length vc, .bool ali2, .slice ra rl2.length rc, .slice na nl2.length nc] :: R) (fun k => vl2.length + 5 - k) 0
   ⟨rfl, rfl, rfl, rfl, rfl, rfl, rfl, rfl, trivial⟩ (fun w h => Sat.pu_in (Nat.zero_le _) h) (fun k => CT.pu fun hk5 => ?_)
  repeat' (first|refine gL ?_|(refine gv ?_;first|(refine⟨fun hc=>?_,fun hc=>?_⟩<;>first|(exfalso;omega)|skip)|refine gk ?_)|fail)
  ·have hkl : k < vl2.length := by omega
   have hgk := List.getElem?_eq_getElem hkl
   revert hgk
   generalize vl2[k] = ev
   intro hgk
   refine RT.ix T (j := k * 2) rfl rfl rfl (rD (x1)) (by omega) (by omega) (by omega) rfl rfl ?_
   refine RT.ldra T rfl (rD (x1)) (l := ev.cells) (flat_sub (f := EValT.cells) (z := 2) (fun _ => rfl) _ k _ (five_lo hgk)) rfl rfl rfl rfl ?_
   try refine gL ?_
   refine RT.ix T (j := k * 2) rfl rfl rfl (rD (y1)) (by omega) (by omega) (by omega) rfl rfl ?_
   refine RT.ldra T rfl (rD (y1)) (l := ev.cells) (flat_sub (f := EValT.cells) (z := 2) (fun _ => rfl) _ k _ hgk) rfl rfl rfl rfl ?_
   refine RT.neS rfl rfl (same_ev ev) rfl rfl ?_
   repeat' (first|refine gL ?_|(refine gv ?_;first|(refine⟨fun hc=>?_,fun hc=>?_⟩<;>first|(exfalso;omega)|skip)|refine gk ?_)|fail)
   exact AtQ.loop (k + 1) ⟨rfl, rfl, rfl, rfl, rfl, rfl, rfl, rfl, trivial⟩ (fun w h => Sat.pu_in (by omega) h) (by omega)
  ·refine RT.ix T (j := k * 2) rfl rfl rfl (rD (x1)) (by omega) (by omega) (by omega) rfl rfl ?_
   refine RT.faA T rfl rfl rfl rfl ?_
   refine RT.ldr (u := vS lentT) T rfl (rD (x1)) (by rw [flat_get (f := EValT.cells) (z := 2) (fun _ => rfl) (five_at (by omega) (by omega)) (by decide)]; rfl) rfl rfl rfl ?_
   refine RT.nesame rfl rfl rfl rfl ?_
   repeat' (first|refine gL ?_|(refine gv ?_;refine gk ?_)|fail)
   exact AtQ.loop (k + 1) ⟨rfl, rfl, rfl, rfl, rfl, rfl, rfl, rfl, trivial⟩ (fun w h => Sat.pu_in (by omega) h) (by omega)
  refine RT.ix T (j := i * 5) rfl rfl rfl (rD (hx0)) (by omega) (by omega) (by omega) rfl rfl ?_
  refine RT.faA T rfl rfl rfl rfl ?_
  refine RT.ldr (u := .slice ra2 rl2.length rc2) T rfl (rD (hx0)) (by rw [flat_get (f := EnumT.cells) (z := 5) (fun _ => rfl) hg2 (by decide)]; rfl) rfl rfl rfl ?_
  try refine gL ?_
  refine RT.qcall T rfl (QSp.of fR_ (wholeS_fn (a := ra2) (c := rc2) (l := rl2) (by unfold row5; exact (rD (x2))) (rD (y2)) (by omega))) rfl rfl rfl ?_
  try refine gL ?_
  refine RT.ix T (j := i * 5) rfl rfl rfl (rD (hx0)) (by omega) (by omega) (by omega) rfl rfl ?_
  refine RT.faA T rfl rfl rfl rfl ?_
  refine RT.ldr (u := .slice na2 nl2.length nc2) T rfl (rD (hx0)) (by rw [flat_get (f := EnumT.cells) (z := 5) (fun _ => rfl) hg2 (by decide)]; rfl) rfl rfl rfl ?_
  try refine gL ?_
  refine RT.qcall T rfl (QSp.of fR_ (wholeT_fn (a := na2) (c := nc2) (ls := nl2) (rD (x3)) (rD (y3)) rfl (fun t ht => (o3 t ht).1) (by omega))) rfl rfl rfl ?_
  repeat' (first|refine gL ?_|(refine gv ?_;refine gk ?_)|fail)
  exact AtQ.loop (i + 1) ⟨rfl, rfl, rfl, rfl, trivial⟩ (fun w h => Sat.pu_in (by omega) h.tail) (by omega)
 ·exact AtQ.f1 Tryz.results71 rfl rfl (fun w h => h)
end Go.Proofs.YtclcnhfponjdaaaGreatDoor
end
section
namespace Go.Proofs.YtclcnhfponjdaaaGreatDoor
open Go.Sk
set_option maxRecDepth 100000
section
variable {B : World} {H : List HP} {w : World}
/-- A row that can be read, with a room as it is. -/
def RdC (B : World) (H : List HP) : Option Addr → Nat → Nat → Nat → List Value → Prop := fun a k c z xs => Rd B H a k c z xs ∧ c ≤ 9223372036854775807
theorem Has.rdc {a : Option Addr} {c : Nat} {e : TypeId} {sz k : Nat} {xs : List Value} (h : Has B H (Own a c e sz k xs)) (hS : Sat B H w) : RdC B H a k c sz xs :=
 ⟨h.rd hS, by obtain ⟨R, h1⟩ := h w hS; exact (Own.facts h1 .h).2.2⟩
theorem e5c_of (hS : Sat B H w) {e : EnumT} (h : ∀ p ∈ eRows e, Has B H p) : e5 (RdC B H) e := by
 unfold eRows at h
 simp only [List.forall_mem_cons] at h
 obtain ⟨h1, h2, h3, _⟩ := h
 exact ⟨Has.rdc h1 hS, Has.rdc h2 hS, Has.rdc h3 hS⟩
theorem e5cL_of (hS : Sat B H w) {l : List EnumT} (h : Has B H (Bag (l.flatMap eRows))) : ∀ e ∈ l, e5 (RdC B H) e := fun e he => e5c_of hS fun p hp => h.bag (List.mem_flatMap.2 ⟨e, he, hp⟩)
mutual
theorem m5c_of (hS : Sat B H w) : ∀ {m : MsgT}, (∀ p ∈ mRows m, Has B H p) → m5 (RdC B H) m
 | .mk nm fields oneofs ma mc msgs enums res names, h => by
  unfold mRows at h
  unfold m5
  simp only [List.forall_mem_cons] at h
  obtain ⟨h1, h2, h3, h4, h5, h6, h7, h8, _⟩ := h
  exact ⟨Has.rdc h1 hS, Has.rdc h2 hS, Has.rdc h3 hS, Has.rdc h4 hS, Has.rdc h5 hS, m5cL_of hS h6, Has.rdc h7 hS, e5cL_of hS h8⟩
theorem m5cL_of (hS : Sat B H w) : ∀ {l : List MsgT}, Has B H (Bag (mRowsL l)) → m5L (RdC B H) l
 | [], _ => by unfold m5L; trivial
 | m :: l, h => by
  unfold m5L
  unfold mRowsL at h
  exact ⟨m5c_of hS fun p hp => h.bag (List.mem_append_left _ hp), m5cL_of hS fun w' hS' => by
   obtain ⟨R, h1⟩ := h w' hS'
   have h2 : Sat B (mRows m ++ (mRowsL l ++ R)) w' := by
    have := Bag.open_ h1
    rwa [List.append_assoc] at this
   exact ⟨mRows m ++ R, Bag.close (h2.mono fun hh hs => by
    have h3 : star ((mRowsL l ++ R) ++ mRows m) hh := star_comm hs
    rw [List.append_assoc] at h3
    obtain ⟨x, y, d, lx, ly, hb, hr⟩ := star_cut _ h3
    exact star_glue _ d lx ly hb (star_comm hr))⟩⟩
end
theorem f5c_of (hS : Sat B H w) {l : List FileT} (h : Has B H (Bag (l.flatMap fRows))) : ∀ f ∈ l, f5 (RdC B H) f := fun f hf => by
 have hm : ∀ p ∈ fRows f, Has B H p := fun p hp => h.bag (List.mem_flatMap.2 ⟨f, hf, hp⟩)
 unfold fRows at hm
 simp only [List.forall_mem_cons] at hm
 obtain ⟨h1, h2, h3, h4, h5, _⟩ := hm
 exact ⟨Has.rdc h1 hS, Has.rdc h2 hS, m5cL_of hS (by rw [mRowsL_flat]; exact h3), Has.rdc h4 hS, e5cL_of hS h5⟩
theorem row5_in {α : Type} {f : α → List Value} {z c : Nat} {a : Option Addr} {l : List α} {x : α} (h : row5 (RdC B H) z f x a c l) (hz : ∀ x, (f x).length = z) : Rd B H a l.length c z (l.flatMap f) ∧ l.length ≤ c ∧ c ≤ 9223372036854775807 :=
 ⟨row5_pre hz h.1, by have := h.1.le; omega, h.2⟩
theorem tx5_in {r : Rw Txt} (h : tx5 (RdC B H) r) : Rd B H r.a r.l.length r.c 1 (r.l.map vS) ∧ r.l.length ≤ r.c ∧ r.c ≤ 9223372036854775807 := by
 refine ⟨?_, by have := h.1.le; omega, h.2⟩
 have h2 := Rd.subT (j := r.l.length) h.1 (by omega)
 rwa [List.take_left] at h2
theorem e5_in {e : EnumT} (h : e5 (RdC B H) e) : e.In (Rd B H) := ⟨(row5_in h.1 (fun _ => rfl)).1, (row5_in h.2.1 (fun _ => rfl)).1, (tx5_in h.2.2).1⟩
theorem e5_ok {e e0 : EnumT} (h : e5 (RdC B H) e) (he : EnumT.er e = EnumT.er e0) (ho : e0.Ok) : e.Ok := by
 obtain ⟨h1, h2, h3⟩ := h
 simp only [EnumT.er, barR, EnumT.mk.injEq, Rw.mk.injEq, true_and] at he
 obtain ⟨q1, q2, q3, q4, q5⟩ := he
 obtain ⟨o1, o2, o3, o4, o5, o6, o7⟩ := ho
 refine ⟨q1 ▸ o1, ⟨q2 ▸ o2.1, (row5_in h1 (fun _ => rfl)).2⟩, q2 ▸ o3, ⟨q4 ▸ o4.1, (row5_in h2 (fun _ => rfl)).2⟩, q4 ▸ o5, ⟨q5 ▸ o6.1, (tx5_in h3).2⟩, q5 ▸ o7⟩
theorem e5L_ok : ∀ {l l0 : List EnumT}, (∀ e ∈ l, e5 (RdC B H) e) → l.map EnumT.er = l0.map EnumT.er → (∀ e ∈ l0, e.Ok) → ∀ e ∈ l, e.Ok
 | [], _, _, _, _ => fun e he => by cases he
 | x :: l, [], _, h, _ => by cases h
 | x :: l, y :: l0, h, he, ho => by
  simp only [List.map_cons, List.cons.injEq] at he
  intro e hm
  rcases List.mem_cons.1 hm with rfl | hm
  ·exact e5_ok (h _ List.mem_cons_self) he.1 (ho _ List.mem_cons_self)
  ·exact e5L_ok (fun e he => h e (List.mem_cons_of_mem _ he)) he.2 (fun e he => ho e (List.mem_cons_of_mem _ he)) e hm
mutual
theorem m5_in : ∀ {m : MsgT}, m5 (RdC B H) m → m.In (Rd B H)
 | .mk nm fields oneofs ma mc msgs enums res names, h => by
  unfold m5 at h
  unfold MsgT.In
  obtain ⟨h1, h2, h3, h4, h5, h6, h7, h8⟩ := h
  exact ⟨(row5_in h1 (fun _ => rfl)).1, (tx5_in h3).1, (row5_in h5 (fun _ => rfl)).1, (row5_in h7 (fun _ => rfl)).1, fun e he => e5_in (h8 e he), (row5_in h2 (fun _ => rfl)).1, (tx5_in h4).1, m5L_in h6⟩
theorem m5L_in : ∀ {l : List MsgT}, m5L (RdC B H) l → MsgT.InL (Rd B H) l
 | [], _ => by unfold MsgT.InL; trivial
 | m :: l, h => by
  unfold m5L at h
  unfold MsgT.InL
  exact ⟨m5_in h.1, m5L_in h.2⟩
end
theorem mEr_len {l l0 : List MsgT} (h : mErL l = mErL l0) : l.length = l0.length := by
 rw [mErL_map, mErL_map] at h
 have := congrArg List.length h
 simpa using this
theorem er_len {l l0 : List EnumT} (h : l.map EnumT.er = l0.map EnumT.er) : l.length = l0.length := by
 have := congrArg List.length h
 simpa using this
mutual
theorem m5_ok : ∀ {m m0 : MsgT}, m5 (RdC B H) m → mEr m = mEr m0 → m0.Ok → m.Ok
 | .mk nm fields oneofs ma mc msgs enums res names, .mk nm0 fields0 oneofs0 ma0 mc0 msgs0 enums0 res0 names0, h, he, ho => by
  unfold m5 at h
  unfold mEr at he
  unfold MsgT.Ok at ho ⊢
  obtain ⟨h1, h2, h3, h4, h5, h6, h7, h8⟩ := h
  obtain ⟨o1, ⟨o2, o2'⟩, ⟨o3, o3'⟩, o4, ⟨o5, o5'⟩, ⟨o6, o6'⟩, ⟨o7, o7'⟩, o8⟩ := ho
  simp only [barR, MsgT.mk.injEq, Rw.mk.injEq, true_and] at he
  obtain ⟨q1, q2, q3, q4, q5, q6, q7⟩ := he
  exact ⟨q1 ▸ o1, ⟨⟨q2 ▸ o2.1, (row5_in h1 (fun _ => rfl)).2⟩, q2 ▸ o2'⟩, ⟨⟨q3 ▸ o3.1, (tx5_in h3).2⟩, q3 ▸ o3'⟩, ⟨by dsimp only; rw [mEr_len q4]; exact o4.1, (row5_in h5 (fun _ => rfl)).2⟩,
   ⟨⟨by rw [er_len q5]; exact o5.1, (row5_in h7 (fun _ => rfl)).2⟩, e5L_ok h8 q5 o5'⟩, ⟨⟨q6 ▸ o6.1, (row5_in h2 (fun _ => rfl)).2⟩, q6 ▸ o6'⟩, ⟨⟨q7 ▸ o7.1, (tx5_in h4).2⟩, q7 ▸ o7'⟩, m5L_ok h6 q4 o8⟩
theorem m5L_ok : ∀ {l l0 : List MsgT}, m5L (RdC B H) l → mErL l = mErL l0 → MsgT.OkL l0 → MsgT.OkL l
 | [], _, _, _, _ => by unfold MsgT.OkL; trivial
 | m :: l, [], _, he, _ => by unfold mErL at he; cases he
 | m :: l, m0 :: l0, h, he, ho => by
  unfold m5L at h
  unfold mErL at he
  unfold MsgT.OkL at ho ⊢
  simp only [List.cons.injEq] at he
  exact ⟨m5_ok h.1 he.1 ho.1, m5L_ok h.2 he.2 ho.2⟩
end
end
/-- A file that is lent. -/
theorem lent_file {B : World} {H : List HP} {f3 f : FileT} (h : f5 (RdC B H) f3) (he : fEr f3 = fEr f) (ho : f.Ok) : f3.In (Rd B H) ∧ f3.Ok := by
 obtain ⟨h1, h2, h3, h4, h5⟩ := h
 refine ⟨⟨(row5_in h1 (fun _ => rfl)).1, (row5_in h2 (fun _ => rfl)).1, fun m hm => MsgT.inL_mem (m5L_in h3) hm, (row5_in h4 (fun _ => rfl)).1, fun e he => e5_in (h5 e he)⟩, ?_⟩
 simp only [fEr, barR, FileT.mk.injEq, Rw.mk.injEq, true_and] at he
 obtain ⟨q1, q2, q3, q4, q5⟩ := he
 rw [← mErL_map, ← mErL_map] at q4
 have ho4 := ho.msgs
 exact ⟨q1 ▸ ho.path, q2 ▸ ho.pack, ⟨⟨q3 ▸ ho.imps.1.1, (row5_in h1 (fun _ => rfl)).2⟩, q3 ▸ ho.imps.2⟩, ⟨⟨by dsimp only; rw [mEr_len q4]; exact ho4.1.1, (row5_in h2 (fun _ => rfl)).2⟩, fun m hm => MsgT.okL_mem (m5L_ok h3 q4 (MsgT.okL_of ho4.2)) hm⟩,
  ⟨⟨by rw [er_len q5]; exact ho.enums.1.1, (row5_in h4 (fun _ => rfl)).2⟩, e5L_ok h5 q5 ho.enums.2⟩⟩
/-! ### without places the bytes are the same -/
mutual
theorem msgB_er : ∀ (m : MsgT) (d : Nat), msgB (mEr m) d = msgB m d
 | .mk nm fields oneofs ma mc msgs enums res names, d => by
  rw [mEr, msgB, msgB]
  have h1 := msgsB_er msgs (d + 1)
  have h2 : fRecs 5 enumB (enums.l.map EnumT.er) = fRecs 5 enumB enums.l := by unfold fRecs; rw [List.flatMap_map]; rfl
  simp only [barR, h1, h2]
theorem msgsB_er : ∀ (l : List MsgT) (d : Nat), msgsB (mErL l) d = msgsB l d
 | [], d => by unfold mErL; rfl
 | m :: l, d => by rw [mErL, msgsB, msgsB, msgB_er m d, msgsB_er l d]
end
mutual
theorem goodMs_er : ∀ (m : MsgT) (d : Nat), goodMs (mEr m) d = goodMs m d
 | .mk nm fields oneofs ma mc msgs enums res names, d => by
  rw [mEr, goodMs, goodMs]
  have h1 := goodMsL_er msgs (d + 1)
  have h2 : (enums.l.map EnumT.er).all goodEn = enums.l.all goodEn := by rw [List.all_map]; rfl
  simp only [barR, h1, h2]
theorem goodMsL_er : ∀ (l : List MsgT) (d : Nat), goodMsL (mErL l) d = goodMsL l d
 | [], d => by unfold mErL; rfl
 | m :: l, d => by rw [mErL, goodMsL, goodMsL, goodMs_er m d, goodMsL_er l d]
end
theorem fileB_er (f : FileT) : fileB (fEr f) = fileB f := by
 unfold fileB fEr
 have h2 : fRecs 5 enumB (f.enums.l.map EnumT.er) = fRecs 5 enumB f.enums.l := by unfold fRecs; rw [List.flatMap_map]; rfl
 simp only [barR, h2, ← mErL_map, msgsB_er]
theorem goodFl_er (f : FileT) : goodFl (fEr f) = goodFl f := by
 unfold goodFl fEr
 have h2 : (f.enums.l.map EnumT.er).all goodEn = f.enums.l.all goodEn := by rw [List.all_map]; rfl
 simp only [barR, h2, ← mErL_map, goodMsL_er]
theorem encodeL_er (l : List FileT) : encodeL (l.map fEr) = encodeL l := by
 have h1 : (l.map fEr).all goodFl = l.all goodFl := by rw [List.all_map]; congr 1; funext f; exact goodFl_er f
 have h2 : setB (l.map fEr) = setB l := by unfold setB fRecs; rw [List.flatMap_map]; congr 1; funext f; rw [fileB_er]
 unfold encodeL
 rw [h1, h2]
theorem encodeL_same {l l' : List FileT} (h : l.map fEr = l'.map fEr) : encodeL l = encodeL l' := by rw [← encodeL_er l, h, encodeL_er]
end Go.Proofs.YtclcnhfponjdaaaGreatDoor
end
section
namespace Go.Proofs.YtclcnhfponjdaaaGreatDoor
open Go.Sk
set_option maxRecDepth 100000
section
variable {X Y : Option Addr → Nat → Nat → Nat → List Value → Prop}
theorem e5.mono (h : ∀ a k c z xs, X a k c z xs → Y a k c z xs) {e : EnumT} (hi : e5 X e) : e5 Y e := ⟨h _ _ _ _ _ hi.1, h _ _ _ _ _ hi.2.1, h _ _ _ _ _ hi.2.2⟩
mutual
theorem m5.mono (h : ∀ a k c z xs, X a k c z xs → Y a k c z xs) : ∀ {m : MsgT}, m5 X m → m5 Y m
 | .mk nm fields oneofs ma mc msgs enums res names, hi => by
  unfold m5 at hi ⊢
  obtain ⟨h1, h2, h3, h4, h5, h6, h7, h8⟩ := hi
  exact ⟨h _ _ _ _ _ h1, h _ _ _ _ _ h2, h _ _ _ _ _ h3, h _ _ _ _ _ h4, h _ _ _ _ _ h5, m5L.mono h h6, h _ _ _ _ _ h7, fun e he => (h8 e he).mono h⟩
theorem m5L.mono (h : ∀ a k c z xs, X a k c z xs → Y a k c z xs) : ∀ {l : List MsgT}, m5L X l → m5L Y l
 | [], _ => by unfold m5L; trivial
 | m :: l, hi => by
  unfold m5L at hi ⊢
  exact ⟨m5.mono h hi.1, m5L.mono h hi.2⟩
end
end
attribute [local irreducible] Cs Own Ex Pu Yld RT LJ QJ AtQ CT Rd QSp Sp FinQ Then LoopQ CutQ DT TakeQ EffQ
variable {B : World}
set_option maxHeartbeats 16000000 in
theorem wholeM_fn (d : Nat) : ∀ {R : List HP} {a a' : Option Addr} {c c' : Nat} {l l2 : List MsgT}, MsgT.deepL l ≤ d → row5 (Rd B R) 7 MsgT.cells lentM a c l2 → m5L (Rd B R) l2 → l2.map mEr = l.map mEr → Rd B R a' l.length c' 7 (l.flatMap MsgT.cells) → MsgT.InL (Rd B R) l → MsgT.OkL l → MsgT.SmL l → l.length ≤ 8388608 →
  Sp B Tryz.prog 70 [.slice a l2.length c, .slice a' l.length c'] R [] (fun v H' => v = .bool true ∧ H' = []) := by
 induction d using Nat.strongRecOn with
 | _ d ih =>
 intro R a a' c c' l l2 hd hx hxs her hy hys hok hsm hk
 unfold row5 at hx
 have hc5 := hx.le
 have hx0 := row5_pre (f := MsgT.cells) (z := 7) (fun _ => rfl) hx
 have hlen : l2.length = l.length := by simpa using congrArg List.length her
 rw [hlen] at hx hx0 hc5 ⊢
 refine Sp.body Tryz.func70 rfl Tryz.ntmps70 (by simp) ?_
 simp only [argE, List.cons_append, List.nil_append, Nat.zero_add, Nat.reduceAdd]
 repeat' (first|refine gL ?_|(refine gv ?_;first|(refine⟨fun hc=>?_,fun hc=>?_⟩<;>first|(exfalso;omega)|skip)|refine gk ?_)|fail)
 refine RT.slhi T (j := l.length + 5) rfl rfl (by omega) (by omega) rfl rfl rfl ?_
 rw [asub_z]
 try refine gL ?_
 refine CT.loop (α := Nat) (fun k => [(0, .slice a l.length c), (1, .slice a' l.length c'), (5, .int .i64 l.length), (6, .slice a (l.length + 5) c), (7, .int .i64 k)]) (fun k => Pu (l.length ≤ k ∧ k ≤ l.length + 5) :: R) (fun k => l.length + 5 - k) l.length
  ⟨rfl, rfl, rfl, rfl, rfl, trivial⟩ (fun w h => Sat.pu_in ⟨Nat.le_refl _, by omega⟩ h) (fun k => CT.pu fun ⟨hk4, hk5⟩ => ?_)
 repeat' (first|refine gL ?_|(refine gv ?_;first|(refine⟨fun hc=>?_,fun hc=>?_⟩<;>first|(exfalso;omega)|skip)|refine gk ?_)|fail)
 ·refine RT.ix T (j := k * 7) rfl rfl rfl (by exact hx) (by omega) (by omega) (by omega) rfl rfl ?_
  refine RT.faA T rfl rfl rfl rfl ?_
  refine RT.ldr (u := vS lentT) T rfl (by exact hx) (by rw [flat_get (f := MsgT.cells) (z := 7) (fun _ => rfl) (five_at (by omega) (by omega)) (by decide)]; rfl) rfl rfl rfl ?_
  refine RT.nesame rfl rfl rfl rfl ?_
  repeat' (first|refine gL ?_|(refine gv ?_;refine gk ?_)|fail)
  exact AtQ.loop (k + 1) ⟨rfl, rfl, rfl, rfl, rfl, trivial⟩ (fun w h => Sat.pu_in (by omega) h) (by omega)
 refine CT.loop (α := Nat) (fun i => [(0, .slice a l.length c), (1, .slice a' l.length c'), (5, .int .i64 l.length), (8, .int .i64 i)]) (fun i => Pu (i ≤ l.length) :: R) (fun i => l.length - i) 0
  ⟨rfl, rfl, rfl, rfl, trivial⟩ (fun w h => Sat.pu_in (Nat.zero_le _) h) (fun i => CT.pu fun hi => ?_)
 repeat' (first|refine gL ?_|(refine gv ?_;(refine⟨fun hc=>?_,fun hc=>?_⟩<;>first|(exfalso;omega)|skip))|fail)
 ·have hil : i < l.length := by omega
  have hgi := List.getElem?_eq_getElem hil
  revert hgi
  generalize l[i] = m
  intro hgi
  obtain ⟨m2, hg2, hee⟩ := er_at her hgi
  have hme := List.mem_of_getElem? hgi
  have he5 := m5L_mem hxs (List.mem_of_getElem? hg2)
  have hein := MsgT.inL_mem hys hme
  have hesm := MsgT.smL_mem hsm hme
  have heok := MsgT.okL_mem hok hme
  have hmd := Nat.le_trans (MsgT.deep_mem hme) hd
  obtain ⟨nm, ⟨fa, fc, fl⟩, ⟨oa, oc, ol⟩, ma, mc, msgs, ⟨ea, ec, el⟩, ⟨ra, rc, rl⟩, ⟨na, nc, nl⟩⟩ := m
  obtain ⟨nm2, ⟨fa2, fc2, fl2⟩, ⟨oa2, oc2, ol2⟩, ma2, mc2, msgs2, ⟨ea2, ec2, el2⟩, ⟨ra2, rc2, rl2⟩, ⟨na2, nc2, nl2⟩⟩ := m2
  unfold mEr at hee
  simp only [barR, MsgT.mk.injEq, Rw.mk.injEq, true_and] at hee
  obtain ⟨rfl, rfl, rfl, herm, here, rfl, rfl⟩ := hee
  rw [mErL_map, mErL_map] at herm
  unfold m5 at he5
  unfold MsgT.In at hein
  unfold MsgT.Sm at hesm
  unfold MsgT.Ok at heok
  unfold MsgT.deep at hmd
  obtain ⟨x1, x2, x3, x4, x5, x6, x7, x8⟩ := he5
  obtain ⟨y1, y3, y5, y7, y8, y2, y4, y6⟩ := hein
  obtain ⟨z1, z3, z2, z4, z7, z8, z5, z6⟩ := hesm
  obtain ⟨_, ⟨_, _⟩, ⟨_, o3⟩, _, ⟨_, o8⟩, ⟨_, o2⟩, ⟨_, o4⟩, o6⟩ := heok
  unfold row5 at x1 x2 x5 x7
  unfold tx5 at x3 x4
  dsimp only at x1 x2 x3 x4 x5 x7 x8 y1 y2 y3 y4 y5 y7 y8 z1 z2 z3 z4 z5 z7 z8 o2 o3 o4 o8
  have hv5 := x1.le
  refine RT.ix T (j := i * 7) rfl rfl rfl (by exact hy) (by omega) (by omega) (by omega) rfl rfl ?_
  refine RT.ldra T rfl (by exact hy) (l := [vS nm2, .slice fa fl2.length fc, .slice oa ol2.length oc, .slice ma msgs.length mc, .slice ea el.length ec, .slice ra rl2.length rc, .slice na nl2.length nc]) (by exact flat_sub (f := MsgT.cells) (z := 7) (fun _ => rfl) _ i _ hgi) rfl rfl rfl rfl ?_
  repeat' (first|refine gM ?_|(refine gb ?_;intro b)|fail)
  refine RT.ix T (j := i * 7) rfl rfl rfl (rD (hx0)) (by omega) (by omega) (by omega) rfl rfl ?_
  refine RT.faA T rfl rfl rfl rfl ?_
  refine RT.ldr (u := vS nm2) T rfl (rD (hx0)) (by rw [flat_get (f := MsgT.cells) (z := 7) (fun _ => rfl) hg2 (by decide)]; rfl) rfl rfl rfl ?_
  try refine gL ?_
  refine RT.nesame rfl rfl rfl rfl ?_
  try refine gL ?_
  refine RT.ix T (j := i * 7) rfl rfl rfl (rD (hx0)) (by omega) (by omega) (by omega) rfl rfl ?_
  refine RT.faA T rfl rfl rfl rfl ?_
  refine RT.ldr (u := .slice fa2 fl2.length fc2) T rfl (rD (hx0)) (by rw [flat_get (f := MsgT.cells) (z := 7) (fun _ => rfl) hg2 (by decide)]; rfl) rfl rfl rfl ?_
  repeat' (first|refine gL ?_|(refine gv ?_;(refine⟨fun hc=>?_,fun hc=>?_⟩<;>first|(exfalso;omega)|skip))|fail)
  refine RT.ix T (j := i * 7) rfl rfl rfl (rD (hx0)) (by omega) (by omega) (by omega) rfl rfl ?_
  refine RT.faA T rfl rfl rfl rfl ?_
  refine RT.ldr (u := .slice fa2 fl2.length fc2) T rfl (rD (hx0)) (by rw [flat_get (f := MsgT.cells) (z := 7) (fun _ => rfl) hg2 (by decide)]; rfl) rfl rfl rfl ?_
  repeat' (first|refine gL ?_|(refine gv ?_;first|(refine⟨fun hc=>?_,fun hc=>?_⟩<;>first|(exfalso;omega)|skip)|refine gk ?_)|fail)
  refine RT.ix T (j := i * 7) rfl rfl rfl (rD (hx0)) (by omega) (by omega) (by omega) rfl rfl ?_
  refine RT.faA T rfl rfl rfl rfl ?_
  refine RT.ldr (u := .slice fa2 fl2.length fc2) T rfl (rD (hx0)) (by rw [flat_get (f := MsgT.cells) (z := 7) (fun _ => rfl) hg2 (by decide)]; rfl) rfl rfl rfl ?_
  repeat' (first|refine gL ?_|(refine gv ?_;refine gk ?_)|fail)
  refine RT.slhi T (j := fl2.length + 5) rfl rfl (by omega) (by omega) rfl rfl rfl ?_
  rw [asub_z]
  try refine gL ?_
  refine CT.loop (α := Nat) (fun k => [(0, .slice a l.length c), (1, .slice a' l.length c'), (5, .int .i64 l.length), (8, .int .i64 i), (9, .pointer (some ⟨b, 0, none⟩)), (10, .int .i64 fl2.length), (11, .slice fa2 (fl2.length + 5) fc2), (12, .int .i64 k)]) (fun k => Pu (k ≤ fl2.length + 5) :: Cs b 187 [vS nm2, .slice fa fl2.length fc, .slice oa ol2.length oc, .slice ma msgs.length mc, .slice ea el.length ec, .slice ra rl2.length rc, .slice na nl2.length nc] :: R) (fun k => fl2.length + 5 - k) 0
   ⟨rfl, rfl, rfl, rfl, rfl, rfl, rfl, rfl, trivial⟩ (fun w h => Sat.pu_in (Nat.zero_le _) h) (fun k => CT.pu fun hk5 => ?_)
  repeat' (first|refine gL ?_|(refine gv ?_;first|(refine⟨fun hc=>?_,fun hc=>?_⟩<;>first|(exfalso;omega)|skip)|refine gk ?_)|fail)
  ·have hkl : k < fl2.length := by omega
   have hgk := List.getElem?_eq_getElem hkl
   revert hgk
   generalize fl2[k] = fd
   intro hgk
   refine RT.ix T (j := k * 9) rfl rfl rfl (rD (x1)) (by omega) (by omega) (by omega) rfl rfl ?_
   refine RT.ldra T rfl (rD (x1)) (l := fd.cells) (flat_sub (f := FieldT.cells) (z := 9) (fun _ => rfl) _ k _ (five_lo hgk)) rfl rfl rfl rfl ?_
   try refine gL ?_
   refine RT.ix T (j := k * 9) rfl rfl rfl (rD (y1)) (by omega) (by omega) (by omega) rfl rfl ?_
   refine RT.ldra T rfl (rD (y1)) (l := fd.cells) (flat_sub (f := FieldT.cells) (z := 9) (fun _ => rfl) _ k _ hgk) rfl rfl rfl rfl ?_
   refine RT.neS rfl rfl (same_fd fd) rfl rfl ?_
   repeat' (first|refine gL ?_|(refine gv ?_;first|(refine⟨fun hc=>?_,fun hc=>?_⟩<;>first|(exfalso;omega)|skip)|refine gk ?_)|fail)
   exact AtQ.loop (k + 1) ⟨rfl, rfl, rfl, rfl, rfl, rfl, rfl, rfl, trivial⟩ (fun w h => Sat.pu_in (by omega) h) (by omega)
  ·refine RT.ix T (j := k * 9) rfl rfl rfl (rD (x1)) (by omega) (by omega) (by omega) rfl rfl ?_
   refine RT.faA T rfl rfl rfl rfl ?_
   refine RT.ldr (u := vS lentT) T rfl (rD (x1)) (by rw [flat_get (f := FieldT.cells) (z := 9) (fun _ => rfl) (five_at (by omega) (by omega)) (by decide)]; rfl) rfl rfl rfl ?_
   refine RT.nesame rfl rfl rfl rfl ?_
   repeat' (first|refine gL ?_|(refine gv ?_;refine gk ?_)|fail)
   exact AtQ.loop (k + 1) ⟨rfl, rfl, rfl, rfl, rfl, rfl, rfl, rfl, trivial⟩ (fun w h => Sat.pu_in (by omega) h) (by omega)
  refine RT.ix T (j := i * 7) rfl rfl rfl (rD (hx0)) (by omega) (by omega) (by omega) rfl rfl ?_
  refine RT.faA T rfl rfl rfl rfl ?_
  refine RT.ldr (u := .slice ra2 rl2.length rc2) T rfl (rD (hx0)) (by rw [flat_get (f := MsgT.cells) (z := 7) (fun _ => rfl) hg2 (by decide)]; rfl) rfl rfl rfl ?_
  try refine gL ?_
  refine RT.qcall T rfl (QSp.of fR_ (wholeS_fn (a := ra2) (c := rc2) (l := rl2) (by unfold row5; exact (rD (x2))) (rD (y2)) (by omega))) rfl rfl rfl ?_
  try refine gL ?_
  refine RT.ix T (j := i * 7) rfl rfl rfl (rD (hx0)) (by omega) (by omega) (by omega) rfl rfl ?_
  refine RT.faA T rfl rfl rfl rfl ?_
  refine RT.ldr (u := .slice oa2 ol2.length oc2) T rfl (rD (hx0)) (by rw [flat_get (f := MsgT.cells) (z := 7) (fun _ => rfl) hg2 (by decide)]; rfl) rfl rfl rfl ?_
  try refine gL ?_
  refine RT.qcall T rfl (QSp.of fR_ (wholeT_fn (a := oa2) (c := oc2) (ls := ol2) (rD (x3)) (rD (y3)) rfl (fun t ht => (o3 t ht).1) (by omega))) rfl rfl rfl ?_
  try refine gL ?_
  refine RT.ix T (j := i * 7) rfl rfl rfl (rD (hx0)) (by omega) (by omega) (by omega) rfl rfl ?_
  refine RT.faA T rfl rfl rfl rfl ?_
  refine RT.ldr (u := .slice na2 nl2.length nc2) T rfl (rD (hx0)) (by rw [flat_get (f := MsgT.cells) (z := 7) (fun _ => rfl) hg2 (by decide)]; rfl) rfl rfl rfl ?_
  try refine gL ?_
  refine RT.qcall T rfl (QSp.of fR_ (wholeT_fn (a := na2) (c := nc2) (ls := nl2) (rD (x4)) (rD (y4)) rfl (fun t ht => (o4 t ht).1) (by omega))) rfl rfl rfl ?_
  try refine gL ?_
  refine RT.ix T (j := i * 7) rfl rfl rfl (rD (hx0)) (by omega) (by omega) (by omega) rfl rfl ?_
  refine RT.faA T rfl rfl rfl rfl ?_
  refine RT.ldr (u := .slice ma2 msgs2.length mc2) T rfl (rD (hx0)) (by rw [flat_get (f := MsgT.cells) (z := 7) (fun _ => rfl) hg2 (by decide)]; rfl) rfl rfl rfl ?_
  try refine gL ?_
  refine RT.qcall T rfl (QSp.of fR_ (ih (MsgT.deepL msgs) (by omega) (a := ma2) (c := mc2) (l := msgs) (l2 := msgs2) (Nat.le_refl _) (by unfold row5; exact (rD (x5))) (m5L.mono (fun _ _ _ _ _ h => (rD (h))) x6) herm (rD (y5)) (MsgT.InL.mono (fun _ _ _ _ _ h => (rD (h))) y6) o6 z6 (by omega))) rfl rfl rfl ?_
  try refine gL ?_
  refine RT.ix T (j := i * 7) rfl rfl rfl (rD (hx0)) (by omega) (by omega) (by omega) rfl rfl ?_
  refine RT.faA T rfl rfl rfl rfl ?_
  refine RT.ldr (u := .slice ea2 el2.length ec2) T rfl (rD (hx0)) (by rw [flat_get (f := MsgT.cells) (z := 7) (fun _ => rfl) hg2 (by decide)]; rfl) rfl rfl rfl ?_
  try refine gL ?_
  refine RT.qcall T rfl (QSp.of fR_ (wholeE_fn (a := ea2) (c := ec2) (l := el) (l2 := el2) (by unfold row5; exact (rD (x7))) (fun e he => (x8 e he).mono (fun _ _ _ _ _ h => (rD (h)))) here (rD (y7)) (fun e he => (y8 e he).mono (fun _ _ _ _ _ h => (rD (h)))) o8 z8 (by omega))) rfl rfl rfl ?_
  repeat' (first|refine gL ?_|(refine gv ?_;refine gk ?_)|fail)
  exact AtQ.loop (i + 1) ⟨rfl, rfl, rfl, rfl, trivial⟩ (fun w h => Sat.pu_in (by omega) h.tail) (by omega)
 ·exact AtQ.f1 Tryz.results70 rfl rfl (fun w h => h)
end Go.Proofs.YtclcnhfponjdaaaGreatDoor
end
section
namespace Go.Proofs.YtclcnhfponjdaaaGreatDoor
open Go.Sk
set_option maxRecDepth 100000
attribute [local irreducible] Cs Own Ex Pu Yld RT LJ QJ AtQ CT Rd QSp Sp FinQ Then LoopQ CutQ DT TakeQ EffQ
variable {B : World} {R : List HP}
set_option maxHeartbeats 16000000 in
theorem wholeF_fn {a a' : Option Addr} {c c' : Nat} {l l2 : List FileT} (hx : row5 (Rd B R) 5 FileT.cells lentFl a c l2) (hxs : ∀ f ∈ l2, f5 (Rd B R) f) (her : l2.map fEr = l.map fEr) (hy : Rd B R a' l.length c' 5 (l.flatMap FileT.cells)) (hys : ∀ f ∈ l, f.In (Rd B R)) (hok : ∀ f ∈ l, f.Ok) (hsm : ∀ f ∈ l, FSm f) (hk : l.length ≤ 8388608) :
  Sp B Tryz.prog 25 [.slice a l2.length c, .slice a' l.length c'] R [] (fun v H' => v = .bool true ∧ H' = []) := by
 unfold row5 at hx
 have hc5 := hx.le
 have hx0 := row5_pre (f := FileT.cells) (z := 5) (fun _ => rfl) hx
 have hlen : l2.length = l.length := by simpa using congrArg List.length her
 rw [hlen] at hx hx0 hc5 ⊢
 refine Sp.body Tryz.func25 rfl Tryz.ntmps25 (by simp) ?_
 simp only [argE, List.cons_append, List.nil_append, Nat.zero_add, Nat.reduceAdd]
 repeat' (first|refine gL ?_|(refine gv ?_;first|(refine⟨fun hc=>?_,fun hc=>?_⟩<;>first|(exfalso;omega)|skip)|refine gk ?_)|fail)
 refine RT.slhi T (j := l.length + 5) rfl rfl (by omega) (by omega) rfl rfl rfl ?_
 rw [asub_z]
 try refine gL ?_
 refine CT.loop (α := Nat) (fun k => [(0, .slice a l.length c), (1, .slice a' l.length c'), (5, .slice a (l.length + 5) c), (6, .int .i64 k)]) (fun k => Pu (k ≤ 5) :: R) (fun k => 5 - k) 0
  ⟨rfl, rfl, rfl, rfl, trivial⟩ (fun w h => Sat.pu_in (Nat.zero_le _) h) (fun k => CT.pu fun hk5 => ?_)
 repeat' (first|refine gL ?_|(refine gv ?_;first|(refine⟨fun hc=>?_,fun hc=>?_⟩<;>first|(exfalso;omega)|skip)|refine gk ?_)|fail)
 ·refine RT.ix T (j := (l.length + k) * 5) rfl rfl rfl (by exact hx) (by omega) (by omega) (by omega) rfl rfl ?_
  refine RT.faA T rfl rfl rfl rfl ?_
  refine RT.ldr (u := vS lentT) T rfl (by exact hx) (by rw [flat_get (f := FileT.cells) (z := 5) (fun _ => rfl) (five_at (by omega) (by omega)) (by decide)]; rfl) rfl rfl rfl ?_
  refine RT.nesame rfl rfl rfl rfl ?_
  repeat' (first|refine gL ?_|(refine gv ?_;refine gk ?_)|fail)
  exact AtQ.loop (k + 1) ⟨rfl, rfl, rfl, rfl, trivial⟩ (fun w h => Sat.pu_in (by omega) h) (by omega)
 refine CT.loop (α := Nat) (fun i => [(0, .slice a l.length c), (1, .slice a' l.length c'), (7, .int .i64 i)]) (fun i => Pu (i ≤ l.length) :: R) (fun i => l.length - i) 0
  ⟨rfl, rfl, rfl, trivial⟩ (fun w h => Sat.pu_in (Nat.zero_le _) h) (fun i => CT.pu fun hi => ?_)
 repeat' (first|refine gL ?_|(refine gv ?_;(refine⟨fun hc=>?_,fun hc=>?_⟩<;>first|(exfalso;omega)|skip))|fail)
 ·have hil : i < l.length := by omega
  have hgi := List.getElem?_eq_getElem hil
  revert hgi
  generalize l[i] = f
  intro hgi
  obtain ⟨f2, hg2, hee⟩ := er_at her hgi
  have hme := List.mem_of_getElem? hgi
  have he5 := hxs f2 (List.mem_of_getElem? hg2)
  have hein := hys f hme
  have hesm := hsm f hme
  have heok := hok f hme
  obtain ⟨p, k, ⟨ia, ic, il⟩, ma, mc, msgs, ⟨ea, ec, el⟩⟩ := f
  obtain ⟨p2, k2, ⟨ia2, ic2, il2⟩, ma2, mc2, msgs2, ⟨ea2, ec2, el2⟩⟩ := f2
  simp only [fEr, barR, FileT.mk.injEq, Rw.mk.injEq, true_and] at hee
  obtain ⟨rfl, rfl, rfl, herm, here⟩ := hee
  obtain ⟨x1, x5, x6, x7, x8⟩ := he5
  obtain ⟨y1, y5, y6, y7, y8⟩ := hein
  obtain ⟨z1, z5, z6, z7, z8⟩ := hesm
  obtain ⟨_, _, ⟨_, _⟩, ⟨_, o6⟩, ⟨_, o8⟩⟩ := heok
  unfold row5 at x1
  dsimp only at x1 x5 x6 x7 x8 y1 y5 y6 y7 y8 z1 z5 z6 z7 z8 o6 o8
  have hv5 := x1.le
  refine RT.ix T (j := i * 5) rfl rfl rfl (by exact hx0) (by omega) (by omega) (by omega) rfl rfl ?_
  refine RT.faA T rfl rfl rfl rfl ?_
  refine RT.ldr (u := vS p2) T rfl (by exact hx0) (by rw [flat_get (f := FileT.cells) (z := 5) (fun _ => rfl) hg2 (by decide)]; rfl) rfl rfl rfl ?_
  try refine gL ?_
  refine RT.ix T (j := i * 5) rfl rfl rfl (by exact hy) (by omega) (by omega) (by omega) rfl rfl ?_
  refine RT.faA T rfl rfl rfl rfl ?_
  refine RT.ldr (u := vS p2) T rfl (by exact hy) (by rw [flat_get (f := FileT.cells) (z := 5) (fun _ => rfl) hgi (by decide)]; rfl) rfl rfl rfl ?_
  refine RT.nesame rfl rfl rfl rfl ?_
  try refine gL ?_
  refine RT.ix T (j := i * 5) rfl rfl rfl (by exact hx0) (by omega) (by omega) (by omega) rfl rfl ?_
  refine RT.faA T rfl rfl rfl rfl ?_
  refine RT.ldr (u := vS k2) T rfl (by exact hx0) (by rw [flat_get (f := FileT.cells) (z := 5) (fun _ => rfl) hg2 (by decide)]; rfl) rfl rfl rfl ?_
  try refine gL ?_
  refine RT.ix T (j := i * 5) rfl rfl rfl (by exact hy) (by omega) (by omega) (by omega) rfl rfl ?_
  refine RT.faA T rfl rfl rfl rfl ?_
  refine RT.ldr (u := vS k2) T rfl (by exact hy) (by rw [flat_get (f := FileT.cells) (z := 5) (fun _ => rfl) hgi (by decide)]; rfl) rfl rfl rfl ?_
  refine RT.nesame rfl rfl rfl rfl ?_
  try refine gL ?_
  refine RT.ix T (j := i * 5) rfl rfl rfl (by exact hx0) (by omega) (by omega) (by omega) rfl rfl ?_
  refine RT.faA T rfl rfl rfl rfl ?_
  refine RT.ldr (u := .slice ia2 il2.length ic2) T rfl (by exact hx0) (by rw [flat_get (f := FileT.cells) (z := 5) (fun _ => rfl) hg2 (by decide)]; rfl) rfl rfl rfl ?_
  try refine gL ?_
  refine RT.ix T (j := i * 5) rfl rfl rfl (by exact hy) (by omega) (by omega) (by omega) rfl rfl ?_
  refine RT.faA T rfl rfl rfl rfl ?_
  refine RT.ldr (u := .slice ia il2.length ic) T rfl (by exact hy) (by rw [flat_get (f := FileT.cells) (z := 5) (fun _ => rfl) hgi (by decide)]; rfl) rfl rfl rfl ?_
  repeat' (first|refine gL ?_|(refine gv ?_;(refine⟨fun hc=>?_,fun hc=>?_⟩<;>first|(exfalso;omega)|skip))|fail)
  refine RT.ix T (j := i * 5) rfl rfl rfl (by exact hx0) (by omega) (by omega) (by omega) rfl rfl ?_
  refine RT.faA T rfl rfl rfl rfl ?_
  refine RT.ldr (u := .slice ia2 il2.length ic2) T rfl (by exact hx0) (by rw [flat_get (f := FileT.cells) (z := 5) (fun _ => rfl) hg2 (by decide)]; rfl) rfl rfl rfl ?_
  try refine gL ?_
  refine RT.ix T (j := i * 5) rfl rfl rfl (by exact hy) (by omega) (by omega) (by omega) rfl rfl ?_
  refine RT.faA T rfl rfl rfl rfl ?_
  refine RT.ldr (u := .slice ia il2.length ic) T rfl (by exact hy) (by rw [flat_get (f := FileT.cells) (z := 5) (fun _ => rfl) hgi (by decide)]; rfl) rfl rfl rfl ?_
  repeat' (first|refine gL ?_|(refine gv ?_;first|(refine⟨fun hc=>?_,fun hc=>?_⟩<;>first|(exfalso;omega)|skip)|refine gk ?_)|fail)
  refine RT.ix T (j := i * 5) rfl rfl rfl (by exact hy) (by omega) (by omega) (by omega) rfl rfl ?_
  refine RT.faA T rfl rfl rfl rfl ?_
  refine RT.ldr (u := .slice ia il2.length ic) T rfl (by exact hy) (by rw [flat_get (f := FileT.cells) (z := 5) (fun _ => rfl) hgi (by decide)]; rfl) rfl rfl rfl ?_
  try refine gL ?_
  refine RT.ix T (j := i * 5) rfl rfl rfl (by exact hx0) (by omega) (by omega) (by omega) rfl rfl ?_
  refine RT.faA T rfl rfl rfl rfl ?_
  refine RT.ldr (u := .slice ia2 il2.length ic2) T rfl (by exact hx0) (by rw [flat_get (f := FileT.cells) (z := 5) (fun _ => rfl) hg2 (by decide)]; rfl) rfl rfl rfl ?_
  repeat' (first|refine gL ?_|(refine gv ?_;refine gk ?_)|fail)
  refine RT.slhi T (j := il2.length + 5) rfl rfl (by omega) (by omega) rfl rfl rfl ?_
  rw [asub_z]
  try refine gL ?_
  refine CT.loop (α := Nat) (fun k => [(0, .slice a l.length c), (1, .slice a' l.length c'), (7, .int .i64 i), (8, .int .i64 il2.length), (9, .slice ia2 (il2.length + 5) ic2), (10, .int .i64 k)]) (fun k => Pu (k ≤ il2.length + 5) :: R) (fun k => il2.length + 5 - k) 0
   ⟨rfl, rfl, rfl, rfl, rfl, rfl, trivial⟩ (fun w h => Sat.pu_in (Nat.zero_le _) h) (fun k => CT.pu fun hk5 => ?_)
  repeat' (first|refine gL ?_|(refine gv ?_;first|(refine⟨fun hc=>?_,fun hc=>?_⟩<;>first|(exfalso;omega)|skip)|refine gk ?_)|fail)
  ·have hkl : k < il2.length := by omega
   have hgk := List.getElem?_eq_getElem hkl
   revert hgk
   generalize il2[k] = im
   intro hgk
   refine RT.ix T (j := k * 2) rfl rfl rfl (by exact x1) (by omega) (by omega) (by omega) rfl rfl ?_
   refine RT.ldra T rfl (by exact x1) (l := im.cells) (flat_sub (f := ImpT.cells) (z := 2) (fun _ => rfl) _ k _ (five_lo hgk)) rfl rfl rfl rfl ?_
   try refine gL ?_
   refine RT.ix T (j := i * 5) rfl rfl rfl (by exact hy) (by omega) (by omega) (by omega) rfl rfl ?_
   refine RT.faA T rfl rfl rfl rfl ?_
   refine RT.ldr (u := .slice ia il2.length ic) T rfl (by exact hy) (by rw [flat_get (f := FileT.cells) (z := 5) (fun _ => rfl) hgi (by decide)]; rfl) rfl rfl rfl ?_
   try refine gL ?_
   refine RT.ix T (j := k * 2) rfl rfl rfl (by exact y1) (by omega) (by omega) (by omega) rfl rfl ?_
   refine RT.ldra T rfl (by exact y1) (l := im.cells) (flat_sub (f := ImpT.cells) (z := 2) (fun _ => rfl) _ k _ hgk) rfl rfl rfl rfl ?_
   refine RT.neS rfl rfl (same_im im) rfl rfl ?_
   repeat' (first|refine gL ?_|(refine gv ?_;first|(refine⟨fun hc=>?_,fun hc=>?_⟩<;>first|(exfalso;omega)|skip)|refine gk ?_)|fail)
   exact AtQ.loop (k + 1) ⟨rfl, rfl, rfl, rfl, rfl, rfl, trivial⟩ (fun w h => Sat.pu_in (by omega) h) (by omega)
  ·refine RT.ix T (j := k * 2) rfl rfl rfl (by exact x1) (by omega) (by omega) (by omega) rfl rfl ?_
   refine RT.faA T rfl rfl rfl rfl ?_
   refine RT.ldr (u := vS lentT) T rfl (by exact x1) (by rw [flat_get (f := ImpT.cells) (z := 2) (fun _ => rfl) (five_at (by omega) (by omega)) (by decide)]; rfl) rfl rfl rfl ?_
   refine RT.nesame rfl rfl rfl rfl ?_
   repeat' (first|refine gL ?_|(refine gv ?_;refine gk ?_)|fail)
   exact AtQ.loop (k + 1) ⟨rfl, rfl, rfl, rfl, rfl, rfl, trivial⟩ (fun w h => Sat.pu_in (by omega) h) (by omega)
  refine RT.ix T (j := i * 5) rfl rfl rfl (by exact hx0) (by omega) (by omega) (by omega) rfl rfl ?_
  refine RT.faA T rfl rfl rfl rfl ?_
  refine RT.ldr (u := .slice ma2 msgs2.length mc2) T rfl (by exact hx0) (by rw [flat_get (f := FileT.cells) (z := 5) (fun _ => rfl) hg2 (by decide)]; rfl) rfl rfl rfl ?_
  try refine gL ?_
  refine RT.ix T (j := i * 5) rfl rfl rfl (by exact hy) (by omega) (by omega) (by omega) rfl rfl ?_
  refine RT.faA T rfl rfl rfl rfl ?_
  refine RT.ldr (u := .slice ma msgs.length mc) T rfl (by exact hy) (by rw [flat_get (f := FileT.cells) (z := 5) (fun _ => rfl) hgi (by decide)]; rfl) rfl rfl rfl ?_
  skip
  refine RT.qcall T rfl (QSp.of fR_ (wholeM_fn _ (a := ma2) (c := mc2) (l := msgs) (l2 := msgs2) (Nat.le_refl _) x5 x6 herm y5 (MsgT.inL_of y6) (MsgT.okL_of o6) z6 (by omega))) rfl rfl rfl ?_
  try refine gL ?_
  refine RT.ix T (j := i * 5) rfl rfl rfl (by exact hx0) (by omega) (by omega) (by omega) rfl rfl ?_
  refine RT.faA T rfl rfl rfl rfl ?_
  refine RT.ldr (u := .slice ea2 el2.length ec2) T rfl (by exact hx0) (by rw [flat_get (f := FileT.cells) (z := 5) (fun _ => rfl) hg2 (by decide)]; rfl) rfl rfl rfl ?_
  try refine gL ?_
  refine RT.ix T (j := i * 5) rfl rfl rfl (by exact hy) (by omega) (by omega) (by omega) rfl rfl ?_
  refine RT.faA T rfl rfl rfl rfl ?_
  refine RT.ldr (u := .slice ea el.length ec) T rfl (by exact hy) (by rw [flat_get (f := FileT.cells) (z := 5) (fun _ => rfl) hgi (by decide)]; rfl) rfl rfl rfl ?_
  skip
  refine RT.qcall T rfl (QSp.of fR_ (wholeE_fn (a := ea2) (c := ec2) (l := el) (l2 := el2) x7 x8 here y7 y8 o8 z8 (by omega))) rfl rfl rfl ?_
  repeat' (first|refine gL ?_|(refine gv ?_;refine gk ?_)|fail)
  exact AtQ.loop (i + 1) ⟨rfl, rfl, rfl, trivial⟩ (fun w h => Sat.pu_in (by omega) h) (by omega)
 ·exact AtQ.f1 Tryz.results25 rfl rfl (fun w h => h)
end Go.Proofs.YtclcnhfponjdaaaGreatDoor
end
section
namespace Go.Proofs.YtclcnhfponjdaaaGreatDoor
open Go.Sk
set_option maxRecDepth 100000
def marks : List Int := [91, 92, 93, 94, 95, 96, 97, 98]
attribute [local irreducible] Cs Own Ex Pu Yld RT LJ QJ AtQ CT Rd QSp Sp FinQ Then LoopQ CutQ DT TakeQ EffQ
variable {B : World} {R : List HP}
end Go.Proofs.YtclcnhfponjdaaaGreatDoor
end
section
namespace Go.Proofs.YtclcnhfponjdaaaGreatDoor
open Go.Sk
set_option maxRecDepth 100000
/-- A row of bytes that came out. -/
structure EB where
 a : Option Addr
 n : Nat
 c : Nat
 l : List Int
def EB.sl (e : EB) : Value := .slice e.a e.n e.c
def EB.own (e : EB) : HP := own8 e.a e.c e.l e.n
abbrev nils : List Value := List.replicate 22 (.slice none 0 0)
/-- The book: it holds these rows of bytes, and nothing else. -/
def BkB (p : Nat) (es : List EB) : HP := Ex fun x : Option Addr × Nat => [Cs p 60 (.slice x.1 es.length x.2 :: nils), Own x.1 x.2 23 1 es.length (es.map EB.sl), Bag (es.map EB.own)]
attribute [local irreducible] Cs Own Ex Pu Yld RT LJ QJ AtQ CT Rd QSp Sp FinQ Then LoopQ CutQ DT TakeQ EffQ
attribute [local irreducible] Bag Twi
variable {B : World} {R : List HP}
theorem bookBytes_fn {p n c : Nat} {a : Option Addr} {l : List Int} {es : List EB} (hk : es.length ≤ 1000000000000) :
  Sp B Tryz.prog 26 [ptr p, .slice a n c] R [own8 a c l n, BkB p es] (fun v H' => v = .tuple #[] ∧ H' = [BkB p (es ++ [⟨a, n, c, l⟩])]) := by
 refine Sp.weak (Pre' := [BkB p es, own8 a c l n]) (fun w h => h.frd (Ps := [_, _]) (Qs := []) fR_) ?_
 refine Sp.body Tryz.func26 rfl Tryz.ntmps26 (by simp) ?_
 simp only [argE, List.cons_append, List.nil_append, Nat.zero_add, Nat.reduceAdd]
 refine CT.ex (fun x => ?_)
 obtain ⟨ab, cb⟩ := x
 simp only [List.cons_append, List.nil_append]
 try refine gL ?_
 refine RT.push T rfl rfl rfl rfl (fun a' c' => by ((repeat constructor);done)) (by omega) (by omega) rfl rfl rfl rfl (fun a2 c2 b2 c3 hac => ?_)
 try refine gL ?_
 refine AtQ.f0 (HH := [BkB p (es ++ [⟨a, n, c, l⟩])]) Tryz.results26 (fun w h => ?_) (by first | exact .inl rfl | exact .inr rfl)
 have e1 : es.length + 1 = (es ++ [(⟨a, n, c, l⟩ : EB)]).length := by simp
 have e2 : es.map EB.sl ++ [.slice a n c] = (es ++ [(⟨a, n, c, l⟩ : EB)]).map EB.sl := by simp [EB.sl]
 have h2 := h.frd (Ps := [own8 a c l n, Bag (es.map EB.own), Cs p 60 (.slice a2 (es.length + 1) c2 :: nils), Own a2 c2 23 1 (es.length + 1) (es.map EB.sl ++ [.slice a n c])]) (Qs := []) fR_
 have h3 : Sat B (Bag (es.map EB.own ++ [own8 a c l n]) :: Cs p 60 (.slice a2 (es.length + 1) c2 :: nils) :: Own a2 c2 23 1 (es.length + 1) (es.map EB.sl ++ [.slice a n c]) :: R) w := Bag.push h2
 rw [e1, e2, show es.map EB.own ++ [own8 a c l n] = (es ++ [(⟨a, n, c, l⟩ : EB)]).map EB.own by simp [EB.own]] at h3
 exact Sat.ex_in (a2, c2) (h3.frd (Ps := [_, _, _]) (Qs := []) fR_)
def mk (i n : Nat) : List Int := (List.range n).map fun (k : Nat) => ((i : Int) * 97 + (k : Int) * 13) % 256
def mk' (i n : Nat) : List Int := (List.range n).map fun (k : Nat) => ((-1 - (i : Int)) * 97 + (k : Int) * 13) % 256
theorem mk_len (i n : Nat) : (mk i n).length = n := by simp [mk]
theorem mk'_len (i n : Nat) : (mk' i n).length = n := by simp [mk']
theorem mk_get {i n k : Nat} (h : k < n) : (mk i n).getD k 0 = ((i : Int) * 97 + (k : Int) * 13) % 256 := by simp [mk, List.getD_eq_getElem?_getD, h]
theorem mk'_get {i n k : Nat} (h : k < n) : (mk' i n).getD k 0 = ((-1 - (i : Int)) * 97 + (k : Int) * 13) % 256 := by simp [mk', List.getD_eq_getElem?_getD, h]
theorem mk'_succ (i n : Nat) : mk' i n ++ [((-1 - (i : Int)) * 97 + (n : Int) * 13) % 256] = mk' i (n + 1) := by simp [mk', List.range_succ]
theorem getD_l {l m : List Int} {k : Nat} (h : k < l.length) : (l ++ m).getD k 0 = l.getD k 0 := by
 rw [List.getD_eq_getElem?_getD, List.getElem?_append_left h, ← List.getD_eq_getElem?_getD]
theorem getD_r {l m : List Int} {k : Nat} : (l ++ m).getD (l.length + k) 0 = m.getD k 0 := by
 rw [List.getD_eq_getElem?_getD, List.getElem?_append_right (by omega), Nat.add_sub_cancel_left, ← List.getD_eq_getElem?_getD]
theorem mk_ext {i n : Nat} {l : List Int} (hl : l.length = n) (h : ∀ k, k < n → l.getD k 0 = ((i : Int) * 97 + (k : Int) * 13) % 256) : l = mk i n := by
 refine List.ext_getElem (by rw [hl, mk_len]) fun k h1 h2 => ?_
 have := h k (by omega)
 have h3 := mk_get (i := i) (n := n) (k := k) (by omega)
 rw [List.getD_eq_getElem?_getD, List.getElem?_eq_getElem h1, Option.getD_some] at this
 rw [List.getD_eq_getElem?_getD, List.getElem?_eq_getElem h2, Option.getD_some] at h3
 rw [this, h3]
/-- The rows that are marked so far. -/
def Done (es x : List EB) : Prop := x.length ≤ es.length ∧ ∀ j e, es[j]? = some e → j < x.length → x[j]? = some ⟨e.a, e.n, e.c, mk j e.n⟩
theorem Done.step {es x : List EB} {e : EB} (h : Done es x) (he : es[x.length]? = some e) : Done es (x ++ [⟨e.a, e.n, e.c, mk x.length e.n⟩]) := by
 have hi := (List.getElem?_eq_some_iff.1 he).1
 refine ⟨by simp only [List.length_append, List.length_cons, List.length_nil]; omega, fun j e' hj hlt => ?_⟩
 by_cases hjx : j < x.length
 ·rw [List.getElem?_append_left hjx]
  exact h.2 j e' hj hjx
 ·have : j = x.length := by simp only [List.length_append, List.length_cons, List.length_nil] at hlt; omega
  subst this
  rw [he] at hj
  cases hj
  simp
/-- A row, and the one that grew out of it by these bytes. -/
structure TW where
 e : EB
 a' : Option Addr
 c' : Nat
 m : List Int
def TW.own (t : TW) : HP := Twi 5 1 t.e.a t.e.n t.e.c (ints .u8 t.e.l) t.a' (t.e.n + t.m.length) t.c' (ints .u8 (t.e.l ++ t.m))
def TW.sl (t : TW) : Value := .slice t.a' (t.e.n + t.m.length) t.c'
def DoneT (es : List EB) (x : List TW) : Prop := x.length ≤ es.length ∧ ∀ j, j < x.length → ∃ t, x[j]? = some t ∧ es[j]? = some t.e ∧ t.m = mk' j 16 ∧ t.e.n + 16 ≤ t.c' ∧ t.e.n ≤ t.e.c
theorem DoneT.step {es : List EB} {x : List TW} {e : EB} {a' : Option Addr} {c' : Nat} (h : DoneT es x) (he : es[x.length]? = some e) (hc : e.n + 16 ≤ c') (hc2 : e.n ≤ e.c) : DoneT es (x ++ [⟨e, a', c', mk' x.length 16⟩]) := by
 have hi := (List.getElem?_eq_some_iff.1 he).1
 refine ⟨by simp only [List.length_append, List.length_cons, List.length_nil]; omega, fun j hlt => ?_⟩
 by_cases hjx : j < x.length
 ·rw [List.getElem?_append_left hjx]
  exact h.2 j hjx
 ·have : j = x.length := by simp only [List.length_append, List.length_cons, List.length_nil] at hlt; omega
  subst this
  exact ⟨⟨e, a', c', mk' x.length 16⟩, by simp, he, rfl, hc, hc2⟩
set_option maxHeartbeats 4000000 in
theorem ownBytes_fn {ah : Option Addr} {ch : Nat} {es : List EB} (hk : es.length ≤ 1000000000000) (hn : ∀ e ∈ es, e.n ≤ 1000000000000) :
  Sp B Tryz.prog 36 [.slice ah es.length ch] R [Own ah ch 23 1 es.length (es.map EB.sl), Bag (es.map EB.own)] (fun v H' => v = .bool true ∧ H' = []) := by
 refine Sp.body Tryz.func36 rfl Tryz.ntmps36 (by simp) ?_
 simp only [argE, List.cons_append, List.nil_append, Nat.zero_add, Nat.reduceAdd]
 try refine gL ?_
 refine CT.fact (p := (es.map EB.sl).length = es.length * 1 ∧ es.length ≤ ch ∧ ch ≤ maxLen) (fun w h => Own.facts h .h) (fun hf => ?_)
 obtain ⟨hf1, hf2, _⟩ := hf
 have hsl : ∀ (j : Nat) (e : EB), es[j]? = some e → (es.map EB.sl)[j]? = some (Value.slice e.a e.n e.c) := fun j e he => by simp [he, EB.sl]
 refine CT.loop (α := List EB) (fun x => [(0, .slice ah es.length ch), (3, .int .i64 x.length)]) (fun x => Pu (Done es x) :: Bag (x.map EB.own) :: Bag ((es.drop x.length).map EB.own) :: Own ah ch 23 1 es.length (es.map EB.sl) :: R) (fun x => es.length - x.length) [] ⟨rfl, rfl, trivial⟩
  (fun w h => Sat.pu_in ⟨Nat.zero_le _, fun j e _ h => absurd h (by simp)⟩ (Bag.nil_ (h.frd (Ps := [_, _]) (Qs := []) fR_))) (fun x => CT.pu fun hx => ?_)
 have hxl := hx.1
 repeat' (first|refine gL ?_|(refine gv ?_;(refine⟨fun hc=>?_,fun hc=>?_⟩<;>first|(exfalso;omega)|skip))|fail)
 ·have hlt : x.length < es.length := by omega
  obtain ⟨e, he⟩ : ∃ e, es[x.length]? = some e := ⟨_, List.getElem?_eq_getElem hlt⟩
  have hmem : e ∈ es := List.mem_of_getElem? he
  have hen := hn e hmem
  have hd : es.drop x.length = e :: es.drop (x.length + 1) := by
   obtain ⟨h1, rfl⟩ := List.getElem?_eq_some_iff.1 he
   exact List.drop_eq_getElem_cons h1
  rw [hd, List.map_cons]
  refine CT.weak (H' := own8 e.a e.c e.l e.n :: Bag (x.map EB.own) :: Bag ((es.drop (x.length + 1)).map EB.own) :: Own ah ch 23 1 es.length (es.map EB.sl) :: R) (fun w h => ?_) ?_
  ·have h2 := h.frd (Ps := [Bag (e.own :: (es.drop (x.length + 1)).map EB.own), Bag (x.map EB.own), Own ah ch 23 1 es.length (es.map EB.sl)]) (Qs := []) fR_
   exact (Bag.head h2).frd (Ps := [_, _, _, _]) (Qs := []) fR_
  skip
  refine CT.loop (α := Nat × List Int) (fun y => [(0, .slice ah es.length ch), (3, .int .i64 x.length), (4, .int .i64 y.1)]) (fun y => Pu (y.1 ≤ e.n ∧ y.2.length = e.n ∧ ∀ k, k < y.1 → y.2.getD k 0 = ((x.length : Int) * 97 + (k : Int) * 13) % 256) :: own8 e.a e.c y.2 e.n :: Bag (x.map EB.own) :: Bag ((es.drop (x.length + 1)).map EB.own) :: Own ah ch 23 1 es.length (es.map EB.sl) :: R) (fun y => e.n - y.1) (0, e.l) ⟨rfl, rfl, rfl, trivial⟩
   (fun w h => Sat.pu_in ⟨Nat.zero_le _, (Own.factsI (l := e.l) .h w h).1, fun k h => absurd h (by simp)⟩ h) (fun y => CT.pu fun hy => ?_)
  obtain ⟨k, l⟩ := y
  obtain ⟨y1, y2, y3⟩ := hy
  dsimp only at y1 y2 y3 ⊢
  have hxn : (x.length : Int) < es.length := by omega
  try refine gL ?_
  refine RT.ix T (j := x.length) rfl rfl rfl (Own.rd sE_ hf1 hf2) (by omega) (by omega) (by omega) rfl rfl ?_
  refine RT.ldr T rfl (Own.rd sE_ hf1 hf2) (hsl _ _ he) rfl rfl rfl ?_
  repeat' (first|refine gL ?_|(refine gv ?_;first|(refine⟨fun hc=>?_,fun hc=>?_⟩<;>first|(exfalso;omega)|skip)|refine gk ?_)|fail)
  ·refine RT.ix T (j := x.length) rfl rfl rfl (Own.rd sE_ hf1 hf2) (by omega) (by omega) (by omega) rfl rfl ?_
   refine RT.ldr T rfl (Own.rd sE_ hf1 hf2) (hsl _ _ he) rfl rfl rfl ?_
   repeat' (first|refine gL ?_|(refine gv ?_;first|refine gk ?_|refine num_m fun r hr=>?_)|fail)
   refine RT.fact (Own.factsI (l := l) (c := e.c) sE_) (fun hfe => ?_)
   refine RT.ix T (j := k) rfl rfl rfl (Own.rdI (l := l) sE_ hfe.1 hfe.2.1) (by omega) (by omega) (by omega) rfl rfl ?_
   refine RT.stoI T (l := l) (j := k) rfl rfl (by ((repeat constructor);done)) (by omega) rfl rfl ?_
   repeat' (first|refine gL ?_|(refine gv ?_;refine gk ?_)|fail)
   refine AtQ.loop (k + 1, l.set k r) ⟨rfl, rfl, rfl, trivial⟩ (fun w h => Sat.pu_in ⟨by simp only; omega, by simp only [List.length_set]; exact y2, fun q hq => ?_⟩ h) (by simp only; omega)
   simp only at hq ⊢
   rw [List.getD_eq_getElem?_getD, List.getElem?_set]
   by_cases hqk : k = q
   ·subst hqk
    rw [if_pos rfl, if_pos (by omega), Option.getD_some, ← hr]
   ·rw [if_neg hqk, ← List.getD_eq_getElem?_getD]
    exact y3 q (by omega)
  ·have hke : k = e.n := by omega
   subst hke
   have hlm : l = mk x.length e.n := mk_ext y2 y3
   subst hlm
   refine AtQ.loop (x ++ [⟨e.a, e.n, e.c, mk x.length e.n⟩]) ⟨rfl, ?_, trivial⟩ (fun w h => Sat.pu_in (hx.step he) ?_) (by simp only [List.length_append, List.length_cons, List.length_nil]; omega)
   ·simp only [List.length_append, List.length_cons, List.length_nil]
    rfl
   ·simp only [List.length_append, List.length_cons, List.length_nil, List.map_append, List.map_cons, List.map_nil]
    exact Bag.push h
 ·have hxe : x.length = es.length := by omega
  have hg : ∀ (j : Nat) (e : EB), es[j]? = some e → x[j]? = some ⟨e.a, e.n, e.c, mk j e.n⟩ := fun j e he => hx.2 j e he (by rw [hxe]; exact (List.getElem?_eq_some_iff.1 he).1)
  refine CT.weak (H' := Own none 0 23 1 0 [] :: Bag (x.map EB.own) :: Own ah ch 23 1 es.length (es.map EB.sl) :: R) (fun w h => Sat.nilOwn (h.frd (Ps := [_, _]) (Qs := [_]) fR_)) ?_
  refine CT.loop (α := List TW × Option Addr × Nat) (fun y => [(0, .slice ah es.length ch), (5, .slice y.2.1 y.1.length y.2.2), (6, .int .i64 y.1.length)]) (fun y => Pu (DoneT x y.1 ∧ y.1.length ≤ y.2.2) :: Own y.2.1 y.2.2 23 1 y.1.length (y.1.map TW.sl) :: Bag (y.1.map TW.own) :: Bag ((x.drop y.1.length).map EB.own) :: Own ah ch 23 1 es.length (es.map EB.sl) :: R) (fun y => es.length - y.1.length) ([], none, 0) ⟨rfl, rfl, rfl, trivial⟩
   (fun w h => Sat.pu_in ⟨⟨Nat.zero_le _, fun j h => absurd h (by simp)⟩, Nat.le_refl _⟩ ((Bag.nil_ h).frd (Ps := [_, _, _, _]) (Qs := []) fR_)) (fun y => CT.pu fun hy => ?_)
  obtain ⟨tw, al, cl⟩ := y
  obtain ⟨hy1, hy2⟩ := hy
  dsimp only at hy1 hy2 ⊢
  have hyl := hy1.1
  rw [hxe] at hyl
  repeat' (first|refine gL ?_|(refine gv ?_;(refine⟨fun hc=>?_,fun hc=>?_⟩<;>first|(exfalso;omega)|skip))|fail)
  ·have hlt : tw.length < es.length := by omega
   obtain ⟨e, he⟩ : ∃ e, es[tw.length]? = some e := ⟨_, List.getElem?_eq_getElem hlt⟩
   have hen := hn e (List.mem_of_getElem? he)
   have hxe2 := hg _ _ he
   have hd : x.drop tw.length = ⟨e.a, e.n, e.c, mk tw.length e.n⟩ :: x.drop (tw.length + 1) := by
    obtain ⟨h1, h2⟩ := List.getElem?_eq_some_iff.1 hxe2
    rw [← h2]
    exact List.drop_eq_getElem_cons h1
   rw [hd, List.map_cons]
   refine RT.weak (H' := own8 e.a e.c (mk tw.length e.n) e.n :: Own al cl 23 1 tw.length (tw.map TW.sl) :: Bag (tw.map TW.own) :: Bag ((x.drop (tw.length + 1)).map EB.own) :: Own ah ch 23 1 es.length (es.map EB.sl) :: R) (fun w h => ?_) ?_
   ·have h2 := h.frd (Ps := [Bag (EB.own ⟨e.a, e.n, e.c, mk tw.length e.n⟩ :: (x.drop (tw.length + 1)).map EB.own), Own al cl 23 1 tw.length (tw.map TW.sl), Bag (tw.map TW.own), Own ah ch 23 1 es.length (es.map EB.sl)]) (Qs := []) fR_
    exact (Bag.head h2).frd (Ps := [_, _, _, _, _]) (Qs := []) fR_
   refine RT.ix T (j := tw.length) rfl rfl rfl (Own.rd sE_ hf1 hf2) (by omega) (by omega) (by omega) rfl rfl ?_
   refine RT.ldr T rfl (Own.rd sE_ hf1 hf2) (hsl _ _ he) rfl rfl rfl ?_
   try refine gL ?_
   refine CT.loop (α := Nat × Option Addr × Nat) (fun z => [(0, .slice ah es.length ch), (5, .slice al tw.length cl), (6, .int .i64 tw.length), (7, .slice z.2.1 (e.n + z.1) z.2.2), (8, .int .i64 z.1)]) (fun z => Pu (z.1 ≤ 16 ∧ e.n + z.1 ≤ z.2.2) :: Twi 5 1 e.a e.n e.c (ints .u8 (mk tw.length e.n)) z.2.1 (e.n + z.1) z.2.2 (ints .u8 (mk tw.length e.n ++ mk' tw.length z.1)) :: Own al cl 23 1 tw.length (tw.map TW.sl) :: Bag (tw.map TW.own) :: Bag ((x.drop (tw.length + 1)).map EB.own) :: Own ah ch 23 1 es.length (es.map EB.sl) :: R) (fun z => 16 - z.1) (0, e.a, e.c) ⟨rfl, rfl, rfl, rfl, rfl, trivial⟩
    (fun w h => Sat.pu_in ⟨by omega, (Own.factsI .h w h).2.1⟩ ?_) (fun z => CT.pu fun hz => ?_)
   ·rw [show mk' tw.length 0 = [] from rfl, List.append_nil]
    exact h.mono fun _ hs => star_head_mono (fun _ ho => Twi.start ho) hs
   obtain ⟨q, a2, c2⟩ := z
   obtain ⟨hz1, hz2⟩ := hz
   dsimp only at hz1 hz2 ⊢
   repeat' (first|refine gL ?_|(refine gv ?_;first|(refine⟨fun hc=>?_,fun hc=>?_⟩<;>first|(exfalso;omega)|skip)|refine gk ?_|refine num_m fun r hr=>?_)|fail)
   ·refine RT.pushT T rfl rfl rfl rfl sE_ (by omega) (by omega) rfl rfl rfl rfl (fun a3 c3 b3 d3 hac => ?_)
    rw [ints_push, List.append_assoc, ← hr, mk'_succ]
    repeat' (first|refine gL ?_|(refine gv ?_;refine gk ?_)|fail)
    exact AtQ.loop (q + 1, a3, c3) ⟨rfl, rfl, rfl, rfl, rfl, trivial⟩ (fun w h => Sat.pu_in ⟨by simp only; omega, by simp only; omega⟩ h) (by simp only; omega)
   ·have hq : q = 16 := by omega
    subst hq
    refine RT.push T rfl rfl rfl rfl (fun a' c' => by ((repeat constructor);done)) (by omega) (by omega) rfl rfl rfl rfl (fun a3 c3 b3 d3 hac => ?_)
    repeat' (first|refine gL ?_|(refine gv ?_;refine gk ?_)|fail)
    refine AtQ.fact (p := e.n ≤ e.c) (fun w h => ?_) (fun hec => ?_)
    ·have h2 := h.sel (p := Twi 5 1 e.a e.n e.c (ints .u8 (mk tw.length e.n)) a2 (e.n + 16) c2 (ints .u8 (mk tw.length e.n ++ mk' tw.length 16))) sE_
     rcases Twi.cases h2 with ⟨e1, e2, _, _, ho⟩ | ⟨n', zs, e1, _, ho⟩
     ·have := Own.facts ho .h; omega
     ·have := Own.facts ho .h; omega
    refine AtQ.loop (tw ++ [⟨⟨e.a, e.n, e.c, mk tw.length e.n⟩, a2, c2, mk' tw.length 16⟩], a3, c3) ⟨rfl, ?_, ?_, trivial⟩ (fun w h => Sat.pu_in ⟨hy1.step hxe2 hz2 hec, by simp only [List.length_append, List.length_cons, List.length_nil]; exact hac⟩ ?_) (by simp only [List.length_append, List.length_cons, List.length_nil]; omega)
    ·simp only [List.length_append, List.length_cons, List.length_nil]
     rfl
    ·simp only [List.length_append, List.length_cons, List.length_nil]
     rfl
    ·simp only [List.length_append, List.length_cons, List.length_nil, List.map_append, List.map_cons, List.map_nil]
     have h2 := h.frd (Ps := [TW.own ⟨⟨e.a, e.n, e.c, mk tw.length e.n⟩, a2, c2, mk' tw.length 16⟩, Bag (tw.map TW.own), Own a3 c3 23 1 (tw.length + 1) (tw.map TW.sl ++ [Value.slice a2 (e.n + 16) c2]), Bag ((x.drop (tw.length + 1)).map EB.own), Own ah ch 23 1 es.length (es.map EB.sl)]) (Qs := []) (by
      unfold TW.own
      rw [mk'_len]
      (repeat (first|exact Fr.nil|(apply Fr.cons;focus ((repeat constructor);done)))))
     have h3 := (Bag.push h2).frd (Ps := [Own a3 c3 23 1 (tw.length + 1) (tw.map TW.sl ++ [Value.slice a2 (e.n + 16) c2]), _, _, _]) (Qs := []) fR_
     rw [show TW.sl ⟨⟨e.a, e.n, e.c, mk tw.length e.n⟩, a2, c2, mk' tw.length 16⟩ = Value.slice a2 (e.n + 16) c2 by unfold TW.sl; rw [mk'_len]]
     exact h3
  ·have hte : tw.length = es.length := by omega
   have hT : ∀ (j : Nat) (e : EB), es[j]? = some e → ∃ t, tw[j]? = some t ∧ t = ⟨⟨e.a, e.n, e.c, mk j e.n⟩, t.a', t.c', mk' j 16⟩ ∧ e.n + 16 ≤ t.c' ∧ e.n ≤ e.c := fun j e he => by
    have hj := (List.getElem?_eq_some_iff.1 he).1
    obtain ⟨t, h1, h2, h3, h4, h5⟩ := hy1.2 j (by omega)
    rw [hg j e he] at h2
    cases h2e : t.e
    rw [h2e] at h2 h4 h5
    cases h2
    refine ⟨t, h1, ?_, h4, h5⟩
    cases t
    simp_all
   clear hy1 hx hg
   refine CT.loop (α := Nat) (fun j => [(0, .slice ah es.length ch), (5, .slice al tw.length cl), (9, .int .i64 j)]) (fun j => Pu (j ≤ es.length) :: Own al cl 23 1 tw.length (tw.map TW.sl) :: Bag (tw.map TW.own) :: Own ah ch 23 1 es.length (es.map EB.sl) :: R) (fun j => es.length - j) 0 ⟨rfl, rfl, rfl, trivial⟩
    (fun w h => Sat.pu_in (Nat.zero_le _) (h.frd (Ps := [_, _, _]) (Qs := [_]) fR_)) (fun j => CT.pu fun hj => ?_)
   repeat' (first|refine gL ?_|(refine gv ?_;(refine⟨fun hc=>?_,fun hc=>?_⟩<;>first|(exfalso;omega)|skip))|fail)
   ·obtain ⟨e, he⟩ : ∃ e, es[j]? = some e := ⟨_, List.getElem?_eq_getElem (by omega)⟩
    have hen := hn e (List.mem_of_getElem? he)
    obtain ⟨t, ht1, ht2, ht3, ht4⟩ := hT j e he
    have htl : (tw.map TW.sl)[j]? = some (Value.slice t.a' (e.n + 16) t.c') := by
     rw [List.getElem?_map, ht1, Option.map_some, ht2]
     unfold TW.sl
     rw [mk'_len]
    have hto : (tw.map TW.own)[j]? = some (Twi 5 1 e.a e.n e.c (ints .u8 (mk j e.n)) t.a' (e.n + 16) t.c' (ints .u8 (mk j e.n ++ mk' j 16))) := by
     rw [List.getElem?_map, ht1, Option.map_some, ht2]
     unfold TW.own
     rw [mk'_len]
    have hml : (tw.map TW.sl).length = tw.length * 1 := by simp
    have R1 : ∀ H, Rd B (Bag (tw.map TW.own) :: H) e.a e.n e.c 1 (ints .u8 (mk j e.n)) := fun H => Rd.bag hto (Twi.rd_old (by rw [ints_len, mk_len]; omega) ht4)
    have R2 : ∀ H, Rd B (Bag (tw.map TW.own) :: H) t.a' (e.n + 16) t.c' 1 (ints .u8 (mk j e.n ++ mk' j 16)) := fun H => Rd.bag hto (Twi.rd_new (by rw [ints_len, List.length_append, mk_len, mk'_len]; omega) ht3)
    refine RT.ix T (j := j) rfl rfl rfl (Own.rd sE_ hf1 hf2) (by omega) (by omega) (by omega) rfl rfl ?_
    refine RT.ldr T rfl (Own.rd sE_ hf1 hf2) (hsl _ _ he) rfl rfl rfl ?_
    try refine gL ?_
    refine CT.loop (α := Nat) (fun k => [(0, .slice ah es.length ch), (5, .slice al tw.length cl), (9, .int .i64 j), (10, .int .i64 e.n), (11, .int .i64 k)]) (fun k => Pu (k ≤ e.n) :: Own al cl 23 1 tw.length (tw.map TW.sl) :: Bag (tw.map TW.own) :: Own ah ch 23 1 es.length (es.map EB.sl) :: R) (fun k => e.n - k) 0 ⟨rfl, rfl, rfl, rfl, rfl, trivial⟩
     (fun w h => Sat.pu_in (Nat.zero_le _) h) (fun k => CT.pu fun hk => ?_)
    repeat' (first|refine gL ?_|(refine gv ?_;(refine⟨fun hc=>?_,fun hc=>?_⟩<;>first|(exfalso;omega)|skip))|fail)
    ·have hkn : k < e.n := by omega
     refine RT.ix T (j := j) rfl rfl rfl (Own.rd sE_ hf1 hf2) (by omega) (by omega) (by omega) rfl rfl ?_
     refine RT.ldr T rfl (Own.rd sE_ hf1 hf2) (hsl _ _ he) rfl rfl rfl ?_
     try refine gL ?_
     refine RT.ix T (j := k) rfl rfl rfl (rD (R1 _)) (by omega) (by omega) (by omega) rfl rfl ?_
     refine RT.ldi T rfl (rD (R1 _)) (by rw [mk_len]; omega) rfl rfl rfl ?_
     rw [mk_get hkn]
     repeat' (first|refine gL ?_|(refine gv ?_;first|(refine⟨fun hc=>?_,fun hc=>?_⟩<;>first|(exfalso;omega)|skip)|refine gk ?_|refine num_m fun r hr=>?_)|fail)
     refine RT.ix T (j := j) rfl rfl rfl (Own.rd sE_ hml hy2) (by omega) (by omega) (by omega) rfl rfl ?_
     refine RT.ldr T rfl (Own.rd sE_ hml hy2) htl rfl rfl rfl ?_
     try refine gL ?_
     refine RT.ix T (j := k) rfl rfl rfl (rD (R2 _)) (by omega) (by omega) (by omega) rfl rfl ?_
     refine RT.ldi T rfl (rD (R2 _)) (by rw [List.length_append, mk_len]; omega) rfl rfl rfl ?_
     rw [getD_l (by rw [mk_len]; exact hkn), mk_get hkn]
     repeat' (first|refine gL ?_|(refine gv ?_;first|(refine⟨fun hc=>?_,fun hc=>?_⟩<;>first|(exfalso;omega)|skip)|refine gk ?_|refine num_m fun r hr=>?_)|fail)
     exact AtQ.loop (k + 1) ⟨rfl, rfl, rfl, rfl, rfl, trivial⟩ (fun w h => Sat.pu_in (by omega) h) (by omega)
    ·refine CT.loop (α := Nat) (fun k => [(0, .slice ah es.length ch), (5, .slice al tw.length cl), (9, .int .i64 j), (10, .int .i64 e.n), (12, .int .i64 k)]) (fun k => Pu (k ≤ 16) :: Own al cl 23 1 tw.length (tw.map TW.sl) :: Bag (tw.map TW.own) :: Own ah ch 23 1 es.length (es.map EB.sl) :: R) (fun k => 16 - k) 0 ⟨rfl, rfl, rfl, rfl, rfl, trivial⟩
      (fun w h => Sat.pu_in (Nat.zero_le _) h) (fun q => CT.pu fun hq => ?_)
     repeat' (first|refine gL ?_|(refine gv ?_;first|(refine⟨fun hc=>?_,fun hc=>?_⟩<;>first|(exfalso;omega)|skip)|refine gk ?_)|fail)
     ·have hqn : q < 16 := by omega
      refine RT.ix T (j := j) rfl rfl rfl (Own.rd sE_ hml hy2) (by omega) (by omega) (by omega) rfl rfl ?_
      refine RT.ldr T rfl (Own.rd sE_ hml hy2) htl rfl rfl rfl ?_
      repeat' (first|refine gL ?_|(refine gv ?_;refine gk ?_)|fail)
      refine RT.ix T (j := e.n + q) rfl rfl rfl (rD (R2 _)) (by omega) (by omega) (by omega) rfl rfl ?_
      refine RT.ldi T rfl (rD (R2 _)) (by rw [List.length_append, mk_len, mk'_len]; omega) rfl rfl rfl ?_
      rw [show (mk j e.n ++ mk' j 16).getD (e.n + q) 0 = (mk' j 16).getD q 0 by have := getD_r (l := mk j e.n) (m := mk' j 16) (k := q); rwa [mk_len] at this, mk'_get hqn]
      repeat' (first|refine gL ?_|(refine gv ?_;first|(refine⟨fun hc=>?_,fun hc=>?_⟩<;>first|(exfalso;omega)|skip)|refine gk ?_|refine num_m fun r hr=>?_)|fail)
      exact AtQ.loop (q + 1) ⟨rfl, rfl, rfl, rfl, rfl, trivial⟩ (fun w h => Sat.pu_in (by omega) h) (by omega)
     ·exact AtQ.loop (j + 1) ⟨rfl, rfl, rfl, trivial⟩ (fun w h => Sat.pu_in (by omega) h) (by omega)
   ·exact AtQ.f1 (HH := []) Tryz.results36 rfl rfl (fun w h => h.tail.tail.tail)
end Go.Proofs.YtclcnhfponjdaaaGreatDoor
end
section
namespace Go.Proofs.YtclcnhfponjdaaaGreatDoor
open Go.Sk
set_option maxRecDepth 100000
attribute [local irreducible] Cs Own Ex Pu Yld RT LJ QJ AtQ CT Rd QSp Sp FinQ Then LoopQ CutQ DT TakeQ EffQ
attribute [local irreducible] Bag Twi
variable {B : World} {R : List HP}
theorem own72_fn : Sp B Tryz.prog 37 [.slice none 0 0] R [] (fun v H' => v = .bool true ∧ H' = []) := by
 refine Sp.body Tryz.func37 rfl Tryz.ntmps37 (by simp) ?_
 simp only [argE, List.cons_append, List.nil_append, Nat.zero_add, Nat.reduceAdd]
 repeat' (first|refine gS ?_|(refine gv ?_;(refine⟨fun hc=>?_,fun hc=>?_⟩<;>first|(exfalso;omega)|skip))|(refine CT.id_ ?_;refine CT.loop0 ?_)|refine gc ?_|fail)
 exact AtQ.f1 (HH := []) Tryz.results37 rfl rfl (fun w h => h)
theorem own73_fn : Sp B Tryz.prog 38 [.slice none 0 0] R [] (fun v H' => v = .bool true ∧ H' = []) := by
 refine Sp.body Tryz.func38 rfl Tryz.ntmps38 (by simp) ?_
 simp only [argE, List.cons_append, List.nil_append, Nat.zero_add, Nat.reduceAdd]
 repeat' (first|refine gS ?_|(refine gv ?_;(refine⟨fun hc=>?_,fun hc=>?_⟩<;>first|(exfalso;omega)|skip))|(refine CT.id_ ?_;refine CT.loop0 ?_)|refine gc ?_|fail)
 exact AtQ.f1 (HH := []) Tryz.results38 rfl rfl (fun w h => h)
theorem own74_fn : Sp B Tryz.prog 39 [.slice none 0 0] R [] (fun v H' => v = .bool true ∧ H' = []) := by
 refine Sp.body Tryz.func39 rfl Tryz.ntmps39 (by simp) ?_
 simp only [argE, List.cons_append, List.nil_append, Nat.zero_add, Nat.reduceAdd]
 repeat' (first|refine gS ?_|(refine gv ?_;(refine⟨fun hc=>?_,fun hc=>?_⟩<;>first|(exfalso;omega)|skip))|(refine CT.id_ ?_;refine CT.loop0 ?_)|refine gc ?_|fail)
 exact AtQ.f1 (HH := []) Tryz.results39 rfl rfl (fun w h => h)
theorem own75_fn : Sp B Tryz.prog 40 [.slice none 0 0] R [] (fun v H' => v = .bool true ∧ H' = []) := by
 refine Sp.body Tryz.func40 rfl Tryz.ntmps40 (by simp) ?_
 simp only [argE, List.cons_append, List.nil_append, Nat.zero_add, Nat.reduceAdd]
 repeat' (first|refine gS ?_|(refine gv ?_;(refine⟨fun hc=>?_,fun hc=>?_⟩<;>first|(exfalso;omega)|skip))|(refine CT.id_ ?_;refine CT.loop0 ?_)|refine gc ?_|fail)
 exact AtQ.f1 (HH := []) Tryz.results40 rfl rfl (fun w h => h)
theorem own76_fn : Sp B Tryz.prog 41 [.slice none 0 0] R [] (fun v H' => v = .bool true ∧ H' = []) := by
 refine Sp.body Tryz.func41 rfl Tryz.ntmps41 (by simp) ?_
 simp only [argE, List.cons_append, List.nil_append, Nat.zero_add, Nat.reduceAdd]
 repeat' (first|refine gS ?_|(refine gv ?_;(refine⟨fun hc=>?_,fun hc=>?_⟩<;>first|(exfalso;omega)|skip))|(refine CT.id_ ?_;refine CT.loop0 ?_)|refine gc ?_|fail)
 exact AtQ.f1 (HH := []) Tryz.results41 rfl rfl (fun w h => h)
theorem own77_fn : Sp B Tryz.prog 42 [.slice none 0 0] R [] (fun v H' => v = .bool true ∧ H' = []) := by
 refine Sp.body Tryz.func42 rfl Tryz.ntmps42 (by simp) ?_
 simp only [argE, List.cons_append, List.nil_append, Nat.zero_add, Nat.reduceAdd]
 repeat' (first|refine gS ?_|(refine gv ?_;(refine⟨fun hc=>?_,fun hc=>?_⟩<;>first|(exfalso;omega)|skip))|(refine CT.id_ ?_;refine CT.loop0 ?_)|refine gc ?_|fail)
 exact AtQ.f1 (HH := []) Tryz.results42 rfl rfl (fun w h => h)
theorem own78_fn : Sp B Tryz.prog 43 [.slice none 0 0] R [] (fun v H' => v = .bool true ∧ H' = []) := by
 refine Sp.body Tryz.func43 rfl Tryz.ntmps43 (by simp) ?_
 simp only [argE, List.cons_append, List.nil_append, Nat.zero_add, Nat.reduceAdd]
 repeat' (first|refine gS ?_|(refine gv ?_;(refine⟨fun hc=>?_,fun hc=>?_⟩<;>first|(exfalso;omega)|skip))|(refine CT.id_ ?_;refine CT.loop0 ?_)|refine gc ?_|fail)
 exact AtQ.f1 (HH := []) Tryz.results43 rfl rfl (fun w h => h)
theorem own79_fn : Sp B Tryz.prog 44 [.slice none 0 0] R [] (fun v H' => v = .bool true ∧ H' = []) := by
 refine Sp.body Tryz.func44 rfl Tryz.ntmps44 (by simp) ?_
 simp only [argE, List.cons_append, List.nil_append, Nat.zero_add, Nat.reduceAdd]
 repeat' (first|refine gS ?_|(refine gv ?_;(refine⟨fun hc=>?_,fun hc=>?_⟩<;>first|(exfalso;omega)|skip))|(refine CT.id_ ?_;refine CT.loop0 ?_)|refine gc ?_|fail)
 exact AtQ.f1 (HH := []) Tryz.results44 rfl rfl (fun w h => h)
theorem own80_fn : Sp B Tryz.prog 45 [.slice none 0 0] R [] (fun v H' => v = .bool true ∧ H' = []) := by
 refine Sp.body Tryz.func45 rfl Tryz.ntmps45 (by simp) ?_
 simp only [argE, List.cons_append, List.nil_append, Nat.zero_add, Nat.reduceAdd]
 repeat' (first|refine gS ?_|(refine gv ?_;(refine⟨fun hc=>?_,fun hc=>?_⟩<;>first|(exfalso;omega)|skip))|(refine CT.id_ ?_;refine CT.loop0 ?_)|refine gc ?_|fail)
 exact AtQ.f1 (HH := []) Tryz.results45 rfl rfl (fun w h => h)
theorem own81_fn : Sp B Tryz.prog 46 [.slice none 0 0] R [] (fun v H' => v = .bool true ∧ H' = []) := by
 refine Sp.body Tryz.func46 rfl Tryz.ntmps46 (by simp) ?_
 simp only [argE, List.cons_append, List.nil_append, Nat.zero_add, Nat.reduceAdd]
 repeat' (first|refine gS ?_|(refine gv ?_;(refine⟨fun hc=>?_,fun hc=>?_⟩<;>first|(exfalso;omega)|skip))|(refine CT.id_ ?_;refine CT.loop0 ?_)|refine gc ?_|fail)
 exact AtQ.f1 (HH := []) Tryz.results46 rfl rfl (fun w h => h)
theorem own82_fn : Sp B Tryz.prog 47 [.slice none 0 0] R [] (fun v H' => v = .bool true ∧ H' = []) := by
 refine Sp.body Tryz.func47 rfl Tryz.ntmps47 (by simp) ?_
 simp only [argE, List.cons_append, List.nil_append, Nat.zero_add, Nat.reduceAdd]
 repeat' (first|refine gS ?_|(refine gv ?_;(refine⟨fun hc=>?_,fun hc=>?_⟩<;>first|(exfalso;omega)|skip))|(refine CT.id_ ?_;refine CT.loop0 ?_)|refine gc ?_|fail)
 exact AtQ.f1 (HH := []) Tryz.results47 rfl rfl (fun w h => h)
theorem own83_fn : Sp B Tryz.prog 48 [.slice none 0 0] R [] (fun v H' => v = .bool true ∧ H' = []) := by
 refine Sp.body Tryz.func48 rfl Tryz.ntmps48 (by simp) ?_
 simp only [argE, List.cons_append, List.nil_append, Nat.zero_add, Nat.reduceAdd]
 repeat' (first|refine gS ?_|(refine gv ?_;(refine⟨fun hc=>?_,fun hc=>?_⟩<;>first|(exfalso;omega)|skip))|(refine CT.id_ ?_;refine CT.loop0 ?_)|refine gc ?_|fail)
 exact AtQ.f1 (HH := []) Tryz.results48 rfl rfl (fun w h => h)
theorem own84_fn : Sp B Tryz.prog 49 [.slice none 0 0] R [] (fun v H' => v = .bool true ∧ H' = []) := by
 refine Sp.body Tryz.func49 rfl Tryz.ntmps49 (by simp) ?_
 simp only [argE, List.cons_append, List.nil_append, Nat.zero_add, Nat.reduceAdd]
 repeat' (first|refine gS ?_|(refine gv ?_;(refine⟨fun hc=>?_,fun hc=>?_⟩<;>first|(exfalso;omega)|skip))|(refine CT.id_ ?_;refine CT.loop0 ?_)|refine gc ?_|fail)
 exact AtQ.f1 (HH := []) Tryz.results49 rfl rfl (fun w h => h)
theorem own85_fn : Sp B Tryz.prog 50 [.slice none 0 0] R [] (fun v H' => v = .bool true ∧ H' = []) := by
 refine Sp.body Tryz.func50 rfl Tryz.ntmps50 (by simp) ?_
 simp only [argE, List.cons_append, List.nil_append, Nat.zero_add, Nat.reduceAdd]
 repeat' (first|refine gS ?_|(refine gv ?_;(refine⟨fun hc=>?_,fun hc=>?_⟩<;>first|(exfalso;omega)|skip))|(refine CT.id_ ?_;refine CT.loop0 ?_)|refine gc ?_|fail)
 exact AtQ.f1 (HH := []) Tryz.results50 rfl rfl (fun w h => h)
theorem own86_fn : Sp B Tryz.prog 51 [.slice none 0 0] R [] (fun v H' => v = .bool true ∧ H' = []) := by
 refine Sp.body Tryz.func51 rfl Tryz.ntmps51 (by simp) ?_
 simp only [argE, List.cons_append, List.nil_append, Nat.zero_add, Nat.reduceAdd]
 repeat' (first|refine gS ?_|(refine gv ?_;(refine⟨fun hc=>?_,fun hc=>?_⟩<;>first|(exfalso;omega)|skip))|(refine CT.id_ ?_;refine CT.loop0 ?_)|refine gc ?_|fail)
 exact AtQ.f1 (HH := []) Tryz.results51 rfl rfl (fun w h => h)
theorem own87_fn : Sp B Tryz.prog 52 [.slice none 0 0] R [] (fun v H' => v = .bool true ∧ H' = []) := by
 refine Sp.body Tryz.func52 rfl Tryz.ntmps52 (by simp) ?_
 simp only [argE, List.cons_append, List.nil_append, Nat.zero_add, Nat.reduceAdd]
 repeat' (first|refine gS ?_|(refine gv ?_;(refine⟨fun hc=>?_,fun hc=>?_⟩<;>first|(exfalso;omega)|skip))|(refine CT.id_ ?_;refine CT.loop0 ?_)|refine gc ?_|fail)
 exact AtQ.f1 (HH := []) Tryz.results52 rfl rfl (fun w h => h)
theorem own88_fn : Sp B Tryz.prog 53 [.slice none 0 0] R [] (fun v H' => v = .bool true ∧ H' = []) := by
 refine Sp.body Tryz.func53 rfl Tryz.ntmps53 (by simp) ?_
 simp only [argE, List.cons_append, List.nil_append, Nat.zero_add, Nat.reduceAdd]
 repeat' (first|refine gS ?_|(refine gv ?_;(refine⟨fun hc=>?_,fun hc=>?_⟩<;>first|(exfalso;omega)|skip))|(refine CT.id_ ?_;refine CT.loop0 ?_)|refine gc ?_|fail)
 exact AtQ.f1 (HH := []) Tryz.results53 rfl rfl (fun w h => h)
theorem own89_fn : Sp B Tryz.prog 54 [.slice none 0 0] R [] (fun v H' => v = .bool true ∧ H' = []) := by
 refine Sp.body Tryz.func54 rfl Tryz.ntmps54 (by simp) ?_
 simp only [argE, List.cons_append, List.nil_append, Nat.zero_add, Nat.reduceAdd]
 repeat' (first|refine gS ?_|(refine gv ?_;(refine⟨fun hc=>?_,fun hc=>?_⟩<;>first|(exfalso;omega)|skip))|(refine CT.id_ ?_;refine CT.loop0 ?_)|refine gc ?_|fail)
 exact AtQ.f1 (HH := []) Tryz.results54 rfl rfl (fun w h => h)
theorem own90_fn : Sp B Tryz.prog 55 [.slice none 0 0] R [] (fun v H' => v = .bool true ∧ H' = []) := by
 refine Sp.body Tryz.func55 rfl Tryz.ntmps55 (by simp) ?_
 simp only [argE, List.cons_append, List.nil_append, Nat.zero_add, Nat.reduceAdd]
 repeat' (first|refine gS ?_|(refine gv ?_;(refine⟨fun hc=>?_,fun hc=>?_⟩<;>first|(exfalso;omega)|skip))|(refine CT.id_ ?_;refine CT.loop0 ?_)|refine gc ?_|fail)
 exact AtQ.f1 (HH := []) Tryz.results55 rfl rfl (fun w h => h)
theorem own91_fn : Sp B Tryz.prog 56 [.slice none 0 0] R [] (fun v H' => v = .bool true ∧ H' = []) := by
 refine Sp.body Tryz.func56 rfl Tryz.ntmps56 (by simp) ?_
 simp only [argE, List.cons_append, List.nil_append, Nat.zero_add, Nat.reduceAdd]
 repeat' (first|refine gS ?_|(refine gv ?_;(refine⟨fun hc=>?_,fun hc=>?_⟩<;>first|(exfalso;omega)|skip))|(refine CT.id_ ?_;refine CT.loop0 ?_)|refine gc ?_|fail)
 exact AtQ.f1 (HH := []) Tryz.results56 rfl rfl (fun w h => h)
theorem own92_fn : Sp B Tryz.prog 57 [.slice none 0 0] R [] (fun v H' => v = .bool true ∧ H' = []) := by
 refine Sp.body Tryz.func57 rfl Tryz.ntmps57 (by simp) ?_
 simp only [argE, List.cons_append, List.nil_append, Nat.zero_add, Nat.reduceAdd]
 repeat' (first|refine gS ?_|(refine gv ?_;(refine⟨fun hc=>?_,fun hc=>?_⟩<;>first|(exfalso;omega)|skip))|(refine CT.id_ ?_;refine CT.loop0 ?_)|refine gc ?_|fail)
 exact AtQ.f1 (HH := []) Tryz.results57 rfl rfl (fun w h => h)
theorem own93_fn : Sp B Tryz.prog 58 [.slice none 0 0] R [] (fun v H' => v = .bool true ∧ H' = []) := by
 refine Sp.body Tryz.func58 rfl Tryz.ntmps58 (by simp) ?_
 simp only [argE, List.cons_append, List.nil_append, Nat.zero_add, Nat.reduceAdd]
 repeat' (first|refine gS ?_|(refine gv ?_;(refine⟨fun hc=>?_,fun hc=>?_⟩<;>first|(exfalso;omega)|skip))|(refine CT.id_ ?_;refine CT.loop0 ?_)|refine gc ?_|fail)
 exact AtQ.f1 (HH := []) Tryz.results58 rfl rfl (fun w h => h)
--@
end Go.Proofs.YtclcnhfponjdaaaGreatDoor
end
section
namespace Go.Proofs.YtclcnhfponjdaaaGreatDoor
open Go.Sk
set_option maxRecDepth 100000
attribute [local irreducible] Cs Own Ex Pu Yld RT LJ QJ AtQ CT Rd QSp Sp FinQ Then LoopQ CutQ DT TakeQ EffQ
attribute [local irreducible] Bag Twi
variable {B : World} {R : List HP}
set_option maxHeartbeats 4000000 in
theorem own_fn {p : Nat} {es : List EB} (hk : es.length ≤ 1000000000000) (hn : ∀ e ∈ es, e.n ≤ 1000000000000) :
  Sp B Tryz.prog 17 [ptr p] R [BkB p es] (fun v H' => v = .bool true ∧ H' = []) := by
 refine Sp.body Tryz.func17 rfl Tryz.ntmps17 (by simp) ?_
 simp only [argE, List.cons_append, List.nil_append, Nat.zero_add, Nat.reduceAdd]
 refine CT.ex (fun x => ?_)
 obtain ⟨ab, cb⟩ := x
 simp only [List.cons_append, List.nil_append]
 try refine gL ?_
 refine RT.call T rfl fR_ (ownBytes_fn hk hn) rfl rfl rfl ?_
 rintro _ _ ⟨rfl, rfl⟩
 simp only [List.cons_append, List.nil_append]
 try refine gL ?_
 (refine RT.call T rfl fR_ (own72_fn) rfl rfl rfl ?_; rintro _ _ ⟨rfl, rfl⟩; try simp only [List.cons_append, List.nil_append])
 try refine gL ?_
 (refine RT.call T rfl fR_ (own73_fn) rfl rfl rfl ?_; rintro _ _ ⟨rfl, rfl⟩; try simp only [List.cons_append, List.nil_append])
 try refine gL ?_
 (refine RT.call T rfl fR_ (own74_fn) rfl rfl rfl ?_; rintro _ _ ⟨rfl, rfl⟩; try simp only [List.cons_append, List.nil_append])
 try refine gL ?_
 (refine RT.call T rfl fR_ (own75_fn) rfl rfl rfl ?_; rintro _ _ ⟨rfl, rfl⟩; try simp only [List.cons_append, List.nil_append])
 try refine gL ?_
 (refine RT.call T rfl fR_ (own76_fn) rfl rfl rfl ?_; rintro _ _ ⟨rfl, rfl⟩; try simp only [List.cons_append, List.nil_append])
 try refine gL ?_
 (refine RT.call T rfl fR_ (own77_fn) rfl rfl rfl ?_; rintro _ _ ⟨rfl, rfl⟩; try simp only [List.cons_append, List.nil_append])
 try refine gL ?_
 (refine RT.call T rfl fR_ (own78_fn) rfl rfl rfl ?_; rintro _ _ ⟨rfl, rfl⟩; try simp only [List.cons_append, List.nil_append])
 try refine gL ?_
 (refine RT.call T rfl fR_ (own79_fn) rfl rfl rfl ?_; rintro _ _ ⟨rfl, rfl⟩; try simp only [List.cons_append, List.nil_append])
 try refine gL ?_
 (refine RT.call T rfl fR_ (own80_fn) rfl rfl rfl ?_; rintro _ _ ⟨rfl, rfl⟩; try simp only [List.cons_append, List.nil_append])
 try refine gL ?_
 (refine RT.call T rfl fR_ (own81_fn) rfl rfl rfl ?_; rintro _ _ ⟨rfl, rfl⟩; try simp only [List.cons_append, List.nil_append])
 try refine gL ?_
 (refine RT.call T rfl fR_ (own82_fn) rfl rfl rfl ?_; rintro _ _ ⟨rfl, rfl⟩; try simp only [List.cons_append, List.nil_append])
 try refine gL ?_
 (refine RT.call T rfl fR_ (own83_fn) rfl rfl rfl ?_; rintro _ _ ⟨rfl, rfl⟩; try simp only [List.cons_append, List.nil_append])
 try refine gL ?_
 (refine RT.call T rfl fR_ (own84_fn) rfl rfl rfl ?_; rintro _ _ ⟨rfl, rfl⟩; try simp only [List.cons_append, List.nil_append])
 try refine gL ?_
 (refine RT.call T rfl fR_ (own85_fn) rfl rfl rfl ?_; rintro _ _ ⟨rfl, rfl⟩; try simp only [List.cons_append, List.nil_append])
 try refine gL ?_
 (refine RT.call T rfl fR_ (own86_fn) rfl rfl rfl ?_; rintro _ _ ⟨rfl, rfl⟩; try simp only [List.cons_append, List.nil_append])
 try refine gL ?_
 (refine RT.call T rfl fR_ (own87_fn) rfl rfl rfl ?_; rintro _ _ ⟨rfl, rfl⟩; try simp only [List.cons_append, List.nil_append])
 try refine gL ?_
 (refine RT.call T rfl fR_ (own88_fn) rfl rfl rfl ?_; rintro _ _ ⟨rfl, rfl⟩; try simp only [List.cons_append, List.nil_append])
 try refine gL ?_
 (refine RT.call T rfl fR_ (own89_fn) rfl rfl rfl ?_; rintro _ _ ⟨rfl, rfl⟩; try simp only [List.cons_append, List.nil_append])
 try refine gL ?_
 (refine RT.call T rfl fR_ (own90_fn) rfl rfl rfl ?_; rintro _ _ ⟨rfl, rfl⟩; try simp only [List.cons_append, List.nil_append])
 try refine gL ?_
 (refine RT.call T rfl fR_ (own91_fn) rfl rfl rfl ?_; rintro _ _ ⟨rfl, rfl⟩; try simp only [List.cons_append, List.nil_append])
 try refine gL ?_
 (refine RT.call T rfl fR_ (own92_fn) rfl rfl rfl ?_; rintro _ _ ⟨rfl, rfl⟩; try simp only [List.cons_append, List.nil_append])
 try refine gL ?_
 (refine RT.call T rfl fR_ (own93_fn) rfl rfl rfl ?_; rintro _ _ ⟨rfl, rfl⟩; try simp only [List.cons_append, List.nil_append])
 try refine gL ?_

 exact AtQ.f1 (HH := []) Tryz.results17 rfl rfl (fun w h => h.tail)
end Go.Proofs.YtclcnhfponjdaaaGreatDoor
end
section
namespace Go.Proofs.YtclcnhfponjdaaaGreatDoor
open Go.Sk
set_option maxRecDepth 100000
theorem newBookB {B : World} {p : Nat} {w : World} {H : List HP} (h : Sat B (Cs p 60 (.slice none 0 0 :: nils) :: H) w) : Sat B (BkB p [] :: H) w :=
 Sat.ex_in (none, 0) ((Bag.nil_ (Sat.nilOwn (e := 23) (sz := 1) h)).frd (Ps := [_, _, _]) (Qs := []) fR_)
theorem mem_er {l l' : List FileT} (h : l.map fEr = l'.map fEr) {f : FileT} (hf : f ∈ l) : ∃ f' ∈ l', fEr f = fEr f' := by
 have : fEr f ∈ l'.map fEr := h ▸ List.mem_map_of_mem hf
 obtain ⟨f', h1, h2⟩ := List.mem_map.1 this
 exact ⟨f', h1, h2.symm⟩
theorem f5_mono {X Y : Option Addr → Nat → Nat → Nat → List Value → Prop} (h : ∀ a k c z xs, X a k c z xs → Y a k c z xs) : ∀ {f : FileT}, f5 X f → f5 Y f := by
 have he : ∀ {e : EnumT}, e5 X e → e5 Y e := fun h1 => ⟨h _ _ _ _ _ h1.1, h _ _ _ _ _ h1.2.1, h _ _ _ _ _ h1.2.2⟩
 have hm : ∀ n, ∀ l : List MsgT, MsgT.deepL l ≤ n → m5L X l → m5L Y l := fun n => by
  induction n with
  | zero =>
   intro l hl h1
   match l, hl, h1 with
   | [], _, _ => unfold m5L; trivial
   | .mk _ _ _ _ _ _ _ _ _ :: l, hl, _ => unfold MsgT.deepL MsgT.deep at hl; omega
  | succ n ih =>
   intro l
   induction l with
   | nil => intro _ _; unfold m5L; trivial
   | cons m l il =>
    intro hl h1
    unfold MsgT.deepL at hl
    unfold m5L at h1 ⊢
    refine ⟨?_, il (by omega) h1.2⟩
    have h2 := h1.1
    cases m with | mk nm fields oneofs ma mc msgs enums res names =>
    unfold MsgT.deep at hl
    unfold m5 at h2 ⊢
    obtain ⟨a1, a2, a3, a4, a5, a6, a7, a8⟩ := h2
    exact ⟨h _ _ _ _ _ a1, h _ _ _ _ _ a2, h _ _ _ _ _ a3, h _ _ _ _ _ a4, h _ _ _ _ _ a5, ih _ (by omega) a6, h _ _ _ _ _ a7, fun e q => he (a8 e q)⟩
 rintro f ⟨h1, h2, h3, h4, h5⟩
 exact ⟨h _ _ _ _ _ h1, h _ _ _ _ _ h2, hm _ _ (Nat.le_refl _) h3, h _ _ _ _ _ h4, fun e q => he (h5 e q)⟩
theorem digestL_same {f f' : FileT} (h : fEr f = fEr f') : digestL f = digestL f' := by
 have : encodeL [f] = encodeL [f'] := encodeL_same (by simp [h])
 unfold digestL encB
 rw [this]
attribute [local irreducible] Cs Own Ex Pu Yld RT LJ QJ AtQ CT Rd QSp Sp FinQ Then LoopQ CutQ DT TakeQ EffQ
attribute [local irreducible] Bag BkB Twi
variable {B : World} {R : List HP}
set_option maxHeartbeats 8000000 in
theorem writes_fn (hT : Lib.Utf8Tabs 0 1 B) (hkn : ∀ R, Sp B Tryz.prog 8 [] R [] (fun v H' => v = .bool true ∧ H' = [])) {a : Option Addr} {c : Nat} {l : List FileT}
  (hR : Rd B R a l.length c 5 (l.flatMap FileT.cells)) (hk : l.length ≤ 140737488355328) (hin : ∀ f ∈ l, f.In (Rd B R)) (hok : ∀ f ∈ l, f.Ok) :
  Sp B Tryz.prog 6 [.slice a l.length c] R [] (fun v H' => v = .bool true ∧ H' = []) := by
 refine Sp.body Tryz.func6 rfl Tryz.ntmps6 (by simp) ?_
 simp only [argE, List.cons_append, List.nil_append, Nat.zero_add, Nat.reduceAdd]
 try refine gL ?_
 (refine RT.qcall T rfl (QSp.of fR_ (much_fn hR hk hin hok)) rfl rfl rfl ?_)
 repeat' (first|refine gL ?_|(refine gv ?_;(refine⟨fun hc=>?_,fun hc=>?_⟩<;>first|(exfalso;omega)|skip))|fail)
 ·exact AtQ.f1 (HH := []) Tryz.results6 rfl rfl (fun w h => h)
 have hml := mFs_law l 0 (Int.le_refl 0)
 have hw : wFs l ≤ 33554432 := by have := hml.2 (by omega); omega
 obtain ⟨hsl, hsm⟩ := wFs_sm hw
 clear hml hc
 (refine RT.qcall T rfl (QSp.of fR_ (hkn _)) rfl rfl rfl ?_)
 try refine gL ?_
 refine RT.call T rfl fR_ (lentF_fn (r := ⟨a, c, l⟩) hR hsl hin hsm) rfl rfl rfl ?_
 rintro _ _ ⟨a3, c3, l3, rfl, her, rfl⟩
 simp only [List.cons_append, List.nil_append]
 refine RT.fact (p := (∀ f ∈ l3, f5 (RdC B (rowH 75 5 FileT.cells lentFl a3 c3 l3 :: Bag (l3.flatMap fRows) :: R)) f) ∧ row5 (RdC B (rowH 75 5 FileT.cells lentFl a3 c3 l3 :: Bag (l3.flatMap fRows) :: R)) 5 FileT.cells lentFl a3 c3 l3) (fun w h => ⟨f5c_of h (Has.sel (.t .h)), Has.rdc (Has.sel .h) h⟩) (fun ⟨h5, h50⟩ => ?_)
 have hl3 : l3.length = l.length := by have := congrArg List.length her; simpa using this
 have hR3 := (row5_in h50 (fun _ => rfl)).1
 have hok3 : ∀ f ∈ l3, f.In (Rd B (rowH 75 5 FileT.cells lentFl a3 c3 l3 :: Bag (l3.flatMap fRows) :: R)) ∧ f.Ok := fun f hf => by
  obtain ⟨f0, h0, he⟩ := mem_er her hf
  exact lent_file (h5 f hf) he (hok f0 h0)
 have hE : encodeL l3 = encodeL l := encodeL_same her
 have hEB : encB l3 = encB l := by unfold encB; rw [hE]
 have hel := encB_len l
 have hRl : Rd B (rowH 75 5 FileT.cells lentFl a3 c3 l3 :: Bag (l3.flatMap fRows) :: R) a l.length c 5 (l.flatMap FileT.cells) := hR.cons.cons
 have hinl : ∀ f ∈ l, f.In (Rd B (rowH 75 5 FileT.cells lentFl a3 c3 l3 :: Bag (l3.flatMap fRows) :: R)) := fun f hf => FileT.In.mono (fun _ _ _ _ _ h => h.cons.cons) (hin f hf)
 try refine gL ?_
 refine RT.call T rfl fR_ (encode_fn (l := l3) hT hR3 (fun f hf => (hok3 f hf).1) (fun f hf => (hok3 f hf).2) (by omega)) rfl rfl rfl ?_
 rw [hEB, hE]
 rintro _ _ ⟨a4, c4, rfl, rfl⟩
 simp only [List.cons_append, List.nil_append]
 refine RT.fact (p := (encB l).length ≤ c4) (fun w h => (Own.facts h .h).2.1) fun hc4 => ?_
 try refine gL ?_
 refine RT.call T rfl fR_ (encode_fn (l := l3) hT (rD (hR3)) (fun f hf => FileT.In.mono (fun _ _ _ _ _ h => (rD (h))) (hok3 f hf).1) (fun f hf => (hok3 f hf).2) (by omega)) rfl rfl rfl ?_
 rw [hEB, hE]
 rintro _ _ ⟨a6, c6, rfl, rfl⟩
 simp only [List.cons_append, List.nil_append]
 refine RT.fact (p := (encB l).length ≤ c6) (fun w h => (Own.facts h .h).2.1) fun hc6 => ?_
 try refine gL ?_
 refine RT.call T rfl fR_ (rencode_fn (l := l) (rD (hRl)) (fun f hf => FileT.In.mono (fun _ _ _ _ _ h => (rD (h))) (hinl f hf)) hok hw) rfl rfl rfl ?_
 rintro _ _ ⟨a8, c8, rfl, rfl⟩
 simp only [List.cons_append, List.nil_append]
 refine RT.fact (p := (encB l).length ≤ c8) (fun w h => (Own.facts h .h).2.1) fun hc8 => ?_
 generalize hEs : encB l = es at *
 generalize hEr : (encodeL l).2 = er at *
 try refine gL ?_
 (refine RT.qcall T rfl (QSp.of fR_ (sameBytes_fn (l := es) (l' := es) (Own.rdI sE_ rfl hc4) (Own.rdI sE_ rfl hc8) (by omega) (by omega))) rfl rfl rfl ?_)
 rw [decide_eq_true (rfl : es = es)]
 try refine gL ?_
 (refine RT.qcall T rfl (QSp.of fR_ (sameBytes_fn (l := es) (l' := es) (Own.rdI sE_ rfl hc6) (Own.rdI sE_ rfl hc8) (by omega) (by omega))) rfl rfl rfl ?_)
 rw [decide_eq_true (rfl : es = es)]
 try refine gL ?_
 refine CT.loop (α := Nat) (fun i => [(0, .slice a l.length c), (3, .bool true), (4, .slice a3 l3.length c3), (5, .slice a4 es.length c4), (6, .int .i64 er), (7, .slice a6 es.length c6), (8, .int .i64 er), (10, .int .i64 er), (11, .bool true), (12, .bool true), (13, .bool true), (14, .int .i64 i)])
  (fun i => Pu (i ≤ l3.length) :: own8 a8 c8 es es.length :: own8 a6 c6 es es.length :: own8 a4 c4 es es.length :: rowH 75 5 FileT.cells lentFl a3 c3 l3 :: Bag (l3.flatMap fRows) :: R) (fun i => l3.length - i) 0
  ⟨rfl, rfl, rfl, rfl, rfl, rfl, rfl, rfl, rfl, rfl, rfl, rfl, trivial⟩ (fun w h => Sat.pu_in (Nat.zero_le _) h) (fun i => CT.pu fun hil => ?_)
 repeat' (first|refine gL ?_|(refine gv ?_;(refine⟨fun hc=>?_,fun hc=>?_⟩<;>first|(exfalso;omega)|skip))|fail)
 ·have hi3 : i < l3.length := by omega
  have hi0 : i < l.length := by omega
  have hg3 := List.getElem?_eq_getElem hi3
  have hg0 := List.getElem?_eq_getElem hi0
  have hse : fEr l3[i] = fEr l[i] := by
   have h1 : (l3.map fEr)[i]? = (l.map fEr)[i]? := by rw [her]
   rw [List.getElem?_map, List.getElem?_map, hg3, hg0] at h1
   simpa using h1
  revert hg3 hg0 hse
  generalize l3[i] = f3
  generalize l[i] = f0
  intro hg3 hg0 hse
  have hm3 := List.mem_of_getElem? hg3
  have hm0 := List.mem_of_getElem? hg0
  have hd := digestL_same hse
  have hwf : wF f0 ≤ 33554432 := by have := sum_mem (f := wF) hm0; unfold wFs at hw; omega
  refine RT.ix T (j := i * 5) rfl rfl rfl (rD (hR3)) (by omega) (by omega) (by omega) rfl rfl ?_
  refine RT.ldra T rfl (rD (hR3)) (l := f3.cells) (flat_sub (f := FileT.cells) (z := 5) (fun _ => rfl) l3 i _ hg3) rfl rfl rfl rfl ?_
  (refine RT.qcall T rfl (QSp.of fR_ (digest_fn (f := f3) hT (FileT.In.mono (fun _ _ _ _ _ h => (rD (h))) (hok3 f3 hm3).1) (hok3 f3 hm3).2)) rfl rfl rfl ?_)
  try refine gL ?_
  refine RT.ix T (j := i * 5) rfl rfl rfl (rD (hRl)) (by omega) (by omega) (by omega) rfl rfl ?_
  refine RT.ldra T rfl (rD (hRl)) (l := f0.cells) (flat_sub (f := FileT.cells) (z := 5) (fun _ => rfl) l i _ hg0) rfl rfl rfl rfl ?_
  (refine RT.qcall T rfl (QSp.of fR_ (rdigest_fn (f := f0) (FileT.In.mono (fun _ _ _ _ _ h => (rD (h))) (hinl f0 hm0)) (hok f0 hm0) hwf)) rfl rfl rfl ?_)
  repeat' (first|refine gL ?_|(refine gv ?_;first|(refine⟨fun hc=>?_,fun hc=>?_⟩<;>first|(exfalso;omega)|skip)|refine gk ?_)|fail)
  exact AtQ.loop (i + 1) ⟨rfl, rfl, rfl, rfl, rfl, rfl, rfl, rfl, rfl, rfl, rfl, rfl, trivial⟩ (fun w h => Sat.pu_in (by omega) h) (by omega)
 obtain rfl : i = l3.length := by omega
 (refine RT.qcall T rfl (QSp.of fR_ (wholeF_fn (l := l) (l2 := l3) (c := c3) (by repeat (first | exact ((h50.1)) | apply Rd.cons)) (fun f hf => f5_mono (fun _ _ _ _ _ h => (by repeat (first | exact ((h.1)) | apply Rd.cons))) (h5 f hf)) her (rD (hRl)) (fun f hf => FileT.In.mono (fun _ _ _ _ _ h => (rD (h))) (hinl f hf)) hok hsm hsl)) rfl rfl rfl ?_)
 repeat' (first|refine gL ?_|(refine gb ?_;intro b)|fail)
 revert b
 intro bb
 refine RT.weak (fun w h => newBookB h) ?_
 refine RT.call T rfl fR_ (bookBytes_fn (p := bb) (a := a4) (c := c4) (n := es.length) (l := es) (es := []) (by decide)) rfl rfl rfl ?_
 rintro _ _ ⟨rfl, rfl⟩
 simp only [List.cons_append, List.nil_append]
 try refine gL ?_
 refine RT.call T rfl fR_ (bookBytes_fn (p := bb) (a := a6) (c := c6) (n := es.length) (l := es) (es := [⟨a4, es.length, c4, es⟩]) (by simp)) rfl rfl rfl ?_
 rintro _ _ ⟨rfl, rfl⟩
 simp only [List.cons_append, List.nil_append]
 try refine gL ?_
 refine RT.call T rfl fR_ (own_fn (p := bb) (es := [⟨a4, es.length, c4, es⟩, ⟨a6, es.length, c6, es⟩]) (by simp) (by
  simp only [List.forall_mem_cons, List.not_mem_nil, false_implies, implies_true, and_true]
  omega)) rfl rfl rfl ?_
 rintro _ _ ⟨rfl, rfl⟩
 simp only [List.nil_append]
 repeat' (first|refine gL ?_|(refine gv ?_;(refine⟨fun hc=>?_,fun hc=>?_⟩<;>first|(exfalso;omega)|skip))|fail)
 exact AtQ.f1 (HH := []) Tryz.results6 rfl rfl dR_
end Go.Proofs.YtclcnhfponjdaaaGreatDoor
end
