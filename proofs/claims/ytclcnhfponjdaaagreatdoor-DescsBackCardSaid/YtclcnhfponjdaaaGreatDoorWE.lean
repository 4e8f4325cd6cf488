/- Merged: P63, P64, W0, W1, W2, W3, Q6. -/
import Derived.Test.YtclcnhfponjdaaaGreatDoorWD
import Derived.Test.YtclcnhfponjdaaaGreatDoorWA
import Derived.Test.YtclcnhfponjdaaaGreatDoorWC
set_option linter.unusedVariables false
set_option linter.unusedSimpArgs false
section
namespace Go.Proofs.YtclcnhfponjdaaaGreatDoor
open Go.Sk
theorem body_le {α : Type} {f : α → Txt} {k : Int} {l : List α} {K : Nat} (h : (fRecs k f l).length ≤ K) (hK : K ≤ 140737488355328) : ∀ x ∈ l, (f x).length ≤ 140737488355328 := fun x hx => by
 have := (fRecs_ge f k l).2 x hx
 omega
theorem txt_ok {l : List Txt} (h : ∀ y ∈ l, TxtC y) : ∀ t ∈ l, goodT t = true ∧ t.length ≤ 140737488355328 := fun t ht => ⟨(h t ht).1, (h t ht).2.2⟩
variable {bs : Txt}
set_option maxHeartbeats 1000000 in
theorem rdSpan_back (h16 : bs.length ≤ 16777216) {x : SpanT} (hc : SpanC x) {s to : Nat} (hst : s ≤ to) (htb : to ≤ bs.length) (hs : sg bs s to = spanB x) : rdSpan bs s to = .ok x := by
 have hl := sg_len (bs := bs) (a := s) htb
 rw [hs] at hl
 unfold spanB at hs hl
 obtain ⟨f_, t_⟩ := x
 obtain ⟨c1, c2⟩ := hc
 simp only [List.length_append] at *
 exact readR_of (lo := 1) (hi := 2) (by decide) (Grp.seq
  (Grp.sign (num := 1) (x := (⟨0, 0⟩ : SpanT)) (y := (⟨f_, 0⟩ : SpanT)) htb (by decide) (by decide) (by decide) rfl c1 (fun h => by rw [h]) (fun a fr => by simp only [fSpan, unzig_zig]))
  (Grp.sign (num := 2) (x := (⟨f_, 0⟩ : SpanT)) (y := (⟨f_, t_⟩ : SpanT)) htb (by decide) (by decide) (by decide) rfl c2 (fun h => by rw [h]) (fun a fr => by simp only [fSpan, unzig_zig]))) hs hst htb
set_option maxHeartbeats 1000000 in
theorem rdVal_back (h16 : bs.length ≤ 16777216) {x : EValT} (hc : ValC x) {s to : Nat} (hst : s ≤ to) (htb : to ≤ bs.length) (hs : sg bs s to = valB x) : rdVal bs s to = .ok x := by
 have hl := sg_len (bs := bs) (a := s) htb
 rw [hs] at hl
 unfold valB at hs hl
 obtain ⟨nm_, num_⟩ := x
 obtain ⟨c1, c2⟩ := hc
 simp only [List.length_append] at *
 exact readR_of (lo := 1) (hi := 2) (by decide) (Grp.seq
  (Grp.text (num := 1) (x := (⟨[], 0⟩ : EValT)) (y := (⟨nm_, 0⟩ : EValT)) htb (by decide) (by decide) (by decide) rfl c1.1 c1.2.2 (fun h => by rw [h]) (fun a v fr hh => by simp only [fVal, txtG_at (g := ⟨1, v, fr, fr + nm_.length⟩) hh]))
  (Grp.sign (num := 2) (x := (⟨nm_, 0⟩ : EValT)) (y := (⟨nm_, num_⟩ : EValT)) htb (by decide) (by decide) (by decide) rfl c2 (fun h => by rw [h]) (fun a fr => by simp only [fVal, unzig_zig]))) hs hst htb
set_option maxHeartbeats 1000000 in
theorem rdImp_back (h16 : bs.length ≤ 16777216) {x : ImpT} (hc : ImpC x) {s to : Nat} (hst : s ≤ to) (htb : to ≤ bs.length) (hs : sg bs s to = impB x) : rdImp bs s to = .ok x := by
 have hl := sg_len (bs := bs) (a := s) htb
 rw [hs] at hl
 unfold impB at hs hl
 obtain ⟨path_, pub_⟩ := x
 obtain ⟨c1, c2⟩ := hc
 simp only [List.length_append] at *
 exact readR_of (lo := 1) (hi := 2) (by decide) (Grp.seq
  (Grp.text (num := 1) (x := (⟨[], false⟩ : ImpT)) (y := (⟨path_, false⟩ : ImpT)) htb (by decide) (by decide) (by decide) rfl c1.1 c1.2.2 (fun h => by rw [h]) (fun a v fr hh => by simp only [fImp, txtG_at (g := ⟨1, v, fr, fr + path_.length⟩) hh]))
  (Grp.truth (num := 2) (x := (⟨path_, false⟩ : ImpT)) (y := (⟨path_, pub_⟩ : ImpT)) htb (by decide) (by decide) (by decide) rfl (fun h => by rw [h]) (fun hb a fr => by rw [hb]; simp only [fImp]))) hs hst htb
set_option maxHeartbeats 1000000 in
theorem rdField_back (h16 : bs.length ≤ 16777216) {x : FieldT} (hc : FieldC x) {s to : Nat} (hst : s ≤ to) (htb : to ≤ bs.length) (hs : sg bs s to = fieldB x) : rdField bs s to = .ok x := by
 have hl := sg_len (bs := bs) (a := s) htb
 rw [hs] at hl
 unfold fieldB at hs hl
 obtain ⟨nm_, num_, card_, kind_, ty_, key_, oneof_, packed_, js_⟩ := x
 obtain ⟨c1, c2, c3, c4, c5, c6, c7, c8, c9⟩ := hc
 simp only [List.length_append] at *
 exact readR_of (lo := 1) (hi := 9) (by decide) (Grp.seq
  (Grp.text (num := 1) (x := (⟨[], 0, 0, 0, [], 0, 0, 0, []⟩ : FieldT)) (y := (⟨nm_, 0, 0, 0, [], 0, 0, 0, []⟩ : FieldT)) htb (by decide) (by decide) (by decide) rfl c1.1 c1.2.2 (fun h => by rw [h]) (fun a v fr hh => by simp only [fField, txtG_at (g := ⟨1, v, fr, fr + nm_.length⟩) hh]))
  (Grp.seq
  (Grp.sign (num := 2) (x := (⟨nm_, 0, 0, 0, [], 0, 0, 0, []⟩ : FieldT)) (y := (⟨nm_, num_, 0, 0, [], 0, 0, 0, []⟩ : FieldT)) htb (by decide) (by decide) (by decide) rfl c2 (fun h => by rw [h]) (fun a fr => by simp only [fField, unzig_zig]))
  (Grp.seq
  (Grp.small (num := 3) (x := (⟨nm_, num_, 0, 0, [], 0, 0, 0, []⟩ : FieldT)) (y := (⟨nm_, num_, card_, 0, [], 0, 0, 0, []⟩ : FieldT)) htb (by decide) (by decide) (by decide) rfl c3 (fun h => by rw [h]) (fun a fr => by simp only [fField]))
  (Grp.seq
  (Grp.small (num := 4) (x := (⟨nm_, num_, card_, 0, [], 0, 0, 0, []⟩ : FieldT)) (y := (⟨nm_, num_, card_, kind_, [], 0, 0, 0, []⟩ : FieldT)) htb (by decide) (by decide) (by decide) rfl c4 (fun h => by rw [h]) (fun a fr => by simp only [fField]))
  (Grp.seq
  (Grp.text (num := 5) (x := (⟨nm_, num_, card_, kind_, [], 0, 0, 0, []⟩ : FieldT)) (y := (⟨nm_, num_, card_, kind_, ty_, 0, 0, 0, []⟩ : FieldT)) htb (by decide) (by decide) (by decide) rfl c5.1 c5.2.2 (fun h => by rw [h]) (fun a v fr hh => by simp only [fField, txtG_at (g := ⟨5, v, fr, fr + ty_.length⟩) hh]))
  (Grp.seq
  (Grp.small (num := 6) (x := (⟨nm_, num_, card_, kind_, ty_, 0, 0, 0, []⟩ : FieldT)) (y := (⟨nm_, num_, card_, kind_, ty_, key_, 0, 0, []⟩ : FieldT)) htb (by decide) (by decide) (by decide) rfl c6 (fun h => by rw [h]) (fun a fr => by simp only [fField]))
  (Grp.seq
  (Grp.signl (num := 7) (x := (⟨nm_, num_, card_, kind_, ty_, key_, 0, 0, []⟩ : FieldT)) (y := (⟨nm_, num_, card_, kind_, ty_, key_, oneof_, 0, []⟩ : FieldT)) htb (by decide) (by decide) (by decide) rfl c7 (fun h => by rw [h]) (fun a fr => by simp only [fField, unzig_zig]))
  (Grp.seq
  (Grp.small (num := 8) (x := (⟨nm_, num_, card_, kind_, ty_, key_, oneof_, 0, []⟩ : FieldT)) (y := (⟨nm_, num_, card_, kind_, ty_, key_, oneof_, packed_, []⟩ : FieldT)) htb (by decide) (by decide) (by decide) rfl c8 (fun h => by rw [h]) (fun a fr => by simp only [fField]))
  (Grp.text (num := 9) (x := (⟨nm_, num_, card_, kind_, ty_, key_, oneof_, packed_, []⟩ : FieldT)) (y := (⟨nm_, num_, card_, kind_, ty_, key_, oneof_, packed_, js_⟩ : FieldT)) htb (by decide) (by decide) (by decide) rfl c9.1 c9.2.2 (fun h => by rw [h]) (fun a v fr hh => by simp only [fField, txtG_at (g := ⟨9, v, fr, fr + js_.length⟩) hh])))))))))) hs hst htb
set_option maxHeartbeats 1000000 in
theorem rdEnum_back (h16 : bs.length ≤ 16777216) {x : EnumT} (hc : EnumC x) {s to : Nat} (hst : s ≤ to) (htb : to ≤ bs.length) (hs : sg bs s to = enumB x) : rdEnum bs s to = .ok (EnumT.er x) := by
 have hl := sg_len (bs := bs) (a := s) htb
 rw [hs] at hl
 unfold enumB at hs hl
 obtain ⟨nm_, ⟨va1, vc1, vals_⟩, ali_, ⟨ra3, rc3, res_⟩, ⟨na4, nc4, names_⟩⟩ := x
 obtain ⟨c1, c2, c3, c4, c5⟩ := hc
 simp only [List.length_append] at *
 exact readR_of (lo := 1) (hi := 5) (by decide) (Grp.seq
  (Grp.text (num := 1) (x := (⟨[], ⟨none, 0, []⟩, false, ⟨none, 0, []⟩, ⟨none, 0, []⟩⟩ : EnumT)) (y := (⟨nm_, ⟨none, 0, []⟩, false, ⟨none, 0, []⟩, ⟨none, 0, []⟩⟩ : EnumT)) htb (by decide) (by decide) (by decide) rfl c1.1 c1.2.2 (fun h => by rw [h]) (fun a v fr hh => by simp only [fEnum, txtG_at (g := ⟨1, v, fr, fr + nm_.length⟩) hh]))
  (Grp.seq
  (Grp.recs (num := 2) htb (by decide) (by decide) (by decide) rfl valB (fun l => (⟨nm_, ⟨none, 0, l⟩, false, ⟨none, 0, []⟩, ⟨none, 0, []⟩⟩ : EnumT)) vals_ (body_le (k := 2) (K := 16777216) (by omega) (by decide)) (fun e he pre a v fr h1 hh => by show Except.map _ (rdVal bs fr (fr + (valB e).length)) = _; rw [rdVal_back h16 (c2 e he) (Nat.le_add_right _ _) (Nat.le_trans h1 htb) hh]; simp [Except.map, pushR]))
  (Grp.seq
  (Grp.truth (num := 3) (x := (⟨nm_, ⟨none, 0, vals_⟩, false, ⟨none, 0, []⟩, ⟨none, 0, []⟩⟩ : EnumT)) (y := (⟨nm_, ⟨none, 0, vals_⟩, ali_, ⟨none, 0, []⟩, ⟨none, 0, []⟩⟩ : EnumT)) htb (by decide) (by decide) (by decide) rfl (fun h => by rw [h]) (fun hb a fr => by rw [hb]; simp only [fEnum]))
  (Grp.seq
  (Grp.recs (num := 4) htb (by decide) (by decide) (by decide) rfl spanB (fun l => (⟨nm_, ⟨none, 0, vals_⟩, ali_, ⟨none, 0, l⟩, ⟨none, 0, []⟩⟩ : EnumT)) res_ (body_le (k := 4) (K := 16777216) (by omega) (by decide)) (fun e he pre a v fr h1 hh => by show Except.map _ (rdSpan bs fr (fr + (spanB e).length)) = _; rw [rdSpan_back h16 (c4 e he) (Nat.le_add_right _ _) (Nat.le_trans h1 htb) hh]; simp [Except.map, pushR]))
  (Grp.texts (num := 5) htb (by decide) (by decide) (by decide) rfl (fun l => (⟨nm_, ⟨none, 0, vals_⟩, ali_, ⟨none, 0, res_⟩, ⟨none, 0, l⟩⟩ : EnumT)) names_ (txt_ok c5) (fun pre e a v fr hh => by simp only [fEnum, pushR, txtG_at (g := ⟨5, v, fr, fr + e.length⟩) hh])))))) hs hst htb
set_option maxHeartbeats 1000000 in
theorem rdMsg_back_of {sub : Option (Nat → Nat → Except Nat MsgT)} {x : MsgT} {d : Nat} (h16 : bs.length ≤ 16777216) (hd : d ≤ 99) (hc : MsgC x d) {s to : Nat} (hst : s ≤ to) (htb : to ≤ bs.length) (hsub : ∀ e ∈ x.msgs, ∀ a b, a ≤ b → b ≤ bs.length → sg bs a b = msgB e (d + 1) → ∃ rd, sub = some rd ∧ rd a b = .ok (mEr e)) (hs : sg bs s to = msgB x d) : readR formMessage bs (fMsg bs sub) s to msg0 = .ok (mEr x) := by
 have hl := sg_len (bs := bs) (a := s) htb
 rw [hs] at hl
 rw [msgB_pr hd] at hs hl
 obtain ⟨nm_, ⟨fa1, fc1, fields_⟩, ⟨oa2, oc2, oneofs_⟩, ma_, mc_, msgs_, ⟨ea4, ec4, enums_⟩, ⟨ra5, rc5, res_⟩, ⟨na6, nc6, names_⟩⟩ := x
 unfold MsgC at hc
 obtain ⟨c0, c1, c2, c3, c4, c5, c6, c7⟩ := hc
 simp only [MsgT.nm, MsgT.fields, MsgT.oneofs, MsgT.msgs, MsgT.enums, MsgT.res, MsgT.names, List.length_append] at *
 unfold mEr
 rw [mErL_map]
 exact readR_of (lo := 1) (hi := 7) (by decide) (Grp.seq
  (Grp.text (num := 1) (x := (MsgT.mk [] ⟨none, 0, []⟩ ⟨none, 0, []⟩ none 0 [] ⟨none, 0, []⟩ ⟨none, 0, []⟩ ⟨none, 0, []⟩)) (y := (MsgT.mk nm_ ⟨none, 0, []⟩ ⟨none, 0, []⟩ none 0 [] ⟨none, 0, []⟩ ⟨none, 0, []⟩ ⟨none, 0, []⟩)) htb (by decide) (by decide) (by decide) rfl c1.1 c1.2.2 (fun h => by rw [h]) (fun a v fr hh => by simp only [fMsg, txtG_at (g := ⟨1, v, fr, fr + nm_.length⟩) hh]))
  (Grp.seq
  (Grp.recs (num := 2) htb (by decide) (by decide) (by decide) rfl fieldB (fun l => (MsgT.mk nm_ ⟨none, 0, l⟩ ⟨none, 0, []⟩ none 0 [] ⟨none, 0, []⟩ ⟨none, 0, []⟩ ⟨none, 0, []⟩)) fields_ (body_le (k := 2) (K := 16777216) (by omega) (by decide)) (fun e he pre a v fr h1 hh => by show Except.map _ (rdField bs fr (fr + (fieldB e).length)) = _; rw [rdField_back h16 (c2 e he) (Nat.le_add_right _ _) (Nat.le_trans h1 htb) hh]; simp [Except.map, pushR]))
  (Grp.seq
  (Grp.texts (num := 3) htb (by decide) (by decide) (by decide) rfl (fun l => (MsgT.mk nm_ ⟨none, 0, fields_⟩ ⟨none, 0, l⟩ none 0 [] ⟨none, 0, []⟩ ⟨none, 0, []⟩ ⟨none, 0, []⟩)) oneofs_ (txt_ok c3) (fun pre e a v fr hh => by simp only [fMsg, pushR, txtG_at (g := ⟨3, v, fr, fr + e.length⟩) hh]))
  (Grp.seq
  (Grp.recs (num := 4) htb (by decide) (by decide) (by decide) rfl (fun y => msgB y (d + 1)) (fun l => (MsgT.mk nm_ ⟨none, 0, fields_⟩ ⟨none, 0, oneofs_⟩ none 0 (List.map mEr l) ⟨none, 0, []⟩ ⟨none, 0, []⟩ ⟨none, 0, []⟩)) msgs_ (body_le (k := 4) (K := 16777216) (by omega) (by decide)) (fun e he pre a v fr h1 hh => by have hr := hsub e he _ _ (Nat.le_add_right _ _) (Nat.le_trans h1 htb) hh; obtain ⟨rd, hrd, hr⟩ := hr; rw [hrd]; show Except.map _ (rd fr (fr + (msgB e (d + 1)).length)) = _; rw [hr]; simp [Except.map]))
  (Grp.seq
  (Grp.recs (num := 5) htb (by decide) (by decide) (by decide) rfl enumB (fun l => (MsgT.mk nm_ ⟨none, 0, fields_⟩ ⟨none, 0, oneofs_⟩ none 0 (List.map mEr msgs_) ⟨none, 0, List.map EnumT.er l⟩ ⟨none, 0, []⟩ ⟨none, 0, []⟩)) enums_ (body_le (k := 5) (K := 16777216) (by omega) (by decide)) (fun e he pre a v fr h1 hh => by show Except.map _ (rdEnum bs fr (fr + (enumB e).length)) = _; rw [rdEnum_back h16 (c5 e he) (Nat.le_add_right _ _) (Nat.le_trans h1 htb) hh]; simp [Except.map, pushR]))
  (Grp.seq
  (Grp.recs (num := 6) htb (by decide) (by decide) (by decide) rfl spanB (fun l => (MsgT.mk nm_ ⟨none, 0, fields_⟩ ⟨none, 0, oneofs_⟩ none 0 (List.map mEr msgs_) ⟨none, 0, List.map EnumT.er enums_⟩ ⟨none, 0, l⟩ ⟨none, 0, []⟩)) res_ (body_le (k := 6) (K := 16777216) (by omega) (by decide)) (fun e he pre a v fr h1 hh => by show Except.map _ (rdSpan bs fr (fr + (spanB e).length)) = _; rw [rdSpan_back h16 (c6 e he) (Nat.le_add_right _ _) (Nat.le_trans h1 htb) hh]; simp [Except.map, pushR]))
  (Grp.texts (num := 7) htb (by decide) (by decide) (by decide) rfl (fun l => (MsgT.mk nm_ ⟨none, 0, fields_⟩ ⟨none, 0, oneofs_⟩ none 0 (List.map mEr msgs_) ⟨none, 0, List.map EnumT.er enums_⟩ ⟨none, 0, res_⟩ ⟨none, 0, l⟩)) names_ (txt_ok c7) (fun pre e a v fr hh => by simp only [fMsg, pushR, txtG_at (g := ⟨7, v, fr, fr + e.length⟩) hh])))))))) hs hst htb
theorem rdMsg_back (h16 : bs.length ≤ 16777216) : ∀ (k d : Nat), k + d = 99 → ∀ {x : MsgT}, MsgC x d → ∀ {s to : Nat}, s ≤ to → to ≤ bs.length → sg bs s to = msgB x d → rdMsg bs k s to = .ok (mEr x)
 | 0, d, hk, x, hc, s, to, h1, h2, hs => rdMsg_back_of (sub := none) h16 (by omega) hc h1 h2 (fun e he a b _ _ _ => by
   cases x
   unfold MsgC at hc
   have := MsgCL_iff.1 hc.2.2.2.2.1 e he
   cases e
   unfold MsgC at this
   omega) hs
 | k + 1, d, hk, x, hc, s, to, h1, h2, hs => rdMsg_back_of (sub := some (rdMsg bs k)) h16 (by omega) hc h1 h2 (fun e he a b g1 g2 g3 => by
   have hce : MsgC e (d + 1) := by
    cases x
    unfold MsgC at hc
    exact MsgCL_iff.1 hc.2.2.2.2.1 e he
   exact ⟨_, rfl, rdMsg_back h16 k (d + 1) (by omega) hce g1 g2 g3⟩) hs
set_option maxHeartbeats 1000000 in
theorem rdFile_back (h16 : bs.length ≤ 16777216) {x : FileT} (hc : FileC x) {s to : Nat} (hst : s ≤ to) (htb : to ≤ bs.length) (hs : sg bs s to = fileB x) : rdFile bs s to = .ok (fEr x) := by
 have hl := sg_len (bs := bs) (a := s) htb
 rw [hs] at hl
 unfold fileB at hs hl
 obtain ⟨path_, pack_, ⟨ia2, ic2, imps_⟩, ma_, mc_, msgs_, ⟨ea4, ec4, enums_⟩⟩ := x
 obtain ⟨c1, c2, c3, c4, c5⟩ := hc
 simp only [msgsB_eq, List.length_append] at *
 exact readR_of (lo := 1) (hi := 5) (by decide) (Grp.seq
  (Grp.text (num := 1) (x := (⟨[], [], ⟨none, 0, []⟩, none, 0, [], ⟨none, 0, []⟩⟩ : FileT)) (y := (⟨path_, [], ⟨none, 0, []⟩, none, 0, [], ⟨none, 0, []⟩⟩ : FileT)) htb (by decide) (by decide) (by decide) rfl c1.1 c1.2.2 (fun h => by rw [h]) (fun a v fr hh => by simp only [fFile, txtG_at (g := ⟨1, v, fr, fr + path_.length⟩) hh]))
  (Grp.seq
  (Grp.text (num := 2) (x := (⟨path_, [], ⟨none, 0, []⟩, none, 0, [], ⟨none, 0, []⟩⟩ : FileT)) (y := (⟨path_, pack_, ⟨none, 0, []⟩, none, 0, [], ⟨none, 0, []⟩⟩ : FileT)) htb (by decide) (by decide) (by decide) rfl c2.1 c2.2.2 (fun h => by rw [h]) (fun a v fr hh => by simp only [fFile, txtG_at (g := ⟨2, v, fr, fr + pack_.length⟩) hh]))
  (Grp.seq
  (Grp.recs (num := 3) htb (by decide) (by decide) (by decide) rfl impB (fun l => (⟨path_, pack_, ⟨none, 0, l⟩, none, 0, [], ⟨none, 0, []⟩⟩ : FileT)) imps_ (body_le (k := 3) (K := 16777216) (by omega) (by decide)) (fun e he pre a v fr h1 hh => by show Except.map _ (rdImp bs fr (fr + (impB e).length)) = _; rw [rdImp_back h16 (c3 e he) (Nat.le_add_right _ _) (Nat.le_trans h1 htb) hh]; simp [Except.map, pushR]))
  (Grp.seq
  (Grp.recs (num := 4) htb (by decide) (by decide) (by decide) rfl (fun y => msgB y 0) (fun l => (⟨path_, pack_, ⟨none, 0, imps_⟩, none, 0, (List.map mEr l), ⟨none, 0, []⟩⟩ : FileT)) msgs_ (body_le (k := 4) (K := 16777216) (by omega) (by decide)) (fun e he pre a v fr h1 hh => by show Except.map _ (rdMsg bs 99 fr (fr + (msgB e 0).length)) = _; rw [rdMsg_back h16 99 0 rfl (c4 e he) (Nat.le_add_right _ _) (Nat.le_trans h1 htb) hh]; simp [Except.map]))
  (Grp.recs (num := 5) htb (by decide) (by decide) (by decide) rfl enumB (fun l => (⟨path_, pack_, ⟨none, 0, imps_⟩, none, 0, (List.map mEr msgs_), ⟨none, 0, List.map EnumT.er l⟩⟩ : FileT)) enums_ (body_le (k := 5) (K := 16777216) (by omega) (by decide)) (fun e he pre a v fr h1 hh => by show Except.map _ (rdEnum bs fr (fr + (enumB e).length)) = _; rw [rdEnum_back h16 (c5 e he) (Nat.le_add_right _ _) (Nat.le_trans h1 htb) hh]; simp [Except.map, pushR])))))) hs hst htb
theorem setB_cons (f : FileT) (l : List FileT) : setB (f :: l) = fBytes 1 (fileB f) ++ setB l := rfl
theorem setB_app (a b : List FileT) : setB (a ++ b) = setB a ++ setB b := by unfold setB fRecs; rw [List.flatMap_append]
theorem rdSet_back {l : List FileT} (h16 : (setB l).length ≤ 16777216) (hc : ∀ f ∈ l, FileC f) : rdSet (setB l) 0 (setB l).length = .ok ⟨none, 0, l.map fEr⟩ := by
 have htb : (setB l).length ≤ (setB l).length := Nat.le_refl _
 have hl : (fRecs 1 fileB l).length ≤ 16777216 := h16
 exact readR_of (form := formSet) (lo := 1) (hi := 1) (by decide) (Grp.recs (num := 1) htb (by decide) (by decide) (by decide) rfl fileB (fun l => (⟨none, 0, l.map fEr⟩ : Rw FileT)) l (body_le (k := 1) (K := 16777216) hl (by decide)) (fun e he pre a v fr h1 hh => by
  show Except.map _ (rdFile (setB l) fr (fr + (fileB e).length)) = _
  rw [rdFile_back h16 (hc e he) (Nat.le_add_right _ _) h1 hh]
  simp [Except.map, pushR])) (show sg (setB l) 0 (setB l).length = fRecs 1 fileB l from sg_all) (Nat.zero_le _) htb
theorem readL_back {l : List FileT} (h16 : (setB l).length ≤ 16777216) (hc : ∀ f ∈ l, FileC f) : readL (setB l) = (l.map fEr, 0, 0) := by
 unfold readL
 rw [if_neg (by omega), rdSet_back h16 hc]
/-- Such bytes are fields. -/
theorem Vr_enc {v : Int} (h : V64 v) : Vr (enc v) v := by
 have := vr_enc h []
 rwa [List.append_nil] at this
theorem setB_fls (d : Int) : ∀ l : List FileT, (setB l).length ≤ 140737488355328 → Fls d (setB l)
 | [], _ => .nil
 | f :: l, h => by
  rw [setB_cons] at h ⊢
  rw [List.length_append] at h
  have hb := fBytes_ge 1 (fileB f)
  have e : fBytes 1 (fileB f) ++ setB l = enc (1 * 8 + 2) ++ ((enc ((fileB f).length : Int) ++ fileB f) ++ setB l) := by unfold fBytes; simp
  rw [e]
  exact .cons (n := 1) (k := 2) ⟨Vr_enc ⟨by decide, by decide⟩, by decide, by decide, by decide, by decide⟩ (by decide) (.by_ (Vr_enc ⟨by omega, by omega⟩)) (setB_fls d l (by omega))
theorem EnumC_of {e : EnumT} (ho : e.Ok) (hg : goodEn e = true) : EnumC e := by
 unfold goodEn at hg
 simp only [Bool.and_eq_true, List.all_eq_true] at hg
 obtain ⟨o1, o2, o3, o4, o5, o6, o7⟩ := ho
 exact ⟨⟨hg.1.1, o1⟩, fun v hv => ⟨⟨hg.2 v hv, (o3 v hv).1⟩, (o3 v hv).2⟩, trivial, o5, fun t ht => ⟨hg.1.2 t ht, o7 t ht⟩⟩
theorem FieldC_of {f : FieldT} (ho : f.Ok) (hg : goodFd f = true) : FieldC f := by
 unfold goodFd at hg
 simp only [Bool.and_eq_true] at hg
 obtain ⟨o1, o2, o3, o4, o5, o6, o7, o8, o9⟩ := ho
 exact ⟨⟨hg.1.1, o1⟩, o2, o3, o4, ⟨hg.1.2, o5⟩, o6, o7, o8, hg.2, o9⟩
mutual
theorem MsgC_of : ∀ (m : MsgT) (d : Nat), m.Ok → goodMs m d = true → MsgC m d
 | .mk nm fields oneofs ma mc msgs enums res names, d, ho, hg => by
  unfold MsgT.Ok at ho
  unfold goodMs at hg
  simp only [Bool.and_eq_true, decide_eq_true_eq, List.all_eq_true] at hg
  obtain ⟨⟨⟨⟨⟨⟨g0, g1⟩, g2⟩, g3⟩, g4⟩, g5⟩, g6⟩ := hg
  obtain ⟨o1, ⟨o2, o2'⟩, ⟨o3, o3'⟩, o4, ⟨o5, o5'⟩, ⟨o6, o6'⟩, ⟨o7, o7'⟩, o8⟩ := ho
  have ih := MsgCL_of msgs (d + 1) o8 g5
  unfold MsgC
  exact ⟨g0, ⟨g1, o1⟩, fun f hf => FieldC_of (o2' f hf) (g4 f hf), fun t ht => ⟨g2 t ht, o3' t ht⟩, ih, fun e he => EnumC_of (o5' e he) (g6 e he), o6', fun t ht => ⟨g3 t ht, o7' t ht⟩⟩
theorem MsgCL_of : ∀ (l : List MsgT) (d : Nat), MsgT.OkL l → goodMsL l d = true → MsgCL l d
 | [], _, _, _ => by unfold MsgCL; trivial
 | m :: l, d, ho, hg => by
  unfold MsgT.OkL at ho
  unfold goodMsL at hg
  rw [Bool.and_eq_true] at hg
  unfold MsgCL
  exact ⟨MsgC_of m d ho.1 hg.1, MsgCL_of l d ho.2 hg.2⟩
end
theorem FileC_of {f : FileT} (ho : f.Ok) (hg : goodFl f = true) : FileC f := by
 unfold goodFl at hg
 simp only [Bool.and_eq_true, List.all_eq_true] at hg
 obtain ⟨⟨⟨⟨g1, g2⟩, g3⟩, g4⟩, g5⟩ := hg
 exact ⟨⟨g1, ho.path⟩, ⟨g2, ho.pack⟩, fun i hi => ⟨⟨g3 i hi, ho.imps.2 i hi⟩, trivial⟩, MsgCL_iff.1 (MsgCL_of f.msgs 0 (MsgT.okL_of ho.msgs.2) g4), fun e he => EnumC_of (ho.enums.2 e he) (g5 e he)⟩
end Go.Proofs.YtclcnhfponjdaaaGreatDoor
end
section
namespace Go.Proofs.YtclcnhfponjdaaaGreatDoor
open Go.Sk
theorem by_nil : Bytes [] := fun _ h => by cases h
theorem by_app {a b : Txt} (h : Bytes a) (k : Bytes b) : Bytes (a ++ b) := fun x hx => (List.mem_append.1 hx).elim (h x) (k x)
theorem by_body {k : Int} {b : Txt} (hk : 0 ≤ k) (hk2 : k ≤ 100) (hl : b.length ≤ 140737488355328) (h : Bytes b) : Bytes (fBytes k b) := by
 unfold fBytes
 exact by_app (enc_bytes ⟨by omega, by omega⟩) (by_app (enc_bytes ⟨by omega, by omega⟩) h)
theorem by_text {k : Int} {t : Txt} (hk : 0 ≤ k) (hk2 : k ≤ 100) (h : OkT t) : Bytes (fText k t) := by
 unfold fText
 split
 ·exact by_nil
 ·exact by_body hk hk2 h.2 h.1
theorem by_flat {α : Type} {f : α → Txt} : ∀ {l : List α}, (∀ x ∈ l, Bytes (f x)) → Bytes (l.flatMap f)
 | [], _ => by_nil
 | x :: l, h => by rw [List.flatMap_cons]; exact by_app (h x List.mem_cons_self) (by_flat fun y hy => h y (List.mem_cons_of_mem _ hy))
theorem by_texts {k : Int} {l : List Txt} (hk : 0 ≤ k) (hk2 : k ≤ 100) (h : ∀ t ∈ l, TxtC t) : Bytes (fTexts k l) := by_flat fun t ht => by_body hk hk2 (h t ht).2.2 (h t ht).2.1
theorem by_recs {α : Type} {f : α → Txt} {k : Int} {l : List α} (hk : 0 ≤ k) (hk2 : k ≤ 100) (hl : (fRecs k f l).length ≤ 16777216) (h : ∀ x ∈ l, (f x).length ≤ 16777216 → Bytes (f x)) : Bytes (fRecs k f l) := by_flat fun x hx => by
 have := (fRecs_ge f k l).2 x hx
 exact by_body hk hk2 (by omega) (h x hx (by omega))
theorem by_sign {k v : Int} (hk : 0 ≤ k) (hk2 : k ≤ 100) (h : I64 v) : Bytes (fSign k v) := by
 unfold fSign
 split
 ·exact by_nil
 ·exact by_app (enc_bytes ⟨by omega, by omega⟩) (enc_bytes (zig_ok h))
theorem by_small {k v : Int} (hk : 0 ≤ k) (hk2 : k ≤ 100) (h : U8 v) : Bytes (fSmall k v) := by
 unfold fSmall
 split
 ·exact by_nil
 ·exact by_app (enc_bytes ⟨by omega, by omega⟩) (enc_bytes ⟨h.1, by have := h.2; omega⟩)
theorem by_truth {k : Int} {b : Bool} (hk : 0 ≤ k) (hk2 : k ≤ 100) : Bytes (fTruth k b) := by
 unfold fTruth
 split
 ·exact by_app (enc_bytes ⟨by omega, by omega⟩) (enc_bytes ⟨by decide, by decide⟩)
 ·exact by_nil
theorem i64_32 {v : Int} (h : I32 v) : I64 v := ⟨by have := h.1; omega, by have := h.2; omega⟩
theorem by_span {x : SpanT} (h : SpanC x) : Bytes (spanB x) := by_app (by_sign (by decide) (by decide) (i64_32 h.1)) (by_sign (by decide) (by decide) (i64_32 h.2))
theorem by_val {x : EValT} (h : ValC x) : Bytes (valB x) := by_app (by_text (by decide) (by decide) h.1.2) (by_sign (by decide) (by decide) (i64_32 h.2))
theorem by_imp {x : ImpT} (h : ImpC x) : Bytes (impB x) := by_app (by_text (by decide) (by decide) h.1.2) (by_truth (by decide) (by decide))
theorem by_field {x : FieldT} (h : FieldC x) : Bytes (fieldB x) := by
 obtain ⟨c1, c2, c3, c4, c5, c6, c7, c8, c9⟩ := h
 exact by_app (by_text (by decide) (by decide) c1.2) (by_app (by_sign (by decide) (by decide) (i64_32 c2)) (by_app (by_small (by decide) (by decide) c3) (by_app (by_small (by decide) (by decide) c4) (by_app (by_text (by decide) (by decide) c5.2) (by_app (by_small (by decide) (by decide) c6) (by_app (by_sign (by decide) (by decide) c7) (by_app (by_small (by decide) (by decide) c8) (by_text (by decide) (by decide) c9.2))))))))
theorem by_enum {x : EnumT} (h : EnumC x) (hl : (enumB x).length ≤ 16777216) : Bytes (enumB x) := by
 obtain ⟨c1, c2, _, c4, c5⟩ := h
 unfold enumB at hl ⊢
 simp only [List.length_append] at hl
 exact by_app (by_text (by decide) (by decide) c1.2) (by_app (by_recs (by decide) (by decide) (by omega) fun v hv _ => by_val (c2 v hv)) (by_app (by_truth (by decide) (by decide)) (by_app (by_recs (by decide) (by decide) (by omega) fun s hs _ => by_span (c4 s hs)) (by_texts (by decide) (by decide) c5))))
mutual
theorem by_msg : ∀ (m : MsgT) (d : Nat), MsgC m d → (msgB m d).length ≤ 16777216 → Bytes (msgB m d)
 | .mk nm fields oneofs ma mc msgs enums res names, d, h, hl => by
  unfold MsgC at h
  obtain ⟨c0, c1, c2, c3, c4, c5, c6, c7⟩ := h
  rw [msgB_pr c0] at hl ⊢
  simp only [MsgT.nm, MsgT.fields, MsgT.oneofs, MsgT.msgs, MsgT.enums, MsgT.res, MsgT.names, List.length_append] at hl ⊢
  exact by_app (by_text (by decide) (by decide) c1.2) (by_app (by_recs (by decide) (by decide) (by omega) fun f hf _ => by_field (c2 f hf)) (by_app (by_texts (by decide) (by decide) c3) (by_app (by_recs (by decide) (by decide) (by omega) (by_msgs msgs (d + 1) c4)) (by_app (by_recs (by decide) (by decide) (by omega) fun e he q => by_enum (c5 e he) q) (by_app (by_recs (by decide) (by decide) (by omega) fun s hs _ => by_span (c6 s hs)) (by_texts (by decide) (by decide) c7))))))
theorem by_msgs : ∀ (l : List MsgT) (d : Nat), MsgCL l d → ∀ m ∈ l, (msgB m d).length ≤ 16777216 → Bytes (msgB m d)
 | [], _, _, _, h, _ => by cases h
 | x :: l, d, h, m, hm, hl => by
  unfold MsgCL at h
  rcases List.mem_cons.1 hm with e | hm
  ·rw [e] at hl ⊢
   exact by_msg x d h.1 hl
  ·exact by_msgs l d h.2 m hm hl
end
theorem by_file {f : FileT} (h : FileC f) (hl : (fileB f).length ≤ 16777216) : Bytes (fileB f) := by
 obtain ⟨c1, c2, c3, c4, c5⟩ := h
 unfold fileB at hl ⊢
 rw [msgsB_eq] at hl ⊢
 simp only [List.length_append] at hl
 exact by_app (by_text (by decide) (by decide) c1.2) (by_app (by_text (by decide) (by decide) c2.2) (by_app (by_recs (by decide) (by decide) (by omega) fun i hi _ => by_imp (c3 i hi)) (by_app (by_recs (by decide) (by decide) (by omega) fun m hm q => by_msg m 0 (c4 m hm) q) (by_recs (by decide) (by decide) (by omega) fun e he q => by_enum (c5 e he) q))))
theorem by_set {l : List FileT} (h : ∀ f ∈ l, FileC f) (hl : (setB l).length ≤ 16777216) : Bytes (setB l) := by_recs (by decide) (by decide) hl fun f hf q => by_file (h f hf) q
/-- What Encode says, where it gives bytes. -/
theorem encodeL_zero {l : List FileT} (ho : ∀ f ∈ l, f.Ok) (h : (encodeL l).2 = 0) : encodeL l = (some (setB l), 0) ∧ encB l = setB l ∧ (setB l).length ≤ 16777216 ∧ (∀ f ∈ l, FileC f) := by
 unfold encB
 unfold encodeL at h ⊢
 split at h
 ·rename_i hg
  split at h
  ·rename_i h16
   rw [if_pos hg, if_pos h16]
   exact ⟨rfl, rfl, h16, fun f hf => FileC_of (ho f hf) (List.all_eq_true.1 hg f hf)⟩
  ·exact absurd h (by decide)
 ·exact absurd h (by decide)
theorem encodeL_C {l : List FileT} (hc : ∀ f ∈ l, FileC f) (h16 : (setB l).length ≤ 16777216) : encodeL l = (some (setB l), 0) := by
 unfold encodeL
 rw [if_pos (List.all_eq_true.2 fun f hf => FileC_good (hc f hf)), if_pos h16]
end Go.Proofs.YtclcnhfponjdaaaGreatDoor
end
section
namespace Go.Proofs.YtclcnhfponjdaaaGreatDoor
open Go.Sk
def mT : List Txt → Int → Int
 | [], n => n
 | t :: l, n => if n ≤ 33554432 then mT l (n + 8 + t.length) else n
def mV : List EValT → Int → Int
 | [], n => n
 | v :: l, n => if n ≤ 33554432 then mV l (n + 16 + v.nm.length) else n
def mE : List EnumT → Int → Int
 | [], n => n
 | e :: l, n => if n ≤ 33554432 then mE l (mV e.vals.l (n + 32 + e.nm.length + 8 * (e.res.l.length : Int) + mT e.names.l 0)) else n
def mFd : List FieldT → Int → Int
 | [], n => n
 | f :: l, n => if n ≤ 33554432 then mFd l (n + 64 + f.nm.length + f.ty.length + f.js.length) else n
def mI : List ImpT → Int → Int
 | [], n => n
 | i :: l, n => if n ≤ 33554432 then mI l (n + 16 + i.path.length) else n
def plusM (n x : Int) : Int := if n ≤ 33554432 then n + x else n
mutual
def mM1 : MsgT → Nat → Int → Int
 | .mk nm fields oneofs _ _ msgs enums res names, d, n => plusM (mFd fields.l (n + 64 + nm.length + mT oneofs.l 0 + 8 * (res.l.length : Int) + mT names.l 0 + mE enums.l 0)) (if 5000 < d + 1 then 33554433 else mML msgs (d + 1) 0)
def mML : List MsgT → Nat → Int → Int
 | [], _, n => n
 | m :: l, d, n => if n ≤ 33554432 then mML l d (mM1 m d n) else n
end
def mMs (l : List MsgT) (d : Nat) : Int := if 5000 < d then 33554433 else mML l d 0
def mF1 (f : FileT) (n : Int) : Int := plusM (mI f.imps.l (n + 64 + f.path.length + f.pack.length + mE f.enums.l 0)) (mMs f.msgs 0)
def mFs : List FileT → Int → Int
 | [], n => n
 | f :: l, n => if n ≤ 33554432 then mFs l (mF1 f n) else n
/-! ### what it tells -/
theorem mT_law : ∀ (l : List Txt) (n : Int), n ≤ mT l n ∧ (mT l n ≤ 33554432 → mT l n = n + wT l)
 | [], n => by simp [mT, wT]
 | t :: l, n => by
  have ih := mT_law l (n + 8 + t.length)
  unfold wT at ih ⊢
  rw [mT, List.map_cons, List.sum_cons]
  split <;> constructor <;> omega
theorem mV_law : ∀ (l : List EValT) (n : Int), n ≤ mV l n ∧ (mV l n ≤ 33554432 → mV l n = n + ((l.map fun v : EValT => 16 + v.nm.length).sum : Nat))
 | [], n => by simp [mV]
 | t :: l, n => by
  have ih := mV_law l (n + 16 + t.nm.length)
  rw [mV, List.map_cons, List.sum_cons]
  split <;> constructor <;> omega
theorem mFd_law : ∀ (l : List FieldT) (n : Int), n ≤ mFd l n ∧ (mFd l n ≤ 33554432 → mFd l n = n + (l.map wFd).sum)
 | [], n => by simp [mFd]
 | t :: l, n => by
  have ih := mFd_law l (n + 64 + t.nm.length + t.ty.length + t.js.length)
  have hw : wFd t = 64 + t.nm.length + t.ty.length + t.js.length := rfl
  rw [mFd, List.map_cons, List.sum_cons, hw]
  split <;> constructor <;> omega
theorem mI_law : ∀ (l : List ImpT) (n : Int), n ≤ mI l n ∧ (mI l n ≤ 33554432 → mI l n = n + (l.map wI).sum)
 | [], n => by simp [mI]
 | t :: l, n => by
  have ih := mI_law l (n + 16 + t.path.length)
  have hw : wI t = 16 + t.path.length := rfl
  rw [mI, List.map_cons, List.sum_cons, hw]
  split <;> constructor <;> omega
theorem mE_law : ∀ (l : List EnumT) (n : Int), 0 ≤ n → n ≤ mE l n ∧ (mE l n ≤ 33554432 → mE l n = n + (l.map wE).sum)
 | [], n, hn => by simp [mE]
 | e :: l, n, hn => by
  have h1 := mT_law e.names.l 0
  have h2 := mV_law e.vals.l (n + 32 + e.nm.length + 8 * (e.res.l.length : Int) + mT e.names.l 0)
  have ih := mE_law l (mV e.vals.l (n + 32 + e.nm.length + 8 * (e.res.l.length : Int) + mT e.names.l 0)) (by omega)
  have hw : wE e = 32 + e.nm.length + 8 * e.res.l.length + wT e.names.l + (e.vals.l.map fun v => 16 + v.nm.length).sum := rfl
  rw [mE, List.map_cons, List.sum_cons, hw]
  split <;> constructor <;> omega
mutual
theorem mM1_law : ∀ (m : MsgT) (d : Nat) (n : Int), 0 ≤ n → n ≤ mM1 m d n ∧ (mM1 m d n ≤ 33554432 → mM1 m d n = n + wM m)
 | .mk nm fields oneofs ma mc msgs enums res names, d, n, hn => by
  have h1 := mT_law oneofs.l 0
  have h2 := mT_law names.l 0
  have h3 := mE_law enums.l 0 (Int.le_refl 0)
  have h4 := mFd_law fields.l (n + 64 + nm.length + mT oneofs.l 0 + 8 * (res.l.length : Int) + mT names.l 0 + mE enums.l 0)
  have h5 := mML_law msgs (d + 1) 0 (Int.le_refl 0)
  unfold mM1 wM plusM
  split
  ·split <;> constructor <;> omega
  ·constructor <;> omega
theorem mML_law : ∀ (l : List MsgT) (d : Nat) (n : Int), 0 ≤ n → n ≤ mML l d n ∧ (mML l d n ≤ 33554432 → mML l d n = n + wMs l)
 | [], d, n, hn => by unfold mML wMs; simp
 | m :: l, d, n, hn => by
  have h1 := mM1_law m d n hn
  have h2 := mML_law l d (mM1 m d n) (by omega)
  unfold mML wMs
  split <;> constructor <;> omega
end
theorem mFs_law : ∀ (l : List FileT) (n : Int), 0 ≤ n → n ≤ mFs l n ∧ (mFs l n ≤ 33554432 → mFs l n = n + wFs l)
 | [], n, hn => by simp [mFs, wFs]
 | f :: l, n, hn => by
  have h1 := mE_law f.enums.l 0 (Int.le_refl 0)
  have h2 := mI_law f.imps.l (n + 64 + f.path.length + f.pack.length + mE f.enums.l 0)
  have h3 := mML_law f.msgs 0 0 (Int.le_refl 0)
  have hw : wF f = 64 + f.path.length + f.pack.length + (f.enums.l.map wE).sum + (f.imps.l.map wI).sum + wMs f.msgs := rfl
  have hm : mF1 f n = (if mI f.imps.l (n + 64 + f.path.length + f.pack.length + mE f.enums.l 0) ≤ 33554432 then mI f.imps.l (n + 64 + f.path.length + f.pack.length + mE f.enums.l 0) + mML f.msgs 0 0 else mI f.imps.l (n + 64 + f.path.length + f.pack.length + mE f.enums.l 0)) := rfl
  have hge : n ≤ mF1 f n := by rw [hm]; split <;> omega
  have ih := mFs_law l (mF1 f n) (by omega)
  unfold wFs at ih ⊢
  rw [mFs, List.map_cons, List.sum_cons, hw]
  split at hm <;> split <;> constructor <;> omega
/-! ### it is not too great a number -/
theorem mT_hi : ∀ (l : List Txt) (n : Int), (∀ t ∈ l, OkT t) → mT l n ≤ max n 140737600000000
 | [], n, _ => by unfold mT; omega
 | t :: l, n, h => by
  have ih := mT_hi l (n + 8 + t.length) (fun t ht => h t (List.mem_cons_of_mem _ ht))
  have := (h t List.mem_cons_self).2
  rw [mT]
  split <;> omega
theorem mV_hi : ∀ (l : List EValT) (n : Int), (∀ v ∈ l, v.Ok) → mV l n ≤ max n 140737600000000
 | [], n, _ => by unfold mV; omega
 | t :: l, n, h => by
  have ih := mV_hi l (n + 16 + t.nm.length) (fun t ht => h t (List.mem_cons_of_mem _ ht))
  have := (h t List.mem_cons_self).1.2
  rw [mV]
  split <;> omega
theorem mFd_hi : ∀ (l : List FieldT) (n : Int), (∀ v ∈ l, v.Ok) → mFd l n ≤ max n 562949987020800
 | [], n, _ => by unfold mFd; omega
 | t :: l, n, h => by
  have ih := mFd_hi l (n + 64 + t.nm.length + t.ty.length + t.js.length) (fun t ht => h t (List.mem_cons_of_mem _ ht))
  obtain ⟨h1, _, _, _, h2, _, _, _, h3⟩ := h t List.mem_cons_self
  have h1 := h1.2
  have h2 := h2.2
  have h3 := h3.2
  rw [mFd]
  split <;> omega
theorem mI_hi : ∀ (l : List ImpT) (n : Int), (∀ v ∈ l, v.Ok) → mI l n ≤ max n 140737600000000
 | [], n, _ => by unfold mI; omega
 | t :: l, n, h => by
  have ih := mI_hi l (n + 16 + t.path.length) (fun t ht => h t (List.mem_cons_of_mem _ ht))
  have := (show OkT t.path from h t List.mem_cons_self).2
  rw [mI]
  split <;> omega
theorem mE_hi : ∀ (l : List EnumT) (n : Int), (∀ e ∈ l, e.Ok) → mE l n ≤ max n 1688849994022912
 | [], n, _ => by unfold mE; omega
 | e :: l, n, h => by
  obtain ⟨o1, o2, o3, o4, o5, o6, o7⟩ := h e List.mem_cons_self
  have o1 := o1.2
  have o4 := o4.1
  have h1 := mT_hi e.names.l 0 o7
  have h2 := mV_hi e.vals.l (n + 32 + e.nm.length + 8 * (e.res.l.length : Int) + mT e.names.l 0) o3
  have ih := mE_hi l (mV e.vals.l (n + 32 + e.nm.length + 8 * (e.res.l.length : Int) + mT e.names.l 0)) (fun t ht => h t (List.mem_cons_of_mem _ ht))
  rw [mE]
  split <;> omega
theorem mML_hi {K : Int} {d : Nat} : ∀ (l : List MsgT) (q : Int), (∀ m ∈ l, ∀ q, 0 ≤ q → q ≤ 33554432 → mM1 m d q ≤ K) → 0 ≤ q → q ≤ K → mML l d q ≤ K
 | [], q, _, _, h => by unfold mML; exact h
 | m :: l, q, h, h0, h1 => by
  unfold mML
  split
  ·rename_i hq
   have hl := mM1_law m d q h0
   exact mML_hi l _ (fun m hm => h m (List.mem_cons_of_mem _ hm)) (by omega) (h m List.mem_cons_self q h0 hq)
  ·exact h1
theorem mM1_le {m : MsgT} {d : Nat} {q X : Int} (hok : m.Ok) (h0 : 0 ≤ q) (h1 : q ≤ 33554432) (hX : mMs m.msgs (d + 1) ≤ X) (hX0 : 4503599627370496 ≤ X) : mM1 m d q ≤ X + 33554433 := by
 obtain ⟨nm, fields, oneofs, ma, mc, msgs, enums, res, names⟩ := m
 unfold MsgT.Ok at hok
 obtain ⟨o1, ⟨o2, o2'⟩, ⟨o3, o3'⟩, o4, ⟨o5, o5'⟩, ⟨o6, o6'⟩, ⟨o7, o7'⟩, o8⟩ := hok
 have o1 := o1.2
 have o6 := o6.1
 have t1 := mT_hi oneofs.l 0 o3'
 have t2 := mT_hi names.l 0 o7'
 have t3 := mE_hi enums.l 0 o5'
 have t4 := mFd_hi fields.l (q + 64 + nm.length + mT oneofs.l 0 + 8 * (res.l.length : Int) + mT names.l 0 + mE enums.l 0) o2'
 have hX : (if 5000 < d + 1 then 33554433 else mML msgs (d + 1) 0) ≤ X := hX
 unfold mM1 plusM
 split <;> omega
theorem mMs_hi : ∀ (n : Nat) (l : List MsgT) (d : Nat), 5001 ≤ n + d → MsgT.OkL l → mMs l d ≤ 4503599627370496 + 33554433 * n
 | 0, l, d, hd, _ => by unfold mMs; rw [if_pos (by omega)]; omega
 | n + 1, l, d, hd, hok => by
  unfold mMs
  split
  ·omega
  ·refine mML_hi l 0 (fun m hm q h0 h1 => ?_) (Int.le_refl 0) (by omega)
   have hmo := MsgT.okL_mem hok hm
   have hsub : MsgT.OkL m.msgs := by
    cases m with | mk nm fields oneofs ma mc msgs enums res names =>
    unfold MsgT.Ok at hmo
    exact hmo.2.2.2.2.2.2.2
   have := mM1_le hmo h0 h1 (mMs_hi n m.msgs (d + 1) (by omega) hsub) (by omega)
   omega
end Go.Proofs.YtclcnhfponjdaaaGreatDoor
end
section
namespace Go.Proofs.YtclcnhfponjdaaaGreatDoor
open Go.Sk
set_option maxRecDepth 100000
attribute [local irreducible] Cs Own Ex Pu Yld RT LJ QJ AtQ CT Rd QSp Sp FinQ Then LoopQ CutQ DT TakeQ EffQ
variable {B : World} {R : List HP}
set_option maxHeartbeats 4000000 in
theorem mtexts_fn {a : Option Addr} {c : Nat} {l : List Txt} (hR : Rd B R a l.length c 1 (l.map vS)) (hl : l.length ≤ 140737488355328) (hok : ∀ t ∈ l, OkT t) :
  Sp B Tryz.prog 157 [.slice a l.length c] R [] (fun v H' => v = .int .i64 (mT l 0) ∧ H' = []) := by
 refine Sp.body Tryz.func157 rfl Tryz.ntmps157 (by simp) ?_
 simp only [argE, List.cons_append, List.nil_append, Nat.zero_add, Nat.reduceAdd]
 try refine gL ?_
 refine CT.loop (α := Nat × Int) (fun s => [(0, .slice a l.length c), (3, .int .i64 s.2), (4, .int .i64 s.1)]) (fun s => Pu (s.1 ≤ l.length ∧ 0 ≤ s.2 ∧ s.2 ≤ 140737600000000 ∧ mT l 0 = mT (l.drop s.1) s.2) :: R) (fun s => l.length - s.1) (0, 0)
  ⟨rfl, rfl, rfl, trivial⟩ (fun w h => Sat.pu_in ⟨Nat.zero_le _, by decide, by decide, rfl⟩ h) (fun ⟨i, q⟩ => CT.pu fun ⟨hi, hq1, hq2, hq3⟩ => ?_)
 dsimp only at hi hq1 hq2 hq3 ⊢
 repeat' (first|refine gL ?_|(refine gv ?_;first|(refine⟨fun hc=>?_,fun hc=>?_⟩<;>first|(exfalso;omega)|skip)|refine gk ?_)|fail)
 ·have hil : i < l.length := by omega
  have hto := (hok l[i] (List.getElem_mem hil)).2
  refine RT.ix T (j := i) rfl rfl rfl (by exact hR) (by omega) (by omega) (by omega) rfl rfl ?_
  refine RT.ldr T rfl (by exact hR) (map_get hil) rfl rfl rfl ?_
  rw [List.drop_eq_getElem_cons hil, mT, if_pos (by omega)] at hq3
  revert hto hq3
  generalize l[i] = t
  intro hq3 hto
  repeat' (first|refine gL ?_|(refine gv ?_;refine gk ?_)|fail)
  exact AtQ.loop (i + 1, q + 8 + (t.length : Int)) ⟨rfl, rfl, rfl, trivial⟩ (fun w h => Sat.pu_in ⟨by omega, by dsimp only; omega, by dsimp only; omega, hq3⟩ h) (by dsimp only; omega)
 ·have hil : i < l.length := by omega
  rw [List.drop_eq_getElem_cons hil, mT, if_neg (by omega)] at hq3
  exact AtQ.f1 Tryz.results157 rfl (by rw [hq3]) (fun w h => h)
 ·rw [List.drop_eq_nil_of_le (by omega), mT] at hq3
  exact AtQ.f1 Tryz.results157 rfl (by rw [hq3]) (fun w h => h)
set_option maxHeartbeats 8000000 in
theorem menums_fn {a : Option Addr} {c : Nat} {l : List EnumT} (hR : Rd B R a l.length c 5 (l.flatMap EnumT.cells)) (hk : l.length ≤ 140737488355328) (hin : ∀ e ∈ l, e.In (Rd B R)) (hok : ∀ e ∈ l, e.Ok) :
  Sp B Tryz.prog 64 [.slice a l.length c] R [] (fun v H' => v = .int .i64 (mE l 0) ∧ H' = []) := by
 refine Sp.body Tryz.func64 rfl Tryz.ntmps64 (by simp) ?_
 simp only [argE, List.cons_append, List.nil_append, Nat.zero_add, Nat.reduceAdd]
 try refine gL ?_
 refine CT.loop (α := Nat × Int) (fun s => [(0, .slice a l.length c), (3, .int .i64 s.2), (4, .int .i64 s.1)]) (fun s => Pu (s.1 ≤ l.length ∧ 0 ≤ s.2 ∧ s.2 ≤ 1688849994022912 ∧ mE l 0 = mE (l.drop s.1) s.2) :: R) (fun s => l.length - s.1) (0, 0)
  ⟨rfl, rfl, rfl, trivial⟩ (fun w h => Sat.pu_in ⟨Nat.zero_le _, by decide, by decide, rfl⟩ h) (fun ⟨i, q⟩ => CT.pu fun ⟨hi, hq1, hq2, hq3⟩ => ?_)
 dsimp only at hi hq1 hq2 hq3 ⊢
 repeat' (first|refine gL ?_|(refine gv ?_;first|(refine⟨fun hc=>?_,fun hc=>?_⟩<;>first|(exfalso;omega)|skip)|refine gk ?_)|fail)
 ·have hil : i < l.length := by omega
  have hgi := List.getElem?_eq_getElem hil
  rw [List.drop_eq_getElem_cons hil, mE, if_pos (by omega)] at hq3
  revert hgi hq3
  generalize l[i] = e
  intro hq3 hgi
  have hme := List.mem_of_getElem? hgi
  obtain ⟨en1, ⟨en2, _⟩, en3, ⟨en4, _⟩, en5, ⟨en6, _⟩, en7⟩ := hok e hme
  obtain ⟨ei1, ei2, ei3⟩ := hin e hme
  have en1 := en1.2
  have t1 := mT_law e.names.l 0
  have t2 := mT_hi e.names.l 0 en7
  ((refine RT.ix T (j := (i) * 5) rfl rfl rfl (rD (hR)) (by omega) (by omega) (by omega) rfl rfl ?_); (refine RT.faA T rfl rfl rfl rfl ?_); (refine RT.ldr (u := vS e.nm) T rfl (rD (hR)) (by rw [flat_get (f := EnumT.cells) (z := 5) (fun _ => rfl) hgi (by decide)]; rfl) rfl rfl rfl ?_))
  repeat' (first|refine gL ?_|(refine gv ?_;refine gk ?_)|fail)
  ((refine RT.ix T (j := (i) * 5) rfl rfl rfl (rD (hR)) (by omega) (by omega) (by omega) rfl rfl ?_); (refine RT.faA T rfl rfl rfl rfl ?_); (refine RT.ldr (u := e.res.v) T rfl (rD (hR)) (by rw [flat_get (f := EnumT.cells) (z := 5) (fun _ => rfl) hgi (by decide)]; rfl) rfl rfl rfl ?_))
  repeat' (first|refine gL ?_|(refine gv ?_;refine gk ?_)|fail)
  ((refine RT.ix T (j := (i) * 5) rfl rfl rfl (rD (hR)) (by omega) (by omega) (by omega) rfl rfl ?_); (refine RT.faA T rfl rfl rfl rfl ?_); (refine RT.ldr (u := e.names.v) T rfl (rD (hR)) (by rw [flat_get (f := EnumT.cells) (z := 5) (fun _ => rfl) hgi (by decide)]; rfl) rfl rfl rfl ?_))
  (refine RT.qcall T rfl (QSp.of fR_ (mtexts_fn ei3 en6 en7)) rfl rfl rfl ?_)
  repeat' (first|refine gL ?_|(refine gv ?_;refine gk ?_)|fail)
  obtain ⟨q0, hq0⟩ : ∃ q0, q0 = q + 32 + (e.nm.length : Int) + 8 * (e.res.l.length : Int) + mT e.names.l 0 := ⟨_, rfl⟩
  rw [← hq0] at hq3 ⊢
  refine CT.loop (α := Nat × Int) (fun s => [(0, .slice a l.length c), (3, .int .i64 s.2), (4, .int .i64 i), (5, .int .i64 s.1)]) (fun s => Pu (s.1 ≤ e.vals.l.length ∧ q0 ≤ s.2 ∧ s.2 ≤ 1688849994022912 ∧ mV e.vals.l q0 = mV (e.vals.l.drop s.1) s.2) :: R) (fun s => e.vals.l.length - s.1) (0, q0)
   ⟨rfl, rfl, rfl, rfl, trivial⟩ (fun w h => Sat.pu_in ⟨Nat.zero_le _, by dsimp only; omega, by dsimp only; omega, rfl⟩ h) (fun ⟨k, p⟩ => CT.pu fun ⟨hk1, hp1, hp2, hp3⟩ => ?_)
  dsimp only at hk1 hp1 hp2 hp3 ⊢
  try refine gL ?_
  ((refine RT.ix T (j := (i) * 5) rfl rfl rfl (rD (hR)) (by omega) (by omega) (by omega) rfl rfl ?_); (refine RT.faA T rfl rfl rfl rfl ?_); (refine RT.ldr (u := e.vals.v) T rfl (rD (hR)) (by rw [flat_get (f := EnumT.cells) (z := 5) (fun _ => rfl) hgi (by decide)]; rfl) rfl rfl rfl ?_))
  repeat' (first|refine gL ?_|(refine gv ?_;first|(refine⟨fun hc=>?_,fun hc=>?_⟩<;>first|(exfalso;omega)|skip)|refine gk ?_)|fail)
  ·have hkl : k < e.vals.l.length := by omega
   have hgk := List.getElem?_eq_getElem hkl
   rw [List.drop_eq_getElem_cons hkl, mV, if_pos (by omega)] at hp3
   revert hgk hp3
   generalize e.vals.l[k] = ev
   intro hp3 hgk
   have hv := (en3 ev (List.mem_of_getElem? hgk)).1.2
   ((refine RT.ix T (j := (i) * 5) rfl rfl rfl (rD (hR)) (by omega) (by omega) (by omega) rfl rfl ?_); (refine RT.faA T rfl rfl rfl rfl ?_); (refine RT.ldr (u := e.vals.v) T rfl (rD (hR)) (by rw [flat_get (f := EnumT.cells) (z := 5) (fun _ => rfl) hgi (by decide)]; rfl) rfl rfl rfl ?_))
   try refine gL ?_
   ((refine RT.ix T (j := (k) * 2) rfl rfl rfl (rD (ei1)) (by omega) (by omega) (by omega) rfl rfl ?_); (refine RT.faA T rfl rfl rfl rfl ?_); (refine RT.ldr (u := vS ev.nm) T rfl (rD (ei1)) (by rw [flat_get (f := EValT.cells) (z := 2) (fun _ => rfl) hgk (by decide)]; rfl) rfl rfl rfl ?_))
   repeat' (first|refine gL ?_|(refine gv ?_;refine gk ?_)|fail)
   exact AtQ.loop (k + 1, p + 16 + (ev.nm.length : Int)) ⟨rfl, rfl, rfl, rfl, trivial⟩ (fun w h => Sat.pu_in ⟨by omega, by dsimp only; omega, by dsimp only; omega, hp3⟩ h) (by dsimp only; omega)
  ·have hkl : k < e.vals.l.length := by omega
   rw [List.drop_eq_getElem_cons hkl, mV, if_neg (by omega)] at hp3
   rw [hp3] at hq3
   exact AtQ.loop (i + 1, p) ⟨rfl, rfl, rfl, trivial⟩ (fun w h => Sat.pu_in ⟨by omega, by dsimp only; omega, by dsimp only; omega, hq3⟩ h) (by dsimp only; omega)
  ·rw [List.drop_eq_nil_of_le (by omega), mV] at hp3
   rw [hp3] at hq3
   exact AtQ.loop (i + 1, p) ⟨rfl, rfl, rfl, trivial⟩ (fun w h => Sat.pu_in ⟨by omega, by dsimp only; omega, by dsimp only; omega, hq3⟩ h) (by dsimp only; omega)
 ·have hil : i < l.length := by omega
  rw [List.drop_eq_getElem_cons hil, mE, if_neg (by omega)] at hq3
  exact AtQ.f1 Tryz.results64 rfl (by rw [hq3]) (fun w h => h)
 ·rw [List.drop_eq_nil_of_le (by omega), mE] at hq3
  exact AtQ.f1 Tryz.results64 rfl (by rw [hq3]) (fun w h => h)
end Go.Proofs.YtclcnhfponjdaaaGreatDoor
end
section
namespace Go.Proofs.YtclcnhfponjdaaaGreatDoor
open Go.Sk
set_option maxRecDepth 100000
attribute [local irreducible] Cs Own Ex Pu Yld RT LJ QJ AtQ CT Rd QSp Sp FinQ Then LoopQ CutQ DT TakeQ EffQ
variable {B : World}
set_option maxHeartbeats 16000000 in
theorem mmsgs_fn (n : Nat) : ∀ {R : List HP} {a : Option Addr} {c : Nat} {l : List MsgT} {d : Nat}, 5001 ≤ n + d → d ≤ 5001 → Rd B R a l.length c 7 (l.flatMap MsgT.cells) → l.length ≤ 140737488355328 → MsgT.InL (Rd B R) l → MsgT.OkL l →
  Sp B Tryz.prog 65 [.slice a l.length c, .int .i64 d] R [] (fun v H' => v = .int .i64 (mMs l d) ∧ H' = []) := by
 induction n with
 | zero =>
  intro R a c l d hd hd1 hR hk hin hok
  obtain rfl : d = 5001 := by omega
  refine Sp.body Tryz.func65 rfl Tryz.ntmps65 (by simp) ?_
  simp only [argE, List.cons_append, List.nil_append, Nat.zero_add, Nat.reduceAdd]
  repeat' (first|refine gL ?_|(refine gv ?_;(refine⟨fun hc=>?_,fun hc=>?_⟩<;>first|(exfalso;omega)|skip))|fail)
  have e : mMs l 5001 = 33554433 := by unfold mMs; rw [if_pos (by omega)]
  exact AtQ.fin1 (H' := []) Tryz.results65 rfl ⟨by rw [e], rfl⟩ (fun w h => h)
 | succ n ih =>
  intro R a c l d hd hd1 hR hk hin hok
  by_cases hd2 : d = 5001
  ·subst hd2
   refine Sp.body Tryz.func65 rfl Tryz.ntmps65 (by simp) ?_
   simp only [argE, List.cons_append, List.nil_append, Nat.zero_add, Nat.reduceAdd]
   repeat' (first|refine gL ?_|(refine gv ?_;(refine⟨fun hc=>?_,fun hc=>?_⟩<;>first|(exfalso;omega)|skip))|fail)
   have e : mMs l 5001 = 33554433 := by unfold mMs; rw [if_pos (by omega)]
   exact AtQ.fin1 (H' := []) Tryz.results65 rfl ⟨by rw [e], rfl⟩ (fun w h => h)
  have eM : mMs l d = mML l d 0 := by unfold mMs; rw [if_neg (by omega)]
  rw [eM]
  refine Sp.body Tryz.func65 rfl Tryz.ntmps65 (by simp) ?_
  simp only [argE, List.cons_append, List.nil_append, Nat.zero_add, Nat.reduceAdd]
  repeat' (first|refine gL ?_|(refine gv ?_;(refine⟨fun hc=>?_,fun hc=>?_⟩<;>first|(exfalso;omega)|skip))|fail)
  refine CT.loop (α := Nat × Int) (fun s => [(0, .slice a l.length c), (1, .int .i64 d), (5, .int .i64 s.2), (6, .int .i64 s.1)]) (fun s => Pu (s.1 ≤ l.length ∧ 0 ≤ s.2 ∧ s.2 ≤ 4672000000000000 ∧ mML l d 0 = mML (l.drop s.1) d s.2) :: R) (fun s => l.length - s.1) (0, 0)
   ⟨rfl, rfl, rfl, rfl, trivial⟩ (fun w h => Sat.pu_in ⟨Nat.zero_le _, by decide, by decide, rfl⟩ h) (fun ⟨i, q⟩ => CT.pu fun ⟨hi, hq1, hq2, hq3⟩ => ?_)
  dsimp only at hi hq1 hq2 hq3 ⊢
  repeat' (first|refine gL ?_|(refine gv ?_;first|(refine⟨fun hc=>?_,fun hc=>?_⟩<;>first|(exfalso;omega)|skip)|refine gk ?_)|fail)
  ·have hil : i < l.length := by omega
   have hgi := List.getElem?_eq_getElem hil
   rw [List.drop_eq_getElem_cons hil, mML, if_pos (by omega)] at hq3
   revert hgi hq3
   generalize l[i] = m
   intro hq3 hgi
   have hme := List.mem_of_getElem? hgi
   have hmo := MsgT.okL_mem hok hme
   have hmi := MsgT.inL_mem hin hme
   have hsub : MsgT.OkL m.msgs := by
    cases m with | mk nm fields oneofs ma mc msgs enums res names =>
    unfold MsgT.Ok at hmo
    exact hmo.2.2.2.2.2.2.2
   have hbd := mM1_le (d := d) hmo hq1 (by omega) (mMs_hi 5001 m.msgs (d + 1) (by omega) hsub) (by omega)
   have hlo := (mM1_law m d q hq1).1
   obtain ⟨nm, ⟨fa, fc, fl⟩, ⟨oa, oc, ol⟩, ma, mc, msgs, ⟨ea, ec, el⟩, ⟨ra, rc, rl⟩, ⟨na, nc, nl⟩⟩ := m
   have e1 : mM1 (.mk nm ⟨fa, fc, fl⟩ ⟨oa, oc, ol⟩ ma mc msgs ⟨ea, ec, el⟩ ⟨ra, rc, rl⟩ ⟨na, nc, nl⟩) d q = plusM (mFd fl (q + 64 + nm.length + mT ol 0 + 8 * (rl.length : Int) + mT nl 0 + mE el 0)) (mMs msgs (d + 1)) := by rw [mM1]; rfl
   rw [e1] at hq3 hbd hlo
   clear e1
   unfold MsgT.Ok at hmo
   unfold MsgT.In at hmi
   obtain ⟨⟨_, o1⟩, ⟨⟨o2, _⟩, o2'⟩, ⟨⟨o3, _⟩, o3'⟩, ⟨o4, _⟩, ⟨⟨o5, _⟩, o5'⟩, ⟨⟨o6, _⟩, o6'⟩, ⟨⟨o7, _⟩, o7'⟩, o8⟩ := hmo
   obtain ⟨i1, i2, i3, i4, i5, i6, i7, i8⟩ := hmi
   dsimp only at o1 o2 o2' o3 o3' o4 o5 o5' o6 o6' o7 o7' i1 i2 i3 i4 i5 i6 i7
   have t1 := mT_hi ol 0 o3'
   have t2 := mT_hi nl 0 o7'
   have t3 := mE_hi el 0 o5'
   have u1 := (mT_law ol 0).1
   have u2 := (mT_law nl 0).1
   have u3 := (mE_law el 0 (Int.le_refl 0)).1
   have hfl : ∀ j : Nat, j < 7 → (l.flatMap MsgT.cells)[i * 7 + j]? = [vS nm, .slice fa fl.length fc, .slice oa ol.length oc, .slice ma msgs.length mc, .slice ea el.length ec, .slice ra rl.length rc, .slice na nl.length nc][j]? := fun j hj => flat_get (f := MsgT.cells) (z := 7) (fun _ => rfl) hgi hj
   refine RT.ix T (j := i * 7) rfl rfl rfl (rD (hR)) (by omega) (by omega) (by omega) rfl rfl ?_; refine RT.faA T rfl rfl rfl rfl ?_; refine RT.ldr (u := vS nm) T rfl (rD (hR)) ((hfl 0 (by decide)).trans rfl) rfl rfl rfl ?_
   repeat' (first|refine gL ?_|(refine gv ?_;refine gk ?_)|fail)
   refine RT.ix T (j := i * 7) rfl rfl rfl (rD (hR)) (by omega) (by omega) (by omega) rfl rfl ?_; refine RT.faA T rfl rfl rfl rfl ?_; refine RT.ldr (u := .slice oa ol.length oc) T rfl (rD (hR)) ((hfl 2 (by decide)).trans rfl) rfl rfl rfl ?_
   (refine RT.qcall T rfl (QSp.of fR_ (mtexts_fn (l := ol) i2 o3 o3')) rfl rfl rfl ?_)
   repeat' (first|refine gL ?_|(refine gv ?_;refine gk ?_)|fail)
   refine RT.ix T (j := i * 7) rfl rfl rfl (rD (hR)) (by omega) (by omega) (by omega) rfl rfl ?_; refine RT.faA T rfl rfl rfl rfl ?_; refine RT.ldr (u := .slice ra rl.length rc) T rfl (rD (hR)) ((hfl 5 (by decide)).trans rfl) rfl rfl rfl ?_
   repeat' (first|refine gL ?_|(refine gv ?_;refine gk ?_)|fail)
   refine RT.ix T (j := i * 7) rfl rfl rfl (rD (hR)) (by omega) (by omega) (by omega) rfl rfl ?_; refine RT.faA T rfl rfl rfl rfl ?_; refine RT.ldr (u := .slice na nl.length nc) T rfl (rD (hR)) ((hfl 6 (by decide)).trans rfl) rfl rfl rfl ?_
   (refine RT.qcall T rfl (QSp.of fR_ (mtexts_fn (l := nl) i7 o7 o7')) rfl rfl rfl ?_)
   repeat' (first|refine gL ?_|(refine gv ?_;refine gk ?_)|fail)
   refine RT.ix T (j := i * 7) rfl rfl rfl (rD (hR)) (by omega) (by omega) (by omega) rfl rfl ?_; refine RT.faA T rfl rfl rfl rfl ?_; refine RT.ldr (u := .slice ea el.length ec) T rfl (rD (hR)) ((hfl 4 (by decide)).trans rfl) rfl rfl rfl ?_
   (refine RT.qcall T rfl (QSp.of fR_ (menums_fn (l := el) i4 o5 i5 o5')) rfl rfl rfl ?_)
   repeat' (first|refine gL ?_|(refine gv ?_;refine gk ?_)|fail)
   obtain ⟨q0, hq0⟩ : ∃ q0, q0 = q + 64 + (nm.length : Int) + mT ol 0 + 8 * (rl.length : Int) + mT nl 0 + mE el 0 := ⟨_, rfl⟩
   rw [← hq0] at hq3 hbd hlo ⊢
   refine CT.loop (α := Nat × Int) (fun s => [(0, .slice a l.length c), (1, .int .i64 d), (5, .int .i64 s.2), (6, .int .i64 i), (7, .int .i64 s.1)]) (fun s => Pu (s.1 ≤ fl.length ∧ q0 ≤ s.2 ∧ s.2 ≤ 4672000000000000 ∧ mFd fl q0 = mFd (fl.drop s.1) s.2) :: R) (fun s => fl.length - s.1) (0, q0)
    ⟨rfl, rfl, rfl, rfl, rfl, trivial⟩ (fun w h => Sat.pu_in ⟨Nat.zero_le _, by dsimp only; omega, by dsimp only; omega, rfl⟩ h) (fun ⟨k, p⟩ => CT.pu fun ⟨hk1, hp1, hp2, hp3⟩ => ?_)
   dsimp only at hk1 hp1 hp2 hp3 ⊢
   try refine gL ?_
   refine RT.ix T (j := i * 7) rfl rfl rfl (rD (hR)) (by omega) (by omega) (by omega) rfl rfl ?_; refine RT.faA T rfl rfl rfl rfl ?_; refine RT.ldr (u := .slice fa fl.length fc) T rfl (rD (hR)) ((hfl 1 (by decide)).trans rfl) rfl rfl rfl ?_
   repeat' (first|refine gL ?_|(refine gv ?_;first|(refine⟨fun hc=>?_,fun hc=>?_⟩<;>first|(exfalso;omega)|skip)|refine gk ?_)|fail)
   ·have hkl : k < fl.length := by omega
    have hgk := List.getElem?_eq_getElem hkl
    rw [List.drop_eq_getElem_cons hkl, mFd, if_pos (by omega)] at hp3
    revert hgk hp3
    generalize fl[k] = f
    intro hp3 hgk
    obtain ⟨⟨_, f1⟩, _, _, _, ⟨_, f2⟩, _, _, _, ⟨_, f3⟩⟩ := o2' f (List.mem_of_getElem? hgk)
    refine RT.ix T (j := i * 7) rfl rfl rfl (rD (hR)) (by omega) (by omega) (by omega) rfl rfl ?_; refine RT.faA T rfl rfl rfl rfl ?_; refine RT.ldr (u := .slice fa fl.length fc) T rfl (rD (hR)) ((hfl 1 (by decide)).trans rfl) rfl rfl rfl ?_
    try refine gL ?_
    refine RT.ix T (j := k * 9) rfl rfl rfl (by exact i1) (by omega) (by omega) (by omega) rfl rfl ?_
    refine RT.ldra T rfl (by exact i1) (l := f.cells) (flat_sub (f := FieldT.cells) (z := 9) (fun _ => rfl) fl k _ hgk) rfl rfl rfl rfl ?_
    repeat' (first|refine gM ?_|(refine gv ?_;refine gk ?_)|(refine gb ?_;intro b)|fail)
    revert b
    intro b8
    skip
    exact AtQ.loop (k + 1, p + 64 + (f.nm.length : Int) + (f.ty.length : Int) + (f.js.length : Int)) ⟨rfl, rfl, rfl, rfl, rfl, trivial⟩ (fun w h => Sat.pu_in ⟨by omega, by dsimp only; omega, by dsimp only; omega, hp3⟩ h.tail) (by dsimp only; omega)
   ·have hkl : k < fl.length := by omega
    rw [List.drop_eq_getElem_cons hkl, mFd, if_neg (by omega)] at hp3
    have hpl : plusM p (mMs msgs (d + 1)) = p := by unfold plusM; rw [if_neg (by omega)]
    rw [hp3, hpl] at hq3 hbd hlo
    skip
    exact AtQ.loop (i + 1, p) ⟨rfl, rfl, rfl, rfl, trivial⟩ (fun w h => Sat.pu_in ⟨by omega, by dsimp only; omega, by dsimp only; omega, hq3⟩ h) (by dsimp only; omega)
   ·rw [List.drop_eq_nil_of_le (by omega), mFd] at hp3
    rw [hp3] at hq3 hbd hlo
    have hpl : plusM p (mMs msgs (d + 1)) = p + mMs msgs (d + 1) := by unfold plusM; rw [if_pos (by omega)]
    rw [hpl] at hq3 hbd hlo
    refine RT.ix T (j := i * 7) rfl rfl rfl (rD (hR)) (by omega) (by omega) (by omega) rfl rfl ?_; refine RT.faA T rfl rfl rfl rfl ?_; refine RT.ldr (u := .slice ma msgs.length mc) T rfl (rD (hR)) ((hfl 3 (by decide)).trans rfl) rfl rfl rfl ?_
    repeat' (first|refine gL ?_|(refine gv ?_;refine gk ?_)|fail)
    (refine RT.call T rfl fR_ (ih (l := msgs) (d := d + 1) (by omega) (by omega) i3 o4 i8 o8) rfl rfl rfl ?_; rintro _ _ ⟨rfl, rfl⟩; try simp only [List.cons_append, List.nil_append])
    repeat' (first|refine gL ?_|(refine gv ?_;refine gk ?_)|fail)
    exact AtQ.loop (i + 1, p + mMs msgs (d + 1)) ⟨rfl, rfl, rfl, rfl, trivial⟩ (fun w h => Sat.pu_in ⟨by omega, by dsimp only; omega, by dsimp only; omega, hq3⟩ h) (by dsimp only; omega)
   ·rw [List.drop_eq_nil_of_le (by omega), mFd] at hp3
    rw [hp3] at hq3 hbd hlo
    have hpl : plusM p (mMs msgs (d + 1)) = p := by unfold plusM; rw [if_neg (by omega)]
    rw [hpl] at hq3 hbd hlo
    exact AtQ.loop (i + 1, p) ⟨rfl, rfl, rfl, rfl, trivial⟩ (fun w h => Sat.pu_in ⟨by omega, by dsimp only; omega, by dsimp only; omega, hq3⟩ h) (by dsimp only; omega)
  ·have hil : i < l.length := by omega
   rw [List.drop_eq_getElem_cons hil, mML, if_neg (by omega)] at hq3
   exact AtQ.f1 Tryz.results65 rfl (by rw [hq3]) (fun w h => h)
  ·rw [List.drop_eq_nil_of_le (by omega), mML] at hq3
   exact AtQ.f1 Tryz.results65 rfl (by rw [hq3]) (fun w h => h)
end Go.Proofs.YtclcnhfponjdaaaGreatDoor
end
section
namespace Go.Proofs.YtclcnhfponjdaaaGreatDoor
open Go.Sk
set_option maxRecDepth 100000
attribute [local irreducible] Cs Own Ex Pu Yld RT LJ QJ AtQ CT Rd QSp Sp FinQ Then LoopQ CutQ DT TakeQ EffQ
variable {B : World} {R : List HP}
set_option maxHeartbeats 16000000 in
theorem much_fn {a : Option Addr} {c : Nat} {l : List FileT} (hR : Rd B R a l.length c 5 (l.flatMap FileT.cells)) (hk : l.length ≤ 140737488355328) (hin : ∀ f ∈ l, f.In (Rd B R)) (hok : ∀ f ∈ l, f.Ok) :
  Sp B Tryz.prog 20 [.slice a l.length c] R [] (fun v H' => v = .int .i64 (mFs l 0) ∧ H' = []) := by
 refine Sp.body Tryz.func20 rfl Tryz.ntmps20 (by simp) ?_
 simp only [argE, List.cons_append, List.nil_append, Nat.zero_add, Nat.reduceAdd]
 try refine gL ?_
 refine CT.loop (α := Nat × Int) (fun s => [(0, .slice a l.length c), (3, .int .i64 s.2), (4, .int .i64 s.1)]) (fun s => Pu (s.1 ≤ l.length ∧ 0 ≤ s.2 ∧ s.2 ≤ 4672000000000000 ∧ mFs l 0 = mFs (l.drop s.1) s.2) :: R) (fun s => l.length - s.1) (0, 0)
  ⟨rfl, rfl, rfl, trivial⟩ (fun w h => Sat.pu_in ⟨Nat.zero_le _, by decide, by decide, rfl⟩ h) (fun ⟨i, q⟩ => CT.pu fun ⟨hi, hq1, hq2, hq3⟩ => ?_)
 dsimp only at hi hq1 hq2 hq3 ⊢
 repeat' (first|refine gL ?_|(refine gv ?_;first|(refine⟨fun hc=>?_,fun hc=>?_⟩<;>first|(exfalso;omega)|skip)|refine gk ?_)|fail)
 ·have hil : i < l.length := by omega
  have hgi := List.getElem?_eq_getElem hil
  rw [List.drop_eq_getElem_cons hil, mFs, if_pos (by omega)] at hq3
  revert hgi hq3
  generalize l[i] = f
  intro hq3 hgi
  have hme := List.mem_of_getElem? hgi
  obtain ⟨⟨_, o1⟩, ⟨_, o2⟩, ⟨⟨o3, _⟩, o3'⟩, ⟨⟨o4, _⟩, o4'⟩, ⟨⟨o5, _⟩, o5'⟩⟩ := hok f hme
  obtain ⟨i1, i2, i3, i4, i5⟩ := hin f hme
  dsimp only at o4
  have t3 := mE_hi f.enums.l 0 o5'
  have u3 := (mE_law f.enums.l 0 (Int.le_refl 0)).1
  have hmm := mMs_hi 5001 f.msgs 0 (by omega) (MsgT.okL_of o4')
  have hml : 0 ≤ mMs f.msgs 0 := (mML_law f.msgs 0 0 (Int.le_refl 0)).1
  have e1 : mF1 f q = plusM (mI f.imps.l (q + 64 + f.path.length + f.pack.length + mE f.enums.l 0)) (mMs f.msgs 0) := rfl
  rw [e1] at hq3
  ((refine RT.ix T (j := (i) * 5) rfl rfl rfl (rD (hR)) (by omega) (by omega) (by omega) rfl rfl ?_); (refine RT.faA T rfl rfl rfl rfl ?_); (refine RT.ldr (u := vS f.path) T rfl (rD (hR)) (by rw [flat_get (f := FileT.cells) (z := 5) (fun _ => rfl) hgi (by decide)]; rfl) rfl rfl rfl ?_))
  repeat' (first|refine gL ?_|(refine gv ?_;refine gk ?_)|fail)
  ((refine RT.ix T (j := (i) * 5) rfl rfl rfl (rD (hR)) (by omega) (by omega) (by omega) rfl rfl ?_); (refine RT.faA T rfl rfl rfl rfl ?_); (refine RT.ldr (u := vS f.pack) T rfl (rD (hR)) (by rw [flat_get (f := FileT.cells) (z := 5) (fun _ => rfl) hgi (by decide)]; rfl) rfl rfl rfl ?_))
  repeat' (first|refine gL ?_|(refine gv ?_;refine gk ?_)|fail)
  ((refine RT.ix T (j := (i) * 5) rfl rfl rfl (rD (hR)) (by omega) (by omega) (by omega) rfl rfl ?_); (refine RT.faA T rfl rfl rfl rfl ?_); (refine RT.ldr (u := f.enums.v) T rfl (rD (hR)) (by rw [flat_get (f := FileT.cells) (z := 5) (fun _ => rfl) hgi (by decide)]; rfl) rfl rfl rfl ?_))
  (refine RT.qcall T rfl (QSp.of fR_ (menums_fn (l := f.enums.l) i4 o5 i5 o5')) rfl rfl rfl ?_)
  repeat' (first|refine gL ?_|(refine gv ?_;refine gk ?_)|fail)
  obtain ⟨q0, hq0⟩ : ∃ q0, q0 = q + 64 + (f.path.length : Int) + (f.pack.length : Int) + mE f.enums.l 0 := ⟨_, rfl⟩
  rw [← hq0] at hq3 ⊢
  refine CT.loop (α := Nat × Int) (fun s => [(0, .slice a l.length c), (3, .int .i64 s.2), (4, .int .i64 i), (5, .int .i64 s.1)]) (fun s => Pu (s.1 ≤ f.imps.l.length ∧ q0 ≤ s.2 ∧ s.2 ≤ 4672000000000000 ∧ mI f.imps.l q0 = mI (f.imps.l.drop s.1) s.2) :: R) (fun s => f.imps.l.length - s.1) (0, q0)
   ⟨rfl, rfl, rfl, rfl, trivial⟩ (fun w h => Sat.pu_in ⟨Nat.zero_le _, by dsimp only; omega, by dsimp only; omega, rfl⟩ h) (fun ⟨k, p⟩ => CT.pu fun ⟨hk1, hp1, hp2, hp3⟩ => ?_)
  dsimp only at hk1 hp1 hp2 hp3 ⊢
  try refine gL ?_
  ((refine RT.ix T (j := (i) * 5) rfl rfl rfl (rD (hR)) (by omega) (by omega) (by omega) rfl rfl ?_); (refine RT.faA T rfl rfl rfl rfl ?_); (refine RT.ldr (u := f.imps.v) T rfl (rD (hR)) (by rw [flat_get (f := FileT.cells) (z := 5) (fun _ => rfl) hgi (by decide)]; rfl) rfl rfl rfl ?_))
  repeat' (first|refine gL ?_|(refine gv ?_;first|(refine⟨fun hc=>?_,fun hc=>?_⟩<;>first|(exfalso;omega)|skip)|refine gk ?_)|fail)
  ·have hkl : k < f.imps.l.length := by omega
   have hgk := List.getElem?_eq_getElem hkl
   rw [List.drop_eq_getElem_cons hkl, mI, if_pos (by omega)] at hp3
   revert hgk hp3
   generalize f.imps.l[k] = ev
   intro hp3 hgk
   have hv := (show OkT ev.path from o3' ev (List.mem_of_getElem? hgk)).2
   ((refine RT.ix T (j := (i) * 5) rfl rfl rfl (rD (hR)) (by omega) (by omega) (by omega) rfl rfl ?_); (refine RT.faA T rfl rfl rfl rfl ?_); (refine RT.ldr (u := f.imps.v) T rfl (rD (hR)) (by rw [flat_get (f := FileT.cells) (z := 5) (fun _ => rfl) hgi (by decide)]; rfl) rfl rfl rfl ?_))
   try refine gL ?_
   ((refine RT.ix T (j := (k) * 2) rfl rfl rfl (rD (i1)) (by omega) (by omega) (by omega) rfl rfl ?_); (refine RT.faA T rfl rfl rfl rfl ?_); (refine RT.ldr (u := vS ev.path) T rfl (rD (i1)) (by rw [flat_get (f := ImpT.cells) (z := 2) (fun _ => rfl) hgk (by decide)]; rfl) rfl rfl rfl ?_))
   repeat' (first|refine gL ?_|(refine gv ?_;refine gk ?_)|fail)
   exact AtQ.loop (k + 1, p + 16 + (ev.path.length : Int)) ⟨rfl, rfl, rfl, rfl, trivial⟩ (fun w h => Sat.pu_in ⟨by omega, by dsimp only; omega, by dsimp only; omega, hp3⟩ h) (by dsimp only; omega)
  ·have hkl : k < f.imps.l.length := by omega
   rw [List.drop_eq_getElem_cons hkl, mI, if_neg (by omega)] at hp3
   have hpl : plusM p (mMs f.msgs 0) = p := by unfold plusM; rw [if_neg (by omega)]
   rw [hp3, hpl] at hq3
   exact AtQ.loop (i + 1, p) ⟨rfl, rfl, rfl, trivial⟩ (fun w h => Sat.pu_in ⟨by omega, by dsimp only; omega, by dsimp only; omega, hq3⟩ h) (by dsimp only; omega)
  ·rw [List.drop_eq_nil_of_le (by omega), mI] at hp3
   rw [hp3] at hq3
   have hpl : plusM p (mMs f.msgs 0) = p + mMs f.msgs 0 := by unfold plusM; rw [if_pos (by omega)]
   rw [hpl] at hq3
   ((refine RT.ix T (j := (i) * 5) rfl rfl rfl (rD (hR)) (by omega) (by omega) (by omega) rfl rfl ?_); (refine RT.faA T rfl rfl rfl rfl ?_); (refine RT.ldr (u := .slice f.ma f.msgs.length f.mc) T rfl (rD (hR)) (by rw [flat_get (f := FileT.cells) (z := 5) (fun _ => rfl) hgi (by decide)]; rfl) rfl rfl rfl ?_))
   skip
   (refine RT.call T rfl fR_ (mmsgs_fn 5001 (l := f.msgs) (d := 0) (by omega) (by omega) i2 o4 (MsgT.inL_of i3) (MsgT.okL_of o4')) rfl rfl rfl ?_; rintro _ _ ⟨rfl, rfl⟩; try simp only [List.cons_append, List.nil_append])
   repeat' (first|refine gL ?_|(refine gv ?_;refine gk ?_)|fail)
   exact AtQ.loop (i + 1, p + mMs f.msgs 0) ⟨rfl, rfl, rfl, trivial⟩ (fun w h => Sat.pu_in ⟨by omega, by dsimp only; omega, by dsimp only; omega, hq3⟩ h) (by dsimp only; omega)
  ·rw [List.drop_eq_nil_of_le (by omega), mI] at hp3
   rw [hp3] at hq3
   have hpl : plusM p (mMs f.msgs 0) = p := by unfold plusM; rw [if_neg (by omega)]
   rw [hpl] at hq3
   exact AtQ.loop (i + 1, p) ⟨rfl, rfl, rfl, trivial⟩ (fun w h => Sat.pu_in ⟨by omega, by dsimp only; omega, by dsimp only; omega, hq3⟩ h) (by dsimp only; omega)
 ·have hil : i < l.length := by omega
  rw [List.drop_eq_getElem_cons hil, mFs, if_neg (by omega)] at hq3
  exact AtQ.f1 Tryz.results20 rfl (by rw [hq3]) (fun w h => h)
 ·rw [List.drop_eq_nil_of_le (by omega), mFs] at hq3
  exact AtQ.f1 Tryz.results20 rfl (by rw [hq3]) (fun w h => h)
end Go.Proofs.YtclcnhfponjdaaaGreatDoor
end
section
namespace Go.Proofs.YtclcnhfponjdaaaGreatDoor
open Go.Sk
set_option maxRecDepth 100000
theorem mFs_hi : ∀ (l : List FileT) (n : Int), 0 ≤ n → (∀ f ∈ l, f.Ok) → mFs l n ≤ max n 4672000000000000
 | [], n, _, _ => by rw [mFs]; omega
 | f :: l, n, hn, h => by
  obtain ⟨⟨_, o1⟩, ⟨_, o2⟩, ⟨⟨o3, _⟩, o3'⟩, ⟨⟨o4, _⟩, o4'⟩, ⟨⟨o5, _⟩, o5'⟩⟩ := h f List.mem_cons_self
  have t3 := mE_hi f.enums.l 0 o5'
  have u3 := (mE_law f.enums.l 0 (Int.le_refl 0)).1
  have hmm := mMs_hi 5001 f.msgs 0 (by omega) (MsgT.okL_of o4')
  have hml : 0 ≤ mMs f.msgs 0 := (mML_law f.msgs 0 0 (Int.le_refl 0)).1
  have hi := mI_hi f.imps.l (n + 64 + f.path.length + f.pack.length + mE f.enums.l 0) o3'
  have hil := mI_law f.imps.l (n + 64 + f.path.length + f.pack.length + mE f.enums.l 0)
  have e1 : mF1 f n = plusM (mI f.imps.l (n + 64 + f.path.length + f.pack.length + mE f.enums.l 0)) (mMs f.msgs 0) := rfl
  rw [mFs]
  split
  ·have hb : 0 ≤ mF1 f n ∧ mF1 f n ≤ 4672000000000000 := by
    rw [e1]
    unfold plusM
    split <;> constructor <;> omega
   have ih := mFs_hi l (mF1 f n) hb.1 (fun g hg => h g (List.mem_cons_of_mem _ hg))
   omega
  ·omega
theorem flat_len5 : ∀ l : List FileT, (l.flatMap FileT.cells).length = l.length * 5
 | [] => rfl
 | f :: l => by rw [List.flatMap_cons, List.length_append, flat_len5 l, List.length_cons]; simp [FileT.cells]; omega
attribute [local irreducible] Cs Own Ex Pu Yld RT LJ QJ AtQ CT Rd QSp Sp FinQ Then LoopQ CutQ DT TakeQ EffQ
attribute [local irreducible] Bag
variable {B : World} {R : List HP}
set_option maxHeartbeats 8000000 in
theorem back_fn (hT : Lib.Utf8Tabs 0 1 B) {a a' : Option Addr} {c c' : Nat} {l l' : List FileT} (hR : Rd B R a l.length c 5 (l.flatMap FileT.cells)) (hR' : Rd B R a' l'.length c' 5 (l'.flatMap FileT.cells)) (hk : l.length ≤ 140737488355328) (hk' : l'.length ≤ 140737488355328) (hin : ∀ f ∈ l, f.In (Rd B R)) (hin' : ∀ f ∈ l', f.In (Rd B R)) (hok : ∀ f ∈ l, f.Ok) (hok' : ∀ f ∈ l', f.Ok) :
  Sp B Tryz.prog 7 [.slice a l.length c, .slice a' l'.length c'] R [] (fun v H' => v = .bool true ∧ H' = []) := by
 have hm1 := mFs_law l 0 (Int.le_refl 0)
 have hm2 := mFs_law l' 0 (Int.le_refl 0)
 have hm3 := mFs_hi l 0 (Int.le_refl 0) hok
 have hm4 := mFs_hi l' 0 (Int.le_refl 0) hok'
 refine Sp.body Tryz.func7 rfl Tryz.ntmps7 (by simp) ?_
 simp only [argE, List.cons_append, List.nil_append, Nat.zero_add, Nat.reduceAdd]
 try refine gL ?_
 (refine RT.qcall T rfl (QSp.of fR_ (much_fn hR hk hin hok)) rfl rfl rfl ?_)
 try refine gL ?_
 (refine RT.qcall T rfl (QSp.of fR_ (much_fn hR' hk' hin' hok')) rfl rfl rfl ?_)
 repeat' (first|refine gL ?_|(refine gv ?_;first|(refine⟨fun hc=>?_,fun hc=>?_⟩<;>first|(exfalso;omega)|skip)|refine gk ?_)|fail)
 ·exact AtQ.f1 Tryz.results7 rfl rfl (fun w h => h)
 have hw : wFs l ≤ 33554432 := by have := hm1.2 (by omega); omega
 have hw' : wFs l' ≤ 33554432 := by have := hm2.2 (by omega); omega
 obtain ⟨hsl, hsm⟩ := wFs_sm hw
 obtain ⟨hsl', hsm'⟩ := wFs_sm hw'
 clear hm1 hm2 hm3 hm4
 (refine RT.call T rfl fR_ (known_fn hT _) rfl rfl rfl ?_; rintro _ _ ⟨rfl, rfl⟩; try simp only [List.cons_append, List.nil_append])
 try refine gL ?_
 refine RT.call T rfl fR_ (encode_fn hT hR hin hok hk) rfl rfl rfl ?_
 rintro _ _ ⟨a1, c1, rfl, rfl⟩
 simp only [List.cons_append, List.nil_append]
 refine RT.fact (p := (encB l).length ≤ c1) (fun w h => (Own.facts h .h).2.1) fun hc1 => ?_
 try refine gL ?_
 refine RT.call T rfl fR_ (encode_fn hT hR'.cons (fun f hf => FileT.In.mono (fun _ _ _ _ _ h => h.cons) (hin' f hf)) hok' hk') rfl rfl rfl ?_
 rintro _ _ ⟨a2, c2, rfl, rfl⟩
 simp only [List.cons_append, List.nil_append]
 refine RT.fact (p := (encB l').length ≤ c2) (fun w h => (Own.facts h .h).2.1) fun hc2 => ?_
 by_cases hz : (encodeL l).2 = 0
 rotate_left
 ·repeat' (first|refine gL ?_|(refine gv ?_;(refine⟨fun hc=>?_,fun hc=>?_⟩<;>first|(exfalso;omega)|skip))|fail)
  exact AtQ.f1 Tryz.results7 rfl rfl dR_
 by_cases hz' : (encodeL l').2 = 0
 rotate_left
 ·rw [hz]
  repeat' (first|refine gL ?_|(refine gv ?_;(refine⟨fun hc=>?_,fun hc=>?_⟩<;>first|(exfalso;omega)|skip))|fail)
  exact AtQ.f1 Tryz.results7 rfl rfl dR_
 obtain ⟨e1, e2, e3, e4⟩ := encodeL_zero hok hz
 obtain ⟨d1, d2, d3, d4⟩ := encodeL_zero hok' hz'
 rw [hz, hz', e2, d2]
 rw [e2] at hc1
 rw [d2] at hc2
 repeat' (first|refine gL ?_|(refine gv ?_;first|(refine⟨fun hc=>?_,fun hc=>?_⟩<;>first|(exfalso;omega)|skip)|refine gk ?_)|fail)
 ·exact AtQ.f1 Tryz.results7 rfl rfl dR_
 have hbA := by_set e4 e3
 have hbB := by_set d4 d3
 have rA := readL_back e3 e4
 refine RT.call T rfl fR_ (decode_fn (bs := setB l) hT (Own.rdI sE_ rfl hc1) hbA (by omega)) rfl rfl rfl ?_
 rw [rA]
 rintro _ _ ⟨r, rfl, he, rfl⟩
 simp only [List.cons_append, List.nil_append] at he ⊢
 refine RT.fact (p := Rd B (Bag (sOw r) :: own8 a2 c2 (setB l') (setB l').length :: own8 a1 c1 (setB l) (setB l).length :: R) r.a r.l.length r.c 5 (r.l.flatMap FileT.cells) ∧ (∀ f ∈ r.l, f.In (Rd B (Bag (sOw r) :: own8 a2 c2 (setB l') (setB l').length :: own8 a1 c1 (setB l) (setB l).length :: R))) ∧ (∀ f ∈ r.l, f.Ok) ∧ r.l.length ≤ 16777216 ∧ encodeL r.l = (some (setB l), 0)) (fun w h => read_own h (Has.sel .h) hbA rA he) (fun hfa => ?_)
 obtain ⟨f1, f2, f3, f4, f5⟩ := hfa
 generalize hV : r.v = V
 obtain rfl : V = .slice r.a r.l.length r.c := hV.symm
 clear hV
 try refine gL ?_
 (refine RT.call T rfl fR_ (sameFiles_fn (l := r.l) (l' := l) f1 (rD (hR)) f2 (fun f hf => FileT.In.mono (fun _ _ _ _ _ h => (rD (h))) (hin f hf)) f3 hok (by omega) (by omega)) rfl rfl rfl ?_; rintro _ _ ⟨rfl, rfl⟩; try simp only [List.cons_append, List.nil_append])
 rw [dc_t he]
 clear f1 f2 f3 f4 f5 he
 refine RT.weak (fun w h => h.tail) ?_
 try refine gL ?_
 (refine RT.call T rfl fR_ (check_fn (l := setB l) (d := 0) (Own.rdI sE_ rfl hc1) hbA (by omega) (by omega) (by omega)) rfl rfl rfl ?_; rintro _ _ ⟨rfl, rfl⟩; try simp only [List.cons_append, List.nil_append])
 rw [chk0_to (setB_fls 0 l (by omega))]
 repeat' (first|refine gL ?_|(refine gv ?_;(refine⟨fun hc=>?_,fun hc=>?_⟩<;>first|(exfalso;omega)|skip))|fail)
 refine RT.weak (fun w h => Sat.nilOwn (e := 75) (sz := 5) h) ?_
 refine RT.app T (xs := []) (ys := l.flatMap FileT.cells) rfl rfl rfl (fun a' c' => by ((repeat constructor);done)) (rD (hR)) (one_flat one_fl l) (by omega) (by omega) rfl rfl rfl rfl (fun a3 c3 hc3 => ?_)
 rw [Nat.zero_add] at hc3 ⊢
 try refine gL ?_
 refine RT.app T (xs := [] ++ l.flatMap FileT.cells) (ys := l'.flatMap FileT.cells) rfl rfl rfl (fun a' c' => by ((repeat constructor);done)) (rD (hR')) (one_flat one_fl l') (by omega) (by omega) rfl rfl rfl rfl (fun a4 c4 hc4 => ?_)
 rw [List.nil_append, ← List.flatMap_append]
 generalize hll : l.length + l'.length = ll at hc4 ⊢
 obtain rfl : ll = (l ++ l').length := by rw [List.length_append]; exact hll.symm
 try refine gL ?_
 refine RT.weak (fun w h => Sat.nilOwn (e := 5) (sz := 1) h) ?_
 refine RT.appI T (ki := .u8) (l := []) (l' := setB l) rfl rfl rfl (Own.rdI sE_ rfl hc1) (fun a' c' => by ((repeat constructor);done)) (by omega) (by omega) rfl rfl rfl rfl (fun a5 c5 hc5 => ?_)
 rw [Nat.zero_add] at hc5 ⊢
 try refine gL ?_
 refine RT.appI T (ki := .u8) (l := [] ++ setB l) (l' := setB l') rfl rfl rfl (Own.rdI sE_ rfl hc2) (fun a' c' => by ((repeat constructor);done)) (by omega) (by omega) rfl rfl rfl rfl (fun a6 c6 hc6 => ?_)
 rw [List.nil_append]
 have hAB : (setB (l ++ l')).length = (setB l).length + (setB l').length := by rw [setB_app, List.length_append]
 rw [← hAB, ← setB_app]
 rw [← hAB] at hc6
 have hC : ∀ f ∈ l ++ l', FileC f := fun f hf => (List.mem_append.1 hf).elim (e4 f) (d4 f)
 have h16 : (setB (l ++ l')).length ≤ 16777216 := by omega
 have hbC := by_set hC h16
 have hE := encodeL_C hC h16
 have hEB : encB (l ++ l') = setB (l ++ l') := by unfold encB; rw [hE]; rfl
 have rC := readL_back h16 hC
 have hlen : (l ++ l').length ≤ 16777216 := by rw [List.length_append]; omega
 have hinA : ∀ f ∈ l ++ l', f.In (Rd B R) := fun f hf => (List.mem_append.1 hf).elim (hin f) (hin' f)
 have hokA : ∀ f ∈ l ++ l', f.Ok := fun f hf => (List.mem_append.1 hf).elim (hok f) (hok' f)
 refine RT.weak (fun w h => h.frd (Ps := [_, _]) (Qs := [_, _]) fR_) ?_
 generalize l ++ l' = L at *
 generalize setB L = S at *
 try refine gL ?_
 refine RT.call T rfl fR_ (encode_fn (l := L) hT (Own.rd sE_ (flat_len5 L) hc4) (fun f hf => FileT.In.mono (fun _ _ _ _ _ h => (rD (h))) (hinA f hf)) hokA (by omega)) rfl rfl rfl ?_
 rw [hEB, hE]
 rintro _ _ ⟨a7, c7, rfl, rfl⟩
 simp only [List.cons_append, List.nil_append]
 refine RT.fact (p := S.length ≤ c7) (fun w h => (Own.facts h .h).2.1) fun hc7 => ?_
 try refine gL ?_
 refine RT.call T rfl fR_ (decode_fn (bs := S) hT (Own.rdI sE_ rfl hc6) hbC (by omega)) rfl rfl rfl ?_
 rw [rC]
 rintro _ _ ⟨r2, rfl, he2, rfl⟩
 simp only [List.cons_append, List.nil_append] at he2 ⊢
 refine RT.fact (p := Rd B (Bag (sOw r2) :: own8 a7 c7 S S.length :: own8 a6 c6 S S.length :: Own a4 c4 75 5 L.length (L.flatMap FileT.cells) :: R) r2.a r2.l.length r2.c 5 (r2.l.flatMap FileT.cells) ∧ (∀ f ∈ r2.l, f.In (Rd B (Bag (sOw r2) :: own8 a7 c7 S S.length :: own8 a6 c6 S S.length :: Own a4 c4 75 5 L.length (L.flatMap FileT.cells) :: R))) ∧ (∀ f ∈ r2.l, f.Ok) ∧ r2.l.length ≤ 16777216 ∧ encodeL r2.l = (some S, 0)) (fun w h => read_own h (Has.sel .h) hbC rC he2) (fun hfb => ?_)
 obtain ⟨k1, k2, k3, k4, k5⟩ := hfb
 generalize hV : r2.v = V
 obtain rfl : V = .slice r2.a r2.l.length r2.c := hV.symm
 clear hV
 try refine gL ?_
 (refine RT.qcall T rfl (QSp.of fR_ (sameBytes_fn (l := S) (l' := S) (Own.rdI sE_ rfl hc7) (Own.rdI sE_ rfl hc6) (by omega) (by omega))) rfl rfl rfl ?_)
 rw [decide_eq_true (rfl : S = S)]
 try refine gL ?_
 (refine RT.call T rfl fR_ (sameFiles_fn (l := r2.l) (l' := L) k1 (Own.rd sE_ (flat_len5 L) hc4) k2 (fun f hf => FileT.In.mono (fun _ _ _ _ _ h => (rD (h))) (hinA f hf)) k3 hokA (by omega) (by omega)) rfl rfl rfl ?_; rintro _ _ ⟨rfl, rfl⟩; try simp only [List.cons_append, List.nil_append])
 rw [dc_t he2]
 repeat' (first|refine gL ?_|(refine gv ?_;(refine⟨fun hc=>?_,fun hc=>?_⟩<;>first|(exfalso;omega)|skip))|fail)
 exact AtQ.f1 Tryz.results7 rfl rfl dR_
end Go.Proofs.YtclcnhfponjdaaaGreatDoor
end
