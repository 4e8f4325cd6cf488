/- Regions whose order is open, with effects that do not wait for one another: every order comes to what the order of the text comes to. Plain theorems, no condition. -/
import Derived.Test.YtlamhjlijoampaaGreatDoorXw1
set_option linter.unusedVariables false
set_option linter.unusedSimpArgs false
namespace Go.Xs
open Go.RowKit

/-- What is told in the midst of such a region. -/
def MF (hf : Hp) (ss : List Step) (fl : Nat → Bool) (ls : Array Bool) (b nm : Nat) (o : SObj) : Prop :=
  (hAtF hf ss b).get nm = some o ∨ ∃ j s, b ≤ j ∧ ls.getD j false = true ∧ ss[j]? = some s ∧ fl j = true ∧ s.h'.get nm = some o
structure WF (B : World) (F : PH) (C : Ctx) (l : List Oper) (fl : Nat → Bool) (ss : List Step) (hf : Hp) (ls : Array Bool) (w : World) (ρ : Val) (b : Nat) : Prop where
  lo : ∀ e o, l[e]? = some o → effB o.op = true → e < b → ls.getD e false = true
  hi : ∀ e o, l[e]? = some o → effB o.op = true → b ≤ e → fl e = false → ls.getD e false = false
  bm : b ∈ bsB fl l
  os : w.os = B.os
  output : w.output = B.output
  tape : w.tape = B.tape
  fr : ∀ x o, F x = some o → w.heap[x]? = some o
  ob : ∀ nm o, MF hf ss fl ls b nm o → F (ρ.b nm) = none ∧ ∃ obj, w.heap[ρ.b nm]? = some obj ∧ o.is ρ nm obj
  wfb : ∀ nm o, (hAtF hf ss b).get nm = some o → nm < (hAtF hf ss b).next ∧ wfo (hAtF hf ss b).next o = true
  wfd : ∀ j s nm o, b ≤ j → ls.getD j false = true → ss[j]? = some s → fl j = true → s.h'.get nm = some o → nm < s.h'.next ∧ wfo s.h'.next o = true
  inj : ∀ nm nm' o o', MF hf ss fl ls b nm o → MF hf ss fl ls b nm' o' → ρ.b nm = ρ.b nm' → nm = nm'
  gl : ∀ g, g < C.G.N → ρ.b g = C.G.gb g
section
variable {B : World} {F : PH} {C : Ctx} {n : Nat} {call : Nat → List Value → Hp → FR} {l : List Oper} {fl : Nat → Bool} {ss : List Step} {E0 Ef : Env} {h0 hf : Hp} {ls : Array Bool} {w : World} {ρ : Val} {b : Nat}
theorem WF.satx (I : WF B F C l fl ss hf ls w ρ b) {K : Hp} (hK : ∀ nm o, K.get nm = some o → MF hf ss fl ls b nm o ∧ nm < K.next ∧ wfo K.next o = true) (hn : C.G.N ≤ K.next) : SatX B F C.G K ρ w :=
  ⟨I.os, I.output, I.tape, I.fr, fun nm o hg => by
    obtain ⟨h1, h2, h3⟩ := hK nm o hg
    obtain ⟨q1, q2⟩ := I.ob nm o h1
    exact ⟨q1, h2, h3, q2⟩, fun nm nm' o o' h1 h2 hb => I.inj nm nm' o o' (hK _ _ h1).1 (hK _ _ h2).1 hb, I.gl, hn⟩
/-- All that is told is told below what is next at the end. -/
theorem WF.wf (I : WF B F C l fl ss hf ls w ρ b) (K : HF C n call l fl ss E0 h0 Ef hf) {nm : Nat} {o : SObj} (h : MF hf ss fl ls b nm o) : nm < hf.next ∧ wfo hf.next o = true := by
  rcases h with h | ⟨j, s, h1, h2, h3, h4, h5⟩
  · obtain ⟨q1, q2⟩ := I.wfb nm o h
    exact ⟨Nat.lt_of_lt_of_le q1 (K.nxf _), wfo_mono (K.nxf _) _ q2⟩
  · obtain ⟨q1, q2⟩ := I.wfd j s nm o h1 h2 h3 h4 h5
    have := K.nxf (j + 1)
    rw [(K.nxs h3).2.1] at this
    exact ⟨Nat.lt_of_lt_of_le q1 this, wfo_mono this _ q2⟩
theorem WF.ble (I : WF B F C l fl ss hf ls w ρ b) {i : Nat} {o : Oper} (ho : l[i]? = some o) (he : effB o.op = true) (hu : ls.getD i false = false) : b ≤ i := by
  rcases Nat.lt_or_ge i b with h | h
  · rw [I.lo i o ho he h] at hu; cases hu
  · exact h
/-- A link of the chain is up: all that turns the heap ahead of it has come up. -/
theorem WF.noch (I : WF B F C l fl ss hf ls w ρ b) (K : HF C n call l fl ss E0 h0 Ef hf) (hc : Clos l ls) {i : Nat} {o : Oper} (ho : l[i]? = some o) (he : effB o.op = true) (hfl : fl i = false) (hd : ∀ d ∈ directs o, ls.getD d false = true) :
    ∀ e oe, b ≤ e → e < i → l[e]? = some oe → effB oe.op = true → fl e = true := fun e oe h1 h2 h3 h4 => by
  cases hfe : fl e with
  | true => rfl
  | false =>
    have hl := anc_ready hc ho hd (K.ch i o e oe ho he hfl h2 h3 h4)
    rw [I.hi e oe h3 h4 h1 hfe] at hl
    cases hl
/-- What came up out of the chain's row lies beside it. -/
noncomputable def FA (F : PH) (w : World) (ρ : Val) (pm : Nat → Prop) : PH := fun x => by
  classical
  exact if ∃ nm, pm nm ∧ ρ.b nm = x then w.heap[x]? else F x
theorem FA.le {pm : Nat → Prop} (h : ∀ nm, pm nm → F (ρ.b nm) = none) {x : Nat} {o : Obj} (hF : F x = some o) : FA F w ρ pm x = some o := by
  unfold FA
  rw [if_neg]
  · exact hF
  · rintro ⟨nm, h1, rfl⟩
    rw [h nm h1] at hF
    cases hF
theorem FA.at {pm : Nat → Prop} {nm : Nat} (h : pm nm) : FA F w ρ pm (ρ.b nm) = w.heap[ρ.b nm]? := by
  unfold FA
  rw [if_pos ⟨nm, h, rfl⟩]
theorem FA.fr {pm : Nat → Prop} (h : ∀ x o, F x = some o → w.heap[x]? = some o) {x : Nat} {o : Obj} (hF : FA F w ρ pm x = some o) : w.heap[x]? = some o := by
  unfold FA at hF
  split at hF
  · exact hF
  · exact h x o hF
/-- what came up behind i, not in the chain -/
def PM (ss : List Step) (fl : Nat → Bool) (ls : Array Bool) (i nm : Nat) : Prop := ∃ j s o, i < j ∧ ls.getD j false = true ∧ ss[j]? = some s ∧ fl j = true ∧ s.h'.get nm = some o
theorem PM.ge (K : HF C n call l fl ss E0 h0 Ef hf) {i nm : Nat} (h : PM ss fl ls i nm) : (hAtF hf ss (i + 1)).next ≤ nm := by
  obtain ⟨j, s, o, h1, _, h3, h4, h5⟩ := h
  obtain ⟨oj, q1, _⟩ := K.L.at.2.2 j s h3
  have h6 := geT_get ((K.ck j oj s q1 h3).2.2.1 h4).1 h5
  have h7 := K.nx (i := i + 1) (j := j) (by omega)
  rw [(K.nxs h3).1] at h7
  exact Nat.le_trans h7 h6
/-- Behind n0 another one. -/
def glue (n0 : Nat) (ρ' ρ : Val) : Val := ⟨fun k => if k < n0 then ρ'.b k else ρ.b k, fun k => if k < n0 then ρ'.c k else ρ.c k⟩
theorem glue_lo {n0 k : Nat} {ρ' : Val} (h : k < n0) : (glue n0 ρ' ρ).b k = ρ'.b k ∧ (glue n0 ρ' ρ).c k = ρ'.c k := by simp [glue, h]
theorem glue_hi {n0 k : Nat} {ρ' : Val} (h : n0 ≤ k) : (glue n0 ρ' ρ).b k = ρ.b k ∧ (glue n0 ρ' ρ).c k = ρ.c k := by simp [glue, Nat.not_lt.2 h]
theorem glue_ext {n0 : Nat} {ρ' : Val} : Ext n0 ρ' (glue n0 ρ' ρ) := fun _ hk => glue_lo hk
/-- Turned but for the names of one step. -/
theorem glue_out {m n0 k : Nat} {ρ' : Val} (he : Ext m ρ ρ') (h : ¬ (m ≤ k ∧ k < n0)) : (glue n0 ρ' ρ).b k = ρ.b k ∧ (glue n0 ρ' ρ).c k = ρ.c k := by
  rcases Nat.lt_or_ge k n0 with h1 | h1
  · obtain ⟨q1, q2⟩ := glue_lo (ρ := ρ) (ρ' := ρ') h1
    obtain ⟨r1, r2⟩ := he k (by omega)
    exact ⟨q1.trans r1, q2.trans r2⟩
  · exact glue_hi h1
theorem getD_set_cases {ls : Array Bool} {i j : Nat} (h : (ls.setIfInBounds i true).getD j false = true) : j = i ∨ ls.getD j false = true := by
  by_cases e : i = j
  · exact .inl e.symm
  · rw [getD_set_ne false e] at h; exact .inr h
/-- What a chain's link may be run beside. -/
theorem WF.sat (I : WF B F C l fl ss hf ls w ρ b) (K : HF C n call l fl ss E0 h0 Ef hf) (hg0 : C.G.N ≤ h0.next) (hc : Clos l ls) {i : Nat} {o : Oper} {s : Step} (ho : l[i]? = some o) (hs : ss[i]? = some s) (he : effB o.op = true) (hfl : fl i = false)
    (hu : ls.getD i false = false) (hd : ∀ d ∈ directs o, ls.getD d false = true) : SatX B (FA F w ρ (PM ss fl ls i)) C.G s.h ρ w := by
  have hbi := I.ble ho he hu
  have hpm : ∀ nm, PM ss fl ls i nm → ∃ o, MF hf ss fl ls b nm o := fun nm ⟨j, sj, oj, h1, h2⟩ => ⟨oj, .inr ⟨j, sj, by omega, h2⟩⟩
  have hin : ∀ nm x, s.h.get nm = some x → MF hf ss fl ls b nm x ∧ nm < s.h.next ∧ wfo s.h.next x = true := fun nm x hg => by
    obtain ⟨q1, _⟩ := K.nxs hs
    rw [← q1] at hg ⊢
    rcases K.cont hbi (I.noch K hc ho he hfl hd) nm x hg with h | ⟨j, sj, h1, h2, h3, h4, h5⟩
    · obtain ⟨r1, r2⟩ := I.wfb nm x h
      exact ⟨.inl h, Nat.lt_of_lt_of_le r1 (K.nx hbi), wfo_mono (K.nx hbi) _ r2⟩
    · obtain ⟨oj, p1, p2⟩ := K.fe j h4
      have hl := anc_ready hc ho hd (K.ch i o j oj ho he hfl h2 p1 p2)
      obtain ⟨r1, r2⟩ := I.wfd j sj nm x h1 hl h3 h4 h5
      have := K.nx (i := j + 1) (j := i) (by omega)
      rw [(K.nxs h3).2.1] at this
      exact ⟨.inr ⟨j, sj, h1, hl, h3, h4, h5⟩, Nat.lt_of_lt_of_le r1 this, wfo_mono this _ r2⟩
  have hgn : C.G.N ≤ s.h.next := by
    have := K.nx (i := 0) (j := i) (Nat.zero_le _)
    rw [K.at0, (K.nxs hs).1] at this
    exact Nat.le_trans hg0 this
  have S := I.satx hin hgn
  refine ⟨S.os, S.output, S.tape, fun x o' hx => FA.fr I.fr hx, fun nm o' hg => ?_, S.inj, S.gl, S.gn⟩
  obtain ⟨p1, p2, p3, p4⟩ := S.ob nm o' hg
  refine ⟨?_, p2, p3, p4⟩
  unfold FA
  rw [if_neg]
  · exact p1
  · rintro ⟨nm', h1, h2⟩
    obtain ⟨o2, h3⟩ := hpm nm' h1
    have := I.inj nm' nm o2 o' h3 (hin nm o' hg).1 h2
    subst this
    have h4 := h1.ge K
    have h5 := K.nx1 i
    rw [(K.nxs hs).1] at h5
    omega
/-- Behind a link of the chain. -/
theorem WF.chain (I : WF B F C l fl ss hf ls w ρ b) (K : HF C n call l fl ss E0 h0 Ef hf) (hg0 : C.G.N ≤ h0.next) (hc : Clos l ls) (hsz : ls.size = l.length) {i : Nat} {o : Oper} {s : Step} (ho : l[i]? = some o) (hs : ss[i]? = some s) (he : effB o.op = true) (hfl : fl i = false)
    (hu : ls.getD i false = false) (hd : ∀ d ∈ directs o, ls.getD d false = true) {ρ' : Val} {w' : World} (hE : Ext s.h.next ρ ρ') (hs' : SatX B (FA F w ρ (PM ss fl ls i)) C.G s.h' ρ' w') :
    WF B F C l fl ss hf (ls.setIfInBounds i true) w' (glue s.h'.next ρ' ρ) (i + 1) := by
  have hbi := I.ble ho he hu
  obtain ⟨k1, k2, k3, _⟩ := K.nxs hs
  have k3 := k3 hfl
  have hil : i < ls.size := by rw [hsz]; exact (List.getElem?_eq_some_iff.1 ho).1
  have hFn : ∀ x, FA F w ρ (PM ss fl ls i) x = none → F x = none := fun x hx => by
    cases hF : F x with
    | none => rfl
    | some ob =>
      rw [FA.le (fun nm ⟨j, sj, oj, h1, h2⟩ => (I.ob nm oj (.inr ⟨j, sj, by omega, h2⟩)).1) hF] at hx
      cases hx
  have back : ∀ {j : Nat}, i + 1 ≤ j → (ls.setIfInBounds i true).getD j false = true → ls.getD j false = true := fun {j} h1 h2 => by
    rw [getD_set_ne false (by omega)] at h2; exact h2
  have mcase : ∀ nm o', MF hf ss fl (ls.setIfInBounds i true) (i + 1) nm o' → s.h'.get nm = some o' ∨ (PM ss fl ls i nm ∧ MF hf ss fl ls b nm o' ∧ ∃ j sj, i < j ∧ ls.getD j false = true ∧ ss[j]? = some sj ∧ fl j = true ∧ sj.h'.get nm = some o') := fun nm o' h => by
    rcases h with h | ⟨j, sj, h1, h2, h3, h4, h5⟩
    · rw [k3] at h; exact .inl h
    · have h2' := back h1 h2
      exact .inr ⟨⟨j, sj, o', by omega, h2', h3, h4, h5⟩, .inr ⟨j, sj, by omega, h2', h3, h4, h5⟩, ⟨j, sj, by omega, h2', h3, h4, h5⟩⟩
  have nlo : ∀ nm o', s.h'.get nm = some o' → (glue s.h'.next ρ' ρ).b nm = ρ'.b nm := fun nm o' hg => (glue_lo (hs'.ob nm o' hg).2.1).1
  have nhi : ∀ nm, PM ss fl ls i nm → (glue s.h'.next ρ' ρ).b nm = ρ.b nm ∧ (glue s.h'.next ρ' ρ).c nm = ρ.c nm := fun nm h => glue_hi (by have := h.ge K; rw [k2] at this; exact this)
  refine ⟨fun e oe hoe hee hlt => ?_, fun e oe hoe hee hge hfe => ?_, chs_mem ho he hfl, hs'.os, hs'.output, hs'.tape, fun x ob hF => hs'.fr x ob (FA.le (fun nm ⟨j, sj, oj, h1, h2⟩ => (I.ob nm oj (.inr ⟨j, sj, by omega, h2⟩)).1) hF),
    fun nm o' h => ?_, fun nm o' hg => ?_, fun j sj nm o' h1 h2 h3 h4 h5 => I.wfd j sj nm o' (by omega) (back h1 h2) h3 h4 h5, fun nm nm' o1 o2 h1 h2 hb => ?_, fun g hg => ?_⟩
  · by_cases e1 : e = i
    · subst e1; exact getD_self hil
    · exact getD_set_true (anc_ready hc ho hd (K.ch i o e oe ho he hfl (by omega) hoe hee))
  · cases hl : (ls.setIfInBounds i true).getD e false with
    | false => rfl
    | true =>
      have hl' := back hge hl
      have := anc_listed hc e i hl' (K.ch e oe i o hoe hee hfe (by omega) ho he)
      rw [hu] at this
      cases this
  · rcases mcase nm o' h with hg | ⟨hp, hm, j, sj, h1, h2, h3, h4, h5⟩
    · obtain ⟨q1, q2, q3, obj, q4, q5⟩ := hs'.ob nm o' hg
      rw [nlo nm o' hg]
      exact ⟨hFn _ q1, obj, q4, is_ext glue_ext q2 q3 q5⟩
    · obtain ⟨q1, obj, q2, q3⟩ := I.ob nm o' hm
      obtain ⟨r1, r2⟩ := nhi nm hp
      rw [r1]
      refine ⟨q1, obj, hs'.fr _ _ (by rw [FA.at hp]; exact q2), ?_⟩
      obtain ⟨oj, p1, _⟩ := K.L.at.2.2 j sj h3
      have ha : anc (masks l []) j i = false := by
        cases ha : anc (masks l []) j i with
        | false => rfl
        | true => have := anc_listed hc j i h2 ha; rw [hu] at this; cases this
      refine is_okv (fun k hk => ?_) r2 (okT_get ((K.ck j oj sj p1 h3).2.2.1 h4).2 h5) q3
      have := K.p_out (i := i) hk (by omega) ha
      rw [k1, k2] at this
      exact glue_out hE this
  · rw [k3] at hg ⊢
    obtain ⟨q1, q2, q3, _⟩ := hs'.ob nm o' hg
    exact ⟨q2, q3⟩
  · rcases mcase nm o1 h1 with g1 | ⟨p1, m1, _⟩ <;> rcases mcase nm' o2 h2 with g2 | ⟨p2, m2, _⟩
    · rw [nlo nm o1 g1, nlo nm' o2 g2] at hb
      exact hs'.inj nm nm' o1 o2 g1 g2 hb
    · rw [nlo nm o1 g1, (nhi nm' p2).1] at hb
      have := (hs'.ob nm o1 g1).1
      obtain ⟨_, obj, q, _⟩ := I.ob nm' o2 m2
      rw [hb, FA.at p2, q] at this
      cases this
    · rw [(nhi nm p1).1, nlo nm' o2 g2] at hb
      have := (hs'.ob nm' o2 g2).1
      obtain ⟨_, obj, q, _⟩ := I.ob nm o1 m1
      rw [← hb, FA.at p1, q] at this
      cases this
    · rw [(nhi nm p1).1, (nhi nm' p2).1] at hb
      exact I.inj nm nm' o1 o2 m1 m2 hb
  · have h1 := K.nx (i := 0) (j := i) (Nat.zero_le _)
    have h2 := K.nx1 i
    rw [K.at0, k1] at h1
    rw [k1, k2] at h2
    rw [(glue_lo (by omega)).1, (hE g (by omega)).1]
    exact I.gl g hg
/-- Behind an effect out of the chain. -/
theorem WF.float (I : WF B F C l fl ss hf ls w ρ b) (K : HF C n call l fl ss E0 h0 Ef hf) (hg0 : C.G.N ≤ h0.next) (hc : Clos l ls) {i : Nat} {s : Step} (hs : ss[i]? = some s) (hfl : fl i = true)
    (hu : ls.getD i false = false) {ρ' : Val} {w' : World} (hE : Ext s.h.next ρ ρ') (hs' : SatX B (fun x => w.heap[x]?) C.G s.h' ρ' w') :
    WF B F C l fl ss hf (ls.setIfInBounds i true) w' (glue s.h'.next ρ' ρ) b := by
  obtain ⟨o, ho, he⟩ := K.fe i hfl
  have hbi := I.ble ho he hu
  obtain ⟨k1, k2, _, _⟩ := K.nxs hs
  have mcase : ∀ nm o', MF hf ss fl (ls.setIfInBounds i true) b nm o' → s.h'.get nm = some o' ∨ MF hf ss fl ls b nm o' := fun nm o' h => by
    rcases h with h | ⟨j, sj, h1, h2, h3, h4, h5⟩
    · exact .inr (.inl h)
    · rcases getD_set_cases h2 with rfl | h2
      · rw [hs] at h3; cases h3; exact .inl h5
      · exact .inr (.inr ⟨j, sj, h1, h2, h3, h4, h5⟩)
  have out : ∀ nm o', MF hf ss fl ls b nm o' → ((glue s.h'.next ρ' ρ).b nm = ρ.b nm ∧ (glue s.h'.next ρ' ρ).c nm = ρ.c nm) ∧ ∀ obj, o'.is ρ nm obj → o'.is (glue s.h'.next ρ' ρ) nm obj := fun nm o' h => by
    rcases h with h | ⟨j, sj, h1, h2, h3, h4, h5⟩
    · obtain ⟨q1, q2⟩ := I.wfb nm o' h
      have hx : Ext (hAtF hf ss b).next ρ (glue s.h'.next ρ' ρ) := fun k hk => glue_out hE (by have := K.nx hbi; rw [k1] at this; omega)
      exact ⟨hx nm q1, fun obj hi => is_ext hx q1 q2 hi⟩
    · obtain ⟨oj, p1, _⟩ := K.L.at.2.2 j sj h3
      have hne : j ≠ i := fun e => by subst e; rw [hu] at h2; cases h2
      have ha : anc (masks l []) j i = false := by
        cases ha : anc (masks l []) j i with
        | false => rfl
        | true => have := anc_listed hc j i h2 ha; rw [hu] at this; cases this
      obtain ⟨c1, c2⟩ := (K.ck j oj sj p1 h3).2.2.1 h4
      have hlo := geT_get c1 h5
      have hhi := (I.wfd j sj nm o' h1 h2 h3 h4 h5).1
      have hnm : (glue s.h'.next ρ' ρ).b nm = ρ.b nm ∧ (glue s.h'.next ρ' ρ).c nm = ρ.c nm := glue_out hE (by
        obtain ⟨r1, r2, _⟩ := K.nxs h3
        rcases Nat.lt_or_ge j i with hlt | hge
        · have := K.nx (i := j + 1) (j := i) (by omega)
          rw [r2, k1] at this
          omega
        · have := K.nx (i := i + 1) (j := j) (by omega)
          rw [r1, k2] at this
          omega)
      refine ⟨hnm, fun obj hi => is_okv (fun k hk => ?_) hnm.2 (okT_get c2 h5) hi⟩
      have := K.p_out (i := i) hk hne ha
      rw [k1, k2] at this
      exact glue_out hE this
  have nlo : ∀ nm o', s.h'.get nm = some o' → (glue s.h'.next ρ' ρ).b nm = ρ'.b nm := fun nm o' hg => (glue_lo (hs'.ob nm o' hg).2.1).1
  refine ⟨fun e oe hoe hee hlt => getD_set_true (I.lo e oe hoe hee hlt), fun e oe hoe hee hge hfe => ?_, I.bm, hs'.os, hs'.output, hs'.tape, fun x ob hF => hs'.fr x ob (I.fr x ob hF),
    fun nm o' h => ?_, I.wfb, fun j sj nm o' h1 h2 h3 h4 h5 => ?_, fun nm nm' o1 o2 h1 h2 hb => ?_, fun g hg => ?_⟩
  · rw [getD_set_ne false (fun e' => by subst e'; rw [hfl] at hfe; cases hfe)]
    exact I.hi e oe hoe hee hge hfe
  · rcases mcase nm o' h with hg | hm
    · obtain ⟨q1, q2, q3, obj, q4, q5⟩ := hs'.ob nm o' hg
      rw [nlo nm o' hg]
      refine ⟨?_, obj, q4, is_ext glue_ext q2 q3 q5⟩
      cases hF : F (ρ'.b nm) with
      | none => rfl
      | some ob => have := I.fr _ _ hF; rw [this] at q1; cases q1
    · obtain ⟨q1, obj, q2, q3⟩ := I.ob nm o' hm
      obtain ⟨r1, r2⟩ := out nm o' hm
      rw [r1.1]
      exact ⟨q1, obj, hs'.fr _ _ q2, r2 obj q3⟩
  · rcases getD_set_cases h2 with rfl | h2
    · rw [hs] at h3
      cases h3
      obtain ⟨q1, q2, q3, _⟩ := hs'.ob nm o' h5
      exact ⟨q2, q3⟩
    · exact I.wfd j sj nm o' h1 h2 h3 h4 h5
  · rcases mcase nm o1 h1 with g1 | m1 <;> rcases mcase nm' o2 h2 with g2 | m2
    · rw [nlo nm o1 g1, nlo nm' o2 g2] at hb
      exact hs'.inj nm nm' o1 o2 g1 g2 hb
    · rw [nlo nm o1 g1, (out nm' o2 m2).1.1] at hb
      have := (hs'.ob nm o1 g1).1
      obtain ⟨_, obj, q, _⟩ := I.ob nm' o2 m2
      simp only [hb, q] at this
      cases this
    · rw [(out nm o1 m1).1.1, nlo nm' o2 g2] at hb
      have := (hs'.ob nm' o2 g2).1
      obtain ⟨_, obj, q, _⟩ := I.ob nm o1 m1
      simp only [← hb, q] at this
      cases this
    · rw [(out nm o1 m1).1.1, (out nm' o2 m2).1.1] at hb
      exact I.inj nm nm' o1 o2 m1 m2 hb
  · have h1 := K.nx (i := 0) (j := i) (Nat.zero_le _)
    rw [K.at0, k1] at h1
    rw [(glue_out hE (by omega)).1]
    exact I.gl g hg
/-- Nothing of the heap is turned. -/
theorem WF.quiet (I : WF B F C l fl ss hf ls w ρ b) {i : Nat} (h1 : ∀ s nm, ss[i]? = some s → fl i = true → s.h'.get nm = none) (h2 : ∀ o, l[i]? = some o → effB o.op = true → fl i = true) : WF B F C l fl ss hf (ls.setIfInBounds i true) w ρ b := by
  have mcase : ∀ nm o', MF hf ss fl (ls.setIfInBounds i true) b nm o' → MF hf ss fl ls b nm o' := fun nm o' h => by
    rcases h with h | ⟨j, sj, q1, q2, q3, q4, q5⟩
    · exact .inl h
    · rcases getD_set_cases q2 with rfl | q2
      · rw [h1 sj nm q3 q4] at q5; cases q5
      · exact .inr ⟨j, sj, q1, q2, q3, q4, q5⟩
  refine ⟨fun e oe hoe hee hlt => getD_set_true (I.lo e oe hoe hee hlt), fun e oe hoe hee hge hfe => ?_, I.bm, I.os, I.output, I.tape, I.fr, fun nm o' h => I.ob nm o' (mcase nm o' h), I.wfb, fun j sj nm o' q1 q2 q3 q4 q5 => ?_,
    fun nm nm' o1 o2 q1 q2 hb => I.inj nm nm' o1 o2 (mcase _ _ q1) (mcase _ _ q2) hb, I.gl⟩
  · rw [getD_set_ne false (fun e' => by subst e'; rw [h2 oe hoe hee] at hfe; cases hfe)]
    exact I.hi e oe hoe hee hge hfe
  · rcases getD_set_cases q2 with rfl | q2
    · rw [h1 sj nm q3 q4] at q5; cases q5
    · exact I.wfd j sj nm o' q1 q2 q3 q4 q5
end
end Go.Xs
