/- Regions whose order is open, with effects that do not wait for one another: facts of the reckoning. Plain theorems, no condition. -/
import Derived.Test.YtlamhjlijoampaaGreatDoorXs18
import Derived.Test.YtlamhjlijoampaaGreatDoorXw0
set_option linter.unusedVariables false
set_option linter.unusedSimpArgs false
namespace Go.Xs
open Go.RowKit

/-- The steps follow one another. -/
inductive LnkF (C : Ctx) (n : Nat) (call : Nat → List Value → Hp → FR) (l0 : List Oper) (fl : Nat → Bool) : Nat → List Oper → List Step → Env → Hp → Env → Hp → Prop
  | nil {i : Nat} {E : Env} {h : Hp} : LnkF C n call l0 fl i [] [] E h E h
  | cons {i : Nat} {o : Oper} {l : List Oper} {ss : List Step} {E E' Ef : Env} {h d hf : Hp} {v : Value} : step1 C call l0 o (restr E (readsX l0 o)) (bif fl i then .mt h.next else h) = .go v d → putX n E o.dst v = some E' →
      LnkF C n call l0 fl (i + 1) l ss E' (bif fl i then h.mrg d else d) Ef hf → LnkF C n call l0 fl i (o :: l) (⟨E, restr E (readsX l0 o), v, h, d⟩ :: ss) E h Ef hf
section
variable {C : Ctx} {n : Nat} {call : Nat → List Value → Hp → FR} {l0 : List Oper} {fl : Nat → Bool}
theorem canonF_fin : ∀ {l : List Oper} {i : Nat} {E Ef : Env} {h hf : Hp} {ss : List Step}, canonF C n call l0 fl i l E h = .fin ss Ef hf → LnkF C n call l0 fl i l ss E h Ef hf
  | [], i, E, Ef, h, hf, ss, hx => by simp only [canonF, Can.fin.injEq] at hx; obtain ⟨rfl, rfl, rfl⟩ := hx; exact .nil
  | o :: l, i, E, Ef, h, hf, ss, hx => by
    simp only [canonF] at hx
    split at hx
    · cases hx
    · cases hx
    · rename_i v d hs
      split at hx
      · cases hx
      · rename_i E' hp
        cases hr : canonF C n call l0 fl (i + 1) l E' (bif fl i then h.mrg d else d) with
        | fin ss' Ef' hf' =>
          rw [hr] at hx
          simp only [Can.cons, Can.fin.injEq] at hx
          obtain ⟨rfl, rfl, rfl⟩ := hx
          exact .cons hs hp (canonF_fin hr)
        | pan ss' v' h'' => rw [hr] at hx; cases hx
        | no t => rw [hr] at hx; cases hx
theorem hAtF_cons (hf : Hp) (s : Step) (ss : List Step) (i : Nat) : hAtF hf (s :: ss) (i + 1) = hAtF hf ss i := by simp [hAtF]
theorem LnkF.at {i0 : Nat} {l : List Oper} {ss : List Step} {E Ef : Env} {h hf : Hp} (H : LnkF C n call l0 fl i0 l ss E h Ef hf) : ss.length = l.length ∧ hAtF hf ss 0 = h ∧
    ∀ i s, ss[i]? = some s → ∃ o, l[i]? = some o ∧ step1 C call l0 o s.er (bif fl (i0 + i) then .mt s.h.next else s.h) = .go s.v s.h' ∧ (∃ E', putX n s.E o.dst s.v = some E') ∧ s.er = restr s.E (readsX l0 o) ∧ hAtF hf ss (i + 1) = (bif fl (i0 + i) then s.h.mrg s.h' else s.h') := by
  induction H with
  | nil => exact ⟨rfl, rfl, fun i s hs => by simp at hs⟩
  | @cons i0 o l ss E E' Ef h d hf v hs hp hr ih =>
    obtain ⟨h1, h2, h3⟩ := ih
    refine ⟨by simp [h1], rfl, fun i s hi => ?_⟩
    cases i with
    | zero =>
      simp only [List.getElem?_cons_zero, Option.some.injEq] at hi
      subst hi
      exact ⟨o, rfl, hs, ⟨_, hp⟩, rfl, by rw [hAtF_cons, h2]; rfl⟩
    | succ i =>
      obtain ⟨o', q1, q2, q3, q4, q5⟩ := h3 i s (by simpa using hi)
      rw [show i0 + 1 + i = i0 + (i + 1) by omega] at q2 q5
      exact ⟨o', by simpa using q1, q2, q3, q4, by rw [hAtF_cons]; exact q5⟩
theorem LnkF.env {i0 : Nat} {l : List Oper} {ss : List Step} {E Ef : Env} {h hf : Hp} (H : LnkF C n call l0 fl i0 l ss E h Ef hf) :
    (∀ i s, ss[i]? = some s → ∀ t v, s.E.lk t = some v → From l ss E i t v) ∧ ∀ t v, Ef.lk t = some v → From l ss E ss.length t v := by
  induction H with
  | nil => exact ⟨fun i s hs => by simp at hs, fun t v hv => .inr ⟨fun j oj hj => by simp at hj, hv⟩⟩
  | @cons i0 o l ss E E' Ef h d hf v hs hp hr ih =>
    refine ⟨fun i s hi t u hu => ?_, fun t u hu => From.cons (s := ⟨E, restr E (readsX l0 o), v, h, d⟩) hp (ih.2 t u hu)⟩
    cases i with
    | zero =>
      simp only [List.getElem?_cons_zero, Option.some.injEq] at hi
      subst hi
      exact .inr ⟨fun j oj hj => by omega, hu⟩
    | succ i => exact From.cons (s := ⟨E, restr E (readsX l0 o), v, h, d⟩) hp (ih.1 i s (by simpa using hi) t u hu)
end
theorem rngs_mem : ∀ {ss : List Step} {i0 e lo hi : Nat}, (e, lo, hi) ∈ rngs i0 ss → ∃ s, i0 ≤ e ∧ ss[e - i0]? = some s ∧ lo = s.h.next ∧ hi = s.h'.next
  | [], _, _, _, _, h => by simp [rngs] at h
  | s :: ss, i0, e, lo, hi, h => by
    have key : (e, lo, hi) ∈ rngs (i0 + 1) ss → ∃ s', i0 ≤ e ∧ (s :: ss)[e - i0]? = some s' ∧ lo = s'.h.next ∧ hi = s'.h'.next := fun h => by
      obtain ⟨s', h1, h2, h3, h4⟩ := rngs_mem h
      obtain ⟨d, rfl⟩ : ∃ d, e = i0 + 1 + d := ⟨e - (i0 + 1), by omega⟩
      refine ⟨s', by omega, ?_, h3, h4⟩
      rw [show i0 + 1 + d - (i0 + 1) = d by omega] at h2
      rw [show i0 + 1 + d - i0 = d + 1 by omega]
      simpa using h2
    simp only [rngs] at h
    cases hb : Nat.beq s.h.next s.h'.next with
    | true => rw [hb] at h; exact key h
    | false =>
      rw [hb] at h
      simp only [cond_false, List.mem_cons, Prod.mk.injEq] at h
      rcases h with ⟨rfl, rfl, rfl⟩ | h
      · exact ⟨s, Nat.le_refl _, by simp, rfl, rfl⟩
      · exact key h
theorem inR_spec {M : List Nat} {j nm : Nat} : ∀ {l : List (Nat × Nat × Nat)}, inR M j nm l = true → ∃ e lo hi, (e, lo, hi) ∈ l ∧ (e = j ∨ anc M j e = true) ∧ lo ≤ nm ∧ nm < hi
  | [], h => by simp [inR] at h
  | (e, lo, hi) :: l, h => by
    simp only [inR, Bool.or_eq_true, Bool.and_eq_true, Nat.beq_eq, Nat.ble_eq, Nat.blt_eq] at h
    rcases h with ⟨⟨h1, h2⟩, h3⟩ | h
    · exact ⟨e, lo, hi, List.mem_cons_self, h1, h2, h3⟩
    · obtain ⟨e, lo, hi, h1, h2⟩ := inR_spec h
      exact ⟨e, lo, hi, List.mem_cons_of_mem _ h1, h2⟩
theorem kT_spec {M : List Nat} {fl : Nat → Bool} {i b nm : Nat} {o : SObj} : ∀ {ss : List Step} {j0 : Nat} {t : Tr SObj}, (kT M fl i b j0 ss t).get nm nm = some o →
    t.get nm nm = some o ∨ ∃ j s, j0 ≤ j ∧ ss[j - j0]? = some s ∧ fl j = true ∧ b ≤ j ∧ anc M i j = true ∧ s.h'.get nm = some o
  | [], _, _, h => .inl (by simpa [kT] using h)
  | s :: ss, j0, t, h => by
    simp only [kT] at h
    rcases kT_spec h with h | ⟨j, s', h1, h2, h3⟩
    · cases hb : fl j0 && Nat.ble b j0 && anc M i j0 with
      | false => rw [hb] at h; exact .inl h
      | true =>
        rw [hb] at h
        simp only [Bool.and_eq_true, Nat.ble_eq] at hb
        rcases Tr.get_mrg h with h | h
        · exact .inl h
        · exact .inr ⟨j0, s, Nat.le_refl _, by simp, hb.1.1, hb.1.2, hb.2, h⟩
    · obtain ⟨d, rfl⟩ : ∃ d, j = j0 + 1 + d := ⟨j - (j0 + 1), by omega⟩
      rw [show j0 + 1 + d - (j0 + 1) = d by omega] at h2
      exact .inr ⟨j0 + 1 + d, s', by omega, by rw [show j0 + 1 + d - j0 = d + 1 by omega]; simpa using h2, h3⟩
theorem okB_of {M : List Nat} {i b : Nat} : ∀ {l : List Nat}, (∀ e ∈ l, (anc M i e = true → e < b) ∧ (anc M e i = true → b ≤ e)) → okB M i b l = true
  | [], _ => rfl
  | e :: l, h => by
    have h1 := h e List.mem_cons_self
    have h2 := okB_of (M := M) (i := i) (b := b) (l := l) fun e' h' => h e' (List.mem_cons_of_mem _ h')
    simp only [okB, h2, Bool.and_true, Bool.and_eq_true]
    constructor
    · cases ha : anc M i e with
      | true => simpa [Nat.blt_eq] using h1.1 ha
      | false => rfl
    · cases ha : anc M e i with
      | true => simpa [Nat.ble_eq] using h1.2 ha
      | false => rfl
theorem chkL_spec {C : Ctx} {M : List Nat} {fl : Nat → Bool} {chs : List Nat} {hf : Hp} {ss : List Step} {i : Nat} {er : Env} {v : Value} {o : Oper} : ∀ {bs : List Nat}, chkL C M fl chs hf ss i er v o bs = true →
    ∀ b ∈ bs, okB M i b chs = true → xq C er ⟨kT M fl i b 0 ss (hAtF hf ss b).t, hf.next⟩ o = some v
  | [], _, b, hb, _ => by simp at hb
  | b0 :: bs, h, b, hb, hk => by
    simp only [chkL, Bool.and_eq_true] at h
    rcases List.mem_cons.1 hb with rfl | hb
    · have h1 := h.1
      rw [hk] at h1
      simp only [cond_true] at h1
      split at h1
      · rename_i v' hv
        rw [hv, eqV_ok v' v h1]
      · cases h1
    · exact chkL_spec h.2 b hb hk
theorem chkF_spec {C : Ctx} {M : List Nat} {fl : Nat → Bool} {l0 : List Oper} {n0 : Nat} {rs : List (Nat × Nat × Nat)} {hf : Hp} {ss0 : List Step} : ∀ {l : List Oper} {ss : List Step} {i0 : Nat}, chkF C M fl l0 n0 rs hf ss0 i0 l ss = true →
    ∀ i o s, l[i]? = some o → ss[i]? = some s → s.h.next ≤ s.h'.next ∧ okv (pB M rs n0 (i0 + i)) s.v = true ∧ (fl (i0 + i) = true → geT s.h.next s.h'.t = true ∧ okT (pB M rs n0 (i0 + i)) s.h'.t = true) ∧
      (lookB o.op = true → effB o.op = false → wtX l0 s.er o.guard = some true → chkL C M fl (chsB fl l0) hf ss0 (i0 + i) s.er s.v o (bsB fl l0) = true)
  | [], ss, i0, _, i, o, s, ho, _ => by simp at ho
  | o' :: l, [], i0, _, i, o, s, _, hs => by simp at hs
  | o' :: l, s' :: ss, i0, h, i, o, s, ho, hs => by
    simp only [chkF, Bool.and_eq_true, Nat.ble_eq] at h
    obtain ⟨⟨⟨⟨h1, h2⟩, h3⟩, h4⟩, h5⟩ := h
    cases i with
    | zero =>
      simp only [List.getElem?_cons_zero, Option.some.injEq] at ho hs
      subst ho
      subst hs
      refine ⟨h1, h2, fun hfl => ?_, fun q1 q2 q3 => ?_⟩
      · rw [Nat.add_zero] at hfl
        rw [hfl] at h3
        simpa using h3
      · simpa [q1, q2, q3] using h4
    | succ i =>
      have := chkF_spec h5 i o s (by simpa using ho) (by simpa using hs)
      rw [show i0 + (i + 1) = i0 + 1 + i by omega]
      exact this

/-- What the reckoning has shown of a region. -/
structure HF (C : Ctx) (n : Nat) (call : Nat → List Value → Hp → FR) (l : List Oper) (fl : Nat → Bool) (ss : List Step) (E0 : Env) (h0 : Hp) (Ef : Env) (hf : Hp) : Prop where
  L : LnkF C n call l fl 0 l ss E0 h0 Ef hf
  dst : ∀ (i j : Nat) (o o' : Oper) (t : Nat), l[i]? = some o → l[j]? = some o' → o.dst = some t → o'.dst = some t → i = j
  rd : ∀ i o, l[i]? = some o → (∀ t ∈ readsX l o, ∀ j o', l[j]? = some o' → o'.dst = some t → j < i ∧ anc (masks l []) i j = true) ∧ ∀ d ∈ directs o, d < i
  ch : ∀ i o e oe, l[i]? = some o → effB o.op = true → fl i = false → e < i → l[e]? = some oe → effB oe.op = true → anc (masks l []) i e = true
  fe : ∀ i, fl i = true → ∃ o, l[i]? = some o ∧ effB o.op = true
  ck : ∀ i o s, l[i]? = some o → ss[i]? = some s → s.h.next ≤ s.h'.next ∧ okv (pB (masks l []) (rngs 0 ss) h0.next i) s.v = true ∧ (fl i = true → geT s.h.next s.h'.t = true ∧ okT (pB (masks l []) (rngs 0 ss) h0.next i) s.h'.t = true) ∧
      (lookB o.op = true → effB o.op = false → wtX l s.er o.guard = some true → chkL C (masks l []) fl (chsB fl l) hf ss i s.er s.v o (bsB fl l) = true)
theorem HF.of {C : Ctx} {n : Nat} {call : Nat → List Value → Hp → FR} {l : List Oper} {ss : List Step} {E0 Ef : Env} {h0 hf : Hp} (hc : canonF C n call l (flB (masks l []) l) 0 l E0 h0 = .fin ss Ef hf)
    (hd : dstB l = true) (hr : rdB (masks l []) l 0 l = true) (hk : chkF C (masks l []) (flB (masks l []) l) l h0.next (rngs 0 ss) hf ss 0 l ss = true) : HF C n call l (flB (masks l []) l) ss E0 h0 Ef hf := by
  refine ⟨canonF_fin hc, dstB_spec hd, fun i o ho => by simpa only [Nat.zero_add] using rdB_spec hr i o ho, fun i o e oe ho he hfl hlt hoe hee => ?_, fun i h => ?_, fun i o s ho hs => by simpa only [Nat.zero_add] using chkF_spec hk i o s ho hs⟩
  · unfold flB at hfl
    rw [ho] at hfl
    simp only [he, Bool.true_and, Bool.not_eq_false', List.all_eq_true] at hfl
    obtain ⟨k, hk⟩ := effL_mem (i := 0) (c := 0) hoe hee
    rw [Nat.zero_add] at hk
    have := hfl _ hk
    simp only at this
    rw [show Nat.blt e i = true from by simpa [Nat.blt_eq] using hlt] at this
    exact this
  · unfold flB at h
    split at h
    · rename_i o ho
      simp only [Bool.and_eq_true] at h
      exact ⟨o, ho, h.1⟩
    · cases h
section
variable {C : Ctx} {n : Nat} {call : Nat → List Value → Hp → FR} {l : List Oper} {fl : Nat → Bool} {ss : List Step} {E0 Ef : Env} {h0 hf : Hp}
theorem HF.nx1 (K : HF C n call l fl ss E0 h0 Ef hf) (i : Nat) : (hAtF hf ss i).next ≤ (hAtF hf ss (i + 1)).next := by
  cases hs : ss[i]? with
  | none =>
    have : ss[i + 1]? = none := List.getElem?_eq_none (by have := List.getElem?_eq_none_iff.1 hs; omega)
    simp [hAtF, hs, this]
  | some s =>
    obtain ⟨o, h1, _, _, _, h5⟩ := K.L.at.2.2 i s hs
    have := (K.ck i o s h1 hs).1
    rw [h5]
    have e : hAtF hf ss i = s.h := by simp [hAtF, hs]
    rw [e]
    cases fl (0 + i) <;> exact this
theorem HF.nx (K : HF C n call l fl ss E0 h0 Ef hf) {i j : Nat} (h : i ≤ j) : (hAtF hf ss i).next ≤ (hAtF hf ss j).next := by
  induction j with
  | zero => rw [Nat.le_zero.1 h]; exact Nat.le_refl _
  | succ j ih =>
    rcases Nat.lt_or_ge j i with hlt | hge
    · rw [show i = j + 1 by omega]; exact Nat.le_refl _
    · exact Nat.le_trans (ih hge) (K.nx1 j)
theorem HF.nxf (K : HF C n call l fl ss E0 h0 Ef hf) (i : Nat) : (hAtF hf ss i).next ≤ hf.next := by
  have := K.nx (i := i) (j := max i ss.length) (Nat.le_max_left _ _)
  have e : hAtF hf ss (max i ss.length) = hf := by
    have : ss[max i ss.length]? = none := List.getElem?_eq_none (Nat.le_max_right _ _)
    simp [hAtF, this]
  rw [e] at this
  exact this
theorem HF.at0 (K : HF C n call l fl ss E0 h0 Ef hf) : hAtF hf ss 0 = h0 := K.L.at.2.1
theorem HF.nxs (K : HF C n call l fl ss E0 h0 Ef hf) {i : Nat} {s : Step} (hs : ss[i]? = some s) : hAtF hf ss i = s.h ∧ (hAtF hf ss (i + 1)).next = s.h'.next ∧ (fl i = false → hAtF hf ss (i + 1) = s.h') ∧ (fl i = true → hAtF hf ss (i + 1) = s.h.mrg s.h') := by
  obtain ⟨o, h1, _, _, _, h5⟩ := K.L.at.2.2 i s hs
  rw [Nat.zero_add] at h5
  refine ⟨by simp [hAtF, hs], ?_, fun h => by rw [h5, h]; rfl, fun h => by rw [h5, h]; rfl⟩
  rw [h5]
  cases fl i <;> rfl
theorem HF.anc_lt (K : HF C n call l fl ss E0 h0 Ef hf) : ∀ j i, anc (masks l []) j i = true → i < j := by
  intro j
  induction j using Nat.strongRecOn with
  | _ j ih =>
    intro i h
    obtain ⟨o, ho, d, hd, h2⟩ := anc_ok h
    have hdl := (K.rd j o ho).2 d hd
    rcases h2 with rfl | ⟨hlt, h2⟩
    · exact hdl
    · exact Nat.lt_trans (ih d hlt i h2) hlt
theorem HF.p_spec (K : HF C n call l fl ss E0 h0 Ef hf) {j nm : Nat} (h : pB (masks l []) (rngs 0 ss) h0.next j nm = true) :
    nm < h0.next ∨ ∃ e s, ss[e]? = some s ∧ (e = j ∨ anc (masks l []) j e = true) ∧ (hAtF hf ss e).next ≤ nm ∧ nm < (hAtF hf ss (e + 1)).next := by
  simp only [pB, Bool.or_eq_true, Nat.blt_eq] at h
  refine h.imp id fun h => ?_
  obtain ⟨e, lo, hi, h1, h2, h3, h4⟩ := inR_spec h
  obtain ⟨s, _, h5, rfl, rfl⟩ := rngs_mem h1
  rw [Nat.sub_zero] at h5
  obtain ⟨q1, q2, _⟩ := K.nxs h5
  exact ⟨e, s, h5, h2, by rw [q1]; exact h3, by rw [q2]; exact h4⟩
/-- The names that a step may know lie below what is next behind it. -/
theorem HF.p_lt (K : HF C n call l fl ss E0 h0 Ef hf) {j nm : Nat} (h : pB (masks l []) (rngs 0 ss) h0.next j nm = true) : nm < (hAtF hf ss (j + 1)).next := by
  rcases K.p_spec h with h | ⟨e, s, _, h2, _, h4⟩
  · have := K.nx (i := 0) (j := j + 1) (Nat.zero_le _)
    rw [K.at0] at this
    omega
  · refine Nat.lt_of_lt_of_le h4 (K.nx ?_)
    rcases h2 with rfl | h2
    · exact Nat.le_refl _
    · have := K.anc_lt _ _ h2
      omega
/-- A step does not know the names that one gives for which it does not wait. -/
theorem HF.p_out (K : HF C n call l fl ss E0 h0 Ef hf) {i j nm : Nat} (h : pB (masks l []) (rngs 0 ss) h0.next j nm = true) (hne : j ≠ i) (ha : anc (masks l []) j i = false) : ¬ ((hAtF hf ss i).next ≤ nm ∧ nm < (hAtF hf ss (i + 1)).next) := by
  rintro ⟨g1, g2⟩
  rcases K.p_spec h with h | ⟨e, s, _, h2, h3, h4⟩
  · have := K.nx (i := 0) (j := i) (Nat.zero_le _)
    rw [K.at0] at this
    omega
  · have hei : e ≠ i := fun e' => by
      subst e'
      rcases h2 with h2 | h2
      · exact hne h2.symm
      · rw [ha] at h2; cases h2
    rcases Nat.lt_or_ge e i with hlt | hge
    · have := K.nx (i := e + 1) (j := i) (by omega)
      omega
    · have := K.nx (i := i + 1) (j := e) (by omega)
      omega
/-- What the heap tells along a stretch without a link of the chain. -/
theorem HF.cont (K : HF C n call l fl ss E0 h0 Ef hf) {b : Nat} : ∀ {i : Nat}, b ≤ i → (∀ e o, b ≤ e → e < i → l[e]? = some o → effB o.op = true → fl e = true) → ∀ nm o, (hAtF hf ss i).get nm = some o →
    (hAtF hf ss b).get nm = some o ∨ ∃ j s, b ≤ j ∧ j < i ∧ ss[j]? = some s ∧ fl j = true ∧ s.h'.get nm = some o := by
  intro i
  induction i with
  | zero => intro hb _ nm o hg; rw [Nat.le_zero.1 hb]; exact .inl hg
  | succ i ih =>
    intro hb hno nm o hg
    rcases Nat.lt_or_ge i b with hlt | hge
    · rw [show b = i + 1 by omega]; exact .inl hg
    · have hrc := ih hge (fun e o h1 h2 => hno e o h1 (by omega)) nm o
      have lift : ((hAtF hf ss b).get nm = some o ∨ ∃ j s, b ≤ j ∧ j < i ∧ ss[j]? = some s ∧ fl j = true ∧ s.h'.get nm = some o) → _ :=
        fun h => h.imp id fun ⟨j, s, h1, h2, h3⟩ => (⟨j, s, h1, Nat.lt_succ_of_lt h2, h3⟩ : ∃ j s, b ≤ j ∧ j < i + 1 ∧ ss[j]? = some s ∧ fl j = true ∧ s.h'.get nm = some o)
      cases hs : ss[i]? with
      | none =>
        have : ss[i + 1]? = none := List.getElem?_eq_none (by have := List.getElem?_eq_none_iff.1 hs; omega)
        have e : hAtF hf ss (i + 1) = hAtF hf ss i := by simp [hAtF, hs, this]
        rw [e] at hg
        exact lift (hrc hg)
      | some s =>
        obtain ⟨q1, q2, q3, q4⟩ := K.nxs hs
        cases hfl : fl i with
        | true =>
          rw [q4 hfl] at hg
          rcases Hp.get_mrg hg with hg | hg
          · rw [q1] at hrc
            exact lift (hrc hg)
          · exact .inr ⟨i, s, hge, Nat.lt_succ_self _, hs, hfl, hg⟩
        | false =>
          rw [q3 hfl] at hg
          obtain ⟨o', h1, h2, _⟩ := K.L.at.2.2 i s hs
          rw [Nat.zero_add, hfl] at h2
          have he : effB o'.op = false := by
            cases he : effB o'.op with
            | false => rfl
            | true => rw [hno i o' hge (Nat.lt_succ_self _) h1 he] at hfl; cases hfl
          rw [step1_quiet h2 he] at hg
          rw [q1] at hrc
          exact lift (hrc hg)
theorem HF.chs (K : HF C n call l fl ss E0 h0 Ef hf) {e : Nat} (h : e ∈ chsB fl l) : ∃ o, l[e]? = some o ∧ effB o.op = true ∧ fl e = false := by
  unfold chsB at h
  rw [List.mem_filter, List.mem_map] at h
  obtain ⟨⟨⟨e', k⟩, h1, rfl⟩, h2⟩ := h
  obtain ⟨o, q1, q2, _⟩ := effL_ok h1
  rw [Nat.sub_zero] at q1
  exact ⟨o, q1, q2, by simpa using h2⟩
theorem chs_mem {e : Nat} {o : Oper} (ho : l[e]? = some o) (he : effB o.op = true) (hfl : fl e = false) : e + 1 ∈ bsB fl l := by
  obtain ⟨k, hk⟩ := effL_mem (i := 0) (c := 0) ho he
  rw [Nat.zero_add] at hk
  refine List.mem_cons_of_mem _ (List.mem_map.2 ⟨e, ?_, rfl⟩)
  unfold chsB
  rw [List.mem_filter, List.mem_map]
  exact ⟨⟨_, hk, rfl⟩, by simp [hfl]⟩
end
end Go.Xs
