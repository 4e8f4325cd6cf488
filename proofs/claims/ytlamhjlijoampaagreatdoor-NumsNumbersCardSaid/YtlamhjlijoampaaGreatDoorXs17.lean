/- Regions whose order is open: the proof over all orders. Plain theorems, no condition. -/
import Derived.Test.YtlamhjlijoampaaGreatDoorXs15
set_option linter.unusedVariables false
set_option linter.unusedSimpArgs false
namespace Go.Xs
open Go.RowKit
section
variable {B : World} {F : PH} {C : Ctx} {n : Nat} {l : List Oper} {ds : List SDef} {ss : List Step} {E0 Ef : Env} {h0 hf' : Hp} {ρ0 : Val} {call : Nat → List Value → Hp → FR}
theorem all_listed {ls : Array Bool} (hsz : ls.size = l.length) (hd : ∀ i o, l[i]? = some o → ∀ d ∈ directs o, d < i) (hr : Region.ready .any l.toArray ls = []) : ∀ i, i < l.length → ls.getD i false = true := by
  intro i
  induction i using Nat.strongRecOn with
  | _ i ih =>
    intro hi
    cases hl : ls.getD i false with
    | true => rfl
    | false =>
      exfalso
      obtain ⟨o, ho⟩ : ∃ o, l[i]? = some o := ⟨l[i], List.getElem?_eq_getElem hi⟩
      have hls : i < ls.size := by omega
      have : i ∈ Region.ready .any l.toArray ls := by
        refine mem_ready.2 ⟨?_, o, by simpa using ho, fun e he hb => ?_⟩
        · rw [Array.getD_eq_getD_getElem?, Array.getElem?_eq_getElem hls] at hl ⊢
          simpa using hl
        · have hm : e.on ∈ directs o := by
            unfold directs
            exact List.mem_map.2 ⟨e, List.mem_filter.2 ⟨by simpa using he, hb⟩, rfl⟩
          have hlt := hd i o ho _ hm
          exact ih _ hlt (by omega)
      rw [hr] at this
      cases this
theorem open_any (hC : C.OK F) (hf : C.FOK) (hcall : CallOK B F C call) (hst : statB l (masks l []) = true) (L : Lnk C n call l l ss E0 h0 Ef hf')
    (hck : chkS C (masks l []) (effL 0 0 l) l (h0 :: fmX l ss) 0 l ss = true) (hanc : ∀ j, ss.length < j → j < l.length → anc (masks l []) j ss.length = true) (hsl : ss.length ≤ l.length) {Q : Exit → Act → World → Prop}
    (hQn : ss.length = l.length → ∀ ls a w ρ k H, Inv B F C n l ds ss E0 h0 ρ0 ls a w ρ k H → (∀ i, i < l.length → ls.getD i false = true) → Q .normal a w)
    (hQp : ∀ o, l[ss.length]? = some o → ∀ ls a w ρ k H, Inv B F C n l ds ss E0 h0 ρ0 ls a w ρ k H → ls.getD ss.length false = false → (∀ d ∈ directs o, ls.getD d false = true) → Region.wanted o (yielded l.toArray a.tmps) = true ∧ ∀ K, o.wp C.P a w K Q) :
    ∀ (fuel : Nat) (ls : Array Bool) (a : Act) (w : World) (ρ : Val) (k : Nat) (H : Hp), Inv B F C n l ds ss E0 h0 ρ0 ls a w ρ k H → (List.range l.length).countP (fun i => !ls.getD i false) ≤ fuel → wpAny C.P .any l.toArray Q fuel ls a w := by
  simp only [statB, Bool.and_eq_true] at hst
  obtain ⟨⟨hdst, hrd⟩, heo⟩ := hst
  have hdst := dstB_spec hdst
  have hrd : ∀ i o, l[i]? = some o → (∀ t ∈ readsX l o, ∀ j o', l[j]? = some o' → o'.dst = some t → j < i ∧ anc (masks l []) i j = true) ∧ ∀ d ∈ directs o, d < i := fun i o ho => by
    simpa only [Nat.zero_add] using rdB_spec hrd i o ho
  have heo : ∀ e e' o o', e < e' → l[e]? = some o → l[e']? = some o' → effB o.op = true → effB o'.op = true → anc (masks l []) e' e = true := fun e e' o o' h1 h2 h3 h4 h5 => by
    simpa only [Nat.zero_add] using effO_spec heo e e' o o' h1 h2 h3 h4 h5
  have hall : ∀ ls : Array Bool, (List.range l.length).countP (fun i => !ls.getD i false) ≤ 0 → ∀ i, i < l.length → ls.getD i false = true := fun ls h i hi => by
    have := List.countP_eq_zero.1 (Nat.le_zero.1 h) i (List.mem_range.2 hi)
    simpa using this
  have hend : ∀ ls a w ρ k H, Inv B F C n l ds ss E0 h0 ρ0 ls a w ρ k H → (∀ i, i < l.length → ls.getD i false = true) → Q .normal a w := fun ls a w ρ k H I h => by
    refine hQn (Nat.le_antisymm hsl ?_) ls a w ρ k H I h
    rcases Nat.lt_or_ge ss.length l.length with hlt | hge
    · exact absurd (I.top _ (h _ hlt)) (Nat.lt_irrefl _)
    · exact hge
  intro fuel
  induction fuel with
  | zero =>
    intro ls a w ρ k H I hc
    have hl := hall ls hc
    refine ⟨?_, hend ls a w ρ k H I hl⟩
    refine List.eq_nil_iff_forall_not_mem.2 fun i hi => ?_
    obtain ⟨o, ho, hu, _⟩ := ready_spec hi
    have hil := (List.getElem?_eq_some_iff.1 ho).1
    have h1 := hl i hil
    have hls : i < ls.size := by rw [I.size]; exact hil
    rw [Array.getD_eq_getD_getElem?, Array.getElem?_eq_getElem hls] at hu h1
    simp only [Option.getD_some] at hu h1
    rw [hu] at h1
    cases h1
  | succ fuel ih =>
    intro ls a w ρ k H I hc
    refine ⟨fun hr => hend ls a w ρ k H I (all_listed I.size (fun i o ho => (hrd i o ho).2) hr), fun i hi => ?_⟩
    obtain ⟨o, ho, hu, hd⟩ := ready_spec hi
    have hil := (List.getElem?_eq_some_iff.1 ho).1
    have hls : i < ls.size := by rw [I.size]; exact hil
    have hu' : ls.getD i false = false := by
      rw [Array.getD_eq_getD_getElem?, Array.getElem?_eq_getElem hls] at hu ⊢
      simpa using hu
    have hdec : (List.range l.length).countP (fun j => !(ls.setIfInBounds i true).getD j false) ≤ fuel := by
      have := countP_lt (p := fun j => !(ls.setIfInBounds i true).getD j false) (q := fun j => !ls.getD j false) (x := i) (fun j hj => by
        by_cases e : i = j
        · subst e
          rw [getD_self hls] at hj
          cases hj
        · rw [getD_set_ne false e] at hj
          exact hj) (by rw [hu']; rfl) (by rw [getD_self hls]; rfl) (List.mem_range.2 hil)
      omega
    have hoA : l.toArray[i]? = some o := by simpa using ho
    unfold wpOp
    rw [hoA]
    simp only
    rcases Nat.lt_trichotomy i ss.length with him | him | him
    · obtain ⟨s, hs⟩ : ∃ s, ss[i]? = some s := ⟨ss[i], List.getElem?_eq_getElem him⟩
      obtain ⟨o', ho', h1, ⟨E', hput⟩, her, hsh, hsh'⟩ := L.at i s hs
      rw [ho] at ho'
      cases ho'
      have A : AgrX H.next ρ n ds s.er a := by
        rw [her]
        exact I.agr ho (by omega) hd (hrd i o ho).1 (L.env.1 i s hs)
      have hEff := fun he => I.atEff L heo ho (by omega) hu' hd he
      -- what is listed with an operation that turns the heap
      have nEff : effB o.op = true → ∀ e oe, l[e]? = some oe → effB oe.op = true → e < ss.length → ((ls.setIfInBounds i true).getD e false = true ↔ cnt l e < k + 1) := fun he e oe hoe hee hem => by
        obtain ⟨hk, _⟩ := hEff he
        rcases Nat.lt_trichotomy e i with hlt | heq | hgt
        · have := cnt_lt hlt hoe hee
          exact ⟨fun _ => by omega, fun _ => getD_set_true (anc_ready I.clos ho hd (heo e i oe o hlt hoe ho hee he))⟩
        · subst heq
          exact ⟨fun _ => by omega, fun _ => getD_self hls⟩
        · have := cnt_lt hgt ho he
          refine ⟨fun hl => ?_, fun hl => by omega⟩
          rw [getD_set_ne false (by omega)] at hl
          have := anc_listed I.clos e i hl (heo i e o oe hgt ho hoe he hee)
          rw [hu'] at this
          cases this
      have kEff : effB o.op = true → k + 1 ≤ cnt l ss.length ∧ (h0 :: fmX l ss)[k + 1]? = some s.h' := fun he => by
        obtain ⟨hk, _⟩ := hEff he
        have h2 := cnt_succ ho he
        have h3 := cnt_mono (l := l) (i := i + 1) (j := ss.length) (by omega)
        refine ⟨by omega, ?_⟩
        rw [hsh', hk, ← h2]
        exact L.hl (i + 1) (by omega)
      have nQui : effB o.op = false → ∀ e oe, l[e]? = some oe → effB oe.op = true → e < ss.length → ((ls.setIfInBounds i true).getD e false = true ↔ cnt l e < k) := fun he e oe hoe hee hem => by
        have hne : i ≠ e := fun e' => by subst e'; rw [ho] at hoe; cases hoe; rw [he] at hee; cases hee
        rw [getD_set_ne false hne]
        exact I.eff e oe hoe hee hem
      unfold step1 at h1
      cases hw : wtX l s.er o.guard with
      | none => rw [hw] at h1; cases h1
      | some b =>
        rw [wtX_wanted A hw]
        rw [hw] at h1
        cases b with
        | false =>
          simp only [StepR.go.injEq] at h1
          obtain ⟨hv, hh⟩ := h1
          simp only [Bool.false_eq_true, if_false]
          cases he : effB o.op with
          | true =>
            obtain ⟨hk, hH⟩ := hEff he
            have hHs : H = s.h' := by rw [hH, ← hsh, hh]
            have := I.step hdst ho hs hd (ρ' := ρ) (H' := H) (w' := w) hput (Ext.refl _ _) (Nat.le_refl _) I.sat (by rw [← hv]; exact wf_undef _) (kEff he).1 (by rw [hHs]; exact (kEff he).2) (nEff he)
            rw [← hv, ren_undef] at this
            exact ih _ _ _ _ _ _ this hdec
          | false =>
            have := I.step hdst ho hs hd (ρ' := ρ) (H' := H) (w' := w) hput (Ext.refl _ _) (Nat.le_refl _) I.sat (by rw [← hv]; exact wf_undef _) I.kle I.hp (nQui he)
            rw [← hv, ren_undef] at this
            exact ih _ _ _ _ _ _ this hdec
        | true =>
          simp only [if_true]
          simp only at h1
          refine .inl ?_
          unfold Oper.wp
          cases he : effB o.op with
          | true =>
            obtain ⟨hk, hH⟩ := hEff he
            rw [← hsh] at hH
            subst hH
            rw [he] at h1
            simp only [cond_true] at h1
            cases hx : xop C s.er s.h o with
            | none => rw [hx] at h1; cases h1
            | some r =>
              have hr := xop_ok I.sat hC hf A hx
              rw [hx] at h1
              cases r with
              | val v h' =>
                simp only [StepR.go.injEq] at h1
                obtain ⟨rfl, rfl⟩ := h1
                obtain ⟨ρ', w', q1, q2, q3, q4, q5⟩ := hr
                rw [q1]
                exact ih _ _ _ _ _ _ (I.step hdst ho hs hd hput q2 q3 q5 q4 (kEff he).1 (kEff he).2 (nEff he)) hdec
              | unit h' =>
                simp only [StepR.go.injEq] at h1
                obtain ⟨hv, rfl⟩ := h1
                obtain ⟨w', q1, q2, q3⟩ := hr
                rw [q1]
                have := I.step hdst ho hs hd hput (Ext.refl _ _) (Nat.le_of_eq q2.symm) q3 (by rw [← hv]; exact wf_undef _) (kEff he).1 (kEff he).2 (nEff he)
                rw [← hv, ren_undef] at this
                exact ih _ _ _ _ _ _ this hdec
              | pan v => cases h1
              | dfr d => cases h1
              | call f args =>
                obtain ⟨q1, q2⟩ := hr
                rw [q1]
                have hc' : ∀ t, call f args s.h ≠ .no t := fun t e => by simp only [e] at h1; cases h1
                refine (hcall f args s.h ρ w hc' q2 I.sat).mono fun e w' hq => ?_
                simp only at h1
                cases hcr : call f args s.h with
                | no t => exact absurd hcr (hc' t)
                | ret v h' =>
                  rw [hcr] at hq h1
                  simp only [StepR.go.injEq] at h1
                  obtain ⟨rfl, rfl⟩ := h1
                  obtain ⟨ρ', rfl, q2, q3, q4, q5⟩ := hq
                  exact ih _ _ _ _ _ _ (I.step hdst ho hs hd hput q2 q3 q5 q4 (kEff he).1 (kEff he).2 (nEff he)) hdec
                | pan v h' => rw [hcr] at h1; cases h1
          | false =>
            rw [he] at h1
            simp only [cond_false] at h1
            have hx : xq C s.er H o = some s.v := by
              have hx0 : xq C s.er s.h o = some s.v := by
                split at h1
                · rename_i v hv
                  simp only [StepR.go.injEq] at h1
                  rw [← h1.1]
                  exact hv
                · cases h1
              cases hlk : lookB o.op with
              | false => rw [xq_still hlk (h' := s.h)]; exact hx0
              | true =>
                have hch := chkS_spec hck i o s ho hs hlk he hw
                rw [Nat.zero_add] at hch
                refine chkH_spec hch k H I.hp ?_
                rw [Nat.zero_add]
                refine okK_of fun e c hec => ?_
                obtain ⟨oe, q1, q2, _, q4⟩ := effL_ok hec
                simp only [Nat.sub_zero, Nat.zero_add] at q1 q4
                subst q4
                refine ⟨fun ha => ?_, fun ha => ?_⟩
                · have hl := anc_ready I.clos ho hd ha
                  exact (I.eff e oe q1 q2 (I.top e hl)).1 hl
                · rcases Nat.lt_or_ge e ss.length with hem | hem
                  · rcases Nat.lt_or_ge (cnt l e) k with hlt | hge
                    · have := anc_listed I.clos e i ((I.eff e oe q1 q2 hem).2 hlt) ha
                      rw [hu'] at this
                      cases this
                    · exact hge
                  · have := cnt_mono (l := l) hem
                    have := I.kle
                    omega
            obtain ⟨q1, q2⟩ := xq_ok I.sat hC A hx
            rw [q2]
            exact ih _ _ _ _ _ _ (I.step hdst ho hs hd hput (Ext.refl _ _) (Nat.le_refl _) I.sat q1 I.kle I.hp (nQui he)) hdec
    · subst him
      obtain ⟨h1, h2⟩ := hQp o ho ls a w ρ k H I hu' hd
      rw [if_pos h1]
      exact .inl (h2 _)
    · exact absurd (I.top _ (anc_ready I.clos ho hd (hanc i him hil))) (Nat.lt_irrefl _)
end
end Go.Xs
