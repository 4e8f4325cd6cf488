/- A region whose order is open, whole. Plain theorems, no condition. -/
import Derived.Test.YtlamhjlijoampaaGreatDoorXs17
set_option linter.unusedVariables false
set_option linter.unusedSimpArgs false
namespace Go.Xs
open Go.RowKit

theorem delD_ok : ∀ {l : List Oper} {E : Env} {t : Nat} {v : Value}, (delD l E).lk t = some v → (∀ o ∈ l, o.dst ≠ some t) ∧ E.lk t = some v
  | [], E, t, v, h => ⟨fun o ho => by simp at ho, h⟩
  | o :: l, E, t, v, h => by
    simp only [delD] at h
    cases hd : o.dst with
    | none =>
      rw [hd] at h
      have := delD_ok h
      refine ⟨fun o' ho' => ?_, this.2⟩
      rcases List.mem_cons.1 ho' with rfl | ho'
      · rw [hd]; simp
      · exact this.1 o' ho'
    | some u =>
      rw [hd] at h
      obtain ⟨h1, h2⟩ := delD_ok h
      have hne : u ≠ t := fun e => by
        subst e
        rw [Env.lk, Tr.get_del_self] at h2
        cases h2
      refine ⟨fun o' ho' => ?_, Tr.get_del _ _ _ _ _ h2⟩
      rcases List.mem_cons.1 ho' with rfl | ho'
      · rw [hd]; simpa using hne
      · exact h1 o' ho'
section
variable {B : World} {F : PH} {C : Ctx} {n : Nat} {call : Nat → List Value → Hp → FR} {l : List Oper} {ds : List SDef} {E : Env} {h : Hp} {ρ : Val} {a : Act} {w : World}
theorem replFalse (m i : Nat) : (Array.replicate m false).getD i false = false := by
  rw [Array.getD_eq_getD_getElem?, Array.getElem?_replicate]
  split <;> rfl
theorem Inv.start (A : AgrX h.next ρ n ds E a) (s : SatX B F C.G h ρ w) (ss : List Step) : Inv B F C n l ds ss E h ρ (Array.replicate l.length false) a w ρ 0 h := by
  have hf : ∀ i, (Array.replicate l.length false).getD i false = true → False := fun i hi => by rw [replFalse] at hi; cases hi
  exact ⟨by simp, fun j o _ hj => (hf j hj).elim, fun i hi => (hf i hi).elim, fun e o _ _ _ => ⟨fun hi => (hf e hi).elim, fun hk => by omega⟩, Nat.zero_le _, rfl, s, Ext.refl _ _, Nat.le_refl _, A.size, A.defers, A.wfd,
    fun j s o t hj => (hf j hj).elim, fun t v _ hv => A.get t v hv⟩
theorem runOpen_ok (hm : C.P.follows .mixedOrders = true) (hC : C.OK F) (hf : C.FOK) (hcall : CallOK B F C call) {id : Nat} (A : AgrX h.next ρ n ds E a) (s : SatX B F C.G h ρ w) (hno : ∀ t, runOpen C n call l E ds h ≠ .no t) :
    (Code.region id ⟨l⟩ true).wp C.P ((runOpen C n call l E ds h).Q B F C.G ρ h.next n) a w := by
  refine wp_region_any hm ?_
  have hszl : (⟨l⟩ : Array Oper).size = l.length := by simp
  rw [hszl]
  have s' := s.drawn (w.drawn + 1)
  generalize ({ w with drawn := w.drawn + 1 } : World) = w' at s'
  clear s
  have fuel0 : (List.range l.length).countP (fun i => !(Array.replicate l.length false).getD i false) ≤ l.length := by
    refine Nat.le_trans List.countP_le_length ?_
    simp
  unfold runOpen at hno ⊢
  cases hst : statB l (masks l []) with
  | false => rw [hst] at hno; exact absurd rfl (hno _)
  | true =>
    rw [hst] at hno
    simp only [cond_true] at hno ⊢
    have hst' := hst
    simp only [statB, Bool.and_eq_true] at hst'
    obtain ⟨⟨hdst, hrd⟩, heo⟩ := hst'
    have hrd : ∀ i o, l[i]? = some o → (∀ t ∈ readsX l o, ∀ j o', l[j]? = some o' → o'.dst = some t → j < i ∧ anc (masks l []) i j = true) ∧ ∀ d ∈ directs o, d < i := fun i o ho => by
      simpa only [Nat.zero_add] using rdB_spec hrd i o ho
    have heo : ∀ e e' o o', e < e' → l[e]? = some o → l[e']? = some o' → effB o.op = true → effB o'.op = true → anc (masks l []) e' e = true := fun e e' o o' h1 h2 h3 h4 h5 => by
      simpa only [Nat.zero_add] using effO_spec heo e e' o o' h1 h2 h3 h4 h5
    cases hc : canon C n call l 0 l E h with
    | no t => rw [hc] at hno; exact absurd rfl (hno _)
    | fin ss Ef hf' =>
      rw [hc] at hno
      simp only at hno ⊢
      cases hck : chkS C (masks l []) (effL 0 0 l) l (h :: fmX l ss) 0 l ss with
      | false => rw [hck] at hno; exact absurd rfl (hno _)
      | true =>
        simp only [cond_true]
        obtain ⟨L, hsl⟩ := canon_fin hc
        refine open_any hC hf hcall hst L hck (fun j h1 h2 => by omega) (by omega) (fun _ ls a1 w1 ρ1 k H I hall => ?_) (fun o ho => ?_) l.length _ a w' ρ 0 h (Inv.start A s' ss) fuel0
        · have hk : k = cnt l ss.length := by
            rcases Nat.lt_or_ge k (cnt l ss.length) with hlt | hge
            · obtain ⟨e, o, h1, h2, h3, h4⟩ := cnt_ex hlt
              have := (I.eff e o h2 h3 h1).1 (hall e (List.getElem?_eq_some_iff.1 h2).1)
              omega
            · exact Nat.le_antisymm I.kle hge
          have hH : H = hf' := by
            have h1 := I.hp
            rw [hk, L.hl ss.length (Nat.le_refl _), L.hf] at h1
            exact (Option.some.inj h1).symm
          subst hH
          refine ⟨ρ1, rfl, I.ext, I.nx, rfl, ⟨I.tsize, I.tdef, I.twf, fun t v hv => ?_⟩, I.sat⟩
          rcases L.env.2 t v hv with ⟨j, sj, oj, h1, h2, h3, h4, rfl⟩ | ⟨h1, h2⟩
          · exact I.s1 j sj oj t (hall j (List.getElem?_eq_some_iff.1 h3).1) h2 h3 h4
          · exact I.s0 t v (fun j oj _ hj hdj => h1 j oj (by rw [hsl]; exact (List.getElem?_eq_some_iff.1 hj).1) hj hdj) h2
        · rw [hsl] at ho
          simp at ho
    | pan ss v hf' =>
      rw [hc] at hno
      simp only at hno ⊢
      cases hck : chkS C (masks l []) (effL 0 0 l) l (h :: fmX l ss) 0 l ss && ancB (masks l []) ss.length 0 l.length with
      | false => rw [hck] at hno; exact absurd rfl (hno _)
      | true =>
        simp only [cond_true]
        rw [Bool.and_eq_true] at hck
        obtain ⟨hck, hanc⟩ := hck
        obtain ⟨Em, hm, o, L, ho, h1⟩ := canon_pan hc
        have hlt : ss.length < l.length := (List.getElem?_eq_some_iff.1 ho).1
        refine open_any hC hf hcall hst L hck (fun j h1 h2 => ancB_spec hanc j (Nat.zero_le _) (by omega) h1) (by omega) (fun e => by omega) (fun o' ho' ls a1 w1 ρ1 k H I hu hd => ?_) l.length _ a w' ρ 0 h (Inv.start A s' ss) fuel0
        rw [ho] at ho'
        cases ho'
        have A1 : AgrX H.next ρ1 n ds (restr Em (readsX l o)) a1 := I.agr ho (Nat.le_refl _) hd (hrd _ o ho).1 L.env.2
        have AD : AgrX H.next ρ1 n ds (delD l E) a1 := ⟨I.tsize, I.tdef, I.twf, fun t u hu' => by
          obtain ⟨q1, q2⟩ := delD_ok hu'
          exact I.s0 t u (fun j oj _ hj hdj => q1 oj (List.mem_of_getElem? hj) hdj) q2⟩
        unfold step1 at h1
        cases hw : wtX l (restr Em (readsX l o)) o.guard with
        | none => rw [hw] at h1; cases h1
        | some b =>
          rw [hw] at h1
          cases b with
          | false => cases h1
          | true =>
            refine ⟨wtX_wanted A1 hw, fun K => ?_⟩
            simp only at h1
            unfold Oper.wp
            cases he : effB o.op with
            | false =>
              rw [he] at h1
              simp only [cond_false] at h1
              split at h1 <;> cases h1
            | true =>
              rw [he] at h1
              simp only [cond_true] at h1
              obtain ⟨hk, hH⟩ := I.atEff L heo ho (Nat.le_refl _) hu hd he
              rw [L.hf] at hH
              subst hH
              cases hx : xop C (restr Em (readsX l o)) H o with
              | none => rw [hx] at h1; cases h1
              | some r =>
                have hr := xop_ok I.sat hC hf A1 hx
                rw [hx] at h1
                cases r with
                | val v h' => cases h1
                | unit h' => cases h1
                | dfr d => cases h1
                | pan v' =>
                  simp only [StepR.pan.injEq] at h1
                  obtain ⟨rfl, rfl⟩ := h1
                  obtain ⟨q1, q2⟩ := hr
                  rw [q1]
                  exact ⟨ρ1, rfl, I.ext, I.nx, q2, AD, I.sat⟩
                | call f args =>
                  obtain ⟨q1, q2⟩ := hr
                  rw [q1]
                  simp only at h1
                  have hc' : ∀ t, call f args H ≠ .no t := fun t e => by simp only [e] at h1; cases h1
                  refine (hcall f args H ρ1 w1 hc' q2 I.sat).mono fun e w2 hq => ?_
                  cases hcr : call f args H with
                  | no t => exact absurd hcr (hc' t)
                  | ret v1 h' => rw [hcr] at h1; cases h1
                  | pan v1 h' =>
                    rw [hcr] at hq h1
                    simp only [StepR.pan.injEq] at h1
                    obtain ⟨rfl, rfl⟩ := h1
                    obtain ⟨ρ', rfl, q2, q3, q4, q5⟩ := hq
                    exact ⟨ρ', rfl, I.ext.trans q2 I.nx, Nat.le_trans I.nx q3, q4, AD.ext q2 q3, q5⟩
end
end Go.Xs
