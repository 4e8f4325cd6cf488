/- Regions whose order is open, with effects that do not wait for one another: the proof over all orders. Plain theorems, no condition. -/
import Derived.Test.YtlamhjlijoampaaGreatDoorXw2
set_option linter.unusedVariables false
set_option linter.unusedSimpArgs false
namespace Go.Xs
open Go.RowKit
/-- What is told of calls is right, whatever lies beside. -/
def CallAll (B : World) (C : Ctx) (call : Nat → List Value → Hp → FR) : Prop := ∀ F, C.OK F → CallOK B F C call
structure InvF (B : World) (F : PH) (C : Ctx) (n : Nat) (l : List Oper) (ds : List SDef) (fl : Nat → Bool) (ss : List Step) (E0 : Env) (h0 hf : Hp) (ρ0 : Val) (ls : Array Bool) (a : Act) (w : World) (ρ : Val) (b : Nat) : Prop where
  size : ls.size = l.length
  clos : Clos l ls
  wf : WF B F C l fl ss hf ls w ρ b
  ext : Ext h0.next ρ0 ρ
  tsize : a.tmps.size = n
  tdef : a.defers = ds.map (renD ρ)
  s1 : ∀ j s o t, ls.getD j false = true → ss[j]? = some s → l[j]? = some o → o.dst = some t → a.tmps[t]? = some (ren ρ s.v)
  s0 : ∀ t v, (∀ j o, ls.getD j false = true → l[j]? = some o → o.dst ≠ some t) → E0.lk t = some v → a.tmps[t]? = some (ren ρ v)
section
variable {B : World} {F : PH} {C : Ctx} {n : Nat} {call : Nat → List Value → Hp → FR} {l : List Oper} {ds : List SDef} {fl : Nat → Bool} {ss : List Step} {E0 Ef : Env} {h0 hf : Hp} {ρ0 : Val} {ls : Array Bool} {a : Act} {w : World} {ρ : Val} {b : Nat}
theorem step1_eff (hC : C.OK F) (hF : C.FOK) (hcall : CallOK B F C call) {H h' : Hp} {er : Env} {o : Oper} {v : Value} (s : SatX B F C.G H ρ w) (A : AgrX H.next ρ n ds er a) (hw : wtX l er o.guard = some true) (he : effB o.op = true)
    (h1 : step1 C call l o er H = .go v h') {K : Act → World → Prop} {Q : Exit → Act → World → Prop} (k : ∀ ρ' w', Ext H.next ρ ρ' → SatX B F C.G h' ρ' w' → K (a.put o.dst (ren ρ' v)) w') : o.wp C.P a w K Q := by
  unfold step1 at h1
  rw [hw] at h1
  simp only [he, cond_true] at h1
  unfold Oper.wp
  cases hx : xop C er H o with
  | none => rw [hx] at h1; cases h1
  | some r =>
    have hr := xop_ok s hC hF A hx
    rw [hx] at h1
    cases r with
    | val v1 h1' =>
      simp only [StepR.go.injEq] at h1
      obtain ⟨rfl, rfl⟩ := h1
      obtain ⟨ρ', w', q1, q2, q3, q4, q5⟩ := hr
      rw [q1]
      exact k ρ' w' q2 q5
    | unit h1' =>
      simp only [StepR.go.injEq] at h1
      obtain ⟨hv, rfl⟩ := h1
      obtain ⟨w', q1, q2, q3⟩ := hr
      rw [q1]
      have := k ρ w' (Ext.refl _ _) q3
      rw [← hv, ren_undef] at this
      exact this
    | pan v => cases h1
    | dfr d => cases h1
    | call f args =>
      obtain ⟨q1, q2⟩ := hr
      rw [q1]
      have hc' : ∀ t, call f args H ≠ .no t := fun t e => by simp only [e] at h1; cases h1
      refine (hcall f args H ρ w hc' q2 s).mono fun e w' hq => ?_
      simp only at h1
      cases hcr : call f args H with
      | no t => exact absurd hcr (hc' t)
      | ret v1 h1' =>
        rw [hcr] at hq h1
        simp only [StepR.go.injEq] at h1
        obtain ⟨rfl, rfl⟩ := h1
        obtain ⟨ρ', rfl, q2, q3, q4, q5⟩ := hq
        exact k ρ' w' q2 q5
      | pan v1 h1' => rw [hcr] at h1; cases h1
theorem InvF.agr (I : InvF B F C n l ds fl ss E0 h0 hf ρ0 ls a w ρ b) (K : HF C n call l fl ss E0 h0 Ef hf) (hE0 : ∀ t v, E0.lk t = some v → wfv h0.next v = true) (hds : ∀ d ∈ ds, wfL h0.next d.cap = true ∧ wfL h0.next d.args = true)
    {i : Nat} {o : Oper} (ho : l[i]? = some o) (hd : ∀ d ∈ directs o, ls.getD d false = true) {EE : Env} (hE : ∀ t v, EE.lk t = some v → From l ss E0 i t v) {m : Nat} (hm : (hAtF hf ss i).next ≤ m) : AgrX m ρ n ds (restr EE (readsX l o)) a := by
  have h0m : h0.next ≤ m := by
    have := K.nx (i := 0) (j := i) (Nat.zero_le _)
    rw [K.at0] at this
    omega
  refine ⟨I.tsize, I.tdef, fun d hd => ⟨wfL_mono h0m _ (hds d hd).1, wfL_mono h0m _ (hds d hd).2⟩, fun t v hv => ?_⟩
  obtain ⟨ht, hv⟩ := restr_ok hv
  have hrd := (K.rd i o ho).1
  rcases hE t v hv with ⟨j, sj, oj, h1, h2, h3, h4, rfl⟩ | ⟨h1, h2⟩
  · refine ⟨okv_wfv (fun k hk => ?_) _ (K.ck j oj sj h3 h2).2.1, I.s1 j sj oj t (anc_ready I.clos ho hd (hrd t ht j oj h3 h4).2) h2 h3 h4⟩
    have := K.p_lt hk
    have := K.nx (i := j + 1) (j := i) (by omega)
    omega
  · exact ⟨wfv_mono h0m _ (hE0 t v h2), I.s0 t v (fun j oj _ hj hdj => h1 j oj (hrd t ht j oj hj hdj).1 hj hdj) h2⟩
theorem InvF.step (I : InvF B F C n l ds fl ss E0 h0 hf ρ0 ls a w ρ b) (K : HF C n call l fl ss E0 h0 Ef hf) (hE0 : ∀ t v, E0.lk t = some v → wfv h0.next v = true) (hds : ∀ d ∈ ds, wfL h0.next d.cap = true ∧ wfL h0.next d.args = true)
    {i : Nat} {o : Oper} {s : Step} (ho : l[i]? = some o) (hs : ss[i]? = some s) (hu : ls.getD i false = false) (hd : ∀ d ∈ directs o, ls.getD d false = true) {ρ' : Val} {w' : World} {b' : Nat}
    (hout : ∀ k, ¬ ((hAtF hf ss i).next ≤ k ∧ k < (hAtF hf ss (i + 1)).next) → ρ'.b k = ρ.b k ∧ ρ'.c k = ρ.c k) (hw : WF B F C l fl ss hf (ls.setIfInBounds i true) w' ρ' b') :
    InvF B F C n l ds fl ss E0 h0 hf ρ0 (ls.setIfInBounds i true) (a.put o.dst (ren ρ' s.v)) w' ρ' b' := by
  have hil : i < ls.size := by rw [I.size]; exact (List.getElem?_eq_some_iff.1 ho).1
  have h0i : h0.next ≤ (hAtF hf ss i).next := by
    have := K.nx (i := 0) (j := i) (Nat.zero_le _)
    rw [K.at0] at this
    exact this
  have hx : Ext h0.next ρ ρ' := fun k hk => hout k (by omega)
  have same : ∀ t, o.dst ≠ some t → (a.put o.dst (ren ρ' s.v)).tmps[t]? = a.tmps[t]? := fun t ht => by
    cases hdd : o.dst with
    | none => rfl
    | some u =>
      rw [hdd] at ht
      simp only [Act.put]
      exact Array.getElem?_setIfInBounds_ne fun e => ht (by rw [e])
  refine ⟨by simp [I.size], I.clos.set ho hd, hw, I.ext.trans hx (Nat.le_refl _), ?_, ?_, fun j sj oj t hj hsj hoj ht => ?_, fun t v hno hv0 => ?_⟩
  · cases hdd : o.dst <;> simp [Act.put, I.tsize]
  · have : (a.put o.dst (ren ρ' s.v)).defers = a.defers := by cases o.dst <;> rfl
    rw [this, I.tdef]
    refine List.map_congr_left fun d hd' => ?_
    simp only [renD, renL_ext hx _ (hds d hd').1, renL_ext hx _ (hds d hd').2]
  · by_cases e : i = j
    · subst e
      rw [hs] at hsj
      cases hsj
      rw [ho] at hoj
      cases hoj
      obtain ⟨o', h1, _, ⟨E', hp⟩, _⟩ := K.L.at.2.2 i s hs
      rw [ho] at h1
      cases h1
      rw [ht] at hp ⊢
      simp only [putX] at hp
      cases hb : Nat.blt t n with
      | false => rw [hb] at hp; cases hp
      | true =>
        rw [Nat.blt_eq] at hb
        simp [Act.put, I.tsize, hb]
    · rw [getD_set_ne false e] at hj
      have h1 := I.s1 j sj oj t hj hsj hoj ht
      have ha : anc (masks l []) j i = false := by
        cases ha : anc (masks l []) j i with
        | false => rfl
        | true => have := anc_listed I.clos j i hj ha; rw [hu] at this; cases this
      rw [same t (fun e' => e (K.dst i j o oj t ho hoj e' ht)), h1, ren_okv (fun k hk => hout k (K.p_out hk (fun e' => e e'.symm) ha)) _ (K.ck j oj sj hoj hsj).2.1]
  · have hne : o.dst ≠ some t := hno i o (getD_self hil) ho
    rw [same t hne, I.s0 t v (fun j oj hj hoj => hno j oj (getD_set_true hj) hoj) hv0, ren_ext hx _ (hE0 t v hv0)]
theorem open_anyF (hC : C.OK F) (hF : C.FOK) (hcall : CallAll B C call) (K : HF C n call l fl ss E0 h0 Ef hf) (hg0 : C.G.N ≤ h0.next) (hE0 : ∀ t v, E0.lk t = some v → wfv h0.next v = true) (hds : ∀ d ∈ ds, wfL h0.next d.cap = true ∧ wfL h0.next d.args = true)
    {Q : Exit → Act → World → Prop} (hQ : ∀ ls a w ρ b, InvF B F C n l ds fl ss E0 h0 hf ρ0 ls a w ρ b → (∀ i, i < l.length → ls.getD i false = true) → Q .normal a w) :
    ∀ (fuel : Nat) (ls : Array Bool) (a : Act) (w : World) (ρ : Val) (b : Nat), InvF B F C n l ds fl ss E0 h0 hf ρ0 ls a w ρ b → (List.range l.length).countP (fun i => !ls.getD i false) ≤ fuel → wpAny C.P .any l.toArray Q fuel ls a w := by
  have hall : ∀ ls : Array Bool, (List.range l.length).countP (fun i => !ls.getD i false) ≤ 0 → ∀ i, i < l.length → ls.getD i false = true := fun ls h i hi => by
    have := List.countP_eq_zero.1 (Nat.le_zero.1 h) i (List.mem_range.2 hi)
    simpa using this
  intro fuel
  induction fuel with
  | zero =>
    intro ls a w ρ b I hc
    have hl := hall ls hc
    refine ⟨?_, hQ ls a w ρ b I hl⟩
    refine List.eq_nil_iff_forall_not_mem.2 fun i hi => ?_
    obtain ⟨o, ho, hu, _⟩ := ready_spec hi
    have hil := (List.getElem?_eq_some_iff.1 ho).1
    have h1 := hl i hil
    have hls : i < ls.size := by rw [I.size]; exact hil
    rw [Array.getD_eq_getD_getElem?, Array.getElem?_eq_getElem hls] at hu h1
    simp only [Option.getD_some] at hu h1
    rw [hu] at h1
    cases h1
  | succ fuel ih =>
    intro ls a w ρ b I hc
    refine ⟨fun hr => hQ ls a w ρ b I (all_listed I.size (fun i o ho => (K.rd i o ho).2) hr), fun i hi => ?_⟩
    obtain ⟨o, ho, hu, hd⟩ := ready_spec hi
    have hil := (List.getElem?_eq_some_iff.1 ho).1
    have hls : i < ls.size := by rw [I.size]; exact hil
    have hu' : ls.getD i false = false := by
      rw [Array.getD_eq_getD_getElem?, Array.getElem?_eq_getElem hls] at hu ⊢
      simpa using hu
    have hdec : (List.range l.length).countP (fun j => !(ls.setIfInBounds i true).getD j false) ≤ fuel := by
      have := countP_lt (p := fun j => !(ls.setIfInBounds i true).getD j false) (q := fun j => !ls.getD j false) (x := i) (fun j hj => by
        by_cases e : i = j
        · subst e
          rw [getD_self hls] at hj
          cases hj
        · rw [getD_set_ne false e] at hj
          exact hj) (by rw [hu']; rfl) (by rw [getD_self hls]; rfl) (List.mem_range.2 hil)
      omega
    have hoA : l.toArray[i]? = some o := by simpa using ho
    unfold wpOp
    rw [hoA]
    simp only
    obtain ⟨s, hs⟩ : ∃ s, ss[i]? = some s := ⟨ss[i]'(by rw [K.L.at.1]; exact hil), List.getElem?_eq_getElem _⟩
    obtain ⟨o', ho', h1, ⟨E', hput⟩, her, _⟩ := K.L.at.2.2 i s hs
    rw [ho] at ho'
    cases ho'
    rw [Nat.zero_add] at h1
    obtain ⟨k1, k2, k3, k4⟩ := K.nxs hs
    have A : ∀ m, s.h.next ≤ m → AgrX m ρ n ds s.er a := fun m hm => by
      rw [her]
      exact I.agr K hE0 hds ho hd (K.L.env.1 i s hs) (by rw [k1]; exact hm)
    have hGi : C.G.N ≤ s.h.next := by
      have := K.nx (i := 0) (j := i) (Nat.zero_le _)
      rw [K.at0, k1] at this
      exact Nat.le_trans hg0 this
    have wfall : ∀ T : Tr SObj, (∀ nm o, T.get nm nm = some o → MF hf ss fl ls b nm o) → SatX B F C.G ⟨T, hf.next⟩ ρ w := fun T hT => I.wf.satx (fun nm o hg => ⟨hT nm o hg, I.wf.wf K (hT nm o hg)⟩) (Nat.le_trans hg0 (by have := K.nxf 0; rw [K.at0] at this; exact this))
    have hnf : s.h.next ≤ hf.next := by have := K.nxf i; rw [k1] at this; exact this
    -- an effect that comes up
    have stepE : ∀ {ρ' : Val} {w' : World} {b' : Nat}, Ext s.h.next ρ ρ' → WF B F C l fl ss hf (ls.setIfInBounds i true) w' (glue s.h'.next ρ' ρ) b' → InvF B F C n l ds fl ss E0 h0 hf ρ0 (ls.setIfInBounds i true) (a.put o.dst (ren (glue s.h'.next ρ' ρ) s.v)) w' (glue s.h'.next ρ' ρ) b' := fun hE hw =>
      I.step K hE0 hds ho hs hu' hd (fun k hk => glue_out hE (by rw [k1, k2] at hk; exact hk)) hw
    have hvw : wfv s.h'.next s.v = true := okv_wfv (fun k hk => by have := K.p_lt hk; rw [k2] at this; exact this) _ (K.ck i o s ho hs).2.1
    have glv : ∀ ρ' : Val, ren (glue s.h'.next ρ' ρ) s.v = ren ρ' s.v := fun ρ' => ren_ext glue_ext _ hvw
    cases hw : wtX l s.er o.guard with
    | none => unfold step1 at h1; rw [hw] at h1; cases h1
    | some wb =>
      rw [wtX_wanted (A _ (Nat.le_refl _)) hw]
      cases wb with
      | false =>
        simp only [Bool.false_eq_true, if_false]
        have h1' := h1
        unfold step1 at h1'
        rw [hw] at h1'
        simp only [StepR.go.injEq] at h1'
        obtain ⟨hv, hh⟩ := h1'
        cases he : effB o.op with
        | true =>
          cases hfl : fl i with
          | true =>
            rw [hfl] at hh
            simp only [cond_true] at hh
            have := I.step K hE0 hds ho hs hu' hd (fun k _ => ⟨rfl, rfl⟩) (I.wf.quiet (i := i) (fun s' nm hs' _ => by
              rw [hs] at hs'
              cases hs'
              rw [← hh]
              simp [Hp.get, Tr.get]) (fun _ _ _ => hfl))
            rw [← hv, ren_undef] at this
            exact ih _ _ _ _ _ this hdec
          | false =>
            rw [hfl] at hh
            simp only [cond_false] at hh
            have hS := I.wf.sat K hg0 I.clos ho hs he hfl hu' hd
            have hW := I.wf.chain K hg0 I.clos I.size ho hs he hfl hu' hd (Ext.refl _ ρ) (by rw [← hh]; exact hS)
            have := stepE (Ext.refl _ ρ) hW
            rw [glv, ← hv, ren_undef] at this
            exact ih _ _ _ _ _ this hdec
        | false =>
          have hfl : fl i = false := by
            cases hfl : fl i with
            | false => rfl
            | true => obtain ⟨o2, p1, p2⟩ := K.fe i hfl; rw [ho] at p1; cases p1; rw [he] at p2; cases p2
          have := I.step K hE0 hds ho hs hu' hd (fun k _ => ⟨rfl, rfl⟩) (I.wf.quiet (i := i) (fun _ _ _ h => by rw [hfl] at h; cases h) (fun o2 p1 p2 => by rw [ho] at p1; cases p1; rw [he] at p2; cases p2))
          rw [← hv, ren_undef] at this
          exact ih _ _ _ _ _ this hdec
      | true =>
        simp only [if_true]
        refine .inl ?_
        cases he : effB o.op with
        | true =>
          cases hfl : fl i with
          | true =>
            rw [hfl] at h1
            simp only [cond_true] at h1
            have hCW : C.OK (fun x => w.heap[x]?) := fun g lg hg hlg j v hj => ⟨(hC g lg hg hlg j v hj).1, fun ρ2 w2 hρ hw2 => (hC g lg hg hlg j v hj).2 ρ2 w2 hρ fun x ob hx => hw2 x ob (I.wf.fr x ob hx)⟩
            have hS : SatX B (fun x => w.heap[x]?) C.G (.mt s.h.next) ρ w := ⟨I.wf.os, I.wf.output, I.wf.tape, fun _ _ h => h, fun nm o2 hg => by simp [Hp.get, Tr.get] at hg, fun nm _ o2 _ hg => by simp [Hp.get, Tr.get] at hg, I.wf.gl, hGi⟩
            refine step1_eff hCW hF (hcall _ hCW) hS (A _ (Nat.le_refl _)) hw he h1 fun ρ' w' hE hS' => ?_
            have := stepE hE (I.wf.float K hg0 I.clos hs hfl hu' hE hS')
            rw [glv] at this
            exact ih _ _ _ _ _ this hdec
          | false =>
            rw [hfl] at h1
            simp only [cond_false] at h1
            have hS := I.wf.sat K hg0 I.clos ho hs he hfl hu' hd
            have hCA : C.OK (FA F w ρ (PM ss fl ls i)) := fun g lg hg hlg j v hj => ⟨(hC g lg hg hlg j v hj).1, fun ρ2 w2 hρ hw2 => (hC g lg hg hlg j v hj).2 ρ2 w2 hρ fun x ob hx => hw2 x ob (FA.le (fun nm ⟨j, sj, oj, p1, p2⟩ => (I.wf.ob nm oj (.inr ⟨j, sj, by have := I.wf.ble ho he hu'; omega, p2⟩)).1) hx)⟩
            refine step1_eff hCA hF (hcall _ hCA) hS (A _ (Nat.le_refl _)) hw he h1 fun ρ' w' hE hS' => ?_
            have := stepE hE (I.wf.chain K hg0 I.clos I.size ho hs he hfl hu' hd hE hS')
            rw [glv] at this
            exact ih _ _ _ _ _ this hdec
        | false =>
          have hfl : fl i = false := by
            cases hfl : fl i with
            | false => rfl
            | true => obtain ⟨o2, p1, p2⟩ := K.fe i hfl; rw [ho] at p1; cases p1; rw [he] at p2; cases p2
          rw [hfl] at h1
          simp only [cond_false] at h1
          have hx0 : xq C s.er s.h o = some s.v := by
            unfold step1 at h1
            rw [hw] at h1
            simp only [he, cond_false] at h1
            split at h1
            · rename_i v hv
              simp only [StepR.go.injEq] at h1
              rw [← h1.1]
              exact hv
            · cases h1
          have hx : ∃ T : Tr SObj, (∀ nm o, T.get nm nm = some o → MF hf ss fl ls b nm o) ∧ xq C s.er ⟨T, hf.next⟩ o = some s.v := by
            cases hlk : lookB o.op with
            | false => exact ⟨.lf, fun nm o hg => by simp [Tr.get] at hg, by rw [xq_still hlk (h' := s.h)]; exact hx0⟩
            | true =>
              have hch := (K.ck i o s ho hs).2.2.2 hlk he hw
              refine ⟨_, fun nm o2 hg => ?_, chkL_spec hch b I.wf.bm (okB_of fun e hec => ?_)⟩
              · rcases kT_spec hg with hg | ⟨j, sj, _, p2, p3, p4, p5, p6⟩
                · exact .inl hg
                · rw [Nat.sub_zero] at p2
                  exact .inr ⟨j, sj, p4, anc_ready I.clos ho hd p5, p2, p3, p6⟩
              · obtain ⟨oe, p1, p2, p3⟩ := K.chs hec
                refine ⟨fun ha => ?_, fun ha => ?_⟩
                · have hl := anc_ready I.clos ho hd ha
                  rcases Nat.lt_or_ge e b with hlt | hge
                  · exact hlt
                  · rw [I.wf.hi e oe p1 p2 hge p3] at hl; cases hl
                · rcases Nat.lt_or_ge e b with hlt | hge
                  · have := anc_listed I.clos e i (I.wf.lo e oe p1 p2 hlt) ha
                    rw [hu'] at this
                    cases this
                  · exact hge
          obtain ⟨T, hT, hx⟩ := hx
          obtain ⟨q1, q2⟩ := xq_ok (wfall T hT) hC (A _ hnf) hx
          unfold Oper.wp
          rw [q2]
          exact ih _ _ _ _ _ (I.step K hE0 hds ho hs hu' hd (fun k _ => ⟨rfl, rfl⟩) (I.wf.quiet (i := i) (fun _ _ _ h => by rw [hfl] at h; cases h) (fun o2 p1 p2 => by rw [ho] at p1; cases p1; rw [he] at p2; cases p2))) hdec
/-- A region whose order is open, whole. -/
theorem runOpenF_ok (hm : C.P.follows .mixedOrders = true) (hC : C.OK F) (hF : C.FOK) (hcall : CallAll B C call) {id : Nat} {E : Env} {h : Hp} (A : AgrX h.next ρ n ds E a) (s : SatX B F C.G h ρ w) (hno : ∀ t, runOpenF C n call l E ds h ≠ .no t) :
    (Code.region id ⟨l⟩ true).wp C.P ((runOpenF C n call l E ds h).Q B F C.G ρ h.next n) a w := by
  refine wp_region_any hm ?_
  have hszl : (⟨l⟩ : Array Oper).size = l.length := by simp
  rw [hszl]
  have s' := s.drawn (w.drawn + 1)
  generalize ({ w with drawn := w.drawn + 1 } : World) = w' at s'
  clear s
  have fuel0 : (List.range l.length).countP (fun i => !(Array.replicate l.length false).getD i false) ≤ l.length := by
    refine Nat.le_trans List.countP_le_length ?_
    simp
  unfold runOpenF at hno ⊢
  cases hst : dstB l && rdB (masks l []) l 0 l with
  | false => rw [hst] at hno; exact absurd rfl (hno _)
  | true =>
    rw [hst] at hno
    simp only [cond_true] at hno ⊢
    rw [Bool.and_eq_true] at hst
    cases hc : canonF C n call l (flB (masks l []) l) 0 l E h with
    | no t => rw [hc] at hno; exact absurd rfl (hno _)
    | pan ss v h' => rw [hc] at hno; exact absurd rfl (hno _)
    | fin ss Ef hf =>
      rw [hc] at hno
      simp only at hno ⊢
      cases hck : chkF C (masks l []) (flB (masks l []) l) l h.next (rngs 0 ss) hf ss 0 l ss with
      | false => rw [hck] at hno; exact absurd rfl (hno _)
      | true =>
        simp only [cond_true]
        have K := HF.of hc hst.1 hst.2 hck
        have hfalse : ∀ i, (Array.replicate l.length false).getD i false = true → False := fun i hi => by rw [replFalse] at hi; cases hi
        have hm0 : ∀ nm o, MF hf ss (flB (masks l []) l) (Array.replicate l.length false) 0 nm o → h.get nm = some o := fun nm o hx => by
          rcases hx with hx | ⟨j, sj, _, h2, _⟩
          · rw [K.at0] at hx; exact hx
          · exact (hfalse j h2).elim
        have I0 : InvF B F C n l ds (flB (masks l []) l) ss E h hf ρ (Array.replicate l.length false) a w' ρ 0 := by
          refine ⟨by simp, fun j o _ hj => (hfalse j hj).elim, ⟨fun e o _ _ hlt => by omega, fun e o _ _ _ _ => replFalse _ _, List.mem_cons_self, s'.os, s'.output, s'.tape, s'.fr, fun nm o hx => ?_, fun nm o hx => ?_, fun j sj nm o _ h2 => (hfalse j h2).elim,
            fun nm nm' o o' h1 h2 hb => s'.inj nm nm' o o' (hm0 _ _ h1) (hm0 _ _ h2) hb, s'.gl⟩, Ext.refl _ _, A.size, A.defers, fun j s o t hj => (hfalse j hj).elim, fun t v _ hv => (A.get t v hv).2⟩
          · obtain ⟨q1, q2, q3, q4⟩ := s'.ob nm o (hm0 nm o hx)
            exact ⟨q1, q4⟩
          · rw [K.at0] at hx ⊢
            obtain ⟨q1, q2, q3, q4⟩ := s'.ob nm o hx
            exact ⟨q2, q3⟩
        refine open_anyF hC hF hcall K s'.gn (fun t v hv => (A.get t v hv).1) A.wfd (fun ls a1 w1 ρ1 b I hall => ?_) l.length _ a w' ρ 0 I0 fuel0
        have hnof : ∀ e o, b ≤ e → e < ss.length → l[e]? = some o → effB o.op = true → flB (masks l []) l e = true := fun e o h1 h2 h3 h4 => by
          cases hfe : flB (masks l []) l e with
          | true => rfl
          | false =>
            have := I.wf.hi e o h3 h4 h1 hfe
            rw [hall e (List.getElem?_eq_some_iff.1 h3).1] at this
            cases this
        have hend : hAtF hf ss ss.length = hf := by simp [hAtF]
        have hin : ∀ nm o, hf.get nm = some o → MF hf ss (flB (masks l []) l) ls b nm o := fun nm o hg => by
          rcases Nat.lt_or_ge ss.length b with hlt | hge
          · have : hAtF hf ss b = hf := by
              have : ss[b]? = none := List.getElem?_eq_none (by omega)
              simp [hAtF, this]
            exact .inl (by rw [this]; exact hg)
          · rw [← hend] at hg
            rcases K.cont hge hnof nm o hg with hx | ⟨j, sj, h1, h2, h3, h4, h5⟩
            · exact .inl hx
            · exact .inr ⟨j, sj, h1, hall j (by rw [← K.L.at.1]; exact h2), h3, h4, h5⟩
        have h0f : h.next ≤ hf.next := by have := K.nxf 0; rw [K.at0] at this; exact this
        refine ⟨ρ1, rfl, I.ext, h0f, rfl, ⟨I.tsize, I.tdef, fun d hd => ⟨wfL_mono h0f _ (A.wfd d hd).1, wfL_mono h0f _ (A.wfd d hd).2⟩, fun t v hv => ?_⟩, I.wf.satx (fun nm o hg => ⟨hin nm o hg, I.wf.wf K (hin nm o hg)⟩) (Nat.le_trans s'.gn h0f)⟩
        rcases K.L.env.2 t v hv with ⟨j, sj, oj, h1, h2, h3, h4, rfl⟩ | ⟨h1, h2⟩
        · refine ⟨okv_wfv (fun k hk => Nat.lt_of_lt_of_le (K.p_lt hk) (K.nxf _)) _ (K.ck j oj sj h3 h2).2.1, I.s1 j sj oj t (hall j (List.getElem?_eq_some_iff.1 h3).1) h2 h3 h4⟩
        · exact ⟨wfv_mono h0f _ (A.get t v h2).1, I.s0 t v (fun j oj _ hj hdj => h1 j oj (by rw [K.L.at.1]; exact (List.getElem?_eq_some_iff.1 hj).1) hj hdj) h2⟩
theorem runAny_ok (hm : C.P.follows .mixedOrders = true) (hC : C.OK F) (hF : C.FOK) (hcall : CallAll B C call) {id : Nat} {E : Env} {h : Hp} (A : AgrX h.next ρ n ds E a) (s : SatX B F C.G h ρ w) (hno : ∀ t, runAny C n call l E ds h ≠ .no t) :
    (Code.region id ⟨l⟩ true).wp C.P ((runAny C n call l E ds h).Q B F C.G ρ h.next n) a w := by
  unfold runAny at hno ⊢
  cases hst : statB l (masks l []) with
  | true => rw [hst] at hno; exact runOpen_ok hm hC hF (hcall F hC) A s hno
  | false => rw [hst] at hno; exact runOpenF_ok hm hC hF hcall A s hno
end
end Go.Xs
