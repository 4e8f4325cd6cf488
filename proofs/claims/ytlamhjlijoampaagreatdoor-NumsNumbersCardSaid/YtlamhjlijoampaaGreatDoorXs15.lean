/- Regions whose order is open: every order comes to what the order of the text comes to. Plain theorems, no condition. -/
import Derived.Test.YtlamhjlijoampaaGreatDoorXs14
set_option linter.unusedVariables false
set_option linter.unusedSimpArgs false
namespace Go.Xs
open Go.RowKit

theorem effL_ok : ∀ {l : List Oper} {i c e k : Nat}, (e, k) ∈ effL i c l → ∃ o, l[e - i]? = some o ∧ effB o.op = true ∧ i ≤ e ∧ k = c + cnt l (e - i)
  | [], i, c, e, k, h => by simp [effL] at h
  | o :: l, i, c, e, k, h => by
    simp only [effL] at h
    cases he : effB o.op with
    | true =>
      rw [he] at h
      simp only [cond_true, List.mem_cons, Prod.mk.injEq] at h
      rcases h with ⟨rfl, rfl⟩ | h
      · exact ⟨o, by simp, he, Nat.le_refl _, by simp [cnt]⟩
      · obtain ⟨o', h1, h2, h3, h4⟩ := effL_ok h
        obtain ⟨d, rfl⟩ : ∃ d, e = i + 1 + d := ⟨e - (i + 1), by omega⟩
        rw [show i + 1 + d - (i + 1) = d by omega] at h1 h4
        refine ⟨o', by rw [show i + 1 + d - i = d + 1 by omega]; simpa using h1, h2, by omega, ?_⟩
        rw [show i + 1 + d - i = d + 1 by omega]
        simp only [cnt, he, cond_true]
        omega
    | false =>
      rw [he] at h
      simp only [cond_false] at h
      obtain ⟨o', h1, h2, h3, h4⟩ := effL_ok h
      obtain ⟨d, rfl⟩ : ∃ d, e = i + 1 + d := ⟨e - (i + 1), by omega⟩
      rw [show i + 1 + d - (i + 1) = d by omega] at h1 h4
      refine ⟨o', by rw [show i + 1 + d - i = d + 1 by omega]; simpa using h1, h2, by omega, ?_⟩
      rw [show i + 1 + d - i = d + 1 by omega]
      simp only [cnt, he, cond_false]
      omega
theorem effL_mem : ∀ {l : List Oper} {i c e : Nat} {o : Oper}, l[e]? = some o → effB o.op = true → ∃ k, (i + e, k) ∈ effL i c l
  | [], i, c, e, o, h, _ => by simp at h
  | o' :: l, i, c, 0, o, h, he => by
    simp only [List.getElem?_cons_zero, Option.some.injEq] at h
    subst h
    exact ⟨c, by simp [effL, he]⟩
  | o' :: l, i, c, e + 1, o, h, he => by
    simp only [effL]
    have h' : l[e]? = some o := by simpa using h
    cases effB o'.op with
    | true =>
      obtain ⟨k, hk⟩ := effL_mem (i := i + 1) (c := c + 1) h' he
      exact ⟨k, List.mem_cons_of_mem _ (by rw [show i + (e + 1) = i + 1 + e by omega]; exact hk)⟩
    | false =>
      obtain ⟨k, hk⟩ := effL_mem (i := i + 1) (c := c) h' he
      exact ⟨k, by rw [show i + (e + 1) = i + 1 + e by omega]; exact hk⟩
theorem okK_of {M : List Nat} {i k : Nat} : ∀ {es : List (Nat × Nat)}, (∀ e c, (e, c) ∈ es → (anc M i e = true → c < k) ∧ (anc M e i = true → k ≤ c)) → okK M i k es = true
  | [], _ => rfl
  | (e, c) :: es, h => by
    have h1 := h e c List.mem_cons_self
    have h2 := okK_of (M := M) (i := i) (k := k) (es := es) fun e' c' h' => h e' c' (List.mem_cons_of_mem _ h')
    simp only [okK, h2, Bool.and_true, Bool.and_eq_true]
    constructor
    · cases ha : anc M i e with
      | true => simpa [Nat.blt_eq] using h1.1 ha
      | false => rfl
    · cases ha : anc M e i with
      | true => simpa [Nat.ble_eq] using h1.2 ha
      | false => rfl
theorem wrB_spec {M : List Nat} {i t : Nat} : ∀ {l : List Oper} {j0 : Nat}, wrB M i t j0 l = true → ∀ j o, l[j]? = some o → o.dst = some t → j0 + j < i ∧ anc M i (j0 + j) = true
  | [], j0, _, j, o, ho, _ => by simp at ho
  | o' :: l, j0, h, j, o, ho, hd => by
    simp only [wrB, Bool.and_eq_true] at h
    cases j with
    | zero =>
      simp only [List.getElem?_cons_zero, Option.some.injEq] at ho
      subst ho
      simpa [hd, Nat.blt_eq] using h.1
    | succ j =>
      have := wrB_spec h.2 j o (by simpa using ho) hd
      rw [show j0 + (j + 1) = j0 + 1 + j by omega]
      exact this
theorem noDst_spec {t : Nat} : ∀ {l : List Oper}, noDst t l = true → ∀ o ∈ l, o.dst ≠ some t
  | [], _, o, ho => by simp at ho
  | o' :: l, h, o, ho => by
    simp only [noDst, Bool.and_eq_true] at h
    rcases List.mem_cons.1 ho with rfl | ho
    · intro e
      simp [e] at h
    · exact noDst_spec h.2 o ho
theorem dstB_spec : ∀ {l : List Oper}, dstB l = true → ∀ (i j : Nat) (o o' : Oper) (t : Nat), l[i]? = some o → l[j]? = some o' → o.dst = some t → o'.dst = some t → i = j
  | [], _, i, j, o, o', t, h, _, _, _ => by simp at h
  | x :: l, h, i, j, o, o', t, hi, hj, ho, ho' => by
    simp only [dstB, Bool.and_eq_true] at h
    have key : ∀ (k : Nat) (y : Oper), l[k]? = some y → x.dst = some t → y.dst ≠ some t := fun k y hy hx => by
      have h1 := h.1
      simp only [hx] at h1
      exact noDst_spec h1 y (List.mem_of_getElem? hy)
    cases i with
    | zero =>
      simp only [List.getElem?_cons_zero, Option.some.injEq] at hi
      subst hi
      cases j with
      | zero => rfl
      | succ j => exact absurd ho' (key j o' (by simpa using hj) ho)
    | succ i =>
      cases j with
      | zero =>
        simp only [List.getElem?_cons_zero, Option.some.injEq] at hj
        subst hj
        exact absurd ho (key i o (by simpa using hi) ho')
      | succ j => exact congrArg (· + 1) (dstB_spec h.2 i j o o' t (by simpa using hi) (by simpa using hj) ho ho')
theorem rdB_spec {M : List Nat} {l0 : List Oper} : ∀ {l : List Oper} {i0 : Nat}, rdB M l0 i0 l = true → ∀ i o, l[i]? = some o →
    (∀ t ∈ readsX l0 o, ∀ j o', l0[j]? = some o' → o'.dst = some t → j < i0 + i ∧ anc M (i0 + i) j = true) ∧ ∀ d ∈ directs o, d < i0 + i
  | [], i0, _, i, o, ho => by simp at ho
  | x :: l, i0, h, i, o, ho => by
    simp only [rdB, Bool.and_eq_true, List.all_eq_true, Nat.blt_eq] at h
    cases i with
    | zero =>
      simp only [List.getElem?_cons_zero, Option.some.injEq] at ho
      subst ho
      refine ⟨fun t ht j o' hj hd => ?_, fun d hd => by simpa using h.1.2 d hd⟩
      simpa using wrB_spec (h.1.1 t ht) j o' hj hd
    | succ i =>
      have := rdB_spec h.2 i o (by simpa using ho)
      rw [show i0 + (i + 1) = i0 + 1 + i by omega]
      exact this
theorem effO_spec {M : List Nat} : ∀ {l : List Oper} {i0 c0 : Nat}, effO M (effL i0 c0 l) = true → ∀ e e' o o', e < e' → l[e]? = some o → l[e']? = some o' → effB o.op = true → effB o'.op = true → anc M (i0 + e') (i0 + e) = true
  | [], i0, c0, _, e, e', o, o', _, h, _, _, _ => by simp at h
  | x :: l, i0, c0, h, e, e', o, o', hlt, he, he', hb, hb' => by
    obtain ⟨d, rfl⟩ : ∃ d, e' = d + 1 := ⟨e' - 1, by omega⟩
    simp only [effL] at h
    cases e with
    | zero =>
      simp only [List.getElem?_cons_zero, Option.some.injEq] at he
      subst he
      rw [hb] at h
      simp only [cond_true, effO, Bool.and_eq_true, List.all_eq_true] at h
      obtain ⟨k, hk⟩ := effL_mem (i := i0 + 1) (c := c0 + 1) (show l[d]? = some o' by simpa using he') hb'
      have := h.1 _ hk
      rw [show i0 + (d + 1) = i0 + 1 + d by omega]
      exact this
    | succ e =>
      have : ∀ c, effO M (effL (i0 + 1) c l) = true → anc M (i0 + (d + 1)) (i0 + (e + 1)) = true := fun c hc => by
        have := effO_spec hc e d o o' (by omega) (by simpa using he) (by simpa using he') hb hb'
        rw [show i0 + (d + 1) = i0 + 1 + d by omega, show i0 + (e + 1) = i0 + 1 + e by omega]
        exact this
      cases hx : effB x.op with
      | true =>
        rw [hx] at h
        simp only [cond_true, effO, Bool.and_eq_true] at h
        exact this _ h.2
      | false =>
        rw [hx] at h
        exact this _ h
theorem ancB_spec {M : List Nat} {m : Nat} : ∀ {k j0 : Nat}, ancB M m j0 k = true → ∀ j, j0 ≤ j → j < j0 + k → m < j → anc M j m = true
  | 0, j0, _, j, h1, h2, _ => by omega
  | k + 1, j0, h, j, h1, h2, hm => by
    simp only [ancB, Bool.and_eq_true] at h
    by_cases e : j = j0
    · subst e
      have h1 := h.1
      rw [show Nat.blt m j = true from by simpa [Nat.blt_eq] using hm] at h1
      exact h1
    · exact ancB_spec h.2 j (by omega) (by omega) hm
theorem chkH_spec {C : Ctx} {M : List Nat} {es : List (Nat × Nat)} {i : Nat} {er : Env} {v : Value} {o : Oper} : ∀ {Hs : List Hp} {k : Nat}, chkH C M es i er v o k Hs = true → ∀ j H, Hs[j]? = some H → okK M i (k + j) es = true → xq C er H o = some v
  | [], k, _, j, H, hj, _ => by simp at hj
  | H0 :: Hs, k, h, j, H, hj, hk => by
    simp only [chkH, Bool.and_eq_true] at h
    cases j with
    | zero =>
      simp only [List.getElem?_cons_zero, Option.some.injEq] at hj
      subst hj
      rw [Nat.add_zero] at hk
      have h1 := h.1
      rw [hk] at h1
      simp only [cond_true] at h1
      split at h1
      · rename_i v' hv
        rw [hv, eqV_ok v' v h1]
      · cases h1
    | succ j => exact chkH_spec h.2 j H (by simpa using hj) (by rw [show k + 1 + j = k + (j + 1) by omega]; exact hk)
theorem chkS_spec {C : Ctx} {M : List Nat} {es : List (Nat × Nat)} {l0 : List Oper} {Hs : List Hp} : ∀ {l : List Oper} {ss : List Step} {i0 : Nat}, chkS C M es l0 Hs i0 l ss = true → ∀ i o s, l[i]? = some o → ss[i]? = some s → lookB o.op = true → effB o.op = false →
    wtX l0 s.er o.guard = some true → chkH C M es (i0 + i) s.er s.v o 0 Hs = true
  | [], ss, i0, _, i, o, s, ho, _, _, _, _ => by simp at ho
  | o' :: l, [], i0, _, i, o, s, _, hs, _, _, _ => by simp at hs
  | o' :: l, s' :: ss, i0, h, i, o, s, ho, hs, hl, he, hw => by
    simp only [chkS, Bool.and_eq_true] at h
    cases i with
    | zero =>
      simp only [List.getElem?_cons_zero, Option.some.injEq] at ho hs
      subst ho
      subst hs
      simpa [hl, he, hw] using h.1
    | succ i =>
      have := chkS_spec h.2 i o s (by simpa using ho) (by simpa using hs) hl he hw
      rw [show i0 + (i + 1) = i0 + 1 + i by omega]
      exact this
theorem cnt_succ : ∀ {l : List Oper} {i : Nat} {o : Oper}, l[i]? = some o → effB o.op = true → cnt l (i + 1) = cnt l i + 1
  | [], i, o, h, _ => by simp at h
  | o' :: l, 0, o, h, he => by
    simp only [List.getElem?_cons_zero, Option.some.injEq] at h
    subst h
    cases l <;> simp [cnt, he]
  | o' :: l, i + 1, o, h, he => by
    have := cnt_succ (l := l) (i := i) (by simpa using h) he
    simp only [cnt] at this ⊢
    omega
theorem countP_lt {p q : Nat → Bool} (h : ∀ x, p x = true → q x = true) {x : Nat} (hq : q x = true) (hp : p x = false) : ∀ {l : List Nat}, x ∈ l → l.countP p < l.countP q
  | [], hx => by simp at hx
  | y :: l, hx => by
    have hm : l.countP p ≤ l.countP q := List.countP_mono_left fun z _ hz => h z hz
    rw [List.countP_cons, List.countP_cons]
    rcases List.mem_cons.1 hx with rfl | hx
    · simp only [hq, hp, if_true, Bool.false_eq_true, if_false]; omega
    · have := countP_lt h hq hp hx
      have hy := h y
      cases hpy : p y <;> cases hqy : q y <;> simp_all <;> omega
theorem xq_still {C : Ctx} {E : Env} {h h' : Hp} {o : Oper} (hl : lookB o.op = false) : xq C E h o = xq C E h' o := by
  have h1 : xval C E h o.op = xval C E h' o.op := by
    cases hop : o.op <;> rw [hop] at hl <;> simp [lookB] at hl <;> unfold xval <;> first
      | rfl
      | (rename_i bop _ _ _ _; cases bop <;> rfl)
      | (rename_i fn x y; cases fn <;> rfl)
  have h2 : (match xpure C E h o with | some (.val v _) => some v | _ => none) = (match xpure C E h' o with | some (.val v _) => some v | _ => none) := by
    unfold xpure
    cases opsOf o.op with
    | none => rfl
    | some l =>
      simp only
      cases l.all (evNo C.G E) with
      | false => rfl
      | true =>
        simp only [cond_true]
        cases semP C.P (execOp (evD C.G E) o) with
        | none => rfl
        | some r => cases r with
          | inl v => simp only
          | inr nx => cases nx <;> first | rfl | (rename_i v; simp only; cases noAddr v <;> rfl)
  have h3 : xval2 C E h o.op = xval2 C E h' o.op := by
    cases hop : o.op <;> rw [hop] at hl <;> simp [lookB] at hl <;> rfl
  have h4 : xval3 C E h o.op = xval3 C E h' o.op := by
    cases hop : o.op <;> rw [hop] at hl <;> simp [lookB] at hl <;> rfl
  unfold xq
  have h5 : xval4 C E h o.op = xval4 C E h' o.op := by
    cases hop : o.op <;> rw [hop] at hl <;> simp [lookB] at hl <;> rfl
  rw [h1, h3, h4, h5]
  split
  · rfl
  · split
    · rfl
    · split
      · rfl
      · split
        · rfl
        · split
          · rfl
          · exact h2
/-- What holds in the midst of such a region. -/
structure Inv (B : World) (F : PH) (C : Ctx) (n : Nat) (l : List Oper) (ds : List SDef) (ss : List Step) (E0 : Env) (h0 : Hp) (ρ0 : Val) (ls : Array Bool) (a : Act) (w : World) (ρ : Val) (k : Nat) (H : Hp) : Prop where
  size : ls.size = l.length
  clos : Clos l ls
  top : ∀ i, ls.getD i false = true → i < ss.length
  eff : ∀ e o, l[e]? = some o → effB o.op = true → e < ss.length → (ls.getD e false = true ↔ cnt l e < k)
  kle : k ≤ cnt l ss.length
  hp : (h0 :: fmX l ss)[k]? = some H
  sat : SatX B F C.G H ρ w
  ext : Ext h0.next ρ0 ρ
  nx : h0.next ≤ H.next
  tsize : a.tmps.size = n
  tdef : a.defers = ds.map (renD ρ)
  twf : ∀ d ∈ ds, wfL H.next d.cap = true ∧ wfL H.next d.args = true
  s1 : ∀ j s o t, ls.getD j false = true → ss[j]? = some s → l[j]? = some o → o.dst = some t → wfv H.next s.v = true ∧ a.tmps[t]? = some (ren ρ s.v)
  s0 : ∀ t v, (∀ j o, ls.getD j false = true → l[j]? = some o → o.dst ≠ some t) → E0.lk t = some v → wfv H.next v = true ∧ a.tmps[t]? = some (ren ρ v)
theorem getD_self {ls : Array Bool} {i : Nat} (h : i < ls.size) : (ls.setIfInBounds i true).getD i false = true := by
  simp [Array.getD_eq_getD_getElem?, h]
section
variable {B : World} {F : PH} {C : Ctx} {n : Nat} {l : List Oper} {ds : List SDef} {ss : List Step} {E0 : Env} {h0 : Hp} {ρ0 : Val} {ls : Array Bool} {a : Act} {w : World} {ρ : Val} {k : Nat} {H : Hp}
theorem Inv.agr (I : Inv B F C n l ds ss E0 h0 ρ0 ls a w ρ k H) {i : Nat} {o : Oper} (ho : l[i]? = some o) (hi : i ≤ ss.length) (hd : ∀ d ∈ directs o, ls.getD d false = true)
    (hrd : ∀ t ∈ readsX l o, ∀ j o', l[j]? = some o' → o'.dst = some t → j < i ∧ anc (masks l []) i j = true) {EE : Env} (hE : ∀ t v, EE.lk t = some v → From l ss E0 i t v) : AgrX H.next ρ n ds (restr EE (readsX l o)) a := by
  refine ⟨I.tsize, I.tdef, I.twf, fun t v hv => ?_⟩
  obtain ⟨ht, hv⟩ := restr_ok hv
  rcases hE t v hv with ⟨j, sj, oj, h1, h2, h3, h4, rfl⟩ | ⟨h1, h2⟩
  · exact I.s1 j sj oj t (anc_ready I.clos ho hd (hrd t ht j oj h3 h4).2) h2 h3 h4
  · exact I.s0 t v (fun j oj _ hj hdj => h1 j oj (hrd t ht j oj hj hdj).1 hj hdj) h2
theorem Inv.atEff {call : Nat → List Value → Hp → FR} {Ef : Env} {hf : Hp} (I : Inv B F C n l ds ss E0 h0 ρ0 ls a w ρ k H) (L : Lnk C n call l l ss E0 h0 Ef hf)
    (hO : ∀ e e' o o', e < e' → l[e]? = some o → l[e']? = some o' → effB o.op = true → effB o'.op = true → anc (masks l []) e' e = true)
    {i : Nat} {o : Oper} (ho : l[i]? = some o) (hi : i ≤ ss.length) (hu : ls.getD i false = false) (hd : ∀ d ∈ directs o, ls.getD d false = true) (he : effB o.op = true) : k = cnt l i ∧ H = hAt h0 ss i := by
  have hk : k = cnt l i := by
    rcases Nat.lt_trichotomy k (cnt l i) with hlt | heq | hgt
    · obtain ⟨e, o', h1, h2, h3, h4⟩ := cnt_ex hlt
      have hl := anc_ready I.clos ho hd (hO e i o' o h1 h2 ho h3 he)
      have := (I.eff e o' h2 h3 (by omega)).1 hl
      omega
    · exact heq
    · rcases Nat.lt_or_ge i ss.length with him | him
      · have := (I.eff i o ho he him).2 hgt
        rw [hu] at this
        cases this
      · have : i = ss.length := by omega
        subst this
        have := I.kle
        omega
  refine ⟨hk, ?_⟩
  have h1 := I.hp
  rw [hk, L.hl i hi] at h1
  exact (Option.some.inj h1).symm
theorem Inv.step (I : Inv B F C n l ds ss E0 h0 ρ0 ls a w ρ k H) (hdst : ∀ (i j : Nat) (o o' : Oper) (t : Nat), l[i]? = some o → l[j]? = some o' → o.dst = some t → o'.dst = some t → i = j)
    {i : Nat} {o : Oper} {s : Step} (ho : l[i]? = some o) (hs : ss[i]? = some s) (hd : ∀ d ∈ directs o, ls.getD d false = true) {ρ' : Val} {k' : Nat} {H' : Hp} {w' : World} {E' E'' : Env} (hp : putX n E'' o.dst s.v = some E')
    (he : Ext H.next ρ ρ') (hn : H.next ≤ H'.next) (hs' : SatX B F C.G H' ρ' w') (hv : wfv H'.next s.v = true) (hk : k' ≤ cnt l ss.length) (hH : (h0 :: fmX l ss)[k']? = some H')
    (heff : ∀ e o, l[e]? = some o → effB o.op = true → e < ss.length → ((ls.setIfInBounds i true).getD e false = true ↔ cnt l e < k')) :
    Inv B F C n l ds ss E0 h0 ρ0 (ls.setIfInBounds i true) (a.put o.dst (ren ρ' s.v)) w' ρ' k' H' := by
  have him : i < ss.length := (List.getElem?_eq_some_iff.1 hs).1
  have hil : i < l.length := (List.getElem?_eq_some_iff.1 ho).1
  have same : ∀ t, o.dst ≠ some t → (a.put o.dst (ren ρ' s.v)).tmps[t]? = a.tmps[t]? := fun t ht => by
    cases hdd : o.dst with
    | none => rfl
    | some u =>
      rw [hdd] at ht
      simp only [Act.put]
      exact Array.getElem?_setIfInBounds_ne fun e => ht (by rw [e])
  refine ⟨by simp [I.size], I.clos.set ho hd, fun j hj => ?_, heff, hk, hH, hs', I.ext.trans he I.nx, Nat.le_trans I.nx hn, ?_, ?_, fun d hd' => ⟨wfL_mono hn _ (I.twf d hd').1, wfL_mono hn _ (I.twf d hd').2⟩, fun j sj oj t hj hsj hoj ht => ?_, fun t v hno hv0 => ?_⟩
  · by_cases e : i = j
    · subst e; exact him
    · rw [getD_set_ne false e] at hj; exact I.top j hj
  · cases hdd : o.dst <;> simp [Act.put, I.tsize]
  · have : (a.put o.dst (ren ρ' s.v)).defers = a.defers := by cases o.dst <;> rfl
    rw [this, I.tdef]
    refine List.map_congr_left fun d hd' => ?_
    simp only [renD, renL_ext he _ (I.twf d hd').1, renL_ext he _ (I.twf d hd').2]
  · by_cases e : i = j
    · subst e
      rw [hs] at hsj
      cases hsj
      rw [ho] at hoj
      cases hoj
      refine ⟨hv, ?_⟩
      rw [ht] at hp ⊢
      simp only [putX] at hp
      cases hb : Nat.blt t n with
      | false => rw [hb] at hp; cases hp
      | true =>
        rw [Nat.blt_eq] at hb
        simp [Act.put, I.tsize, hb]
    · rw [getD_set_ne false e] at hj
      obtain ⟨h1, h2⟩ := I.s1 j sj oj t hj hsj hoj ht
      refine ⟨wfv_mono hn _ h1, ?_⟩
      rw [same t (fun e' => e (hdst i j o oj t ho hoj e' ht)), h2, ren_ext he _ h1]
  · have hne : o.dst ≠ some t := hno i o (getD_self (by rw [I.size]; exact hil)) ho
    obtain ⟨h1, h2⟩ := I.s0 t v (fun j oj hj hoj => hno j oj (getD_set_true hj) hoj) hv0
    exact ⟨wfv_mono hn _ h1, by rw [same t hne, h2, ren_ext he _ h1]⟩
end
end Go.Xs
