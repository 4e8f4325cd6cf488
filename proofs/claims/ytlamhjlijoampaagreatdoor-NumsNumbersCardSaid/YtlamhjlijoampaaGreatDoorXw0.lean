/- Regions whose order is open, with effects that do not wait for one another: those that do not are run beside an empty heap. Plain theorems, no condition. -/
import Derived.Test.YtlamhjlijoampaaGreatDoorXs14
set_option linter.unusedVariables false
set_option linter.unusedSimpArgs false
namespace Go.Xs
open Go.RowKit

mutual
/-- All names are such. -/
def okv (p : Nat → Bool) : Value → Bool
  | .bool _ | .int _ _ | .float _ _ | .complex _ _ _ | .string _ | .pointer none | .slice none _ _ | .map none | .chan none | .nilFunc | .nilIface => true
  | .pointer (some a) => p a.block
  | .slice (some a) _ _ => p a.block
  | .map (some r) => p r
  | .chan (some _) => false
  | .func (.yield _) _ _ => false
  | .func _ x y => okA p x && okA p y
  | .iface _ v => okv p v
  | .agg x => okA p x
  | .tuple x => okA p x
def okA (p : Nat → Bool) : Array Value → Bool
  | ⟨l⟩ => okL p l
def okL (p : Nat → Bool) : List Value → Bool
  | [] => true
  | v :: l => okv p v && okL p l
end
def oko (p : Nat → Bool) : SObj → Bool
  | .cells l _ | .grow l _ _ | .ro l _ => okL p l
  | .map es _ => es.all fun x => okv p x.key && okv p x.val
  | .strIter _ _ => true
def okT (p : Nat → Bool) : Tr SObj → Bool
  | .lf => true
  | .one _ o => oko p o
  | .nd l r => okT p l && okT p r
/-- All names are at least n. -/
def geT (n : Nat) : Tr SObj → Bool
  | .lf => true
  | .one k _ => Nat.ble n k
  | .nd l r => geT n l && geT n r
theorem okT_get {p : Nat → Bool} : ∀ {t : Tr SObj} {q k : Nat} {o : SObj}, okT p t = true → t.get q k = some o → oko p o = true
  | .lf, _, _, _, _, h => by simp [Tr.get] at h
  | .one k' o', q, k, o, h, hg => by
    simp only [Tr.get] at hg
    cases hb : Nat.beq k' k with
    | false => rw [hb] at hg; cases hg
    | true => rw [hb] at hg; cases hg; exact h
  | .nd l r, q, k, o, h, hg => by
    simp only [okT, Bool.and_eq_true] at h
    simp only [Tr.get] at hg
    cases hb : Nat.beq (q % 2) 0 with
    | false => rw [hb] at hg; exact okT_get h.2 hg
    | true => rw [hb] at hg; exact okT_get h.1 hg
theorem geT_get {n : Nat} : ∀ {t : Tr SObj} {q k : Nat} {o : SObj}, geT n t = true → t.get q k = some o → n ≤ k
  | .lf, _, _, _, _, h => by simp [Tr.get] at h
  | .one k' o', q, k, o, h, hg => by
    simp only [Tr.get] at hg
    cases hb : Nat.beq k' k with
    | false => rw [hb] at hg; cases hg
    | true => rw [Nat.beq_eq] at hb; subst hb; simpa [geT] using h
  | .nd l r, q, k, o, h, hg => by
    simp only [geT, Bool.and_eq_true] at h
    simp only [Tr.get] at hg
    cases hb : Nat.beq (q % 2) 0 with
    | false => rw [hb] at hg; exact geT_get h.2 hg
    | true => rw [hb] at hg; exact geT_get h.1 hg
def Tr.mrg {α : Type} : Tr α → Tr α → Tr α
  | .lf, t => t
  | .nd l r, .nd l' r' => .nd (l.mrg l') (r.mrg r')
  | t, _ => t
theorem Tr.get_mrg {α : Type} : ∀ {a b : Tr α} {p key : Nat} {o : α}, (a.mrg b).get p key = some o → a.get p key = some o ∨ b.get p key = some o
  | .lf, _, _, _, _, h => .inr (by simpa [Tr.mrg] using h)
  | .one _ _, _, _, _, _, h => .inl (by simpa [Tr.mrg] using h)
  | .nd _ _, .lf, _, _, _, h => .inl (by simpa [Tr.mrg] using h)
  | .nd _ _, .one _ _, _, _, _, h => .inl (by simpa [Tr.mrg] using h)
  | .nd l r, .nd l' r', p, key, o, h => by
    simp only [Tr.mrg, Tr.get] at h ⊢
    cases hb : Nat.beq (p % 2) 0 with
    | false => rw [hb] at h; exact Tr.get_mrg h
    | true => rw [hb] at h; exact Tr.get_mrg h
def Hp.mrg (h d : Hp) : Hp := ⟨h.t.mrg d.t, d.next⟩
theorem Hp.get_mrg {h d : Hp} {nm : Nat} {o : SObj} (hg : (h.mrg d).get nm = some o) : h.get nm = some o ∨ d.get nm = some o := Tr.get_mrg hg
abbrev Hp.mt (n : Nat) : Hp := ⟨.lf, n⟩

mutual
theorem ren_okv {p : Nat → Bool} {ρ ρ' : Val} (h : ∀ k, p k = true → ρ'.b k = ρ.b k ∧ ρ'.c k = ρ.c k) : ∀ (v : Value), okv p v = true → ren ρ' v = ren ρ v
  | .bool _ | .int _ _ | .float _ _ | .complex _ _ _ | .string _ | .pointer none | .slice none _ _ | .map none | .chan none | .nilFunc | .nilIface => by simp [ren]
  | .pointer (some a) => by
    simp only [okv, ren]; intro ha; rw [(h _ ha).1]
  | .slice (some ⟨b, off, none⟩) _ _ => by
    simp only [okv, ren, capOf]; intro ha; rw [(h _ ha).1, (h _ ha).2]
  | .slice (some ⟨b, off, some d⟩) _ _ => by
    simp only [okv, ren, capOf]; intro ha; rw [(h _ ha).1, (h _ ha).2]
  | .map (some r) => by
    simp only [okv, ren]; intro ha; rw [(h _ ha).1]
  | .chan (some _) => by simp [okv]
  | .func fn ⟨x⟩ ⟨y⟩ => by
    intro hw
    have : okL p x = true ∧ okL p y = true := by cases fn <;> simp [okv, okA] at hw <;> exact hw
    simp only [ren, renA, renL_okv h x this.1, renL_okv h y this.2]
  | .iface _ v => by simp only [okv, ren]; intro hw; rw [ren_okv h v hw]
  | .agg ⟨x⟩ => by simp only [okv, okA, ren, renA]; intro hw; rw [renL_okv h x hw]
  | .tuple ⟨x⟩ => by simp only [okv, okA, ren, renA]; intro hw; rw [renL_okv h x hw]
theorem renL_okv {p : Nat → Bool} {ρ ρ' : Val} (h : ∀ k, p k = true → ρ'.b k = ρ.b k ∧ ρ'.c k = ρ.c k) : ∀ (l : List Value), okL p l = true → renL ρ' l = renL ρ l
  | [] => by simp [renL]
  | v :: l => by simp only [okL, Bool.and_eq_true, renL]; intro hw; rw [ren_okv h v hw.1, renL_okv h l hw.2]
end
mutual
theorem okv_wfv {p : Nat → Bool} {n : Nat} (h : ∀ k, p k = true → k < n) : ∀ (v : Value), okv p v = true → wfv n v = true
  | .bool _ | .int _ _ | .float _ _ | .complex _ _ _ | .string _ | .pointer none | .slice none _ _ | .map none | .chan none | .nilFunc | .nilIface => by simp [wfv]
  | .pointer (some a) => by simp only [okv, wfv, Nat.blt_eq]; exact h _
  | .slice (some a) _ _ => by simp only [okv, wfv, Nat.blt_eq]; exact h _
  | .map (some r) => by simp only [okv, wfv, Nat.blt_eq]; exact h _
  | .chan (some _) => by simp [okv]
  | .func fn ⟨x⟩ ⟨y⟩ => by
    cases fn <;> simp only [okv, okA, wfv, wfA, Bool.and_eq_true] <;> first | exact fun ⟨a, b⟩ => ⟨okL_wfL h x a, okL_wfL h y b⟩ | simp
  | .iface _ v => by simp only [okv, wfv]; exact okv_wfv h v
  | .agg ⟨x⟩ => by simp only [okv, okA, wfv, wfA]; exact okL_wfL h x
  | .tuple ⟨x⟩ => by simp only [okv, okA, wfv, wfA]; exact okL_wfL h x
theorem okL_wfL {p : Nat → Bool} {n : Nat} (h : ∀ k, p k = true → k < n) : ∀ (l : List Value), okL p l = true → wfL n l = true
  | [] => by simp [wfL]
  | v :: l => by simp only [okL, wfL, Bool.and_eq_true]; exact fun ⟨a, b⟩ => ⟨okv_wfv h v a, okL_wfL h l b⟩
end
theorem is_okv {p : Nat → Bool} {ρ ρ' : Val} (h : ∀ k, p k = true → ρ'.b k = ρ.b k ∧ ρ'.c k = ρ.c k) {nm : Nat} (hn : ρ'.c nm = ρ.c nm) : ∀ {o : SObj} {ob : Obj}, oko p o = true → o.is ρ nm ob → o.is ρ' nm ob
  | .cells l e, ob, hw, hi => by simp only [SObj.is, renL_okv h l hw] at hi ⊢; exact hi
  | .grow l e sz, ob, hw, hi => by simp only [SObj.is, renL_okv h l hw, hn] at hi ⊢; exact hi
  | .ro l e, ob, hw, hi => by simp only [SObj.is, renL_okv h l hw] at hi ⊢; exact hi
  | .map es ck, ob, hw, hi => by
    simp only [SObj.is] at hi ⊢
    rw [hi]
    congr 2
    refine List.map_congr_left fun x hx => ?_
    simp only [oko, List.all_eq_true, Bool.and_eq_true] at hw
    simp only [renE, ren_okv h _ (hw x hx).1, ren_okv h _ (hw x hx).2]
  | .strIter _ _, _, _, hi => hi

/-! ### the reckoning -/
/-- the i-th operation turns the heap and does not wait for all that do so ahead of it -/
def flB (M : List Nat) (l : List Oper) (i : Nat) : Bool := match l[i]? with
  | some o => effB o.op && !((effL 0 0 l).all fun x => bif Nat.blt x.1 i then anc M i x.1 else true)
  | none => false
def canonF (C : Ctx) (n : Nat) (call : Nat → List Value → Hp → FR) (l0 : List Oper) (fl : Nat → Bool) : Nat → List Oper → Env → Hp → Can
  | _, [], E, h => .fin [] E h
  | i, o :: rest, E, h => match step1 C call l0 o (restr E (readsX l0 o)) (bif fl i then .mt h.next else h) with
    | .no t => .no (i :: t)
    | .pan _ _ => .no [i, 108]
    | .go v d => match putX n E o.dst v with
      | none => .no [i, 9]
      | some E' => (canonF C n call l0 fl (i + 1) rest E' (bif fl i then h.mrg d else d)).cons ⟨E, restr E (readsX l0 o), v, h, d⟩
/-- what names each step gave -/
def rngs : Nat → List Step → List (Nat × Nat × Nat)
  | _, [] => []
  | i, s :: ss => bif Nat.beq s.h.next s.h'.next then rngs (i + 1) ss else (i, s.h.next, s.h'.next) :: rngs (i + 1) ss
def inR (M : List Nat) (j nm : Nat) : List (Nat × Nat × Nat) → Bool
  | [] => false
  | (e, lo, hi) :: l => ((Nat.beq e j || anc M j e) && Nat.ble lo nm && Nat.blt nm hi) || inR M j nm l
/-- the names that the j-th step may know -/
def pB (M : List Nat) (rs : List (Nat × Nat × Nat)) (n0 j nm : Nat) : Bool := Nat.blt nm n0 || inR M j nm rs
def hAtF (hf : Hp) (ss : List Step) (i : Nat) : Hp := match ss[i]? with
  | some s => s.h
  | none => hf
/-- with what came up ahead of the i-th step, beside the chain up to b -/
def kT (M : List Nat) (fl : Nat → Bool) (i b : Nat) : Nat → List Step → Tr SObj → Tr SObj
  | _, [], t => t
  | j, s :: ss, t => kT M fl i b (j + 1) ss (bif fl j && Nat.ble b j && anc M i j then t.mrg s.h'.t else t)
def okB (M : List Nat) (i b : Nat) : List Nat → Bool
  | [] => true
  | e :: es => (bif anc M i e then Nat.blt e b else true) && (bif anc M e i then Nat.ble b e else true) && okB M i b es
def chsB (fl : Nat → Bool) (l : List Oper) : List Nat := ((effL 0 0 l).map (·.1)).filter fun e => !fl e
def bsB (fl : Nat → Bool) (l : List Oper) : List Nat := 0 :: (chsB fl l).map (· + 1)
def chkL (C : Ctx) (M : List Nat) (fl : Nat → Bool) (chs : List Nat) (hf : Hp) (ss : List Step) (i : Nat) (er : Env) (v : Value) (o : Oper) : List Nat → Bool
  | [] => true
  | b :: bs => (bif okB M i b chs then match xq C er ⟨kT M fl i b 0 ss (hAtF hf ss b).t, hf.next⟩ o with
      | some v' => eqV v' v
      | none => false
    else true) && chkL C M fl chs hf ss i er v o bs
def chkF (C : Ctx) (M : List Nat) (fl : Nat → Bool) (l0 : List Oper) (n0 : Nat) (rs : List (Nat × Nat × Nat)) (hf : Hp) (ss0 : List Step) : Nat → List Oper → List Step → Bool
  | i, o :: l, s :: ss => Nat.ble s.h.next s.h'.next && okv (pB M rs n0 i) s.v && (bif fl i then geT s.h.next s.h'.t && okT (pB M rs n0 i) s.h'.t else true) &&
      (bif lookB o.op && !effB o.op then match wtX l0 s.er o.guard with
        | some true => chkL C M fl (chsB fl l0) hf ss0 i s.er s.v o (bsB fl l0)
        | _ => true
      else true) && chkF C M fl l0 n0 rs hf ss0 (i + 1) l ss
  | _, _, _ => true
/-- A region whose order is open, no panic in it. -/
def runOpenF (C : Ctx) (n : Nat) (call : Nat → List Value → Hp → FR) (l : List Oper) (E : Env) (ds : List SDef) (h : Hp) : CR :=
  bif dstB l && rdB (masks l []) l 0 l then match canonF C n call l (flB (masks l []) l) 0 l E h with
    | .fin ss E' h' => bif chkF C (masks l []) (flB (masks l []) l) l h.next (rngs 0 ss) h' ss 0 l ss then .ok .normal E' ds h' else .no [105]
    | .pan _ _ _ => .no [106]
    | .no t => .no (107 :: t)
  else .no [104]
/-- A region whose order is open. -/
def runAny (C : Ctx) (n : Nat) (call : Nat → List Value → Hp → FR) (l : List Oper) (E : Env) (ds : List SDef) (h : Hp) : CR :=
  bif statB l (masks l []) then runOpen C n call l E ds h else runOpenF C n call l E ds h
end Go.Xs
