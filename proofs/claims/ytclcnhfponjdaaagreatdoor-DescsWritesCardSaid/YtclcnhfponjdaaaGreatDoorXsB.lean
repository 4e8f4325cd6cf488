/- Merged: Xw0, Xs16, Xs15, Xs17, Xs18, Xw1, Xw2, Xw3, Xs19, Xs20, Xs21, Xu1, Xu2, Xi1. -/
import Derived.Test.YtclcnhfponjdaaaGreatDoorXsA
import Derived.LoopN
import Derived.Scope
import Derived.Lib.LaidU8
set_option linter.unusedVariables false
set_option linter.unusedSimpArgs false
section
namespace Go.Xs
open Go.RowKit

mutual
/-- All names are such. -/
def okv (p : Nat → Bool) : Value → Bool
 | .bool _ | .int _ _ | .float _ _ | .complex _ _ _ | .string _ | .pointer none | .slice none _ _ | .map none | .chan none | .nilFunc | .nilIface => true
 | .pointer (some a) => p a.block
 | .slice (some a) _ _ => p a.block
 | .map (some r) => p r
 | .chan (some _) => false
 | .func (.yield _) _ _ => false
 | .func _ x y => okA p x && okA p y
 | .iface _ v => okv p v
 | .agg x => okA p x
 | .tuple x => okA p x
def okA (p : Nat → Bool) : Array Value → Bool
 | ⟨l⟩ => okL p l
def okL (p : Nat → Bool) : List Value → Bool
 | [] => true
 | v :: l => okv p v && okL p l
end
def oko (p : Nat → Bool) : SObj → Bool
 | .cells l _ | .grow l _ _ | .ro l _ => okL p l
 | .map es _ => es.all fun x => okv p x.key && okv p x.val
 | .strIter _ _ => true
def okT (p : Nat → Bool) : Tr SObj → Bool
 | .lf => true
 | .one _ o => oko p o
 | .nd l r => okT p l && okT p r
/-- All names are at least n. -/
def geT (n : Nat) : Tr SObj → Bool
 | .lf => true
 | .one k _ => Nat.ble n k
 | .nd l r => geT n l && geT n r
theorem okT_get {p : Nat → Bool} : ∀ {t : Tr SObj} {q k : Nat} {o : SObj}, okT p t = true → t.get q k = some o → oko p o = true
 | .lf, _, _, _, _, h => by simp [Tr.get] at h
 | .one k' o', q, k, o, h, hg => by
  simp only [Tr.get] at hg
  cases hb : Nat.beq k' k with
  | false => rw [hb] at hg; cases hg
  | true => rw [hb] at hg; cases hg; exact h
 | .nd l r, q, k, o, h, hg => by
  simp only [okT, Bool.and_eq_true] at h
  simp only [Tr.get] at hg
  cases hb : Nat.beq (q % 2) 0 with
  | false => rw [hb] at hg; exact okT_get h.2 hg
  | true => rw [hb] at hg; exact okT_get h.1 hg
theorem geT_get {n : Nat} : ∀ {t : Tr SObj} {q k : Nat} {o : SObj}, geT n t = true → t.get q k = some o → n ≤ k
 | .lf, _, _, _, _, h => by simp [Tr.get] at h
 | .one k' o', q, k, o, h, hg => by
  simp only [Tr.get] at hg
  cases hb : Nat.beq k' k with
  | false => rw [hb] at hg; cases hg
  | true => rw [Nat.beq_eq] at hb; subst hb; simpa [geT] using h
 | .nd l r, q, k, o, h, hg => by
  simp only [geT, Bool.and_eq_true] at h
  simp only [Tr.get] at hg
  cases hb : Nat.beq (q % 2) 0 with
  | false => rw [hb] at hg; exact geT_get h.2 hg
  | true => rw [hb] at hg; exact geT_get h.1 hg
def Tr.mrg {α : Type} : Tr α → Tr α → Tr α
 | .lf, t => t
 | .nd l r, .nd l' r' => .nd (l.mrg l') (r.mrg r')
 | t, _ => t
theorem Tr.get_mrg {α : Type} : ∀ {a b : Tr α} {p key : Nat} {o : α}, (a.mrg b).get p key = some o → a.get p key = some o ∨ b.get p key = some o
 | .lf, _, _, _, _, h => .inr (by simpa [Tr.mrg] using h)
 | .one _ _, _, _, _, _, h => .inl (by simpa [Tr.mrg] using h)
 | .nd _ _, .lf, _, _, _, h => .inl (by simpa [Tr.mrg] using h)
 | .nd _ _, .one _ _, _, _, _, h => .inl (by simpa [Tr.mrg] using h)
 | .nd l r, .nd l' r', p, key, o, h => by
  simp only [Tr.mrg, Tr.get] at h ⊢
  cases hb : Nat.beq (p % 2) 0 with
  | false => rw [hb] at h; exact Tr.get_mrg h
  | true => rw [hb] at h; exact Tr.get_mrg h
def Hp.mrg (h d : Hp) : Hp := ⟨h.t.mrg d.t, d.next⟩
theorem Hp.get_mrg {h d : Hp} {nm : Nat} {o : SObj} (hg : (h.mrg d).get nm = some o) : h.get nm = some o ∨ d.get nm = some o := Tr.get_mrg hg
abbrev Hp.mt (n : Nat) : Hp := ⟨.lf, n⟩

mutual
theorem ren_okv {p : Nat → Bool} {ρ ρ' : Val} (h : ∀ k, p k = true → ρ'.b k = ρ.b k ∧ ρ'.c k = ρ.c k) : ∀ (v : Value), okv p v = true → ren ρ' v = ren ρ v
 | .bool _ | .int _ _ | .float _ _ | .complex _ _ _ | .string _ | .pointer none | .slice none _ _ | .map none | .chan none | .nilFunc | .nilIface => by simp [ren]
 | .pointer (some a) => by
  simp only [okv, ren]; intro ha; rw [(h _ ha).1]
 | .slice (some ⟨b, off, none⟩) _ _ => by
  simp only [okv, ren, capOf]; intro ha; rw [(h _ ha).1, (h _ ha).2]
 | .slice (some ⟨b, off, some d⟩) _ _ => by
  simp only [okv, ren, capOf]; intro ha; rw [(h _ ha).1, (h _ ha).2]
 | .map (some r) => by
  simp only [okv, ren]; intro ha; rw [(h _ ha).1]
 | .chan (some _) => by simp [okv]
 | .func fn ⟨x⟩ ⟨y⟩ => by
  intro hw
  have : okL p x = true ∧ okL p y = true := by cases fn <;> simp [okv, okA] at hw <;> exact hw
  simp only [ren, renA, renL_okv h x this.1, renL_okv h y this.2]
 | .iface _ v => by simp only [okv, ren]; intro hw; rw [ren_okv h v hw]
 | .agg ⟨x⟩ => by simp only [okv, okA, ren, renA]; intro hw; rw [renL_okv h x hw]
 | .tuple ⟨x⟩ => by simp only [okv, okA, ren, renA]; intro hw; rw [renL_okv h x hw]
theorem renL_okv {p : Nat → Bool} {ρ ρ' : Val} (h : ∀ k, p k = true → ρ'.b k = ρ.b k ∧ ρ'.c k = ρ.c k) : ∀ (l : List Value), okL p l = true → renL ρ' l = renL ρ l
 | [] => by simp [renL]
 | v :: l => by simp only [okL, Bool.and_eq_true, renL]; intro hw; rw [ren_okv h v hw.1, renL_okv h l hw.2]
end
mutual
theorem okv_wfv {p : Nat → Bool} {n : Nat} (h : ∀ k, p k = true → k < n) : ∀ (v : Value), okv p v = true → wfv n v = true
 | .bool _ | .int _ _ | .float _ _ | .complex _ _ _ | .string _ | .pointer none | .slice none _ _ | .map none | .chan none | .nilFunc | .nilIface => by simp [wfv]
 | .pointer (some a) => by simp only [okv, wfv, Nat.blt_eq]; exact h _
 | .slice (some a) _ _ => by simp only [okv, wfv, Nat.blt_eq]; exact h _
 | .map (some r) => by simp only [okv, wfv, Nat.blt_eq]; exact h _
 | .chan (some _) => by simp [okv]
 | .func fn ⟨x⟩ ⟨y⟩ => by
  cases fn <;> simp only [okv, okA, wfv, wfA, Bool.and_eq_true] <;> first | exact fun ⟨a, b⟩ => ⟨okL_wfL h x a, okL_wfL h y b⟩ | simp
 | .iface _ v => by simp only [okv, wfv]; exact okv_wfv h v
 | .agg ⟨x⟩ => by simp only [okv, okA, wfv, wfA]; exact okL_wfL h x
 | .tuple ⟨x⟩ => by simp only [okv, okA, wfv, wfA]; exact okL_wfL h x
theorem okL_wfL {p : Nat → Bool} {n : Nat} (h : ∀ k, p k = true → k < n) : ∀ (l : List Value), okL p l = true → wfL n l = true
 | [] => by simp [wfL]
 | v :: l => by simp only [okL, wfL, Bool.and_eq_true]; exact fun ⟨a, b⟩ => ⟨okv_wfv h v a, okL_wfL h l b⟩
end
theorem is_okv {p : Nat → Bool} {ρ ρ' : Val} (h : ∀ k, p k = true → ρ'.b k = ρ.b k ∧ ρ'.c k = ρ.c k) {nm : Nat} (hn : ρ'.c nm = ρ.c nm) : ∀ {o : SObj} {ob : Obj}, oko p o = true → o.is ρ nm ob → o.is ρ' nm ob
 | .cells l e, ob, hw, hi => by simp only [SObj.is, renL_okv h l hw] at hi ⊢; exact hi
 | .grow l e sz, ob, hw, hi => by simp only [SObj.is, renL_okv h l hw, hn] at hi ⊢; exact hi
 | .ro l e, ob, hw, hi => by simp only [SObj.is, renL_okv h l hw] at hi ⊢; exact hi
 | .map es ck, ob, hw, hi => by
  simp only [SObj.is] at hi ⊢
  rw [hi]
  congr 2
  refine List.map_congr_left fun x hx => ?_
  simp only [oko, List.all_eq_true, Bool.and_eq_true] at hw
  simp only [renE, ren_okv h _ (hw x hx).1, ren_okv h _ (hw x hx).2]
 | .strIter _ _, _, _, hi => hi

/-! ### the reckoning -/
/-- the i-th operation turns the heap and does not wait for all that do so ahead of it -/
def flB (M : List Nat) (l : List Oper) (i : Nat) : Bool := match l[i]? with
 | some o => effB o.op && !((effL 0 0 l).all fun x => bif Nat.blt x.1 i then anc M i x.1 else true)
 | none => false
def canonF (C : Ctx) (n : Nat) (call : Nat → List Value → Hp → FR) (l0 : List Oper) (fl : Nat → Bool) : Nat → List Oper → Env → Hp → Can
 | _, [], E, h => .fin [] E h
 | i, o :: rest, E, h => match step1 C call l0 o (restr E (readsX l0 o)) (bif fl i then .mt h.next else h) with
  | .no t => .no (i :: t)
  | .pan _ _ => .no [i, 108]
  | .go v d => match putX n E o.dst v with
   | none => .no [i, 9]
   | some E' => (canonF C n call l0 fl (i + 1) rest E' (bif fl i then h.mrg d else d)).cons ⟨E, restr E (readsX l0 o), v, h, d⟩
/-- what names each step gave -/
def rngs : Nat → List Step → List (Nat × Nat × Nat)
 | _, [] => []
 | i, s :: ss => bif Nat.beq s.h.next s.h'.next then rngs (i + 1) ss else (i, s.h.next, s.h'.next) :: rngs (i + 1) ss
def inR (M : List Nat) (j nm : Nat) : List (Nat × Nat × Nat) → Bool
 | [] => false
 | (e, lo, hi) :: l => ((Nat.beq e j || anc M j e) && Nat.ble lo nm && Nat.blt nm hi) || inR M j nm l
/-- the names that the j-th step may know -/
def pB (M : List Nat) (rs : List (Nat × Nat × Nat)) (n0 j nm : Nat) : Bool := Nat.blt nm n0 || inR M j nm rs
def hAtF (hf : Hp) (ss : List Step) (i : Nat) : Hp := match ss[i]? with
 | some s => s.h
 | none => hf
/-- with what came up ahead of the i-th step, beside the chain up to b -/
def kT (M : List Nat) (fl : Nat → Bool) (i b : Nat) : Nat → List Step → Tr SObj → Tr SObj
 | _, [], t => t
 | j, s :: ss, t => kT M fl i b (j + 1) ss (bif fl j && Nat.ble b j && anc M i j then t.mrg s.h'.t else t)
def okB (M : List Nat) (i b : Nat) : List Nat → Bool
 | [] => true
 | e :: es => (bif anc M i e then Nat.blt e b else true) && (bif anc M e i then Nat.ble b e else true) && okB M i b es
def chsB (fl : Nat → Bool) (l : List Oper) : List Nat := ((effL 0 0 l).map (·.1)).filter fun e => !fl e
def bsB (fl : Nat → Bool) (l : List Oper) : List Nat := 0 :: (chsB fl l).map (· + 1)
def chkL (C : Ctx) (M : List Nat) (fl : Nat → Bool) (chs : List Nat) (hf : Hp) (ss : List Step) (i : Nat) (er : Env) (v : Value) (o : Oper) : List Nat → Bool
 | [] => true
 | b :: bs => (bif okB M i b chs then match xq C er ⟨kT M fl i b 0 ss (hAtF hf ss b).t, hf.next⟩ o with
   | some v' => eqV v' v
   | none => false
  else true) && chkL C M fl chs hf ss i er v o bs
def chkF (C : Ctx) (M : List Nat) (fl : Nat → Bool) (l0 : List Oper) (n0 : Nat) (rs : List (Nat × Nat × Nat)) (hf : Hp) (ss0 : List Step) : Nat → List Oper → List Step → Bool
 | i, o :: l, s :: ss => Nat.ble s.h.next s.h'.next && okv (pB M rs n0 i) s.v && (bif fl i then geT s.h.next s.h'.t && okT (pB M rs n0 i) s.h'.t else true) &&
   (bif lookB o.op && !effB o.op then match wtX l0 s.er o.guard with
    | some true => chkL C M fl (chsB fl l0) hf ss0 i s.er s.v o (bsB fl l0)
    | _ => true
   else true) && chkF C M fl l0 n0 rs hf ss0 (i + 1) l ss
 | _, _, _ => true
/-- A region whose order is open, no panic in it. -/
def runOpenF (C : Ctx) (n : Nat) (call : Nat → List Value → Hp → FR) (l : List Oper) (E : Env) (ds : List SDef) (h : Hp) : CR :=
 bif dstB l && rdB (masks l []) l 0 l then match canonF C n call l (flB (masks l []) l) 0 l E h with
  | .fin ss E' h' => bif chkF C (masks l []) (flB (masks l []) l) l h.next (rngs 0 ss) h' ss 0 l ss then .ok .normal E' ds h' else .no [105]
  | .pan _ _ _ => .no [106]
  | .no t => .no (107 :: t)
 else .no [104]
/-- A region whose order is open. -/
def runAny (C : Ctx) (n : Nat) (call : Nat → List Value → Hp → FR) (l : List Oper) (E : Env) (ds : List SDef) (h : Hp) : CR :=
 bif statB l (masks l []) then runOpen C n call l E ds h else runOpenF C n call l E ds h
end Go.Xs
end
section
namespace Go.Xs
open Go.RowKit

def loopX (f : Env → List SDef → Hp → CR) : Nat → Env → List SDef → Hp → CR
 | 0, _, _, _ => .no [201]
 | k + 1, E, ds, h => match f E ds h with
  | .ok .normal E' ds' h' => loopX f k E' ds' h'
  | r => r
def runC (C : Ctx) (n : Nat) (call : Nat → List Value → Hp → FR) (lf : Nat) : Code → Env → List SDef → Hp → CR
 | .skip, E, ds, h => .ok .normal E ds h
 | .region id ⟨l⟩ false, E, ds, h => match runOps C n call l 0 l E ds h with
  | .no t => .no (300 :: id :: t)
  | r => r
 | .region id ⟨l⟩ true, E, ds, h => match runAny C n call l E ds h with
  | .no t => .no (301 :: id :: t)
  | r => r
 | .seq c c', E, ds, h => match runC C n call lf c E ds h with
  | .ok .normal E' ds' h' => runC C n call lf c' E' ds' h'
  | r => r
 | .cond x c c', E, ds, h => match evX C.G E x with
  | some (.bool true) => runC C n call lf c E ds h
  | some (.bool false) => runC C n call lf c' E ds h
  | _ => .no [302]
 | .block id c, E, ds, h => match runC C n call lf c E ds h with
  | .ok (.exit id') E' ds' h' => bif Nat.beq id' id then .ok .normal E' ds' h' else .ok (.exit id') E' ds' h'
  | r => r
 | .loop c, E, ds, h => loopX (runC C n call lf c) lf E ds h
 | .exit id, E, ds, h => .ok (.exit id) E ds h
 | .ret, E, ds, h => .ok .ret E ds h
 | .label _, E, ds, h => .ok .normal E ds h
 | .scope c, E, ds, h => runC C n call lf c E ds h
 | _, _, _, _ => .no [303]
def argE : List Value → Nat → Env → Env
 | [], _, E => E
 | v :: l, i, E => argE l (i + 1) (E.put i v)
/-- The results. -/
def resL (C : Ctx) (E : Env) (h : Hp) : List ResultVar → Option (List Value)
 | [] => some []
 | .tmp t :: l => match E.lk t with
  | some v => match resL C E h l with
   | some vs => some (v :: vs)
   | none => none
  | none => none
 | .cell a t :: l => match E.lk a with
  | some u => match xload C h t u with
   | some v => match resL C E h l with
    | some vs => some (v :: vs)
    | none => none
   | none => none
  | none => none
def oneV : List Value → Value
 | [v] => v
 | l => .tuple ⟨l⟩
/-- The first operation of a function that is put off is a recover. -/
def recB : Code → Option (Nat × Oper × List Oper × Code)
 | .seq (.region id ⟨o :: l⟩ false) c => match o.op, o.guard with
  | .call ⟨.builtin .recover, ⟨[]⟩, _⟩, none => some (id, o, l, c)
  | _, _ => none
 | _ => none
inductive DR where
 | ret (u : Option Value) (h : Hp)
 | no (why : List Nat)
/-- A function that is put off is run. -/
def runD (C : Ctx) (lf : Nat) (call : Nat → List Value → Hp → FR) (d : SDef) (u : Option Value) (h : Hp) : DR := match C.fns d.f with
 | some fn => match fn.body with
  | some c => bif Nat.ble (d.args ++ d.cap).length fn.ntmps then match recB c with
    | some (_, o, l, c') => match putX fn.ntmps (argE (d.args ++ d.cap) 0 .lf) o.dst (u.getD .nilIface) with
     | some E => match runOps C fn.ntmps call (o :: l) 1 l E [] h with
      | .ok .normal E' [] h' => match runC C fn.ntmps call lf c' E' [] h' with
       | .ok .normal E2 [] h2 => match resL C E2 h2 fn.results.toList with
        | some _ => .ret none h2
        | none => .no [401]
       | .ok .ret E2 [] h2 => match resL C E2 h2 fn.results.toList with
        | some _ => .ret none h2
        | none => .no [402]
       | .no t => .no (403 :: d.f :: t)
       | _ => .no [404]
      | .no t => .no (405 :: d.f :: t)
      | _ => .no [406]
     | none => .no [407]
    | none => match runC C fn.ntmps call lf c (argE (d.args ++ d.cap) 0 .lf) [] h with
     | .ok .normal E2 [] h2 => match resL C E2 h2 fn.results.toList with
      | some _ => .ret u h2
      | none => .no [411]
     | .ok .ret E2 [] h2 => match resL C E2 h2 fn.results.toList with
      | some _ => .ret u h2
      | none => .no [412]
     | .no t => .no (413 :: d.f :: t)
     | _ => .no [414]
   else .no [415]
  | none => .no [416]
 | none => .no [417]
/-- How a function is left. -/
def leaveX (C : Ctx) (lf : Nat) (call : Nat → List Value → Hp → FR) (fn : Func) (E : Env) : List SDef → Option Value → Hp → FR
 | [], none, h => match resL C E h fn.results.toList with
  | some vs => .ret (oneV vs) h
  | none => .no [501]
 | [], some v, h => .pan v h
 | d :: ds, u, h => match runD C lf call d u h with
  | .ret u' h' => leaveX C lf call fn E ds u' h'
  | .no t => .no t
def runFn (C : Ctx) (lf : Nat) (call : Nat → List Value → Hp → FR) (f : Nat) (args : List Value) (h : Hp) : FR := match C.fns f with
 | some fn => match fn.body with
  | some c => bif Nat.ble args.length fn.ntmps then match runC C fn.ntmps call lf c (argE args 0 .lf) [] h with
    | .ok .normal E ds h' => leaveX C lf call fn E ds none h'
    | .ok .ret E ds h' => leaveX C lf call fn E ds none h'
    | .ok (.pan v) E ds h' => leaveX C lf call fn E ds (some v) h'
    | .ok (.exit _) _ _ _ => .no [601]
    | .no t => .no (602 :: f :: t)
   else .no [603]
  | none => .no [604]
 | none => .no [605]
/-- sp: calls whose outcome is told otherwise. -/
def callN (C : Ctx) (lf : Nat) (sp : Nat → List Value → Hp → Option FR) : Nat → Nat → List Value → Hp → FR
 | 0, _, _, _ => .no [606]
 | k + 1, f, args, h => match sp f args h with
  | some r => r
  | none => runFn C lf (callN C lf sp k) f args h
end Go.Xs
end
section
namespace Go.Xs
open Go.RowKit

theorem effL_ok : ∀ {l : List Oper} {i c e k : Nat}, (e, k) ∈ effL i c l → ∃ o, l[e - i]? = some o ∧ effB o.op = true ∧ i ≤ e ∧ k = c + cnt l (e - i)
 | [], i, c, e, k, h => by simp [effL] at h
 | o :: l, i, c, e, k, h => by
  simp only [effL] at h
  cases he : effB o.op with
  | true =>
   rw [he] at h
   simp only [cond_true, List.mem_cons, Prod.mk.injEq] at h
   rcases h with ⟨rfl, rfl⟩ | h
   ·exact ⟨o, by simp, he, Nat.le_refl _, by simp [cnt]⟩
   ·obtain ⟨o', h1, h2, h3, h4⟩ := effL_ok h
    obtain ⟨d, rfl⟩ : ∃ d, e = i + 1 + d := ⟨e - (i + 1), by omega⟩
    rw [show i + 1 + d - (i + 1) = d by omega] at h1 h4
    refine ⟨o', by rw [show i + 1 + d - i = d + 1 by omega]; simpa using h1, h2, by omega, ?_⟩
    rw [show i + 1 + d - i = d + 1 by omega]
    simp only [cnt, he, cond_true]
    omega
  | false =>
   rw [he] at h
   simp only [cond_false] at h
   obtain ⟨o', h1, h2, h3, h4⟩ := effL_ok h
   obtain ⟨d, rfl⟩ : ∃ d, e = i + 1 + d := ⟨e - (i + 1), by omega⟩
   rw [show i + 1 + d - (i + 1) = d by omega] at h1 h4
   refine ⟨o', by rw [show i + 1 + d - i = d + 1 by omega]; simpa using h1, h2, by omega, ?_⟩
   rw [show i + 1 + d - i = d + 1 by omega]
   simp only [cnt, he, cond_false]
   omega
theorem effL_mem : ∀ {l : List Oper} {i c e : Nat} {o : Oper}, l[e]? = some o → effB o.op = true → ∃ k, (i + e, k) ∈ effL i c l
 | [], i, c, e, o, h, _ => by simp at h
 | o' :: l, i, c, 0, o, h, he => by
  simp only [List.getElem?_cons_zero, Option.some.injEq] at h
  subst h
  exact ⟨c, by simp [effL, he]⟩
 | o' :: l, i, c, e + 1, o, h, he => by
  simp only [effL]
  have h' : l[e]? = some o := by simpa using h
  cases effB o'.op with
  | true =>
   obtain ⟨k, hk⟩ := effL_mem (i := i + 1) (c := c + 1) h' he
   exact ⟨k, List.mem_cons_of_mem _ (by rw [show i + (e + 1) = i + 1 + e by omega]; exact hk)⟩
  | false =>
   obtain ⟨k, hk⟩ := effL_mem (i := i + 1) (c := c) h' he
   exact ⟨k, by rw [show i + (e + 1) = i + 1 + e by omega]; exact hk⟩
theorem okK_of {M : List Nat} {i k : Nat} : ∀ {es : List (Nat × Nat)}, (∀ e c, (e, c) ∈ es → (anc M i e = true → c < k) ∧ (anc M e i = true → k ≤ c)) → okK M i k es = true
 | [], _ => rfl
 | (e, c) :: es, h => by
  have h1 := h e c List.mem_cons_self
  have h2 := okK_of (M := M) (i := i) (k := k) (es := es) fun e' c' h' => h e' c' (List.mem_cons_of_mem _ h')
  simp only [okK, h2, Bool.and_true, Bool.and_eq_true]
  constructor
  ·cases ha : anc M i e with
   | true => simpa [Nat.blt_eq] using h1.1 ha
   | false => rfl
  ·cases ha : anc M e i with
   | true => simpa [Nat.ble_eq] using h1.2 ha
   | false => rfl
theorem wrB_spec {M : List Nat} {i t : Nat} : ∀ {l : List Oper} {j0 : Nat}, wrB M i t j0 l = true → ∀ j o, l[j]? = some o → o.dst = some t → j0 + j < i ∧ anc M i (j0 + j) = true
 | [], j0, _, j, o, ho, _ => by simp at ho
 | o' :: l, j0, h, j, o, ho, hd => by
  simp only [wrB, Bool.and_eq_true] at h
  cases j with
  | zero =>
   simp only [List.getElem?_cons_zero, Option.some.injEq] at ho
   subst ho
   simpa [hd, Nat.blt_eq] using h.1
  | succ j =>
   have := wrB_spec h.2 j o (by simpa using ho) hd
   rw [show j0 + (j + 1) = j0 + 1 + j by omega]
   exact this
theorem noDst_spec {t : Nat} : ∀ {l : List Oper}, noDst t l = true → ∀ o ∈ l, o.dst ≠ some t
 | [], _, o, ho => by simp at ho
 | o' :: l, h, o, ho => by
  simp only [noDst, Bool.and_eq_true] at h
  rcases List.mem_cons.1 ho with rfl | ho
  ·intro e
   simp [e] at h
  ·exact noDst_spec h.2 o ho
theorem dstB_spec : ∀ {l : List Oper}, dstB l = true → ∀ (i j : Nat) (o o' : Oper) (t : Nat), l[i]? = some o → l[j]? = some o' → o.dst = some t → o'.dst = some t → i = j
 | [], _, i, j, o, o', t, h, _, _, _ => by simp at h
 | x :: l, h, i, j, o, o', t, hi, hj, ho, ho' => by
  simp only [dstB, Bool.and_eq_true] at h
  have key : ∀ (k : Nat) (y : Oper), l[k]? = some y → x.dst = some t → y.dst ≠ some t := fun k y hy hx => by
   have h1 := h.1
   simp only [hx] at h1
   exact noDst_spec h1 y (List.mem_of_getElem? hy)
  cases i with
  | zero =>
   simp only [List.getElem?_cons_zero, Option.some.injEq] at hi
   subst hi
   cases j with
   | zero => rfl
   | succ j => exact absurd ho' (key j o' (by simpa using hj) ho)
  | succ i =>
   cases j with
   | zero =>
    simp only [List.getElem?_cons_zero, Option.some.injEq] at hj
    subst hj
    exact absurd ho (key i o (by simpa using hi) ho')
   | succ j => exact congrArg (· + 1) (dstB_spec h.2 i j o o' t (by simpa using hi) (by simpa using hj) ho ho')
theorem rdB_spec {M : List Nat} {l0 : List Oper} : ∀ {l : List Oper} {i0 : Nat}, rdB M l0 i0 l = true → ∀ i o, l[i]? = some o →
  (∀ t ∈ readsX l0 o, ∀ j o', l0[j]? = some o' → o'.dst = some t → j < i0 + i ∧ anc M (i0 + i) j = true) ∧ ∀ d ∈ directs o, d < i0 + i
 | [], i0, _, i, o, ho => by simp at ho
 | x :: l, i0, h, i, o, ho => by
  simp only [rdB, Bool.and_eq_true, List.all_eq_true, Nat.blt_eq] at h
  cases i with
  | zero =>
   simp only [List.getElem?_cons_zero, Option.some.injEq] at ho
   subst ho
   refine ⟨fun t ht j o' hj hd => ?_, fun d hd => by simpa using h.1.2 d hd⟩
   simpa using wrB_spec (h.1.1 t ht) j o' hj hd
  | succ i =>
   have := rdB_spec h.2 i o (by simpa using ho)
   rw [show i0 + (i + 1) = i0 + 1 + i by omega]
   exact this
theorem effO_spec {M : List Nat} : ∀ {l : List Oper} {i0 c0 : Nat}, effO M (effL i0 c0 l) = true → ∀ e e' o o', e < e' → l[e]? = some o → l[e']? = some o' → effB o.op = true → effB o'.op = true → anc M (i0 + e') (i0 + e) = true
 | [], i0, c0, _, e, e', o, o', _, h, _, _, _ => by simp at h
 | x :: l, i0, c0, h, e, e', o, o', hlt, he, he', hb, hb' => by
  obtain ⟨d, rfl⟩ : ∃ d, e' = d + 1 := ⟨e' - 1, by omega⟩
  simp only [effL] at h
  cases e with
  | zero =>
   simp only [List.getElem?_cons_zero, Option.some.injEq] at he
   subst he
   rw [hb] at h
   simp only [cond_true, effO, Bool.and_eq_true, List.all_eq_true] at h
   obtain ⟨k, hk⟩ := effL_mem (i := i0 + 1) (c := c0 + 1) (show l[d]? = some o' by simpa using he') hb'
   have := h.1 _ hk
   rw [show i0 + (d + 1) = i0 + 1 + d by omega]
   exact this
  | succ e =>
   have : ∀ c, effO M (effL (i0 + 1) c l) = true → anc M (i0 + (d + 1)) (i0 + (e + 1)) = true := fun c hc => by
    have := effO_spec hc e d o o' (by omega) (by simpa using he) (by simpa using he') hb hb'
    rw [show i0 + (d + 1) = i0 + 1 + d by omega, show i0 + (e + 1) = i0 + 1 + e by omega]
    exact this
   cases hx : effB x.op with
   | true =>
    rw [hx] at h
    simp only [cond_true, effO, Bool.and_eq_true] at h
    exact this _ h.2
   | false =>
    rw [hx] at h
    exact this _ h
theorem ancB_spec {M : List Nat} {m : Nat} : ∀ {k j0 : Nat}, ancB M m j0 k = true → ∀ j, j0 ≤ j → j < j0 + k → m < j → anc M j m = true
 | 0, j0, _, j, h1, h2, _ => by omega
 | k + 1, j0, h, j, h1, h2, hm => by
  simp only [ancB, Bool.and_eq_true] at h
  by_cases e : j = j0
  ·subst e
   have h1 := h.1
   rw [show Nat.blt m j = true from by simpa [Nat.blt_eq] using hm] at h1
   exact h1
  ·exact ancB_spec h.2 j (by omega) (by omega) hm
theorem chkH_spec {C : Ctx} {M : List Nat} {es : List (Nat × Nat)} {i : Nat} {er : Env} {v : Value} {o : Oper} : ∀ {Hs : List Hp} {k : Nat}, chkH C M es i er v o k Hs = true → ∀ j H, Hs[j]? = some H → okK M i (k + j) es = true → xq C er H o = some v
 | [], k, _, j, H, hj, _ => by simp at hj
 | H0 :: Hs, k, h, j, H, hj, hk => by
  simp only [chkH, Bool.and_eq_true] at h
  cases j with
  | zero =>
   simp only [List.getElem?_cons_zero, Option.some.injEq] at hj
   subst hj
   rw [Nat.add_zero] at hk
   have h1 := h.1
   rw [hk] at h1
   simp only [cond_true] at h1
   split at h1
   ·rename_i v' hv
    rw [hv, eqV_ok v' v h1]
   ·cases h1
  | succ j => exact chkH_spec h.2 j H (by simpa using hj) (by rw [show k + 1 + j = k + (j + 1) by omega]; exact hk)
theorem chkS_spec {C : Ctx} {M : List Nat} {es : List (Nat × Nat)} {l0 : List Oper} {Hs : List Hp} : ∀ {l : List Oper} {ss : List Step} {i0 : Nat}, chkS C M es l0 Hs i0 l ss = true → ∀ i o s, l[i]? = some o → ss[i]? = some s → lookB o.op = true → effB o.op = false →
  wtX l0 s.er o.guard = some true → chkH C M es (i0 + i) s.er s.v o 0 Hs = true
 | [], ss, i0, _, i, o, s, ho, _, _, _, _ => by simp at ho
 | o' :: l, [], i0, _, i, o, s, _, hs, _, _, _ => by simp at hs
 | o' :: l, s' :: ss, i0, h, i, o, s, ho, hs, hl, he, hw => by
  simp only [chkS, Bool.and_eq_true] at h
  cases i with
  | zero =>
   simp only [List.getElem?_cons_zero, Option.some.injEq] at ho hs
   subst ho
   subst hs
   simpa [hl, he, hw] using h.1
  | succ i =>
   have := chkS_spec h.2 i o s (by simpa using ho) (by simpa using hs) hl he hw
   rw [show i0 + (i + 1) = i0 + 1 + i by omega]
   exact this
theorem cnt_succ : ∀ {l : List Oper} {i : Nat} {o : Oper}, l[i]? = some o → effB o.op = true → cnt l (i + 1) = cnt l i + 1
 | [], i, o, h, _ => by simp at h
 | o' :: l, 0, o, h, he => by
  simp only [List.getElem?_cons_zero, Option.some.injEq] at h
  subst h
  cases l <;> simp [cnt, he]
 | o' :: l, i + 1, o, h, he => by
  have := cnt_succ (l := l) (i := i) (by simpa using h) he
  simp only [cnt] at this ⊢
  omega
theorem countP_lt {p q : Nat → Bool} (h : ∀ x, p x = true → q x = true) {x : Nat} (hq : q x = true) (hp : p x = false) : ∀ {l : List Nat}, x ∈ l → l.countP p < l.countP q
 | [], hx => by simp at hx
 | y :: l, hx => by
  have hm : l.countP p ≤ l.countP q := List.countP_mono_left fun z _ hz => h z hz
  rw [List.countP_cons, List.countP_cons]
  rcases List.mem_cons.1 hx with rfl | hx
  ·simp only [hq, hp, if_true, Bool.false_eq_true, if_false]; omega
  ·have := countP_lt h hq hp hx
   have hy := h y
   cases hpy : p y <;> cases hqy : q y <;> simp_all <;> omega
theorem xq_still {C : Ctx} {E : Env} {h h' : Hp} {o : Oper} (hl : lookB o.op = false) : xq C E h o = xq C E h' o := by
 have h1 : xval C E h o.op = xval C E h' o.op := by
  cases hop : o.op <;> rw [hop] at hl <;> simp [lookB] at hl <;> unfold xval <;> first
   | rfl
   | (rename_i bop _ _ _ _; cases bop <;> rfl)
   | (rename_i fn x y; cases fn <;> rfl)
 have h2 : (match xpure C E h o with | some (.val v _) => some v | _ => none) = (match xpure C E h' o with | some (.val v _) => some v | _ => none) := by
  unfold xpure
  cases opsOf o.op with
  | none => rfl
  | some l =>
   simp only
   cases l.all (evNo C.G E) with
   | false => rfl
   | true =>
    simp only [cond_true]
    cases semP C.P (execOp (evD C.G E) o) with
    | none => rfl
    | some r => cases r with
     | inl v => simp only
     | inr nx => cases nx <;> first | rfl | (rename_i v; simp only; cases noAddr v <;> rfl)
 have h3 : xval2 C E h o.op = xval2 C E h' o.op := by
  cases hop : o.op <;> rw [hop] at hl <;> simp [lookB] at hl <;> rfl
 have h4 : xval3 C E h o.op = xval3 C E h' o.op := by
  cases hop : o.op <;> rw [hop] at hl <;> simp [lookB] at hl <;> rfl
 unfold xq
 have h5 : xval4 C E h o.op = xval4 C E h' o.op := by
  cases hop : o.op <;> rw [hop] at hl <;> simp [lookB] at hl <;> rfl
 rw [h1, h3, h4, h5]
 split
 ·rfl
 ·split
  ·rfl
  ·split
   ·rfl
   ·split
    ·rfl
    ·split
     ·rfl
     ·exact h2
/-- What holds in the midst of such a region. -/
structure Inv (B : World) (F : PH) (C : Ctx) (n : Nat) (l : List Oper) (ds : List SDef) (ss : List Step) (E0 : Env) (h0 : Hp) (ρ0 : Val) (ls : Array Bool) (a : Act) (w : World) (ρ : Val) (k : Nat) (H : Hp) : Prop where
 size : ls.size = l.length
 clos : Clos l ls
 top : ∀ i, ls.getD i false = true → i < ss.length
 eff : ∀ e o, l[e]? = some o → effB o.op = true → e < ss.length → (ls.getD e false = true ↔ cnt l e < k)
 kle : k ≤ cnt l ss.length
 hp : (h0 :: fmX l ss)[k]? = some H
 sat : SatX B F C.G H ρ w
 ext : Ext h0.next ρ0 ρ
 nx : h0.next ≤ H.next
 tsize : a.tmps.size = n
 tdef : a.defers = ds.map (renD ρ)
 twf : ∀ d ∈ ds, wfL H.next d.cap = true ∧ wfL H.next d.args = true
 s1 : ∀ j s o t, ls.getD j false = true → ss[j]? = some s → l[j]? = some o → o.dst = some t → wfv H.next s.v = true ∧ a.tmps[t]? = some (ren ρ s.v)
 s0 : ∀ t v, (∀ j o, ls.getD j false = true → l[j]? = some o → o.dst ≠ some t) → E0.lk t = some v → wfv H.next v = true ∧ a.tmps[t]? = some (ren ρ v)
theorem getD_self {ls : Array Bool} {i : Nat} (h : i < ls.size) : (ls.setIfInBounds i true).getD i false = true := by
 simp [Array.getD_eq_getD_getElem?, h]
section
variable {B : World} {F : PH} {C : Ctx} {n : Nat} {l : List Oper} {ds : List SDef} {ss : List Step} {E0 : Env} {h0 : Hp} {ρ0 : Val} {ls : Array Bool} {a : Act} {w : World} {ρ : Val} {k : Nat} {H : Hp}
theorem Inv.agr (I : Inv B F C n l ds ss E0 h0 ρ0 ls a w ρ k H) {i : Nat} {o : Oper} (ho : l[i]? = some o) (hi : i ≤ ss.length) (hd : ∀ d ∈ directs o, ls.getD d false = true)
  (hrd : ∀ t ∈ readsX l o, ∀ j o', l[j]? = some o' → o'.dst = some t → j < i ∧ anc (masks l []) i j = true) {EE : Env} (hE : ∀ t v, EE.lk t = some v → From l ss E0 i t v) : AgrX H.next ρ n ds (restr EE (readsX l o)) a := by
 refine ⟨I.tsize, I.tdef, I.twf, fun t v hv => ?_⟩
 obtain ⟨ht, hv⟩ := restr_ok hv
 rcases hE t v hv with ⟨j, sj, oj, h1, h2, h3, h4, rfl⟩ | ⟨h1, h2⟩
 ·exact I.s1 j sj oj t (anc_ready I.clos ho hd (hrd t ht j oj h3 h4).2) h2 h3 h4
 ·exact I.s0 t v (fun j oj _ hj hdj => h1 j oj (hrd t ht j oj hj hdj).1 hj hdj) h2
theorem Inv.atEff {call : Nat → List Value → Hp → FR} {Ef : Env} {hf : Hp} (I : Inv B F C n l ds ss E0 h0 ρ0 ls a w ρ k H) (L : Lnk C n call l l ss E0 h0 Ef hf)
  (hO : ∀ e e' o o', e < e' → l[e]? = some o → l[e']? = some o' → effB o.op = true → effB o'.op = true → anc (masks l []) e' e = true)
  {i : Nat} {o : Oper} (ho : l[i]? = some o) (hi : i ≤ ss.length) (hu : ls.getD i false = false) (hd : ∀ d ∈ directs o, ls.getD d false = true) (he : effB o.op = true) : k = cnt l i ∧ H = hAt h0 ss i := by
 have hk : k = cnt l i := by
  rcases Nat.lt_trichotomy k (cnt l i) with hlt | heq | hgt
  ·obtain ⟨e, o', h1, h2, h3, h4⟩ := cnt_ex hlt
   have hl := anc_ready I.clos ho hd (hO e i o' o h1 h2 ho h3 he)
   have := (I.eff e o' h2 h3 (by omega)).1 hl
   omega
  ·exact heq
  ·rcases Nat.lt_or_ge i ss.length with him | him
   ·have := (I.eff i o ho he him).2 hgt
    rw [hu] at this
    cases this
   ·have : i = ss.length := by omega
    subst this
    have := I.kle
    omega
 refine ⟨hk, ?_⟩
 have h1 := I.hp
 rw [hk, L.hl i hi] at h1
 exact (Option.some.inj h1).symm
theorem Inv.step (I : Inv B F C n l ds ss E0 h0 ρ0 ls a w ρ k H) (hdst : ∀ (i j : Nat) (o o' : Oper) (t : Nat), l[i]? = some o → l[j]? = some o' → o.dst = some t → o'.dst = some t → i = j)
  {i : Nat} {o : Oper} {s : Step} (ho : l[i]? = some o) (hs : ss[i]? = some s) (hd : ∀ d ∈ directs o, ls.getD d false = true) {ρ' : Val} {k' : Nat} {H' : Hp} {w' : World} {E' E'' : Env} (hp : putX n E'' o.dst s.v = some E')
  (he : Ext H.next ρ ρ') (hn : H.next ≤ H'.next) (hs' : SatX B F C.G H' ρ' w') (hv : wfv H'.next s.v = true) (hk : k' ≤ cnt l ss.length) (hH : (h0 :: fmX l ss)[k']? = some H')
  (heff : ∀ e o, l[e]? = some o → effB o.op = true → e < ss.length → ((ls.setIfInBounds i true).getD e false = true ↔ cnt l e < k')) :
  Inv B F C n l ds ss E0 h0 ρ0 (ls.setIfInBounds i true) (a.put o.dst (ren ρ' s.v)) w' ρ' k' H' := by
 have him : i < ss.length := (List.getElem?_eq_some_iff.1 hs).1
 have hil : i < l.length := (List.getElem?_eq_some_iff.1 ho).1
 have same : ∀ t, o.dst ≠ some t → (a.put o.dst (ren ρ' s.v)).tmps[t]? = a.tmps[t]? := fun t ht => by
  cases hdd : o.dst with
  | none => rfl
  | some u =>
   rw [hdd] at ht
   simp only [Act.put]
   exact Array.getElem?_setIfInBounds_ne fun e => ht (by rw [e])
 refine ⟨by simp [I.size], I.clos.set ho hd, fun j hj => ?_, heff, hk, hH, hs', I.ext.trans he I.nx, Nat.le_trans I.nx hn, ?_, ?_, fun d hd' => ⟨wfL_mono hn _ (I.twf d hd').1, wfL_mono hn _ (I.twf d hd').2⟩, fun j sj oj t hj hsj hoj ht => ?_, fun t v hno hv0 => ?_⟩
 ·by_cases e : i = j
  ·subst e; exact him
  ·rw [getD_set_ne false e] at hj; exact I.top j hj
 ·cases hdd : o.dst <;> simp [Act.put, I.tsize]
 ·have : (a.put o.dst (ren ρ' s.v)).defers = a.defers := by cases o.dst <;> rfl
  rw [this, I.tdef]
  refine List.map_congr_left fun d hd' => ?_
  simp only [renD, renL_ext he _ (I.twf d hd').1, renL_ext he _ (I.twf d hd').2]
 ·by_cases e : i = j
  ·subst e
   rw [hs] at hsj
   cases hsj
   rw [ho] at hoj
   cases hoj
   refine ⟨hv, ?_⟩
   rw [ht] at hp ⊢
   simp only [putX] at hp
   cases hb : Nat.blt t n with
   | false => rw [hb] at hp; cases hp
   | true =>
    rw [Nat.blt_eq] at hb
    simp [Act.put, I.tsize, hb]
  ·rw [getD_set_ne false e] at hj
   obtain ⟨h1, h2⟩ := I.s1 j sj oj t hj hsj hoj ht
   refine ⟨wfv_mono hn _ h1, ?_⟩
   rw [same t (fun e' => e (hdst i j o oj t ho hoj e' ht)), h2, ren_ext he _ h1]
 ·have hne : o.dst ≠ some t := hno i o (getD_self (by rw [I.size]; exact hil)) ho
  obtain ⟨h1, h2⟩ := I.s0 t v (fun j oj hj hoj => hno j oj (getD_set_true hj) hoj) hv0
  exact ⟨wfv_mono hn _ h1, by rw [same t hne, h2, ren_ext he _ h1]⟩
end
end Go.Xs
end
section
namespace Go.Xs
open Go.RowKit
section
variable {B : World} {F : PH} {C : Ctx} {n : Nat} {l : List Oper} {ds : List SDef} {ss : List Step} {E0 Ef : Env} {h0 hf' : Hp} {ρ0 : Val} {call : Nat → List Value → Hp → FR}
theorem all_listed {ls : Array Bool} (hsz : ls.size = l.length) (hd : ∀ i o, l[i]? = some o → ∀ d ∈ directs o, d < i) (hr : Region.ready .any l.toArray ls = []) : ∀ i, i < l.length → ls.getD i false = true := by
 intro i
 induction i using Nat.strongRecOn with
 | _ i ih =>
  intro hi
  cases hl : ls.getD i false with
  | true => rfl
  | false =>
   exfalso
   obtain ⟨o, ho⟩ : ∃ o, l[i]? = some o := ⟨l[i], List.getElem?_eq_getElem hi⟩
   have hls : i < ls.size := by omega
   have : i ∈ Region.ready .any l.toArray ls := by
    refine mem_ready.2 ⟨?_, o, by simpa using ho, fun e he hb => ?_⟩
    ·rw [Array.getD_eq_getD_getElem?, Array.getElem?_eq_getElem hls] at hl ⊢
     simpa using hl
    ·have hm : e.on ∈ directs o := by
      unfold directs
      exact List.mem_map.2 ⟨e, List.mem_filter.2 ⟨by simpa using he, hb⟩, rfl⟩
     have hlt := hd i o ho _ hm
     exact ih _ hlt (by omega)
   rw [hr] at this
   cases this
theorem open_any (hC : C.OK F) (hf : C.FOK) (hcall : CallOK B F C call) (hst : statB l (masks l []) = true) (L : Lnk C n call l l ss E0 h0 Ef hf')
  (hck : chkS C (masks l []) (effL 0 0 l) l (h0 :: fmX l ss) 0 l ss = true) (hanc : ∀ j, ss.length < j → j < l.length → anc (masks l []) j ss.length = true) (hsl : ss.length ≤ l.length) {Q : Exit → Act → World → Prop}
  (hQn : ss.length = l.length → ∀ ls a w ρ k H, Inv B F C n l ds ss E0 h0 ρ0 ls a w ρ k H → (∀ i, i < l.length → ls.getD i false = true) → Q .normal a w)
  (hQp : ∀ o, l[ss.length]? = some o → ∀ ls a w ρ k H, Inv B F C n l ds ss E0 h0 ρ0 ls a w ρ k H → ls.getD ss.length false = false → (∀ d ∈ directs o, ls.getD d false = true) → Region.wanted o (yielded l.toArray a.tmps) = true ∧ ∀ K, o.wp C.P a w K Q) :
  ∀ (fuel : Nat) (ls : Array Bool) (a : Act) (w : World) (ρ : Val) (k : Nat) (H : Hp), Inv B F C n l ds ss E0 h0 ρ0 ls a w ρ k H → (List.range l.length).countP (fun i => !ls.getD i false) ≤ fuel → wpAny C.P .any l.toArray Q fuel ls a w := by
 simp only [statB, Bool.and_eq_true] at hst
 obtain ⟨⟨hdst, hrd⟩, heo⟩ := hst
 have hdst := dstB_spec hdst
 have hrd : ∀ i o, l[i]? = some o → (∀ t ∈ readsX l o, ∀ j o', l[j]? = some o' → o'.dst = some t → j < i ∧ anc (masks l []) i j = true) ∧ ∀ d ∈ directs o, d < i := fun i o ho => by
  simpa only [Nat.zero_add] using rdB_spec hrd i o ho
 have heo : ∀ e e' o o', e < e' → l[e]? = some o → l[e']? = some o' → effB o.op = true → effB o'.op = true → anc (masks l []) e' e = true := fun e e' o o' h1 h2 h3 h4 h5 => by
  simpa only [Nat.zero_add] using effO_spec heo e e' o o' h1 h2 h3 h4 h5
 have hall : ∀ ls : Array Bool, (List.range l.length).countP (fun i => !ls.getD i false) ≤ 0 → ∀ i, i < l.length → ls.getD i false = true := fun ls h i hi => by
  have := List.countP_eq_zero.1 (Nat.le_zero.1 h) i (List.mem_range.2 hi)
  simpa using this
 have hend : ∀ ls a w ρ k H, Inv B F C n l ds ss E0 h0 ρ0 ls a w ρ k H → (∀ i, i < l.length → ls.getD i false = true) → Q .normal a w := fun ls a w ρ k H I h => by
  refine hQn (Nat.le_antisymm hsl ?_) ls a w ρ k H I h
  rcases Nat.lt_or_ge ss.length l.length with hlt | hge
  ·exact absurd (I.top _ (h _ hlt)) (Nat.lt_irrefl _)
  ·exact hge
 intro fuel
 induction fuel with
 | zero =>
  intro ls a w ρ k H I hc
  have hl := hall ls hc
  refine ⟨?_, hend ls a w ρ k H I hl⟩
  refine List.eq_nil_iff_forall_not_mem.2 fun i hi => ?_
  obtain ⟨o, ho, hu, _⟩ := ready_spec hi
  have hil := (List.getElem?_eq_some_iff.1 ho).1
  have h1 := hl i hil
  have hls : i < ls.size := by rw [I.size]; exact hil
  rw [Array.getD_eq_getD_getElem?, Array.getElem?_eq_getElem hls] at hu h1
  simp only [Option.getD_some] at hu h1
  rw [hu] at h1
  cases h1
 | succ fuel ih =>
  intro ls a w ρ k H I hc
  refine ⟨fun hr => hend ls a w ρ k H I (all_listed I.size (fun i o ho => (hrd i o ho).2) hr), fun i hi => ?_⟩
  obtain ⟨o, ho, hu, hd⟩ := ready_spec hi
  have hil := (List.getElem?_eq_some_iff.1 ho).1
  have hls : i < ls.size := by rw [I.size]; exact hil
  have hu' : ls.getD i false = false := by
   rw [Array.getD_eq_getD_getElem?, Array.getElem?_eq_getElem hls] at hu ⊢
   simpa using hu
  have hdec : (List.range l.length).countP (fun j => !(ls.setIfInBounds i true).getD j false) ≤ fuel := by
   have := countP_lt (p := fun j => !(ls.setIfInBounds i true).getD j false) (q := fun j => !ls.getD j false) (x := i) (fun j hj => by
    by_cases e : i = j
    ·subst e
     rw [getD_self hls] at hj
     cases hj
    ·rw [getD_set_ne false e] at hj
     exact hj) (by rw [hu']; rfl) (by rw [getD_self hls]; rfl) (List.mem_range.2 hil)
   omega
  have hoA : l.toArray[i]? = some o := by simpa using ho
  unfold wpOp
  rw [hoA]
  simp only
  rcases Nat.lt_trichotomy i ss.length with him | him | him
  ·obtain ⟨s, hs⟩ : ∃ s, ss[i]? = some s := ⟨ss[i], List.getElem?_eq_getElem him⟩
   obtain ⟨o', ho', h1, ⟨E', hput⟩, her, hsh, hsh'⟩ := L.at i s hs
   rw [ho] at ho'
   cases ho'
   have A : AgrX H.next ρ n ds s.er a := by
    rw [her]
    exact I.agr ho (by omega) hd (hrd i o ho).1 (L.env.1 i s hs)
   have hEff := fun he => I.atEff L heo ho (by omega) hu' hd he
   -- what is listed with an operation that turns the heap
   have nEff : effB o.op = true → ∀ e oe, l[e]? = some oe → effB oe.op = true → e < ss.length → ((ls.setIfInBounds i true).getD e false = true ↔ cnt l e < k + 1) := fun he e oe hoe hee hem => by
    obtain ⟨hk, _⟩ := hEff he
    rcases Nat.lt_trichotomy e i with hlt | heq | hgt
    ·have := cnt_lt hlt hoe hee
     exact ⟨fun _ => by omega, fun _ => getD_set_true (anc_ready I.clos ho hd (heo e i oe o hlt hoe ho hee he))⟩
    ·subst heq
     exact ⟨fun _ => by omega, fun _ => getD_self hls⟩
    ·have := cnt_lt hgt ho he
     refine ⟨fun hl => ?_, fun hl => by omega⟩
     rw [getD_set_ne false (by omega)] at hl
     have := anc_listed I.clos e i hl (heo i e o oe hgt ho hoe he hee)
     rw [hu'] at this
     cases this
   have kEff : effB o.op = true → k + 1 ≤ cnt l ss.length ∧ (h0 :: fmX l ss)[k + 1]? = some s.h' := fun he => by
    obtain ⟨hk, _⟩ := hEff he
    have h2 := cnt_succ ho he
    have h3 := cnt_mono (l := l) (i := i + 1) (j := ss.length) (by omega)
    refine ⟨by omega, ?_⟩
    rw [hsh', hk, ← h2]
    exact L.hl (i + 1) (by omega)
   have nQui : effB o.op = false → ∀ e oe, l[e]? = some oe → effB oe.op = true → e < ss.length → ((ls.setIfInBounds i true).getD e false = true ↔ cnt l e < k) := fun he e oe hoe hee hem => by
    have hne : i ≠ e := fun e' => by subst e'; rw [ho] at hoe; cases hoe; rw [he] at hee; cases hee
    rw [getD_set_ne false hne]
    exact I.eff e oe hoe hee hem
   unfold step1 at h1
   cases hw : wtX l s.er o.guard with
   | none => rw [hw] at h1; cases h1
   | some b =>
    rw [wtX_wanted A hw]
    rw [hw] at h1
    cases b with
    | false =>
     simp only [StepR.go.injEq] at h1
     obtain ⟨hv, hh⟩ := h1
     simp only [Bool.false_eq_true, if_false]
     cases he : effB o.op with
     | true =>
      obtain ⟨hk, hH⟩ := hEff he
      have hHs : H = s.h' := by rw [hH, ← hsh, hh]
      have := I.step hdst ho hs hd (ρ' := ρ) (H' := H) (w' := w) hput (Ext.refl _ _) (Nat.le_refl _) I.sat (by rw [← hv]; exact wf_undef _) (kEff he).1 (by rw [hHs]; exact (kEff he).2) (nEff he)
      rw [← hv, ren_undef] at this
      exact ih _ _ _ _ _ _ this hdec
     | false =>
      have := I.step hdst ho hs hd (ρ' := ρ) (H' := H) (w' := w) hput (Ext.refl _ _) (Nat.le_refl _) I.sat (by rw [← hv]; exact wf_undef _) I.kle I.hp (nQui he)
      rw [← hv, ren_undef] at this
      exact ih _ _ _ _ _ _ this hdec
    | true =>
     simp only [if_true]
     simp only at h1
     refine .inl ?_
     unfold Oper.wp
     cases he : effB o.op with
     | true =>
      obtain ⟨hk, hH⟩ := hEff he
      rw [← hsh] at hH
      subst hH
      rw [he] at h1
      simp only [cond_true] at h1
      cases hx : xop C s.er s.h o with
      | none => rw [hx] at h1; cases h1
      | some r =>
       have hr := xop_ok I.sat hC hf A hx
       rw [hx] at h1
       cases r with
       | val v h' =>
        simp only [StepR.go.injEq] at h1
        obtain ⟨rfl, rfl⟩ := h1
        obtain ⟨ρ', w', q1, q2, q3, q4, q5⟩ := hr
        rw [q1]
        exact ih _ _ _ _ _ _ (I.step hdst ho hs hd hput q2 q3 q5 q4 (kEff he).1 (kEff he).2 (nEff he)) hdec
       | unit h' =>
        simp only [StepR.go.injEq] at h1
        obtain ⟨hv, rfl⟩ := h1
        obtain ⟨w', q1, q2, q3⟩ := hr
        rw [q1]
        have := I.step hdst ho hs hd hput (Ext.refl _ _) (Nat.le_of_eq q2.symm) q3 (by rw [← hv]; exact wf_undef _) (kEff he).1 (kEff he).2 (nEff he)
        rw [← hv, ren_undef] at this
        exact ih _ _ _ _ _ _ this hdec
       | pan v => cases h1
       | dfr d => cases h1
       | call f args =>
        obtain ⟨q1, q2⟩ := hr
        rw [q1]
        have hc' : ∀ t, call f args s.h ≠ .no t := fun t e => by simp only [e] at h1; cases h1
        refine (hcall f args s.h ρ w hc' q2 I.sat).mono fun e w' hq => ?_
        simp only at h1
        cases hcr : call f args s.h with
        | no t => exact absurd hcr (hc' t)
        | ret v h' =>
         rw [hcr] at hq h1
         simp only [StepR.go.injEq] at h1
         obtain ⟨rfl, rfl⟩ := h1
         obtain ⟨ρ', rfl, q2, q3, q4, q5⟩ := hq
         exact ih _ _ _ _ _ _ (I.step hdst ho hs hd hput q2 q3 q5 q4 (kEff he).1 (kEff he).2 (nEff he)) hdec
        | pan v h' => rw [hcr] at h1; cases h1
     | false =>
      rw [he] at h1
      simp only [cond_false] at h1
      have hx : xq C s.er H o = some s.v := by
       have hx0 : xq C s.er s.h o = some s.v := by
        split at h1
        ·rename_i v hv
         simp only [StepR.go.injEq] at h1
         rw [← h1.1]
         exact hv
        ·cases h1
       cases hlk : lookB o.op with
       | false => rw [xq_still hlk (h' := s.h)]; exact hx0
       | true =>
        have hch := chkS_spec hck i o s ho hs hlk he hw
        rw [Nat.zero_add] at hch
        refine chkH_spec hch k H I.hp ?_
        rw [Nat.zero_add]
        refine okK_of fun e c hec => ?_
        obtain ⟨oe, q1, q2, _, q4⟩ := effL_ok hec
        simp only [Nat.sub_zero, Nat.zero_add] at q1 q4
        subst q4
        refine ⟨fun ha => ?_, fun ha => ?_⟩
        ·have hl := anc_ready I.clos ho hd ha
         exact (I.eff e oe q1 q2 (I.top e hl)).1 hl
        ·rcases Nat.lt_or_ge e ss.length with hem | hem
         ·rcases Nat.lt_or_ge (cnt l e) k with hlt | hge
          ·have := anc_listed I.clos e i ((I.eff e oe q1 q2 hem).2 hlt) ha
           rw [hu'] at this
           cases this
          ·exact hge
         ·have := cnt_mono (l := l) hem
          have := I.kle
          omega
      obtain ⟨q1, q2⟩ := xq_ok I.sat hC A hx
      rw [q2]
      exact ih _ _ _ _ _ _ (I.step hdst ho hs hd hput (Ext.refl _ _) (Nat.le_refl _) I.sat q1 I.kle I.hp (nQui he)) hdec
  ·subst him
   obtain ⟨h1, h2⟩ := hQp o ho ls a w ρ k H I hu' hd
   rw [if_pos h1]
   exact .inl (h2 _)
  ·exact absurd (I.top _ (anc_ready I.clos ho hd (hanc i him hil))) (Nat.lt_irrefl _)
end
end Go.Xs
end
section
namespace Go.Xs
open Go.RowKit

theorem delD_ok : ∀ {l : List Oper} {E : Env} {t : Nat} {v : Value}, (delD l E).lk t = some v → (∀ o ∈ l, o.dst ≠ some t) ∧ E.lk t = some v
 | [], E, t, v, h => ⟨fun o ho => by simp at ho, h⟩
 | o :: l, E, t, v, h => by
  simp only [delD] at h
  cases hd : o.dst with
  | none =>
   rw [hd] at h
   have := delD_ok h
   refine ⟨fun o' ho' => ?_, this.2⟩
   rcases List.mem_cons.1 ho' with rfl | ho'
   ·rw [hd]; simp
   ·exact this.1 o' ho'
  | some u =>
   rw [hd] at h
   obtain ⟨h1, h2⟩ := delD_ok h
   have hne : u ≠ t := fun e => by
    subst e
    rw [Env.lk, Tr.get_del_self] at h2
    cases h2
   refine ⟨fun o' ho' => ?_, Tr.get_del _ _ _ _ _ h2⟩
   rcases List.mem_cons.1 ho' with rfl | ho'
   ·rw [hd]; simpa using hne
   ·exact h1 o' ho'
section
variable {B : World} {F : PH} {C : Ctx} {n : Nat} {call : Nat → List Value → Hp → FR} {l : List Oper} {ds : List SDef} {E : Env} {h : Hp} {ρ : Val} {a : Act} {w : World}
theorem replFalse (m i : Nat) : (Array.replicate m false).getD i false = false := by
 rw [Array.getD_eq_getD_getElem?, Array.getElem?_replicate]
 split <;> rfl
theorem Inv.start (A : AgrX h.next ρ n ds E a) (s : SatX B F C.G h ρ w) (ss : List Step) : Inv B F C n l ds ss E h ρ (Array.replicate l.length false) a w ρ 0 h := by
 have hf : ∀ i, (Array.replicate l.length false).getD i false = true → False := fun i hi => by rw [replFalse] at hi; cases hi
 exact ⟨by simp, fun j o _ hj => (hf j hj).elim, fun i hi => (hf i hi).elim, fun e o _ _ _ => ⟨fun hi => (hf e hi).elim, fun hk => by omega⟩, Nat.zero_le _, rfl, s, Ext.refl _ _, Nat.le_refl _, A.size, A.defers, A.wfd,
  fun j s o t hj => (hf j hj).elim, fun t v _ hv => A.get t v hv⟩
theorem runOpen_ok (hm : C.P.follows .mixedOrders = true) (hC : C.OK F) (hf : C.FOK) (hcall : CallOK B F C call) {id : Nat} (A : AgrX h.next ρ n ds E a) (s : SatX B F C.G h ρ w) (hno : ∀ t, runOpen C n call l E ds h ≠ .no t) :
  (Code.region id ⟨l⟩ true).wp C.P ((runOpen C n call l E ds h).Q B F C.G ρ h.next n) a w := by
 refine wp_region_any hm ?_
 have hszl : (⟨l⟩ : Array Oper).size = l.length := by simp
 rw [hszl]
 have s' := s.drawn (w.drawn + 1)
 generalize ({ w with drawn := w.drawn + 1 } : World) = w' at s'
 clear s
 have fuel0 : (List.range l.length).countP (fun i => !(Array.replicate l.length false).getD i false) ≤ l.length := by
  refine Nat.le_trans List.countP_le_length ?_
  simp
 unfold runOpen at hno ⊢
 cases hst : statB l (masks l []) with
 | false => rw [hst] at hno; exact absurd rfl (hno _)
 | true =>
  rw [hst] at hno
  simp only [cond_true] at hno ⊢
  have hst' := hst
  simp only [statB, Bool.and_eq_true] at hst'
  obtain ⟨⟨hdst, hrd⟩, heo⟩ := hst'
  have hrd : ∀ i o, l[i]? = some o → (∀ t ∈ readsX l o, ∀ j o', l[j]? = some o' → o'.dst = some t → j < i ∧ anc (masks l []) i j = true) ∧ ∀ d ∈ directs o, d < i := fun i o ho => by
   simpa only [Nat.zero_add] using rdB_spec hrd i o ho
  have heo : ∀ e e' o o', e < e' → l[e]? = some o → l[e']? = some o' → effB o.op = true → effB o'.op = true → anc (masks l []) e' e = true := fun e e' o o' h1 h2 h3 h4 h5 => by
   simpa only [Nat.zero_add] using effO_spec heo e e' o o' h1 h2 h3 h4 h5
  cases hc : canon C n call l 0 l E h with
  | no t => rw [hc] at hno; exact absurd rfl (hno _)
  | fin ss Ef hf' =>
   rw [hc] at hno
   simp only at hno ⊢
   cases hck : chkS C (masks l []) (effL 0 0 l) l (h :: fmX l ss) 0 l ss with
   | false => rw [hck] at hno; exact absurd rfl (hno _)
   | true =>
    simp only [cond_true]
    obtain ⟨L, hsl⟩ := canon_fin hc
    refine open_any hC hf hcall hst L hck (fun j h1 h2 => by omega) (by omega) (fun _ ls a1 w1 ρ1 k H I hall => ?_) (fun o ho => ?_) l.length _ a w' ρ 0 h (Inv.start A s' ss) fuel0
    ·have hk : k = cnt l ss.length := by
      rcases Nat.lt_or_ge k (cnt l ss.length) with hlt | hge
      ·obtain ⟨e, o, h1, h2, h3, h4⟩ := cnt_ex hlt
       have := (I.eff e o h2 h3 h1).1 (hall e (List.getElem?_eq_some_iff.1 h2).1)
       omega
      ·exact Nat.le_antisymm I.kle hge
     have hH : H = hf' := by
      have h1 := I.hp
      rw [hk, L.hl ss.length (Nat.le_refl _), L.hf] at h1
      exact (Option.some.inj h1).symm
     subst hH
     refine ⟨ρ1, rfl, I.ext, I.nx, rfl, ⟨I.tsize, I.tdef, I.twf, fun t v hv => ?_⟩, I.sat⟩
     rcases L.env.2 t v hv with ⟨j, sj, oj, h1, h2, h3, h4, rfl⟩ | ⟨h1, h2⟩
     ·exact I.s1 j sj oj t (hall j (List.getElem?_eq_some_iff.1 h3).1) h2 h3 h4
     ·exact I.s0 t v (fun j oj _ hj hdj => h1 j oj (by rw [hsl]; exact (List.getElem?_eq_some_iff.1 hj).1) hj hdj) h2
    ·rw [hsl] at ho
     simp at ho
  | pan ss v hf' =>
   rw [hc] at hno
   simp only at hno ⊢
   cases hck : chkS C (masks l []) (effL 0 0 l) l (h :: fmX l ss) 0 l ss && ancB (masks l []) ss.length 0 l.length with
   | false => rw [hck] at hno; exact absurd rfl (hno _)
   | true =>
    simp only [cond_true]
    rw [Bool.and_eq_true] at hck
    obtain ⟨hck, hanc⟩ := hck
    obtain ⟨Em, hm, o, L, ho, h1⟩ := canon_pan hc
    have hlt : ss.length < l.length := (List.getElem?_eq_some_iff.1 ho).1
    refine open_any hC hf hcall hst L hck (fun j h1 h2 => ancB_spec hanc j (Nat.zero_le _) (by omega) h1) (by omega) (fun e => by omega) (fun o' ho' ls a1 w1 ρ1 k H I hu hd => ?_) l.length _ a w' ρ 0 h (Inv.start A s' ss) fuel0
    rw [ho] at ho'
    cases ho'
    have A1 : AgrX H.next ρ1 n ds (restr Em (readsX l o)) a1 := I.agr ho (Nat.le_refl _) hd (hrd _ o ho).1 L.env.2
    have AD : AgrX H.next ρ1 n ds (delD l E) a1 := ⟨I.tsize, I.tdef, I.twf, fun t u hu' => by
     obtain ⟨q1, q2⟩ := delD_ok hu'
     exact I.s0 t u (fun j oj _ hj hdj => q1 oj (List.mem_of_getElem? hj) hdj) q2⟩
    unfold step1 at h1
    cases hw : wtX l (restr Em (readsX l o)) o.guard with
    | none => rw [hw] at h1; cases h1
    | some b =>
     rw [hw] at h1
     cases b with
     | false => cases h1
     | true =>
      refine ⟨wtX_wanted A1 hw, fun K => ?_⟩
      simp only at h1
      unfold Oper.wp
      cases he : effB o.op with
      | false =>
       rw [he] at h1
       simp only [cond_false] at h1
       split at h1 <;> cases h1
      | true =>
       rw [he] at h1
       simp only [cond_true] at h1
       obtain ⟨hk, hH⟩ := I.atEff L heo ho (Nat.le_refl _) hu hd he
       rw [L.hf] at hH
       subst hH
       cases hx : xop C (restr Em (readsX l o)) H o with
       | none => rw [hx] at h1; cases h1
       | some r =>
        have hr := xop_ok I.sat hC hf A1 hx
        rw [hx] at h1
        cases r with
        | val v h' => cases h1
        | unit h' => cases h1
        | dfr d => cases h1
        | pan v' =>
         simp only [StepR.pan.injEq] at h1
         obtain ⟨rfl, rfl⟩ := h1
         obtain ⟨q1, q2⟩ := hr
         rw [q1]
         exact ⟨ρ1, rfl, I.ext, I.nx, q2, AD, I.sat⟩
        | call f args =>
         obtain ⟨q1, q2⟩ := hr
         rw [q1]
         simp only at h1
         have hc' : ∀ t, call f args H ≠ .no t := fun t e => by simp only [e] at h1; cases h1
         refine (hcall f args H ρ1 w1 hc' q2 I.sat).mono fun e w2 hq => ?_
         cases hcr : call f args H with
         | no t => exact absurd hcr (hc' t)
         | ret v1 h' => rw [hcr] at h1; cases h1
         | pan v1 h' =>
          rw [hcr] at hq h1
          simp only [StepR.pan.injEq] at h1
          obtain ⟨rfl, rfl⟩ := h1
          obtain ⟨ρ', rfl, q2, q3, q4, q5⟩ := hq
          exact ⟨ρ', rfl, I.ext.trans q2 I.nx, Nat.le_trans I.nx q3, q4, AD.ext q2 q3, q5⟩
end
end Go.Xs
end
section
namespace Go.Xs
open Go.RowKit

/-- The steps follow one another. -/
inductive LnkF (C : Ctx) (n : Nat) (call : Nat → List Value → Hp → FR) (l0 : List Oper) (fl : Nat → Bool) : Nat → List Oper → List Step → Env → Hp → Env → Hp → Prop
 | nil {i : Nat} {E : Env} {h : Hp} : LnkF C n call l0 fl i [] [] E h E h
 | cons {i : Nat} {o : Oper} {l : List Oper} {ss : List Step} {E E' Ef : Env} {h d hf : Hp} {v : Value} : step1 C call l0 o (restr E (readsX l0 o)) (bif fl i then .mt h.next else h) = .go v d → putX n E o.dst v = some E' →
   LnkF C n call l0 fl (i + 1) l ss E' (bif fl i then h.mrg d else d) Ef hf → LnkF C n call l0 fl i (o :: l) (⟨E, restr E (readsX l0 o), v, h, d⟩ :: ss) E h Ef hf
section
variable {C : Ctx} {n : Nat} {call : Nat → List Value → Hp → FR} {l0 : List Oper} {fl : Nat → Bool}
theorem canonF_fin : ∀ {l : List Oper} {i : Nat} {E Ef : Env} {h hf : Hp} {ss : List Step}, canonF C n call l0 fl i l E h = .fin ss Ef hf → LnkF C n call l0 fl i l ss E h Ef hf
 | [], i, E, Ef, h, hf, ss, hx => by simp only [canonF, Can.fin.injEq] at hx; obtain ⟨rfl, rfl, rfl⟩ := hx; exact .nil
 | o :: l, i, E, Ef, h, hf, ss, hx => by
  simp only [canonF] at hx
  split at hx
  ·cases hx
  ·cases hx
  ·rename_i v d hs
   split at hx
   ·cases hx
   ·rename_i E' hp
    cases hr : canonF C n call l0 fl (i + 1) l E' (bif fl i then h.mrg d else d) with
    | fin ss' Ef' hf' =>
     rw [hr] at hx
     simp only [Can.cons, Can.fin.injEq] at hx
     obtain ⟨rfl, rfl, rfl⟩ := hx
     exact .cons hs hp (canonF_fin hr)
    | pan ss' v' h'' => rw [hr] at hx; cases hx
    | no t => rw [hr] at hx; cases hx
theorem hAtF_cons (hf : Hp) (s : Step) (ss : List Step) (i : Nat) : hAtF hf (s :: ss) (i + 1) = hAtF hf ss i := by simp [hAtF]
theorem LnkF.at {i0 : Nat} {l : List Oper} {ss : List Step} {E Ef : Env} {h hf : Hp} (H : LnkF C n call l0 fl i0 l ss E h Ef hf) : ss.length = l.length ∧ hAtF hf ss 0 = h ∧
  ∀ i s, ss[i]? = some s → ∃ o, l[i]? = some o ∧ step1 C call l0 o s.er (bif fl (i0 + i) then .mt s.h.next else s.h) = .go s.v s.h' ∧ (∃ E', putX n s.E o.dst s.v = some E') ∧ s.er = restr s.E (readsX l0 o) ∧ hAtF hf ss (i + 1) = (bif fl (i0 + i) then s.h.mrg s.h' else s.h') := by
 induction H with
 | nil => exact ⟨rfl, rfl, fun i s hs => by simp at hs⟩
 | @cons i0 o l ss E E' Ef h d hf v hs hp hr ih =>
  obtain ⟨h1, h2, h3⟩ := ih
  refine ⟨by simp [h1], rfl, fun i s hi => ?_⟩
  cases i with
  | zero =>
   simp only [List.getElem?_cons_zero, Option.some.injEq] at hi
   subst hi
   exact ⟨o, rfl, hs, ⟨_, hp⟩, rfl, by rw [hAtF_cons, h2]; rfl⟩
  | succ i =>
   obtain ⟨o', q1, q2, q3, q4, q5⟩ := h3 i s (by simpa using hi)
   rw [show i0 + 1 + i = i0 + (i + 1) by omega] at q2 q5
   exact ⟨o', by simpa using q1, q2, q3, q4, by rw [hAtF_cons]; exact q5⟩
theorem LnkF.env {i0 : Nat} {l : List Oper} {ss : List Step} {E Ef : Env} {h hf : Hp} (H : LnkF C n call l0 fl i0 l ss E h Ef hf) :
  (∀ i s, ss[i]? = some s → ∀ t v, s.E.lk t = some v → From l ss E i t v) ∧ ∀ t v, Ef.lk t = some v → From l ss E ss.length t v := by
 induction H with
 | nil => exact ⟨fun i s hs => by simp at hs, fun t v hv => .inr ⟨fun j oj hj => by simp at hj, hv⟩⟩
 | @cons i0 o l ss E E' Ef h d hf v hs hp hr ih =>
  refine ⟨fun i s hi t u hu => ?_, fun t u hu => From.cons (s := ⟨E, restr E (readsX l0 o), v, h, d⟩) hp (ih.2 t u hu)⟩
  cases i with
  | zero =>
   simp only [List.getElem?_cons_zero, Option.some.injEq] at hi
   subst hi
   exact .inr ⟨fun j oj hj => by omega, hu⟩
  | succ i => exact From.cons (s := ⟨E, restr E (readsX l0 o), v, h, d⟩) hp (ih.1 i s (by simpa using hi) t u hu)
end
theorem rngs_mem : ∀ {ss : List Step} {i0 e lo hi : Nat}, (e, lo, hi) ∈ rngs i0 ss → ∃ s, i0 ≤ e ∧ ss[e - i0]? = some s ∧ lo = s.h.next ∧ hi = s.h'.next
 | [], _, _, _, _, h => by simp [rngs] at h
 | s :: ss, i0, e, lo, hi, h => by
  have key : (e, lo, hi) ∈ rngs (i0 + 1) ss → ∃ s', i0 ≤ e ∧ (s :: ss)[e - i0]? = some s' ∧ lo = s'.h.next ∧ hi = s'.h'.next := fun h => by
   obtain ⟨s', h1, h2, h3, h4⟩ := rngs_mem h
   obtain ⟨d, rfl⟩ : ∃ d, e = i0 + 1 + d := ⟨e - (i0 + 1), by omega⟩
   refine ⟨s', by omega, ?_, h3, h4⟩
   rw [show i0 + 1 + d - (i0 + 1) = d by omega] at h2
   rw [show i0 + 1 + d - i0 = d + 1 by omega]
   simpa using h2
  simp only [rngs] at h
  cases hb : Nat.beq s.h.next s.h'.next with
  | true => rw [hb] at h; exact key h
  | false =>
   rw [hb] at h
   simp only [cond_false, List.mem_cons, Prod.mk.injEq] at h
   rcases h with ⟨rfl, rfl, rfl⟩ | h
   ·exact ⟨s, Nat.le_refl _, by simp, rfl, rfl⟩
   ·exact key h
theorem inR_spec {M : List Nat} {j nm : Nat} : ∀ {l : List (Nat × Nat × Nat)}, inR M j nm l = true → ∃ e lo hi, (e, lo, hi) ∈ l ∧ (e = j ∨ anc M j e = true) ∧ lo ≤ nm ∧ nm < hi
 | [], h => by simp [inR] at h
 | (e, lo, hi) :: l, h => by
  simp only [inR, Bool.or_eq_true, Bool.and_eq_true, Nat.beq_eq, Nat.ble_eq, Nat.blt_eq] at h
  rcases h with ⟨⟨h1, h2⟩, h3⟩ | h
  ·exact ⟨e, lo, hi, List.mem_cons_self, h1, h2, h3⟩
  ·obtain ⟨e, lo, hi, h1, h2⟩ := inR_spec h
   exact ⟨e, lo, hi, List.mem_cons_of_mem _ h1, h2⟩
theorem kT_spec {M : List Nat} {fl : Nat → Bool} {i b nm : Nat} {o : SObj} : ∀ {ss : List Step} {j0 : Nat} {t : Tr SObj}, (kT M fl i b j0 ss t).get nm nm = some o →
  t.get nm nm = some o ∨ ∃ j s, j0 ≤ j ∧ ss[j - j0]? = some s ∧ fl j = true ∧ b ≤ j ∧ anc M i j = true ∧ s.h'.get nm = some o
 | [], _, _, h => .inl (by simpa [kT] using h)
 | s :: ss, j0, t, h => by
  simp only [kT] at h
  rcases kT_spec h with h | ⟨j, s', h1, h2, h3⟩
  ·cases hb : fl j0 && Nat.ble b j0 && anc M i j0 with
   | false => rw [hb] at h; exact .inl h
   | true =>
    rw [hb] at h
    simp only [Bool.and_eq_true, Nat.ble_eq] at hb
    rcases Tr.get_mrg h with h | h
    ·exact .inl h
    ·exact .inr ⟨j0, s, Nat.le_refl _, by simp, hb.1.1, hb.1.2, hb.2, h⟩
  ·obtain ⟨d, rfl⟩ : ∃ d, j = j0 + 1 + d := ⟨j - (j0 + 1), by omega⟩
   rw [show j0 + 1 + d - (j0 + 1) = d by omega] at h2
   exact .inr ⟨j0 + 1 + d, s', by omega, by rw [show j0 + 1 + d - j0 = d + 1 by omega]; simpa using h2, h3⟩
theorem okB_of {M : List Nat} {i b : Nat} : ∀ {l : List Nat}, (∀ e ∈ l, (anc M i e = true → e < b) ∧ (anc M e i = true → b ≤ e)) → okB M i b l = true
 | [], _ => rfl
 | e :: l, h => by
  have h1 := h e List.mem_cons_self
  have h2 := okB_of (M := M) (i := i) (b := b) (l := l) fun e' h' => h e' (List.mem_cons_of_mem _ h')
  simp only [okB, h2, Bool.and_true, Bool.and_eq_true]
  constructor
  ·cases ha : anc M i e with
   | true => simpa [Nat.blt_eq] using h1.1 ha
   | false => rfl
  ·cases ha : anc M e i with
   | true => simpa [Nat.ble_eq] using h1.2 ha
   | false => rfl
theorem chkL_spec {C : Ctx} {M : List Nat} {fl : Nat → Bool} {chs : List Nat} {hf : Hp} {ss : List Step} {i : Nat} {er : Env} {v : Value} {o : Oper} : ∀ {bs : List Nat}, chkL C M fl chs hf ss i er v o bs = true →
  ∀ b ∈ bs, okB M i b chs = true → xq C er ⟨kT M fl i b 0 ss (hAtF hf ss b).t, hf.next⟩ o = some v
 | [], _, b, hb, _ => by simp at hb
 | b0 :: bs, h, b, hb, hk => by
  simp only [chkL, Bool.and_eq_true] at h
  rcases List.mem_cons.1 hb with rfl | hb
  ·have h1 := h.1
   rw [hk] at h1
   simp only [cond_true] at h1
   split at h1
   ·rename_i v' hv
    rw [hv, eqV_ok v' v h1]
   ·cases h1
  ·exact chkL_spec h.2 b hb hk
theorem chkF_spec {C : Ctx} {M : List Nat} {fl : Nat → Bool} {l0 : List Oper} {n0 : Nat} {rs : List (Nat × Nat × Nat)} {hf : Hp} {ss0 : List Step} : ∀ {l : List Oper} {ss : List Step} {i0 : Nat}, chkF C M fl l0 n0 rs hf ss0 i0 l ss = true →
  ∀ i o s, l[i]? = some o → ss[i]? = some s → s.h.next ≤ s.h'.next ∧ okv (pB M rs n0 (i0 + i)) s.v = true ∧ (fl (i0 + i) = true → geT s.h.next s.h'.t = true ∧ okT (pB M rs n0 (i0 + i)) s.h'.t = true) ∧
   (lookB o.op = true → effB o.op = false → wtX l0 s.er o.guard = some true → chkL C M fl (chsB fl l0) hf ss0 (i0 + i) s.er s.v o (bsB fl l0) = true)
 | [], ss, i0, _, i, o, s, ho, _ => by simp at ho
 | o' :: l, [], i0, _, i, o, s, _, hs => by simp at hs
 | o' :: l, s' :: ss, i0, h, i, o, s, ho, hs => by
  simp only [chkF, Bool.and_eq_true, Nat.ble_eq] at h
  obtain ⟨⟨⟨⟨h1, h2⟩, h3⟩, h4⟩, h5⟩ := h
  cases i with
  | zero =>
   simp only [List.getElem?_cons_zero, Option.some.injEq] at ho hs
   subst ho
   subst hs
   refine ⟨h1, h2, fun hfl => ?_, fun q1 q2 q3 => ?_⟩
   ·rw [Nat.add_zero] at hfl
    rw [hfl] at h3
    simpa using h3
   ·simpa [q1, q2, q3] using h4
  | succ i =>
   have := chkF_spec h5 i o s (by simpa using ho) (by simpa using hs)
   rw [show i0 + (i + 1) = i0 + 1 + i by omega]
   exact this

/-- What the reckoning has shown of a region. -/
structure HF (C : Ctx) (n : Nat) (call : Nat → List Value → Hp → FR) (l : List Oper) (fl : Nat → Bool) (ss : List Step) (E0 : Env) (h0 : Hp) (Ef : Env) (hf : Hp) : Prop where
 L : LnkF C n call l fl 0 l ss E0 h0 Ef hf
 dst : ∀ (i j : Nat) (o o' : Oper) (t : Nat), l[i]? = some o → l[j]? = some o' → o.dst = some t → o'.dst = some t → i = j
 rd : ∀ i o, l[i]? = some o → (∀ t ∈ readsX l o, ∀ j o', l[j]? = some o' → o'.dst = some t → j < i ∧ anc (masks l []) i j = true) ∧ ∀ d ∈ directs o, d < i
 ch : ∀ i o e oe, l[i]? = some o → effB o.op = true → fl i = false → e < i → l[e]? = some oe → effB oe.op = true → anc (masks l []) i e = true
 fe : ∀ i, fl i = true → ∃ o, l[i]? = some o ∧ effB o.op = true
 ck : ∀ i o s, l[i]? = some o → ss[i]? = some s → s.h.next ≤ s.h'.next ∧ okv (pB (masks l []) (rngs 0 ss) h0.next i) s.v = true ∧ (fl i = true → geT s.h.next s.h'.t = true ∧ okT (pB (masks l []) (rngs 0 ss) h0.next i) s.h'.t = true) ∧
   (lookB o.op = true → effB o.op = false → wtX l s.er o.guard = some true → chkL C (masks l []) fl (chsB fl l) hf ss i s.er s.v o (bsB fl l) = true)
theorem HF.of {C : Ctx} {n : Nat} {call : Nat → List Value → Hp → FR} {l : List Oper} {ss : List Step} {E0 Ef : Env} {h0 hf : Hp} (hc : canonF C n call l (flB (masks l []) l) 0 l E0 h0 = .fin ss Ef hf)
  (hd : dstB l = true) (hr : rdB (masks l []) l 0 l = true) (hk : chkF C (masks l []) (flB (masks l []) l) l h0.next (rngs 0 ss) hf ss 0 l ss = true) : HF C n call l (flB (masks l []) l) ss E0 h0 Ef hf := by
 refine ⟨canonF_fin hc, dstB_spec hd, fun i o ho => by simpa only [Nat.zero_add] using rdB_spec hr i o ho, fun i o e oe ho he hfl hlt hoe hee => ?_, fun i h => ?_, fun i o s ho hs => by simpa only [Nat.zero_add] using chkF_spec hk i o s ho hs⟩
 ·unfold flB at hfl
  rw [ho] at hfl
  simp only [he, Bool.true_and, Bool.not_eq_false', List.all_eq_true] at hfl
  obtain ⟨k, hk⟩ := effL_mem (i := 0) (c := 0) hoe hee
  rw [Nat.zero_add] at hk
  have := hfl _ hk
  simp only at this
  rw [show Nat.blt e i = true from by simpa [Nat.blt_eq] using hlt] at this
  exact this
 ·unfold flB at h
  split at h
  ·rename_i o ho
   simp only [Bool.and_eq_true] at h
   exact ⟨o, ho, h.1⟩
  ·cases h
section
variable {C : Ctx} {n : Nat} {call : Nat → List Value → Hp → FR} {l : List Oper} {fl : Nat → Bool} {ss : List Step} {E0 Ef : Env} {h0 hf : Hp}
theorem HF.nx1 (K : HF C n call l fl ss E0 h0 Ef hf) (i : Nat) : (hAtF hf ss i).next ≤ (hAtF hf ss (i + 1)).next := by
 cases hs : ss[i]? with
 | none =>
  have : ss[i + 1]? = none := List.getElem?_eq_none (by have := List.getElem?_eq_none_iff.1 hs; omega)
  simp [hAtF, hs, this]
 | some s =>
  obtain ⟨o, h1, _, _, _, h5⟩ := K.L.at.2.2 i s hs
  have := (K.ck i o s h1 hs).1
  rw [h5]
  have e : hAtF hf ss i = s.h := by simp [hAtF, hs]
  rw [e]
  cases fl (0 + i) <;> exact this
theorem HF.nx (K : HF C n call l fl ss E0 h0 Ef hf) {i j : Nat} (h : i ≤ j) : (hAtF hf ss i).next ≤ (hAtF hf ss j).next := by
 induction j with
 | zero => rw [Nat.le_zero.1 h]; exact Nat.le_refl _
 | succ j ih =>
  rcases Nat.lt_or_ge j i with hlt | hge
  ·rw [show i = j + 1 by omega]; exact Nat.le_refl _
  ·exact Nat.le_trans (ih hge) (K.nx1 j)
theorem HF.nxf (K : HF C n call l fl ss E0 h0 Ef hf) (i : Nat) : (hAtF hf ss i).next ≤ hf.next := by
 have := K.nx (i := i) (j := max i ss.length) (Nat.le_max_left _ _)
 have e : hAtF hf ss (max i ss.length) = hf := by
  have : ss[max i ss.length]? = none := List.getElem?_eq_none (Nat.le_max_right _ _)
  simp [hAtF, this]
 rw [e] at this
 exact this
theorem HF.at0 (K : HF C n call l fl ss E0 h0 Ef hf) : hAtF hf ss 0 = h0 := K.L.at.2.1
theorem HF.nxs (K : HF C n call l fl ss E0 h0 Ef hf) {i : Nat} {s : Step} (hs : ss[i]? = some s) : hAtF hf ss i = s.h ∧ (hAtF hf ss (i + 1)).next = s.h'.next ∧ (fl i = false → hAtF hf ss (i + 1) = s.h') ∧ (fl i = true → hAtF hf ss (i + 1) = s.h.mrg s.h') := by
 obtain ⟨o, h1, _, _, _, h5⟩ := K.L.at.2.2 i s hs
 rw [Nat.zero_add] at h5
 refine ⟨by simp [hAtF, hs], ?_, fun h => by rw [h5, h]; rfl, fun h => by rw [h5, h]; rfl⟩
 rw [h5]
 cases fl i <;> rfl
theorem HF.anc_lt (K : HF C n call l fl ss E0 h0 Ef hf) : ∀ j i, anc (masks l []) j i = true → i < j := by
 intro j
 induction j using Nat.strongRecOn with
 | _ j ih =>
  intro i h
  obtain ⟨o, ho, d, hd, h2⟩ := anc_ok h
  have hdl := (K.rd j o ho).2 d hd
  rcases h2 with rfl | ⟨hlt, h2⟩
  ·exact hdl
  ·exact Nat.lt_trans (ih d hlt i h2) hlt
theorem HF.p_spec (K : HF C n call l fl ss E0 h0 Ef hf) {j nm : Nat} (h : pB (masks l []) (rngs 0 ss) h0.next j nm = true) :
  nm < h0.next ∨ ∃ e s, ss[e]? = some s ∧ (e = j ∨ anc (masks l []) j e = true) ∧ (hAtF hf ss e).next ≤ nm ∧ nm < (hAtF hf ss (e + 1)).next := by
 simp only [pB, Bool.or_eq_true, Nat.blt_eq] at h
 refine h.imp id fun h => ?_
 obtain ⟨e, lo, hi, h1, h2, h3, h4⟩ := inR_spec h
 obtain ⟨s, _, h5, rfl, rfl⟩ := rngs_mem h1
 rw [Nat.sub_zero] at h5
 obtain ⟨q1, q2, _⟩ := K.nxs h5
 exact ⟨e, s, h5, h2, by rw [q1]; exact h3, by rw [q2]; exact h4⟩
/-- The names that a step may know lie below what is next behind it. -/
theorem HF.p_lt (K : HF C n call l fl ss E0 h0 Ef hf) {j nm : Nat} (h : pB (masks l []) (rngs 0 ss) h0.next j nm = true) : nm < (hAtF hf ss (j + 1)).next := by
 rcases K.p_spec h with h | ⟨e, s, _, h2, _, h4⟩
 ·have := K.nx (i := 0) (j := j + 1) (Nat.zero_le _)
  rw [K.at0] at this
  omega
 ·refine Nat.lt_of_lt_of_le h4 (K.nx ?_)
  rcases h2 with rfl | h2
  ·exact Nat.le_refl _
  ·have := K.anc_lt _ _ h2
   omega
/-- A step does not know the names that one gives for which it does not wait. -/
theorem HF.p_out (K : HF C n call l fl ss E0 h0 Ef hf) {i j nm : Nat} (h : pB (masks l []) (rngs 0 ss) h0.next j nm = true) (hne : j ≠ i) (ha : anc (masks l []) j i = false) : ¬ ((hAtF hf ss i).next ≤ nm ∧ nm < (hAtF hf ss (i + 1)).next) := by
 rintro ⟨g1, g2⟩
 rcases K.p_spec h with h | ⟨e, s, _, h2, h3, h4⟩
 ·have := K.nx (i := 0) (j := i) (Nat.zero_le _)
  rw [K.at0] at this
  omega
 ·have hei : e ≠ i := fun e' => by
   subst e'
   rcases h2 with h2 | h2
   ·exact hne h2.symm
   ·rw [ha] at h2; cases h2
  rcases Nat.lt_or_ge e i with hlt | hge
  ·have := K.nx (i := e + 1) (j := i) (by omega)
   omega
  ·have := K.nx (i := i + 1) (j := e) (by omega)
   omega
/-- What the heap tells along a stretch without a link of the chain. -/
theorem HF.cont (K : HF C n call l fl ss E0 h0 Ef hf) {b : Nat} : ∀ {i : Nat}, b ≤ i → (∀ e o, b ≤ e → e < i → l[e]? = some o → effB o.op = true → fl e = true) → ∀ nm o, (hAtF hf ss i).get nm = some o →
  (hAtF hf ss b).get nm = some o ∨ ∃ j s, b ≤ j ∧ j < i ∧ ss[j]? = some s ∧ fl j = true ∧ s.h'.get nm = some o := by
 intro i
 induction i with
 | zero => intro hb _ nm o hg; rw [Nat.le_zero.1 hb]; exact .inl hg
 | succ i ih =>
  intro hb hno nm o hg
  rcases Nat.lt_or_ge i b with hlt | hge
  ·rw [show b = i + 1 by omega]; exact .inl hg
  ·have hrc := ih hge (fun e o h1 h2 => hno e o h1 (by omega)) nm o
   have lift : ((hAtF hf ss b).get nm = some o ∨ ∃ j s, b ≤ j ∧ j < i ∧ ss[j]? = some s ∧ fl j = true ∧ s.h'.get nm = some o) → _ :=
    fun h => h.imp id fun ⟨j, s, h1, h2, h3⟩ => (⟨j, s, h1, Nat.lt_succ_of_lt h2, h3⟩ : ∃ j s, b ≤ j ∧ j < i + 1 ∧ ss[j]? = some s ∧ fl j = true ∧ s.h'.get nm = some o)
   cases hs : ss[i]? with
   | none =>
    have : ss[i + 1]? = none := List.getElem?_eq_none (by have := List.getElem?_eq_none_iff.1 hs; omega)
    have e : hAtF hf ss (i + 1) = hAtF hf ss i := by simp [hAtF, hs, this]
    rw [e] at hg
    exact lift (hrc hg)
   | some s =>
    obtain ⟨q1, q2, q3, q4⟩ := K.nxs hs
    cases hfl : fl i with
    | true =>
     rw [q4 hfl] at hg
     rcases Hp.get_mrg hg with hg | hg
     ·rw [q1] at hrc
      exact lift (hrc hg)
     ·exact .inr ⟨i, s, hge, Nat.lt_succ_self _, hs, hfl, hg⟩
    | false =>
     rw [q3 hfl] at hg
     obtain ⟨o', h1, h2, _⟩ := K.L.at.2.2 i s hs
     rw [Nat.zero_add, hfl] at h2
     have he : effB o'.op = false := by
      cases he : effB o'.op with
      | false => rfl
      | true => rw [hno i o' hge (Nat.lt_succ_self _) h1 he] at hfl; cases hfl
     rw [step1_quiet h2 he] at hg
     rw [q1] at hrc
     exact lift (hrc hg)
theorem HF.chs (K : HF C n call l fl ss E0 h0 Ef hf) {e : Nat} (h : e ∈ chsB fl l) : ∃ o, l[e]? = some o ∧ effB o.op = true ∧ fl e = false := by
 unfold chsB at h
 rw [List.mem_filter, List.mem_map] at h
 obtain ⟨⟨⟨e', k⟩, h1, rfl⟩, h2⟩ := h
 obtain ⟨o, q1, q2, _⟩ := effL_ok h1
 rw [Nat.sub_zero] at q1
 exact ⟨o, q1, q2, by simpa using h2⟩
theorem chs_mem {e : Nat} {o : Oper} (ho : l[e]? = some o) (he : effB o.op = true) (hfl : fl e = false) : e + 1 ∈ bsB fl l := by
 obtain ⟨k, hk⟩ := effL_mem (i := 0) (c := 0) ho he
 rw [Nat.zero_add] at hk
 refine List.mem_cons_of_mem _ (List.mem_map.2 ⟨e, ?_, rfl⟩)
 unfold chsB
 rw [List.mem_filter, List.mem_map]
 exact ⟨⟨_, hk, rfl⟩, by simp [hfl]⟩
end
end Go.Xs
end
section
namespace Go.Xs
open Go.RowKit

/-- What is told in the midst of such a region. -/
def MF (hf : Hp) (ss : List Step) (fl : Nat → Bool) (ls : Array Bool) (b nm : Nat) (o : SObj) : Prop :=
 (hAtF hf ss b).get nm = some o ∨ ∃ j s, b ≤ j ∧ ls.getD j false = true ∧ ss[j]? = some s ∧ fl j = true ∧ s.h'.get nm = some o
structure WF (B : World) (F : PH) (C : Ctx) (l : List Oper) (fl : Nat → Bool) (ss : List Step) (hf : Hp) (ls : Array Bool) (w : World) (ρ : Val) (b : Nat) : Prop where
 lo : ∀ e o, l[e]? = some o → effB o.op = true → e < b → ls.getD e false = true
 hi : ∀ e o, l[e]? = some o → effB o.op = true → b ≤ e → fl e = false → ls.getD e false = false
 bm : b ∈ bsB fl l
 os : w.os = B.os
 output : w.output = B.output
 tape : w.tape = B.tape
 fr : ∀ x o, F x = some o → w.heap[x]? = some o
 ob : ∀ nm o, MF hf ss fl ls b nm o → F (ρ.b nm) = none ∧ ∃ obj, w.heap[ρ.b nm]? = some obj ∧ o.is ρ nm obj
 wfb : ∀ nm o, (hAtF hf ss b).get nm = some o → nm < (hAtF hf ss b).next ∧ wfo (hAtF hf ss b).next o = true
 wfd : ∀ j s nm o, b ≤ j → ls.getD j false = true → ss[j]? = some s → fl j = true → s.h'.get nm = some o → nm < s.h'.next ∧ wfo s.h'.next o = true
 inj : ∀ nm nm' o o', MF hf ss fl ls b nm o → MF hf ss fl ls b nm' o' → ρ.b nm = ρ.b nm' → nm = nm'
 gl : ∀ g, g < C.G.N → ρ.b g = C.G.gb g
section
variable {B : World} {F : PH} {C : Ctx} {n : Nat} {call : Nat → List Value → Hp → FR} {l : List Oper} {fl : Nat → Bool} {ss : List Step} {E0 Ef : Env} {h0 hf : Hp} {ls : Array Bool} {w : World} {ρ : Val} {b : Nat}
theorem WF.satx (I : WF B F C l fl ss hf ls w ρ b) {K : Hp} (hK : ∀ nm o, K.get nm = some o → MF hf ss fl ls b nm o ∧ nm < K.next ∧ wfo K.next o = true) (hn : C.G.N ≤ K.next) : SatX B F C.G K ρ w :=
 ⟨I.os, I.output, I.tape, I.fr, fun nm o hg => by
  obtain ⟨h1, h2, h3⟩ := hK nm o hg
  obtain ⟨q1, q2⟩ := I.ob nm o h1
  exact ⟨q1, h2, h3, q2⟩, fun nm nm' o o' h1 h2 hb => I.inj nm nm' o o' (hK _ _ h1).1 (hK _ _ h2).1 hb, I.gl, hn⟩
/-- All that is told is told below what is next at the end. -/
theorem WF.wf (I : WF B F C l fl ss hf ls w ρ b) (K : HF C n call l fl ss E0 h0 Ef hf) {nm : Nat} {o : SObj} (h : MF hf ss fl ls b nm o) : nm < hf.next ∧ wfo hf.next o = true := by
 rcases h with h | ⟨j, s, h1, h2, h3, h4, h5⟩
 ·obtain ⟨q1, q2⟩ := I.wfb nm o h
  exact ⟨Nat.lt_of_lt_of_le q1 (K.nxf _), wfo_mono (K.nxf _) _ q2⟩
 ·obtain ⟨q1, q2⟩ := I.wfd j s nm o h1 h2 h3 h4 h5
  have := K.nxf (j + 1)
  rw [(K.nxs h3).2.1] at this
  exact ⟨Nat.lt_of_lt_of_le q1 this, wfo_mono this _ q2⟩
theorem WF.ble (I : WF B F C l fl ss hf ls w ρ b) {i : Nat} {o : Oper} (ho : l[i]? = some o) (he : effB o.op = true) (hu : ls.getD i false = false) : b ≤ i := by
 rcases Nat.lt_or_ge i b with h | h
 ·rw [I.lo i o ho he h] at hu; cases hu
 ·exact h
/-- A link of the chain is up: all that turns the heap ahead of it has come up. -/
theorem WF.noch (I : WF B F C l fl ss hf ls w ρ b) (K : HF C n call l fl ss E0 h0 Ef hf) (hc : Clos l ls) {i : Nat} {o : Oper} (ho : l[i]? = some o) (he : effB o.op = true) (hfl : fl i = false) (hd : ∀ d ∈ directs o, ls.getD d false = true) :
  ∀ e oe, b ≤ e → e < i → l[e]? = some oe → effB oe.op = true → fl e = true := fun e oe h1 h2 h3 h4 => by
 cases hfe : fl e with
 | true => rfl
 | false =>
  have hl := anc_ready hc ho hd (K.ch i o e oe ho he hfl h2 h3 h4)
  rw [I.hi e oe h3 h4 h1 hfe] at hl
  cases hl
/-- What came up out of the chain's row lies beside it. -/
noncomputable def FA (F : PH) (w : World) (ρ : Val) (pm : Nat → Prop) : PH := fun x => by
 classical
 exact if ∃ nm, pm nm ∧ ρ.b nm = x then w.heap[x]? else F x
theorem FA.le {pm : Nat → Prop} (h : ∀ nm, pm nm → F (ρ.b nm) = none) {x : Nat} {o : Obj} (hF : F x = some o) : FA F w ρ pm x = some o := by
 unfold FA
 rw [if_neg]
 ·exact hF
 ·rintro ⟨nm, h1, rfl⟩
  rw [h nm h1] at hF
  cases hF
theorem FA.at {pm : Nat → Prop} {nm : Nat} (h : pm nm) : FA F w ρ pm (ρ.b nm) = w.heap[ρ.b nm]? := by
 unfold FA
 rw [if_pos ⟨nm, h, rfl⟩]
theorem FA.fr {pm : Nat → Prop} (h : ∀ x o, F x = some o → w.heap[x]? = some o) {x : Nat} {o : Obj} (hF : FA F w ρ pm x = some o) : w.heap[x]? = some o := by
 unfold FA at hF
 split at hF
 ·exact hF
 ·exact h x o hF
/-- what came up behind i, not in the chain -/
def PM (ss : List Step) (fl : Nat → Bool) (ls : Array Bool) (i nm : Nat) : Prop := ∃ j s o, i < j ∧ ls.getD j false = true ∧ ss[j]? = some s ∧ fl j = true ∧ s.h'.get nm = some o
theorem PM.ge (K : HF C n call l fl ss E0 h0 Ef hf) {i nm : Nat} (h : PM ss fl ls i nm) : (hAtF hf ss (i + 1)).next ≤ nm := by
 obtain ⟨j, s, o, h1, _, h3, h4, h5⟩ := h
 obtain ⟨oj, q1, _⟩ := K.L.at.2.2 j s h3
 have h6 := geT_get ((K.ck j oj s q1 h3).2.2.1 h4).1 h5
 have h7 := K.nx (i := i + 1) (j := j) (by omega)
 rw [(K.nxs h3).1] at h7
 exact Nat.le_trans h7 h6
/-- Behind n0 another one. -/
def glue (n0 : Nat) (ρ' ρ : Val) : Val := ⟨fun k => if k < n0 then ρ'.b k else ρ.b k, fun k => if k < n0 then ρ'.c k else ρ.c k⟩
theorem glue_lo {n0 k : Nat} {ρ' : Val} (h : k < n0) : (glue n0 ρ' ρ).b k = ρ'.b k ∧ (glue n0 ρ' ρ).c k = ρ'.c k := by simp [glue, h]
theorem glue_hi {n0 k : Nat} {ρ' : Val} (h : n0 ≤ k) : (glue n0 ρ' ρ).b k = ρ.b k ∧ (glue n0 ρ' ρ).c k = ρ.c k := by simp [glue, Nat.not_lt.2 h]
theorem glue_ext {n0 : Nat} {ρ' : Val} : Ext n0 ρ' (glue n0 ρ' ρ) := fun _ hk => glue_lo hk
/-- Turned but for the names of one step. -/
theorem glue_out {m n0 k : Nat} {ρ' : Val} (he : Ext m ρ ρ') (h : ¬ (m ≤ k ∧ k < n0)) : (glue n0 ρ' ρ).b k = ρ.b k ∧ (glue n0 ρ' ρ).c k = ρ.c k := by
 rcases Nat.lt_or_ge k n0 with h1 | h1
 ·obtain ⟨q1, q2⟩ := glue_lo (ρ := ρ) (ρ' := ρ') h1
  obtain ⟨r1, r2⟩ := he k (by omega)
  exact ⟨q1.trans r1, q2.trans r2⟩
 ·exact glue_hi h1
theorem getD_set_cases {ls : Array Bool} {i j : Nat} (h : (ls.setIfInBounds i true).getD j false = true) : j = i ∨ ls.getD j false = true := by
 by_cases e : i = j
 ·exact .inl e.symm
 ·rw [getD_set_ne false e] at h; exact .inr h
/-- What a chain's link may be run beside. -/
theorem WF.sat (I : WF B F C l fl ss hf ls w ρ b) (K : HF C n call l fl ss E0 h0 Ef hf) (hg0 : C.G.N ≤ h0.next) (hc : Clos l ls) {i : Nat} {o : Oper} {s : Step} (ho : l[i]? = some o) (hs : ss[i]? = some s) (he : effB o.op = true) (hfl : fl i = false)
  (hu : ls.getD i false = false) (hd : ∀ d ∈ directs o, ls.getD d false = true) : SatX B (FA F w ρ (PM ss fl ls i)) C.G s.h ρ w := by
 have hbi := I.ble ho he hu
 have hpm : ∀ nm, PM ss fl ls i nm → ∃ o, MF hf ss fl ls b nm o := fun nm ⟨j, sj, oj, h1, h2⟩ => ⟨oj, .inr ⟨j, sj, by omega, h2⟩⟩
 have hin : ∀ nm x, s.h.get nm = some x → MF hf ss fl ls b nm x ∧ nm < s.h.next ∧ wfo s.h.next x = true := fun nm x hg => by
  obtain ⟨q1, _⟩ := K.nxs hs
  rw [← q1] at hg ⊢
  rcases K.cont hbi (I.noch K hc ho he hfl hd) nm x hg with h | ⟨j, sj, h1, h2, h3, h4, h5⟩
  ·obtain ⟨r1, r2⟩ := I.wfb nm x h
   exact ⟨.inl h, Nat.lt_of_lt_of_le r1 (K.nx hbi), wfo_mono (K.nx hbi) _ r2⟩
  ·obtain ⟨oj, p1, p2⟩ := K.fe j h4
   have hl := anc_ready hc ho hd (K.ch i o j oj ho he hfl h2 p1 p2)
   obtain ⟨r1, r2⟩ := I.wfd j sj nm x h1 hl h3 h4 h5
   have := K.nx (i := j + 1) (j := i) (by omega)
   rw [(K.nxs h3).2.1] at this
   exact ⟨.inr ⟨j, sj, h1, hl, h3, h4, h5⟩, Nat.lt_of_lt_of_le r1 this, wfo_mono this _ r2⟩
 have hgn : C.G.N ≤ s.h.next := by
  have := K.nx (i := 0) (j := i) (Nat.zero_le _)
  rw [K.at0, (K.nxs hs).1] at this
  exact Nat.le_trans hg0 this
 have S := I.satx hin hgn
 refine ⟨S.os, S.output, S.tape, fun x o' hx => FA.fr I.fr hx, fun nm o' hg => ?_, S.inj, S.gl, S.gn⟩
 obtain ⟨p1, p2, p3, p4⟩ := S.ob nm o' hg
 refine ⟨?_, p2, p3, p4⟩
 unfold FA
 rw [if_neg]
 ·exact p1
 ·rintro ⟨nm', h1, h2⟩
  obtain ⟨o2, h3⟩ := hpm nm' h1
  have := I.inj nm' nm o2 o' h3 (hin nm o' hg).1 h2
  subst this
  have h4 := h1.ge K
  have h5 := K.nx1 i
  rw [(K.nxs hs).1] at h5
  omega
/-- Behind a link of the chain. -/
theorem WF.chain (I : WF B F C l fl ss hf ls w ρ b) (K : HF C n call l fl ss E0 h0 Ef hf) (hg0 : C.G.N ≤ h0.next) (hc : Clos l ls) (hsz : ls.size = l.length) {i : Nat} {o : Oper} {s : Step} (ho : l[i]? = some o) (hs : ss[i]? = some s) (he : effB o.op = true) (hfl : fl i = false)
  (hu : ls.getD i false = false) (hd : ∀ d ∈ directs o, ls.getD d false = true) {ρ' : Val} {w' : World} (hE : Ext s.h.next ρ ρ') (hs' : SatX B (FA F w ρ (PM ss fl ls i)) C.G s.h' ρ' w') :
  WF B F C l fl ss hf (ls.setIfInBounds i true) w' (glue s.h'.next ρ' ρ) (i + 1) := by
 have hbi := I.ble ho he hu
 obtain ⟨k1, k2, k3, _⟩ := K.nxs hs
 have k3 := k3 hfl
 have hil : i < ls.size := by rw [hsz]; exact (List.getElem?_eq_some_iff.1 ho).1
 have hFn : ∀ x, FA F w ρ (PM ss fl ls i) x = none → F x = none := fun x hx => by
  cases hF : F x with
  | none => rfl
  | some ob =>
   rw [FA.le (fun nm ⟨j, sj, oj, h1, h2⟩ => (I.ob nm oj (.inr ⟨j, sj, by omega, h2⟩)).1) hF] at hx
   cases hx
 have back : ∀ {j : Nat}, i + 1 ≤ j → (ls.setIfInBounds i true).getD j false = true → ls.getD j false = true := fun {j} h1 h2 => by
  rw [getD_set_ne false (by omega)] at h2; exact h2
 have mcase : ∀ nm o', MF hf ss fl (ls.setIfInBounds i true) (i + 1) nm o' → s.h'.get nm = some o' ∨ (PM ss fl ls i nm ∧ MF hf ss fl ls b nm o' ∧ ∃ j sj, i < j ∧ ls.getD j false = true ∧ ss[j]? = some sj ∧ fl j = true ∧ sj.h'.get nm = some o') := fun nm o' h => by
  rcases h with h | ⟨j, sj, h1, h2, h3, h4, h5⟩
  ·rw [k3] at h; exact .inl h
  ·have h2' := back h1 h2
   exact .inr ⟨⟨j, sj, o', by omega, h2', h3, h4, h5⟩, .inr ⟨j, sj, by omega, h2', h3, h4, h5⟩, ⟨j, sj, by omega, h2', h3, h4, h5⟩⟩
 have nlo : ∀ nm o', s.h'.get nm = some o' → (glue s.h'.next ρ' ρ).b nm = ρ'.b nm := fun nm o' hg => (glue_lo (hs'.ob nm o' hg).2.1).1
 have nhi : ∀ nm, PM ss fl ls i nm → (glue s.h'.next ρ' ρ).b nm = ρ.b nm ∧ (glue s.h'.next ρ' ρ).c nm = ρ.c nm := fun nm h => glue_hi (by have := h.ge K; rw [k2] at this; exact this)
 refine ⟨fun e oe hoe hee hlt => ?_, fun e oe hoe hee hge hfe => ?_, chs_mem ho he hfl, hs'.os, hs'.output, hs'.tape, fun x ob hF => hs'.fr x ob (FA.le (fun nm ⟨j, sj, oj, h1, h2⟩ => (I.ob nm oj (.inr ⟨j, sj, by omega, h2⟩)).1) hF),
  fun nm o' h => ?_, fun nm o' hg => ?_, fun j sj nm o' h1 h2 h3 h4 h5 => I.wfd j sj nm o' (by omega) (back h1 h2) h3 h4 h5, fun nm nm' o1 o2 h1 h2 hb => ?_, fun g hg => ?_⟩
 ·by_cases e1 : e = i
  ·subst e1; exact getD_self hil
  ·exact getD_set_true (anc_ready hc ho hd (K.ch i o e oe ho he hfl (by omega) hoe hee))
 ·cases hl : (ls.setIfInBounds i true).getD e false with
  | false => rfl
  | true =>
   have hl' := back hge hl
   have := anc_listed hc e i hl' (K.ch e oe i o hoe hee hfe (by omega) ho he)
   rw [hu] at this
   cases this
 ·rcases mcase nm o' h with hg | ⟨hp, hm, j, sj, h1, h2, h3, h4, h5⟩
  ·obtain ⟨q1, q2, q3, obj, q4, q5⟩ := hs'.ob nm o' hg
   rw [nlo nm o' hg]
   exact ⟨hFn _ q1, obj, q4, is_ext glue_ext q2 q3 q5⟩
  ·obtain ⟨q1, obj, q2, q3⟩ := I.ob nm o' hm
   obtain ⟨r1, r2⟩ := nhi nm hp
   rw [r1]
   refine ⟨q1, obj, hs'.fr _ _ (by rw [FA.at hp]; exact q2), ?_⟩
   obtain ⟨oj, p1, _⟩ := K.L.at.2.2 j sj h3
   have ha : anc (masks l []) j i = false := by
    cases ha : anc (masks l []) j i with
    | false => rfl
    | true => have := anc_listed hc j i h2 ha; rw [hu] at this; cases this
   refine is_okv (fun k hk => ?_) r2 (okT_get ((K.ck j oj sj p1 h3).2.2.1 h4).2 h5) q3
   have := K.p_out (i := i) hk (by omega) ha
   rw [k1, k2] at this
   exact glue_out hE this
 ·rw [k3] at hg ⊢
  obtain ⟨q1, q2, q3, _⟩ := hs'.ob nm o' hg
  exact ⟨q2, q3⟩
 ·rcases mcase nm o1 h1 with g1 | ⟨p1, m1, _⟩ <;> rcases mcase nm' o2 h2 with g2 | ⟨p2, m2, _⟩
  ·rw [nlo nm o1 g1, nlo nm' o2 g2] at hb
   exact hs'.inj nm nm' o1 o2 g1 g2 hb
  ·rw [nlo nm o1 g1, (nhi nm' p2).1] at hb
   have := (hs'.ob nm o1 g1).1
   obtain ⟨_, obj, q, _⟩ := I.ob nm' o2 m2
   rw [hb, FA.at p2, q] at this
   cases this
  ·rw [(nhi nm p1).1, nlo nm' o2 g2] at hb
   have := (hs'.ob nm' o2 g2).1
   obtain ⟨_, obj, q, _⟩ := I.ob nm o1 m1
   rw [← hb, FA.at p1, q] at this
   cases this
  ·rw [(nhi nm p1).1, (nhi nm' p2).1] at hb
   exact I.inj nm nm' o1 o2 m1 m2 hb
 ·have h1 := K.nx (i := 0) (j := i) (Nat.zero_le _)
  have h2 := K.nx1 i
  rw [K.at0, k1] at h1
  rw [k1, k2] at h2
  rw [(glue_lo (by omega)).1, (hE g (by omega)).1]
  exact I.gl g hg
/-- Behind an effect out of the chain. -/
theorem WF.float (I : WF B F C l fl ss hf ls w ρ b) (K : HF C n call l fl ss E0 h0 Ef hf) (hg0 : C.G.N ≤ h0.next) (hc : Clos l ls) {i : Nat} {s : Step} (hs : ss[i]? = some s) (hfl : fl i = true)
  (hu : ls.getD i false = false) {ρ' : Val} {w' : World} (hE : Ext s.h.next ρ ρ') (hs' : SatX B (fun x => w.heap[x]?) C.G s.h' ρ' w') :
  WF B F C l fl ss hf (ls.setIfInBounds i true) w' (glue s.h'.next ρ' ρ) b := by
 obtain ⟨o, ho, he⟩ := K.fe i hfl
 have hbi := I.ble ho he hu
 obtain ⟨k1, k2, _, _⟩ := K.nxs hs
 have mcase : ∀ nm o', MF hf ss fl (ls.setIfInBounds i true) b nm o' → s.h'.get nm = some o' ∨ MF hf ss fl ls b nm o' := fun nm o' h => by
  rcases h with h | ⟨j, sj, h1, h2, h3, h4, h5⟩
  ·exact .inr (.inl h)
  ·rcases getD_set_cases h2 with rfl | h2
   ·rw [hs] at h3; cases h3; exact .inl h5
   ·exact .inr (.inr ⟨j, sj, h1, h2, h3, h4, h5⟩)
 have out : ∀ nm o', MF hf ss fl ls b nm o' → ((glue s.h'.next ρ' ρ).b nm = ρ.b nm ∧ (glue s.h'.next ρ' ρ).c nm = ρ.c nm) ∧ ∀ obj, o'.is ρ nm obj → o'.is (glue s.h'.next ρ' ρ) nm obj := fun nm o' h => by
  rcases h with h | ⟨j, sj, h1, h2, h3, h4, h5⟩
  ·obtain ⟨q1, q2⟩ := I.wfb nm o' h
   have hx : Ext (hAtF hf ss b).next ρ (glue s.h'.next ρ' ρ) := fun k hk => glue_out hE (by have := K.nx hbi; rw [k1] at this; omega)
   exact ⟨hx nm q1, fun obj hi => is_ext hx q1 q2 hi⟩
  ·obtain ⟨oj, p1, _⟩ := K.L.at.2.2 j sj h3
   have hne : j ≠ i := fun e => by subst e; rw [hu] at h2; cases h2
   have ha : anc (masks l []) j i = false := by
    cases ha : anc (masks l []) j i with
    | false => rfl
    | true => have := anc_listed hc j i h2 ha; rw [hu] at this; cases this
   obtain ⟨c1, c2⟩ := (K.ck j oj sj p1 h3).2.2.1 h4
   have hlo := geT_get c1 h5
   have hhi := (I.wfd j sj nm o' h1 h2 h3 h4 h5).1
   have hnm : (glue s.h'.next ρ' ρ).b nm = ρ.b nm ∧ (glue s.h'.next ρ' ρ).c nm = ρ.c nm := glue_out hE (by
    obtain ⟨r1, r2, _⟩ := K.nxs h3
    rcases Nat.lt_or_ge j i with hlt | hge
    ·have := K.nx (i := j + 1) (j := i) (by omega)
     rw [r2, k1] at this
     omega
    ·have := K.nx (i := i + 1) (j := j) (by omega)
     rw [r1, k2] at this
     omega)
   refine ⟨hnm, fun obj hi => is_okv (fun k hk => ?_) hnm.2 (okT_get c2 h5) hi⟩
   have := K.p_out (i := i) hk hne ha
   rw [k1, k2] at this
   exact glue_out hE this
 have nlo : ∀ nm o', s.h'.get nm = some o' → (glue s.h'.next ρ' ρ).b nm = ρ'.b nm := fun nm o' hg => (glue_lo (hs'.ob nm o' hg).2.1).1
 refine ⟨fun e oe hoe hee hlt => getD_set_true (I.lo e oe hoe hee hlt), fun e oe hoe hee hge hfe => ?_, I.bm, hs'.os, hs'.output, hs'.tape, fun x ob hF => hs'.fr x ob (I.fr x ob hF),
  fun nm o' h => ?_, I.wfb, fun j sj nm o' h1 h2 h3 h4 h5 => ?_, fun nm nm' o1 o2 h1 h2 hb => ?_, fun g hg => ?_⟩
 ·rw [getD_set_ne false (fun e' => by subst e'; rw [hfl] at hfe; cases hfe)]
  exact I.hi e oe hoe hee hge hfe
 ·rcases mcase nm o' h with hg | hm
  ·obtain ⟨q1, q2, q3, obj, q4, q5⟩ := hs'.ob nm o' hg
   rw [nlo nm o' hg]
   refine ⟨?_, obj, q4, is_ext glue_ext q2 q3 q5⟩
   cases hF : F (ρ'.b nm) with
   | none => rfl
   | some ob => have := I.fr _ _ hF; rw [this] at q1; cases q1
  ·obtain ⟨q1, obj, q2, q3⟩ := I.ob nm o' hm
   obtain ⟨r1, r2⟩ := out nm o' hm
   rw [r1.1]
   exact ⟨q1, obj, hs'.fr _ _ q2, r2 obj q3⟩
 ·rcases getD_set_cases h2 with rfl | h2
  ·rw [hs] at h3
   cases h3
   obtain ⟨q1, q2, q3, _⟩ := hs'.ob nm o' h5
   exact ⟨q2, q3⟩
  ·exact I.wfd j sj nm o' h1 h2 h3 h4 h5
 ·rcases mcase nm o1 h1 with g1 | m1 <;> rcases mcase nm' o2 h2 with g2 | m2
  ·rw [nlo nm o1 g1, nlo nm' o2 g2] at hb
   exact hs'.inj nm nm' o1 o2 g1 g2 hb
  ·rw [nlo nm o1 g1, (out nm' o2 m2).1.1] at hb
   have := (hs'.ob nm o1 g1).1
   obtain ⟨_, obj, q, _⟩ := I.ob nm' o2 m2
   simp only [hb, q] at this
   cases this
  ·rw [(out nm o1 m1).1.1, nlo nm' o2 g2] at hb
   have := (hs'.ob nm' o2 g2).1
   obtain ⟨_, obj, q, _⟩ := I.ob nm o1 m1
   simp only [← hb, q] at this
   cases this
  ·rw [(out nm o1 m1).1.1, (out nm' o2 m2).1.1] at hb
   exact I.inj nm nm' o1 o2 m1 m2 hb
 ·have h1 := K.nx (i := 0) (j := i) (Nat.zero_le _)
  rw [K.at0, k1] at h1
  rw [(glue_out hE (by omega)).1]
  exact I.gl g hg
/-- Nothing of the heap is turned. -/
theorem WF.quiet (I : WF B F C l fl ss hf ls w ρ b) {i : Nat} (h1 : ∀ s nm, ss[i]? = some s → fl i = true → s.h'.get nm = none) (h2 : ∀ o, l[i]? = some o → effB o.op = true → fl i = true) : WF B F C l fl ss hf (ls.setIfInBounds i true) w ρ b := by
 have mcase : ∀ nm o', MF hf ss fl (ls.setIfInBounds i true) b nm o' → MF hf ss fl ls b nm o' := fun nm o' h => by
  rcases h with h | ⟨j, sj, q1, q2, q3, q4, q5⟩
  ·exact .inl h
  ·rcases getD_set_cases q2 with rfl | q2
   ·rw [h1 sj nm q3 q4] at q5; cases q5
   ·exact .inr ⟨j, sj, q1, q2, q3, q4, q5⟩
 refine ⟨fun e oe hoe hee hlt => getD_set_true (I.lo e oe hoe hee hlt), fun e oe hoe hee hge hfe => ?_, I.bm, I.os, I.output, I.tape, I.fr, fun nm o' h => I.ob nm o' (mcase nm o' h), I.wfb, fun j sj nm o' q1 q2 q3 q4 q5 => ?_,
  fun nm nm' o1 o2 q1 q2 hb => I.inj nm nm' o1 o2 (mcase _ _ q1) (mcase _ _ q2) hb, I.gl⟩
 ·rw [getD_set_ne false (fun e' => by subst e'; rw [h2 oe hoe hee] at hfe; cases hfe)]
  exact I.hi e oe hoe hee hge hfe
 ·rcases getD_set_cases q2 with rfl | q2
  ·rw [h1 sj nm q3 q4] at q5; cases q5
  ·exact I.wfd j sj nm o' q1 q2 q3 q4 q5
end
end Go.Xs
end
section
namespace Go.Xs
open Go.RowKit
/-- What is told of calls is right, whatever lies beside. -/
def CallAll (B : World) (C : Ctx) (call : Nat → List Value → Hp → FR) : Prop := ∀ F, C.OK F → CallOK B F C call
structure InvF (B : World) (F : PH) (C : Ctx) (n : Nat) (l : List Oper) (ds : List SDef) (fl : Nat → Bool) (ss : List Step) (E0 : Env) (h0 hf : Hp) (ρ0 : Val) (ls : Array Bool) (a : Act) (w : World) (ρ : Val) (b : Nat) : Prop where
 size : ls.size = l.length
 clos : Clos l ls
 wf : WF B F C l fl ss hf ls w ρ b
 ext : Ext h0.next ρ0 ρ
 tsize : a.tmps.size = n
 tdef : a.defers = ds.map (renD ρ)
 s1 : ∀ j s o t, ls.getD j false = true → ss[j]? = some s → l[j]? = some o → o.dst = some t → a.tmps[t]? = some (ren ρ s.v)
 s0 : ∀ t v, (∀ j o, ls.getD j false = true → l[j]? = some o → o.dst ≠ some t) → E0.lk t = some v → a.tmps[t]? = some (ren ρ v)
section
variable {B : World} {F : PH} {C : Ctx} {n : Nat} {call : Nat → List Value → Hp → FR} {l : List Oper} {ds : List SDef} {fl : Nat → Bool} {ss : List Step} {E0 Ef : Env} {h0 hf : Hp} {ρ0 : Val} {ls : Array Bool} {a : Act} {w : World} {ρ : Val} {b : Nat}
theorem step1_eff (hC : C.OK F) (hF : C.FOK) (hcall : CallOK B F C call) {H h' : Hp} {er : Env} {o : Oper} {v : Value} (s : SatX B F C.G H ρ w) (A : AgrX H.next ρ n ds er a) (hw : wtX l er o.guard = some true) (he : effB o.op = true)
  (h1 : step1 C call l o er H = .go v h') {K : Act → World → Prop} {Q : Exit → Act → World → Prop} (k : ∀ ρ' w', Ext H.next ρ ρ' → SatX B F C.G h' ρ' w' → K (a.put o.dst (ren ρ' v)) w') : o.wp C.P a w K Q := by
 unfold step1 at h1
 rw [hw] at h1
 simp only [he, cond_true] at h1
 unfold Oper.wp
 cases hx : xop C er H o with
 | none => rw [hx] at h1; cases h1
 | some r =>
  have hr := xop_ok s hC hF A hx
  rw [hx] at h1
  cases r with
  | val v1 h1' =>
   simp only [StepR.go.injEq] at h1
   obtain ⟨rfl, rfl⟩ := h1
   obtain ⟨ρ', w', q1, q2, q3, q4, q5⟩ := hr
   rw [q1]
   exact k ρ' w' q2 q5
  | unit h1' =>
   simp only [StepR.go.injEq] at h1
   obtain ⟨hv, rfl⟩ := h1
   obtain ⟨w', q1, q2, q3⟩ := hr
   rw [q1]
   have := k ρ w' (Ext.refl _ _) q3
   rw [← hv, ren_undef] at this
   exact this
  | pan v => cases h1
  | dfr d => cases h1
  | call f args =>
   obtain ⟨q1, q2⟩ := hr
   rw [q1]
   have hc' : ∀ t, call f args H ≠ .no t := fun t e => by simp only [e] at h1; cases h1
   refine (hcall f args H ρ w hc' q2 s).mono fun e w' hq => ?_
   simp only at h1
   cases hcr : call f args H with
   | no t => exact absurd hcr (hc' t)
   | ret v1 h1' =>
    rw [hcr] at hq h1
    simp only [StepR.go.injEq] at h1
    obtain ⟨rfl, rfl⟩ := h1
    obtain ⟨ρ', rfl, q2, q3, q4, q5⟩ := hq
    exact k ρ' w' q2 q5
   | pan v1 h1' => rw [hcr] at h1; cases h1
theorem InvF.agr (I : InvF B F C n l ds fl ss E0 h0 hf ρ0 ls a w ρ b) (K : HF C n call l fl ss E0 h0 Ef hf) (hE0 : ∀ t v, E0.lk t = some v → wfv h0.next v = true) (hds : ∀ d ∈ ds, wfL h0.next d.cap = true ∧ wfL h0.next d.args = true)
  {i : Nat} {o : Oper} (ho : l[i]? = some o) (hd : ∀ d ∈ directs o, ls.getD d false = true) {EE : Env} (hE : ∀ t v, EE.lk t = some v → From l ss E0 i t v) {m : Nat} (hm : (hAtF hf ss i).next ≤ m) : AgrX m ρ n ds (restr EE (readsX l o)) a := by
 have h0m : h0.next ≤ m := by
  have := K.nx (i := 0) (j := i) (Nat.zero_le _)
  rw [K.at0] at this
  omega
 refine ⟨I.tsize, I.tdef, fun d hd => ⟨wfL_mono h0m _ (hds d hd).1, wfL_mono h0m _ (hds d hd).2⟩, fun t v hv => ?_⟩
 obtain ⟨ht, hv⟩ := restr_ok hv
 have hrd := (K.rd i o ho).1
 rcases hE t v hv with ⟨j, sj, oj, h1, h2, h3, h4, rfl⟩ | ⟨h1, h2⟩
 ·refine ⟨okv_wfv (fun k hk => ?_) _ (K.ck j oj sj h3 h2).2.1, I.s1 j sj oj t (anc_ready I.clos ho hd (hrd t ht j oj h3 h4).2) h2 h3 h4⟩
  have := K.p_lt hk
  have := K.nx (i := j + 1) (j := i) (by omega)
  omega
 ·exact ⟨wfv_mono h0m _ (hE0 t v h2), I.s0 t v (fun j oj _ hj hdj => h1 j oj (hrd t ht j oj hj hdj).1 hj hdj) h2⟩
theorem InvF.step (I : InvF B F C n l ds fl ss E0 h0 hf ρ0 ls a w ρ b) (K : HF C n call l fl ss E0 h0 Ef hf) (hE0 : ∀ t v, E0.lk t = some v → wfv h0.next v = true) (hds : ∀ d ∈ ds, wfL h0.next d.cap = true ∧ wfL h0.next d.args = true)
  {i : Nat} {o : Oper} {s : Step} (ho : l[i]? = some o) (hs : ss[i]? = some s) (hu : ls.getD i false = false) (hd : ∀ d ∈ directs o, ls.getD d false = true) {ρ' : Val} {w' : World} {b' : Nat}
  (hout : ∀ k, ¬ ((hAtF hf ss i).next ≤ k ∧ k < (hAtF hf ss (i + 1)).next) → ρ'.b k = ρ.b k ∧ ρ'.c k = ρ.c k) (hw : WF B F C l fl ss hf (ls.setIfInBounds i true) w' ρ' b') :
  InvF B F C n l ds fl ss E0 h0 hf ρ0 (ls.setIfInBounds i true) (a.put o.dst (ren ρ' s.v)) w' ρ' b' := by
 have hil : i < ls.size := by rw [I.size]; exact (List.getElem?_eq_some_iff.1 ho).1
 have h0i : h0.next ≤ (hAtF hf ss i).next := by
  have := K.nx (i := 0) (j := i) (Nat.zero_le _)
  rw [K.at0] at this
  exact this
 have hx : Ext h0.next ρ ρ' := fun k hk => hout k (by omega)
 have same : ∀ t, o.dst ≠ some t → (a.put o.dst (ren ρ' s.v)).tmps[t]? = a.tmps[t]? := fun t ht => by
  cases hdd : o.dst with
  | none => rfl
  | some u =>
   rw [hdd] at ht
   simp only [Act.put]
   exact Array.getElem?_setIfInBounds_ne fun e => ht (by rw [e])
 refine ⟨by simp [I.size], I.clos.set ho hd, hw, I.ext.trans hx (Nat.le_refl _), ?_, ?_, fun j sj oj t hj hsj hoj ht => ?_, fun t v hno hv0 => ?_⟩
 ·cases hdd : o.dst <;> simp [Act.put, I.tsize]
 ·have : (a.put o.dst (ren ρ' s.v)).defers = a.defers := by cases o.dst <;> rfl
  rw [this, I.tdef]
  refine List.map_congr_left fun d hd' => ?_
  simp only [renD, renL_ext hx _ (hds d hd').1, renL_ext hx _ (hds d hd').2]
 ·by_cases e : i = j
  ·subst e
   rw [hs] at hsj
   cases hsj
   rw [ho] at hoj
   cases hoj
   obtain ⟨o', h1, _, ⟨E', hp⟩, _⟩ := K.L.at.2.2 i s hs
   rw [ho] at h1
   cases h1
   rw [ht] at hp ⊢
   simp only [putX] at hp
   cases hb : Nat.blt t n with
   | false => rw [hb] at hp; cases hp
   | true =>
    rw [Nat.blt_eq] at hb
    simp [Act.put, I.tsize, hb]
  ·rw [getD_set_ne false e] at hj
   have h1 := I.s1 j sj oj t hj hsj hoj ht
   have ha : anc (masks l []) j i = false := by
    cases ha : anc (masks l []) j i with
    | false => rfl
    | true => have := anc_listed I.clos j i hj ha; rw [hu] at this; cases this
   rw [same t (fun e' => e (K.dst i j o oj t ho hoj e' ht)), h1, ren_okv (fun k hk => hout k (K.p_out hk (fun e' => e e'.symm) ha)) _ (K.ck j oj sj hoj hsj).2.1]
 ·have hne : o.dst ≠ some t := hno i o (getD_self hil) ho
  rw [same t hne, I.s0 t v (fun j oj hj hoj => hno j oj (getD_set_true hj) hoj) hv0, ren_ext hx _ (hE0 t v hv0)]
theorem open_anyF (hC : C.OK F) (hF : C.FOK) (hcall : CallAll B C call) (K : HF C n call l fl ss E0 h0 Ef hf) (hg0 : C.G.N ≤ h0.next) (hE0 : ∀ t v, E0.lk t = some v → wfv h0.next v = true) (hds : ∀ d ∈ ds, wfL h0.next d.cap = true ∧ wfL h0.next d.args = true)
  {Q : Exit → Act → World → Prop} (hQ : ∀ ls a w ρ b, InvF B F C n l ds fl ss E0 h0 hf ρ0 ls a w ρ b → (∀ i, i < l.length → ls.getD i false = true) → Q .normal a w) :
  ∀ (fuel : Nat) (ls : Array Bool) (a : Act) (w : World) (ρ : Val) (b : Nat), InvF B F C n l ds fl ss E0 h0 hf ρ0 ls a w ρ b → (List.range l.length).countP (fun i => !ls.getD i false) ≤ fuel → wpAny C.P .any l.toArray Q fuel ls a w := by
 have hall : ∀ ls : Array Bool, (List.range l.length).countP (fun i => !ls.getD i false) ≤ 0 → ∀ i, i < l.length → ls.getD i false = true := fun ls h i hi => by
  have := List.countP_eq_zero.1 (Nat.le_zero.1 h) i (List.mem_range.2 hi)
  simpa using this
 intro fuel
 induction fuel with
 | zero =>
  intro ls a w ρ b I hc
  have hl := hall ls hc
  refine ⟨?_, hQ ls a w ρ b I hl⟩
  refine List.eq_nil_iff_forall_not_mem.2 fun i hi => ?_
  obtain ⟨o, ho, hu, _⟩ := ready_spec hi
  have hil := (List.getElem?_eq_some_iff.1 ho).1
  have h1 := hl i hil
  have hls : i < ls.size := by rw [I.size]; exact hil
  rw [Array.getD_eq_getD_getElem?, Array.getElem?_eq_getElem hls] at hu h1
  simp only [Option.getD_some] at hu h1
  rw [hu] at h1
  cases h1
 | succ fuel ih =>
  intro ls a w ρ b I hc
  refine ⟨fun hr => hQ ls a w ρ b I (all_listed I.size (fun i o ho => (K.rd i o ho).2) hr), fun i hi => ?_⟩
  obtain ⟨o, ho, hu, hd⟩ := ready_spec hi
  have hil := (List.getElem?_eq_some_iff.1 ho).1
  have hls : i < ls.size := by rw [I.size]; exact hil
  have hu' : ls.getD i false = false := by
   rw [Array.getD_eq_getD_getElem?, Array.getElem?_eq_getElem hls] at hu ⊢
   simpa using hu
  have hdec : (List.range l.length).countP (fun j => !(ls.setIfInBounds i true).getD j false) ≤ fuel := by
   have := countP_lt (p := fun j => !(ls.setIfInBounds i true).getD j false) (q := fun j => !ls.getD j false) (x := i) (fun j hj => by
    by_cases e : i = j
    ·subst e
     rw [getD_self hls] at hj
     cases hj
    ·rw [getD_set_ne false e] at hj
     exact hj) (by rw [hu']; rfl) (by rw [getD_self hls]; rfl) (List.mem_range.2 hil)
   omega
  have hoA : l.toArray[i]? = some o := by simpa using ho
  unfold wpOp
  rw [hoA]
  simp only
  obtain ⟨s, hs⟩ : ∃ s, ss[i]? = some s := ⟨ss[i]'(by rw [K.L.at.1]; exact hil), List.getElem?_eq_getElem _⟩
  obtain ⟨o', ho', h1, ⟨E', hput⟩, her, _⟩ := K.L.at.2.2 i s hs
  rw [ho] at ho'
  cases ho'
  rw [Nat.zero_add] at h1
  obtain ⟨k1, k2, k3, k4⟩ := K.nxs hs
  have A : ∀ m, s.h.next ≤ m → AgrX m ρ n ds s.er a := fun m hm => by
   rw [her]
   exact I.agr K hE0 hds ho hd (K.L.env.1 i s hs) (by rw [k1]; exact hm)
  have hGi : C.G.N ≤ s.h.next := by
   have := K.nx (i := 0) (j := i) (Nat.zero_le _)
   rw [K.at0, k1] at this
   exact Nat.le_trans hg0 this
  have wfall : ∀ T : Tr SObj, (∀ nm o, T.get nm nm = some o → MF hf ss fl ls b nm o) → SatX B F C.G ⟨T, hf.next⟩ ρ w := fun T hT => I.wf.satx (fun nm o hg => ⟨hT nm o hg, I.wf.wf K (hT nm o hg)⟩) (Nat.le_trans hg0 (by have := K.nxf 0; rw [K.at0] at this; exact this))
  have hnf : s.h.next ≤ hf.next := by have := K.nxf i; rw [k1] at this; exact this
  -- an effect that comes up
  have stepE : ∀ {ρ' : Val} {w' : World} {b' : Nat}, Ext s.h.next ρ ρ' → WF B F C l fl ss hf (ls.setIfInBounds i true) w' (glue s.h'.next ρ' ρ) b' → InvF B F C n l ds fl ss E0 h0 hf ρ0 (ls.setIfInBounds i true) (a.put o.dst (ren (glue s.h'.next ρ' ρ) s.v)) w' (glue s.h'.next ρ' ρ) b' := fun hE hw =>
   I.step K hE0 hds ho hs hu' hd (fun k hk => glue_out hE (by rw [k1, k2] at hk; exact hk)) hw
  have hvw : wfv s.h'.next s.v = true := okv_wfv (fun k hk => by have := K.p_lt hk; rw [k2] at this; exact this) _ (K.ck i o s ho hs).2.1
  have glv : ∀ ρ' : Val, ren (glue s.h'.next ρ' ρ) s.v = ren ρ' s.v := fun ρ' => ren_ext glue_ext _ hvw
  cases hw : wtX l s.er o.guard with
  | none => unfold step1 at h1; rw [hw] at h1; cases h1
  | some wb =>
   rw [wtX_wanted (A _ (Nat.le_refl _)) hw]
   cases wb with
   | false =>
    simp only [Bool.false_eq_true, if_false]
    have h1' := h1
    unfold step1 at h1'
    rw [hw] at h1'
    simp only [StepR.go.injEq] at h1'
    obtain ⟨hv, hh⟩ := h1'
    cases he : effB o.op with
    | true =>
     cases hfl : fl i with
     | true =>
      rw [hfl] at hh
      simp only [cond_true] at hh
      have := I.step K hE0 hds ho hs hu' hd (fun k _ => ⟨rfl, rfl⟩) (I.wf.quiet (i := i) (fun s' nm hs' _ => by
       rw [hs] at hs'
       cases hs'
       rw [← hh]
       simp [Hp.get, Tr.get]) (fun _ _ _ => hfl))
      rw [← hv, ren_undef] at this
      exact ih _ _ _ _ _ this hdec
     | false =>
      rw [hfl] at hh
      simp only [cond_false] at hh
      have hS := I.wf.sat K hg0 I.clos ho hs he hfl hu' hd
      have hW := I.wf.chain K hg0 I.clos I.size ho hs he hfl hu' hd (Ext.refl _ ρ) (by rw [← hh]; exact hS)
      have := stepE (Ext.refl _ ρ) hW
      rw [glv, ← hv, ren_undef] at this
      exact ih _ _ _ _ _ this hdec
    | false =>
     have hfl : fl i = false := by
      cases hfl : fl i with
      | false => rfl
      | true => obtain ⟨o2, p1, p2⟩ := K.fe i hfl; rw [ho] at p1; cases p1; rw [he] at p2; cases p2
     have := I.step K hE0 hds ho hs hu' hd (fun k _ => ⟨rfl, rfl⟩) (I.wf.quiet (i := i) (fun _ _ _ h => by rw [hfl] at h; cases h) (fun o2 p1 p2 => by rw [ho] at p1; cases p1; rw [he] at p2; cases p2))
     rw [← hv, ren_undef] at this
     exact ih _ _ _ _ _ this hdec
   | true =>
    simp only [if_true]
    refine .inl ?_
    cases he : effB o.op with
    | true =>
     cases hfl : fl i with
     | true =>
      rw [hfl] at h1
      simp only [cond_true] at h1
      have hCW : C.OK (fun x => w.heap[x]?) := fun g lg hg hlg j v hj => ⟨(hC g lg hg hlg j v hj).1, fun ρ2 w2 hρ hw2 => (hC g lg hg hlg j v hj).2 ρ2 w2 hρ fun x ob hx => hw2 x ob (I.wf.fr x ob hx)⟩
      have hS : SatX B (fun x => w.heap[x]?) C.G (.mt s.h.next) ρ w := ⟨I.wf.os, I.wf.output, I.wf.tape, fun _ _ h => h, fun nm o2 hg => by simp [Hp.get, Tr.get] at hg, fun nm _ o2 _ hg => by simp [Hp.get, Tr.get] at hg, I.wf.gl, hGi⟩
      refine step1_eff hCW hF (hcall _ hCW) hS (A _ (Nat.le_refl _)) hw he h1 fun ρ' w' hE hS' => ?_
      have := stepE hE (I.wf.float K hg0 I.clos hs hfl hu' hE hS')
      rw [glv] at this
      exact ih _ _ _ _ _ this hdec
     | false =>
      rw [hfl] at h1
      simp only [cond_false] at h1
      have hS := I.wf.sat K hg0 I.clos ho hs he hfl hu' hd
      have hCA : C.OK (FA F w ρ (PM ss fl ls i)) := fun g lg hg hlg j v hj => ⟨(hC g lg hg hlg j v hj).1, fun ρ2 w2 hρ hw2 => (hC g lg hg hlg j v hj).2 ρ2 w2 hρ fun x ob hx => hw2 x ob (FA.le (fun nm ⟨j, sj, oj, p1, p2⟩ => (I.wf.ob nm oj (.inr ⟨j, sj, by have := I.wf.ble ho he hu'; omega, p2⟩)).1) hx)⟩
      refine step1_eff hCA hF (hcall _ hCA) hS (A _ (Nat.le_refl _)) hw he h1 fun ρ' w' hE hS' => ?_
      have := stepE hE (I.wf.chain K hg0 I.clos I.size ho hs he hfl hu' hd hE hS')
      rw [glv] at this
      exact ih _ _ _ _ _ this hdec
    | false =>
     have hfl : fl i = false := by
      cases hfl : fl i with
      | false => rfl
      | true => obtain ⟨o2, p1, p2⟩ := K.fe i hfl; rw [ho] at p1; cases p1; rw [he] at p2; cases p2
     rw [hfl] at h1
     simp only [cond_false] at h1
     have hx0 : xq C s.er s.h o = some s.v := by
      unfold step1 at h1
      rw [hw] at h1
      simp only [he, cond_false] at h1
      split at h1
      ·rename_i v hv
       simp only [StepR.go.injEq] at h1
       rw [← h1.1]
       exact hv
      ·cases h1
     have hx : ∃ T : Tr SObj, (∀ nm o, T.get nm nm = some o → MF hf ss fl ls b nm o) ∧ xq C s.er ⟨T, hf.next⟩ o = some s.v := by
      cases hlk : lookB o.op with
      | false => exact ⟨.lf, fun nm o hg => by simp [Tr.get] at hg, by rw [xq_still hlk (h' := s.h)]; exact hx0⟩
      | true =>
       have hch := (K.ck i o s ho hs).2.2.2 hlk he hw
       refine ⟨_, fun nm o2 hg => ?_, chkL_spec hch b I.wf.bm (okB_of fun e hec => ?_)⟩
       ·rcases kT_spec hg with hg | ⟨j, sj, _, p2, p3, p4, p5, p6⟩
        ·exact .inl hg
        ·rw [Nat.sub_zero] at p2
         exact .inr ⟨j, sj, p4, anc_ready I.clos ho hd p5, p2, p3, p6⟩
       ·obtain ⟨oe, p1, p2, p3⟩ := K.chs hec
        refine ⟨fun ha => ?_, fun ha => ?_⟩
        ·have hl := anc_ready I.clos ho hd ha
         rcases Nat.lt_or_ge e b with hlt | hge
         ·exact hlt
         ·rw [I.wf.hi e oe p1 p2 hge p3] at hl; cases hl
        ·rcases Nat.lt_or_ge e b with hlt | hge
         ·have := anc_listed I.clos e i (I.wf.lo e oe p1 p2 hlt) ha
          rw [hu'] at this
          cases this
         ·exact hge
     obtain ⟨T, hT, hx⟩ := hx
     obtain ⟨q1, q2⟩ := xq_ok (wfall T hT) hC (A _ hnf) hx
     unfold Oper.wp
     rw [q2]
     exact ih _ _ _ _ _ (I.step K hE0 hds ho hs hu' hd (fun k _ => ⟨rfl, rfl⟩) (I.wf.quiet (i := i) (fun _ _ _ h => by rw [hfl] at h; cases h) (fun o2 p1 p2 => by rw [ho] at p1; cases p1; rw [he] at p2; cases p2))) hdec
/-- A region whose order is open, whole. -/
theorem runOpenF_ok (hm : C.P.follows .mixedOrders = true) (hC : C.OK F) (hF : C.FOK) (hcall : CallAll B C call) {id : Nat} {E : Env} {h : Hp} (A : AgrX h.next ρ n ds E a) (s : SatX B F C.G h ρ w) (hno : ∀ t, runOpenF C n call l E ds h ≠ .no t) :
  (Code.region id ⟨l⟩ true).wp C.P ((runOpenF C n call l E ds h).Q B F C.G ρ h.next n) a w := by
 refine wp_region_any hm ?_
 have hszl : (⟨l⟩ : Array Oper).size = l.length := by simp
 rw [hszl]
 have s' := s.drawn (w.drawn + 1)
 generalize ({ w with drawn := w.drawn + 1 } : World) = w' at s'
 clear s
 have fuel0 : (List.range l.length).countP (fun i => !(Array.replicate l.length false).getD i false) ≤ l.length := by
  refine Nat.le_trans List.countP_le_length ?_
  simp
 unfold runOpenF at hno ⊢
 cases hst : dstB l && rdB (masks l []) l 0 l with
 | false => rw [hst] at hno; exact absurd rfl (hno _)
 | true =>
  rw [hst] at hno
  simp only [cond_true] at hno ⊢
  rw [Bool.and_eq_true] at hst
  cases hc : canonF C n call l (flB (masks l []) l) 0 l E h with
  | no t => rw [hc] at hno; exact absurd rfl (hno _)
  | pan ss v h' => rw [hc] at hno; exact absurd rfl (hno _)
  | fin ss Ef hf =>
   rw [hc] at hno
   simp only at hno ⊢
   cases hck : chkF C (masks l []) (flB (masks l []) l) l h.next (rngs 0 ss) hf ss 0 l ss with
   | false => rw [hck] at hno; exact absurd rfl (hno _)
   | true =>
    simp only [cond_true]
    have K := HF.of hc hst.1 hst.2 hck
    have hfalse : ∀ i, (Array.replicate l.length false).getD i false = true → False := fun i hi => by rw [replFalse] at hi; cases hi
    have hm0 : ∀ nm o, MF hf ss (flB (masks l []) l) (Array.replicate l.length false) 0 nm o → h.get nm = some o := fun nm o hx => by
     rcases hx with hx | ⟨j, sj, _, h2, _⟩
     ·rw [K.at0] at hx; exact hx
     ·exact (hfalse j h2).elim
    have I0 : InvF B F C n l ds (flB (masks l []) l) ss E h hf ρ (Array.replicate l.length false) a w' ρ 0 := by
     refine ⟨by simp, fun j o _ hj => (hfalse j hj).elim, ⟨fun e o _ _ hlt => by omega, fun e o _ _ _ _ => replFalse _ _, List.mem_cons_self, s'.os, s'.output, s'.tape, s'.fr, fun nm o hx => ?_, fun nm o hx => ?_, fun j sj nm o _ h2 => (hfalse j h2).elim,
      fun nm nm' o o' h1 h2 hb => s'.inj nm nm' o o' (hm0 _ _ h1) (hm0 _ _ h2) hb, s'.gl⟩, Ext.refl _ _, A.size, A.defers, fun j s o t hj => (hfalse j hj).elim, fun t v _ hv => (A.get t v hv).2⟩
     ·obtain ⟨q1, q2, q3, q4⟩ := s'.ob nm o (hm0 nm o hx)
      exact ⟨q1, q4⟩
     ·rw [K.at0] at hx ⊢
      obtain ⟨q1, q2, q3, q4⟩ := s'.ob nm o hx
      exact ⟨q2, q3⟩
    refine open_anyF hC hF hcall K s'.gn (fun t v hv => (A.get t v hv).1) A.wfd (fun ls a1 w1 ρ1 b I hall => ?_) l.length _ a w' ρ 0 I0 fuel0
    have hnof : ∀ e o, b ≤ e → e < ss.length → l[e]? = some o → effB o.op = true → flB (masks l []) l e = true := fun e o h1 h2 h3 h4 => by
     cases hfe : flB (masks l []) l e with
     | true => rfl
     | false =>
      have := I.wf.hi e o h3 h4 h1 hfe
      rw [hall e (List.getElem?_eq_some_iff.1 h3).1] at this
      cases this
    have hend : hAtF hf ss ss.length = hf := by simp [hAtF]
    have hin : ∀ nm o, hf.get nm = some o → MF hf ss (flB (masks l []) l) ls b nm o := fun nm o hg => by
     rcases Nat.lt_or_ge ss.length b with hlt | hge
     ·have : hAtF hf ss b = hf := by
       have : ss[b]? = none := List.getElem?_eq_none (by omega)
       simp [hAtF, this]
      exact .inl (by rw [this]; exact hg)
     ·rw [← hend] at hg
      rcases K.cont hge hnof nm o hg with hx | ⟨j, sj, h1, h2, h3, h4, h5⟩
      ·exact .inl hx
      ·exact .inr ⟨j, sj, h1, hall j (by rw [← K.L.at.1]; exact h2), h3, h4, h5⟩
    have h0f : h.next ≤ hf.next := by have := K.nxf 0; rw [K.at0] at this; exact this
    refine ⟨ρ1, rfl, I.ext, h0f, rfl, ⟨I.tsize, I.tdef, fun d hd => ⟨wfL_mono h0f _ (A.wfd d hd).1, wfL_mono h0f _ (A.wfd d hd).2⟩, fun t v hv => ?_⟩, I.wf.satx (fun nm o hg => ⟨hin nm o hg, I.wf.wf K (hin nm o hg)⟩) (Nat.le_trans s'.gn h0f)⟩
    rcases K.L.env.2 t v hv with ⟨j, sj, oj, h1, h2, h3, h4, rfl⟩ | ⟨h1, h2⟩
    ·refine ⟨okv_wfv (fun k hk => Nat.lt_of_lt_of_le (K.p_lt hk) (K.nxf _)) _ (K.ck j oj sj h3 h2).2.1, I.s1 j sj oj t (hall j (List.getElem?_eq_some_iff.1 h3).1) h2 h3 h4⟩
    ·exact ⟨wfv_mono h0f _ (A.get t v h2).1, I.s0 t v (fun j oj _ hj hdj => h1 j oj (by rw [K.L.at.1]; exact (List.getElem?_eq_some_iff.1 hj).1) hj hdj) h2⟩
theorem runAny_ok (hm : C.P.follows .mixedOrders = true) (hC : C.OK F) (hF : C.FOK) (hcall : CallAll B C call) {id : Nat} {E : Env} {h : Hp} (A : AgrX h.next ρ n ds E a) (s : SatX B F C.G h ρ w) (hno : ∀ t, runAny C n call l E ds h ≠ .no t) :
  (Code.region id ⟨l⟩ true).wp C.P ((runAny C n call l E ds h).Q B F C.G ρ h.next n) a w := by
 unfold runAny at hno ⊢
 cases hst : statB l (masks l []) with
 | true => rw [hst] at hno; exact runOpen_ok hm hC hF (hcall F hC) A s hno
 | false => rw [hst] at hno; exact runOpenF_ok hm hC hF hcall A s hno
end
end Go.Xs
end
section
namespace Go.Xs
open Go.RowKit

theorem rounds_mono {P : Program} {c : Code} {Q Q' : Exit → Act → World → Prop} (hq : ∀ e a w, Q e a w → Q' e a w) : ∀ {k : Nat} {a : Act} {w : World}, Code.rounds P c Q k a w → Code.rounds P c Q' k a w
 | 0, _, _, h => h.elim
 | k + 1, a, w, h => wp_mono (show c.wp P _ a w from h) fun e a' w' he => by
  cases e <;> simp only [Exit.then] at he ⊢ <;> first | exact rounds_mono hq he | exact hq _ _ _ he
section
variable {B : World} {F : PH} {C : Ctx} {n : Nat} {call : Nat → List Value → Hp → FR} {lf : Nat}
/-- This code comes to what f says. -/
def CodeOK (B : World) (F : PH) (C : Ctx) (n : Nat) (c : Code) (f : Env → List SDef → Hp → CR) : Prop :=
 ∀ E ds h ρ a w, AgrX h.next ρ n ds E a → SatX B F C.G h ρ w → (∀ t, f E ds h ≠ .no t) → c.wp C.P ((f E ds h).Q B F C.G ρ h.next n) a w
theorem loopX_ok {c : Code} {f : Env → List SDef → Hp → CR} (hf : CodeOK B F C n c f) : ∀ (k : Nat) (E : Env) (ds : List SDef) (h : Hp) (ρ : Val) (a : Act) (w : World),
  AgrX h.next ρ n ds E a → SatX B F C.G h ρ w → (∀ t, loopX f k E ds h ≠ .no t) → Code.rounds C.P c ((loopX f k E ds h).Q B F C.G ρ h.next n) k a w
 | 0, E, ds, h, ρ, a, w, _, _, hno => absurd rfl (hno _)
 | k + 1, E, ds, h, ρ, a, w, A, s, hno => by
  unfold loopX at hno ⊢
  refine wp_mono (hf E ds h ρ a w A s fun t e => by simp only [e] at hno; exact hno _ rfl) fun e a' w' hq => ?_
  cases hr : f E ds h with
  | no t => rw [hr] at hq; exact hq.elim
  | ok x E' ds' h' =>
   rw [hr] at hq
   obtain ⟨ρ', rfl, q2, q3, q4, q5, q6⟩ := hq
   simp only [hr] at hno
   cases x with
   | normal =>
    simp only [X.to, Exit.then] at hno ⊢
    exact rounds_mono (fun _ _ _ he => he.ext q2 q3) (loopX_ok hf k E' ds' h' ρ' a' w' q5 q6 hno)
   | exit id => exact ⟨ρ', rfl, q2, q3, q4, q5, q6⟩
   | ret => exact ⟨ρ', rfl, q2, q3, q4, q5, q6⟩
   | pan v => exact ⟨ρ', rfl, q2, q3, q4, q5, q6⟩
theorem runC_ok (hm : C.P.follows .mixedOrders = true) (hC : C.OK F) (hf : C.FOK) (hcall : CallAll B C call) : ∀ c : Code, CodeOK B F C n c (runC C n call lf c) := by
 intro c
 induction c with
 | skip => exact fun E ds h ρ a w A s _ => wp_skip ⟨ρ, rfl, Ext.refl _ _, Nat.le_refl _, rfl, A, s⟩
 | region id ops draw =>
  obtain ⟨l⟩ := ops
  cases draw with
  | false =>
   intro E ds h ρ a w A s hno
   unfold runC at hno ⊢
   have hno' : ∀ t, runOps C n call l 0 l E ds h ≠ .no t := fun t e => by simp only [e] at hno; exact hno _ rfl
   have := wp_region_lit (id := id) (wpX_list (runOps_ok hC hf (hcall F hC) l 0 E ds h ρ a w A s hno'))
   cases hr : runOps C n call l 0 l E ds h with
   | no t => exact absurd hr (hno' t)
   | ok x E' ds' h' => rw [hr] at this; exact this
  | true =>
   intro E ds h ρ a w A s hno
   unfold runC at hno ⊢
   have hno' : ∀ t, runAny C n call l E ds h ≠ .no t := fun t e => by simp only [e] at hno; exact hno _ rfl
   have := runAny_ok (id := id) hm hC hf hcall A s hno'
   cases hr : runAny C n call l E ds h with
   | no t => exact absurd hr (hno' t)
   | ok x E' ds' h' => rw [hr] at this; exact this
 | seq c c' ih ih' =>
  intro E ds h ρ a w A s hno
  unfold runC at hno ⊢
  refine wp_seq (wp_mono (ih E ds h ρ a w A s fun t e => by simp only [e] at hno; exact hno _ rfl) fun e a' w' hq => ?_)
  cases hr : runC C n call lf c E ds h with
  | no t => rw [hr] at hq; exact hq.elim
  | ok x E' ds' h' =>
   rw [hr] at hq
   obtain ⟨ρ', rfl, q2, q3, q4, q5, q6⟩ := hq
   simp only [hr] at hno
   cases x with
   | normal =>
    simp only [X.to, Exit.then] at hno ⊢
    exact wp_mono (ih' E' ds' h' ρ' a' w' q5 q6 hno) fun _ _ _ he => he.ext q2 q3
   | exit id => exact ⟨ρ', rfl, q2, q3, q4, q5, q6⟩
   | ret => exact ⟨ρ', rfl, q2, q3, q4, q5, q6⟩
   | pan v => exact ⟨ρ', rfl, q2, q3, q4, q5, q6⟩
 | cond x c c' ih ih' =>
  intro E ds h ρ a w A s hno
  unfold runC at hno ⊢
  cases hv : evX C.G E x with
  | none => simp only [hv] at hno; exact absurd rfl (hno _)
  | some v =>
   have hev := (A.ev s.gl s.gn hv).2
   cases v with
   | bool b =>
    simp only [ren] at hev
    cases b with
    | true => simp only [hv] at hno ⊢; exact wp_cond_true hev (ih E ds h ρ a w A s hno)
    | false => simp only [hv] at hno ⊢; exact wp_cond_false hev (ih' E ds h ρ a w A s hno)
   | _ => simp only [hv] at hno; exact absurd rfl (hno _)
 | block id c ih =>
  intro E ds h ρ a w A s hno
  unfold runC at hno ⊢
  refine wp_block (wp_mono (ih E ds h ρ a w A s fun t e => by simp only [e] at hno; exact hno _ rfl) fun e a' w' hq => ?_)
  cases hr : runC C n call lf c E ds h with
  | no t => rw [hr] at hq; exact hq.elim
  | ok x E' ds' h' =>
   rw [hr] at hq
   obtain ⟨ρ', rfl, q2, q3, q4, q5, q6⟩ := hq
   cases x with
   | exit id' =>
    simp only [X.to, Exit.inBlock]
    cases hb : Nat.beq id' id with
    | true =>
     rw [Nat.beq_eq] at hb
     rw [if_pos hb]
     exact ⟨ρ', rfl, q2, q3, rfl, q5, q6⟩
    | false =>
     rw [if_neg (fun e => by rw [e, Nat.beq_refl] at hb; cases hb)]
     exact ⟨ρ', rfl, q2, q3, rfl, q5, q6⟩
   | normal => exact ⟨ρ', rfl, q2, q3, q4, q5, q6⟩
   | ret => exact ⟨ρ', rfl, q2, q3, q4, q5, q6⟩
   | pan v => exact ⟨ρ', rfl, q2, q3, q4, q5, q6⟩
 | loop c ih =>
  intro E ds h ρ a w A s hno
  unfold runC at hno ⊢
  exact wp_loop_rounds lf (loopX_ok ih lf E ds h ρ a w A s hno)
 | exit id => exact fun E ds h ρ a w A s _ => wp_exit ⟨ρ, rfl, Ext.refl _ _, Nat.le_refl _, rfl, A, s⟩
 | ret => exact fun E ds h ρ a w A s _ => wp_ret ⟨ρ, rfl, Ext.refl _ _, Nat.le_refl _, rfl, A, s⟩
 | label l => exact fun E ds h ρ a w A s _ => wp_label ⟨ρ, rfl, Ext.refl _ _, Nat.le_refl _, rfl, A, s⟩
 | scope c ih =>
  intro E ds h ρ a w A s hno
  unfold runC at hno ⊢
  refine wp_scope_straight (wp_mono (ih E ds h ρ a w A s hno) fun e a' w' hq => ?_)
  cases hr : runC C n call lf c E ds h with
  | no t => exact absurd hr (hno t)
  | ok x E' ds' h' =>
   rw [hr] at hq
   obtain ⟨ρ', rfl, q⟩ := hq
   cases x <;> exact ⟨ρ', rfl, q⟩
 | _ => exact fun E ds h ρ a w A s hno => absurd rfl (hno _)
/-- The results. -/
theorem resL_run (hC : C.OK F) {h : Hp} {ρ : Val} {w : World} (s : SatX B F C.G h ρ w) {E : Env} {ds : List SDef} {a : Act} (A : AgrX h.next ρ n ds E a) : ∀ {l : List ResultVar} {vs : List Value}, resL C E h l = some vs →
  wfL h.next vs = true ∧ (l.mapM fun | .tmp t => pure (a.tmps.getD t undef) | .cell x t => do loadVar t (← asAddr (a.tmps.getD x undef)) : Sem (List Value)).run C.P w = .ok (renL ρ vs) w
 | [], vs, hx => by
  simp only [resL, Option.some.injEq] at hx
  subst hx
  exact ⟨rfl, by simp [renL]⟩
 | .tmp t :: l, vs, hx => by
  simp only [resL] at hx
  split at hx
  ·rename_i v hv
   split at hx
   ·rename_i vs' hvs
    cases hx
    obtain ⟨h1, h2⟩ := A.get t v hv
    obtain ⟨h3, h4⟩ := resL_run hC s A hvs
    refine ⟨by simp [wfL, h1, h3], ?_⟩
    have : a.tmps.getD t undef = ren ρ v := by simp [Array.getD_eq_getD_getElem?, h2]
    simp only [List.mapM_cons, Sem.run_bind, Sem.run_pure, Result.andThen_ok, this]
    rw [h4]
    simp [renL]
   ·cases hx
  ·cases hx
 | .cell x t :: l, vs, hx => by
  simp only [resL] at hx
  split at hx
  ·rename_i u hu
   split at hx
   ·rename_i v hv
    split at hx
    ·rename_i vs' hvs
     cases hx
     obtain ⟨h1, h2⟩ := A.get x u hu
     obtain ⟨h3, h4⟩ := resL_run hC s A hvs
     obtain ⟨h5, h6⟩ := run_xload s hC hv
     refine ⟨by simp [wfL, h5, h3], ?_⟩
     have : a.tmps.getD x undef = ren ρ u := by simp [Array.getD_eq_getD_getElem?, h2]
     have h7 : (do loadVar t (← asAddr (ren ρ u)) : Sem Value).run C.P w = .ok (ren ρ v) w := by
      unfold xload at hv
      split at hv
      ·simpa only [ren, Instr.loadAt, Instr.sureAddr, asAddr, Sem.run_bind, Sem.run_pure, Result.andThen_ok] using h6
      ·cases hv
     simp only [List.mapM_cons, Sem.run_bind, Sem.run_pure, Result.andThen_ok, this] at h7 ⊢
     rw [h7]
     simp only [Result.andThen_ok]
     rw [h4]
     simp [renL]
    ·cases hx
   ·cases hx
  ·cases hx
theorem resL_ok (hC : C.OK F) {h : Hp} {ρ : Val} {w : World} (s : SatX B F C.G h ρ w) {E : Env} {ds : List SDef} {a : Act} (A : AgrX h.next ρ n ds E a) {fn : Func} {vs : List Value} (hx : resL C E h fn.results.toList = some vs) :
  wfv h.next (oneV vs) = true ∧ (results fn a.tmps).run C.P w = .ok (ren ρ (oneV vs)) w := by
 obtain ⟨h1, h2⟩ := resL_run hC s A hx
 obtain ⟨l, hl⟩ : ∃ l, fn.results = ⟨l⟩ := ⟨fn.results.toList, rfl⟩
 rw [hl] at h2
 refine ⟨?_, ?_⟩
 ·cases vs with
  | nil => rfl
  | cons v vs => cases vs with
   | nil => simpa [oneV, wfL] using h1
   | cons v' vs => simpa [oneV, wfv, wfA] using h1
 ·unfold results
  rw [hl]
  have : ∀ f : ResultVar → Sem Value, (⟨l⟩ : Array ResultVar).mapM f = List.toArray <$> l.mapM f := fun f => List.mapM_toArray
  rw [this]
  try rw [this]
  rw [map_eq_pure_bind, Sem.run_bind, Sem.run_bind]
  erw [h2]
  simp only [Result.andThen_ok, Sem.run_pure]
  cases vs with
  | nil => simp [oneV, renL, ren, renA]
  | cons v vs => cases vs with
   | nil => simp [oneV, renL]
   | cons v' vs => simp [oneV, renL, ren, renA]
end
end Go.Xs
end
section
namespace Go.Xs
open Go.RowKit

theorem argE_ok : ∀ {l : List Value} {i : Nat} {E : Env} {t : Nat} {v : Value}, (argE l i E).lk t = some v → (∃ j, t = i + j ∧ l[j]? = some v) ∨ E.lk t = some v
 | [], i, E, t, v, h => .inr h
 | u :: l, i, E, t, v, h => by
  simp only [argE] at h
  rcases argE_ok h with ⟨j, rfl, h2⟩ | h
  ·exact .inl ⟨j + 1, by omega, by simpa using h2⟩
  ·rcases Env.lk_put h with ⟨rfl, rfl⟩ | ⟨h1, h2⟩
   ·exact .inl ⟨0, rfl, rfl⟩
   ·exact .inr h2
theorem AgrX.args {nx : Nat} {ρ : Val} {n : Nat} {l : List Value} (hl : Nat.ble l.length n = true) (hw : wfL nx l = true) :
  AgrX nx ρ n [] (argE l 0 .lf) { tmps := (renL ρ l).toArray ++ Array.replicate (n - (renL ρ l).toArray.size) undef, defers := [] } := by
 rw [Nat.ble_eq] at hl
 refine ⟨by simp [renL_len]; omega, rfl, fun d hd => by simp at hd, fun t v hv => ?_⟩
 rcases argE_ok hv with ⟨j, rfl, h2⟩ | h
 ·rw [Nat.zero_add]
  refine ⟨wfL_get hw h2, ?_⟩
  have h3 := renL_get ρ h2
  have h4 := (List.getElem?_eq_some_iff.1 h3).1
  rw [Array.getElem?_append_left (by simpa using h4)]
  simpa using h3
 ·simp [Env.lk, Tr.get] at h
theorem leaves_mono {P : Program} {fn : Func} {tmps : Array Value} {R R' : Ending → World → Prop} (hr : ∀ e w, R e w → R' e w) : ∀ {ds : List Deferred} {u : FrameMode} {w : World}, Leaves P fn tmps R ds u w → Leaves P fn tmps R' ds u w
 | [], .returning, w, h => let ⟨v, h1, h2⟩ := h; ⟨v, h1, hr _ _ h2⟩
 | [], .panicking c, w, h => hr _ _ h
 | [], .run, w, h => h.elim
 | d :: ds, u, w, h => by
  obtain ⟨h1, fv, cap, f, args, h2, h3, h4⟩ := h
  refine ⟨h1, fv, cap, f, args, h2, h3, h4.mono fun e u' w' he => ?_⟩
  cases e with
  | returned v => exact leaves_mono hr he
  | panicked c => exact leaves_mono hr he
  | outgrown => exact hr _ _ he
def modeX (ρ : Val) : Option Value → FrameMode
 | none => .returning
 | some v => .panicking (chain1 (ren ρ v))
def wfU (n : Nat) : Option Value → Bool
 | none => true
 | some v => wfv n v
theorem modeX_ext {nx : Nat} {ρ ρ' : Val} (he : Ext nx ρ ρ') {u : Option Value} (hu : wfU nx u = true) : modeX ρ' u = modeX ρ u := by
 cases u with
 | none => rfl
 | some v => simp only [modeX, ren_ext he v hu]
theorem wfU_mono {n m : Nat} (h : n ≤ m) {u : Option Value} (hu : wfU n u = true) : wfU m u = true := by
 cases u with
 | none => rfl
 | some v => exact wfv_mono h v hu
theorem settle_mode (ρ : Val) (u : Option Value) : settle (modeX ρ u) = modeX ρ u := by cases u <;> rfl

theorem wpX_S {P : Program} {ops : Array Oper} {Q : Exit → Act → List Frame → World → Prop} {cs : List Frame} : ∀ {l : List Oper} {k : Nat} {a : Act} {w : World}, (∀ j, l[j]? = ops[k + j]?) →
  wpX P ops (fun e a w => Q e a cs w) l a w → wpOpsS P ops Q (List.range' k l.length) a cs w
 | [], k, a, w, _, h => h
 | o :: l, k, a, w, hl, h => by
  have h0 : ops[k]? = some o := by simpa using (hl 0).symm
  have ih : ∀ {a : Act} {w : World}, wpX P ops (fun e a w => Q e a cs w) l a w → wpOpsS P ops Q (List.range' (k + 1) l.length) a cs w := fun h =>
   wpX_S (fun j => by have := hl (j + 1); simpa [Nat.add_assoc, Nat.add_comm 1 j] using this) h
  simp only [List.length_cons, List.range'_succ, wpOpsS, h0]
  unfold wpX at h
  split
  ·rename_i hw
   rw [if_pos hw] at h
   unfold Oper.wp at h
   split
   ·rename_i w' hr
    rw [hr] at h
    exact h.elim
   ·rename_i r hr
    exact upon_mono (fun a w h => ih h) (fun _ _ _ h => h) h
  ·rename_i hw
   rw [if_neg hw] at h
   exact ih h
theorem run_callFunc {C : Ctx} (hf : C.FOK) {f : Nat} {fn : Func} (hfn : C.fns f = some fn) {args : Array Value} {w : World} : (callFunc f args).run C.P w = .ok (.enter f args) w := by
 obtain ⟨f1, f2, f3⟩ := hf f fn hfn
 have hb : ¬ fn.body = none := by intro e; rw [e] at f2; cases f2
 have hn : ¬ fn.name = "runtime.NumGoroutine" := by simpa using f3
 simp [callFunc, f1, hn, hb, go_sem]
section
variable {B : World} {F : PH} {C : Ctx} {call : Nat → List Value → Hp → FR} {lf : Nat}
/-- What the run of a function that is put off leaves. -/
def DQ (B : World) (F : PH) (G : Gx) (ρ : Val) (nx : Nat) (u' : Option Value) (h' : Hp) : Ending → FrameMode → World → Prop
 | .returned _, um, w' => ∃ ρ', settle um = modeX ρ' u' ∧ Ext nx ρ ρ' ∧ nx ≤ h'.next ∧ wfU h'.next u' = true ∧ SatX B F G h' ρ' w'
 | _, _, _ => False
theorem recB_spec {c c' : Code} {id : Nat} {o : Oper} {l : List Oper} (h : recB c = some (id, o, l, c')) : c = .seq (.region id ⟨o :: l⟩ false) c' ∧ o.guard = none ∧ ∃ ats, o.op = .call ⟨.builtin .recover, ⟨[]⟩, ats⟩ := by
 unfold recB at h
 split at h
 ·split at h
  ·cases h
   rename_i h1 h2
   exact ⟨rfl, h2, _, h1⟩
  ·cases h
 ·cases h
theorem runD_ok (hm : C.P.follows .mixedOrders = true) (hC : C.OK F) (hf : C.FOK) (hcall : CallAll B C call) {d : SDef} {u u' : Option Value} {h h' : Hp} {ρ : Val} {w : World} (hx : runD C lf call d u h = .ret u' h')
  (hd : wfL h.next d.cap = true ∧ wfL h.next d.args = true) (hu : wfU h.next u = true) (s : SatX B F C.G h ρ w) : CallsD C.P d.f (renL ρ (d.args ++ d.cap)).toArray (modeX ρ u) w (DQ B F C.G ρ h.next u' h') := by
 unfold runD at hx
 split at hx
 ·rename_i fn hfn
  obtain ⟨f1, f2, f3⟩ := hf _ fn hfn
  split at hx
  ·rename_i c hc
   cases hb : Nat.ble (d.args ++ d.cap).length fn.ntmps with
   | false => rw [hb] at hx; cases hx
   | true =>
    rw [hb] at hx
    simp only [cond_true] at hx
    have A := AgrX.args (ρ := ρ) hb (wfL_app.2 ⟨hd.2, hd.1⟩)
    split at hx
    ·rename_i id o l c' hr
     obtain ⟨rfl, hg, ats, hop⟩ := recB_spec hr
     split at hx
     ·rename_i E hE
      -- what the rest does
      have rest : ∀ (um : FrameMode) (c₀ : Frame) (cs : List Frame) (a : Act), settle um = modeX ρ none → AgrX h.next ρ fn.ntmps [] E a →
        wpOpsS C.P ⟨o :: l⟩ (Exit.thenS (c'.wpS C.P (bodyPostS C.P fn c₀ cs (DQ B F C.G ρ h.next none h'))) (bodyPostS C.P fn c₀ cs (DQ B F C.G ρ h.next none h'))) (List.range' 1 l.length) a ({ c₀ with mode := um } :: cs) w ∧ u' = none := by
       intro um c₀ cs a hum A'
       have hfin : ∀ (E2 : Env) (h2 : Hp) (ρ2 : Val) (a2 : Act) (w2 : World) (vs : List Value), resL C E2 h2 fn.results.toList = some vs → AgrX h2.next ρ2 fn.ntmps [] E2 a2 → SatX B F C.G h2 ρ2 w2 → Ext h.next ρ ρ2 → h.next ≤ h2.next →
         h2 = h' → a2.defers = [] ∧ ∃ um', ({ c₀ with mode := um } :: cs : List Frame) = { c₀ with mode := um' } :: cs ∧ ∃ v, (results fn a2.tmps).run C.P w2 = .ok v w2 ∧ DQ B F C.G ρ h.next none h' (.returned v) um' w2 := by
        intro E2 h2 ρ2 a2 w2 vs hvs A2 s2 e2 n2 hh
        subst hh
        exact ⟨by simpa using A2.defers, um, rfl, _, (resL_ok hC s2 A2 hvs).2, ρ2, hum, e2, n2, rfl, s2⟩
       cases hro : runOps C fn.ntmps call (o :: l) 1 l E [] h with
       | no t => rw [hro] at hx; cases hx
       | ok x E' ds' h1 =>
        have hw1 := runOps_ok hC hf (hcall F hC) (l0 := o :: l) l 1 E [] h ρ a w A' s (fun t e => by rw [hro] at e; cases e)
        rw [hro] at hx hw1
        cases x with
        | exit id => cases hx
        | ret => cases hx
        | pan v => cases hx
        | normal =>
         cases ds' with
         | cons d ds' => cases hx
         | nil =>
          simp only at hx
          have hrest : (∀ t, runC C fn.ntmps call lf c' E' [] h1 ≠ .no t) ∧ u' = none := by
           constructor
           ·intro t e
            rw [e] at hx
            cases hx
           ·split at hx
            ·split at hx
             ·cases hx; rfl
             ·cases hx
            ·split at hx
             ·cases hx; rfl
             ·cases hx
            ·cases hx
            ·cases hx
          refine ⟨wpX_S (fun j => by simp [Nat.add_comm 1 j]) (wpX_mono hw1 fun e a' w' hq => ?_), hrest.2⟩
          obtain ⟨ρ', rfl, q2, q3, q4, q5, q6⟩ := hq
          refine wpS_of_wp (wp_mono (runC_ok hm hC hf hcall c' E' [] h1 ρ' a' w' q5 q6 hrest.1) fun e a2 w2 hq => ?_)
          cases hrc : runC C fn.ntmps call lf c' E' [] h1 with
          | no t => exact absurd hrc (hrest.1 t)
          | ok x E2 ds2 h2 =>
           rw [hrc] at hx hq
           obtain ⟨ρ2, rfl, r2, r3, r4, r5, r6⟩ := hq
           cases x with
           | exit id => cases hx
           | pan v => cases hx
           | normal =>
            cases ds2 with
            | cons d ds' => cases hx
            | nil =>
             simp only at hx
             split at hx
             ·rename_i vs hvs
              simp only [DR.ret.injEq] at hx
              exact hfin E2 h2 ρ2 a2 w2 vs hvs r5 r6 (q2.trans r2 q3) (Nat.le_trans q3 r3) hx.2
             ·cases hx
           | ret =>
            cases ds2 with
            | cons d ds' => cases hx
            | nil =>
             simp only at hx
             split at hx
             ·rename_i vs hvs
              simp only [DR.ret.injEq] at hx
              exact hfin E2 h2 ρ2 a2 w2 vs hvs r5 r6 (q2.trans r2 q3) (Nat.le_trans q3 r3) hx.2
             ·cases hx
      refine callsD_of_wpS f1 hc fun c₀ cs hc₀ => ?_
      refine wpS_seq (wpS_region ?_)
      have hsz : (⟨o :: l⟩ : Array Oper).size = l.length + 1 := by simp
      rw [hsz, List.range_eq_range', List.range'_succ]
      have hexec : ∀ a : Act, (execOp a.eval o).run C.P w = .ok .recover w := fun a => by
       unfold execOp
       simp [hop, resolve, invoke, builtin]
      have hwant : ∀ a : Array Value, Region.wanted o (yielded (⟨o :: l⟩ : Array Oper) a) = true := fun a => by
       unfold Region.wanted
       rw [hg]
      have h00 : (⟨o :: l⟩ : Array Oper)[0]? = some o := by simp
      unfold wpOpsS
      simp only [h00, hwant, hexec, if_true]
      cases u with
      | none =>
       have hrec : recoverD (c₀ :: cs) = none := by simp [recoverD, hc₀, modeX]
       have hE' := putX_ok A (v := .nilIface) rfl hE
       have hcs : (c₀ :: cs : List Frame) = { c₀ with mode := FrameMode.returning } :: cs := by
        have : c₀.mode = FrameMode.returning := hc₀
        rw [← this]
       obtain ⟨r1, r2⟩ := rest .returning c₀ cs _ rfl hE'
       subst r2
       rw [hrec]
       simp only [ren] at r1 ⊢
       rw [hcs]
       exact r1
      | some v =>
       have hrec : recoverD (c₀ :: cs) = some (ren ρ v, { c₀ with mode := .panicking [{ v := ren ρ v, recovered := true }] } :: cs) := by simp [recoverD, hc₀, modeX]
       have hE' := putX_ok A (v := v) hu hE
       obtain ⟨r1, r2⟩ := rest (.panicking [{ v := ren ρ v, recovered := true }]) c₀ cs _ rfl hE'
       subst r2
       rw [hrec]
       exact r1
     ·cases hx
    ·-- no recover
     have key : ∀ (E2 : Env) (h2 : Hp) (ρ2 : Val) (a2 : Act) (w2 : World) (vs : List Value), resL C E2 h2 fn.results.toList = some vs → AgrX h2.next ρ2 fn.ntmps [] E2 a2 → SatX B F C.G h2 ρ2 w2 → Ext h.next ρ ρ2 → h.next ≤ h2.next →
       u = u' → h2 = h' → a2.defers = [] ∧ ∃ v, (results fn a2.tmps).run C.P w2 = .ok v w2 ∧ (fun e w' => ∃ v, e = Ending.returned v ∧ DQ B F C.G ρ h.next u' h' (.returned v) (modeX ρ u) w') (.returned v) w2 := by
      intro E2 h2 ρ2 a2 w2 vs hvs A2 s2 e2 n2 huu hh
      subst hh
      subst huu
      exact ⟨by simpa using A2.defers, _, (resL_ok hC s2 A2 hvs).2, _, rfl, ρ2, by rw [settle_mode, modeX_ext e2 hu], e2, n2, wfU_mono n2 hu, s2⟩
     have hno : ∀ t, runC C fn.ntmps call lf c (argE (d.args ++ d.cap) 0 .lf) [] h ≠ .no t := fun t e => by rw [e] at hx; cases hx
     refine CallsD.mono (callsD_of_wp (R := fun e w' => ∃ v, e = Ending.returned v ∧ DQ B F C.G ρ h.next u' h' (.returned v) (modeX ρ u) w') f1 hc
      (wp_mono (runC_ok hm hC hf hcall c _ [] h ρ _ w A s hno) fun e a2 w2 hq => ?_)) fun e um w' ⟨hum, hR⟩ => ?_
     ·cases hrc : runC C fn.ntmps call lf c (argE (d.args ++ d.cap) 0 .lf) [] h with
      | no t => exact absurd hrc (hno t)
      | ok x E2 ds2 h2 =>
       rw [hrc] at hx hq
       obtain ⟨ρ2, rfl, r2, r3, r4, r5, r6⟩ := hq
       cases x with
       | exit id => cases hx
       | pan v => cases hx
       | normal =>
        cases ds2 with
        | cons d ds' => cases hx
        | nil =>
         simp only at hx
         split at hx
         ·rename_i vs hvs
          simp only [DR.ret.injEq] at hx
          exact key E2 h2 ρ2 a2 w2 vs hvs r5 r6 r2 r3 hx.1 hx.2
         ·cases hx
       | ret =>
        cases ds2 with
        | cons d ds' => cases hx
        | nil =>
         simp only at hx
         split at hx
         ·rename_i vs hvs
          simp only [DR.ret.injEq] at hx
          exact key E2 h2 ρ2 a2 w2 vs hvs r5 r6 r2 r3 hx.1 hx.2
         ·cases hx
     ·obtain ⟨v, rfl, hR⟩ := hR
      rw [hum]
      exact hR
  ·cases hx
 ·cases hx
theorem leaveX_ok (hm : C.P.follows .mixedOrders = true) (hC : C.OK F) (hf : C.FOK) (hcall : CallAll B C call) {fn : Func} {E : Env} {tmps : Array Value} : ∀ (ds : List SDef) (u : Option Value) (h : Hp) (ρ : Val) (w : World),
  AgrX h.next ρ fn.ntmps ds E { tmps, defers := ds.map (renD ρ) } → SatX B F C.G h ρ w → wfU h.next u = true → (∀ t, leaveX C lf call fn E ds u h ≠ .no t) →
  Leaves C.P fn tmps ((leaveX C lf call fn E ds u h).Q B F C.G ρ h.next) (ds.map (renD ρ)) (modeX ρ u) w
 | [], none, h, ρ, w, A, s, hu, hno => by
  unfold leaveX at hno ⊢
  cases hr : resL C E h fn.results.toList with
  | none => rw [hr] at hno; exact absurd rfl (hno _)
  | some vs =>
   obtain ⟨h1, h2⟩ := resL_ok hC s A hr
   exact ⟨_, h2, ρ, rfl, Ext.refl _ _, Nat.le_refl _, h1, s⟩
 | [], some v, h, ρ, w, A, s, hu, hno => by
  unfold leaveX
  exact ⟨ρ, rfl, Ext.refl _ _, Nat.le_refl _, hu, s⟩
 | d :: ds, u, h, ρ, w, A, s, hu, hno => by
  unfold leaveX at hno ⊢
  cases hr : runD C lf call d u h with
  | no t => rw [hr] at hno; exact absurd rfl (hno _)
  | ret u' h' =>
   rw [hr] at hno
   simp only at hno ⊢
   have hwd := A.wfd d List.mem_cons_self
   have hfd : ∃ fn, C.fns d.f = some fn := by
    unfold runD at hr
    split at hr
    ·exact ⟨_, ‹_›⟩
    ·cases hr
   obtain ⟨fd, hfd⟩ := hfd
   refine leaves_cons (by cases u <;> simp [modeX]) (f := d.f) (args := (renL ρ (d.args ++ d.cap)).toArray) ?_ (CallsD.mono (runD_ok hm hC hf hcall hr hwd hu s) fun e um w' hq => ?_)
   ·simp only [invoke]
    rw [run_callFunc hf hfd, renL_app]
    simp
   ·cases e with
    | panicked c => exact hq.elim
    | outgrown => exact hq.elim
    | returned v =>
     obtain ⟨ρ', q1, q2, q3, q4, q5⟩ := hq
     simp only [q1]
     have hds : ds.map (renD ρ) = ds.map (renD ρ') := List.map_congr_left fun d' hd' => by
      have := A.wfd d' (List.mem_cons_of_mem _ hd')
      simp only [renD, renL_ext q2 _ this.1, renL_ext q2 _ this.2]
     have A' : AgrX h'.next ρ' fn.ntmps ds E { tmps, defers := ds.map (renD ρ') } := by
      have := A.ext q2 q3
      exact ⟨this.size, rfl, fun d' hd' => this.wfd d' (List.mem_cons_of_mem _ hd'), this.get⟩
     have := leaveX_ok hm hC hf hcall ds u' h' ρ' w' A' q5 q4 hno
     rw [← hds] at this
     refine leaves_mono (fun e w hq => hq.ext q2 q3) this
theorem runFn_ok (hm : C.P.follows .mixedOrders = true) (hC : C.OK F) (hf : C.FOK) (hcall : CallAll B C call) : CallOK B F C (runFn C lf call) := by
 intro f args h ρ w hno hwf s
 unfold runFn at hno ⊢
 cases hfn : C.fns f with
 | none => rw [hfn] at hno; exact absurd rfl (hno _)
 | some fn =>
  obtain ⟨f1, f2, f3⟩ := hf _ fn hfn
  rw [hfn] at hno
  simp only at hno ⊢
  cases hc : fn.body with
  | none => rw [hc] at hno; exact absurd rfl (hno _)
  | some c =>
   rw [hc] at hno
   simp only at hno ⊢
   cases hb : Nat.ble args.length fn.ntmps with
   | false => rw [hb] at hno; exact absurd rfl (hno _)
   | true =>
    rw [hb] at hno
    simp only [cond_true] at hno ⊢
    have hno' : ∀ t, runC C fn.ntmps call lf c (argE args 0 .lf) [] h ≠ .no t := fun t e => by simp only [e] at hno; exact hno _ rfl
    refine calls_of_wp_defers f1 hc (wp_mono (runC_ok hm hC hf hcall c _ [] h ρ _ w (AgrX.args hb hwf) s hno') fun e a' w' hq => ?_)
    cases hrc : runC C fn.ntmps call lf c (argE args 0 .lf) [] h with
    | no t => exact absurd hrc (hno' t)
    | ok x E ds h1 =>
     rw [hrc] at hno hq
     obtain ⟨ρ1, rfl, r2, r3, r4, r5, r6⟩ := hq
     have A1 : AgrX h1.next ρ1 fn.ntmps ds E { tmps := a'.tmps, defers := ds.map (renD ρ1) } := ⟨r5.size, rfl, r5.wfd, r5.get⟩
     cases x with
     | exit id => exact absurd rfl (hno _)
     | normal =>
      simp only [X.to, bodyPostD] at hno ⊢
      rw [r5.defers]
      exact leaves_mono (fun e w hq => hq.ext r2 r3) (leaveX_ok hm hC hf hcall ds none h1 ρ1 w' A1 r6 rfl hno)
     | ret =>
      simp only [X.to, bodyPostD] at hno ⊢
      rw [r5.defers]
      exact leaves_mono (fun e w hq => hq.ext r2 r3) (leaveX_ok hm hC hf hcall ds none h1 ρ1 w' A1 r6 rfl hno)
     | pan v =>
      simp only [X.to, bodyPostD] at hno ⊢
      rw [r5.defers]
      exact leaves_mono (fun e w hq => hq.ext r2 r3) (leaveX_ok hm hC hf hcall ds (some v) h1 ρ1 w' A1 r6 r4 hno)
/-- What is told otherwise is right. -/
def SpOK (B : World) (F : PH) (C : Ctx) (sp : Nat → List Value → Hp → Option FR) : Prop :=
 ∀ f args h ρ w r, sp f args h = some r → (∀ t, r ≠ .no t) → wfL h.next args = true → SatX B F C.G h ρ w → Calls C.P f (renL ρ args).toArray w (r.Q B F C.G ρ h.next)
theorem callN_all (hm : C.P.follows .mixedOrders = true) (hf : C.FOK) {sp : Nat → List Value → Hp → Option FR} (hsp : ∀ F, C.OK F → SpOK B F C sp) : ∀ k, CallAll B C (callN C lf sp k)
 | 0 => fun F hC f args h ρ w hno _ _ => absurd rfl (hno _)
 | k + 1 => fun F hC f args h ρ w hno hw s => by
  unfold callN at hno ⊢
  cases hr : sp f args h with
  | some r =>
   rw [hr] at hno
   exact hsp F hC f args h ρ w r hr hno hw s
  | none =>
   rw [hr] at hno
   exact runFn_ok hm hC hf (callN_all hm hf hsp k) f args h ρ w hno hw s
theorem callN_ok (hm : C.P.follows .mixedOrders = true) (hC : C.OK F) (hf : C.FOK) {sp : Nat → List Value → Hp → Option FR} (hsp : ∀ F, C.OK F → SpOK B F C sp) (k : Nat) : CallOK B F C (callN C lf sp k) := callN_all hm hf hsp k F hC
end
end Go.Xs
end
section
namespace Go.Xs
open Go.RowKit

theorem Ctx.OK.mono {C : Ctx} {F F' : PH} (h : C.OK F) (hF : ∀ b o, F b = some o → F' b = some o) : C.OK F' :=
 fun g l hg hl j v hj => ⟨(h g l hg hl j v hj).1, fun ρ w hρ hw => (h g l hg hl j v hj).2 ρ w hρ fun b o hb => hw b o (hF b o hb)⟩
/-- The heap at the outset: nothing is told. -/
def hp0 (G : Gx) : Hp := ⟨.lf, G.N⟩
theorem satX_start (w : World) (G : Gx) : SatX w (fun b => w.heap[b]?) G (hp0 G) ⟨G.gb, fun _ => 0⟩ w :=
 ⟨rfl, rfl, rfl, fun _ _ h => h, fun nm o h => by simp [hp0, Hp.get, Tr.get] at h, fun nm _ o _ h => by simp [hp0, Hp.get, Tr.get] at h, fun _ _ => rfl, Nat.le_refl _⟩
def isTrue : FR → Bool
 | .ret (.bool true) _ => true
 | _ => false
theorem isTrue_ok {r : FR} (h : isTrue r = true) : ∃ h', r = .ret (.bool true) h' := by
 unfold isTrue at h
 split at h
 ·exact ⟨_, rfl⟩
 ·cases h
section
variable {C : Ctx} {lf k : Nat} {sp : Nat → List Value → Hp → Option FR}
theorem sat_grow {B w w' : World} {R : List Go.Sk.HP} {G : Gx} {h : Hp} {ρ : Val} (s : Go.Sk.Sat B R w) (s' : SatX w (fun b => w.heap[b]?) G h ρ w') : Go.Sk.Sat B R w' := by
 have hsz : w.heap.size ≤ w'.heap.size := by
  rcases Nat.eq_zero_or_pos w.heap.size with h0 | h0
  ·omega
  ·have h1 : w.heap[w.heap.size - 1]? = some w.heap[w.heap.size - 1] := Array.getElem?_eq_getElem (by omega)
   have := (Array.getElem?_eq_some_iff.1 (s'.fr _ _ h1)).1
   omega
 refine ⟨s'.os.trans s.os, s'.output.trans s.output, s'.tape.trans s.tape, Nat.le_trans s.size hsz, fun b hb => ?_, ?_⟩
 ·rw [← s.base b hb]
  have hlt : b < w.heap.size := Nat.lt_of_lt_of_le hb s.size
  have h1 : w.heap[b]? = some w.heap[b] := Array.getElem?_eq_getElem hlt
  rw [h1]
  exact s'.fr _ _ h1
 ·obtain ⟨hh, h1, h2⟩ := s.heap
  exact ⟨hh, fun b o hb => ⟨s'.fr _ _ (h1 b o hb).1, (h1 b o hb).2⟩, h2⟩
theorem sp_run (hm : C.P.follows .mixedOrders = true) {B : World} {R : List Go.Sk.HP} (hC : C.OK (fun b => B.heap[b]?)) (hf : C.FOK) (hsp : ∀ B F, C.OK F → SpOK B F C sp) {f : Nat} {vs : List Value} {v : Value} {h' : Hp} (hx : callN C lf sp k f vs (hp0 C.G) = .ret v h') (hv : noAddr v = true) (hvs : wfL 0 vs = true) :
  Go.Sk.Sp B C.P f vs R [] (fun u H' => u = v ∧ H' = []) := fun w s => by
 have s : Go.Sk.Sat B R w := s
 have hC' : C.OK (fun b => w.heap[b]?) := hC.mono fun b o hb => by
  have hlt := (Array.getElem?_eq_some_iff.1 hb).1
  rw [s.base b hlt]
  exact hb
 have := callN_ok hm hC' hf (hsp _) (lf := lf) k f vs (hp0 C.G) _ w (fun t e => by rw [hx] at e; cases e) (wfL_mono (Nat.zero_le _) _ hvs) (satX_start w C.G)
 rw [hx, renL_id _ _ hvs] at this
 refine this.mono fun e w' hq => ?_
 obtain ⟨ρ', rfl, _, _, _, s'⟩ := hq
 exact ⟨v, [], by rw [ren_id _ _ hv], ⟨rfl, rfl⟩, sat_grow s s'⟩
theorem sp_true (hm : C.P.follows .mixedOrders = true) {B : World} {R : List Go.Sk.HP} (hC : C.OK (fun b => B.heap[b]?)) (hf : C.FOK) (hsp : ∀ B F, C.OK F → SpOK B F C sp) {f : Nat} (hx : isTrue (callN C lf sp k f [] (hp0 C.G)) = true) :
  Go.Sk.Sp B C.P f [] R [] (fun u H' => u = .bool true ∧ H' = []) := by
 obtain ⟨h', hx⟩ := isTrue_ok hx
 exact sp_run hm hC hf hsp hx rfl rfl
end
end Go.Xs
end
section
namespace Go.Xs
open Go.RowKit

theorem cell_kept {B w : World} {a : Addr} {v : Value} (hw : ∀ (b : Nat) (o : Obj), B.heap[b]? = some o → w.heap[b]? = some o) (h : B.cell? a = some v) : w.cell? a = some v := by
 unfold World.cell? at h ⊢
 cases hb : B.heap[a.block]? with
 | none => simp [hb] at h
 | some o =>
  rw [hw _ _ hb]
  rw [hb] at h
  exact h
/-- The functions of a program. -/
def fnsOf (P : Program) (g : Nat) : Option Func := match P.funcs[g]? with
 | some fn => bif fn.body.isSome then some fn else none
 | none => none
theorem fnsOf_ok {P : Program} (hn : P.funcs.toList.all (fun fn => !(fn.name == "runtime.NumGoroutine")) = true) {g : Nat} {fn : Func} (h : fnsOf P g = some fn) : P.funcs[g]? = some fn ∧ fn.body.isSome = true ∧ (fn.name == "runtime.NumGoroutine") = false := by
 unfold fnsOf at h
 split at h
 ·rename_i fn' hg
  cases hb : fn'.body.isSome with
  | false => rw [hb] at h; cases h
  | true =>
   rw [hb] at h
   cases h
   refine ⟨hg, hb, ?_⟩
   have := List.all_eq_true.1 hn fn (by rw [Array.mem_toList_iff]; exact Array.mem_of_getElem? hg)
   simpa using this
 ·cases h
end Go.Xs
end
section
namespace Go.Xs
open Go.RowKit

mutual
/-- The numbers of a datum, one behind the other. -/
def flatD : DataW Unit → List Value
 | .lit (.int k n) => [.int k n]
 | .lit (.bool b) => [.bool b]
 | .lit (.float k b) => [.float k b]
 | .lit (.string l) => [.string ⟨l.toArray⟩]
 | .agg ds => flatDs ds
 | .slice ds _ => flatDs ds
 | .ptr d => flatD d
 | .iface _ d => flatD d
 | _ => []
def flatDs : List (DataW Unit) → List Value
 | [] => []
 | d :: ds => flatD d ++ flatDs ds
end
/-- The cells that read as these parts, one behind the other. -/
def fitL (P : Program) (f : TypeId → DataW Unit → Option (List Value)) : List (Nat × TypeId × DataW Unit) → Nat → Option (List Value)
 | [], _ => some []
 | (o, t, d) :: l, off => bif Nat.beq o off then match f t d with
   | some r => bif Nat.beq r.length (P.cellsOf t) then match fitL P f l (off + P.cellsOf t) with
     | some r' => some (r ++ r')
     | none => none
    else none
   | none => none
  else none
def arrL (e : TypeId) (z : Nat) : Nat → List (DataW Unit) → List (Nat × TypeId × DataW Unit)
 | _, [] => []
 | i, d :: ds => (i * z, e, d) :: arrL e z (i + 1) ds
def fldL : List Field → List (DataW Unit) → List (Nat × TypeId × DataW Unit)
 | f :: fs, d :: ds => (f.offset, f.type, d) :: fldL fs ds
 | _, _ => []
/-- The cells that read as a datum. -/
def fitB (P : Program) : Nat → TypeId → DataW Unit → Option (List Value)
 | 0, _, _ => none
 | k + 1, t, d => match P.underlying t, d with
  | some .bool, .lit (.bool b) => some [.bool b]
  | some (.int q0), .lit (.int q n) => bif Nat.beq q0.ctorIdx q.ctorIdx && (Lit.int q n).wf then some [.int q n] else none
  | some (.array n e), .agg ds => bif Nat.beq ds.length n then match fitL P (fitB P k) (arrL e (P.cellsOf e) 0 ds) 0 with
    | some r => bif Nat.beq r.length (P.cellsOf t) then some r else none
    | none => none
   else none
  | some (.struct ⟨fs⟩), .agg ds => bif Nat.beq ds.length fs.length then match fitL P (fitB P k) (fldL fs ds) 0 with
    | some r => bif Nat.beq r.length (P.cellsOf t) then some r else none
    | none => none
   else none
  | _, _ => none
theorem arrL_mem {e : TypeId} {z : Nat} : ∀ {ds : List (DataW Unit)} {i0 o : Nat} {t : TypeId} {d : DataW Unit}, (o, t, d) ∈ arrL e z i0 ds → ∃ i, ds[i]? = some d ∧ o = (i0 + i) * z ∧ t = e
 | [], _, _, _, _, h => by simp [arrL] at h
 | d' :: ds, i0, o, t, d, h => by
  simp only [arrL, List.mem_cons, Prod.mk.injEq] at h
  rcases h with ⟨rfl, rfl, rfl⟩ | h
  ·exact ⟨0, rfl, by simp, rfl⟩
  ·obtain ⟨i, h1, h2, h3⟩ := arrL_mem h
   exact ⟨i + 1, by simpa using h1, by rw [h2]; congr 1; omega, h3⟩
theorem fldL_mem : ∀ {fs : List Field} {ds : List (DataW Unit)} {o : Nat} {t : TypeId} {d : DataW Unit}, (o, t, d) ∈ fldL fs ds → ∃ (i : Nat) (f : Field), fs[i]? = some f ∧ ds[i]? = some d ∧ o = f.offset ∧ t = f.type
 | [], _, _, _, _, h => by simp [fldL] at h
 | _ :: _, [], _, _, _, h => by simp [fldL] at h
 | f :: fs, d' :: ds, o, t, d, h => by
  simp only [fldL, List.mem_cons, Prod.mk.injEq] at h
  rcases h with ⟨rfl, rfl, rfl⟩ | h
  ·exact ⟨0, f, rfl, rfl, rfl, rfl⟩
  ·obtain ⟨i, g, h1, h2, h3⟩ := fldL_mem h
   exact ⟨i + 1, g, by simpa using h1, by simpa using h2, h3⟩
section
variable {P : Program} {w : World} {base : Nat} {sp : Nat → Bool} {held : Bool} {enc : TypeId × Value → Unit}
theorem fitL_ok {f : TypeId → DataW Unit → Option (List Value)} {cs : List Value} (hf : ∀ t d l, f t d = some l → ∀ fuel cs p, DataW.trod enc P w base sp held fuel t cs = some (d, p) → cs = l) : ∀ {l : List (Nat × TypeId × DataW Unit)} {off : Nat} {r : List Value},
  fitL P f l off = some r → (∀ o t d, (o, t, d) ∈ l → ∃ fuel p, DataW.trod enc P w base sp held fuel t ((cs.drop o).take (P.cellsOf t)) = some (d, p)) → (cs.drop off).take r.length = r
 | [], off, r, h, _ => by
  simp only [fitL, Option.some.injEq] at h
  subst h
  simp
 | (o, t, d) :: l, off, r, h, hm => by
  simp only [fitL] at h
  cases hb : Nat.beq o off with
  | false => rw [hb] at h; cases h
  | true =>
   rw [hb] at h
   rw [Nat.beq_eq] at hb
   subst hb
   simp only [cond_true] at h
   split at h
   ·rename_i r1 hr1
    cases hb2 : Nat.beq r1.length (P.cellsOf t) with
    | false => rw [hb2] at h; cases h
    | true =>
     rw [hb2] at h
     rw [Nat.beq_eq] at hb2
     simp only [cond_true] at h
     split at h
     ·rename_i r2 hr2
      cases h
      obtain ⟨fuel, p, hp⟩ := hm o t d List.mem_cons_self
      have e1 := hf t d r1 hr1 fuel _ p hp
      have e2 := fitL_ok hf hr2 fun o' t' d' h' => hm o' t' d' (List.mem_cons_of_mem _ h')
      rw [List.length_append, List.take_add, hb2, e1, List.drop_drop, e2]
     ·cases h
   ·cases h
theorem fitB_ok : ∀ (k : Nat) (t : TypeId) (d : DataW Unit) (l : List Value), fitB P k t d = some l → ∀ (fuel : Nat) (cs : List Value) (p : List MemPlace), DataW.trod enc P w base sp held fuel t cs = some (d, p) → cs = l
 | 0, t, d, l, h, _, _, _, _ => by simp [fitB] at h
 | k + 1, t, d, l, h, fuel, cs, p, ht => by
  simp only [fitB] at h
  split at h
  ·rename_i b hu
   obtain ⟨b', rfl, e⟩ := DataW.trod_bool hu ht
   cases e
   cases h
   rfl
  ·rename_i q q' n hu
   obtain ⟨n', rfl, e, _⟩ := DataW.trod_int hu ht
   cases e
   cases hb : Nat.beq q.ctorIdx q.ctorIdx && (Lit.int q n).wf with
   | false => rw [hb] at h; cases h
   | true => rw [hb] at h; cases h; rfl
  ·rename_i n e ds hu
   cases hb : Nat.beq ds.length n with
   | false => rw [hb] at h; cases h
   | true =>
    rw [hb] at h
    rw [Nat.beq_eq] at hb
    simp only [cond_true] at h
    split at h
    ·rename_i r hr
     cases hb2 : Nat.beq r.length (P.cellsOf t) with
     | false => rw [hb2] at h; cases h
     | true =>
      rw [hb2] at h
      rw [Nat.beq_eq] at hb2
      cases h
      have hlen : cs.length = P.cellsOf t := by
       cases fuel with
       | zero => simp [DataW.trod] at ht
       | succ fuel =>
        simp only [DataW.trod, hu] at ht
        split at ht
        ·assumption
        ·cases ht
      have := fitL_ok (cs := cs) (fitB_ok k) hr fun o t' d' hm => by
       obtain ⟨i, h1, h2, rfl⟩ := arrL_mem hm
       rw [Nat.zero_add] at h2
       subst h2
       have hi : i < n := by rw [← hb]; exact (List.getElem?_eq_some_iff.1 h1).1
       obtain ⟨fuel', d2, q, q1, q2⟩ := Lib.array_elem hu ht i hi
       rw [h1] at q1
       cases q1
       exact ⟨fuel', q, q2⟩
      rw [List.drop_zero, hb2, ← hlen, List.take_length] at this
      exact this
    ·cases h
  ·rename_i fs ds hu
   cases hb : Nat.beq ds.length fs.length with
   | false => rw [hb] at h; cases h
   | true =>
    rw [hb] at h
    simp only [cond_true] at h
    split at h
    ·rename_i r hr
     cases hb2 : Nat.beq r.length (P.cellsOf t) with
     | false => rw [hb2] at h; cases h
     | true =>
      rw [hb2] at h
      rw [Nat.beq_eq] at hb2
      cases h
      obtain ⟨xs, m, rfl, hx, hlen, hxl, hall⟩ := DataW.trod_struct hu ht
      have hds : ds = xs.map (·.1) := by
       have := congrArg Prod.fst hx
       simpa using this
      have := fitL_ok (cs := cs) (fitB_ok k) hr fun o t' d' hm => by
       obtain ⟨i, f, h1, h2, rfl, rfl⟩ := fldL_mem hm
       have h3 := hall i f (by simpa using h1)
       rw [hds, List.getElem?_map] at h2
       obtain ⟨x, hx1, hx2⟩ := Option.map_eq_some_iff.1 h2
       rw [hx1] at h3
       exact ⟨m, x.2, by rw [h3, ← hx2]⟩
      rw [List.drop_zero, hb2, ← hlen, List.take_length] at this
      exact this
    ·cases h
  ·cases h
end
/-- What a variable holds that is laid: its cells. -/
theorem tab_of {P : Program} {w : World} {l : List (String × DataW Unit)} (h : laidMet P l w) {n : String} {d : DataW Unit} (hm : (n, d) ∈ l) {g : Nat} {t : TypeId} {cs : List Value} (hg : P.globalNamed n = some g) (ht : (P.globals[g]?).map (·.type) = some t)
  (hf : fitB P 9 t d = some cs) {j : Nat} {v : Value} (hj : cs[j]? = some v) : w.cell? ⟨g, j, none⟩ = some v := by
 obtain ⟨g', t', cs', fuel, p, h1, h2, h3, h4⟩ := Lib.laidMet.reads h hm
 rw [hg] at h1
 cases h1
 rw [ht] at h2
 cases h2
 have := fitB_ok 9 t d cs hf fuel _ p h4
 rw [World.var?_cell hg h3, ← Array.getElem?_toList, this]
 exact hj
/-- A table of variables: what each is called, its datum, its type, its cells. -/
structure TabV where
 g : Nat
 name : String
 t : TypeId
 d : DataW Unit
 cs : List Value
def TabV.find : List TabV → Nat → Option (List Value)
 | [], _ => none
 | x :: l, g => bif Nat.beq x.g g then some x.cs else TabV.find l g
/-- Each of them as it must be. -/
structure TabV.Fit (P : Program) (l : List (String × DataW Unit)) (x : TabV) : Prop where
 mem : (x.name, x.d) ∈ l
 g : P.globalNamed x.name = some x.g
 t : (P.globals[x.g]?).map (·.type) = some x.t
 cs : fitB P 9 x.t x.d = some x.cs
 wf : wfL 0 x.cs = true
theorem TabV.find_ok {P : Program} {w : World} {l : List (String × DataW Unit)} (h : laidMet P l w) : ∀ {xs : List TabV}, (∀ x ∈ xs, TabV.Fit P l x) → ∀ {g : Nat} {cs : List Value}, TabV.find xs g = some cs → ∀ {j : Nat} {v : Value}, cs[j]? = some v → wfv 0 v = true ∧ w.cell? ⟨g, j, none⟩ = some v
 | [], _, _, _, hx, _, _, _ => by simp [TabV.find] at hx
 | x :: xs, hf, g, cs, hx, j, v, hj => by
  simp only [TabV.find] at hx
  cases hb : Nat.beq x.g g with
  | true =>
   rw [hb] at hx
   rw [Nat.beq_eq] at hb
   subst hb
   cases hx
   have F := hf x List.mem_cons_self
   exact ⟨wfL_get F.wf hj, tab_of h F.mem F.g F.t F.cs hj⟩
  | false =>
   rw [hb] at hx
   exact TabV.find_ok h (fun y hy => hf y (List.mem_cons_of_mem _ hy)) hx hj
theorem TabV.ok {C : Ctx} {B : World} {l : List (String × DataW Unit)} (h : laidMet C.P l B) {n : Nat} (hG : C.G = Gx.flat n) {xs : List TabV} (hf : ∀ x ∈ xs, TabV.Fit C.P l x) (ht : C.tab = TabV.find xs) : C.OK (fun b => B.heap[b]?) := fun g cs hg hl j v hj => by
 rw [ht] at hl
 obtain ⟨h1, h2⟩ := TabV.find_ok h hf hl hj
 refine ⟨wfv_mono (Nat.zero_le _) _ h1, fun ρ w' _ hw => ?_⟩
 rw [ren_id ρ v h1, hG]
 exact cell_kept hw h2
end Go.Xs
end
section
namespace Go.Xs
open Go.RowKit
open Go.Sk (HP Own ints Sat Sp star Dj Le)

theorem byteL_ints {l : List Value} {m : List UInt8} (h : byteL l = some m) : l = ints .u8 (m.map fun b => (b.toNat : Int)) := by
 rw [byteL_ok h]
 simp [ints, List.map_map, Function.comp_def]
/-- The bytes of a row that is owned. -/
def ownX (e : TypeId) (h : Hp) (nm n c : Nat) : Option (List UInt8) := match h.get nm with
 | some (.cells l e') => bif Nat.beq e' e && Nat.beq (c % 2) 0 && Nat.beq l.length (c / 2) && Nat.ble n (c / 2) && Nat.ble (c / 2) 9223372036854775807 then byteL (l.take n) else none
 | some (.grow l e' 1) => bif Nat.beq e' e && Nat.beq c 1 && Nat.ble n l.length then byteL (l.take n) else none
 | _ => none
def byteV (l : List UInt8) : List Value := l.map fun b => .int .u8 (b.toNat : Int)
theorem byteV_ints (l : List UInt8) : byteV l = ints .u8 (l.map fun b => (b.toNat : Int)) := by simp [byteV, ints, List.map_map, Function.comp_def]
theorem byteV_no (l : List UInt8) : wfL 0 (byteV l) = true := wfL_iff.2 fun v hv => by
 unfold byteV at hv
 obtain ⟨b, _, rfl⟩ := List.mem_map.1 hv
 rfl
def spIns (fi : Nat) (e : TypeId) (f : Nat) (args : List Value) (h : Hp) : Option FR := match args with
 | [.slice (some ⟨nm, 0, none⟩) n c, .int .i64 (.ofNat i), .slice (some ⟨nm', 0, none⟩) m c'] =>
  bif Nat.beq f fi && Nat.ble i n && Nat.ble (n + m) 33554432 && Nat.blt 0 (n + m) && !Nat.beq nm nm' then match ownX e h nm n c with
   | some l => match ownX e h nm' m c' with
    | some l' => some (.ret (.slice (some ⟨h.next, 0, none⟩) (n + m) 1) (((h.del nm).del nm').new (.grow (byteV (l.take i ++ l' ++ l.drop i)) e 1)))
    | none => none
   | none => none
  else none
 | _ => none
section
variable {B : World} {F : PH} {C : Ctx} {h : Hp} {ρ : Val} {w : World}
theorem ownX_ok (s : SatX B F C.G h ρ w) {e nm n c : Nat} {l : List UInt8} (hx : ownX e h nm n c = some l) :
  l.length = n ∧ (∃ o, h.get nm = some o) ∧ ∀ hh : PH, hh (ρ.b nm) = w.heap[ρ.b nm]? → Own (some ⟨ρ.b nm, 0, none⟩) (capOf ρ nm c) e 1 n (ints .u8 (l.map fun b => (b.toNat : Int))) hh := by
 unfold ownX at hx
 split at hx
 ·rename_i xs e' hg
  cases hb : Nat.beq e' e && Nat.beq (c % 2) 0 && Nat.beq xs.length (c / 2) && Nat.ble n (c / 2) && Nat.ble (c / 2) 9223372036854775807 with
  | false => rw [hb] at hx; cases hx
  | true =>
   rw [hb] at hx
   simp only [Bool.and_eq_true, Nat.beq_eq, Nat.ble_eq] at hb
   obtain ⟨⟨⟨⟨rfl, h2⟩, h3⟩, h4⟩, h5⟩ := hb
   simp only [cond_true] at hx
   have hbl := byteL_ints hx
   have hlen : l.length = n := by
    have := congrArg List.length hbl
    simp [ints] at this
    omega
   obtain ⟨_, _, _, obj, hob, hi⟩ := s.ob nm _ hg
   simp only [SObj.is] at hi
   subst hi
   have hcap : capOf ρ nm c = c / 2 := by unfold capOf; rw [if_pos h2]
   refine ⟨hlen, ⟨_, hg⟩, fun hh hhe => ⟨by simp [ints, hlen], by omega, by rw [hcap]; exact h5, .inr ⟨ρ.b nm, _, rfl, by rw [hhe, hob], ?_, ?_⟩⟩⟩
   ·simp [renL_len]; omega
   ·rw [← hbl]
    simp only [Nat.mul_one]
    rw [← renL_take, hbl]
    exact renL_id ρ _ (by rw [← byteV_ints]; exact byteV_no l)
 ·rename_i xs e' hg
  cases hb : Nat.beq e' e && Nat.beq c 1 && Nat.ble n xs.length with
  | false => rw [hb] at hx; cases hx
  | true =>
   rw [hb] at hx
   simp only [Bool.and_eq_true, Nat.beq_eq, Nat.ble_eq] at hb
   obtain ⟨⟨rfl, rfl⟩, h4⟩ := hb
   simp only [cond_true] at hx
   have hbl := byteL_ints hx
   have hlen : l.length = n := by
    have := congrArg List.length hbl
    simp [ints] at this
    omega
   obtain ⟨_, _, _, obj, hob, hi⟩ := s.ob nm _ hg
   obtain ⟨tail, rfl, ht1, ht2⟩ := hi
   have hx1 : xs.length ≤ ρ.c nm := by
    have := ht1
    rw [List.length_append, renL_len] at this
    omega
   rw [capOf_one]
   refine ⟨hlen, ⟨_, hg⟩, fun hh hhe => ⟨by simp [ints, hlen], by omega, ht2, .inr ⟨ρ.b nm, _, rfl, by rw [hhe, hob], by simpa using ht1, ?_⟩⟩⟩
   rw [← hbl]
   simp only [Nat.mul_one]
   rw [List.take_append_of_le_length (by rw [renL_len]; exact h4), ← renL_take, hbl]
   exact renL_id ρ _ (by rw [← byteV_ints]; exact byteV_no l)
 ·cases hx
theorem spIns_ok {fi e : Nat} (hins : ∀ (B : World) (R : List HP) (a av : Option Addr) (c cv n m i : Nat) (l l' : List Int), i ≤ n → n + m ≤ 33554432 →
   Sp B C.P fi [.slice a n c, .int .i64 i, .slice av m cv] R [Own a c e 1 n (ints .u8 l), Own av cv e 1 m (ints .u8 l')] (fun u H' => ∃ a' c', u = .slice a' (n + m) c' ∧ H' = [Own a' c' e 1 (n + m) (ints .u8 (l.take i ++ l' ++ l.drop i))])) :
  SpOK B F C (spIns fi e) := by
 intro f args h ρ w r hx hno hwf s
 unfold spIns at hx
 split at hx
 ·rename_i nm n c i nm' m c'
  cases hb : Nat.beq f fi && Nat.ble i n && Nat.ble (n + m) 33554432 && Nat.blt 0 (n + m) && !Nat.beq nm nm' with
  | false => rw [hb] at hx; cases hx
  | true =>
   rw [hb] at hx
   simp only [Bool.and_eq_true, Nat.beq_eq, Nat.ble_eq, Nat.blt_eq, Bool.not_eq_true'] at hb
   obtain ⟨⟨⟨⟨rfl, h2⟩, h3⟩, h4⟩, h5⟩ := hb
   have hne : nm ≠ nm' := fun e => by rw [e, Nat.beq_refl] at h5; cases h5
   simp only [cond_true] at hx
   split at hx
   ·rename_i l hl
    split at hx
    ·rename_i l' hl'
     cases hx
     obtain ⟨n1, ⟨o1, g1⟩, w1⟩ := ownX_ok s hl
     obtain ⟨n2, ⟨o2, g2⟩, w2⟩ := ownX_ok s hl'
     have hbne : ρ.b nm ≠ ρ.b nm' := fun e => hne (s.inj _ _ _ _ g1 g2 e)
     let rest : HP := fun hh => ∀ b o, b ≠ ρ.b nm → b ≠ ρ.b nm' → w.heap[b]? = some o → hh b = some o
     have hsat : Sat { w with heap := #[] } ([Own (some ⟨ρ.b nm, 0, none⟩) (capOf ρ nm c) e 1 n (ints .u8 (l.map fun b => (b.toNat : Int))), Own (some ⟨ρ.b nm', 0, none⟩) (capOf ρ nm' c') e 1 m (ints .u8 (l'.map fun b => (b.toNat : Int)))] ++ [rest]) w := by
      refine ⟨rfl, rfl, rfl, Nat.zero_le _, fun b hb => absurd hb (Nat.not_lt_zero _), fun b => w.heap[b]?, fun b o hb => ⟨hb, Nat.zero_le _⟩, ?_⟩
      refine ⟨fun b => if b = ρ.b nm then w.heap[b]? else none, fun b => if b = ρ.b nm then none else w.heap[b]?, ?_, ?_, ?_, w1 _ (by simp), ?_⟩
      ·intro b
       by_cases e : b = ρ.b nm <;> simp [e]
      ·intro b o hb
       by_cases e : b = ρ.b nm
       ·simpa [e] using hb
       ·simp [e] at hb
      ·intro b o hb
       by_cases e : b = ρ.b nm
       ·simp [e] at hb
       ·simpa [e] using hb
      ·refine ⟨fun b => if b = ρ.b nm' then w.heap[b]? else none, fun b => if b = ρ.b nm ∨ b = ρ.b nm' then none else w.heap[b]?, ?_, ?_, ?_, w2 _ (by simp), ?_⟩
       ·intro b
        by_cases e : b = ρ.b nm' <;> simp [e]
       ·intro b o hb
        by_cases e : b = ρ.b nm'
        ·subst e
         simp only [if_true] at hb
         simp only [if_neg (fun e => hbne e.symm : ¬ ρ.b nm' = ρ.b nm)]
         exact hb
        ·simp [e] at hb
       ·intro b o hb
        by_cases e : b = ρ.b nm
        ·simp [e] at hb
        ·by_cases e' : b = ρ.b nm'
         ·simp [e'] at hb
         ·simp only [e, e', or_self, if_false] at hb ⊢
          exact hb
       ·refine ⟨fun b => if b = ρ.b nm ∨ b = ρ.b nm' then none else w.heap[b]?, fun _ => none, ?_, fun _ _ hb => hb, fun _ _ hb => (by cases hb), ?_, trivial⟩
        ·intro b
         exact .inr rfl
        ·intro b o e1 e2 hb
         simp [e1, e2, hb]
     have hcalls := hins _ [rest] (some ⟨ρ.b nm, 0, none⟩) (some ⟨ρ.b nm', 0, none⟩) (capOf ρ nm c) (capOf ρ nm' c') n m i _ _ h2 h3 w hsat
     have hargs : (renL ρ [Value.slice (some ⟨nm, 0, none⟩) n c, .int .i64 (.ofNat i), .slice (some ⟨nm', 0, none⟩) m c']) = [.slice (some ⟨ρ.b nm, 0, none⟩) n (capOf ρ nm c), .int .i64 (i : Int), .slice (some ⟨ρ.b nm', 0, none⟩) m (capOf ρ nm' c')] := by simp [renL, ren]
     rw [hargs]
     refine hcalls.mono fun en w' ⟨v, H', hen, ⟨a', k, hv, hH⟩, s'⟩ => ?_
     subst hH
     subst hv
     subst hen
     obtain ⟨hh, hle, p1, p2, hdj, l1, l2, ho, p3, p4, _, l3, _, hr, _⟩ := s'.heap
     obtain ⟨q1, q2, q3, q4⟩ := ho
     rcases q4 with ⟨_, rfl⟩ | ⟨g, cur, rfl, q5, q6, q7⟩
     ·omega
     ·have hL : (l.map (fun b => (b.toNat : Int))).take i ++ l'.map (fun b => (b.toNat : Int)) ++ (l.map (fun b => (b.toNat : Int))).drop i = (l.take i ++ l' ++ l.drop i).map fun b => (b.toNat : Int) := by simp [List.map_take, List.map_drop]
      rw [hL, ← byteV_ints] at q7
      have hrest : ∀ b o, b ≠ ρ.b nm → b ≠ ρ.b nm' → w.heap[b]? = some o → p2 b = some o ∧ w'.heap[b]? = some o := fun b o e1 e2 hb => by
       have := l3 _ _ (hr b o e1 e2 hb)
       exact ⟨this, (hle _ _ (l2 _ _ this)).1⟩
      have hng : ∀ b o, b ≠ ρ.b nm → b ≠ ρ.b nm' → w.heap[b]? = some o → g ≠ b := fun b o e1 e2 hb e => by
       subst e
       have := (hrest _ _ e1 e2 hb).1
       rcases hdj g with hd | hd
       ·rw [q5] at hd; cases hd
       ·rw [this] at hd; cases hd
      have hE := Val.put_ext ρ h.next g k
      have back : ∀ x o, (((h.del nm).del nm').new (.grow (byteV (l.take i ++ l' ++ l.drop i)) e 1)).get x = some o → x ≠ h.next → x ≠ nm ∧ x ≠ nm' ∧ h.get x = some o := fun x o hg hx => by
       have h1 := Hp.get_new_ne (h := (h.del nm).del nm') hx hg
       obtain ⟨h2, h3⟩ := Hp.get_del h1
       obtain ⟨h4, h5⟩ := Hp.get_del h3
       exact ⟨h4, h2, h5⟩
      have blk : ∀ x o, x ≠ nm → x ≠ nm' → h.get x = some o → ρ.b x ≠ ρ.b nm ∧ ρ.b x ≠ ρ.b nm' := fun x o e1 e2 hg => ⟨fun e => e1 (s.inj _ _ _ _ hg g1 e), fun e => e2 (s.inj _ _ _ _ hg g2 e)⟩
      have hFb : ∀ b o, F b = some o → b ≠ ρ.b nm ∧ b ≠ ρ.b nm' := fun b o hF => ⟨fun e => (by rw [e, (s.ob nm _ g1).1] at hF; cases hF), fun e => (by rw [e, (s.ob nm' _ g2).1] at hF; cases hF)⟩
      refine ⟨ρ.put h.next g k, by simp [ren, Val.put_b, capOf, Val.put_c], hE, Nat.le_succ _, by simp [wfv, Nat.blt_eq, Hp.new, Hp.del],
       ⟨s'.os.trans s.os, s'.output.trans s.output, s'.tape.trans s.tape, fun b o hF => ?_, fun x o hg => ?_, fun x x' o o' hg hg' hb => ?_, fun y hy => by rw [(hE y (Nat.lt_of_lt_of_le hy s.gn)).1]; exact s.gl y hy, Nat.le_succ_of_le s.gn⟩⟩
      ·obtain ⟨e1, e2⟩ := hFb b o hF
       exact (hrest b o e1 e2 (s.fr b o hF)).2
      ·by_cases ex : x = h.next
       ·subst ex
        have : (((h.del nm).del nm').new (.grow (byteV (l.take i ++ l' ++ l.drop i)) e 1)).get ((h.del nm).del nm').next = _ := Hp.get_new
        rw [show h.next = ((h.del nm).del nm').next from rfl, this] at hg
        cases hg
        rw [Val.put_b]
        refine ⟨?_, by simp [Hp.new, Hp.del], wfL_mono (Nat.zero_le _) _ (byteV_no _), .cells cur e (0, 0), (hle _ _ (l1 _ _ q5)).1, ?_⟩
        ·cases hF : F g with
         | none => rfl
         | some o =>
          obtain ⟨e1, e2⟩ := hFb g o hF
          exact absurd rfl (hng g o e1 e2 (s.fr g o hF))
        ·refine ⟨cur.toList.drop (n + m), ?_, ?_, by rw [Val.put_c]; exact q3⟩
         ·rw [renL_id _ _ (byteV_no _), ← q7]
          simp only [Nat.mul_one, List.take_append_drop]
         ·rw [renL_id _ _ (byteV_no _), ← q7, Val.put_c]
          simp only [Nat.mul_one, List.take_append_drop]
          rw [Nat.mul_one] at q6
          simpa using q6
       ·obtain ⟨e1, e2, e3⟩ := back x o hg ex
        obtain ⟨b1, b2⟩ := blk x o e1 e2 e3
        obtain ⟨h1, h2, h3, obj, h4, h5⟩ := s.ob x o e3
        rw [(hE x h2).1]
        exact ⟨h1, Nat.lt_succ_of_lt h2, wfo_mono (Nat.le_succ _) _ h3, obj, (hrest _ _ b1 b2 h4).2, is_ext hE h2 h3 h5⟩
      ·have cross : ∀ y oy, y ≠ h.next → (((h.del nm).del nm').new (.grow (byteV (l.take i ++ l' ++ l.drop i)) e 1)).get y = some oy → (ρ.put h.next g k).b y ≠ g := fun y oy hy hgy e => by
        obtain ⟨e1, e2, e3⟩ := back y oy hgy hy
        obtain ⟨b1, b2⟩ := blk y oy e1 e2 e3
        obtain ⟨_, h2, _, obj, h4, _⟩ := s.ob y oy e3
        rw [(hE y h2).1] at e
        exact hng _ _ b1 b2 h4 e.symm
       by_cases ex : x = h.next
       ·by_cases ex' : x' = h.next
        ·rw [ex, ex']
        ·rw [ex, Val.put_b] at hb
         exact absurd hb.symm (cross x' o' ex' hg')
       ·by_cases ex' : x' = h.next
        ·rw [ex', Val.put_b] at hb
         exact absurd hb (cross x o ex hg)
        ·obtain ⟨_, _, e3⟩ := back x o hg ex
         obtain ⟨_, _, e3'⟩ := back x' o' hg' ex'
         rw [(hE x (s.ob x o e3).2.1).1, (hE x' (s.ob x' o' e3').2.1).1] at hb
         exact s.inj _ _ _ _ e3 e3' hb
    ·cases hx
   ·cases hx
 ·cases hx
end
end Go.Xs
end
