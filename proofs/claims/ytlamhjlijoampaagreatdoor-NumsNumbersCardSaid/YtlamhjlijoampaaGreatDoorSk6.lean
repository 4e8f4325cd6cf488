/- The walk by reckoning: a function that carries out the operations that need no memory and no thought, and asks at tests and sums. Plain theorems, no condition. -/
import Derived.Test.YtlamhjlijoampaaGreatDoorSk5
set_option linter.unusedVariables false
set_option linter.unusedSimpArgs false
namespace Go.Sk
section
variable {P : Program} (T : Tab P)

/-- What such an operation yields. -/
def evalOp (E : Env) : Op → Option Value
  | .move x => ev E x
  | .assign x => ev E x
  | .nilCheck x => match ev E x with
    | some (.pointer (some a)) => some (.pointer (some a))
    | _ => none
  | .fieldAddr s x f => match ev E x with
    | some (.pointer (some ⟨b, 0, none⟩)) => match al2 T.flds s f with
      | some (off, _ + 1, _) => some (.pointer (some ⟨b, off, none⟩))
      | _ => none
    | _ => none
  | .extract x i => match ev E x with
    | some (.tuple ⟨l⟩) => l[i]?
    | _ => none
  | .pick c x y => match ev E c with
    | some (.bool true) => ev E x
    | some (.bool false) => ev E y
    | _ => none
  | .unOp .not _ x => match ev E x with
    | some (.bool true) => some (.bool false)
    | some (.bool false) => some (.bool true)
    | _ => none
  | .call ⟨.builtin .len, ⟨[x]⟩, ⟨[t]⟩⟩ => match ev E x with
    | some (.slice _ k _) => match al T.slcs t with
      | some _ => some (.int .i64 k)
      | none => none
    | _ => none
  | .call ⟨.builtin .cap, ⟨[x]⟩, ⟨[t]⟩⟩ => match ev E x with
    | some (.slice _ _ c) => match al T.slcs t with
      | some _ => some (.int .i64 c)
      | none => none
    | _ => none
  | _ => none

/-- Two ways, or a sum to be named. -/
inductive Ask where
  | no
  | two (c : Prop) (t f : Bool)
  | num (k : IntKind) (e : Int)

def askOp (E : Env) : Op → Ask
  | .binOp bo _ x y _ => match ev E x, ev E y with
    | some (.int k i), some (.int k' j) => bif decide (k = k') then (match bo with
      | .lss => .two (i < j) true false
      | .leq => .two (i ≤ j) true false
      | .gtr => .two (j < i) true false
      | .geq => .two (j ≤ i) true false
      | .eql => .two (i = j) true false
      | .neq => .two (i = j) false true
      | .add => .num k (i + j)
      | .sub => .num k (i - j)
      | .mul => .num k (i * j)
      | _ => .no) else .no
    | _, _ => .no
  | .convert t' t x => match ev E x with
    | some (.int _ i) => match al T.ints t', al T.ints t with
      | some _, some k' => .num k' i
      | _, _ => .no
    | _ => .no
  | _ => .no

def vc (n : Nat) (l0 : List Oper) (K : List Oper → Env → Prop) : List Oper → Env → Bool → Prop
  | [], E, b => bif b then K [] E else False
  | o :: rest, E, b => match o.dst with
    | some d => bif Nat.blt d n then
      match wt l0 E o.guard with
      | some false => vc n l0 K rest ((d, undef) :: E) true
      | some true => match evalOp T E o.op with
        | some v => vc n l0 K rest ((d, v) :: E) true
        | none => match askOp T E o.op with
          | .two c t f => (c → vc n l0 K rest ((d, .bool t) :: E) true) ∧ (¬ c → vc n l0 K rest ((d, .bool f) :: E) true)
          | .num k e => ∀ r, k.wrap e = r → vc n l0 K rest ((d, .int k r) :: E) true
          | .no => bif b then K (o :: rest) E else False
      | none => bif b then K (o :: rest) E else False
      else bif b then K (o :: rest) E else False
    | none => bif b then K (o :: rest) E else False
end

section
variable {B : World} {P : Program} {n : Fm} {m : Bool} {l0 rest : List Oper} {E : Env} {H : List HP} {Q : Exit → Act → World → Prop} (T : Tab P)

theorem evalOp_ok {op : Op} {ty : TypeId} {v : Value} (h : evalOp T E op = some v) : Yld B P n E H op ty v := by
  unfold evalOp at h
  split at h
  · exact y_move h
  · exact y_assign h
  · split at h
    · rename_i hx; cases h; exact y_nil hx
    · cases h
  · split at h
    · rename_i hx
      split at h
      · rename_i hf; cases h; exact y_fa T hf hx
      · cases h
    · cases h
  · split at h
    · rename_i l hx; exact y_extract hx h
    · cases h
  · split at h
    · rename_i hc; exact y_pick_t hc h
    · rename_i hc; exact y_pick_f hc h
    · cases h
  · split at h
    · rename_i hx; cases h; exact y_not hx rfl
    · rename_i hx; cases h; exact y_not hx rfl
    · cases h
  · split at h
    · rename_i hx
      split at h
      · rename_i ht; cases h; exact y_len T ht hx
      · cases h
    · cases h
  · split at h
    · rename_i hx
      split at h
      · rename_i ht; cases h; exact y_cap T ht hx
      · cases h
    · cases h
  · cases h

theorem askOp_two {op : Op} {ty : TypeId} {c : Prop} {t f : Bool} (h : askOp T E op = .two c t f) : (t = true ∧ f = false ∨ t = false ∧ f = true) ∧ ∃ b, Yld B P n E H op ty (.bool b) ∧ (b = t ↔ c) := by
  unfold askOp at h
  split at h
  · split at h
    · rename_i k i k' j hx hy
      cases hk : decide (k = k') with
      | false => simp [hk] at h
      | true =>
        have hkk : k = k' := of_decide_eq_true hk
        subst hkk
        simp only [hk, cond_true] at h
        split at h <;> cases h
        all_goals first
          | exact ⟨by simp, _, y_cmp hx hy rfl (by simp), by simp⟩
    · cases h
  · split at h
    · split at h <;> cases h
    · cases h
  · cases h
theorem askOp_num {op : Op} {ty : TypeId} {k : IntKind} {e : Int} (h : askOp T E op = .num k e) : Yld B P n E H op ty (.int k (k.wrap e)) := by
  unfold askOp at h
  split at h
  · split at h
    · rename_i k0 i k' j hx hy
      cases hk : decide (k0 = k') with
      | false => simp [hk] at h
      | true =>
        have hkk : k0 = k' := of_decide_eq_true hk
        subst hkk
        simp only [hk, cond_true] at h
        split at h <;> cases h
        · exact y_add hx hy rfl
        · exact y_sub hx hy rfl
        · exact y_mul hx hy rfl
    · cases h
  · split at h
    · rename_i hx
      split at h
      · rename_i hs ht
        cases h
        exact y_conv T ht hs hx rfl
      · cases h
    · cases h
  · cases h

theorem vc_ok : ∀ (l : List Oper) (E : Env) (b : Bool), vc T n l0 (fun rest E' => RT B P n m l0 rest E' H Q) l E b → RT B P n m l0 l E H Q
  | [], E, b, h => by
    cases b
    · exact h.elim
    · exact h
  | o :: rest, E, b, h => by
    have stop : (bif b then RT B P n m l0 (o :: rest) E H Q else False) → RT B P n m l0 (o :: rest) E H Q := fun h => by
      cases b
      · exact h.elim
      · exact h
    obtain ⟨dst, op, ty, pos, af, g⟩ := o
    simp only [vc] at h
    cases dst with
    | none => exact stop h
    | some d =>
      simp only at h
      cases hd : Nat.blt d n with
      | false => rw [hd] at h; exact stop h
      | true =>
        rw [hd] at h
        have hdn : d < n := by simpa [Nat.blt_eq] using hd
        simp only [cond_true] at h
        cases hw : wt l0 E g with
        | none => simp only [hw] at h; exact stop h
        | some bw =>
          cases bw with
          | false => simp only [hw] at h; exact RT.skip hw hdn (vc_ok rest _ _ h)
          | true =>
            simp only [hw] at h
            cases he : evalOp T E op with
            | some v => simp only [he] at h; exact RT.y hw hdn (evalOp_ok T he) (vc_ok rest _ _ h)
            | none =>
              simp only [he] at h
              cases ha : askOp T E op with
              | no => simp only [ha] at h; exact stop h
              | two c t f =>
                simp only [ha] at h
                obtain ⟨htf, bb, hy, hb⟩ := askOp_two (B := B) (n := n) (H := H) (ty := ty) T ha
                refine RT.y hw hdn hy ?_
                by_cases hc : c
                · have := hb.2 hc; subst this; exact vc_ok rest _ _ (h.1 hc)
                · have hne : bb ≠ t := fun e => hc (hb.1 e)
                  have : bb = f := by rcases htf with ⟨rfl, rfl⟩ | ⟨rfl, rfl⟩ <;> cases bb <;> simp_all
                  subst this
                  exact vc_ok rest _ _ (h.2 hc)
              | num k e =>
                simp only [ha] at h
                exact RT.y hw hdn (askOp_num T ha) (vc_ok rest _ _ (h _ rfl))
theorem RT.c (h : vc T n l0 (fun rest E' => RT B P n m l0 rest E' H Q) rest E false) : RT B P n m l0 rest E H Q := vc_ok T rest E false h
theorem RT.id (h : RT B P n m l0 rest E H Q) : RT B P n m l0 rest E H Q := h
/-- Go on behind a stop. -/
theorem RT.c1 (h : vc T n l0 (fun rest E' => RT B P n m l0 rest E' H Q) rest E true) : RT B P n m l0 rest E H Q := vc_ok T rest E true h
end
end Go.Sk
namespace Go.Sk
theorem vc_id {P : Program} {T : Tab P} {n : Nat} {l0 l : List Oper} {K : List Oper → Env → Prop} {E : Env} {b : Bool} (h : vc T n l0 K l E b) : vc T n l0 K l E b := h
end Go.Sk
namespace Go.Sk
theorem CT.id_ {B : World} {P : Program} {n : Fm} {c : Code} {E : Env} {H : List HP} {Q : Exit → Act → World → Prop} (h : CT B P n c E H Q) : CT B P n c E H Q := h
theorem AtQ.id_ {B : World} {n : Fm} {E : Env} {H : List HP} {Q : Exit → Act → World → Prop} {ex : Exit} (h : AtQ B n E H Q ex) : AtQ B n E H Q ex := h
end Go.Sk
namespace Go.Sk
section
variable {B : World} {P : Program} {n : Fm} {m : Bool} {l0 rest : List Oper} {E : Env} {H R : List HP} {Q : Exit → Act → World → Prop} (T : Tab P)
variable {d : Nat} {ty : TypeId} {pos : String} {af : Array Edge} {g : Option (Nat × Bool)} {x y : Operand} {t : TypeId}
theorem RT.ld {b off : Nat} {e : TypeId} {l : List Value} {v : Value} (hx : ev E x = some (.pointer (some ⟨b, off, none⟩))) (hs : Sel H (Cs b e l) R) (hv : l[off]? = some v) (ht : al T.szs t = some (1, false)) (hw : wt l0 E g = some true) (hd : Nat.blt d n = true)
    (k : RT B P n m l0 rest ((d, v) :: E) H Q) : RT B P n m l0 (⟨some d, .load t x, ty, pos, af, g⟩ :: rest) E H Q :=
  RT.y hw (by simpa [Nat.blt_eq] using hd) (y_ld T ht hx hs hv) k
theorem RT.ldagg {b z : Nat} {e : TypeId} {l : List Value} (hx : ev E x = some (.pointer (some ⟨b, 0, none⟩))) (hs : Sel H (Cs b e l) R) (ht : al T.szs t = some (z, true)) (hz : l.length = z) (hw : wt l0 E g = some true) (hd : Nat.blt d n = true)
    (k : RT B P n m l0 rest ((d, .agg l.toArray) :: E) H Q) : RT B P n m l0 (⟨some d, .load t x, ty, pos, af, g⟩ :: rest) E H Q :=
  RT.y hw (by simpa [Nat.blt_eq] using hd) (y_ldagg T ht hx hs hz) k
theorem RT.ix {k c e z bb : Nat} {a : Option Addr} {kk : IntKind} {i : Int} {xs : List Value} {j : Nat} (hx : ev E x = some (.slice a k c)) (hy : ev E y = some (.int kk i)) (ht : al T.slcs t = some (e, z, bb))
    (hr : Rd B H a k c z xs) (h0 : 0 ≤ i) (h1 : i < k) (hj : i.toNat * z = j) (hw : wt l0 E g = some true) (hd : Nat.blt d n = true)
    (kt : RT B P n m l0 rest ((d, .pointer (some ((adr a).add j))) :: E) H Q) : RT B P n m l0 (⟨some d, .indexAddr t x y, ty, pos, af, g⟩ :: rest) E H Q :=
  RT.y hw (by simpa [Nat.blt_eq] using hd) (y_ix T ht hx hy hr h0 h1 hj) kt
theorem RT.ldi {k c z j : Nat} {a : Option Addr} {kk : IntKind} {l : List Int} (hx : ev E x = some (.pointer (some ((adr a).add j)))) (hr : Rd B H a k c z (ints kk l)) (hj : j < l.length) (ht : al T.szs t = some (1, false)) (hw : wt l0 E g = some true) (hd : Nat.blt d n = true)
    (kt : RT B P n m l0 rest ((d, .int kk (l.getD j 0)) :: E) H Q) : RT B P n m l0 (⟨some d, .load t x, ty, pos, af, g⟩ :: rest) E H Q :=
  RT.y hw (by simpa [Nat.blt_eq] using hd) (y_ldi T ht hx hr hj) kt
theorem RT.ldr {k c z j : Nat} {a : Option Addr} {xs : List Value} {u : Value} (hx : ev E x = some (.pointer (some ((adr a).add j)))) (hr : Rd B H a k c z xs) (hu : xs[j]? = some u) (ht : al T.szs t = some (1, false)) (hw : wt l0 E g = some true) (hd : Nat.blt d n = true)
    (kt : RT B P n m l0 rest ((d, u) :: E) H Q) : RT B P n m l0 (⟨some d, .load t x, ty, pos, af, g⟩ :: rest) E H Q :=
  RT.y hw (by simpa [Nat.blt_eq] using hd) (y_ldr T ht hx hr hu) kt
theorem RT.st {b off : Nat} {e : TypeId} {l l' : List Value} {v : Value} {H' : List HP} (hx : ev E x = some (.pointer (some ⟨b, off, none⟩))) (hy : ev E y = some v) (h1 : one1 v = true)
    (hr : Rep H (Cs b e l) (Cs b e l') H') (hl : SetN l off v l') (ht : al T.szs t = some (1, false)) (hw : wt l0 E g = some true)
    (k : RT B P n true l0 rest E H' Q) : RT B P n true l0 (⟨none, .store t x y, ty, pos, af, g⟩ :: rest) E H Q := x_st T hw ht hx hy h1 hr hl k
theorem RT.box {v : Value} {l : List Value} (hx : ev E x = some v) (hv : v.cells = l.toArray) (hw : wt l0 E g = some true) (hd : Nat.blt d n = true)
    (k : ∀ b, RT B P n true l0 rest ((d, .pointer (some ⟨b, 0, none⟩)) :: E) (Cs b t l :: H) Q) : RT B P n true l0 (⟨some d, .box t x, ty, pos, af, g⟩ :: rest) E H Q :=
  x_box hw (by simpa [Nat.blt_eq] using hd) hx hv k
theorem RT.alloc {v : Value} {l : List Value} (hz : al T.zers t = some v) (hv : v.cells = l.toArray) (hw : wt l0 E g = some true) (hd : Nat.blt d n = true)
    (k : ∀ b, RT B P n true l0 rest ((d, .pointer (some ⟨b, 0, none⟩)) :: E) (Cs b t l :: H) Q) : RT B P n true l0 (⟨some d, .alloc t, ty, pos, af, g⟩ :: rest) E H Q :=
  x_alloc T hw (by simpa [Nat.blt_eq] using hd) hz hv k
theorem RT.call {f : FuncId} {bb : Bool} {xs : List Operand} {vs : List Value} {ats : Array TypeId} {Pre : List HP} {Post : Value → List HP → Prop}
    (qv : evs E xs = some vs) (qfr : Fr H Pre R) (qq : Sp B P f vs R Pre Post) (qf : al T.funs f = some bb) (qw : wt l0 E g = some true) (qd : Nat.blt d n = true)
    (qk : ∀ v H', Post v H' → RT B P n true l0 rest ((d, v) :: E) (H' ++ R) Q) : RT B P n true l0 (⟨some d, .call { callee := .value (.func f), args := xs.toArray, argTypes := ats }, ty, pos, af, g⟩ :: rest) E H Q :=
  x_call T qw (by simpa [Nat.blt_eq] using qd) qf qv qq qfr qk
theorem RT.qcall {f : FuncId} {bb : Bool} {xs : List Operand} {vs : List Value} {ats : Array TypeId} {v : Value} (qv : evs E xs = some vs) (qq : QSp B P f vs H v) (qf : al T.funs f = some bb) (qw : wt l0 E g = some true) (qd : Nat.blt d n = true)
    (qk : RT B P n m l0 rest ((d, v) :: E) H Q) : RT B P n m l0 (⟨some d, .call { callee := .value (.func f), args := xs.toArray, argTypes := ats }, ty, pos, af, g⟩ :: rest) E H Q :=
  RT.y qw (by simpa [Nat.blt_eq] using qd) (y_call T qf qv qq) qk
theorem QSp.of {f : FuncId} {vs : List Value} {Pre : List HP} {v : Value} (qfr : Fr H Pre R) (qq : Sp B P f vs R Pre (fun v' H' => v' = v ∧ H' = Pre)) : QSp B P f vs H v := Sp.quiet qq qfr
theorem RT.pnil {t' : TypeId} {p : Option Addr} {r : Bool} (hx : ev E x = some (.pointer p)) (hy : ev E y = some (.pointer none)) (hr : p.isNone = r) (ht : al T.kinds t = some 1) (hw : wt l0 E g = some true) (hd : Nat.blt d n = true)
    (k : RT B P n m l0 rest ((d, .bool r) :: E) H Q) : RT B P n m l0 (⟨some d, .binOp .eql t x y t', ty, pos, af, g⟩ :: rest) E H Q :=
  RT.y hw (by simpa [Nat.blt_eq] using hd) (y_pnil T ht hx hy hr) k
theorem RT.pnnil {t' : TypeId} {p : Option Addr} {r : Bool} (hx : ev E x = some (.pointer p)) (hy : ev E y = some (.pointer none)) (hr : (!p.isNone) = r) (ht : al T.kinds t = some 1) (hw : wt l0 E g = some true) (hd : Nat.blt d n = true)
    (k : RT B P n m l0 rest ((d, .bool r) :: E) H Q) : RT B P n m l0 (⟨some d, .binOp .neq t x y t', ty, pos, af, g⟩ :: rest) E H Q :=
  RT.y hw (by simpa [Nat.blt_eq] using hd) (y_pnnil T ht hx hy hr) k
/-- Arithmetic of two integers whose outcome is told by hand. -/
theorem RT.ar {bo : BinOp} {t' : TypeId} {k k' : IntKind} {i j r : Int} (hx : ev E x = some (.int k i)) (hy : ev E y = some (.int k' j)) (hr : Yld B P n E H (.binOp bo t x y t') ty (.int k r)) (hw : wt l0 E g = some true) (hd : Nat.blt d n = true)
    (kt : RT B P n m l0 rest ((d, .int k r) :: E) H Q) : RT B P n m l0 (⟨some d, .binOp bo t x y t', ty, pos, af, g⟩ :: rest) E H Q :=
  have _ := hx
  have _ := hy
  RT.y hw (by simpa [Nat.blt_eq] using hd) hr kt
theorem RT.app {e : TypeId} {sz by_ : Nat} {z : Value} {a b : Option Addr} {c k m c2 : Nat} {xs ys : List Value} {H' : Option Addr → Nat → List HP}
    (hx : ev E x = some (.slice a k c)) (hy : ev E y = some (.slice b m c2)) (ht : al T.slcs t = some (e, sz, by_)) (hr : ∀ a' c', Rep H (Own a c e sz k xs) (Own a' c' e sz (k + m) (xs ++ ys)) (H' a' c'))
    (hb : Rd B H b m c2 sz ys) (h1 : ∀ u ∈ ys, u.oneCell' = true) (hlen : k + m ≤ 140737488355328) (hby : (k + m) * by_ ≤ 140737488355328)
    (hz : al T.zers e = some z) (hzs : z.cells.size = sz) (hw : wt l0 E g = some true) (hd : Nat.blt d n = true)
    (kk : ∀ a' c', k + m ≤ c' → RT B P n true l0 rest ((d, .slice a' (k + m) c') :: E) (H' a' c') Q) :
    RT B P n true l0 (⟨some d, .call { callee := .builtin .append, args := #[x, y], argTypes := #[t, t] }, ty, pos, af, g⟩ :: rest) E H Q :=
  x_app T hw (by simpa [Nat.blt_eq] using hd) ht hz hzs hx hy hr hb h1 hlen hby kk
end
/-- One step that nothing has to be shown for. -/
class Nx (p : Prop) (q : outParam Prop) : Prop where
  imp : q → p
theorem nx {p q : Prop} [h : Nx p q] (k : q) : p := h.imp k
section
variable {B : World} {P : Program} {n n' : Fm} {E : Env} {H : List HP} {Q : Exit → Act → World → Prop} {x y c : Code} {id : Nat}
instance : Nx (CT B P n (.seq x y) E H Q) (CT B P n x E H (Then n P y Q)) := ⟨CT.seq⟩
instance : Nx (CT B P n .skip E H Q) (AtQ B n E H Q .normal) := ⟨CT.skip⟩
instance : Nx (CT B P n .ret E H Q) (AtQ B n E H Q .ret) := ⟨CT.ret⟩
instance : Nx (CT B P n (.exit id) E H Q) (AtQ B n E H Q (.exit id)) := ⟨CT.exit⟩
instance : Nx (CT B P n (.block id c) E H Q) (CT B P n c E H (Exit.inBlock id Q)) := ⟨CT.block⟩
instance : Nx (AtQ B n' E H (Then n P c Q) (.exit id)) (AtQ B n' E H Q (.exit id)) := ⟨A1⟩
instance : Nx (AtQ B n' E H (Then n P c Q) .ret) (AtQ B n' E H Q .ret) := ⟨A2⟩
section
variable {α : Type} {f : α → Env} {g : α → List HP} {μ : α → Nat} {z : α}
instance : Nx (AtQ B n' E H (LoopQ B n f g μ z Q) (.exit id)) (AtQ B n' E H Q (.exit id)) := ⟨A3⟩
instance : Nx (AtQ B n' E H (LoopQ B n f g μ z Q) .ret) (AtQ B n' E H Q .ret) := ⟨A4⟩
end
section
variable {α : Sort _} {f : α → Env} {g : α → List HP}
instance : Nx (AtQ B n' E H (CutQ B n f g Q) (.exit id)) (AtQ B n' E H Q (.exit id)) := ⟨A5⟩
instance : Nx (AtQ B n' E H (CutQ B n f g Q) .ret) (AtQ B n' E H Q .ret) := ⟨A6⟩
end
instance : Nx (AtQ B n E H (Exit.inBlock id Q) .normal) (AtQ B n E H Q .normal) := ⟨A7⟩
instance : Nx (AtQ B n E H (Exit.inBlock id Q) .ret) (AtQ B n E H Q .ret) := ⟨A8⟩
end
end Go.Sk
