/- append of one element; facts out of pieces; the pieces put in another order. Plain theorems, no condition. -/
import Derived.Test.YtlamhjlijoampaaGreatDoorSk7
set_option linter.unusedVariables false
set_option linter.unusedSimpArgs false
namespace Go.Sk
open Go.RowKit
theorem ints_one (k : IntKind) (l : List Int) : ∀ u ∈ ints k l, u.oneCell' = true := fun u hu => by
  obtain ⟨x, _, rfl⟩ := List.mem_map.1 hu
  rfl
theorem one_one {v : Value} (h : one1 v = true) : v.oneCell' = true := by cases v <;> first | rfl | cases h
theorem ints_push {k : IntKind} {l : List Int} {v : Int} : ints k l ++ [.int k v] = ints k (l ++ [v]) := by simp [ints]
theorem ints_app {k : IntKind} {l l' : List Int} : ints k l ++ ints k l' = ints k (l ++ l') := by simp [ints]
theorem ints_nil {k : IntKind} : ints k [] = [] := rfl
theorem ints_sub {k : IntKind} {l : List Int} {i j : Nat} : ((ints k l).drop (i * 1)).take (j * 1) = ints k ((l.drop i).take j) := by simp [ints]
theorem ints_set {k : IntKind} {l : List Int} {j : Nat} {v : Int} : (ints k l).set j (.int k v) = ints k (l.set j v) := by simp [ints]
section
variable {B : World} {P : Program} {n : Fm} {m : Bool} {l0 rest : List Oper} {E : Env} {H R : List HP} {Q : Exit → Act → World → Prop} (T : Tab P)
variable {d : Nat} {ty : TypeId} {pos : String} {af : Array Edge} {g : Option (Nat × Bool)} {x y : Operand} {t : TypeId} {c : Code}

theorem RT.fact {p : Prop} (hp : ∀ w, Sat B H w → p) (h : p → RT B P n true l0 rest E H Q) : RT B P n true l0 rest E H Q := fun a w hA hS => h (hp w hS) a w hA hS
theorem CT.fact {p : Prop} (hp : ∀ w, Sat B H w → p) (h : p → CT B P n c E H Q) : CT B P n c E H Q := fun a w hA hS => h (hp w hS) a w hA hS
theorem AtQ.fact {p : Prop} {ex : Exit} (hp : ∀ w, Sat B H w → p) (h : p → AtQ B n E H Q ex) : AtQ B n E H Q ex := fun a w hA hS => h (hp w hS) a w hA hS
theorem Sp.fact {p : Prop} {f : FuncId} {vs : List Value} {Pre : List HP} {Post : Value → List HP → Prop} (hp : ∀ w, Sat B (Pre ++ R) w → p) (h : p → Sp B P f vs R Pre Post) : Sp B P f vs R Pre Post := fun w hS => h (hp w hS) w hS
theorem Sp.mono {f : FuncId} {vs : List Value} {Pre : List HP} {Post Post' : Value → List HP → Prop} (h : Sp B P f vs R Pre Post) (hm : ∀ v H', Post v H' → Post' v H') : Sp B P f vs R Pre Post' :=
  fun w hS => (h w hS).mono fun _ _ ⟨v, H', a, b, c⟩ => ⟨v, H', a, hm _ _ b, c⟩
theorem Sat.frb {Ps : List HP} {w : World} (s : Sat B (Ps ++ R) w) (f : Fr H Ps R) : Sat B H w := s.mono f.back
theorem ev_other {E : Env} {d : Nat} {u v : Value} {x : Operand} (hu : u = undef) (h : ev ((d, u) :: E) x = some v) (hv : ∀ l, v ≠ .tuple l) (u' : Value) : ev ((d, u') :: E) x = some v := by
  cases x with
  | tmp t =>
    simp only [ev, lk] at h ⊢
    cases hb : Nat.beq d t with
    | true => rw [hb] at h; simp only [cond_true, Option.some.injEq] at h; subst h; exact absurd hu (hv _)
    | false => rw [hb] at h; simpa using h
  | const w => exact h
  | global q => exact h
  | func q => exact h

/-- append(x, v): one element more. -/
theorem RT.push {d1 : Nat} {ty1 : TypeId} {pos1 : String} {af1 : Array Edge} {e by_ : Nat} {z : Value} {a : Option Addr} {c k : Nat} {xs : List Value} {v : Value} {H' : Option Addr → Nat → List HP}
    (hx : ev ((d1, undef) :: E) x = some (.slice a k c)) (hy : ev E y = some v) (h1 : one1 v = true) (ht : al T.slcs t = some (e, 1, by_))
    (hr : ∀ a' c', Rep H (Own a c e 1 k xs) (Own a' c' e 1 (k + 1) (xs ++ [v])) (H' a' c'))
    (hlen : k + 1 ≤ 140737488355328) (hby : (k + 1) * by_ ≤ 140737488355328) (hz : al T.zers e = some z) (hzs : z.cells.size = 1) (hd1 : Nat.blt d1 n = true) (hd : Nat.blt d n = true)
    (kk : ∀ a' c' b' c1, k + 1 ≤ c' → RT B P n true l0 rest ((d, .slice a' (k + 1) c') :: (d1, .slice b' 1 c1) :: E) (H' a' c') Q) :
    RT B P n true l0 (⟨some d1, .buildSlice t 1 #[(0, y)], ty1, pos1, af1, none⟩ :: ⟨some d, .call { callee := .builtin .append, args := #[x, .tmp d1], argTypes := #[t, t] }, ty, pos, af, none⟩ :: rest) E H Q := by
  refine RT.bs T (parts := [(0, y)]) (l := [v]) (by simp [rowL, hy, h1]) rfl ht hz rfl rfl hd1 (fun b' c1 hc1 => ?_)
  refine RT.app T (xs := xs) (ys := [v]) (H' := fun a' c' => Own b' c1 e 1 1 [v] :: H' a' c') (ev_other rfl hx (fun l => by simp) _) (by simp [ev, lk]) ht (fun a' c' => .t (hr a' c')) (Own.rd (R := H) .h rfl hc1) (fun u hu => by simp at hu; subst hu; exact one_one h1) hlen hby hz hzs rfl hd (fun a' c' hc => ?_)
  exact RT.weak (fun w h => h.tail) (kk a' c' b' c1 hc)
theorem RT.pushI {d1 : Nat} {ty1 : TypeId} {pos1 : String} {af1 : Array Edge} {e by_ : Nat} {z : Value} {a : Option Addr} {c k : Nat} {ki : IntKind} {l : List Int} {v : Int} {H' : Option Addr → Nat → List HP}
    (hx : ev ((d1, undef) :: E) x = some (.slice a k c)) (hy : ev E y = some (.int ki v)) (ht : al T.slcs t = some (e, 1, by_))
    (hr : ∀ a' c', Rep H (Own a c e 1 k (ints ki l)) (Own a' c' e 1 (k + 1) (ints ki (l ++ [v]))) (H' a' c'))
    (hlen : k + 1 ≤ 140737488355328) (hby : (k + 1) * by_ ≤ 140737488355328) (hz : al T.zers e = some z) (hzs : z.cells.size = 1) (hd1 : Nat.blt d1 n = true) (hd : Nat.blt d n = true)
    (kk : ∀ a' c' b' c1, k + 1 ≤ c' → RT B P n true l0 rest ((d, .slice a' (k + 1) c') :: (d1, .slice b' 1 c1) :: E) (H' a' c') Q) :
    RT B P n true l0 (⟨some d1, .buildSlice t 1 #[(0, y)], ty1, pos1, af1, none⟩ :: ⟨some d, .call { callee := .builtin .append, args := #[x, .tmp d1], argTypes := #[t, t] }, ty, pos, af, none⟩ :: rest) E H Q :=
  RT.push T hx hy rfl ht (fun a' c' => by rw [ints_push]; exact hr a' c') hlen hby hz hzs hd1 hd kk
/-- append(x, y...) of integers. -/
theorem RT.appI {e by_ : Nat} {z : Value} {a b : Option Addr} {c k m c2 : Nat} {ki : IntKind} {l l' : List Int} {H' : Option Addr → Nat → List HP}
    (hx : ev E x = some (.slice a k c)) (hy : ev E y = some (.slice b m c2)) (ht : al T.slcs t = some (e, 1, by_)) (hb : Rd B H b m c2 1 (ints ki l')) (hr : ∀ a' c', Rep H (Own a c e 1 k (ints ki l)) (Own a' c' e 1 (k + m) (ints ki (l ++ l'))) (H' a' c'))
    (hlen : k + m ≤ 140737488355328) (hby : (k + m) * by_ ≤ 140737488355328)
    (hz : al T.zers e = some z) (hzs : z.cells.size = 1) (hw : wt l0 E g = some true) (hd : Nat.blt d n = true)
    (kk : ∀ a' c', k + m ≤ c' → RT B P n true l0 rest ((d, .slice a' (k + m) c') :: E) (H' a' c') Q) :
    RT B P n true l0 (⟨some d, .call { callee := .builtin .append, args := #[x, y], argTypes := #[t, t] }, ty, pos, af, g⟩ :: rest) E H Q :=
  RT.app T hx hy ht (fun a' c' => by rw [ints_app]; exact hr a' c') hb (ints_one _ _) hlen hby hz hzs hw hd kk
theorem RT.stoI {b : Option Addr} {c k e j : Nat} {ki : IntKind} {l : List Int} {v : Int} {H' : List HP} (hx : ev E x = some (.pointer (some ((adr b).add j)))) (hy : ev E y = some (.int ki v))
    (hr : Rep H (Own b c e 1 k (ints ki l)) (Own b c e 1 k (ints ki (l.set j v))) H') (hj : j < l.length) (ht : al T.szs t = some (1, false)) (hw : wt l0 E g = some true)
    (kt : RT B P n true l0 rest E H' Q) : RT B P n true l0 (⟨none, .store t x y, ty, pos, af, g⟩ :: rest) E H Q :=
  RT.sto T hx hy rfl (by rw [ints_set]; exact hr) (by rw [ints_len]; exact hj) ht hw kt
theorem Own.rdI {a : Option Addr} {c : Nat} {e : TypeId} {k : Nat} {ki : IntKind} {l : List Int} (hs : Sel H (Own a c e 1 k (ints ki l)) R) (hl : l.length = k) (hc : k ≤ c) : Rd B H a k c 1 (ints ki l) :=
  Own.rd hs (by rw [ints_len, hl]; omega) hc
theorem Own.factsI {a : Option Addr} {c : Nat} {e : TypeId} {k : Nat} {ki : IntKind} {l : List Int} (hs : Sel H (Own a c e 1 k (ints ki l)) R) : ∀ w, Sat B H w → l.length = k ∧ k ≤ c ∧ c ≤ 9223372036854775807 := fun w hS => by
  obtain ⟨h1, h2, h3⟩ := Own.facts hS hs
  rw [ints_len] at h1
  unfold maxLen at h3
  exact ⟨by omega, h2, by omega⟩
theorem Rd.subI {a : Option Addr} {k c i j : Nat} {ki : IntKind} {l : List Int} (h : Rd B H a k c 1 (ints ki l)) (h1 : i ≤ j) (h2 : j ≤ k) : Rd B H (asub a c 1 i) (j - i) (c - i) 1 (ints ki ((l.drop i).take (j - i))) := by
  have := h.sub h1 h2
  rwa [ints_sub] at this
theorem Rd.lenI {a : Option Addr} {k c : Nat} {ki : IntKind} {l : List Int} (h : Rd B H a k c 1 (ints ki l)) : l.length = k := by
  have := h.len
  rw [ints_len] at this
  omega
end
end Go.Sk
namespace Go.Sk
section
variable {B : World} {P : Program} {n : Nat} {E : Env} {H R HH : List HP} {fn : Func} {v v0 v1 u1 v2 u2 : Value} {t t2 : Nat}
/-- The ends of functions whose contract tells the value and the pieces outright. -/
theorem AtQ.f0 (hr : fn.results = #[]) (hs : ∀ w, Sat B H w → Sat B (HH ++ R) w) {ex : Exit} (hex : ex = .normal ∨ ex = .ret) :
    AtQ B (.mk0 n) E H (FinQ B P fn R (fun u H' => u = .tuple #[] ∧ H' = HH)) ex := AtQ.fin0 hr ⟨rfl, rfl⟩ hs ex hex
theorem AtQ.f1 (hr : fn.results = #[.tmp t]) (he : lk E t = some v0) (hv : v0 = v) (hs : ∀ w, Sat B H w → Sat B (HH ++ R) w) :
    AtQ B (.mk0 n) E H (FinQ B P fn R (fun u H' => u = v ∧ H' = HH)) .ret := AtQ.fin1 hr he ⟨hv, rfl⟩ hs
theorem AtQ.f2 (hr : fn.results = #[.tmp t, .tmp t2]) (he : lk E t = some v1) (he2 : lk E t2 = some v2) (hv : v1 = u1) (hv2 : v2 = u2) (hs : ∀ w, Sat B H w → Sat B (HH ++ R) w) :
    AtQ B (.mk0 n) E H (FinQ B P fn R (fun u H' => u = .tuple #[u1, u2] ∧ H' = HH)) .ret := AtQ.fin2 hr he he2 ⟨by rw [hv, hv2], rfl⟩ hs
end
end Go.Sk
namespace Go.Sk
section
variable {B : World} {P : Program} {n : Fm} {m : Bool} {l0 rest : List Oper} {E : Env} {H R : List HP} {Q : Exit → Act → World → Prop} (T : Tab P)
variable {d : Nat} {ty : TypeId} {pos : String} {af : Array Edge} {g : Option (Nat × Bool)} {x y y' : Operand} {t : TypeId}
theorem RT.slhi {e z bb k c j : Nat} {a : Option Addr} {kk : IntKind} {i : Int} (hx : ev E x = some (.slice a k c)) (hy : ev E y = some (.int kk i)) (hi : i = j) (hj : j ≤ c) (ht : al T.slcs t = some (e, z, bb)) (hw : wt l0 E g = some true) (hd : Nat.blt d n = true)
    (kt : RT B P n m l0 rest ((d, .slice (asub a c z 0) j c) :: E) H Q) : RT B P n m l0 (⟨some d, .slice t x none (some y) none, ty, pos, af, g⟩ :: rest) E H Q := by
  subst hi
  exact RT.y hw (by simpa [Nat.blt_eq] using hd) (y_sl_hi T ht hx hy (by omega) (by omega)) kt
theorem RT.sllo {e z bb k c j : Nat} {a : Option Addr} {kk : IntKind} {i : Int} (hx : ev E x = some (.slice a k c)) (hy : ev E y = some (.int kk i)) (hi : i = j) (hj : j ≤ k) (ht : al T.slcs t = some (e, z, bb)) (hw : wt l0 E g = some true) (hd : Nat.blt d n = true)
    (kt : RT B P n m l0 rest ((d, .slice (asub a c z j) (k - j) (c - j)) :: E) H Q) : RT B P n m l0 (⟨some d, .slice t x (some y) none none, ty, pos, af, g⟩ :: rest) E H Q := by
  subst hi
  exact RT.y hw (by simpa [Nat.blt_eq] using hd) (y_sl_lo T ht hx hy (by omega) (by omega)) kt
theorem RT.sllh {e z bb k c j j' : Nat} {a : Option Addr} {kk kk' : IntKind} {i i' : Int} (hx : ev E x = some (.slice a k c)) (hy : ev E y = some (.int kk i)) (hy' : ev E y' = some (.int kk' i')) (hi : i = j) (hi' : i' = j') (hj : j ≤ j') (hj' : j' ≤ c) (ht : al T.slcs t = some (e, z, bb)) (hw : wt l0 E g = some true) (hd : Nat.blt d n = true)
    (kt : RT B P n m l0 rest ((d, .slice (asub a c z j) (j' - j) (c - j)) :: E) H Q) : RT B P n m l0 (⟨some d, .slice t x (some y) (some y') none, ty, pos, af, g⟩ :: rest) E H Q := by
  subst hi hi'
  exact RT.y hw (by simpa [Nat.blt_eq] using hd) (y_sl_lh T ht hx hy hy' (by omega) (by omega) (by omega)) kt
theorem Rd.subI0 {a : Option Addr} {k c j : Nat} {ki : IntKind} {l : List Int} (h : Rd B H a k c 1 (ints ki l)) (h2 : j ≤ k) : Rd B H (asub a c 1 0) j c 1 (ints ki (l.take j)) := by
  have := h.subI (Nat.zero_le j) h2
  simpa using this
end
end Go.Sk
namespace Go.Sk
theorem RT.env {B : World} {P : Program} {n : Fm} {m : Bool} {l0 rest : List Oper} {E E' : Env} {H : List HP} {Q : Exit → Act → World → Prop} (hs : subB E E') (h : RT B P n m l0 rest E' H Q) : RT B P n m l0 rest E H Q := by
  cases m
  · exact fun a hA => h a (hA.sub hs.sub)
  · exact fun a w hA hS => h a w (hA.sub hs.sub) hS
/-- Is it an append of one element? -/
theorem RT.isPush {B : World} {P : Program} {n : Fm} {l0 rest : List Oper} {E : Env} {H : List HP} {Q : Exit → Act → World → Prop} {d d1 : Nat} {t t2 t3 ty ty1 : TypeId} {pos pos1 : String} {af af1 : Array Edge} {x y z : Operand} {k : Nat}
    (h : RT B P n true l0 (⟨some d1, .buildSlice t k #[(0, y)], ty1, pos1, af1, none⟩ :: ⟨some d, .call { callee := .builtin .append, args := #[x, z], argTypes := #[t2, t3] }, ty, pos, af, none⟩ :: rest) E H Q) :
    RT B P n true l0 (⟨some d1, .buildSlice t k #[(0, y)], ty1, pos1, af1, none⟩ :: ⟨some d, .call { callee := .builtin .append, args := #[x, z], argTypes := #[t2, t3] }, ty, pos, af, none⟩ :: rest) E H Q := h
end Go.Sk
