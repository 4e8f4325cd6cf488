/- The rules for slices (owned ones that grow, and ones that are only read), for new variables, and for calls. Plain theorems, no condition. -/
import Derived.Test.YtlamhjlijoampaaGreatDoorSk3
set_option linter.unusedVariables false
set_option linter.unusedSimpArgs false
namespace Go.Sk
open Go.RowKit

def adr (a : Option Addr) : Addr := a.getD ⟨0, 0, none⟩
/-- The slice '.slice a n c' is the call's own: its cells are xs, then room. -/
def Own (a : Option Addr) (c : Nat) (e : TypeId) (sz n : Nat) (xs : List Value) : HP := fun h =>
  xs.length = n * sz ∧ n ≤ c ∧ c ≤ maxLen ∧ ((a = none ∧ c = 0) ∨ ∃ g cur, a = some ⟨g, 0, none⟩ ∧ h g = some (.cells cur e (0, 0)) ∧ cur.size = c * sz ∧ cur.toList.take (n * sz) = xs)
/-- The slice '.slice a n c' reads as the cells xs. -/
def Rd (B : World) (H : List HP) (a : Option Addr) (n c sz : Nat) (xs : List Value) : Prop :=
  xs.length = n * sz ∧ n ≤ c ∧ ∀ w, Sat B H w → (0 < n → a.isSome = true) ∧ ∀ j u, xs[j]? = some u → w.cell? ((adr a).add j) = some u

theorem addr_add (g j : Nat) : (⟨g, 0, none⟩ : Addr).add j = ⟨g, j, none⟩ := by unfold Addr.add; split <;> simp_all
theorem addr_addadd (ad : Addr) (i j : Nat) : (ad.add i).add j = ad.add (i + j) := by
  unfold Addr.add
  by_cases h1 : i = 0 <;> by_cases h2 : j = 0 <;> simp [h1, h2, Nat.add_assoc]

section
variable {B : World} {P : Program} {n : Fm} {E : Env} {H R : List HP} {ty : TypeId}

theorem Own.rd {a : Option Addr} {c : Nat} {e : TypeId} {sz k : Nat} {xs : List Value} (hs : Sel H (Own a c e sz k xs) R) (hl : xs.length = k * sz) (hc : k ≤ c) : Rd B H a k c sz xs := by
  refine ⟨hl, hc, fun w hS => ?_⟩
  obtain ⟨h, hh, _, _, _, hp⟩ := (hS.sel hs).head
  rcases hp with ⟨rfl, rfl⟩ | ⟨g, cur, rfl, hg, hcs, ht⟩
  · have hk : k = 0 := by omega
    subst hk
    refine ⟨fun h => absurd h (by omega), fun j u hj => ?_⟩
    have : xs = [] := List.eq_nil_of_length_eq_zero (by simpa using hl)
    subst this
    simp at hj
  · refine ⟨fun _ => rfl, fun j u hj => ?_⟩
    rw [adr, Option.getD_some, addr_add, cell_of_row w g j cur e (0, 0) (hh g _ hg).1]
    rw [← ht, List.getElem?_take] at hj
    split at hj
    · simpa using hj
    · cases hj
theorem Own.facts {a : Option Addr} {c : Nat} {e : TypeId} {sz k : Nat} {xs : List Value} {w : World} (hS : Sat B H w) (hs : Sel H (Own a c e sz k xs) R) : xs.length = k * sz ∧ k ≤ c ∧ c ≤ maxLen := by
  obtain ⟨h, hh, h1, h2, h3, hp⟩ := (hS.sel hs).head
  exact ⟨h1, h2, h3⟩
theorem Rd.cons {p : HP} {a : Option Addr} {k c sz : Nat} {xs : List Value} (h : Rd B H a k c sz xs) : Rd B (p :: H) a k c sz xs :=
  ⟨h.1, h.2.1, fun w hS => h.2.2 w hS.tail⟩
theorem Rd.app {Ps : List HP} {a : Option Addr} {k c sz : Nat} {xs : List Value} (h : Rd B H a k c sz xs) : Rd B (Ps ++ H) a k c sz xs :=
  ⟨h.1, h.2.1, fun w hS => h.2.2 w hS.drop_⟩
theorem Rd.weak {H' : List HP} {a : Option Addr} {k c sz : Nat} {xs : List Value} (h : Rd B H a k c sz xs) (hm : ∀ w, Sat B H' w → Sat B H w) : Rd B H' a k c sz xs :=
  ⟨h.1, h.2.1, fun w hS => h.2.2 w (hm w hS)⟩
theorem Rd.none_ {sz : Nat} : Rd B H none 0 0 sz [] := ⟨by simp, Nat.le_refl _, fun _ _ => ⟨fun h => absurd h (by omega), fun j u hj => by simp at hj⟩⟩
theorem Own.none_ {e : TypeId} {sz : Nat} {h : PH} : Own none 0 e sz 0 [] h := ⟨by simp, Nat.le_refl _, Nat.zero_le _, .inl ⟨rfl, rfl⟩⟩
theorem Sat.nilOwn {w : World} {e : TypeId} {sz : Nat} (hS : Sat B H w) : Sat B (Own none 0 e sz 0 [] :: H) w := by
  obtain ⟨h, a, hs⟩ := hS.heap
  exact { hS with heap := ⟨h, a, fun _ => none, h, fun _ => .inl rfl, fun _ _ e => (by cases e), Le.refl _, Own.none_, hs⟩ }

theorem Rd.len {a : Option Addr} {k c sz : Nat} {xs : List Value} (h : Rd B H a k c sz xs) : xs.length = k * sz := h.1
theorem Rd.le {a : Option Addr} {k c sz : Nat} {xs : List Value} (h : Rd B H a k c sz xs) : k ≤ c := h.2.1
theorem Rd.isSome {a : Option Addr} {k c sz : Nat} {xs : List Value} (h : Rd B H a k c sz xs) : ∀ w, Sat B H w → 0 < k → a.isSome = true := fun w hS => (h.2.2 w hS).1
/-- A part of a slice. -/
def asub (a : Option Addr) (c sz i : Nat) : Option Addr := if c = i then a else a.map (·.add (i * sz))
theorem Rd.sub {a : Option Addr} {k c sz i j : Nat} {xs : List Value} (h : Rd B H a k c sz xs) (h1 : i ≤ j) (h2 : j ≤ k) :
    Rd B H (asub a c sz i) (j - i) (c - i) sz ((xs.drop (i * sz)).take ((j - i) * sz)) := by
  obtain ⟨hl, hc, hw⟩ := h
  refine ⟨?_, by omega, fun w hS => ?_⟩
  · rw [List.length_take, List.length_drop, hl, ← Nat.sub_mul]
    exact Nat.min_eq_left (Nat.mul_le_mul_right _ (by omega))
  · obtain ⟨ha, hx⟩ := hw w hS
    refine ⟨fun hp => ?_, fun x u hu => ?_⟩
    · unfold asub
      split
      · exact ha (by omega)
      · rw [Option.isSome_map]; exact ha (by omega)
    · have hx1 : x < (j - i) * sz := by
        have := (List.getElem?_eq_some_iff.1 hu).1
        rw [List.length_take] at this; omega
      have hp : 0 < j - i := by
        rcases Nat.eq_zero_or_pos (j - i) with e | e
        · rw [e] at hx1; omega
        · exact e
      rw [List.getElem?_take_of_lt hx1, List.getElem?_drop] at hu
      obtain ⟨ad, rfl⟩ := Option.isSome_iff_exists.1 (ha (by omega))
      have := hx _ u hu
      unfold asub
      rw [if_neg (by omega)]
      simp only [adr, Option.map_some, Option.getD_some] at this ⊢
      rw [addr_addadd]
      exact this

/-! ### lengths, addresses of elements, elements -/
theorem y_len (T : Tab P) {x : Operand} {t k c : Nat} {e z bb : Nat} {a : Option Addr} (ht : al T.slcs t = some (e, z, bb)) (hx : ev E x = some (.slice a k c)) :
    Yld B P n E H (.call { callee := .builtin .len, args := #[x], argTypes := #[t] }) ty (.int .i64 k) :=
  y_run fun o aa w ho _ hA _ => by
    obtain ⟨hu, _⟩ := slcB_spec (T.slc ht)
    unfold execOp
    simp only [ho, resolve, invoke, builtin, List.map_toArray, List.map_cons, List.map_nil, hA.ev hx, Builtin.len_, Sem.run_bind, Sem.run_pure, Result.andThen_ok, List.getElem?_toArray, List.getElem?_cons_zero, run_underlying hu]
    rfl
theorem y_cap (T : Tab P) {x : Operand} {t k c : Nat} {e z bb : Nat} {a : Option Addr} (ht : al T.slcs t = some (e, z, bb)) (hx : ev E x = some (.slice a k c)) :
    Yld B P n E H (.call { callee := .builtin .cap, args := #[x], argTypes := #[t] }) ty (.int .i64 c) :=
  y_run fun o aa w ho _ hA _ => by
    obtain ⟨hu, _⟩ := slcB_spec (T.slc ht)
    unfold execOp
    simp only [ho, resolve, invoke, builtin, List.map_toArray, List.map_cons, List.map_nil, hA.ev hx, Builtin.cap_, Sem.run_bind, Sem.run_pure, Result.andThen_ok, List.getElem?_toArray, List.getElem?_cons_zero, run_underlying hu]
    rfl
/-- The address of an element: 'a' is some where the slice has one. -/
theorem run_ix {w : World} {t e z bb k c : Nat} {a : Option Addr} {kk : IntKind} {i : Int} (ht : slcB P t = some (e, z, bb)) (h0 : 0 ≤ i) (h1 : i < k) (ha : a.isSome = true) :
    (Instr.indexAt t (.slice a k c) (.int kk i)).run P w = .ok (.pointer (some ((adr a).add (i.toNat * z)))) w := by
  obtain ⟨hu, inf, hi, hz, _⟩ := slcB_spec ht
  obtain ⟨ad, rfl⟩ := Option.isSome_iff_exists.1 ha
  have hs : (sizeOf e).run P w = .ok z w := run_sizeB (by simp [sizeB, hi, hz])
  simp only [Instr.indexAt, asIntOf, Sem.run_bind, Sem.run_pure, Result.andThen_ok, run_underlying hu, h0, h1, and_self, if_true, hs, adr, Option.getD_some]
theorem y_ix (T : Tab P) {x y : Operand} {t k c e z bb : Nat} {a : Option Addr} {kk : IntKind} {i : Int} {xs : List Value} {j : Nat} (ht : al T.slcs t = some (e, z, bb)) (hx : ev E x = some (.slice a k c)) (hy : ev E y = some (.int kk i))
    (hr : Rd B H a k c z xs) (h0 : 0 ≤ i) (h1 : i < k) (hj : i.toNat * z = j) : Yld B P n E H (.indexAddr t x y) ty (.pointer (some ((adr a).add j))) :=
  y_run fun o aa w ho _ hA hS => by
    subst hj
    have ha := (hr.2.2 w hS).1 (by omega)
    unfold execOp
    simp only [ho, hA.ev hx, hA.ev hy, Sem.run_bind, run_ix (T.slc ht) h0 h1 ha, Result.andThen_ok]
    rfl
theorem y_ldr (T : Tab P) {x : Operand} {t k c z j : Nat} {a : Option Addr} {xs : List Value} {u : Value} (ht : al T.szs t = some (1, false)) (hx : ev E x = some (.pointer (some ((adr a).add j)))) (hr : Rd B H a k c z xs) (hu : xs[j]? = some u) :
    Yld B P n E H (.load t x) ty u :=
  y_run fun o aa w ho _ hA hS => by
    have hc := (hr.2.2 w hS).2 j u hu
    unfold execOp
    simp only [ho, hA.ev hx, Instr.loadAt, Instr.sureAddr, Sem.run_bind, Sem.run_pure, Result.andThen_ok, loadVar, run_isAggB (T.sz ht).2]
    simp [load, Sem.run, hc]
/-- A list of integers as cells. -/
def ints (k : IntKind) (l : List Int) : List Value := l.map (Value.int k)
theorem ints_get {k : IntKind} {l : List Int} {j : Nat} (h : j < l.length) : (ints k l)[j]? = some (.int k (l.getD j 0)) := by
  simp [ints, h]
theorem ints_len {k : IntKind} {l : List Int} : (ints k l).length = l.length := by simp [ints]
theorem y_ldi (T : Tab P) {x : Operand} {t k c z j : Nat} {a : Option Addr} {kk : IntKind} {l : List Int} (ht : al T.szs t = some (1, false)) (hx : ev E x = some (.pointer (some ((adr a).add j)))) (hr : Rd B H a k c z (ints kk l)) (hj : j < l.length) :
    Yld B P n E H (.load t x) ty (.int kk (l.getD j 0)) := y_ldr T ht hx hr (ints_get hj)
/-- A whole struct out of a row of structs. -/
theorem y_ldra (T : Tab P) {x : Operand} {t k c z j m : Nat} {a : Option Addr} {xs l : List Value} (ht : al T.szs t = some (m, true)) (hx : ev E x = some (.pointer (some ((adr a).add j)))) (hr : Rd B H a k c z xs)
    (hl : (xs.drop j).take m = l) (hm : l.length = m) : Yld B P n E H (.load t x) ty (.agg l.toArray) :=
  y_run fun o aa w ho _ hA hS => by
    subst hm
    have hc : ∀ i v, l[i]? = some v → w.cell? (((adr a).add j).add i) = some v := fun i v hv => by
      rw [addr_addadd]
      refine (hr.2.2 w hS).2 (j + i) v ?_
      have hi : i < l.length := (List.getElem?_eq_some_iff.1 hv).1
      rw [← hl, List.getElem?_take_of_lt hi, List.getElem?_drop] at hv
      exact hv
    unfold execOp
    simp only [ho, hA.ev hx, Instr.loadAt, Instr.sureAddr, Sem.run_bind, Sem.run_pure, Result.andThen_ok, loadVar, run_isAggB (T.sz ht).2, run_sizeB (T.sz ht).1, if_true, run_loadCells_list w _ l hc]

/-! ### a part of a slice -/
theorem run_sl {w : World} {t e z bb k c : Nat} {a : Option Addr} {lo hi : Option Value} {i j : Nat} (ht : slcB P t = some (e, z, bb))
    (hb : (Instr.sliceBounds true k c lo hi none).run P w = .ok (i, j, c) w) : (Instr.sliceAt t (.slice a k c) lo hi none).run P w = .ok (.slice (asub a c z i) (j - i) (c - i)) w := by
  obtain ⟨hu, inf, hi', hz, _⟩ := slcB_spec ht
  have hs : (sizeOf e).run P w = .ok z w := run_sizeB (by simp [sizeB, hi', hz])
  simp only [Instr.sliceAt, Instr.slice, Sem.run_bind, run_underlying hu, Result.andThen_ok, hb, hs, Sem.run_pure, asub]
theorem y_sl_hi (T : Tab P) {x y : Operand} {t e z bb k c : Nat} {a : Option Addr} {kk : IntKind} {j : Int} (ht : al T.slcs t = some (e, z, bb)) (hx : ev E x = some (.slice a k c)) (hy : ev E y = some (.int kk j)) (h0 : 0 ≤ j) (h1 : j ≤ c) :
    Yld B P n E H (.slice t x none (some y) none) ty (.slice (asub a c z 0) j.toNat c) :=
  y_run fun o aa w ho _ hA _ => by
    have hb : (Instr.sliceBounds true k c none (some (.int kk j)) none).run P w = .ok (0, j.toNat, c) w := by
      simp only [Instr.sliceBounds, Instr.sliceBound, asIntOf, Sem.run_bind, Sem.run_pure, Result.andThen_ok, h0, h1, and_self, if_true]
    unfold execOp
    simp only [ho, hA.ev hx, hA.ev hy, Option.map_some, Option.map_none, Sem.run_bind, run_sl (T.slc ht) hb, Result.andThen_ok, Nat.sub_zero]
    rfl
theorem y_sl_lo (T : Tab P) {x y : Operand} {t e z bb k c : Nat} {a : Option Addr} {kk : IntKind} {i : Int} (ht : al T.slcs t = some (e, z, bb)) (hx : ev E x = some (.slice a k c)) (hy : ev E y = some (.int kk i)) (h0 : 0 ≤ i) (h1 : i ≤ k) :
    Yld B P n E H (.slice t x (some y) none none) ty (.slice (asub a c z i.toNat) (k - i.toNat) (c - i.toNat)) :=
  y_run fun o aa w ho _ hA _ => by
    have hb : (Instr.sliceBounds true k c (some (.int kk i)) none none).run P w = .ok (i.toNat, k, c) w := by
      simp only [Instr.sliceBounds, Instr.sliceBound, asIntOf, Sem.run_bind, Sem.run_pure, Result.andThen_ok, h0, h1, and_self, if_true]
    unfold execOp
    simp only [ho, hA.ev hx, hA.ev hy, Option.map_some, Option.map_none, Sem.run_bind, run_sl (T.slc ht) hb, Result.andThen_ok]
    rfl
theorem y_sl_lh (T : Tab P) {x y y' : Operand} {t e z bb k c : Nat} {a : Option Addr} {kk kk' : IntKind} {i j : Int} (ht : al T.slcs t = some (e, z, bb)) (hx : ev E x = some (.slice a k c)) (hy : ev E y = some (.int kk i)) (hy' : ev E y' = some (.int kk' j))
    (h0 : 0 ≤ i) (h1 : i ≤ j) (h2 : j ≤ c) : Yld B P n E H (.slice t x (some y) (some y') none) ty (.slice (asub a c z i.toNat) (j.toNat - i.toNat) (c - i.toNat)) :=
  y_run fun o aa w ho _ hA _ => by
    have hj : ((j.toNat : Nat) : Int) = j := Int.toNat_of_nonneg (by omega)
    have hb : (Instr.sliceBounds true k c (some (.int kk i)) (some (.int kk' j)) none).run P w = .ok (i.toNat, j.toNat, c) w := by
      simp only [Instr.sliceBounds, Instr.sliceBound, asIntOf, Sem.run_bind, Sem.run_pure, Result.andThen_ok, show (0 ≤ j ∧ j ≤ (c : Int)) from ⟨by omega, h2⟩, and_self, if_true, hj, h0, h1]
    unfold execOp
    simp only [ho, hA.ev hx, hA.ev hy, hA.ev hy', Option.map_some, Option.map_none, Sem.run_bind, run_sl (T.slc ht) hb, Result.andThen_ok]
    rfl

/-! ### owned slices -/
theorem Own.to_row {w : World} {a : Option Addr} {c : Nat} {e : TypeId} {sz k : Nat} {xs : List Value} (hS : Sat B H w) (hs : Sel H (Own a c e sz k xs) R) :
    (a = none ∧ c = 0 ∧ k = 0 ∧ xs = []) ∨ ∃ g cur, a = some ⟨g, 0, none⟩ ∧ w.heap[g]? = some (.cells cur e (0, 0)) ∧ B.heap.size ≤ g ∧ cur.size = c * sz ∧ cur.toList.take (k * sz) = xs := by
  obtain ⟨h, hh, h1, h2, h3, hp⟩ := (hS.sel hs).head
  rcases hp with ⟨rfl, rfl⟩ | ⟨g, cur, rfl, hg, hcs, ht⟩
  · have hk : k = 0 := by omega
    subst hk
    exact .inl ⟨rfl, rfl, rfl, List.eq_nil_of_length_eq_zero (by simpa using h1)⟩
  · exact .inr ⟨g, cur, rfl, (hh g _ hg).1, (hh g _ hg).2, hcs, ht⟩
/-- The row of an owned slice is written: the piece is turned. -/
theorem Sat.ownRow {w : World} {g c c' : Nat} {e : TypeId} {sz k k' : Nat} {xs xs' : List Value} {cur cur' : Array Value} {H' : List HP} (hS : Sat B H w) (hr : Rep H (Own (some ⟨g, 0, none⟩) c e sz k xs) (Own (some ⟨g, 0, none⟩) c' e sz k' xs') H')
    (hg : w.heap[g]? = some (.cells cur e (0, 0))) (h1 : xs'.length = k' * sz) (h2 : k' ≤ c') (h3 : c' ≤ maxLen) (hcs : cur'.size = c' * sz) (ht : cur'.toList.take (k' * sz) = xs') : Sat B H' (w.setRow g cur') := by
  refine hS.upd (b := g) (o' := .cells cur' e (0, 0)) hr (fun h hh => ?_)
    (fun h h' _ _ hb => ⟨h1, h2, h3, .inr ⟨g, cur', rfl, hb, hcs, ht⟩⟩) rfl rfl rfl (by simp [World.setRow]) (setRow_heap w g cur cur' e _ hg) (fun x hx => setRow_other w g x _ hx)
  obtain ⟨_, _, _, hp⟩ := hh
  rcases hp with ⟨h, _⟩ | ⟨g', cur, h, hgg, _⟩
  · cases h
  · cases h; exact ⟨_, hgg⟩
/-- An owned slice takes another row, a new one: the old row is garbage. -/
theorem Sat.ownNew {w w' : World} {a : Option Addr} {c c' : Nat} {e : TypeId} {sz k k' : Nat} {xs xs' : List Value} {cur' : Array Value} {H' : List HP} (hS : Sat B H w)
    (hr : Rep H (Own a c e sz k xs) (Own (some ⟨w.heap.size, 0, none⟩) c' e sz k' xs') H')
    (hos : w'.os = w.os) (hou : w'.output = w.output) (hta : w'.tape = w.tape) (hh : w'.heap = w.heap.push (.cells cur' e (0, 0)))
    (h1 : xs'.length = k' * sz) (h2 : k' ≤ c') (h3 : c' ≤ maxLen) (hcs : cur'.size = c' * sz) (ht : cur'.toList.take (k' * sz) = xs') : Sat B H' w' := by
  obtain ⟨R, s1, s2⟩ := hr.sel
  refine Sat.unsel s2 ((hS.sel s1).tail.new hos hou hta hh fun h _ hb => ⟨h1, h2, h3, .inr ⟨_, cur', rfl, hb, hcs, ht⟩⟩)

/-! ### append -/
theorem Rd.cells {w : World} {a : Option Addr} {k c sz : Nat} {xs : List Value} (hr : Rd B H a k c sz xs) (hS : Sat B H w) (hk : 0 < k) : ∃ ad, a = some ad ∧ ∀ j u, xs[j]? = some u → w.cell? (ad.add j) = some u := by
  obtain ⟨h1, h2⟩ := hr.2.2 w hS
  obtain ⟨ad, rfl⟩ := Option.isSome_iff_exists.1 (h1 hk)
  exact ⟨ad, rfl, h2⟩
theorem run_append {w : World} {t ty e : TypeId} {sz by_ : Nat} {z : Value} {a b : Option Addr} {c k m c2 : Nat} {xs ys : List Value} {H' : Option Addr → Nat → List HP}
    (ht : slcB P t = some (e, sz, by_)) (hz : zerB P e = some z) (hzs : z.cells.size = sz) (hS : Sat B H w) (hr : ∀ a' c', Rep H (Own a c e sz k xs) (Own a' c' e sz (k + m) (xs ++ ys)) (H' a' c'))
    (hy : Rd B H b m c2 sz ys) (h1 : ∀ u ∈ ys, u.oneCell' = true) (hlen : k + m ≤ 140737488355328) (hby : (k + m) * by_ ≤ 140737488355328) :
    ∃ a' c' w', (Builtin.append_ #[t, t] ty #[.slice a k c, .slice b m c2]).run P w = .ok (.slice a' (k + m) c') w' ∧ Sat B (H' a' c') w' ∧ k + m ≤ c' := by
  obtain ⟨hu, i, hi, hisz, hiby⟩ := slcB_spec ht
  subst hisz hiby
  have hzi : i.zero = some z := by simpa [zerB, hi] using hz
  have hml : k + m ≤ maxLen := by unfold maxLen; omega
  have hsmall : k + m ≤ 9223372036854775807 := by omega
  obtain ⟨Rr, s1, _⟩ := (hr a c).sel
  obtain ⟨hxl, hkc, hcm⟩ := Own.facts hS s1
  have hyl := hy.1
  have hlen' : (xs ++ ys).length = (k + m) * i.size := by rw [List.length_append, hxl, hyl, Nat.add_mul]
  have fits : ∀ old, Builtin.nextslicecap (k + m) old * i.bytes ≤ 281474976710656 ∨ ¬ old < k + m := fun old => by
    by_cases ho : old < k + m
    · exact .inl (growslice_fits ho hby)
    · exact .inr ho
  have grown : ∀ (old : Nat), old < k + m →
      Sat B (H' (some ⟨w.heap.size, 0, none⟩) (grownCap w (k + m) old e)) (w.drew.alloc (.cells (xs.toArray ++ ys.toArray ++ Builtin.zeroCells z.cells (grownCap w (k + m) old e - (k + m))) e)) := by
    intro old ho
    have hge := grownCap_ge w (k + m) old e
    have hcm := grownCap_le_maxLen w (k + m) old e hml
    refine hS.ownNew (hr _ _) rfl rfl rfl rfl hlen' hge hcm ?_ ?_
    · simp only [Array.size_append, List.size_toArray, size_zeroCells, hzs, hxl, hyl, ← Nat.add_mul]
      congr 1
      omega
    · simp only [Array.toList_append, List.append_assoc]
      rw [← List.append_assoc, ← hlen']
      exact List.take_left
  rcases Nat.eq_zero_or_pos m with hm | hm
  · subst hm
    have hy0 : ys = [] := List.eq_nil_of_length_eq_zero (by simpa using hyl)
    subst hy0
    refine ⟨a, c, w, ?_, ?_, by omega⟩
    · cases a <;> cases b <;> simp [Builtin.append_, run_underlying hu, sizeOf, typeInfo, hi, Builtin.lenOf, hkc, Builtin.firstCells, loadCells, loadCellsFrom, storeCells]
    · have h := hr a c
      simp only [Nat.add_zero, List.append_nil] at h
      exact hS.mono fun h' hh => by
        obtain ⟨R2, q1, q2⟩ := h.sel
        have := q1.to _ hh
        exact q2.of _ this
  · obtain ⟨bd, rfl, hcells⟩ := hy.cells hS hm
    rcases Own.to_row hS s1 with ⟨rfl, rfl, rfl, rfl⟩ | ⟨g, cur, rfl, hg, hbg, hcs, ht'⟩
    · have hrun := run_append_nil (P := P) w t ty e i z hu hi hzi bd m c2 ys hyl hcells hm (by omega) (by simp only [Nat.zero_add] at hby; omega)
      have hgr := grown 0 (by omega)
      simp only [Nat.zero_add, Array.empty_append] at hgr hrun ⊢
      exact ⟨_, _, _, hrun, hgr, by have := grownCap_ge w m 0 e; omega⟩
    · by_cases hroom : k + m ≤ c
      · have hfit : k * i.size + ys.length ≤ cur.size := by rw [hyl, hcs, ← Nat.add_mul]; exact Nat.mul_le_mul_right _ hroom
        have hrun := run_append_room (P := P) w t ty e i hu hi g k c cur hg bd m c2 ys hyl hcells h1 hroom hfit
        refine ⟨_, _, _, hrun, hS.ownRow (hr _ _) hg hlen' hroom hcm ?_ ?_, hroom⟩
        · simp only [List.size_toArray, List.length_append, List.length_take, List.length_drop, Array.length_toList]
          omega
        · rw [ht', ← hlen']
          exact List.take_left
      · obtain ⟨ad, he, holds⟩ : ∃ ad, (some (⟨g, 0, none⟩ : Addr)) = some ad ∧ ∀ j u, xs[j]? = some u → w.cell? (ad.add j) = some u :=
          ⟨_, rfl, fun j u hu => by
            have := ((Own.rd s1 hxl hkc).2.2 w hS).2 j u hu
            simpa [adr] using this⟩
        cases he
        have hrun := run_append_grow (P := P) w t ty e i z hu hi hzi ⟨g, 0, none⟩ k c xs hxl holds bd m c2 ys hyl hcells (by omega) (by omega) (growslice_fits (by omega) hby)
        exact ⟨_, _, _, hrun, grown c (by omega), grownCap_ge w (k + m) c e⟩

theorem x_app (T : Tab P) {l0 rest : List Oper} {Q : Exit → Act → World → Prop} {d : Nat} {pos : String} {af : Array Edge} {g : Option (Nat × Bool)} {x y : Operand} {t e : TypeId} {sz by_ : Nat} {z : Value} {a b : Option Addr} {c k m c2 : Nat}
    {xs ys : List Value} {H' : Option Addr → Nat → List HP}
    (hw : wt l0 E g = some true) (hd : d < n) (ht : al T.slcs t = some (e, sz, by_)) (hz : al T.zers e = some z) (hzs : z.cells.size = sz)
    (hx : ev E x = some (.slice a k c)) (hy : ev E y = some (.slice b m c2)) (hr : ∀ a' c', Rep H (Own a c e sz k xs) (Own a' c' e sz (k + m) (xs ++ ys)) (H' a' c'))
    (hb : Rd B H b m c2 sz ys) (h1 : ∀ u ∈ ys, u.oneCell' = true) (hlen : k + m ≤ 140737488355328) (hby : (k + m) * by_ ≤ 140737488355328)
    (kk : ∀ a' c', k + m ≤ c' → RT B P n true l0 rest ((d, .slice a' (k + m) c') :: E) (H' a' c') Q) :
    RT B P n true l0 (⟨some d, .call { callee := .builtin .append, args := #[x, y], argTypes := #[t, t] }, ty, pos, af, g⟩ :: rest) E H Q :=
  RT.eff hw fun o aa w K ho hty hdd hA hS hK => by
    obtain ⟨a', c', w', hrun, hS', hkc⟩ := run_append (ty := ty) (T.slc ht) (T.zer hz) hzs hS hr hb h1 hlen hby
    unfold Oper.wp execOp
    simp only [ho, hty, resolve, invoke, builtin, Sem.run_bind, Sem.run_pure, Result.andThen_ok, List.map_toArray, List.map_cons, List.map_nil, hA.ev hx, hA.ev hy, hrun]
    simp only [Oper.upon, hdd]
    exact hK _ _ (kk a' c' hkc _ _ (hA.put hd _) hS')

/-! ### new variables -/
theorem Sat.newCs {w : World} {e : TypeId} {l : List Value} (hS : Sat B H w) : Sat B (Cs w.heap.size e l :: H) (w.alloc (.cells l.toArray e)) :=
  hS.new rfl rfl rfl rfl fun _ _ hb => hb
theorem x_box {l0 rest : List Oper} {Q : Exit → Act → World → Prop} {d : Nat} {pos : String} {af : Array Edge} {g : Option (Nat × Bool)} {x : Operand} {t : TypeId} {v : Value} {l : List Value}
    (hw : wt l0 E g = some true) (hd : d < n) (hx : ev E x = some v) (hv : v.cells = l.toArray)
    (k : ∀ b, RT B P n true l0 rest ((d, .pointer (some ⟨b, 0, none⟩)) :: E) (Cs b t l :: H) Q) : RT B P n true l0 (⟨some d, .box t x, ty, pos, af, g⟩ :: rest) E H Q :=
  RT.eff hw fun o aa w K ho _ hdd hA hS hK => by
    unfold Oper.wp execOp
    have hr : (Instr.box t v).run P w = .ok (.pointer (some ⟨w.heap.size, 0, none⟩)) (w.alloc (.cells l.toArray t)) := by
      simp only [Instr.box, newVar, newRow, Sem.run_bind, hv]; rfl
    simp only [ho, hA.ev hx, Sem.run_bind, hr, Result.andThen_ok, Sem.run_pure]
    simp only [Oper.upon, hdd]
    exact hK _ _ (k _ _ _ (hA.put hd _) hS.newCs)
theorem x_alloc (T : Tab P) {l0 rest : List Oper} {Q : Exit → Act → World → Prop} {d : Nat} {pos : String} {af : Array Edge} {g : Option (Nat × Bool)} {t : TypeId} {v : Value} {l : List Value}
    (hw : wt l0 E g = some true) (hd : d < n) (hz : al T.zers t = some v) (hv : v.cells = l.toArray)
    (k : ∀ b, RT B P n true l0 rest ((d, .pointer (some ⟨b, 0, none⟩)) :: E) (Cs b t l :: H) Q) : RT B P n true l0 (⟨some d, .alloc t, ty, pos, af, g⟩ :: rest) E H Q :=
  RT.eff hw fun o aa w K ho _ hdd hA hS hK => by
    unfold Oper.wp execOp
    have hr : (Instr.alloc t true (.tuple #[])).run P w = .ok (.pointer (some ⟨w.heap.size, 0, none⟩)) (w.alloc (.cells l.toArray t)) := by
      simp only [Instr.alloc, newVar, newRow, Sem.run_bind, zerB_spec (T.zer hz), Result.andThen_ok, hv]; rfl
    simp only [ho, Sem.run_bind, hr, Result.andThen_ok, Sem.run_pure]
    simp only [Oper.upon, hdd]
    exact hK _ _ (k _ _ _ (hA.put hd _) hS.newCs)

/-! ### calls -/
/-- A call that leaves the pieces as they are and hands back this value. -/
def QSp (B : World) (P : Program) (f : FuncId) (vs : List Value) (H : List HP) (v : Value) : Prop := ∀ w, Sat B H w → Calls P f vs.toArray w fun e w' => e = .returned v ∧ Sat B H w'
theorem run_call {T : Tab P} {f : FuncId} {bb : Bool} {w : World} {args : List Value} (hf : al T.funs f = some bb) : (callFunc f args.toArray).run P w = .ok (.enter f args.toArray) w := T.funs_ok (f, bb) (al_mem hf) _ _
theorem exec_call (T : Tab P) {f : FuncId} {bb : Bool} {w : World} {xs : List Operand} {vs : List Value} {ats : Array TypeId} {o : Oper} {aa : Act} (hf : al T.funs f = some bb)
    (ho : o.op = .call { callee := .value (.func f), args := xs.toArray, argTypes := ats }) (hA : Agr n E aa) (hv : evs E xs = some vs) : (execOp aa.eval o).run P w = .ok (.enter f vs.toArray) w := by
  unfold execOp
  have hm : xs.map aa.eval = vs := hA.evs hv
  simp only [ho, resolve, Sem.run_bind, List.map_toArray, hm, Act.eval, Deferred.ofValue, Sem.run_pure, Result.andThen_ok, invoke]
  simpa using run_call (T := T) hf
theorem y_call (T : Tab P) {f : FuncId} {bb : Bool} {xs : List Operand} {vs : List Value} {ats : Array TypeId} {v : Value} (hf : al T.funs f = some bb) (hv : evs E xs = some vs) (hq : QSp B P f vs H v) :
    Yld B P n E H (.call { callee := .value (.func f), args := xs.toArray, argTypes := ats }) ty v := fun o aa w ho _ hA hS => by
  unfold Oper.quietAt
  rw [exec_call T hf ho hA hv]
  exact ⟨rfl, hq w hS⟩
theorem x_call (T : Tab P) {l0 rest : List Oper} {Q : Exit → Act → World → Prop} {d : Nat} {pos : String} {af : Array Edge} {g : Option (Nat × Bool)} {f : FuncId} {bb : Bool} {xs : List Operand} {vs : List Value} {ats : Array TypeId} {Pre : List HP} {Post : Value → List HP → Prop}
    (hw : wt l0 E g = some true) (hd : d < n) (hf : al T.funs f = some bb) (hv : evs E xs = some vs) (hq : Sp B P f vs R Pre Post) (hfr : Fr H Pre R)
    (k : ∀ v H', Post v H' → RT B P n true l0 rest ((d, v) :: E) (H' ++ R) Q) : RT B P n true l0 (⟨some d, .call { callee := .value (.func f), args := xs.toArray, argTypes := ats }, ty, pos, af, g⟩ :: rest) E H Q :=
  RT.eff hw fun o aa w K ho _ hdd hA hS hK => by
    unfold Oper.wp
    rw [exec_call T hf ho hA hv]
    simp only [Oper.upon, hdd]
    refine (hq w (hS.fr hfr)).mono fun e w' ⟨v, H', he, hp, hS'⟩ => ?_
    subst he
    exact hK _ _ (k v H' hp _ _ (hA.put hd _) hS')
theorem Fr.back {H Ps R : List HP} (f : Fr H Ps R) : ∀ h, star (Ps ++ R) h → star H h := by
  induction f with
  | nil => exact fun _ h => h
  | cons s _ ih => exact fun h hs => s.of h (star_cons_mono ih hs)
/-- A function that gives back what it got: quiet. -/
theorem Sp.quiet {f : FuncId} {vs : List Value} {Pre : List HP} {v : Value} (h : Sp B P f vs R Pre (fun v' H' => v' = v ∧ H' = Pre)) (hfr : Fr H Pre R) : QSp B P f vs H v :=
  fun w hS => (h w (hS.fr hfr)).mono fun e w' ⟨_, _, he, ⟨hv, hh⟩, hS'⟩ => by subst hv hh; exact ⟨he, hS'.mono hfr.back⟩
end
end Go.Sk
