/- A slice's literal whose elements are structs; append of one struct. Plain theorems, no condition. -/
import Derived.Test.YtbpelgbblpeojabSk11
set_option linter.unusedVariables false
set_option linter.unusedSimpArgs false
namespace Go.Sk
open Go.RowKit
/-- The cells of a slice's literal, its elements of so many cells each, in their order. -/
def rowG (sz : Nat) (E : Env) : Nat → List (Nat × Operand) → Option (List Value)
  | _, [] => some []
  | k, (i, x) :: ps => match Nat.beq i k with
    | true => match ev E x with
      | some v => match Nat.beq v.cells.size sz with
        | true => match rowG sz E (k + 1) ps with
          | some l => some (v.cells.toList ++ l)
          | none => none
        | false => none
      | none => none
    | false => none
theorem fold_set : ∀ (xs : List Value) (off k : Nat) (cells : Array Value), off + k + xs.length ≤ cells.size →
    (xs.zipIdx k).foldl (fun (cs : Array Value) (c : Value × Nat) => cs.setIfInBounds (off + c.2) c.1) cells = (cells.toList.take (off + k) ++ xs ++ cells.toList.drop (off + k + xs.length)).toArray
  | [], off, k, cells, h => by simp
  | x :: xs, off, k, cells, h => by
    simp only [List.length_cons] at h
    rw [List.zipIdx_cons, List.foldl_cons, fold_set xs off (k + 1) _ (by simp; omega)]
    congr 1
    simp only [Array.toList_setIfInBounds, List.length_cons]
    rw [List.drop_set_of_lt (by omega), show off + (k + 1) = (off + k) + 1 by omega, List.take_succ_eq_append_getElem (by simp; omega), List.take_set_of_le (Nat.le_refl _), List.getElem_set_self]
    simp [Nat.add_assoc, Nat.add_comm 1, Nat.add_left_comm]
section
variable {B : World} {P : Program} {n : Fm} {m : Bool} {l0 rest : List Oper} {E : Env} {H R : List HP} {Q : Exit → Act → World → Prop} (T : Tab P)
variable {d : Nat} {ty : TypeId} {pos : String} {af : Array Edge} {g : Option (Nat × Bool)} {x y : Operand} {t : TypeId}
theorem rowG_spec {sz : Nat} {a : Act} (hA : Agr n E a) : ∀ (ps : List (Nat × Operand)) (k : Nat) (l : List Value), rowG sz E k ps = some l →
    l.length = ps.length * sz ∧ ∀ (cells : Array Value), (k + ps.length) * sz ≤ cells.size → Instr.fill (fun i => some (i * sz, sz)) cells (ps.map fun (i, x) => (i, a.eval x)) = some (cells.toList.take (k * sz) ++ l ++ cells.toList.drop ((k + ps.length) * sz)).toArray
  | [], k, l, h => by
    cases h
    exact ⟨by simp, fun cells _ => (by simp [Instr.fill])⟩
  | (i, x) :: ps, k, l, h => by
    simp only [rowG] at h
    split at h
    · rename_i hb
      rw [Nat.beq_eq] at hb
      subst hb
      split at h
      · rename_i v hv
        split at h
        · rename_i h1
          rw [Nat.beq_eq] at h1
          split at h
          · rename_i l' hl'
            cases h
            obtain ⟨e1, e3⟩ := rowG_spec hA ps (i + 1) l' hl'
            have hvl : v.cells.toList.length = sz := by simpa using h1
            refine ⟨by rw [List.length_append, e1, hvl, List.length_cons, Nat.add_mul, Nat.one_mul, Nat.add_comm], fun cells hc => ?_⟩
            have hm : (i + (ps.length + 1)) * sz = i * sz + (sz + ps.length * sz) := by rw [Nat.add_mul, Nat.add_mul, Nat.one_mul, Nat.add_comm sz]
            simp only [List.map_cons, Instr.fill, hA.ev hv, List.length_cons] at hc ⊢
            rw [hm] at hc
            rw [if_neg (by simp only [Bool.or_eq_true, decide_eq_true_eq, not_or, h1]; exact ⟨fun hh => hh rfl, by omega⟩)]
            have hf : (Array.foldl (fun (cs : Array Value) (x : Value × Nat) => cs.setIfInBounds (i * sz + x.2) x.1) cells v.cells.zipIdx) = (cells.toList.take (i * sz) ++ v.cells.toList ++ cells.toList.drop (i * sz + sz)).toArray := by
              have := fold_set v.cells.toList (i * sz) 0 cells (by rw [hvl]; omega)
              rw [Nat.add_zero, hvl] at this
              rw [← this, ← Array.foldl_toList, Array.toList_zipIdx]
            rw [hf, e3 _ (by simp only [List.size_toArray, List.length_append, List.length_take, List.length_drop, hvl, Array.length_toList]; rw [show (i + 1 + ps.length) * sz = i * sz + (sz + ps.length * sz) by rw [Nat.add_mul, Nat.add_mul, Nat.one_mul, Nat.add_assoc]]; omega)]
            congr 1
            have hlen : (cells.toList.take (i * sz) ++ v.cells.toList).length = (i + 1) * sz := by
              rw [List.length_append, List.length_take, hvl, Array.length_toList, Nat.add_mul, Nat.one_mul]; omega
            simp only
            rw [List.take_left' hlen, show (i + 1 + ps.length) * sz = (i + 1) * sz + ps.length * sz by rw [Nat.add_mul], ← List.drop_drop, List.drop_left' hlen, List.drop_drop]
            simp only [List.append_assoc]
            congr 3
            rw [Nat.add_assoc, hm]
          · cases h
        · cases h
      · cases h
    · cases h
theorem run_bsG {w : World} {t e z bb k : Nat} {z0 : Value} {vs : List (Nat × Value)} {l : List Value} (ht : slcB P t = some (e, z, bb)) (hz : zerB P e = some z0) (hl : l.length = k * z) (hlen : k * z ≤ 16777216)
    (hf : ∀ cells : Array Value, cells.size = k * z → Instr.fill (fun i => some (i * z, z)) cells vs = some l.toArray) :
    (Instr.buildSlice t k vs.toArray).run P w = .ok (.slice (some ⟨w.heap.size, 0, none⟩) k k) (w.alloc (.cells l.toArray e)) := by
  obtain ⟨hu, i, hi, hsz, _⟩ := slcB_spec ht
  subst hsz
  have hs : (sizeOf e).run P w = .ok i.size w := run_sizeB (by simp [sizeB, hi])
  have hz1 := zerB_spec (P := P) (w := w) hz
  have hbig : ¬ (k * i.size > 2 ^ 24) := by omega
  simp only [Instr.buildSlice, Sem.run_bind, run_underlying hu, Result.andThen_ok, hs, if_neg hbig, Sem.run_pure]
  by_cases h0 : k * i.size = 0
  · simp only [h0, if_true, Sem.run_pure, Result.andThen_ok]
    have := hf (Array.map (fun x => (#[] : Array Value)[x % (#[] : Array Value).size]!) (Array.range 0)) (by simp; omega)
    have hp : (pure #[] : Sem (Array Value)).run P w = .ok #[] w := rfl
    simp only [Sem.run_bind, hp, Result.andThen_ok]
    rw [this]
    simp only [newRow, Sem.run_bind]
    rfl
  · simp only [h0, if_false, Sem.run_bind, hz1, Result.andThen_ok, Sem.run_pure]
    have := hf (Array.map (fun x => z0.cells[x % z0.cells.size]!) (Array.range (k * i.size))) (by simp)
    simp only [this, newRow, Sem.run_bind]
    rfl
/-- A slice's literal of elements of z cells each: an owned slice. -/
theorem RT.bsG {e bb k z : Nat} {z0 : Value} {parts : List (Nat × Operand)} {l : List Value} (ht : al T.slcs t = some (e, z, bb)) (hl : rowG z E 0 parts = some l) (hk : parts.length = k) (hz : al T.zers e = some z0) (hlen : Nat.ble (k * z) 16777216 = true) (hw : wt l0 E g = some true) (hd : Nat.blt d n = true)
    (hml : k ≤ 16777216) (kt : ∀ a c, k ≤ c → RT B P n true l0 rest ((d, .slice a k c) :: E) (Own a c e z k l :: H) Q) : RT B P n true l0 (⟨some d, .buildSlice t k parts.toArray, ty, pos, af, g⟩ :: rest) E H Q :=
  RT.eff hw fun o aa w K ho _ hdd hA hS hK => by
    subst hk
    have hle : parts.length * z ≤ 16777216 := by simpa [Nat.ble_eq] using hlen
    obtain ⟨e1, e3⟩ := rowG_spec hA parts 0 l hl
    have hrun := run_bsG (P := P) (w := w) (vs := parts.map fun (i, x) => (i, aa.eval x)) (l := l) (T.slc ht) (T.zer hz) e1 hle (fun cells hc => by
      rw [e3 cells (by rw [Nat.zero_add]; omega)]
      simp only [Nat.zero_mul, List.take_zero, List.nil_append, Nat.zero_add]
      rw [List.drop_eq_nil_of_le (by simp; omega), List.append_nil])
    unfold Oper.wp execOp
    have hm : (parts.toArray.map fun (i, x) => (i, aa.eval x)) = (parts.map fun (i, x) => (i, aa.eval x)).toArray := by simp
    simp only [ho, Sem.run_bind]
    rw [hm, hrun]
    simp only [Result.andThen_ok, Sem.run_pure, Oper.upon, hdd]
    refine hK _ _ (kt _ _ (Nat.le_refl _) _ _ (hA.put (by simpa [Nat.blt_eq] using hd) _) (hS.new rfl rfl rfl rfl fun h _ hb => ?_))
    exact ⟨e1, Nat.le_refl _, by unfold maxLen; omega, .inr ⟨_, _, rfl, hb, by simp [e1], by simp only []; rw [← e1]; exact List.take_length⟩⟩
/-- append(x, v): one struct more. -/
theorem RT.pushG {d1 : Nat} {ty1 : TypeId} {pos1 : String} {af1 : Array Edge} {e by_ sz : Nat} {z : Value} {a : Option Addr} {c k : Nat} {xs l : List Value} {H' : Option Addr → Nat → List HP}
    (hx : ev ((d1, undef) :: E) x = some (.slice a k c)) (hy : ev E y = some (.agg l.toArray)) (h1 : ∀ u ∈ l, u.oneCell' = true) (ht : al T.slcs t = some (e, sz, by_)) (hls : l.length = sz)
    (hr : ∀ a' c', Rep H (Own a c e sz k xs) (Own a' c' e sz (k + 1) (xs ++ l)) (H' a' c'))
    (hlen : k + 1 ≤ 140737488355328) (hby : (k + 1) * by_ ≤ 140737488355328) (hz : al T.zers e = some z) (hzs : z.cells.size = sz) (hsz : sz ≤ 16777216) (hd1 : Nat.blt d1 n = true) (hd : Nat.blt d n = true)
    (kk : ∀ a' c' b' c1, k + 1 ≤ c' → RT B P n true l0 rest ((d, .slice a' (k + 1) c') :: (d1, .slice b' 1 c1) :: E) (H' a' c') Q) :
    RT B P n true l0 (⟨some d1, .buildSlice t 1 #[(0, y)], ty1, pos1, af1, none⟩ :: ⟨some d, .call { callee := .builtin .append, args := #[x, .tmp d1], argTypes := #[t, t] }, ty, pos, af, none⟩ :: rest) E H Q := by
  refine RT.bsG T (parts := [(0, y)]) (l := l) ht (by simp [rowG, hy, Value.cells, hls]) rfl hz (by simpa [Nat.ble_eq] using hsz) rfl hd1 (by omega) (fun b' c1 hc1 => ?_)
  refine RT.app T (xs := xs) (ys := l) (H' := fun a' c' => Own b' c1 e sz 1 l :: H' a' c') (ev_other rfl hx (fun l => by simp) _) (by simp [ev, lk]) ht (fun a' c' => .t (hr a' c')) (Own.rd (R := H) .h (by omega) hc1) h1 hlen hby hz hzs rfl hd (fun a' c' hc => ?_)
  exact RT.weak (fun w h => h.tail) (kk a' c' b' c1 hc)
end
end Go.Sk
