/- A literal's slice has no room; an append to a slice that is only read and has no room. Plain theorems, no condition. -/
import Derived.Test.YtbpelgbblpeojabSk19
set_option linter.unusedVariables false
set_option linter.unusedSimpArgs false
namespace Go.Sk
open Go.RowKit
section
variable {B : World} {P : Program} {n : Fm} {m : Bool} {l0 rest : List Oper} {E : Env} {H R : List HP} {Q : Exit → Act → World → Prop} (T : Tab P)
variable {d : Nat} {ty : TypeId} {pos : String} {af : Array Edge} {g : Option (Nat × Bool)} {x y y' : Operand} {t t' : TypeId}
theorem RT.bsX {e bb k : Nat} {z0 : Value} {parts : List (Nat × Operand)} {l : List Value} (hl : rowL E 0 parts = some l) (hk : l.length = k) (ht : al T.slcs t = some (e, 1, bb)) (hz : al T.zers e = some z0) (hlen : Nat.ble k 16777216 = true) (hw : wt l0 E g = some true) (hd : Nat.blt d n = true)
    (kt : ∀ a, RT B P n true l0 rest ((d, .slice a k k) :: E) (Own a k e 1 k l :: H) Q) : RT B P n true l0 (⟨some d, .buildSlice t k parts.toArray, ty, pos, af, g⟩ :: rest) E H Q :=
  RT.eff hw fun o aa w K ho _ hdd hA hS hK => by
    subst hk
    have hle : l.length ≤ 16777216 := by simpa [Nat.ble_eq] using hlen
    obtain ⟨e1, _, e3⟩ := rowL_spec hA parts 0 l hl
    have hrun := run_bs (P := P) (w := w) (vs := parts.map fun (i, x) => (i, aa.eval x)) (l := l) (T.slc ht) (T.zer hz) rfl hle (fun cells hc => by
      rw [e3 cells (by omega)]
      simp only [List.take_zero, List.nil_append, Nat.zero_add]
      rw [List.drop_eq_nil_of_le (by simp; omega), List.append_nil])
    unfold Oper.wp execOp
    have hm : (parts.toArray.map fun (i, x) => (i, aa.eval x)) = (parts.map fun (i, x) => (i, aa.eval x)).toArray := by simp
    simp only [ho, Sem.run_bind]
    rw [hm, hrun]
    simp only [Result.andThen_ok, Sem.run_pure, Oper.upon, hdd]
    refine hK _ _ (kt _ _ _ (hA.put (by simpa [Nat.blt_eq] using hd) _) (hS.new rfl rfl rfl rfl fun h _ hb => ?_))
    exact ⟨by simp, Nat.le_refl _, by unfold maxLen; omega, .inr ⟨_, _, rfl, hb, by simp, by simp⟩⟩
/-- append(x, y...): x has no room: a new row. -/
theorem RT.appN {e by_ : Nat} {z : Value} {a b : Option Addr} {k j c2 : Nat} {ki : IntKind} {l l' : List Int}
    (hx : ev E x = some (.slice a k k)) (hy : ev E y = some (.slice b j c2)) (ht : al T.slcs t = some (e, 1, by_)) (hrx : Rd B H a k k 1 (ints ki l)) (hry : Rd B H b j c2 1 (ints ki l')) (hk : 0 < k) (hj : 0 < j)
    (hlen : k + j ≤ 140737488355328) (hby : (k + j) * by_ ≤ 140737488355328) (hz : al T.zers e = some z) (hzs : z.cells.size = 1) (hw : wt l0 E g = some true) (hd : Nat.blt d n = true)
    (kk : ∀ a' c', k + j ≤ c' → RT B P n true l0 rest ((d, .slice a' (k + j) c') :: E) (Own a' c' e 1 (k + j) (ints ki (l ++ l')) :: H) Q) :
    RT B P n true l0 (⟨some d, .call { callee := .builtin .append, args := #[x, y], argTypes := #[t, t] }, ty, pos, af, g⟩ :: rest) E H Q :=
  RT.eff hw fun o aa w K ho hty hdd hA hS hK => by
    obtain ⟨hu, i, hi, hisz, hiby⟩ := slcB_spec (T.slc ht)
    have hzi : i.zero = some z := by simpa [zerB, hi] using T.zer hz
    obtain ⟨ad, rfl, hca⟩ := hrx.cells hS hk
    obtain ⟨bd, rfl, hcb⟩ := hry.cells hS hj
    have hxl := hrx.1
    have hyl := hry.1
    have hml : k + j ≤ maxLen := by unfold maxLen; omega
    have hrun := run_append_grow (P := P) w t ty e i z hu hi hzi ad k k (ints ki l) (by rw [hisz]; exact hxl) hca bd j c2 (ints ki l') (by rw [hisz]; exact hyl) hcb (by omega) (by omega) (by rw [hiby]; exact growslice_fits (by omega) hby)
    have hge := grownCap_ge w (k + j) k e
    have hcm := grownCap_le_maxLen w (k + j) k e hml
    have hlen' : (ints ki (l ++ l')).length = (k + j) * 1 := by
      rw [ints_len] at *
      rw [List.length_append]
      omega
    have hS' : Sat B (Own (some ⟨w.heap.size, 0, none⟩) (grownCap w (k + j) k e) e 1 (k + j) (ints ki (l ++ l')) :: H) (w.drew.alloc (.cells ((ints ki l).toArray ++ (ints ki l').toArray ++ Builtin.zeroCells z.cells (grownCap w (k + j) k e - (k + j))) e)) := by
      refine hS.new rfl rfl rfl rfl fun h _ hb => ⟨hlen', hge, hcm, .inr ⟨_, _, rfl, hb, ?_, ?_⟩⟩
      · simp only [Array.size_append, List.size_toArray, size_zeroCells, hzs, hxl, hyl]
        omega
      · simp only [Array.toList_append, List.append_assoc]
        rw [← List.append_assoc, ints_app, ← hlen']
        exact List.take_left
    unfold Oper.wp execOp
    simp only [ho, hty, resolve, invoke, builtin, Sem.run_bind, Sem.run_pure, Result.andThen_ok, List.map_toArray, List.map_cons, List.map_nil, hA.ev hx, hA.ev hy, hrun]
    simp only [Oper.upon, hdd]
    exact hK _ _ (kk _ _ hge _ _ (hA.put (by simpa [Nat.blt_eq] using hd) _) hS')
end
end Go.Sk
