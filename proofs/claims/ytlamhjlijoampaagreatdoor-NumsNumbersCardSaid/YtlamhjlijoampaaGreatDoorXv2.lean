/- More memory by reckoning: texts as bytes, rows made. Plain theorems, no condition. -/
import Derived.Test.YtlamhjlijoampaaGreatDoorXv1
import Derived.Laws.MakeOwn
set_option linter.unusedVariables false
set_option linter.unusedSimpArgs false
namespace Go.Xs
open Go.RowKit
open Go.Sk (isAggB sizeB fldB slcB zerB plB run_sizeB run_isAggB slcB_spec fldB_spec zerB_spec)

theorem freeze_at {w : World} {g o j : Nat} {cur : Array Value} {e : TypeId} {fz : Nat × Nat} (hg : w.heap[g]? = some (.cells cur e fz)) : ∃ fz', (w.freeze ⟨g, o, none⟩ j).heap[g]? = some (.cells cur e fz') := by
  unfold World.freeze
  split
  · exact ⟨fz, hg⟩
  · simp only [Array.getElem?_modify, if_true, hg, Option.map_some]
    exact ⟨_, rfl⟩
theorem freeze_other {w : World} {g o j x : Nat} (hx : x ≠ g) : (w.freeze ⟨g, o, none⟩ j).heap[x]? = w.heap[x]? := by
  unfold World.freeze
  split
  · rfl
  · simp only [Array.getElem?_modify]
    rw [if_neg (fun h => hx h.symm)]
theorem freeze_rest {w : World} {p : Addr} {j : Nat} : (w.freeze p j).os = w.os ∧ (w.freeze p j).output = w.output ∧ (w.freeze p j).tape = w.tape := by
  unfold World.freeze
  split <;> exact ⟨rfl, rfl, rfl⟩
/-- This row is marked: it is only read from then on. -/
def roOf : SObj → Option SObj
  | .cells l e => some (.ro l e)
  | .grow l e _ => some (.ro l e)
  | .ro l e => some (.ro l e)
  | _ => none
def xmem2 (C : Ctx) (E : Env) (h : Hp) : Op → Option OR
  | .convert t t' x => match evX C.G E x with
    | some (.string s) => bif isStr C.P t then match isBytes C.P t' with
        | some e => some (.val (.slice (some ⟨h.next, 0, none⟩) s.data.toList.length 1) (h.new (.ro (bytesV s) e)))
        | none => none
      else none
    | some (.slice (some ⟨nm, off, none⟩) k c) => bif Nat.beq t t' then match isBytes C.P t with
        | some _ => match h.get nm with
          | some o => match roOf o with
            | some o' => some (.val (.slice (some ⟨nm, off, none⟩) k c) (h.set nm o'))
            | none => none
          | none => none
        | none => none
      else none
    | _ => none
  | .makeSlice t x y => match slcB C.P t with
    | some (e, sz, by_) => match natX C.G E x with
      | some l => match natX C.G E y with
        | some c => bif Nat.ble l c && Nat.ble (c * sz) 16777216 && Nat.ble (by_ * c) 281474976710656 && Nat.ble c 9223372036854775807 then match zeros C.P e c sz with
            | some zs => some (.val (.slice (some ⟨h.next, 0, none⟩) l (2 * c)) (h.new (.cells zs e)))
            | none => none
          else none
        | none => none
      | none => none
    | none => none
  | _ => none
section
variable {B : World} {F : PH} {C : Ctx} {h : Hp} {ρ : Val} {w : World} {n : Nat} {ds : List SDef} {E : Env} {a : Act} {o : Oper}
theorem bytesV_no (s : ByteArray) : wfL 0 (bytesV s) = true := wfL_iff.2 fun v hv => by
  unfold bytesV at hv
  obtain ⟨b, _, rfl⟩ := List.mem_map.1 hv
  rfl
theorem bytesRow_list (s : ByteArray) (c : Nat) : ∃ tail, (bytesRow s c).toList = bytesV s ++ tail := by
  unfold bytesRow bytesV
  rw [Array.toList_append, Array.toList_map]
  exact ⟨_, rfl⟩
theorem xmem2_ok (s : SatX B F C.G h ρ w) (hC : C.OK F) (hA : AgrX h.next ρ n ds E a) {r : OR} (hx : xmem2 C E h o.op = some r) : r.Ok B F C.G h ρ w ((execOp a.eval o).run C.P w) := by
  unfold xmem2 at hx
  split at hx
  · rename_i t t' x ho
    split at hx
    -- a text as bytes
    · rename_i bs hv
      cases hst : isStr C.P t with
      | false => rw [hst] at hx; cases hx
      | true =>
        rw [hst] at hx
        simp only [cond_true] at hx
        split at hx
        · rename_i e he
          cases hx
          obtain ⟨b1, b2⟩ := isBytes_ok he
          have e1 := (hA.ev s.gl s.gn hv).2
          simp only [ren] at e1
          have hrun := run_bytes_of_string (P := C.P) w t t' e bs (isStr_ok hst) b1 b2
          have hsz : bs.size = bs.data.toList.length := rfl
          obtain ⟨tail, ht⟩ := bytesRow_list bs (grownCap w bs.size 0 e)
          have hren := renL_id (ρ.put h.next w.heap.size (grownCap w bs.size 0 e)) _ (bytesV_no bs)
          have hob : ∀ fz, Obj.cells (bytesRow bs (grownCap w bs.size 0 e)) e fz = .cells (renL (ρ.put h.next w.heap.size (grownCap w bs.size 0 e)) (bytesV bs) ++ tail).toArray e fz := fun fz => by rw [hren, ← ht]
          refine ⟨ρ.put h.next w.heap.size (grownCap w bs.size 0 e), _, ?_, Val.put_ext _ _ _ _, Nat.le_succ _, by simp [wfv, Nat.blt_eq, Hp.new],
            s.new (w' := w.drew.alloc (.cells (bytesRow bs (grownCap w bs.size 0 e)) e ((bytesRow bs (grownCap w bs.size 0 e)).size, (bytesRow bs (grownCap w bs.size 0 e)).size + 1))) (o := .ro (bytesV bs) e) (grownCap w bs.size 0 e) rfl rfl rfl rfl (wfL_mono (Nat.zero_le _) _ (bytesV_no bs)) ⟨tail, _, hob _⟩⟩
          unfold execOp
          simp only [ho, e1, Sem.run_bind, hrun, Result.andThen_ok, Sem.run_pure, ren, Val.put_b, capOf, Val.put_c, hsz]
          rfl
        · cases hx
    -- marked
    · rename_i nm off k c hv
      cases hb : Nat.beq t t' with
      | false => rw [hb] at hx; cases hx
      | true =>
        rw [hb] at hx
        rw [Nat.beq_eq] at hb
        subst hb
        simp only [cond_true] at hx
        split at hx
        · rename_i e he
          obtain ⟨b1, b2⟩ := isBytes_ok he
          split at hx
          · rename_i so hg
            split at hx
            · rename_i so' hro
              cases hx
              obtain ⟨h1, e1⟩ := hA.ev s.gl s.gn hv
              simp only [ren] at e1
              obtain ⟨_, _, hwf, obj, hob, hi⟩ := s.ob nm so hg
              have key : ∃ cur e' fz, obj = .cells cur e' fz ∧ wfo h.next so' = true ∧ ∀ fz', so'.is ρ nm (.cells cur e' fz') := by
                cases so <;> simp only [roOf, Option.some.injEq, reduceCtorEq] at hro <;> subst hro
                · simp only [SObj.is] at hi
                  exact ⟨_, _, _, hi, hwf, fun fz' => ⟨[], fz', by simp⟩⟩
                · obtain ⟨tail, hi, _⟩ := hi
                  exact ⟨_, _, _, hi, hwf, fun fz' => ⟨tail, fz', rfl⟩⟩
                · obtain ⟨tail, fz, hi⟩ := hi
                  exact ⟨_, _, _, hi, hwf, fun fz' => ⟨tail, fz', rfl⟩⟩
              obtain ⟨cur, e', fz, rfl, hwf', hi'⟩ := key
              obtain ⟨fz', hfz⟩ := freeze_at (o := cur.size) (j := 1) hob
              obtain ⟨r1, r2, r3⟩ := freeze_rest (w := w) (p := ⟨ρ.b nm, cur.size, none⟩) (j := 1)
              have hrun : (convert t t (.slice (some ⟨ρ.b nm, off, none⟩) k (capOf ρ nm c))).run C.P w = .ok (.slice (some ⟨ρ.b nm, off, none⟩) k (capOf ρ nm c)) (w.freeze ⟨ρ.b nm, cur.size, none⟩ 1) := by
                simp [convert, run_underlying b1, run_underlying b2, markStringish, World.shape?, hob]
              refine ⟨ρ, _, ?_, Ext.refl _ _, Nat.le_refl _, h1, s.upd hg r1 r2 r3 hfz (fun b hb => freeze_other hb) hwf' (hi' fz')⟩
              unfold execOp
              simp only [ho, e1, Sem.run_bind, hrun, Result.andThen_ok, Sem.run_pure, ren]
            · cases hx
          · cases hx
        · cases hx
    · cases hx
  -- make
  · rename_i t x y ho
    split at hx
    · rename_i e sz by_ ht
      split at hx
      · rename_i l hl
        split at hx
        · rename_i c hc
          cases hb : Nat.ble l c && Nat.ble (c * sz) 16777216 && Nat.ble (by_ * c) 281474976710656 && Nat.ble c 9223372036854775807 with
          | false => rw [hb] at hx; cases hx
          | true =>
            rw [hb] at hx
            simp only [Bool.and_eq_true, Nat.ble_eq] at hb
            obtain ⟨⟨⟨c1, c2⟩, c3⟩, c4⟩ := hb
            simp only [cond_true] at hx
            split at hx
            · rename_i zs hzs
              cases hx
              obtain ⟨kl, hkl⟩ := natX_ok s hA hl
              obtain ⟨kc, hkc⟩ := natX_ok s hA hc
              obtain ⟨z, hz, hsz, hzl, hw0, rfl⟩ := zeros_ok hzs
              obtain ⟨hu, i, hi, hisz, hiby⟩ := slcB_spec ht
              have hz0 : i.zero = some z := by
                have := hz
                unfold zerB at this
                rw [hi] at this
                simpa using this
              have hrun := run_makeSlice (P := C.P) (w := w) t e i z hu hi hz0 kl kc (l : Int) (c : Int) (by omega) (by omega) (by rw [Int.toNat_natCast, hisz]; exact c2) (by rw [hiby, ← Int.natCast_mul]; exact Int.ofNat_le.2 c3) (by omega)
              rw [Int.toNat_natCast, Int.toNat_natCast, hisz] at hrun
              have hcells : madeCells z.cells (c * sz) = (renL ρ (reps c (vcells z))).toArray := by
                rw [renL_id ρ _ hw0]
                unfold madeCells
                rw [cells_vcells, ← hzl]
                exact reps_range _ _ (by omega)
              rw [hcells] at hrun
              obtain ⟨ρ', w', hw', he, hbb, hs⟩ := run_xnew (C := C) s (e := e) (wfL_mono (Nat.zero_le _) _ hw0)
              have hcap : capOf ρ' h.next (2 * c) = c := by unfold capOf; rw [if_pos (by omega)]; omega
              refine ⟨ρ', w', ?_, he, Nat.le_succ _, by simp [wfv, Nat.blt_eq, Hp.new], hs⟩
              unfold execOp
              simp only [ho, hkl, hkc, Sem.run_bind, hrun, ← hw', Result.andThen_ok, Sem.run_pure, ren, hbb, hcap]
            · cases hx
        · cases hx
      · cases hx
    · cases hx
  · cases hx
end
end Go.Xs
