/- More memory by reckoning: rows of whatever bytes, texts behind slices, copies, unsafe texts. Plain theorems, no condition. -/
import Derived.Test.YtlamhjlijoampaaGreatDoorXv6
import Derived.Laws.CopyRow
import Derived.Laws.IdiomCopy
set_option linter.unusedVariables false
set_option linter.unusedSimpArgs false
namespace Go.Xs
open Go.RowKit
open Go.Sk (isAggB sizeB slcB zerB run_sizeB slcB_spec zerB_spec)
/-- append of a text -/
def xappendS (C : Ctx) (h : Hp) (t u : TypeId) (s : Value) (bs : ByteArray) : Option OR := match slcB C.P t with
  | some (e, 1, by_) => match zerB C.P e with
    | some z => bif isStr C.P u && Nat.beq (vcells z).length 1 && Nat.ble by_ 1024 && Nat.ble bs.data.toList.length 1048576 then match s with
      | .slice none 0 0 => match bs.data.toList.length with
        | 0 => some (.val (.slice none 0 0) h)
        | m + 1 => some (.val (.slice (some ⟨h.next, 0, none⟩) (m + 1) 1) (h.new (.grow (bytesV bs) e 1)))
      | .slice (some ⟨nm, 0, none⟩) n c => bif Nat.ble n 1048576 then match h.get nm with
          | some (.grow l e' 1) => bif Nat.beq c 1 && Nat.beq e' e then match takeN n l with
              | some xs => match bs.data.toList.length with
                | 0 => some (.val (.slice (some ⟨nm, 0, none⟩) n c) h)
                | m + 1 => some (.val (.slice (some ⟨h.next, 0, none⟩) (n + (m + 1)) 1) ((h.del nm).new (.grow (xs ++ bytesV bs) e 1)))
              | none => none
            else none
          | _ => none
        else none
      | _ => none
    else none
    | none => none
  | _ => none
/-- bytes of a row that is told -/
def rowBytes (h : Hp) (nm n : Nat) : Option (SObj × List UInt8) := match h.get nm with
  | some (.grow l e 1) => match takeN n l with
    | some xs => match byteL xs with
      | some bs => some (.ro l e, bs)
      | none => none
    | none => none
  | some (.cells l e) => match takeN n l with
    | some xs => match byteL xs with
      | some bs => some (.ro l e, bs)
      | none => none
    | none => none
  | some (.ro l e) => match takeN n l with
    | some xs => match byteL xs with
      | some bs => some (.ro l e, bs)
      | none => none
    | none => none
  | _ => none
def roTy : SObj → Nat
  | .ro _ e => e
  | _ => 0
def xmem5 (C : Ctx) (E : Env) (h : Hp) : Op → Option OR
  | .call ⟨.value f, ⟨[x]⟩, _⟩ => match evX C.G E f with
    | some (.func (.func g) ⟨[]⟩ ⟨[]⟩) => match C.mnz g with
      | some e => match evX C.G E x with
        | some (.int .i64 (.ofNat n)) => bif Nat.ble n 1048576 then some (.val (.slice (some ⟨h.next, 0, none⟩) n 1) (h.new (.grow [] e 1))) else none
        | _ => none
      | none => none
    | _ => none
  | .call ⟨.builtin .append, ⟨[x, y]⟩, ⟨[t, u]⟩⟩ => match evX C.G E y with
    | some (.string bs) => match evX C.G E x with
      | some v => xappendS C h t u v bs
      | none => none
    | _ => none
  | .call ⟨.builtin .copy, ⟨[x, y]⟩, ⟨[t, _]⟩⟩ => match slcB C.P t with
    | some (_, 1, _) => match evX C.G E x with
      | some (.slice (some ⟨nm, off, none⟩) n _) => match evX C.G E y with
        | some (.slice none 0 0) => some (.val (.int .i64 0) h)
        | some (.slice (some ⟨nm', off', none⟩) m _) => bif Nat.beq (min m n) 0 then some (.val (.int .i64 0) h) else match rdAt C h nm' with
          | some l' => match takeN (min m n) (l'.drop off') with
            | some ys => match h.get nm with
              | some (.cells l e) => bif ones ys then match setR l off ys with
                  | some l2 => some (.val (.int .i64 (.ofNat (min m n))) (h.set nm (.cells l2 e)))
                  | none => none
                else none
              | some (.grow l e z) => bif ones ys then match setR l off ys with
                  | some l2 => some (.val (.int .i64 (.ofNat (min m n))) (h.set nm (.grow l2 e z)))
                  | none => none
                else none
              | _ => none
            | none => none
          | none => none
        | _ => none
      | some (.slice none 0 0) => match evX C.G E y with
        | some (.slice none 0 0) => some (.val (.int .i64 0) h)
        | some (.slice (some ⟨_, _, none⟩) _ _) => some (.val (.int .i64 0) h)
        | _ => none
      | _ => none
    | _ => none
  | .call ⟨.builtin .unsafeSliceData, ⟨[x]⟩, _⟩ => match evX C.G E x with
    | some (.slice none _ _) => some (.val (.pointer none) h)
    | some (.slice (some ⟨nm, 0, none⟩) _ c) => match h.get nm with
      | some (.grow (_ :: _) _ 1) => bif Nat.beq c 1 then some (.val (.pointer (some ⟨nm, 0, none⟩)) h) else none
      | some (.cells _ _) => bif Nat.beq (c % 2) 0 && !Nat.beq (c / 2) 0 then some (.val (.pointer (some ⟨nm, 0, none⟩)) h) else none
      | _ => none
    | _ => none
  | .call ⟨.builtin .unsafeString, ⟨[x, y]⟩, ⟨[pt, _]⟩⟩ => match evX C.G E y with
    | some (.int .i64 (.ofNat 0)) => match evX C.G E x with
      | some (.pointer none) => some (.val (.string ⟨⟨[]⟩⟩) h)
      | some (.pointer (some ⟨_, _, _⟩)) => some (.val (.string ⟨⟨[]⟩⟩) h)
      | _ => none
    | some (.int .i64 (.ofNat (n + 1))) => match evX C.G E x with
      | some (.pointer (some ⟨nm, 0, none⟩)) => match ptrTo C.P pt with
        | some e => match rowBytes h nm (n + 1) with
          | some (o', bs) => bif Nat.beq (roTy o') e && Nat.beq (C.P.cellsOf e) 1 && Nat.ble bs.length 9223372036854775807 then some (.val (.string ⟨⟨bs⟩⟩) (h.set nm o')) else none
          | none => none
        | none => none
      | _ => none
    | _ => none
  | _ => none
section
variable {B : World} {F : PH} {C : Ctx} {h : Hp} {ρ : Val} {w : World} {n : Nat} {ds : List SDef} {E : Env} {a : Act} {o : Oper}
theorem strCells_bytes (bs : ByteArray) : Lib.strCells bs = bytesV bs := by
  unfold Lib.strCells bytesV
  first | rfl | rw [ByteArray.toList_eq]
theorem bytesV_len (bs : ByteArray) : (bytesV bs).length = bs.data.toList.length := by simp [bytesV]
theorem xappendS_ok (s : SatX B F C.G h ρ w) {t u ty : TypeId} {v : Value} {bs : ByteArray} {r : OR} (hv : wfv h.next v = true) (hx : xappendS C h t u v bs = some r) :
    ∃ y h' ρ' w', r = .val y h' ∧ (Builtin.append_ #[t, u] ty #[ren ρ v, .string bs]).run C.P w = .ok (ren ρ' y) w' ∧ Ext h.next ρ ρ' ∧ h.next ≤ h'.next ∧ wfv h'.next y = true ∧ SatX B F C.G h' ρ' w' := by
  unfold xappendS at hx
  have hsz : bs.size = bs.data.toList.length := rfl
  split at hx
  · rename_i e by_ ht
    obtain ⟨hu, i, hi, hisz, hiby⟩ := slcB_spec ht
    subst hiby
    split at hx
    · rename_i z hz
      have hzi : i.zero = some z := by simpa [zerB, hi] using hz
      cases hb : isStr C.P u && Nat.beq (vcells z).length 1 && Nat.ble i.bytes 1024 && Nat.ble bs.data.toList.length 1048576 with
      | false => rw [hb] at hx; cases hx
      | true =>
        rw [hb] at hx
        simp only [cond_true] at hx
        simp only [Bool.and_eq_true, Nat.beq_eq, Nat.ble_eq] at hb
        obtain ⟨⟨⟨hst, hzl⟩, hby⟩, hm20⟩ := hb
        have hstr := isStr_ok hst
        have hzs : z.cells.size = 1 := by rw [cells_vcells]; simpa using hzl
        have hby2 : ∀ k, k ≤ 4194304 → k * i.bytes ≤ 140737488355328 := fun k hk => by
          have := Nat.mul_le_mul hk hby
          omega
        have hzc : ∀ N, (Builtin.zeroCells z.cells N).toList.length = N := fun N => by rw [Array.length_toList, size_zeroCells, hzs, Nat.mul_one]
        have hno := bytesV_no bs
        have hwb : wfL h.next (bytesV bs) = true := wfL_mono (Nat.zero_le _) _ hno
        split at hx
        · cases hm : bs.data.toList.length with
          | zero =>
            rw [hm] at hx
            cases hx
            refine ⟨_, _, ρ, w, rfl, ?_, Ext.refl _ _, Nat.le_refl _, rfl, s⟩
            have hf := Lib.run_firstCells_string (P := C.P) w 1 bs
            rw [hsz, hm] at hf
            simp [ren, Builtin.append_, run_underlying hu, run_underlying hstr, sizeOf, typeInfo, hi, hisz, Builtin.lenOf, hsz, hm, hf]
          | succ m =>
            rw [hm] at hx
            cases hx
            have hrun := Go.run_append_nil_string (P := C.P) w t u ty e i z hu hstr hi hzi bs (by omega) (by omega) (by rw [hsz]; have := hby2 bs.data.toList.length (by omega); omega)
            have e1 : (bs.data.map fun b => Value.int .u8 b.toNat) = (bytesV bs).toArray := by
              apply Array.ext'
              simp [bytesV]
            rw [e1] at hrun
            have hml : bs.size ≤ maxLen := by unfold maxLen; omega
            have hs := SatX.grown (C := C) s (w' := w.drew.alloc (.cells ((bytesV bs).toArray ++ Builtin.zeroCells z.cells (grownCap w bs.size 0 e - bs.size)) e)) (l := bytesV bs) (e := e) (sz := 1) (c := grownCap w bs.size 0 e)
              (tail := (Builtin.zeroCells z.cells (grownCap w bs.size 0 e - bs.size)).toList) rfl rfl rfl (heap_grow _ _ _ (by simp [renL_id ρ _ hno])) hwb
              (by
                have := grownCap_ge w bs.size 0 e
                rw [List.length_append, renL_len, bytesV_len, hzc]
                omega) (grownCap_le_maxLen w bs.size 0 e hml)
            refine ⟨_, _, _, _, rfl, ?_, Val.put_ext _ _ _ _, Nat.le_succ _, by simp [wfv, Nat.blt_eq, Hp.new], hs⟩
            simp only [ren]
            rw [hrun, capOf_one, Val.put_b, Val.put_c, hsz, hm]
        · rename_i nm k c
          cases hk : Nat.ble k 1048576 with
          | false => rw [hk] at hx; cases hx
          | true =>
            rw [hk] at hx
            rw [Nat.ble_eq] at hk
            simp only [cond_true] at hx
            simp only [wfv] at hv
            split at hx
            · rename_i l e' hg
              cases hc : Nat.beq c 1 && Nat.beq e' e with
              | false => rw [hc] at hx; cases hx
              | true =>
                rw [hc] at hx
                simp only [cond_true] at hx
                rw [Bool.and_eq_true, Nat.beq_eq, Nat.beq_eq] at hc
                obtain ⟨rfl, rfl⟩ := hc
                obtain ⟨_, hlt, hw, obj, hob, tail, rfl, ht1, ht2⟩ := s.ob nm _ hg
                split at hx
                · rename_i xs hxs
                  obtain ⟨rfl, hxl⟩ := takeN_spec hxs
                  have hle0 : k ≤ l.length := by rw [List.length_take] at hxl; omega
                  have hkc : k ≤ ρ.c nm := by
                    rw [List.length_append, renL_len] at ht1
                    omega
                  have htk : (renL ρ l ++ tail).take k = renL ρ (l.take k) := by
                    rw [List.take_append_of_le_length (by rw [renL_len]; exact hle0), renL_take]
                  have hcur : (renL ρ l ++ tail).toArray.size = ρ.c nm := by simpa using ht1
                  cases hm : bs.data.toList.length with
                  | zero =>
                    rw [hm] at hx
                    cases hx
                    refine ⟨_, _, ρ, w, rfl, ?_, Ext.refl _ _, Nat.le_refl _, by simpa [wfv] using hv, s⟩
                    have hrun := Lib.run_append_room_string (P := C.P) w t u ty e' i hu hstr hi hisz (ρ.b nm) k (ρ.c nm) _ hob bs (by rw [hsz, hm]; omega) (by rw [hsz, hm, hcur]; omega)
                    have hb0 : Lib.strCells bs = [] := by
                      rw [strCells_bytes]
                      exact List.eq_nil_of_length_eq_zero (by rw [bytesV_len, hm])
                    simp only [ren, capOf_one]
                    rw [hrun, hb0, hsz, hm]
                    simp only [Nat.add_zero, List.append_nil, List.take_append_drop, Array.toArray_toList]
                    rw [setRow_self w _ _ _ _ hob]
                  | succ m =>
                    rw [hm] at hx
                    cases hx
                    by_cases hroom : k + bs.size ≤ ρ.c nm
                    · have hrun := Lib.run_append_room_string (P := C.P) w t u ty e' i hu hstr hi hisz (ρ.b nm) k (ρ.c nm) _ hob bs hroom (by rw [hcur]; exact hroom)
                      rw [strCells_bytes] at hrun
                      have hs := SatX.rename (C := C) s (w' := w.setRow (ρ.b nm) (((renL ρ l ++ tail).toArray.toList.take k) ++ bytesV bs ++ (renL ρ l ++ tail).toArray.toList.drop (k + bs.size)).toArray) (l := l.take k ++ bytesV bs) (e := e') (sz := 1) (c := ρ.c nm)
                        (tail := (renL ρ l ++ tail).drop (k + bs.size)) hg rfl rfl rfl (by rw [setRow_heap w _ _ _ e' _ hob]; simp only [List.toList_toArray, htk, renL_app, renL_id ρ _ hno]) (fun b hb => setRow_other w _ b _ hb) (wfL_app.2 ⟨wfL_take hw _, hwb⟩)
                        (by
                          have h1 : (renL ρ l ++ tail).length = ρ.c nm := by simpa using ht1
                          rw [List.length_append, renL_len, List.length_append, List.length_drop, h1, bytesV_len, List.length_take]
                          omega) ht2
                      refine ⟨_, _, _, _, rfl, ?_, Val.put_ext _ _ _ _, Nat.le_succ _, by simp [wfv, Nat.blt_eq, Hp.new, Hp.del], hs⟩
                      simp only [ren, capOf_one, Val.put_b, Val.put_c]
                      rw [hrun, hsz, hm]
                    · have holds : ∀ j v, (renL ρ (l.take k))[j]? = some v → w.cell? ((⟨ρ.b nm, 0, none⟩ : Addr).add j) = some v := fun j v hj => by
                        rw [add_lit, Nat.zero_add, cell_of_row w _ j _ _ _ hob, List.getElem?_toArray]
                        rw [← htk] at hj
                        have hjl : j < k := by
                          have := (List.getElem?_eq_some_iff.1 hj).1
                          rw [List.length_take] at this; omega
                        rwa [List.getElem?_take_of_lt hjl] at hj
                      have hxl' : (l.take k).length = k := by rw [List.length_take]; omega
                      have hrun := Lib.run_append_grow_string (P := C.P) w t u ty e' i z hu hstr hi hzi ⟨ρ.b nm, 0, none⟩ k (ρ.c nm) (renL ρ (l.take k)) (by rw [renL_len, hisz]; omega) holds bs (by omega) (by omega)
                        (growslice_fits (by omega) (hby2 _ (by omega)))
                      rw [strCells_bytes] at hrun
                      have hml : k + bs.size ≤ maxLen := by unfold maxLen; omega
                      have hs := SatX.grown (C := C) (s.del nm) (w' := w.drew.alloc (.cells ((renL ρ (l.take k)).toArray ++ (bytesV bs).toArray ++ Builtin.zeroCells z.cells (grownCap w (k + bs.size) (ρ.c nm) e' - (k + bs.size))) e')) (l := l.take k ++ bytesV bs) (e := e') (sz := 1) (c := grownCap w (k + bs.size) (ρ.c nm) e')
                        (tail := (Builtin.zeroCells z.cells (grownCap w (k + bs.size) (ρ.c nm) e' - (k + bs.size))).toList) rfl rfl rfl (heap_grow _ _ _ (by simp [renL_app, renL_id ρ _ hno])) (wfL_app.2 ⟨wfL_take hw _, hwb⟩)
                        (by
                          have := grownCap_ge w (k + bs.size) (ρ.c nm) e'
                          rw [List.length_append, renL_len, List.length_append, bytesV_len, hxl', hzc]
                          omega) (grownCap_le_maxLen w _ (ρ.c nm) e' hml)
                      refine ⟨_, _, _, _, rfl, ?_, Val.put_ext _ _ _ _, Nat.le_succ _, by simp [wfv, Nat.blt_eq, Hp.new, Hp.del], hs⟩
                      simp only [ren, capOf_one]
                      rw [hrun, Val.put_c]
                      simp only [Hp.del, Val.put_b, hsz, hm]
                · cases hx
            · cases hx
        · cases hx
    · cases hx
  · cases hx
theorem rowBytes_ok (s : SatX B F C.G h ρ w) {nm n : Nat} {o' : SObj} {bs : List UInt8} (hx : rowBytes h nm n = some (o', bs)) :
    ∃ o cur fz, h.get nm = some o ∧ w.heap[ρ.b nm]? = some (.cells cur (roTy o') fz) ∧ wfo h.next o' = true ∧ (∀ fz', o'.is ρ nm (.cells cur (roTy o') fz')) ∧ bs.length = n ∧ n ≤ cur.size ∧ ∀ j x, bs[j]? = some x → w.cell? ((⟨ρ.b nm, 0, none⟩ : Addr).add j) = some (.int .u8 x.toNat) := by
  have main : ∀ (o : SObj) (l : List Value) (e : TypeId), h.get nm = some o → rdl o = some l → (∃ cur fz, w.heap[ρ.b nm]? = some (.cells cur e fz) ∧ ∃ tail, cur = (renL ρ l ++ tail).toArray) → wfL h.next l = true →
      ∀ xs, takeN n l = some xs → byteL xs = some bs → ∃ o cur fz, h.get nm = some o ∧ w.heap[ρ.b nm]? = some (.cells cur (roTy (.ro l e)) fz) ∧ wfo h.next (.ro l e) = true ∧ (∀ fz', (SObj.ro l e).is ρ nm (.cells cur (roTy (.ro l e)) fz')) ∧ bs.length = n ∧ n ≤ cur.size ∧ ∀ j x, bs[j]? = some x → w.cell? ((⟨ρ.b nm, 0, none⟩ : Addr).add j) = some (.int .u8 x.toNat) := by
    intro o l e hg hl ⟨cur, fz, hc, tail, htl⟩ hw xs hxs hbs
    obtain ⟨rfl, hxl⟩ := takeN_spec hxs
    have hbl := byteL_ok hbs
    have hlen : bs.length = n := by rw [hbl, List.length_map] at hxl; exact hxl
    refine ⟨o, cur, fz, hg, hc, hw, fun fz' => ⟨tail, fz', by rw [htl]; rfl⟩, hlen, ?_, fun j x hj => ?_⟩
    · rw [htl, List.size_toArray, List.length_append, renL_len]
      rw [List.length_take] at hxl
      omega
    · have hj1 := (List.getElem?_eq_some_iff.1 hj).1
      have hj2 : (l.take n)[j]? = some (.int .u8 (x.toNat : Int)) := by rw [hbl, List.getElem?_map, hj]; rfl
      rw [List.getElem?_take_of_lt (by omega)] at hj2
      have := (s.cell hg hl hj2).2
      simp only [ren] at this
      rw [add_lit, Nat.zero_add]
      exact this
  unfold rowBytes at hx
  split at hx
  · rename_i l e hg
    obtain ⟨_, _, hw, obj, hob, tail, rfl, _⟩ := s.ob nm _ hg
    split at hx
    · rename_i xs hxs
      split at hx
      · rename_i bs' hbs
        cases hx
        exact main _ l e hg rfl ⟨_, _, hob, tail, rfl⟩ hw xs hxs hbs
      · cases hx
    · cases hx
  · rename_i l e hg
    obtain ⟨_, _, hw, obj, hob, hi⟩ := s.ob nm _ hg
    simp only [SObj.is] at hi
    subst hi
    split at hx
    · rename_i xs hxs
      split at hx
      · rename_i bs' hbs
        cases hx
        exact main _ l e hg rfl ⟨_, _, hob, [], by simp⟩ hw xs hxs hbs
      · cases hx
    · cases hx
  · rename_i l e hg
    obtain ⟨_, _, hw, obj, hob, tail, fz, rfl⟩ := s.ob nm _ hg
    split at hx
    · rename_i xs hxs
      split at hx
      · rename_i bs' hbs
        cases hx
        exact main _ l e hg rfl ⟨_, _, hob, tail, rfl⟩ hw xs hxs hbs
      · cases hx
    · cases hx
  · cases hx
theorem min_nat (a b : Nat) : Nat.min a b = min a b := rfl
theorem xmem5_ok (s : SatX B F C.G h ρ w) (hC : C.OK F) (hA : AgrX h.next ρ n ds E a) {r : OR} (hx : xmem5 C E h o.op = some r) : r.Ok B F C.G h ρ w ((execOp a.eval o).run C.P w) := by
  unfold xmem5 at hx
  split at hx
  -- a row of whatever bytes
  · rename_i f x ats ho
    split at hx
    · rename_i g hf
      split at hx
      · rename_i e hm
        split at hx
        · rename_i k hv
          cases hk : Nat.ble k 1048576 with
          | false => rw [hk] at hx; cases hx
          | true =>
            rw [hk] at hx
            rw [Nat.ble_eq] at hk
            cases hx
            have e1 := (hA.ev s.gl s.gn hv).2
            have e2 := (hA.ev s.gl s.gn hf).2
            simp only [ren, renA, renL] at e1 e2
            obtain ⟨cs, hrun, h1, h2⟩ := C.mnzok g e hm k w (by omega)
            refine ⟨ρ.put h.next w.heap.size cs.size, w.drew.drew.alloc (.cells cs e), ?_, Val.put_ext _ _ _ _, Nat.le_succ _, by simp [wfv, Nat.blt_eq, Hp.new],
              s.new (w' := w.drew.drew.alloc (.cells cs e)) (ob := .cells cs e (0, 0)) (o := .grow [] e 1) cs.size rfl rfl rfl rfl rfl ⟨cs.toList, by simp [renL], by simp [renL, Val.put_c], by rw [Val.put_c]; exact h2 (by unfold maxLen; omega)⟩⟩
            unfold execOp
            simp only [ho, resolve, Sem.run_bind, List.map_toArray, List.map_cons, List.map_nil, e1, e2, Deferred.ofValue, Sem.run_pure, Result.andThen_ok, invoke]
            have e3 : ((⟨[]⟩ : Array Value) ++ [Value.int .i64 (Int.ofNat k)].toArray) ++ (⟨[]⟩ : Array Value) = #[.int .i64 (k : Int)] := by simp
            rw [e3, hrun]
            simp only [ren, Val.put_b, capOf_one, Val.put_c]
        · cases hx
      · cases hx
    · cases hx
  -- append of a text
  · rename_i x y t u ho
    split at hx
    · rename_i bs hv
      split at hx
      · rename_i v hv'
        have e1 := (hA.ev s.gl s.gn hv).2
        obtain ⟨w2, e2⟩ := hA.ev s.gl s.gn hv'
        simp only [ren] at e1
        obtain ⟨q, h', ρ', w', rfl, q1, q2, q3, q4, q5⟩ := xappendS_ok (ty := o.type) s w2 hx
        refine ⟨ρ', w', ?_, q2, q3, q4, q5⟩
        unfold execOp
        simp only [ho, resolve, invoke, builtin, Sem.run_bind, Sem.run_pure, Result.andThen_ok, List.map_toArray, List.map_cons, List.map_nil, e1, e2, q1]
      · cases hx
    · cases hx
  -- copy
  · rename_i x y t t' ho
    split at hx
    · rename_i e by_ ht
      obtain ⟨hu, i, hi, hisz, hiby⟩ := slcB_spec ht
      have hs1 : (C.P.info? e).map (·.size) = some 1 := by simp [hi, hisz]
      have none0 : ∀ (d ad : Option Addr) (dl dc sl sc : Nat), Nat.min sl dl = 0 → a.eval x = .slice d dl dc → a.eval y = .slice ad sl sc → OR.Ok B F C.G h ρ w ((execOp a.eval o).run C.P w) (.val (.int .i64 0) h) := fun d ad dl dc sl sc h0 e1 e2 => by
        refine OR.Ok.same s ?_ rfl
        have hrun := run_copy_none (P := C.P) w t t' o.type e d ad dl dc sl sc hu hs1 h0
        unfold execOp
        simp only [ho, resolve, invoke, builtin, Sem.run_bind, Sem.run_pure, Result.andThen_ok, List.map_toArray, List.map_cons, List.map_nil, e1, e2, hrun]
        rfl
      split at hx
      · rename_i nm off k c hv
        have e1 := (hA.ev s.gl s.gn hv).2
        simp only [ren] at e1
        split at hx
        · rename_i hv'
          cases hx
          have e2 := (hA.ev s.gl s.gn hv').2
          simp only [ren] at e2
          exact none0 _ _ _ _ _ _ (by simp) e1 e2
        · rename_i nm' off' m c' hv'
          have e2 := (hA.ev s.gl s.gn hv').2
          simp only [ren] at e2
          cases hz : Nat.beq (min m k) 0 with
          | true =>
            rw [hz] at hx
            rw [Nat.beq_eq] at hz
            cases hx
            exact none0 _ _ _ _ _ _ hz e1 e2
          | false =>
            rw [hz] at hx
            simp only [cond_false] at hx
            split at hx
            · rename_i l' hl'
              split at hx
              · rename_i ys hys
                obtain ⟨rfl, hyl⟩ := takeN_spec hys
                have hwy : wfL h.next ((l'.drop off').take (min m k)) = true := by
                  refine wfL_iff.2 fun v hv => ?_
                  obtain ⟨j, hj⟩ := List.mem_iff_getElem?.1 hv
                  have hj1 := (List.getElem?_eq_some_iff.1 hj).1
                  rw [List.getElem?_take_of_lt (by omega), List.getElem?_drop] at hj
                  exact (s.rd hC hl' hj).1
                have hsrc : ∀ j v, (renL ρ ((l'.drop off').take (min m k)))[j]? = some v → w.cell? ((⟨ρ.b nm', off', none⟩ : Addr).add j) = some v := fun j v hj => by
                  obtain ⟨u, hu', rfl⟩ := renL_get' ρ hj
                  have hj1 := (List.getElem?_eq_some_iff.1 hu').1
                  rw [List.getElem?_take_of_lt (by omega), List.getElem?_drop] at hu'
                  rw [add_lit]
                  exact (s.rd hC hl' hu').2
                have fin : ∀ (l l2 tail : List Value) (e' : TypeId) (o2 : SObj), ones ((l'.drop off').take (min m k)) = true → setR l off ((l'.drop off').take (min m k)) = some l2 → w.heap[ρ.b nm]? = some (.cells (renL ρ l ++ tail).toArray e' (0, 0)) →
                    (∀ w', w'.os = w.os → w'.output = w.output → w'.tape = w.tape → w'.heap[ρ.b nm]? = some (.cells (renL ρ l2 ++ tail).toArray e' (0, 0)) → (∀ b, b ≠ ρ.b nm → w'.heap[b]? = w.heap[b]?) → SatX B F C.G (h.set nm o2) ρ w') →
                    OR.Ok B F C.G h ρ w ((execOp a.eval o).run C.P w) (.val (.int .i64 (.ofNat (min m k))) (h.set nm o2)) := by
                  intro l l2 tail e' o2 hones hset hob hfin
                  rcases setR_spec hset with ⟨h0, _⟩ | ⟨rfl, hfit⟩
                  · rw [h0] at hyl
                    simp only [List.length_nil] at hyl
                    rw [← hyl] at hz
                    cases hz
                  · have hrun := run_copy_row (P := C.P) w t t' o.type e (ρ.b nm) off k (capOf ρ nm c) ⟨ρ.b nm', off', none⟩ m (capOf ρ nm' c') _ e' (renL ρ ((l'.drop off').take (min m k))) hu hs1 hob (by rw [renL_len, hyl]) hsrc (by rw [renL_len]; simp [renL_len]; omega) (ones_ren hones)
                    refine ⟨ρ, _, ?_, Ext.refl _ _, Nat.le_refl _, rfl, hfin (w.setRow (ρ.b nm) ((renL ρ l ++ tail).toArray.toList.take off ++ renL ρ ((l'.drop off').take (min m k)) ++ (renL ρ l ++ tail).toArray.toList.drop (off + (renL ρ ((l'.drop off').take (min m k))).length)).toArray) rfl rfl rfl ?_ (fun b hb => setRow_other w _ b _ hb)⟩
                    · unfold execOp
                      simp only [ho, resolve, invoke, builtin, Sem.run_bind, Sem.run_pure, Result.andThen_ok, List.map_toArray, List.map_cons, List.map_nil, e1, e2, hrun]
                      rw [renL_len, hyl]
                      rfl
                    · rw [setRow_heap w _ _ _ e' _ hob]
                      congr 3
                      simp only [List.toList_toArray, renL_len]
                      rw [List.take_append_of_le_length (by rw [renL_len]; omega), List.drop_append_of_le_length (by rw [renL_len]; omega)]
                      simp [renL_app, renL_take, renL_drop]
                split at hx
                · rename_i l e' hg
                  cases hones : ones ((l'.drop off').take (min m k)) with
                  | false => rw [hones] at hx; cases hx
                  | true =>
                    rw [hones] at hx
                    simp only [cond_true] at hx
                    split at hx
                    · rename_i l2 hset
                      cases hx
                      obtain ⟨_, _, hw, obj, hob, hio⟩ := s.ob nm _ hg
                      simp only [SObj.is] at hio
                      subst hio
                      exact fin l l2 [] e' (.cells l2 e') hones hset (by simpa using hob) (fun w' g1 g2 g3 g4 g5 => s.upd hg g1 g2 g3 g4 g5 (wf_setR hset hw hwy) (by simp [SObj.is]))
                    · cases hx
                · rename_i l e' z hg
                  cases hones : ones ((l'.drop off').take (min m k)) with
                  | false => rw [hones] at hx; cases hx
                  | true =>
                    rw [hones] at hx
                    simp only [cond_true] at hx
                    split at hx
                    · rename_i l2 hset
                      cases hx
                      obtain ⟨_, _, hw, obj, hob, tail, rfl, ht1, ht2⟩ := s.ob nm _ hg
                      refine fin l l2 tail e' (.grow l2 e' z) hones hset hob (fun w' g1 g2 g3 g4 g5 => s.upd hg g1 g2 g3 g4 g5 (wf_setR hset hw hwy) ⟨tail, rfl, ?_, ht2⟩)
                      rw [← ht1]
                      simp only [List.length_append, renL_len]
                      rcases setR_spec hset with ⟨_, rfl⟩ | ⟨rfl, hle⟩
                      · rfl
                      · simp only [List.length_append, List.length_take, List.length_drop] at hle ⊢
                        omega
                    · cases hx
                · cases hx
              · cases hx
            · cases hx
        · cases hx
      · rename_i hv
        have e1 := (hA.ev s.gl s.gn hv).2
        simp only [ren] at e1
        split at hx
        · rename_i hv'
          cases hx
          have e2 := (hA.ev s.gl s.gn hv').2
          simp only [ren] at e2
          exact none0 _ _ _ _ _ _ (by simp) e1 e2
        · rename_i nm' off' m c' hv'
          cases hx
          have e2 := (hA.ev s.gl s.gn hv').2
          simp only [ren] at e2
          exact none0 _ _ _ _ _ _ (by simp [min_nat]) e1 e2
        · cases hx
      · cases hx
    · cases hx
  -- unsafe.SliceData
  · rename_i x ats ho
    split at hx
    · rename_i k c hv
      cases hx
      have e1 := (hA.ev s.gl s.gn hv).2
      simp only [ren] at e1
      refine OR.Ok.same s ?_ rfl
      unfold execOp
      simp only [ho, resolve, invoke, builtin, Sem.run_bind, Sem.run_pure, Result.andThen_ok, List.map_toArray, List.map_cons, List.map_nil, e1, Lib.run_unsafeSliceData_nil, ren]
    · rename_i nm k c hv
      obtain ⟨w1, e1⟩ := hA.ev s.gl s.gn hv
      simp only [ren] at e1
      have fin : capOf ρ nm c ≠ 0 → OR.Ok B F C.G h ρ w ((execOp a.eval o).run C.P w) (.val (.pointer (some ⟨nm, 0, none⟩)) h) := fun hc => by
        refine OR.Ok.same s ?_ (by simpa [wfv] using w1)
        unfold execOp
        simp only [ho, resolve, invoke, builtin, Sem.run_bind, Sem.run_pure, Result.andThen_ok, List.map_toArray, List.map_cons, List.map_nil, e1, Lib.run_unsafeSliceData_row (P := C.P) w _ _ _ _ _ hc, ren]
      split at hx
      · rename_i v l e hg
        cases hc : Nat.beq c 1 with
        | false => rw [hc] at hx; cases hx
        | true =>
          rw [hc] at hx
          rw [Nat.beq_eq] at hc
          subst hc
          cases hx
          obtain ⟨_, _, hw, obj, hob, tail, rfl, ht1, ht2⟩ := s.ob nm _ hg
          refine fin ?_
          rw [capOf_one]
          intro h0
          rw [h0] at ht1
          simp [renL] at ht1
      · rename_i l e hg
        cases hc : Nat.beq (c % 2) 0 && !Nat.beq (c / 2) 0 with
        | false => rw [hc] at hx; cases hx
        | true =>
          rw [hc] at hx
          rw [Bool.and_eq_true, Nat.beq_eq, Bool.not_eq_true'] at hc
          cases hx
          refine fin ?_
          unfold capOf
          rw [if_pos hc.1]
          intro h0
          rw [h0] at hc
          cases hc.2
      · cases hx
    · cases hx
  -- unsafe.String
  · rename_i x y pt it ho
    split at hx
    · rename_i hv
      have e2 := (hA.ev s.gl s.gn hv).2
      simp only [ren] at e2
      have fin : ∀ q, a.eval x = .pointer q → OR.Ok B F C.G h ρ w ((execOp a.eval o).run C.P w) (.val (.string ⟨⟨[]⟩⟩) h) := fun q e1 => by
        refine OR.Ok.same s ?_ rfl
        have hrun := Lib.run_unsafeString_none (P := C.P) w pt it o.type q
        unfold execOp
        have e2' : a.eval y = .int .i64 0 := e2
        simp only [ho, resolve, invoke, builtin, Sem.run_bind, Sem.run_pure, Result.andThen_ok, List.map_toArray, List.map_cons, List.map_nil, e1, e2', hrun]
        rfl
      split at hx
      · rename_i hv'
        cases hx
        have e1 := (hA.ev s.gl s.gn hv').2
        simp only [ren] at e1
        exact fin _ e1
      · rename_i b of sp hv'
        cases hx
        have e1 := (hA.ev s.gl s.gn hv').2
        simp only [ren] at e1
        exact fin _ e1
      · cases hx
    · rename_i k hv
      have e2 := (hA.ev s.gl s.gn hv).2
      simp only [ren] at e2
      split at hx
      · rename_i nm hv'
        have e1 := (hA.ev s.gl s.gn hv').2
        simp only [ren] at e1
        split at hx
        · rename_i e he
          split at hx
          · rename_i o' bs hrb
            cases hb : Nat.beq (roTy o') e && Nat.beq (C.P.cellsOf e) 1 && Nat.ble bs.length 9223372036854775807 with
            | false => rw [hb] at hx; cases hx
            | true =>
              rw [hb] at hx
              simp only [Bool.and_eq_true, Nat.beq_eq, Nat.ble_eq] at hb
              obtain ⟨⟨rfl, hc1⟩, h63⟩ := hb
              cases hx
              obtain ⟨o0, cur, fz, hg, hob, hwo, his, hlen, hsz, hcell⟩ := rowBytes_ok s hrb
              have hrun := Lib.run_unsafeString_row (P := C.P) w pt it o.type _ (ptrTo_ok he) hc1 (ρ.b nm) cur.size (by simp [World.shape?, hob]) bs (by intro h0; rw [h0] at hlen; simp at hlen) (by omega) h63 hcell
              rw [hlen] at hrun
              obtain ⟨fz', hfz⟩ := freeze_at (o := 0) (j := k + 1) hob
              obtain ⟨r1, r2, r3⟩ := freeze_rest (w := w) (p := ⟨ρ.b nm, 0, none⟩) (j := k + 1)
              refine ⟨ρ, _, ?_, Ext.refl _ _, Nat.le_refl _, rfl, s.upd hg r1 r2 r3 hfz (fun b hb => freeze_other hb) hwo (his fz')⟩
              have e2' : a.eval y = .int .i64 ((k + 1 : Nat) : Int) := e2
              unfold execOp
              simp only [ho, resolve, invoke, builtin, Sem.run_bind, Sem.run_pure, Result.andThen_ok, List.map_toArray, List.map_cons, List.map_nil, e1, e2', hrun]
              simp [ren]
          · cases hx
        · cases hx
      · cases hx
    · cases hx
  · cases hx
end
end Go.Xs
