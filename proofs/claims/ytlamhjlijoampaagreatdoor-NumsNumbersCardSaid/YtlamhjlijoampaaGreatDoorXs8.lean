/- Operations that make or turn memory: new variables, literals, stores, append, copy. Plain theorems, no condition. -/
import Derived.Test.YtlamhjlijoampaaGreatDoorXs7
set_option linter.unusedVariables false
set_option linter.unusedSimpArgs false
namespace Go.Xs
open Go.RowKit
open Go.Sk (isAggB sizeB fldB slcB zerB plB run_sizeB run_isAggB slcB_spec fldB_spec zerB_spec)

/-- The cells that are handed to append and copy: of a slice's elements, of a text's bytes. -/
def bytesV (s : ByteArray) : List Value := s.data.toList.map fun b => .int .u8 b.toNat
def srcX (C : Ctx) (h : Hp) (sz : Nat) : Value → Option (Nat × List Value)
  | .slice none 0 0 => some (0, [])
  | .slice (some ⟨nm, off, none⟩) m _ => match rdAt C h nm with
    | some l => match takeN (m * sz) (l.drop off) with
      | some ys => some (m, ys)
      | none => none
    | none => none
  | .slice (some ⟨_, _, some _⟩) 0 _ => some (0, [])
  | _ => none
/-- append of a slice -/
def xappend (C : Ctx) (h : Hp) (t : TypeId) (s x : Value) : Option OR := match slcB C.P t with
  | some (e, sz, by_) => match zerB C.P e with
    | some z => match srcX C h sz x with
      | some (m, ys) => bif Nat.beq (vcells z).length sz && Nat.blt 0 sz && ones ys && Nat.ble m 1048576 && Nat.ble by_ 1024 then match s with
        | .slice none 0 0 => match m with
          | 0 => some (.val (.slice none 0 0) h)
          | m + 1 => some (.val (.slice (some ⟨h.next, 0, none⟩) (m + 1) 1) (h.new (.grow ys e sz)))
        | .slice (some ⟨nm, 0, none⟩) n c => bif Nat.ble n 1048576 then match h.get nm with
            | some (.cells l e') => bif Nat.beq (c % 2) 0 && Nat.beq e' e then match m with
                | 0 => bif Nat.ble n (c / 2) then some (.val (.slice (some ⟨nm, 0, none⟩) n c) h) else none
                | m + 1 => bif Nat.ble (n + (m + 1)) (c / 2) then match setR l (n * sz) ys with
                    | some l' => some (.val (.slice (some ⟨nm, 0, none⟩) (n + (m + 1)) c) (h.set nm (.cells l' e)))
                    | none => none
                  else match takeN (n * sz) l with
                    | some xs => some (.val (.slice (some ⟨h.next, 0, none⟩) (n + (m + 1)) 1) (h.new (.grow (xs ++ ys) e sz)))
                    | none => none
              else none
            | some (.grow l e' sz') => bif Nat.beq c 1 && Nat.beq e' e && Nat.beq sz' sz then match takeN (n * sz) l with
                | some xs => match m with
                  | 0 => some (.val (.slice (some ⟨nm, 0, none⟩) n c) h)
                  | m + 1 => some (.val (.slice (some ⟨h.next, 0, none⟩) (n + (m + 1)) 1) ((h.del nm).new (.grow (xs ++ ys) e sz)))
                | none => none
              else none
            | _ => none
          else none
        | _ => none
      else none
      | none => none
    | none => none
  | none => none
def xmem (C : Ctx) (E : Env) (h : Hp) : Op → Option OR
  | .alloc t => match zerB C.P t with
    | some z => bif noAddr z then some (.val (.pointer (some ⟨h.next, 0, none⟩)) (h.new (.cells (vcells z) t))) else none
    | none => none
  | .box t x => match evX C.G E x with
    | some v => some (.val (.pointer (some ⟨h.next, 0, none⟩)) (h.new (.cells (vcells v) t)))
    | none => none
  | .build t ⟨parts⟩ => match xbuild C E t parts with
    | some v => some (.val v h)
    | none => none
  | .buildSlice t len ⟨parts⟩ => xbuildSlice C E h t len parts
  | .store t x y => match evX C.G E x with
    | some u => match evX C.G E y with
      | some v => match xstore C h t u v with
        | some h' => some (.unit h')
        | none => none
      | none => none
    | none => none
  | .call ⟨.builtin .append, ⟨[x, y]⟩, ⟨[t, u]⟩⟩ => bif Nat.beq t u then match evX C.G E x with
      | some v => match evX C.G E y with
        | some v' => xappend C h t v v'
        | none => none
      | none => none
    else none
  | .call ⟨.value f, ⟨xs⟩, _⟩ => match evX C.G E f with
    | some (.func (.func g) ⟨fi⟩ ⟨cap⟩) => match evsX C.G E xs with
      | some vs => match C.fns g with
        | some _ => some (.call g (fi ++ vs ++ cap))
        | none => none
      | none => none
    | _ => none
  | .panic x => match evX C.G E x with
    | some (.iface t v) => some (.pan (.iface t v))
    | _ => none
  | .defer ⟨.value f, ⟨xs⟩, _⟩ => match evX C.G E f with
    | some (.func (.func g) ⟨[]⟩ ⟨cap⟩) => match evsX C.G E xs with
      | some vs => some (.dfr ⟨g, cap, vs⟩)
      | none => none
    | _ => none
  | _ => none
section
variable {B : World} {F : PH} {C : Ctx} {h : Hp} {ρ : Val} {w : World} {n : Nat} {ds : List SDef} {E : Env} {a : Act} {o : Oper}
theorem srcX_ok (s : SatX B F C.G h ρ w) (hC : C.OK F) {sz : Nat} {x : Value} {m : Nat} {ys : List Value} (hx : srcX C h sz x = some (m, ys)) :
    wfL h.next ys = true ∧ ys.length = m * sz ∧ ((x = .slice none 0 0 ∧ m = 0 ∧ ys = []) ∨ ∃ ad c, ren ρ x = .slice (some ad) m c ∧ ∀ j u, (renL ρ ys)[j]? = some u → w.cell? (ad.add j) = some u) := by
  unfold srcX at hx
  split at hx
  · cases hx; exact ⟨rfl, by simp, .inl ⟨rfl, rfl, rfl⟩⟩
  · rename_i nm off k c
    split at hx
    · rename_i l hl
      split at hx
      · rename_i zs hzs
        cases hx
        obtain ⟨rfl, hlen⟩ := takeN_spec hzs
        have hget : ∀ j v, ((l.drop off).take (m * sz))[j]? = some v → l[off + j]? = some v := fun j v hv => by
          have hj : j < ((l.drop off).take (m * sz)).length := (List.getElem?_eq_some_iff.1 hv).1
          rw [hlen] at hj
          rwa [List.getElem?_take_of_lt hj, List.getElem?_drop] at hv
        refine ⟨wfL_iff.2 fun v hv => ?_, hlen, .inr ⟨⟨ρ.b nm, off, none⟩, _, rfl, fun j u hu => ?_⟩⟩
        · obtain ⟨j, hj⟩ := List.mem_iff_getElem?.1 hv
          exact (s.rd hC hl (hget j v hj)).1
        · obtain ⟨v, hv, rfl⟩ := renL_get' ρ hu
          rw [add_lit]
          exact (s.rd hC hl (hget j v hv)).2
      · cases hx
    · cases hx
  · cases hx
    exact ⟨rfl, by simp, .inr ⟨_, _, rfl, fun j u hu => by simp [renL] at hu⟩⟩
  · cases hx
theorem SatX.grown (s : SatX B F C.G h ρ w) {w' : World} {l : List Value} {e : TypeId} {sz c : Nat} {tail : List Value} (hos : w'.os = w.os) (hou : w'.output = w.output) (hta : w'.tape = w.tape) (hh : w'.heap = w.heap.push (.cells (renL ρ l ++ tail).toArray e (0, 0)))
    (hl : wfL h.next l = true) (hc : (renL ρ l ++ tail).length = c * sz) (hm : c ≤ maxLen) : SatX B F C.G (h.new (.grow l e sz)) (ρ.put h.next w.heap.size c) w' := by
  refine s.new c hos hou hta hh (wfL_mono (Nat.le_succ _) _ hl) ⟨tail, ?_, ?_, ?_⟩
  · rw [renL_ext (Val.put_ext ρ _ _ _) l hl]
  · rw [renL_ext (Val.put_ext ρ _ _ _) l hl, Val.put_c]; exact hc
  · rw [Val.put_c]; exact hm
/-- A row that may grow gets another name. -/
theorem SatX.rename (s : SatX B F C.G h ρ w) {w' : World} {nm : Nat} {o : SObj} {l : List Value} {e : TypeId} {sz c : Nat} {tail : List Value} (hg : h.get nm = some o) (hos : w'.os = w.os) (hou : w'.output = w.output) (hta : w'.tape = w.tape)
    (hh : w'.heap[ρ.b nm]? = some (.cells (renL ρ l ++ tail).toArray e (0, 0))) (hne : ∀ b, b ≠ ρ.b nm → w'.heap[b]? = w.heap[b]?) (hl : wfL h.next l = true) (hc : (renL ρ l ++ tail).length = c * sz) (hm : c ≤ maxLen) :
    SatX B F C.G ((h.del nm).new (.grow l e sz)) (ρ.put h.next (ρ.b nm) c) w' := by
  have he := Val.put_ext ρ h.next (ρ.b nm) c
  obtain ⟨hF, hlt, _⟩ := s.ob nm o hg
  have hn : (h.del nm).next = h.next := rfl
  have old : ∀ k x, (h.del nm).get k = some x → k < h.next ∧ k ≠ nm ∧ h.get k = some x := fun k x hk => by
    obtain ⟨h1, h2⟩ := Hp.get_del hk
    exact ⟨(s.ob k x h2).2.1, h1, h2⟩
  refine ⟨hos.trans s.os, hou.trans s.output, hta.trans s.tape, fun b x hb => ?_, fun k x hk => ?_, fun k k' x x' h1 h2 hb => ?_, fun g hg' => by rw [(he g (Nat.lt_of_lt_of_le hg' s.gn)).1]; exact s.gl g hg', Nat.le_succ_of_le s.gn⟩
  · have hbn : b ≠ ρ.b nm := fun e => by rw [e, hF] at hb; cases hb
    rw [hne b hbn]
    exact s.fr b x hb
  · by_cases ek : k = h.next
    · subst ek
      have : ((h.del nm).new (.grow l e sz)).get h.next = some (.grow l e sz) := Hp.get_new
      rw [this] at hk
      cases hk
      rw [Val.put_b]
      refine ⟨hF, Nat.lt_succ_self _, wfL_mono (Nat.le_succ _) _ hl, _, hh, tail, ?_, ?_, ?_⟩
      · rw [renL_ext he l hl]
      · rw [renL_ext he l hl, Val.put_c]; exact hc
      · rw [Val.put_c]; exact hm
    · obtain ⟨k1, k2, k3⟩ := old k x (Hp.get_new_ne ek hk)
      obtain ⟨h1, h2, h3, obj, h4, h5⟩ := s.ob k x k3
      rw [(he k k1).1]
      refine ⟨h1, Nat.lt_succ_of_lt h2, wfo_mono (Nat.le_succ _) _ h3, obj, ?_, is_ext he h2 h3 h5⟩
      rw [hne _ (fun eb => k2 (s.inj _ _ _ _ k3 hg eb))]
      exact h4
  · by_cases e1 : k = h.next
    · by_cases e2 : k' = h.next
      · rw [e1, e2]
      · obtain ⟨q1, q2, q3⟩ := old k' x' (Hp.get_new_ne e2 h2)
        rw [e1, Val.put_b, (he k' q1).1] at hb
        exact absurd (s.inj _ _ _ _ hg q3 hb).symm q2
    · obtain ⟨p1, p2, p3⟩ := old k x (Hp.get_new_ne e1 h1)
      by_cases e2 : k' = h.next
      · rw [e2, Val.put_b, (he k p1).1] at hb
        exact absurd (s.inj _ _ _ _ p3 hg hb) p2
      · obtain ⟨q1, q2, q3⟩ := old k' x' (Hp.get_new_ne e2 h2)
        rw [(he k p1).1, (he k' q1).1] at hb
        exact s.inj _ _ _ _ p3 q3 hb
theorem heap_grow (A : Array Value) (e : TypeId) (T : List Value) (hT : A.toList = T) : (w.drew.alloc (.cells A e)).heap = w.heap.push (.cells T.toArray e (0, 0)) := by
  subst hT; rfl
theorem capOf_one (ρ : Val) (nm : Nat) : capOf ρ nm 1 = ρ.c nm := by simp [capOf]
theorem xappend_ok (s : SatX B F C.G h ρ w) (hC : C.OK F) {t ty : TypeId} {v x : Value} {r : OR} (hv : wfv h.next v = true) (hx : xappend C h t v x = some r) :
    ∃ u h' ρ' w', r = .val u h' ∧ (Builtin.append_ #[t, t] ty #[ren ρ v, ren ρ x]).run C.P w = .ok (ren ρ' u) w' ∧ Ext h.next ρ ρ' ∧ h.next ≤ h'.next ∧ wfv h'.next u = true ∧ SatX B F C.G h' ρ' w' := by
  unfold xappend at hx
  split at hx
  · rename_i e sz by_ ht
    obtain ⟨hu, i, hi, hisz, hiby⟩ := slcB_spec ht
    subst hisz hiby
    split at hx
    · rename_i z hz
      have hzi : i.zero = some z := by simpa [zerB, hi] using hz
      split at hx
      · rename_i m ys hys
        obtain ⟨hwy, hly, hsrc⟩ := srcX_ok s hC hys
        cases hb : Nat.beq (vcells z).length i.size && Nat.blt 0 i.size && ones ys && Nat.ble m 1048576 && Nat.ble i.bytes 1024 with
        | false => rw [hb] at hx; cases hx
        | true =>
          rw [hb] at hx
          simp only [cond_true] at hx
          simp only [Bool.and_eq_true, Nat.beq_eq, Nat.blt_eq, Nat.ble_eq] at hb
          obtain ⟨⟨⟨⟨hzl, hpos⟩, hones⟩, hm20⟩, hby⟩ := hb
          have hzs : z.cells.size = i.size := by rw [cells_vcells]; simpa using hzl
          have src0 : m = 0 → ∃ ad c, ren ρ x = .slice ad 0 c ∧ ((ad = none ∧ c = 0) ∨ ad ≠ none) ∧ ys = [] := fun h0 => by
            subst h0
            have hy0 : ys = [] := List.eq_nil_of_length_eq_zero (by simpa using hly)
            rcases hsrc with ⟨rfl, _, _⟩ | ⟨ad, c, hr, _⟩
            · exact ⟨none, 0, by simp [ren], .inl ⟨rfl, rfl⟩, hy0⟩
            · exact ⟨some ad, c, hr, .inr (by simp), hy0⟩
          have srcP : 0 < m → ∃ ad c, ren ρ x = .slice (some ad) m c ∧ ∀ j u, (renL ρ ys)[j]? = some u → w.cell? (ad.add j) = some u := fun h0 => by
            rcases hsrc with ⟨_, h1, _⟩ | hh
            · omega
            · exact hh
          have hby2 : ∀ k, k ≤ 4194304 → k * i.bytes ≤ 140737488355328 := fun k hk => by
            have := Nat.mul_le_mul hk hby
            omega
          split at hx
          · -- nil
            cases m with
            | zero =>
              cases hx
              obtain ⟨ad, c, hr, _, _⟩ := src0 rfl
              refine ⟨_, _, ρ, w, rfl, ?_, Ext.refl _ _, Nat.le_refl _, by simp [wfv], s⟩
              rw [hr]
              cases ad <;> simp [ren, Builtin.append_, run_underlying hu, sizeOf, typeInfo, hi, Builtin.lenOf, Builtin.firstCells, loadCells, loadCellsFrom, storeCells]
            | succ m =>
              cases hx
              obtain ⟨ad, c, hr, hcells⟩ := srcP (by omega)
              have hrun := run_append_nil (P := C.P) w t ty e i z hu hi hzi ad (m + 1) c (renL ρ ys) (by rw [renL_len]; exact hly) hcells (by omega) (by omega) (by have := hby2 (m + 1) (by omega); omega)
              have hml : m + 1 ≤ maxLen := by unfold maxLen; omega
              have hs := SatX.grown (C := C) s (w' := w.drew.alloc (.cells ((renL ρ ys).toArray ++ Builtin.zeroCells z.cells (grownCap w (m + 1) 0 e - (m + 1))) e)) (l := ys) (e := e) (sz := i.size) (c := grownCap w (m + 1) 0 e)
                (tail := (Builtin.zeroCells z.cells (grownCap w (m + 1) 0 e - (m + 1))).toList) rfl rfl rfl (heap_grow _ _ _ (by simp)) hwy
                (by
                  have := grownCap_ge w (m + 1) 0 e
                  rw [List.length_append, renL_len, hly, Array.length_toList, size_zeroCells, hzs, ← Nat.add_mul]
                  congr 1; omega) (grownCap_le_maxLen w (m + 1) 0 e hml)
              refine ⟨_, _, _, _, rfl, ?_, Val.put_ext _ _ _ _, Nat.le_succ _, by simp [wfv, Nat.blt_eq, Hp.new], hs⟩
              rw [hr]
              simp only [ren]
              rw [hrun, capOf_one, Val.put_b, Val.put_c]
          · -- some
            rename_i nm k c
            cases hk : Nat.ble k 1048576 with
            | false => rw [hk] at hx; cases hx
            | true =>
              rw [hk] at hx
              rw [Nat.ble_eq] at hk
              simp only [cond_true] at hx
              simp only [wfv] at hv
              split at hx
              · rename_i l e' hg
                cases hc : Nat.beq (c % 2) 0 && Nat.beq e' e with
                | false => rw [hc] at hx; cases hx
                | true =>
                  rw [hc] at hx
                  simp only [cond_true] at hx
                  rw [Bool.and_eq_true, Nat.beq_eq, Nat.beq_eq] at hc
                  obtain ⟨hc, rfl⟩ := hc
                  have hcap : ∀ ρ' : Val, capOf ρ' nm c = c / 2 := fun ρ' => by simp [capOf, hc]
                  cases m with
                  | zero =>
                    simp only at hx
                    cases hle : Nat.ble k (c / 2) with
                    | false => rw [hle] at hx; cases hx
                    | true =>
                      rw [hle] at hx
                      rw [Nat.ble_eq] at hle
                      cases hx
                      obtain ⟨ad, c', hr, _, _⟩ := src0 rfl
                      refine ⟨_, _, ρ, w, rfl, ?_, Ext.refl _ _, Nat.le_refl _, by simpa [wfv] using hv, s⟩
                      rw [hr]
                      simp only [ren, hcap]
                      cases ad <;> simp [Builtin.append_, run_underlying hu, sizeOf, typeInfo, hi, Builtin.lenOf, Builtin.firstCells, loadCells, loadCellsFrom, storeCells, hle]
                  | succ m =>
                    obtain ⟨ad, c', hr, hcells⟩ := srcP (by omega)
                    obtain ⟨_, hlt, hw, obj, hob, hi'⟩ := s.ob nm _ hg
                    simp only [SObj.is] at hi'
                    subst hi'
                    simp only at hx
                    cases hle : Nat.ble (k + (m + 1)) (c / 2) with
                    | true =>
                      rw [hle] at hx
                      rw [Nat.ble_eq] at hle
                      simp only [cond_true] at hx
                      split at hx
                      · rename_i l' hset
                        cases hx
                        rcases setR_spec hset with ⟨h0, _⟩ | ⟨hl', hfit⟩
                        · rw [h0] at hly; simp only [List.length_nil] at hly
                          have : 0 < (m + 1) * i.size := Nat.mul_pos (by omega) hpos
                          omega
                        · have hrun := run_append_room (P := C.P) w t ty e' i hu hi (ρ.b nm) k (c / 2) _ hob ad (m + 1) c' (renL ρ ys) (by rw [renL_len]; exact hly) hcells (ones_ren hones) hle (by simp [renL_len]; omega)
                          refine ⟨_, _, ρ, w.setRow (ρ.b nm) (((renL ρ l).toArray.toList.take (k * i.size)) ++ renL ρ ys ++ (renL ρ l).toArray.toList.drop (k * i.size + (renL ρ ys).length)).toArray, rfl, ?_, Ext.refl _ _, Nat.le_refl _, hv, s.upd hg rfl rfl rfl (setRow_heap w _ _ _ e' _ hob) (fun b hb => setRow_other w _ b _ hb) (wf_setR hset hw hwy) ?_⟩
                          · rw [hr]
                            simp only [ren, hcap]
                            exact hrun
                          · simp only [SObj.is, hl', renL_app, renL_take, renL_drop, renL_len]
                      · cases hx
                    | false =>
                      rw [hle] at hx
                      have hgt : c / 2 < k + (m + 1) := by
                        rcases Nat.lt_or_ge (c / 2) (k + (m + 1)) with h | h
                        · exact h
                        · have h' : k + (m + 1) ≤ c / 2 := h
                          rw [← Nat.ble_eq, hle] at h'; cases h'
                      simp only [cond_false] at hx
                      split at hx
                      · rename_i xs hxs
                        cases hx
                        obtain ⟨rfl, hxl⟩ := takeN_spec hxs
                        have holds : ∀ j v, (renL ρ (l.take (k * i.size)))[j]? = some v → w.cell? ((⟨ρ.b nm, 0, none⟩ : Addr).add j) = some v := fun j v hj => by
                          rw [add_lit, Nat.zero_add, cell_of_row w _ j _ _ _ hob, List.getElem?_toArray]
                          rw [renL_take] at hj
                          have hjl : j < k * i.size := by
                            have := (List.getElem?_eq_some_iff.1 hj).1
                            rw [List.length_take] at this; omega
                          rwa [List.getElem?_take_of_lt hjl] at hj
                        have hrun := run_append_grow (P := C.P) w t ty e' i z hu hi hzi ⟨ρ.b nm, 0, none⟩ k (c / 2) (renL ρ (l.take (k * i.size))) (by rw [renL_len]; exact hxl) holds ad (m + 1) c' (renL ρ ys) (by rw [renL_len]; exact hly) hcells hgt (by omega)
                          (growslice_fits (by omega) (hby2 _ (by omega)))
                        have hml : k + (m + 1) ≤ maxLen := by unfold maxLen; omega
                        have hs := SatX.grown (C := C) s (w' := w.drew.alloc (.cells ((renL ρ (l.take (k * i.size))).toArray ++ (renL ρ ys).toArray ++ Builtin.zeroCells z.cells (grownCap w (k + (m + 1)) (c / 2) e' - (k + (m + 1)))) e')) (l := l.take (k * i.size) ++ ys) (e := e') (sz := i.size) (c := grownCap w (k + (m + 1)) (c / 2) e')
                          (tail := (Builtin.zeroCells z.cells (grownCap w (k + (m + 1)) (c / 2) e' - (k + (m + 1)))).toList) rfl rfl rfl (heap_grow _ _ _ (by simp [renL_app])) (wfL_app.2 ⟨wfL_take hw _, hwy⟩)
                          (by
                            have := grownCap_ge w (k + (m + 1)) (c / 2) e'
                            rw [List.length_append, renL_len, List.length_append, hxl, hly, Array.length_toList, size_zeroCells, hzs, ← Nat.add_mul, ← Nat.add_mul]
                            congr 1; omega) (grownCap_le_maxLen w _ (c / 2) e' hml)
                        refine ⟨_, _, _, _, rfl, ?_, Val.put_ext _ _ _ _, Nat.le_succ _, by simp [wfv, Nat.blt_eq, Hp.new], hs⟩
                        rw [hr]
                        simp only [ren, hcap]
                        rw [hrun, capOf_one, Val.put_b, Val.put_c]
                      · cases hx
              · rename_i l e' sz' hg
                cases hc : Nat.beq c 1 && Nat.beq e' e && Nat.beq sz' i.size with
                | false => rw [hc] at hx; cases hx
                | true =>
                  rw [hc] at hx
                  simp only [cond_true] at hx
                  rw [Bool.and_eq_true, Bool.and_eq_true, Nat.beq_eq, Nat.beq_eq, Nat.beq_eq] at hc
                  obtain ⟨⟨rfl, rfl⟩, rfl⟩ := hc
                  obtain ⟨_, hlt, hw, obj, hob, tail, rfl, ht1, ht2⟩ := s.ob nm _ hg
                  split at hx
                  · rename_i xs hxs
                    obtain ⟨rfl, hxl⟩ := takeN_spec hxs
                    have hle0 : k * i.size ≤ l.length := by rw [List.length_take] at hxl; omega
                    have hkc : k ≤ ρ.c nm := by
                      have : k * i.size ≤ ρ.c nm * i.size := by rw [← ht1, List.length_append, renL_len]; omega
                      exact Nat.le_of_mul_le_mul_right this hpos
                    have htk : (renL ρ l ++ tail).take (k * i.size) = renL ρ (l.take (k * i.size)) := by
                      rw [List.take_append_of_le_length (by rw [renL_len]; exact hle0), renL_take]
                    cases m with
                    | zero =>
                      cases hx
                      obtain ⟨ad, c', hr, _, _⟩ := src0 rfl
                      refine ⟨_, _, ρ, w, rfl, ?_, Ext.refl _ _, Nat.le_refl _, by simpa [wfv] using hv, s⟩
                      rw [hr]
                      simp only [ren, capOf_one]
                      cases ad <;> simp [Builtin.append_, run_underlying hu, sizeOf, typeInfo, hi, Builtin.lenOf, Builtin.firstCells, loadCells, loadCellsFrom, storeCells, hkc]
                    | succ m =>
                      cases hx
                      obtain ⟨ad, c', hr, hcells⟩ := srcP (by omega)
                      by_cases hroom : k + (m + 1) ≤ ρ.c nm
                      · have hfit : k * i.size + (renL ρ ys).length ≤ (renL ρ l ++ tail).toArray.size := by
                          rw [renL_len, hly, List.size_toArray, ht1, ← Nat.add_mul]; exact Nat.mul_le_mul_right _ hroom
                        have hrun := run_append_room (P := C.P) w t ty e' i hu hi (ρ.b nm) k (ρ.c nm) _ hob ad (m + 1) c' (renL ρ ys) (by rw [renL_len]; exact hly) hcells (ones_ren hones) hroom hfit
                        have hs := SatX.rename (C := C) s (w' := w.setRow (ρ.b nm) (((renL ρ l ++ tail).toArray.toList.take (k * i.size)) ++ renL ρ ys ++ (renL ρ l ++ tail).toArray.toList.drop (k * i.size + (renL ρ ys).length)).toArray) (l := l.take (k * i.size) ++ ys) (e := e') (sz := i.size) (c := ρ.c nm)
                          (tail := (renL ρ l ++ tail).drop (k * i.size + (renL ρ ys).length)) hg rfl rfl rfl (by rw [setRow_heap w _ _ _ e' _ hob]; simp only [List.toList_toArray, htk, renL_app]) (fun b hb => setRow_other w _ b _ hb) (wfL_app.2 ⟨wfL_take hw _, hwy⟩)
                          (by
                            simp only [List.size_toArray] at hfit
                            simp only [renL_app, List.length_append, renL_len, hxl, List.length_drop] at hfit ht1 ⊢
                            omega) ht2
                        refine ⟨_, _, _, _, rfl, ?_, Val.put_ext _ _ _ _, Nat.le_succ _, by simp [wfv, Nat.blt_eq, Hp.new, Hp.del], hs⟩
                        rw [hr]
                        simp only [ren, capOf_one, Val.put_b, Val.put_c]
                        exact hrun
                      · have holds : ∀ j v, (renL ρ (l.take (k * i.size)))[j]? = some v → w.cell? ((⟨ρ.b nm, 0, none⟩ : Addr).add j) = some v := fun j v hj => by
                          rw [add_lit, Nat.zero_add, cell_of_row w _ j _ _ _ hob, List.getElem?_toArray]
                          rw [← htk] at hj
                          have hjl : j < k * i.size := by
                            have := (List.getElem?_eq_some_iff.1 hj).1
                            rw [List.length_take] at this; omega
                          rwa [List.getElem?_take_of_lt hjl] at hj
                        have hrun := run_append_grow (P := C.P) w t ty e' i z hu hi hzi ⟨ρ.b nm, 0, none⟩ k (ρ.c nm) (renL ρ (l.take (k * i.size))) (by rw [renL_len]; exact hxl) holds ad (m + 1) c' (renL ρ ys) (by rw [renL_len]; exact hly) hcells (by omega) (by omega)
                          (growslice_fits (by omega) (hby2 _ (by omega)))
                        have hml : k + (m + 1) ≤ maxLen := by unfold maxLen; omega
                        have hs := SatX.grown (C := C) (s.del nm) (w' := w.drew.alloc (.cells ((renL ρ (l.take (k * i.size))).toArray ++ (renL ρ ys).toArray ++ Builtin.zeroCells z.cells (grownCap w (k + (m + 1)) (ρ.c nm) e' - (k + (m + 1)))) e')) (l := l.take (k * i.size) ++ ys) (e := e') (sz := i.size) (c := grownCap w (k + (m + 1)) (ρ.c nm) e')
                          (tail := (Builtin.zeroCells z.cells (grownCap w (k + (m + 1)) (ρ.c nm) e' - (k + (m + 1)))).toList) rfl rfl rfl (heap_grow _ _ _ (by simp [renL_app])) (wfL_app.2 ⟨wfL_take hw _, hwy⟩)
                          (by
                            have := grownCap_ge w (k + (m + 1)) (ρ.c nm) e'
                            rw [List.length_append, renL_len, List.length_append, hxl, hly, Array.length_toList, size_zeroCells, hzs, ← Nat.add_mul, ← Nat.add_mul]
                            congr 1; omega) (grownCap_le_maxLen w _ (ρ.c nm) e' hml)
                        refine ⟨_, _, _, _, rfl, ?_, Val.put_ext _ _ _ _, Nat.le_succ _, by simp [wfv, Nat.blt_eq, Hp.new, Hp.del], hs⟩
                        rw [hr]
                        simp only [ren, capOf_one]
                        rw [hrun, Val.put_c]
                        simp only [Hp.del, Val.put_b]
                  · cases hx
              · cases hx
          · cases hx
      · cases hx
    · cases hx
  · cases hx
end
end Go.Xs
