/- Maps by reckoning: that it is so; functions that the model itself stands for. Plain theorems, no condition. -/
import Derived.Test.YtlamhjlijoampaaGreatDoorXv4
set_option linter.unusedVariables false
set_option linter.unusedSimpArgs false
namespace Go.Xs
open Go.RowKit
section
variable {B : World} {F : PH} {C : Ctx} {h : Hp} {ρ : Val} {w : World} {n : Nat} {ds : List SDef} {E : Env} {a : Act} {o : Oper}
theorem SatX.mapAt (s : SatX B F C.G h ρ w) {nm : Nat} {es : List MapEntry} {ck : Nat} (hg : h.get nm = some (.map es ck)) : w.heap[ρ.b nm]? = some (.map (es.map (renE ρ)).toArray ck) ∧ (es.all fun x => wfv h.next x.key && wfv h.next x.val) = true := by
  obtain ⟨_, _, hw, obj, hob, hi⟩ := s.ob nm _ hg
  simp only [SObj.is] at hi
  subst hi
  exact ⟨hob, hw⟩
theorem SatX.setMap (s : SatX B F C.G h ρ w) {nm : Nat} {es es' : List MapEntry} {ck ck' : Nat} (hg : h.get nm = some (.map es ck)) (hw : (es'.all fun x => wfv h.next x.key && wfv h.next x.val) = true) :
    SatX B F C.G (h.set nm (.map es' ck')) ρ { w with heap := w.heap.setIfInBounds (ρ.b nm) (.map (es'.map (renE ρ)).toArray ck') } := by
  obtain ⟨hob, _⟩ := s.mapAt hg
  obtain ⟨h1, h2⟩ := MapKept.heap_set (o' := .map (es'.map (renE ρ)).toArray ck') hob
  exact s.upd hg rfl rfl rfl h1 h2 hw rfl
theorem okV_ok {ok : Bool} {v : Value} {b : Bool} {n : Nat} (hv : wfv n v = true) : wfv n (okV ok v b) = true ∧ ∀ ρ, ren ρ (okV ok v b) = if ok then .tuple #[ren ρ v, .bool b] else ren ρ v := by
  cases ok
  · exact ⟨hv, fun ρ => rfl⟩
  · exact ⟨by simp [okV, wfv, wfA, wfL, hv], fun ρ => by simp [okV, ren, renA, renL]⟩
theorem xval3_ok (s : SatX B F C.G h ρ w) (hC : C.OK F) (hA : AgrX h.next ρ n ds E a) {v : Value} (hx : xval3 C E h o.op = some v) : wfv h.next v = true ∧ (execOp a.eval o).run C.P w = .ok (.value (ren ρ v)) w := by
  unfold xval3 at hx
  split at hx
  · rename_i t x k ok ho
    split at hx
    · rename_i kt et hm
      have hmt := mapTy_ok hm
      split at hx
      · rename_i kv hk
        cases hkb : isKeyB C.P kt kv with
        | false => rw [hkb] at hx; cases hx
        | true =>
          rw [hkb] at hx
          obtain ⟨d, hd, hkey, hkr, hkw⟩ := isKeyB_ok hkb
          have e1 := (hA.ev s.gl s.gn hk).2
          rw [hkr] at e1
          simp only [cond_true] at hx
          split at hx
          · rename_i hv
            have e2 := (hA.ev s.gl s.gn hv).2
            simp only [ren] at e2
            split at hx
            · rename_i z hz
              cases hx
              obtain ⟨z1, z2⟩ := zeroX_ok (w := w) hz
              obtain ⟨q1, q2⟩ := okV_ok (ok := ok) (b := false) (wfv_mono (Nat.zero_le h.next) _ z2)
              refine ⟨q1, ?_⟩
              have hck := MapKept.run_checkKey (P := C.P) (w := w) hd hkey true 9999
              have hfk := MapKept.run_findKey (P := C.P) (w := w) (kt := kt) (l := []) hd (show Instr.findNow d kv [] 0 = some none from rfl)
              unfold execOp
              simp only [ho, e1, e2, Instr.lookup, Sem.run_bind, run_underlying hmt, Result.andThen_ok, Sem.run_pure, List.isEmpty_toArray, List.isEmpty_nil, hck, hfk, z1, q2, ren_id ρ z z2]
            · cases hx
          · rename_i nm hv
            have e2 := (hA.ev s.gl s.gn hv).2
            simp only [ren] at e2
            split at hx
            · rename_i es ck hg
              obtain ⟨hob, hwf⟩ := s.mapAt hg
              have hgo := MapKept.run_getObj_map (P := C.P) hob
              have hck := MapKept.run_checkKey (P := C.P) (w := w) hd hkey (es.map (renE ρ)).toArray.isEmpty 9999
              split at hx
              · rename_i i e hf
                cases hx
                obtain ⟨f1, f2⟩ := findM_ok hkey ρ hf
                obtain ⟨_, f3, _⟩ := f2 _ rfl
                have hmem := List.mem_of_getElem? f3
                have hwe := List.all_eq_true.1 hwf e hmem
                rw [Bool.and_eq_true] at hwe
                obtain ⟨q1, q2⟩ := okV_ok (ok := ok) (b := true) hwe.2
                refine ⟨q1, ?_⟩
                have hfk := MapKept.run_findKey (P := C.P) (w := w) (kt := kt) hd f1
                unfold execOp
                simp only [ho, e1, e2, Instr.lookup, Sem.run_bind, run_underlying hmt, Result.andThen_ok, Sem.run_pure, hgo, hck, hfk, Option.map_some, q2]
              · rename_i hf
                split at hx
                · rename_i z hz
                  cases hx
                  obtain ⟨f1, _⟩ := findM_ok hkey ρ hf
                  obtain ⟨z1, z2⟩ := zeroX_ok (w := w) hz
                  obtain ⟨q1, q2⟩ := okV_ok (ok := ok) (b := false) (wfv_mono (Nat.zero_le h.next) _ z2)
                  refine ⟨q1, ?_⟩
                  have hfk := MapKept.run_findKey (P := C.P) (w := w) (kt := kt) hd f1
                  unfold execOp
                  simp only [ho, e1, e2, Instr.lookup, Sem.run_bind, run_underlying hmt, Result.andThen_ok, Sem.run_pure, hgo, hck, hfk, Option.map_none, z1, q2, ren_id ρ z z2]
                · cases hx
              · cases hx
            · cases hx
          · cases hx
      · cases hx
    · cases hx
  · rename_i x t ho
    split at hx
    · rename_i p hm
      obtain ⟨kt, et⟩ := p
      have hmt := mapTy_ok hm
      split at hx
      · rename_i hv
        cases hx
        have e2 := (hA.ev s.gl s.gn hv).2
        simp only [ren] at e2
        refine ⟨rfl, ?_⟩
        unfold execOp
        simp only [ho, resolve, invoke, builtin, List.map_toArray, List.map_cons, List.map_nil, e2, Builtin.len_, Sem.run_bind, Sem.run_pure, Result.andThen_ok, List.getElem?_toArray, List.getElem?_cons_zero, run_underlying hmt]
        rfl
      · rename_i nm hv
        have e2 := (hA.ev s.gl s.gn hv).2
        simp only [ren] at e2
        split at hx
        · rename_i es ck hg
          cases hx
          obtain ⟨hob, hwf⟩ := s.mapAt hg
          have hgo := MapKept.run_getObj_map (P := C.P) hob
          refine ⟨rfl, ?_⟩
          unfold execOp
          simp only [ho, resolve, invoke, builtin, List.map_toArray, List.map_cons, List.map_nil, e2, Builtin.len_, Sem.run_bind, Sem.run_pure, Result.andThen_ok, List.getElem?_toArray, List.getElem?_cons_zero, run_underlying hmt, hgo, goInt, ren, List.size_toArray, List.length_map]
          rfl
        · cases hx
      · cases hx
    · cases hx
  · cases hx
theorem bornAt_ok {b : Nat} (ρ : Val) : ∀ {es : List MapEntry} {i j : Nat}, xmem4.bornAt b es i = some j → i ≤ j ∧ (∃ e, es[j - i]? = some e) ∧ (es.map (renE ρ)).findIdx? (fun e => (e.born : Int) == (b : Int)) = some (j - i)
  | [], i, j, h => by simp [xmem4.bornAt] at h
  | e :: es, i, j, h => by
    simp only [xmem4.bornAt] at h
    cases hb : Nat.beq e.born b with
    | true =>
      rw [hb] at h
      rw [Nat.beq_eq] at hb
      cases h
      refine ⟨Nat.le_refl _, ⟨e, by simp⟩, ?_⟩
      simp [List.findIdx?_cons, renE, hb]
    | false =>
      rw [hb] at h
      obtain ⟨h1, ⟨e', h2⟩, h3⟩ := bornAt_ok ρ h
      have hne : ¬ e.born = b := fun h' => by rw [h', Nat.beq_refl] at hb; cases hb
      obtain ⟨c, rfl⟩ : ∃ c, j = i + 1 + c := ⟨j - (i + 1), by omega⟩
      rw [show i + 1 + c - (i + 1) = c by omega] at h2 h3
      refine ⟨by omega, ⟨e', by rw [show i + 1 + c - i = c + 1 by omega, List.getElem?_cons_succ]; exact h2⟩, ?_⟩
      rw [show i + 1 + c - i = c + 1 by omega, List.map_cons, List.findIdx?_cons]
      have : ((renE ρ e).born : Int) ≠ (b : Int) := by simp only [renE]; omega
      simp [this, h3]
theorem setE_born (ρ : Val) (v : Value) : ∀ (i : Nat) (es : List MapEntry) (e : MapEntry), es[i]? = some e → (es.map (renE ρ)).toArray.modify i (fun x => { x with val := ren ρ v }) = ((setE v i es).map (renE ρ)).toArray := by
  intro i es e h
  rw [← setE_ok ρ v i es e h]
  apply Array.ext'
  rw [Array.toList_modify, Array.toList_modify]
  have : ∀ (i : Nat) (es : List MapEntry) (e : MapEntry), es[i]? = some e → (es.map (renE ρ)).modify i (fun x => { x with val := ren ρ v }) = (es.map (renE ρ)).modify i (fun x => { x with key := ren ρ e.key, val := ren ρ v }) := by
    intro i
    induction i with
    | zero =>
      intro es e h
      cases es with
      | nil => simp at h
      | cons e' es =>
        simp only [List.getElem?_cons_zero, Option.some.injEq] at h
        subst h
        simp [renE]
    | succ i ih =>
      intro es e h
      cases es with
      | nil => simp at h
      | cons e' es =>
        simp only [List.getElem?_cons_succ] at h
        simp only [List.map_cons, List.modify_succ_cons, ih es e h]
  exact this i es e h
theorem modify_key (ρ : Val) : ∀ (i : Nat) (es : List MapEntry) (e : MapEntry), es[i]? = some e → (es.map (renE ρ)).toArray.modify i (fun x => { x with key := ren ρ e.key }) = (es.map (renE ρ)).toArray := by
  have : ∀ (i : Nat) (es : List MapEntry) (e : MapEntry), es[i]? = some e → (es.map (renE ρ)).modify i (fun x => { x with key := ren ρ e.key }) = es.map (renE ρ) := by
    intro i
    induction i with
    | zero =>
      intro es e h
      cases es with
      | nil => simp at h
      | cons e' es =>
        simp only [List.getElem?_cons_zero, Option.some.injEq] at h
        subst h
        simp [renE]
    | succ i ih =>
      intro es e h
      cases es with
      | nil => simp at h
      | cons e' es =>
        simp only [List.getElem?_cons_succ] at h
        simp only [List.map_cons, List.modify_succ_cons, ih es e h]
  intro i es e h
  apply Array.ext'
  rw [Array.toList_modify]
  exact this i es e h
theorem set_same {w : World} {r : Nat} {o : Obj} (h : w.heap[r]? = some o) : { w with heap := w.heap.setIfInBounds r o } = w := by
  have : w.heap.setIfInBounds r o = w.heap := by
    apply Array.ext_getElem?
    intro i
    by_cases e : r = i
    · subst e
      have hlt := (Array.getElem?_eq_some_iff.1 h).1
      rw [Array.getElem?_setIfInBounds_self_of_lt hlt, h]
    · rw [Array.getElem?_setIfInBounds_ne e]
  rw [this]
theorem xmem4_ok (s : SatX B F C.G h ρ w) (hC : C.OK F) (hA : AgrX h.next ρ n ds E a) {r : OR} (hx : xmem4 C E h o.op = some r) : r.Ok B F C.G h ρ w ((execOp a.eval o).run C.P w) := by
  unfold xmem4 at hx
  split at hx
  -- make
  · rename_i t r0 ho
    have hnew : OR.Ok B F C.G h ρ w (.ok (.value (.map (some w.heap.size))) (w.alloc (.map #[] 0))) (.val (.map (some h.next)) (h.new (.map [] 0))) :=
      ⟨ρ.put h.next w.heap.size 0, w.alloc (.map #[] 0), by simp [ren, Val.put_b], Val.put_ext _ _ _ _, Nat.le_succ _, by simp [wfv, Nat.blt_eq, Hp.new],
        s.new (w' := w.alloc (.map #[] 0)) (ob := .map #[] 0) (o := .map [] 0) 0 rfl rfl rfl rfl rfl rfl⟩
    split at hx
    · rename_i p hm
      obtain ⟨kt, et⟩ := p
      have hmt := mapTy_ok hm
      split at hx
      · cases hx
        have hrun : (execOp a.eval o).run C.P w = .ok (.value (.map (some w.heap.size))) (w.alloc (.map #[] 0)) := by
          unfold execOp
          simp [ho, Instr.makeMap]
        rw [hrun]
        exact hnew
      · rename_i x
        split at hx
        · rename_i i hi
          cases hx
          obtain ⟨k, hk⟩ := natX_ok s hA hi
          have hrun : (execOp a.eval o).run C.P w = .ok (.value (.map (some w.heap.size))) (w.alloc (.map #[] 0)) := by
            unfold execOp
            simp [ho, Instr.makeMap, hk, run_underlying hmt, asInt, asIntOf]
          rw [hrun]
          exact hnew
        · cases hx
    · cases hx
  -- update
  · rename_i t m k v ho
    split at hx
    · rename_i kt et hm
      have hmt := mapTy_ok hm
      split at hx
      · rename_i kv hk
        cases hkb : isKeyB C.P kt kv with
        | false => rw [hkb] at hx; cases hx
        | true =>
          rw [hkb] at hx
          obtain ⟨d, hd, hkey, hkr, hkw⟩ := isKeyB_ok hkb
          have e1 := (hA.ev s.gl s.gn hk).2
          rw [hkr] at e1
          simp only [cond_true] at hx
          split at hx
          · rename_i nm hv
            have e2 := (hA.ev s.gl s.gn hv).2
            simp only [ren] at e2
            split at hx
            · rename_i vv hvv
              obtain ⟨w3, e3⟩ := hA.ev s.gl s.gn hvv
              split at hx
              · rename_i es ck hg
                obtain ⟨hob, hwf⟩ := s.mapAt hg
                have hgo := MapKept.run_getObj_map (P := C.P) hob
                have hck := MapKept.run_checkKey (P := C.P) (w := w) hd hkey false 9999
                split at hx
                · rename_i i e hf
                  cases hx
                  obtain ⟨f1, f2⟩ := findM_ok hkey ρ hf
                  obtain ⟨_, f3, f4⟩ := f2 _ rfl
                  simp only [Nat.sub_zero] at f3
                  have f4 : e.key = kv := f4
                  have hfk := MapKept.run_findKey (P := C.P) (w := w) (kt := kt) hd f1
                  have hget : (((es.map (renE ρ)).toArray[i]?).map (·.key)).getD kv = kv := by
                    simp [f3, renE, f4, hkr]
                  have hst : (Instr.keyThatStays kv kv).run C.P w = .ok kv w := by
                    simp [Instr.keyThatStays, MapKept.sameBits_self hkey]
                  have hmod := setE_ok ρ vv i es e f3
                  rw [f4, hkr] at hmod
                  have hso := MapKept.run_setObj_map (P := C.P) (.map ((setE vv i es).map (renE ρ)).toArray ck) hob
                  refine ⟨_, ?_, rfl, s.setMap hg (setE_wf w3 i es hwf)⟩
                  unfold execOp
                  simp only [ho, e1, e2, e3, Instr.mapUpdate, Sem.run_bind, run_underlying hmt, Result.andThen_ok, Sem.run_pure, hgo, hck, hfk, Option.map_some, hget, hst, hmod, hso]
                · rename_i hf
                  cases hx
                  obtain ⟨f1, _⟩ := findM_ok hkey ρ hf
                  have hfk := MapKept.run_findKey (P := C.P) (w := w) (kt := kt) hd f1
                  have hpush : (es.map (renE ρ)).toArray.push (⟨kv, ren ρ vv, ck⟩ : MapEntry) = ((es ++ [(⟨kv, vv, ck⟩ : MapEntry)]).map (renE ρ)).toArray := by
                    simp [renE, hkr]
                  have hso := MapKept.run_setObj_map (P := C.P) (.map ((es ++ [(⟨kv, vv, ck⟩ : MapEntry)]).map (renE ρ)).toArray (ck + 1)) hob
                  refine ⟨_, ?_, rfl, s.setMap hg ?_⟩
                  · unfold execOp
                    simp only [ho, e1, e2, e3, Instr.mapUpdate, Sem.run_bind, run_underlying hmt, Result.andThen_ok, Sem.run_pure, hgo, hck, hfk, Option.map_none, hpush, hso]
                  · rw [List.all_append, hwf]
                    simp [wfv_mono (Nat.zero_le h.next) _ hkw, w3]
                · cases hx
              · cases hx
            · cases hx
          · cases hx
      · cases hx
    · cases hx
  -- an entry
  · rename_i t m k ho
    split at hx
    · rename_i kt et hm
      have hmt := mapTy_ok hm
      split at hx
      · rename_i kv hk
        cases hkb : isKeyB C.P kt kv with
        | false => rw [hkb] at hx; cases hx
        | true =>
          rw [hkb] at hx
          obtain ⟨d, hd, hkey, hkr, hkw⟩ := isKeyB_ok hkb
          have e1 := (hA.ev s.gl s.gn hk).2
          rw [hkr] at e1
          simp only [cond_true] at hx
          split at hx
          · rename_i nm hv
            have e2 := (hA.ev s.gl s.gn hv).2
            simp only [ren] at e2
            split at hx
            · rename_i es ck hg
              obtain ⟨hob, hwf⟩ := s.mapAt hg
              have hgo := MapKept.run_getObj_map (P := C.P) hob
              have hck := MapKept.run_checkKey (P := C.P) (w := w) hd hkey false 9999
              split at hx
              · rename_i i e hf
                cases hx
                obtain ⟨f1, f2⟩ := findM_ok hkey ρ hf
                obtain ⟨_, f3, f4⟩ := f2 _ rfl
                simp only [Nat.sub_zero] at f3
                have f4 : e.key = kv := f4
                have hmem := List.mem_of_getElem? f3
                have hwe := List.all_eq_true.1 hwf e hmem
                rw [Bool.and_eq_true] at hwe
                have hfk := MapKept.run_findKey (P := C.P) (w := w) (kt := kt) hd f1
                have hget : (((es.map (renE ρ)).toArray[i]?).map (·.key)).getD kv = kv := by
                  simp [f3, renE, f4, hkr]
                have hborn : (((es.map (renE ρ)).toArray[i]?).map (fun x => (x.born : Int))).getD 0 = (e.born : Int) := by
                  simp [f3, renE]
                have hst : (Instr.keyThatStays kv kv).run C.P w = .ok kv w := by
                  simp [Instr.keyThatStays, MapKept.sameBits_self hkey]
                have hmod := modify_key ρ i es e f3
                rw [f4, hkr] at hmod
                have hso := MapKept.run_setObj_map (P := C.P) (.map (es.map (renE ρ)).toArray ck) hob
                rw [set_same hob] at hso
                refine OR.Ok.same s ?_ (by simp [wfv, wfA, wfL, hwe.2])
                unfold execOp
                simp only [ho, e1, e2, Instr.mapEntry, Sem.run_bind, run_underlying hmt, Result.andThen_ok, Sem.run_pure, hgo, hck, hfk, Option.map_some, hget, hst, hmod, hso, hborn, goInt, ren, renA, renL]
                rfl
              · rename_i hf
                split at hx
                · rename_i z hz
                  cases hx
                  obtain ⟨f1, _⟩ := findM_ok hkey ρ hf
                  obtain ⟨z1, z2⟩ := zeroX_ok (w := w) hz
                  have hfk := MapKept.run_findKey (P := C.P) (w := w) (kt := kt) hd f1
                  have hpush : (es.map (renE ρ)).toArray.push (⟨kv, z, ck⟩ : MapEntry) = ((es ++ [(⟨kv, z, ck⟩ : MapEntry)]).map (renE ρ)).toArray := by
                    simp [renE, hkr, ren_id ρ z z2]
                  have hso := MapKept.run_setObj_map (P := C.P) (.map ((es ++ [(⟨kv, z, ck⟩ : MapEntry)]).map (renE ρ)).toArray (ck + 1)) hob
                  refine ⟨ρ, _, ?_, Ext.refl _ _, Nat.le_refl _, by simp [wfv, wfA, wfL]; exact wfv_mono (Nat.zero_le _) _ z2, s.setMap hg ?_⟩
                  · unfold execOp
                    simp only [ho, e1, e2, Instr.mapEntry, Sem.run_bind, run_underlying hmt, Result.andThen_ok, Sem.run_pure, hgo, hck, hfk, Option.map_none, z1, hpush, hso, goInt, ren, renA, renL, ren_id ρ z z2]
                    rfl
                  · rw [List.all_append, hwf]
                    simp [wfv_mono (Nat.zero_le h.next) _ hkw, wfv_mono (Nat.zero_le h.next) _ z2]
                · cases hx
              · cases hx
            · cases hx
          · cases hx
      · cases hx
    · cases hx
  -- an entry stored
  · rename_i t m st v ho
    split at hx
    · rename_i nm hv
      have e2 := (hA.ev s.gl s.gn hv).2
      simp only [ren] at e2
      split at hx
      · rename_i b hb
        obtain ⟨kb, e1⟩ := natX_ok s hA hb
        split at hx
        · rename_i vv hvv
          obtain ⟨w3, e3⟩ := hA.ev s.gl s.gn hvv
          split at hx
          · rename_i es ck hg
            obtain ⟨hob, hwf⟩ := s.mapAt hg
            have hgo := MapKept.run_getObj_map (P := C.P) hob
            split at hx
            · rename_i i hbo
              cases hx
              obtain ⟨_, ⟨e, f3⟩, f4⟩ := bornAt_ok ρ hbo
              simp only [Nat.sub_zero] at f3 f4
              have hmod := setE_born ρ vv i es e f3
              have hso := MapKept.run_setObj_map (P := C.P) (.map ((setE vv i es).map (renE ρ)).toArray ck) hob
              refine ⟨_, ?_, rfl, s.setMap hg (setE_wf w3 i es hwf)⟩
              unfold execOp
              have hfi : (es.map (renE ρ)).toArray.findIdx? (fun e => (e.born : Int) == (b : Int)) = some i := by
                rw [List.findIdx?_toArray]
                exact f4
              simp only [ho, e1, e2, e3, Instr.entryStore, asInt, asIntOf, Sem.run_bind, Result.andThen_ok, Sem.run_pure, hgo, hfi, hmod, hso]
            · cases hx
          · cases hx
        · cases hx
      · cases hx
    · cases hx
  · cases hx
/-- A function that the model itself stands for, of values without addresses. -/
def xext (C : Ctx) (E : Env) : Op → Option Value
  | .call ⟨.value f, ⟨xs⟩, _⟩ => match evX C.G E f with
    | some (.func (.func g) ⟨[]⟩ ⟨[]⟩) => match evsX C.G E xs with
      | some vs => bif vs.all noAddr then match semP C.P (callFunc g ⟨vs⟩) with
          | some (.inr (.value v)) => bif noAddr v then some v else none
          | _ => none
        else none
      | none => none
    | _ => none
  | _ => none
theorem xext_ok (s : SatX B F C.G h ρ w) (hA : AgrX h.next ρ n ds E a) {v : Value} (hx : xext C E o.op = some v) : wfv h.next v = true ∧ (execOp a.eval o).run C.P w = .ok (.value (ren ρ v)) w := by
  unfold xext at hx
  split at hx
  · rename_i f xs ats ho
    split at hx
    · rename_i g hf
      split at hx
      · rename_i vs hvs
        cases hn : vs.all noAddr with
        | false => rw [hn] at hx; cases hx
        | true =>
          rw [hn] at hx
          simp only [cond_true] at hx
          split at hx
          · rename_i u hs
            cases hnv : noAddr u with
            | false => rw [hnv] at hx; cases hx
            | true =>
              rw [hnv] at hx
              cases hx
              refine ⟨wfv_mono (Nat.zero_le _) _ hnv, ?_⟩
              have e1 := (hA.ev s.gl s.gn hf).2
              simp only [ren, renA, renL] at e1
              obtain ⟨_, e2⟩ := evsX_ok s hA hvs
              rw [renL_id ρ _ (wfL_iff.2 fun v hv => List.all_eq_true.1 hn v hv)] at e2
              have hrun := semP_run (w := w) hs
              simp only at hrun
              unfold execOp
              simp only [ho, resolve, Sem.run_bind, List.map_toArray, e1, e2, Deferred.ofValue, Sem.run_pure, Result.andThen_ok, invoke, ren_id ρ _ hnv]
              have e3 : (#[] ++ vs.toArray : Array Value) ++ #[] = ⟨vs⟩ := by simp
              rw [e3, hrun]
          · cases hx
      · cases hx
    · cases hx
  · cases hx
end
end Go.Xs
