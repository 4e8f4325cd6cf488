/- Single operations by reckoning: loads, stores, new variables, literals, addresses, parts. Plain theorems, no condition. -/
import Derived.Test.YtlamhjlijoampaaGreatDoorXs2
import Derived.Test.YtlamhjlijoampaaGreatDoorSk7
set_option linter.unusedVariables false
set_option linter.unusedSimpArgs false
namespace Go.Xs
open Go.RowKit
open Go.Sk (isAggB sizeB fldB slcB zerB plB run_sizeB run_isAggB slcB_spec fldB_spec zerB_spec)

structure Ctx where
  P : Program
  G : Gx
  tab : Nat → Option (List Value)
  fns : Nat → Option Func
  /-- functions that hand back what they are given -/
  idf : Nat → Bool := fun _ => false
  idok : ∀ g, idf g = true → ∀ (v : Value) (w : World), (callFunc g #[v]).run P w = .ok (.value v) w := by exact fun _ h => Bool.noConfusion h
  /-- functions that make rows of whatever bytes -/
  mnz : Nat → Option TypeId := fun _ => none
  mnzok : ∀ g e, mnz g = some e → ∀ (n : Nat) (w : World), n ≤ 281474976710656 → ∃ cs : Array Value, (callFunc g #[.int .i64 (n : Int)]).run P w = .ok (.value (.slice (some ⟨w.heap.size, 0, none⟩) n cs.size)) (w.drew.drew.alloc (.cells cs e)) ∧ n ≤ cs.size ∧ (n ≤ maxLen → cs.size ≤ maxLen) := by exact fun _ _ h => Option.noConfusion h
/-- The functions are the program's, with bodies. -/
def Ctx.FOK (C : Ctx) : Prop := ∀ g fn, C.fns g = some fn → C.P.funcs[g]? = some fn ∧ fn.body.isSome = true ∧ (fn.name == "runtime.NumGoroutine") = false
/-- The tables read so wherever F lies. -/
def Ctx.OK (C : Ctx) (F : PH) : Prop :=
  ∀ g l, g < C.G.N → C.tab g = some l → ∀ j v, l[j]? = some v → wfv C.G.N v = true ∧ ∀ (ρ : Val) (w : World), (∀ k, k < C.G.N → ρ.b k = C.G.gb k) → (∀ b o, F b = some o → w.heap[b]? = some o) → w.cell? ⟨C.G.gb g, j, none⟩ = some (ren ρ v)

def rdl : SObj → Option (List Value)
  | .cells l _ => some l
  | .grow l _ _ => some l
  | .ro l _ => some l
  | _ => none
def rdAt (C : Ctx) (h : Hp) (nm : Nat) : Option (List Value) :=
  bif Nat.blt nm C.G.N then C.tab nm else match h.get nm with
    | some o => rdl o
    | none => none
theorem renL_get (ρ : Val) {l : List Value} {j : Nat} {v : Value} (h : l[j]? = some v) : (renL ρ l)[j]? = some (ren ρ v) := by
  rw [renL_map, List.getElem?_map, h]; rfl
theorem renL_get' (ρ : Val) {l : List Value} {j : Nat} {v : Value} (h : (renL ρ l)[j]? = some v) : ∃ u, l[j]? = some u ∧ v = ren ρ u := by
  rw [renL_map, List.getElem?_map] at h
  cases hl : l[j]? with
  | none => rw [hl] at h; cases h
  | some u => rw [hl] at h; cases h; exact ⟨u, rfl, rfl⟩
theorem renL_len (ρ : Val) (l : List Value) : (renL ρ l).length = l.length := by rw [renL_map, List.length_map]
theorem renL_app (ρ : Val) (l m : List Value) : renL ρ (l ++ m) = renL ρ l ++ renL ρ m := by simp [renL_map]
theorem renL_take (ρ : Val) (l : List Value) (k : Nat) : renL ρ (l.take k) = (renL ρ l).take k := by simp [renL_map, List.map_take]
theorem renL_drop (ρ : Val) (l : List Value) (k : Nat) : renL ρ (l.drop k) = (renL ρ l).drop k := by simp [renL_map, List.map_drop]
theorem wfL_get {n : Nat} {l : List Value} (h : wfL n l = true) {j : Nat} {v : Value} (hj : l[j]? = some v) : wfv n v = true := wfL_iff.1 h v (List.mem_of_getElem? hj)
theorem wfL_app {n : Nat} {l m : List Value} : wfL n (l ++ m) = true ↔ wfL n l = true ∧ wfL n m = true := by
  simp only [wfL_iff, List.mem_append]
  exact ⟨fun h => ⟨fun v hv => h v (.inl hv), fun v hv => h v (.inr hv)⟩, fun h v hv => hv.elim (h.1 v) (h.2 v)⟩
theorem wfL_take {n : Nat} {l : List Value} (h : wfL n l = true) (k : Nat) : wfL n (l.take k) = true := wfL_iff.2 fun v hv => wfL_iff.1 h v (List.mem_of_mem_take hv)
theorem wfL_drop {n : Nat} {l : List Value} (h : wfL n l = true) (k : Nat) : wfL n (l.drop k) = true := wfL_iff.2 fun v hv => wfL_iff.1 h v (List.mem_of_mem_drop hv)

theorem add_lit (g o j : Nat) : (⟨g, o, none⟩ : Addr).add j = ⟨g, o + j, none⟩ := by unfold Addr.add; split <;> simp_all

section
variable {B : World} {F : PH} {C : Ctx} {h : Hp} {ρ : Val} {w : World}
theorem SatX.cell (s : SatX B F C.G h ρ w) {nm j : Nat} {o : SObj} {l : List Value} {v : Value} (hg : h.get nm = some o) (hl : rdl o = some l) (hj : l[j]? = some v) :
    wfv h.next v = true ∧ w.cell? ⟨ρ.b nm, j, none⟩ = some (ren ρ v) := by
  obtain ⟨_, _, hw, obj, ho, hi⟩ := s.ob nm o hg
  have hjr := renL_get ρ hj
  have hlt : j < (renL ρ l).length := (List.getElem?_eq_some_iff.1 hjr).1
  cases o <;> simp only [rdl, Option.some.injEq, reduceCtorEq] at hl
  · subst hl
    simp only [SObj.is] at hi
    subst hi
    exact ⟨wfL_get hw hj, by rw [cell_of_row w _ j _ _ _ ho]; simpa using hjr⟩
  · subst hl
    obtain ⟨tail, rfl, _⟩ := hi
    exact ⟨wfL_get hw hj, by rw [cell_of_row w _ j _ _ _ ho, List.getElem?_toArray, List.getElem?_append_left hlt]; exact hjr⟩
  · subst hl
    obtain ⟨tail, fz, rfl⟩ := hi
    exact ⟨wfL_get hw hj, by rw [cell_of_row w _ j _ _ _ ho, List.getElem?_toArray, List.getElem?_append_left hlt]; exact hjr⟩
theorem SatX.rd (s : SatX B F C.G h ρ w) (hC : C.OK F) {nm : Nat} {l : List Value} (hl : rdAt C h nm = some l) {j : Nat} {v : Value} (hj : l[j]? = some v) :
    wfv h.next v = true ∧ w.cell? ⟨ρ.b nm, j, none⟩ = some (ren ρ v) := by
  unfold rdAt at hl
  cases hb : Nat.blt nm C.G.N with
  | true =>
    rw [hb] at hl
    have hlt : nm < C.G.N := by simpa [Nat.blt_eq] using hb
    obtain ⟨h1, h2⟩ := hC nm l hlt hl j v hj
    exact ⟨wfv_mono s.gn _ h1, by rw [s.gl nm hlt]; exact h2 ρ w s.gl s.fr⟩
  | false =>
    rw [hb] at hl
    simp only [cond_false] at hl
    split at hl
    · rename_i o ho; exact s.cell ho hl hj
    · cases hl

/-! ### loads -/
/-- Just so many. -/
def takeN : Nat → List Value → Option (List Value)
  | 0, _ => some []
  | _ + 1, [] => none
  | k + 1, v :: l => match takeN k l with
    | some m => some (v :: m)
    | none => none
theorem takeN_spec : ∀ {k : Nat} {l m : List Value}, takeN k l = some m → m = l.take k ∧ m.length = k
  | 0, l, m, h => by simp only [takeN, Option.some.injEq] at h; subst h; simp
  | k + 1, [], m, h => by simp [takeN] at h
  | k + 1, v :: l, m, h => by
    simp only [takeN] at h
    split at h
    · rename_i m' hm
      cases h
      obtain ⟨rfl, hl⟩ := takeN_spec hm
      exact ⟨by simp, by simp [hl]⟩
    · cases h
def xload (C : Ctx) (h : Hp) (t : TypeId) : Value → Option Value
  | .pointer (some ⟨nm, off, none⟩) => match rdAt C h nm with
    | some l => match isAggB C.P t with
      | some false => l[off]?
      | some true => match sizeB C.P t with
        | some z => match takeN z (l.drop off) with
          | some m => some (.agg ⟨m⟩)
          | none => none
        | none => none
      | none => none
    | none => none
  | _ => none
theorem run_xload (s : SatX B F C.G h ρ w) (hC : C.OK F) {t : TypeId} {x v : Value} (hx : xload C h t x = some v) :
    wfv h.next v = true ∧ (Instr.loadAt t (ren ρ x)).run C.P w = .ok (ren ρ v) w := by
  unfold xload at hx
  split at hx
  · rename_i nm off
    split at hx
    · rename_i l hl
      split at hx
      · rename_i ha
        obtain ⟨h1, h2⟩ := s.rd hC hl hx
        refine ⟨h1, ?_⟩
        simp only [ren, Instr.loadAt, Instr.sureAddr, Sem.run_bind, Sem.run_pure, Result.andThen_ok, loadVar, run_isAggB ha]
        simp [load, Sem.run, h2]
      · rename_i ha
        split at hx
        · rename_i z hz
          split at hx
          · rename_i m hm
            cases hx
            obtain ⟨rfl, hb⟩ := takeN_spec hm
            have hget : ∀ j v, ((l.drop off).take z)[j]? = some v → l[off + j]? = some v := fun j v hv => by
              have hj : j < ((l.drop off).take z).length := (List.getElem?_eq_some_iff.1 hv).1
              rw [hb] at hj
              rwa [List.getElem?_take_of_lt hj, List.getElem?_drop] at hv
            refine ⟨?_, ?_⟩
            · simp only [wfv, wfA]
              refine wfL_iff.2 fun v hv => ?_
              obtain ⟨j, hj⟩ := List.mem_iff_getElem?.1 hv
              exact (s.rd hC hl (hget j v hj)).1
            · have hc : ∀ j v, (renL ρ ((l.drop off).take z))[j]? = some v → w.cell? ((⟨ρ.b nm, off, none⟩ : Addr).add j) = some v := fun j v hv => by
                obtain ⟨u, hu, rfl⟩ := renL_get' ρ hv
                rw [add_lit]
                exact (s.rd hC hl (hget j u hu)).2
              have hrun := run_loadCells_list (P := C.P) w _ _ hc
              rw [renL_len, hb] at hrun
              simp only [ren, renA, Instr.loadAt, Instr.sureAddr, Sem.run_bind, Sem.run_pure, Result.andThen_ok, loadVar, run_isAggB ha, run_sizeB hz, if_true, hrun]
          · cases hx
        · cases hx
      · cases hx
    · cases hx
  · cases hx

/-! ### cells of a value -/
def vcells : Value → List Value
  | .agg ⟨l⟩ => l
  | v => [v]
theorem ren_cells (ρ : Val) (v : Value) : (ren ρ v).cells = (renL ρ (vcells v)).toArray := by
  cases v with
  | agg a => cases a; simp [vcells, ren, renA, Value.cells]
  | pointer a => cases a <;> simp [vcells, ren, renL, Value.cells]
  | slice a n c => rcases a with _ | ⟨_, _, _ | _⟩ <;> simp [vcells, ren, renL, Value.cells]
  | map a => cases a <;> simp [vcells, ren, renL, Value.cells]
  | _ => simp [vcells, ren, renL, Value.cells]
theorem wf_cells {n : Nat} {v : Value} (h : wfv n v = true) : wfL n (vcells v) = true := by
  cases v with
  | agg a => cases a; simpa [vcells, wfv, wfA] using h
  | _ => simp [vcells, wfL, h]
/-- values of one cell each -/
def ones (l : List Value) : Bool := l.all fun v => v.oneCell'
theorem one_ren (ρ : Val) (v : Value) : (ren ρ v).oneCell' = v.oneCell' := by
  cases v with
  | pointer a => cases a <;> simp [ren, Value.oneCell']
  | slice a n c => rcases a with _ | ⟨_, _, _ | _⟩ <;> simp [ren, Value.oneCell']
  | map a => cases a <;> simp [ren, Value.oneCell']
  | _ => simp [ren, Value.oneCell']
theorem ones_ren {ρ : Val} {l : List Value} (h : ones l = true) : ∀ v ∈ renL ρ l, v.oneCell' = true := fun v hv => by
  rw [renL_map, List.mem_map] at hv
  obtain ⟨u, hu, rfl⟩ := hv
  rw [one_ren]
  exact List.all_eq_true.1 h u hu

/-! ### stores -/
/-- The cells with others from a place on. -/
def setR : List Value → Nat → List Value → Option (List Value)
  | l, _, [] => some l
  | [], _, _ :: _ => none
  | _ :: l, 0, v :: vs => match setR l 0 vs with
    | some l' => some (v :: l')
    | none => none
  | x :: l, k + 1, vs => match setR l k vs with
    | some l' => some (x :: l')
    | none => none
theorem setR_spec : ∀ {l : List Value} {k : Nat} {vs l' : List Value}, setR l k vs = some l' → (vs = [] ∧ l' = l) ∨ (l' = l.take k ++ vs ++ l.drop (k + vs.length) ∧ k + vs.length ≤ l.length)
  | l, k, [], l', h => by simp only [setR, Option.some.injEq] at h; exact .inl ⟨rfl, h.symm⟩
  | [], k, _ :: _, l', h => by simp [setR] at h
  | x :: l, 0, v :: vs, l', h => by
    simp only [setR] at h
    split at h
    · rename_i l2 h2
      cases h
      refine .inr ?_
      rcases setR_spec h2 with ⟨rfl, rfl⟩ | ⟨rfl, hle⟩
      · simp
      · simp only [List.length_cons]
        refine ⟨by simp, by omega⟩
    · cases h
  | x :: l, k + 1, v :: vs, l', h => by
    simp only [setR] at h
    split at h
    · rename_i l2 h2
      cases h
      refine .inr ?_
      rcases setR_spec h2 with ⟨h0, _⟩ | ⟨rfl, hle⟩
      · cases h0
      · refine ⟨?_, by simp only [List.length_cons] at hle ⊢; omega⟩
        rw [show k + 1 + (v :: vs).length = k + (v :: vs).length + 1 by omega]
        simp
    · cases h
theorem wf_setR {n : Nat} {l vs l' : List Value} {k : Nat} (h : setR l k vs = some l') (h1 : wfL n l = true) (h2 : wfL n vs = true) : wfL n l' = true := by
  rcases setR_spec h with ⟨_, rfl⟩ | ⟨rfl, _⟩
  · exact h1
  · exact wfL_app.2 ⟨wfL_app.2 ⟨wfL_take h1 _, h2⟩, wfL_drop h1 _⟩
/-- The heap behind a store of these cells. -/
def xput (h : Hp) (nm off : Nat) (vs : List Value) : Option Hp :=
  bif ones vs then match h.get nm with
    | some (.cells l e) => match setR l off vs with
      | some l' => some (h.set nm (.cells l' e))
      | none => none
    | some (.grow l e z) => match setR l off vs with
      | some l' => some (h.set nm (.grow l' e z))
      | none => none
    | _ => none
  else none
theorem run_xput (s : SatX B F C.G h ρ w) {nm off : Nat} {vs : List Value} {h' : Hp} (hv : wfL h.next vs = true) (hx : xput h nm off vs = some h') :
    ∃ w', (storeCells ⟨ρ.b nm, off, none⟩ (renL ρ vs)).run C.P w = .ok () w' ∧ h'.next = h.next ∧ SatX B F C.G h' ρ w' := by
  unfold xput at hx
  cases ho : ones vs with
  | false => rw [ho] at hx; cases hx
  | true =>
    rw [ho] at hx
    simp only [cond_true] at hx
    have key : ∀ (l l' tail : List Value) (e : TypeId), setR l off vs = some l' → w.heap[ρ.b nm]? = some (.cells (renL ρ l ++ tail).toArray e (0, 0)) →
        ∃ w', (storeCells ⟨ρ.b nm, off, none⟩ (renL ρ vs)).run C.P w = .ok () w' ∧ w'.os = w.os ∧ w'.output = w.output ∧ w'.tape = w.tape ∧ w'.heap[ρ.b nm]? = some (.cells (renL ρ l' ++ tail).toArray e (0, 0)) ∧ (∀ b, b ≠ ρ.b nm → w'.heap[b]? = w.heap[b]?) := by
      intro l l' tail e hset hh
      rcases setR_spec hset with ⟨rfl, rfl⟩ | ⟨rfl, hle⟩
      · exact ⟨w, by simp [renL, storeCells], rfl, rfl, rfl, hh, fun _ _ => rfl⟩
      · have hst := run_storeCells_at C.P (ρ.b nm) off e (renL ρ vs) 0 _ w hh (by simp [renL_len]; omega) (ones_ren ho)
        refine ⟨_, hst, rfl, rfl, rfl, ?_, fun b hb => setRow_other w _ b _ hb⟩
        rw [setRow_heap w _ _ _ e _ hh]
        congr 3
        simp only [Nat.add_zero, renL_len]
        rw [List.take_append_of_le_length (by rw [renL_len]; omega), List.drop_append_of_le_length (by rw [renL_len]; omega)]
        simp [renL_app, renL_take, renL_drop]
    split at hx
    · rename_i l e hg
      split at hx
      · rename_i l' hset
        cases hx
        obtain ⟨_, hlt, hw, obj, hob, hi⟩ := s.ob nm _ hg
        simp only [SObj.is] at hi
        subst hi
        obtain ⟨w', h1, h2, h3, h4, h5, h6⟩ := key l l' [] e hset (by simpa using hob)
        exact ⟨w', h1, rfl, s.upd hg h2 h3 h4 h5 h6 (wf_setR hset hw hv) (by simp [SObj.is])⟩
      · cases hx
    · rename_i l e z hg
      split at hx
      · rename_i l' hset
        cases hx
        obtain ⟨_, hlt, hw, obj, hob, hi⟩ := s.ob nm _ hg
        obtain ⟨tail, rfl, ht1, ht2⟩ := hi
        obtain ⟨w', h1, h2, h3, h4, h5, h6⟩ := key l l' tail e hset hob
        refine ⟨w', h1, rfl, s.upd hg h2 h3 h4 h5 h6 (wf_setR hset hw hv) ⟨tail, rfl, ?_, ht2⟩⟩
        rw [← ht1]
        simp only [List.length_append, renL_len]
        rcases setR_spec hset with ⟨_, rfl⟩ | ⟨rfl, hle⟩
        · rfl
        · simp; omega
      · cases hx
    · cases hx
def xstore (C : Ctx) (h : Hp) (t : TypeId) (x v : Value) : Option Hp := match x with
  | .pointer (some ⟨nm, off, none⟩) => match sizeB C.P t with
    | some z => bif Nat.beq (vcells v).length z then xput h nm off (vcells v) else none
    | none => none
  | _ => none
theorem run_xstore (s : SatX B F C.G h ρ w) {t : TypeId} {x v : Value} {h' : Hp} (hv : wfv h.next v = true) (hx : xstore C h t x v = some h') :
    ∃ w', (Instr.storeAt t (ren ρ x) (ren ρ v)).run C.P w = .ok () w' ∧ h'.next = h.next ∧ SatX B F C.G h' ρ w' := by
  unfold xstore at hx
  split at hx
  · rename_i nm off
    split at hx
    · rename_i z hz
      cases hb : Nat.beq (vcells v).length z with
      | false => simp only [hb, cond_false] at hx; cases hx
      | true =>
        simp only [hb, cond_true] at hx
        rw [Nat.beq_eq] at hb
        obtain ⟨w', h1, h2, h3⟩ := run_xput (C := C) s (wf_cells hv) hx
        refine ⟨w', ?_, h2, h3⟩
        simp only [ren, Instr.storeAt, Instr.sureAddr, Sem.run_bind, Sem.run_pure, Result.andThen_ok, storeVar, run_sizeB hz, ren_cells]
        simp only [List.size_toArray, renL_len, hb, ne_eq, not_true, if_false, Sem.run_pure, Result.andThen_ok, h1]
    · cases hx
  · cases hx

/-! ### new variables -/
theorem run_xnew (s : SatX B F C.G h ρ w) {l : List Value} {e : TypeId} (hl : wfL h.next l = true) :
    ∃ ρ' w', w' = w.alloc (.cells (renL ρ l).toArray e) ∧ Ext h.next ρ ρ' ∧ ρ'.b h.next = w.heap.size ∧ SatX B F C.G (h.new (.cells l e)) ρ' w' :=
  ⟨_, _, rfl, Val.put_ext ρ _ _ 0, Val.put_b _ _ _ _, s.alloc hl 0⟩
end
end Go.Xs
