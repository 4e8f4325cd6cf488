/- More rules: literals of structs and slices, a slice against nil, stores into owned slices, bytes of strings, division, copies. Plain theorems, no condition. -/
import Derived.Test.YtlamhjlijoampaaGreatDoorSk6
set_option linter.unusedVariables false
set_option linter.unusedSimpArgs false
namespace Go.Sk
open Go.RowKit

/-! ### a struct's literal -/
def setL : List Value → Nat → Value → Option (List Value)
  | [], _, _ => none
  | _ :: l, 0, v => some (v :: l)
  | x :: l, k + 1, v => match setL l k v with
    | some l' => some (x :: l')
    | none => none
theorem setL_spec : ∀ {l l' : List Value} {k : Nat} {v : Value}, setL l k v = some l' → l' = l.set k v ∧ k < l.length
  | x :: l, l', 0, v, h => by cases h; simp
  | x :: l, l', k + 1, v, h => by
    simp only [setL] at h
    split at h
    · rename_i l2 h2
      cases h
      obtain ⟨rfl, hk⟩ := setL_spec h2
      simp [hk]
    · cases h
/-- The cells of a literal: each part of one cell. -/
def buildL (E : Env) (pl : List (Nat × Nat)) : List (Nat × Operand) → List Value → Option (List Value)
  | [], cells => some cells
  | (i, x) :: ps, cells => match pl[i]? with
    | some (off, 1) => match ev E x with
      | some v => match one1 v with
        | true => match setL cells off v with
          | some cells' => buildL E pl ps cells'
          | none => none
        | false => none
      | none => none
    | _ => none
/-- The cells of a slice's literal, its elements of one cell each, in their order. -/
def rowL (E : Env) : Nat → List (Nat × Operand) → Option (List Value)
  | _, [] => some []
  | k, (i, x) :: ps => match Nat.beq i k with
    | true => match ev E x with
      | some v => match one1 v with
        | true => match rowL E (k + 1) ps with
          | some l => some (v :: l)
          | none => none
        | false => none
      | none => none
    | false => none

section
variable {B : World} {P : Program} {n : Fm} {m : Bool} {l0 rest : List Oper} {E : Env} {H R : List HP} {Q : Exit → Act → World → Prop} (T : Tab P)
variable {d : Nat} {ty : TypeId} {pos : String} {af : Array Edge} {g : Option (Nat × Bool)} {x y : Operand} {t : TypeId}

theorem fold1 (v : Value) (h : one1 v = true) (off : Nat) (cells : Array Value) :
    v.cells.zipIdx.foldl (fun cs (c, j) => cs.setIfInBounds (off + j) c) cells = cells.setIfInBounds off v := by
  rw [one1_cells h]; simp
theorem fold1' (v : Value) (h : one1 v = true) (off : Nat) (cells : Array Value) :
    Array.foldl (fun cs x => cs.setIfInBounds (off + x.snd) x.fst) cells v.cells.zipIdx = cells.setIfInBounds off v := fold1 v h off cells
theorem buildL_fill {pl : List (Nat × Nat)} {a : Act} (hA : Agr n E a) :
    ∀ (ps : List (Nat × Operand)) (cells l : List Value), buildL E pl ps cells = some l →
      Instr.fill (fun i => pl[i]?) cells.toArray (ps.map fun (i, x) => (i, a.eval x)) = some l.toArray
  | [], cells, l, h => by cases h; rfl
  | (i, x) :: ps, cells, l, h => by
    simp only [buildL] at h
    split at h
    · rename_i off hp
      split at h
      · rename_i v hv
        split at h
        · rename_i h1
          split at h
          · rename_i cells' hs
            obtain ⟨rfl, hk⟩ := setL_spec hs
            have ih := buildL_fill hA ps _ l h
            simp only [List.map_cons, Instr.fill, hp, hA.ev hv]
            have hc : v.cells.size = 1 := by rw [one1_cells h1]; rfl
            rw [if_neg (by simp [hc]; omega)]
            rw [fold1' v h1]
            simpa using ih
          · cases h
        · cases h
      · cases h
    · cases h
theorem y_build {parts : List (Nat × Operand)} {pl : List (Nat × Nat)} {cells l : List Value} (hz : al T.zers t = some (.agg cells.toArray)) (hp : al T.plcs t = some pl) (hl : buildL E pl parts cells = some l) :
    Yld B P n E H (.build t parts.toArray) ty (.agg l.toArray) :=
  y_run fun o a w ho _ hA _ => by
    have hz' := T.zer hz
    have hp' := T.plc hp
    unfold zerB at hz'
    unfold plB at hp'
    cases hi : P.info? t with
    | none => simp [hi] at hz'
    | some it =>
      simp only [hi, Option.bind_some] at hz'
      split at hp'
      · rename_i fs hu
        have hb : P.built t (parts.map fun (i, x) => (i, a.eval x)) = some l.toArray := by
          unfold Program.built
          simp only [hi, hu, hz', hp', Value.cells]
          have := buildL_fill hA parts cells l hl
          simpa using this
        unfold execOp
        have hr := run_build w t (parts.toArray.map fun (i, x) => (i, a.eval x)) l.toArray (by simpa using hb)
        simp only [ho, Sem.run_bind, hr, Result.andThen_ok, Sem.run_pure]
      · cases hp'

/-! ### a slice's literal -/
theorem rowL_spec {a : Act} (hA : Agr n E a) : ∀ (ps : List (Nat × Operand)) (k : Nat) (l : List Value), rowL E k ps = some l →
    l.length = ps.length ∧ (∀ v ∈ l, one1 v = true) ∧ ∀ (cells : Array Value), k + ps.length ≤ cells.size → Instr.fill (fun i => some (i * 1, 1)) cells (ps.map fun (i, x) => (i, a.eval x)) = some (cells.toList.take k ++ l ++ cells.toList.drop (k + ps.length)).toArray
  | [], k, l, h => by
    cases h
    exact ⟨rfl, fun v hv => (by cases hv), fun cells _ => (by simp [Instr.fill])⟩
  | (i, x) :: ps, k, l, h => by
    simp only [rowL] at h
    split at h
    · rename_i hb
      rw [Nat.beq_eq] at hb
      subst hb
      split at h
      · rename_i v hv
        split at h
        · rename_i h1
          split at h
          · rename_i l' hl'
            cases h
            obtain ⟨e1, e2, e3⟩ := rowL_spec hA ps (i + 1) l' hl'
            refine ⟨by simp [e1], fun u hu => ?_, fun cells hc => ?_⟩
            · rcases List.mem_cons.1 hu with rfl | hu
              · exact h1
              · exact e2 u hu
            · have hc1 : v.cells.size = 1 := by rw [one1_cells h1]; rfl
              simp only [List.map_cons, Instr.fill, hA.ev hv, List.length_cons] at hc ⊢
              rw [if_neg (by simp [hc1]; omega), fold1' v h1, e3 _ (by simp; omega)]
              congr 1
              simp only [Nat.mul_one, Array.toList_setIfInBounds]
              rw [List.drop_set_of_lt (by omega), List.take_succ_eq_append_getElem (by simp; omega), List.take_set_of_le (Nat.le_refl _), List.getElem_set_self]
              simp [Nat.add_assoc, Nat.add_comm 1]
          · cases h
        · cases h
      · cases h
    · cases h
theorem run_bs {w : World} {t e z bb : Nat} {z0 : Value} {vs : List (Nat × Value)} {l : List Value} (ht : slcB P t = some (e, z, bb)) (hz : zerB P e = some z0) (h1 : z = 1) (hl : l.length ≤ 16777216)
    (hf : ∀ cells : Array Value, cells.size = l.length → Instr.fill (fun i => some (i * 1, 1)) cells vs = some l.toArray) :
    (Instr.buildSlice t l.length vs.toArray).run P w = .ok (.slice (some ⟨w.heap.size, 0, none⟩) l.length l.length) (w.alloc (.cells l.toArray e)) := by
  obtain ⟨hu, i, hi, hsz, _⟩ := slcB_spec ht
  subst h1
  have hs : (sizeOf e).run P w = .ok 1 w := run_sizeB (by simp [sizeB, hi, hsz])
  have hz1 := zerB_spec (P := P) (w := w) hz
  have hbig : ¬ (l.length * 1 > 2 ^ 24) := by omega
  simp only [Instr.buildSlice, Sem.run_bind, run_underlying hu, Result.andThen_ok, hs, if_neg hbig, Sem.run_pure]
  by_cases h0 : l.length * 1 = 0
  · simp only [h0, if_true, Sem.run_pure, Result.andThen_ok]
    have := hf (Array.map (fun x => (#[] : Array Value)[x % (#[] : Array Value).size]!) (Array.range 0)) (by simp; omega)
    have hp : (pure #[] : Sem (Array Value)).run P w = .ok #[] w := rfl
    simp only [Sem.run_bind, hp, Result.andThen_ok]
    rw [this]
    simp only [newRow, Sem.run_bind]
    rfl
  · simp only [h0, if_false, Sem.run_bind, hz1, Result.andThen_ok, Sem.run_pure]
    have := hf (Array.map (fun x => z0.cells[x % z0.cells.size]!) (Array.range (l.length * 1))) (by simp)
    simp only [this, newRow, Sem.run_bind]
    rfl
/-- A slice's literal: an owned slice. -/
theorem RT.bs {e bb k : Nat} {z0 : Value} {parts : List (Nat × Operand)} {l : List Value} (hl : rowL E 0 parts = some l) (hk : l.length = k) (ht : al T.slcs t = some (e, 1, bb)) (hz : al T.zers e = some z0) (hlen : Nat.ble k 16777216 = true) (hw : wt l0 E g = some true) (hd : Nat.blt d n = true)
    (kt : ∀ a c, k ≤ c → RT B P n true l0 rest ((d, .slice a k c) :: E) (Own a c e 1 k l :: H) Q) : RT B P n true l0 (⟨some d, .buildSlice t k parts.toArray, ty, pos, af, g⟩ :: rest) E H Q :=
  RT.eff hw fun o aa w K ho _ hdd hA hS hK => by
    subst hk
    have hle : l.length ≤ 16777216 := by simpa [Nat.ble_eq] using hlen
    obtain ⟨e1, _, e3⟩ := rowL_spec hA parts 0 l hl
    have hrun := run_bs (P := P) (w := w) (vs := parts.map fun (i, x) => (i, aa.eval x)) (l := l) (T.slc ht) (T.zer hz) rfl hle (fun cells hc => by
      rw [e3 cells (by omega)]
      simp only [List.take_zero, List.nil_append, Nat.zero_add]
      rw [List.drop_eq_nil_of_le (by simp; omega), List.append_nil])
    unfold Oper.wp execOp
    have hm : (parts.toArray.map fun (i, x) => (i, aa.eval x)) = (parts.map fun (i, x) => (i, aa.eval x)).toArray := by simp
    simp only [ho, Sem.run_bind]
    rw [hm, hrun]
    simp only [Result.andThen_ok, Sem.run_pure, Oper.upon, hdd]
    refine hK _ _ (kt _ _ (Nat.le_refl _) _ _ (hA.put (by simpa [Nat.blt_eq] using hd) _) (hS.new rfl rfl rfl rfl fun h _ hb => ?_))
    exact ⟨by simp, Nat.le_refl _, by unfold maxLen; omega, .inr ⟨_, _, rfl, hb, by simp, by simp⟩⟩
theorem RT.build {parts : List (Nat × Operand)} {pl : List (Nat × Nat)} {cells l : List Value} (hz : al T.zers t = some (.agg cells.toArray)) (hp : al T.plcs t = some pl) (hl : buildL E pl parts cells = some l) (hw : wt l0 E g = some true) (hd : Nat.blt d n = true)
    (k : RT B P n m l0 rest ((d, .agg l.toArray) :: E) H Q) : RT B P n m l0 (⟨some d, .build t parts.toArray, ty, pos, af, g⟩ :: rest) E H Q :=
  RT.y hw (by simpa [Nat.blt_eq] using hd) (y_build T hz hp hl) k

/-! ### a slice against nil -/
theorem knd_slice {t : Nat} (h : knd P t = some 4) : ∃ e, P.underlying t = some (.slice e) := by
  unfold knd at h
  split at h
  · split at h <;> simp at h
  all_goals first | (rename_i e hu; exact ⟨e, hu⟩) | (simp at h; done) | cases h
theorem run_snil {w : World} {t e : TypeId} (hu : P.underlying t = some (.slice e)) (a : Option Addr) (k c : Nat) : (Op.equal t (.slice a k c) (.slice none 0 0)).run P w = .ok a.isNone w :=
  run_eqv fun d => by
    cases a <;> (simp only [Op.equalIn, Sem.run_bind, run_underlying hu, Result.andThen_ok]; rfl)
theorem y_snil {t' : TypeId} {a : Option Addr} {k c : Nat} (ht : al T.kinds t = some 4) (hx : ev E x = some (.slice a k c)) (hy : ev E y = some (.slice none 0 0)) :
    Yld B P n E H (.binOp .eql t x y t') ty (.bool a.isNone) :=
  y_run fun o aa w ho _ hA _ => by
    obtain ⟨e, hu⟩ := knd_slice (T.kind ht)
    have h1 : binOp .eql t (.slice a k c) (.slice none 0 0) = (do pure (.bool (← Op.equal t (.slice a k c) (.slice none 0 0)))) := rfl
    have h2 : eqGuard .eql t x y (.slice a k c) (.slice none 0 0) = pure () := rfl
    unfold execOp
    simp only [ho, hA.ev hx, hA.ev hy, h1, h2, Sem.run_bind, Sem.run_pure, Result.andThen_ok, run_snil hu]
theorem RT.snil {t' : TypeId} {a : Option Addr} {k c : Nat} (hx : ev E x = some (.slice a k c)) (hy : ev E y = some (.slice none 0 0)) (ht : al T.kinds t = some 4) (hw : wt l0 E g = some true) (hd : Nat.blt d n = true)
    (k1 : a = none → RT B P n m l0 rest ((d, .bool true) :: E) H Q) (k2 : a.isSome = true → RT B P n m l0 rest ((d, .bool false) :: E) H Q) : RT B P n m l0 (⟨some d, .binOp .eql t x y t', ty, pos, af, g⟩ :: rest) E H Q := by
  refine RT.y hw (by simpa [Nat.blt_eq] using hd) (y_snil T ht hx hy) ?_
  cases a with
  | none => exact k1 rfl
  | some ad => exact k2 rfl

/-! ### a store into an owned slice -/
theorem RT.sto {b : Option Addr} {c k e j : Nat} {xs : List Value} {v : Value} {H' : List HP} (hx : ev E x = some (.pointer (some ((adr b).add j)))) (hy : ev E y = some v) (h1 : one1 v = true)
    (hr : Rep H (Own b c e 1 k xs) (Own b c e 1 k (xs.set j v)) H') (hj : j < xs.length) (ht : al T.szs t = some (1, false)) (hw : wt l0 E g = some true)
    (kt : RT B P n true l0 rest E H' Q) : RT B P n true l0 (⟨none, .store t x y, ty, pos, af, g⟩ :: rest) E H Q :=
  RT.eff hw fun o a w K ho _ hd hA hS hK => by
    obtain ⟨R, s1, s2⟩ := hr.sel
    obtain ⟨hl, hkc, hcm⟩ := Own.facts hS s1
    rcases Own.to_row hS s1 with ⟨_, _, _, rfl⟩ | ⟨gb, cur, rfl, hg, hbg, hcs, htk⟩
    · simp at hj
    · have hcur : cur = cur.toList.toArray := by simp
      have hg' : w.heap[gb]? = some (.cells cur.toList.toArray e (0, 0)) := by rw [← hcur]; exact hg
      have hjc : j < cur.toList.length := by
        rw [← htk] at hj
        have := List.length_take_le (k * 1) cur.toList
        rw [List.length_take] at hj
        omega
      have hs1 := run_store1 (P := P) h1 hg' hjc
      unfold Oper.wp execOp
      have hsz := (T.sz ht).1
      simp only [ho, hA.ev hx, hA.ev hy, Instr.storeAt, Instr.sureAddr, Sem.run_bind, Sem.run_pure, Result.andThen_ok, storeVar, run_sizeB hsz, one1_cells h1]
      simp only [List.size_toArray, List.length_cons, List.length_nil, Nat.zero_add, ne_eq, not_true, if_false, Sem.run_pure, Result.andThen_ok, storeCells, addr_add0, adr, Option.getD_some, addr_add, hs1, Sem.run_bind]
      simp only [Oper.upon, hd, Act.put]
      refine hK _ _ (kt _ _ hA ?_)
      refine hS.upd (b := gb) (o' := .cells (cur.toList.set j v).toArray e (0, 0)) hr (fun h hh => ?_) (fun h h' hh hne hb => ?_) rfl rfl rfl (setCell_size _ _ _) (setCell_heap hg') (fun z hz => setCell_ne _ _ _ _ hz)
      · obtain ⟨_, _, _, hp⟩ := hh
        rcases hp with ⟨h, _⟩ | ⟨g', cur', h, hgg, _⟩
        · cases h
        · cases h; exact ⟨_, hgg⟩
      · refine ⟨by simp [hl], hkc, hcm, .inr ⟨gb, _, rfl, hb, by simpa using hcs, ?_⟩⟩
        simp only
        rw [List.take_set, htk]
/-! ### division, a byte of a text -/
theorem RT.quo {t' : TypeId} {k : IntKind} {i j r : Int} (hx : ev E x = some (.int k i)) (hy : ev E y = some (.int k j)) (h0 : j ≠ 0) (hr : k.wrap (i.tdiv j) = r) (hw : wt l0 E g = some true) (hd : Nat.blt d n = true)
    (kt : RT B P n m l0 rest ((d, .int k r) :: E) H Q) : RT B P n m l0 (⟨some d, .binOp .quo t x y t', ty, pos, af, g⟩ :: rest) E H Q :=
  RT.y hw (by simpa [Nat.blt_eq] using hd) (y_quo hx hy h0 hr) kt
theorem RT.rem {t' : TypeId} {k : IntKind} {i j r : Int} (hx : ev E x = some (.int k i)) (hy : ev E y = some (.int k j)) (h0 : j ≠ 0) (hr : i.tmod j = r) (hw : wt l0 E g = some true) (hd : Nat.blt d n = true)
    (kt : RT B P n m l0 rest ((d, .int k r) :: E) H Q) : RT B P n m l0 (⟨some d, .binOp .rem t x y t', ty, pos, af, g⟩ :: rest) E H Q :=
  RT.y hw (by simpa [Nat.blt_eq] using hd) (y_rem hx hy h0 hr) kt
theorem RT.shr {t' : TypeId} {k k' : IntKind} {i j r : Int} (hx : ev E x = some (.int k i)) (hy : ev E y = some (.int k' j)) (h0 : 0 ≤ j) (hr : i.fdiv (2 ^ (min j.toNat k.bits)) = r) (hw : wt l0 E g = some true) (hd : Nat.blt d n = true)
    (kt : RT B P n m l0 rest ((d, .int k r) :: E) H Q) : RT B P n m l0 (⟨some d, .binOp .shr t x y t', ty, pos, af, g⟩ :: rest) E H Q :=
  RT.y hw (by simpa [Nat.blt_eq] using hd) (y_shr hx hy h0 hr) kt
theorem RT.neg {ty' : TypeId} {k : IntKind} {i r : Int} (hx : ev E x = some (.int k i)) (hr : k.wrap (0 - i) = r) (hw : wt l0 E g = some true) (hd : Nat.blt d n = true)
    (kt : RT B P n m l0 rest ((d, .int k r) :: E) H Q) : RT B P n m l0 (⟨some d, .unOp .neg ty' x, ty, pos, af, g⟩ :: rest) E H Q :=
  RT.y hw (by simpa [Nat.blt_eq] using hd) (y_neg hx hr) kt
theorem y_ixs {s : ByteArray} {k : IntKind} {i : Int} {b : UInt8} (ht : al T.kinds t = some 2) (hx : ev E x = some (.string s)) (hy : ev E y = some (.int k i)) (h0 : 0 ≤ i) (hb : s.data.toList[i.toNat]? = some b) :
    Yld B P n E H (.index t x y) ty (.int .u8 b.toNat) :=
  y_run fun o aa w ho _ hA _ => by
    have hu : P.underlying t = some .string := by
      have := T.kind ht
      unfold knd at this
      split at this
      · split at this <;> simp at this
      all_goals first | (rename_i hu; exact hu) | (simp at this; done) | cases this
    have hb' : s[i.toNat]? = some b := by
      have hlt : i.toNat < s.size := by have := (List.getElem?_eq_some_iff.1 hb).1; simpa using this
      have hval : s[i.toNat] = b := by have := (List.getElem?_eq_some_iff.1 hb).2; rw [← this]; rfl
      rw [getElem?_pos s i.toNat hlt, hval]
    unfold execOp
    simp only [ho, hA.ev hx, hA.ev hy, Instr.index, asIntOf, Sem.run_bind, Sem.run_pure, Result.andThen_ok, run_underlying hu, h0, if_true, hb']
end
end Go.Sk
