/- Ranges over texts, bytes as texts, conversions of slices, what the base world holds. Plain theorems, no condition. -/
import Derived.Test.YtbpelgbblpeojabSk17
import Derived.Lib.OthersKept
import Derived.Laws.BytesString
import Derived.Laws.IdiomStrings
set_option linter.unusedVariables false
set_option linter.unusedSimpArgs false
namespace Go.Sk
open Go.RowKit
/-- A cell of the base world. -/
theorem Sat.bcell {B : World} {H : List HP} {w : World} (s : Sat B H w) {b o : Nat} {v : Value} (h : B.cell? ⟨b, o, none⟩ = some v) : w.cell? ⟨b, o, none⟩ = some v := by
  have hlt : b < B.heap.size := by
    rcases Nat.lt_or_ge b B.heap.size with h' | h'
    · exact h'
    · simp [World.cell?, Array.getElem?_eq_none h'] at h
  rw [← h]
  simp only [World.cell?, s.base b hlt]
/-- The iterator of a text in block b. -/
def It (b : Nat) (s : ByteArray) (p : Nat) : HP := fun h => h b = some (.stringIter s p)
theorem It.at_ {B : World} {H R : List HP} {w : World} {b p : Nat} {s : ByteArray} (hS : Sat B H w) (hs : Sel H (It b s p) R) : w.heap[b]? = some (.stringIter s p) := by
  obtain ⟨h, a, hp⟩ := (hS.sel hs).head
  exact (a b _ hp).1
section
variable {B : World} {P : Program} {n : Fm} {m : Bool} {l0 rest : List Oper} {E : Env} {H R : List HP} {Q : Exit → Act → World → Prop} (T : Tab P)
variable {d : Nat} {ty : TypeId} {pos : String} {af : Array Edge} {g : Option (Nat × Bool)} {x y y' : Operand} {t t' : TypeId}
theorem RT.rng {s : ByteArray} (hx : ev E x = some (.string s)) (ht : al T.kinds t = some 2) (hw : wt l0 E g = some true) (hd : Nat.blt d n = true)
    (kk : ∀ b, RT B P n true l0 rest ((d, .pointer (some ⟨b, 0, none⟩)) :: E) (It b s 0 :: H) Q) : RT B P n true l0 (⟨some d, .range t x, ty, pos, af, g⟩ :: rest) E H Q :=
  RT.eff hw fun o aa w K ho hty hdd hA hS hK => by
    have hrun := run_range_string (P := P) w t s (knd_string (T.kind ht))
    unfold Oper.wp execOp
    simp only [ho, hA.ev hx, Sem.run_bind, hrun, Result.andThen_ok, Sem.run_pure]
    simp only [Oper.upon, hdd]
    exact hK _ _ (kk w.heap.size _ _ (hA.put (by simpa [Nat.blt_eq] using hd) _) (hS.new rfl rfl rfl rfl fun h _ hb => hb))
theorem RT.nxt {b p : Nat} {s : ByteArray} {H' : List HP} (hx : ev E x = some (.pointer (some ⟨b, 0, none⟩))) (hr : Rep H (It b s p) (It b s (p + (Utf8.decode s p).2)) H') (hw : wt l0 E g = some true) (hd : Nat.blt d n = true)
    (k1 : p < s.size → RT B P n true l0 rest ((d, .tuple #[.bool true, .int .i64 p, .int .i32 (Utf8.decode s p).1]) :: E) H' Q)
    (k2 : ¬ p < s.size → RT B P n true l0 rest ((d, .tuple #[.bool false]) :: E) H Q) : RT B P n true l0 (⟨some d, .next x true, ty, pos, af, g⟩ :: rest) E H Q :=
  RT.eff hw fun o aa w K ho hty hdd hA hS hK => by
    obtain ⟨Rr, s1, s2⟩ := hr.sel
    have hk := It.at_ hS s1
    unfold Oper.wp execOp
    by_cases h : p < s.size
    · have hrun := Lib.run_next_any_at (P := P) w b s p o.type hk h
      simp only [ho, hA.ev hx, Sem.run_bind, hrun, Result.andThen_ok, Sem.run_pure]
      simp only [Oper.upon, hdd]
      refine hK _ _ (k1 h _ _ (hA.put (by simpa [Nat.blt_eq] using hd) _) (hS.upd (b := b) hr (fun h hh => ⟨_, hh⟩) (fun _ _ _ _ hh => hh) rfl rfl rfl (Lib.iterAt_size _ _ _ _) (Lib.iterAt_heap w b s p _ hk) (fun x hx => Lib.iterAt_other _ _ _ _ _ hx)))
    · have hrun := Lib.run_next_end_at (P := P) w b s p o.type hk h
      simp only [ho, hA.ev hx, Sem.run_bind, hrun, Result.andThen_ok, Sem.run_pure]
      simp only [Oper.upon, hdd]
      exact hK _ _ (k2 h _ _ (hA.put (by simpa [Nat.blt_eq] using hd) _) hS)
/-- string(x) of bytes. -/
theorem RT.convBS {a : Option Addr} {k c e : Nat} {l : List Int} (hx : ev E x = some (.slice a k c)) (hr : Rd B H a k c 1 (ints .u8 l)) (hb : Byt l) (hs : P.underlying t = some (.slice e)) (he : P.underlying e = some (.int .u8)) (ht : al T.kinds t' = some 2) (hw : wt l0 E g = some true) (hd : Nat.blt d n = true)
    (kt : RT B P n m l0 rest ((d, .string (str l)) :: E) H Q) : RT B P n m l0 (⟨some d, .convert t t' x, ty, pos, af, g⟩ :: rest) E H Q :=
  RT.y hw (by simpa [Nat.blt_eq] using hd) (y_run fun o aa w ho _ hA hS => by
    have hd2 := knd_string (T.kind ht)
    have hlen : l.length = k := by have := hr.1; rw [ints_len] at this; omega
    have hrun : (convert t t' (.slice a k c)).run P w = .ok (.string (str l)) w := by
      rcases Nat.eq_zero_or_pos k with h0 | h0
      · subst h0
        obtain rfl : l = [] := List.eq_nil_of_length_eq_zero hlen
        rw [run_convert_bytes_string w t t' e a 0 c hs he hd2]
        cases a with
        | none => rfl
        | some ad =>
          have := run_bytesToString (P := P) w ad 0 c [] (by simpa using run_loadCells_list (P := P) w ad [] (by simp))
          exact this
      · obtain ⟨ad, rfl, hcells⟩ := hr.cells hS h0
        have := run_convert_bytes_back (P := P) w t t' e ad c (l.map b8) hs he hd2 (fun j hj => by
          rw [List.length_map] at hj
          have h1 := hcells j (.int .u8 l[j]) (by simp [ints, hj])
          rw [h1, List.getElem_map, b8_nat (hb _ (List.getElem_mem hj))])
        rw [List.length_map, hlen] at this
        exact this
    unfold execOp
    simp only [ho, hA.ev hx, Sem.run_bind, hrun, Result.andThen_ok]
    rfl) kt
/-- A row that is only read, whatever of it is frozen. -/
def Ro (a : Option Addr) (xs : List Value) : HP := fun h => ∃ g cur e fz, a = some ⟨g, 0, none⟩ ∧ h g = some (.cells cur e fz) ∧ cur.toList.take xs.length = xs
theorem Ro.rd {a : Option Addr} {c k : Nat} {xs : List Value} (hs : Sel H (Ro a xs) R) (hl : xs.length = k) (hc : k ≤ c) : Rd B H a k c 1 xs := by
  refine ⟨by omega, hc, fun w hS => ?_⟩
  obtain ⟨h, hh, g, cur, e, fz, rfl, hg, ht⟩ := (hS.sel hs).head
  refine ⟨fun _ => rfl, fun j u hj => ?_⟩
  rw [adr, Option.getD_some, addr_add, cell_of_row w g j cur e fz (hh g _ hg).1]
  rw [← ht, List.getElem?_take] at hj
  split at hj
  · simpa using hj
  · cases hj
theorem freeze_at {w : World} {g o j : Nat} {cur : Array Value} {e : TypeId} {fz : Nat × Nat} (hg : w.heap[g]? = some (.cells cur e fz)) : ∃ fz', (w.freeze ⟨g, o, none⟩ j).heap[g]? = some (.cells cur e fz') := by
  unfold World.freeze
  split
  · exact ⟨fz, hg⟩
  · simp only [Array.getElem?_modify, if_true, hg, Option.map_some]
    exact ⟨_, rfl⟩
theorem freeze_other {w : World} {g o j x : Nat} (hx : x ≠ g) : (w.freeze ⟨g, o, none⟩ j).heap[x]? = w.heap[x]? := by
  unfold World.freeze
  split
  · rfl
  · simp only [Array.getElem?_modify]
    rw [if_neg (fun h => hx h.symm)]
theorem freeze_size {w : World} {p : Addr} {j : Nat} : (w.freeze p j).heap.size = w.heap.size := by
  unfold World.freeze
  split
  · rfl
  · simp
theorem freeze_rest {w : World} {p : Addr} {j : Nat} : (w.freeze p j).os = w.os ∧ (w.freeze p j).output = w.output ∧ (w.freeze p j).tape = w.tape := by
  unfold World.freeze
  split <;> exact ⟨rfl, rfl, rfl⟩
/-- []byte("..") of a constant: the new row is marked, and only read from then on. -/
theorem RT.mark {a : Option Addr} {k c e : Nat} {xs : List Value} {H' : List HP} (hx : ev E x = some (.slice a k c)) (hr : Rep H (Own a c e 1 k xs) (Ro a xs) H') (h0 : 0 < k) (hs : P.underlying t = some (.slice e)) (he : P.underlying e = some (.int .u8)) (hw : wt l0 E g = some true) (hd : Nat.blt d n = true)
    (kt : RT B P n true l0 rest ((d, .slice a k c) :: E) H' Q) : RT B P n true l0 (⟨some d, .convert t t x, ty, pos, af, g⟩ :: rest) E H Q :=
  RT.eff hw fun o aa w K ho hty hdd hA hS hK => by
    obtain ⟨Rr, s1, s2⟩ := hr.sel
    obtain ⟨hxl, hkc, hcm⟩ := Own.facts hS s1
    rcases Own.to_row hS s1 with ⟨rfl, rfl, h1, h2⟩ | ⟨g0, cur, rfl, hg, _, hcs, htk⟩
    · omega
    · have hrun : (convert t t (.slice (some ⟨g0, 0, none⟩) k c)).run P w = .ok (.slice (some ⟨g0, 0, none⟩) k c) (w.freeze ⟨g0, cur.size, none⟩ 1) := by
        simp [convert, run_underlying hs, run_underlying he, markStringish, World.shape?, hg]
      obtain ⟨fz', hfz⟩ := freeze_at (o := cur.size) (j := 1) hg
      obtain ⟨r1, r2, r3⟩ := freeze_rest (w := w) (p := ⟨g0, cur.size, none⟩) (j := 1)
      have hS' : Sat B H' (w.freeze ⟨g0, cur.size, none⟩ 1) := hS.upd (b := g0) hr (fun h hh => by
        obtain ⟨_, _, _, hp⟩ := hh
        rcases hp with ⟨h, _⟩ | ⟨g', cur, h, hgg, _⟩
        · cases h
        · cases h; exact ⟨_, hgg⟩) (fun h h' _ _ hb => ⟨g0, cur, e, fz', rfl, hb, by rw [hxl]; exact htk⟩) r1 r2 r3 freeze_size hfz (fun x hx => freeze_other hx)
      unfold Oper.wp execOp
      simp only [ho, hA.ev hx, Sem.run_bind, hrun, Result.andThen_ok, Sem.run_pure]
      simp only [Oper.upon, hdd]
      exact hK _ _ (kt _ _ (hA.put (by simpa [Nat.blt_eq] using hd) _) hS')
end
end Go.Sk
