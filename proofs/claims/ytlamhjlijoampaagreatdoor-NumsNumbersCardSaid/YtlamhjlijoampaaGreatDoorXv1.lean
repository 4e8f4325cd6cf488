/- Texts by reckoning: compared, joined, cut; bytes as texts. Plain theorems, no condition. -/
import Derived.Test.YtlamhjlijoampaaGreatDoorXs8
import Derived.Laws.IdiomStrings
import Derived.Laws.Strings
set_option linter.unusedVariables false
set_option linter.unusedSimpArgs false
namespace Go.Xs
open Go.RowKit

def eqU : List UInt8 → List UInt8 → Bool
  | [], [] => true
  | a :: l, b :: m => bif Nat.beq a.toNat b.toNat then eqU l m else false
  | _, _ => false
theorem eqU_ok : ∀ {l m : List UInt8}, eqU l m = true → l = m
  | [], [], _ => rfl
  | a :: l, b :: m, h => by
    simp only [eqU] at h
    cases hb : Nat.beq a.toNat b.toNat with
    | false => rw [hb] at h; cases h
    | true =>
      rw [hb] at h
      rw [Nat.beq_eq] at hb
      rw [UInt8.toNat_inj.1 hb, eqU_ok h]
  | [], _ :: _, h => by simp [eqU] at h
  | _ :: _, [], h => by simp [eqU] at h
theorem eqU_self : ∀ l : List UInt8, eqU l l = true
  | [] => rfl
  | a :: l => by simp only [eqU, Nat.beq_refl, cond_true, eqU_self l]
theorem eqU_beq (l m : List UInt8) : (l == m) = eqU l m := by
  cases h : eqU l m with
  | true => rw [eqU_ok h]; simp
  | false =>
    cases h' : l == m with
    | false => rfl
    | true => rw [eq_of_beq h', eqU_self] at h; cases h
def ltU : List UInt8 → List UInt8 → Bool
  | _, [] => false
  | [], _ :: _ => true
  | a :: x, b :: y => bif Nat.blt a.toNat b.toNat then true else bif Nat.beq a.toNat b.toNat then ltU x y else false
theorem ltU_less : ∀ (l m : List UInt8), Op.bytesLess l m = ltU l m
  | l, [] => by cases l <;> simp [Op.bytesLess, ltU]
  | [], _ :: _ => by simp [Op.bytesLess, ltU]
  | a :: x, b :: y => by
    simp only [Op.bytesLess, ltU, ltU_less x y]
    by_cases h : a < b
    · have : Nat.blt a.toNat b.toNat = true := by simpa [Nat.blt_eq] using UInt8.lt_iff_toNat_lt.1 h
      simp [h, this]
    · have : Nat.blt a.toNat b.toNat = false := by
        rw [← Bool.not_eq_true, Nat.blt_eq]
        exact fun e => h (UInt8.lt_iff_toNat_lt.2 e)
      simp only [h, this, decide_false, Bool.false_or, cond_false]
      by_cases e : a = b
      · subst e; simp
      · have : Nat.beq a.toNat b.toNat = false := by
          rw [← Bool.not_eq_true, Nat.beq_eq]
          exact fun e' => e (UInt8.toNat_inj.1 e')
        simp [this, e]
def strOp (op : BinOp) (x y : List UInt8) : Option Value := match op with
  | .eql => some (.bool (eqU x y))
  | .neq => some (.bool (!eqU x y))
  | .lss => some (.bool (ltU x y))
  | .leq => some (.bool (ltU x y || eqU x y))
  | .gtr => some (.bool (!(ltU x y || eqU x y)))
  | .geq => some (.bool (!ltU x y))
  | .add => bif Nat.ble (x.length + y.length) 9223372036854775807 then some (.string ⟨⟨x ++ y⟩⟩) else none
  | _ => none
theorem strOp_ok {P : Program} {w : World} {op : BinOp} {x y : List UInt8} {v : Value} (h : strOp op x y = some v) : (Op.stringOp op ⟨⟨x⟩⟩ ⟨⟨y⟩⟩).run P w = .ok v w ∧ wfv 0 v = true ∧ ∀ ρ, ren ρ v = v := by
  unfold strOp at h
  unfold Op.stringOp
  simp only [ByteArray.toList_eq, eqU_beq, ltU_less]
  cases op <;> simp only [Option.some.injEq, reduceCtorEq] at h <;> try (subst h; exact ⟨rfl, rfl, fun _ => by simp [ren]⟩)
  cases hb : Nat.ble (x.length + y.length) 9223372036854775807 with
  | false => rw [hb] at h; cases h
  | true =>
    rw [hb] at h
    simp only [cond_true, Option.some.injEq] at h
    subst h
    rw [Nat.ble_eq] at hb
    have hsz : ∀ l : List UInt8, (⟨⟨l⟩⟩ : ByteArray).size = l.length := fun l => rfl
    have hmax : ¬ ((((⟨⟨x⟩⟩ : ByteArray).size + (⟨⟨y⟩⟩ : ByteArray).size : Nat) : Int) > IntKind.i64.max) := by rw [hsz, hsz]; simp [IntKind.max, IntKind.signed, IntKind.bits]; omega
    simp only [if_neg hmax, Sem.run_pure]
    refine ⟨?_, rfl, fun _ => by simp [ren]⟩
    congr 2
def byteL : List Value → Option (List UInt8)
  | [] => some []
  | .int .u8 (.ofNat n) :: l => bif Nat.blt n 256 then match byteL l with
      | some m => some (UInt8.ofNat n :: m)
      | none => none
    else none
  | _ => none
theorem byteL_ok : ∀ {l : List Value} {m : List UInt8}, byteL l = some m → l = m.map fun b => .int .u8 (b.toNat : Int)
  | [], m, h => by simp only [byteL, Option.some.injEq] at h; subst h; rfl
  | v :: l, m, h => by
    unfold byteL at h
    split at h
    · rename_i heq; cases heq
    · rename_i n l' heq
      cases heq
      cases hb : Nat.blt n 256 with
      | false => rw [hb] at h; cases h
      | true =>
        rw [hb] at h
        simp only [cond_true] at h
        split at h
        · rename_i m' hm
          cases h
          rw [byteL_ok hm]
          have hn : n < 256 := by simpa [Nat.blt_eq] using hb
          simp only [List.map_cons, List.cons.injEq, Value.int.injEq, true_and, and_true]
          simp [Nat.mod_eq_of_lt hn]
        · cases h
    · cases h
def isStr (P : Program) (t : TypeId) : Bool := match P.underlying t with
  | some .string => true
  | _ => false
theorem isStr_ok {P : Program} {t : TypeId} (h : isStr P t = true) : P.underlying t = some .string := by
  unfold isStr at h
  split at h
  · assumption
  · cases h
/-- the element's type of a slice of bytes -/
def isBytes (P : Program) (t : TypeId) : Option TypeId := match P.underlying t with
  | some (.slice e) => match P.underlying e with
    | some (.int .u8) => some e
    | _ => none
  | _ => none
theorem isBytes_ok {P : Program} {t e : TypeId} (h : isBytes P t = some e) : P.underlying t = some (.slice e) ∧ P.underlying e = some (.int .u8) := by
  unfold isBytes at h
  split at h
  · rename_i e' h1
    split at h
    · rename_i h2
      cases h
      exact ⟨h1, h2⟩
    · cases h
  · cases h
def xval2 (C : Ctx) (E : Env) (h : Hp) : Op → Option Value
  | .binOp op _ x y _ => match evX C.G E x with
    | some (.string ⟨⟨a⟩⟩) => match evX C.G E y with
      | some (.string ⟨⟨b⟩⟩) => strOp op a b
      | _ => none
    | _ => none
  | .convert t t' x => match evX C.G E x with
    | some (.slice ad k c) => match isBytes C.P t with
      | some _ => bif isStr C.P t' then bif Nat.beq k 0 then some (.string ⟨⟨[]⟩⟩) else match ad with
          | some ⟨nm, off, none⟩ => match rdAt C h nm with
            | some l => match takeN k (l.drop off) with
              | some m => match byteL m with
                | some bs => some (.string ⟨⟨bs⟩⟩)
                | none => none
              | none => none
            | none => none
          | _ => none
        else none
      | none => none
    | _ => none
  | .slice t x lo hi none => match evX C.G E x with
    | some (.string ⟨⟨l⟩⟩) => bif isStr C.P t then match natO C.G E 0 lo with
        | some i => match natO C.G E l.length hi with
          | some j => bif Nat.ble i j && Nat.ble j l.length then some (.string ⟨⟨(l.drop i).take (j - i)⟩⟩) else none
          | none => none
        | none => none
      else none
    | _ => none
  | _ => none
section
variable {B : World} {F : PH} {C : Ctx} {h : Hp} {ρ : Val} {w : World} {n : Nat} {ds : List SDef} {E : Env} {a : Act} {o : Oper}
theorem xval2_ok (s : SatX B F C.G h ρ w) (hC : C.OK F) (hA : AgrX h.next ρ n ds E a) {v : Value} (hx : xval2 C E h o.op = some v) : wfv h.next v = true ∧ (execOp a.eval o).run C.P w = .ok (.value (ren ρ v)) w := by
  unfold xval2 at hx
  split at hx
  -- two texts
  · rename_i op t x y p ho
    split at hx
    · rename_i l hl
      split at hx
      · rename_i m hm
        obtain ⟨h1, h2, h3⟩ := strOp_ok (P := C.P) (w := w) hx
        have e1 := (hA.ev s.gl s.gn hl).2
        have e2 := (hA.ev s.gl s.gn hm).2
        simp only [ren] at e1 e2
        refine ⟨wfv_mono (Nat.zero_le _) _ h2, ?_⟩
        have hg : (eqGuard op t x y (.string ⟨⟨l⟩⟩) (.string ⟨⟨m⟩⟩)).run C.P w = .ok () w := by
          unfold eqGuard
          cases op <;> rfl
        have hb : binOp op t (.string ⟨⟨l⟩⟩) (.string ⟨⟨m⟩⟩) = Op.stringOp op ⟨⟨l⟩⟩ ⟨⟨m⟩⟩ := by
          cases op <;> rfl
        unfold execOp
        simp only [ho, e1, e2, Sem.run_bind, hg, hb, h1, Result.andThen_ok, Sem.run_pure, h3]
      · cases hx
    · cases hx
  -- bytes as a text
  · rename_i t t' x ho
    split at hx
    · rename_i ad k c hv
      split at hx
      · rename_i e he
        obtain ⟨b1, b2⟩ := isBytes_ok he
        cases hst : isStr C.P t' with
        | false => rw [hst] at hx; cases hx
        | true =>
          rw [hst] at hx
          have b3 := isStr_ok hst
          have e1 := (hA.ev s.gl s.gn hv).2
          simp only [cond_true] at hx
          cases hk : Nat.beq k 0 with
          | true =>
            rw [hk] at hx
            rw [Nat.beq_eq] at hk
            subst hk
            simp only [cond_true, Option.some.injEq] at hx
            subst hx
            refine ⟨rfl, ?_⟩
            have hrun : (convert t t' (ren ρ (.slice ad 0 c))).run C.P w = .ok (.string ⟨⟨[]⟩⟩) w := by
              cases ad with
              | none =>
                simp only [ren]
                rw [run_convert_bytes_string w t t' e none 0 c b1 b2 b3]
                rfl
              | some ad =>
                obtain ⟨_, _, _ | _⟩ := ad <;> simp only [ren] <;> exact run_convert_bytes_back (P := C.P) w t t' e _ _ [] b1 b2 b3 (fun j hj => by simp at hj)
            unfold execOp
            simp only [ho, e1, Sem.run_bind, hrun, Result.andThen_ok, Sem.run_pure, ren]
          | false =>
            rw [hk] at hx
            simp only [cond_false] at hx
            split at hx
            · rename_i nm off
              split at hx
              · rename_i l hl
                split at hx
                · rename_i m hm
                  split at hx
                  · rename_i bs hbs
                    cases hx
                    refine ⟨rfl, ?_⟩
                    obtain ⟨rfl, hlen⟩ := takeN_spec hm
                    have hbl := byteL_ok hbs
                    have hlen2 : bs.length = k := by rw [hbl, List.length_map] at hlen; exact hlen
                    have hrun : (convert t t' (ren ρ (.slice (some ⟨nm, off, none⟩) k c))).run C.P w = .ok (.string ⟨⟨bs⟩⟩) w := by
                      simp only [ren]
                      have := run_convert_bytes_back (P := C.P) w t t' e ⟨ρ.b nm, off, none⟩ (capOf ρ nm c) bs b1 b2 b3 (fun j hj => by
                        have hj2 : ((l.drop off).take k)[j]? = some (.int .u8 (bs[j].toNat : Int)) := by rw [hbl]; simp [hj]
                        have hj3 : l[off + j]? = some (.int .u8 (bs[j].toNat : Int)) := by
                          rw [List.getElem?_take_of_lt (by omega), List.getElem?_drop] at hj2
                          exact hj2
                        have := (s.rd hC hl hj3).2
                        simp only [ren] at this
                        rw [add_lit]
                        exact this)
                      rw [hlen2] at this
                      exact this
                    unfold execOp
                    simp only [ho, e1, Sem.run_bind, hrun, Result.andThen_ok, Sem.run_pure]
                    simp [ren]
                  · cases hx
                · cases hx
              · cases hx
            · cases hx
      · cases hx
    · cases hx
  -- a part of a text
  · rename_i t x lo hi ho
    split at hx
    · rename_i l hv
      cases hst : isStr C.P t with
      | false => rw [hst] at hx; cases hx
      | true =>
        rw [hst] at hx
        simp only [cond_true] at hx
        split at hx
        · rename_i i hi'
          split at hx
          · rename_i j hj
            cases hb : Nat.ble i j && Nat.ble j l.length with
            | false => rw [hb] at hx; cases hx
            | true =>
              rw [hb] at hx
              cases hx
              simp only [Bool.and_eq_true, Nat.ble_eq] at hb
              have e1 := (hA.ev s.gl s.gn hv).2
              simp only [ren] at e1
              have hbd := bounds_ok (C := C) (w := w) (b := false) s hA hi' hj hb.1 hb.2
              have hsz : (⟨⟨l⟩⟩ : ByteArray).size = l.length := rfl
              have hext : (⟨⟨l⟩⟩ : ByteArray).extract i j = ⟨⟨(l.drop i).take (j - i)⟩⟩ := by
                apply ByteArray.ext
                rw [ByteArray.data_extract]
                apply Array.ext'
                rw [Array.toList_extract]
                try simp [List.extract_eq_take_drop]
              refine ⟨rfl, ?_⟩
              unfold execOp
              simp only [ho, e1, Option.map_none, Instr.sliceAt, Instr.slice, Sem.run_bind, run_underlying (isStr_ok hst), Result.andThen_ok, Option.isSome_none, Bool.false_eq_true, if_false, Sem.run_pure, hsz, hbd, hext, ren]
          · cases hx
        · cases hx
    · cases hx
  · cases hx
end
end Go.Xs
