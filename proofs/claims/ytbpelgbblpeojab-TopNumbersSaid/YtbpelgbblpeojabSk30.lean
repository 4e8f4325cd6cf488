/- Characters: their bytes; bits of bytes; a number turned into a text. Plain theorems, no condition. -/
import Derived.Test.YtbpelgbblpeojabSk24
import Derived.Test.YtbpelgbblpeojabSk17
set_option linter.unusedVariables false
set_option linter.unusedSimpArgs false
namespace Go.Sk
open Go.RowKit
def validR (n : Int) : Prop := (0 ≤ n ∧ n < 55296) ∨ (57344 ≤ n ∧ n ≤ 1114111)
instance (n : Int) : Decidable (validR n) := inferInstanceAs (Decidable (_ ∨ _))
/-- The bytes of a character; those of U+FFFD: there is none of this number. -/
def chrL (n : Int) : List Int :=
  if validR n then
    if n < 128 then [n] else if n < 2048 then [192 + n / 64, 128 + n % 64]
    else if n < 65536 then [224 + n / 4096, 128 + n / 64 % 64, 128 + n % 64] else [240 + n / 262144, 128 + n / 4096 % 64, 128 + n / 64 % 64, 128 + n % 64]
  else [239, 191, 189]
theorem chrL_byt (n : Int) : Byt (chrL n) := by
  unfold chrL
  split
  · rename_i h
    have h : (0 ≤ n ∧ n < 55296) ∨ (57344 ≤ n ∧ n ≤ 1114111) := h
    split
    · exact Byt.one ⟨by omega, by omega⟩
    · split
      · exact Byt.cons ⟨by omega, by omega⟩ (Byt.one ⟨by omega, by omega⟩)
      · split
        · exact Byt.cons ⟨by omega, by omega⟩ (Byt.cons ⟨by omega, by omega⟩ (Byt.one ⟨by omega, by omega⟩))
        · exact Byt.cons ⟨by omega, by omega⟩ (Byt.cons ⟨by omega, by omega⟩ (Byt.cons ⟨by omega, by omega⟩ (Byt.one ⟨by omega, by omega⟩)))
  · decide
theorem chrL_len (n : Int) : 0 < (chrL n).length ∧ (chrL n).length ≤ 4 := by
  unfold chrL
  repeat' split
  all_goals simp
theorem b8_cast (k : Nat) {x : Int} (h : x = k) : UInt8.ofNat k = b8 x := by subst h; unfold b8; rw [Int.toNat_natCast]
theorem encode_chr (n : Int) : Utf8.encode n = str (chrL n) := by
  unfold Utf8.encode chrL
  by_cases hv : validR n
  · have hv2 : (0 ≤ n ∧ n < 55296) ∨ (57344 ≤ n ∧ n ≤ 1114111) := hv
    have h1 : Utf8.valid n = true := by unfold Utf8.valid; simp only [Bool.or_eq_true, Bool.and_eq_true, decide_eq_true_eq]; exact hv2
    rw [if_pos hv]
    simp only [h1, if_true]
    obtain ⟨k, rfl⟩ : ∃ k : Nat, n = k := ⟨n.toNat, by omega⟩
    rw [Int.toNat_natCast]
    by_cases c1 : k < 128
    · rw [if_pos c1, if_pos (by omega)]
      simp only [str, List.map_cons, List.map_nil]
      rw [b8_cast k rfl]
    · rw [if_neg c1, if_neg (show ¬ (k : Int) < 128 by omega)]
      by_cases c2 : k < 2048
      · rw [if_pos c2, if_pos (by omega)]
        simp only [str, List.map_cons, List.map_nil]
        rw [b8_cast (192 + k / 64) (x := 192 + (k : Int) / 64) (by omega), b8_cast (128 + k % 64) (x := 128 + (k : Int) % 64) (by omega)]
      · rw [if_neg c2, if_neg (show ¬ (k : Int) < 2048 by omega)]
        by_cases c3 : k < 65536
        · rw [if_pos c3, if_pos (by omega)]
          simp only [str, List.map_cons, List.map_nil]
          rw [b8_cast (224 + k / 4096) (x := 224 + (k : Int) / 4096) (by omega), b8_cast (128 + k / 64 % 64) (x := 128 + (k : Int) / 64 % 64) (by omega), b8_cast (128 + k % 64) (x := 128 + (k : Int) % 64) (by omega)]
        · rw [if_neg c3, if_neg (show ¬ (k : Int) < 65536 by omega)]
          simp only [str, List.map_cons, List.map_nil]
          rw [b8_cast (240 + k / 262144) (x := 240 + (k : Int) / 262144) (by omega), b8_cast (128 + k / 4096 % 64) (x := 128 + (k : Int) / 4096 % 64) (by omega), b8_cast (128 + k / 64 % 64) (x := 128 + (k : Int) / 64 % 64) (by omega), b8_cast (128 + k % 64) (x := 128 + (k : Int) % 64) (by omega)]
  · have h1 : Utf8.valid n = false := by
      rw [← Bool.not_eq_true]
      unfold Utf8.valid
      simp only [Bool.or_eq_true, Bool.and_eq_true, decide_eq_true_eq]
      exact hv
    rw [if_neg hv]
    simp only [h1, Bool.false_eq_true, if_false]
    rfl
theorem or_u8 {a b : Int} (j : Nat) (h0 : 0 ≤ a) (h1 : 0 ≤ b) (h2 : b < 2 ^ j) (h3 : a * 2 ^ j + b < 256) {x r : Int} (hx : x = a * 2 ^ j) (hr : a * 2 ^ j + b = r) : IntKind.u8.wrap (((BitVec.ofInt IntKind.u8.bits x ||| BitVec.ofInt IntKind.u8.bits b).toNat : Nat) : Int) = r := by
  subst hx
  have h : ((BitVec.ofInt 8 (a * 2 ^ j) ||| BitVec.ofInt 8 b).toNat : Int) = a * 2 ^ j + b := or_nat h0 h1 h2 (by omega)
  show IntKind.u8.wrap (((BitVec.ofInt 8 (a * 2 ^ j) ||| BitVec.ofInt 8 b).toNat : Nat) : Int) = r
  rw [h, hr]
  have : 0 ≤ a * 2 ^ j := Int.mul_nonneg h0 (Int.le_of_lt (Int.pow_pos (by decide)))
  exact wr_u8 (by omega) (by omega)
section
variable {B : World} {P : Program} {n : Fm} {m : Bool} {l0 rest : List Oper} {E : Env} {H : List HP} {Q : Exit → Act → World → Prop} (T : Tab P) {d : Nat} {ty t t' : TypeId} {pos : String} {af : Array Edge} {g : Option (Nat × Bool)} {x y : Operand}
/-- string(r) of a character's number. -/
theorem RT.convIS {k k0 : IntKind} {i : Int} (hx : ev E x = some (.int k i)) (hs : al T.ints t = some k0) (ht : al T.kinds t' = some 2) (hw : wt l0 E g = some true) (hd : Nat.blt d n.n = true)
    (kt : RT B P n m l0 rest ((d, .string (str (chrL i))) :: E) H Q) : RT B P n m l0 (⟨some d, .convert t t' x, ty, pos, af, g⟩ :: rest) E H Q := by
  have hy2 : Yld B P n E H (.convert t t' x) ty (.string (str (chrL i))) := y_run fun o aa w ho _ hA _ => by
    have hrun : (convert t t' (.int k i)).run P w = .ok (.string (str (chrL i))) w := by
      simp only [convert, Sem.run_bind, run_underlying (intB_spec (T.int hs)), run_underlying (knd_string (T.kind ht)), Result.andThen_ok]
      rw [← encode_chr]
      rfl
    unfold execOp
    simp only [ho, hA.ev hx, Sem.run_bind, hrun, Result.andThen_ok, Sem.run_pure]
  exact RT.y hw (by simpa [Nat.blt_eq] using hd) hy2 kt
end
end Go.Sk
