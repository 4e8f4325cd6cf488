/- Plain: numbers of four and of eight bytes, the lowest first. -/
import Derived.Test.YtldfbjcicbfidaaV7
import Derived.Test.YtldfbjcicbfidaaV5
set_option linter.unusedVariables false
set_option linter.unusedSimpArgs false
namespace Go.Sk
def lev : List Int → Int
  | [] => 0
  | x :: l => x + 256 * lev l
def p256 (k : Nat) : Int := 256 ^ k
theorem lev_lt : ∀ {l : List Int}, Bytes l → 0 ≤ lev l ∧ lev l < 256 ^ l.length
  | [], _ => ⟨by decide, by decide⟩
  | x :: l, h => by
    have hx := h x (by simp)
    obtain ⟨a, b⟩ := lev_lt (l := l) (fun y hy => h y (by simp [hy]))
    obtain ⟨h0, h1⟩ := hx
    simp only [lev, List.length_cons]
    rw [Int.pow_succ]
    constructor <;> omega
theorem lev_step {l : List Int} {w i : Nat} (hi : i < w) (hw : w ≤ l.length) : lev ((l.take w).drop i) = l.getD i 0 + 256 * lev ((l.take w).drop (i + 1)) := by
  have h1 : i < (l.take w).length := by rw [List.length_take]; omega
  rw [List.drop_eq_getElem_cons h1]
  simp only [lev, List.getElem_take, List.getD_eq_getElem?_getD, List.getElem?_eq_getElem (show i < l.length by omega), Option.getD_some]
theorem shl8 {k : IntKind} {v : Int} (hk : 8 ≤ k.bits) (hs : k.signed = false) (h0 : 0 ≤ v) (h1 : v * 256 < 2 ^ k.bits) : k.wrap (v * 2 ^ (min (8 : Int).toNat k.bits)) = v * 256 := by
  rw [show min (8 : Int).toNat k.bits = 8 by rw [show (8 : Int).toNat = 8 from rfl]; omega, show (2 : Int) ^ 8 = 256 by decide]
  unfold IntKind.wrap
  simp only [hs, Bool.false_and, Bool.false_eq_true, if_false]
  exact Int.emod_eq_of_lt (by omega) h1
theorem or8 {k : IntKind} {v x : Int} (hs : k.signed = false) (hx : isByte x) (h0 : 0 ≤ v) (h1 : x + v * 256 < 2 ^ k.bits) :
    k.wrap ((BitVec.ofInt k.bits (v * 256) ||| BitVec.ofInt k.bits x).toNat : Int) = x + 256 * v := by
  rw [BitVec.or_comm]
  have := or_add (k := k) (v := x) (x := v * 256) (y := v) (s := 8) hx.1 (by have := hx.2; omega) h0 (by omega) h1 hs
  rw [this]
  omega
def RS.fixed (w : Nat) (bs : List Int) (s : RS) : Int × RS :=
  if s.e = 0 then (if s.en - s.at_ < w then (0, s.wrong 10 s.at_) else (lev ((bs.drop s.at_).take w), { s with at_ := s.at_ + w })) else (0, s)
end Go.Sk
namespace Go.Sk
theorem pow256_le {a b : Nat} (h : a ≤ b) : (256 : Int) ^ a ≤ 256 ^ b := by
  have : (256 : Nat) ^ a ≤ 256 ^ b := Nat.pow_le_pow_right (by decide) h
  have h2 : ((256 ^ a : Nat) : Int) ≤ ((256 ^ b : Nat) : Int) := by omega
  simpa using h2
theorem lev_room {l : List Int} {w i : Nat} (hb : Bytes l) (hi : i < w) : 0 ≤ lev ((l.take w).drop (i + 1)) ∧ ∀ x, isByte x → x + lev ((l.take w).drop (i + 1)) * 256 < 256 ^ w := by
  have hb2 : Bytes ((l.take w).drop (i + 1)) := (hb.take w).drop (i + 1)
  refine ⟨(lev_lt hb2).1, fun x hx => ?_⟩
  have h1 := (lev_lt (l := x :: (l.take w).drop (i + 1)) (fun y hy => by
    rcases List.mem_cons.1 hy with rfl | hy
    · exact hx
    · exact hb2 y hy)).2
  simp only [lev, List.length_cons] at h1
  have h2 : ((l.take w).drop (i + 1)).length + 1 ≤ w := by rw [List.length_drop, List.length_take]; omega
  have := pow256_le h2
  omega
end Go.Sk
