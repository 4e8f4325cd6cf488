/- Plain: what is laid over a list, and the list with another one in its middle. -/
import Derived.Test.YtclcnhfponjdaaaGreatDoorSk8
set_option linter.unusedVariables false
set_option linter.unusedSimpArgs false
namespace Go.Sk
theorem asub_zero {a : Option Addr} {c z : Nat} : asub a c z 0 = a := by
  unfold asub
  split
  · rfl
  · rw [Nat.zero_mul]
    cases a <;> simp [Addr.add]
theorem ins_src {L ys : List Value} {n m i : Nat} (h1 : L.length = n) (hi : i ≤ n) : (((L ++ ys).drop (i * 1)).take ((n + m - i) * 1)).take (n - i) = L.drop i := by
  subst h1
  rw [Nat.mul_one, Nat.mul_one, List.take_take, show min (L.length - i) (L.length + m - i) = L.length - i by omega, List.drop_append_of_le_length hi]
  exact List.take_left' (by simp)
theorem ins_shift {L ys L' : List Value} {n m i : Nat} (h1 : L.length = n) (h2 : ys.length = m) (h3 : L'.length = m) (hi : i ≤ n) :
    let X := L ++ ys
    let X1 := X.take (i + m) ++ ((X.drop (i * 1)).take ((n + m - i) * 1)).take (n - i) ++ X.drop (i + m + (n - i))
    X1.take i ++ L'.take m ++ X1.drop (i + m) = L.take i ++ L' ++ L.drop i := by
  subst h1 h2
  intro X X1
  have e1 : X.take (i + ys.length) = L.take i ++ (X.drop i).take ys.length := by
    rw [List.take_add]
    congr 1
    exact List.take_append_of_le_length hi
  have e2 : ((X.drop (i * 1)).take ((L.length + ys.length - i) * 1)).take (L.length - i) = L.drop i := by
    rw [Nat.mul_one, Nat.mul_one, List.take_take, show min (L.length - i) (L.length + ys.length - i) = L.length - i by omega, List.drop_append_of_le_length hi]
    exact List.take_left' (by simp)
  have e3 : X.drop (i + ys.length + (L.length - i)) = [] := List.drop_eq_nil_of_le (by simp [X]; omega)
  have hl : (X.take (i + ys.length)).length = i + ys.length := by simp [X]; omega
  have e4 : X1 = X.take (i + ys.length) ++ L.drop i := by
    show _ ++ _ ++ _ = _
    rw [e2, e3, List.append_nil]
  have e5 : X1.take i = L.take i := by
    rw [e4, List.take_append_of_le_length (by rw [hl]; omega), e1, List.take_append_of_le_length (by rw [List.length_take]; omega), List.take_take, Nat.min_self]
  have e6 : X1.drop (i + ys.length) = L.drop i := by rw [e4]; exact List.drop_left' hl
  have e7 : L'.take ys.length = L' := List.take_of_length_le (by omega)
  rw [e5, e6, e7]
theorem ins_grow {L zs L' : List Value} {n m i : Nat} (h1 : L.length = n) (h2 : zs.length = n + m - i) (h3 : L'.length = m) (hi : i ≤ n) :
    let X := L.take i ++ zs
    let X1 := X.take i ++ L'.take m ++ X.drop (i + m)
    X1.take (i + m) ++ ((L.drop (i * 1)).take ((n - i) * 1)).take (n - i) ++ X1.drop (i + m + (n - i)) = L.take i ++ L' ++ L.drop i := by
  subst h1 h3
  intro X X1
  have hl : (L.take i).length = i := by simp; omega
  have e1 : X.take i = L.take i := List.take_left' hl
  have e2 : X1 = (L.take i ++ L') ++ X.drop (i + L'.length) := by
    show _ ++ _ ++ _ = _
    rw [e1, List.take_length]
  have hl2 : (L.take i ++ L').length = i + L'.length := by rw [List.length_append, hl]
  have e3 : ((L.drop (i * 1)).take ((L.length - i) * 1)).take (L.length - i) = L.drop i := by
    rw [Nat.mul_one, Nat.mul_one, List.take_take, Nat.min_self]
    exact List.take_of_length_le (by simp)
  rw [e3, e2, List.take_left' hl2, List.drop_eq_nil_of_le (as := L.take i ++ L' ++ X.drop (i + L'.length)), List.append_nil]
  simp [X, h2]
  omega
end Go.Sk
