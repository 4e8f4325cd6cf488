/- Plain law of fields: how many; one behind the other; more depth. -/
import Derived.Test.YtldfbjcicbfidaaV15
set_option linter.unusedVariables false
set_option linter.unusedSimpArgs false
namespace Go.Sk
set_option maxRecDepth 100000
/-- So many fields. -/
inductive FlsN : Int → List Int → Nat → Prop
  | nil {d : Int} : FlsN d [] 0
  | cons {n k d : Int} {t c r : List Int} {m : Nat} : Tg t n k → k ≠ 4 → Con n k d c → FlsN d r m → FlsN d (t ++ (c ++ r)) (m + 1)
theorem Fls.toN : ∀ {d : Int} {x : List Int}, Fls d x → ∃ m, FlsN d x m
  | _, _, .nil => ⟨0, .nil⟩
  | _, _, .cons h1 h2 h3 h4 => let ⟨m, h⟩ := Fls.toN h4; ⟨m + 1, .cons h1 h2 h3 h⟩
theorem FlsN.to {d : Int} {x : List Int} {m : Nat} (h : FlsN d x m) : Fls d x := by
  induction h with
  | nil => exact .nil
  | cons h1 h2 h3 _ ih => exact .cons h1 h2 h3 ih
theorem FlsN.app {d : Int} {x y : List Int} {m k : Nat} (h : FlsN d x m) (g : FlsN d y k) : FlsN d (x ++ y) (m + k) := by
  induction h with
  | nil => simpa using g
  | cons h1 h2 h3 _ ih =>
    rw [List.append_assoc, List.append_assoc, Nat.add_right_comm]
    exact .cons h1 h2 h3 (ih g)
mutual
theorem Con.deep : ∀ {n k d d' : Int} {x : List Int}, Con n k d x → d ≤ d' → Con n k d' x
  | _, _, _, _, _, .vi h, _ => .vi h
  | _, _, _, _, _, .f8 h, _ => .f8 h
  | _, _, _, _, _, .by_ h, _ => .by_ h
  | _, _, _, _, _, .gr h1 h2 h3, hd => .gr (by omega) (Fls.deep h2 (by omega)) h3
  | _, _, _, _, _, .f4 h, _ => .f4 h
theorem Fls.deep : ∀ {d d' : Int} {x : List Int}, Fls d x → d ≤ d' → Fls d' x
  | _, _, _, .nil, _ => .nil
  | _, _, _, .cons h1 h2 h3 h4, hd => .cons h1 h2 (Con.deep h3 hd) (Fls.deep h4 hd)
end
end Go.Sk
