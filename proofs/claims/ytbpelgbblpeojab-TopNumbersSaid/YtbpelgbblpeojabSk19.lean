/- To stop a walk ahead of a region. Plain theorems, no condition. -/
import Derived.Test.YtbpelgbblpeojabSk18
set_option linter.unusedVariables false
set_option linter.unusedSimpArgs false
namespace Go.Sk
/-- The first region of a code. -/
def hd : Code → Nat
  | .region id _ _ => id
  | .seq a _ => hd a
  | .block _ c => hd c
  | .loop c => hd c
  | .rangeFunc _ _ a _ => hd a
  | _ => 0
theorem CT.seqN {B : World} {P : Program} {n : Fm} {E : Env} {H : List HP} {Q : Exit → Act → World → Prop} {x y : Code} (k : Nat) (_ : Nat.beq (hd x) k = false) (h : CT B P n x E H (Then n P y Q)) : CT B P n (.seq x y) E H Q := CT.seq h
theorem CT.blockN {B : World} {P : Program} {n : Fm} {E : Env} {H : List HP} {Q : Exit → Act → World → Prop} {c : Code} {id : Nat} (k : Nat) (_ : Nat.beq (hd c) k = false) (h : CT B P n c E H (Exit.inBlock id Q)) : CT B P n (.block id c) E H Q := CT.block h
end Go.Sk
