/- Code and functions. -/
import Derived.Test.YtlamhjlijoampaaGreatDoorXw0
set_option linter.unusedVariables false
set_option linter.unusedSimpArgs false
namespace Go.Xs
open Go.RowKit

def loopX (f : Env → List SDef → Hp → CR) : Nat → Env → List SDef → Hp → CR
  | 0, _, _, _ => .no [201]
  | k + 1, E, ds, h => match f E ds h with
    | .ok .normal E' ds' h' => loopX f k E' ds' h'
    | r => r
def runC (C : Ctx) (n : Nat) (call : Nat → List Value → Hp → FR) (lf : Nat) : Code → Env → List SDef → Hp → CR
  | .skip, E, ds, h => .ok .normal E ds h
  | .region id ⟨l⟩ false, E, ds, h => match runOps C n call l 0 l E ds h with
    | .no t => .no (300 :: id :: t)
    | r => r
  | .region id ⟨l⟩ true, E, ds, h => match runAny C n call l E ds h with
    | .no t => .no (301 :: id :: t)
    | r => r
  | .seq c c', E, ds, h => match runC C n call lf c E ds h with
    | .ok .normal E' ds' h' => runC C n call lf c' E' ds' h'
    | r => r
  | .cond x c c', E, ds, h => match evX C.G E x with
    | some (.bool true) => runC C n call lf c E ds h
    | some (.bool false) => runC C n call lf c' E ds h
    | _ => .no [302]
  | .block id c, E, ds, h => match runC C n call lf c E ds h with
    | .ok (.exit id') E' ds' h' => bif Nat.beq id' id then .ok .normal E' ds' h' else .ok (.exit id') E' ds' h'
    | r => r
  | .loop c, E, ds, h => loopX (runC C n call lf c) lf E ds h
  | .exit id, E, ds, h => .ok (.exit id) E ds h
  | .ret, E, ds, h => .ok .ret E ds h
  | .label _, E, ds, h => .ok .normal E ds h
  | .scope c, E, ds, h => runC C n call lf c E ds h
  | _, _, _, _ => .no [303]
def argE : List Value → Nat → Env → Env
  | [], _, E => E
  | v :: l, i, E => argE l (i + 1) (E.put i v)
/-- The results. -/
def resL (C : Ctx) (E : Env) (h : Hp) : List ResultVar → Option (List Value)
  | [] => some []
  | .tmp t :: l => match E.lk t with
    | some v => match resL C E h l with
      | some vs => some (v :: vs)
      | none => none
    | none => none
  | .cell a t :: l => match E.lk a with
    | some u => match xload C h t u with
      | some v => match resL C E h l with
        | some vs => some (v :: vs)
        | none => none
      | none => none
    | none => none
def oneV : List Value → Value
  | [v] => v
  | l => .tuple ⟨l⟩
/-- The first operation of a function that is put off is a recover. -/
def recB : Code → Option (Nat × Oper × List Oper × Code)
  | .seq (.region id ⟨o :: l⟩ false) c => match o.op, o.guard with
    | .call ⟨.builtin .recover, ⟨[]⟩, _⟩, none => some (id, o, l, c)
    | _, _ => none
  | _ => none
inductive DR where
  | ret (u : Option Value) (h : Hp)
  | no (why : List Nat)
/-- A function that is put off is run. -/
def runD (C : Ctx) (lf : Nat) (call : Nat → List Value → Hp → FR) (d : SDef) (u : Option Value) (h : Hp) : DR := match C.fns d.f with
  | some fn => match fn.body with
    | some c => bif Nat.ble (d.args ++ d.cap).length fn.ntmps then match recB c with
        | some (_, o, l, c') => match putX fn.ntmps (argE (d.args ++ d.cap) 0 .lf) o.dst (u.getD .nilIface) with
          | some E => match runOps C fn.ntmps call (o :: l) 1 l E [] h with
            | .ok .normal E' [] h' => match runC C fn.ntmps call lf c' E' [] h' with
              | .ok .normal E2 [] h2 => match resL C E2 h2 fn.results.toList with
                | some _ => .ret none h2
                | none => .no [401]
              | .ok .ret E2 [] h2 => match resL C E2 h2 fn.results.toList with
                | some _ => .ret none h2
                | none => .no [402]
              | .no t => .no (403 :: d.f :: t)
              | _ => .no [404]
            | .no t => .no (405 :: d.f :: t)
            | _ => .no [406]
          | none => .no [407]
        | none => match runC C fn.ntmps call lf c (argE (d.args ++ d.cap) 0 .lf) [] h with
          | .ok .normal E2 [] h2 => match resL C E2 h2 fn.results.toList with
            | some _ => .ret u h2
            | none => .no [411]
          | .ok .ret E2 [] h2 => match resL C E2 h2 fn.results.toList with
            | some _ => .ret u h2
            | none => .no [412]
          | .no t => .no (413 :: d.f :: t)
          | _ => .no [414]
      else .no [415]
    | none => .no [416]
  | none => .no [417]
/-- How a function is left. -/
def leaveX (C : Ctx) (lf : Nat) (call : Nat → List Value → Hp → FR) (fn : Func) (E : Env) : List SDef → Option Value → Hp → FR
  | [], none, h => match resL C E h fn.results.toList with
    | some vs => .ret (oneV vs) h
    | none => .no [501]
  | [], some v, h => .pan v h
  | d :: ds, u, h => match runD C lf call d u h with
    | .ret u' h' => leaveX C lf call fn E ds u' h'
    | .no t => .no t
def runFn (C : Ctx) (lf : Nat) (call : Nat → List Value → Hp → FR) (f : Nat) (args : List Value) (h : Hp) : FR := match C.fns f with
  | some fn => match fn.body with
    | some c => bif Nat.ble args.length fn.ntmps then match runC C fn.ntmps call lf c (argE args 0 .lf) [] h with
        | .ok .normal E ds h' => leaveX C lf call fn E ds none h'
        | .ok .ret E ds h' => leaveX C lf call fn E ds none h'
        | .ok (.pan v) E ds h' => leaveX C lf call fn E ds (some v) h'
        | .ok (.exit _) _ _ _ => .no [601]
        | .no t => .no (602 :: f :: t)
      else .no [603]
    | none => .no [604]
  | none => .no [605]
/-- sp: calls whose outcome is told otherwise. -/
def callN (C : Ctx) (lf : Nat) (sp : Nat → List Value → Hp → Option FR) : Nat → Nat → List Value → Hp → FR
  | 0, _, _, _ => .no [606]
  | k + 1, f, args, h => match sp f args h with
    | some r => r
    | none => runFn C lf (callN C lf sp k) f args h
end Go.Xs
