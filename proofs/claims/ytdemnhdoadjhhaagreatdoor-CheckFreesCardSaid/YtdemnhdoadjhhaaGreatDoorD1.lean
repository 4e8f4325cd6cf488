/- Plain: files as trees that know where their rows lie. -/
import Derived.Test.YtdemnhdoadjhhaaGreatDoorSkB
set_option linter.unusedVariables false
set_option linter.unusedSimpArgs false
namespace Go.Sk
abbrev Txt := List Int
/-- A row: where it lies, its room, what it holds. -/
structure Rw (α : Type) where
  a : Option Addr
  c : Nat
  l : List α
def Rw.v {α : Type} (r : Rw α) : Value := .slice r.a r.l.length r.c
abbrev vS (t : Txt) : Value := .string (str t)
structure SpanT where
  f : Int
  t : Int
structure EValT where
  nm : Txt
  num : Int
structure FieldT where
  nm : Txt
  num : Int
  card : Int
  kind : Int
  ty : Txt
  key : Int
  oneof : Int
  packed : Int
  js : Txt
structure ImpT where
  path : Txt
  pub : Bool
structure EnumT where
  nm : Txt
  vals : Rw EValT
  ali : Bool
  res : Rw SpanT
  names : Rw Txt
inductive MsgT where
  | mk (nm : Txt) (fields : Rw FieldT) (oneofs : Rw Txt) (ma : Option Addr) (mc : Nat) (msgs : List MsgT) (enums : Rw EnumT) (res : Rw SpanT) (names : Rw Txt)
structure FileT where
  path : Txt
  pack : Txt
  imps : Rw ImpT
  ma : Option Addr
  mc : Nat
  msgs : List MsgT
  enums : Rw EnumT
namespace MsgT
def nm : MsgT → Txt | mk n _ _ _ _ _ _ _ _ => n
def fields : MsgT → Rw FieldT | mk _ f _ _ _ _ _ _ _ => f
def oneofs : MsgT → Rw Txt | mk _ _ o _ _ _ _ _ _ => o
def ma : MsgT → Option Addr | mk _ _ _ a _ _ _ _ _ => a
def mc : MsgT → Nat | mk _ _ _ _ c _ _ _ _ => c
def msgs : MsgT → List MsgT | mk _ _ _ _ _ l _ _ _ => l
def enums : MsgT → Rw EnumT | mk _ _ _ _ _ _ e _ _ => e
def res : MsgT → Rw SpanT | mk _ _ _ _ _ _ _ r _ => r
def names : MsgT → Rw Txt | mk _ _ _ _ _ _ _ _ n => n
end MsgT
def SpanT.cells (s : SpanT) : List Value := [.int .i32 s.f, .int .i32 s.t]
def EValT.cells (v : EValT) : List Value := [vS v.nm, .int .i32 v.num]
def FieldT.cells (f : FieldT) : List Value := [vS f.nm, .int .i32 f.num, .int .u8 f.card, .int .u8 f.kind, vS f.ty, .int .u8 f.key, .int .i64 f.oneof, .int .u8 f.packed, vS f.js]
def ImpT.cells (i : ImpT) : List Value := [vS i.path, .bool i.pub]
def EnumT.cells (e : EnumT) : List Value := [vS e.nm, e.vals.v, .bool e.ali, e.res.v, e.names.v]
def MsgT.cells (m : MsgT) : List Value := [vS m.nm, m.fields.v, m.oneofs.v, .slice m.ma m.msgs.length m.mc, m.enums.v, m.res.v, m.names.v]
def FileT.cells (f : FileT) : List Value := [vS f.path, vS f.pack, f.imps.v, .slice f.ma f.msgs.length f.mc, f.enums.v]
/-! ### how deep -/
mutual
def MsgT.deep : MsgT → Nat
  | .mk _ _ _ _ _ l _ _ _ => MsgT.deepL l + 1
def MsgT.deepL : List MsgT → Nat
  | [] => 0
  | m :: l => max (MsgT.deep m) (MsgT.deepL l)
end
theorem MsgT.deep_mem : ∀ {l : List MsgT} {m : MsgT}, m ∈ l → m.deep ≤ MsgT.deepL l
  | [], _, h => by cases h
  | x :: l, m, h => by
    unfold MsgT.deepL
    rcases List.mem_cons.1 h with rfl | h
    · exact Nat.le_max_left _ _
    · exact Nat.le_trans (MsgT.deep_mem h) (Nat.le_max_right _ _)
theorem MsgT.deep_sub {m x : MsgT} (h : x ∈ m.msgs) : x.deep < m.deep := by
  cases m with
  | mk a b c d e l f g i =>
    have := MsgT.deep_mem (show x ∈ l from h)
    show x.deep < MsgT.deepL l + 1
    omega
/-! ### that its rows can be read -/
section
variable (X : Option Addr → Nat → Nat → Nat → List Value → Prop)
/-- Each row is a row X: address, how many, room, size, cells. -/
def EnumT.In (e : EnumT) : Prop := X e.vals.a e.vals.l.length e.vals.c 2 (e.vals.l.flatMap EValT.cells) ∧ X e.res.a e.res.l.length e.res.c 2 (e.res.l.flatMap SpanT.cells) ∧ X e.names.a e.names.l.length e.names.c 1 (e.names.l.map vS)
mutual
def MsgT.In : MsgT → Prop
  | .mk _ fields oneofs ma mc msgs enums res names => X fields.a fields.l.length fields.c 9 (fields.l.flatMap FieldT.cells) ∧ X oneofs.a oneofs.l.length oneofs.c 1 (oneofs.l.map vS) ∧ X ma msgs.length mc 7 (msgs.flatMap MsgT.cells) ∧
    X enums.a enums.l.length enums.c 5 (enums.l.flatMap EnumT.cells) ∧ (∀ e ∈ enums.l, e.In X) ∧ X res.a res.l.length res.c 2 (res.l.flatMap SpanT.cells) ∧ X names.a names.l.length names.c 1 (names.l.map vS) ∧ MsgT.InL msgs
def MsgT.InL : List MsgT → Prop
  | [] => True
  | m :: l => MsgT.In m ∧ MsgT.InL l
end
end
theorem MsgT.inL_mem {X : Option Addr → Nat → Nat → Nat → List Value → Prop} : ∀ {l : List MsgT} {m : MsgT}, MsgT.InL X l → m ∈ l → MsgT.In X m
  | [], _, _, h => by cases h
  | x :: l, m, hl, h => by
    unfold MsgT.InL at hl
    rcases List.mem_cons.1 h with rfl | h
    · exact hl.1
    · exact MsgT.inL_mem hl.2 h
/-! ### what such trees hold -/
def OkT (t : Txt) : Prop := Byt t ∧ t.length ≤ 140737488355328
def OkN {α : Type} (r : Rw α) : Prop := r.l.length ≤ 140737488355328 ∧ r.l.length ≤ r.c ∧ r.c ≤ 140737488355328
def I32 (x : Int) : Prop := -2147483648 ≤ x ∧ x ≤ 2147483647
def U8 (x : Int) : Prop := 0 ≤ x ∧ x ≤ 255
def SpanT.Ok (s : SpanT) : Prop := I32 s.f ∧ I32 s.t
def EValT.Ok (v : EValT) : Prop := OkT v.nm ∧ I32 v.num
def FieldT.Ok (f : FieldT) : Prop := OkT f.nm ∧ I32 f.num ∧ U8 f.card ∧ U8 f.kind ∧ OkT f.ty ∧ U8 f.key ∧ (-9223372036854775808 ≤ f.oneof ∧ f.oneof ≤ 9223372036854775807) ∧ U8 f.packed ∧ OkT f.js
def ImpT.Ok (i : ImpT) : Prop := OkT i.path
def EnumT.Ok (e : EnumT) : Prop := OkT e.nm ∧ OkN e.vals ∧ (∀ v ∈ e.vals.l, v.Ok) ∧ OkN e.res ∧ (∀ s ∈ e.res.l, s.Ok) ∧ OkN e.names ∧ ∀ t ∈ e.names.l, OkT t
mutual
def MsgT.Ok : MsgT → Prop
  | .mk nm fields oneofs ma mc msgs enums res names => OkT nm ∧ (OkN fields ∧ ∀ f ∈ fields.l, f.Ok) ∧ (OkN oneofs ∧ ∀ t ∈ oneofs.l, OkT t) ∧ OkN (⟨ma, mc, msgs⟩ : Rw MsgT) ∧ (OkN enums ∧ ∀ e ∈ enums.l, e.Ok) ∧ (OkN res ∧ ∀ s ∈ res.l, s.Ok) ∧ (OkN names ∧ ∀ t ∈ names.l, OkT t) ∧ MsgT.OkL msgs
def MsgT.OkL : List MsgT → Prop
  | [] => True
  | m :: l => MsgT.Ok m ∧ MsgT.OkL l
end
theorem MsgT.okL_mem : ∀ {l : List MsgT} {m : MsgT}, MsgT.OkL l → m ∈ l → MsgT.Ok m
  | [], _, _, h => by cases h
  | x :: l, m, hl, h => by
    unfold MsgT.OkL at hl
    rcases List.mem_cons.1 h with rfl | h
    · exact hl.1
    · exact MsgT.okL_mem hl.2 h
theorem MsgT.okL_of : ∀ {l : List MsgT}, (∀ m ∈ l, MsgT.Ok m) → MsgT.OkL l
  | [], _ => by unfold MsgT.OkL; trivial
  | x :: l, h => by unfold MsgT.OkL; exact ⟨h x List.mem_cons_self, MsgT.okL_of fun m hm => h m (List.mem_cons_of_mem _ hm)⟩
theorem MsgT.inL_of {X : Option Addr → Nat → Nat → Nat → List Value → Prop} : ∀ {l : List MsgT}, (∀ m ∈ l, MsgT.In X m) → MsgT.InL X l
  | [], _ => by unfold MsgT.InL; trivial
  | x :: l, h => by unfold MsgT.InL; exact ⟨h x List.mem_cons_self, MsgT.inL_of fun m hm => h m (List.mem_cons_of_mem _ hm)⟩
structure FileT.Ok (f : FileT) : Prop where
  path : OkT f.path
  pack : OkT f.pack
  imps : OkN f.imps ∧ ∀ i ∈ f.imps.l, i.Ok
  msgs : OkN (⟨f.ma, f.mc, f.msgs⟩ : Rw MsgT) ∧ ∀ m ∈ f.msgs, m.Ok
  enums : OkN f.enums ∧ ∀ e ∈ f.enums.l, e.Ok
structure FileT.In (X : Option Addr → Nat → Nat → Nat → List Value → Prop) (f : FileT) : Prop where
  imps : X f.imps.a f.imps.l.length f.imps.c 2 (f.imps.l.flatMap ImpT.cells)
  msgs : X f.ma f.msgs.length f.mc 7 (f.msgs.flatMap MsgT.cells)
  sub : ∀ m ∈ f.msgs, m.In X
  enums : X f.enums.a f.enums.l.length f.enums.c 5 (f.enums.l.flatMap EnumT.cells)
  esub : ∀ e ∈ f.enums.l, e.In X
end Go.Sk
