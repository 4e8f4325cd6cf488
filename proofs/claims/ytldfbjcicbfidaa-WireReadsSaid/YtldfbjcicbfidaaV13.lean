/- Plain: the cells of a script's steps; bytes read back. -/
import Derived.Test.YtldfbjcicbfidaaVC
import Derived.Test.YtldfbjcicbfidaaV8
import Derived.Test.YtldfbjcicbfidaaSkA
set_option linter.unusedVariables false
set_option linter.unusedSimpArgs false
namespace Go.Sk
def SO.cells (o : SO) : List Value := [.int .i64 o.kind, .int .i64 o.who, .int .u64 o.n, .int .i64 o.k, .int .u8 o.w, .int .i64 o.d, .slice o.ba o.bn o.bc]
theorem SO.cells_len (o : SO) : o.cells.length = 7 := rfl
abbrev soCells (l : List SO) : List Value := l.flatMap SO.cells
theorem soCells_len (l : List SO) : (soCells l).length = l.length * 7 := flat_len SO.cells_len l
theorem soCells_sub {l : List SO} {i : Nat} (h : i < l.length) : ((soCells l).drop (i * 7)).take 7 = (l[i]).cells := flat_sub SO.cells_len l i l[i] (by simp)
theorem soCells_get {l : List SO} {i : Nat} (h : i < l.length) (j : Nat) (hj : j < 7) : (soCells l)[i * 7 + j]? = (l[i]).cells[j]? := flat_get SO.cells_len (by simp) hj
theorem soCells_get0 {l : List SO} {i : Nat} (h : i < l.length) : (soCells l)[i * 7]? = (l[i]).cells[0]? := soCells_get h 0 (by omega)
structure SO.fit (o : SO) : Prop where
  kind : I64 o.kind
  n : V64 o.n
  k : I64 o.k
  w : 0 ≤ o.w ∧ o.w < 256
  d : I64 o.d
  who : I64 o.who
  len : o.bl.length = o.bn
  by_ : Bytes o.bl
  most : o.bn ≤ 140737488355328
theorem RS.bytes_mv {bs y z : List Int} {n : Nat} {s : RS} (he : s.e = 0) (hs : s.ok n) (hn : n ≤ 140737488355328) (hb : bs.length = n) (h : s.seg bs = enc z.length ++ (z ++ y)) :
    s.bytes bs = (z, s.mv ((enc z.length).length + z.length)) := by
  unfold RS.bytes
  rw [RS.span_mv he hs hn hb h]
  simp only
  rw [show s.at_ + (enc z.length).length + z.length - (s.at_ + (enc z.length).length) = z.length by omega, RS.span_seg hs hb h]
theorem RS.part_mv {bs y z : List Int} {n : Nat} {s : RS} (he : s.e = 0) (hs : s.ok n) (hn : n ≤ 140737488355328) (hb : bs.length = n) (h : s.seg bs = enc z.length ++ (z ++ y)) :
    s.part bs = (⟨s.at_ + (enc z.length).length, s.at_ + (enc z.length).length + z.length, 0, 0⟩, s.mv ((enc z.length).length + z.length)) := by
  unfold RS.part
  rw [RS.span_mv he hs hn hb h]
theorem RS.end_mv {s : RS} (h : s.at_ = s.en) : s.end_ = s := by unfold RS.end_; rw [if_neg (by omega)]
end Go.Sk
