/- Merged: G3, P3, G4, H4, H5, Y2, Y3, Z0, Y4, Y5, H6, H7, H8, H9, H10, B15, Y7, P20. -/
import Derived.Test.YtdemnhdoadjhhaaGreatDoorWA
import Derived.Test.YtdemnhdoadjhhaaGreatDoorSkA
import Derived.Test.YtdemnhdoadjhhaaGreatDoorSkB
set_option linter.unusedVariables false
set_option linter.unusedSimpArgs false
section
namespace Go.Sk
open Go.Proofs.YtdemnhdoadjhhaaGreatDoor
/-- Short names. -/
def FNm (f : FieldT) : Prop := f.nm.length ≤ 16777216 ∧ f.ty.length ≤ 16777216 ∧ f.js.length ≤ 16777216
mutual
/-- Its rows are short, and those of all that it holds. -/
def MsgT.Sm : MsgT → Prop
  | .mk _ fields oneofs _ _ msgs enums res names => fields.l.length ≤ 2097152 ∧ oneofs.l.length ≤ 2097152 ∧ res.l.length ≤ 2097152 ∧ names.l.length ≤ 2097152 ∧ enums.l.length ≤ 2097152 ∧ (∀ e ∈ enums.l, ESm e) ∧ msgs.length ≤ 2097152 ∧ MsgT.SmL msgs
def MsgT.SmL : List MsgT → Prop
  | [] => True
  | m :: l => MsgT.Sm m ∧ MsgT.SmL l
end
mutual
/-- Its names are short, and those of all that it holds. -/
def MsgT.Nm : MsgT → Prop
  | .mk nm fields oneofs _ _ msgs enums res names => nm.length ≤ 16777216 ∧ (∀ f ∈ fields.l, FNm f) ∧ SmT oneofs.l ∧ SmT names.l ∧ (∀ e ∈ enums.l, ENm e) ∧ MsgT.NmL msgs
def MsgT.NmL : List MsgT → Prop
  | [] => True
  | m :: l => MsgT.Nm m ∧ MsgT.NmL l
end
mutual
/-- Its full names are short: so many bytes stand ahead. -/
def MsgT.Ful : MsgT → Int → Prop
  | .mk nm _ _ _ _ msgs _ _ _, ah => ah + nm.length + 1 ≤ 16777216 ∧ MsgT.FulL msgs (ah + nm.length + 1)
def MsgT.FulL : List MsgT → Int → Prop
  | [], _ => True
  | m :: l, ah => MsgT.Ful m ah ∧ MsgT.FulL l ah
end
theorem MsgT.fulL_of {ah : Int} : ∀ {l : List MsgT}, (∀ m ∈ l, MsgT.Ful m ah) → MsgT.FulL l ah
  | [], _ => by unfold MsgT.FulL; trivial
  | x :: l, h => by unfold MsgT.FulL; exact ⟨h x List.mem_cons_self, MsgT.fulL_of fun m hm => h m (List.mem_cons_of_mem _ hm)⟩
theorem MsgT.fulL_mem {ah : Int} : ∀ {l : List MsgT} {m : MsgT}, MsgT.FulL l ah → m ∈ l → MsgT.Ful m ah
  | [], _, _, h => by cases h
  | x :: l, m, hl, h => by
    unfold MsgT.FulL at hl
    rcases List.mem_cons.1 h with rfl | h
    · exact hl.1
    · exact MsgT.fulL_mem hl.2 h
mutual
/-- How many symbols it has. -/
def cntM : MsgT → Nat
  | .mk _ fields oneofs _ _ msgs enums _ _ => 1 + fields.l.length + oneofs.l.length + cntMs msgs + (enums.l.map cntE).sum
def cntMs : List MsgT → Nat
  | [] => 0
  | m :: l => cntM m + cntMs l
end
theorem cntMs_eq : ∀ l : List MsgT, cntMs l = (l.map cntM).sum
  | [] => by unfold cntMs; rfl
  | m :: l => by unfold cntMs; rw [List.map_cons, List.sum_cons, cntMs_eq l]
theorem MsgT.nmL_of : ∀ {l : List MsgT}, (∀ m ∈ l, MsgT.Nm m) → MsgT.NmL l
  | [], _ => by unfold MsgT.NmL; trivial
  | x :: l, h => by unfold MsgT.NmL; exact ⟨h x List.mem_cons_self, MsgT.nmL_of fun m hm => h m (List.mem_cons_of_mem _ hm)⟩
theorem MsgT.nmL_mem : ∀ {l : List MsgT} {m : MsgT}, MsgT.NmL l → m ∈ l → MsgT.Nm m
  | [], _, _, h => by cases h
  | x :: l, m, hl, h => by
    unfold MsgT.NmL at hl
    rcases List.mem_cons.1 h with rfl | h
    · exact hl.1
    · exact MsgT.nmL_mem hl.2 h
theorem MsgT.smL_of : ∀ {l : List MsgT}, (∀ m ∈ l, MsgT.Sm m) → MsgT.SmL l
  | [], _ => by unfold MsgT.SmL; trivial
  | x :: l, h => by unfold MsgT.SmL; exact ⟨h x List.mem_cons_self, MsgT.smL_of fun m hm => h m (List.mem_cons_of_mem _ hm)⟩
end Go.Sk
namespace Go.Proofs.YtdemnhdoadjhhaaGreatDoor
open Go.Sk
set_option maxRecDepth 100000
attribute [local irreducible] Cs Own Ex Pu Yld RT LJ QJ AtQ CT Rd QSp Sp FinQ Then LoopQ CutQ DT TakeQ EffQ
variable {B : World} {R : List HP}
/-- (Not to be seen through.) -/
def LeB (x y : Int) : Prop := x ≤ y
def Imp (p q : Prop) : Prop := p → q
set_option maxHeartbeats 16000000 in
theorem mweight_fn (d : Nat) : ∀ {a : Option Addr} {c : Nat} {l : List MsgT} {ah n : Int}, MsgT.deepL l ≤ d → Rd B R a l.length c 7 (l.flatMap MsgT.cells) → l.length ≤ 140737488355328 → MsgT.InL (Rd B R) l → MsgT.OkL l → 0 ≤ n → n ≤ 4503599627370496 → 0 ≤ ah → (n ≤ 16777216 → ah ≤ 281474976710656) →
    Sp B Tryz.prog 31 [.slice a l.length c, .int .i64 ah, .int .i64 n] R [] (fun v H' => (∃ w, v = .int .i64 w ∧ Wt l.length n w ∧ (w ≤ 16777216 → (MsgT.SmL l ∧ MsgT.NmL l ∧ MsgT.FulL l ah) ∧ n + cntMs l ≤ w)) ∧ H' = []) := by
  induction d using Nat.strongRecOn with
  | _ d ih =>
  intro a c l ah n hd hR hk hin hok h0 h1 a0 a1
  refine Sp.body Tryz.func31 rfl Tryz.ntmps31 (by simp) ?_
  simp only [argE, List.cons_append, List.nil_append, Nat.zero_add, Nat.reduceAdd]
  repeat' (first|(refine gv ?_;first|refine RT.id ?_|(refine⟨fun hc=>?_,fun hc=>?_⟩<;>first|(exfalso;omega)|skip)|refine gk ?_|refine num_m fun r hr=>?_|intro r hr)|refine gs ?_|(refine gb ?_;intro b)|refine gn ?_|(refine RT.isPush ?_;refine gp ?_;intro a' c' b' c1' hac)|refine gc ?_|fail)
  refine CT.loop (α := Nat × Int) (fun s => [(0, .slice a l.length c), (1, .int .i64 ah), (2, .int .i64 s.2), (7, .int .i64 s.1)]) (fun s => Pu (s.1 ≤ l.length ∧ n + 8 * s.1 ≤ s.2 ∧ s.2 ≤ max n 4503599627370496 ∧ (s.2 ≤ 16777216 → (∀ e ∈ l.take s.1, MsgT.Sm e ∧ MsgT.Nm e ∧ MsgT.Ful e ah) ∧ n + ((l.take s.1).map cntM).sum ≤ s.2)) :: R) (fun s => l.length - s.1) (0, n)
    ⟨rfl, rfl, rfl, rfl, trivial⟩ (fun w h => Sat.pu_in ⟨Nat.zero_le _, by dsimp only; omega, by dsimp only; omega, fun _ => ⟨fun e he => by simp at he, by simp⟩⟩ h) (fun ⟨i, q⟩ => CT.pu fun ⟨hi, hq1, hq2, hq3⟩ => ?_)
  dsimp only at hi hq1 hq2 hq3 ⊢
  repeat' (first|(refine gv ?_;first|refine RT.id ?_|(refine⟨fun hc=>?_,fun hc=>?_⟩<;>first|(exfalso;omega)|skip)|refine gk ?_|refine num_m fun r hr=>?_|intro r hr)|refine gs ?_|(refine gb ?_;intro b)|refine gn ?_|(refine RT.isPush ?_;refine gp ?_;intro a' c' b' c1' hac)|refine gc ?_|fail)
  · have hil : i < l.length := by omega
    have hgi := List.getElem?_eq_getElem hil
    revert hgi
    generalize l[i] = m
    intro hgi
    have hme := List.mem_of_getElem? hgi
    have hmo := MsgT.okL_mem hok hme
    have hmi := MsgT.inL_mem hin hme
    have hmd := Nat.le_trans (MsgT.deep_mem hme) hd
    obtain ⟨nm, fields, oneofs, ma, mc, msgs, enums, res, names⟩ := m
    unfold MsgT.Ok at hmo
    unfold MsgT.In at hmi
    unfold MsgT.deep at hmd
    obtain ⟨⟨_, en1⟩, ⟨⟨ef1, _⟩, ef2⟩, ⟨⟨eo1, _⟩, eo2⟩, ⟨em1, _⟩, ⟨⟨ee1, _⟩, ee2⟩, ⟨⟨er1, _⟩, er2⟩, ⟨⟨et1, _⟩, et2⟩, em2⟩ := hmo
    obtain ⟨if1, io1, im1, ie1, ie2, ir1, it1, im2⟩ := hmi
    dsimp only at em1
    have ah1 := a1 (by omega)
    clear a1
    have h5 := hq3 (by omega)
    refine RT.ix T (j := i * 7) rfl rfl rfl (by exact hR) (by omega) (by omega) (by omega) rfl rfl ?_
    refine RT.faA T rfl rfl rfl rfl ?_
    refine RT.ldr (u := vS nm) T rfl (by exact hR) (by rw [flat_get (f := MsgT.cells) (z := 7) (fun _ => rfl) hgi (by decide)]; rfl) rfl rfl rfl ?_
    repeat' (first|(refine gv ?_;first|refine RT.id ?_|(refine⟨fun hc=>?_,fun hc=>?_⟩<;>first|(exfalso;omega)|skip)|refine gk ?_|refine num_m fun r hr=>?_|intro r hr)|refine gs ?_|(refine gb ?_;intro b)|refine gn ?_|(refine RT.isPush ?_;refine gp ?_;intro a' c' b' c1' hac)|refine gc ?_|fail)
    obtain ⟨full, hfull⟩ : ∃ full, full = ah + (nm.length : Int) + 1 := ⟨_, rfl⟩
    rw [← hfull]
    refine RT.ix T (j := i * 7) rfl rfl rfl (by exact hR) (by omega) (by omega) (by omega) rfl rfl ?_
    refine RT.faA T rfl rfl rfl rfl ?_
    refine RT.ldr (u := res.v) T rfl (by exact hR) (by rw [flat_get (f := MsgT.cells) (z := 7) (fun _ => rfl) hgi (by decide)]; rfl) rfl rfl rfl ?_
    repeat' (first|(refine gv ?_;first|refine RT.id ?_|(refine⟨fun hc=>?_,fun hc=>?_⟩<;>first|(exfalso;omega)|skip)|refine gk ?_|refine num_m fun r hr=>?_|intro r hr)|refine gs ?_|(refine gb ?_;intro b)|refine gn ?_|(refine RT.isPush ?_;refine gp ?_;intro a' c' b' c1' hac)|refine gc ?_|fail)
    obtain ⟨q0, hq0⟩ : ∃ q0, q0 = q + 200 + full + 8 * (res.l.length : Int) := ⟨_, rfl⟩
    rw [← hq0]
    refine CT.loop (α := Nat × Int) (fun s => [(0, .slice a l.length c), (1, .int .i64 ah), (2, .int .i64 s.2), (7, .int .i64 i), (8, .int .i64 full), (9, .int .i64 s.1)]) (fun s => Pu (s.1 ≤ fields.l.length ∧ q0 + 8 * s.1 ≤ s.2 ∧ s.2 ≤ 4503599627370496 ∧ (s.2 ≤ 16777216 → ∀ f ∈ fields.l.take s.1, FNm f)) :: R) (fun s => fields.l.length - s.1) (0, q0)
      ⟨rfl, rfl, rfl, rfl, rfl, rfl, trivial⟩ (fun w h => Sat.pu_in ⟨Nat.zero_le _, by dsimp only; omega, by dsimp only; omega, fun _ e he => by simp at he⟩ h) (fun ⟨k, p⟩ => CT.pu fun ⟨hk1, hp1, hp2, hp3⟩ => ?_)
    dsimp only at hk1 hp1 hp2 hp3 ⊢
    repeat' (first|(refine gv ?_;first|refine RT.id ?_|(refine⟨fun hc=>?_,fun hc=>?_⟩<;>first|(exfalso;omega)|skip)|refine gk ?_|refine num_m fun r hr=>?_|intro r hr)|refine gs ?_|(refine gb ?_;intro b)|refine gn ?_|(refine RT.isPush ?_;refine gp ?_;intro a' c' b' c1' hac)|refine gc ?_|fail)
    refine RT.ix T (j := i * 7) rfl rfl rfl (by exact hR) (by omega) (by omega) (by omega) rfl rfl ?_
    refine RT.faA T rfl rfl rfl rfl ?_
    refine RT.ldr (u := fields.v) T rfl (by exact hR) (by rw [flat_get (f := MsgT.cells) (z := 7) (fun _ => rfl) hgi (by decide)]; rfl) rfl rfl rfl ?_
    repeat' (first|(refine gv ?_;first|refine RT.id ?_|(refine⟨fun hc=>?_,fun hc=>?_⟩<;>first|(exfalso;omega)|skip)|refine gk ?_|refine num_m fun r hr=>?_|intro r hr)|refine gs ?_|(refine gb ?_;intro b)|refine gn ?_|(refine RT.isPush ?_;refine gp ?_;intro a' c' b' c1' hac)|refine gc ?_|fail)
    · have hkl : k < fields.l.length := by omega
      have hgk := List.getElem?_eq_getElem hkl
      revert hgk
      generalize fields.l[k] = fd
      intro hgk
      obtain ⟨⟨_, fo1⟩, _, _, _, ⟨_, fo2⟩, _, _, _, ⟨_, fo3⟩⟩ := ef2 fd (List.mem_of_getElem? hgk)
      refine RT.ix T (j := i * 7) rfl rfl rfl (by exact hR) (by omega) (by omega) (by omega) rfl rfl ?_
      refine RT.faA T rfl rfl rfl rfl ?_
      refine RT.ldr (u := fields.v) T rfl (by exact hR) (by rw [flat_get (f := MsgT.cells) (z := 7) (fun _ => rfl) hgi (by decide)]; rfl) rfl rfl rfl ?_
      repeat' (first|(refine gv ?_;first|refine RT.id ?_|(refine⟨fun hc=>?_,fun hc=>?_⟩<;>first|(exfalso;omega)|skip)|refine gk ?_|refine num_m fun r hr=>?_|intro r hr)|refine gs ?_|(refine gb ?_;intro b)|refine gn ?_|(refine RT.isPush ?_;refine gp ?_;intro a' c' b' c1' hac)|refine gc ?_|fail)
      refine RT.ix T (j := k * 9) rfl rfl rfl (by exact if1) (by omega) (by omega) (by omega) rfl rfl ?_
      refine RT.ldra T rfl (by exact if1) (l := fd.cells) (flat_sub (f := FieldT.cells) (z := 9) (fun _ => rfl) fields.l k _ hgk) rfl rfl rfl rfl ?_
      repeat' (first|(refine gv ?_;first|refine RT.id ?_|(refine⟨fun hc=>?_,fun hc=>?_⟩<;>first|(exfalso;omega)|skip)|refine gk ?_|refine num_m fun r hr=>?_|intro r hr)|refine gs ?_|(refine gb ?_;intro b)|refine gn ?_|(refine RT.isPush ?_;refine gp ?_;intro a' c' b' c1' hac)|refine gt ?_|refine gc ?_|fail)
      exact AtQ.loop (k + 1, p + 120 + full + (fd.nm.length : Int) + (fd.ty.length : Int) + (fd.js.length : Int)) ⟨rfl, rfl, rfl, rfl, rfl, rfl, trivial⟩ (fun w h => Sat.pu_in ⟨by omega, by dsimp only; omega, by dsimp only; omega, fun hw => by dsimp only at hw; exact sm_take hgk (hp3 (by omega)) (by unfold FNm; omega)⟩ h.tail) (by dsimp only; omega)
    all_goals
      have hend : Imp (p ≤ 16777216) (k = fields.l.length) := fun h => by omega
      refine CT.loop (α := Nat × Int) (fun s => [(0, .slice a l.length c), (1, .int .i64 ah), (2, .int .i64 s.2), (7, .int .i64 i), (8, .int .i64 full), (11, .int .i64 s.1)]) (fun s => Pu (s.1 ≤ oneofs.l.length ∧ LeB (p + 8 * s.1) s.2 ∧ 0 ≤ s.2 ∧ s.2 ≤ 4503599627370496 ∧ (s.2 ≤ 16777216 → SmT (oneofs.l.take s.1))) :: R) (fun s => oneofs.l.length - s.1) (0, p)
        ⟨rfl, rfl, rfl, rfl, rfl, rfl, trivial⟩ (fun w h => Sat.pu_in ⟨Nat.zero_le _, by unfold LeB; dsimp only; omega, by dsimp only; omega, by dsimp only; omega, fun _ e he => by simp at he⟩ h) (fun ⟨j, o⟩ => CT.pu fun ⟨hj1, ho1, ho0, ho2, ho3⟩ => ?_)
      dsimp only at hj1 ho1 ho0 ho2 ho3 ⊢
      repeat' (first|(refine gv ?_;first|refine RT.id ?_|(refine⟨fun hc=>?_,fun hc=>?_⟩<;>first|(exfalso;omega)|skip)|refine gk ?_|refine num_m fun r hr=>?_|intro r hr)|refine gs ?_|(refine gb ?_;intro b)|refine gn ?_|(refine RT.isPush ?_;refine gp ?_;intro a' c' b' c1' hac)|refine gc ?_|fail)
      refine RT.ix T (j := i * 7) rfl rfl rfl (by exact hR) (by omega) (by omega) (by omega) rfl rfl ?_
      refine RT.faA T rfl rfl rfl rfl ?_
      refine RT.ldr (u := oneofs.v) T rfl (by exact hR) (by rw [flat_get (f := MsgT.cells) (z := 7) (fun _ => rfl) hgi (by decide)]; rfl) rfl rfl rfl ?_
      repeat' (first|(refine gv ?_;first|refine RT.id ?_|(refine⟨fun hc=>?_,fun hc=>?_⟩<;>first|(exfalso;omega)|skip)|refine gk ?_|refine num_m fun r hr=>?_|intro r hr)|refine gs ?_|(refine gb ?_;intro b)|refine gn ?_|(refine RT.isPush ?_;refine gp ?_;intro a' c' b' c1' hac)|refine gc ?_|fail)
      · have hjl : j < oneofs.l.length := by omega
        have hto := (eo2 oneofs.l[j] (List.getElem_mem hjl)).2
        refine RT.ix T (j := i * 7) rfl rfl rfl (by exact hR) (by omega) (by omega) (by omega) rfl rfl ?_
        refine RT.faA T rfl rfl rfl rfl ?_
        refine RT.ldr (u := oneofs.v) T rfl (by exact hR) (by rw [flat_get (f := MsgT.cells) (z := 7) (fun _ => rfl) hgi (by decide)]; rfl) rfl rfl rfl ?_
        repeat' (first|(refine gv ?_;first|refine RT.id ?_|(refine⟨fun hc=>?_,fun hc=>?_⟩<;>first|(exfalso;omega)|skip)|refine gk ?_|refine num_m fun r hr=>?_|intro r hr)|refine gs ?_|(refine gb ?_;intro b)|refine gn ?_|(refine RT.isPush ?_;refine gp ?_;intro a' c' b' c1' hac)|refine gc ?_|fail)
        refine RT.ix T (j := j) rfl rfl rfl (by exact io1) (by omega) (by omega) (by omega) rfl rfl ?_
        refine RT.ldr T rfl (by exact io1) (map_get hjl) rfl rfl rfl ?_
        repeat' (first|(refine gv ?_;first|refine RT.id ?_|(refine⟨fun hc=>?_,fun hc=>?_⟩<;>first|(exfalso;omega)|skip)|refine gk ?_|refine num_m fun r hr=>?_|intro r hr)|refine gs ?_|(refine gb ?_;intro b)|refine gn ?_|(refine RT.isPush ?_;refine gp ?_;intro a' c' b' c1' hac)|refine gc ?_|fail)
        exact AtQ.loop (j + 1, o + 80 + full + (oneofs.l[j].length : Int)) ⟨rfl, rfl, rfl, rfl, rfl, rfl, trivial⟩ (fun w h => Sat.pu_in ⟨by omega, by unfold LeB at *; dsimp only; omega, by dsimp only; omega, by dsimp only; omega, fun hw => by unfold LeB at *; dsimp only at hw; exact sm_take (List.getElem?_eq_getElem hjl) (ho3 (by omega)) (by omega)⟩ h) (by dsimp only; omega)
      all_goals
        unfold LeB at ho1
        have hend2 : Imp (o ≤ 16777216) (j = oneofs.l.length) := fun h => by omega
        refine RT.ix T (j := i * 7) rfl rfl rfl (by exact hR) (by omega) (by omega) (by omega) rfl rfl ?_
        refine RT.faA T rfl rfl rfl rfl ?_
        refine RT.ldr (u := names.v) T rfl (by exact hR) (by rw [flat_get (f := MsgT.cells) (z := 7) (fun _ => rfl) hgi (by decide)]; rfl) rfl rfl rfl ?_
        repeat' (first|(refine gv ?_;first|refine RT.id ?_|(refine⟨fun hc=>?_,fun hc=>?_⟩<;>first|(exfalso;omega)|skip)|refine gk ?_|refine num_m fun r hr=>?_|intro r hr)|refine gs ?_|(refine gb ?_;intro b)|refine gn ?_|(refine RT.isPush ?_;refine gp ?_;intro a' c' b' c1' hac)|refine gc ?_|fail)
        refine RT.call T rfl (by (repeat (first|exact Fr.nil|(apply Fr.cons;focus ((repeat constructor);done))))) (tweight_fn (r := names) (n := o) it1 et1 et2 (by omega) (by omega)) rfl rfl rfl ?_
        rintro _ _ ⟨⟨w1, rfl, ⟨hw1, hw2, hw3⟩, hw4⟩, rfl⟩
        try simp only [List.cons_append, List.nil_append]
        repeat' (first|(refine gv ?_;first|refine RT.id ?_|(refine⟨fun hc=>?_,fun hc=>?_⟩<;>first|(exfalso;omega)|skip)|refine gk ?_|refine num_m fun r hr=>?_|intro r hr)|refine gs ?_|(refine gb ?_;intro b)|refine gn ?_|(refine RT.isPush ?_;refine gp ?_;intro a' c' b' c1' hac)|refine gc ?_|fail)
        refine RT.ix T (j := i * 7) rfl rfl rfl (by exact hR) (by omega) (by omega) (by omega) rfl rfl ?_
        refine RT.faA T rfl rfl rfl rfl ?_
        refine RT.ldr (u := enums.v) T rfl (by exact hR) (by rw [flat_get (f := MsgT.cells) (z := 7) (fun _ => rfl) hgi (by decide)]; rfl) rfl rfl rfl ?_
        repeat' (first|(refine gv ?_;first|refine RT.id ?_|(refine⟨fun hc=>?_,fun hc=>?_⟩<;>first|(exfalso;omega)|skip)|refine gk ?_|refine num_m fun r hr=>?_|intro r hr)|refine gs ?_|(refine gb ?_;intro b)|refine gn ?_|(refine RT.isPush ?_;refine gp ?_;intro a' c' b' c1' hac)|refine gc ?_|fail)
        refine RT.call T rfl (by (repeat (first|exact Fr.nil|(apply Fr.cons;focus ((repeat constructor);done))))) (eweight_fn (r := enums) (ah := full) (n := w1) ie1 ee1 ie2 ee2 (by omega) (by omega) (by omega) (fun h => by omega)) rfl rfl rfl ?_
        rintro _ _ ⟨⟨w2, rfl, ⟨hx1, hx2, hx3⟩, hx4⟩, rfl⟩
        try simp only [List.cons_append, List.nil_append]
        repeat' (first|(refine gv ?_;first|refine RT.id ?_|(refine⟨fun hc=>?_,fun hc=>?_⟩<;>first|(exfalso;omega)|skip)|refine gk ?_|refine num_m fun r hr=>?_|intro r hr)|refine gs ?_|(refine gb ?_;intro b)|refine gn ?_|(refine RT.isPush ?_;refine gp ?_;intro a' c' b' c1' hac)|refine gc ?_|fail)
        refine RT.ix T (j := i * 7) rfl rfl rfl (by exact hR) (by omega) (by omega) (by omega) rfl rfl ?_
        refine RT.faA T rfl rfl rfl rfl ?_
        refine RT.ldr (u := .slice ma msgs.length mc) T rfl (by exact hR) (by rw [flat_get (f := MsgT.cells) (z := 7) (fun _ => rfl) hgi (by decide)]; rfl) rfl rfl rfl ?_
        repeat' (first|(refine gv ?_;first|refine RT.id ?_|(refine⟨fun hc=>?_,fun hc=>?_⟩<;>first|(exfalso;omega)|skip)|refine gk ?_|refine num_m fun r hr=>?_|intro r hr)|refine gs ?_|(refine gb ?_;intro b)|refine gn ?_|(refine RT.isPush ?_;refine gp ?_;intro a' c' b' c1' hac)|refine gc ?_|fail)
        refine RT.call T rfl (by (repeat (first|exact Fr.nil|(apply Fr.cons;focus ((repeat constructor);done))))) (ih (MsgT.deepL msgs) (by omega) (Nat.le_refl _) im1 em1 im2 em2 (by omega) (by omega) (by omega) (fun h => by omega)) rfl rfl rfl ?_
        rintro _ _ ⟨⟨w3, rfl, ⟨hy1, hy2, hy3⟩, hy4⟩, rfl⟩
        try simp only [List.cons_append, List.nil_append]
        repeat' (first|(refine gv ?_;first|refine RT.id ?_|(refine⟨fun hc=>?_,fun hc=>?_⟩<;>first|(exfalso;omega)|skip)|refine gk ?_|refine num_m fun r hr=>?_|intro r hr)|refine gs ?_|(refine gb ?_;intro b)|refine gn ?_|(refine RT.isPush ?_;refine gp ?_;intro a' c' b' c1' hac)|refine gc ?_|fail)
        exact AtQ.loop (i + 1, w3) ⟨rfl, rfl, rfl, rfl, trivial⟩ (fun _ h => Sat.pu_in ⟨by omega, by dsimp only; omega, by dsimp only; omega, fun hw => by
          have hw : w3 ≤ 16777216 := hw
          have a1 := hend (by omega)
          have a2 := hend2 (by omega)
          have a3 := hw3 (by omega)
          have a4 := hx3 (by omega)
          have a5 := hy3 (by omega)
          have b1 := hp3 (by omega)
          rw [List.take_of_length_le (by omega)] at b1
          have b2 := ho3 (by omega)
          rw [List.take_of_length_le (by omega)] at b2
          obtain ⟨b3, c3⟩ := hx4 (by omega)
          obtain ⟨b4, c4⟩ := hy4 (by omega)
          have b5 := hw4 (by omega)
          refine ⟨sm_take hgi h5.1 ?_, cb_take hgi h5.2 (by unfold cntM; dsimp only; omega)⟩
          unfold MsgT.Sm MsgT.Nm MsgT.Ful
          exact ⟨⟨by omega, by omega, by omega, by omega, by omega, fun e he => (b3 e he).1, by omega, b4.1⟩, ⟨by omega, b1, b2, b5, fun e he => (b3 e he).2, b4.2.1⟩, by omega, by rw [← hfull]; exact b4.2.2⟩⟩ h) (by dsimp only; omega)
  · exact AtQ.fin1 Tryz.results31 rfl ⟨⟨q, rfl, by unfold Wt; omega, fun h => by omega⟩, rfl⟩ (fun w h => h)
  · exact AtQ.fin1 Tryz.results31 rfl ⟨⟨q, rfl, by unfold Wt; omega, fun h => by have h6 := hq3 h; rw [List.take_of_length_le (by omega)] at h6; exact ⟨⟨MsgT.smL_of fun e he => (h6.1 e he).1, MsgT.nmL_of fun e he => (h6.1 e he).2.1, MsgT.fulL_of fun e he => (h6.1 e he).2.2⟩, by rw [cntMs_eq]; exact h6.2⟩⟩, rfl⟩ (fun w h => h)
  --@
end Go.Proofs.YtdemnhdoadjhhaaGreatDoor
end
section
namespace Go.Sk
section
variable {X Y : Option Addr → Nat → Nat → Nat → List Value → Prop}
theorem EnumT.In.mono (h : ∀ a k c z xs, X a k c z xs → Y a k c z xs) {e : EnumT} (hi : e.In X) : e.In Y := ⟨h _ _ _ _ _ hi.1, h _ _ _ _ _ hi.2.1, h _ _ _ _ _ hi.2.2⟩
mutual
theorem MsgT.In.mono (h : ∀ a k c z xs, X a k c z xs → Y a k c z xs) : ∀ {m : MsgT}, MsgT.In X m → MsgT.In Y m
  | .mk nm fields oneofs ma mc msgs enums res names, hi => by
    unfold MsgT.In at hi ⊢
    obtain ⟨h1, h2, h3, h4, h5, h6, h7, h8⟩ := hi
    exact ⟨h _ _ _ _ _ h1, h _ _ _ _ _ h2, h _ _ _ _ _ h3, h _ _ _ _ _ h4, fun e he => (h5 e he).mono h, h _ _ _ _ _ h6, h _ _ _ _ _ h7, MsgT.InL.mono h h8⟩
theorem MsgT.InL.mono (h : ∀ a k c z xs, X a k c z xs → Y a k c z xs) : ∀ {l : List MsgT}, MsgT.InL X l → MsgT.InL Y l
  | [], _ => by unfold MsgT.InL; trivial
  | m :: l, hi => by
    unfold MsgT.InL at hi ⊢
    exact ⟨MsgT.In.mono h hi.1, MsgT.InL.mono h hi.2⟩
end
theorem FileT.In.mono (h : ∀ a k c z xs, X a k c z xs → Y a k c z xs) {f : FileT} (hi : f.In X) : f.In Y :=
  ⟨h _ _ _ _ _ hi.imps, h _ _ _ _ _ hi.msgs, fun m hm => MsgT.In.mono h (hi.sub m hm), h _ _ _ _ _ hi.enums, fun e he => (hi.esub e he).mono h⟩
end
end Go.Sk
end
section
namespace Go.Proofs.YtdemnhdoadjhhaaGreatDoor
open Go.Sk
set_option maxRecDepth 100000
attribute [local irreducible] Cs Own Ex Pu Yld RT LJ QJ AtQ CT Rd QSp Sp FinQ Then LoopQ CutQ DT TakeQ EffQ
variable {B : World} {R : List HP}
structure FSm (f : FileT) : Prop where
  imps : f.imps.l.length ≤ 2097152
  msgs : f.msgs.length ≤ 2097152
  sub : MsgT.SmL f.msgs
  enums : f.enums.l.length ≤ 2097152
  esub : ∀ e ∈ f.enums.l, ESm e
  nms : MsgT.NmL f.msgs
  pk : f.pack.length ≤ 16777216
  enm : ∀ e ∈ f.enums.l, ENm e
  ful : MsgT.FulL f.msgs (f.pack.length + 1)
  cnt : cntMs f.msgs + (f.enums.l.map cntE).sum ≤ 16777216
/-- Its names are short. -/
structure FNs (f : FileT) : Prop where
  nms : MsgT.NmL f.msgs
  pk : f.pack.length ≤ 16777216
  enm : ∀ e ∈ f.enums.l, ENm e
theorem FSm.ns {f : FileT} (h : FSm f) : FNs f := ⟨h.nms, h.pk, h.enm⟩
theorem weight_fn {f : FileT} (hi : f.In (Rd B R)) (ho : f.Ok) :
    Sp B Tryz.prog 9 [.agg f.cells.toArray] R [] (fun v H' => (∃ w, v = .int .i64 w ∧ 0 ≤ w ∧ (w ≤ 16777216 → FSm f)) ∧ H' = []) := by
  obtain ⟨⟨_, hp1⟩, ⟨_, hp2⟩, ⟨⟨hi1, _⟩, hi2⟩, ⟨⟨hm1, _⟩, hm2⟩, ⟨⟨he1, _⟩, he2⟩⟩ := ho
  dsimp only at hm1
  refine Sp.body Tryz.func9 rfl Tryz.ntmps9 (by simp) ?_
  simp only [argE, List.cons_append, List.nil_append, Nat.zero_add, Nat.reduceAdd]
  repeat' (first|(refine gv ?_;first|refine RT.id ?_|(refine⟨fun hc=>?_,fun hc=>?_⟩<;>first|(exfalso;omega)|skip)|refine gk ?_|refine num_m fun r hr=>?_|intro r hr)|refine gs ?_|(refine gb ?_;intro b)|refine gn ?_|(refine RT.isPush ?_;refine gp ?_;intro a' c' b' c1' hac)|refine gc ?_|fail)
  have him := FileT.In.mono (Y := Rd B (Cs b 26 f.cells :: R)) (fun a k c z xs h => Rd.cons h) hi
  obtain ⟨q0, hq0⟩ : ∃ q0, q0 = 100 + (f.path.length : Int) + (f.pack.length : Int) := ⟨_, rfl⟩
  rw [← hq0]
  refine CT.loop (α := Nat × Int) (fun s => [(1, .pointer (some ⟨b, 0, none⟩)), (3, .int .i64 s.2), (4, .int .i64 s.1)]) (fun s => Pu (s.1 ≤ f.imps.l.length ∧ q0 + 8 * s.1 ≤ s.2 ∧ s.2 ≤ 4503599627370496) :: Cs b 26 f.cells :: R) (fun s => f.imps.l.length - s.1) (0, q0)
    ⟨rfl, rfl, rfl, trivial⟩ (fun w h => Sat.pu_in ⟨Nat.zero_le _, by dsimp only; omega, by dsimp only; omega⟩ h) (fun ⟨i, q⟩ => CT.pu fun ⟨hi1, hq1, hq2⟩ => ?_)
  dsimp only at hi1 hq1 hq2 ⊢
  repeat' (first|(refine gv ?_;first|refine RT.id ?_|(refine⟨fun hc=>?_,fun hc=>?_⟩<;>first|(exfalso;omega)|skip)|refine gk ?_|refine num_m fun r hr=>?_|intro r hr)|refine gs ?_|(refine gb ?_;intro b)|refine gn ?_|(refine RT.isPush ?_;refine gp ?_;intro a' c' b' c1' hac)|refine gc ?_|fail)
  · have hil : i < f.imps.l.length := by omega
    have hgi := List.getElem?_eq_getElem hil
    revert hgi
    generalize f.imps.l[i] = im
    intro hgi
    have hto := (hi2 im (List.mem_of_getElem? hgi)).2
    refine RT.ix T (j := i * 2) rfl rfl rfl (by exact him.imps) (by omega) (by omega) (by omega) rfl rfl ?_
    refine RT.faA T rfl rfl rfl rfl ?_
    refine RT.ldr (u := vS im.path) T rfl (by exact him.imps) (by rw [flat_get (f := ImpT.cells) (z := 2) (fun _ => rfl) hgi (by decide)]; rfl) rfl rfl rfl ?_
    repeat' (first|(refine gv ?_;first|refine RT.id ?_|(refine⟨fun hc=>?_,fun hc=>?_⟩<;>first|(exfalso;omega)|skip)|refine gk ?_|refine num_m fun r hr=>?_|intro r hr)|refine gs ?_|(refine gb ?_;intro b)|refine gn ?_|(refine RT.isPush ?_;refine gp ?_;intro a' c' b' c1' hac)|refine gc ?_|fail)
    exact AtQ.loop (i + 1, q + 20 + (im.path.length : Int)) ⟨rfl, rfl, rfl, trivial⟩ (fun w h => Sat.pu_in ⟨by omega, by dsimp only; omega, by dsimp only; omega⟩ h) (by dsimp only; omega)
  all_goals
    have hend : q ≤ 16777216 → i = f.imps.l.length := fun h => by omega
    refine RT.call T rfl (by (repeat (first|exact Fr.nil|(apply Fr.cons;focus ((repeat constructor);done))))) (mweight_fn (R := Cs b 26 f.cells :: R) (ah := (f.pack.length : Int) + 1) (n := q) _ (Nat.le_refl _) him.msgs hm1 (MsgT.inL_of him.sub) (MsgT.okL_of hm2) (by omega) (by omega) (by omega) (fun h => by omega)) rfl rfl rfl ?_
    rintro _ _ ⟨⟨w2, rfl, ⟨hx1, hx2, hx3⟩, hx4⟩, rfl⟩
    try simp only [List.cons_append, List.nil_append]
    repeat' (first|(refine gv ?_;first|refine RT.id ?_|(refine⟨fun hc=>?_,fun hc=>?_⟩<;>first|(exfalso;omega)|skip)|refine gk ?_|refine num_m fun r hr=>?_|intro r hr)|refine gs ?_|(refine gb ?_;intro b)|refine gn ?_|(refine RT.isPush ?_;refine gp ?_;intro a' c' b' c1' hac)|refine gc ?_|fail)
    refine RT.call T rfl (by (repeat (first|exact Fr.nil|(apply Fr.cons;focus ((repeat constructor);done))))) (eweight_fn (R := Cs b 26 f.cells :: R) (r := f.enums) (ah := (f.pack.length : Int) + 1) (n := w2) him.enums he1 him.esub he2 (by omega) (by omega) (by omega) (fun h => by omega)) rfl rfl rfl ?_
    rintro _ _ ⟨⟨w3, rfl, ⟨hy1, hy2, hy3⟩, hy4⟩, rfl⟩
    try simp only [List.cons_append, List.nil_append]
    repeat' (first|(refine gv ?_;first|refine RT.id ?_|(refine⟨fun hc=>?_,fun hc=>?_⟩<;>first|(exfalso;omega)|skip)|refine gk ?_|refine num_m fun r hr=>?_|intro r hr)|refine gs ?_|(refine gb ?_;intro b)|refine gn ?_|(refine RT.isPush ?_;refine gp ?_;intro a' c' b' c1' hac)|refine gc ?_|fail)
    exact AtQ.fin1 Tryz.results9 rfl ⟨⟨w3, rfl, by omega, fun h => by
      have a1 := hend (by omega)
      have a3 := hx3 (by omega)
      have a4 := hy3 (by omega)
      obtain ⟨a5, a6⟩ := hx4 (by omega)
      obtain ⟨a7, a8⟩ := hy4 (by omega)
      exact ⟨by omega, by omega, a5.1, by omega, fun e he => (a7 e he).1, a5.2.1, by omega, fun e he => (a7 e he).2, a5.2.2, by omega⟩⟩, rfl⟩ (fun w h => h.tail)
end Go.Proofs.YtdemnhdoadjhhaaGreatDoor
end
section
namespace Go.Proofs.YtdemnhdoadjhhaaGreatDoor
open Go.Sk
set_option maxRecDepth 100000
theorem Rd.pre {B : World} {H : List HP} {a : Option Addr} {k c sz j : Nat} {xs : List Value} (h : Rd B H a k c sz xs) (hj : j ≤ k) : Rd B H a j c sz (xs.take (j * sz)) := by
  have := Rd.sub (i := 0) (j := j) h (Nat.zero_le _) hj
  rw [asub_z] at this
  simpa using this
theorem flat_take {α : Type} {f : α → List Value} {z : Nat} (hz : ∀ x, (f x).length = z) {l : List α} {i : Nat} (h : i ≤ l.length) : (l.flatMap f).take (i * z) = (l.take i).flatMap f := by
  have h1 : l.flatMap f = (l.take i).flatMap f ++ (l.drop i).flatMap f := by rw [← List.flatMap_append, List.take_append_drop]
  have h2 : ((l.take i).flatMap f).length = i * z := by rw [flat_len hz, List.length_take, Nat.min_eq_left h]
  rw [h1, ← h2, List.take_left']
  rfl
theorem Rd.flatPre {B : World} {H : List HP} {α : Type} {f : α → List Value} {a : Option Addr} {k c sz j : Nat} {l : List α} (hz : ∀ x, (f x).length = sz) (h : Rd B H a k c sz (l.flatMap f)) (hk : l.length = k) (hj : j ≤ k) : Rd B H a j c sz ((l.take j).flatMap f) := by
  have := Rd.pre h hj
  rwa [flat_take hz (by omega)] at this
/-- Names that are given, as a map that counts. -/
def gvl (g : List Txt) : List (Value × Value) := g.map fun x => (vS x, .int .i64 1)
theorem gv_in {g : List Txt} {x : Txt} (h : x ∈ g) : ∃ i : Nat, (gvl g)[i]? = some (vS x, Value.int .i64 1) := by
  obtain ⟨i, hi, rfl⟩ := List.getElem_of_mem h
  exact ⟨i, by unfold gvl; rw [List.getElem?_map, List.getElem?_eq_getElem hi]; rfl⟩
theorem vS_inj {x y : Txt} (hx : Byt x) (hy : Byt y) (h : vS x = vS y) : x = y := by
  injection h with h
  exact (str_inj hx hy).1 h
theorem gv_no {g : List Txt} {x : Txt} (hg : ∀ y ∈ g, Byt y) (hx : Byt x) (h : x ∉ g) : MGet (gvl g) (vS x) none := fun y hy => by
  unfold gvl at hy
  obtain ⟨z, hz, rfl⟩ := List.mem_map.1 hy
  intro e
  exact h (vS_inj (hg z hz) hx e ▸ hz)
theorem gv_push {g : List Txt} {x : Txt} : gvl g ++ [(vS x, .int .i64 1)] = gvl (g ++ [x]) := by simp [gvl]
/-- The reader and its map. -/
abbrev rdr (br bm : Nat) : HP := Cs br 104 [.map (some bm)]
abbrev giv (bm : Nat) (g : List Txt) : HP := Mp .string bm (gvl g)
abbrev BL (l : List Txt) : Prop := ∀ y ∈ l, Byt y
theorem BL.push {l : List Txt} {x : Txt} (h : BL l) (hx : Byt x) : BL (l ++ [x]) := fun y hy => by
  rcases List.mem_append.1 hy with hy | hy
  · exact h y hy
  · rw [List.mem_singleton.1 hy]; exact hx
theorem b2 {x y : Txt} (hx : Byt x) (hy : Byt y) : ∀ l ∈ [x, y], Byt l := fun l hl => by
  rcases List.mem_cons.1 hl with rfl | hl
  · exact hx
  · rw [List.mem_singleton.1 hl]; exact hy
theorem j2_byt {x y : Txt} (hx : Byt x) (hy : Byt y) : Byt (joinL [x, y]) := joinS_byt (filt_mem (b2 hx hy))
theorem s2 (x y : Txt) : sumL [x, y] = x.length + y.length := by simp [sumL]
theorem j2_len {x y : Txt} : (joinL [x, y]).length ≤ x.length + y.length + 2 := by
  have h1 := joinS_len (filt [x, y])
  obtain ⟨h2, h3⟩ := filt_sum [x, y]
  rw [h2, s2] at h1
  unfold joinL
  simp only [List.length_cons, List.length_nil] at h3
  omega
/-- It goes on with more names given, or is given up. -/
abbrev PostR (r : Rs) (ps : List HP) (bm : Nat) : Value → List HP → Prop := fun _ H' => ∃ g, r = .ok g ∧ BL g ∧ H' = ps ++ [giv bm g]
abbrev PPR (r : Rs) : Value → List HP → Prop := fun v H' => ∃ e t, r = .error (e, t) ∧ v = wv e t ∧ H' = []
abbrev PostO (r : Option Flt) : Value → List HP → Prop := fun _ H' => r = none ∧ H' = []
abbrev PPO (r : Option Flt) : Value → List HP → Prop := fun v H' => ∃ e t, r = some (e, t) ∧ v = wv e t ∧ H' = []
attribute [local irreducible] Cs Own Ex Pu Yld RT LJ QJ AtQ CT Rd QSp Sp FinQ Then LoopQ CutQ DT TakeQ EffQ
variable {B : World} {R : List HP}
set_option maxHeartbeats 1000000 in
theorem give_fn {br bm : Nat} {g : List Txt} {nm full : Txt} (hg : BL g) (hn : Byt nm) (hf : Byt full) (hnl : nm.length ≤ 16777216) (hfl : full.length ≤ 140737488355327) :
    SpP B Tryz.prog 115 [ptr br, vS nm, vS full] R [rdr br bm, giv bm g] (PostR (giveR nm full g) [rdr br bm] bm) (PPR (giveR nm full g)) := by
  refine SpP.body Tryz.func115 rfl Tryz.ntmps115 (by simp) ?_
  simp only [argE, List.cons_append, List.nil_append, Nat.zero_add, Nat.reduceAdd]
  repeat' (first|(refine gv ?_;first|refine RT.id ?_|(refine⟨fun hc=>?_,fun hc=>?_⟩<;>first|(exfalso;omega)|skip)|refine gk ?_|refine num_m fun r hr=>?_|intro r hr)|refine gs ?_|(refine gb ?_;intro b)|refine gn ?_|(refine RT.isPush ?_;refine gp ?_;intro a' c' b' c1' hac)|refine gc ?_|fail)
  (refine RT.call T rfl fR_ (ident_fn hn (by omega)) rfl rfl rfl ?_; rintro _ _ ⟨rfl, rfl⟩; try simp only [List.cons_append, List.nil_append])
  cases hi : identB nm
  · repeat' (first|(refine gv ?_;first|refine RT.id ?_|(refine⟨fun hc=>?_,fun hc=>?_⟩<;>first|(exfalso;omega)|skip)|refine gk ?_|refine num_m fun r hr=>?_|intro r hr)|refine gs ?_|(refine gb ?_;intro b)|refine gn ?_|(refine RT.isPush ?_;refine gp ?_;intro a' c' b' c1' hac)|refine gc ?_|fail)
    (refine RT.callP T rfl fR_ (must_fn (p := false) (e := 60) (t := full)) rfl rfl rfl (fun v H1 hp => ?_) (fun v H1 hp => ?_))
    · obtain ⟨_, rfl, rfl⟩ := hp
      ((repeat refine nx ?_); exact AtQ.finP (H' := []) ⟨60, full, by unfold giveR; rw [hi]; rfl, rfl, rfl⟩ dR_)
    · cases hp.1
  · repeat' (first|(refine gv ?_;first|refine RT.id ?_|(refine⟨fun hc=>?_,fun hc=>?_⟩<;>first|(exfalso;omega)|skip)|refine gk ?_|refine num_m fun r hr=>?_|intro r hr)|refine gs ?_|(refine gb ?_;intro b)|refine gn ?_|(refine RT.isPush ?_;refine gp ?_;intro a' c' b' c1' hac)|refine gc ?_|fail)
    · (refine RT.callP T rfl fR_ (must_fn (p := true) (e := 60) (t := full)) rfl rfl rfl (fun v H1 hp => ?_) (fun v H1 hp => ?_))
      · cases hp.1
      · obtain ⟨_, rfl⟩ := hp
        have hG : giveR nm full g = must (decide (full ∉ g)) 61 full (.ok (g ++ [full])) := by
          unfold giveR
          rw [must_t (by rw [hi, decide_eq_true (by omega)]; rfl)]
        simp only [List.cons_append, List.nil_append]
        repeat' (first|(refine gv ?_;first|refine RT.id ?_|(refine⟨fun hc=>?_,fun hc=>?_⟩<;>first|(exfalso;omega)|skip)|refine gk ?_|refine num_m fun r hr=>?_|intro r hr)|refine gs ?_|(refine gb ?_;intro b)|refine gn ?_|(refine RT.isPush ?_;refine gp ?_;intro a' c' b' c1' hac)|refine gc ?_|fail)
        by_cases hm : full ∈ g
        · obtain ⟨i, hgi⟩ := gv_in hm
          refine RT.lookup (dk := .string) (r := some (.int .i64 1)) T rfl rfl (by ((repeat constructor);done)) trivial ⟨i, hgi⟩ Tryz.underlying102 Tryz.underlying9 rfl rfl rfl ?_
          dsimp only [Option.getD]
          repeat' (first|(refine gv ?_;first|refine RT.id ?_|(refine⟨fun hc=>?_,fun hc=>?_⟩<;>first|(exfalso;omega)|skip)|refine gk ?_|refine num_m fun r hr=>?_|intro r hr)|refine gs ?_|(refine gb ?_;intro b)|refine gn ?_|(refine RT.isPush ?_;refine gp ?_;intro a' c' b' c1' hac)|refine gc ?_|fail)
          refine RT.mapSet (dk := .string) (l := gvl g) rfl rfl rfl (by ((repeat constructor);done)) trivial hgi Tryz.underlying102 Tryz.underlying9 rfl ?_
          repeat' (first|(refine gv ?_;first|refine RT.id ?_|(refine⟨fun hc=>?_,fun hc=>?_⟩<;>first|(exfalso;omega)|skip)|refine gk ?_|refine num_m fun r hr=>?_|intro r hr)|refine gs ?_|(refine gb ?_;intro b)|refine gn ?_|(refine RT.isPush ?_;refine gp ?_;intro a' c' b' c1' hac)|refine gc ?_|fail)
          refine RT.lookup (dk := .string) (r := some (.int .i64 2)) T rfl rfl (by ((repeat constructor);done)) trivial ⟨i, by rw [List.getElem?_set_self (List.getElem?_eq_some_iff.1 hgi).1]; rfl⟩ Tryz.underlying102 Tryz.underlying9 rfl rfl rfl ?_
          dsimp only [Option.getD]
          repeat' (first|(refine gv ?_;first|refine RT.id ?_|(refine⟨fun hc=>?_,fun hc=>?_⟩<;>first|(exfalso;omega)|skip)|refine gk ?_|refine num_m fun r hr=>?_|intro r hr)|refine gs ?_|(refine gb ?_;intro b)|refine gn ?_|(refine RT.isPush ?_;refine gp ?_;intro a' c' b' c1' hac)|refine gc ?_|fail)
          (refine RT.callP T rfl fR_ (must_fn (p := false) (e := 61) (t := full)) rfl rfl rfl (fun v H1 hp => ?_) (fun v H1 hp => ?_))
          · obtain ⟨_, rfl, rfl⟩ := hp
            ((repeat refine nx ?_); exact AtQ.finP (H' := []) ⟨61, full, by rw [hG]; exact must_f (decide_eq_false (fun h => h hm)), rfl, rfl⟩ dR_)
          · cases hp.1
        · refine RT.lookup (dk := .string) (r := none) T rfl rfl (by ((repeat constructor);done)) trivial (gv_no hg hf hm) Tryz.underlying102 Tryz.underlying9 rfl rfl rfl ?_
          dsimp only [Option.getD]
          repeat' (first|(refine gv ?_;first|refine RT.id ?_|(refine⟨fun hc=>?_,fun hc=>?_⟩<;>first|(exfalso;omega)|skip)|refine gk ?_|refine num_m fun r hr=>?_|intro r hr)|refine gs ?_|(refine gb ?_;intro b)|refine gn ?_|(refine RT.isPush ?_;refine gp ?_;intro a' c' b' c1' hac)|refine gc ?_|fail)
          refine RT.mapNew (dk := .string) (l := gvl g) rfl rfl rfl (by ((repeat constructor);done)) trivial (gv_no hg hf hm) Tryz.underlying102 Tryz.underlying9 rfl ?_
          rw [show (0 : Int) + 1 = 1 from rfl, gv_push]
          obtain ⟨i, hgi⟩ := gv_in (g := g ++ [full]) (x := full) (by simp)
          repeat' (first|(refine gv ?_;first|refine RT.id ?_|(refine⟨fun hc=>?_,fun hc=>?_⟩<;>first|(exfalso;omega)|skip)|refine gk ?_|refine num_m fun r hr=>?_|intro r hr)|refine gs ?_|(refine gb ?_;intro b)|refine gn ?_|(refine RT.isPush ?_;refine gp ?_;intro a' c' b' c1' hac)|refine gc ?_|fail)
          refine RT.lookup (dk := .string) (r := some (.int .i64 1)) T rfl rfl (by ((repeat constructor);done)) trivial ⟨i, hgi⟩ Tryz.underlying102 Tryz.underlying9 rfl rfl rfl ?_
          dsimp only [Option.getD]
          repeat' (first|(refine gv ?_;first|refine RT.id ?_|(refine⟨fun hc=>?_,fun hc=>?_⟩<;>first|(exfalso;omega)|skip)|refine gk ?_|refine num_m fun r hr=>?_|intro r hr)|refine gs ?_|(refine gb ?_;intro b)|refine gn ?_|(refine RT.isPush ?_;refine gp ?_;intro a' c' b' c1' hac)|refine gc ?_|fail)
          (refine RT.callP T rfl fR_ (must_fn (p := true) (e := 61) (t := full)) rfl rfl rfl (fun v H1 hp => ?_) (fun v H1 hp => ?_))
          · cases hp.1
          · obtain ⟨_, rfl⟩ := hp
            repeat' (first|(refine gv ?_;first|refine RT.id ?_|(refine⟨fun hc=>?_,fun hc=>?_⟩<;>first|(exfalso;omega)|skip)|refine gk ?_|refine num_m fun r hr=>?_|intro r hr)|refine gs ?_|(refine gb ?_;intro b)|refine gn ?_|(refine RT.isPush ?_;refine gp ?_;intro a' c' b' c1' hac)|refine gc ?_|fail)
            exact AtQ.ofFinN (AtQ.fin0 Tryz.results115 (H' := [rdr br bm, giv bm (g ++ [full])]) ⟨g ++ [full], by rw [hG]; exact must_t (decide_eq_true hm), hg.push hf, rfl⟩ (fun w h => h) _ (.inl rfl))
    · (refine RT.callP T rfl fR_ (must_fn (p := false) (e := 60) (t := full)) rfl rfl rfl (fun v H1 hp => ?_) (fun v H1 hp => ?_))
      · obtain ⟨_, rfl, rfl⟩ := hp
        ((repeat refine nx ?_); exact AtQ.finP (H' := []) ⟨60, full, by unfold giveR; exact must_f (by rw [decide_eq_false (by omega)]; simp), rfl, rfl⟩ dR_)
      · cases hp.1
set_option maxHeartbeats 1000000 in
theorem spans_fn {r : Rw SpanT} {lo hi : Int} {t : Txt} (hR : Rd B R r.a r.l.length r.c 2 (r.l.flatMap SpanT.cells)) (hk : r.l.length ≤ 140737488355328) :
    SpP B Tryz.prog 116 [r.v, .int .i32 lo, .int .i32 hi, vS t] R [] (PostO (spansF lo hi t [] r.l)) (PPO (spansF lo hi t [] r.l)) := by
  obtain ⟨a, c, l⟩ := r
  simp only [Rw.v] at *
  refine SpP.body Tryz.func116 rfl Tryz.ntmps116 (by simp) ?_
  simp only [argE, List.cons_append, List.nil_append, Nat.zero_add, Nat.reduceAdd]
  repeat' (first|(refine gv ?_;first|refine RT.id ?_|(refine⟨fun hc=>?_,fun hc=>?_⟩<;>first|(exfalso;omega)|skip)|refine gk ?_|refine num_m fun r hr=>?_|intro r hr)|refine gs ?_|(refine gb ?_;intro b)|refine gn ?_|(refine RT.isPush ?_;refine gp ?_;intro a' c' b' c1' hac)|refine gc ?_|fail)
  refine CT.loop (α := Nat) (fun i => [(0, .slice a l.length c), (1, .int .i32 lo), (2, .int .i32 hi), (3, vS t), (12, .slice a l.length c), (13, .int .i64 l.length), (14, .int .i64 i)]) (fun i => Pu (i ≤ l.length ∧ spansF lo hi t [] l = spansF lo hi t (l.take i) (l.drop i)) :: R) (fun i => l.length - i) 0
    ⟨rfl, rfl, rfl, rfl, rfl, rfl, rfl, trivial⟩ (fun w h => Sat.pu_in ⟨Nat.zero_le _, rfl⟩ h) (fun i => CT.pu fun ⟨hil, hF⟩ => ?_)
  repeat' (first|(refine gv ?_;first|refine RT.id ?_|(refine⟨fun hc=>?_,fun hc=>?_⟩<;>first|(exfalso;omega)|skip)|refine gk ?_|refine num_m fun r hr=>?_|intro r hr)|refine gs ?_|(refine gb ?_;intro b)|refine gn ?_|(refine RT.isPush ?_;refine gp ?_;intro a' c' b' c1' hac)|refine gc ?_|fail)
  · have hi' : i < l.length := by omega
    rw [List.drop_eq_getElem_cons hi', spansF] at hF
    have hgi := List.getElem?_eq_getElem hi'
    have htk : l.take i ++ [l[i]] = l.take (i + 1) := by rw [List.take_add_one, hgi]; rfl
    rw [htk] at hF
    revert hF hgi htk
    generalize l[i] = s
    intro hF hgi htk
    refine RT.ix T (j := i * 2) rfl rfl rfl (by exact hR) (by omega) (by omega) (by omega) rfl rfl ?_
    refine RT.ldra T rfl (by exact hR) (l := s.cells) (flat_sub (f := SpanT.cells) (z := 2) (fun _ => rfl) l i _ hgi) rfl rfl rfl rfl ?_
    repeat' (first|(refine gv ?_;first|refine RT.id ?_|(refine⟨fun hc=>?_,fun hc=>?_⟩<;>first|(exfalso;omega)|skip)|refine gk ?_|refine num_m fun r hr=>?_|intro r hr)|refine gs ?_|(refine gb ?_;intro b)|refine gn ?_|(refine RT.isPush ?_;refine gp ?_;intro a' c' b' c1' hac)|refine gt ?_|refine gc ?_|fail)
    · (refine RT.callP T rfl fR_ (must_fn (p := true) (e := 63) (t := t)) rfl rfl rfl (fun v H1 hp => ?_) (fun v H1 hp => ?_))
      · cases hp.1
      obtain ⟨_, rfl⟩ := hp
      repeat' (first|(refine gv ?_;first|refine RT.id ?_|(refine⟨fun hc=>?_,fun hc=>?_⟩<;>first|(exfalso;omega)|skip)|refine gk ?_|refine num_m fun r hr=>?_|intro r hr)|refine gs ?_|(refine gb ?_;intro b)|refine gn ?_|(refine RT.isPush ?_;refine gp ?_;intro a' c' b' c1' hac)|refine gc ?_|fail)
      refine RT.slhi T (j := i) rfl rfl rfl (by have := Rd.le hR; omega) rfl rfl rfl ?_
      rw [asub_z]
      have hA := Rd.flatPre (f := SpanT.cells) (j := i) (fun _ => rfl) hR rfl hil
      have hAl : (l.take i).length = i := by rw [List.length_take]; omega
      generalize l.take i = ah at *
      simp only [List.nil_append]
      repeat' (first|(refine gv ?_;first|refine RT.id ?_|(refine⟨fun hc=>?_,fun hc=>?_⟩<;>first|(exfalso;omega)|skip)|refine gk ?_|refine num_m fun r hr=>?_|intro r hr)|refine gs ?_|(refine gb ?_;intro b)|refine gn ?_|(refine RT.isPush ?_;refine gp ?_;intro a' c' b' c1' hac)|refine gc ?_|fail)
      refine CT.loop (α := Nat) (fun k => [(0, .slice a l.length c), (1, .int .i32 lo), (2, .int .i32 hi), (3, vS t), (9, .pointer (some ⟨b, 0, none⟩)), (12, .slice a l.length c), (13, .int .i64 l.length), (14, .int .i64 i), (40, .slice a i c), (41, .int .i64 i), (42, .int .i64 k)])
        (fun k => Pu (k ≤ i ∧ ∀ o ∈ ah.take k, s.t < o.f ∨ o.t < s.f) :: Cs b 158 s.cells :: R) (fun k => i - k) 0
        ⟨rfl, rfl, rfl, rfl, rfl, rfl, rfl, rfl, rfl, rfl, rfl, trivial⟩ (fun w h => Sat.pu_in ⟨Nat.zero_le _, fun o ho => by simp at ho⟩ h) (fun k => CT.pu fun ⟨hki, hko⟩ => ?_)
      repeat' (first|(refine gv ?_;first|refine RT.id ?_|(refine⟨fun hc=>?_,fun hc=>?_⟩<;>first|(exfalso;omega)|skip)|refine gk ?_|refine num_m fun r hr=>?_|intro r hr)|refine gs ?_|(refine gb ?_;intro b)|refine gn ?_|(refine RT.isPush ?_;refine gp ?_;intro a' c' b' c1' hac)|refine gc ?_|fail)
      · have hka : k < ah.length := by omega
        have hgk := List.getElem?_eq_getElem hka
        revert hgk
        generalize ah[k] = o
        intro hgk
        refine RT.ix T (j := k * 2) rfl rfl rfl (by exact Rd.cons hA) (by omega) (by omega) (by omega) rfl rfl ?_
        refine RT.ldra T rfl (by exact Rd.cons hA) (l := o.cells) (flat_sub (f := SpanT.cells) (z := 2) (fun _ => rfl) ah k _ hgk) rfl rfl rfl rfl ?_
        repeat' (first|(refine gv ?_;first|refine RT.id ?_|(refine⟨fun hc=>?_,fun hc=>?_⟩<;>first|(exfalso;omega)|skip)|refine gk ?_|refine num_m fun r hr=>?_|intro r hr)|refine gs ?_|(refine gb ?_;intro b)|refine gn ?_|(refine RT.isPush ?_;refine gp ?_;intro a' c' b' c1' hac)|refine gt ?_|refine gc ?_|fail)
        · (refine RT.callP T rfl fR_ (must_fn (p := true) (e := 63) (t := t)) rfl rfl rfl (fun v H1 hp => ?_) (fun v H1 hp => ?_))
          · cases hp.1
          · obtain ⟨_, rfl⟩ := hp
            repeat' (first|(refine gv ?_;first|refine RT.id ?_|(refine⟨fun hc=>?_,fun hc=>?_⟩<;>first|(exfalso;omega)|skip)|refine gk ?_|refine num_m fun r hr=>?_|intro r hr)|refine gs ?_|(refine gb ?_;intro b)|refine gn ?_|(refine RT.isPush ?_;refine gp ?_;intro a' c' b' c1' hac)|refine gc ?_|fail)
            exact AtQ.loop (k + 1) ⟨rfl, rfl, rfl, rfl, rfl, rfl, rfl, rfl, rfl, rfl, rfl, trivial⟩ (fun w h => Sat.pu_in ⟨by omega, sm_take hgk hko (by omega)⟩ h.tail) (by omega)
        · (refine RT.callP T rfl fR_ (must_fn (p := true) (e := 63) (t := t)) rfl rfl rfl (fun v H1 hp => ?_) (fun v H1 hp => ?_))
          · cases hp.1
          · obtain ⟨_, rfl⟩ := hp
            repeat' (first|(refine gv ?_;first|refine RT.id ?_|(refine⟨fun hc=>?_,fun hc=>?_⟩<;>first|(exfalso;omega)|skip)|refine gk ?_|refine num_m fun r hr=>?_|intro r hr)|refine gs ?_|(refine gb ?_;intro b)|refine gn ?_|(refine RT.isPush ?_;refine gp ?_;intro a' c' b' c1' hac)|refine gc ?_|fail)
            exact AtQ.loop (k + 1) ⟨rfl, rfl, rfl, rfl, rfl, rfl, rfl, rfl, rfl, rfl, rfl, trivial⟩ (fun w h => Sat.pu_in ⟨by omega, sm_take hgk hko (by omega)⟩ h.tail) (by omega)
        · (refine RT.callP T rfl fR_ (must_fn (p := false) (e := 63) (t := t)) rfl rfl rfl (fun v H1 hp => ?_) (fun v H1 hp => ?_))
          · obtain ⟨_, rfl, rfl⟩ := hp
            ((repeat refine nx ?_); exact AtQ.finP (H' := []) ⟨63, t, by rw [hF, if_neg (by rintro ⟨h1, h2, h3, h4⟩; have := h4 o (List.mem_of_getElem? hgk); omega)], rfl, rfl⟩ dR_)
          · cases hp.1
      · have hke : k = i := by omega
        subst hke
        rw [List.take_of_length_le (by omega)] at hko
        rw [if_pos ⟨by omega, by omega, by omega, hko⟩] at hF
        exact AtQ.loop (k + 1) ⟨rfl, rfl, rfl, rfl, rfl, rfl, rfl, trivial⟩ (fun w h => Sat.pu_in ⟨by omega, hF⟩ h.tail) (by omega)
    all_goals
      (refine RT.callP T rfl fR_ (must_fn (p := false) (e := 63) (t := t)) rfl rfl rfl (fun v H1 hp => ?_) (fun v H1 hp => ?_))
      · obtain ⟨_, rfl, rfl⟩ := hp
        ((repeat refine nx ?_); exact AtQ.finP (H' := []) ⟨63, t, by rw [hF, if_neg (by rintro ⟨h1, h2, h3, _⟩; omega)], rfl, rfl⟩ dR_)
      · cases hp.1
  · refine AtQ.ofFinN (AtQ.fin0 Tryz.results116 (H' := []) ⟨?_, rfl⟩ (fun w h => h) _ (.inl rfl))
    rw [hF, List.drop_of_length_le (by omega)]
    cases l.take i <;> rfl
end Go.Proofs.YtdemnhdoadjhhaaGreatDoor
end
section
namespace Go.Proofs.YtdemnhdoadjhhaaGreatDoor
open Go.Sk
set_option maxRecDepth 100000
/-- Texts that can be read, are bytes and short. -/
structure TxR (B : World) (R : List HP) (r : Rw Txt) : Prop where
  rd : Rd B R r.a r.l.length r.c 1 (r.l.map vS)
  len : r.l.length ≤ 140737488355328
  byt : BL r.l
  sm : SmT r.l
theorem s2l {x y : Txt} (h1 : x.length ≤ 16777216) (h2 : y.length ≤ 16777216) : sumL [x, y] + [x, y].length ≤ 1000000000000 := by
  rw [s2]
  simp only [List.length_cons, List.length_nil]
  omega
theorem map_take {l : List Txt} {j : Nat} : (l.map vS).take (j * 1) = (l.take j).map vS := by rw [Nat.mul_one, List.map_take]
theorem Rd.txtPre {B : World} {H : List HP} {a : Option Addr} {k c j : Nat} {l : List Txt} (h : Rd B H a k c 1 (l.map vS)) (hj : j ≤ k) : Rd B H a j c 1 ((l.take j).map vS) := by
  have := Rd.pre h hj
  rwa [map_take] at this
attribute [local irreducible] Cs Own Ex Pu Yld RT LJ QJ AtQ CT Rd QSp Sp FinQ Then LoopQ CutQ DT TakeQ EffQ
variable {B : World} {R : List HP}
set_option maxHeartbeats 1000000 in
theorem reserved_fn {r : Rw Txt} {sc : Txt} (hr : TxR B R r) (hs : Byt sc) (hsl : sc.length ≤ 16777216) :
    SpP B Tryz.prog 117 [r.v, vS sc] R [] (PostO (namesF sc [] r.l)) (PPO (namesF sc [] r.l)) := by
  obtain ⟨a, c, l⟩ := r
  obtain ⟨hR, hk, hb, hsm⟩ := hr
  simp only [Rw.v] at *
  refine SpP.body Tryz.func117 rfl Tryz.ntmps117 (by simp) ?_
  simp only [argE, List.cons_append, List.nil_append, Nat.zero_add, Nat.reduceAdd]
  repeat' (first|(refine gv ?_;first|refine RT.id ?_|(refine⟨fun hc=>?_,fun hc=>?_⟩<;>first|(exfalso;omega)|skip)|refine gk ?_|refine num_m fun r hr=>?_|intro r hr)|refine gs ?_|(refine gb ?_;intro b)|refine gn ?_|(refine RT.isPush ?_;refine gp ?_;intro a' c' b' c1' hac)|refine gc ?_|fail)
  refine CT.loop (α := Nat) (fun i => [(0, .slice a l.length c), (1, vS sc), (7, .slice a l.length c), (8, .int .i64 l.length), (9, .int .i64 i)]) (fun i => Pu (i ≤ l.length ∧ namesF sc [] l = namesF sc (l.take i) (l.drop i)) :: R) (fun i => l.length - i) 0
    ⟨rfl, rfl, rfl, rfl, rfl, trivial⟩ (fun w h => Sat.pu_in ⟨Nat.zero_le _, rfl⟩ h) (fun i => CT.pu fun ⟨hil, hF⟩ => ?_)
  repeat' (first|(refine gv ?_;first|refine RT.id ?_|(refine⟨fun hc=>?_,fun hc=>?_⟩<;>first|(exfalso;omega)|skip)|refine gk ?_|refine num_m fun r hr=>?_|intro r hr)|refine gs ?_|(refine gb ?_;intro b)|refine gn ?_|(refine RT.isPush ?_;refine gp ?_;intro a' c' b' c1' hac)|refine gc ?_|fail)
  · have hi' : i < l.length := by omega
    have hgi := List.getElem?_eq_getElem hi'
    rw [List.drop_eq_getElem_cons hi', namesF] at hF
    have htk : l.take i ++ [l[i]] = l.take (i + 1) := by rw [List.take_add_one, hgi]; rfl
    rw [htk] at hF
    have hbn := hb _ (List.getElem_mem hi')
    have hsn := hsm _ (List.getElem_mem hi')
    revert hF hgi htk hbn hsn
    generalize l[i] = n
    intro hF hgi htk hbn hsn
    refine RT.ix T (j := i) rfl rfl rfl (by exact hR) (by omega) (by omega) (by omega) rfl rfl ?_
    refine RT.ldr T rfl (by exact hR) (u := vS n) (by rw [List.getElem?_map, hgi]; rfl) rfl rfl rfl ?_
    repeat' (first|(refine gv ?_;first|refine RT.id ?_|(refine⟨fun hc=>?_,fun hc=>?_⟩<;>first|(exfalso;omega)|skip)|refine gk ?_|refine num_m fun r hr=>?_|intro r hr)|refine gs ?_|(refine gb ?_;intro b)|refine gn ?_|(refine RT.isPush ?_;refine gp ?_;intro a' c' b' c1' hac)|refine gc ?_|fail)
    (refine RT.bs T (l := strs [sc,  n]) rfl rfl rfl rfl rfl rfl rfl (fun a9 c9 h9 => ?_); (refine RT.call T rfl fR_ (join_fn (ls := [sc,  n]) (Own.rd (by ((repeat constructor);done)) rfl h9) rfl (b2  hs  hbn) ( s2l hsl hsn)) rfl rfl rfl ?_; rintro _ _ ⟨rfl, rfl⟩; try simp only [List.cons_append, List.nil_append]); refine RT.weak (fun w h => h.tail) ?_)
    repeat' (first|(refine gv ?_;first|refine RT.id ?_|(refine⟨fun hc=>?_,fun hc=>?_⟩<;>first|(exfalso;omega)|skip)|refine gk ?_|refine num_m fun r hr=>?_|intro r hr)|refine gs ?_|(refine gb ?_;intro b)|refine gn ?_|(refine RT.isPush ?_;refine gp ?_;intro a' c' b' c1' hac)|refine gc ?_|fail)
    (refine RT.call T rfl fR_ (ident_fn hbn (by omega)) rfl rfl rfl ?_; rintro _ _ ⟨rfl, rfl⟩; try simp only [List.cons_append, List.nil_append])
    repeat' (first|(refine gv ?_;first|refine RT.id ?_|(refine⟨fun hc=>?_,fun hc=>?_⟩<;>first|(exfalso;omega)|skip)|refine gk ?_|refine num_m fun r hr=>?_|intro r hr)|refine gs ?_|(refine gb ?_;intro b)|refine gn ?_|(refine RT.isPush ?_;refine gp ?_;intro a' c' b' c1' hac)|refine gc ?_|fail)
    cases hid : identB n
    · rw [hid, if_neg (by decide)] at hF
      (refine RT.callP T rfl fR_ (must_fn (p := false) (e := 60) (t := joinL [sc, n])) rfl rfl rfl (fun v H1 hp => ?_) (fun v H1 hp => ?_))
      · obtain ⟨_, rfl, rfl⟩ := hp
        ((repeat refine nx ?_); exact AtQ.finP (H' := []) ⟨60, joinL [sc, n], hF, rfl, rfl⟩ dR_)
      · cases hp.1
    · rw [hid, if_pos rfl] at hF
      (refine RT.callP T rfl fR_ (must_fn (p := true) (e := 60) (t := joinL [sc, n])) rfl rfl rfl (fun v H1 hp => ?_) (fun v H1 hp => ?_))
      · cases hp.1
      · obtain ⟨_, rfl⟩ := hp
        repeat' (first|(refine gv ?_;first|refine RT.id ?_|(refine⟨fun hc=>?_,fun hc=>?_⟩<;>first|(exfalso;omega)|skip)|refine gk ?_|refine num_m fun r hr=>?_|intro r hr)|refine gs ?_|(refine gb ?_;intro b)|refine gn ?_|(refine RT.isPush ?_;refine gp ?_;intro a' c' b' c1' hac)|refine gc ?_|fail)
        refine RT.slhi T (j := i) rfl rfl rfl (by have := Rd.le hR; omega) rfl rfl rfl ?_
        rw [asub_z]
        have hA := Rd.txtPre (j := i) hR hil
        have hAl : (l.take i).length = i := by rw [List.length_take]; omega
        have hAb : BL (l.take i) := fun t ht => hb t (List.mem_of_mem_take ht)
        simp only [List.nil_append]
        repeat' (first|(refine gv ?_;first|refine RT.id ?_|(refine⟨fun hc=>?_,fun hc=>?_⟩<;>first|(exfalso;omega)|skip)|refine gk ?_|refine num_m fun r hr=>?_|intro r hr)|refine gs ?_|(refine gb ?_;intro b)|refine gn ?_|(refine RT.isPush ?_;refine gp ?_;intro a' c' b' c1' hac)|refine gc ?_|fail)
        (refine RT.call T rfl fR_ (contT_fn hAl (by omega) hA hAb hbn) rfl rfl rfl ?_; rintro _ _ ⟨rfl, rfl⟩; try simp only [List.cons_append, List.nil_append])
        by_cases hm : n ∈ l.take i
        · rw [decide_eq_true hm]
          rw [if_pos hm] at hF
          repeat' (first|(refine gv ?_;first|refine RT.id ?_|(refine⟨fun hc=>?_,fun hc=>?_⟩<;>first|(exfalso;omega)|skip)|refine gk ?_|refine num_m fun r hr=>?_|intro r hr)|refine gs ?_|(refine gb ?_;intro b)|refine gn ?_|(refine RT.isPush ?_;refine gp ?_;intro a' c' b' c1' hac)|refine gc ?_|fail)
          (refine RT.callP T rfl fR_ (must_fn (p := false) (e := 61) (t := joinL [sc, n])) rfl rfl rfl (fun v H1 hp => ?_) (fun v H1 hp => ?_))
          · obtain ⟨_, rfl, rfl⟩ := hp
            ((repeat refine nx ?_); exact AtQ.finP (H' := []) ⟨61, joinL [sc, n], hF, rfl, rfl⟩ dR_)
          · cases hp.1
        · rw [decide_eq_false hm]
          rw [if_neg hm] at hF
          repeat' (first|(refine gv ?_;first|refine RT.id ?_|(refine⟨fun hc=>?_,fun hc=>?_⟩<;>first|(exfalso;omega)|skip)|refine gk ?_|refine num_m fun r hr=>?_|intro r hr)|refine gs ?_|(refine gb ?_;intro b)|refine gn ?_|(refine RT.isPush ?_;refine gp ?_;intro a' c' b' c1' hac)|refine gc ?_|fail)
          (refine RT.callP T rfl fR_ (must_fn (p := true) (e := 61) (t := joinL [sc, n])) rfl rfl rfl (fun v H1 hp => ?_) (fun v H1 hp => ?_))
          · cases hp.1
          · obtain ⟨_, rfl⟩ := hp
            repeat' (first|(refine gv ?_;first|refine RT.id ?_|(refine⟨fun hc=>?_,fun hc=>?_⟩<;>first|(exfalso;omega)|skip)|refine gk ?_|refine num_m fun r hr=>?_|intro r hr)|refine gs ?_|(refine gb ?_;intro b)|refine gn ?_|(refine RT.isPush ?_;refine gp ?_;intro a' c' b' c1' hac)|refine gc ?_|fail)
            exact AtQ.loop (i + 1) ⟨rfl, rfl, rfl, rfl, rfl, trivial⟩ (fun w h => Sat.pu_in ⟨by omega, hF⟩ h) (by omega)
  · refine AtQ.ofFinN (AtQ.fin0 Tryz.results117 (H' := []) ⟨?_, rfl⟩ (fun w h => h) _ (.inl rfl))
    rw [hF, List.drop_of_length_le (by omega)]
    cases l.take i <;> rfl
end Go.Proofs.YtdemnhdoadjhhaaGreatDoor
end
section
namespace Go.Proofs.YtdemnhdoadjhhaaGreatDoor
open Go.Sk
set_option maxRecDepth 100000
attribute [local irreducible] Cs Own Ex Pu Yld RT LJ QJ AtQ CT Rd QSp Sp FinQ Then LoopQ CutQ DT TakeQ EffQ
variable {B : World} {R : List HP}
theorem symE_len (fl sc : Txt) (e : EnumT) : (symE fl sc e).length = cntE e := by unfold symE cntE; simp; omega
theorem symEs_len (fl sc : Txt) (l : List EnumT) : (l.flatMap (symE fl sc)).length = (l.map cntE).sum := by
  induction l with
  | nil => rfl
  | cons e l ih => rw [List.flatMap_cons, List.length_append, ih, symE_len, List.map_cons, List.sum_cons]
mutual
theorem symM_len (fl : Txt) : ∀ (m : MsgT) (sc : Txt), (symM fl m sc).length = cntM m
  | .mk nm fields oneofs ma mc msgs enums res names, sc => by
    unfold symM cntM
    simp only [List.length_cons, List.length_append, List.length_map, symMs_len fl msgs, symEs_len]
    omega
theorem symMs_len (fl : Txt) : ∀ (l : List MsgT) (sc : Txt), (symMs fl l sc).length = cntMs l
  | [], sc => by unfold symMs cntMs; rfl
  | m :: l, sc => by unfold symMs cntMs; rw [List.length_append, symM_len fl m, symMs_len fl l]
end
theorem len_snoc {α : Type} {l : List α} {x : α} {i : Nat} (h : l[i]? = some x) : l.take i ++ [x] = l.take (i + 1) := by rw [List.take_add_one, h]; rfl
theorem map_snoc {α β : Type} {f : α → β} {l : List α} {x : α} {i : Nat} (h : l[i]? = some x) : (l.take i).map f ++ [f x] = (l.take (i + 1)).map f := by rw [List.take_add_one, h]; simp
set_option maxHeartbeats 4000000 in
theorem senum_fn {xb : Nat} {fl : Txt} {a : Option Addr} {c : Nat} {l : List SymT} {e : EnumT} {sc : Txt} (hin : e.In (Rd B R)) (hok : e.Ok) (hnm : ENm e) (hs : Byt sc) (hsl : sc.length ≤ 16777216) (hl : l.length + cntE e ≤ 1073741824) :
    Sp B Tryz.prog 55 [ptr xb, .agg e.cells.toArray, vS sc] R (lst xb fl a c l) (fun v H' => v = .tuple #[] ∧ ∃ a' c', H' = lst xb fl a' c' (l ++ symE fl sc e)) := by
  obtain ⟨nm, ⟨va, vc, vl⟩, ali, ⟨ra, rc, rl⟩, ⟨na, nc, nl⟩⟩ := e
  obtain ⟨hv, _, _⟩ := hin
  obtain ⟨⟨ho1, _⟩, ⟨ho2, _⟩, ho3, _, _, _, _⟩ := hok
  obtain ⟨hm1, hm2, _⟩ := hnm
  unfold cntE at hl
  dsimp only at hv ho1 ho2 ho3 hm1 hm2 hl
  unfold symE
  dsimp only [EnumT.cells, Rw.v]
  refine Sp.body Tryz.func55 rfl Tryz.ntmps55 (by simp) ?_
  simp only [argE, List.cons_append, List.nil_append, Nat.zero_add, Nat.reduceAdd]
  repeat' (first|(refine gv ?_;first|refine RT.id ?_|(refine⟨fun hc=>?_,fun hc=>?_⟩<;>first|(exfalso;omega)|skip)|refine gk ?_|refine num_m fun r hr=>?_|intro r hr)|refine gs ?_|(refine gb ?_;intro b)|refine gn ?_|(refine RT.isPush ?_;refine gp ?_;intro a' c' b' c1' hac)|refine gc ?_|fail)
  revert b
  intro eb
  (refine RT.bs T (l := strs [sc,  nm]) rfl rfl rfl rfl rfl rfl rfl (fun a9 c9 h9 => ?_); (refine RT.call T rfl fR_ (rjoin_fn (ls := [sc,  nm]) (Own.rd (by ((repeat constructor);done)) rfl h9) rfl (b2  hs  ho1) ( s2l hsl hm1)) rfl rfl rfl ?_; rintro _ _ ⟨rfl, rfl⟩; try simp only [List.cons_append, List.nil_append]); refine RT.weak (fun w h => h.tail) ?_)
  repeat' (first|(refine gv ?_;first|refine RT.id ?_|(refine⟨fun hc=>?_,fun hc=>?_⟩<;>first|(exfalso;omega)|skip)|refine gk ?_|refine num_m fun r hr=>?_|intro r hr)|refine gs ?_|(refine gb ?_;intro b)|refine gn ?_|(refine RT.isPush ?_;refine gp ?_;intro a' c' b' c1' hac)|refine gc ?_|fail)
  have hjl := @j2_len sc nm
  refine RT.call T rfl (by (repeat (first|exact Fr.nil|(apply Fr.cons;focus ((repeat constructor);done))))) (put_fn (b := xb) (fl := fl) (s := joinL [sc, nm]) (k := 2) (a := a) (c := c) (l := l) (by omega)) rfl rfl rfl ?_
  rintro _ _ ⟨rfl, a1, c1, rfl⟩
  simp only [List.cons_append, List.nil_append]
  repeat' (first|(refine gv ?_;first|refine RT.id ?_|(refine⟨fun hc=>?_,fun hc=>?_⟩<;>first|(exfalso;omega)|skip)|refine gk ?_|refine num_m fun r hr=>?_|intro r hr)|refine gs ?_|(refine gb ?_;intro b)|refine gn ?_|(refine RT.isPush ?_;refine gp ?_;intro a' c' b' c1' hac)|refine gc ?_|fail)
  obtain ⟨es, hes⟩ : ∃ es, es = [vS nm, Value.slice va vl.length vc, Value.bool ali, Value.slice ra rl.length rc, Value.slice na nl.length nc] := ⟨_, rfl⟩
  rw [← hes]
  refine CT.loop (α := Nat × Option Addr × Nat) (fun s => [(0, ptr xb), (2, vS sc), (4, .pointer (some ⟨eb, 0, none⟩)), (7, .int .i64 s.1)])
    (fun s => Pu (s.1 ≤ vl.length) :: (lst xb fl s.2.1 s.2.2 (l ++ [⟨joinL [sc, nm], 2, fl⟩] ++ (vl.take s.1).map (fun v => ⟨joinL [sc, v.nm], 3, fl⟩)) ++ Cs eb 109 es :: R)) (fun s => vl.length - s.1) (0, a1, c1)
    ⟨rfl, rfl, rfl, rfl, trivial⟩ (fun w h => Sat.pu_in (Nat.zero_le _) (by dsimp only; rw [List.take_zero, List.map_nil, List.append_nil]; exact h)) (fun ⟨i, a2, c2⟩ => CT.pu fun hil => ?_)
  dsimp only at hil ⊢
  subst hes
  simp only [List.cons_append, List.nil_append]
  repeat' (first|(refine gv ?_;first|refine RT.id ?_|(refine⟨fun hc=>?_,fun hc=>?_⟩<;>first|(exfalso;omega)|skip)|refine gk ?_|refine num_m fun r hr=>?_|intro r hr)|refine gs ?_|(refine gb ?_;intro b)|refine gn ?_|(refine RT.isPush ?_;refine gp ?_;intro a' c' b' c1' hac)|refine gc ?_|fail)
  · have hi' : i < vl.length := by omega
    have hgi := List.getElem?_eq_getElem hi'
    revert hgi
    generalize vl[i] = ev
    intro hgi
    have hme := List.mem_of_getElem? hgi
    have hvb := (ho3 ev hme).1.1
    have hvs := hm2 ev hme
    refine RT.ix T (j := i * 2) rfl rfl rfl (by repeat (first | exact (hv) | apply Rd.cons)) (by omega) (by omega) (by omega) rfl rfl ?_
    refine RT.faA T rfl rfl rfl rfl ?_
    refine RT.ldr (u := vS ev.nm) T rfl (by repeat (first | exact (hv) | apply Rd.cons)) (by rw [flat_get (f := EValT.cells) (z := 2) (fun _ => rfl) hgi (by decide)]; rfl) rfl rfl rfl ?_
    (refine RT.bs T (l := strs [sc,  ev.nm]) rfl rfl rfl rfl rfl rfl rfl (fun a9 c9 h9 => ?_); (refine RT.call T rfl fR_ (rjoin_fn (ls := [sc,  ev.nm]) (Own.rd (by ((repeat constructor);done)) rfl h9) rfl (b2  hs  hvb) ( s2l hsl hvs)) rfl rfl rfl ?_; rintro _ _ ⟨rfl, rfl⟩; try simp only [List.cons_append, List.nil_append]); refine RT.weak (fun w h => h.tail) ?_)
    repeat' (first|(refine gv ?_;first|refine RT.id ?_|(refine⟨fun hc=>?_,fun hc=>?_⟩<;>first|(exfalso;omega)|skip)|refine gk ?_|refine num_m fun r hr=>?_|intro r hr)|refine gs ?_|(refine gb ?_;intro b)|refine gn ?_|(refine RT.isPush ?_;refine gp ?_;intro a' c' b' c1' hac)|refine gc ?_|fail)
    refine RT.call T rfl (by (repeat (first|exact Fr.nil|(apply Fr.cons;focus ((repeat constructor);done))))) (put_fn (b := xb) (fl := fl) (s := joinL [sc, ev.nm]) (k := 3) (by simp; omega)) rfl rfl rfl ?_
    rintro _ _ ⟨rfl, a3, c3, rfl⟩
    simp only [List.cons_append, List.nil_append]
    repeat' (first|(refine gv ?_;first|refine RT.id ?_|(refine⟨fun hc=>?_,fun hc=>?_⟩<;>first|(exfalso;omega)|skip)|refine gk ?_|refine num_m fun r hr=>?_|intro r hr)|refine gs ?_|(refine gb ?_;intro b)|refine gn ?_|(refine RT.isPush ?_;refine gp ?_;intro a' c' b' c1' hac)|refine gc ?_|fail)
    refine AtQ.loop (i + 1, a3, c3) ⟨rfl, rfl, rfl, rfl, trivial⟩ (fun w h => Sat.pu_in (by dsimp only; omega) ?_) (by dsimp only; omega)
    dsimp only
    rw [← map_snoc hgi, ← List.append_assoc]
    exact h
  · refine AtQ.fin0 Tryz.results55 (H' := lst xb fl a2 c2 (l ++ (⟨joinL [sc, nm], 2, fl⟩ :: vl.map (fun v => ⟨joinL [sc, v.nm], 3, fl⟩)))) ⟨rfl, a2, c2, rfl⟩ (fun w h => ?_) _ (by first | exact .inl rfl | exact .inr rfl)
    rw [List.take_of_length_le (by omega), List.append_assoc] at h
    exact h.frd (Ps := [_, _]) (Qs := [_]) (by (repeat (first|exact Fr.nil|(apply Fr.cons;focus ((repeat constructor);done)))))
end Go.Proofs.YtdemnhdoadjhhaaGreatDoor
end
section
namespace Go.Proofs.YtdemnhdoadjhhaaGreatDoor
open Go.Sk
set_option maxRecDepth 100000
theorem sum_snoc {α : Type} {f : α → Nat} {l : List α} {i : Nat} {x : α} (h : l[i]? = some x) : ((l.take i).map f).sum + f x ≤ (l.map f).sum := by
  have h2 : l = l.take i ++ x :: l.drop (i + 1) := by
    obtain ⟨hi, rfl⟩ := List.getElem?_eq_some_iff.1 h
    rw [← List.drop_eq_getElem_cons hi, List.take_append_drop]
  have h3 := congrArg (fun l => (l.map f).sum) h2
  simp only [List.map_append, List.map_cons, List.sum_append, List.sum_cons] at h3
  omega
theorem symMs_app (fl sc : Txt) : ∀ a b : List MsgT, symMs fl (a ++ b) sc = symMs fl a sc ++ symMs fl b sc
  | [], b => by rw [List.nil_append, show symMs fl [] sc = [] by rw [symMs], List.nil_append]
  | m :: a, b => by rw [List.cons_append, symMs, symMs, symMs_app fl sc a b, List.append_assoc]
theorem symMs_snoc {fl sc : Txt} {l : List MsgT} {x : MsgT} {i : Nat} (h : l[i]? = some x) : symMs fl (l.take i) sc ++ symM fl x sc = symMs fl (l.take (i + 1)) sc := by
  rw [List.take_add_one, h, symMs_app]
  congr 1
  show _ = symMs fl [x] sc
  rw [symMs, symMs, List.append_nil]
theorem flat_snoc {α β : Type} {f : α → List β} {l : List α} {x : α} {i : Nat} (h : l[i]? = some x) : (l.take i).flatMap f ++ f x = (l.take (i + 1)).flatMap f := by rw [List.take_add_one, h]; simp
theorem j2_len' {x y : Txt} : (joinL [x, y]).length ≤ x.length + y.length + 1 := by
  rw [J_def]
  split
  · omega
  · split
    · omega
    · rw [List.length_append, List.length_cons]; omega
theorem symM_eq (fl nm : Txt) (fields : Rw FieldT) (oneofs : Rw Txt) (ma : Option Addr) (mc : Nat) (msgs : List MsgT) (enums : Rw EnumT) (res : Rw SpanT) (names : Rw Txt) (sc full : Txt) (hf : full = joinL [sc, nm]) (l : List SymT) :
    l ++ symM fl (.mk nm fields oneofs ma mc msgs enums res names) sc = l ++ [⟨full, 1, fl⟩] ++ fields.l.map (fun f => ⟨joinL [full, f.nm], 4, fl⟩) ++ oneofs.l.map (fun o => ⟨joinL [full, o], 5, fl⟩) ++ symMs fl msgs full ++ enums.l.flatMap (symE fl full) := by
  subst hf
  unfold symM
  simp only [List.append_assoc, List.cons_append, List.nil_append]
attribute [local irreducible] Cs Own Ex Pu Yld RT LJ QJ AtQ CT Rd QSp Sp FinQ Then LoopQ CutQ DT TakeQ EffQ
variable {B : World}
set_option maxHeartbeats 8000000 in
theorem smsg_fn (d : Nat) : ∀ {R : List HP} {xb : Nat} {fl : Txt} {a : Option Addr} {c : Nat} {l : List SymT} {m : MsgT} {sc : Txt} {ah : Int}, m.deep ≤ d → m.In (Rd B R) → m.Ok → m.Nm → m.Ful ah → Byt sc → (sc.length : Int) ≤ ah → l.length + cntM m ≤ 1073741824 →
    Sp B Tryz.prog 54 [ptr xb, .agg m.cells.toArray, vS sc] R (lst xb fl a c l) (fun v H' => v = .tuple #[] ∧ ∃ a' c', H' = lst xb fl a' c' (l ++ symM fl m sc)) := by
  induction d using Nat.strongRecOn with
  | _ d ih =>
  intro R xb fl a c l m sc ah hd hin hok hnm hful hs hsa hl
  obtain ⟨nm, ⟨fa, fc, fs⟩, ⟨oa, oc, os⟩, ma, mc, msgs, ⟨ea, ec, es⟩, ⟨ra, rc, rs⟩, ⟨na, nc, ns⟩⟩ := m
  unfold MsgT.In at hin
  unfold MsgT.Ok at hok
  unfold MsgT.Nm at hnm
  unfold MsgT.deep at hd
  unfold MsgT.Ful at hful
  unfold cntM at hl
  obtain ⟨rf, ro, rm, re, re2, _, _, rm2⟩ := hin
  obtain ⟨⟨ho1, _⟩, ⟨⟨lf, _⟩, of_⟩, ⟨⟨lo, _⟩, oo⟩, ⟨lm, _⟩, ⟨⟨le, _⟩, oe⟩, _, _, om⟩ := hok
  obtain ⟨hm1, hmf, hmo, _, hme, hmm⟩ := hnm
  obtain ⟨hf1, hf2⟩ := hful
  dsimp only at rf ro rm re re2 lf of_ lo oo lm le oe hmf hmo hme hl
  dsimp only [MsgT.cells, Rw.v, MsgT.nm, MsgT.fields, MsgT.oneofs, MsgT.ma, MsgT.mc, MsgT.msgs, MsgT.enums, MsgT.res, MsgT.names]
  refine Sp.body Tryz.func54 rfl Tryz.ntmps54 (by simp) ?_
  simp only [argE, List.cons_append, List.nil_append, Nat.zero_add, Nat.reduceAdd]
  repeat' (first|(refine gv ?_;first|refine RT.id ?_|(refine⟨fun hc=>?_,fun hc=>?_⟩<;>first|(exfalso;omega)|skip)|refine gk ?_|refine num_m fun r hr=>?_|intro r hr)|refine gs ?_|(refine gb ?_;intro b)|refine gn ?_|(refine RT.isPush ?_;refine gp ?_;intro a' c' b' c1' hac)|refine gc ?_|fail)
  revert b
  intro mb
  (refine RT.bs T (l := strs [sc,  nm]) rfl rfl rfl rfl rfl rfl rfl (fun a9 c9 h9 => ?_); (refine RT.call T rfl fR_ (rjoin_fn (ls := [sc,  nm]) (Own.rd (by ((repeat constructor);done)) rfl h9) rfl (b2  hs  ho1) ( s2l (by omega) hm1)) rfl rfl rfl ?_; rintro _ _ ⟨rfl, rfl⟩; try simp only [List.cons_append, List.nil_append]); refine RT.weak (fun w h => h.tail) ?_)
  repeat' (first|(refine gv ?_;first|refine RT.id ?_|(refine⟨fun hc=>?_,fun hc=>?_⟩<;>first|(exfalso;omega)|skip)|refine gk ?_|refine num_m fun r hr=>?_|intro r hr)|refine gs ?_|(refine gb ?_;intro b)|refine gn ?_|(refine RT.isPush ?_;refine gp ?_;intro a' c' b' c1' hac)|refine gc ?_|fail)
  have hjl := @j2_len' sc nm
  have hjb := j2_byt hs ho1
  have hsy := symM_eq fl nm ⟨fa, fc, fs⟩ ⟨oa, oc, os⟩ ma mc msgs ⟨ea, ec, es⟩ ⟨ra, rc, rs⟩ ⟨na, nc, ns⟩ sc _ rfl l
  rw [hsy]
  clear hsy
  dsimp only
  generalize joinL [sc, nm] = full at *
  have hfl : full.length ≤ 16777216 := by omega
  refine RT.call T rfl (by (repeat (first|exact Fr.nil|(apply Fr.cons;focus ((repeat constructor);done))))) (put_fn (b := xb) (fl := fl) (s := full) (k := 1) (a := a) (c := c) (l := l) (by omega)) rfl rfl rfl ?_
  rintro _ _ ⟨rfl, a1, c1, rfl⟩
  simp only [List.cons_append, List.nil_append]
  repeat' (first|(refine gv ?_;first|refine RT.id ?_|(refine⟨fun hc=>?_,fun hc=>?_⟩<;>first|(exfalso;omega)|skip)|refine gk ?_|refine num_m fun r hr=>?_|intro r hr)|refine gs ?_|(refine gb ?_;intro b)|refine gn ?_|(refine RT.isPush ?_;refine gp ?_;intro a' c' b' c1' hac)|refine gc ?_|fail)
  obtain ⟨mcl, hmcl⟩ : ∃ mcl, mcl = [vS nm, Value.slice fa fs.length fc, Value.slice oa os.length oc, Value.slice ma msgs.length mc, Value.slice ea es.length ec, Value.slice ra rs.length rc, Value.slice na ns.length nc] := ⟨_, rfl⟩
  rw [← hmcl]
  generalize hL1 : l ++ [⟨full, 1, fl⟩] = L1
  have hl1 : L1.length = l.length + 1 := by rw [← hL1]; simp
  refine CT.loop (α := Nat × Option Addr × Nat) (fun s => [(0, ptr xb), (4, .pointer (some ⟨mb, 0, none⟩)), (6, vS full), (7, .int .i64 s.1)])
    (fun s => Pu (s.1 ≤ fs.length) :: (lst xb fl s.2.1 s.2.2 (L1 ++ (fs.take s.1).map (fun f => ⟨joinL [full, f.nm], 4, fl⟩)) ++ Cs mb 72 mcl :: R)) (fun s => fs.length - s.1) (0, a1, c1)
    ⟨rfl, rfl, rfl, rfl, trivial⟩ (fun w h => Sat.pu_in (Nat.zero_le _) (by dsimp only; rw [List.take_zero, List.map_nil, List.append_nil]; exact h)) (fun ⟨i, a2, c2⟩ => CT.pu fun hil => ?_)
  dsimp only at hil ⊢
  subst hmcl
  simp only [List.cons_append, List.nil_append]
  repeat' (first|(refine gv ?_;first|refine RT.id ?_|(refine⟨fun hc=>?_,fun hc=>?_⟩<;>first|(exfalso;omega)|skip)|refine gk ?_|refine num_m fun r hr=>?_|intro r hr)|refine gs ?_|(refine gb ?_;intro b)|refine gn ?_|(refine RT.isPush ?_;refine gp ?_;intro a' c' b' c1' hac)|refine gc ?_|fail)
  · have hi' : i < fs.length := by omega
    have hgi := List.getElem?_eq_getElem hi'
    revert hgi
    generalize fs[i] = f2
    intro hgi
    have hme2 := List.mem_of_getElem? hgi
    have hvb := (of_ f2 hme2).1.1
    have hvs := (hmf f2 hme2).1
    refine RT.ix T (j := i * 9) rfl rfl rfl (by repeat (first | exact (rf) | apply Rd.cons)) (by omega) (by omega) (by omega) rfl rfl ?_
    refine RT.faA T rfl rfl rfl rfl ?_
    refine RT.ldr (u := vS f2.nm) T rfl (by repeat (first | exact (rf) | apply Rd.cons)) (by rw [flat_get (f := FieldT.cells) (z := 9) (fun _ => rfl) hgi (by decide)]; rfl) rfl rfl rfl ?_
    (refine RT.bs T (l := strs [full,  f2.nm]) rfl rfl rfl rfl rfl rfl rfl (fun a9 c9 h9 => ?_); (refine RT.call T rfl fR_ (rjoin_fn (ls := [full,  f2.nm]) (Own.rd (by ((repeat constructor);done)) rfl h9) rfl (b2  hjb  hvb) ( s2l hfl hvs)) rfl rfl rfl ?_; rintro _ _ ⟨rfl, rfl⟩; try simp only [List.cons_append, List.nil_append]); refine RT.weak (fun w h => h.tail) ?_)
    repeat' (first|(refine gv ?_;first|refine RT.id ?_|(refine⟨fun hc=>?_,fun hc=>?_⟩<;>first|(exfalso;omega)|skip)|refine gk ?_|refine num_m fun r hr=>?_|intro r hr)|refine gs ?_|(refine gb ?_;intro b)|refine gn ?_|(refine RT.isPush ?_;refine gp ?_;intro a' c' b' c1' hac)|refine gc ?_|fail)
    refine RT.call T rfl (by (repeat (first|exact Fr.nil|(apply Fr.cons;focus ((repeat constructor);done))))) (put_fn (b := xb) (fl := fl) (s := joinL [full, f2.nm]) (k := 4) (by simp; omega)) rfl rfl rfl ?_
    rintro _ _ ⟨rfl, a3, c3, rfl⟩
    simp only [List.cons_append, List.nil_append]
    repeat' (first|(refine gv ?_;first|refine RT.id ?_|(refine⟨fun hc=>?_,fun hc=>?_⟩<;>first|(exfalso;omega)|skip)|refine gk ?_|refine num_m fun r hr=>?_|intro r hr)|refine gs ?_|(refine gb ?_;intro b)|refine gn ?_|(refine RT.isPush ?_;refine gp ?_;intro a' c' b' c1' hac)|refine gc ?_|fail)
    refine AtQ.loop (i + 1, a3, c3) ⟨rfl, rfl, rfl, rfl, trivial⟩ (fun w h => Sat.pu_in (by dsimp only; omega) ?_) (by dsimp only; omega)
    dsimp only
    rw [← map_snoc hgi, ← List.append_assoc]
    exact h
  rw [List.take_of_length_le (by omega)]
  clear hil rf
  generalize hL2 : L1 ++ List.map (fun f : FieldT => (⟨joinL [full, f.nm], 4, fl⟩ : SymT)) fs = L2
  have hl2 : L2.length = l.length + 1 + fs.length := by rw [← hL2]; simp; omega
  obtain ⟨mcl, hmcl⟩ : ∃ mcl, mcl = [vS nm, Value.slice fa fs.length fc, Value.slice oa os.length oc, Value.slice ma msgs.length mc, Value.slice ea es.length ec, Value.slice ra rs.length rc, Value.slice na ns.length nc] := ⟨_, rfl⟩
  rw [← hmcl]
  refine CT.loop (α := Nat × Option Addr × Nat) (fun s => [(0, ptr xb), (4, .pointer (some ⟨mb, 0, none⟩)), (6, vS full), (9, .int .i64 s.1)])
    (fun s => Pu (s.1 ≤ os.length) :: (lst xb fl s.2.1 s.2.2 (L2 ++ (os.take s.1).map (fun o => ⟨joinL [full, o], 5, fl⟩)) ++ Cs mb 72 mcl :: R)) (fun s => os.length - s.1) (0, a2, c2)
    ⟨rfl, rfl, rfl, rfl, trivial⟩ (fun w h => Sat.pu_in (Nat.zero_le _) (by dsimp only; rw [List.take_zero, List.map_nil, List.append_nil]; exact h)) (fun ⟨i, a2, c2⟩ => CT.pu fun hil => ?_)
  dsimp only at hil ⊢
  subst hmcl
  simp only [List.cons_append, List.nil_append]
  repeat' (first|(refine gv ?_;first|refine RT.id ?_|(refine⟨fun hc=>?_,fun hc=>?_⟩<;>first|(exfalso;omega)|skip)|refine gk ?_|refine num_m fun r hr=>?_|intro r hr)|refine gs ?_|(refine gb ?_;intro b)|refine gn ?_|(refine RT.isPush ?_;refine gp ?_;intro a' c' b' c1' hac)|refine gc ?_|fail)
  · have hi' : i < os.length := by omega
    have hgi := List.getElem?_eq_getElem hi'
    revert hgi
    generalize os[i] = o2
    intro hgi
    have hme2 := List.mem_of_getElem? hgi
    have hvb := (oo o2 hme2).1
    have hvs := hmo o2 hme2
    refine RT.ix T (j := i) rfl rfl rfl (by repeat (first | exact (ro) | apply Rd.cons)) (by omega) (by omega) (by omega) rfl rfl ?_
    refine RT.ldr T rfl (by repeat (first | exact (ro) | apply Rd.cons)) (by rw [List.getElem?_map, hgi]; rfl) rfl rfl rfl ?_
    (refine RT.bs T (l := strs [full,  o2]) rfl rfl rfl rfl rfl rfl rfl (fun a9 c9 h9 => ?_); (refine RT.call T rfl fR_ (rjoin_fn (ls := [full,  o2]) (Own.rd (by ((repeat constructor);done)) rfl h9) rfl (b2  hjb  hvb) ( s2l hfl hvs)) rfl rfl rfl ?_; rintro _ _ ⟨rfl, rfl⟩; try simp only [List.cons_append, List.nil_append]); refine RT.weak (fun w h => h.tail) ?_)
    repeat' (first|(refine gv ?_;first|refine RT.id ?_|(refine⟨fun hc=>?_,fun hc=>?_⟩<;>first|(exfalso;omega)|skip)|refine gk ?_|refine num_m fun r hr=>?_|intro r hr)|refine gs ?_|(refine gb ?_;intro b)|refine gn ?_|(refine RT.isPush ?_;refine gp ?_;intro a' c' b' c1' hac)|refine gc ?_|fail)
    refine RT.call T rfl (by (repeat (first|exact Fr.nil|(apply Fr.cons;focus ((repeat constructor);done))))) (put_fn (b := xb) (fl := fl) (s := joinL [full, o2]) (k := 5) (by simp; omega)) rfl rfl rfl ?_
    rintro _ _ ⟨rfl, a3, c3, rfl⟩
    simp only [List.cons_append, List.nil_append]
    repeat' (first|(refine gv ?_;first|refine RT.id ?_|(refine⟨fun hc=>?_,fun hc=>?_⟩<;>first|(exfalso;omega)|skip)|refine gk ?_|refine num_m fun r hr=>?_|intro r hr)|refine gs ?_|(refine gb ?_;intro b)|refine gn ?_|(refine RT.isPush ?_;refine gp ?_;intro a' c' b' c1' hac)|refine gc ?_|fail)
    refine AtQ.loop (i + 1, a3, c3) ⟨rfl, rfl, rfl, rfl, trivial⟩ (fun w h => Sat.pu_in (by dsimp only; omega) ?_) (by dsimp only; omega)
    dsimp only
    rw [← map_snoc hgi, ← List.append_assoc]
    exact h
  rw [List.take_of_length_le (by omega)]
  clear hil ro
  generalize hL3 : L2 ++ List.map (fun o : Txt => (⟨joinL [full, o], 5, fl⟩ : SymT)) os = L3
  have hl3 : L3.length = l.length + 1 + fs.length + os.length := by rw [← hL3]; simp; omega
  obtain ⟨mcl, hmcl⟩ : ∃ mcl, mcl = [vS nm, Value.slice fa fs.length fc, Value.slice oa os.length oc, Value.slice ma msgs.length mc, Value.slice ea es.length ec, Value.slice ra rs.length rc, Value.slice na ns.length nc] := ⟨_, rfl⟩
  rw [← hmcl]
  refine CT.loop (α := Nat × Option Addr × Nat) (fun s => [(0, ptr xb), (4, .pointer (some ⟨mb, 0, none⟩)), (6, vS full), (11, .int .i64 s.1)])
    (fun s => Pu (s.1 ≤ msgs.length) :: (lst xb fl s.2.1 s.2.2 (L3 ++ symMs fl (msgs.take s.1) full) ++ Cs mb 72 mcl :: R)) (fun s => msgs.length - s.1) (0, a2, c2)
    ⟨rfl, rfl, rfl, rfl, trivial⟩ (fun w h => Sat.pu_in (Nat.zero_le _) (by dsimp only; rw [List.take_zero, symMs, List.append_nil]; exact h)) (fun ⟨i, a2, c2⟩ => CT.pu fun hil => ?_)
  dsimp only at hil ⊢
  subst hmcl
  simp only [List.cons_append, List.nil_append]
  repeat' (first|(refine gv ?_;first|refine RT.id ?_|(refine⟨fun hc=>?_,fun hc=>?_⟩<;>first|(exfalso;omega)|skip)|refine gk ?_|refine num_m fun r hr=>?_|intro r hr)|refine gs ?_|(refine gb ?_;intro b)|refine gn ?_|(refine RT.isPush ?_;refine gp ?_;intro a' c' b' c1' hac)|refine gc ?_|fail)
  · have hi' : i < msgs.length := by omega
    have hgi := List.getElem?_eq_getElem hi'
    revert hgi
    generalize msgs[i] = m2
    intro hgi
    have hme2 := List.mem_of_getElem? hgi
    have hmd := MsgT.deep_mem hme2
    have hcn := sum_snoc (f := cntM) hgi
    rw [← cntMs_eq, ← cntMs_eq] at hcn
    refine RT.ix T (j := i * 7) rfl rfl rfl (by repeat (first | exact (rm) | apply Rd.cons)) (by omega) (by omega) (by omega) rfl rfl ?_
    refine RT.ldra T rfl (by repeat (first | exact (rm) | apply Rd.cons)) (l := m2.cells) (flat_sub (f := MsgT.cells) (z := 7) (fun _ => rfl) msgs i _ hgi) rfl rfl rfl rfl ?_
    repeat' (first|(refine gv ?_;first|refine RT.id ?_|(refine⟨fun hc=>?_,fun hc=>?_⟩<;>first|(exfalso;omega)|skip)|refine gk ?_|refine num_m fun r hr=>?_|intro r hr)|refine gs ?_|(refine gb ?_;intro b)|refine gn ?_|(refine RT.isPush ?_;refine gp ?_;intro a' c' b' c1' hac)|refine gt ?_|refine gc ?_|fail)
    refine RT.call T rfl (by (repeat (first|exact Fr.nil|(apply Fr.cons;focus ((repeat constructor);done))))) (@ih m2.deep (by omega) _ xb fl a2 c2 (L3 ++ symMs fl (msgs.take i) full) m2 full _ (Nat.le_refl _) (MsgT.In.mono (fun _ _ _ _ _ h => (by repeat (first | exact (h) | apply Rd.cons))) (MsgT.inL_mem rm2 hme2)) (MsgT.okL_mem om hme2) (MsgT.nmL_mem hmm hme2) (MsgT.fulL_mem hf2 hme2) hjb (by omega) (by rw [List.length_append, symMs_len]; omega)) rfl rfl rfl ?_
    rintro _ _ ⟨rfl, a3, c3, rfl⟩
    simp only [List.cons_append, List.nil_append]
    repeat' (first|(refine gv ?_;first|refine RT.id ?_|(refine⟨fun hc=>?_,fun hc=>?_⟩<;>first|(exfalso;omega)|skip)|refine gk ?_|refine num_m fun r hr=>?_|intro r hr)|refine gs ?_|(refine gb ?_;intro b)|refine gn ?_|(refine RT.isPush ?_;refine gp ?_;intro a' c' b' c1' hac)|refine gc ?_|fail)
    refine AtQ.loop (i + 1, a3, c3) ⟨rfl, rfl, rfl, rfl, trivial⟩ (fun w h => Sat.pu_in (by dsimp only; omega) ?_) (by dsimp only; omega)
    dsimp only
    rw [← symMs_snoc hgi, ← List.append_assoc]
    exact h
  rw [List.take_of_length_le (by omega)]
  clear hil rm
  generalize hL4 : L3 ++ symMs fl msgs full = L4
  have hl4 : L4.length = l.length + 1 + fs.length + os.length + cntMs msgs := by rw [← hL4, List.length_append, symMs_len]; omega
  obtain ⟨mcl, hmcl⟩ : ∃ mcl, mcl = [vS nm, Value.slice fa fs.length fc, Value.slice oa os.length oc, Value.slice ma msgs.length mc, Value.slice ea es.length ec, Value.slice ra rs.length rc, Value.slice na ns.length nc] := ⟨_, rfl⟩
  rw [← hmcl]
  refine CT.loop (α := Nat × Option Addr × Nat) (fun s => [(0, ptr xb), (4, .pointer (some ⟨mb, 0, none⟩)), (6, vS full), (12, .int .i64 s.1)])
    (fun s => Pu (s.1 ≤ es.length) :: (lst xb fl s.2.1 s.2.2 (L4 ++ (es.take s.1).flatMap (symE fl full)) ++ Cs mb 72 mcl :: R)) (fun s => es.length - s.1) (0, a2, c2)
    ⟨rfl, rfl, rfl, rfl, trivial⟩ (fun w h => Sat.pu_in (Nat.zero_le _) (by dsimp only; rw [List.take_zero, List.flatMap_nil, List.append_nil]; exact h)) (fun ⟨i, a2, c2⟩ => CT.pu fun hil => ?_)
  dsimp only at hil ⊢
  subst hmcl
  simp only [List.cons_append, List.nil_append]
  repeat' (first|(refine gv ?_;first|refine RT.id ?_|(refine⟨fun hc=>?_,fun hc=>?_⟩<;>first|(exfalso;omega)|skip)|refine gk ?_|refine num_m fun r hr=>?_|intro r hr)|refine gs ?_|(refine gb ?_;intro b)|refine gn ?_|(refine RT.isPush ?_;refine gp ?_;intro a' c' b' c1' hac)|refine gc ?_|fail)
  · have hi' : i < es.length := by omega
    have hgi := List.getElem?_eq_getElem hi'
    revert hgi
    generalize es[i] = e2
    intro hgi
    have hme2 := List.mem_of_getElem? hgi
    have hcn := sum_snoc (f := cntE) hgi
    refine RT.ix T (j := i * 5) rfl rfl rfl (by repeat (first | exact (re) | apply Rd.cons)) (by omega) (by omega) (by omega) rfl rfl ?_
    refine RT.ldra T rfl (by repeat (first | exact (re) | apply Rd.cons)) (l := e2.cells) (flat_sub (f := EnumT.cells) (z := 5) (fun _ => rfl) es i _ hgi) rfl rfl rfl rfl ?_
    repeat' (first|(refine gv ?_;first|refine RT.id ?_|(refine⟨fun hc=>?_,fun hc=>?_⟩<;>first|(exfalso;omega)|skip)|refine gk ?_|refine num_m fun r hr=>?_|intro r hr)|refine gs ?_|(refine gb ?_;intro b)|refine gn ?_|(refine RT.isPush ?_;refine gp ?_;intro a' c' b' c1' hac)|refine gt ?_|refine gc ?_|fail)
    refine RT.call T rfl (by (repeat (first|exact Fr.nil|(apply Fr.cons;focus ((repeat constructor);done))))) (senum_fn (xb := xb) (fl := fl) (a := a2) (c := c2) (l := L4 ++ (es.take i).flatMap (symE fl full)) (e := e2) (sc := full) (EnumT.In.mono (fun _ _ _ _ _ h => (by repeat (first | exact (h) | apply Rd.cons))) (re2 e2 hme2)) (oe e2 hme2) (hme e2 hme2) hjb hfl (by rw [List.length_append, symEs_len]; omega)) rfl rfl rfl ?_
    rintro _ _ ⟨rfl, a3, c3, rfl⟩
    simp only [List.cons_append, List.nil_append]
    repeat' (first|(refine gv ?_;first|refine RT.id ?_|(refine⟨fun hc=>?_,fun hc=>?_⟩<;>first|(exfalso;omega)|skip)|refine gk ?_|refine num_m fun r hr=>?_|intro r hr)|refine gs ?_|(refine gb ?_;intro b)|refine gn ?_|(refine RT.isPush ?_;refine gp ?_;intro a' c' b' c1' hac)|refine gc ?_|fail)
    refine AtQ.loop (i + 1, a3, c3) ⟨rfl, rfl, rfl, rfl, trivial⟩ (fun w h => Sat.pu_in (by dsimp only; omega) ?_) (by dsimp only; omega)
    dsimp only
    rw [← flat_snoc hgi, ← List.append_assoc]
    exact h
  rw [List.take_of_length_le (by omega)]
  refine AtQ.fin0 Tryz.results54 (H' := lst xb fl a2 c2 (L4 ++ es.flatMap (symE fl full))) ⟨rfl, a2, c2, rfl⟩ (fun w h => ?_) _ (by first | exact .inl rfl | exact .inr rfl)
  exact h.frd (Ps := [_, _]) (Qs := [_]) (by (repeat (first|exact Fr.nil|(apply Fr.cons;focus ((repeat constructor);done)))))
end Go.Proofs.YtdemnhdoadjhhaaGreatDoor
end
section
namespace Go.Proofs.YtdemnhdoadjhhaaGreatDoor
open Go.Sk
set_option maxRecDepth 100000
theorem flat_set {α : Type} {f : α → List Value} {z : Nat} (hz : ∀ x, (f x).length = z) : ∀ {l : List α} {k : Nat} (y : α), k < l.length → (l.flatMap f).take (k * z) ++ f y ++ (l.flatMap f).drop (k * z + z) = (l.set k y).flatMap f
  | [], k, y, h => by simp at h
  | x :: l, 0, y, h => by
    rw [Nat.zero_mul, List.take_zero, Nat.zero_add, List.set_cons_zero, List.flatMap_cons, List.flatMap_cons, List.nil_append]
    congr 1
    exact List.drop_left' (hz x)
  | x :: l, k + 1, y, h => by
    have e : (k + 1) * z = z + k * z := by rw [Nat.add_mul, Nat.one_mul, Nat.add_comm]
    rw [List.set_cons_succ, List.flatMap_cons, List.flatMap_cons, ← flat_set hz y (show k < l.length by simp at h; omega), e]
    have e1 : (f x ++ l.flatMap f).take (z + k * z) = f x ++ (l.flatMap f).take (k * z) := by
      rw [List.take_append, hz, Nat.add_sub_cancel_left, List.take_of_length_le (by rw [hz]; omega)]
    have e2 : (f x ++ l.flatMap f).drop (z + k * z + z) = (l.flatMap f).drop (k * z + z) := by
      rw [List.drop_append, hz, List.drop_of_length_le (by rw [hz]; omega), List.nil_append]
      congr 1
      omega
    rw [e1, e2]
    simp only [List.append_assoc]
theorem sym_len (x : SymT) : x.cells.length = 3 := rfl
theorem own_rd {B : World} {H R : List HP} {a : Option Addr} {c : Nat} {e : TypeId} {l : List SymT} (hs : Sel H (Own a c e 3 l.length (l.flatMap SymT.cells)) R) (hc : l.length ≤ c) : Rd B H a l.length c 3 (l.flatMap SymT.cells) := Own.rd hs (flat_len sym_len l) hc
/-! ### symbols are texts -/
end Go.Proofs.YtdemnhdoadjhhaaGreatDoor
end
section
namespace Go.Proofs.YtdemnhdoadjhhaaGreatDoor
open Go.Sk
set_option maxRecDepth 100000
theorem symE_ok {fl sc : Txt} {e : EnumT} (hf : Byt fl) (hs : Byt sc) (ho : e.Ok) : ∀ s ∈ symE fl sc e, s.Ok := fun s h => by
  unfold symE at h
  rcases List.mem_cons.1 h with rfl | h
  · exact ⟨j2_byt hs ho.1.1, by unfold U8; dsimp only; omega, hf⟩
  · obtain ⟨v, hv, rfl⟩ := List.mem_map.1 h
    exact ⟨j2_byt hs (ho.2.2.1 v hv).1.1, by unfold U8; dsimp only; omega, hf⟩
theorem symEs_ok {fl sc : Txt} {l : List EnumT} (hf : Byt fl) (hs : Byt sc) (ho : ∀ e ∈ l, e.Ok) : ∀ s ∈ l.flatMap (symE fl sc), s.Ok := fun s h => by
  obtain ⟨e, he, h⟩ := List.mem_flatMap.1 h
  exact symE_ok hf hs (ho e he) s h
mutual
theorem symM_ok {fl : Txt} (hf : Byt fl) : ∀ {m : MsgT} {sc : Txt}, Byt sc → m.Ok → ∀ s ∈ symM fl m sc, s.Ok
  | .mk nm fields oneofs ma mc msgs enums res names, sc, hs, ho => fun s h => by
    unfold MsgT.Ok at ho
    obtain ⟨⟨o1, _⟩, ⟨_, o2⟩, ⟨_, o3⟩, _, ⟨_, o4⟩, _, _, o5⟩ := ho
    have hb := j2_byt hs o1
    unfold symM at h
    rcases List.mem_cons.1 h with rfl | h
    · exact ⟨hb, by unfold U8; dsimp only; omega, hf⟩
    rcases List.mem_append.1 h with h | h
    · obtain ⟨v, hv, rfl⟩ := List.mem_map.1 h
      exact ⟨j2_byt hb (o2 v hv).1.1, by unfold U8; dsimp only; omega, hf⟩
    rcases List.mem_append.1 h with h | h
    · obtain ⟨v, hv, rfl⟩ := List.mem_map.1 h
      exact ⟨j2_byt hb (o3 v hv).1, by unfold U8; dsimp only; omega, hf⟩
    rcases List.mem_append.1 h with h | h
    · exact symMs_ok hf hb o5 s h
    · exact symEs_ok hf hb o4 s h
theorem symMs_ok {fl : Txt} (hf : Byt fl) : ∀ {l : List MsgT} {sc : Txt}, Byt sc → MsgT.OkL l → ∀ s ∈ symMs fl l sc, s.Ok
  | [], sc, hs, ho => fun s h => by unfold symMs at h; cases h
  | m :: l, sc, hs, ho => fun s h => by
    unfold symMs at h
    unfold MsgT.OkL at ho
    rcases List.mem_append.1 h with h | h
    · exact symM_ok hf hs ho.1 s h
    · exact symMs_ok hf hs ho.2 s h
end
theorem symF_ok {f : FileT} (ho : f.Ok) : ∀ s ∈ symF f, s.Ok := fun s h => by
  unfold symF at h
  rcases List.mem_append.1 h with h | h
  · exact symMs_ok ho.path.1 ho.pack.1 (MsgT.okL_of ho.msgs.2) s h
  · exact symEs_ok ho.path.1 ho.pack.1 ho.enums.2 s h
theorem symF_len (f : FileT) : (symF f).length = cntMs f.msgs + (f.enums.l.map cntE).sum := by unfold symF; rw [List.length_append, symMs_len, symEs_len]
/-! ### putting one in -/
theorem shift_start {out : List SymT} {y : SymT} : out ++ [y] = out.take out.length ++ y :: out.drop out.length := by simp
theorem shift_len {out : List SymT} {y : SymT} {k : Nat} (h : k ≤ out.length) : (out.take k ++ y :: out.drop k).length = out.length + 1 := by
  simp only [List.length_append, List.length_cons, List.length_take, List.length_drop]; omega
theorem shift_set {out : List SymT} {y z : SymT} {k : Nat} (h : k ≤ out.length) : (out.take k ++ y :: out.drop k).set k z = out.take k ++ z :: out.drop k := by
  have h1 : (out.take k).length = k := by rw [List.length_take]; omega
  rw [List.set_append, if_neg (by omega), h1, Nat.sub_self, List.set_cons_zero]
theorem shift_get {out : List SymT} {y : SymT} {k : Nat} (h : k < out.length) : (out.take (k + 1) ++ y :: out.drop (k + 1))[k]? = some out[k] := by
  rw [List.getElem?_append_left (by simp; omega), List.getElem?_take_of_lt (by omega), List.getElem?_eq_getElem h]
theorem shift_down {out : List SymT} {y : SymT} {k : Nat} (h : k < out.length) : (out.take (k + 1) ++ y :: out.drop (k + 1)).set (k + 1) out[k] = out.take k ++ out[k] :: out.drop k := by
  rw [shift_set (by omega), List.drop_eq_getElem_cons h, List.take_add_one, List.getElem?_eq_getElem h]
  simp only [Option.toList_some, List.append_assoc, List.cons_append, List.nil_append]
theorem shift_perm {out L : List SymT} {x : SymT} {k i : Nat} (hp : out.Perm (L.take i)) (hx : L[i]? = some x) : (out.take k ++ x :: out.drop k).Perm (L.take (i + 1)) := by
  rw [← len_snoc hx]
  refine List.perm_middle.trans ?_
  rw [List.take_append_drop]
  exact (List.Perm.cons x hp).trans (List.perm_append_comm (l₁ := [x]))
attribute [local irreducible] Cs Own Ex Pu Yld RT LJ QJ AtQ CT Rd QSp Sp FinQ Then LoopQ CutQ DT TakeQ EffQ
variable {B : World} {R : List HP}
set_option maxHeartbeats 8000000 in
theorem rsymbols_fn {f : FileT} (hin : f.In (Rd B R)) (hok : f.Ok) (hsm : FSm f) :
    Sp B Tryz.prog 16 [.agg f.cells.toArray] R [] (fun v H' => ∃ (a : Option Addr) (c : Nat) (l : List SymT), v = .slice a l.length c ∧ l.length ≤ c ∧ l.Perm (symF f) ∧ H' = [Own a c 79 3 l.length (l.flatMap SymT.cells)]) := by
  have hsok := symF_ok hok
  have hsl := symF_len f
  obtain ⟨path, pack, ⟨ia, ic, il⟩, ma, mc, msgs, ⟨ea, ec, es⟩⟩ := f
  obtain ⟨_, rm, rm2, re, re2⟩ := hin
  obtain ⟨⟨pb, _⟩, ⟨kb, _⟩, _, ⟨⟨lm, _⟩, om⟩, ⟨⟨le, _⟩, oe⟩⟩ := hok
  obtain ⟨s1, s2, s3, s4, s5, hnm, hpk, hen, hful, hcnt⟩ := hsm
  dsimp only at rm rm2 re re2 pb kb lm om le oe s1 s2 s4 hnm hpk hen hful hcnt hsl
  generalize hL : symF ⟨path, pack, ⟨ia, ic, il⟩, ma, mc, msgs, ⟨ea, ec, es⟩⟩ = L at *
  unfold symF at hL
  dsimp only at hL
  dsimp only [FileT.cells, Rw.v]
  refine Sp.body Tryz.func16 rfl Tryz.ntmps16 (by simp) ?_
  simp only [argE, List.cons_append, List.nil_append, Nat.zero_add, Nat.reduceAdd]
  repeat' (first|(refine gv ?_;first|refine RT.id ?_|(refine⟨fun hc=>?_,fun hc=>?_⟩<;>first|(exfalso;omega)|skip)|refine gk ?_|refine num_m fun r hr=>?_|intro r hr)|refine gs ?_|(refine gb ?_;intro b)|refine gn ?_|(refine RT.isPush ?_;refine gp ?_;intro a' c' b' c1' hac)|refine gc ?_|fail)
  revert b
  intro xb
  revert b
  intro fb
  obtain ⟨fcl, hfcl⟩ : ∃ fcl, fcl = [vS path, vS pack, Value.slice ia il.length ic, Value.slice ma msgs.length mc, Value.slice ea es.length ec] := ⟨_, rfl⟩
  rw [← hfcl]
  refine CT.weak (fun w h => Sat.nilOwn (e := 79) (sz := 3) h) ?_
  refine CT.loop (α := Nat × Option Addr × Nat) (fun s => [(1, .pointer (some ⟨fb, 0, none⟩)), (3, ptr xb), (4, .int .i64 s.1)])
    (fun s => Pu (s.1 ≤ msgs.length) :: (lst xb path s.2.1 s.2.2 (symMs path (msgs.take s.1) pack) ++ Cs fb 26 fcl :: R)) (fun s => msgs.length - s.1) (0, none, 0)
    ⟨rfl, rfl, rfl, trivial⟩ (fun w h => Sat.pu_in (Nat.zero_le _) (by dsimp only; rw [List.take_zero, symMs]; exact h.frd (Ps := [_, _, _]) (Qs := []) (by (repeat (first|exact Fr.nil|(apply Fr.cons;focus ((repeat constructor);done))))))) (fun ⟨i, a2, c2⟩ => CT.pu fun hil => ?_)
  dsimp only at hil ⊢
  subst hfcl
  simp only [List.cons_append, List.nil_append]
  repeat' (first|(refine gv ?_;first|refine RT.id ?_|(refine⟨fun hc=>?_,fun hc=>?_⟩<;>first|(exfalso;omega)|skip)|refine gk ?_|refine num_m fun r hr=>?_|intro r hr)|refine gs ?_|(refine gb ?_;intro b)|refine gn ?_|(refine RT.isPush ?_;refine gp ?_;intro a' c' b' c1' hac)|(refine CT.id_ ?_;first|refine nx ?_|refine CT.region ?_|refine CT.cond_t rfl ?_|refine CT.cond_f rfl ?_))
  · have hi' : i < msgs.length := by omega
    have hgi := List.getElem?_eq_getElem hi'
    revert hgi
    generalize msgs[i] = m2
    intro hgi
    have hme2 := List.mem_of_getElem? hgi
    have hcn := sum_snoc (f := cntM) hgi
    rw [← cntMs_eq, ← cntMs_eq] at hcn
    refine CT.tail 8 mixed (by kernel_rfl) ?_
    dsimp only [List.take_succ_cons, List.take_zero]
    repeat' (first|(refine gv ?_;first|refine RT.id ?_|(refine⟨fun hc=>?_,fun hc=>?_⟩<;>first|(exfalso;omega)|skip)|refine gk ?_|refine num_m fun r hr=>?_|intro r hr)|refine gs ?_|(refine gb ?_;intro b)|refine gn ?_|(refine RT.isPush ?_;refine gp ?_;intro a' c' b' c1' hac)|refine gc ?_|fail)
    refine RT.ix T (j := i * 7) rfl rfl rfl (by repeat (first | exact (rm) | apply Rd.cons)) (by omega) (by omega) (by omega) rfl rfl ?_
    refine RT.ldra T rfl (by repeat (first | exact (rm) | apply Rd.cons)) (l := m2.cells) (flat_sub (f := MsgT.cells) (z := 7) (fun _ => rfl) msgs i _ hgi) rfl rfl rfl rfl ?_
    repeat' (first|(refine gv ?_;first|refine RT.id ?_|(refine⟨fun hc=>?_,fun hc=>?_⟩<;>first|(exfalso;omega)|skip)|refine gk ?_|refine num_m fun r hr=>?_|intro r hr)|refine gs ?_|(refine gb ?_;intro b)|refine gn ?_|(refine RT.isPush ?_;refine gp ?_;intro a' c' b' c1' hac)|refine gc ?_|fail)
    refine AtQ.tail ?_
    refine RT.call T rfl (by (repeat (first|exact Fr.nil|(apply Fr.cons;focus ((repeat constructor);done))))) (smsg_fn m2.deep (xb := xb) (fl := path) (a := a2) (c := c2) (l := symMs path (msgs.take i) pack) (m := m2) (sc := pack) (Nat.le_refl _) (MsgT.In.mono (fun _ _ _ _ _ h => (by repeat (first | exact (h) | apply Rd.cons))) (rm2 m2 hme2)) (om m2 hme2) (MsgT.nmL_mem hnm hme2) (MsgT.fulL_mem hful hme2) kb (by omega) (by rw [symMs_len]; omega)) rfl rfl rfl ?_
    rintro _ _ ⟨rfl, a3, c3, rfl⟩
    simp only [List.cons_append, List.nil_append]
    repeat' (first|(refine gv ?_;first|refine RT.id ?_|(refine⟨fun hc=>?_,fun hc=>?_⟩<;>first|(exfalso;omega)|skip)|refine gk ?_|refine num_m fun r hr=>?_|intro r hr)|refine gs ?_|(refine gb ?_;intro b)|refine gn ?_|(refine RT.isPush ?_;refine gp ?_;intro a' c' b' c1' hac)|refine gc ?_|fail)
    refine AtQ.loop (i + 1, a3, c3) ⟨rfl, rfl, rfl, trivial⟩ (fun w h => Sat.pu_in (by dsimp only; omega) ?_) (by dsimp only; omega)
    dsimp only
    rw [← symMs_snoc hgi]
    exact h
  rw [List.take_of_length_le (by omega)]
  clear hil rm rm2
  generalize hL3 : symMs path msgs pack = L3 at *
  have hl3 : L3.length = cntMs msgs := by rw [← hL3, symMs_len]
  obtain ⟨fcl, hfcl⟩ : ∃ fcl, fcl = [vS path, vS pack, Value.slice ia il.length ic, Value.slice ma msgs.length mc, Value.slice ea es.length ec] := ⟨_, rfl⟩
  rw [← hfcl]
  refine CT.loop (α := Nat × Option Addr × Nat) (fun s => [(1, .pointer (some ⟨fb, 0, none⟩)), (3, ptr xb), (5, .int .i64 s.1)])
    (fun s => Pu (s.1 ≤ es.length) :: (lst xb path s.2.1 s.2.2 (L3 ++ (es.take s.1).flatMap (symE path pack)) ++ Cs fb 26 fcl :: R)) (fun s => es.length - s.1) (0, a2, c2)
    ⟨rfl, rfl, rfl, trivial⟩ (fun w h => Sat.pu_in (Nat.zero_le _) (by dsimp only; rw [List.take_zero, List.flatMap_nil, List.append_nil]; exact h)) (fun ⟨i, a2, c2⟩ => CT.pu fun hil => ?_)
  dsimp only at hil ⊢
  subst hfcl
  simp only [List.cons_append, List.nil_append]
  repeat' (first|(refine gv ?_;first|refine RT.id ?_|(refine⟨fun hc=>?_,fun hc=>?_⟩<;>first|(exfalso;omega)|skip)|refine gk ?_|refine num_m fun r hr=>?_|intro r hr)|refine gs ?_|(refine gb ?_;intro b)|refine gn ?_|(refine RT.isPush ?_;refine gp ?_;intro a' c' b' c1' hac)|(refine CT.id_ ?_;first|refine nx ?_|refine CT.region ?_|refine CT.cond_t rfl ?_|refine CT.cond_f rfl ?_))
  · have hi' : i < es.length := by omega
    have hgi := List.getElem?_eq_getElem hi'
    revert hgi
    generalize es[i] = e2
    intro hgi
    have hme2 := List.mem_of_getElem? hgi
    have hcn := sum_snoc (f := cntE) hgi
    refine CT.tail 8 mixed (by kernel_rfl) ?_
    dsimp only [List.take_succ_cons, List.take_zero]
    repeat' (first|(refine gv ?_;first|refine RT.id ?_|(refine⟨fun hc=>?_,fun hc=>?_⟩<;>first|(exfalso;omega)|skip)|refine gk ?_|refine num_m fun r hr=>?_|intro r hr)|refine gs ?_|(refine gb ?_;intro b)|refine gn ?_|(refine RT.isPush ?_;refine gp ?_;intro a' c' b' c1' hac)|refine gc ?_|fail)
    refine RT.ix T (j := i * 5) rfl rfl rfl (by repeat (first | exact (re) | apply Rd.cons)) (by omega) (by omega) (by omega) rfl rfl ?_
    refine RT.ldra T rfl (by repeat (first | exact (re) | apply Rd.cons)) (l := e2.cells) (flat_sub (f := EnumT.cells) (z := 5) (fun _ => rfl) es i _ hgi) rfl rfl rfl rfl ?_
    repeat' (first|(refine gv ?_;first|refine RT.id ?_|(refine⟨fun hc=>?_,fun hc=>?_⟩<;>first|(exfalso;omega)|skip)|refine gk ?_|refine num_m fun r hr=>?_|intro r hr)|refine gs ?_|(refine gb ?_;intro b)|refine gn ?_|(refine RT.isPush ?_;refine gp ?_;intro a' c' b' c1' hac)|refine gc ?_|fail)
    refine AtQ.tail ?_
    refine RT.call T rfl (by (repeat (first|exact Fr.nil|(apply Fr.cons;focus ((repeat constructor);done))))) (senum_fn (xb := xb) (fl := path) (a := a2) (c := c2) (l := L3 ++ (es.take i).flatMap (symE path pack)) (e := e2) (sc := pack) (EnumT.In.mono (fun _ _ _ _ _ h => (by repeat (first | exact (h) | apply Rd.cons))) (re2 e2 hme2)) (oe e2 hme2) (hen e2 hme2) kb hpk (by rw [List.length_append, symEs_len]; omega)) rfl rfl rfl ?_
    rintro _ _ ⟨rfl, a3, c3, rfl⟩
    simp only [List.cons_append, List.nil_append]
    repeat' (first|(refine gv ?_;first|refine RT.id ?_|(refine⟨fun hc=>?_,fun hc=>?_⟩<;>first|(exfalso;omega)|skip)|refine gk ?_|refine num_m fun r hr=>?_|intro r hr)|refine gs ?_|(refine gb ?_;intro b)|refine gn ?_|(refine RT.isPush ?_;refine gp ?_;intro a' c' b' c1' hac)|refine gc ?_|fail)
    refine AtQ.loop (i + 1, a3, c3) ⟨rfl, rfl, rfl, trivial⟩ (fun w h => Sat.pu_in (by dsimp only; omega) ?_) (by dsimp only; omega)
    dsimp only
    rw [← flat_snoc hgi, ← List.append_assoc]
    exact h
  rw [List.take_of_length_le (by omega), hL]
  clear hil re re2 hL hnm hpk hen hful
  generalize hfcl : [vS path, vS pack, Value.slice ia il.length ic, Value.slice ma msgs.length mc, Value.slice ea es.length ec] = fcl
  clear hfcl
  refine CT.fact (p := L.length ≤ c2) (fun w h => (Own.facts h (by ((repeat constructor);done))).2.1) fun hLc => ?_
  refine CT.weak (fun w h => Sat.nilOwn (e := 79) (sz := 3) h) ?_
  refine CT.loop (α := Nat × List SymT × Option Addr × Nat) (fun s => [(3, ptr xb), (6, .slice s.2.2.1 s.2.1.length s.2.2.2), (7, .int .i64 s.1)])
    (fun s => Pu (s.1 ≤ L.length ∧ s.2.1.Perm (L.take s.1) ∧ s.2.1.length ≤ s.2.2.2) :: Own s.2.2.1 s.2.2.2 79 3 s.2.1.length (s.2.1.flatMap SymT.cells) :: (lst xb path a2 c2 L ++ Cs fb 26 fcl :: R)) (fun s => L.length - s.1) (0, [], none, 0)
    ⟨rfl, rfl, rfl, trivial⟩ (fun w h => Sat.pu_in ⟨Nat.zero_le _, List.Perm.refl _, Nat.le_refl _⟩ h) (fun ⟨i, out, ao, co⟩ => CT.pu fun ⟨hil, hpo, hoc⟩ => ?_)
  dsimp only at hil hpo hoc ⊢
  simp only [List.cons_append, List.nil_append]
  have hol : out.length = i := by rw [hpo.length_eq, List.length_take]; omega
  have hsl2 : L.length ≤ 16777216 := by omega
  clear hsl hcnt
  repeat' (first|(refine gv ?_;first|refine RT.id ?_|(refine⟨fun hc=>?_,fun hc=>?_⟩<;>first|(exfalso;omega)|skip)|refine gk ?_|refine num_m fun r hr=>?_|intro r hr)|refine gs ?_|(refine gb ?_;intro b)|refine gn ?_|(refine RT.isPush ?_;refine gp ?_;intro a' c' b' c1' hac)|(refine CT.id_ ?_;first|refine CT.seqN 15 rfl ?_|refine CT.blockN 15 rfl ?_|refine CT.region ?_|refine CT.quiet mixed (by kernel_rfl) ?_|refine CT.cond_t rfl ?_|refine CT.cond_f rfl ?_|refine CT.skip ?_|refine CT.ret ?_|refine CT.exit ?_))
  · have hi' : i < L.length := by omega
    have hgi := List.getElem?_eq_getElem hi'
    revert hgi
    generalize L[i] = x
    intro hgi
    have hxok := hsok x (List.mem_of_getElem? hgi)
    refine CT.seq ?_
    refine CT.cut (α := Nat) (fun q => [(3, ptr xb), (6, .slice ao out.length co), (7, .int .i64 i), (8, .int .i64 q)])
      (fun q => Pu (q ≤ out.length) :: Own ao co 79 3 out.length (out.flatMap SymT.cells) :: Cs xb 130 [.slice a2 L.length c2, vS path] :: Own a2 c2 79 3 L.length (L.flatMap SymT.cells) :: Cs fb 26 fcl :: R) ?_ (fun q => ?_)
    · refine nx ?_
      refine CT.loop (α := Nat) (fun q => [(3, ptr xb), (6, .slice ao out.length co), (7, .int .i64 i), (8, .int .i64 q)])
        (fun q => Pu (q ≤ out.length) :: Own ao co 79 3 out.length (out.flatMap SymT.cells) :: Cs xb 130 [.slice a2 L.length c2, vS path] :: Own a2 c2 79 3 L.length (L.flatMap SymT.cells) :: Cs fb 26 fcl :: R) (fun q => q) out.length
        ⟨rfl, rfl, rfl, rfl, trivial⟩ (fun w h => Sat.pu_in (Nat.le_refl _) h) (fun q => CT.pu fun hq => ?_)
      repeat' (first|(refine gv ?_;first|refine RT.id ?_|(refine⟨fun hc=>?_,fun hc=>?_⟩<;>first|(exfalso;omega)|skip)|refine gk ?_|refine num_m fun r hr=>?_|intro r hr)|refine gs ?_|(refine gb ?_;intro b)|refine gn ?_|(refine RT.isPush ?_;refine gp ?_;intro a' c' b' c1' hac)|(refine CT.id_ ?_;first|refine nx ?_|refine CT.region ?_|refine CT.cond_t rfl ?_|refine CT.cond_f rfl ?_))
      refine CT.tail 15 mixed (by kernel_rfl) ?_
      dsimp only [List.take_succ_cons, List.take_zero]
      repeat' (first|(refine gv ?_;first|refine RT.id ?_|(refine⟨fun hc=>?_,fun hc=>?_⟩<;>first|(exfalso;omega)|skip)|refine gk ?_|refine num_m fun r hr=>?_|intro r hr)|refine gs ?_|(refine gb ?_;intro b)|refine gn ?_|(refine RT.isPush ?_;refine gp ?_;intro a' c' b' c1' hac)|refine gc ?_|fail)
      · refine RT.ix T (j := i * 3) rfl rfl rfl (own_rd (by ((repeat constructor);done)) hLc) (by omega) (by omega) (by omega) rfl rfl ?_
        refine RT.ldra T rfl (own_rd (by ((repeat constructor);done)) hLc) (l := x.cells) (flat_sub (f := SymT.cells) (z := 3) (fun _ => rfl) L i _ hgi) rfl rfl rfl rfl ?_
        repeat' (first|(refine gv ?_;first|refine RT.id ?_|(refine⟨fun hc=>?_,fun hc=>?_⟩<;>first|(exfalso;omega)|skip)|refine gk ?_|refine num_m fun r hr=>?_|intro r hr)|refine gs ?_|(refine gb ?_;intro b)|refine gn ?_|(refine RT.isPush ?_;refine gp ?_;intro a' c' b' c1' hac)|refine gc ?_|fail)
        have hq' : q - 1 < out.length := by omega
        have hgq := List.getElem?_eq_getElem hq'
        have hyok := hsok out[q - 1] (List.mem_of_mem_take (hpo.mem_iff.1 (List.getElem_mem hq')))
        revert hgq hyok
        generalize out[q - 1] = y
        intro hgq hyok
        refine RT.ix T (j := (q - 1) * 3) rfl rfl rfl (own_rd (by ((repeat constructor);done)) hoc) (by omega) (by omega) (by omega) rfl rfl ?_
        refine RT.ldra T rfl (own_rd (by ((repeat constructor);done)) hoc) (l := y.cells) (flat_sub (f := SymT.cells) (z := 3) (fun _ => rfl) out (q - 1) _ hgq) rfl rfl rfl rfl ?_
        repeat' (first|(refine gv ?_;first|refine RT.id ?_|(refine⟨fun hc=>?_,fun hc=>?_⟩<;>first|(exfalso;omega)|skip)|refine gk ?_|refine num_m fun r hr=>?_|intro r hr)|refine gs ?_|(refine gb ?_;intro b)|refine gn ?_|(refine RT.isPush ?_;refine gp ?_;intro a' c' b' c1' hac)|refine gc ?_|fail)
        refine AtQ.tail ?_
        refine RT.call T rfl (by (repeat (first|exact Fr.nil|(apply Fr.cons;focus ((repeat constructor);done))))) (before_fn hxok hyok) rfl rfl rfl ?_
        rintro _ _ ⟨rfl, rfl⟩
        simp only [List.nil_append]
        cases befB x y
        · repeat' (first|(refine gv ?_;first|refine RT.id ?_|(refine⟨fun hc=>?_,fun hc=>?_⟩<;>first|(exfalso;omega)|skip)|refine gk ?_|refine num_m fun r hr=>?_|intro r hr)|refine gs ?_|(refine gb ?_;intro b)|refine gn ?_|(refine RT.isPush ?_;refine gp ?_;intro a' c' b' c1' hac)|refine gc ?_|fail)
          exact AtQ.cut q ⟨rfl, rfl, rfl, rfl, trivial⟩ (fun w h => Sat.pu_in hq h)
        · repeat' (first|(refine gv ?_;first|refine RT.id ?_|(refine⟨fun hc=>?_,fun hc=>?_⟩<;>first|(exfalso;omega)|skip)|refine gk ?_|refine num_m fun r hr=>?_|intro r hr)|refine gs ?_|(refine gb ?_;intro b)|refine gn ?_|(refine RT.isPush ?_;refine gp ?_;intro a' c' b' c1' hac)|refine gc ?_|fail)
          exact AtQ.loop (q - 1) ⟨rfl, rfl, rfl, congrArg (fun z : Int => some (Value.int IntKind.i64 z)) (by omega), trivial⟩ (fun w h => Sat.pu_in (by omega) h) (by omega)
      · refine AtQ.tail ?_
        repeat' (first|(refine gv ?_;first|refine RT.id ?_|(refine⟨fun hc=>?_,fun hc=>?_⟩<;>first|(exfalso;omega)|skip)|refine gk ?_|refine num_m fun r hr=>?_|intro r hr)|refine gs ?_|(refine gb ?_;intro b)|refine gn ?_|(refine RT.isPush ?_;refine gp ?_;intro a' c' b' c1' hac)|refine gc ?_|fail)
        exact AtQ.cut q ⟨rfl, rfl, rfl, rfl, trivial⟩ (fun w h => Sat.pu_in hq h)
    refine A0 ?_
    refine CT.pu fun hq => ?_
    repeat' (first|(refine gv ?_;first|refine RT.id ?_|(refine⟨fun hc=>?_,fun hc=>?_⟩<;>first|(exfalso;omega)|skip)|refine gk ?_|refine num_m fun r hr=>?_|intro r hr)|refine gs ?_|(refine gb ?_;intro b)|refine gn ?_|(refine RT.isPush ?_;refine gp ?_;intro a' c' b' c1' hac)|refine gc ?_|fail)
    refine RT.bsA T (l := (⟨[], 0, []⟩ : SymT).cells) rfl rfl rfl rfl rfl rfl rfl rfl (fun b' => ?_)
    refine RT.app T (xs := out.flatMap SymT.cells) (ys := (⟨[], 0, []⟩ : SymT).cells) rfl rfl rfl (fun a' c' => by ((repeat constructor);done)) (Own.rd (by ((repeat constructor);done)) rfl (Nat.le_refl _)) (one_sym _) (by omega) (by omega) rfl rfl rfl rfl (fun a1 c1 hac => ?_)
    have hst : out.flatMap SymT.cells ++ (⟨[], 0, []⟩ : SymT).cells = (out.take out.length ++ ⟨[], 0, []⟩ :: out.drop out.length).flatMap SymT.cells := by rw [← shift_start]; simp
    rw [hst]
    repeat' (first|(refine gv ?_;first|refine RT.id ?_|(refine⟨fun hc=>?_,fun hc=>?_⟩<;>first|(exfalso;omega)|skip)|refine gk ?_|refine num_m fun r hr=>?_|intro r hr)|refine gs ?_|(refine gb ?_;intro b)|refine gn ?_|(refine RT.isPush ?_;refine gp ?_;intro a' c' b' c1' hac)|refine gc ?_|fail)
    refine CT.loop (α := Nat × SymT) (fun s => [(3, ptr xb), (6, .slice a1 (out.length + 1) c1), (7, .int .i64 i), (8, .int .i64 q), (9, .int .i64 s.1)])
      (fun s => Pu (q ≤ s.1 ∧ s.1 ≤ out.length) :: Own a1 c1 79 3 (out.length + 1) ((out.take s.1 ++ s.2 :: out.drop s.1).flatMap SymT.cells) :: Cs xb 130 [.slice a2 L.length c2, vS path] :: Own a2 c2 79 3 L.length (L.flatMap SymT.cells) :: Cs fb 26 fcl :: R) (fun s => s.1) (out.length, ⟨[], 0, []⟩)
      ⟨rfl, rfl, rfl, rfl, congrArg (fun z : Int => some (Value.int IntKind.i64 z)) (by dsimp only; omega), trivial⟩ (fun w h => Sat.pu_in ⟨hq, Nat.le_refl _⟩ h.tail) (fun ⟨k, y⟩ => CT.pu fun ⟨hk1, hk2⟩ => ?_)
    dsimp only at hk1 hk2 ⊢
    repeat' (first|(refine gv ?_;first|refine RT.id ?_|(refine⟨fun hc=>?_,fun hc=>?_⟩<;>first|(exfalso;omega)|skip)|refine gk ?_|refine num_m fun r hr=>?_|intro r hr)|refine gs ?_|(refine gb ?_;intro b)|refine gn ?_|(refine RT.isPush ?_;refine gp ?_;intro a' c' b' c1' hac)|refine gc ?_|fail)
    · obtain ⟨k, rfl⟩ : ∃ k', k = k' + 1 := ⟨k - 1, by omega⟩
      have hk' : k < out.length := by omega
      have hus := shift_len (out := out) (y := y) (k := k + 1) (by omega)
      have hgk := shift_get (y := y) hk'
      have hdn := shift_down (y := y) hk'
      refine RT.ix T (j := k * 3) rfl rfl rfl (Own.rd (by ((repeat constructor);done)) (by rw [flat_len sym_len, hus]) hac) (by omega) (by omega) (by omega) rfl rfl ?_
      refine RT.ldra T rfl (Own.rd (by ((repeat constructor);done)) (by rw [flat_len sym_len, hus]) hac) (l := out[k].cells) (flat_sub (f := SymT.cells) (z := 3) (fun _ => rfl) _ k _ hgk) rfl rfl rfl rfl ?_
      refine RT.ix T (j := (k + 1) * 3) rfl rfl rfl (Own.rd (by ((repeat constructor);done)) (by rw [flat_len sym_len, hus]) hac) (by omega) (by omega) (by omega) rfl rfl ?_
      refine RT.stoA T (v := out[k].cells) rfl rfl rfl (by ((repeat constructor);done)) (by rw [flat_len sym_len, hus, sym_len]; omega) (by rw [sym_len]; decide) rfl rfl rfl ?_
      rw [sym_len, flat_set sym_len _ (by rw [hus]; omega), hdn]
      repeat' (first|(refine gv ?_;first|refine RT.id ?_|(refine⟨fun hc=>?_,fun hc=>?_⟩<;>first|(exfalso;omega)|skip)|refine gk ?_|refine num_m fun r hr=>?_|intro r hr)|refine gs ?_|(refine gb ?_;intro b)|refine gn ?_|(refine RT.isPush ?_;refine gp ?_;intro a' c' b' c1' hac)|refine gc ?_|fail)
      exact AtQ.loop (k, out[k]) ⟨rfl, rfl, rfl, rfl, congrArg (fun z : Int => some (Value.int IntKind.i64 z)) (by dsimp only; omega), trivial⟩ (fun w h => Sat.pu_in ⟨by dsimp only; omega, by dsimp only; omega⟩ h) (by dsimp only; omega)
    · obtain rfl : k = q := by omega
      have hus := shift_len (out := out) (y := y) (k := k) (by omega)
      refine RT.ix T (j := i * 3) rfl rfl rfl (own_rd (by ((repeat constructor);done)) hLc) (by omega) (by omega) (by omega) rfl rfl ?_
      refine RT.ldra T rfl (own_rd (by ((repeat constructor);done)) hLc) (l := x.cells) (flat_sub (f := SymT.cells) (z := 3) (fun _ => rfl) L i _ hgi) rfl rfl rfl rfl ?_
      refine RT.ix T (j := k * 3) rfl rfl rfl (Own.rd (by ((repeat constructor);done)) (by rw [flat_len sym_len, hus]) hac) (by omega) (by omega) (by omega) rfl rfl ?_
      refine RT.stoA T (v := x.cells) rfl rfl rfl (by ((repeat constructor);done)) (by rw [flat_len sym_len, hus, sym_len]; omega) (by rw [sym_len]; decide) rfl rfl rfl ?_
      rw [sym_len, flat_set sym_len _ (by rw [hus]; omega), shift_set (by omega)]
      repeat' (first|(refine gv ?_;first|refine RT.id ?_|(refine⟨fun hc=>?_,fun hc=>?_⟩<;>first|(exfalso;omega)|skip)|refine gk ?_|refine num_m fun r hr=>?_|intro r hr)|refine gs ?_|(refine gb ?_;intro b)|refine gn ?_|(refine RT.isPush ?_;refine gp ?_;intro a' c' b' c1' hac)|refine gc ?_|fail)
      have hus2 := shift_len (out := out) (y := x) (k := k) (by omega)
      refine AtQ.loop (i + 1, out.take k ++ x :: out.drop k, a1, c1) ⟨rfl, by dsimp only; rw [hus2]; rfl, rfl, trivial⟩ (fun w h => Sat.pu_in ⟨by dsimp only; omega, shift_perm hpo hgi, by dsimp only; omega⟩ (by dsimp only; rw [hus2]; exact h)) (by dsimp only; omega)
  · rw [List.take_of_length_le (by omega)] at hpo
    exact AtQ.fin1 (H' := [Own ao co 79 3 out.length (out.flatMap SymT.cells)]) Tryz.results16 rfl ⟨ao, co, out, rfl, hoc, hpo, rfl⟩ (fun w h => h.frd (Ps := [_]) (Qs := [_, _, _]) (by (repeat (first|exact Fr.nil|(apply Fr.cons;focus ((repeat constructor);done))))))
end Go.Proofs.YtdemnhdoadjhhaaGreatDoor
end
section
namespace Go.Proofs.YtdemnhdoadjhhaaGreatDoor
open Go.Sk
set_option maxRecDepth 100000
attribute [local irreducible] Cs Own Ex Pu Yld RT LJ QJ AtQ CT Rd QSp Sp FinQ Then LoopQ CutQ DT TakeQ EffQ
variable {B : World} {R : List HP}
end Go.Proofs.YtdemnhdoadjhhaaGreatDoor
end
section
namespace Go.Proofs.YtdemnhdoadjhhaaGreatDoor
open Go.Sk
set_option maxRecDepth 100000
theorem map_getT {l : List Txt} {j : Nat} {x : Txt} (h : l[j]? = some x) : (l.map vS)[j]? = some (vS x) := by rw [List.getElem?_map, h]; rfl
attribute [local irreducible] Cs Own Ex Pu Yld RT LJ QJ AtQ CT Rd QSp Sp FinQ Then LoopQ CutQ DT TakeQ EffQ
variable {B : World} {R : List HP}
set_option maxHeartbeats 4000000 in
theorem enum_fn {br bm : Nat} {g : List Txt} {e : EnumT} {sc : Txt} (hin : e.In (Rd B R)) (hok : e.Ok) (hnm : ENm e) (hg : BL g) (hs : Byt sc) (hsl : sc.length ≤ 16777216) :
    SpP B Tryz.prog 93 [ptr br, .agg e.cells.toArray, vS sc] R [rdr br bm, giv bm g] (PostR (enumR e sc g) [rdr br bm] bm) (PPR (enumR e sc g)) := by
  obtain ⟨nm, ⟨va, vc, vl⟩, ali, ⟨ra, rc, rl⟩, ⟨na, nc, nl⟩⟩ := e
  obtain ⟨hv, hr, hn⟩ := hin
  obtain ⟨⟨ho1, _⟩, ⟨ho2, _⟩, ho3, ⟨ho4, _⟩, ho5, ⟨ho6, _⟩, ho7⟩ := hok
  obtain ⟨hm1, hm2, hm3⟩ := hnm
  dsimp only at hv hr hn ho1 ho2 ho3 ho4 ho5 ho6 ho7 hm1 hm2 hm3
  have hT : enumR ⟨nm, ⟨va, vc, vl⟩, ali, ⟨ra, rc, rl⟩, ⟨na, nc, nl⟩⟩ sc g = enumR ⟨nm, ⟨va, vc, vl⟩, ali, ⟨ra, rc, rl⟩, ⟨na, nc, nl⟩⟩ sc g := rfl
  conv at hT => rhs; unfold enumR
  dsimp only at hT
  generalize enumR ⟨nm, ⟨va, vc, vl⟩, ali, ⟨ra, rc, rl⟩, ⟨na, nc, nl⟩⟩ sc g = TT at *
  dsimp only [EnumT.cells, Rw.v]
  refine SpP.body Tryz.func93 rfl Tryz.ntmps93 (by simp) ?_
  simp only [argE, List.cons_append, List.nil_append, Nat.zero_add, Nat.reduceAdd]
  repeat' (first|(refine gv ?_;first|refine RT.id ?_|(refine⟨fun hc=>?_,fun hc=>?_⟩<;>first|(exfalso;omega)|skip)|refine gk ?_|refine num_m fun r hr=>?_|intro r hr)|refine gs ?_|(refine gb ?_;intro b)|refine gn ?_|(refine RT.isPush ?_;refine gp ?_;intro a' c' b' c1' hac)|refine gc ?_|fail)
  revert b
  intro eb
  (refine RT.bs T (l := strs [sc,  nm]) rfl rfl rfl rfl rfl rfl rfl (fun a9 c9 h9 => ?_); (refine RT.call T rfl fR_ (join_fn (ls := [sc,  nm]) (Own.rd (by ((repeat constructor);done)) rfl h9) rfl (b2  hs  ho1) ( s2l hsl hm1)) rfl rfl rfl ?_; rintro _ _ ⟨rfl, rfl⟩; try simp only [List.cons_append, List.nil_append]); refine RT.weak (fun w h => h.tail) ?_)
  repeat' (first|(refine gv ?_;first|refine RT.id ?_|(refine⟨fun hc=>?_,fun hc=>?_⟩<;>first|(exfalso;omega)|skip)|refine gk ?_|refine num_m fun r hr=>?_|intro r hr)|refine gs ?_|(refine gb ?_;intro b)|refine gn ?_|(refine RT.isPush ?_;refine gp ?_;intro a' c' b' c1' hac)|refine gc ?_|fail)
  have hjl := @j2_len sc nm
  (refine RT.callP T rfl fR_ (give_fn (br := br) (bm := bm) hg ho1 (j2_byt hs ho1) hm1 (show (joinL [sc, nm]).length ≤ 140737488355327 by omega)) rfl rfl rfl (fun v H1 hp => ?_) (fun v H1 hp => ?_))
  · obtain ⟨e, t, h1, rfl, rfl⟩ := hp
    ((repeat refine nx ?_); exact AtQ.finP (H' := []) ⟨e, t, by rw [hT, h1]; rfl, rfl, rfl⟩ dR_)
  obtain ⟨g1, h1, hb1, rfl⟩ := hp
  rw [h1] at hT
  rw [bnd_ok] at hT
  simp only [List.cons_append, List.nil_append]
  repeat' (first|(refine gv ?_;first|refine RT.id ?_|(refine⟨fun hc=>?_,fun hc=>?_⟩<;>first|(exfalso;omega)|skip)|refine gk ?_|refine num_m fun r hr=>?_|intro r hr)|refine gs ?_|(refine gb ?_;intro b)|refine gn ?_|(refine RT.isPush ?_;refine gp ?_;intro a' c' b' c1' hac)|refine gc ?_|fail)
  rotate_left
  · (refine RT.callP T rfl fR_ (must_fn (p := false) (e := 68) (t := joinL [sc, nm])) rfl rfl rfl (fun v H1 hp => ?_) (fun v H1 hp => ?_))
    · obtain ⟨_, rfl, rfl⟩ := hp
      ((repeat refine nx ?_); exact AtQ.finP (H' := []) ⟨68, joinL [sc, nm], by rw [hT]; exact must_f (decide_eq_false (by omega)), rfl, rfl⟩ dR_)
    · cases hp.1
  rw [must_t (decide_eq_true (by omega))] at hT
  (refine RT.callP T rfl fR_ (must_fn (p := true) (e := 68) (t := joinL [sc, nm])) rfl rfl rfl (fun v H1 hp => ?_) (fun v H1 hp => ?_))
  · cases hp.1
  obtain ⟨_, rfl⟩ := hp
  simp only [List.nil_append]
  repeat' (first|(refine gv ?_;first|refine RT.id ?_|(refine⟨fun hc=>?_,fun hc=>?_⟩<;>first|(exfalso;omega)|skip)|refine gk ?_|refine num_m fun r hr=>?_|intro r hr)|refine gs ?_|(refine gb ?_;intro b)|refine gn ?_|(refine RT.isPush ?_;refine gp ?_;intro a' c' b' c1' hac)|refine gc ?_|fail)
  · have hl0 : 0 < vl.length := by omega
    have hg0 := List.getElem?_eq_getElem hl0
    revert hg0
    generalize vl[0] = v0
    intro hg0
    refine RT.ix T (j := 0) rfl rfl rfl (by repeat (first | exact (hv) | apply Rd.cons)) (by omega) (by omega) rfl rfl rfl ?_
    refine RT.faA T rfl rfl rfl rfl ?_
    refine RT.ldr (u := .int .i32 v0.num) T rfl (by repeat (first | exact (hv) | apply Rd.cons)) (by rw [show (0 + 1 : Nat) = 0 * 2 + 1 from rfl, flat_get (f := EValT.cells) (z := 2) (fun _ => rfl) hg0 (by decide)]; rfl) rfl rfl rfl ?_
    repeat' (first|(refine gv ?_;first|refine RT.id ?_|(refine⟨fun hc=>?_,fun hc=>?_⟩<;>first|(exfalso;omega)|skip)|refine gk ?_|refine num_m fun r hr=>?_|intro r hr)|refine gs ?_|(refine gb ?_;intro b)|refine gn ?_|(refine RT.isPush ?_;refine gp ?_;intro a' c' b' c1' hac)|refine gc ?_|fail)
    rotate_left
    · (refine RT.callP T rfl fR_ (must_fn (p := false) (e := 66) (t := joinL [sc, nm])) rfl rfl rfl (fun v H1 hp => ?_) (fun v H1 hp => ?_))
      · obtain ⟨_, rfl, rfl⟩ := hp
        ((repeat refine nx ?_); exact AtQ.finP (H' := []) ⟨66, joinL [sc, nm], by rw [hT]; exact must_f (decide_eq_false (by rintro ⟨v, hv, h0⟩; rw [hg0] at hv; cases hv; omega)), rfl, rfl⟩ dR_)
      · cases hp.1
    rw [must_t (decide_eq_true ⟨v0, hg0, by omega⟩)] at hT
    (refine RT.callP T rfl fR_ (must_fn (p := true) (e := 66) (t := joinL [sc, nm])) rfl rfl rfl (fun v H1 hp => ?_) (fun v H1 hp => ?_))
    · cases hp.1
    obtain ⟨_, rfl⟩ := hp
    simp only [List.nil_append]
    repeat' (first|(refine gv ?_;first|refine RT.id ?_|(refine⟨fun hc=>?_,fun hc=>?_⟩<;>first|(exfalso;omega)|skip)|refine gk ?_|refine num_m fun r hr=>?_|intro r hr)|refine gs ?_|(refine gb ?_;intro b)|refine gn ?_|(refine RT.isPush ?_;refine gp ?_;intro a' c' b' c1' hac)|refine gc ?_|fail)
    (refine RT.callP T rfl fR_ (spans_fn (r := ⟨ra, rc, rl⟩) (lo := -2147483648) (hi := 2147483647) (t := joinL [sc, nm]) (by repeat (first | exact (hr) | apply Rd.cons)) ho4) rfl rfl rfl (fun v H1 hp => ?_) (fun v H1 hp => ?_))
    · obtain ⟨e, t, h2, rfl, rfl⟩ := hp
      ((repeat refine nx ?_); exact AtQ.finP (H' := []) ⟨e, t, by rw [hT, h2]; rfl, rfl, rfl⟩ dR_)
    obtain ⟨h2, rfl⟩ := hp
    rw [h2] at hT
    rw [opt_none] at hT
    simp only [List.nil_append]
    repeat' (first|(refine gv ?_;first|refine RT.id ?_|(refine⟨fun hc=>?_,fun hc=>?_⟩<;>first|(exfalso;omega)|skip)|refine gk ?_|refine num_m fun r hr=>?_|intro r hr)|refine gs ?_|(refine gb ?_;intro b)|refine gn ?_|(refine RT.isPush ?_;refine gp ?_;intro a' c' b' c1' hac)|refine gc ?_|fail)
    (refine RT.callP T rfl fR_ (reserved_fn (r := ⟨na, nc, nl⟩) (sc := sc) ⟨(by repeat (first | exact (hn) | apply Rd.cons)), ho6, fun t ht => (ho7 t ht).1, hm3⟩ hs hsl) rfl rfl rfl (fun v H1 hp => ?_) (fun v H1 hp => ?_))
    · obtain ⟨e, t, h3, rfl, rfl⟩ := hp
      ((repeat refine nx ?_); exact AtQ.finP (H' := []) ⟨e, t, by rw [hT, h3]; try rfl, rfl, rfl⟩ dR_)
    obtain ⟨h3, rfl⟩ := hp
    rw [h3] at hT
    rw [opt_none] at hT
    simp only [List.nil_append]
    repeat' (first|(refine gv ?_;first|refine RT.id ?_|(refine⟨fun hc=>?_,fun hc=>?_⟩<;>first|(exfalso;omega)|skip)|refine gk ?_|refine num_m fun r hr=>?_|intro r hr)|refine gs ?_|(refine gb ?_;intro b)|refine gn ?_|(refine RT.isPush ?_;refine gp ?_;intro a' c' b' c1' hac)|refine gc ?_|fail)
    clear h1 h2 h3 hg0
    obtain ⟨es, hes⟩ : ∃ es, es = [vS nm, Value.slice va vl.length vc, Value.bool ali, Value.slice ra rl.length rc, Value.slice na nl.length nc] := ⟨_, rfl⟩
    rw [← hes]
    refine CT.loop (α := Nat × List Txt) (fun s => [(0, ptr br), (2, vS sc), (4, .pointer (some ⟨eb, 0, none⟩)), (49, .slice va vl.length vc), (50, .int .i64 vl.length), (51, .int .i64 s.1)])
      (fun s => Pu (s.1 ≤ vl.length ∧ BL s.2 ∧ TT = valsR nl rl ali sc (vl.take s.1) (vl.drop s.1) s.2) :: rdr br bm :: giv bm s.2 :: Cs eb 109 es :: R) (fun s => vl.length - s.1) (0, g1)
      ⟨rfl, rfl, rfl, rfl, rfl, rfl, trivial⟩ (fun w h => Sat.pu_in ⟨Nat.zero_le _, hb1, hT⟩ h) (fun ⟨i, gi⟩ => CT.pu fun ⟨hil, hbi, hTi⟩ => ?_)
    dsimp only at hil hbi hTi ⊢
    clear hT hb1
    subst hes
    repeat' (first|(refine gv ?_;first|refine RT.id ?_|(refine⟨fun hc=>?_,fun hc=>?_⟩<;>first|(exfalso;omega)|skip)|refine gk ?_|refine num_m fun r hr=>?_|intro r hr)|refine gs ?_|(refine gb ?_;intro b)|refine gn ?_|(refine RT.isPush ?_;refine gp ?_;intro a' c' b' c1' hac)|refine gc ?_|fail)
    · have hi' : i < vl.length := by omega
      have hgi := List.getElem?_eq_getElem hi'
      rw [List.drop_eq_getElem_cons hi', valsR] at hTi
      have htk : vl.take i ++ [vl[i]] = vl.take (i + 1) := by rw [List.take_add_one, hgi]; rfl
      rw [htk] at hTi
      clear htk
      revert hTi hgi
      generalize vl[i] = ev
      intro hTi hgi
      have hme := List.mem_of_getElem? hgi
      have hvb := (ho3 ev hme).1.1
      have hvs := hm2 ev hme
      refine RT.ix T (j := i * 2) rfl rfl rfl (by repeat (first | exact (hv) | apply Rd.cons)) (by omega) (by omega) (by omega) rfl rfl ?_
      refine RT.ldra T rfl (by repeat (first | exact (hv) | apply Rd.cons)) (l := ev.cells) (flat_sub (f := EValT.cells) (z := 2) (fun _ => rfl) vl i _ hgi) rfl rfl rfl rfl ?_
      repeat' (first|(refine gv ?_;first|refine RT.id ?_|(refine⟨fun hc=>?_,fun hc=>?_⟩<;>first|(exfalso;omega)|skip)|refine gk ?_|refine num_m fun r hr=>?_|intro r hr)|refine gs ?_|(refine gb ?_;intro b)|refine gn ?_|(refine RT.isPush ?_;refine gp ?_;intro a' c' b' c1' hac)|refine gt ?_|refine gc ?_|fail)
      (refine RT.bs T (l := strs [sc,  ev.nm]) rfl rfl rfl rfl rfl rfl rfl (fun a9 c9 h9 => ?_); (refine RT.call T rfl fR_ (join_fn (ls := [sc,  ev.nm]) (Own.rd (by ((repeat constructor);done)) rfl h9) rfl (b2  hs  hvb) ( s2l hsl hvs)) rfl rfl rfl ?_; rintro _ _ ⟨rfl, rfl⟩; try simp only [List.cons_append, List.nil_append]); refine RT.weak (fun w h => h.tail) ?_)
      repeat' (first|(refine gv ?_;first|refine RT.id ?_|(refine⟨fun hc=>?_,fun hc=>?_⟩<;>first|(exfalso;omega)|skip)|refine gk ?_|refine num_m fun r hr=>?_|intro r hr)|refine gs ?_|(refine gb ?_;intro b)|refine gn ?_|(refine RT.isPush ?_;refine gp ?_;intro a' c' b' c1' hac)|refine gc ?_|fail)
      have hjv := @j2_len sc ev.nm
      have hjb := j2_byt hs hvb
      generalize joinL [sc, ev.nm] = at_ at *
      (refine RT.callP T rfl fR_ (give_fn (br := br) (bm := bm) (g := gi) hbi hvb hjb hvs (show at_.length ≤ 140737488355327 by omega)) rfl rfl rfl (fun v H1 hp => ?_) (fun v H1 hp => ?_))
      · obtain ⟨e, t, h4, rfl, rfl⟩ := hp
        ((repeat refine nx ?_); exact AtQ.finP (H' := []) ⟨e, t, by rw [hTi, h4]; rfl, rfl, rfl⟩ dR_)
      obtain ⟨g2, h4, hb2, rfl⟩ := hp
      rw [h4] at hTi
      rw [bnd_ok] at hTi
      simp only [List.cons_append, List.nil_append]
      repeat' (first|(refine gv ?_;first|refine RT.id ?_|(refine⟨fun hc=>?_,fun hc=>?_⟩<;>first|(exfalso;omega)|skip)|refine gk ?_|refine num_m fun r hr=>?_|intro r hr)|refine gs ?_|(refine gb ?_;intro b)|refine gn ?_|(refine RT.isPush ?_;refine gp ?_;intro a' c' b' c1' hac)|refine gc ?_|fail)
      (refine RT.call T rfl fR_ (contT_fn (l := nl) (x := ev.nm) rfl ho6 (by repeat (first | exact (hn) | apply Rd.cons)) (fun t ht => (ho7 t ht).1) hvb) rfl rfl rfl ?_; rintro _ _ ⟨rfl, rfl⟩; try simp only [List.cons_append, List.nil_append])
      have pan63 : (decide (ev.nm ∉ nl) && !anyS rl ev.num) = false → TT = .error (63, at_) := fun h => by rw [hTi]; exact must_f h
      by_cases hmn : ev.nm ∈ nl
      · rw [decide_eq_true hmn]
        repeat' (first|(refine gv ?_;first|refine RT.id ?_|(refine⟨fun hc=>?_,fun hc=>?_⟩<;>first|(exfalso;omega)|skip)|refine gk ?_|refine num_m fun r hr=>?_|intro r hr)|refine gs ?_|(refine gb ?_;intro b)|refine gn ?_|(refine RT.isPush ?_;refine gp ?_;intro a' c' b' c1' hac)|refine gc ?_|fail)
        (refine RT.callP T rfl fR_ (must_fn (p := false) (e := 63) (t := at_)) rfl rfl rfl (fun v H1 hp => ?_) (fun v H1 hp => ?_))
        · obtain ⟨_, rfl, rfl⟩ := hp
          ((repeat refine nx ?_); exact AtQ.finP (H' := []) ⟨63, at_, pan63 (by rw [decide_eq_false (fun h => h hmn)]; rfl), rfl, rfl⟩ dR_)
        · cases hp.1
      · rw [decide_eq_false hmn]
        repeat' (first|(refine gv ?_;first|refine RT.id ?_|(refine⟨fun hc=>?_,fun hc=>?_⟩<;>first|(exfalso;omega)|skip)|refine gk ?_|refine num_m fun r hr=>?_|intro r hr)|refine gs ?_|(refine gb ?_;intro b)|refine gn ?_|(refine RT.isPush ?_;refine gp ?_;intro a' c' b' c1' hac)|refine gc ?_|fail)
        (refine RT.call T rfl fR_ (within_fn (r := ⟨ra, rc, rl⟩) (x := ev.num) (by repeat (first | exact (hr) | apply Rd.cons)) ho4) rfl rfl rfl ?_; rintro _ _ ⟨rfl, rfl⟩; try simp only [List.cons_append, List.nil_append])
        cases han : anyS rl ev.num
        rotate_left
        · repeat' (first|(refine gv ?_;first|refine RT.id ?_|(refine⟨fun hc=>?_,fun hc=>?_⟩<;>first|(exfalso;omega)|skip)|refine gk ?_|refine num_m fun r hr=>?_|intro r hr)|refine gs ?_|(refine gb ?_;intro b)|refine gn ?_|(refine RT.isPush ?_;refine gp ?_;intro a' c' b' c1' hac)|refine gc ?_|fail)
          (refine RT.callP T rfl fR_ (must_fn (p := false) (e := 63) (t := at_)) rfl rfl rfl (fun v H1 hp => ?_) (fun v H1 hp => ?_))
          · obtain ⟨_, rfl, rfl⟩ := hp
            ((repeat refine nx ?_); exact AtQ.finP (H' := []) ⟨63, at_, pan63 (by rw [han, decide_eq_true hmn]; rfl), rfl, rfl⟩ dR_)
          · cases hp.1
        · repeat' (first|(refine gv ?_;first|refine RT.id ?_|(refine⟨fun hc=>?_,fun hc=>?_⟩<;>first|(exfalso;omega)|skip)|refine gk ?_|refine num_m fun r hr=>?_|intro r hr)|refine gs ?_|(refine gb ?_;intro b)|refine gn ?_|(refine RT.isPush ?_;refine gp ?_;intro a' c' b' c1' hac)|refine gc ?_|fail)
          (refine RT.callP T rfl fR_ (must_fn (p := true) (e := 63) (t := at_)) rfl rfl rfl (fun v H1 hp => ?_) (fun v H1 hp => ?_))
          · cases hp.1
          obtain ⟨_, rfl⟩ := hp
          rw [must_t (by rw [han, decide_eq_true hmn]; rfl)] at hTi
          simp only [List.nil_append]
          cases hal : ali
          · subst hal
            repeat' (first|(refine gv ?_;first|refine RT.id ?_|(refine⟨fun hc=>?_,fun hc=>?_⟩<;>first|(exfalso;omega)|skip)|refine gk ?_|refine num_m fun r hr=>?_|intro r hr)|refine gs ?_|(refine gb ?_;intro b)|refine gn ?_|(refine RT.isPush ?_;refine gp ?_;intro a' c' b' c1' hac)|refine gc ?_|fail)
            refine RT.slhi T (j := i) rfl rfl rfl (by have := Rd.le hv; omega) rfl rfl rfl ?_
            rw [asub_z]
            have hA := Rd.flatPre (f := EValT.cells) (j := i) (fun _ => rfl) hv rfl hil
            have hAl : (vl.take i).length = i := by rw [List.length_take]; omega
            repeat' (first|(refine gv ?_;first|refine RT.id ?_|(refine⟨fun hc=>?_,fun hc=>?_⟩<;>first|(exfalso;omega)|skip)|refine gk ?_|refine num_m fun r hr=>?_|intro r hr)|refine gs ?_|(refine gb ?_;intro b)|refine gn ?_|(refine RT.isPush ?_;refine gp ?_;intro a' c' b' c1' hac)|refine gc ?_|fail)
            refine RT.mkF rfl rfl rfl ?_
            repeat' (first|(refine gv ?_;first|refine RT.id ?_|(refine⟨fun hc=>?_,fun hc=>?_⟩<;>first|(exfalso;omega)|skip)|refine gk ?_|refine num_m fun r hr=>?_|intro r hr)|refine gs ?_|(refine gb ?_;intro b)|refine gn ?_|(refine RT.isPush ?_;refine gp ?_;intro a' c' b' c1' hac)|refine gc ?_|fail)
            refine RT.call T rfl (by (repeat (first|exact Fr.nil|(apply Fr.cons;focus ((repeat constructor);done))))) (contfV_fn (l := vl.take i) (p := fun o => decide (o.num = ev.num)) (f := 124) (caps := [.pointer (some ⟨b, 0, none⟩)]) (Pre := [Cs b 111 ev.cells]) hAl (by omega) (by repeat (first | exact (hA) | apply Rd.cons)) rfl (fun s _ => enum1_fn)) rfl rfl rfl ?_
            rintro _ _ ⟨rfl, rfl⟩
            simp only [List.cons_append, List.nil_append]
            have hany : decide (∀ o ∈ vl.take i, o.num ≠ ev.num) = !((vl.take i).any fun o => decide (o.num = ev.num)) := by
              rw [Bool.eq_iff_iff]
              simp
            rw [Bool.false_or, hany] at hTi
            cases hq : (vl.take i).any fun o => decide (o.num = ev.num)
            · rw [hq] at hTi
              repeat' (first|(refine gv ?_;first|refine RT.id ?_|(refine⟨fun hc=>?_,fun hc=>?_⟩<;>first|(exfalso;omega)|skip)|refine gk ?_|refine num_m fun r hr=>?_|intro r hr)|refine gs ?_|(refine gb ?_;intro b)|refine gn ?_|(refine RT.isPush ?_;refine gp ?_;intro a' c' b' c1' hac)|refine gc ?_|fail)
              (refine RT.callP T rfl fR_ (must_fn (p := true) (e := 66) (t := at_)) rfl rfl rfl (fun v H1 hp => ?_) (fun v H1 hp => ?_))
              · cases hp.1
              obtain ⟨_, rfl⟩ := hp
              rw [must_t (p := !false) rfl] at hTi
              repeat' (first|(refine gv ?_;first|refine RT.id ?_|(refine⟨fun hc=>?_,fun hc=>?_⟩<;>first|(exfalso;omega)|skip)|refine gk ?_|refine num_m fun r hr=>?_|intro r hr)|refine gs ?_|(refine gb ?_;intro b)|refine gn ?_|(refine RT.isPush ?_;refine gp ?_;intro a' c' b' c1' hac)|refine gc ?_|fail)
              exact AtQ.loop (i + 1, g2) ⟨rfl, rfl, rfl, rfl, rfl, rfl, trivial⟩ (fun w h => Sat.pu_in ⟨by omega, hb2, hTi⟩ (h.frd (Ps := [rdr br bm, giv bm g2, Cs eb 109 _]) (Qs := [_]) (by (repeat (first|exact Fr.nil|(apply Fr.cons;focus ((repeat constructor);done))))))) (by dsimp only; omega)
            · rw [hq] at hTi
              repeat' (first|(refine gv ?_;first|refine RT.id ?_|(refine⟨fun hc=>?_,fun hc=>?_⟩<;>first|(exfalso;omega)|skip)|refine gk ?_|refine num_m fun r hr=>?_|intro r hr)|refine gs ?_|(refine gb ?_;intro b)|refine gn ?_|(refine RT.isPush ?_;refine gp ?_;intro a' c' b' c1' hac)|refine gc ?_|fail)
              (refine RT.callP T rfl fR_ (must_fn (p := false) (e := 66) (t := at_)) rfl rfl rfl (fun v H1 hp => ?_) (fun v H1 hp => ?_))
              · obtain ⟨_, rfl, rfl⟩ := hp
                ((repeat refine nx ?_); exact AtQ.finP (H' := []) ⟨66, at_, by rw [hTi]; exact must_f rfl, rfl, rfl⟩ dR_)
              · cases hp.1
          · subst hal
            rw [Bool.true_or, must_t rfl] at hTi
            repeat' (first|(refine gv ?_;first|refine RT.id ?_|(refine⟨fun hc=>?_,fun hc=>?_⟩<;>first|(exfalso;omega)|skip)|refine gk ?_|refine num_m fun r hr=>?_|intro r hr)|refine gs ?_|(refine gb ?_;intro b)|refine gn ?_|(refine RT.isPush ?_;refine gp ?_;intro a' c' b' c1' hac)|refine gc ?_|fail)
            (refine RT.callP T rfl fR_ (must_fn (p := true) (e := 66) (t := at_)) rfl rfl rfl (fun v H1 hp => ?_) (fun v H1 hp => ?_))
            · cases hp.1
            obtain ⟨_, rfl⟩ := hp
            repeat' (first|(refine gv ?_;first|refine RT.id ?_|(refine⟨fun hc=>?_,fun hc=>?_⟩<;>first|(exfalso;omega)|skip)|refine gk ?_|refine num_m fun r hr=>?_|intro r hr)|refine gs ?_|(refine gb ?_;intro b)|refine gn ?_|(refine RT.isPush ?_;refine gp ?_;intro a' c' b' c1' hac)|refine gc ?_|fail)
            exact AtQ.loop (i + 1, g2) ⟨rfl, rfl, rfl, rfl, rfl, rfl, trivial⟩ (fun w h => Sat.pu_in ⟨by omega, hb2, hTi⟩ (h.frd (Ps := [rdr br bm, giv bm g2, Cs eb 109 _]) (Qs := [_]) (by (repeat (first|exact Fr.nil|(apply Fr.cons;focus ((repeat constructor);done))))))) (by dsimp only; omega)
    · refine AtQ.ofFinN (AtQ.fin0 Tryz.results93 (H' := [rdr br bm, giv bm gi]) ⟨gi, ?_, hbi, rfl⟩ (fun w h => h.frd (Ps := [rdr br bm, giv bm gi]) (Qs := [_]) (by (repeat (first|exact Fr.nil|(apply Fr.cons;focus ((repeat constructor);done)))))) _ (.inl rfl))
      rw [hTi, List.drop_of_length_le (by omega)]
      cases vl.take i <;> rfl
  · (refine RT.callP T rfl fR_ (must_fn (p := false) (e := 66) (t := joinL [sc, nm])) rfl rfl rfl (fun v H1 hp => ?_) (fun v H1 hp => ?_))
    · obtain ⟨_, rfl, rfl⟩ := hp
      ((repeat refine nx ?_); exact AtQ.finP (H' := []) ⟨66, joinL [sc, nm], by rw [hT]; exact must_f (decide_eq_false (by rintro ⟨v, hv, h0⟩; have := (List.getElem?_eq_some_iff.1 hv).1; omega)), rfl, rfl⟩ dR_)
    · cases hp.1
end Go.Proofs.YtdemnhdoadjhhaaGreatDoor
end
section
namespace Go.Proofs.YtdemnhdoadjhhaaGreatDoor
open Go.Sk
set_option maxRecDepth 100000
theorem camelF_byt : ∀ {l : List Int} {b : Bool}, Byt l → Byt (camelF b l)
  | [], _, _ => Byt.nil
  | c :: r, b, h => by
    have hc := h c (by simp)
    have hr : Byt r := fun x hx => h x (by simp [hx])
    unfold isB at hc
    unfold camelF
    split
    · exact camelF_byt hr
    · intro x hx
      rcases List.mem_cons.1 hx with rfl | hx
      · unfold isB
        split <;> omega
      · exact camelF_byt hr x hx
theorem json_byt {f : FieldT} (hj : Byt f.js) (hn : Byt f.nm) : Byt (jsonL f) := by
  unfold jsonL
  split
  · exact camelF_byt hn
  · exact hj
/-- A message's rows, as check.field reads them. -/
structure MR (B : World) (R : List HP) (fields : Rw FieldT) (oneofs names : Rw Txt) (res : Rw SpanT) : Prop where
  rf : Rd B R fields.a fields.l.length fields.c 9 (fields.l.flatMap FieldT.cells)
  rs : Rd B R res.a res.l.length res.c 2 (res.l.flatMap SpanT.cells)
  rn : TxR B R names
  ro : TxR B R oneofs
  lf : fields.l.length ≤ 140737488355328
  ls : res.l.length ≤ 140737488355328
  fo : ∀ f ∈ fields.l, f.Ok ∧ FNm f
attribute [local irreducible] Cs Own Ex Pu Yld RT LJ QJ AtQ CT Rd QSp Sp FinQ Then LoopQ CutQ DT TakeQ EffQ
variable {B : World} {R : List HP}
set_option maxHeartbeats 8000000 in
theorem field_fn {mM : Int} (hU : Lib.Utf8Tabs 1 2 B) (hM : B.cell? ⟨0, 0, none⟩ = some (.int .i64 mM)) {br bm i : Nat} {g : List Txt} {fields : Rw FieldT} {oneofs names : Rw Txt} {res : Rw SpanT} {n0 ms es : Value} {f : FieldT} {full : Txt}
    (hm : MR B R fields oneofs names res) (hgf : fields.l[i]? = some f) (hg : BL g) (hs : Byt full) (hsl : full.length ≤ 16777216) :
    SpP B Tryz.prog 118 [ptr br, .agg #[n0, fields.v, oneofs.v, ms, es, res.v, names.v], .int .i64 i, vS full] R [rdr br bm, giv bm g] (PostR (fieldR names.l res.l oneofs.l.length full (fields.l.take i) f g) [rdr br bm] bm) (PPR (fieldR names.l res.l oneofs.l.length full (fields.l.take i) f g)) := by
  obtain ⟨fa, fc, fl⟩ := fields
  obtain ⟨oa, oc, ol⟩ := oneofs
  obtain ⟨na, nc, nl⟩ := names
  obtain ⟨ra, rc, rl⟩ := res
  obtain ⟨rf, rs, ⟨hn, ho6, hnb, hnm⟩, ⟨_, ho8, _, _⟩, lf, ls, fo⟩ := hm
  dsimp only at rf rs hn ho6 hnb hnm ho8 lf ls fo hgf
  obtain ⟨⟨⟨fnb, _⟩, fnum, fcard, fkind, ⟨ftb, _⟩, fkey, foo, fpk, ⟨fjb, _⟩⟩, fns, fts, fjs⟩ := fo f (List.mem_of_getElem? hgf)
  have hT : fieldR nl rl ol.length full (fl.take i) f g = fieldR nl rl ol.length full (fl.take i) f g := rfl
  conv at hT => rhs; unfold fieldR
  have hil : i < fl.length := (List.getElem?_eq_some_iff.1 hgf).1
  dsimp only [Rw.v]
  generalize hah : fl.take i = ah at *
  generalize fieldR nl rl ol.length full ah f g = TT at *
  refine SpP.body Tryz.func118 rfl Tryz.ntmps118 (by simp) ?_
  simp only [argE, List.cons_append, List.nil_append, Nat.zero_add, Nat.reduceAdd]
  repeat' (first|(refine gv ?_;first|refine RT.id ?_|(refine⟨fun hc=>?_,fun hc=>?_⟩<;>first|(exfalso;omega)|skip)|refine gk ?_|refine num_m fun r hr=>?_|intro r hr)|refine gs ?_|(refine gb ?_;intro b)|refine gn ?_|(refine RT.isPush ?_;refine gp ?_;intro a' c' b' c1' hac)|(refine CT.id_ ?_;first|refine nx ?_|refine CT.cond_t rfl ?_|refine CT.cond_f rfl ?_))
  first | (refine CT.region ?_) | (refine CT.quiet mixed (by kernel_rfl) ?_)
  repeat' (first|(refine gv ?_;first|refine RT.id ?_|(refine⟨fun hc=>?_,fun hc=>?_⟩<;>first|(exfalso;omega)|skip)|refine gk ?_|refine num_m fun r hr=>?_|intro r hr)|refine gs ?_|(refine gb ?_;intro b)|refine gn ?_|(refine RT.isPush ?_;refine gp ?_;intro a' c' b' c1' hac)|(refine CT.id_ ?_;first|refine nx ?_|refine CT.cond_t rfl ?_|refine CT.cond_f rfl ?_))
  revert b
  intro mb
  refine CT.drawn (Cs mb 72 [n0, .slice fa fl.length fc, .slice oa ol.length oc, ms, es, .slice ra rl.length rc, .slice na nl.length nc] :: rdr br bm :: giv bm g :: R) 11 mixed ?_
  refine DT.takes (k := 3) [0, 1, 2, 3, 4, 5, 6, 7, 8] [9, 10, 11] (fun w h => h) (by kernel_rfl) (by kernel_rfl) (by kernel_rfl) rfl (Clos.ofB (by kernel_rfl)) ?_
  repeat' (first|(refine gv ?_;first|refine RT.id ?_|(refine⟨fun hc=>?_,fun hc=>?_⟩<;>first|(exfalso;omega)|skip)|refine gk ?_|refine num_m fun r hr=>?_|intro r hr)|refine gs ?_|(refine gb ?_;intro b)|refine gn ?_|(refine RT.isPush ?_;refine gp ?_;intro a' c' b' c1' hac)|refine gc ?_|fail)
  refine RT.ix T (j := i * 9) rfl rfl rfl (by repeat (first | exact (rf) | apply Rd.cons)) (by omega) (by omega) (by omega) rfl rfl ?_
  refine RT.ldra T rfl (by repeat (first | exact (rf) | apply Rd.cons)) (l := f.cells) (flat_sub (f := FieldT.cells) (z := 9) (fun _ => rfl) fl i _ hgf) rfl rfl rfl rfl ?_
  repeat' (first|(refine gv ?_;first|refine RT.id ?_|(refine⟨fun hc=>?_,fun hc=>?_⟩<;>first|(exfalso;omega)|skip)|refine gk ?_|refine num_m fun r hr=>?_|intro r hr)|refine gs ?_|(refine gb ?_;intro b)|refine gn ?_|(refine RT.isPush ?_;refine gp ?_;intro a' c' b' c1' hac)|refine gc ?_|fail)
  refine RT.slhi T (j := i) rfl rfl rfl (by have := Rd.le rf; omega) rfl rfl rfl ?_
  rw [asub_z]
  repeat' (first|(refine gv ?_;first|refine RT.id ?_|(refine⟨fun hc=>?_,fun hc=>?_⟩<;>first|(exfalso;omega)|skip)|refine gk ?_|refine num_m fun r hr=>?_|intro r hr)|refine gs ?_|(refine gb ?_;intro b)|refine gn ?_|(refine RT.isPush ?_;refine gp ?_;intro a' c' b' c1' hac)|refine gc ?_|fail)
  refine AtQ.take ?_
  (refine DT.eff 9 rfl (by kernel_rfl) ?_)
  repeat' (first|(refine gv ?_;first|refine RT.id ?_|(refine⟨fun hc=>?_,fun hc=>?_⟩<;>first|(exfalso;omega)|skip)|refine gk ?_|refine num_m fun r hr=>?_|intro r hr)|refine gs ?_|(refine gb ?_;intro b)|refine gn ?_|(refine RT.isPush ?_;refine gp ?_;intro a' c' b' c1' hac)|refine gt ?_|refine gc ?_|fail)
  revert b
  intro fb
  refine AtQ.eff (fun w h => h.tail) ?_
  (refine DT.eff 10 rfl (by kernel_rfl) ?_)
  repeat' (first|(refine gv ?_;first|refine RT.id ?_|(refine⟨fun hc=>?_,fun hc=>?_⟩<;>first|(exfalso;omega)|skip)|refine gk ?_|refine num_m fun r hr=>?_|intro r hr)|refine gs ?_|(refine gb ?_;intro b)|refine gn ?_|(refine RT.isPush ?_;refine gp ?_;intro a' c' b' c1' hac)|refine gt ?_|refine gc ?_|fail)
  refine AtQ.eff (fun w h => h.tail) ?_
  (refine DT.eff 11 rfl (by kernel_rfl) ?_)
  repeat' (first|(refine gv ?_;first|refine RT.id ?_|(refine⟨fun hc=>?_,fun hc=>?_⟩<;>first|(exfalso;omega)|skip)|refine gk ?_|refine num_m fun r hr=>?_|intro r hr)|refine gs ?_|(refine gb ?_;intro b)|refine gn ?_|(refine RT.isPush ?_;refine gp ?_;intro a' c' b' c1' hac)|refine gc ?_|fail)
  refine AtQ.eff' (by kernel_rfl) ?_
  (refine DT.done (by kernel_rfl) ?_)
  repeat' (first|(refine gv ?_;first|refine RT.id ?_|(refine⟨fun hc=>?_,fun hc=>?_⟩<;>first|(exfalso;omega)|skip)|refine gk ?_|refine num_m fun r hr=>?_|intro r hr)|refine gs ?_|(refine gb ?_;intro b)|refine gn ?_|(refine RT.isPush ?_;refine gp ?_;intro a' c' b' c1' hac)|refine gc ?_|fail)
  (refine RT.bs T (l := strs [full,  f.nm]) rfl rfl rfl rfl rfl rfl rfl (fun a9 c9 h9 => ?_); (refine RT.call T rfl fR_ (join_fn (ls := [full,  f.nm]) (Own.rd (by ((repeat constructor);done)) rfl h9) rfl (b2  hs  fnb) ( s2l hsl fns)) rfl rfl rfl ?_; rintro _ _ ⟨rfl, rfl⟩; try simp only [List.cons_append, List.nil_append]); refine RT.weak (fun w h => h.tail) ?_)
  repeat' (first|(refine gv ?_;first|refine RT.id ?_|(refine⟨fun hc=>?_,fun hc=>?_⟩<;>first|(exfalso;omega)|skip)|refine gk ?_|refine num_m fun r hr=>?_|intro r hr)|refine gs ?_|(refine gb ?_;intro b)|refine gn ?_|(refine RT.isPush ?_;refine gp ?_;intro a' c' b' c1' hac)|refine gc ?_|fail)
  have hjl := @j2_len full f.nm
  have hjb := j2_byt hs fnb
  generalize joinL [full, f.nm] = at_ at *
  (refine RT.callP T rfl fR_ (give_fn (br := br) (bm := bm) (g := g) hg fnb hjb fns (show at_.length ≤ 140737488355327 by omega)) rfl rfl rfl (fun v H1 hp => ?_) (fun v H1 hp => ?_))
  · obtain ⟨e, t, h4, rfl, rfl⟩ := hp
    ((repeat refine nx ?_); exact AtQ.finP (H' := []) ⟨e, t, by rw [hT, h4]; rfl, rfl, rfl⟩ dR_)
  obtain ⟨g2, h4, hb2, rfl⟩ := hp
  rw [h4] at hT
  rw [bnd_ok] at hT
  simp only [List.cons_append, List.nil_append]
  clear h4
  repeat' (first|(refine gv ?_;first|refine RT.id ?_|(refine⟨fun hc=>?_,fun hc=>?_⟩<;>first|(exfalso;omega)|skip)|refine gk ?_|refine num_m fun r hr=>?_|intro r hr)|refine gs ?_|(refine gb ?_;intro b)|refine gn ?_|(refine RT.isPush ?_;refine gp ?_;intro a' c' b' c1' hac)|refine gc ?_|fail)
  (refine RT.call T rfl fR_ (contT_fn (l := nl) (x := f.nm) rfl ho6 (by repeat (first | exact (hn) | apply Rd.cons)) hnb fnb) rfl rfl rfl ?_; rintro _ _ ⟨rfl, rfl⟩; try simp only [List.cons_append, List.nil_append])
  repeat' (first|(refine gv ?_;first|refine RT.id ?_|(refine⟨fun hc=>?_,fun hc=>?_⟩<;>first|(exfalso;omega)|skip)|refine gk ?_|refine num_m fun r hr=>?_|intro r hr)|refine gs ?_|(refine gb ?_;intro b)|refine gn ?_|(refine RT.isPush ?_;refine gp ?_;intro a' c' b' c1' hac)|refine gc ?_|fail)
  have hA := Rd.flatPre (f := FieldT.cells) (j := i) (fun _ => rfl) rf rfl (Nat.le_of_lt hil)
  rw [hah] at hA
  have hAl : ah.length = i := by rw [← hah, List.length_take]; omega
  by_cases hmn : f.nm ∈ nl
  · rw [decide_eq_true hmn]
    repeat' (first|(refine gv ?_;first|refine RT.id ?_|(refine⟨fun hc=>?_,fun hc=>?_⟩<;>first|(exfalso;omega)|skip)|refine gk ?_|refine num_m fun r hr=>?_|intro r hr)|refine gs ?_|(refine gb ?_;intro b)|refine gn ?_|(refine RT.isPush ?_;refine gp ?_;intro a' c' b' c1' hac)|refine gc ?_|fail)
    (refine RT.callP T rfl fR_ (must_fn (p := false) (e := 63) (t := at_)) rfl rfl rfl (fun v H1 hp => ?_) (fun v H1 hp => absurd hp.1 (by decide)); obtain ⟨_, rfl, rfl⟩ := hp; (repeat refine nx ?_); exact AtQ.finP (H' := []) ⟨63, at_, by rw [hT]; exact must_f (decide_eq_false (fun h => h hmn)), rfl, rfl⟩ dR_)
  rw [decide_eq_false hmn]
  rw [must_t (decide_eq_true hmn)] at hT
  repeat' (first|(refine gv ?_;first|refine RT.id ?_|(refine⟨fun hc=>?_,fun hc=>?_⟩<;>first|(exfalso;omega)|skip)|refine gk ?_|refine num_m fun r hr=>?_|intro r hr)|refine gs ?_|(refine gb ?_;intro b)|refine gn ?_|(refine RT.isPush ?_;refine gp ?_;intro a' c' b' c1' hac)|refine gc ?_|fail)
  (refine RT.callP T rfl fR_ (must_fn (p := true) (e := 63) (t := at_)) rfl rfl rfl (fun v H1 hp => absurd hp.1 (by decide)) (fun v H1 hp => ?_); obtain ⟨_, rfl⟩ := hp; try simp only [List.nil_append])
  (refine RT.env (E' := [(0, _), (5, _), (8, _), (9, _), (10, _)]) ⟨rfl, rfl, rfl, rfl, rfl, trivial⟩ ?_)
  repeat' (first|(refine gv ?_;first|refine RT.id ?_|(refine⟨fun hc=>?_,fun hc=>?_⟩<;>first|(exfalso;omega)|skip)|refine gk ?_|refine num_m fun r hr=>?_|intro r hr)|refine gs ?_|(refine gb ?_;intro b)|refine gn ?_|(refine RT.isPush ?_;refine gp ?_;intro a' c' b' c1' hac)|refine gc ?_|fail)
  (refine RT.call T rfl fR_ (may_fn (n := f.num)) rfl rfl rfl ?_; rintro _ _ ⟨rfl, rfl⟩; try simp only [List.cons_append, List.nil_append])
  cases hmay : mayB f.num
  · repeat' (first|(refine gv ?_;first|refine RT.id ?_|(refine⟨fun hc=>?_,fun hc=>?_⟩<;>first|(exfalso;omega)|skip)|refine gk ?_|refine num_m fun r hr=>?_|intro r hr)|refine gs ?_|(refine gb ?_;intro b)|refine gn ?_|(refine RT.isPush ?_;refine gp ?_;intro a' c' b' c1' hac)|refine gc ?_|fail)
    (refine RT.callP T rfl fR_ (must_fn (p := false) (e := 62) (t := at_)) rfl rfl rfl (fun v H1 hp => ?_) (fun v H1 hp => absurd hp.1 (by decide)); obtain ⟨_, rfl, rfl⟩ := hp; (repeat refine nx ?_); exact AtQ.finP (H' := []) ⟨62, at_, by rw [hT, hmay]; exact must_f rfl, rfl, rfl⟩ dR_)
  rw [hmay, Bool.true_and] at hT
  repeat' (first|(refine gv ?_;first|refine RT.id ?_|(refine⟨fun hc=>?_,fun hc=>?_⟩<;>first|(exfalso;omega)|skip)|refine gk ?_|refine num_m fun r hr=>?_|intro r hr)|refine gs ?_|(refine gb ?_;intro b)|refine gn ?_|(refine RT.isPush ?_;refine gp ?_;intro a' c' b' c1' hac)|refine gc ?_|fail)
  refine RT.mkF rfl rfl rfl ?_
  repeat' (first|(refine gv ?_;first|refine RT.id ?_|(refine⟨fun hc=>?_,fun hc=>?_⟩<;>first|(exfalso;omega)|skip)|refine gk ?_|refine num_m fun r hr=>?_|intro r hr)|refine gs ?_|(refine gb ?_;intro b)|refine gn ?_|(refine RT.isPush ?_;refine gp ?_;intro a' c' b' c1' hac)|refine gc ?_|fail)
  refine RT.call T rfl (by (repeat (first|exact Fr.nil|(apply Fr.cons;focus ((repeat constructor);done))))) (contfF_fn (l := ah) (p := fun o => decide (o.num = f.num)) (f := 141) (caps := [.pointer (some ⟨fb, 0, none⟩)]) (Pre := [Cs fb 87 f.cells]) hAl (by omega) (by repeat (first | exact (hA) | apply Rd.cons)) rfl (fun s _ => field1_fn)) rfl rfl rfl ?_
  rintro _ _ ⟨rfl, rfl⟩
  simp only [List.cons_append, List.nil_append]
  have hany : decide (∀ o ∈ ah, o.num ≠ f.num) = !(ah.any fun o => decide (o.num = f.num)) := by
    rw [Bool.eq_iff_iff]
    simp
  rw [hany] at hT
  cases hq : ah.any fun o => decide (o.num = f.num)
  rotate_left
  · repeat' (first|(refine gv ?_;first|refine RT.id ?_|(refine⟨fun hc=>?_,fun hc=>?_⟩<;>first|(exfalso;omega)|skip)|refine gk ?_|refine num_m fun r hr=>?_|intro r hr)|refine gs ?_|(refine gb ?_;intro b)|refine gn ?_|(refine RT.isPush ?_;refine gp ?_;intro a' c' b' c1' hac)|refine gc ?_|fail)
    (refine RT.callP T rfl fR_ (must_fn (p := false) (e := 62) (t := at_)) rfl rfl rfl (fun v H1 hp => ?_) (fun v H1 hp => absurd hp.1 (by decide)); obtain ⟨_, rfl, rfl⟩ := hp; (repeat refine nx ?_); exact AtQ.finP (H' := []) ⟨62, at_, by rw [hT, hq]; exact must_f rfl, rfl, rfl⟩ dR_)
  rw [hq, must_t (p := !false) rfl] at hT
  repeat' (first|(refine gv ?_;first|refine RT.id ?_|(refine⟨fun hc=>?_,fun hc=>?_⟩<;>first|(exfalso;omega)|skip)|refine gk ?_|refine num_m fun r hr=>?_|intro r hr)|refine gs ?_|(refine gb ?_;intro b)|refine gn ?_|(refine RT.isPush ?_;refine gp ?_;intro a' c' b' c1' hac)|refine gc ?_|fail)
  (refine RT.callP T rfl fR_ (must_fn (p := true) (e := 62) (t := at_)) rfl rfl rfl (fun v H1 hp => absurd hp.1 (by decide)) (fun v H1 hp => ?_); obtain ⟨_, rfl⟩ := hp; try simp only [List.nil_append])
  clear hany hq
  (refine RT.env (E' := [(0, _), (5, _), (8, _), (9, _), (10, _)]) ⟨rfl, rfl, rfl, rfl, rfl, trivial⟩ ?_)
  repeat' (first|(refine gv ?_;first|refine RT.id ?_|(refine⟨fun hc=>?_,fun hc=>?_⟩<;>first|(exfalso;omega)|skip)|refine gk ?_|refine num_m fun r hr=>?_|intro r hr)|refine gs ?_|(refine gb ?_;intro b)|refine gn ?_|(refine RT.isPush ?_;refine gp ?_;intro a' c' b' c1' hac)|refine gc ?_|fail)
  (refine RT.call T rfl fR_ (within_fn (r := ⟨ra, rc, rl⟩) (x := f.num) (by repeat (first | exact (rs) | apply Rd.cons)) ls) rfl rfl rfl ?_; rintro _ _ ⟨rfl, rfl⟩; try simp only [List.cons_append, List.nil_append])
  cases han : anyS rl f.num
  rotate_left
  · repeat' (first|(refine gv ?_;first|refine RT.id ?_|(refine⟨fun hc=>?_,fun hc=>?_⟩<;>first|(exfalso;omega)|skip)|refine gk ?_|refine num_m fun r hr=>?_|intro r hr)|refine gs ?_|(refine gb ?_;intro b)|refine gn ?_|(refine RT.isPush ?_;refine gp ?_;intro a' c' b' c1' hac)|refine gc ?_|fail)
    (refine RT.callP T rfl fR_ (must_fn (p := false) (e := 63) (t := at_)) rfl rfl rfl (fun v H1 hp => ?_) (fun v H1 hp => absurd hp.1 (by decide)); obtain ⟨_, rfl, rfl⟩ := hp; (repeat refine nx ?_); exact AtQ.finP (H' := []) ⟨63, at_, by rw [hT, han]; exact must_f rfl, rfl, rfl⟩ dR_)
  rw [han, must_t (p := !false) rfl] at hT
  repeat' (first|(refine gv ?_;first|refine RT.id ?_|(refine⟨fun hc=>?_,fun hc=>?_⟩<;>first|(exfalso;omega)|skip)|refine gk ?_|refine num_m fun r hr=>?_|intro r hr)|refine gs ?_|(refine gb ?_;intro b)|refine gn ?_|(refine RT.isPush ?_;refine gp ?_;intro a' c' b' c1' hac)|refine gc ?_|fail)
  (refine RT.callP T rfl fR_ (must_fn (p := true) (e := 63) (t := at_)) rfl rfl rfl (fun v H1 hp => absurd hp.1 (by decide)) (fun v H1 hp => ?_); obtain ⟨_, rfl⟩ := hp; try simp only [List.nil_append])
  (refine RT.env (E' := [(0, _), (5, _), (8, _), (9, _), (10, _)]) ⟨rfl, rfl, rfl, rfl, rfl, trivial⟩ ?_)
  repeat' (first|(refine gv ?_;first|refine RT.id ?_|(refine⟨fun hc=>?_,fun hc=>?_⟩<;>first|(exfalso;omega)|skip)|refine gk ?_|refine num_m fun r hr=>?_|intro r hr)|refine gs ?_|(refine gb ?_;intro b)|refine gn ?_|(refine RT.isPush ?_;refine gp ?_;intro a' c' b' c1' hac)|(refine CT.id_ ?_;first|refine nx ?_|refine CT.cond_t rfl ?_|refine CT.cond_f rfl ?_))
  refine CT.cut (α := Unit) (fun _ => [(0, ptr br), (5, .pointer (some ⟨mb, 0, none⟩)), (8, .pointer (some ⟨fb, 0, none⟩)), (9, .slice fa i fc), (10, vS at_)]) (fun _ => Pu (TT = fieldR8 ol.length ah f at_ g2) :: rdr br bm :: giv bm g2 :: Cs fb 87 f.cells :: Cs mb 72 [n0, .slice fa fl.length fc, .slice oa ol.length oc, ms, es, .slice ra rl.length rc, .slice na nl.length nc] :: R) ?_ (fun _ => ?_)
  · unfold fieldR7 at hT
    repeat' (first|(refine gv ?_;first|refine RT.id ?_|(refine⟨fun hc=>?_,fun hc=>?_⟩<;>first|(exfalso;omega)|skip)|refine gk ?_|refine num_m fun r hr=>?_|intro r hr)|refine gs ?_|(refine gb ?_;intro b)|refine gn ?_|(refine RT.isPush ?_;refine gp ?_;intro a' c' b' c1' hac)|refine gc ?_|fail)
    · rw [must_t (by rw [decide_eq_true ⟨by omega, by omega⟩, decide_eq_true (by omega)]; rfl)] at hT
      (refine RT.callP T rfl fR_ (must_fn (p := true) (e := 69) (t := at_)) rfl rfl rfl (fun v H1 hp => absurd hp.1 (by decide)) (fun v H1 hp => ?_); obtain ⟨_, rfl⟩ := hp; try simp only [List.nil_append])
      repeat' (first|(refine gv ?_;first|refine RT.id ?_|(refine⟨fun hc=>?_,fun hc=>?_⟩<;>first|(exfalso;omega)|skip)|refine gk ?_|refine num_m fun r hr=>?_|intro r hr)|refine gs ?_|(refine gb ?_;intro b)|refine gn ?_|(refine RT.isPush ?_;refine gp ?_;intro a' c' b' c1' hac)|refine gc ?_|fail)
      exact AtQ.cut () ⟨rfl, rfl, rfl, rfl, rfl, trivial⟩ (fun w h => Sat.pu_in hT (h.frd (Ps := [rdr br bm, giv bm g2, Cs fb 87 f.cells, Cs mb 72 _]) (Qs := []) (by (repeat (first|exact Fr.nil|(apply Fr.cons;focus ((repeat constructor);done)))))))
    · (refine RT.call T rfl fR_ (kind_fn (k := f.kind)) rfl rfl rfl ?_; rintro _ _ ⟨rfl, rfl⟩; try simp only [List.cons_append, List.nil_append])
      cases hk : kindB f.kind
      · repeat' (first|(refine gv ?_;first|refine RT.id ?_|(refine⟨fun hc=>?_,fun hc=>?_⟩<;>first|(exfalso;omega)|skip)|refine gk ?_|refine num_m fun r hr=>?_|intro r hr)|refine gs ?_|(refine gb ?_;intro b)|refine gn ?_|(refine RT.isPush ?_;refine gp ?_;intro a' c' b' c1' hac)|refine gc ?_|fail)
        (refine RT.callP T rfl fR_ (must_fn (p := false) (e := 69) (t := at_)) rfl rfl rfl (fun v H1 hp => ?_) (fun v H1 hp => absurd hp.1 (by decide)); obtain ⟨_, rfl, rfl⟩ := hp; (repeat refine nx ?_); exact AtQ.finP (H' := []) ⟨69, at_, by rw [hT, hk]; exact must_f (by rw [decide_eq_false (p := f.kind = 0) (by omega)]; simp), rfl, rfl⟩ dR_)
      · rw [must_t (by rw [decide_eq_true ⟨by omega, by omega⟩, hk]; simp)] at hT
        repeat' (first|(refine gv ?_;first|refine RT.id ?_|(refine⟨fun hc=>?_,fun hc=>?_⟩<;>first|(exfalso;omega)|skip)|refine gk ?_|refine num_m fun r hr=>?_|intro r hr)|refine gs ?_|(refine gb ?_;intro b)|refine gn ?_|(refine RT.isPush ?_;refine gp ?_;intro a' c' b' c1' hac)|refine gc ?_|fail)
        (refine RT.callP T rfl fR_ (must_fn (p := true) (e := 69) (t := at_)) rfl rfl rfl (fun v H1 hp => absurd hp.1 (by decide)) (fun v H1 hp => ?_); obtain ⟨_, rfl⟩ := hp; try simp only [List.nil_append])
        repeat' (first|(refine gv ?_;first|refine RT.id ?_|(refine⟨fun hc=>?_,fun hc=>?_⟩<;>first|(exfalso;omega)|skip)|refine gk ?_|refine num_m fun r hr=>?_|intro r hr)|refine gs ?_|(refine gb ?_;intro b)|refine gn ?_|(refine RT.isPush ?_;refine gp ?_;intro a' c' b' c1' hac)|refine gc ?_|fail)
        exact AtQ.cut () ⟨rfl, rfl, rfl, rfl, rfl, trivial⟩ (fun w h => Sat.pu_in hT (h.frd (Ps := [rdr br bm, giv bm g2, Cs fb 87 f.cells, Cs mb 72 _]) (Qs := []) (by (repeat (first|exact Fr.nil|(apply Fr.cons;focus ((repeat constructor);done)))))))
    · (refine RT.callP T rfl fR_ (must_fn (p := false) (e := 69) (t := at_)) rfl rfl rfl (fun v H1 hp => ?_) (fun v H1 hp => absurd hp.1 (by decide)); obtain ⟨_, rfl, rfl⟩ := hp; (repeat refine nx ?_); exact AtQ.finP (H' := []) ⟨69, at_, by rw [hT]; exact must_f (by rw [decide_eq_false (p := 1 ≤ f.card ∧ f.card ≤ 4) (by omega)]; rfl), rfl, rfl⟩ dR_)
    · (refine RT.callP T rfl fR_ (must_fn (p := false) (e := 69) (t := at_)) rfl rfl rfl (fun v H1 hp => ?_) (fun v H1 hp => absurd hp.1 (by decide)); obtain ⟨_, rfl, rfl⟩ := hp; (repeat refine nx ?_); exact AtQ.finP (H' := []) ⟨69, at_, by rw [hT]; exact must_f (by rw [decide_eq_false (p := 1 ≤ f.card ∧ f.card ≤ 4) (by omega)]; rfl), rfl, rfl⟩ dR_)
  clear hT
  refine A0 ?_
  refine CT.pu fun hT => ?_
  unfold fieldR8 at hT
  repeat' (first|(refine gv ?_;first|refine RT.id ?_|(refine⟨fun hc=>?_,fun hc=>?_⟩<;>first|(exfalso;omega)|skip)|refine gk ?_|refine num_m fun r hr=>?_|intro r hr)|refine gs ?_|(refine gb ?_;intro b)|refine gn ?_|(refine RT.isPush ?_;refine gp ?_;intro a' c' b' c1' hac)|(refine CT.id_ ?_;first|refine nx ?_|refine CT.cond_t rfl ?_|refine CT.cond_f rfl ?_))
  first | (refine CT.region ?_) | (refine CT.quiet mixed (by kernel_rfl) ?_)
  repeat' (first|(refine gv ?_;first|refine RT.id ?_|(refine⟨fun hc=>?_,fun hc=>?_⟩<;>first|(exfalso;omega)|skip)|refine gk ?_|refine num_m fun r hr=>?_|intro r hr)|refine gs ?_|(refine gb ?_;intro b)|refine gn ?_|(refine RT.isPush ?_;refine gp ?_;intro a' c' b' c1' hac)|(refine CT.id_ ?_;first|refine nx ?_|refine CT.cond_t rfl ?_|refine CT.cond_f rfl ?_))
  (refine RT.call T rfl fR_ (named_fn (k := f.kind)) rfl rfl rfl ?_; rintro _ _ ⟨rfl, rfl⟩; try simp only [List.cons_append, List.nil_append])
  repeat' (first|(refine gv ?_;first|refine RT.id ?_|(refine⟨fun hc=>?_,fun hc=>?_⟩<;>first|(exfalso;omega)|skip)|refine gk ?_|refine num_m fun r hr=>?_|intro r hr)|refine gs ?_|(refine gb ?_;intro b)|refine gn ?_|(refine RT.isPush ?_;refine gp ?_;intro a' c' b' c1' hac)|(refine CT.id_ ?_;first|refine nx ?_|refine CT.cond_t rfl ?_|refine CT.cond_f rfl ?_))
  refine CT.cut (α := Unit) (fun _ => [(0, ptr br), (5, .pointer (some ⟨mb, 0, none⟩)), (8, .pointer (some ⟨fb, 0, none⟩)), (9, .slice fa i fc), (10, vS at_)]) (fun _ => Pu (TT = fieldR11 ol.length ah f at_ g2) :: rdr br bm :: giv bm g2 :: Cs fb 87 f.cells :: Cs mb 72 [n0, .slice fa fl.length fc, .slice oa ol.length oc, ms, es, .slice ra rl.length rc, .slice na nl.length nc] :: R) ?_ (fun _ => ?_)
  · cases hnk : namedB f.kind
    · repeat' (first|(refine gv ?_;first|refine RT.id ?_|(refine⟨fun hc=>?_,fun hc=>?_⟩<;>first|(exfalso;omega)|skip)|refine gk ?_|refine num_m fun r hr=>?_|intro r hr)|refine gs ?_|(refine gb ?_;intro b)|refine gn ?_|(refine RT.isPush ?_;refine gp ?_;intro a' c' b' c1' hac)|refine gc ?_|fail)
      refine RT.eqs (l := f.ty) (l' := []) rfl rfl ftb Byt.nil rfl rfl (fun he => ?_) (fun he => ?_)
      · rw [must_t (by rw [hnk, if_neg (by decide)]; exact decide_eq_true he)] at hT
        repeat' (first|(refine gv ?_;first|refine RT.id ?_|(refine⟨fun hc=>?_,fun hc=>?_⟩<;>first|(exfalso;omega)|skip)|refine gk ?_|refine num_m fun r hr=>?_|intro r hr)|refine gs ?_|(refine gb ?_;intro b)|refine gn ?_|(refine RT.isPush ?_;refine gp ?_;intro a' c' b' c1' hac)|refine gc ?_|fail)
        (refine RT.callP T rfl fR_ (must_fn (p := true) (e := 69) (t := at_)) rfl rfl rfl (fun v H1 hp => absurd hp.1 (by decide)) (fun v H1 hp => ?_); obtain ⟨_, rfl⟩ := hp; try simp only [List.nil_append])
        repeat' (first|(refine gv ?_;first|refine RT.id ?_|(refine⟨fun hc=>?_,fun hc=>?_⟩<;>first|(exfalso;omega)|skip)|refine gk ?_|refine num_m fun r hr=>?_|intro r hr)|refine gs ?_|(refine gb ?_;intro b)|refine gn ?_|(refine RT.isPush ?_;refine gp ?_;intro a' c' b' c1' hac)|refine gc ?_|fail)
        exact AtQ.cut () ⟨rfl, rfl, rfl, rfl, rfl, trivial⟩ (fun w h => Sat.pu_in hT (h.frd (Ps := [rdr br bm, giv bm g2, Cs fb 87 f.cells, Cs mb 72 _]) (Qs := []) (by (repeat (first|exact Fr.nil|(apply Fr.cons;focus ((repeat constructor);done)))))))
      · repeat' (first|(refine gv ?_;first|refine RT.id ?_|(refine⟨fun hc=>?_,fun hc=>?_⟩<;>first|(exfalso;omega)|skip)|refine gk ?_|refine num_m fun r hr=>?_|intro r hr)|refine gs ?_|(refine gb ?_;intro b)|refine gn ?_|(refine RT.isPush ?_;refine gp ?_;intro a' c' b' c1' hac)|refine gc ?_|fail)
        (refine RT.callP T rfl fR_ (must_fn (p := false) (e := 69) (t := at_)) rfl rfl rfl (fun v H1 hp => ?_) (fun v H1 hp => absurd hp.1 (by decide)); obtain ⟨_, rfl, rfl⟩ := hp; (repeat refine nx ?_); exact AtQ.finP (H' := []) ⟨69, at_, by rw [hT]; exact must_f (by rw [hnk, if_neg (by decide)]; exact decide_eq_false he), rfl, rfl⟩ dR_)
    · repeat' (first|(refine gv ?_;first|refine RT.id ?_|(refine⟨fun hc=>?_,fun hc=>?_⟩<;>first|(exfalso;omega)|skip)|refine gk ?_|refine num_m fun r hr=>?_|intro r hr)|refine gs ?_|(refine gb ?_;intro b)|refine gn ?_|(refine RT.isPush ?_;refine gp ?_;intro a' c' b' c1' hac)|refine gc ?_|fail)
      (refine RT.call T rfl fR_ (ref_fn (l := f.ty) hM ftb fts) rfl rfl rfl ?_; rintro _ _ ⟨rfl, rfl⟩; try simp only [List.cons_append, List.nil_append])
      cases hrf : refB f.ty
      · repeat' (first|(refine gv ?_;first|refine RT.id ?_|(refine⟨fun hc=>?_,fun hc=>?_⟩<;>first|(exfalso;omega)|skip)|refine gk ?_|refine num_m fun r hr=>?_|intro r hr)|refine gs ?_|(refine gb ?_;intro b)|refine gn ?_|(refine RT.isPush ?_;refine gp ?_;intro a' c' b' c1' hac)|refine gc ?_|fail)
        (refine RT.callP T rfl fR_ (must_fn (p := false) (e := 69) (t := at_)) rfl rfl rfl (fun v H1 hp => ?_) (fun v H1 hp => absurd hp.1 (by decide)); obtain ⟨_, rfl, rfl⟩ := hp; (repeat refine nx ?_); exact AtQ.finP (H' := []) ⟨69, at_, by rw [hT]; exact must_f (by rw [hnk, if_pos rfl]; exact hrf), rfl, rfl⟩ dR_)
      · rw [must_t (by rw [hnk, if_pos rfl]; exact hrf)] at hT
        repeat' (first|(refine gv ?_;first|refine RT.id ?_|(refine⟨fun hc=>?_,fun hc=>?_⟩<;>first|(exfalso;omega)|skip)|refine gk ?_|refine num_m fun r hr=>?_|intro r hr)|refine gs ?_|(refine gb ?_;intro b)|refine gn ?_|(refine RT.isPush ?_;refine gp ?_;intro a' c' b' c1' hac)|refine gc ?_|fail)
        (refine RT.callP T rfl fR_ (must_fn (p := true) (e := 69) (t := at_)) rfl rfl rfl (fun v H1 hp => absurd hp.1 (by decide)) (fun v H1 hp => ?_); obtain ⟨_, rfl⟩ := hp; try simp only [List.nil_append])
        repeat' (first|(refine gv ?_;first|refine RT.id ?_|(refine⟨fun hc=>?_,fun hc=>?_⟩<;>first|(exfalso;omega)|skip)|refine gk ?_|refine num_m fun r hr=>?_|intro r hr)|refine gs ?_|(refine gb ?_;intro b)|refine gn ?_|(refine RT.isPush ?_;refine gp ?_;intro a' c' b' c1' hac)|refine gc ?_|fail)
        exact AtQ.cut () ⟨rfl, rfl, rfl, rfl, rfl, trivial⟩ (fun w h => Sat.pu_in hT (h.frd (Ps := [rdr br bm, giv bm g2, Cs fb 87 f.cells, Cs mb 72 _]) (Qs := []) (by (repeat (first|exact Fr.nil|(apply Fr.cons;focus ((repeat constructor);done)))))))
  clear hT
  refine A0 ?_
  refine CT.pu fun hT => ?_
  unfold fieldR11 at hT
  repeat' (first|(refine gv ?_;first|refine RT.id ?_|(refine⟨fun hc=>?_,fun hc=>?_⟩<;>first|(exfalso;omega)|skip)|refine gk ?_|refine num_m fun r hr=>?_|intro r hr)|refine gs ?_|(refine gb ?_;intro b)|refine gn ?_|(refine RT.isPush ?_;refine gp ?_;intro a' c' b' c1' hac)|(refine CT.id_ ?_;first|refine nx ?_|refine CT.cond_t rfl ?_|refine CT.cond_f rfl ?_))
  refine CT.cut (α := Bool) (fun q => [(94, .bool q), (0, ptr br), (5, .pointer (some ⟨mb, 0, none⟩)), (8, .pointer (some ⟨fb, 0, none⟩)), (9, .slice fa i fc), (10, vS at_)]) (fun q => Pu (q = decide (f.card = 4)) :: rdr br bm :: giv bm g2 :: Cs fb 87 f.cells :: Cs mb 72 [n0, .slice fa fl.length fc, .slice oa ol.length oc, ms, es, .slice ra rl.length rc, .slice na nl.length nc] :: R) ?_ (fun q => ?_)
  · repeat' (first|(refine gv ?_;first|refine RT.id ?_|(refine⟨fun hc=>?_,fun hc=>?_⟩<;>first|(exfalso;omega)|skip)|refine gk ?_|refine num_m fun r hr=>?_|intro r hr)|refine gs ?_|(refine gb ?_;intro b)|refine gn ?_|(refine RT.isPush ?_;refine gp ?_;intro a' c' b' c1' hac)|refine gc ?_|fail)
    · exact AtQ.cut true ⟨rfl, rfl, rfl, rfl, rfl, rfl, trivial⟩ (fun w h => Sat.pu_in (decide_eq_true (by omega)).symm h)
    · exact AtQ.cut false ⟨rfl, rfl, rfl, rfl, rfl, rfl, trivial⟩ (fun w h => Sat.pu_in (decide_eq_false (by omega)).symm h)
  refine A0 ?_
  refine CT.pu fun hq => ?_
  repeat' (first|(refine gv ?_;first|refine RT.id ?_|(refine⟨fun hc=>?_,fun hc=>?_⟩<;>first|(exfalso;omega)|skip)|refine gk ?_|refine num_m fun r hr=>?_|intro r hr)|refine gs ?_|(refine gb ?_;intro b)|refine gn ?_|(refine RT.isPush ?_;refine gp ?_;intro a' c' b' c1' hac)|(refine CT.id_ ?_;first|refine nx ?_|refine CT.cond_t rfl ?_|refine CT.cond_f rfl ?_))
  refine CT.cut (α := Unit) (fun _ => [(0, ptr br), (5, .pointer (some ⟨mb, 0, none⟩)), (8, .pointer (some ⟨fb, 0, none⟩)), (9, .slice fa i fc), (10, vS at_)]) (fun _ => Pu (TT = fieldR14 ol.length ah f at_ g2) :: rdr br bm :: giv bm g2 :: Cs fb 87 f.cells :: Cs mb 72 [n0, .slice fa fl.length fc, .slice oa ol.length oc, ms, es, .slice ra rl.length rc, .slice na nl.length nc] :: R) ?_ (fun _ => ?_)
  · cases hq4 : q
    · rw [hq4] at hq
      have hne := of_decide_eq_false hq.symm
      rw [if_neg hne] at hT
      repeat' (first|(refine gv ?_;first|refine RT.id ?_|(refine⟨fun hc=>?_,fun hc=>?_⟩<;>first|(exfalso;omega)|skip)|refine gk ?_|refine num_m fun r hr=>?_|intro r hr)|refine gs ?_|(refine gb ?_;intro b)|refine gn ?_|(refine RT.isPush ?_;refine gp ?_;intro a' c' b' c1' hac)|refine gc ?_|fail)
      · rw [must_t (decide_eq_true (by omega))] at hT
        (refine RT.callP T rfl fR_ (must_fn (p := true) (e := 65) (t := at_)) rfl rfl rfl (fun v H1 hp => absurd hp.1 (by decide)) (fun v H1 hp => ?_); obtain ⟨_, rfl⟩ := hp; try simp only [List.nil_append])
        repeat' (first|(refine gv ?_;first|refine RT.id ?_|(refine⟨fun hc=>?_,fun hc=>?_⟩<;>first|(exfalso;omega)|skip)|refine gk ?_|refine num_m fun r hr=>?_|intro r hr)|refine gs ?_|(refine gb ?_;intro b)|refine gn ?_|(refine RT.isPush ?_;refine gp ?_;intro a' c' b' c1' hac)|refine gc ?_|fail)
        exact AtQ.cut () ⟨rfl, rfl, rfl, rfl, rfl, trivial⟩ (fun w h => Sat.pu_in hT (h.frd (Ps := [rdr br bm, giv bm g2, Cs fb 87 f.cells, Cs mb 72 _]) (Qs := []) (by (repeat (first|exact Fr.nil|(apply Fr.cons;focus ((repeat constructor);done)))))))
      · (refine RT.callP T rfl fR_ (must_fn (p := false) (e := 65) (t := at_)) rfl rfl rfl (fun v H1 hp => ?_) (fun v H1 hp => absurd hp.1 (by decide)); obtain ⟨_, rfl, rfl⟩ := hp; (repeat refine nx ?_); exact AtQ.finP (H' := []) ⟨65, at_, by rw [hT]; exact must_f (decide_eq_false (by omega)), rfl, rfl⟩ dR_)
    · rw [hq4] at hq
      have hne := of_decide_eq_true hq.symm
      rw [if_pos hne] at hT
      repeat' (first|(refine gv ?_;first|refine RT.id ?_|(refine⟨fun hc=>?_,fun hc=>?_⟩<;>first|(exfalso;omega)|skip)|refine gk ?_|refine num_m fun r hr=>?_|intro r hr)|refine gs ?_|(refine gb ?_;intro b)|refine gn ?_|(refine RT.isPush ?_;refine gp ?_;intro a' c' b' c1' hac)|refine gc ?_|fail)
      (refine RT.call T rfl fR_ (key_fn (k := f.key)) rfl rfl rfl ?_; rintro _ _ ⟨rfl, rfl⟩; try simp only [List.cons_append, List.nil_append])
      cases hk : keyB f.key
      · repeat' (first|(refine gv ?_;first|refine RT.id ?_|(refine⟨fun hc=>?_,fun hc=>?_⟩<;>first|(exfalso;omega)|skip)|refine gk ?_|refine num_m fun r hr=>?_|intro r hr)|refine gs ?_|(refine gb ?_;intro b)|refine gn ?_|(refine RT.isPush ?_;refine gp ?_;intro a' c' b' c1' hac)|refine gc ?_|fail)
        (refine RT.callP T rfl fR_ (must_fn (p := false) (e := 65) (t := at_)) rfl rfl rfl (fun v H1 hp => ?_) (fun v H1 hp => absurd hp.1 (by decide)); obtain ⟨_, rfl, rfl⟩ := hp; (repeat refine nx ?_); exact AtQ.finP (H' := []) ⟨65, at_, by rw [hT]; exact must_f hk, rfl, rfl⟩ dR_)
      · rw [must_t hk] at hT
        repeat' (first|(refine gv ?_;first|refine RT.id ?_|(refine⟨fun hc=>?_,fun hc=>?_⟩<;>first|(exfalso;omega)|skip)|refine gk ?_|refine num_m fun r hr=>?_|intro r hr)|refine gs ?_|(refine gb ?_;intro b)|refine gn ?_|(refine RT.isPush ?_;refine gp ?_;intro a' c' b' c1' hac)|refine gc ?_|fail)
        (refine RT.callP T rfl fR_ (must_fn (p := true) (e := 65) (t := at_)) rfl rfl rfl (fun v H1 hp => absurd hp.1 (by decide)) (fun v H1 hp => ?_); obtain ⟨_, rfl⟩ := hp; try simp only [List.nil_append])
        repeat' (first|(refine gv ?_;first|refine RT.id ?_|(refine⟨fun hc=>?_,fun hc=>?_⟩<;>first|(exfalso;omega)|skip)|refine gk ?_|refine num_m fun r hr=>?_|intro r hr)|refine gs ?_|(refine gb ?_;intro b)|refine gn ?_|(refine RT.isPush ?_;refine gp ?_;intro a' c' b' c1' hac)|refine gc ?_|fail)
        exact AtQ.cut () ⟨rfl, rfl, rfl, rfl, rfl, trivial⟩ (fun w h => Sat.pu_in hT (h.frd (Ps := [rdr br bm, giv bm g2, Cs fb 87 f.cells, Cs mb 72 _]) (Qs := []) (by (repeat (first|exact Fr.nil|(apply Fr.cons;focus ((repeat constructor);done)))))))
  clear hT hq
  refine A0 ?_
  refine CT.pu fun hT => ?_
  unfold fieldR14 at hT
  repeat' (first|(refine gv ?_;first|refine RT.id ?_|(refine⟨fun hc=>?_,fun hc=>?_⟩<;>first|(exfalso;omega)|skip)|refine gk ?_|refine num_m fun r hr=>?_|intro r hr)|refine gs ?_|(refine gb ?_;intro b)|refine gn ?_|(refine RT.isPush ?_;refine gp ?_;intro a' c' b' c1' hac)|(refine CT.id_ ?_;first|refine nx ?_|refine CT.cond_t rfl ?_|refine CT.cond_f rfl ?_))
  refine CT.cut (α := Unit) (fun _ => [(0, ptr br), (5, .pointer (some ⟨mb, 0, none⟩)), (8, .pointer (some ⟨fb, 0, none⟩)), (9, .slice fa i fc), (10, vS at_)]) (fun _ => Pu (TT = fieldR15 ah f at_ g2) :: rdr br bm :: giv bm g2 :: Cs fb 87 f.cells :: Cs mb 72 [n0, .slice fa fl.length fc, .slice oa ol.length oc, ms, es, .slice ra rl.length rc, .slice na nl.length nc] :: R) ?_ (fun _ => ?_)
  · have pan : (decide (0 ≤ f.oneof ∧ f.oneof ≤ ol.length) && decide (f.oneof = 0 ∨ f.card = 1)) = false → TT = .error (64, at_) := fun h => by rw [hT]; exact must_f h
    have go : (decide (0 ≤ f.oneof ∧ f.oneof ≤ ol.length) && decide (f.oneof = 0 ∨ f.card = 1)) = true → TT = fieldR15 ah f at_ g2 := fun h => by rw [hT]; exact must_t h
    clear hT
    repeat' (first|(refine gv ?_;first|refine RT.id ?_|(refine⟨fun hc=>?_,fun hc=>?_⟩<;>first|(exfalso;omega)|skip)|refine gk ?_|refine num_m fun r hr=>?_|intro r hr)|refine gs ?_|(refine gb ?_;intro b)|refine gn ?_|(refine RT.isPush ?_;refine gp ?_;intro a' c' b' c1' hac)|refine gc ?_|fail)
    · (refine RT.callP T rfl fR_ (must_fn (p := true) (e := 64) (t := at_)) rfl rfl rfl (fun v H1 hp => absurd hp.1 (by decide)) (fun v H1 hp => ?_); obtain ⟨_, rfl⟩ := hp; try simp only [List.nil_append])
      repeat' (first|(refine gv ?_;first|refine RT.id ?_|(refine⟨fun hc=>?_,fun hc=>?_⟩<;>first|(exfalso;omega)|skip)|refine gk ?_|refine num_m fun r hr=>?_|intro r hr)|refine gs ?_|(refine gb ?_;intro b)|refine gn ?_|(refine RT.isPush ?_;refine gp ?_;intro a' c' b' c1' hac)|refine gc ?_|fail)
      exact AtQ.cut () ⟨rfl, rfl, rfl, rfl, rfl, trivial⟩ (fun w h => Sat.pu_in (go (by rw [Bool.and_eq_true, decide_eq_true_eq, decide_eq_true_eq]; omega)) (h.frd (Ps := [rdr br bm, giv bm g2, Cs fb 87 f.cells, Cs mb 72 _]) (Qs := []) (by (repeat (first|exact Fr.nil|(apply Fr.cons;focus ((repeat constructor);done)))))))
    · (refine RT.callP T rfl fR_ (must_fn (p := true) (e := 64) (t := at_)) rfl rfl rfl (fun v H1 hp => absurd hp.1 (by decide)) (fun v H1 hp => ?_); obtain ⟨_, rfl⟩ := hp; try simp only [List.nil_append])
      repeat' (first|(refine gv ?_;first|refine RT.id ?_|(refine⟨fun hc=>?_,fun hc=>?_⟩<;>first|(exfalso;omega)|skip)|refine gk ?_|refine num_m fun r hr=>?_|intro r hr)|refine gs ?_|(refine gb ?_;intro b)|refine gn ?_|(refine RT.isPush ?_;refine gp ?_;intro a' c' b' c1' hac)|refine gc ?_|fail)
      exact AtQ.cut () ⟨rfl, rfl, rfl, rfl, rfl, trivial⟩ (fun w h => Sat.pu_in (go (by rw [Bool.and_eq_true, decide_eq_true_eq, decide_eq_true_eq]; omega)) (h.frd (Ps := [rdr br bm, giv bm g2, Cs fb 87 f.cells, Cs mb 72 _]) (Qs := []) (by (repeat (first|exact Fr.nil|(apply Fr.cons;focus ((repeat constructor);done)))))))
    · (refine RT.callP T rfl fR_ (must_fn (p := false) (e := 64) (t := at_)) rfl rfl rfl (fun v H1 hp => ?_) (fun v H1 hp => absurd hp.1 (by decide)); obtain ⟨_, rfl, rfl⟩ := hp; (repeat refine nx ?_); exact AtQ.finP (H' := []) ⟨64, at_, pan (by rw [Bool.and_eq_false_iff, decide_eq_false_iff_not, decide_eq_false_iff_not]; omega), rfl, rfl⟩ dR_)
    · (refine RT.callP T rfl fR_ (must_fn (p := false) (e := 64) (t := at_)) rfl rfl rfl (fun v H1 hp => ?_) (fun v H1 hp => absurd hp.1 (by decide)); obtain ⟨_, rfl, rfl⟩ := hp; (repeat refine nx ?_); exact AtQ.finP (H' := []) ⟨64, at_, pan (by rw [Bool.and_eq_false_iff, decide_eq_false_iff_not, decide_eq_false_iff_not]; omega), rfl, rfl⟩ dR_)
    · (refine RT.callP T rfl fR_ (must_fn (p := false) (e := 64) (t := at_)) rfl rfl rfl (fun v H1 hp => ?_) (fun v H1 hp => absurd hp.1 (by decide)); obtain ⟨_, rfl, rfl⟩ := hp; (repeat refine nx ?_); exact AtQ.finP (H' := []) ⟨64, at_, pan (by rw [Bool.and_eq_false_iff, decide_eq_false_iff_not, decide_eq_false_iff_not]; omega), rfl, rfl⟩ dR_)
  clear hT
  refine A0 ?_
  refine CT.pu fun hT => ?_
  unfold fieldR15 at hT
  repeat' (first|(refine gv ?_;first|refine RT.id ?_|(refine⟨fun hc=>?_,fun hc=>?_⟩<;>first|(exfalso;omega)|skip)|refine gk ?_|refine num_m fun r hr=>?_|intro r hr)|refine gs ?_|(refine gb ?_;intro b)|refine gn ?_|(refine RT.isPush ?_;refine gp ?_;intro a' c' b' c1' hac)|(refine CT.id_ ?_;first|refine nx ?_|refine CT.cond_t rfl ?_|refine CT.cond_f rfl ?_))
  refine CT.cut (α := Unit) (fun _ => [(0, ptr br), (5, .pointer (some ⟨mb, 0, none⟩)), (8, .pointer (some ⟨fb, 0, none⟩)), (9, .slice fa i fc), (10, vS at_)]) (fun _ => Pu (TT = fieldR16 ah f at_ g2) :: rdr br bm :: giv bm g2 :: Cs fb 87 f.cells :: Cs mb 72 [n0, .slice fa fl.length fc, .slice oa ol.length oc, ms, es, .slice ra rl.length rc, .slice na nl.length nc] :: R) ?_ (fun _ => ?_)
  · have pan : (decide (f.packed ≤ 2) && (decide (f.packed = 0) || decide (f.card = 3) && packsB f.kind)) = false → TT = .error (67, at_) := fun h => by rw [hT]; exact must_f h
    have go : (decide (f.packed ≤ 2) && (decide (f.packed = 0) || decide (f.card = 3) && packsB f.kind)) = true → TT = fieldR16 ah f at_ g2 := fun h => by rw [hT]; exact must_t h
    clear hT
    repeat' (first|(refine gv ?_;first|refine RT.id ?_|(refine⟨fun hc=>?_,fun hc=>?_⟩<;>first|(exfalso;omega)|skip)|refine gk ?_|refine num_m fun r hr=>?_|intro r hr)|refine gs ?_|(refine gb ?_;intro b)|refine gn ?_|(refine RT.isPush ?_;refine gp ?_;intro a' c' b' c1' hac)|refine gc ?_|fail)
    · (refine RT.callP T rfl fR_ (must_fn (p := true) (e := 67) (t := at_)) rfl rfl rfl (fun v H1 hp => absurd hp.1 (by decide)) (fun v H1 hp => ?_); obtain ⟨_, rfl⟩ := hp; try simp only [List.nil_append])
      repeat' (first|(refine gv ?_;first|refine RT.id ?_|(refine⟨fun hc=>?_,fun hc=>?_⟩<;>first|(exfalso;omega)|skip)|refine gk ?_|refine num_m fun r hr=>?_|intro r hr)|refine gs ?_|(refine gb ?_;intro b)|refine gn ?_|(refine RT.isPush ?_;refine gp ?_;intro a' c' b' c1' hac)|refine gc ?_|fail)
      exact AtQ.cut () ⟨rfl, rfl, rfl, rfl, rfl, trivial⟩ (fun w h => Sat.pu_in (go (by rw [decide_eq_true (p := f.packed ≤ 2) (by omega), decide_eq_true (p := f.packed = 0) (by omega)]; rfl)) (h.frd (Ps := [rdr br bm, giv bm g2, Cs fb 87 f.cells, Cs mb 72 _]) (Qs := []) (by (repeat (first|exact Fr.nil|(apply Fr.cons;focus ((repeat constructor);done)))))))
    · (refine RT.call T rfl fR_ (packs_fn (k := f.kind)) rfl rfl rfl ?_; rintro _ _ ⟨rfl, rfl⟩; try simp only [List.cons_append, List.nil_append])
      cases hk : packsB f.kind
      · repeat' (first|(refine gv ?_;first|refine RT.id ?_|(refine⟨fun hc=>?_,fun hc=>?_⟩<;>first|(exfalso;omega)|skip)|refine gk ?_|refine num_m fun r hr=>?_|intro r hr)|refine gs ?_|(refine gb ?_;intro b)|refine gn ?_|(refine RT.isPush ?_;refine gp ?_;intro a' c' b' c1' hac)|refine gc ?_|fail)
        (refine RT.callP T rfl fR_ (must_fn (p := false) (e := 67) (t := at_)) rfl rfl rfl (fun v H1 hp => ?_) (fun v H1 hp => absurd hp.1 (by decide)); obtain ⟨_, rfl, rfl⟩ := hp; (repeat refine nx ?_); exact AtQ.finP (H' := []) ⟨67, at_, pan (by rw [hk, decide_eq_false (p := f.packed = 0) (by omega)]; simp), rfl, rfl⟩ dR_)
      · repeat' (first|(refine gv ?_;first|refine RT.id ?_|(refine⟨fun hc=>?_,fun hc=>?_⟩<;>first|(exfalso;omega)|skip)|refine gk ?_|refine num_m fun r hr=>?_|intro r hr)|refine gs ?_|(refine gb ?_;intro b)|refine gn ?_|(refine RT.isPush ?_;refine gp ?_;intro a' c' b' c1' hac)|refine gc ?_|fail)
        (refine RT.callP T rfl fR_ (must_fn (p := true) (e := 67) (t := at_)) rfl rfl rfl (fun v H1 hp => absurd hp.1 (by decide)) (fun v H1 hp => ?_); obtain ⟨_, rfl⟩ := hp; try simp only [List.nil_append])
        repeat' (first|(refine gv ?_;first|refine RT.id ?_|(refine⟨fun hc=>?_,fun hc=>?_⟩<;>first|(exfalso;omega)|skip)|refine gk ?_|refine num_m fun r hr=>?_|intro r hr)|refine gs ?_|(refine gb ?_;intro b)|refine gn ?_|(refine RT.isPush ?_;refine gp ?_;intro a' c' b' c1' hac)|refine gc ?_|fail)
        exact AtQ.cut () ⟨rfl, rfl, rfl, rfl, rfl, trivial⟩ (fun w h => Sat.pu_in (go (by rw [hk, decide_eq_true (p := f.packed ≤ 2) (by omega), decide_eq_true (p := f.card = 3) (by omega)]; simp)) (h.frd (Ps := [rdr br bm, giv bm g2, Cs fb 87 f.cells, Cs mb 72 _]) (Qs := []) (by (repeat (first|exact Fr.nil|(apply Fr.cons;focus ((repeat constructor);done)))))))
    · (refine RT.callP T rfl fR_ (must_fn (p := false) (e := 67) (t := at_)) rfl rfl rfl (fun v H1 hp => ?_) (fun v H1 hp => absurd hp.1 (by decide)); obtain ⟨_, rfl, rfl⟩ := hp; (repeat refine nx ?_); exact AtQ.finP (H' := []) ⟨67, at_, pan (by rw [decide_eq_false (p := f.packed = 0) (by omega), decide_eq_false (p := f.card = 3) (by omega)]; simp), rfl, rfl⟩ dR_)
    · (refine RT.callP T rfl fR_ (must_fn (p := false) (e := 67) (t := at_)) rfl rfl rfl (fun v H1 hp => ?_) (fun v H1 hp => absurd hp.1 (by decide)); obtain ⟨_, rfl, rfl⟩ := hp; (repeat refine nx ?_); exact AtQ.finP (H' := []) ⟨67, at_, pan (by rw [decide_eq_false (p := f.packed ≤ 2) (by omega)]; rfl), rfl, rfl⟩ dR_)
  clear hT
  refine A0 ?_
  refine CT.pu fun hT => ?_
  unfold fieldR16 at hT
  repeat' (first|(refine gv ?_;first|refine RT.id ?_|(refine⟨fun hc=>?_,fun hc=>?_⟩<;>first|(exfalso;omega)|skip)|refine gk ?_|refine num_m fun r hr=>?_|intro r hr)|refine gs ?_|(refine gb ?_;intro b)|refine gn ?_|(refine RT.isPush ?_;refine gp ?_;intro a' c' b' c1' hac)|refine gc ?_|fail)
  (refine RT.call T rfl fR_ (goodS_fn hU fjb (by omega)) rfl rfl rfl ?_; rintro _ _ ⟨rfl, rfl⟩; try simp only [List.cons_append, List.nil_append])
  have pan : (decide (goodL f.js < 0) && decide (f.js.length ≤ 255) && decide ((64 : Int) ∉ f.js)) = false → TT = .error (60, at_) := fun h => by rw [hT]; exact must_f h
  have go : (decide (goodL f.js < 0) && decide (f.js.length ≤ 255) && decide ((64 : Int) ∉ f.js)) = true → TT = fieldR17 ah f at_ g2 := fun h => by rw [hT]; exact must_t h
  clear hT
  generalize hgl : goodL f.js = gl at *
  repeat' (first|(refine gv ?_;first|refine RT.id ?_|(refine⟨fun hc=>?_,fun hc=>?_⟩<;>first|(exfalso;omega)|skip)|refine gk ?_|refine num_m fun r hr=>?_|intro r hr)|refine gs ?_|(refine gb ?_;intro b)|refine gn ?_|(refine RT.isPush ?_;refine gp ?_;intro a' c' b' c1' hac)|refine gc ?_|fail)
  rotate_left
  · (refine RT.callP T rfl fR_ (must_fn (p := false) (e := 60) (t := at_)) rfl rfl rfl (fun v H1 hp => ?_) (fun v H1 hp => absurd hp.1 (by decide)); obtain ⟨_, rfl, rfl⟩ := hp; (repeat refine nx ?_); exact AtQ.finP (H' := []) ⟨60, at_, pan (by rw [decide_eq_false (p := f.js.length ≤ 255) (by omega)]; simp), rfl, rfl⟩ dR_)
  · (refine RT.callP T rfl fR_ (must_fn (p := false) (e := 60) (t := at_)) rfl rfl rfl (fun v H1 hp => ?_) (fun v H1 hp => absurd hp.1 (by decide)); obtain ⟨_, rfl, rfl⟩ := hp; (repeat refine nx ?_); exact AtQ.finP (H' := []) ⟨60, at_, pan (by rw [decide_eq_false (p := gl < 0) (by omega)]; rfl), rfl, rfl⟩ dR_)
  (refine RT.call T rfl fR_ (contains_fn (l := f.js) fjb) rfl rfl rfl ?_; rintro _ _ ⟨rfl, rfl⟩; try simp only [List.cons_append, List.nil_append])
  by_cases hat : (64 : Int) ∈ f.js
  · rw [decide_eq_true hat]
    repeat' (first|(refine gv ?_;first|refine RT.id ?_|(refine⟨fun hc=>?_,fun hc=>?_⟩<;>first|(exfalso;omega)|skip)|refine gk ?_|refine num_m fun r hr=>?_|intro r hr)|refine gs ?_|(refine gb ?_;intro b)|refine gn ?_|(refine RT.isPush ?_;refine gp ?_;intro a' c' b' c1' hac)|refine gc ?_|fail)
    (refine RT.callP T rfl fR_ (must_fn (p := false) (e := 60) (t := at_)) rfl rfl rfl (fun v H1 hp => ?_) (fun v H1 hp => absurd hp.1 (by decide)); obtain ⟨_, rfl, rfl⟩ := hp; (repeat refine nx ?_); exact AtQ.finP (H' := []) ⟨60, at_, pan (by rw [decide_eq_false (p := (64 : Int) ∉ f.js) (fun h => h hat)]; simp), rfl, rfl⟩ dR_)
  rw [decide_eq_false hat]
  repeat' (first|(refine gv ?_;first|refine RT.id ?_|(refine⟨fun hc=>?_,fun hc=>?_⟩<;>first|(exfalso;omega)|skip)|refine gk ?_|refine num_m fun r hr=>?_|intro r hr)|refine gs ?_|(refine gb ?_;intro b)|refine gn ?_|(refine RT.isPush ?_;refine gp ?_;intro a' c' b' c1' hac)|refine gc ?_|fail)
  (refine RT.callP T rfl fR_ (must_fn (p := true) (e := 60) (t := at_)) rfl rfl rfl (fun v H1 hp => absurd hp.1 (by decide)) (fun v H1 hp => ?_); obtain ⟨_, rfl⟩ := hp; try simp only [List.nil_append])
  have hT := go (by rw [decide_eq_true (p := gl < 0) (by omega), decide_eq_true (p := f.js.length ≤ 255) (by omega), decide_eq_true hat]; rfl)
  clear go pan
  unfold fieldR17 at hT
  (refine RT.env (E' := [(0, _), (5, _), (8, _), (9, _), (10, _)]) ⟨rfl, rfl, rfl, rfl, rfl, trivial⟩ ?_)
  repeat' (first|(refine gv ?_;first|refine RT.id ?_|(refine⟨fun hc=>?_,fun hc=>?_⟩<;>first|(exfalso;omega)|skip)|refine gk ?_|refine num_m fun r hr=>?_|intro r hr)|refine gs ?_|(refine gb ?_;intro b)|refine gn ?_|(refine RT.isPush ?_;refine gp ?_;intro a' c' b' c1' hac)|refine gc ?_|fail)
  refine CT.loop (α := Nat) (fun k => [(8, .pointer (some ⟨fb, 0, none⟩)), (10, vS at_), (166, .slice fa i fc), (167, .int .i64 i), (168, .int .i64 k)]) (fun k => Pu (k ≤ i ∧ ∀ o ∈ ah.take k, jsonL o ≠ jsonL f ∧ jsonL o ≠ f.nm ∧ o.nm ≠ jsonL f) :: rdr br bm :: giv bm g2 :: Cs fb 87 f.cells :: R) (fun k => i - k) 0
    ⟨rfl, rfl, rfl, rfl, rfl, trivial⟩ (fun w h => Sat.pu_in ⟨Nat.zero_le _, fun o ho => by simp at ho⟩ (h.frd (Ps := [rdr br bm, giv bm g2, Cs fb 87 f.cells]) (Qs := [_]) (by (repeat (first|exact Fr.nil|(apply Fr.cons;focus ((repeat constructor);done))))))) (fun k => CT.pu fun ⟨hki, hko⟩ => ?_)
  repeat' (first|(refine gv ?_;first|refine RT.id ?_|(refine⟨fun hc=>?_,fun hc=>?_⟩<;>first|(exfalso;omega)|skip)|refine gk ?_|refine num_m fun r hr=>?_|intro r hr)|refine gs ?_|(refine gb ?_;intro b)|refine gn ?_|(refine RT.isPush ?_;refine gp ?_;intro a' c' b' c1' hac)|(refine CT.id_ ?_;first|refine nx ?_|refine CT.cond_t rfl ?_|refine CT.cond_f rfl ?_))
  first | (refine CT.region ?_) | (refine CT.quiet mixed (by kernel_rfl) ?_)
  repeat' (first|(refine gv ?_;first|refine RT.id ?_|(refine⟨fun hc=>?_,fun hc=>?_⟩<;>first|(exfalso;omega)|skip)|refine gk ?_|refine num_m fun r hr=>?_|intro r hr)|refine gs ?_|(refine gb ?_;intro b)|refine gn ?_|(refine RT.isPush ?_;refine gp ?_;intro a' c' b' c1' hac)|(refine CT.id_ ?_;first|refine nx ?_|refine CT.cond_t rfl ?_|refine CT.cond_f rfl ?_))
  repeat' (first|(refine gv ?_;first|refine RT.id ?_|(refine⟨fun hc=>?_,fun hc=>?_⟩<;>first|(exfalso;omega)|skip)|refine gk ?_|refine num_m fun r hr=>?_|intro r hr)|refine gs ?_|(refine gb ?_;intro b)|refine gn ?_|(refine RT.isPush ?_;refine gp ?_;intro a' c' b' c1' hac)|refine gc ?_|fail)
  · have hka : k < ah.length := by omega
    have hgk := List.getElem?_eq_getElem hka
    revert hgk
    generalize ah[k] = o
    intro hgk
    have hof : o ∈ fl := List.mem_of_mem_take (by rw [hah]; exact List.mem_of_getElem? hgk)
    obtain ⟨⟨⟨onb, _⟩, _, _, _, _, _, _, _, ⟨ojb, _⟩⟩, ons, _, ojs⟩ := fo o hof
    refine RT.ix T (j := k * 9) rfl rfl rfl (by repeat (first | exact (hA) | apply Rd.cons)) (by omega) (by omega) (by omega) rfl rfl ?_
    refine RT.ldra T rfl (by repeat (first | exact (hA) | apply Rd.cons)) (l := o.cells) (flat_sub (f := FieldT.cells) (z := 9) (fun _ => rfl) ah k _ hgk) rfl rfl rfl rfl ?_
    repeat' (first|(refine gv ?_;first|refine RT.id ?_|(refine⟨fun hc=>?_,fun hc=>?_⟩<;>first|(exfalso;omega)|skip)|refine gk ?_|refine num_m fun r hr=>?_|intro r hr)|refine gs ?_|(refine gb ?_;intro b)|refine gn ?_|(refine RT.isPush ?_;refine gp ?_;intro a' c' b' c1' hac)|(refine CT.id_ ?_;first|refine nx ?_|refine CT.cond_t rfl ?_|refine CT.cond_f rfl ?_))
    (apply RT.staggW T;exact rfl;exact rfl;exact rfl;(focus ((repeat constructor);done));iterate 4 exact rfl)
    repeat' (first|(refine gv ?_;first|refine RT.id ?_|(refine⟨fun hc=>?_,fun hc=>?_⟩<;>first|(exfalso;omega)|skip)|refine gk ?_|refine num_m fun r hr=>?_|intro r hr)|refine gs ?_|(refine gb ?_;intro b)|refine gn ?_|(refine RT.isPush ?_;refine gp ?_;intro a' c' b' c1' hac)|(refine CT.id_ ?_;first|refine nx ?_|refine CT.cond_t rfl ?_|refine CT.cond_f rfl ?_))
    revert b
    intro ob
    refine CT.tail 20 mixed (by kernel_rfl) ?_
    dsimp only [List.take_succ_cons, List.take_zero]
    repeat' (first|(refine gv ?_;first|refine RT.id ?_|(refine⟨fun hc=>?_,fun hc=>?_⟩<;>first|(exfalso;omega)|skip)|refine gk ?_|refine num_m fun r hr=>?_|intro r hr)|refine gs ?_|(refine gb ?_;intro b)|refine gn ?_|(refine RT.isPush ?_;refine gp ?_;intro a' c' b' c1' hac)|refine gt ?_|refine gc ?_|fail)
    (refine RT.qcall T rfl (QSp.of (by (repeat (first|exact Fr.nil|(apply Fr.cons;focus ((repeat constructor);done))))) (json_fn (f := o) ojb onb ons)) rfl rfl rfl ?_)
    repeat' (first|(refine gv ?_;first|refine RT.id ?_|(refine⟨fun hc=>?_,fun hc=>?_⟩<;>first|(exfalso;omega)|skip)|refine gk ?_|refine num_m fun r hr=>?_|intro r hr)|refine gs ?_|(refine gb ?_;intro b)|refine gn ?_|(refine RT.isPush ?_;refine gp ?_;intro a' c' b' c1' hac)|refine gt ?_|refine gc ?_|fail)
    (refine RT.qcall T rfl (QSp.of (by (repeat (first|exact Fr.nil|(apply Fr.cons;focus ((repeat constructor);done))))) (json_fn (f := f) fjb fnb fns)) rfl rfl rfl ?_)
    repeat' (first|(refine gv ?_;first|refine RT.id ?_|(refine⟨fun hc=>?_,fun hc=>?_⟩<;>first|(exfalso;omega)|skip)|refine gk ?_|refine num_m fun r hr=>?_|intro r hr)|refine gs ?_|(refine gb ?_;intro b)|refine gn ?_|(refine RT.isPush ?_;refine gp ?_;intro a' c' b' c1' hac)|refine gt ?_|refine gc ?_|fail)
    have hjo := json_byt ojb onb
    have hjf := json_byt fjb fnb
    have pan : ∀ o ∈ ah, ¬(jsonL o ≠ jsonL f ∧ jsonL o ≠ f.nm ∧ o.nm ≠ jsonL f) → TT = .error (61, at_) := fun o ho h => by rw [hT]; exact must_f (decide_eq_false fun h2 => h (h2 o ho))
    refine RT.nes (l := jsonL o) (l' := jsonL f) rfl rfl hjo hjf rfl rfl (fun he1 => ?_) (fun he1 => ?_)
    · repeat' (first|(refine gv ?_;first|refine RT.id ?_|(refine⟨fun hc=>?_,fun hc=>?_⟩<;>first|(exfalso;omega)|skip)|refine gk ?_|refine num_m fun r hr=>?_|intro r hr)|refine gs ?_|(refine gb ?_;intro b)|refine gn ?_|(refine RT.isPush ?_;refine gp ?_;intro a' c' b' c1' hac)|refine gt ?_|refine gc ?_|fail)
      refine AtQ.tail ?_
      (refine RT.callP T rfl fR_ (must_fn (p := false) (e := 61) (t := at_)) rfl rfl rfl (fun v H1 hp => ?_) (fun v H1 hp => absurd hp.1 (by decide)); obtain ⟨_, rfl, rfl⟩ := hp; (repeat refine nx ?_); exact AtQ.finP (H' := []) ⟨61, at_, pan o (List.mem_of_getElem? hgk) (fun h => h.1 he1), rfl, rfl⟩ dR_)
    · repeat' (first|(refine gv ?_;first|refine RT.id ?_|(refine⟨fun hc=>?_,fun hc=>?_⟩<;>first|(exfalso;omega)|skip)|refine gk ?_|refine num_m fun r hr=>?_|intro r hr)|refine gs ?_|(refine gb ?_;intro b)|refine gn ?_|(refine RT.isPush ?_;refine gp ?_;intro a' c' b' c1' hac)|refine gt ?_|refine gc ?_|fail)
      (refine RT.qcall T rfl (QSp.of (by (repeat (first|exact Fr.nil|(apply Fr.cons;focus ((repeat constructor);done))))) (json_fn (f := o) ojb onb ons)) rfl rfl rfl ?_)
      repeat' (first|(refine gv ?_;first|refine RT.id ?_|(refine⟨fun hc=>?_,fun hc=>?_⟩<;>first|(exfalso;omega)|skip)|refine gk ?_|refine num_m fun r hr=>?_|intro r hr)|refine gs ?_|(refine gb ?_;intro b)|refine gn ?_|(refine RT.isPush ?_;refine gp ?_;intro a' c' b' c1' hac)|refine gt ?_|refine gc ?_|fail)
      refine RT.nes (l := jsonL o) (l' := f.nm) rfl rfl hjo fnb rfl rfl (fun he2 => ?_) (fun he2 => ?_)
      · repeat' (first|(refine gv ?_;first|refine RT.id ?_|(refine⟨fun hc=>?_,fun hc=>?_⟩<;>first|(exfalso;omega)|skip)|refine gk ?_|refine num_m fun r hr=>?_|intro r hr)|refine gs ?_|(refine gb ?_;intro b)|refine gn ?_|(refine RT.isPush ?_;refine gp ?_;intro a' c' b' c1' hac)|refine gt ?_|refine gc ?_|fail)
        refine AtQ.tail ?_
        (refine RT.callP T rfl fR_ (must_fn (p := false) (e := 61) (t := at_)) rfl rfl rfl (fun v H1 hp => ?_) (fun v H1 hp => absurd hp.1 (by decide)); obtain ⟨_, rfl, rfl⟩ := hp; (repeat refine nx ?_); exact AtQ.finP (H' := []) ⟨61, at_, pan o (List.mem_of_getElem? hgk) (fun h => h.2.1 he2), rfl, rfl⟩ dR_)
      · repeat' (first|(refine gv ?_;first|refine RT.id ?_|(refine⟨fun hc=>?_,fun hc=>?_⟩<;>first|(exfalso;omega)|skip)|refine gk ?_|refine num_m fun r hr=>?_|intro r hr)|refine gs ?_|(refine gb ?_;intro b)|refine gn ?_|(refine RT.isPush ?_;refine gp ?_;intro a' c' b' c1' hac)|refine gt ?_|refine gc ?_|fail)
        (refine RT.qcall T rfl (QSp.of (by (repeat (first|exact Fr.nil|(apply Fr.cons;focus ((repeat constructor);done))))) (json_fn (f := f) fjb fnb fns)) rfl rfl rfl ?_)
        refine RT.nes (l := o.nm) (l' := jsonL f) rfl rfl onb hjf rfl rfl (fun he3 => ?_) (fun he3 => ?_)
        · repeat' (first|(refine gv ?_;first|refine RT.id ?_|(refine⟨fun hc=>?_,fun hc=>?_⟩<;>first|(exfalso;omega)|skip)|refine gk ?_|refine num_m fun r hr=>?_|intro r hr)|refine gs ?_|(refine gb ?_;intro b)|refine gn ?_|(refine RT.isPush ?_;refine gp ?_;intro a' c' b' c1' hac)|refine gt ?_|refine gc ?_|fail)
          refine AtQ.tail ?_
          (refine RT.callP T rfl fR_ (must_fn (p := false) (e := 61) (t := at_)) rfl rfl rfl (fun v H1 hp => ?_) (fun v H1 hp => absurd hp.1 (by decide)); obtain ⟨_, rfl, rfl⟩ := hp; (repeat refine nx ?_); exact AtQ.finP (H' := []) ⟨61, at_, pan o (List.mem_of_getElem? hgk) (fun h => h.2.2 he3), rfl, rfl⟩ dR_)
        · repeat' (first|(refine gv ?_;first|refine RT.id ?_|(refine⟨fun hc=>?_,fun hc=>?_⟩<;>first|(exfalso;omega)|skip)|refine gk ?_|refine num_m fun r hr=>?_|intro r hr)|refine gs ?_|(refine gb ?_;intro b)|refine gn ?_|(refine RT.isPush ?_;refine gp ?_;intro a' c' b' c1' hac)|refine gt ?_|refine gc ?_|fail)
          refine AtQ.tail ?_
          (refine RT.callP T rfl fR_ (must_fn (p := true) (e := 61) (t := at_)) rfl rfl rfl (fun v H1 hp => absurd hp.1 (by decide)) (fun v H1 hp => ?_); obtain ⟨_, rfl⟩ := hp; try simp only [List.nil_append])
          repeat' (first|(refine gv ?_;first|refine RT.id ?_|(refine⟨fun hc=>?_,fun hc=>?_⟩<;>first|(exfalso;omega)|skip)|refine gk ?_|refine num_m fun r hr=>?_|intro r hr)|refine gs ?_|(refine gb ?_;intro b)|refine gn ?_|(refine RT.isPush ?_;refine gp ?_;intro a' c' b' c1' hac)|refine gc ?_|fail)
          exact AtQ.loop (k + 1) ⟨rfl, rfl, rfl, rfl, rfl, trivial⟩ (fun w h => Sat.pu_in ⟨by omega, sm_take hgk hko ⟨he1, he2, he3⟩⟩ (h.frd (Ps := [rdr br bm, giv bm g2, Cs fb 87 f.cells]) (Qs := [_]) (by (repeat (first|exact Fr.nil|(apply Fr.cons;focus ((repeat constructor);done))))))) (by omega)
  · have hke : k = i := by omega
    rw [List.take_of_length_le (by omega)] at hko
    refine AtQ.ofFinN (AtQ.fin0 Tryz.results118 (H' := [rdr br bm, giv bm g2]) ⟨g2, by rw [hT]; exact must_t (decide_eq_true hko), hb2, rfl⟩ (fun w h => h.frd (Ps := [rdr br bm, giv bm g2]) (Qs := [_]) (by (repeat (first|exact Fr.nil|(apply Fr.cons;focus ((repeat constructor);done)))))) _ (.inl rfl))
end Go.Proofs.YtdemnhdoadjhhaaGreatDoor
end
section
namespace Go.Proofs.YtdemnhdoadjhhaaGreatDoor
open Go.Sk
set_option maxRecDepth 100000
theorem giveR_ok {nm full : Txt} {g g' : List Txt} (h : giveR nm full g = .ok g') : identB nm = true ∧ full.length ≤ 255 ∧ full ∉ g ∧ g' = g ++ [full] := by
  unfold giveR must at h
  split at h
  · rename_i h1
    rw [Bool.and_eq_true, decide_eq_true_eq] at h1
    split at h
    · rename_i h2
      cases h
      exact ⟨h1.1, h1.2, of_decide_eq_true h2, rfl⟩
    · cases h
  · cases h
theorem drop_eq {α : Type} {l : List α} {i : Nat} {x : α} (h : l[i]? = some x) : l.drop i = x :: l.drop (i + 1) := by
  obtain ⟨hi, rfl⟩ := List.getElem?_eq_some_iff.1 h
  exact List.drop_eq_getElem_cons hi
theorem take_eq {α : Type} {l : List α} {i : Nat} {x : α} (h : l[i]? = some x) : l.take i ++ [x] = l.take (i + 1) := by
  rw [List.take_add_one, h]
  rfl
attribute [local irreducible] Cs Own Ex Pu Yld RT LJ QJ AtQ CT Rd QSp Sp FinQ Then LoopQ CutQ DT TakeQ EffQ
variable {B : World}
set_option maxHeartbeats 16000000 in
theorem message_fn {mM : Int} (hU : Lib.Utf8Tabs 1 2 B) (hM : B.cell? ⟨0, 0, none⟩ = some (.int .i64 mM)) {br bm : Nat} (d : Nat) :
    ∀ {R : List HP} {m : MsgT} {sc : Txt} {deep : Nat} {g : List Txt}, m.deep ≤ d → m.In (Rd B R) → m.Ok → m.Nm → BL g → Byt sc → sc.length ≤ 16777216 → deep ≤ 16 →
    SpP B Tryz.prog 92 [ptr br, .agg m.cells.toArray, vS sc, .int .i64 deep] R [rdr br bm, giv bm g] (PostR (msgR m sc deep g) [rdr br bm] bm) (PPR (msgR m sc deep g)) := by
  induction d using Nat.strongRecOn with
  | _ d ih =>
  intro R m sc deep g hd hin hok hnm hg hs hsl hdp
  obtain ⟨nm, ⟨fa, fc, fl⟩, ⟨oa, oc, ol⟩, ma, mc, msgs, ⟨ea, ec, el⟩, ⟨ra, rc, rl⟩, ⟨na, nc, nl⟩⟩ := m
  unfold MsgT.In at hin
  unfold MsgT.Ok at hok
  unfold MsgT.Nm at hnm
  unfold MsgT.deep at hd
  obtain ⟨rf, ro, rm, re, re2, rs, rn, rm2⟩ := hin
  obtain ⟨⟨ho1, _⟩, ⟨⟨lf, _⟩, of_⟩, ⟨⟨lo, _⟩, oo⟩, ⟨lm, _⟩, ⟨⟨le, _⟩, oe⟩, ⟨⟨ls, _⟩, os⟩, ⟨⟨ln, _⟩, on_⟩, om⟩ := hok
  obtain ⟨hm1, hmf, hmo, hmn, hme, hmm⟩ := hnm
  dsimp only at rf ro rm re re2 rs rn lf of_ lo oo lm le oe ls os ln on_ hmf hmo hmn hme
  have hT : msgR (.mk nm ⟨fa, fc, fl⟩ ⟨oa, oc, ol⟩ ma mc msgs ⟨ea, ec, el⟩ ⟨ra, rc, rl⟩ ⟨na, nc, nl⟩) sc deep g = msgR (.mk nm ⟨fa, fc, fl⟩ ⟨oa, oc, ol⟩ ma mc msgs ⟨ea, ec, el⟩ ⟨ra, rc, rl⟩ ⟨na, nc, nl⟩) sc deep g := rfl
  conv at hT => rhs; unfold msgR
  dsimp only at hT
  generalize msgR (.mk nm ⟨fa, fc, fl⟩ ⟨oa, oc, ol⟩ ma mc msgs ⟨ea, ec, el⟩ ⟨ra, rc, rl⟩ ⟨na, nc, nl⟩) sc deep g = TT at *
  dsimp only [MsgT.cells, Rw.v, MsgT.nm, MsgT.fields, MsgT.oneofs, MsgT.ma, MsgT.mc, MsgT.msgs, MsgT.enums, MsgT.res, MsgT.names]
  refine SpP.body Tryz.func92 rfl Tryz.ntmps92 (by simp) ?_
  simp only [argE, List.cons_append, List.nil_append, Nat.zero_add, Nat.reduceAdd]
  repeat' (first|(refine gv ?_;first|refine RT.id ?_|(refine⟨fun hc=>?_,fun hc=>?_⟩<;>first|(exfalso;omega)|skip)|refine gk ?_|refine num_m fun r hr=>?_|intro r hr)|refine gs ?_|(refine gb ?_;intro b)|refine gn ?_|(refine RT.isPush ?_;refine gp ?_;intro a' c' b' c1' hac)|refine gc ?_|fail)
  revert b
  intro mb
  (refine RT.bs T (l := strs [sc,  nm]) rfl rfl rfl rfl rfl rfl rfl (fun a9 c9 h9 => ?_); (refine RT.call T rfl fR_ (join_fn (ls := [sc,  nm]) (Own.rd (by ((repeat constructor);done)) rfl h9) rfl (b2  hs  ho1) ( s2l hsl hm1)) rfl rfl rfl ?_; rintro _ _ ⟨rfl, rfl⟩; try simp only [List.cons_append, List.nil_append]); refine RT.weak (fun w h => h.tail) ?_)
  repeat' (first|(refine gv ?_;first|refine RT.id ?_|(refine⟨fun hc=>?_,fun hc=>?_⟩<;>first|(exfalso;omega)|skip)|refine gk ?_|refine num_m fun r hr=>?_|intro r hr)|refine gs ?_|(refine gb ?_;intro b)|refine gn ?_|(refine RT.isPush ?_;refine gp ?_;intro a' c' b' c1' hac)|refine gc ?_|fail)
  have hjl := @j2_len sc nm
  have hjb := j2_byt hs ho1
  generalize joinL [sc, nm] = full at *
  (refine RT.callP T rfl fR_ (give_fn (br := br) (bm := bm) (g := g) hg ho1 hjb hm1 (show full.length ≤ 140737488355327 by omega)) rfl rfl rfl (fun v H1 hp => ?_) (fun v H1 hp => ?_))
  · obtain ⟨e, t, h4, rfl, rfl⟩ := hp
    ((repeat refine nx ?_); exact AtQ.finP (H' := []) ⟨e, t, by rw [hT, h4]; rfl, rfl, rfl⟩ dR_)
  obtain ⟨g1, h4, hb1, rfl⟩ := hp
  rw [h4] at hT
  rw [bnd_ok] at hT
  obtain ⟨_, hfl, _, _⟩ := giveR_ok h4
  clear h4 hjl
  simp only [List.cons_append, List.nil_append]
  repeat' (first|(refine gv ?_;first|refine RT.id ?_|(refine⟨fun hc=>?_,fun hc=>?_⟩<;>first|(exfalso;omega)|skip)|refine gk ?_|refine num_m fun r hr=>?_|intro r hr)|refine gs ?_|(refine gb ?_;intro b)|refine gn ?_|(refine RT.isPush ?_;refine gp ?_;intro a' c' b' c1' hac)|refine gc ?_|fail)
  rotate_left
  · (refine RT.callP T rfl fR_ (must_fn (p := false) (e := 68) (t := full)) rfl rfl rfl (fun v H1 hp => ?_) (fun v H1 hp => absurd hp.1 (by decide)); obtain ⟨_, rfl, rfl⟩ := hp; (repeat refine nx ?_); exact AtQ.finP (H' := []) ⟨68, full, by rw [hT]; exact must_f (by rw [decide_eq_false (p := fl.length ≤ 1000) (by omega)]; simp), rfl, rfl⟩ dR_)
  · (refine RT.callP T rfl fR_ (must_fn (p := false) (e := 68) (t := full)) rfl rfl rfl (fun v H1 hp => ?_) (fun v H1 hp => absurd hp.1 (by decide)); obtain ⟨_, rfl, rfl⟩ := hp; (repeat refine nx ?_); exact AtQ.finP (H' := []) ⟨68, full, by rw [hT]; exact must_f (by rw [decide_eq_false (p := deep < 16) (by omega)]; rfl), rfl, rfl⟩ dR_)
  (refine RT.callP T rfl fR_ (must_fn (p := true) (e := 68) (t := full)) rfl rfl rfl (fun v H1 hp => absurd hp.1 (by decide)) (fun v H1 hp => ?_); obtain ⟨_, rfl⟩ := hp; try simp only [List.nil_append])
  rw [must_t (by rw [decide_eq_true (p := deep < 16) (by omega), decide_eq_true (p := fl.length ≤ 1000) (by omega)]; rfl)] at hT
  (refine RT.env (E' := [(0, _), (3, _), (5, _), (8, _)]) ⟨rfl, rfl, rfl, rfl, trivial⟩ ?_)
  repeat' (first|(refine gv ?_;first|refine RT.id ?_|(refine⟨fun hc=>?_,fun hc=>?_⟩<;>first|(exfalso;omega)|skip)|refine gk ?_|refine num_m fun r hr=>?_|intro r hr)|refine gs ?_|(refine gb ?_;intro b)|refine gn ?_|(refine RT.isPush ?_;refine gp ?_;intro a' c' b' c1' hac)|refine gc ?_|fail)
  (refine RT.callP T rfl fR_ (spans_fn (r := ⟨ra, rc, rl⟩) (lo := 1) (hi := 536870911) (t := full) (by repeat (first | exact (rs) | apply Rd.cons)) ls) rfl rfl rfl (fun v H1 hp => ?_) (fun v H1 hp => ?_))
  · obtain ⟨e, t, h2, rfl, rfl⟩ := hp
    ((repeat refine nx ?_); exact AtQ.finP (H' := []) ⟨e, t, by rw [hT, h2]; try rfl, rfl, rfl⟩ dR_)
  obtain ⟨h2, rfl⟩ := hp
  rw [h2] at hT
  rw [opt_none] at hT
  simp only [List.nil_append]
  repeat' (first|(refine gv ?_;first|refine RT.id ?_|(refine⟨fun hc=>?_,fun hc=>?_⟩<;>first|(exfalso;omega)|skip)|refine gk ?_|refine num_m fun r hr=>?_|intro r hr)|refine gs ?_|(refine gb ?_;intro b)|refine gn ?_|(refine RT.isPush ?_;refine gp ?_;intro a' c' b' c1' hac)|refine gc ?_|fail)
  (refine RT.callP T rfl fR_ (reserved_fn (r := ⟨na, nc, nl⟩) (sc := full) ⟨(by repeat (first | exact (rn) | apply Rd.cons)), ln, fun t ht => (on_ t ht).1, hmn⟩ hjb (by omega)) rfl rfl rfl (fun v H1 hp => ?_) (fun v H1 hp => ?_))
  · obtain ⟨e, t, h3, rfl, rfl⟩ := hp
    ((repeat refine nx ?_); exact AtQ.finP (H' := []) ⟨e, t, by rw [hT, h3]; try rfl, rfl, rfl⟩ dR_)
  obtain ⟨h3, rfl⟩ := hp
  rw [h3] at hT
  rw [opt_none] at hT
  simp only [List.nil_append]
  clear h2 h3
  repeat' (first|(refine gv ?_;first|refine RT.id ?_|(refine⟨fun hc=>?_,fun hc=>?_⟩<;>first|(exfalso;omega)|skip)|refine gk ?_|refine num_m fun r hr=>?_|intro r hr)|refine gs ?_|(refine gb ?_;intro b)|refine gn ?_|(refine RT.isPush ?_;refine gp ?_;intro a' c' b' c1' hac)|refine gc ?_|fail)
  generalize hK : (fun g => bnd (oneofsR fl full 0 ol g) fun g => bnd (msgsR msgs full (deep + 1) g) fun g => enumsR full el g) = K at hT
  obtain ⟨mcl, hmcl⟩ : ∃ mcl, mcl = [vS nm, Value.slice fa fl.length fc, Value.slice oa ol.length oc, Value.slice ma msgs.length mc, Value.slice ea el.length ec, Value.slice ra rl.length rc, Value.slice na nl.length nc] := ⟨_, rfl⟩
  rw [← hmcl]
  refine CT.loop (α := Nat × List Txt) (fun s => [(0, ptr br), (3, .int .i64 deep), (5, .pointer (some ⟨mb, 0, none⟩)), (8, vS full), (47, .int .i64 fl.length), (48, .int .i64 s.1)])
    (fun s => Pu (s.1 ≤ fl.length ∧ BL s.2 ∧ TT = bnd (fieldsR nl rl ol.length full (fl.take s.1) (fl.drop s.1) s.2) K) :: rdr br bm :: giv bm s.2 :: Cs mb 72 mcl :: R) (fun s => fl.length - s.1) (0, g1)
    ⟨rfl, rfl, rfl, rfl, rfl, rfl, trivial⟩ (fun w h => Sat.pu_in ⟨Nat.zero_le _, hb1, hT⟩ h) (fun ⟨k, gk9⟩ => CT.pu fun ⟨hkl, hbk, hTk⟩ => ?_)
  clear hT hb1
  dsimp only at hkl hbk hTk ⊢
  subst hmcl
  repeat' (first|(refine gv ?_;first|refine RT.id ?_|(refine⟨fun hc=>?_,fun hc=>?_⟩<;>first|(exfalso;omega)|skip)|refine gk ?_|refine num_m fun r hr=>?_|intro r hr)|refine gs ?_|(refine gb ?_;intro b)|refine gn ?_|(refine RT.isPush ?_;refine gp ?_;intro a' c' b' c1' hac)|(refine CT.id_ ?_;first|refine nx ?_|refine CT.cond_t rfl ?_|refine CT.cond_f rfl ?_))
  first | (refine CT.region ?_) | (refine CT.quiet mixed (by kernel_rfl) ?_)
  repeat' (first|(refine gv ?_;first|refine RT.id ?_|(refine⟨fun hc=>?_,fun hc=>?_⟩<;>first|(exfalso;omega)|skip)|refine gk ?_|refine num_m fun r hr=>?_|intro r hr)|refine gs ?_|(refine gb ?_;intro b)|refine gn ?_|(refine RT.isPush ?_;refine gp ?_;intro a' c' b' c1' hac)|refine gc ?_|fail)
  · have hk' : k < fl.length := by omega
    have hgk := List.getElem?_eq_getElem hk'
    revert hgk
    generalize fl[k] = f
    intro hgk
    rw [drop_eq hgk, fieldsR] at hTk
    repeat' (first|(refine gv ?_;first|refine RT.id ?_|(refine⟨fun hc=>?_,fun hc=>?_⟩<;>first|(exfalso;omega)|skip)|refine gk ?_|refine num_m fun r hr=>?_|intro r hr)|refine gs ?_|(refine gb ?_;intro b)|refine gn ?_|(refine RT.isPush ?_;refine gp ?_;intro a' c' b' c1' hac)|refine gt ?_|refine gc ?_|fail)
    (refine RT.callP T rfl fR_ (field_fn (fields := ⟨fa, fc, fl⟩) (oneofs := ⟨oa, oc, ol⟩) (names := ⟨na, nc, nl⟩) (res := ⟨ra, rc, rl⟩) (n0 := vS nm) (ms := .slice ma msgs.length mc) (es := .slice ea el.length ec) (full := full) (br := br) (bm := bm) (g := gk9) hU hM ⟨(by repeat (first | exact (rf) | apply Rd.cons)), (by repeat (first | exact (rs) | apply Rd.cons)), ⟨(by repeat (first | exact (rn) | apply Rd.cons)), ln, fun t ht => (on_ t ht).1, hmn⟩, ⟨(by repeat (first | exact (ro) | apply Rd.cons)), lo, fun t ht => (oo t ht).1, hmo⟩, lf, ls, fun f hf => ⟨of_ f hf, hmf f hf⟩⟩ hgk hbk hjb (by omega)) rfl rfl rfl (fun v H1 hp => ?_) (fun v H1 hp => ?_))
    · obtain ⟨e, t, h5, rfl, rfl⟩ := hp
      ((repeat refine nx ?_); exact AtQ.finP (H' := []) ⟨e, t, by rw [hTk, h5]; try rfl, rfl, rfl⟩ dR_)
    obtain ⟨g3, h5, hb3, rfl⟩ := hp
    rw [h5, take_eq hgk] at hTk
    rw [bnd_ok] at hTk
    simp only [List.cons_append, List.nil_append]
    clear h5
    repeat' (first|(refine gv ?_;first|refine RT.id ?_|(refine⟨fun hc=>?_,fun hc=>?_⟩<;>first|(exfalso;omega)|skip)|refine gk ?_|refine num_m fun r hr=>?_|intro r hr)|refine gs ?_|(refine gb ?_;intro b)|refine gn ?_|(refine RT.isPush ?_;refine gp ?_;intro a' c' b' c1' hac)|refine gc ?_|fail)
    exact AtQ.loop (k + 1, g3) ⟨rfl, rfl, rfl, rfl, rfl, rfl, trivial⟩ (fun w h => Sat.pu_in ⟨by omega, hb3, hTk⟩ h) (by dsimp only; omega)
  rw [List.drop_of_length_le (by omega), fieldsR] at hTk
  rw [bnd_ok] at hTk
  subst hK
  dsimp only at hTk
  repeat' (first|(refine gv ?_;first|refine RT.id ?_|(refine⟨fun hc=>?_,fun hc=>?_⟩<;>first|(exfalso;omega)|skip)|refine gk ?_|refine num_m fun r hr=>?_|intro r hr)|refine gs ?_|(refine gb ?_;intro b)|refine gn ?_|(refine RT.isPush ?_;refine gp ?_;intro a' c' b' c1' hac)|refine gc ?_|fail)
  clear hkl
  obtain ⟨mcl, hmcl⟩ : ∃ mcl, mcl = [vS nm, Value.slice fa fl.length fc, Value.slice oa ol.length oc, Value.slice ma msgs.length mc, Value.slice ea el.length ec, Value.slice ra rl.length rc, Value.slice na nl.length nc] := ⟨_, rfl⟩
  rw [← hmcl]
  refine CT.loop (α := Nat × List Txt) (fun s => [(0, ptr br), (3, .int .i64 deep), (5, .pointer (some ⟨mb, 0, none⟩)), (8, vS full), (58, .slice oa ol.length oc), (59, .int .i64 ol.length), (60, .int .i64 s.1)])
    (fun s => Pu (s.1 ≤ ol.length ∧ BL s.2 ∧ TT = bnd (oneofsR fl full s.1 (ol.drop s.1) s.2) fun g => bnd (msgsR msgs full (deep + 1) g) fun g => enumsR full el g) :: rdr br bm :: giv bm s.2 :: Cs mb 72 mcl :: R) (fun s => ol.length - s.1) (0, gk9)
    ⟨rfl, rfl, rfl, rfl, rfl, rfl, rfl, trivial⟩ (fun w h => Sat.pu_in ⟨Nat.zero_le _, hbk, hTk⟩ h) (fun ⟨k, gk9⟩ => CT.pu fun ⟨hkl, hbk, hTk⟩ => ?_)
  dsimp only at hkl hbk hTk ⊢
  subst hmcl
  repeat' (first|(refine gv ?_;first|refine RT.id ?_|(refine⟨fun hc=>?_,fun hc=>?_⟩<;>first|(exfalso;omega)|skip)|refine gk ?_|refine num_m fun r hr=>?_|intro r hr)|refine gs ?_|(refine gb ?_;intro b)|refine gn ?_|(refine RT.isPush ?_;refine gp ?_;intro a' c' b' c1' hac)|(refine CT.id_ ?_;first|refine nx ?_|refine CT.cond_t rfl ?_|refine CT.cond_f rfl ?_))
  first | (refine CT.region ?_) | (refine CT.quiet mixed (by kernel_rfl) ?_)
  repeat' (first|(refine gv ?_;first|refine RT.id ?_|(refine⟨fun hc=>?_,fun hc=>?_⟩<;>first|(exfalso;omega)|skip)|refine gk ?_|refine num_m fun r hr=>?_|intro r hr)|refine gs ?_|(refine gb ?_;intro b)|refine gn ?_|(refine RT.isPush ?_;refine gp ?_;intro a' c' b' c1' hac)|refine gc ?_|fail)
  · have hk' : k < ol.length := by omega
    have hgk := List.getElem?_eq_getElem hk'
    revert hgk
    generalize ol[k] = o
    intro hgk
    rw [drop_eq hgk, oneofsR] at hTk
    have hob := (oo o (List.mem_of_getElem? hgk)).1
    have hos := hmo o (List.mem_of_getElem? hgk)
    refine RT.ix T (j := k) rfl rfl rfl (by repeat (first | exact (ro) | apply Rd.cons)) (by omega) (by omega) (by omega) rfl rfl ?_
    refine RT.ldr T rfl (by repeat (first | exact (ro) | apply Rd.cons)) (map_getT hgk) rfl rfl rfl ?_
    repeat' (first|(refine gv ?_;first|refine RT.id ?_|(refine⟨fun hc=>?_,fun hc=>?_⟩<;>first|(exfalso;omega)|skip)|refine gk ?_|refine num_m fun r hr=>?_|intro r hr)|refine gs ?_|(refine gb ?_;intro b)|refine gn ?_|(refine RT.isPush ?_;refine gp ?_;intro a' c' b' c1' hac)|refine gc ?_|fail)
    (refine RT.bs T (l := strs [full,  o]) rfl rfl rfl rfl rfl rfl rfl (fun a9 c9 h9 => ?_); (refine RT.call T rfl fR_ (join_fn (ls := [full,  o]) (Own.rd (by ((repeat constructor);done)) rfl h9) rfl (b2  hjb  hob) ( s2l (by omega) hos)) rfl rfl rfl ?_; rintro _ _ ⟨rfl, rfl⟩; try simp only [List.cons_append, List.nil_append]); refine RT.weak (fun w h => h.tail) ?_)
    repeat' (first|(refine gv ?_;first|refine RT.id ?_|(refine⟨fun hc=>?_,fun hc=>?_⟩<;>first|(exfalso;omega)|skip)|refine gk ?_|refine num_m fun r hr=>?_|intro r hr)|refine gs ?_|(refine gb ?_;intro b)|refine gn ?_|(refine RT.isPush ?_;refine gp ?_;intro a' c' b' c1' hac)|refine gc ?_|fail)
    have hjl := @j2_len full o
    have hjo := j2_byt hjb hob
    generalize joinL [full, o] = at_ at *
    (refine RT.callP T rfl fR_ (give_fn (br := br) (bm := bm) (g := gk9) hbk hob hjo hos (show at_.length ≤ 140737488355327 by omega)) rfl rfl rfl (fun v H1 hp => ?_) (fun v H1 hp => ?_))
    · obtain ⟨e, t, h5, rfl, rfl⟩ := hp
      ((repeat refine nx ?_); exact AtQ.finP (H' := []) ⟨e, t, by rw [hTk, h5]; try rfl, rfl, rfl⟩ dR_)
    obtain ⟨g3, h5, hb3, rfl⟩ := hp
    rw [h5, bnd_ok] at hTk
    simp only [List.cons_append, List.nil_append]
    clear h5
    repeat' (first|(refine gv ?_;first|refine RT.id ?_|(refine⟨fun hc=>?_,fun hc=>?_⟩<;>first|(exfalso;omega)|skip)|refine gk ?_|refine num_m fun r hr=>?_|intro r hr)|refine gs ?_|(refine gb ?_;intro b)|refine gn ?_|(refine RT.isPush ?_;refine gp ?_;intro a' c' b' c1' hac)|refine gc ?_|fail)
    refine RT.mkF rfl rfl rfl ?_
    repeat' (first|(refine gv ?_;first|refine RT.id ?_|(refine⟨fun hc=>?_,fun hc=>?_⟩<;>first|(exfalso;omega)|skip)|refine gk ?_|refine num_m fun r hr=>?_|intro r hr)|refine gs ?_|(refine gb ?_;intro b)|refine gn ?_|(refine RT.isPush ?_;refine gp ?_;intro a' c' b' c1' hac)|refine gc ?_|fail)
    refine RT.call T rfl (by (repeat (first|exact Fr.nil|(apply Fr.cons;focus ((repeat constructor);done))))) (contfF_fn (l := fl) (p := fun f => decide (f.oneof = (k : Int) + 1)) (f := 120) (caps := [.pointer (some ⟨b, 0, none⟩)]) (Pre := [Cs b 3 [.int .i64 k]]) rfl (by omega) (by repeat (first | exact (rf) | apply Rd.cons)) rfl (fun s _ => message1_fn (by omega))) rfl rfl rfl ?_
    rintro _ _ ⟨rfl, rfl⟩
    simp only [List.cons_append, List.nil_append]
    have hany : decide (∃ f ∈ fl, f.oneof = (k : Int) + 1) = (fl.any fun f => decide (f.oneof = (k : Int) + 1)) := by
      rw [Bool.eq_iff_iff]
      simp
    rw [hany] at hTk
    cases hq : fl.any fun f => decide (f.oneof = (k : Int) + 1)
    · repeat' (first|(refine gv ?_;first|refine RT.id ?_|(refine⟨fun hc=>?_,fun hc=>?_⟩<;>first|(exfalso;omega)|skip)|refine gk ?_|refine num_m fun r hr=>?_|intro r hr)|refine gs ?_|(refine gb ?_;intro b)|refine gn ?_|(refine RT.isPush ?_;refine gp ?_;intro a' c' b' c1' hac)|refine gc ?_|fail)
      (refine RT.callP T rfl fR_ (must_fn (p := false) (e := 64) (t := at_)) rfl rfl rfl (fun v H1 hp => ?_) (fun v H1 hp => absurd hp.1 (by decide)); obtain ⟨_, rfl, rfl⟩ := hp; (repeat refine nx ?_); exact AtQ.finP (H' := []) ⟨64, at_, by rw [hTk, hq, must_f rfl]; rfl, rfl, rfl⟩ dR_)
    rw [hq, must_t rfl] at hTk
    repeat' (first|(refine gv ?_;first|refine RT.id ?_|(refine⟨fun hc=>?_,fun hc=>?_⟩<;>first|(exfalso;omega)|skip)|refine gk ?_|refine num_m fun r hr=>?_|intro r hr)|refine gs ?_|(refine gb ?_;intro b)|refine gn ?_|(refine RT.isPush ?_;refine gp ?_;intro a' c' b' c1' hac)|refine gc ?_|fail)
    (refine RT.callP T rfl fR_ (must_fn (p := true) (e := 64) (t := at_)) rfl rfl rfl (fun v H1 hp => absurd hp.1 (by decide)) (fun v H1 hp => ?_); obtain ⟨_, rfl⟩ := hp; try simp only [List.nil_append])
    repeat' (first|(refine gv ?_;first|refine RT.id ?_|(refine⟨fun hc=>?_,fun hc=>?_⟩<;>first|(exfalso;omega)|skip)|refine gk ?_|refine num_m fun r hr=>?_|intro r hr)|refine gs ?_|(refine gb ?_;intro b)|refine gn ?_|(refine RT.isPush ?_;refine gp ?_;intro a' c' b' c1' hac)|refine gc ?_|fail)
    exact AtQ.loop (k + 1, g3) ⟨rfl, rfl, rfl, rfl, rfl, rfl, rfl, trivial⟩ (fun w h => Sat.pu_in ⟨by omega, hb3, hTk⟩ (h.frd (Ps := [rdr br bm, giv bm g3, Cs mb 72 _]) (Qs := [_]) (by (repeat (first|exact Fr.nil|(apply Fr.cons;focus ((repeat constructor);done))))))) (by dsimp only; omega)
  rw [List.drop_of_length_le (by omega), oneofsR] at hTk
  rw [bnd_ok] at hTk
  repeat' (first|(refine gv ?_;first|refine RT.id ?_|(refine⟨fun hc=>?_,fun hc=>?_⟩<;>first|(exfalso;omega)|skip)|refine gk ?_|refine num_m fun r hr=>?_|intro r hr)|refine gs ?_|(refine gb ?_;intro b)|refine gn ?_|(refine RT.isPush ?_;refine gp ?_;intro a' c' b' c1' hac)|refine gc ?_|fail)
  clear hkl
  obtain ⟨mcl, hmcl⟩ : ∃ mcl, mcl = [vS nm, Value.slice fa fl.length fc, Value.slice oa ol.length oc, Value.slice ma msgs.length mc, Value.slice ea el.length ec, Value.slice ra rl.length rc, Value.slice na nl.length nc] := ⟨_, rfl⟩
  rw [← hmcl]
  refine CT.loop (α := Nat × List Txt) (fun s => [(0, ptr br), (3, .int .i64 deep), (5, .pointer (some ⟨mb, 0, none⟩)), (8, vS full), (81, .slice ma msgs.length mc), (82, .int .i64 msgs.length), (83, .int .i64 s.1)])
    (fun s => Pu (s.1 ≤ msgs.length ∧ BL s.2 ∧ TT = bnd (msgsR (msgs.drop s.1) full (deep + 1) s.2) fun g => enumsR full el g) :: rdr br bm :: giv bm s.2 :: Cs mb 72 mcl :: R) (fun s => msgs.length - s.1) (0, gk9)
    ⟨rfl, rfl, rfl, rfl, rfl, rfl, rfl, trivial⟩ (fun w h => Sat.pu_in ⟨Nat.zero_le _, hbk, hTk⟩ h) (fun ⟨k, gk9⟩ => CT.pu fun ⟨hkl, hbk, hTk⟩ => ?_)
  dsimp only at hkl hbk hTk ⊢
  subst hmcl
  repeat' (first|(refine gv ?_;first|refine RT.id ?_|(refine⟨fun hc=>?_,fun hc=>?_⟩<;>first|(exfalso;omega)|skip)|refine gk ?_|refine num_m fun r hr=>?_|intro r hr)|refine gs ?_|(refine gb ?_;intro b)|refine gn ?_|(refine RT.isPush ?_;refine gp ?_;intro a' c' b' c1' hac)|(refine CT.id_ ?_;first|refine nx ?_|refine CT.cond_t rfl ?_|refine CT.cond_f rfl ?_))
  first | (refine CT.region ?_) | (refine CT.quiet mixed (by kernel_rfl) ?_)
  repeat' (first|(refine gv ?_;first|refine RT.id ?_|(refine⟨fun hc=>?_,fun hc=>?_⟩<;>first|(exfalso;omega)|skip)|refine gk ?_|refine num_m fun r hr=>?_|intro r hr)|refine gs ?_|(refine gb ?_;intro b)|refine gn ?_|(refine RT.isPush ?_;refine gp ?_;intro a' c' b' c1' hac)|refine gc ?_|fail)
  · have hk' : k < msgs.length := by omega
    have hgk := List.getElem?_eq_getElem hk'
    revert hgk
    generalize msgs[k] = m2
    intro hgk
    rw [drop_eq hgk, msgsR] at hTk
    have hme2 := List.mem_of_getElem? hgk
    have hmd := MsgT.deep_mem hme2
    refine RT.ix T (j := k * 7) rfl rfl rfl (by repeat (first | exact (rm) | apply Rd.cons)) (by omega) (by omega) (by omega) rfl rfl ?_
    refine RT.ldra T rfl (by repeat (first | exact (rm) | apply Rd.cons)) (l := m2.cells) (flat_sub (f := MsgT.cells) (z := 7) (fun _ => rfl) msgs k _ hgk) rfl rfl rfl rfl ?_
    repeat' (first|(refine gv ?_;first|refine RT.id ?_|(refine⟨fun hc=>?_,fun hc=>?_⟩<;>first|(exfalso;omega)|skip)|refine gk ?_|refine num_m fun r hr=>?_|intro r hr)|refine gs ?_|(refine gb ?_;intro b)|refine gn ?_|(refine RT.isPush ?_;refine gp ?_;intro a' c' b' c1' hac)|refine gt ?_|refine gc ?_|fail)
    rw [show (deep : Int) + 1 = ((deep + 1 : Nat) : Int) by omega]
    (refine RT.callP T rfl fR_ (@ih m2.deep (by omega) _ m2 full (deep + 1) gk9 (Nat.le_refl _) (MsgT.In.mono (fun _ _ _ _ _ h => (by repeat (first | exact (h) | apply Rd.cons))) (MsgT.inL_mem rm2 hme2)) (MsgT.okL_mem om hme2) (MsgT.nmL_mem hmm hme2) hbk hjb (by omega) (by omega)) rfl rfl rfl (fun v H1 hp => ?_) (fun v H1 hp => ?_))
    · obtain ⟨e, t, h5, rfl, rfl⟩ := hp
      ((repeat refine nx ?_); exact AtQ.finP (H' := []) ⟨e, t, by rw [hTk, h5]; try rfl, rfl, rfl⟩ dR_)
    obtain ⟨g3, h5, hb3, rfl⟩ := hp
    rw [h5, bnd_ok] at hTk
    simp only [List.cons_append, List.nil_append]
    clear h5
    repeat' (first|(refine gv ?_;first|refine RT.id ?_|(refine⟨fun hc=>?_,fun hc=>?_⟩<;>first|(exfalso;omega)|skip)|refine gk ?_|refine num_m fun r hr=>?_|intro r hr)|refine gs ?_|(refine gb ?_;intro b)|refine gn ?_|(refine RT.isPush ?_;refine gp ?_;intro a' c' b' c1' hac)|refine gc ?_|fail)
    exact AtQ.loop (k + 1, g3) ⟨rfl, rfl, rfl, rfl, rfl, rfl, rfl, trivial⟩ (fun w h => Sat.pu_in ⟨by omega, hb3, hTk⟩ (h.frd (Ps := [rdr br bm, giv bm g3, Cs mb 72 _]) (Qs := [_]) (by (repeat (first|exact Fr.nil|(apply Fr.cons;focus ((repeat constructor);done))))))) (by dsimp only; omega)
  rw [List.drop_of_length_le (by omega), msgsR] at hTk
  rw [bnd_ok] at hTk
  repeat' (first|(refine gv ?_;first|refine RT.id ?_|(refine⟨fun hc=>?_,fun hc=>?_⟩<;>first|(exfalso;omega)|skip)|refine gk ?_|refine num_m fun r hr=>?_|intro r hr)|refine gs ?_|(refine gb ?_;intro b)|refine gn ?_|(refine RT.isPush ?_;refine gp ?_;intro a' c' b' c1' hac)|refine gc ?_|fail)
  clear hkl
  obtain ⟨mcl, hmcl⟩ : ∃ mcl, mcl = [vS nm, Value.slice fa fl.length fc, Value.slice oa ol.length oc, Value.slice ma msgs.length mc, Value.slice ea el.length ec, Value.slice ra rl.length rc, Value.slice na nl.length nc] := ⟨_, rfl⟩
  rw [← hmcl]
  refine CT.loop (α := Nat × List Txt) (fun s => [(0, ptr br), (3, .int .i64 deep), (5, .pointer (some ⟨mb, 0, none⟩)), (8, vS full), (95, .slice ea el.length ec), (96, .int .i64 el.length), (97, .int .i64 s.1)])
    (fun s => Pu (s.1 ≤ el.length ∧ BL s.2 ∧ TT = enumsR full (el.drop s.1) s.2) :: rdr br bm :: giv bm s.2 :: Cs mb 72 mcl :: R) (fun s => el.length - s.1) (0, gk9)
    ⟨rfl, rfl, rfl, rfl, rfl, rfl, rfl, trivial⟩ (fun w h => Sat.pu_in ⟨Nat.zero_le _, hbk, hTk⟩ h) (fun ⟨k, gk9⟩ => CT.pu fun ⟨hkl, hbk, hTk⟩ => ?_)
  dsimp only at hkl hbk hTk ⊢
  subst hmcl
  repeat' (first|(refine gv ?_;first|refine RT.id ?_|(refine⟨fun hc=>?_,fun hc=>?_⟩<;>first|(exfalso;omega)|skip)|refine gk ?_|refine num_m fun r hr=>?_|intro r hr)|refine gs ?_|(refine gb ?_;intro b)|refine gn ?_|(refine RT.isPush ?_;refine gp ?_;intro a' c' b' c1' hac)|(refine CT.id_ ?_;first|refine nx ?_|refine CT.cond_t rfl ?_|refine CT.cond_f rfl ?_))
  first | (refine CT.region ?_) | (refine CT.quiet mixed (by kernel_rfl) ?_)
  repeat' (first|(refine gv ?_;first|refine RT.id ?_|(refine⟨fun hc=>?_,fun hc=>?_⟩<;>first|(exfalso;omega)|skip)|refine gk ?_|refine num_m fun r hr=>?_|intro r hr)|refine gs ?_|(refine gb ?_;intro b)|refine gn ?_|(refine RT.isPush ?_;refine gp ?_;intro a' c' b' c1' hac)|refine gc ?_|fail)
  · have hk' : k < el.length := by omega
    have hgk := List.getElem?_eq_getElem hk'
    revert hgk
    generalize el[k] = e2
    intro hgk
    rw [drop_eq hgk, enumsR] at hTk
    have hme2 := List.mem_of_getElem? hgk
    refine RT.ix T (j := k * 5) rfl rfl rfl (by repeat (first | exact (re) | apply Rd.cons)) (by omega) (by omega) (by omega) rfl rfl ?_
    refine RT.ldra T rfl (by repeat (first | exact (re) | apply Rd.cons)) (l := e2.cells) (flat_sub (f := EnumT.cells) (z := 5) (fun _ => rfl) el k _ hgk) rfl rfl rfl rfl ?_
    repeat' (first|(refine gv ?_;first|refine RT.id ?_|(refine⟨fun hc=>?_,fun hc=>?_⟩<;>first|(exfalso;omega)|skip)|refine gk ?_|refine num_m fun r hr=>?_|intro r hr)|refine gs ?_|(refine gb ?_;intro b)|refine gn ?_|(refine RT.isPush ?_;refine gp ?_;intro a' c' b' c1' hac)|refine gt ?_|refine gc ?_|fail)
    (refine RT.callP T rfl fR_ (enum_fn (e := e2) (sc := full) (g := gk9) (EnumT.In.mono (fun _ _ _ _ _ h => (by repeat (first | exact (h) | apply Rd.cons))) (re2 e2 hme2)) (oe e2 hme2) (hme e2 hme2) hbk hjb (by omega)) rfl rfl rfl (fun v H1 hp => ?_) (fun v H1 hp => ?_))
    · obtain ⟨e, t, h5, rfl, rfl⟩ := hp
      ((repeat refine nx ?_); exact AtQ.finP (H' := []) ⟨e, t, by rw [hTk, h5]; try rfl, rfl, rfl⟩ dR_)
    obtain ⟨g3, h5, hb3, rfl⟩ := hp
    rw [h5, bnd_ok] at hTk
    simp only [List.cons_append, List.nil_append]
    clear h5
    repeat' (first|(refine gv ?_;first|refine RT.id ?_|(refine⟨fun hc=>?_,fun hc=>?_⟩<;>first|(exfalso;omega)|skip)|refine gk ?_|refine num_m fun r hr=>?_|intro r hr)|refine gs ?_|(refine gb ?_;intro b)|refine gn ?_|(refine RT.isPush ?_;refine gp ?_;intro a' c' b' c1' hac)|refine gc ?_|fail)
    exact AtQ.loop (k + 1, g3) ⟨rfl, rfl, rfl, rfl, rfl, rfl, rfl, trivial⟩ (fun w h => Sat.pu_in ⟨by omega, hb3, hTk⟩ (h.frd (Ps := [rdr br bm, giv bm g3, Cs mb 72 _]) (Qs := [_]) (by (repeat (first|exact Fr.nil|(apply Fr.cons;focus ((repeat constructor);done))))))) (by dsimp only; omega)
  rw [List.drop_of_length_le (by omega), enumsR] at hTk
  exact AtQ.ofFinN (AtQ.fin0 Tryz.results92 (H' := [rdr br bm, giv bm gk9]) ⟨gk9, hTk, hbk, rfl⟩ (fun w h => h.frd (Ps := [rdr br bm, giv bm gk9]) (Qs := [_]) (by (repeat (first|exact Fr.nil|(apply Fr.cons;focus ((repeat constructor);done)))))) _ (.inl rfl))
end Go.Proofs.YtdemnhdoadjhhaaGreatDoor
end
section
namespace Go.Proofs.YtdemnhdoadjhhaaGreatDoor
open Go.Sk
set_option maxRecDepth 100000
theorem fullB_len {l : Txt} (h : fullB l = true) : l.length ≤ 255 := by
  by_cases hp : fullP l
  · exact hp.1
  · rw [fullB_f hp] at h
    cases h
attribute [local irreducible] Cs Own Ex Pu Yld RT LJ QJ AtQ CT Rd QSp Sp FinQ Then LoopQ CutQ DT TakeQ EffQ
variable {B : World} {R : List HP}
set_option maxHeartbeats 16000000 in
theorem file_fn {mM : Int} (hU : Lib.Utf8Tabs 1 2 B) (hM : B.cell? ⟨0, 0, none⟩ = some (.int .i64 mM)) {br bm : Nat} {f : FileT} (hin : f.In (Rd B R)) (hok : f.Ok) (hsm : FNs f) :
    SpP B Tryz.prog 36 [ptr br, .agg f.cells.toArray] R [rdr br bm, giv bm []] (PostR (fileR f) [rdr br bm] bm) (PPR (fileR f)) := by
  obtain ⟨path, pack, ⟨ia, ic, il⟩, ma, mc, msgs, ⟨ea, ec, el⟩⟩ := f
  obtain ⟨ri, rm, rm2, re, re2⟩ := hin
  obtain ⟨⟨pb, pl⟩, ⟨kb, _⟩, ⟨⟨li, _⟩, oi⟩, ⟨⟨lm, _⟩, om⟩, ⟨⟨le, _⟩, oe⟩⟩ := hok
  obtain ⟨nms, pk, enm⟩ := hsm
  dsimp only at ri rm rm2 re re2 pb pl kb li oi lm om le oe nms pk enm
  have hT : fileR ⟨path, pack, ⟨ia, ic, il⟩, ma, mc, msgs, ⟨ea, ec, el⟩⟩ = fileR ⟨path, pack, ⟨ia, ic, il⟩, ma, mc, msgs, ⟨ea, ec, el⟩⟩ := rfl
  conv at hT => rhs; unfold fileR
  dsimp only at hT
  generalize fileR ⟨path, pack, ⟨ia, ic, il⟩, ma, mc, msgs, ⟨ea, ec, el⟩⟩ = TT at *
  dsimp only [FileT.cells, Rw.v]
  refine SpP.body Tryz.func36 rfl Tryz.ntmps36 (by simp) ?_
  simp only [argE, List.cons_append, List.nil_append, Nat.zero_add, Nat.reduceAdd]
  repeat' (first|(refine gv ?_;first|refine RT.id ?_|(refine⟨fun hc=>?_,fun hc=>?_⟩<;>first|(exfalso;omega)|skip)|refine gk ?_|refine num_m fun r hr=>?_|intro r hr)|refine gs ?_|(refine gb ?_;intro b)|refine gn ?_|(refine RT.isPush ?_;refine gp ?_;intro a' c' b' c1' hac)|(refine CT.id_ ?_;first|refine nx ?_|refine CT.cond_t rfl ?_|refine CT.cond_f rfl ?_))
  first | (refine CT.region ?_) | (refine CT.quiet mixed (by kernel_rfl) ?_)
  repeat' (first|(refine gv ?_;first|refine RT.id ?_|(refine⟨fun hc=>?_,fun hc=>?_⟩<;>first|(exfalso;omega)|skip)|refine gk ?_|refine num_m fun r hr=>?_|intro r hr)|refine gs ?_|(refine gb ?_;intro b)|refine gn ?_|(refine RT.isPush ?_;refine gp ?_;intro a' c' b' c1' hac)|(refine CT.id_ ?_;first|refine nx ?_|refine CT.cond_t rfl ?_|refine CT.cond_f rfl ?_))
  revert b
  intro xb
  refine CT.tail 5 mixed (by kernel_rfl) ?_
  dsimp only [List.take_succ_cons, List.take_zero]
  repeat' (first|(refine gv ?_;first|refine RT.id ?_|(refine⟨fun hc=>?_,fun hc=>?_⟩<;>first|(exfalso;omega)|skip)|refine gk ?_|refine num_m fun r hr=>?_|intro r hr)|refine gs ?_|(refine gb ?_;intro b)|refine gn ?_|(refine RT.isPush ?_;refine gp ?_;intro a' c' b' c1' hac)|refine gc ?_|fail)
  (refine RT.qcall T rfl (QSp.of (by (repeat (first|exact Fr.nil|(apply Fr.cons;focus ((repeat constructor);done))))) (path_fn (s := path) pb pl)) rfl rfl rfl ?_)
  repeat' (first|(refine gv ?_;first|refine RT.id ?_|(refine⟨fun hc=>?_,fun hc=>?_⟩<;>first|(exfalso;omega)|skip)|refine gk ?_|refine num_m fun r hr=>?_|intro r hr)|refine gs ?_|(refine gb ?_;intro b)|refine gn ?_|(refine RT.isPush ?_;refine gp ?_;intro a' c' b' c1' hac)|refine gc ?_|fail)
  refine AtQ.tail ?_
  cases hpb : pathB path
  · (refine RT.callP T rfl fR_ (must_fn (p := false) (e := 60) (t := path)) rfl rfl rfl (fun v H1 hp => ?_) (fun v H1 hp => absurd hp.1 (by decide)); obtain ⟨_, rfl, rfl⟩ := hp; (repeat refine nx ?_); exact AtQ.finP (H' := []) ⟨60, path, by rw [hT]; exact must_f hpb, rfl, rfl⟩ dR_)
  rw [must_t hpb] at hT
  (refine RT.callP T rfl fR_ (must_fn (p := true) (e := 60) (t := path)) rfl rfl rfl (fun v H1 hp => absurd hp.1 (by decide)) (fun v H1 hp => ?_); obtain ⟨_, rfl⟩ := hp; try simp only [List.nil_append])
  repeat' (first|(refine gv ?_;first|refine RT.id ?_|(refine⟨fun hc=>?_,fun hc=>?_⟩<;>first|(exfalso;omega)|skip)|refine gk ?_|refine num_m fun r hr=>?_|intro r hr)|refine gs ?_|(refine gb ?_;intro b)|refine gn ?_|(refine RT.isPush ?_;refine gp ?_;intro a' c' b' c1' hac)|(refine CT.id_ ?_;first|refine nx ?_|refine CT.cond_t rfl ?_|refine CT.cond_f rfl ?_))
  have hcut : fullB pack = true ∨ pack = [] → pack.length ≤ 255 := fun h => h.elim fullB_len fun h => by rw [h]; decide
  refine CT.cut (α := Unit) (fun _ => [(0, ptr br), (3, .pointer (some ⟨xb, 0, none⟩))]) (fun _ => Pu ((decide (pack = []) || fullB pack) = true) :: Cs xb 26 [vS path, vS pack, .slice ia il.length ic, .slice ma msgs.length mc, .slice ea el.length ec] :: rdr br bm :: giv bm [] :: R) ?_ (fun _ => ?_)
  · refine CT.tail 10 mixed (by kernel_rfl) ?_
    dsimp only [List.take_succ_cons, List.take_zero]
    repeat' (first|(refine gv ?_;first|refine RT.id ?_|(refine⟨fun hc=>?_,fun hc=>?_⟩<;>first|(exfalso;omega)|skip)|refine gk ?_|refine num_m fun r hr=>?_|intro r hr)|refine gs ?_|(refine gb ?_;intro b)|refine gn ?_|(refine RT.isPush ?_;refine gp ?_;intro a' c' b' c1' hac)|refine gc ?_|fail)
    refine RT.eqs (l := pack) (l' := []) rfl rfl kb Byt.nil rfl rfl (fun he => ?_) (fun he => ?_)
    · repeat' (first|(refine gv ?_;first|refine RT.id ?_|(refine⟨fun hc=>?_,fun hc=>?_⟩<;>first|(exfalso;omega)|skip)|refine gk ?_|refine num_m fun r hr=>?_|intro r hr)|refine gs ?_|(refine gb ?_;intro b)|refine gn ?_|(refine RT.isPush ?_;refine gp ?_;intro a' c' b' c1' hac)|refine gc ?_|fail)
      refine AtQ.tail ?_
      (refine RT.callP T rfl fR_ (must_fn (p := true) (e := 60) (t := pack)) rfl rfl rfl (fun v H1 hp => absurd hp.1 (by decide)) (fun v H1 hp => ?_); obtain ⟨_, rfl⟩ := hp; try simp only [List.nil_append])
      repeat' (first|(refine gv ?_;first|refine RT.id ?_|(refine⟨fun hc=>?_,fun hc=>?_⟩<;>first|(exfalso;omega)|skip)|refine gk ?_|refine num_m fun r hr=>?_|intro r hr)|refine gs ?_|(refine gb ?_;intro b)|refine gn ?_|(refine RT.isPush ?_;refine gp ?_;intro a' c' b' c1' hac)|refine gc ?_|fail)
      exact AtQ.cut () ⟨rfl, rfl, trivial⟩ (fun w h => Sat.pu_in (by rw [decide_eq_true he]; rfl) h)
    · repeat' (first|(refine gv ?_;first|refine RT.id ?_|(refine⟨fun hc=>?_,fun hc=>?_⟩<;>first|(exfalso;omega)|skip)|refine gk ?_|refine num_m fun r hr=>?_|intro r hr)|refine gs ?_|(refine gb ?_;intro b)|refine gn ?_|(refine RT.isPush ?_;refine gp ?_;intro a' c' b' c1' hac)|refine gc ?_|fail)
      (refine RT.qcall T rfl (QSp.of (by (repeat (first|exact Fr.nil|(apply Fr.cons;focus ((repeat constructor);done))))) (full_fn (l := pack) hM kb (by omega))) rfl rfl rfl ?_)
      repeat' (first|(refine gv ?_;first|refine RT.id ?_|(refine⟨fun hc=>?_,fun hc=>?_⟩<;>first|(exfalso;omega)|skip)|refine gk ?_|refine num_m fun r hr=>?_|intro r hr)|refine gs ?_|(refine gb ?_;intro b)|refine gn ?_|(refine RT.isPush ?_;refine gp ?_;intro a' c' b' c1' hac)|refine gc ?_|fail)
      refine AtQ.tail ?_
      cases hfk : fullB pack
      · (refine RT.callP T rfl fR_ (must_fn (p := false) (e := 60) (t := pack)) rfl rfl rfl (fun v H1 hp => ?_) (fun v H1 hp => absurd hp.1 (by decide)); obtain ⟨_, rfl, rfl⟩ := hp; (repeat refine nx ?_); exact AtQ.finP (H' := []) ⟨60, pack, by rw [hT]; exact must_f (by rw [hfk, decide_eq_false he]; rfl), rfl, rfl⟩ dR_)
      · (refine RT.callP T rfl fR_ (must_fn (p := true) (e := 60) (t := pack)) rfl rfl rfl (fun v H1 hp => absurd hp.1 (by decide)) (fun v H1 hp => ?_); obtain ⟨_, rfl⟩ := hp; try simp only [List.nil_append])
        repeat' (first|(refine gv ?_;first|refine RT.id ?_|(refine⟨fun hc=>?_,fun hc=>?_⟩<;>first|(exfalso;omega)|skip)|refine gk ?_|refine num_m fun r hr=>?_|intro r hr)|refine gs ?_|(refine gb ?_;intro b)|refine gn ?_|(refine RT.isPush ?_;refine gp ?_;intro a' c' b' c1' hac)|refine gc ?_|fail)
        exact AtQ.cut () ⟨rfl, rfl, trivial⟩ (fun w h => Sat.pu_in (by simp) h)
  refine A0 ?_
  refine CT.pu fun hpk => ?_
  rw [must_t hpk] at hT
  have hkl : pack.length ≤ 255 := hcut (by rw [Bool.or_eq_true, decide_eq_true_eq] at hpk; exact hpk.symm)
  clear hcut hpk
  repeat' (first|(refine gv ?_;first|refine RT.id ?_|(refine⟨fun hc=>?_,fun hc=>?_⟩<;>first|(exfalso;omega)|skip)|refine gk ?_|refine num_m fun r hr=>?_|intro r hr)|refine gs ?_|(refine gb ?_;intro b)|refine gn ?_|(refine RT.isPush ?_;refine gp ?_;intro a' c' b' c1' hac)|refine gc ?_|fail)
  rotate_left
  · (refine RT.callP T rfl fR_ (must_fn (p := false) (e := 68) (t := path)) rfl rfl rfl (fun v H1 hp => ?_) (fun v H1 hp => absurd hp.1 (by decide)); obtain ⟨_, rfl, rfl⟩ := hp; (repeat refine nx ?_); exact AtQ.finP (H' := []) ⟨68, path, by rw [hT]; exact must_f (decide_eq_false (by omega)), rfl, rfl⟩ dR_)
  rw [must_t (decide_eq_true (by omega))] at hT
  (refine RT.callP T rfl fR_ (must_fn (p := true) (e := 68) (t := path)) rfl rfl rfl (fun v H1 hp => absurd hp.1 (by decide)) (fun v H1 hp => ?_); obtain ⟨_, rfl⟩ := hp; try simp only [List.nil_append])
  repeat' (first|(refine gv ?_;first|refine RT.id ?_|(refine⟨fun hc=>?_,fun hc=>?_⟩<;>first|(exfalso;omega)|skip)|refine gk ?_|refine num_m fun r hr=>?_|intro r hr)|refine gs ?_|(refine gb ?_;intro b)|refine gn ?_|(refine RT.isPush ?_;refine gp ?_;intro a' c' b' c1' hac)|refine gc ?_|fail)
  refine RT.mkmap .string rfl rfl (fun sb => ?_)
  repeat' (first|(refine gv ?_;first|refine RT.id ?_|(refine⟨fun hc=>?_,fun hc=>?_⟩<;>first|(exfalso;omega)|skip)|refine gk ?_|refine num_m fun r hr=>?_|intro r hr)|refine gs ?_|(refine gb ?_;intro b)|refine gn ?_|(refine RT.isPush ?_;refine gp ?_;intro a' c' b' c1' hac)|refine gc ?_|fail)
  generalize hK : (bnd (msgsR msgs pack 0 []) fun g => enumsR pack el g) = K at hT
  refine CT.loop (α := Nat) (fun k => [(0, ptr br), (3, .pointer (some ⟨xb, 0, none⟩)), (4, .map (some sb)), (37, .slice ia il.length ic), (38, .int .i64 il.length), (39, .int .i64 k)])
    (fun k => Pu (k ≤ il.length ∧ TT = opt (impsF ((il.take k).map ImpT.path) (il.drop k)) K) :: giv sb ((il.take k).map ImpT.path) :: Cs xb 26 [vS path, vS pack, Value.slice ia il.length ic, Value.slice ma msgs.length mc, Value.slice ea el.length ec] :: rdr br bm :: giv bm [] :: R) (fun k => il.length - k) 0
    ⟨rfl, rfl, rfl, rfl, rfl, rfl, trivial⟩ (fun w h => Sat.pu_in ⟨Nat.zero_le _, hT⟩ h) (fun k => CT.pu fun ⟨hkl3, hTk⟩ => ?_)
  clear hT
  repeat' (first|(refine gv ?_;first|refine RT.id ?_|(refine⟨fun hc=>?_,fun hc=>?_⟩<;>first|(exfalso;omega)|skip)|refine gk ?_|refine num_m fun r hr=>?_|intro r hr)|refine gs ?_|(refine gb ?_;intro b)|refine gn ?_|(refine RT.isPush ?_;refine gp ?_;intro a' c' b' c1' hac)|(refine CT.id_ ?_;first|refine nx ?_|refine CT.cond_t rfl ?_|refine CT.cond_f rfl ?_))
  first | (refine CT.region ?_) | (refine CT.quiet mixed (by kernel_rfl) ?_)
  repeat' (first|(refine gv ?_;first|refine RT.id ?_|(refine⟨fun hc=>?_,fun hc=>?_⟩<;>first|(exfalso;omega)|skip)|refine gk ?_|refine num_m fun r hr=>?_|intro r hr)|refine gs ?_|(refine gb ?_;intro b)|refine gn ?_|(refine RT.isPush ?_;refine gp ?_;intro a' c' b' c1' hac)|(refine CT.id_ ?_;first|refine nx ?_|refine CT.cond_t rfl ?_|refine CT.cond_f rfl ?_))
  · have hk' : k < il.length := by omega
    have hgk := List.getElem?_eq_getElem hk'
    revert hgk
    generalize il[k] = im
    intro hgk
    rw [drop_eq hgk, impsF] at hTk
    have hib := oi im (List.mem_of_getElem? hgk)
    have htk : (il.take (k + 1)).map ImpT.path = (il.take k).map ImpT.path ++ [im.path] := by rw [← take_eq hgk, List.map_append]; rfl
    have hpbl : BL ((il.take k).map ImpT.path) := fun t ht => by
      obtain ⟨i, hi, rfl⟩ := List.mem_map.1 ht
      exact (oi i (List.mem_of_mem_take hi)).1
    rw [← htk] at hTk
    generalize (il.take k).map ImpT.path = ah at *
    repeat' (first|(refine gv ?_;first|refine RT.id ?_|(refine⟨fun hc=>?_,fun hc=>?_⟩<;>first|(exfalso;omega)|skip)|refine gk ?_|refine num_m fun r hr=>?_|intro r hr)|refine gs ?_|(refine gb ?_;intro b)|refine gn ?_|(refine RT.isPush ?_;refine gp ?_;intro a' c' b' c1' hac)|(refine CT.id_ ?_;first|refine nx ?_|refine CT.cond_t rfl ?_|refine CT.cond_f rfl ?_))
    first | (refine CT.region ?_) | (refine CT.quiet mixed (by kernel_rfl) ?_)
    repeat' (first|(refine gv ?_;first|refine RT.id ?_|(refine⟨fun hc=>?_,fun hc=>?_⟩<;>first|(exfalso;omega)|skip)|refine gk ?_|refine num_m fun r hr=>?_|intro r hr)|refine gs ?_|(refine gb ?_;intro b)|refine gn ?_|(refine RT.isPush ?_;refine gp ?_;intro a' c' b' c1' hac)|(refine CT.id_ ?_;first|refine nx ?_|refine CT.cond_t rfl ?_|refine CT.cond_f rfl ?_))
    refine RT.ix T (j := k * 2) rfl rfl rfl (by repeat (first | exact (ri) | apply Rd.cons)) (by omega) (by omega) (by omega) rfl rfl ?_
    refine RT.ldra T rfl (by repeat (first | exact (ri) | apply Rd.cons)) (l := im.cells) (flat_sub (f := ImpT.cells) (z := 2) (fun _ => rfl) il k _ hgk) rfl rfl rfl rfl ?_
    repeat' (first|(refine gv ?_;first|refine RT.id ?_|(refine⟨fun hc=>?_,fun hc=>?_⟩<;>first|(exfalso;omega)|skip)|refine gk ?_|refine num_m fun r hr=>?_|intro r hr)|refine gs ?_|(refine gb ?_;intro b)|refine gn ?_|(refine RT.isPush ?_;refine gp ?_;intro a' c' b' c1' hac)|(refine CT.id_ ?_;first|refine nx ?_|refine CT.cond_t rfl ?_|refine CT.cond_f rfl ?_))
    (apply RT.staggW T;exact rfl;exact rfl;exact rfl;(focus ((repeat constructor);done));iterate 4 exact rfl)
    repeat' (first|(refine gv ?_;first|refine RT.id ?_|(refine⟨fun hc=>?_,fun hc=>?_⟩<;>first|(exfalso;omega)|skip)|refine gk ?_|refine num_m fun r hr=>?_|intro r hr)|refine gs ?_|(refine gb ?_;intro b)|refine gn ?_|(refine RT.isPush ?_;refine gp ?_;intro a' c' b' c1' hac)|(refine CT.id_ ?_;first|refine nx ?_|refine CT.cond_t rfl ?_|refine CT.cond_f rfl ?_))
    refine CT.tail 5 mixed (by kernel_rfl) ?_
    dsimp only [List.take_succ_cons, List.take_zero]
    repeat' (first|(refine gv ?_;first|refine RT.id ?_|(refine⟨fun hc=>?_,fun hc=>?_⟩<;>first|(exfalso;omega)|skip)|refine gk ?_|refine num_m fun r hr=>?_|intro r hr)|refine gs ?_|(refine gb ?_;intro b)|refine gn ?_|(refine RT.isPush ?_;refine gp ?_;intro a' c' b' c1' hac)|refine gc ?_|fail)
    (refine RT.qcall T rfl (QSp.of (by (repeat (first|exact Fr.nil|(apply Fr.cons;focus ((repeat constructor);done))))) (path_fn (s := im.path) hib.1 hib.2)) rfl rfl rfl ?_)
    repeat' (first|(refine gv ?_;first|refine RT.id ?_|(refine⟨fun hc=>?_,fun hc=>?_⟩<;>first|(exfalso;omega)|skip)|refine gk ?_|refine num_m fun r hr=>?_|intro r hr)|refine gs ?_|(refine gb ?_;intro b)|refine gn ?_|(refine RT.isPush ?_;refine gp ?_;intro a' c' b' c1' hac)|refine gc ?_|fail)
    refine AtQ.tail ?_
    cases hpi : pathB im.path
    · (refine RT.callP T rfl fR_ (must_fn (p := false) (e := 60) (t := im.path)) rfl rfl rfl (fun v H1 hp => ?_) (fun v H1 hp => absurd hp.1 (by decide)); obtain ⟨_, rfl, rfl⟩ := hp; (repeat refine nx ?_); exact AtQ.finP (H' := []) ⟨60, im.path, by rw [hTk, hpi, if_neg (by decide)]; rfl, rfl, rfl⟩ dR_)
    rw [hpi, if_pos rfl] at hTk
    (refine RT.callP T rfl fR_ (must_fn (p := true) (e := 60) (t := im.path)) rfl rfl rfl (fun v H1 hp => absurd hp.1 (by decide)) (fun v H1 hp => ?_); obtain ⟨_, rfl⟩ := hp; try simp only [List.nil_append])
    repeat' (first|(refine gv ?_;first|refine RT.id ?_|(refine⟨fun hc=>?_,fun hc=>?_⟩<;>first|(exfalso;omega)|skip)|refine gk ?_|refine num_m fun r hr=>?_|intro r hr)|refine gs ?_|(refine gb ?_;intro b)|refine gn ?_|(refine RT.isPush ?_;refine gp ?_;intro a' c' b' c1' hac)|refine gc ?_|fail)
    by_cases hm : im.path ∈ ah
    · rw [if_pos hm] at hTk
      obtain ⟨i, hgi⟩ := gv_in hm
      refine RT.lookup (dk := .string) (r := some (.int .i64 1)) T rfl rfl (by ((repeat constructor);done)) trivial ⟨i, hgi⟩ Tryz.underlying102 Tryz.underlying9 rfl rfl rfl ?_
      dsimp only [Option.getD]
      repeat' (first|(refine gv ?_;first|refine RT.id ?_|(refine⟨fun hc=>?_,fun hc=>?_⟩<;>first|(exfalso;omega)|skip)|refine gk ?_|refine num_m fun r hr=>?_|intro r hr)|refine gs ?_|(refine gb ?_;intro b)|refine gn ?_|(refine RT.isPush ?_;refine gp ?_;intro a' c' b' c1' hac)|refine gc ?_|fail)
      refine RT.mapSet (dk := .string) (l := gvl ah) rfl rfl rfl (by ((repeat constructor);done)) trivial hgi Tryz.underlying102 Tryz.underlying9 rfl ?_
      repeat' (first|(refine gv ?_;first|refine RT.id ?_|(refine⟨fun hc=>?_,fun hc=>?_⟩<;>first|(exfalso;omega)|skip)|refine gk ?_|refine num_m fun r hr=>?_|intro r hr)|refine gs ?_|(refine gb ?_;intro b)|refine gn ?_|(refine RT.isPush ?_;refine gp ?_;intro a' c' b' c1' hac)|refine gc ?_|fail)
      refine RT.lookup (dk := .string) (r := some (.int .i64 2)) T rfl rfl (by ((repeat constructor);done)) trivial ⟨i, by rw [List.getElem?_set_self (List.getElem?_eq_some_iff.1 hgi).1]; rfl⟩ Tryz.underlying102 Tryz.underlying9 rfl rfl rfl ?_
      dsimp only [Option.getD]
      repeat' (first|(refine gv ?_;first|refine RT.id ?_|(refine⟨fun hc=>?_,fun hc=>?_⟩<;>first|(exfalso;omega)|skip)|refine gk ?_|refine num_m fun r hr=>?_|intro r hr)|refine gs ?_|(refine gb ?_;intro b)|refine gn ?_|(refine RT.isPush ?_;refine gp ?_;intro a' c' b' c1' hac)|refine gc ?_|fail)
      (refine RT.callP T rfl fR_ (must_fn (p := false) (e := 61) (t := im.path)) rfl rfl rfl (fun v H1 hp => ?_) (fun v H1 hp => absurd hp.1 (by decide)); obtain ⟨_, rfl, rfl⟩ := hp; (repeat refine nx ?_); exact AtQ.finP (H' := []) ⟨61, im.path, by rw [hTk]; rfl, rfl, rfl⟩ dR_)
    · rw [if_neg hm] at hTk
      refine RT.lookup (dk := .string) (r := none) T rfl rfl (by ((repeat constructor);done)) trivial (gv_no hpbl hib.1 hm) Tryz.underlying102 Tryz.underlying9 rfl rfl rfl ?_
      dsimp only [Option.getD]
      repeat' (first|(refine gv ?_;first|refine RT.id ?_|(refine⟨fun hc=>?_,fun hc=>?_⟩<;>first|(exfalso;omega)|skip)|refine gk ?_|refine num_m fun r hr=>?_|intro r hr)|refine gs ?_|(refine gb ?_;intro b)|refine gn ?_|(refine RT.isPush ?_;refine gp ?_;intro a' c' b' c1' hac)|refine gc ?_|fail)
      refine RT.mapNew (dk := .string) (l := gvl ah) rfl rfl rfl (by ((repeat constructor);done)) trivial (gv_no hpbl hib.1 hm) Tryz.underlying102 Tryz.underlying9 rfl ?_
      rw [show (0 : Int) + 1 = 1 from rfl, gv_push, ← htk]
      obtain ⟨i, hgi⟩ := gv_in (g := (il.take (k + 1)).map ImpT.path) (x := im.path) (by rw [htk]; simp)
      repeat' (first|(refine gv ?_;first|refine RT.id ?_|(refine⟨fun hc=>?_,fun hc=>?_⟩<;>first|(exfalso;omega)|skip)|refine gk ?_|refine num_m fun r hr=>?_|intro r hr)|refine gs ?_|(refine gb ?_;intro b)|refine gn ?_|(refine RT.isPush ?_;refine gp ?_;intro a' c' b' c1' hac)|refine gc ?_|fail)
      refine RT.lookup (dk := .string) (r := some (.int .i64 1)) T rfl rfl (by ((repeat constructor);done)) trivial ⟨i, hgi⟩ Tryz.underlying102 Tryz.underlying9 rfl rfl rfl ?_
      dsimp only [Option.getD]
      repeat' (first|(refine gv ?_;first|refine RT.id ?_|(refine⟨fun hc=>?_,fun hc=>?_⟩<;>first|(exfalso;omega)|skip)|refine gk ?_|refine num_m fun r hr=>?_|intro r hr)|refine gs ?_|(refine gb ?_;intro b)|refine gn ?_|(refine RT.isPush ?_;refine gp ?_;intro a' c' b' c1' hac)|refine gc ?_|fail)
      (refine RT.callP T rfl fR_ (must_fn (p := true) (e := 61) (t := im.path)) rfl rfl rfl (fun v H1 hp => absurd hp.1 (by decide)) (fun v H1 hp => ?_); obtain ⟨_, rfl⟩ := hp; try simp only [List.nil_append])
      repeat' (first|(refine gv ?_;first|refine RT.id ?_|(refine⟨fun hc=>?_,fun hc=>?_⟩<;>first|(exfalso;omega)|skip)|refine gk ?_|refine num_m fun r hr=>?_|intro r hr)|refine gs ?_|(refine gb ?_;intro b)|refine gn ?_|(refine RT.isPush ?_;refine gp ?_;intro a' c' b' c1' hac)|refine gc ?_|fail)
      exact AtQ.loop (k + 1) ⟨rfl, rfl, rfl, rfl, rfl, rfl, trivial⟩ (fun w h => Sat.pu_in ⟨by omega, hTk⟩ (h.frd (Ps := [giv sb ((il.take (k + 1)).map ImpT.path), Cs xb 26 _, rdr br bm, giv bm []]) (Qs := [_]) (by (repeat (first|exact Fr.nil|(apply Fr.cons;focus ((repeat constructor);done))))))) (by omega)
  rw [List.drop_of_length_le (by omega), impsF, opt_none] at hTk
  subst hK
  repeat' (first|(refine gv ?_;first|refine RT.id ?_|(refine⟨fun hc=>?_,fun hc=>?_⟩<;>first|(exfalso;omega)|skip)|refine gk ?_|refine num_m fun r hr=>?_|intro r hr)|refine gs ?_|(refine gb ?_;intro b)|refine gn ?_|(refine RT.isPush ?_;refine gp ?_;intro a' c' b' c1' hac)|refine gc ?_|fail)
  refine CT.loop (α := Nat × List Txt) (fun s => [(0, ptr br), (3, .pointer (some ⟨xb, 0, none⟩)), (64, .slice ma msgs.length mc), (65, .int .i64 msgs.length), (66, .int .i64 s.1)])
    (fun s => Pu (s.1 ≤ msgs.length ∧ BL s.2 ∧ TT = bnd (msgsR (msgs.drop s.1) pack 0 s.2) fun g => enumsR pack el g) :: rdr br bm :: giv bm s.2 :: Cs xb 26 [vS path, vS pack, Value.slice ia il.length ic, Value.slice ma msgs.length mc, Value.slice ea el.length ec] :: R) (fun s => msgs.length - s.1) (0, [])
    ⟨rfl, rfl, rfl, rfl, rfl, trivial⟩ (fun w h => Sat.pu_in ⟨Nat.zero_le _, (fun y hy => by cases hy), hTk⟩ (h.frd (Ps := [rdr br bm, giv bm [], Cs xb 26 _]) (Qs := [_]) (by (repeat (first|exact Fr.nil|(apply Fr.cons;focus ((repeat constructor);done))))))) (fun ⟨k, gk9⟩ => CT.pu fun ⟨hkl2, hbk, hTk⟩ => ?_)
  dsimp only at hkl2 hbk hTk ⊢
  repeat' (first|(refine gv ?_;first|refine RT.id ?_|(refine⟨fun hc=>?_,fun hc=>?_⟩<;>first|(exfalso;omega)|skip)|refine gk ?_|refine num_m fun r hr=>?_|intro r hr)|refine gs ?_|(refine gb ?_;intro b)|refine gn ?_|(refine RT.isPush ?_;refine gp ?_;intro a' c' b' c1' hac)|(refine CT.id_ ?_;first|refine nx ?_|refine CT.cond_t rfl ?_|refine CT.cond_f rfl ?_))
  first | (refine CT.region ?_) | (refine CT.quiet mixed (by kernel_rfl) ?_)
  repeat' (first|(refine gv ?_;first|refine RT.id ?_|(refine⟨fun hc=>?_,fun hc=>?_⟩<;>first|(exfalso;omega)|skip)|refine gk ?_|refine num_m fun r hr=>?_|intro r hr)|refine gs ?_|(refine gb ?_;intro b)|refine gn ?_|(refine RT.isPush ?_;refine gp ?_;intro a' c' b' c1' hac)|refine gc ?_|fail)
  · have hk' : k < msgs.length := by omega
    have hgk := List.getElem?_eq_getElem hk'
    revert hgk
    generalize msgs[k] = m2
    intro hgk
    rw [drop_eq hgk, msgsR] at hTk
    have hme2 := List.mem_of_getElem? hgk
    refine RT.ix T (j := k * 7) rfl rfl rfl (by repeat (first | exact (rm) | apply Rd.cons)) (by omega) (by omega) (by omega) rfl rfl ?_
    refine RT.ldra T rfl (by repeat (first | exact (rm) | apply Rd.cons)) (l := m2.cells) (flat_sub (f := MsgT.cells) (z := 7) (fun _ => rfl) msgs k _ hgk) rfl rfl rfl rfl ?_
    repeat' (first|(refine gv ?_;first|refine RT.id ?_|(refine⟨fun hc=>?_,fun hc=>?_⟩<;>first|(exfalso;omega)|skip)|refine gk ?_|refine num_m fun r hr=>?_|intro r hr)|refine gs ?_|(refine gb ?_;intro b)|refine gn ?_|(refine RT.isPush ?_;refine gp ?_;intro a' c' b' c1' hac)|refine gt ?_|refine gc ?_|fail)
    (refine RT.callP T rfl fR_ (@message_fn _ _ hU hM br bm m2.deep _ m2 pack 0 gk9 (Nat.le_refl _) (MsgT.In.mono (fun _ _ _ _ _ h => (by repeat (first | exact (h) | apply Rd.cons))) (rm2 m2 hme2)) (om m2 hme2) (MsgT.nmL_mem nms hme2) hbk kb (by omega) (by omega)) rfl rfl rfl (fun v H1 hp => ?_) (fun v H1 hp => ?_))
    · obtain ⟨e, t, h5, rfl, rfl⟩ := hp
      ((repeat refine nx ?_); exact AtQ.finP (H' := []) ⟨e, t, by rw [hTk, h5]; try rfl, rfl, rfl⟩ dR_)
    obtain ⟨g3, h5, hb3, rfl⟩ := hp
    rw [h5, bnd_ok] at hTk
    simp only [List.cons_append, List.nil_append]
    clear h5
    repeat' (first|(refine gv ?_;first|refine RT.id ?_|(refine⟨fun hc=>?_,fun hc=>?_⟩<;>first|(exfalso;omega)|skip)|refine gk ?_|refine num_m fun r hr=>?_|intro r hr)|refine gs ?_|(refine gb ?_;intro b)|refine gn ?_|(refine RT.isPush ?_;refine gp ?_;intro a' c' b' c1' hac)|refine gc ?_|fail)
    exact AtQ.loop (k + 1, g3) ⟨rfl, rfl, rfl, rfl, rfl, trivial⟩ (fun w h => Sat.pu_in ⟨by omega, hb3, hTk⟩ (h.frd (Ps := [rdr br bm, giv bm g3, Cs xb 26 _]) (Qs := [_]) (by (repeat (first|exact Fr.nil|(apply Fr.cons;focus ((repeat constructor);done))))))) (by dsimp only; omega)
  rw [List.drop_of_length_le (by omega), msgsR] at hTk
  rw [bnd_ok] at hTk
  repeat' (first|(refine gv ?_;first|refine RT.id ?_|(refine⟨fun hc=>?_,fun hc=>?_⟩<;>first|(exfalso;omega)|skip)|refine gk ?_|refine num_m fun r hr=>?_|intro r hr)|refine gs ?_|(refine gb ?_;intro b)|refine gn ?_|(refine RT.isPush ?_;refine gp ?_;intro a' c' b' c1' hac)|refine gc ?_|fail)
  refine CT.loop (α := Nat × List Txt) (fun s => [(0, ptr br), (3, .pointer (some ⟨xb, 0, none⟩)), (77, .slice ea el.length ec), (78, .int .i64 el.length), (79, .int .i64 s.1)])
    (fun s => Pu (s.1 ≤ el.length ∧ BL s.2 ∧ TT = enumsR pack (el.drop s.1) s.2) :: rdr br bm :: giv bm s.2 :: Cs xb 26 [vS path, vS pack, Value.slice ia il.length ic, Value.slice ma msgs.length mc, Value.slice ea el.length ec] :: R) (fun s => el.length - s.1) (0, gk9)
    ⟨rfl, rfl, rfl, rfl, rfl, trivial⟩ (fun w h => Sat.pu_in ⟨Nat.zero_le _, hbk, hTk⟩ (h.frd (Ps := [rdr br bm, giv bm gk9, Cs xb 26 _]) (Qs := []) (by (repeat (first|exact Fr.nil|(apply Fr.cons;focus ((repeat constructor);done))))))) (fun ⟨k, gk9⟩ => CT.pu fun ⟨hkl2, hbk, hTk⟩ => ?_)
  dsimp only at hkl2 hbk hTk ⊢
  repeat' (first|(refine gv ?_;first|refine RT.id ?_|(refine⟨fun hc=>?_,fun hc=>?_⟩<;>first|(exfalso;omega)|skip)|refine gk ?_|refine num_m fun r hr=>?_|intro r hr)|refine gs ?_|(refine gb ?_;intro b)|refine gn ?_|(refine RT.isPush ?_;refine gp ?_;intro a' c' b' c1' hac)|(refine CT.id_ ?_;first|refine nx ?_|refine CT.cond_t rfl ?_|refine CT.cond_f rfl ?_))
  first | (refine CT.region ?_) | (refine CT.quiet mixed (by kernel_rfl) ?_)
  repeat' (first|(refine gv ?_;first|refine RT.id ?_|(refine⟨fun hc=>?_,fun hc=>?_⟩<;>first|(exfalso;omega)|skip)|refine gk ?_|refine num_m fun r hr=>?_|intro r hr)|refine gs ?_|(refine gb ?_;intro b)|refine gn ?_|(refine RT.isPush ?_;refine gp ?_;intro a' c' b' c1' hac)|refine gc ?_|fail)
  · have hk' : k < el.length := by omega
    have hgk := List.getElem?_eq_getElem hk'
    revert hgk
    generalize el[k] = e2
    intro hgk
    rw [drop_eq hgk, enumsR] at hTk
    have hme2 := List.mem_of_getElem? hgk
    refine RT.ix T (j := k * 5) rfl rfl rfl (by repeat (first | exact (re) | apply Rd.cons)) (by omega) (by omega) (by omega) rfl rfl ?_
    refine RT.ldra T rfl (by repeat (first | exact (re) | apply Rd.cons)) (l := e2.cells) (flat_sub (f := EnumT.cells) (z := 5) (fun _ => rfl) el k _ hgk) rfl rfl rfl rfl ?_
    repeat' (first|(refine gv ?_;first|refine RT.id ?_|(refine⟨fun hc=>?_,fun hc=>?_⟩<;>first|(exfalso;omega)|skip)|refine gk ?_|refine num_m fun r hr=>?_|intro r hr)|refine gs ?_|(refine gb ?_;intro b)|refine gn ?_|(refine RT.isPush ?_;refine gp ?_;intro a' c' b' c1' hac)|refine gt ?_|refine gc ?_|fail)
    (refine RT.callP T rfl fR_ (enum_fn (e := e2) (sc := pack) (g := gk9) (EnumT.In.mono (fun _ _ _ _ _ h => (by repeat (first | exact (h) | apply Rd.cons))) (re2 e2 hme2)) (oe e2 hme2) (enm e2 hme2) hbk kb (by omega)) rfl rfl rfl (fun v H1 hp => ?_) (fun v H1 hp => ?_))
    · obtain ⟨e, t, h5, rfl, rfl⟩ := hp
      ((repeat refine nx ?_); exact AtQ.finP (H' := []) ⟨e, t, by rw [hTk, h5]; try rfl, rfl, rfl⟩ dR_)
    obtain ⟨g3, h5, hb3, rfl⟩ := hp
    rw [h5, bnd_ok] at hTk
    simp only [List.cons_append, List.nil_append]
    clear h5
    repeat' (first|(refine gv ?_;first|refine RT.id ?_|(refine⟨fun hc=>?_,fun hc=>?_⟩<;>first|(exfalso;omega)|skip)|refine gk ?_|refine num_m fun r hr=>?_|intro r hr)|refine gs ?_|(refine gb ?_;intro b)|refine gn ?_|(refine RT.isPush ?_;refine gp ?_;intro a' c' b' c1' hac)|refine gc ?_|fail)
    exact AtQ.loop (k + 1, g3) ⟨rfl, rfl, rfl, rfl, rfl, trivial⟩ (fun w h => Sat.pu_in ⟨by omega, hb3, hTk⟩ (h.frd (Ps := [rdr br bm, giv bm g3, Cs xb 26 _]) (Qs := [_]) (by (repeat (first|exact Fr.nil|(apply Fr.cons;focus ((repeat constructor);done))))))) (by dsimp only; omega)
  rw [List.drop_of_length_le (by omega), enumsR] at hTk
  exact AtQ.ofFinN (AtQ.fin0 Tryz.results36 (H' := [rdr br bm, giv bm gk9]) ⟨gk9, hTk, hbk, rfl⟩ (fun w h => h.frd (Ps := [rdr br bm, giv bm gk9]) (Qs := [_]) (by (repeat (first|exact Fr.nil|(apply Fr.cons;focus ((repeat constructor);done)))))) _ (.inl rfl))
end Go.Proofs.YtdemnhdoadjhhaaGreatDoor
end
section
namespace Go.Proofs.YtdemnhdoadjhhaaGreatDoor
open Go.Sk
set_option maxRecDepth 100000
attribute [local irreducible] Cs Own Ex Pu Yld RT LJ QJ AtQ CT Rd QSp Sp FinQ Then LoopQ CutQ DT TakeQ EffQ
attribute [local irreducible] FinD SpD RecQ
variable {B : World} {R : List HP}
theorem chk1_ret {cb : Nat} {l : List Value} : SpD B Tryz.prog 35 [ptr cb] .returning .returning R [Cs cb 33 l] [Cs cb 33 l] := by
  refine SpD.body Tryz.func35 rfl Tryz.results35 Tryz.ntmps35 (by simp) (by decide) (.inl ⟨rfl, rfl, rfl⟩) ?_
  simp only [argE, List.cons_append, List.nil_append, Nat.zero_add, Nat.reduceAdd]
  repeat' (first|(refine gv ?_;first|refine RT.id ?_|(refine⟨fun hc=>?_,fun hc=>?_⟩<;>first|(exfalso;omega)|skip)|refine gk ?_|refine num_m fun r hr=>?_|intro r hr)|refine gs ?_|(refine gb ?_;intro b)|refine gn ?_|(refine RT.isPush ?_;refine gp ?_;intro a' c' b' c1' hac)|refine gc ?_|fail)
  refine RT.inil rfl ⟨_, Tryz.underlying20⟩ (.inl ⟨rfl, rfl⟩) rfl rfl ?_
  repeat' (first|(refine gv ?_;first|refine RT.id ?_|(refine⟨fun hc=>?_,fun hc=>?_⟩<;>first|(exfalso;omega)|skip)|refine gk ?_|refine num_m fun r hr=>?_|intro r hr)|refine gs ?_|(refine gb ?_;intro b)|refine gn ?_|(refine RT.isPush ?_;refine gp ?_;intro a' c' b' c1' hac)|refine gc ?_|fail)
  exact AtQ.rec_ (.inl rfl) (fun w h => h)
theorem chk1_pan {cb : Nat} {e : Int} {t : Txt} : SpD B Tryz.prog 35 [ptr cb] (.panicking (pan (wv e t))) (.panicking [{ v := wv e t, recovered := true }]) R [Cs cb 33 [.int .i64 0, .string ByteArray.empty]] [Cs cb 33 [.int .i64 e, vS t]] := by
  refine SpD.body Tryz.func35 rfl Tryz.results35 Tryz.ntmps35 (by simp) (by decide) (.inr ⟨_, rfl, rfl, rfl⟩) ?_
  simp only [argE, List.cons_append, List.nil_append, Nat.zero_add, Nat.reduceAdd]
  repeat' (first|(refine gv ?_;first|refine RT.id ?_|(refine⟨fun hc=>?_,fun hc=>?_⟩<;>first|(exfalso;omega)|skip)|refine gk ?_|refine num_m fun r hr=>?_|intro r hr)|refine gs ?_|(refine gb ?_;intro b)|refine gn ?_|(refine RT.isPush ?_;refine gp ?_;intro a' c' b' c1' hac)|refine gc ?_|fail)
  refine RT.inil rfl ⟨_, Tryz.underlying20⟩ (.inr ⟨_, _, rfl, rfl⟩) rfl rfl ?_
  repeat' (first|(refine gv ?_;first|refine RT.id ?_|(refine⟨fun hc=>?_,fun hc=>?_⟩<;>first|(exfalso;omega)|skip)|refine gk ?_|refine num_m fun r hr=>?_|intro r hr)|refine gs ?_|(refine gb ?_;intro b)|refine gn ?_|(refine RT.isPush ?_;refine gp ?_;intro a' c' b' c1' hac)|refine gc ?_|fail)
  refine RT.tassert rfl Tryz.underlying100 (by intro b h; cases h) rfl rfl ?_
  repeat' (first|(refine gv ?_;first|refine RT.id ?_|(refine⟨fun hc=>?_,fun hc=>?_⟩<;>first|(exfalso;omega)|skip)|refine gk ?_|refine num_m fun r hr=>?_|intro r hr)|refine gs ?_|(refine gb ?_;intro b)|refine gn ?_|(refine RT.isPush ?_;refine gp ?_;intro a' c' b' c1' hac)|refine gt ?_|refine gc ?_|fail)
  exact AtQ.rec_ (.inl rfl) (fun w h => h.frd (Ps := [Cs cb 33 _]) (Qs := [_]) (by (repeat (first|exact Fr.nil|(apply Fr.cons;focus ((repeat constructor);done))))))
theorem checkL_ok {f : FileT} {g : List Txt} (h : fileR f = .ok g) : checkL f = (0, []) := by
  unfold checkL
  rw [h]
theorem checkL_err {f : FileT} {e : Int} {t : Txt} (h : fileR f = .error (e, t)) : checkL f = (e, t) := by
  unfold checkL
  rw [h]
set_option maxHeartbeats 1000000 in
theorem checkC_fn {mM : Int} (hU : Lib.Utf8Tabs 1 2 B) (hM : B.cell? ⟨0, 0, none⟩ = some (.int .i64 mM)) {f : FileT} (hin : f.In (Rd B R)) (hok : f.Ok) (hsm : FNs f) :
    Sp B Tryz.prog 11 [.agg f.cells.toArray] R [] (fun v H' => v = .agg #[.int .i64 (checkL f).1, vS (checkL f).2] ∧ H' = []) := by
  refine Sp.bodyD Tryz.func11 rfl Tryz.ntmps11 (by simp) ?_
  simp only [argE, List.cons_append, List.nil_append, Nat.zero_add, Nat.reduceAdd]
  repeat' (first|(refine gv ?_;first|refine RT.id ?_|(refine⟨fun hc=>?_,fun hc=>?_⟩<;>first|(exfalso;omega)|skip)|refine gk ?_|refine num_m fun r hr=>?_|intro r hr)|refine gs ?_|(refine gb ?_;intro b)|refine gn ?_|(refine RT.isPush ?_;refine gp ?_;intro a' c' b' c1' hac)|(refine CT.id_ ?_;first|refine nx ?_|refine CT.cond_t rfl ?_|refine CT.cond_f rfl ?_))
  first | (refine CT.region ?_) | (refine CT.quiet mixed (by kernel_rfl) ?_)
  repeat' (first|(refine gv ?_;first|refine RT.id ?_|(refine⟨fun hc=>?_,fun hc=>?_⟩<;>first|(exfalso;omega)|skip)|refine gk ?_|refine num_m fun r hr=>?_|intro r hr)|refine gs ?_|(refine gb ?_;intro b)|refine gn ?_|(refine RT.isPush ?_;refine gp ?_;intro a' c' b' c1' hac)|(refine CT.id_ ?_;first|refine nx ?_|refine CT.cond_t rfl ?_|refine CT.cond_f rfl ?_))
  rename_i xb
  revert b
  intro cb
  first | (refine CT.region ?_) | (refine CT.quiet mixed (by kernel_rfl) ?_)
  repeat' (first|(refine gv ?_;first|refine RT.id ?_|(refine⟨fun hc=>?_,fun hc=>?_⟩<;>first|(exfalso;omega)|skip)|refine gk ?_|refine num_m fun r hr=>?_|intro r hr)|refine gs ?_|(refine gb ?_;intro b)|refine gn ?_|(refine RT.isPush ?_;refine gp ?_;intro a' c' b' c1' hac)|(refine CT.id_ ?_;first|refine nx ?_|refine CT.cond_t rfl ?_|refine CT.cond_f rfl ?_))
  refine RT.mkF rfl rfl rfl ?_
  refine RT.defer (caps := [ptr cb]) rfl rfl rfl ?_
  repeat' (first|(refine gv ?_;first|refine RT.id ?_|(refine⟨fun hc=>?_,fun hc=>?_⟩<;>first|(exfalso;omega)|skip)|refine gk ?_|refine num_m fun r hr=>?_|intro r hr)|refine gs ?_|(refine gb ?_;intro b)|refine gn ?_|(refine RT.isPush ?_;refine gp ?_;intro a' c' b' c1' hac)|refine gc ?_|fail)
  refine RT.mkmap .string rfl rfl (fun bm => ?_)
  repeat' (first|(refine gv ?_;first|refine RT.id ?_|(refine⟨fun hc=>?_,fun hc=>?_⟩<;>first|(exfalso;omega)|skip)|refine gk ?_|refine num_m fun r hr=>?_|intro r hr)|refine gs ?_|(refine gb ?_;intro b)|refine gn ?_|(refine RT.isPush ?_;refine gp ?_;intro a' c' b' c1' hac)|refine gc ?_|fail)
  revert b
  intro br
  repeat' (first|(refine gv ?_;first|refine RT.id ?_|(refine⟨fun hc=>?_,fun hc=>?_⟩<;>first|(exfalso;omega)|skip)|refine gk ?_|refine num_m fun r hr=>?_|intro r hr)|refine gs ?_|(refine gb ?_;intro b)|refine gn ?_|(refine RT.isPush ?_;refine gp ?_;intro a' c' b' c1' hac)|refine gt ?_|refine gc ?_|fail)
  (refine RT.callP T rfl fR_ (file_fn (br := br) (bm := bm) (f := f) hU hM (FileT.In.mono (fun _ _ _ _ _ h => (by repeat (first | exact (h) | apply Rd.cons))) hin) hok hsm) rfl rfl rfl (fun v H1 hp => ?_) (fun v H1 hp => ?_))
  · obtain ⟨e, t, h1, rfl, rfl⟩ := hp
    (repeat refine nx ?_)
    exact AtQ.finDp (n := 12) (R2 := Cs xb 26 f.cells :: R) (fun args w => run_call (T := T) rfl) chk1_pan (by (repeat (first|exact Fr.nil|(apply Fr.cons;focus ((repeat constructor);done))))) (res_agg T Tryz.results11 rfl rfl rfl .h) ⟨by rw [checkL_err h1], rfl⟩ (fun w h => h.tail.tail)
  obtain ⟨g1, h1, hb1, rfl⟩ := hp
  simp only [List.cons_append, List.nil_append]
  repeat' (first|(refine gv ?_;first|refine RT.id ?_|(refine⟨fun hc=>?_,fun hc=>?_⟩<;>first|(exfalso;omega)|skip)|refine gk ?_|refine num_m fun r hr=>?_|intro r hr)|refine gs ?_|(refine gb ?_;intro b)|refine gn ?_|(refine RT.isPush ?_;refine gp ?_;intro a' c' b' c1' hac)|refine gc ?_|fail)
  repeat' (first|(refine gv ?_;first|refine RT.id ?_|(refine⟨fun hc=>?_,fun hc=>?_⟩<;>first|(exfalso;omega)|skip)|refine gk ?_|refine num_m fun r hr=>?_|intro r hr)|refine gs ?_|(refine gb ?_;intro b)|refine gn ?_|(refine RT.isPush ?_;refine gp ?_;intro a' c' b' c1' hac)|refine gt ?_|refine gc ?_|fail)
  exact AtQ.finD (n := 12) (Hf := []) (R2 := rdr br bm :: giv bm g1 :: Cs xb 26 f.cells :: R) (fun args w => run_call (T := T) rfl) chk1_ret (by (repeat (first|exact Fr.nil|(apply Fr.cons;focus ((repeat constructor);done))))) (res_agg T Tryz.results11 rfl rfl rfl .h) ⟨by rw [checkL_ok h1]; rfl, rfl⟩ (fun w h => h.tail.tail.tail.tail) (.inr rfl)
end Go.Proofs.YtdemnhdoadjhhaaGreatDoor
end
section
namespace Go.Proofs.YtdemnhdoadjhhaaGreatDoor
open Go.Sk
set_option maxRecDepth 100000
attribute [local irreducible] Cs Own Ex Pu Yld RT LJ QJ AtQ CT Rd QSp Sp FinQ Then LoopQ CutQ DT TakeQ EffQ
attribute [local irreducible] Bd
variable {B : World} {R : List HP}
theorem rin_fn {x lo hi : Int} : Sp B Tryz.prog 112 [.int .u8 x, .int .u8 lo, .int .u8 hi] R [] (fun v H' => v = .bool (decide (lo ≤ x ∧ x ≤ hi)) ∧ H' = []) := by
  refine Sp.body Tryz.func112 rfl Tryz.ntmps112 (by simp) ?_
  simp only [argE, List.cons_append, List.nil_append, Nat.zero_add, Nat.reduceAdd]
  repeat' (first|(refine gv ?_;first|refine RT.id ?_|(refine⟨fun hc=>?_,fun hc=>?_⟩<;>first|(exfalso;omega)|skip)|refine gk ?_|refine num_m fun r hr=>?_|intro r hr)|refine gs ?_|(refine gb ?_;intro b)|refine gn ?_|(refine RT.isPush ?_;refine gp ?_;intro a' c' b' c1' hac)|refine gc ?_|fail)
  all_goals exact AtQ.f1 Tryz.results112 rfl (by first | (apply dec_t; omega) | (apply dec_f; omega)) (fun w h => h)
theorem rsmall_fn {x : Int} : Sp B Tryz.prog 110 [.int .u8 x] R [] (fun v H' => v = .bool (decide (97 ≤ x ∧ x ≤ 122)) ∧ H' = []) := by
  refine Sp.body Tryz.func110 rfl Tryz.ntmps110 (by simp) ?_
  simp only [argE, List.cons_append, List.nil_append, Nat.zero_add, Nat.reduceAdd]
  repeat' (first|(refine gv ?_;first|refine RT.id ?_|(refine⟨fun hc=>?_,fun hc=>?_⟩<;>first|(exfalso;omega)|skip)|refine gk ?_|refine num_m fun r hr=>?_|intro r hr)|refine gs ?_|(refine gb ?_;intro b)|refine gn ?_|(refine RT.isPush ?_;refine gp ?_;intro a' c' b' c1' hac)|refine gc ?_|fail)
  (refine RT.call T rfl fR_ (rin_fn) rfl rfl rfl ?_; rintro _ _ ⟨rfl, rfl⟩; try simp only [List.cons_append, List.nil_append])
  repeat' (first|(refine gv ?_;first|refine RT.id ?_|(refine⟨fun hc=>?_,fun hc=>?_⟩<;>first|(exfalso;omega)|skip)|refine gk ?_|refine num_m fun r hr=>?_|intro r hr)|refine gs ?_|(refine gb ?_;intro b)|refine gn ?_|(refine RT.isPush ?_;refine gp ?_;intro a' c' b' c1' hac)|refine gc ?_|fail)
  exact AtQ.f1 Tryz.results110 rfl rfl (fun w h => h)
theorem rcapital_fn {x : Int} : Sp B Tryz.prog 111 [.int .u8 x] R [] (fun v H' => v = .bool (decide (65 ≤ x ∧ x ≤ 90)) ∧ H' = []) := by
  refine Sp.body Tryz.func111 rfl Tryz.ntmps111 (by simp) ?_
  simp only [argE, List.cons_append, List.nil_append, Nat.zero_add, Nat.reduceAdd]
  repeat' (first|(refine gv ?_;first|refine RT.id ?_|(refine⟨fun hc=>?_,fun hc=>?_⟩<;>first|(exfalso;omega)|skip)|refine gk ?_|refine num_m fun r hr=>?_|intro r hr)|refine gs ?_|(refine gb ?_;intro b)|refine gn ?_|(refine RT.isPush ?_;refine gp ?_;intro a' c' b' c1' hac)|refine gc ?_|fail)
  (refine RT.call T rfl fR_ (rin_fn) rfl rfl rfl ?_; rintro _ _ ⟨rfl, rfl⟩; try simp only [List.cons_append, List.nil_append])
  repeat' (first|(refine gv ?_;first|refine RT.id ?_|(refine⟨fun hc=>?_,fun hc=>?_⟩<;>first|(exfalso;omega)|skip)|refine gk ?_|refine num_m fun r hr=>?_|intro r hr)|refine gs ?_|(refine gb ?_;intro b)|refine gn ?_|(refine RT.isPush ?_;refine gp ?_;intro a' c' b' c1' hac)|refine gc ?_|fail)
  exact AtQ.f1 Tryz.results111 rfl rfl (fun w h => h)
theorem rdigit_fn {x : Int} : Sp B Tryz.prog 85 [.int .u8 x] R [] (fun v H' => v = .bool (decide (48 ≤ x ∧ x ≤ 57)) ∧ H' = []) := by
  refine Sp.body Tryz.func85 rfl Tryz.ntmps85 (by simp) ?_
  simp only [argE, List.cons_append, List.nil_append, Nat.zero_add, Nat.reduceAdd]
  repeat' (first|(refine gv ?_;first|refine RT.id ?_|(refine⟨fun hc=>?_,fun hc=>?_⟩<;>first|(exfalso;omega)|skip)|refine gk ?_|refine num_m fun r hr=>?_|intro r hr)|refine gs ?_|(refine gb ?_;intro b)|refine gn ?_|(refine RT.isPush ?_;refine gp ?_;intro a' c' b' c1' hac)|refine gc ?_|fail)
  (refine RT.call T rfl fR_ (rin_fn) rfl rfl rfl ?_; rintro _ _ ⟨rfl, rfl⟩; try simp only [List.cons_append, List.nil_append])
  repeat' (first|(refine gv ?_;first|refine RT.id ?_|(refine⟨fun hc=>?_,fun hc=>?_⟩<;>first|(exfalso;omega)|skip)|refine gk ?_|refine num_m fun r hr=>?_|intro r hr)|refine gs ?_|(refine gb ?_;intro b)|refine gn ?_|(refine RT.isPush ?_;refine gp ?_;intro a' c' b' c1' hac)|refine gc ?_|fail)
  exact AtQ.f1 Tryz.results85 rfl rfl (fun w h => h)
theorem rletter_fn {x : Int} : Sp B Tryz.prog 84 [.int .u8 x] R [] (fun v H' => v = .bool (decide (isLet x)) ∧ H' = []) := by
  refine Sp.body Tryz.func84 rfl Tryz.ntmps84 (by simp) ?_
  simp only [argE, List.cons_append, List.nil_append, Nat.zero_add, Nat.reduceAdd]
  repeat' (first|(refine gv ?_;first|refine RT.id ?_|(refine⟨fun hc=>?_,fun hc=>?_⟩<;>first|(exfalso;omega)|skip)|refine gk ?_|refine num_m fun r hr=>?_|intro r hr)|refine gs ?_|(refine gb ?_;intro b)|refine gn ?_|(refine RT.isPush ?_;refine gp ?_;intro a' c' b' c1' hac)|refine gc ?_|fail)
  (refine RT.call T rfl fR_ (rsmall_fn) rfl rfl rfl ?_; rintro _ _ ⟨rfl, rfl⟩; try simp only [List.cons_append, List.nil_append])
  by_cases ha : 97 ≤ x ∧ x ≤ 122
  · rw [decide_eq_true ha]
    repeat' (first|(refine gv ?_;first|refine RT.id ?_|(refine⟨fun hc=>?_,fun hc=>?_⟩<;>first|(exfalso;omega)|skip)|refine gk ?_|refine num_m fun r hr=>?_|intro r hr)|refine gs ?_|(refine gb ?_;intro b)|refine gn ?_|(refine RT.isPush ?_;refine gp ?_;intro a' c' b' c1' hac)|refine gc ?_|fail)
    exact AtQ.f1 Tryz.results84 rfl (by rw [decide_eq_true (show isLet x from .inl ha)]) (fun w h => h)
  · rw [decide_eq_false ha]
    repeat' (first|(refine gv ?_;first|refine RT.id ?_|(refine⟨fun hc=>?_,fun hc=>?_⟩<;>first|(exfalso;omega)|skip)|refine gk ?_|refine num_m fun r hr=>?_|intro r hr)|refine gs ?_|(refine gb ?_;intro b)|refine gn ?_|(refine RT.isPush ?_;refine gp ?_;intro a' c' b' c1' hac)|refine gc ?_|fail)
    (refine RT.qcall T rfl (QSp.of (by (repeat (first|exact Fr.nil|(apply Fr.cons;focus ((repeat constructor);done))))) (rcapital_fn)) rfl rfl rfl ?_)
    by_cases hA : 65 ≤ x ∧ x ≤ 90
    · rw [decide_eq_true hA]
      repeat' (first|(refine gv ?_;first|refine RT.id ?_|(refine⟨fun hc=>?_,fun hc=>?_⟩<;>first|(exfalso;omega)|skip)|refine gk ?_|refine num_m fun r hr=>?_|intro r hr)|refine gs ?_|(refine gb ?_;intro b)|refine gn ?_|(refine RT.isPush ?_;refine gp ?_;intro a' c' b' c1' hac)|refine gc ?_|fail)
      exact AtQ.f1 Tryz.results84 rfl (by rw [decide_eq_true (show isLet x from .inr (.inl hA))]) (fun w h => h)
    · rw [decide_eq_false hA]
      repeat' (first|(refine gv ?_;first|refine RT.id ?_|(refine⟨fun hc=>?_,fun hc=>?_⟩<;>first|(exfalso;omega)|skip)|refine gk ?_|refine num_m fun r hr=>?_|intro r hr)|refine gs ?_|(refine gb ?_;intro b)|refine gn ?_|(refine RT.isPush ?_;refine gp ?_;intro a' c' b' c1' hac)|refine gc ?_|fail)
      · exact AtQ.f1 Tryz.results84 rfl (by rw [decide_eq_true (show isLet x from .inr (.inr (by assumption)))]) (fun w h => h)
      · exact AtQ.f1 Tryz.results84 rfl (by rw [decide_eq_false (show ¬ isLet x from by rintro (h | h | h); exact ha h; exact hA h; exact absurd h (by assumption))]) (fun w h => h)
set_option maxHeartbeats 1000000 in
theorem rcamel_fn {l : List Int} (hb : Byt l) (hl : l.length ≤ 140737488355327) : Sp B Tryz.prog 86 [.string (str l)] R [] (fun v H' => v = .string (str (camelL l)) ∧ H' = []) := by
  refine Sp.body Tryz.func86 rfl Tryz.ntmps86 (by simp) ?_
  simp only [argE, List.cons_append, List.nil_append, Nat.zero_add, Nat.reduceAdd]
  repeat' (first|(refine gv ?_;first|refine RT.id ?_|(refine⟨fun hc=>?_,fun hc=>?_⟩<;>first|(exfalso;omega)|skip)|refine gk ?_|refine num_m fun r hr=>?_|intro r hr)|refine gs ?_|(refine gb ?_;intro b)|refine gn ?_|(refine RT.isPush ?_;refine gp ?_;intro a' c' b' c1' hac)|refine gc ?_|fail)
  refine CT.weak (fun w h => Sat.nilOwn (e := 5) (sz := 1) h) ?_
  refine CT.loop (α := Nat × Bool × List Int × Option Addr × Nat) (fun s => [(0, .string (str l)), (3, .slice s.2.2.2.1 s.2.2.1.length s.2.2.2.2), (4, .bool s.2.1), (5, .int .i64 s.1)]) (fun s => Pu (CamI l s.1 s.2.1 s.2.2.1) :: own8 s.2.2.2.1 s.2.2.2.2 s.2.2.1 :: R) (fun s => l.length - s.1) (0, false, [], none, 0) ⟨rfl, rfl, rfl, rfl, trivial⟩
    (fun w h => Sat.pu_in ⟨by simp, rfl, Byt.nil, by simp⟩ h) (fun s => CT.pu fun hs => ?_)
  obtain ⟨i, bb, out, a, c⟩ := s
  have hi := hs.1
  simp only at hs hi ⊢
  have hlo := hs.2.2.2
  have fin : ∀ (x : Int) (a' : Option Addr) (c' : Nat) (w : World), Sat B (Own a' c' 5 1 (out.length + 1) (ints .u8 (out ++ [x])) :: R) w → Sat B (own8 a' c' (out ++ [x]) :: R) w := fun x a' c' w h => by
    rw [show out.length + 1 = (out ++ [x]).length by simp] at h
    exact h
  cases bb
  all_goals repeat' (first|(refine gv ?_;first|refine RT.id ?_|(refine⟨fun hc=>?_,fun hc=>?_⟩<;>first|(exfalso;omega)|skip)|refine gk ?_|refine num_m fun r hr=>?_|intro r hr)|refine gs ?_|(refine gb ?_;intro b)|refine gn ?_|(refine RT.isPush ?_;refine gp ?_;intro a' c' b' c1' hac)|refine gc ?_|fail)
  · (refine RT.ixs T (j := i) rfl rfl (by omega) (by omega) (by assumption) rfl rfl rfl ?_)
    obtain ⟨h0, h1⟩ := hb.get (i := i) (by omega)
    repeat' (first|(refine gv ?_;first|refine RT.id ?_|(refine⟨fun hc=>?_,fun hc=>?_⟩<;>first|(exfalso;omega)|skip)|refine gk ?_|refine num_m fun r hr=>?_|intro r hr)|refine gs ?_|(refine gb ?_;intro b)|refine gn ?_|(refine RT.isPush ?_;refine gp ?_;intro a' c' b' c1' hac)|refine gc ?_|fail)
    · exact AtQ.loop (i + 1, true, out, a, c) ⟨rfl, rfl, rfl, rfl, trivial⟩ (fun w h => Sat.pu_in (hs.a (by omega) (by assumption)) h) (by simp only; omega)
    · (refine RT.call T rfl fR_ (rsmall_fn) rfl rfl rfl ?_; rintro _ _ ⟨rfl, rfl⟩; try simp only [List.cons_append, List.nil_append])
      repeat' (first|(refine gv ?_;first|refine RT.id ?_|(refine⟨fun hc=>?_,fun hc=>?_⟩<;>first|(exfalso;omega)|skip)|refine gk ?_|refine num_m fun r hr=>?_|intro r hr)|refine gs ?_|(refine gb ?_;intro b)|refine gn ?_|(refine RT.isPush ?_;refine gp ?_;intro a' c' b' c1' hac)|refine gc ?_|fail)
      exact AtQ.loop (i + 1, false, out ++ [l.getD i 0], a', c') ⟨rfl, by simp only [List.length_append, List.length_singleton]; rfl, rfl, rfl, trivial⟩ (fun w h => Sat.pu_in (hs.c hb (by omega) (by assumption) (by simp)) (fin _ _ _ _ (h.frd (Ps := [_]) (Qs := []) (by (repeat (first|exact Fr.nil|(apply Fr.cons;focus ((repeat constructor);done)))))))) (by simp only; omega)
  · obtain rfl : i = l.length := by omega
    have he : out = camelL l := by have := hs.2.1; simpa [camelF] using this
    refine RT.fact (p := out.length ≤ c) (fun w h => (Own.facts h (by ((repeat constructor);done))).2.1) fun hoc => ?_
    refine RT.convBS T rfl (Own.rdI (by ((repeat constructor);done)) rfl hoc) hs.2.2.1 Tryz.underlying162 Tryz.underlying5 rfl rfl rfl ?_
    repeat' (first|(refine gv ?_;first|refine RT.id ?_|(refine⟨fun hc=>?_,fun hc=>?_⟩<;>first|(exfalso;omega)|skip)|refine gk ?_|refine num_m fun r hr=>?_|intro r hr)|refine gs ?_|(refine gb ?_;intro b)|refine gn ?_|(refine RT.isPush ?_;refine gp ?_;intro a' c' b' c1' hac)|refine gc ?_|fail)
    exact AtQ.f1 Tryz.results86 rfl (by rw [he]) (fun w h => h.tail)
  · (refine RT.ixs T (j := i) rfl rfl (by omega) (by omega) (by assumption) rfl rfl rfl ?_)
    obtain ⟨h0, h1⟩ := hb.get (i := i) (by omega)
    repeat' (first|(refine gv ?_;first|refine RT.id ?_|(refine⟨fun hc=>?_,fun hc=>?_⟩<;>first|(exfalso;omega)|skip)|refine gk ?_|refine num_m fun r hr=>?_|intro r hr)|refine gs ?_|(refine gb ?_;intro b)|refine gn ?_|(refine RT.isPush ?_;refine gp ?_;intro a' c' b' c1' hac)|refine gc ?_|fail)
    · exact AtQ.loop (i + 1, true, out, a, c) ⟨rfl, rfl, rfl, rfl, trivial⟩ (fun w h => Sat.pu_in (hs.a (by omega) (by assumption)) h) (by simp only; omega)
    · (refine RT.call T rfl fR_ (rsmall_fn) rfl rfl rfl ?_; rintro _ _ ⟨rfl, rfl⟩; try simp only [List.cons_append, List.nil_append])
      by_cases hsm : 97 ≤ l.getD i 0 ∧ l.getD i 0 ≤ 122
      · rw [decide_eq_true hsm]
        repeat' (first|(refine gv ?_;first|refine RT.id ?_|(refine⟨fun hc=>?_,fun hc=>?_⟩<;>first|(exfalso;omega)|skip)|refine gk ?_|refine num_m fun r hr=>?_|intro r hr)|refine gs ?_|(refine gb ?_;intro b)|refine gn ?_|(refine RT.isPush ?_;refine gp ?_;intro a' c' b' c1' hac)|refine gc ?_|fail)
        exact AtQ.loop (i + 1, false, out ++ [l.getD i 0 - 32], a', c') ⟨rfl, by simp only [List.length_append, List.length_singleton]; rfl, rfl, rfl, trivial⟩ (fun w h => Sat.pu_in (hs.b hb (by omega) (by assumption) hsm) (fin _ _ _ _ (h.frd (Ps := [_]) (Qs := []) (by (repeat (first|exact Fr.nil|(apply Fr.cons;focus ((repeat constructor);done)))))))) (by simp only; omega)
      · rw [decide_eq_false hsm]
        repeat' (first|(refine gv ?_;first|refine RT.id ?_|(refine⟨fun hc=>?_,fun hc=>?_⟩<;>first|(exfalso;omega)|skip)|refine gk ?_|refine num_m fun r hr=>?_|intro r hr)|refine gs ?_|(refine gb ?_;intro b)|refine gn ?_|(refine RT.isPush ?_;refine gp ?_;intro a' c' b' c1' hac)|refine gc ?_|fail)
        exact AtQ.loop (i + 1, false, out ++ [l.getD i 0], a', c') ⟨rfl, by simp only [List.length_append, List.length_singleton]; rfl, rfl, rfl, trivial⟩ (fun w h => Sat.pu_in (hs.c hb (by omega) (by assumption) (fun h => hsm h.2)) (fin _ _ _ _ (h.frd (Ps := [_]) (Qs := []) (by (repeat (first|exact Fr.nil|(apply Fr.cons;focus ((repeat constructor);done)))))))) (by simp only; omega)
  · obtain rfl : i = l.length := by omega
    have he : out = camelL l := by have := hs.2.1; simpa [camelF] using this
    refine RT.fact (p := out.length ≤ c) (fun w h => (Own.facts h (by ((repeat constructor);done))).2.1) fun hoc => ?_
    refine RT.convBS T rfl (Own.rdI (by ((repeat constructor);done)) rfl hoc) hs.2.2.1 Tryz.underlying162 Tryz.underlying5 rfl rfl rfl ?_
    repeat' (first|(refine gv ?_;first|refine RT.id ?_|(refine⟨fun hc=>?_,fun hc=>?_⟩<;>first|(exfalso;omega)|skip)|refine gk ?_|refine num_m fun r hr=>?_|intro r hr)|refine gs ?_|(refine gb ?_;intro b)|refine gn ?_|(refine RT.isPush ?_;refine gp ?_;intro a' c' b' c1' hac)|refine gc ?_|fail)
    exact AtQ.f1 Tryz.results86 rfl (by rw [he]) (fun w h => h.tail)
end Go.Proofs.YtdemnhdoadjhhaaGreatDoor
end
section
namespace Go.Proofs.YtdemnhdoadjhhaaGreatDoor
open Go.Sk
set_option maxRecDepth 100000
theorem one_msg7 (x : MsgT) : ∀ u ∈ x.cells, u.oneCell' = true := List.all_eq_true.1 (rfl : x.cells.all (·.oneCell') = true)
theorem one_fld7 (x : FieldT) : ∀ u ∈ x.cells, u.oneCell' = true := List.all_eq_true.1 (rfl : x.cells.all (·.oneCell') = true)
theorem one_flat7 {α : Type} {f : α → List Value} (h : ∀ x, ∀ u ∈ f x, u.oneCell' = true) (l : List α) : ∀ u ∈ l.flatMap f, u.oneCell' = true := fun u hu => by
  obtain ⟨x, _, hx⟩ := List.mem_flatMap.1 hu
  exact h x u hx
attribute [local irreducible] Cs Own Ex Pu Yld RT LJ QJ AtQ CT Rd QSp Sp FinQ Then LoopQ CutQ DT TakeQ EffQ
variable {B : World} {R : List HP}
theorem rjson_fn {x : FieldT} (hn : Byt x.nm) (hl : x.nm.length ≤ 140737488355327) (hj : Byt x.js) :
    Sp B Tryz.prog 28 [.agg x.cells.toArray] R [] (fun v H' => v = vS (jsonL x) ∧ H' = []) := by
  obtain ⟨nm, num, card, kind, ty, key, oneof, packed, js⟩ := x
  dsimp only [FieldT.cells] at *
  unfold jsonL
  dsimp only
  refine Sp.body Tryz.func28 rfl Tryz.ntmps28 (by simp) ?_
  simp only [argE, List.cons_append, List.nil_append, Nat.zero_add, Nat.reduceAdd]
  repeat' (first|(refine gv ?_;first|refine RT.id ?_|(refine⟨fun hc=>?_,fun hc=>?_⟩<;>first|(exfalso;omega)|skip)|refine gk ?_|refine num_m fun r hr=>?_|intro r hr)|refine gs ?_|(refine gb ?_;intro b)|refine gn ?_|(refine RT.isPush ?_;refine gp ?_;intro a' c' b' c1' hac)|refine gc ?_|fail)
  refine RT.nes (l := js) (l' := []) rfl rfl hj Byt.nil rfl rfl (fun he => ?_) (fun he => ?_)
  · rw [if_pos he]
    repeat' (first|(refine gv ?_;first|refine RT.id ?_|(refine⟨fun hc=>?_,fun hc=>?_⟩<;>first|(exfalso;omega)|skip)|refine gk ?_|refine num_m fun r hr=>?_|intro r hr)|refine gs ?_|(refine gb ?_;intro b)|refine gn ?_|(refine RT.isPush ?_;refine gp ?_;intro a' c' b' c1' hac)|refine gc ?_|fail)
    (refine RT.call T rfl fR_ (rcamel_fn hn hl) rfl rfl rfl ?_; rintro _ _ ⟨rfl, rfl⟩; try simp only [List.cons_append, List.nil_append])
    repeat' (first|(refine gv ?_;first|refine RT.id ?_|(refine⟨fun hc=>?_,fun hc=>?_⟩<;>first|(exfalso;omega)|skip)|refine gk ?_|refine num_m fun r hr=>?_|intro r hr)|refine gs ?_|(refine gb ?_;intro b)|refine gn ?_|(refine RT.isPush ?_;refine gp ?_;intro a' c' b' c1' hac)|refine gc ?_|fail)
    exact AtQ.f1 (HH := []) Tryz.results28 rfl rfl dR_
  · rw [if_neg he]
    repeat' (first|(refine gv ?_;first|refine RT.id ?_|(refine⟨fun hc=>?_,fun hc=>?_⟩<;>first|(exfalso;omega)|skip)|refine gk ?_|refine num_m fun r hr=>?_|intro r hr)|refine gs ?_|(refine gb ?_;intro b)|refine gn ?_|(refine RT.isPush ?_;refine gp ?_;intro a' c' b' c1' hac)|refine gc ?_|fail)
    exact AtQ.f1 (HH := []) Tryz.results28 rfl rfl dR_
set_option maxHeartbeats 4000000 in
theorem with_fn {mM : Int} (hU : Lib.Utf8Tabs 1 2 B) (hM : B.cell? ⟨0, 0, none⟩ = some (.int .i64 mM))
    {path pack nm : Txt} {imps : Rw ImpT} {fields : Rw FieldT} {oneofs : Rw Txt} {ma ma2 : Option Addr} {mc mc2 : Nat} {msgs rest : List MsgT} {en enums : Rw EnumT} {res : Rw SpanT} {names : Rw Txt} {x : FieldT}
    (hin : (⟨path, pack, imps, ma, mc, .mk nm fields oneofs ma2 mc2 msgs en res names :: rest, enums⟩ : FileT).In (Rd B R)) (hok : (⟨path, pack, imps, ma, mc, .mk nm fields oneofs ma2 mc2 msgs en res names :: rest, enums⟩ : FileT).Ok)
    (hsm : FSm ⟨path, pack, imps, ma, mc, .mk nm fields oneofs ma2 mc2 msgs en res names :: rest, enums⟩) (hf : fields.l.length < 1000) (hx : x.Ok) (hxn : FNm x) :
    Sp B Tryz.prog 29 [.agg (FileT.cells ⟨path, pack, imps, ma, mc, .mk nm fields oneofs ma2 mc2 msgs en res names :: rest, enums⟩).toArray, .agg x.cells.toArray] R []
      (fun v H' => ∃ (ma3 : Option Addr) (mc3 : Nat) (fa3 : Option Addr) (fc3 : Nat), v = .agg #[.int .i64 (checkL ⟨path, pack, imps, ma3, mc3, .mk nm ⟨fa3, fc3, fields.l ++ [x]⟩ oneofs ma2 mc2 msgs en res names :: rest, enums⟩).1, vS (checkL ⟨path, pack, imps, ma3, mc3, .mk nm ⟨fa3, fc3, fields.l ++ [x]⟩ oneofs ma2 mc2 msgs en res names :: rest, enums⟩).2] ∧ H' = []) := by
  obtain ⟨fa, fc, fs⟩ := fields
  have hm0 := hok.msgs.2 _ List.mem_cons_self
  have hi0 := hin.sub _ List.mem_cons_self
  have hn0 := MsgT.nmL_mem hsm.nms (List.mem_cons_self (a := MsgT.mk nm ⟨fa, fc, fs⟩ oneofs ma2 mc2 msgs en res names) (l := rest))
  have hml := hsm.msgs
  have hrm := hin.msgs
  dsimp only at hml hrm hf
  unfold MsgT.Ok at hm0
  unfold MsgT.In at hi0
  unfold MsgT.Nm at hn0
  obtain ⟨k1, ⟨⟨k2, k2'⟩, k3⟩, k4⟩ := hm0
  obtain ⟨i1, i2⟩ := hi0
  obtain ⟨n1, n2, n3⟩ := hn0
  dsimp only at i1 k2 k3 n2
  refine Sp.bodyM Tryz.func29 rfl Tryz.ntmps29 (by simp) ?_
  simp only [argE, List.cons_append, List.nil_append, Nat.zero_add, Nat.reduceAdd]
  generalize hxc : x.cells = xcl
  dsimp only [FileT.cells, Rw.v]
  repeat' (first|(refine gv ?_;first|refine RT.id ?_|(refine⟨fun hc=>?_,fun hc=>?_⟩<;>first|(exfalso;omega)|skip)|refine gk ?_|refine num_m fun r hr=>?_|intro r hr)|refine gs ?_|(refine gb ?_;intro b)|refine gn ?_|(refine RT.isPush ?_;refine gp ?_;intro a' c' b' c1' hac)|refine gc ?_|fail)
  revert b
  intro ob
  revert b
  intro xb
  revert b
  intro fb
  refine RT.weak (fun w h => Sat.nilOwn (e := 72) (sz := 7) h) ?_
  refine RT.app T (xs := []) (ys := (MsgT.mk nm ⟨fa, fc, fs⟩ oneofs ma2 mc2 msgs en res names :: rest).flatMap MsgT.cells) rfl rfl rfl (fun a' c' => by ((repeat constructor);done)) (by repeat (first | exact (hrm) | apply Rd.cons)) (one_flat7 one_msg7 _) (by omega) (by omega) rfl rfl rfl rfl (fun a1 c1 hc1 => ?_)
  simp only [Nat.zero_add, List.nil_append] at hc1 ⊢
  repeat' (first|(refine gv ?_;first|refine RT.id ?_|(refine⟨fun hc=>?_,fun hc=>?_⟩<;>first|(exfalso;omega)|skip)|refine gk ?_|refine num_m fun r hr=>?_|intro r hr)|refine gs ?_|(refine gb ?_;intro b)|refine gn ?_|(refine RT.isPush ?_;refine gp ?_;intro a' c' b' c1' hac)|refine gc ?_|fail)
  have hml1 : ((MsgT.mk nm ⟨fa, fc, fs⟩ oneofs ma2 mc2 msgs en res names :: rest).flatMap MsgT.cells).length = (rest.length + 1) * 7 := flat_len (f := MsgT.cells) (fun _ => rfl) _
  have hll : (MsgT.mk nm ⟨fa, fc, fs⟩ oneofs ma2 mc2 msgs en res names :: rest).length = rest.length + 1 := rfl
  refine RT.ix T (j := 0 * 7) rfl rfl rfl (Own.rd (by ((repeat constructor);done)) hml1 hc1) (by omega) (by omega) (by omega) rfl rfl ?_
  refine RT.faA T rfl rfl rfl rfl ?_
  refine RT.ldr (u := .slice fa fs.length fc) T rfl (Own.rd (by ((repeat constructor);done)) hml1 hc1) rfl rfl rfl rfl ?_
  refine RT.weak (fun w h => Sat.nilOwn (e := 87) (sz := 9) h) ?_
  refine RT.app T (xs := []) (ys := fs.flatMap FieldT.cells) rfl rfl rfl (fun a' c' => by ((repeat constructor);done)) (by repeat (first | exact (i1) | apply Rd.cons)) (one_flat7 one_fld7 _) (by omega) (by omega) rfl rfl rfl rfl (fun a2 c2 hc2 => ?_)
  simp only [Nat.zero_add, List.nil_append] at hc2 ⊢
  subst hxc
  repeat' (first|(refine gv ?_;first|refine RT.id ?_|(refine⟨fun hc=>?_,fun hc=>?_⟩<;>first|(exfalso;omega)|skip)|refine gk ?_|refine num_m fun r hr=>?_|intro r hr)|refine gs ?_|(refine gb ?_;intro b)|refine gn ?_|(refine RT.isPush ?_;refine gp ?_;intro a' c' b' c1' hac)|refine gt ?_|refine gc ?_|fail)
  refine RT.bsA T (l := x.cells) rfl rfl rfl rfl rfl rfl rfl rfl (fun b3 => ?_)
  refine RT.app T (xs := fs.flatMap FieldT.cells) (ys := x.cells) rfl rfl rfl (fun a' c' => by ((repeat constructor);done)) (Own.rd (by ((repeat constructor);done)) rfl (Nat.le_refl _)) (one_fld7 x) (by omega) (by omega) rfl rfl rfl rfl (fun a3 c3 hc3 => ?_)
  have hfl : (fs ++ [x]).length = fs.length + 1 := by simp
  have hfe : fs.flatMap FieldT.cells ++ x.cells = (fs ++ [x]).flatMap FieldT.cells := by simp
  rw [hfe, ← hfl]
  rw [← hfl] at hc3
  refine RT.ix T (j := 0 * 7) rfl rfl rfl (Own.rd (by ((repeat constructor);done)) hml1 hc1) (by omega) (by omega) (by omega) rfl rfl ?_
  refine RT.faA T rfl rfl rfl rfl ?_
  refine RT.stoZ (v := .slice a3 (fs ++ [x]).length c3) T rfl rfl rfl (by ((repeat constructor);done)) (by rw [hml1]; omega) rfl rfl ?_
  have hset : ((MsgT.mk nm ⟨fa, fc, fs⟩ oneofs ma2 mc2 msgs en res names :: rest).flatMap MsgT.cells).set (0 * 7 + 1) (.slice a3 (fs ++ [x]).length c3) = (MsgT.mk nm ⟨a3, c3, fs ++ [x]⟩ oneofs ma2 mc2 msgs en res names :: rest).flatMap MsgT.cells := rfl
  rw [hset]
  repeat' (first|(refine gv ?_;first|refine RT.id ?_|(refine⟨fun hc=>?_,fun hc=>?_⟩<;>first|(exfalso;omega)|skip)|refine gk ?_|refine num_m fun r hr=>?_|intro r hr)|refine gs ?_|(refine gb ?_;intro b)|refine gn ?_|(refine RT.isPush ?_;refine gp ?_;intro a' c' b' c1' hac)|refine gt ?_|refine gc ?_|fail)
  refine RT.fact (p := c1 ≤ 9223372036854775807) (fun w h => (Own.facts h (by ((repeat constructor);done))).2.2) (fun hc1m => ?_)
  refine RT.fact (p := c3 ≤ 9223372036854775807) (fun w h => (Own.facts (xs := (fs ++ [x]).flatMap FieldT.cells) h (by ((repeat constructor);done))).2.2) (fun hc3m => ?_)
  obtain ⟨gF, hgF⟩ : ∃ gF : FileT, gF = ⟨path, pack, imps, a1, c1, .mk nm ⟨a3, c3, fs ++ [x]⟩ oneofs ma2 mc2 msgs en res names :: rest, enums⟩ := ⟨_, rfl⟩
  have hgc : gF.cells = [vS path, vS pack, .slice imps.a imps.l.length imps.c, .slice a1 (MsgT.mk nm ⟨fa, fc, fs⟩ oneofs ma2 mc2 msgs en res names :: rest).length c1, .slice enums.a enums.l.length enums.c] := by rw [hgF]; rfl
  have hgok : gF.Ok := by
    rw [hgF]
    refine ⟨hok.path, hok.pack, hok.imps, ⟨⟨Nat.le_trans hml (by decide), hc1, hc1m⟩, fun m hm => ?_⟩, hok.enums⟩
    rcases List.mem_cons.1 hm with rfl | hm
    · unfold MsgT.Ok
      exact ⟨k1, ⟨⟨by dsimp only; omega, hc3, hc3m⟩, fun f hf => (List.mem_append.1 hf).elim (k3 f) (fun hf => by rw [List.mem_singleton.1 hf]; exact hx)⟩, k4⟩
    · exact hok.msgs.2 m (List.mem_cons_of_mem _ hm)
  have hgn : FNs gF := by
    rw [hgF]
    have h0 := hsm.nms
    unfold MsgT.NmL at h0
    refine ⟨?_, hsm.pk, hsm.enm⟩
    unfold MsgT.NmL MsgT.Nm
    exact ⟨⟨n1, fun f hf => (List.mem_append.1 hf).elim (n2 f) (fun hf => by rw [List.mem_singleton.1 hf]; exact hxn), n3⟩, h0.2⟩
  rw [← hgc]
  have key : ∀ {H0 : List HP}, (∀ a k c z xs, Rd B R a k c z xs → Rd B H0 a k c z xs) → Rd B H0 a1 (rest.length + 1) c1 7 ((MsgT.mk nm ⟨a3, c3, fs ++ [x]⟩ oneofs ma2 mc2 msgs en res names :: rest).flatMap MsgT.cells) → Rd B H0 a3 (fs ++ [x]).length c3 9 ((fs ++ [x]).flatMap FieldT.cells) → gF.In (Rd B H0) := fun hmo r1 r2 => by
    have hin' := FileT.In.mono hmo hin
    rw [hgF]
    refine ⟨hin'.imps, r1, fun m hm => ?_, hin'.enums, hin'.esub⟩
    rcases List.mem_cons.1 hm with rfl | hm
    · have h2 := hin'.sub _ List.mem_cons_self
      unfold MsgT.In at h2 ⊢
      exact ⟨r2, h2.2⟩
    · exact hin'.sub m (List.mem_cons_of_mem _ hm)
  refine RT.call T rfl (by (repeat (first|exact Fr.nil|(apply Fr.cons;focus ((repeat constructor);done))))) (checkC_fn (f := gF) hU hM (key (fun _ _ _ _ _ h => (by repeat (first | exact (h) | apply Rd.cons))) (Own.rd (by ((repeat constructor);done)) (flat_len (f := MsgT.cells) (fun _ => rfl) _) hc1) (Own.rd (by ((repeat constructor);done)) (flat_len (f := FieldT.cells) (fun _ => rfl) _) hc3)) hgok hgn) rfl rfl rfl ?_
  rintro _ _ ⟨rfl, rfl⟩
  simp only [List.nil_append]
  repeat' (first|(refine gv ?_;first|refine RT.id ?_|(refine⟨fun hc=>?_,fun hc=>?_⟩<;>first|(exfalso;omega)|skip)|refine gk ?_|refine num_m fun r hr=>?_|intro r hr)|refine gs ?_|(refine gb ?_;intro b)|refine gn ?_|(refine RT.isPush ?_;refine gp ?_;intro a' c' b' c1' hac)|refine gt ?_|refine gc ?_|fail)
  refine AtQ.finA (l := [.int .i64 (checkL gF).1, vS (checkL gF).2]) (H' := []) T Tryz.results29 rfl rfl rfl (by ((repeat constructor);done)) ⟨a1, c1, a3, c3, by rw [hgF], rfl⟩ dR_ (by first | exact .inl rfl | exact .inr rfl)
end Go.Proofs.YtdemnhdoadjhhaaGreatDoor
end
section
namespace Go.Proofs.YtdemnhdoadjhhaaGreatDoor
open Go.Sk
/-! ### errors are not nought -/
def NZ (r : Rs) : Prop := ∀ e t, r = .error (e, t) → e ≠ 0
def NZo (r : Option Flt) : Prop := ∀ e t, r = some (e, t) → e ≠ 0
theorem NZ.ok {g : List Txt} : NZ (.ok g) := fun e t h => by cases h
theorem NZ.must {p : Bool} {e : Int} {t : Txt} {k : Rs} (he : e ≠ 0) (h : NZ k) : NZ (must p e t k) := fun e' t' h' => by
  unfold Go.Proofs.YtdemnhdoadjhhaaGreatDoor.must at h'
  split at h'
  · exact h e' t' h'
  · cases h'; exact he
theorem NZ.bnd {r : Rs} {k : List Txt → Rs} (h : NZ r) (hk : ∀ g, NZ (k g)) : NZ (bnd r k) := fun e t h' => by
  cases r with
  | ok g => exact hk g e t h'
  | error x => cases h'; exact h e t rfl
theorem NZ.opt {o : Option Flt} {k : Rs} (h : NZo o) (hk : NZ k) : NZ (opt o k) := fun e t h' => by
  cases o with
  | none => exact hk e t h'
  | some x => cases h'; exact h e t rfl
theorem nz_give {nm full : Txt} {g : List Txt} : NZ (giveR nm full g) := NZ.must (by decide) (NZ.must (by decide) NZ.ok)
theorem nz_spans {lo hi : Int} {t : Txt} : ∀ {l ah : List SpanT}, NZo (spansF lo hi t ah l)
  | [], ah => fun e t h => by cases ah <;> cases h
  | s :: l, ah => fun e t' h => by
    unfold spansF at h
    split at h
    · exact nz_spans e t' h
    · cases h; decide
theorem nz_names {sc : Txt} : ∀ {l ah : List Txt}, NZo (namesF sc ah l)
  | [], ah => fun e t h => by cases ah <;> cases h
  | s :: l, ah => fun e t' h => by
    unfold namesF at h
    split at h
    · split at h
      · cases h; decide
      · exact nz_names e t' h
    · cases h; decide
theorem nz_imps : ∀ {l : List ImpT} {ah : List Txt}, NZo (impsF ah l)
  | [], ah => fun e t h => by cases ah <;> cases h
  | s :: l, ah => fun e t' h => by
    unfold impsF at h
    split at h
    · split at h
      · cases h; decide
      · exact nz_imps e t' h
    · cases h; decide
theorem nz_field {names : List Txt} {res : List SpanT} {no : Nat} {full : Txt} {ah : List FieldT} {f : FieldT} {g : List Txt} : NZ (fieldR names res no full ah f g) := by
  unfold fieldR fieldR7 fieldR8 fieldR11 fieldR14 fieldR15 fieldR16 fieldR17
  refine NZ.bnd nz_give fun g => ?_
  repeat (first | exact NZ.ok | refine NZ.must (by decide) ?_)
theorem nz_fields {names : List Txt} {res : List SpanT} {no : Nat} {full : Txt} : ∀ {l ah : List FieldT} {g : List Txt}, NZ (fieldsR names res no full ah l g)
  | [], ah, g => by cases ah <;> exact NZ.ok
  | f :: l, ah, g => by unfold fieldsR; exact NZ.bnd nz_field fun g => nz_fields
theorem nz_oneofs {fields : List FieldT} {full : Txt} : ∀ {l : List Txt} {i : Nat} {g : List Txt}, NZ (oneofsR fields full i l g)
  | [], i, g => NZ.ok
  | o :: l, i, g => by unfold oneofsR; exact NZ.bnd nz_give fun g => NZ.must (by decide) nz_oneofs
theorem nz_vals {names : List Txt} {res : List SpanT} {ali : Bool} {sc : Txt} : ∀ {l ah : List EValT} {g : List Txt}, NZ (valsR names res ali sc ah l g)
  | [], ah, g => by cases ah <;> exact NZ.ok
  | v :: l, ah, g => by unfold valsR; exact NZ.bnd nz_give fun g => NZ.must (by decide) (NZ.must (by decide) nz_vals)
theorem nz_enum {e : EnumT} {sc : Txt} {g : List Txt} : NZ (enumR e sc g) := by
  unfold enumR
  exact NZ.bnd nz_give fun g => NZ.must (by decide) (NZ.must (by decide) (NZ.opt nz_spans (NZ.opt nz_names nz_vals)))
theorem nz_enums {sc : Txt} : ∀ {l : List EnumT} {g : List Txt}, NZ (enumsR sc l g)
  | [], g => NZ.ok
  | e :: l, g => by unfold enumsR; exact NZ.bnd nz_enum fun g => nz_enums
mutual
theorem nz_msg : ∀ {m : MsgT} {sc : Txt} {deep : Nat} {g : List Txt}, NZ (msgR m sc deep g)
  | .mk nm fields oneofs ma mc msgs enums res names, sc, deep, g => by
    unfold msgR
    exact NZ.bnd nz_give fun g => NZ.must (by decide) (NZ.opt nz_spans (NZ.opt nz_names (NZ.bnd nz_fields fun g => NZ.bnd nz_oneofs fun g => NZ.bnd nz_msgs fun g => nz_enums)))
theorem nz_msgs : ∀ {l : List MsgT} {sc : Txt} {deep : Nat} {g : List Txt}, NZ (msgsR l sc deep g)
  | [], sc, deep, g => by unfold msgsR; exact NZ.ok
  | m :: l, sc, deep, g => by unfold msgsR; exact NZ.bnd nz_msg fun g => nz_msgs
end
theorem nz_file {f : FileT} : NZ (fileR f) := by
  unfold fileR
  exact NZ.must (by decide) (NZ.must (by decide) (NZ.must (by decide) (NZ.opt nz_imps (NZ.bnd nz_msgs fun g => nz_enums))))
/-! ### more names given -/
/-- What is right with some names given is right with more, or gives a name twice. -/
def Sim (F : List Txt → Rs) : Prop := ∀ g' g, (∀ x ∈ g', x ∈ g) → ∀ h', F g' = .ok h' → (∃ h, F g = .ok h ∧ ∀ x ∈ h', x ∈ h) ∨ ∃ t, F g = .error (61, t)
theorem Sim.ok : Sim .ok := fun g' g hs h' h => by cases h; exact .inl ⟨g, rfl, hs⟩
theorem Sim.must {p : Bool} {e : Int} {t : Txt} {K : List Txt → Rs} (hK : Sim K) : Sim (fun g => must p e t (K g)) := fun g' g hs h' h => by
  cases p
  · cases h
  · exact hK g' g hs h' h
theorem Sim.opt {o : Option Flt} {K : List Txt → Rs} (hK : Sim K) : Sim (fun g => opt o (K g)) := fun g' g hs h' h => by
  cases o with
  | none => exact hK g' g hs h' h
  | some x => cases h
theorem Sim.bnd {F K : List Txt → Rs} (hF : Sim F) (hK : Sim K) : Sim (fun g => bnd (F g) K) := fun g' g hs h' h => by
  dsimp only at h ⊢
  cases hf : F g' with
  | error x => rw [hf] at h; cases h
  | ok g2' =>
    rw [hf] at h
    rcases hF g' g hs g2' hf with ⟨g2, h2, hs2⟩ | ⟨t, h2⟩
    · rw [h2]
      exact hK g2' g2 hs2 h' h
    · rw [h2]
      exact .inr ⟨t, rfl⟩
/-! ### CheckFirst -/
section
variable {path pack : Txt} {imps : Rw ImpT} {ma : Option Addr} {mc : Nat} {msgs : List MsgT} {enums en2 en3 : Rw EnumT} {more : List EnumT}
end
end Go.Proofs.YtdemnhdoadjhhaaGreatDoor
end
