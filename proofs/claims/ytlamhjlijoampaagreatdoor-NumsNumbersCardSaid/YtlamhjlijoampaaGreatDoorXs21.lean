/- From the reckoning to a contract. Plain theorems, no condition. -/
import Derived.Test.YtlamhjlijoampaaGreatDoorXs20
set_option linter.unusedVariables false
set_option linter.unusedSimpArgs false
namespace Go.Xs
open Go.RowKit

theorem Ctx.OK.mono {C : Ctx} {F F' : PH} (h : C.OK F) (hF : ∀ b o, F b = some o → F' b = some o) : C.OK F' :=
  fun g l hg hl j v hj => ⟨(h g l hg hl j v hj).1, fun ρ w hρ hw => (h g l hg hl j v hj).2 ρ w hρ fun b o hb => hw b o (hF b o hb)⟩
/-- The heap at the outset: nothing is told. -/
def hp0 (G : Gx) : Hp := ⟨.lf, G.N⟩
theorem satX_start (w : World) (G : Gx) : SatX w (fun b => w.heap[b]?) G (hp0 G) ⟨G.gb, fun _ => 0⟩ w :=
  ⟨rfl, rfl, rfl, fun _ _ h => h, fun nm o h => by simp [hp0, Hp.get, Tr.get] at h, fun nm _ o _ h => by simp [hp0, Hp.get, Tr.get] at h, fun _ _ => rfl, Nat.le_refl _⟩
def isTrue : FR → Bool
  | .ret (.bool true) _ => true
  | _ => false
theorem isTrue_ok {r : FR} (h : isTrue r = true) : ∃ h', r = .ret (.bool true) h' := by
  unfold isTrue at h
  split at h
  · exact ⟨_, rfl⟩
  · cases h
section
variable {C : Ctx} {lf k : Nat} {sp : Nat → List Value → Hp → Option FR}
theorem sat_grow {B w w' : World} {R : List Go.Sk.HP} {G : Gx} {h : Hp} {ρ : Val} (s : Go.Sk.Sat B R w) (s' : SatX w (fun b => w.heap[b]?) G h ρ w') : Go.Sk.Sat B R w' := by
  have hsz : w.heap.size ≤ w'.heap.size := by
    rcases Nat.eq_zero_or_pos w.heap.size with h0 | h0
    · omega
    · have h1 : w.heap[w.heap.size - 1]? = some w.heap[w.heap.size - 1] := Array.getElem?_eq_getElem (by omega)
      have := (Array.getElem?_eq_some_iff.1 (s'.fr _ _ h1)).1
      omega
  refine ⟨s'.os.trans s.os, s'.output.trans s.output, s'.tape.trans s.tape, Nat.le_trans s.size hsz, fun b hb => ?_, ?_⟩
  · rw [← s.base b hb]
    have hlt : b < w.heap.size := Nat.lt_of_lt_of_le hb s.size
    have h1 : w.heap[b]? = some w.heap[b] := Array.getElem?_eq_getElem hlt
    rw [h1]
    exact s'.fr _ _ h1
  · obtain ⟨hh, h1, h2⟩ := s.heap
    exact ⟨hh, fun b o hb => ⟨s'.fr _ _ (h1 b o hb).1, (h1 b o hb).2⟩, h2⟩
theorem sp_run (hm : C.P.follows .mixedOrders = true) {B : World} {R : List Go.Sk.HP} (hC : C.OK (fun b => B.heap[b]?)) (hf : C.FOK) (hsp : ∀ B F, C.OK F → SpOK B F C sp) {f : Nat} {vs : List Value} {v : Value} {h' : Hp} (hx : callN C lf sp k f vs (hp0 C.G) = .ret v h') (hv : noAddr v = true) (hvs : wfL 0 vs = true) :
    Go.Sk.Sp B C.P f vs R [] (fun u H' => u = v ∧ H' = []) := fun w s => by
  have s : Go.Sk.Sat B R w := s
  have hC' : C.OK (fun b => w.heap[b]?) := hC.mono fun b o hb => by
    have hlt := (Array.getElem?_eq_some_iff.1 hb).1
    rw [s.base b hlt]
    exact hb
  have := callN_ok hm hC' hf (hsp _) (lf := lf) k f vs (hp0 C.G) _ w (fun t e => by rw [hx] at e; cases e) (wfL_mono (Nat.zero_le _) _ hvs) (satX_start w C.G)
  rw [hx, renL_id _ _ hvs] at this
  refine this.mono fun e w' hq => ?_
  obtain ⟨ρ', rfl, _, _, _, s'⟩ := hq
  exact ⟨v, [], by rw [ren_id _ _ hv], ⟨rfl, rfl⟩, sat_grow s s'⟩
theorem sp_true (hm : C.P.follows .mixedOrders = true) {B : World} {R : List Go.Sk.HP} (hC : C.OK (fun b => B.heap[b]?)) (hf : C.FOK) (hsp : ∀ B F, C.OK F → SpOK B F C sp) {f : Nat} (hx : isTrue (callN C lf sp k f [] (hp0 C.G)) = true) :
    Go.Sk.Sp B C.P f [] R [] (fun u H' => u = .bool true ∧ H' = []) := by
  obtain ⟨h', hx⟩ := isTrue_ok hx
  exact sp_run hm hC hf hsp hx rfl rfl
end
end Go.Xs
