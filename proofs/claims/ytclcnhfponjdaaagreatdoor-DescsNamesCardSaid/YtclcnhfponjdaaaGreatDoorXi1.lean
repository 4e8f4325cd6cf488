/- A walked function in the reckoning: bytes laid into a row of bytes. Plain theorems, no condition. -/
import Derived.Test.YtclcnhfponjdaaaGreatDoorXs21
set_option linter.unusedVariables false
set_option linter.unusedSimpArgs false
namespace Go.Xs
open Go.RowKit
open Go.Sk (HP Own ints Sat Sp star Dj Le)

theorem byteL_ints {l : List Value} {m : List UInt8} (h : byteL l = some m) : l = ints .u8 (m.map fun b => (b.toNat : Int)) := by
  rw [byteL_ok h]
  simp [ints, List.map_map, Function.comp_def]
/-- The bytes of a row that is owned. -/
def ownX (e : TypeId) (h : Hp) (nm n c : Nat) : Option (List UInt8) := match h.get nm with
  | some (.cells l e') => bif Nat.beq e' e && Nat.beq (c % 2) 0 && Nat.beq l.length (c / 2) && Nat.ble n (c / 2) && Nat.ble (c / 2) 9223372036854775807 then byteL (l.take n) else none
  | some (.grow l e' 1) => bif Nat.beq e' e && Nat.beq c 1 && Nat.ble n l.length then byteL (l.take n) else none
  | _ => none
def byteV (l : List UInt8) : List Value := l.map fun b => .int .u8 (b.toNat : Int)
theorem byteV_ints (l : List UInt8) : byteV l = ints .u8 (l.map fun b => (b.toNat : Int)) := by simp [byteV, ints, List.map_map, Function.comp_def]
theorem byteV_no (l : List UInt8) : wfL 0 (byteV l) = true := wfL_iff.2 fun v hv => by
  unfold byteV at hv
  obtain ⟨b, _, rfl⟩ := List.mem_map.1 hv
  rfl
def spIns (fi : Nat) (e : TypeId) (f : Nat) (args : List Value) (h : Hp) : Option FR := match args with
  | [.slice (some ⟨nm, 0, none⟩) n c, .int .i64 (.ofNat i), .slice (some ⟨nm', 0, none⟩) m c'] =>
    bif Nat.beq f fi && Nat.ble i n && Nat.ble (n + m) 33554432 && Nat.blt 0 (n + m) && !Nat.beq nm nm' then match ownX e h nm n c with
      | some l => match ownX e h nm' m c' with
        | some l' => some (.ret (.slice (some ⟨h.next, 0, none⟩) (n + m) 1) (((h.del nm).del nm').new (.grow (byteV (l.take i ++ l' ++ l.drop i)) e 1)))
        | none => none
      | none => none
    else none
  | _ => none
section
variable {B : World} {F : PH} {C : Ctx} {h : Hp} {ρ : Val} {w : World}
theorem ownX_ok (s : SatX B F C.G h ρ w) {e nm n c : Nat} {l : List UInt8} (hx : ownX e h nm n c = some l) :
    l.length = n ∧ (∃ o, h.get nm = some o) ∧ ∀ hh : PH, hh (ρ.b nm) = w.heap[ρ.b nm]? → Own (some ⟨ρ.b nm, 0, none⟩) (capOf ρ nm c) e 1 n (ints .u8 (l.map fun b => (b.toNat : Int))) hh := by
  unfold ownX at hx
  split at hx
  · rename_i xs e' hg
    cases hb : Nat.beq e' e && Nat.beq (c % 2) 0 && Nat.beq xs.length (c / 2) && Nat.ble n (c / 2) && Nat.ble (c / 2) 9223372036854775807 with
    | false => rw [hb] at hx; cases hx
    | true =>
      rw [hb] at hx
      simp only [Bool.and_eq_true, Nat.beq_eq, Nat.ble_eq] at hb
      obtain ⟨⟨⟨⟨rfl, h2⟩, h3⟩, h4⟩, h5⟩ := hb
      simp only [cond_true] at hx
      have hbl := byteL_ints hx
      have hlen : l.length = n := by
        have := congrArg List.length hbl
        simp [ints] at this
        omega
      obtain ⟨_, _, _, obj, hob, hi⟩ := s.ob nm _ hg
      simp only [SObj.is] at hi
      subst hi
      have hcap : capOf ρ nm c = c / 2 := by unfold capOf; rw [if_pos h2]
      refine ⟨hlen, ⟨_, hg⟩, fun hh hhe => ⟨by simp [ints, hlen], by omega, by rw [hcap]; exact h5, .inr ⟨ρ.b nm, _, rfl, by rw [hhe, hob], ?_, ?_⟩⟩⟩
      · simp [renL_len]; omega
      · rw [← hbl]
        simp only [Nat.mul_one]
        rw [← renL_take, hbl]
        exact renL_id ρ _ (by rw [← byteV_ints]; exact byteV_no l)
  · rename_i xs e' hg
    cases hb : Nat.beq e' e && Nat.beq c 1 && Nat.ble n xs.length with
    | false => rw [hb] at hx; cases hx
    | true =>
      rw [hb] at hx
      simp only [Bool.and_eq_true, Nat.beq_eq, Nat.ble_eq] at hb
      obtain ⟨⟨rfl, rfl⟩, h4⟩ := hb
      simp only [cond_true] at hx
      have hbl := byteL_ints hx
      have hlen : l.length = n := by
        have := congrArg List.length hbl
        simp [ints] at this
        omega
      obtain ⟨_, _, _, obj, hob, hi⟩ := s.ob nm _ hg
      obtain ⟨tail, rfl, ht1, ht2⟩ := hi
      have hx1 : xs.length ≤ ρ.c nm := by
        have := ht1
        rw [List.length_append, renL_len] at this
        omega
      rw [capOf_one]
      refine ⟨hlen, ⟨_, hg⟩, fun hh hhe => ⟨by simp [ints, hlen], by omega, ht2, .inr ⟨ρ.b nm, _, rfl, by rw [hhe, hob], by simpa using ht1, ?_⟩⟩⟩
      rw [← hbl]
      simp only [Nat.mul_one]
      rw [List.take_append_of_le_length (by rw [renL_len]; exact h4), ← renL_take, hbl]
      exact renL_id ρ _ (by rw [← byteV_ints]; exact byteV_no l)
  · cases hx
theorem spIns_ok {fi e : Nat} (hins : ∀ (B : World) (R : List HP) (a av : Option Addr) (c cv n m i : Nat) (l l' : List Int), i ≤ n → n + m ≤ 33554432 →
      Sp B C.P fi [.slice a n c, .int .i64 i, .slice av m cv] R [Own a c e 1 n (ints .u8 l), Own av cv e 1 m (ints .u8 l')] (fun u H' => ∃ a' c', u = .slice a' (n + m) c' ∧ H' = [Own a' c' e 1 (n + m) (ints .u8 (l.take i ++ l' ++ l.drop i))])) :
    SpOK B F C (spIns fi e) := by
  intro f args h ρ w r hx hno hwf s
  unfold spIns at hx
  split at hx
  · rename_i nm n c i nm' m c'
    cases hb : Nat.beq f fi && Nat.ble i n && Nat.ble (n + m) 33554432 && Nat.blt 0 (n + m) && !Nat.beq nm nm' with
    | false => rw [hb] at hx; cases hx
    | true =>
      rw [hb] at hx
      simp only [Bool.and_eq_true, Nat.beq_eq, Nat.ble_eq, Nat.blt_eq, Bool.not_eq_true'] at hb
      obtain ⟨⟨⟨⟨rfl, h2⟩, h3⟩, h4⟩, h5⟩ := hb
      have hne : nm ≠ nm' := fun e => by rw [e, Nat.beq_refl] at h5; cases h5
      simp only [cond_true] at hx
      split at hx
      · rename_i l hl
        split at hx
        · rename_i l' hl'
          cases hx
          obtain ⟨n1, ⟨o1, g1⟩, w1⟩ := ownX_ok s hl
          obtain ⟨n2, ⟨o2, g2⟩, w2⟩ := ownX_ok s hl'
          have hbne : ρ.b nm ≠ ρ.b nm' := fun e => hne (s.inj _ _ _ _ g1 g2 e)
          let rest : HP := fun hh => ∀ b o, b ≠ ρ.b nm → b ≠ ρ.b nm' → w.heap[b]? = some o → hh b = some o
          have hsat : Sat { w with heap := #[] } ([Own (some ⟨ρ.b nm, 0, none⟩) (capOf ρ nm c) e 1 n (ints .u8 (l.map fun b => (b.toNat : Int))), Own (some ⟨ρ.b nm', 0, none⟩) (capOf ρ nm' c') e 1 m (ints .u8 (l'.map fun b => (b.toNat : Int)))] ++ [rest]) w := by
            refine ⟨rfl, rfl, rfl, Nat.zero_le _, fun b hb => absurd hb (Nat.not_lt_zero _), fun b => w.heap[b]?, fun b o hb => ⟨hb, Nat.zero_le _⟩, ?_⟩
            refine ⟨fun b => if b = ρ.b nm then w.heap[b]? else none, fun b => if b = ρ.b nm then none else w.heap[b]?, ?_, ?_, ?_, w1 _ (by simp), ?_⟩
            · intro b
              by_cases e : b = ρ.b nm <;> simp [e]
            · intro b o hb
              by_cases e : b = ρ.b nm
              · simpa [e] using hb
              · simp [e] at hb
            · intro b o hb
              by_cases e : b = ρ.b nm
              · simp [e] at hb
              · simpa [e] using hb
            · refine ⟨fun b => if b = ρ.b nm' then w.heap[b]? else none, fun b => if b = ρ.b nm ∨ b = ρ.b nm' then none else w.heap[b]?, ?_, ?_, ?_, w2 _ (by simp), ?_⟩
              · intro b
                by_cases e : b = ρ.b nm' <;> simp [e]
              · intro b o hb
                by_cases e : b = ρ.b nm'
                · subst e
                  simp only [if_true] at hb
                  simp only [if_neg (fun e => hbne e.symm : ¬ ρ.b nm' = ρ.b nm)]
                  exact hb
                · simp [e] at hb
              · intro b o hb
                by_cases e : b = ρ.b nm
                · simp [e] at hb
                · by_cases e' : b = ρ.b nm'
                  · simp [e'] at hb
                  · simp only [e, e', or_self, if_false] at hb ⊢
                    exact hb
              · refine ⟨fun b => if b = ρ.b nm ∨ b = ρ.b nm' then none else w.heap[b]?, fun _ => none, ?_, fun _ _ hb => hb, fun _ _ hb => (by cases hb), ?_, trivial⟩
                · intro b
                  exact .inr rfl
                · intro b o e1 e2 hb
                  simp [e1, e2, hb]
          have hcalls := hins _ [rest] (some ⟨ρ.b nm, 0, none⟩) (some ⟨ρ.b nm', 0, none⟩) (capOf ρ nm c) (capOf ρ nm' c') n m i _ _ h2 h3 w hsat
          have hargs : (renL ρ [Value.slice (some ⟨nm, 0, none⟩) n c, .int .i64 (.ofNat i), .slice (some ⟨nm', 0, none⟩) m c']) = [.slice (some ⟨ρ.b nm, 0, none⟩) n (capOf ρ nm c), .int .i64 (i : Int), .slice (some ⟨ρ.b nm', 0, none⟩) m (capOf ρ nm' c')] := by simp [renL, ren]
          rw [hargs]
          refine hcalls.mono fun en w' ⟨v, H', hen, ⟨a', k, hv, hH⟩, s'⟩ => ?_
          subst hH
          subst hv
          subst hen
          obtain ⟨hh, hle, p1, p2, hdj, l1, l2, ho, p3, p4, _, l3, _, hr, _⟩ := s'.heap
          obtain ⟨q1, q2, q3, q4⟩ := ho
          rcases q4 with ⟨_, rfl⟩ | ⟨g, cur, rfl, q5, q6, q7⟩
          · omega
          · have hL : (l.map (fun b => (b.toNat : Int))).take i ++ l'.map (fun b => (b.toNat : Int)) ++ (l.map (fun b => (b.toNat : Int))).drop i = (l.take i ++ l' ++ l.drop i).map fun b => (b.toNat : Int) := by simp [List.map_take, List.map_drop]
            rw [hL, ← byteV_ints] at q7
            have hrest : ∀ b o, b ≠ ρ.b nm → b ≠ ρ.b nm' → w.heap[b]? = some o → p2 b = some o ∧ w'.heap[b]? = some o := fun b o e1 e2 hb => by
              have := l3 _ _ (hr b o e1 e2 hb)
              exact ⟨this, (hle _ _ (l2 _ _ this)).1⟩
            have hng : ∀ b o, b ≠ ρ.b nm → b ≠ ρ.b nm' → w.heap[b]? = some o → g ≠ b := fun b o e1 e2 hb e => by
              subst e
              have := (hrest _ _ e1 e2 hb).1
              rcases hdj g with hd | hd
              · rw [q5] at hd; cases hd
              · rw [this] at hd; cases hd
            have hE := Val.put_ext ρ h.next g k
            have back : ∀ x o, (((h.del nm).del nm').new (.grow (byteV (l.take i ++ l' ++ l.drop i)) e 1)).get x = some o → x ≠ h.next → x ≠ nm ∧ x ≠ nm' ∧ h.get x = some o := fun x o hg hx => by
              have h1 := Hp.get_new_ne (h := (h.del nm).del nm') hx hg
              obtain ⟨h2, h3⟩ := Hp.get_del h1
              obtain ⟨h4, h5⟩ := Hp.get_del h3
              exact ⟨h4, h2, h5⟩
            have blk : ∀ x o, x ≠ nm → x ≠ nm' → h.get x = some o → ρ.b x ≠ ρ.b nm ∧ ρ.b x ≠ ρ.b nm' := fun x o e1 e2 hg => ⟨fun e => e1 (s.inj _ _ _ _ hg g1 e), fun e => e2 (s.inj _ _ _ _ hg g2 e)⟩
            have hFb : ∀ b o, F b = some o → b ≠ ρ.b nm ∧ b ≠ ρ.b nm' := fun b o hF => ⟨fun e => (by rw [e, (s.ob nm _ g1).1] at hF; cases hF), fun e => (by rw [e, (s.ob nm' _ g2).1] at hF; cases hF)⟩
            refine ⟨ρ.put h.next g k, by simp [ren, Val.put_b, capOf, Val.put_c], hE, Nat.le_succ _, by simp [wfv, Nat.blt_eq, Hp.new, Hp.del],
              ⟨s'.os.trans s.os, s'.output.trans s.output, s'.tape.trans s.tape, fun b o hF => ?_, fun x o hg => ?_, fun x x' o o' hg hg' hb => ?_, fun y hy => by rw [(hE y (Nat.lt_of_lt_of_le hy s.gn)).1]; exact s.gl y hy, Nat.le_succ_of_le s.gn⟩⟩
            · obtain ⟨e1, e2⟩ := hFb b o hF
              exact (hrest b o e1 e2 (s.fr b o hF)).2
            · by_cases ex : x = h.next
              · subst ex
                have : (((h.del nm).del nm').new (.grow (byteV (l.take i ++ l' ++ l.drop i)) e 1)).get ((h.del nm).del nm').next = _ := Hp.get_new
                rw [show h.next = ((h.del nm).del nm').next from rfl, this] at hg
                cases hg
                rw [Val.put_b]
                refine ⟨?_, by simp [Hp.new, Hp.del], wfL_mono (Nat.zero_le _) _ (byteV_no _), .cells cur e (0, 0), (hle _ _ (l1 _ _ q5)).1, ?_⟩
                · cases hF : F g with
                  | none => rfl
                  | some o =>
                    obtain ⟨e1, e2⟩ := hFb g o hF
                    exact absurd rfl (hng g o e1 e2 (s.fr g o hF))
                · refine ⟨cur.toList.drop (n + m), ?_, ?_, by rw [Val.put_c]; exact q3⟩
                  · rw [renL_id _ _ (byteV_no _), ← q7]
                    simp only [Nat.mul_one, List.take_append_drop]
                  · rw [renL_id _ _ (byteV_no _), ← q7, Val.put_c]
                    simp only [Nat.mul_one, List.take_append_drop]
                    rw [Nat.mul_one] at q6
                    simpa using q6
              · obtain ⟨e1, e2, e3⟩ := back x o hg ex
                obtain ⟨b1, b2⟩ := blk x o e1 e2 e3
                obtain ⟨h1, h2, h3, obj, h4, h5⟩ := s.ob x o e3
                rw [(hE x h2).1]
                exact ⟨h1, Nat.lt_succ_of_lt h2, wfo_mono (Nat.le_succ _) _ h3, obj, (hrest _ _ b1 b2 h4).2, is_ext hE h2 h3 h5⟩
            · have cross : ∀ y oy, y ≠ h.next → (((h.del nm).del nm').new (.grow (byteV (l.take i ++ l' ++ l.drop i)) e 1)).get y = some oy → (ρ.put h.next g k).b y ≠ g := fun y oy hy hgy e => by
                obtain ⟨e1, e2, e3⟩ := back y oy hgy hy
                obtain ⟨b1, b2⟩ := blk y oy e1 e2 e3
                obtain ⟨_, h2, _, obj, h4, _⟩ := s.ob y oy e3
                rw [(hE y h2).1] at e
                exact hng _ _ b1 b2 h4 e.symm
              by_cases ex : x = h.next
              · by_cases ex' : x' = h.next
                · rw [ex, ex']
                · rw [ex, Val.put_b] at hb
                  exact absurd hb.symm (cross x' o' ex' hg')
              · by_cases ex' : x' = h.next
                · rw [ex', Val.put_b] at hb
                  exact absurd hb (cross x o ex hg)
                · obtain ⟨_, _, e3⟩ := back x o hg ex
                  obtain ⟨_, _, e3'⟩ := back x' o' hg' ex'
                  rw [(hE x (s.ob x o e3).2.1).1, (hE x' (s.ob x' o' e3').2.1).1] at hb
                  exact s.inj _ _ _ _ e3 e3' hb
        · cases hx
      · cases hx
  · cases hx
end
end Go.Xs
