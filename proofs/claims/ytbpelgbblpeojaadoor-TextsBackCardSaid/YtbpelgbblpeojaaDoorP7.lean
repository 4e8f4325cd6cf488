/- Plain laws: base64 comes back, with either alphabet, padded or not; a digit too many; bits left over. -/
import Derived.Test.YtbpelgbblpeojaaDoorP1
set_option linter.unusedVariables false
set_option linter.unusedSimpArgs false
namespace Go.Proofs.YtbpelgbblpeojaaDoor
open Go.Sk
set_option maxRecDepth 100000
/-- The digits' values. -/
def vls : List Int → List Int
  | [] => []
  | [a] => [a * 65536 / 262144, a * 65536 / 4096 % 64]
  | [a, b] => [(a * 65536 + b * 256) / 262144, (a * 65536 + b * 256) / 4096 % 64, (a * 65536 + b * 256) / 64 % 64]
  | a :: b :: c :: r => (a * 65536 + b * 256 + c) / 262144 :: (a * 65536 + b * 256 + c) / 4096 % 64 :: (a * 65536 + b * 256 + c) / 64 % 64 :: (a * 65536 + b * 256 + c) % 64 :: vls r
theorem b64_vls : ∀ (l : List Int), Byt l → b64 0 0 l = (vls l).map dg
  | [], _ => rfl
  | [a], h => by rw [b64_one (h a (by simp))]; rfl
  | [a, b], h => by rw [b64_two (h a (by simp)) (h b (by simp))]; rfl
  | a :: b :: c :: r, h => by
    rw [b64_three (h a (by simp)) (h b (by simp)) (h c (by simp)), b64_vls r (fun x hx => h x (by simp [hx]))]
    rfl
theorem vls_ok : ∀ (l : List Int), Byt l → ∀ v ∈ vls l, 0 ≤ v ∧ v < 64
  | [], _, v, hv => by cases hv
  | [a], h, v, hv => by
    obtain ⟨h0, h1⟩ := h a (by simp)
    simp only [vls, List.mem_cons, List.not_mem_nil, or_false] at hv
    rcases hv with rfl | rfl <;> omega
  | [a, b], h, v, hv => by
    obtain ⟨h0, h1⟩ := h a (by simp)
    obtain ⟨h2, h3⟩ := h b (by simp)
    simp only [vls, List.mem_cons, List.not_mem_nil, or_false] at hv
    rcases hv with rfl | rfl | rfl <;> omega
  | a :: b :: c :: r, h, v, hv => by
    obtain ⟨h0, h1⟩ := h a (by simp)
    obtain ⟨h2, h3⟩ := h b (by simp)
    obtain ⟨h4, h5⟩ := h c (by simp)
    simp only [vls, List.mem_cons] at hv
    rcases hv with rfl | rfl | rfl | rfl | hv
    · omega
    · omega
    · omega
    · omega
    · exact vls_ok r (fun x hx => h x (by simp [hx])) v hv
theorem unb4 {a b c : Int} {r : List Int} (ha : isB a) (hb : isB b) (hc : isB c) :
    unb 0 0 ((a * 65536 + b * 256 + c) / 262144 :: (a * 65536 + b * 256 + c) / 4096 % 64 :: (a * 65536 + b * 256 + c) / 64 % 64 :: (a * 65536 + b * 256 + c) % 64 :: r) = (a :: b :: c :: (unb 0 0 r).1, (unb 0 0 r).2) := by
  obtain ⟨a0, a1⟩ := ha
  obtain ⟨b0, b1⟩ := hb
  obtain ⟨c0, c1⟩ := hc
  generalize hn : a * 65536 + b * 256 + c = n
  have e1 : unb 0 0 (n / 262144 :: n / 4096 % 64 :: n / 64 % 64 :: n % 64 :: r) = unb (0 * 64 + n / 262144) 6 (n / 4096 % 64 :: n / 64 % 64 :: n % 64 :: r) := by rw [unb, if_neg (by omega)]
  rw [e1, unb, if_pos (by omega)]
  simp only [Nat.reduceSub]
  have e2 : ((0 * 64 + n / 262144) * 64 + n / 4096 % 64) / 2 ^ 4 = a := by omega
  have e3 : ((0 * 64 + n / 262144) * 64 + n / 4096 % 64) % 2 ^ 4 = b / 16 := by omega
  rw [e2, e3, unb, if_pos (by omega)]
  simp only [Nat.reduceSub]
  have e4 : (b / 16 * 64 + n / 64 % 64) / 2 ^ 2 = b := by omega
  have e5 : (b / 16 * 64 + n / 64 % 64) % 2 ^ 2 = c / 64 := by omega
  rw [e4, e5, unb, if_pos (by omega)]
  simp only [Nat.reduceSub]
  have e6 : (c / 64 * 64 + n % 64) / 2 ^ 0 = c := by omega
  have e7 : (c / 64 * 64 + n % 64) % 2 ^ 0 = 0 := by omega
  rw [e6, e7]
/-- Read again; a nought more; other bits at the end. -/
theorem unb_vls : ∀ (l : List Int), Byt l → unb 0 0 (vls l) = (l, 0) ∧ ((vls l).length % 4 ≠ 0 → (unb 0 0 (vls l ++ [0])).2 = 0) ∧ (vls l).length % 4 ≠ 1 ∧
    ∀ k : Int, 1 ≤ k → ((vls l).length % 4 = 2 ∧ k ≤ 15 ∨ (vls l).length % 4 = 3 ∧ k ≤ 3) → (vls l).getD ((vls l).length - 1) 0 + k < 64 ∧ (unb 0 0 ((vls l).set ((vls l).length - 1) ((vls l).getD ((vls l).length - 1) 0 + k))).2 ≠ 0
  | [], _ => ⟨rfl, fun h => absurd rfl h, by decide, fun k _ h => by simp [vls] at h⟩
  | [a], h => by
    obtain ⟨h0, h1⟩ := h a (by simp)
    refine ⟨?_, fun _ => ?_, by simp [vls], fun k hk hl => ?_⟩
    · simp only [vls, unb, Nat.reduceLeDiff, if_false, if_true, Nat.reduceAdd, Nat.reduceSub]
      refine Prod.ext ?_ ?_
      · simp only [List.cons.injEq, and_true]; omega
      · simp only; omega
    · simp only [vls, List.cons_append, List.nil_append, unb, Nat.reduceLeDiff, if_false, if_true, Nat.reduceAdd, Nat.reduceSub]
      omega
    · have hk2 : k ≤ 15 := by
        simp [vls] at hl
        omega
      simp only [vls, List.length_cons, List.length_nil, Nat.reduceAdd, Nat.reduceSub, List.getD_cons_succ, List.getD_cons_zero, List.set_cons_succ, List.set_cons_zero, unb, Nat.reduceLeDiff, if_false, if_true]
      exact ⟨by omega, by omega⟩
  | [a, b], h => by
    obtain ⟨h0, h1⟩ := h a (by simp)
    obtain ⟨h2, h3⟩ := h b (by simp)
    refine ⟨?_, fun _ => ?_, by simp [vls], fun k hk hl => ?_⟩
    · simp only [vls, unb, Nat.reduceLeDiff, if_false, if_true, Nat.reduceAdd, Nat.reduceSub]
      refine Prod.ext ?_ ?_
      · simp only [List.cons.injEq, and_true]; omega
      · simp only; omega
    · simp only [vls, List.cons_append, List.nil_append, unb, Nat.reduceLeDiff, if_false, if_true, Nat.reduceAdd, Nat.reduceSub]
      omega
    · have hk2 : k ≤ 3 := by
        simp [vls] at hl
        omega
      simp only [vls, List.length_cons, List.length_nil, Nat.reduceAdd, Nat.reduceSub, List.getD_cons_succ, List.getD_cons_zero, List.set_cons_succ, List.set_cons_zero, unb, Nat.reduceLeDiff, if_false, if_true]
      exact ⟨by omega, by omega⟩
  | a :: b :: c :: r, h => by
    obtain ⟨i1, i2, i3, i4⟩ := unb_vls r (fun x hx => h x (by simp [hx]))
    have ha := h a (by simp)
    have hb := h b (by simp)
    have hc := h c (by simp)
    refine ⟨?_, fun hl => ?_, ?_, fun k hk hl => ?_⟩
    · rw [vls, unb4 ha hb hc, i1]
    · rw [vls, List.cons_append, List.cons_append, List.cons_append, List.cons_append, unb4 ha hb hc]
      exact i2 (by simp only [vls, List.length_cons] at hl; omega)
    · simp only [vls, List.length_cons]; omega
    · have hp : 0 < (vls r).length := by
        rcases Nat.eq_zero_or_pos (vls r).length with h0 | h0
        · simp only [vls, List.length_cons, h0] at hl; omega
        · exact h0
      obtain ⟨n, hn⟩ : ∃ n, (vls r).length = n + 1 := ⟨(vls r).length - 1, by omega⟩
      have hlen : (vls (a :: b :: c :: r)).length - 1 = n + 1 + 1 + 1 + 1 := by simp only [vls, List.length_cons, hn]; omega
      obtain ⟨j1, j2⟩ := i4 k hk (by simp only [vls, List.length_cons] at hl; omega)
      rw [hn, Nat.add_sub_cancel] at j1 j2
      rw [hlen, vls]
      simp only [List.getD_cons_succ, List.set_cons_succ]
      rw [unb4 ha hb hc]
      exact ⟨j1, j2⟩
/-- '-' and '_' for '+' and '/'. -/
def sw (c : Int) : Int := if c = 43 then 45 else if c = 47 then 95 else c
theorem dg_facts : ∀ n : Fin 64, worthV (dg (n.1 : Nat)) = (n.1 : Nat) ∧ worthV (sw (dg (n.1 : Nat))) = (n.1 : Nat) ∧ dg (n.1 : Nat) ≠ 61 ∧ 0 ≤ sw (dg (n.1 : Nat)) ∧ sw (dg (n.1 : Nat)) < 256 := by decide +kernel
theorem dg_ok {v : Int} (h0 : 0 ≤ v) (h1 : v < 64) : worthV (dg v) = v ∧ worthV (sw (dg v)) = v ∧ dg v ≠ 61 ∧ 0 ≤ sw (dg v) ∧ sw (dg v) < 256 := by
  have := dg_facts ⟨v.toNat, by omega⟩
  simp only [show ((v.toNat : Nat) : Int) = v by omega] at this
  exact this
theorem vlen_app : ∀ (ds rest : List Int), (∀ x ∈ ds, 0 ≤ worthV x) → (∀ x, rest.head? = some x → worthV x < 0) → vlen (ds ++ rest) = ds.length
  | [], rest, _, h => by
    cases rest with
    | nil => rfl
    | cons x r => rw [List.nil_append, vlen, if_neg (by have := h x rfl; omega)]; rfl
  | d :: ds, rest, h, hr => by
    rw [List.cons_append, vlen, if_pos (h d (by simp)), vlen_app ds rest (fun x hx => h x (by simp [hx])) hr, List.length_cons]
    omega
theorem unb64_app {ds rest : List Int} (h : ∀ x ∈ ds, 0 ≤ worthV x) (hr : ∀ x, rest.head? = some x → worthV x < 0) :
    unb64L (ds ++ rest) = if ds.length % 4 = 1 ∨ (rest ≠ [] ∧ (ds.length % 4 = 0 ∨ rest ≠ [61, 61].take (4 - ds.length % 4))) then ([], 22) else if (unb 0 0 (ds.map worthV)).2 = 0 then ((unb 0 0 (ds.map worthV)).1, 0) else ([], 22) := by
  have hv := vlen_app ds rest h hr
  have hbad : bad64 (ds ++ rest) ↔ (ds.length % 4 = 1 ∨ (rest ≠ [] ∧ (ds.length % 4 = 0 ∨ rest ≠ [61, 61].take (4 - ds.length % 4)))) := by
    unfold bad64
    rw [hv, List.drop_left]
  have hvals : vals (ds ++ rest) = ds.map worthV := by
    unfold vals
    rw [hv, List.take_left]
  unfold unb64L
  rw [hvals]
  by_cases hc : ds.length % 4 = 1 ∨ (rest ≠ [] ∧ (ds.length % 4 = 0 ∨ rest ≠ [61, 61].take (4 - ds.length % 4)))
  · rw [if_pos (hbad.2 hc), if_pos hc]
  · rw [if_neg (fun h => hc (hbad.1 h)), if_neg hc]
/-- The digits of l. -/
abbrev dgL (l : List Int) : List Int := b64 0 0 l
theorem dgL_facts {l : List Int} (hb : Byt l) : (∀ x ∈ dgL l, 0 ≤ worthV x) ∧ (∀ x ∈ (dgL l).map sw, 0 ≤ worthV x) ∧ (dgL l).map worthV = vls l ∧ ((dgL l).map sw).map worthV = vls l ∧ (dgL l).length = (vls l).length ∧ (∀ x ∈ dgL l, x ≠ 61) ∧ Byt ((dgL l).map sw) := by
  have hv := vls_ok l hb
  have e : dgL l = (vls l).map dg := b64_vls l hb
  rw [e]
  refine ⟨?_, ?_, ?_, ?_, by simp, ?_, ?_⟩
  · intro x hx
    obtain ⟨v, hm, rfl⟩ := List.mem_map.1 hx
    obtain ⟨h0, h1⟩ := hv v hm
    rw [(dg_ok h0 h1).1]; exact h0
  · intro x hx
    rw [List.map_map] at hx
    obtain ⟨v, hm, rfl⟩ := List.mem_map.1 hx
    obtain ⟨h0, h1⟩ := hv v hm
    simp only [Function.comp]
    rw [(dg_ok h0 h1).2.1]; exact h0
  · rw [List.map_map]
    exact (List.map_congr_left fun v hm => (dg_ok (hv v hm).1 (hv v hm).2).1).trans (List.map_id _)
  · rw [List.map_map, List.map_map]
    exact (List.map_congr_left fun v hm => (dg_ok (hv v hm).1 (hv v hm).2).2.1).trans (List.map_id _)
  · intro x hx
    obtain ⟨v, hm, rfl⟩ := List.mem_map.1 hx
    exact (dg_ok (hv v hm).1 (hv v hm).2).2.2.1
  · intro x hx
    rw [List.map_map] at hx
    obtain ⟨v, hm, rfl⟩ := List.mem_map.1 hx
    obtain ⟨_, _, _, h4, h5⟩ := dg_ok (hv v hm).1 (hv v hm).2
    exact ⟨h4, h5⟩
def padL (l : List Int) : List Int := List.replicate (padN (dgL l).length) 61
theorem base_pad (l : List Int) : base64L l = dgL l ++ padL l := rfl
theorem pad_head (k : Nat) : ∀ x, (List.replicate k (61 : Int)).head? = some x → worthV x < 0 := fun x h => by
  cases k with
  | zero => simp at h
  | succ k => simp [List.replicate_succ] at h; subst h; decide
theorem pad_take {n : Nat} (h1 : n % 4 ≠ 1) (h0 : n % 4 ≠ 0) : List.replicate (padN n) (61 : Int) = [61, 61].take (4 - n % 4) := by
  have : n % 4 = 2 ∨ n % 4 = 3 := by omega
  unfold padN
  rcases this with h | h <;> rw [h] <;> rfl
theorem back_any {ds rest : List Int} {l : List Int} (hb : Byt l) (h : ∀ x ∈ ds, 0 ≤ worthV x) (hm : ds.map worthV = vls l) (hr : rest = [] ∨ rest = padL l) : unb64L (ds ++ rest) = (l, 0) := by
  obtain ⟨i1, _, i3, _⟩ := unb_vls l hb
  obtain ⟨_, _, _, _, f5, _⟩ := dgL_facts hb
  have hl : ds.length = (vls l).length := by rw [← hm, List.length_map]
  rw [unb64_app h (fun x hx => by
    rcases hr with rfl | rfl
    · simp at hx
    · exact pad_head _ x hx), hm, i1, if_neg, if_pos rfl]
  rintro (h1 | ⟨h1, h2⟩)
  · omega
  · rcases hr with rfl | rfl
    · exact h1 rfl
    · unfold padL at h1 h2
      rw [f5] at h1 h2
      rcases h2 with h2 | h2
      · apply h1
        have : padN (vls l).length = 0 := by unfold padN; omega
        rw [this]; rfl
      · apply h2
        rw [hl]
        refine pad_take i3 (fun h0 => ?_)
        apply h1
        have : padN (vls l).length = 0 := by unfold padN; omega
        rw [this]; rfl
theorem more_pad {l : List Int} (hb : Byt l) : (unb64L (base64L l ++ [61])).2 = 22 := by
  obtain ⟨_, _, i3, _⟩ := unb_vls l hb
  obtain ⟨f1, _, f3, _, f5, _⟩ := dgL_facts hb
  rw [base_pad, List.append_assoc]
  have hp : padL l ++ [61] = List.replicate (padN (dgL l).length + 1) 61 := by unfold padL; rw [List.replicate_succ']
  rw [hp, unb64_app f1 (pad_head _), if_pos]
  refine .inr ⟨by simp [List.replicate_succ], ?_⟩
  by_cases h0 : (dgL l).length % 4 = 0
  · exact .inl h0
  · refine .inr fun h => ?_
    have := congrArg List.length h
    rw [List.length_replicate, List.length_take] at this
    simp only [List.length_cons, List.length_nil] at this
    unfold padN at this
    rw [f5] at this h0
    omega
theorem more_A {l : List Int} (hb : Byt l) : (unb64L (dgL l ++ [65])).2 = 22 ↔ (dgL l).length % 4 = 0 := by
  obtain ⟨_, i2, i3, _⟩ := unb_vls l hb
  obtain ⟨f1, _, f3, _, f5, _⟩ := dgL_facts hb
  have h := unb64_app (ds := dgL l ++ [65]) (rest := []) (fun x hx => by
    rcases List.mem_append.1 hx with hx | hx
    · exact f1 x hx
    · simp at hx; subst hx; decide) (fun x hx => by simp at hx)
  rw [List.append_nil] at h
  rw [h, List.map_append, f3, List.length_append, f5]
  have e65 : [(65 : Int)].map worthV = [0] := rfl
  rw [e65]
  constructor
  · intro hx
    apply Classical.byContradiction
    intro h0
    rw [if_neg (by rintro (h1 | ⟨h1, _⟩); · simp at h1; omega
                   · exact h1 rfl), if_pos (i2 h0)] at hx
    exact absurd hx (by simp)
  · intro h0
    rw [if_pos (.inl (by simp; omega))]
theorem other_bits {l : List Int} (hb : Byt l) {k : Int} (hk : 1 ≤ k) (h : (dgL l).length % 4 = 2 ∧ k ≤ 15 ∨ (dgL l).length % 4 = 3 ∧ k ≤ 3) :
    (vls l).getD ((dgL l).length - 1) 0 + k < 64 ∧ (unb64L ((dgL l).set ((dgL l).length - 1) (dg ((vls l).getD ((dgL l).length - 1) 0 + k)))).2 = 22 := by
  obtain ⟨_, _, _, i4⟩ := unb_vls l hb
  obtain ⟨f1, _, f3, _, f5, _⟩ := dgL_facts hb
  rw [f5] at h ⊢
  obtain ⟨j1, j2⟩ := i4 k hk h
  refine ⟨j1, ?_⟩
  have hv := vls_ok l hb
  have hn : (vls l).length - 1 < (vls l).length := by omega
  have hv0 : 0 ≤ (vls l).getD ((vls l).length - 1) 0 := by
    rw [List.getD_eq_getElem?_getD, List.getElem?_eq_getElem hn]
    exact (hv _ (List.getElem_mem hn)).1
  obtain ⟨w1, _⟩ := dg_ok (v := (vls l).getD ((vls l).length - 1) 0 + k) (by omega) j1
  have hs := unb64_app (ds := (dgL l).set ((vls l).length - 1) (dg ((vls l).getD ((vls l).length - 1) 0 + k))) (rest := []) (fun x hx => by
    rcases List.mem_or_eq_of_mem_set hx with hx | rfl
    · exact f1 x hx
    · rw [w1]; omega) (fun x hx => by simp at hx)
  rw [List.append_nil] at hs
  rw [hs, List.map_set, f3, w1, if_neg j2]
  split <;> rfl
end Go.Proofs.YtbpelgbblpeojaaDoor
