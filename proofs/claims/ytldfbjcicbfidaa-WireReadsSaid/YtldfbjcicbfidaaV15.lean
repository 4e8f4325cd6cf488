/- Plain: fields, groups and contents as a grammar; what is read belongs to it, and what belongs to it is read. -/
import Derived.Test.YtldfbjcicbfidaaVC
set_option linter.unusedVariables false
set_option linter.unusedSimpArgs false
namespace Go.Sk
theorem vr_app : ∀ (x y : List Int) (i : Nat) (v r : Int) (k : Nat), vr x i v = .ok r k → vr (x ++ y) i v = .ok r k
  | [], y, i, v, r, k, h => by simp only [vr] at h; split at h <;> cases h
  | c :: x, y, i, v, r, k, h => by
    simp only [List.cons_append, vr] at h ⊢
    split at h
    · rename_i h1
      rw [if_pos h1]
      split at h
      · cases h
      · rename_i h2
        rw [if_neg h2]
        split at h
        · rename_i h3; rw [if_pos h3]; exact h
        · rename_i h3; rw [if_neg h3]; exact vr_app x y _ _ _ _ h
    · cases h
theorem vr_take : ∀ (l : List Int) (i : Nat) (v r : Int) (k : Nat), vr l i v = .ok r k → vr (l.take (k - i)) i v = .ok r k ∧ i < k ∧ k ≤ i + l.length
  | [], i, v, r, k, h => by simp only [vr] at h; split at h <;> cases h
  | c :: l, i, v, r, k, h => by
    simp only [vr] at h
    split at h
    · rename_i h1
      split at h
      · cases h
      · rename_i h2
        split at h
        · rename_i h3
          cases h
          rw [show i + 1 - i = 1 by omega]
          simp only [List.take_succ_cons, List.take_zero, vr, List.length_cons]
          rw [if_pos h1, if_neg h2, if_pos h3]
          exact ⟨rfl, by omega, by omega⟩
        · rename_i h3
          obtain ⟨a, b, c'⟩ := vr_take l (i + 1) _ r k h
          rw [show k - i = (k - (i + 1)) + 1 by omega]
          simp only [List.take_succ_cons, vr, List.length_cons]
          rw [if_pos h1, if_neg h2, if_neg h3]
          exact ⟨a, by omega, by omega⟩
    · cases h
/-- These bytes are the varint of that number. -/
def Vr (x : List Int) (v : Int) : Prop := vr x 0 0 = .ok v x.length
def Tg (x : List Int) (n k : Int) : Prop := Vr x (n * 8 + k) ∧ 1 ≤ n ∧ n ≤ 536870911 ∧ 0 ≤ k ∧ k ≤ 5
theorem Vr.pos {x : List Int} {v : Int} (h : Vr x v) : 0 < x.length := (vr_take x 0 0 v _ h).2.1
mutual
/-- The content of a field of number n and kind k, groups within one another so deep at most. -/
inductive Con : Int → Int → Int → List Int → Prop
  | vi {n d v : Int} {x : List Int} : Vr x v → Con n 0 d x
  | f8 {n d : Int} {x : List Int} : x.length = 8 → Con n 1 d x
  | by_ {n d : Int} {x z : List Int} : Vr x z.length → Con n 2 d (x ++ z)
  | gr {n d : Int} {x e : List Int} : 1 ≤ d → Fls (d - 1) x → Tg e n 4 → Con n 3 d (x ++ e)
  | f4 {n d : Int} {x : List Int} : x.length = 4 → Con n 5 d x
/-- Fields. -/
inductive Fls : Int → List Int → Prop
  | nil {d : Int} : Fls d []
  | cons {n k d : Int} {t c r : List Int} : Tg t n k → k ≠ 4 → Con n k d c → Fls d r → Fls d (t ++ (c ++ r))
end
theorem Fls.one {n k d : Int} {t c : List Int} (h : Tg t n k) (hk : k ≠ 4) (hc : Con n k d c) : Fls d (t ++ c) := by
  have := Fls.cons h hk hc .nil
  rwa [List.append_nil] at this
/-! ### reading what belongs to it -/
section
variable {bs y : List Int} {n : Nat} {s : RS}
theorem RS.varint_to {x : List Int} {v : Int} (he : s.e = 0) (hx : Vr x v) (h : s.seg bs = x ++ y) : s.varint bs = (v, s.mv x.length) := by
  unfold RS.varint
  rw [if_pos he, h, vr_app x y 0 0 _ _ hx]
  rfl
theorem RS.tag_to {x : List Int} {m k : Int} (he : s.e = 0) (hx : Tg x m k) (h : s.seg bs = x ++ y) : s.tag bs = ((m, k), s.mv x.length) := by
  obtain ⟨h1, h2, h3, h4, h5⟩ := hx
  unfold RS.tag
  rw [RS.varint_to he h1 h]
  simp only
  rw [RS.mv_e, if_pos he, if_neg (by omega)]
  congr 1
  congr 1
  · omega
  · omega
theorem RS.fixed_to {x : List Int} {w : Nat} (he : s.e = 0) (hs : s.ok n) (hb : bs.length = n) (hw : x.length = w) (h : s.seg bs = x ++ y) : s.fixed w bs = (lev x, s.mv w) := by
  have h1 := RS.seg_len hs hb
  rw [h, List.length_append, hw] at h1
  unfold RS.fixed
  rw [if_pos he, if_neg (by omega)]
  have h2 : (bs.drop s.at_).take w = (s.seg bs).take w := by
    unfold RS.seg
    rw [List.take_take, Nat.min_eq_left (by omega)]
  rw [h2, h, List.take_left' hw]
  rfl
theorem RS.span_to {x z : List Int} (he : s.e = 0) (hs : s.ok n) (hb : bs.length = n) (hx : Vr x z.length) (h : s.seg bs = x ++ (z ++ y)) :
    s.span bs = (some (s.at_ + x.length, s.at_ + x.length + z.length), s.mv (x.length + z.length)) := by
  have h1 := (RS.mv_ok hs hb h).2
  rw [List.length_append] at h1
  unfold RS.span
  rw [RS.varint_to he hx h]
  simp only
  rw [RS.mv_e, if_pos he, RS.mv_en, RS.mv_at, if_neg (by omega)]
  simp only [RS.mv, Int.toNat_natCast, Nat.add_assoc]
theorem RS.simple_to {m k d : Int} {x : List Int} (he : s.e = 0) (hs : s.ok n) (hb : bs.length = n) (hx : Con m k d x) (hk : k ≠ 3) (h : s.seg bs = x ++ y) : s.simple bs k = s.mv x.length := by
  unfold RS.simple
  cases hx with
  | vi hv => rw [if_pos rfl, RS.varint_to he hv h]
  | f8 hl => rw [if_neg (by decide), if_pos rfl, RS.fixed_to he hs hb hl h, hl]
  | by_ hv => rw [if_neg (by decide), if_neg (by decide), if_pos rfl, RS.span_to he hs hb hv (by rw [← List.append_assoc]; exact h), List.length_append]
  | gr => exact absurd rfl hk
  | f4 hl => rw [if_neg (by decide), if_neg (by decide), if_neg (by decide), if_pos rfl, RS.fixed_to he hs hb hl h, hl]
theorem RS.dep_to {d : Int} (h : 1 ≤ d) : s.dep d = s := by unfold RS.dep; rw [if_neg (by omega)]
theorem RS.mv_mv {a b : Nat} : (s.mv a).mv b = s.mv (a + b) := by simp [RS.mv, Nat.add_assoc]
end
theorem grp_to {bs : List Int} {n : Nat} (hb : bs.length = n) : ∀ (f : Nat) (num d : Int) (s : RS) (x e y : List Int), 1 ≤ d → s.e = 0 → s.ok n → Fls (d - 1) x → Tg e num 4 → s.seg bs = x ++ (e ++ y) → x.length + e.length ≤ f → grp bs f num d s = (((s.at_ + x.length : Nat) : Int), s.mv (x.length + e.length))
  | 0, num, d, s, x, e, y, _, _, _, _, he, _, hf => by have := he.1.pos; omega
  | f + 1, num, d, s, x, e, y, hd, he, hs, hx, hte, h, hf => by
    rw [grp_succ he]
    generalize hdd : d - 1 = d1 at hx
    cases hx with
    | nil =>
      rw [List.nil_append] at h
      rw [RS.tag_to he hte h]
      simp only [List.length_nil, Nat.zero_add]
      rw [RS.mv_e, if_pos he]
      simp
    | @cons n' k _ t c r ht hk hc hr =>
      have htp := ht.1.pos
      rw [List.append_assoc] at h
      have h2 : s.seg bs = t ++ ((c ++ r) ++ (e ++ y)) := h
      rw [RS.tag_to he ht h2]
      simp only
      rw [RS.mv_e, if_pos he, if_neg hk]
      have ok1 := (RS.mv_ok hs hb h2).1
      have sg1 := RS.seg_mv h2
      rw [List.append_assoc] at sg1
      have e1 : (s.mv t.length).e = 0 := he
      have key : (if k = 3 then (grp bs f n' d1 ((s.mv t.length).dep d1)).2 else (s.mv t.length).simple bs k) = (s.mv t.length).mv c.length := by
        by_cases hk3 : k = 3
        · rw [if_pos hk3]
          subst hk3
          cases hc with
          | gr hd1 hfl hte' =>
            rw [RS.dep_to hd1, grp_to hb f n' d1 (s.mv t.length) _ _ (r ++ (e ++ y)) hd1 e1 ok1 hfl hte' (by rw [sg1]; simp) (by simp only [List.length_append] at hf ⊢; omega), List.length_append]
        · rw [if_neg hk3]
          exact RS.simple_to e1 ok1 hb hc hk3 sg1
      rw [key]
      have ok2 := (RS.mv_ok ok1 hb sg1).1
      have sg2 := RS.seg_mv sg1
      rw [grp_to hb f num d ((s.mv t.length).mv c.length) r e y hd e1 ok2 (by rw [hdd]; exact hr) hte sg2 (by simp only [List.length_append] at hf ⊢; omega)]
      rw [RS.mv_mv, RS.mv_mv]
      simp only [RS.mv_at, List.length_append]
      congr 1
      · omega
      · congr 1; omega
theorem RS.con_to {bs y : List Int} {n : Nat} {s : RS} {f : Nat} {m k d : Int} {x : List Int} (he : s.e = 0) (hs : s.ok n) (hb : bs.length = n) (hx : Con m k d x) (h : s.seg bs = x ++ y) (hf : x.length ≤ f) : s.con bs f m k d = s.mv x.length := by
  unfold RS.con
  by_cases hk3 : k = 3
  · rw [if_pos hk3]
    subst hk3
    cases hx with
    | gr hd1 hfl hte => rw [RS.dep_to hd1, grp_to hb f m d s _ _ y hd1 he hs hfl hte (by rw [h]; simp) (by simpa using hf), List.length_append]
  · rw [if_neg hk3]
    exact RS.simple_to he hs hb hx hk3 h
/-! ### what is read belongs to it -/
section
variable {bs : List Int} {n : Nat} {s : RS}
theorem RS.varint_of (he : (s.varint bs).2.e = 0) : ∃ x y v, s.e = 0 ∧ s.seg bs = x ++ y ∧ Vr x v ∧ s.varint bs = (v, s.mv x.length) := by
  unfold RS.varint at *
  split at he
  · rename_i h0
    rw [if_pos h0]
    split at he
    · rename_i v k hv
      obtain ⟨h1, h2, h3⟩ := vr_take _ _ _ _ _ hv
      rw [Nat.sub_zero] at h1
      rw [Nat.zero_add] at h3
      have hl : ((s.seg bs).take k).length = k := by rw [List.length_take]; omega
      refine ⟨(s.seg bs).take k, (s.seg bs).drop k, v, h0, (List.take_append_drop _ _).symm, ?_, ?_⟩
      · unfold Vr; rw [hl]; exact h1
      · rw [hl]; rfl
    · simp at he
    · simp at he
  · rename_i h0; exact absurd he h0
theorem RS.tag_of (hby : Bytes bs) (hs : s.ok n) (hb : bs.length = n) (he : (s.tag bs).2.e = 0) : ∃ x y m k, s.e = 0 ∧ s.seg bs = x ++ y ∧ Tg x m k ∧ s.tag bs = ((m, k), s.mv x.length) := by
  have he' := he
  obtain ⟨_, _, _, hV, _, _⟩ := RS.varint_spec hs hb hby
  unfold RS.tag at he
  split at he
  · rename_i h1
    obtain ⟨x, y, v, h0, hseg, hv, hvv⟩ := RS.varint_of h1
    rw [hvv] at he hV
    obtain ⟨v0, v1⟩ := hV
    simp only at he v0 v1
    split at he
    · simp at he
    · rename_i h2
      have ht : Tg x (v / 8) (v % 8) := ⟨by rw [show v / 8 * 8 + v % 8 = v by omega]; exact hv, by omega, by omega, by omega, by omega⟩
      exact ⟨x, y, v / 8, v % 8, h0, hseg, ht, RS.tag_to h0 ht hseg⟩
  · rename_i h1; exact absurd he h1
theorem RS.fixed_of {w : Nat} (hs : s.ok n) (hb : bs.length = n) (he : (s.fixed w bs).2.e = 0) : ∃ x y, s.e = 0 ∧ s.seg bs = x ++ y ∧ x.length = w ∧ s.fixed w bs = (lev x, s.mv w) := by
  have he' := he
  unfold RS.fixed at he
  split at he
  · rename_i h0
    split at he
    · unfold RS.wrong at he
      rw [if_pos h0] at he
      simp at he
    · rename_i h1
      have h2 := RS.seg_len hs hb
      have hl : ((s.seg bs).take w).length = w := by rw [List.length_take]; omega
      have hseg := (List.take_append_drop w (s.seg bs)).symm
      exact ⟨_, _, h0, hseg, hl, RS.fixed_to h0 hs hb hl hseg⟩
  · rename_i h0; exact absurd he h0
theorem RS.span_of (hby : Bytes bs) (hs : s.ok n) (hb : bs.length = n) (he : (s.span bs).2.e = 0) : ∃ x z y, s.e = 0 ∧ s.seg bs = x ++ (z ++ y) ∧ Vr x z.length ∧ s.span bs = (some (s.at_ + x.length, s.at_ + x.length + z.length), s.mv (x.length + z.length)) := by
  obtain ⟨_, _, _, hV, _, _⟩ := RS.varint_spec hs hb hby
  have he' := he
  unfold RS.span at he
  split at he
  · rename_i h1
    obtain ⟨x, y, v, h0, hseg, hv, hvv⟩ := RS.varint_of h1
    rw [hvv] at he hV
    obtain ⟨v0, v1⟩ := hV
    simp only at he v0 v1
    have hm := (RS.mv_ok hs hb hseg).2
    split at he
    · simp at he
    · rename_i h2
      rw [RS.mv_en, RS.mv_at] at h2
      obtain ⟨k, rfl⟩ := Int.eq_ofNat_of_zero_le v0
      have hl : (y.take k).length = k := by rw [List.length_take]; omega
      have hseg2 : s.seg bs = x ++ (y.take k ++ y.drop k) := by rw [List.take_append_drop]; exact hseg
      have hv2 : Vr x (y.take k).length := by rw [hl]; exact hv
      exact ⟨x, y.take k, y.drop k, h0, hseg2, hv2, RS.span_to h0 hs hb hv2 hseg2⟩
  · rename_i h1; exact absurd he h1
theorem RS.simple_of {k : Int} (m d : Int) (hby : Bytes bs) (hs : s.ok n) (hb : bs.length = n) (he : (s.simple bs k).e = 0) (hk : k ≠ 3 ∧ k ≠ 4 ∧ 0 ≤ k ∧ k ≤ 5) : ∃ x y, s.e = 0 ∧ s.seg bs = x ++ y ∧ Con m k d x ∧ s.simple bs k = s.mv x.length := by
  have he' := he
  unfold RS.simple at he
  split at he
  · rename_i h; subst h
    obtain ⟨x, y, v, h0, h1, h2, _⟩ := RS.varint_of he
    exact ⟨x, y, h0, h1, .vi h2, RS.simple_to (m := m) (d := d) h0 hs hb (.vi h2) hk.1 h1⟩
  · split at he
    · rename_i h; subst h
      obtain ⟨x, y, h0, h1, h2, _⟩ := RS.fixed_of hs hb he
      exact ⟨x, y, h0, h1, .f8 h2, RS.simple_to (m := m) (d := d) h0 hs hb (.f8 h2) hk.1 h1⟩
    · split at he
      · rename_i h; subst h
        obtain ⟨x, z, y, h0, h1, h2, _⟩ := RS.span_of hby hs hb he
        rw [← List.append_assoc] at h1
        exact ⟨x ++ z, y, h0, h1, .by_ h2, RS.simple_to (m := m) (d := d) h0 hs hb (.by_ h2) hk.1 h1⟩
      · split at he
        · rename_i h; subst h
          obtain ⟨x, y, h0, h1, h2, _⟩ := RS.fixed_of hs hb he
          exact ⟨x, y, h0, h1, .f4 h2, RS.simple_to (m := m) (d := d) h0 hs hb (.f4 h2) hk.1 h1⟩
        · omega
end
theorem RS.wrong_e {s : RS} {e : Int} {a : Nat} (he : e ≠ 0) : (s.wrong e a).e ≠ 0 := by
  unfold RS.wrong
  split
  · exact he
  · assumption
theorem grp_of {bs : List Int} {n : Nat} (hb : bs.length = n) (hby : Bytes bs) : ∀ (f : Nat) (num d : Int) (s : RS), 1 ≤ d → s.ok n → s.en - s.at_ < f → s.e = 0 → (grp bs f num d s).2.e = 0 →
    ∃ x e y, Fls (d - 1) x ∧ Tg e num 4 ∧ s.seg bs = x ++ (e ++ y)
  | 0, num, d, s, _, _, hf, _, _ => by omega
  | f + 1, num, d, s, hd, hs, hf, he, h => by
    rw [grp_succ he] at h
    split at h
    · rename_i ht0
      obtain ⟨t, y, m, k, _, hseg, ht, htag⟩ := RS.tag_of hby hs hb ht0
      rw [htag] at h
      simp only at h
      have htp := ht.1.pos
      have ok1 := (RS.mv_ok hs hb hseg).1
      have hen := (RS.mv_ok hs hb hseg).2
      have sg1 := RS.seg_mv hseg
      split at h
      · rename_i hk
        split at h
        · rename_i hn
          subst hk hn
          exact ⟨[], t, y, .nil, ht, hseg⟩
        · exact absurd h (RS.wrong_e (by decide))
      · rename_i hk
        have e1 : (s.mv t.length).e = 0 := he
        have key : ∃ c r, y = c ++ r ∧ Con m k (d - 1) c ∧ (if k = 3 then (grp bs f m (d - 1) ((s.mv t.length).dep (d - 1))).2 else (s.mv t.length).simple bs k) = (s.mv t.length).mv c.length := by
          generalize hs2 : (if k = 3 then (grp bs f m (d - 1) ((s.mv t.length).dep (d - 1))).2 else (s.mv t.length).simple bs k) = s2 at h
          have e2 : s2.e = 0 := by
            by_cases h2 : s2.e = 0
            · exact h2
            · rw [grp_bad h2] at h; exact h
          subst hs2
          by_cases hk3 : k = 3
          · rw [if_pos hk3] at e2 ⊢
            by_cases hd1 : 1 ≤ d - 1
            · rw [RS.dep_to hd1] at e2 ⊢
              obtain ⟨x', e', y', a1, a2, a3⟩ := grp_of hb hby f m (d - 1) (s.mv t.length) hd1 ok1 (by rw [RS.mv_en, RS.mv_at]; omega) e1 e2
              rw [sg1] at a3
              refine ⟨x' ++ e', y', by rw [a3]; simp, by rw [hk3]; exact .gr hd1 a1 a2, ?_⟩
              rw [grp_to hb f m (d - 1) (s.mv t.length) x' e' y' hd1 e1 ok1 a1 a2 (by rw [sg1]; exact a3) (by
                have := congrArg List.length a3
                simp only [List.length_append] at this
                have := hs.2.1
                omega), List.length_append]
            · exfalso
              have : ((s.mv t.length).dep (d - 1)).e ≠ 0 := by
                unfold RS.dep
                rw [if_pos (by omega)]
                exact RS.wrong_e (by decide)
              rw [grp_bad this] at e2
              exact this e2
          · rw [if_neg hk3] at e2 ⊢
            obtain ⟨x', y', _, a1, a2, a3⟩ := RS.simple_of m (d - 1) hby ok1 hb e2 ⟨hk3, hk, ht.2.2.2.1, ht.2.2.2.2⟩
            rw [sg1] at a1
            exact ⟨x', y', a1, a2, a3⟩
        obtain ⟨c, r, rfl, hc, heq⟩ := key
        rw [heq] at h
        have ok2 := (RS.mv_ok ok1 hb sg1).1
        have sg2 := RS.seg_mv sg1
        obtain ⟨x', e', y', a1, a2, a3⟩ := grp_of hb hby f num d _ hd ok2 (by simp only [RS.mv_en, RS.mv_at]; omega) e1 h
        rw [sg2] at a3
        exact ⟨t ++ (c ++ x'), e', y', .cons ht hk hc a1, a2, by rw [hseg, a3]; simp⟩
    · rename_i ht0; exact absurd h ht0
theorem RS.con_of {bs : List Int} {n : Nat} {s : RS} {f : Nat} {m k d : Int} (hb : bs.length = n) (hby : Bytes bs) (hs : s.ok n) (hf : s.en - s.at_ < f) (hk : k ≠ 4 ∧ 0 ≤ k ∧ k ≤ 5) (he : s.e = 0) (h : (s.con bs f m k d).e = 0) : ∃ c r, s.seg bs = c ++ r ∧ Con m k d c ∧ s.con bs f m k d = s.mv c.length := by
  have key : ∃ c r, s.seg bs = c ++ r ∧ Con m k d c := by
    unfold RS.con at h
    by_cases hk3 : k = 3
    · rw [if_pos hk3] at h
      by_cases hd1 : 1 ≤ d
      · rw [RS.dep_to hd1] at h
        obtain ⟨x', e', y', a1, a2, a3⟩ := grp_of hb hby f m d s hd1 hs hf he h
        exact ⟨x' ++ e', y', by rw [a3]; simp, by rw [hk3]; exact .gr hd1 a1 a2⟩
      · exfalso
        have : (s.dep d).e ≠ 0 := by
          unfold RS.dep
          rw [if_pos (by omega)]
          exact RS.wrong_e (by decide)
        rw [grp_bad this] at h
        exact this h
    · rw [if_neg hk3] at h
      obtain ⟨x', y', _, a1, a2, a3⟩ := RS.simple_of m d hby hs hb h ⟨hk3, hk.1, hk.2.1, hk.2.2⟩
      exact ⟨x', y', a1, a2⟩
  obtain ⟨c, r, h1, h2⟩ := key
  refine ⟨c, r, h1, h2, RS.con_to he hs hb h2 h1 ?_⟩
  have h3 := RS.seg_len hs hb
  rw [h1, List.length_append] at h3
  omega
end Go.Sk
