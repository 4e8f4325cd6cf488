/- Plain: what a script of a writer comes to as bytes, and that it is read back. -/
import Derived.Test.YtldfbjcicbfidaaV10
set_option linter.unusedVariables false
set_option linter.unusedSimpArgs false
namespace Go.Sk
/-- A step of a script: its cells. -/
structure SO where
  kind : Int
  who : Int
  n : Int
  k : Int
  w : Int
  d : Int
  ba : Option Addr
  bn : Nat
  bc : Nat
  bl : List Int
/-- So many bytes of a number, the lowest first. -/
def lo : Nat → Int → List Int
  | 0, _ => []
  | w + 1, v => v % 256 :: lo w (v / 256)
theorem lo_len : ∀ (w : Nat) (v : Int), (lo w v).length = w
  | 0, _ => rfl
  | w + 1, v => by simp [lo, lo_len w]
theorem lo_bytes : ∀ (w : Nat) (v : Int), Bytes (lo w v)
  | 0, _ => fun x hx => by cases hx
  | w + 1, v => fun x hx => by
    rcases List.mem_cons.1 hx with rfl | hx
    · exact ⟨by omega, by omega⟩
    · exact lo_bytes w _ x hx
theorem lev_lo : ∀ (w : Nat) (v : Int), lev (lo w v) = v % 256 ^ w
  | 0, v => by simp [lo, lev]
  | w + 1, v => by
    simp only [lo, lev]
    rw [lev_lo w, Int.pow_succ, Int.mul_comm (256 ^ w) 256]
    have hp : (0 : Int) < 256 ^ w := Int.pow_pos (by decide)
    generalize (256 : Int) ^ w = p at *
    have h1 := Int.emod_add_mul_ediv v 256
    have h2 := Int.emod_add_mul_ediv (v / 256) p
    have h3 : v / 256 / p = v / (256 * p) := by rw [Int.ediv_ediv_of_nonneg (by decide)]
    have h4 := Int.emod_add_mul_ediv v (256 * p)
    rw [h3] at h2
    generalize v / 256 % p = a at *
    generalize v / (256 * p) = c at *
    generalize v / 256 = q at *
    generalize v % (256 * p) = d at *
    have h5 : 256 * p * c = 256 * (p * c) := by rw [Int.mul_assoc]
    generalize p * c = e at *
    omega
def SO.simple (o : SO) : Prop := o.kind = 1 ∨ o.kind = 2 ∨ o.kind = 3 ∨ o.kind = 4 ∨ o.kind = 5
def SO.good (o : SO) : Prop := V64 o.n ∧ (o.kind = 4 → 1 ≤ o.k ∧ o.k ≤ 536870911 ∧ 0 ≤ o.w ∧ o.w ≤ 5) ∧ o.bl.length = o.bn ∧ Bytes o.bl ∧ o.bn ≤ 140737488355328
def SO.bytes (o : SO) : List Int :=
  if o.kind = 1 then enc o.n else if o.kind = 2 then lo 4 (o.n % 4294967296) else if o.kind = 3 then lo 8 o.n else if o.kind = 4 then enc (o.k * 8 + o.w) else enc o.bn ++ o.bl
inductive Ser : List SO → List Int → Prop
  | nil : Ser [] []
  | one {o : SO} {l : List SO} {b : List Int} : o.simple → o.good → Ser l b → Ser (o :: l) (o.bytes ++ b)
  | part {o q : SO} {l1 l2 : List SO} {b1 b2 : List Int} : o.kind = 7 → q.kind = 8 → Ser l1 b1 → Ser l2 b2 → Ser (o :: (l1 ++ q :: l2)) (enc b1.length ++ (b1 ++ b2))
theorem Ser.app {l l' : List SO} {b b' : List Int} (h : Ser l b) (h' : Ser l' b') : Ser (l ++ l') (b ++ b') := by
  induction h with
  | nil => exact h'
  | one s g _ ih => rw [List.append_assoc]; exact .one s g ih
  | part a c h1 _ _ ih => rw [List.append_assoc, List.append_assoc, List.cons_append, List.append_assoc]; exact .part a c h1 ih
/-- A script, some of its parts being open. -/
inductive St : List SO → List Int → List Int → Prop
  | base {l : List SO} {b : List Int} : Ser l b → St l b []
  | opn {o : SO} {l l1 : List SO} {b b1 op : List Int} : o.kind = 7 → St l b op → Ser l1 b1 → St (l ++ o :: l1) (b ++ b1) (op ++ [(b.length : Int)])
theorem St.app {l l' : List SO} {b b' op : List Int} (h : St l b op) (h' : Ser l' b') : St (l ++ l') (b ++ b') op := by
  cases h with
  | base h => exact .base (h.app h')
  | opn k s h => rw [List.append_assoc, List.append_assoc, List.cons_append]; exact .opn k s (h.app h')
theorem St.item {l : List SO} {o : SO} {b op : List Int} (h : St l b op) (hs : o.simple) (hg : o.good) : St (l ++ [o]) (b ++ o.bytes) op := by
  have := h.app (.one hs hg .nil)
  rwa [List.append_nil] at this
theorem St.push {l : List SO} {o : SO} {b op : List Int} (h : St l b op) (hk : o.kind = 7) : St (l ++ [o]) b (op ++ [(b.length : Int)]) := by
  have := St.opn hk h .nil
  rwa [List.append_nil] at this
theorem St.shut {l : List SO} {q : SO} {b op : List Int} {x : Int} (h : St l b (op ++ [x])) (hk : q.kind = 8) :
    ∃ p : Nat, x = p ∧ p ≤ b.length ∧ St (l ++ [q]) (b.take p ++ enc ((b.length : Int) - p) ++ b.drop p) op := by
  generalize hop : op ++ [x] = op2 at h
  cases h with
  | base h => simp at hop
  | @opn o l l1 b b1 op' hk' s h =>
    obtain ⟨rfl, h2⟩ := List.append_inj' hop rfl
    simp only [List.cons.injEq, and_true] at h2
    subst h2
    refine ⟨b.length, rfl, by simp, ?_⟩
    rw [List.take_left, List.drop_left, List.append_assoc, List.append_assoc, show (((b ++ b1).length : Nat) : Int) - (b.length : Int) = (b1.length : Int) by simp; omega]
    have := s.app (Ser.part (q := q) (l2 := []) hk' hk h .nil)
    rwa [List.append_nil] at this
theorem St.end_ {l : List SO} {b : List Int} (h : St l b []) : Ser l b := by
  generalize hop : ([] : List Int) = op at h
  cases h with
  | base h => exact h
  | opn => simp at hop
theorem St.last {l : List SO} {b op : List Int} (h : St l b op) : ∀ x ∈ op, 0 ≤ x ∧ x ≤ b.length := by
  induction h with
  | base h => intro x hx; cases hx
  | opn k s h ih =>
    intro x hx
    rw [List.length_append]
    rcases List.mem_append.1 hx with hx | hx
    · have := ih x hx; omega
    · simp only [List.mem_singleton] at hx; subst hx; omega
/-! ### reading it -/
theorem vr_enc {v : Int} (h : V64 v) (r : List Int) : vr (enc v ++ r) 0 0 = .ok v (enc v).length := by
  obtain ⟨l, x, e, hm, hl, h0, h1, hv, h9, _⟩ := enc_val h
  rw [e, List.append_assoc]
  have := vr_more l 0 0 x r hm (by omega) h0 h1 (fun h => h9 (by omega))
  rw [List.singleton_append, this, hv]
  simp
def RS.mv (s : RS) (k : Nat) : RS := { s with at_ := s.at_ + k }
theorem RS.mv_e (s : RS) (k : Nat) : (s.mv k).e = s.e := rfl
theorem RS.mv_en (s : RS) (k : Nat) : (s.mv k).en = s.en := rfl
theorem RS.mv_at (s : RS) (k : Nat) : (s.mv k).at_ = s.at_ + k := rfl
theorem RS.seg_mv {bs x y : List Int} {s : RS} (h : s.seg bs = x ++ y) : (s.mv x.length).seg bs = y := by
  unfold RS.seg RS.mv at *
  simp only
  rw [← List.drop_drop, Nat.sub_add_eq, ← List.drop_take, h, List.drop_left]
theorem RS.mv_ok {bs x y : List Int} {n : Nat} {s : RS} (hs : s.ok n) (hb : bs.length = n) (h : s.seg bs = x ++ y) : (s.mv x.length).ok n ∧ s.at_ + x.length + y.length = s.en := by
  have h1 := RS.seg_len hs hb
  rw [h, List.length_append] at h1
  obtain ⟨a, b, c⟩ := hs
  exact ⟨⟨by simp only [RS.mv]; omega, b, c⟩, by omega⟩
theorem RS.varint_mv {bs y : List Int} {s : RS} {v : Int} (he : s.e = 0) (hv : V64 v) (h : s.seg bs = enc v ++ y) : s.varint bs = (v, s.mv (enc v).length) := by
  unfold RS.varint
  rw [if_pos he, h, vr_enc hv]
  rfl
theorem RS.fixed_mv {bs y : List Int} {n w : Nat} {s : RS} {v : Int} (he : s.e = 0) (hs : s.ok n) (hb : bs.length = n) (h : s.seg bs = lo w v ++ y) : s.fixed w bs = (v % 256 ^ w, s.mv w) := by
  have h1 := RS.seg_len hs hb
  rw [h, List.length_append, lo_len] at h1
  unfold RS.fixed
  rw [if_pos he, if_neg (by omega)]
  have h2 : (bs.drop s.at_).take w = (s.seg bs).take w := by
    unfold RS.seg
    rw [List.take_take, Nat.min_eq_left (by omega)]
  rw [h2, h, List.take_left' (lo_len w v), lev_lo]
  rfl
theorem RS.tag_mv {bs y : List Int} {s : RS} {n k : Int} (he : s.e = 0) (hn : 1 ≤ n ∧ n ≤ 536870911 ∧ 0 ≤ k ∧ k ≤ 5) (h : s.seg bs = enc (n * 8 + k) ++ y) : s.tag bs = ((n, k), s.mv (enc (n * 8 + k)).length) := by
  unfold RS.tag
  rw [RS.varint_mv he ⟨by omega, by omega⟩ h]
  simp only
  rw [RS.mv_e, if_pos he, if_neg (by omega)]
  congr 1
  congr 1
  · omega
  · omega
theorem RS.span_mv {bs y z : List Int} {n : Nat} {s : RS} (he : s.e = 0) (hs : s.ok n) (hn : n ≤ 140737488355328) (hb : bs.length = n) (h : s.seg bs = enc z.length ++ (z ++ y)) :
    s.span bs = (some (s.at_ + (enc z.length).length, s.at_ + (enc z.length).length + z.length), s.mv ((enc z.length).length + z.length)) := by
  have h1 := (RS.mv_ok hs hb h).2
  have hen := hs.2.1
  rw [List.length_append] at h1
  unfold RS.span
  rw [RS.varint_mv he ⟨by omega, by omega⟩ h]
  simp only
  rw [RS.mv_e, if_pos he, RS.mv_en, RS.mv_at, if_neg (by omega)]
  simp only [RS.mv, Int.toNat_natCast, Nat.add_assoc]
theorem RS.span_seg {bs y z : List Int} {n : Nat} {s : RS} (hs : s.ok n) (hb : bs.length = n) (h : s.seg bs = enc z.length ++ (z ++ y)) :
    (bs.drop (s.at_ + (enc z.length).length)).take z.length = z := by
  have h1 := (RS.mv_ok hs hb h).2
  have h2 := RS.seg_mv h
  rw [List.length_append] at h1
  unfold RS.seg RS.mv at h2
  simp only at h2
  have h3 : (bs.drop (s.at_ + (enc z.length).length)).take z.length = ((bs.drop (s.at_ + (enc z.length).length)).take (s.en - (s.at_ + (enc z.length).length))).take z.length := by
    rw [List.take_take, Nat.min_eq_left (by omega)]
  rw [h3, h2, List.take_left]
/-- What is still to be read: of the reader that stands, and of those that wait. -/
inductive Rst (bs : List Int) (n : Nat) : List SO → RS → List RS → Prop
  | base {l : List SO} {s : RS} : s.e = 0 → s.ok n → Ser l (s.seg bs) → Rst bs n l s []
  | more {q : SO} {l l2 : List SO} {s s' : RS} {st : List RS} : s.e = 0 → s.ok n → q.kind = 8 → Ser l (s.seg bs) → Rst bs n l2 s' st → Rst bs n (l ++ q :: l2) s (s' :: st)
theorem Rst.ok {bs : List Int} {n : Nat} {l : List SO} {s : RS} {st : List RS} (h : Rst bs n l s st) : s.e = 0 ∧ s.ok n := by
  cases h with
  | base a b _ => exact ⟨a, b⟩
  | more a b _ _ _ => exact ⟨a, b⟩
/-- What the next step is. -/
theorem Rst.step {bs : List Int} {n : Nat} (hb : bs.length = n) {o : SO} {l : List SO} {s : RS} {st : List RS} (h : Rst bs n (o :: l) s st) :
    (o.simple ∧ o.good ∧ ∃ y, s.seg bs = o.bytes ++ y ∧ Rst bs n l (s.mv o.bytes.length) st) ∨
    (o.kind = 7 ∧ ∃ z y : List Int, s.seg bs = enc z.length ++ (z ++ y) ∧ Rst bs n l ⟨s.at_ + (enc z.length).length, s.at_ + (enc z.length).length + z.length, 0, 0⟩ (s.mv ((enc z.length).length + z.length) :: st)) ∨
    (o.kind = 8 ∧ s.at_ = s.en ∧ ∃ s' st', st = s' :: st' ∧ Rst bs n l s' st') := by
  have key : ∀ {l1 : List SO} {b : List Int}, Ser l1 b → ∀ (o : SO) (l' : List SO), l1 = o :: l' → (o.simple ∧ o.good ∧ ∃ y, b = o.bytes ++ y ∧ Ser l' y) ∨ (o.kind = 7 ∧ ∃ (q : SO) (l1' l2' : List SO) (z y : List Int), l' = l1' ++ q :: l2' ∧ q.kind = 8 ∧ b = enc z.length ++ (z ++ y) ∧ Ser l1' z ∧ Ser l2' y) := by
    intro l1 b hser o l' he
    cases hser with
    | nil => cases he
    | one a g h => cases he; exact .inl ⟨a, g, _, rfl, h⟩
    | part a c h1 h2 => cases he; exact .inr ⟨a, _, _, _, _, _, rfl, c, rfl, h1, h2⟩
  have inner : ∀ {z y : List Int}, s.ok n → s.seg bs = enc z.length ++ (z ++ y) → (⟨s.at_ + (enc z.length).length, s.at_ + (enc z.length).length + z.length, 0, 0⟩ : RS).ok n ∧ (⟨s.at_ + (enc z.length).length, s.at_ + (enc z.length).length + z.length, 0, 0⟩ : RS).seg bs = z ∧ (s.mv ((enc z.length).length + z.length)).ok n ∧ (s.mv ((enc z.length).length + z.length)).seg bs = y := by
    intro z y hok hseg
    have h1 := (RS.mv_ok hok hb hseg).2
    have h2 := RS.span_seg hok hb hseg
    rw [List.length_append] at h1
    have h3 := hok.2.1
    have h4 : s.seg bs = (enc z.length ++ z) ++ y := by rw [List.append_assoc]; exact hseg
    have h5 := RS.seg_mv h4
    have h6 := (RS.mv_ok hok hb h4).1
    rw [List.length_append] at h5 h6
    refine ⟨⟨by simp only; omega, by simp only; omega, by simp only; omega⟩, ?_, h6, h5⟩
    unfold RS.seg
    simp only
    rw [show s.at_ + (enc z.length).length + z.length - (s.at_ + (enc z.length).length) = z.length by omega]
    exact h2
  generalize hl : o :: l = L at h
  cases h with
  | base he hok hser =>
    rcases key hser o l hl.symm with ⟨a, g, y, hy, hs⟩ | ⟨a, q, l1, l2, z, y, rfl, hq, hy, hs1, hs2⟩
    · refine .inl ⟨a, g, y, hy, .base he (RS.mv_ok hok hb hy).1 (by rw [RS.seg_mv hy]; exact hs)⟩
    · obtain ⟨i1, i2, i3, i4⟩ := inner hok hy
      exact .inr (.inl ⟨a, z, y, hy, .more rfl i1 hq (by rw [i2]; exact hs1) (.base he i3 (by rw [i4]; exact hs2))⟩)
  | @more q l1 l2 _ s' st' he hok hk hser hrest =>
    cases l1 with
    | nil =>
      simp only [List.nil_append, List.cons.injEq] at hl
      obtain ⟨rfl, rfl⟩ := hl
      refine .inr (.inr ⟨hk, ?_, s', st', rfl, hrest⟩)
      have h1 := RS.seg_len hok hb
      have h0 : s.seg bs = [] := by
        generalize s.seg bs = x at hser
        cases hser; rfl
      rw [h0, List.length_nil] at h1
      have := hok.1
      omega
    | cons o' l1 =>
      simp only [List.cons_append, List.cons.injEq] at hl
      obtain ⟨rfl, rfl⟩ := hl
      rcases key hser o l1 rfl with ⟨a, g, y, hy, hs⟩ | ⟨a, q', l1', l2', z, y, rfl, hq, hy, hs1, hs2⟩
      · refine .inl ⟨a, g, y, hy, .more he (RS.mv_ok hok hb hy).1 hk (by rw [RS.seg_mv hy]; exact hs) hrest⟩
      · obtain ⟨i1, i2, i3, i4⟩ := inner hok hy
        refine .inr (.inl ⟨a, z, y, hy, ?_⟩)
        rw [List.append_assoc, List.cons_append]
        exact .more rfl i1 hq (by rw [i2]; exact hs1) (.more he i3 hk (by rw [i4]; exact hs2) hrest)
theorem Rst.end_ {bs : List Int} {n : Nat} (hb : bs.length = n) {s : RS} {st : List RS} (h : Rst bs n [] s st) : st = [] ∧ s.at_ = s.en := by
  generalize hl : ([] : List SO) = L at h
  cases h with
  | base he hok hser =>
    refine ⟨rfl, ?_⟩
    subst hl
    have h1 := RS.seg_len hok hb
    have h0 : s.seg bs = [] := by
      generalize s.seg bs = x at hser
      cases hser; rfl
    rw [h0, List.length_nil] at h1
    have := hok.1
    omega
  | more => simp at hl
end Go.Sk
