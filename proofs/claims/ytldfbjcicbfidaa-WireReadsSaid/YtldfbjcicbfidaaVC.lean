/- Merged: V9, V10, V11, V12. -/
import Derived.Test.YtldfbjcicbfidaaV7
import Derived.Test.YtldfbjcicbfidaaV5
set_option linter.unusedVariables false
set_option linter.unusedSimpArgs false
section
/- Plain: numbers of four and of eight bytes, the lowest first. -/
namespace Go.Sk
def lev : List Int → Int
  | [] => 0
  | x :: l => x + 256 * lev l
def p256 (k : Nat) : Int := 256 ^ k
theorem lev_lt : ∀ {l : List Int}, Bytes l → 0 ≤ lev l ∧ lev l < 256 ^ l.length
  | [], _ => ⟨by decide, by decide⟩
  | x :: l, h => by
    have hx := h x (by simp)
    obtain ⟨a, b⟩ := lev_lt (l := l) (fun y hy => h y (by simp [hy]))
    obtain ⟨h0, h1⟩ := hx
    simp only [lev, List.length_cons]
    rw [Int.pow_succ]
    constructor <;> omega
theorem lev_step {l : List Int} {w i : Nat} (hi : i < w) (hw : w ≤ l.length) : lev ((l.take w).drop i) = l.getD i 0 + 256 * lev ((l.take w).drop (i + 1)) := by
  have h1 : i < (l.take w).length := by rw [List.length_take]; omega
  rw [List.drop_eq_getElem_cons h1]
  simp only [lev, List.getElem_take, List.getD_eq_getElem?_getD, List.getElem?_eq_getElem (show i < l.length by omega), Option.getD_some]
theorem shl8 {k : IntKind} {v : Int} (hk : 8 ≤ k.bits) (hs : k.signed = false) (h0 : 0 ≤ v) (h1 : v * 256 < 2 ^ k.bits) : k.wrap (v * 2 ^ (min (8 : Int).toNat k.bits)) = v * 256 := by
  rw [show min (8 : Int).toNat k.bits = 8 by rw [show (8 : Int).toNat = 8 from rfl]; omega, show (2 : Int) ^ 8 = 256 by decide]
  unfold IntKind.wrap
  simp only [hs, Bool.false_and, Bool.false_eq_true, if_false]
  exact Int.emod_eq_of_lt (by omega) h1
theorem or8 {k : IntKind} {v x : Int} (hs : k.signed = false) (hx : isByte x) (h0 : 0 ≤ v) (h1 : x + v * 256 < 2 ^ k.bits) :
    k.wrap ((BitVec.ofInt k.bits (v * 256) ||| BitVec.ofInt k.bits x).toNat : Int) = x + 256 * v := by
  rw [BitVec.or_comm]
  have := or_add (k := k) (v := x) (x := v * 256) (y := v) (s := 8) hx.1 (by have := hx.2; omega) h0 (by omega) h1 hs
  rw [this]
  omega
def RS.fixed (w : Nat) (bs : List Int) (s : RS) : Int × RS :=
  if s.e = 0 then (if s.en - s.at_ < w then (0, s.wrong 10 s.at_) else (lev ((bs.drop s.at_).take w), { s with at_ := s.at_ + w })) else (0, s)
end Go.Sk
namespace Go.Sk
theorem pow256_le {a b : Nat} (h : a ≤ b) : (256 : Int) ^ a ≤ 256 ^ b := by
  have : (256 : Nat) ^ a ≤ 256 ^ b := Nat.pow_le_pow_right (by decide) h
  have h2 : ((256 ^ a : Nat) : Int) ≤ ((256 ^ b : Nat) : Int) := by omega
  simpa using h2
theorem lev_room {l : List Int} {w i : Nat} (hb : Bytes l) (hi : i < w) : 0 ≤ lev ((l.take w).drop (i + 1)) ∧ ∀ x, isByte x → x + lev ((l.take w).drop (i + 1)) * 256 < 256 ^ w := by
  have hb2 : Bytes ((l.take w).drop (i + 1)) := (hb.take w).drop (i + 1)
  refine ⟨(lev_lt hb2).1, fun x hx => ?_⟩
  have h1 := (lev_lt (l := x :: (l.take w).drop (i + 1)) (fun y hy => by
    rcases List.mem_cons.1 hy with rfl | hy
    · exact hx
    · exact hb2 y hy)).2
  simp only [lev, List.length_cons] at h1
  have h2 : ((l.take w).drop (i + 1)).length + 1 ≤ w := by rw [List.length_drop, List.length_take]; omega
  have := pow256_le h2
  omega
end Go.Sk
end
section
/- Plain: groups and contents, as functions of a reader's state. -/
namespace Go.Sk
def RS.dep (d : Int) (s : RS) : RS := if d < 1 then s.wrong 14 s.at_ else s
/-- The content of a field that is no group. -/
def RS.simple (bs : List Int) (k : Int) (s : RS) : RS :=
  if k = 0 then (s.varint bs).2 else if k = 1 then (s.fixed 8 bs).2 else if k = 2 then (s.span bs).2 else if k = 5 then (s.fixed 4 bs).2 else s
/-- Up to the end that matches, of number num, at depth d ≥ 1 (f: more than so many bytes are left). -/
def grp (bs : List Int) : Nat → Int → Int → RS → Int × RS
  | 0, _, _, s => (0, s)
  | f + 1, num, d, s =>
    if s.e = 0 then
      (if (s.tag bs).2.e = 0 then
        (if (s.tag bs).1.2 = 4 then (if (s.tag bs).1.1 = num then ((s.at_ : Int), (s.tag bs).2) else (0, (s.tag bs).2.wrong 13 s.at_))
        else grp bs f num d (if (s.tag bs).1.2 = 3 then (grp bs f (s.tag bs).1.1 (d - 1) ((s.tag bs).2.dep (d - 1))).2 else (s.tag bs).2.simple bs (s.tag bs).1.2))
      else (0, (s.tag bs).2))
    else (0, s)
theorem grp_succ {bs : List Int} {f : Nat} {num d : Int} {s : RS} (he : s.e = 0) : grp bs (f + 1) num d s =
    (if (s.tag bs).2.e = 0 then
        (if (s.tag bs).1.2 = 4 then (if (s.tag bs).1.1 = num then ((s.at_ : Int), (s.tag bs).2) else (0, (s.tag bs).2.wrong 13 s.at_))
        else grp bs f num d (if (s.tag bs).1.2 = 3 then (grp bs f (s.tag bs).1.1 (d - 1) ((s.tag bs).2.dep (d - 1))).2 else (s.tag bs).2.simple bs (s.tag bs).1.2))
      else (0, (s.tag bs).2)) := by
  rw [grp]
  rw [if_pos he]
theorem grp_bad {bs : List Int} {f : Nat} {num d : Int} {s : RS} (he : s.e ≠ 0) : grp bs f num d s = (0, s) := by
  cases f with
  | zero => rfl
  | succ f => rw [grp]; rw [if_neg he]
def RS.con (bs : List Int) (f : Nat) (num k d : Int) (s : RS) : RS := if k = 3 then (grp bs f num d (s.dep d)).2 else s.simple bs k
/-- It goes on, or stands, and stays within. -/
def RS.on (n : Nat) (s t : RS) : Prop := t.ok n ∧ t.en = s.en ∧ s.at_ ≤ t.at_ ∧ (t.e = 0 → s.e = 0)
theorem RS.on.refl {n : Nat} {s : RS} (h : s.ok n) : RS.on n s s := ⟨h, rfl, Nat.le_refl _, id⟩
theorem RS.on.trans {n : Nat} {s t u : RS} (h : RS.on n s t) (h' : RS.on n t u) : RS.on n s u :=
  ⟨h'.1, h'.2.1.trans h.2.1, Nat.le_trans h.2.2.1 h'.2.2.1, fun e => h.2.2.2 (h'.2.2.2 e)⟩
theorem RS.wrong_on {n : Nat} {s : RS} {e : Int} {a : Nat} (h : s.ok n) (ha : a ≤ n) (he : e ≠ 0) : RS.on n s (s.wrong e a) := by
  unfold RS.wrong
  split
  · exact ⟨⟨h.1, h.2.1, ha⟩, rfl, Nat.le_refl _, fun h => absurd h he⟩
  · exact RS.on.refl h
theorem RS.varint_on {bs : List Int} {n : Nat} {s : RS} (h : s.ok n) (hb : bs.length = n) (hby : Bytes bs) : RS.on n s (s.varint bs).2 := by
  obtain ⟨a, b, c, d, e, f⟩ := RS.varint_spec h hb hby
  exact ⟨a, b, c, fun h => (f h).1⟩
theorem RS.fixed_on {bs : List Int} {n w : Nat} {s : RS} (h : s.ok n) : RS.on n s (s.fixed w bs).2 := by
  unfold RS.fixed
  split
  · split
    · exact RS.wrong_on h (by have := h.1; have := h.2.1; omega) (by decide)
    · obtain ⟨h1, h2, h3⟩ := h
      exact ⟨⟨by simp only; omega, h2, h3⟩, rfl, by simp only; omega, id⟩
  · exact RS.on.refl h
theorem RS.span_on {bs : List Int} {n : Nat} {s : RS} (h : s.ok n) (hb : bs.length = n) (hby : Bytes bs) : RS.on n s (s.span bs).2 := by
  obtain ⟨a, b, c, d, e, f⟩ := RS.varint_spec h hb hby
  have hv := RS.varint_on h hb hby
  unfold RS.span
  split
  · rename_i he
    split
    · exact ⟨⟨by simp only; rw [b]; exact h.1, a.2.1, by simp only; have := h.1; have := h.2.1; omega⟩, b, Nat.le_refl _, fun h => by simp at h⟩
    · refine ⟨⟨?_, a.2.1, a.2.2⟩, b, by simp only; omega, fun _ => (f he).1⟩
      have := a.1
      have := d.1
      simp only
      omega
  · exact hv
theorem RS.tag_on {bs : List Int} {n : Nat} {s : RS} (h : s.ok n) (hb : bs.length = n) (hby : Bytes bs) : RS.on n s (s.tag bs).2 ∧ ((s.tag bs).2.e = 0 → s.at_ < (s.tag bs).2.at_) := by
  obtain ⟨a, b, c, d, e, f⟩ := RS.varint_spec h hb hby
  have hv := RS.varint_on h hb hby
  unfold RS.tag
  split
  · rename_i he
    split
    · exact ⟨⟨⟨by simp only; rw [b]; exact h.1, a.2.1, by simp only; have := h.1; have := h.2.1; omega⟩, b, Nat.le_refl _, fun h => by simp at h⟩, fun h => by simp at h⟩
    · exact ⟨hv, fun _ => (f he).2⟩
  · rename_i he
    exact ⟨hv, fun h => absurd h he⟩
theorem RS.simple_on {bs : List Int} {n : Nat} {s : RS} {k : Int} (h : s.ok n) (hb : bs.length = n) (hby : Bytes bs) : RS.on n s (s.simple bs k) := by
  unfold RS.simple
  split
  · exact RS.varint_on h hb hby
  · split
    · exact RS.fixed_on h
    · split
      · exact RS.span_on h hb hby
      · split
        · exact RS.fixed_on h
        · exact RS.on.refl h
theorem RS.dep_on {n : Nat} {s : RS} {d : Int} (h : s.ok n) : RS.on n s (s.dep d) := by
  unfold RS.dep
  split
  · exact RS.wrong_on h (by have := h.1; have := h.2.1; omega) (by decide)
  · exact RS.on.refl h
theorem grp_on {bs : List Int} {n : Nat} (hb : bs.length = n) (hby : Bytes bs) : ∀ (f : Nat) (num d : Int) (s : RS), s.ok n → RS.on n s (grp bs f num d s).2
  | 0, _, _, s, h => RS.on.refl h
  | f + 1, num, d, s, h => by
    have ht := (RS.tag_on h hb hby).1
    unfold grp
    split
    · split
      · split
        · split
          · exact ht
          · exact ht.trans (RS.wrong_on ht.1 (by have := h.1; have := h.2.1; omega) (by decide))
        · refine ht.trans ?_
          split
          · have h1 := RS.dep_on (d := d - 1) ht.1
            have h2 := grp_on hb hby f (s.tag bs).1.1 (d - 1) _ h1.1
            exact (h1.trans h2).trans (grp_on hb hby f num d _ h2.1)
          · have h1 := RS.simple_on (k := (s.tag bs).1.2) ht.1 hb hby
            exact h1.trans (grp_on hb hby f num d _ h1.1)
      · exact ht
    · exact RS.on.refl h
theorem RS.con_on {bs : List Int} {n f : Nat} {s : RS} {num k d : Int} (h : s.ok n) (hb : bs.length = n) (hby : Bytes bs) : RS.on n s (s.con bs f num k d) := by
  unfold RS.con
  split
  · exact (RS.dep_on h).trans (grp_on hb hby f num d _ (RS.dep_on h).1)
  · exact RS.simple_on h hb hby
theorem RS.tag_range {bs : List Int} {n : Nat} {s : RS} (hby : Bytes bs) (h : s.ok n) (hb : bs.length = n) : 0 ≤ (s.tag bs).1.1 ∧ (s.tag bs).1.1 ≤ 536870911 ∧ 0 ≤ (s.tag bs).1.2 ∧ (s.tag bs).1.2 ≤ 7 := by
  obtain ⟨_, _, _, d, _, _⟩ := RS.varint_spec h hb hby
  obtain ⟨d0, d1⟩ := d
  unfold RS.tag
  split
  · split
    · simp only; exact ⟨by omega, by omega, by omega, by omega⟩
    · simp only
      exact ⟨by omega, by omega, by omega, by omega⟩
  · simp only; exact ⟨by omega, by omega, by omega, by omega⟩
end Go.Sk
end
section
/- Plain: what a script of a writer comes to as bytes, and that it is read back. -/
namespace Go.Sk
/-- A step of a script: its cells. -/
structure SO where
  kind : Int
  who : Int
  n : Int
  k : Int
  w : Int
  d : Int
  ba : Option Addr
  bn : Nat
  bc : Nat
  bl : List Int
/-- So many bytes of a number, the lowest first. -/
def lo : Nat → Int → List Int
  | 0, _ => []
  | w + 1, v => v % 256 :: lo w (v / 256)
theorem lo_len : ∀ (w : Nat) (v : Int), (lo w v).length = w
  | 0, _ => rfl
  | w + 1, v => by simp [lo, lo_len w]
theorem lo_bytes : ∀ (w : Nat) (v : Int), Bytes (lo w v)
  | 0, _ => fun x hx => by cases hx
  | w + 1, v => fun x hx => by
    rcases List.mem_cons.1 hx with rfl | hx
    · exact ⟨by omega, by omega⟩
    · exact lo_bytes w _ x hx
theorem lev_lo : ∀ (w : Nat) (v : Int), lev (lo w v) = v % 256 ^ w
  | 0, v => by simp [lo, lev]
  | w + 1, v => by
    simp only [lo, lev]
    rw [lev_lo w, Int.pow_succ, Int.mul_comm (256 ^ w) 256]
    have hp : (0 : Int) < 256 ^ w := Int.pow_pos (by decide)
    generalize (256 : Int) ^ w = p at *
    have h1 := Int.emod_add_mul_ediv v 256
    have h2 := Int.emod_add_mul_ediv (v / 256) p
    have h3 : v / 256 / p = v / (256 * p) := by rw [Int.ediv_ediv_of_nonneg (by decide)]
    have h4 := Int.emod_add_mul_ediv v (256 * p)
    rw [h3] at h2
    generalize v / 256 % p = a at *
    generalize v / (256 * p) = c at *
    generalize v / 256 = q at *
    generalize v % (256 * p) = d at *
    have h5 : 256 * p * c = 256 * (p * c) := by rw [Int.mul_assoc]
    generalize p * c = e at *
    omega
def SO.simple (o : SO) : Prop := o.kind = 1 ∨ o.kind = 2 ∨ o.kind = 3 ∨ o.kind = 4 ∨ o.kind = 5
def SO.good (o : SO) : Prop := V64 o.n ∧ (o.kind = 4 → 1 ≤ o.k ∧ o.k ≤ 536870911 ∧ 0 ≤ o.w ∧ o.w ≤ 5) ∧ o.bl.length = o.bn ∧ Bytes o.bl ∧ o.bn ≤ 140737488355328
def SO.bytes (o : SO) : List Int :=
  if o.kind = 1 then enc o.n else if o.kind = 2 then lo 4 (o.n % 4294967296) else if o.kind = 3 then lo 8 o.n else if o.kind = 4 then enc (o.k * 8 + o.w) else enc o.bn ++ o.bl
inductive Ser : List SO → List Int → Prop
  | nil : Ser [] []
  | one {o : SO} {l : List SO} {b : List Int} : o.simple → o.good → Ser l b → Ser (o :: l) (o.bytes ++ b)
  | part {o q : SO} {l1 l2 : List SO} {b1 b2 : List Int} : o.kind = 7 → q.kind = 8 → Ser l1 b1 → Ser l2 b2 → Ser (o :: (l1 ++ q :: l2)) (enc b1.length ++ (b1 ++ b2))
theorem Ser.app {l l' : List SO} {b b' : List Int} (h : Ser l b) (h' : Ser l' b') : Ser (l ++ l') (b ++ b') := by
  induction h with
  | nil => exact h'
  | one s g _ ih => rw [List.append_assoc]; exact .one s g ih
  | part a c h1 _ _ ih => rw [List.append_assoc, List.append_assoc, List.cons_append, List.append_assoc]; exact .part a c h1 ih
/-- A script, some of its parts being open. -/
inductive St : List SO → List Int → List Int → Prop
  | base {l : List SO} {b : List Int} : Ser l b → St l b []
  | opn {o : SO} {l l1 : List SO} {b b1 op : List Int} : o.kind = 7 → St l b op → Ser l1 b1 → St (l ++ o :: l1) (b ++ b1) (op ++ [(b.length : Int)])
theorem St.app {l l' : List SO} {b b' op : List Int} (h : St l b op) (h' : Ser l' b') : St (l ++ l') (b ++ b') op := by
  cases h with
  | base h => exact .base (h.app h')
  | opn k s h => rw [List.append_assoc, List.append_assoc, List.cons_append]; exact .opn k s (h.app h')
theorem St.item {l : List SO} {o : SO} {b op : List Int} (h : St l b op) (hs : o.simple) (hg : o.good) : St (l ++ [o]) (b ++ o.bytes) op := by
  have := h.app (.one hs hg .nil)
  rwa [List.append_nil] at this
theorem St.push {l : List SO} {o : SO} {b op : List Int} (h : St l b op) (hk : o.kind = 7) : St (l ++ [o]) b (op ++ [(b.length : Int)]) := by
  have := St.opn hk h .nil
  rwa [List.append_nil] at this
theorem St.shut {l : List SO} {q : SO} {b op : List Int} {x : Int} (h : St l b (op ++ [x])) (hk : q.kind = 8) :
    ∃ p : Nat, x = p ∧ p ≤ b.length ∧ St (l ++ [q]) (b.take p ++ enc ((b.length : Int) - p) ++ b.drop p) op := by
  generalize hop : op ++ [x] = op2 at h
  cases h with
  | base h => simp at hop
  | @opn o l l1 b b1 op' hk' s h =>
    obtain ⟨rfl, h2⟩ := List.append_inj' hop rfl
    simp only [List.cons.injEq, and_true] at h2
    subst h2
    refine ⟨b.length, rfl, by simp, ?_⟩
    rw [List.take_left, List.drop_left, List.append_assoc, List.append_assoc, show (((b ++ b1).length : Nat) : Int) - (b.length : Int) = (b1.length : Int) by simp; omega]
    have := s.app (Ser.part (q := q) (l2 := []) hk' hk h .nil)
    rwa [List.append_nil] at this
theorem St.end_ {l : List SO} {b : List Int} (h : St l b []) : Ser l b := by
  generalize hop : ([] : List Int) = op at h
  cases h with
  | base h => exact h
  | opn => simp at hop
theorem St.last {l : List SO} {b op : List Int} (h : St l b op) : ∀ x ∈ op, 0 ≤ x ∧ x ≤ b.length := by
  induction h with
  | base h => intro x hx; cases hx
  | opn k s h ih =>
    intro x hx
    rw [List.length_append]
    rcases List.mem_append.1 hx with hx | hx
    · have := ih x hx; omega
    · simp only [List.mem_singleton] at hx; subst hx; omega
/-! ### reading it -/
theorem vr_enc {v : Int} (h : V64 v) (r : List Int) : vr (enc v ++ r) 0 0 = .ok v (enc v).length := by
  obtain ⟨l, x, e, hm, hl, h0, h1, hv, h9, _⟩ := enc_val h
  rw [e, List.append_assoc]
  have := vr_more l 0 0 x r hm (by omega) h0 h1 (fun h => h9 (by omega))
  rw [List.singleton_append, this, hv]
  simp
def RS.mv (s : RS) (k : Nat) : RS := { s with at_ := s.at_ + k }
theorem RS.mv_e (s : RS) (k : Nat) : (s.mv k).e = s.e := rfl
theorem RS.mv_en (s : RS) (k : Nat) : (s.mv k).en = s.en := rfl
theorem RS.mv_at (s : RS) (k : Nat) : (s.mv k).at_ = s.at_ + k := rfl
theorem RS.seg_mv {bs x y : List Int} {s : RS} (h : s.seg bs = x ++ y) : (s.mv x.length).seg bs = y := by
  unfold RS.seg RS.mv at *
  simp only
  rw [← List.drop_drop, Nat.sub_add_eq, ← List.drop_take, h, List.drop_left]
theorem RS.mv_ok {bs x y : List Int} {n : Nat} {s : RS} (hs : s.ok n) (hb : bs.length = n) (h : s.seg bs = x ++ y) : (s.mv x.length).ok n ∧ s.at_ + x.length + y.length = s.en := by
  have h1 := RS.seg_len hs hb
  rw [h, List.length_append] at h1
  obtain ⟨a, b, c⟩ := hs
  exact ⟨⟨by simp only [RS.mv]; omega, b, c⟩, by omega⟩
theorem RS.varint_mv {bs y : List Int} {s : RS} {v : Int} (he : s.e = 0) (hv : V64 v) (h : s.seg bs = enc v ++ y) : s.varint bs = (v, s.mv (enc v).length) := by
  unfold RS.varint
  rw [if_pos he, h, vr_enc hv]
  rfl
theorem RS.fixed_mv {bs y : List Int} {n w : Nat} {s : RS} {v : Int} (he : s.e = 0) (hs : s.ok n) (hb : bs.length = n) (h : s.seg bs = lo w v ++ y) : s.fixed w bs = (v % 256 ^ w, s.mv w) := by
  have h1 := RS.seg_len hs hb
  rw [h, List.length_append, lo_len] at h1
  unfold RS.fixed
  rw [if_pos he, if_neg (by omega)]
  have h2 : (bs.drop s.at_).take w = (s.seg bs).take w := by
    unfold RS.seg
    rw [List.take_take, Nat.min_eq_left (by omega)]
  rw [h2, h, List.take_left' (lo_len w v), lev_lo]
  rfl
theorem RS.tag_mv {bs y : List Int} {s : RS} {n k : Int} (he : s.e = 0) (hn : 1 ≤ n ∧ n ≤ 536870911 ∧ 0 ≤ k ∧ k ≤ 5) (h : s.seg bs = enc (n * 8 + k) ++ y) : s.tag bs = ((n, k), s.mv (enc (n * 8 + k)).length) := by
  unfold RS.tag
  rw [RS.varint_mv he ⟨by omega, by omega⟩ h]
  simp only
  rw [RS.mv_e, if_pos he, if_neg (by omega)]
  congr 1
  congr 1
  · omega
  · omega
theorem RS.span_mv {bs y z : List Int} {n : Nat} {s : RS} (he : s.e = 0) (hs : s.ok n) (hn : n ≤ 140737488355328) (hb : bs.length = n) (h : s.seg bs = enc z.length ++ (z ++ y)) :
    s.span bs = (some (s.at_ + (enc z.length).length, s.at_ + (enc z.length).length + z.length), s.mv ((enc z.length).length + z.length)) := by
  have h1 := (RS.mv_ok hs hb h).2
  have hen := hs.2.1
  rw [List.length_append] at h1
  unfold RS.span
  rw [RS.varint_mv he ⟨by omega, by omega⟩ h]
  simp only
  rw [RS.mv_e, if_pos he, RS.mv_en, RS.mv_at, if_neg (by omega)]
  simp only [RS.mv, Int.toNat_natCast, Nat.add_assoc]
theorem RS.span_seg {bs y z : List Int} {n : Nat} {s : RS} (hs : s.ok n) (hb : bs.length = n) (h : s.seg bs = enc z.length ++ (z ++ y)) :
    (bs.drop (s.at_ + (enc z.length).length)).take z.length = z := by
  have h1 := (RS.mv_ok hs hb h).2
  have h2 := RS.seg_mv h
  rw [List.length_append] at h1
  unfold RS.seg RS.mv at h2
  simp only at h2
  have h3 : (bs.drop (s.at_ + (enc z.length).length)).take z.length = ((bs.drop (s.at_ + (enc z.length).length)).take (s.en - (s.at_ + (enc z.length).length))).take z.length := by
    rw [List.take_take, Nat.min_eq_left (by omega)]
  rw [h3, h2, List.take_left]
/-- What is still to be read: of the reader that stands, and of those that wait. -/
inductive Rst (bs : List Int) (n : Nat) : List SO → RS → List RS → Prop
  | base {l : List SO} {s : RS} : s.e = 0 → s.ok n → Ser l (s.seg bs) → Rst bs n l s []
  | more {q : SO} {l l2 : List SO} {s s' : RS} {st : List RS} : s.e = 0 → s.ok n → q.kind = 8 → Ser l (s.seg bs) → Rst bs n l2 s' st → Rst bs n (l ++ q :: l2) s (s' :: st)
theorem Rst.ok {bs : List Int} {n : Nat} {l : List SO} {s : RS} {st : List RS} (h : Rst bs n l s st) : s.e = 0 ∧ s.ok n := by
  cases h with
  | base a b _ => exact ⟨a, b⟩
  | more a b _ _ _ => exact ⟨a, b⟩
/-- What the next step is. -/
theorem Rst.step {bs : List Int} {n : Nat} (hb : bs.length = n) {o : SO} {l : List SO} {s : RS} {st : List RS} (h : Rst bs n (o :: l) s st) :
    (o.simple ∧ o.good ∧ ∃ y, s.seg bs = o.bytes ++ y ∧ Rst bs n l (s.mv o.bytes.length) st) ∨
    (o.kind = 7 ∧ ∃ z y : List Int, s.seg bs = enc z.length ++ (z ++ y) ∧ Rst bs n l ⟨s.at_ + (enc z.length).length, s.at_ + (enc z.length).length + z.length, 0, 0⟩ (s.mv ((enc z.length).length + z.length) :: st)) ∨
    (o.kind = 8 ∧ s.at_ = s.en ∧ ∃ s' st', st = s' :: st' ∧ Rst bs n l s' st') := by
  have key : ∀ {l1 : List SO} {b : List Int}, Ser l1 b → ∀ (o : SO) (l' : List SO), l1 = o :: l' → (o.simple ∧ o.good ∧ ∃ y, b = o.bytes ++ y ∧ Ser l' y) ∨ (o.kind = 7 ∧ ∃ (q : SO) (l1' l2' : List SO) (z y : List Int), l' = l1' ++ q :: l2' ∧ q.kind = 8 ∧ b = enc z.length ++ (z ++ y) ∧ Ser l1' z ∧ Ser l2' y) := by
    intro l1 b hser o l' he
    cases hser with
    | nil => cases he
    | one a g h => cases he; exact .inl ⟨a, g, _, rfl, h⟩
    | part a c h1 h2 => cases he; exact .inr ⟨a, _, _, _, _, _, rfl, c, rfl, h1, h2⟩
  have inner : ∀ {z y : List Int}, s.ok n → s.seg bs = enc z.length ++ (z ++ y) → (⟨s.at_ + (enc z.length).length, s.at_ + (enc z.length).length + z.length, 0, 0⟩ : RS).ok n ∧ (⟨s.at_ + (enc z.length).length, s.at_ + (enc z.length).length + z.length, 0, 0⟩ : RS).seg bs = z ∧ (s.mv ((enc z.length).length + z.length)).ok n ∧ (s.mv ((enc z.length).length + z.length)).seg bs = y := by
    intro z y hok hseg
    have h1 := (RS.mv_ok hok hb hseg).2
    have h2 := RS.span_seg hok hb hseg
    rw [List.length_append] at h1
    have h3 := hok.2.1
    have h4 : s.seg bs = (enc z.length ++ z) ++ y := by rw [List.append_assoc]; exact hseg
    have h5 := RS.seg_mv h4
    have h6 := (RS.mv_ok hok hb h4).1
    rw [List.length_append] at h5 h6
    refine ⟨⟨by simp only; omega, by simp only; omega, by simp only; omega⟩, ?_, h6, h5⟩
    unfold RS.seg
    simp only
    rw [show s.at_ + (enc z.length).length + z.length - (s.at_ + (enc z.length).length) = z.length by omega]
    exact h2
  generalize hl : o :: l = L at h
  cases h with
  | base he hok hser =>
    rcases key hser o l hl.symm with ⟨a, g, y, hy, hs⟩ | ⟨a, q, l1, l2, z, y, rfl, hq, hy, hs1, hs2⟩
    · refine .inl ⟨a, g, y, hy, .base he (RS.mv_ok hok hb hy).1 (by rw [RS.seg_mv hy]; exact hs)⟩
    · obtain ⟨i1, i2, i3, i4⟩ := inner hok hy
      exact .inr (.inl ⟨a, z, y, hy, .more rfl i1 hq (by rw [i2]; exact hs1) (.base he i3 (by rw [i4]; exact hs2))⟩)
  | @more q l1 l2 _ s' st' he hok hk hser hrest =>
    cases l1 with
    | nil =>
      simp only [List.nil_append, List.cons.injEq] at hl
      obtain ⟨rfl, rfl⟩ := hl
      refine .inr (.inr ⟨hk, ?_, s', st', rfl, hrest⟩)
      have h1 := RS.seg_len hok hb
      have h0 : s.seg bs = [] := by
        generalize s.seg bs = x at hser
        cases hser; rfl
      rw [h0, List.length_nil] at h1
      have := hok.1
      omega
    | cons o' l1 =>
      simp only [List.cons_append, List.cons.injEq] at hl
      obtain ⟨rfl, rfl⟩ := hl
      rcases key hser o l1 rfl with ⟨a, g, y, hy, hs⟩ | ⟨a, q', l1', l2', z, y, rfl, hq, hy, hs1, hs2⟩
      · refine .inl ⟨a, g, y, hy, .more he (RS.mv_ok hok hb hy).1 hk (by rw [RS.seg_mv hy]; exact hs) hrest⟩
      · obtain ⟨i1, i2, i3, i4⟩ := inner hok hy
        refine .inr (.inl ⟨a, z, y, hy, ?_⟩)
        rw [List.append_assoc, List.cons_append]
        exact .more rfl i1 hq (by rw [i2]; exact hs1) (.more he i3 hk (by rw [i4]; exact hs2) hrest)
theorem Rst.end_ {bs : List Int} {n : Nat} (hb : bs.length = n) {s : RS} {st : List RS} (h : Rst bs n [] s st) : st = [] ∧ s.at_ = s.en := by
  generalize hl : ([] : List SO) = L at h
  cases h with
  | base he hok hser =>
    refine ⟨rfl, ?_⟩
    subst hl
    have h1 := RS.seg_len hok hb
    have h0 : s.seg bs = [] := by
      generalize s.seg bs = x at hser
      cases hser; rfl
    rw [h0, List.length_nil] at h1
    have := hok.1
    omega
  | more => simp at hl
end Go.Sk
end
section
/- Plain: where a reader's bytes with their length lie. -/
namespace Go.Sk
theorem RS.span_in {bs : List Int} {n : Nat} {s : RS} (h : s.ok n) (hb : bs.length = n) (hby : Bytes bs) : ∀ i j, (s.span bs).1 = some (i, j) → i ≤ j ∧ j ≤ n := by
  intro i j hij
  obtain ⟨a, b, c, d, e, f⟩ := RS.varint_spec h hb hby
  have hd := d.1
  have h2 := a.2.1
  unfold RS.span at hij
  split at hij
  · split at hij
    · cases hij
    · simp only [Option.some.injEq, Prod.mk.injEq] at hij
      omega
  · cases hij
/-- The bytes with their length that a reader has ahead. -/
def RS.bytes (bs : List Int) (s : RS) : List Int × RS := match (s.span bs).1 with
  | some (i, j) => ((bs.drop i).take (j - i), (s.span bs).2)
  | none => ([], (s.span bs).2)
end Go.Sk
end
