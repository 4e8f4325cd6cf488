/- Merged: Y9, P60, P61, T6, U1, U2, E2, P41, R12, E3, E4, E5. -/
import Derived.Test.YtclcnhfponjdaaaGreatDoorWB
import Derived.Test.YtclcnhfponjdaaaGreatDoorSkB
import Derived.Test.YtclcnhfponjdaaaGreatDoorWA
import Derived.Test.YtclcnhfponjdaaaGreatDoorSkA
set_option linter.unusedVariables false
set_option linter.unusedSimpArgs false
section
namespace Go.Proofs.YtclcnhfponjdaaaGreatDoor
open Go.Sk
set_option maxRecDepth 100000
/-! ### the rows that a record owns -/
def noOw {β : Type} : β → List HP := fun _ => []
def txO (r : Rw Txt) : HP := Own r.a r.c 9 1 r.l.length (tstr r.l)
def eOw (e : EnumT) : List HP := [Own e.vals.a e.vals.c 80 2 e.vals.l.length (e.vals.l.flatMap EValT.cells), Bag (e.vals.l.flatMap noOw), Own e.res.a e.res.c 196 2 e.res.l.length (e.res.l.flatMap SpanT.cells), Bag (e.res.l.flatMap noOw), txO e.names]
mutual
def mOw : MsgT → List HP
 | .mk _ fields oneofs ma mc msgs enums res names => [Own fields.a fields.c 240 9 fields.l.length (fields.l.flatMap FieldT.cells), Bag (fields.l.flatMap noOw), txO oneofs, Own ma mc 187 7 msgs.length (msgs.flatMap MsgT.cells), Bag (mOwL msgs), Own enums.a enums.c 85 5 enums.l.length (enums.l.flatMap EnumT.cells), Bag (enums.l.flatMap eOw), Own res.a res.c 196 2 res.l.length (res.l.flatMap SpanT.cells), Bag (res.l.flatMap noOw), txO names]
def mOwL : List MsgT → List HP
 | [] => []
 | m :: l => mOw m ++ mOwL l
end
theorem mOwL_flat : ∀ l : List MsgT, mOwL l = l.flatMap mOw
 | [] => by unfold mOwL; rfl
 | m :: l => by unfold mOwL; rw [mOwL_flat l, List.flatMap_cons]
theorem mOw_mk {nm : Txt} {fields : Rw FieldT} {oneofs : Rw Txt} {ma : Option Addr} {mc : Nat} {msgs : List MsgT} {enums : Rw EnumT} {res : Rw SpanT} {names : Rw Txt} : mOw (.mk nm fields oneofs ma mc msgs enums res names) = [Own fields.a fields.c 240 9 fields.l.length (fields.l.flatMap FieldT.cells), Bag (fields.l.flatMap noOw), txO oneofs, Own ma mc 187 7 msgs.length (msgs.flatMap MsgT.cells), Bag (msgs.flatMap mOw), Own enums.a enums.c 85 5 enums.l.length (enums.l.flatMap EnumT.cells), Bag (enums.l.flatMap eOw), Own res.a res.c 196 2 res.l.length (res.l.flatMap SpanT.cells), Bag (res.l.flatMap noOw), txO names] := by
 unfold mOw
 rw [mOwL_flat]
def fOw (f : FileT) : List HP := [Own f.imps.a f.imps.c 161 2 f.imps.l.length (f.imps.l.flatMap ImpT.cells), Bag (f.imps.l.flatMap noOw), Own f.ma f.mc 187 7 f.msgs.length (f.msgs.flatMap MsgT.cells), Bag (f.msgs.flatMap mOw), Own f.enums.a f.enums.c 85 5 f.enums.l.length (f.enums.l.flatMap EnumT.cells), Bag (f.enums.l.flatMap eOw)]
def sOw (r : Rw FileT) : List HP := [Own r.a r.c 75 5 r.l.length (r.l.flatMap FileT.cells), Bag (r.l.flatMap fOw)]
def sEr (r : Rw FileT) : Rw FileT := ⟨none, 0, r.l.map fEr⟩
def eCnt (e : EnumT) : Nat := e.vals.l.length + e.res.l.length + e.names.l.length
def mCnt : MsgT → Nat
 | .mk _ fields oneofs _ _ msgs enums res names => fields.l.length + oneofs.l.length + msgs.length + enums.l.length + res.l.length + names.l.length
def fCnt (f : FileT) : Nat := f.imps.l.length + f.msgs.length + f.enums.l.length
def sCnt (r : Rw FileT) : Nat := r.l.length
/-! ### a field's reader out of its closure's contract -/
theorem RdrC.mono {α : Type} {B : World} {R R' : List HP} {fr : FuncId} {sl : Value} {dd : Int} {a : Option Addr} {n c : Nat} {cells : α → List Value} {er : α → α} {ow : α → List HP} {rdp : Nat → Nat → Except Nat α} (h : RdrC B R fr sl dd a n c cells er ow rdp) (hM : ∀ a k c z l, Rd B R a k c z l → Rd B R' a k c z l) : RdrC B R' fr sl dd a n c cells er ow rdp :=
 fun R2 hM2 => h R2 fun a k c z l q => hM2 a k c z l (hM a k c z l q)
attribute [local irreducible] Bag Cs Own
section
variable {α : Type} {B : World} {R : List HP} {ty : TypeId} {f : FP} {what : FK} {num : Nat} {cells : α → List Value} {er : α → α} {ow : α → List HP} {cnt : α → Nat} {bs : Txt} {a : Option Addr} {n c : Nat} {deep : Int} {upd : α → Nat → Got → Except Nat α}
theorem GetC.one (val : Int → Nat → Nat → Value) (off : Nat) (nx : α → Int → Nat → Nat → α)
  (hlen : ∀ x, off < (cells x).length)
  (h : ∀ R', (∀ a k c z l, Rd B R a k c z l → Rd B R' a k c z l) → ∀ pd px pr p to (at_ : Int) xs, p ≤ to → to ≤ n → off < xs.length → Rd B R' (some ⟨pd, 0, none⟩) 1 1 3 [ptr pr, .int .i64 at_, .int .i64 deep] →
   SpP B Tryz.prog f.fg ([ptr pd, ptr px] ++ f.cg) R' [Cs px ty xs, rdo pr a n c p to] (fun _ H' => ∃ m q t, contL what bs p to = some (m, q, t) ∧ t ≤ to ∧ q ≤ t ∧ p < q ∧ H' = [Cs px ty (xs.set off (val m q t)), rdo pr a n c t to]) (fun v H' => contL what bs p to = none ∧ v = wrv at_ ∧ H' = []))
  (hc : ∀ x m q t, (cells x).set off (val m q t) = cells (nx x m q t)) (ho : ∀ x m q t, ow (nx x m q t) = ow x) (hn : ∀ x m q t, cnt (nx x m q t) = cnt x)
  (hu : ∀ x at_ m q t, upd (er x) at_ ⟨num, m, q, t⟩ = .ok (er (nx x m q t))) : GetC B R ty f what num cells er ow cnt bs a n c deep upd := by
 intro R' hM pd px pr p to at_ x h1 h2 h3 hD
 refine (h (Bag (ow x) :: R') (fun a k c z l q => (hM a k c z l q).cons) pd px pr p to at_ (cells x) h1 h2 (hlen x) hD.cons).conv (fun w s => s.frd (Ps := [_, _]) (Qs := []) fR_) ?_ ?_
 ·rintro v X ⟨m, q, t, g1, g2, g3, g4, rfl⟩
  refine ⟨_, ⟨m, q, t, nx x m q t, g1, g2, g3, g4, by rw [hn]; omega, hu x at_ m q t, rfl⟩, fun w s => ?_⟩
  rw [ho, ← hc]
  exact s.frd (Ps := [_, _, _]) (Qs := []) fR_
 ·rintro v X ⟨g1, rfl, rfl⟩
  exact ⟨[], ⟨at_, rfl, rfl, .inl ⟨g1, rfl⟩⟩, fun w s => s.tail⟩
theorem GetC.txts (off : Nat) (row : α → Rw Txt) (rest : α → List HP) (nx : α → Option Addr → Nat → Txt → α) (hoff : ∀ x, (cells x)[off]? = some (row x).v)
  (h : ∀ R', (∀ a k c z l, Rd B R a k c z l → Rd B R' a k c z l) → ∀ pd px pr p to (at_ : Int) xs (ar : Option Addr) (cr : Nat) (ls : List Txt), p ≤ to → to ≤ n → Rd B R' (some ⟨pd, 0, none⟩) 1 1 3 [ptr pr, .int .i64 at_, .int .i64 deep] → xs[off]? = some (.slice ar ls.length cr) → ls.length ≤ 16777216 →
   SpP B Tryz.prog f.fg ([ptr pd, ptr px] ++ f.cg) R' [Cs px ty xs, Own ar cr 9 1 ls.length (tstr ls), rdo pr a n c p to] (fun _ H' => ∃ m q t a' c', contL .ts bs p to = some (m, q, t) ∧ t ≤ to ∧ q ≤ t ∧ p < q ∧ H' = [Cs px ty (xs.set off (.slice a' (ls.length + 1) c')), Own a' c' 9 1 (ls.length + 1) (tstr (ls ++ [(bs.drop q).take (t - q)])), rdo pr a n c t to]) (fun v H' => contL .ts bs p to = none ∧ v = wrv at_ ∧ H' = []))
  (hin : ∀ x, Fr (ow x) [txO (row x)] (rest x)) (hrow : ∀ x a' c' v, row (nx x a' c' v) = ⟨a', c', (row x).l ++ [v]⟩) (hrest : ∀ x a' c' v, rest (nx x a' c' v) = rest x)
  (hc : ∀ x a' c' v, (cells x).set off (.slice a' ((row x).l.length + 1) c') = cells (nx x a' c' v)) (hn : ∀ x a' c' v, cnt (nx x a' c' v) = cnt x + 1) (hr : ∀ x, (row x).l.length ≤ cnt x) (h16 : n ≤ 16777216)
  (hu : ∀ x at_ m q t a' c', upd (er x) at_ ⟨num, m, q, t⟩ = .ok (er (nx x a' c' ((bs.drop q).take (t - q))))) : GetC B R ty f .ts num cells er ow cnt bs a n c deep upd := by
 intro R' hM pd px pr p to at_ x h1 h2 h3 hD
 have hrx := hr x
 refine (h (rest x ++ R') (fun a k c z l q => (hM a k c z l q).app) pd px pr p to at_ (cells x) (row x).a (row x).c (row x).l h1 h2 hD.app (hoff x) (by omega)).conv (fun w s => bag_out (hin x) s) ?_ ?_
 ·rintro v X ⟨m, q, t, a', c', g1, g2, g3, g4, rfl⟩
  refine ⟨_, ⟨m, q, t, nx x a' c' ((bs.drop q).take (t - q)), g1, g2, g3, g4, by rw [hn]; omega, hu x at_ m q t a' c', rfl⟩, fun w s => ?_⟩
  have f := hin (nx x a' c' ((bs.drop q).take (t - q)))
  rw [hrow, hrest] at f
  unfold txO at f
  rw [List.length_append, List.length_singleton] at f
  rw [← hc]
  exact bag_in f s
 ·rintro v X ⟨g1, rfl, rfl⟩
  exact ⟨[], ⟨at_, rfl, rfl, .inl ⟨g1, rfl⟩⟩, fun w s => Sat.drop_ (Ps := rest x) s⟩
theorem GetC.rows {β : Type} (off : Nat) {e z : Nat} {vc : β → List Value} {vow : β → List HP} {ver : β → β} {rdp : Nat → Nat → Except Nat β} {dd : Int} (row : α → Rw β) (rest : α → List HP) (nx : α → Option Addr → Nat → β → α) (hoff : ∀ x, (cells x)[off]? = some (row x).v)
  (h : ∀ R', (∀ a k c z l, Rd B R a k c z l → Rd B R' a k c z l) → ∀ pd px pr p to (at_ : Int) xs (ar : Option Addr) (cr : Nat) (l : List β), p ≤ to → to ≤ n → Rd B R' (some ⟨pd, 0, none⟩) 1 1 3 [ptr pr, .int .i64 at_, .int .i64 deep] → xs[off]? = some (.slice ar l.length cr) → l.length ≤ 16777216 →
   SpP B Tryz.prog f.fg ([ptr pd, ptr px] ++ f.cg) R' [Cs px ty xs, Own ar cr e z l.length (l.flatMap vc), Bag (l.flatMap vow), rdo pr a n c p to] (fun _ H' => ∃ m q t a' c' x, contL .rs bs p to = some (m, q, t) ∧ ¬ 100 < dd ∧ rdp q t = .ok (ver x) ∧ t ≤ to ∧ q ≤ t ∧ p < q ∧ H' = [Cs px ty (xs.set off (.slice a' (l.length + 1) c')), Own a' c' e z (l.length + 1) ((l ++ [x]).flatMap vc), Bag ((l ++ [x]).flatMap vow), rdo pr a n c t to]) (PPS bs p to dd at_ rdp))
  (hin : ∀ x, Fr (ow x) [Own (row x).a (row x).c e z (row x).l.length ((row x).l.flatMap vc), Bag ((row x).l.flatMap vow)] (rest x)) (hrow : ∀ x a' c' v, row (nx x a' c' v) = ⟨a', c', (row x).l ++ [v]⟩) (hrest : ∀ x a' c' v, rest (nx x a' c' v) = rest x)
  (hc : ∀ x a' c' v, (cells x).set off (.slice a' ((row x).l.length + 1) c') = cells (nx x a' c' v)) (hn : ∀ x a' c' v, cnt (nx x a' c' v) = cnt x + 1) (hr : ∀ x, (row x).l.length ≤ cnt x) (h16 : n ≤ 16777216)
  (hu : ∀ x at_ m q t a' c' v, ¬ 100 < dd → rdp q t = .ok (ver v) → upd (er x) at_ ⟨num, m, q, t⟩ = .ok (er (nx x a' c' v)))
  (hue : ∀ x at_ m q t pl, ¬ 100 < dd → rdp q t = .error pl → upd (er x) at_ ⟨num, m, q, t⟩ = .error pl)
  (hud : ∀ x at_ m q t, 100 < dd → upd (er x) at_ ⟨num, m, q, t⟩ = .error at_) : GetC B R ty f .rs num cells er ow cnt bs a n c deep upd := by
 intro R' hM pd px pr p to at_ x h1 h2 h3 hD
 have hrx := hr x
 refine (h (rest x ++ R') (fun a k c z l q => (hM a k c z l q).app) pd px pr p to at_ (cells x) (row x).a (row x).c (row x).l h1 h2 hD.app (hoff x) (by omega)).conv (fun w s => bag_out (hin x) s) ?_ ?_
 ·rintro v X ⟨m, q, t, a', c', y, g1, g0, g5, g2, g3, g4, rfl⟩
  refine ⟨_, ⟨m, q, t, nx x a' c' y, g1, g2, g3, g4, by rw [hn]; omega, hu x at_ m q t a' c' y g0 g5, rfl⟩, fun w s => ?_⟩
  have f := hin (nx x a' c' y)
  rw [hrow, hrest] at f
  simp only at f
  rw [List.length_append, List.length_singleton] at f
  rw [← hc]
  exact bag_in f s
 ·rintro v X ⟨pl, rfl, rfl, ⟨rfl, hh⟩ | ⟨m, q, t, pl', g1, g2, g3, rfl⟩⟩
  ·refine ⟨[], ⟨at_, rfl, rfl, ?_⟩, fun w s => Sat.drop_ (Ps := rest x) s⟩
   cases hk : contL .rs bs p to with
   | none => exact .inl ⟨rfl, rfl⟩
   | some mqt =>
    obtain ⟨m, q, t⟩ := mqt
    rcases hh with hh | hh
    ·rw [hk] at hh; cases hh
    ·exact .inr ⟨m, q, t, rfl, hud x at_ m q t hh⟩
  ·exact ⟨[], ⟨pl', rfl, rfl, .inr ⟨m, q, t, g1, hue x at_ m q t pl' g2 g3⟩⟩, fun w s => Sat.drop_ (Ps := rest x) s⟩
end
section
variable {B : World} {R : List HP} {t : TB} {a : Option Addr} {n c : Nat} {deep : Int} {bs : Txt}
theorem sl_snoc {β : Type} {l : List β} (v : β) {a : Option Addr} {c : Nat} : Value.slice a (l.length + 1) c = .slice a (l ++ [v]).length c := by rw [List.length_append]; rfl
variable (hT : Lib.Utf8Tabs 0 1 B) (hF : Facts B R t) (hR : Rd B R a n c 1 (ints .u8 bs)) (hb : Bytes bs) (h3 : n ≤ 16777216)
include hF hR hb h3

theorem get_Span_1 : GetC B R 196 ⟨1, 0, false, 175, [t.bp 1, t.bp 0], 179, [t.bp 1]⟩ .z 1 SpanT.cells id noOw (fun _ => 0) bs a n c deep (fSpan bs) :=
 GetC.one (fun m q t => .int .i32 (unzig m)) 0 (fun x m q t => { x with f := unzig m }) (fun x => by exact Nat.le_of_ble_eq_true rfl)
  (fun R' hM pd px pr p to at_ xs h1 h2 hx hD => (signed_Span_int32_get hD (hM _ _ _ _ _ hR) hb h1 h2 h3 (hM _ _ _ _ _ (hF.box 1 _ _ _ rfl)) rfl (of1_fn ⟨px, 0, none⟩) hx).post (fun v X ⟨m, q, g1, g2, g3, _, _, g6⟩ => ⟨m, q, q, g1, g2, Nat.le_refl _, g3, g6⟩))
  (fun x m q t => by rfl) (fun x m q t => by rfl) (fun x m q t => by rfl) (fun x at_ m q t => by rfl)
theorem get_Span_2 : GetC B R 196 ⟨2, 0, false, 175, [t.bp 3, t.bp 2], 179, [t.bp 3]⟩ .z 2 SpanT.cells id noOw (fun _ => 0) bs a n c deep (fSpan bs) :=
 GetC.one (fun m q t => .int .i32 (unzig m)) 1 (fun x m q t => { x with t := unzig m }) (fun x => by exact Nat.le_of_ble_eq_true rfl)
  (fun R' hM pd px pr p to at_ xs h1 h2 hx hD => (signed_Span_int32_get hD (hM _ _ _ _ _ hR) hb h1 h2 h3 (hM _ _ _ _ _ (hF.box 3 _ _ _ rfl)) rfl (of2_fn ⟨px, 0, none⟩) hx).post (fun v X ⟨m, q, g1, g2, g3, _, _, g6⟩ => ⟨m, q, q, g1, g2, Nat.le_refl _, g3, g6⟩))
  (fun x m q t => by rfl) (fun x m q t => by rfl) (fun x m q t => by rfl) (fun x at_ m q t => by rfl)
theorem rd_Span (hd0 : 0 ≤ deep) (hd1 : deep ≤ 100) : RdrC B R 202 (t.sl 7 2) deep a n c SpanT.cells id noOw (rdSpan bs) :=
 read_Span (form := formSpan) (fs := fs7 t) (ra := t.ra 7) (rc := t.rc 7) (er := id) (ow := noOw) (cnt := (fun _ => 0)) (upd := fSpan bs) hF.r7 rfl (Nat.le_of_ble_eq_true rfl)
  (AllI.get0 (l := fs7 t) (P := fun i (f : FP) => f.num = ((i + 1 : Nat) : Int) ∧ f.kind = (FK.kind (formSpan.getD i .t)) ∧ f.lst = (FK.list (formSpan.getD i .t))) ⟨⟨rfl, rfl, rfl⟩, ⟨rfl, rfl, rfl⟩, trivial⟩)
  (fun f hf => (List.getElem?_of_mem hf).elim fun i hi => AllI.get0 (l := fs7 t) (P := fun _ (f : FP) => ∃ gb, al T.funs f.fg = some gb) ⟨⟨_, rfl⟩, ⟨_, rfl⟩, trivial⟩ i f hi)
  (AllI.get0 (l := fs7 t) (P := fun i (f : FP) => GetC B R 196 f (formSpan.getD i .t) (i + 1) SpanT.cells id noOw (fun _ => 0) bs a n c deep (fSpan bs)) ⟨get_Span_1 hF hR hb h3, get_Span_2 hF hR hb h3, trivial⟩)
  hd0 (by omega) hR hb h3 rfl (fun _ _ s => Bag.nil_ s)
include hT in
theorem get_EnumValue_1 : GetC B R 80 ⟨1, 2, false, 182, [t.bp 5, t.bp 4], 184, [t.bp 5]⟩ .t 1 EValT.cells id noOw (fun _ => 0) bs a n c deep (fVal bs) :=
 GetC.one (fun m q t => vS ((bs.drop q).take (t - q))) 0 (fun x m q t => { x with nm := (bs.drop q).take (t - q) }) (fun x => by exact Nat.le_of_ble_eq_true rfl)
  (fun R' hM pd px pr p to at_ xs h1 h2 hx hD => (oneText_EnumValue_get hT hD (hM _ _ _ _ _ hR) hb h1 h2 h3 (hM _ _ _ _ _ (hF.box 5 _ _ _ rfl)) rfl (of3_fn ⟨px, 0, none⟩) hx))
  (fun x m q t => by rfl) (fun x m q t => by rfl) (fun x m q t => by rfl) (fun x at_ m q t => by rfl)
theorem get_EnumValue_2 : GetC B R 80 ⟨2, 0, false, 186, [t.bp 7, t.bp 6], 187, [t.bp 7]⟩ .z 2 EValT.cells id noOw (fun _ => 0) bs a n c deep (fVal bs) :=
 GetC.one (fun m q t => .int .i32 (unzig m)) 1 (fun x m q t => { x with num := unzig m }) (fun x => by exact Nat.le_of_ble_eq_true rfl)
  (fun R' hM pd px pr p to at_ xs h1 h2 hx hD => (signed_EnumValue_int32_get hD (hM _ _ _ _ _ hR) hb h1 h2 h3 (hM _ _ _ _ _ (hF.box 7 _ _ _ rfl)) rfl (of4_fn ⟨px, 0, none⟩) hx).post (fun v X ⟨m, q, g1, g2, g3, _, _, g6⟩ => ⟨m, q, q, g1, g2, Nat.le_refl _, g3, g6⟩))
  (fun x m q t => by rfl) (fun x m q t => by rfl) (fun x m q t => by rfl) (fun x at_ m q t => by rfl)
include hT in
theorem rd_EnumValue (hd0 : 0 ≤ deep) (hd1 : deep ≤ 100) : RdrC B R 196 (t.sl 6 2) deep a n c EValT.cells id noOw (rdVal bs) :=
 read_EnumValue (form := formValue) (fs := fs6 t) (ra := t.ra 6) (rc := t.rc 6) (er := id) (ow := noOw) (cnt := (fun _ => 0)) (upd := fVal bs) hF.r6 rfl (Nat.le_of_ble_eq_true rfl)
  (AllI.get0 (l := fs6 t) (P := fun i (f : FP) => f.num = ((i + 1 : Nat) : Int) ∧ f.kind = (FK.kind (formValue.getD i .t)) ∧ f.lst = (FK.list (formValue.getD i .t))) ⟨⟨rfl, rfl, rfl⟩, ⟨rfl, rfl, rfl⟩, trivial⟩)
  (fun f hf => (List.getElem?_of_mem hf).elim fun i hi => AllI.get0 (l := fs6 t) (P := fun _ (f : FP) => ∃ gb, al T.funs f.fg = some gb) ⟨⟨_, rfl⟩, ⟨_, rfl⟩, trivial⟩ i f hi)
  (AllI.get0 (l := fs6 t) (P := fun i (f : FP) => GetC B R 80 f (formValue.getD i .t) (i + 1) EValT.cells id noOw (fun _ => 0) bs a n c deep (fVal bs)) ⟨get_EnumValue_1 hT hF hR hb h3, get_EnumValue_2 hF hR hb h3, trivial⟩)
  hd0 (by omega) hR hb h3 rfl (fun _ _ s => Bag.nil_ s)
include hT in
theorem get_Import_1 : GetC B R 161 ⟨1, 2, false, 235, [t.bp 63, t.bp 62], 236, [t.bp 63]⟩ .t 1 ImpT.cells id noOw (fun _ => 0) bs a n c deep (fImp bs) :=
 GetC.one (fun m q t => vS ((bs.drop q).take (t - q))) 0 (fun x m q t => { x with path := (bs.drop q).take (t - q) }) (fun x => by exact Nat.le_of_ble_eq_true rfl)
  (fun R' hM pd px pr p to at_ xs h1 h2 hx hD => (oneText_Import_get hT hD (hM _ _ _ _ _ hR) hb h1 h2 h3 (hM _ _ _ _ _ (hF.box 63 _ _ _ rfl)) rfl (of26_fn ⟨px, 0, none⟩) hx))
  (fun x m q t => by rfl) (fun x m q t => by rfl) (fun x m q t => by rfl) (fun x at_ m q t => by rfl)
theorem get_Import_2 : GetC B R 161 ⟨2, 0, false, 237, [t.bp 65, t.bp 64], 238, [t.bp 65]⟩ .b 2 ImpT.cells id noOw (fun _ => 0) bs a n c deep (fImp bs) :=
 GetC.one (fun m q t => .bool true) 1 (fun x m q t => { x with pub := true }) (fun x => by exact Nat.le_of_ble_eq_true rfl)
  (fun R' hM pd px pr p to at_ xs h1 h2 hx hD => (truth_Import_get hD (hM _ _ _ _ _ hR) hb h1 h2 h3 (hM _ _ _ _ _ (hF.box 65 _ _ _ rfl)) rfl (of27_fn ⟨px, 0, none⟩) hx).post (fun v X ⟨m, q, g1, g2, g3, g6⟩ => ⟨m, q, q, g1, g2, Nat.le_refl _, g3, g6⟩))
  (fun x m q t => by rfl) (fun x m q t => by rfl) (fun x m q t => by rfl) (fun x at_ m q t => by rfl)
include hT in
theorem rd_Import (hd0 : 0 ≤ deep) (hd1 : deep ≤ 100) : RdrC B R 244 (t.sl 2 2) deep a n c ImpT.cells id noOw (rdImp bs) :=
 read_Import (form := formImport) (fs := fs2 t) (ra := t.ra 2) (rc := t.rc 2) (er := id) (ow := noOw) (cnt := (fun _ => 0)) (upd := fImp bs) hF.r2 rfl (Nat.le_of_ble_eq_true rfl)
  (AllI.get0 (l := fs2 t) (P := fun i (f : FP) => f.num = ((i + 1 : Nat) : Int) ∧ f.kind = (FK.kind (formImport.getD i .t)) ∧ f.lst = (FK.list (formImport.getD i .t))) ⟨⟨rfl, rfl, rfl⟩, ⟨rfl, rfl, rfl⟩, trivial⟩)
  (fun f hf => (List.getElem?_of_mem hf).elim fun i hi => AllI.get0 (l := fs2 t) (P := fun _ (f : FP) => ∃ gb, al T.funs f.fg = some gb) ⟨⟨_, rfl⟩, ⟨_, rfl⟩, trivial⟩ i f hi)
  (AllI.get0 (l := fs2 t) (P := fun i (f : FP) => GetC B R 161 f (formImport.getD i .t) (i + 1) ImpT.cells id noOw (fun _ => 0) bs a n c deep (fImp bs)) ⟨get_Import_1 hT hF hR hb h3, get_Import_2 hF hR hb h3, trivial⟩)
  hd0 (by omega) hR hb h3 rfl (fun _ _ s => Bag.nil_ s)
include hT in
theorem get_FieldDef_1 : GetC B R 240 ⟨1, 2, false, 205, [t.bp 23, t.bp 22], 206, [t.bp 23]⟩ .t 1 FieldT.cells id noOw (fun _ => 0) bs a n c deep (fField bs) :=
 GetC.one (fun m q t => vS ((bs.drop q).take (t - q))) 0 (fun x m q t => { x with nm := (bs.drop q).take (t - q) }) (fun x => by exact Nat.le_of_ble_eq_true rfl)
  (fun R' hM pd px pr p to at_ xs h1 h2 hx hD => (oneText_FieldDef_get hT hD (hM _ _ _ _ _ hR) hb h1 h2 h3 (hM _ _ _ _ _ (hF.box 23 _ _ _ rfl)) rfl (of10_fn ⟨px, 0, none⟩) hx))
  (fun x m q t => by rfl) (fun x m q t => by rfl) (fun x m q t => by rfl) (fun x at_ m q t => by rfl)
theorem get_FieldDef_2 : GetC B R 240 ⟨2, 0, false, 207, [t.bp 25, t.bp 24], 208, [t.bp 25]⟩ .z 2 FieldT.cells id noOw (fun _ => 0) bs a n c deep (fField bs) :=
 GetC.one (fun m q t => .int .i32 (unzig m)) 1 (fun x m q t => { x with num := unzig m }) (fun x => by exact Nat.le_of_ble_eq_true rfl)
  (fun R' hM pd px pr p to at_ xs h1 h2 hx hD => (signed_FieldDef_int32_get hD (hM _ _ _ _ _ hR) hb h1 h2 h3 (hM _ _ _ _ _ (hF.box 25 _ _ _ rfl)) rfl (of11_fn ⟨px, 0, none⟩) hx).post (fun v X ⟨m, q, g1, g2, g3, _, _, g6⟩ => ⟨m, q, q, g1, g2, Nat.le_refl _, g3, g6⟩))
  (fun x m q t => by rfl) (fun x m q t => by rfl) (fun x m q t => by rfl) (fun x at_ m q t => by rfl)
theorem get_FieldDef_3 : GetC B R 240 ⟨3, 0, false, 209, [t.bp 27, t.bp 26], 210, [t.bp 27]⟩ .n 3 FieldT.cells id noOw (fun _ => 0) bs a n c deep (fField bs) :=
 GetC.one (fun m q t => .int .u8 m) 2 (fun x m q t => { x with card := m }) (fun x => by exact Nat.le_of_ble_eq_true rfl)
  (fun R' hM pd px pr p to at_ xs h1 h2 hx hD => (small_Card_get hD (hM _ _ _ _ _ hR) hb h1 h2 h3 (hM _ _ _ _ _ (hF.box 27 _ _ _ rfl)) rfl (of12_fn ⟨px, 0, none⟩) hx).post (fun v X ⟨m, q, g1, g2, g3, _, _, g6⟩ => ⟨m, q, q, g1, g2, Nat.le_refl _, g3, g6⟩))
  (fun x m q t => by rfl) (fun x m q t => by rfl) (fun x m q t => by rfl) (fun x at_ m q t => by rfl)
theorem get_FieldDef_4 : GetC B R 240 ⟨4, 0, false, 211, [t.bp 29, t.bp 28], 212, [t.bp 29]⟩ .n 4 FieldT.cells id noOw (fun _ => 0) bs a n c deep (fField bs) :=
 GetC.one (fun m q t => .int .u8 m) 3 (fun x m q t => { x with kind := m }) (fun x => by exact Nat.le_of_ble_eq_true rfl)
  (fun R' hM pd px pr p to at_ xs h1 h2 hx hD => (small_Kind_get hD (hM _ _ _ _ _ hR) hb h1 h2 h3 (hM _ _ _ _ _ (hF.box 29 _ _ _ rfl)) rfl (of13_fn ⟨px, 0, none⟩) hx).post (fun v X ⟨m, q, g1, g2, g3, _, _, g6⟩ => ⟨m, q, q, g1, g2, Nat.le_refl _, g3, g6⟩))
  (fun x m q t => by rfl) (fun x m q t => by rfl) (fun x m q t => by rfl) (fun x at_ m q t => by rfl)
include hT in
theorem get_FieldDef_5 : GetC B R 240 ⟨5, 2, false, 205, [t.bp 31, t.bp 30], 206, [t.bp 31]⟩ .t 5 FieldT.cells id noOw (fun _ => 0) bs a n c deep (fField bs) :=
 GetC.one (fun m q t => vS ((bs.drop q).take (t - q))) 4 (fun x m q t => { x with ty := (bs.drop q).take (t - q) }) (fun x => by exact Nat.le_of_ble_eq_true rfl)
  (fun R' hM pd px pr p to at_ xs h1 h2 hx hD => (oneText_FieldDef_get hT hD (hM _ _ _ _ _ hR) hb h1 h2 h3 (hM _ _ _ _ _ (hF.box 31 _ _ _ rfl)) rfl (of14_fn ⟨px, 0, none⟩) hx))
  (fun x m q t => by rfl) (fun x m q t => by rfl) (fun x m q t => by rfl) (fun x at_ m q t => by rfl)
theorem get_FieldDef_6 : GetC B R 240 ⟨6, 0, false, 211, [t.bp 33, t.bp 32], 212, [t.bp 33]⟩ .n 6 FieldT.cells id noOw (fun _ => 0) bs a n c deep (fField bs) :=
 GetC.one (fun m q t => .int .u8 m) 5 (fun x m q t => { x with key := m }) (fun x => by exact Nat.le_of_ble_eq_true rfl)
  (fun R' hM pd px pr p to at_ xs h1 h2 hx hD => (small_Kind_get hD (hM _ _ _ _ _ hR) hb h1 h2 h3 (hM _ _ _ _ _ (hF.box 33 _ _ _ rfl)) rfl (of15_fn ⟨px, 0, none⟩) hx).post (fun v X ⟨m, q, g1, g2, g3, _, _, g6⟩ => ⟨m, q, q, g1, g2, Nat.le_refl _, g3, g6⟩))
  (fun x m q t => by rfl) (fun x m q t => by rfl) (fun x m q t => by rfl) (fun x at_ m q t => by rfl)
theorem get_FieldDef_7 : GetC B R 240 ⟨7, 0, false, 213, [t.bp 35, t.bp 34], 214, [t.bp 35]⟩ .zl 7 FieldT.cells id noOw (fun _ => 0) bs a n c deep (fField bs) :=
 GetC.one (fun m q t => .int .i64 (unzig m)) 6 (fun x m q t => { x with oneof := unzig m }) (fun x => by exact Nat.le_of_ble_eq_true rfl)
  (fun R' hM pd px pr p to at_ xs h1 h2 hx hD => (signed_FieldDef_int_get hD (hM _ _ _ _ _ hR) hb h1 h2 h3 (hM _ _ _ _ _ (hF.box 35 _ _ _ rfl)) rfl (of16_fn ⟨px, 0, none⟩) hx).post (fun v X ⟨m, q, g1, g2, g3, _, g6⟩ => ⟨m, q, q, g1, g2, Nat.le_refl _, g3, g6⟩))
  (fun x m q t => by rfl) (fun x m q t => by rfl) (fun x m q t => by rfl) (fun x at_ m q t => by rfl)
theorem get_FieldDef_8 : GetC B R 240 ⟨8, 0, false, 215, [t.bp 37, t.bp 36], 216, [t.bp 37]⟩ .n 8 FieldT.cells id noOw (fun _ => 0) bs a n c deep (fField bs) :=
 GetC.one (fun m q t => .int .u8 m) 7 (fun x m q t => { x with packed := m }) (fun x => by exact Nat.le_of_ble_eq_true rfl)
  (fun R' hM pd px pr p to at_ xs h1 h2 hx hD => (small_Tri_get hD (hM _ _ _ _ _ hR) hb h1 h2 h3 (hM _ _ _ _ _ (hF.box 37 _ _ _ rfl)) rfl (of17_fn ⟨px, 0, none⟩) hx).post (fun v X ⟨m, q, g1, g2, g3, _, _, g6⟩ => ⟨m, q, q, g1, g2, Nat.le_refl _, g3, g6⟩))
  (fun x m q t => by rfl) (fun x m q t => by rfl) (fun x m q t => by rfl) (fun x at_ m q t => by rfl)
include hT in
theorem get_FieldDef_9 : GetC B R 240 ⟨9, 2, false, 205, [t.bp 39, t.bp 38], 206, [t.bp 39]⟩ .t 9 FieldT.cells id noOw (fun _ => 0) bs a n c deep (fField bs) :=
 GetC.one (fun m q t => vS ((bs.drop q).take (t - q))) 8 (fun x m q t => { x with js := (bs.drop q).take (t - q) }) (fun x => by exact Nat.le_of_ble_eq_true rfl)
  (fun R' hM pd px pr p to at_ xs h1 h2 hx hD => (oneText_FieldDef_get hT hD (hM _ _ _ _ _ hR) hb h1 h2 h3 (hM _ _ _ _ _ (hF.box 39 _ _ _ rfl)) rfl (of18_fn ⟨px, 0, none⟩) hx))
  (fun x m q t => by rfl) (fun x m q t => by rfl) (fun x m q t => by rfl) (fun x at_ m q t => by rfl)
include hT in
theorem rd_FieldDef (hd0 : 0 ≤ deep) (hd1 : deep ≤ 100) : RdrC B R 222 (t.sl 4 9) deep a n c FieldT.cells id noOw (rdField bs) :=
 read_FieldDef (form := formField) (fs := fs4 t) (ra := t.ra 4) (rc := t.rc 4) (er := id) (ow := noOw) (cnt := (fun _ => 0)) (upd := fField bs) hF.r4 rfl (Nat.le_of_ble_eq_true rfl)
  (AllI.get0 (l := fs4 t) (P := fun i (f : FP) => f.num = ((i + 1 : Nat) : Int) ∧ f.kind = (FK.kind (formField.getD i .t)) ∧ f.lst = (FK.list (formField.getD i .t))) ⟨⟨rfl, rfl, rfl⟩, ⟨rfl, rfl, rfl⟩, ⟨rfl, rfl, rfl⟩, ⟨rfl, rfl, rfl⟩, ⟨rfl, rfl, rfl⟩, ⟨rfl, rfl, rfl⟩, ⟨rfl, rfl, rfl⟩, ⟨rfl, rfl, rfl⟩, ⟨rfl, rfl, rfl⟩, trivial⟩)
  (fun f hf => (List.getElem?_of_mem hf).elim fun i hi => AllI.get0 (l := fs4 t) (P := fun _ (f : FP) => ∃ gb, al T.funs f.fg = some gb) ⟨⟨_, rfl⟩, ⟨_, rfl⟩, ⟨_, rfl⟩, ⟨_, rfl⟩, ⟨_, rfl⟩, ⟨_, rfl⟩, ⟨_, rfl⟩, ⟨_, rfl⟩, ⟨_, rfl⟩, trivial⟩ i f hi)
  (AllI.get0 (l := fs4 t) (P := fun i (f : FP) => GetC B R 240 f (formField.getD i .t) (i + 1) FieldT.cells id noOw (fun _ => 0) bs a n c deep (fField bs)) ⟨get_FieldDef_1 hT hF hR hb h3, get_FieldDef_2 hF hR hb h3, get_FieldDef_3 hF hR hb h3, get_FieldDef_4 hF hR hb h3, get_FieldDef_5 hT hF hR hb h3, get_FieldDef_6 hF hR hb h3, get_FieldDef_7 hF hR hb h3, get_FieldDef_8 hF hR hb h3, get_FieldDef_9 hT hF hR hb h3, trivial⟩)
  hd0 (by omega) hR hb h3 rfl (fun _ _ s => Bag.nil_ s)
include hT in
theorem get_EnumDef_1 : GetC B R 85 ⟨1, 2, false, 188, [t.bp 9, t.bp 8], 189, [t.bp 9]⟩ .t 1 EnumT.cells EnumT.er eOw eCnt bs a n c deep (fEnum bs) :=
 GetC.one (fun m q t => vS ((bs.drop q).take (t - q))) 0 (fun x m q t => { x with nm := (bs.drop q).take (t - q) }) (fun x => by exact Nat.le_of_ble_eq_true rfl)
  (fun R' hM pd px pr p to at_ xs h1 h2 hx hD => (oneText_EnumDef_get hT hD (hM _ _ _ _ _ hR) hb h1 h2 h3 (hM _ _ _ _ _ (hF.box 9 _ _ _ rfl)) rfl (of5_fn ⟨px, 0, none⟩) hx))
  (fun x m q t => by rfl) (fun x m q t => by rfl) (fun x m q t => by rfl) (fun x at_ m q t => by rfl)
theorem get_EnumDef_2 (hd0 : 0 ≤ deep) (hd1 : deep ≤ 100) (hrd : deep + 0 ≤ 100 → RdrC B R 196 (t.sl 6 2) (deep + 0) a n c EValT.cells id noOw (rdVal bs)) : GetC B R 85 ⟨2, 2, true, 190, [t.bp 13, t.bp 10, t.bp 11], 194, [t.bp 12, t.bp 13, t.bp 11]⟩ .rs 2 EnumT.cells EnumT.er eOw eCnt bs a n c deep (fEnum bs) :=
 GetC.rows (dd := deep + 0) (rdp := (rdVal bs)) 1 (fun x => x.vals) (fun x => [Own x.res.a x.res.c 196 2 x.res.l.length (x.res.l.flatMap SpanT.cells), Bag (x.res.l.flatMap noOw), txO x.names]) (fun x a' c' v => { x with vals := ⟨a', c', x.vals.l ++ [v]⟩ }) (fun x => by rfl)
  (fun R' hM pd px pr p to at_ xs ar cr l h1 h2 hD hu hll => some_EnumDef_EnumValue_get hD (hM _ _ _ _ _ hR) hb h1 h2 h3 (hM _ _ _ _ _ (hF.box 13 _ _ _ rfl)) rfl (of6_fn ⟨px, 0, none⟩) (hM _ _ _ _ _ (hF.box 12 _ _ _ rfl)) (hM _ _ _ _ _ (hF.box 11 _ _ _ rfl)) (hM _ _ _ _ _ hF.forms) rfl hd0 (by omega) (by decide) (by decide) hu hll (fun q => (hrd q).mono hM))
  (fun x => by unfold eOw; (repeat (first|exact Fr.nil|(apply Fr.cons;focus ((repeat constructor);done))))) (fun x a' c' v => by rfl) (fun x a' c' v => by rfl) (fun x a' c' v => by rw [sl_snoc v]; rfl) (fun x a' c' v => by simp [eCnt]; try omega) (fun x => by simp [eCnt]; try omega) h3
  (fun x at_ m q t a' c' v g1 g2 => by show Except.map _ ((rdVal bs) q t) = _; rw [g2]; rfl)
  (fun x at_ m q t pl g1 g2 => by show Except.map _ ((rdVal bs) q t) = _; rw [g2]; rfl)
  (fun x at_ m q t g1 => absurd g1 (by omega))
theorem get_EnumDef_3 : GetC B R 85 ⟨3, 0, false, 197, [t.bp 15, t.bp 14], 198, [t.bp 15]⟩ .b 3 EnumT.cells EnumT.er eOw eCnt bs a n c deep (fEnum bs) :=
 GetC.one (fun m q t => .bool true) 2 (fun x m q t => { x with ali := true }) (fun x => by exact Nat.le_of_ble_eq_true rfl)
  (fun R' hM pd px pr p to at_ xs h1 h2 hx hD => (truth_EnumDef_get hD (hM _ _ _ _ _ hR) hb h1 h2 h3 (hM _ _ _ _ _ (hF.box 15 _ _ _ rfl)) rfl (of7_fn ⟨px, 0, none⟩) hx).post (fun v X ⟨m, q, g1, g2, g3, g6⟩ => ⟨m, q, q, g1, g2, Nat.le_refl _, g3, g6⟩))
  (fun x m q t => by rfl) (fun x m q t => by rfl) (fun x m q t => by rfl) (fun x at_ m q t => by rfl)
theorem get_EnumDef_4 (hd0 : 0 ≤ deep) (hd1 : deep ≤ 100) (hrd : deep + 0 ≤ 100 → RdrC B R 202 (t.sl 7 2) (deep + 0) a n c SpanT.cells id noOw (rdSpan bs)) : GetC B R 85 ⟨4, 2, true, 199, [t.bp 19, t.bp 16, t.bp 17], 201, [t.bp 18, t.bp 19, t.bp 17]⟩ .rs 4 EnumT.cells EnumT.er eOw eCnt bs a n c deep (fEnum bs) :=
 GetC.rows (dd := deep + 0) (rdp := (rdSpan bs)) 3 (fun x => x.res) (fun x => [Own x.vals.a x.vals.c 80 2 x.vals.l.length (x.vals.l.flatMap EValT.cells), Bag (x.vals.l.flatMap noOw), txO x.names]) (fun x a' c' v => { x with res := ⟨a', c', x.res.l ++ [v]⟩ }) (fun x => by rfl)
  (fun R' hM pd px pr p to at_ xs ar cr l h1 h2 hD hu hll => some_EnumDef_Span_get hD (hM _ _ _ _ _ hR) hb h1 h2 h3 (hM _ _ _ _ _ (hF.box 19 _ _ _ rfl)) rfl (of8_fn ⟨px, 0, none⟩) (hM _ _ _ _ _ (hF.box 18 _ _ _ rfl)) (hM _ _ _ _ _ (hF.box 17 _ _ _ rfl)) (hM _ _ _ _ _ hF.forms) rfl hd0 (by omega) (by decide) (by decide) hu hll (fun q => (hrd q).mono hM))
  (fun x => by unfold eOw; (repeat (first|exact Fr.nil|(apply Fr.cons;focus ((repeat constructor);done))))) (fun x a' c' v => by rfl) (fun x a' c' v => by rfl) (fun x a' c' v => by rw [sl_snoc v]; rfl) (fun x a' c' v => by simp [eCnt]; try omega) (fun x => by simp [eCnt]; try omega) h3
  (fun x at_ m q t a' c' v g1 g2 => by show Except.map _ ((rdSpan bs) q t) = _; rw [g2]; rfl)
  (fun x at_ m q t pl g1 g2 => by show Except.map _ ((rdSpan bs) q t) = _; rw [g2]; rfl)
  (fun x at_ m q t g1 => absurd g1 (by omega))
include hT in
theorem get_EnumDef_5 : GetC B R 85 ⟨5, 2, true, 203, [t.bp 21, t.bp 20], 204, [t.bp 21]⟩ .ts 5 EnumT.cells EnumT.er eOw eCnt bs a n c deep (fEnum bs) :=
 GetC.txts 4 (fun x => x.names) (fun x => [Own x.vals.a x.vals.c 80 2 x.vals.l.length (x.vals.l.flatMap EValT.cells), Bag (x.vals.l.flatMap noOw), Own x.res.a x.res.c 196 2 x.res.l.length (x.res.l.flatMap SpanT.cells), Bag (x.res.l.flatMap noOw)]) (fun x a' c' v => { x with names := ⟨a', c', x.names.l ++ [v]⟩ }) (fun x => by rfl)
  (fun R' hM pd px pr p to at_ xs ar cr ls h1 h2 hD hu hll => someTexts_EnumDef_get hT hD (hM _ _ _ _ _ hR) hb h1 h2 h3 (hM _ _ _ _ _ (hF.box 21 _ _ _ rfl)) rfl (of9_fn ⟨px, 0, none⟩) hu hll)
  (fun x => by unfold eOw; (repeat (first|exact Fr.nil|(apply Fr.cons;focus ((repeat constructor);done))))) (fun x a' c' v => by rfl) (fun x a' c' v => by rfl) (fun x a' c' v => by rw [sl_snoc v]; rfl) (fun x a' c' v => by simp [eCnt]; try omega) (fun x => by simp [eCnt]; try omega) h3
  (fun x at_ m q t a' c' => by rfl)
include hT in
theorem rd_EnumDef (hd0 : 0 ≤ deep) (hd1 : deep ≤ 100) : RdrC B R 232 (t.sl 5 5) deep a n c EnumT.cells EnumT.er eOw (rdEnum bs) :=
 read_EnumDef (form := formEnum) (fs := fs5 t) (ra := t.ra 5) (rc := t.rc 5) (er := EnumT.er) (ow := eOw) (cnt := eCnt) (upd := fEnum bs) hF.r5 rfl (Nat.le_of_ble_eq_true rfl)
  (AllI.get0 (l := fs5 t) (P := fun i (f : FP) => f.num = ((i + 1 : Nat) : Int) ∧ f.kind = (FK.kind (formEnum.getD i .t)) ∧ f.lst = (FK.list (formEnum.getD i .t))) ⟨⟨rfl, rfl, rfl⟩, ⟨rfl, rfl, rfl⟩, ⟨rfl, rfl, rfl⟩, ⟨rfl, rfl, rfl⟩, ⟨rfl, rfl, rfl⟩, trivial⟩)
  (fun f hf => (List.getElem?_of_mem hf).elim fun i hi => AllI.get0 (l := fs5 t) (P := fun _ (f : FP) => ∃ gb, al T.funs f.fg = some gb) ⟨⟨_, rfl⟩, ⟨_, rfl⟩, ⟨_, rfl⟩, ⟨_, rfl⟩, ⟨_, rfl⟩, trivial⟩ i f hi)
  (AllI.get0 (l := fs5 t) (P := fun i (f : FP) => GetC B R 85 f (formEnum.getD i .t) (i + 1) EnumT.cells EnumT.er eOw eCnt bs a n c deep (fEnum bs)) ⟨get_EnumDef_1 hT hF hR hb h3, get_EnumDef_2 hF hR hb h3 hd0 (by omega) (fun q => rd_EnumValue hT hF hR hb h3 (by omega) q), get_EnumDef_3 hF hR hb h3, get_EnumDef_4 hF hR hb h3 hd0 (by omega) (fun q => rd_Span hF hR hb h3 (by omega) q), get_EnumDef_5 hT hF hR hb h3, trivial⟩)
  hd0 (by omega) hR hb h3 rfl (fun _ _ s => Bag.close (ps := eOw enum0) (Sat.nilOwn (Bag.nil_ (Sat.nilOwn (Bag.nil_ (Sat.nilOwn s))))))
include hT in
theorem get_MessageDef_1 {sub : Option (Nat → Nat → Except Nat MsgT)} : GetC B R 187 ⟨1, 2, false, 217, [t.bp 41, t.bp 40], 218, [t.bp 41]⟩ .t 1 MsgT.cells mEr mOw mCnt bs a n c deep (fMsg bs sub) :=
 GetC.one (fun m q t => vS ((bs.drop q).take (t - q))) 0 (fun x m q t => .mk ((bs.drop q).take (t - q)) x.fields x.oneofs x.ma x.mc x.msgs x.enums x.res x.names) (fun x => by cases x; exact Nat.le_of_ble_eq_true rfl)
  (fun R' hM pd px pr p to at_ xs h1 h2 hx hD => (oneText_MessageDef_get hT hD (hM _ _ _ _ _ hR) hb h1 h2 h3 (hM _ _ _ _ _ (hF.box 41 _ _ _ rfl)) rfl (of19_fn ⟨px, 0, none⟩) hx))
  (fun x m q t => by cases x; rfl) (fun x m q t => by cases x; rfl) (fun x m q t => by cases x; rfl) (fun x at_ m q t => by cases x; rfl)
theorem get_MessageDef_2 {sub : Option (Nat → Nat → Except Nat MsgT)} (hd0 : 0 ≤ deep) (hd1 : deep ≤ 100) (hrd : deep + 0 ≤ 100 → RdrC B R 222 (t.sl 4 9) (deep + 0) a n c FieldT.cells id noOw (rdField bs)) : GetC B R 187 ⟨2, 2, true, 219, [t.bp 45, t.bp 42, t.bp 43], 221, [t.bp 44, t.bp 45, t.bp 43]⟩ .rs 2 MsgT.cells mEr mOw mCnt bs a n c deep (fMsg bs sub) :=
 GetC.rows (dd := deep + 0) (rdp := (rdField bs)) 1 (fun x => x.fields) (fun x => [txO x.oneofs, Own x.ma x.mc 187 7 x.msgs.length (x.msgs.flatMap MsgT.cells), Bag (x.msgs.flatMap mOw), Own x.enums.a x.enums.c 85 5 x.enums.l.length (x.enums.l.flatMap EnumT.cells), Bag (x.enums.l.flatMap eOw), Own x.res.a x.res.c 196 2 x.res.l.length (x.res.l.flatMap SpanT.cells), Bag (x.res.l.flatMap noOw), txO x.names]) (fun x a' c' v => .mk x.nm (⟨a', c', x.fields.l ++ [v]⟩) x.oneofs x.ma x.mc x.msgs x.enums x.res x.names) (fun x => by cases x; rfl)
  (fun R' hM pd px pr p to at_ xs ar cr l h1 h2 hD hu hll => some_MessageDef_FieldDef_get hD (hM _ _ _ _ _ hR) hb h1 h2 h3 (hM _ _ _ _ _ (hF.box 45 _ _ _ rfl)) rfl (of20_fn ⟨px, 0, none⟩) (hM _ _ _ _ _ (hF.box 44 _ _ _ rfl)) (hM _ _ _ _ _ (hF.box 43 _ _ _ rfl)) (hM _ _ _ _ _ hF.forms) rfl hd0 (by omega) (by decide) (by decide) hu hll (fun q => (hrd q).mono hM))
  (fun x => by cases x; rw [mOw_mk]; (repeat (first|exact Fr.nil|(apply Fr.cons;focus ((repeat constructor);done))))) (fun x a' c' v => by cases x; rfl) (fun x a' c' v => by cases x; rfl) (fun x a' c' v => by cases x; rw [sl_snoc v]; rfl) (fun x a' c' v => by cases x; simp [mCnt, MsgT.fields, MsgT.oneofs, MsgT.msgs, MsgT.enums, MsgT.res, MsgT.names]; try omega) (fun x => by cases x; simp [mCnt, MsgT.fields, MsgT.oneofs, MsgT.msgs, MsgT.enums, MsgT.res, MsgT.names]; try omega) h3
  (fun x at_ m q t a' c' v g1 g2 => by cases x; show Except.map _ ((rdField bs) q t) = _; rw [g2]; rfl)
  (fun x at_ m q t pl g1 g2 => by cases x; show Except.map _ ((rdField bs) q t) = _; rw [g2]; rfl)
  (fun x at_ m q t g1 => absurd g1 (by omega))
include hT in
theorem get_MessageDef_3 {sub : Option (Nat → Nat → Except Nat MsgT)} : GetC B R 187 ⟨3, 2, true, 223, [t.bp 47, t.bp 46], 224, [t.bp 47]⟩ .ts 3 MsgT.cells mEr mOw mCnt bs a n c deep (fMsg bs sub) :=
 GetC.txts 2 (fun x => x.oneofs) (fun x => [Own x.fields.a x.fields.c 240 9 x.fields.l.length (x.fields.l.flatMap FieldT.cells), Bag (x.fields.l.flatMap noOw), Own x.ma x.mc 187 7 x.msgs.length (x.msgs.flatMap MsgT.cells), Bag (x.msgs.flatMap mOw), Own x.enums.a x.enums.c 85 5 x.enums.l.length (x.enums.l.flatMap EnumT.cells), Bag (x.enums.l.flatMap eOw), Own x.res.a x.res.c 196 2 x.res.l.length (x.res.l.flatMap SpanT.cells), Bag (x.res.l.flatMap noOw), txO x.names]) (fun x a' c' v => .mk x.nm x.fields (⟨a', c', x.oneofs.l ++ [v]⟩) x.ma x.mc x.msgs x.enums x.res x.names) (fun x => by cases x; rfl)
  (fun R' hM pd px pr p to at_ xs ar cr ls h1 h2 hD hu hll => someTexts_MessageDef_get hT hD (hM _ _ _ _ _ hR) hb h1 h2 h3 (hM _ _ _ _ _ (hF.box 47 _ _ _ rfl)) rfl (of21_fn ⟨px, 0, none⟩) hu hll)
  (fun x => by cases x; rw [mOw_mk]; (repeat (first|exact Fr.nil|(apply Fr.cons;focus ((repeat constructor);done))))) (fun x a' c' v => by cases x; rfl) (fun x a' c' v => by cases x; rfl) (fun x a' c' v => by cases x; rw [sl_snoc v]; rfl) (fun x a' c' v => by cases x; simp [mCnt, MsgT.fields, MsgT.oneofs, MsgT.msgs, MsgT.enums, MsgT.res, MsgT.names]; try omega) (fun x => by cases x; simp [mCnt, MsgT.fields, MsgT.oneofs, MsgT.msgs, MsgT.enums, MsgT.res, MsgT.names]; try omega) h3
  (fun x at_ m q t a' c' => by cases x; rfl)
theorem get_MessageDef_4 {sub : Option (Nat → Nat → Except Nat MsgT)} (hd0 : 0 ≤ deep) (hd1 : deep ≤ 100) {rdp : Nat → Nat → Except Nat MsgT} (hrd : deep + 1 ≤ 100 → RdrC B R 228 (t.sl 3 7) (deep + 1) a n c MsgT.cells mEr mOw rdp) (hs1 : deep + 1 ≤ 100 → sub = some rdp) (hs0 : 100 < deep + 1 → sub = none) : GetC B R 187 ⟨4, 2, true, 225, [t.bp 51, t.bp 48, t.bp 49], 227, [t.bp 50, t.bp 51, t.bp 49]⟩ .rs 4 MsgT.cells mEr mOw mCnt bs a n c deep (fMsg bs sub) :=
 GetC.rows (dd := deep + 1) (rdp := rdp) 3 (fun x => ⟨x.ma, x.mc, x.msgs⟩) (fun x => [Own x.fields.a x.fields.c 240 9 x.fields.l.length (x.fields.l.flatMap FieldT.cells), Bag (x.fields.l.flatMap noOw), txO x.oneofs, Own x.enums.a x.enums.c 85 5 x.enums.l.length (x.enums.l.flatMap EnumT.cells), Bag (x.enums.l.flatMap eOw), Own x.res.a x.res.c 196 2 x.res.l.length (x.res.l.flatMap SpanT.cells), Bag (x.res.l.flatMap noOw), txO x.names]) (fun x a' c' v => .mk x.nm x.fields x.oneofs a' c' (x.msgs ++ [v]) x.enums x.res x.names) (fun x => by cases x; rfl)
  (fun R' hM pd px pr p to at_ xs ar cr l h1 h2 hD hu hll => some_MessageDef_MessageDef_get hD (hM _ _ _ _ _ hR) hb h1 h2 h3 (hM _ _ _ _ _ (hF.box 51 _ _ _ rfl)) rfl (of22_fn ⟨px, 0, none⟩) (hM _ _ _ _ _ (hF.box 50 _ _ _ rfl)) (hM _ _ _ _ _ (hF.box 49 _ _ _ rfl)) (hM _ _ _ _ _ hF.forms) rfl hd0 (by omega) (by decide) (by decide) hu hll (fun q => (hrd q).mono hM))
  (fun x => by cases x; rw [mOw_mk]; (repeat (first|exact Fr.nil|(apply Fr.cons;focus ((repeat constructor);done))))) (fun x a' c' v => by cases x; rfl) (fun x a' c' v => by cases x; rfl) (fun x a' c' v => by cases x; rw [sl_snoc v]; rfl) (fun x a' c' v => by cases x; simp [mCnt, MsgT.fields, MsgT.oneofs, MsgT.msgs, MsgT.enums, MsgT.res, MsgT.names]; try omega) (fun x => by cases x; simp [mCnt, MsgT.fields, MsgT.oneofs, MsgT.msgs, MsgT.enums, MsgT.res, MsgT.names]; try omega) h3
  (fun x at_ m q t a' c' v g1 g2 => by cases x; show (match sub with | none => _ | some rd => _) = _; rw [hs1 (by omega)]; show Except.map _ (rdp q t) = _; rw [g2]; simp [Except.map, mEr, mErL_map, MsgT.nm, MsgT.fields, MsgT.oneofs, MsgT.ma, MsgT.mc, MsgT.msgs, MsgT.enums, MsgT.res, MsgT.names])
  (fun x at_ m q t pl g1 g2 => by cases x; show (match sub with | none => _ | some rd => _) = _; rw [hs1 (by omega)]; show Except.map _ (rdp q t) = _; rw [g2]; rfl)
  (fun x at_ m q t g1 => by cases x; show (match sub with | none => _ | some rd => _) = _; rw [hs0 (by omega)])
theorem get_MessageDef_5 {sub : Option (Nat → Nat → Except Nat MsgT)} (hd0 : 0 ≤ deep) (hd1 : deep ≤ 100) (hrd : deep + 0 ≤ 100 → RdrC B R 232 (t.sl 5 5) (deep + 0) a n c EnumT.cells EnumT.er eOw (rdEnum bs)) : GetC B R 187 ⟨5, 2, true, 229, [t.bp 55, t.bp 52, t.bp 53], 231, [t.bp 54, t.bp 55, t.bp 53]⟩ .rs 5 MsgT.cells mEr mOw mCnt bs a n c deep (fMsg bs sub) :=
 GetC.rows (dd := deep + 0) (rdp := (rdEnum bs)) 4 (fun x => x.enums) (fun x => [Own x.fields.a x.fields.c 240 9 x.fields.l.length (x.fields.l.flatMap FieldT.cells), Bag (x.fields.l.flatMap noOw), txO x.oneofs, Own x.ma x.mc 187 7 x.msgs.length (x.msgs.flatMap MsgT.cells), Bag (x.msgs.flatMap mOw), Own x.res.a x.res.c 196 2 x.res.l.length (x.res.l.flatMap SpanT.cells), Bag (x.res.l.flatMap noOw), txO x.names]) (fun x a' c' v => .mk x.nm x.fields x.oneofs x.ma x.mc x.msgs (⟨a', c', x.enums.l ++ [v]⟩) x.res x.names) (fun x => by cases x; rfl)
  (fun R' hM pd px pr p to at_ xs ar cr l h1 h2 hD hu hll => some_MessageDef_EnumDef_get hD (hM _ _ _ _ _ hR) hb h1 h2 h3 (hM _ _ _ _ _ (hF.box 55 _ _ _ rfl)) rfl (of23_fn ⟨px, 0, none⟩) (hM _ _ _ _ _ (hF.box 54 _ _ _ rfl)) (hM _ _ _ _ _ (hF.box 53 _ _ _ rfl)) (hM _ _ _ _ _ hF.forms) rfl hd0 (by omega) (by decide) (by decide) hu hll (fun q => (hrd q).mono hM))
  (fun x => by cases x; rw [mOw_mk]; (repeat (first|exact Fr.nil|(apply Fr.cons;focus ((repeat constructor);done))))) (fun x a' c' v => by cases x; rfl) (fun x a' c' v => by cases x; rfl) (fun x a' c' v => by cases x; rw [sl_snoc v]; rfl) (fun x a' c' v => by cases x; simp [mCnt, MsgT.fields, MsgT.oneofs, MsgT.msgs, MsgT.enums, MsgT.res, MsgT.names]; try omega) (fun x => by cases x; simp [mCnt, MsgT.fields, MsgT.oneofs, MsgT.msgs, MsgT.enums, MsgT.res, MsgT.names]; try omega) h3
  (fun x at_ m q t a' c' v g1 g2 => by cases x; show Except.map _ ((rdEnum bs) q t) = _; rw [g2]; simp [Except.map, pushR, mEr, mErL_map, EnumT.er, fEr, sEr, MsgT.nm, MsgT.fields, MsgT.oneofs, MsgT.ma, MsgT.mc, MsgT.msgs, MsgT.enums, MsgT.res, MsgT.names])
  (fun x at_ m q t pl g1 g2 => by cases x; show Except.map _ ((rdEnum bs) q t) = _; rw [g2]; rfl)
  (fun x at_ m q t g1 => absurd g1 (by omega))
theorem get_MessageDef_6 {sub : Option (Nat → Nat → Except Nat MsgT)} (hd0 : 0 ≤ deep) (hd1 : deep ≤ 100) (hrd : deep + 0 ≤ 100 → RdrC B R 202 (t.sl 7 2) (deep + 0) a n c SpanT.cells id noOw (rdSpan bs)) : GetC B R 187 ⟨6, 2, true, 233, [t.bp 59, t.bp 56, t.bp 57], 234, [t.bp 58, t.bp 59, t.bp 57]⟩ .rs 6 MsgT.cells mEr mOw mCnt bs a n c deep (fMsg bs sub) :=
 GetC.rows (dd := deep + 0) (rdp := (rdSpan bs)) 5 (fun x => x.res) (fun x => [Own x.fields.a x.fields.c 240 9 x.fields.l.length (x.fields.l.flatMap FieldT.cells), Bag (x.fields.l.flatMap noOw), txO x.oneofs, Own x.ma x.mc 187 7 x.msgs.length (x.msgs.flatMap MsgT.cells), Bag (x.msgs.flatMap mOw), Own x.enums.a x.enums.c 85 5 x.enums.l.length (x.enums.l.flatMap EnumT.cells), Bag (x.enums.l.flatMap eOw), txO x.names]) (fun x a' c' v => .mk x.nm x.fields x.oneofs x.ma x.mc x.msgs x.enums (⟨a', c', x.res.l ++ [v]⟩) x.names) (fun x => by cases x; rfl)
  (fun R' hM pd px pr p to at_ xs ar cr l h1 h2 hD hu hll => some_MessageDef_Span_get hD (hM _ _ _ _ _ hR) hb h1 h2 h3 (hM _ _ _ _ _ (hF.box 59 _ _ _ rfl)) rfl (of24_fn ⟨px, 0, none⟩) (hM _ _ _ _ _ (hF.box 58 _ _ _ rfl)) (hM _ _ _ _ _ (hF.box 57 _ _ _ rfl)) (hM _ _ _ _ _ hF.forms) rfl hd0 (by omega) (by decide) (by decide) hu hll (fun q => (hrd q).mono hM))
  (fun x => by cases x; rw [mOw_mk]; (repeat (first|exact Fr.nil|(apply Fr.cons;focus ((repeat constructor);done))))) (fun x a' c' v => by cases x; rfl) (fun x a' c' v => by cases x; rfl) (fun x a' c' v => by cases x; rw [sl_snoc v]; rfl) (fun x a' c' v => by cases x; simp [mCnt, MsgT.fields, MsgT.oneofs, MsgT.msgs, MsgT.enums, MsgT.res, MsgT.names]; try omega) (fun x => by cases x; simp [mCnt, MsgT.fields, MsgT.oneofs, MsgT.msgs, MsgT.enums, MsgT.res, MsgT.names]; try omega) h3
  (fun x at_ m q t a' c' v g1 g2 => by cases x; show Except.map _ ((rdSpan bs) q t) = _; rw [g2]; rfl)
  (fun x at_ m q t pl g1 g2 => by cases x; show Except.map _ ((rdSpan bs) q t) = _; rw [g2]; rfl)
  (fun x at_ m q t g1 => absurd g1 (by omega))
include hT in
theorem get_MessageDef_7 {sub : Option (Nat → Nat → Except Nat MsgT)} : GetC B R 187 ⟨7, 2, true, 223, [t.bp 61, t.bp 60], 224, [t.bp 61]⟩ .ts 7 MsgT.cells mEr mOw mCnt bs a n c deep (fMsg bs sub) :=
 GetC.txts 6 (fun x => x.names) (fun x => [Own x.fields.a x.fields.c 240 9 x.fields.l.length (x.fields.l.flatMap FieldT.cells), Bag (x.fields.l.flatMap noOw), txO x.oneofs, Own x.ma x.mc 187 7 x.msgs.length (x.msgs.flatMap MsgT.cells), Bag (x.msgs.flatMap mOw), Own x.enums.a x.enums.c 85 5 x.enums.l.length (x.enums.l.flatMap EnumT.cells), Bag (x.enums.l.flatMap eOw), Own x.res.a x.res.c 196 2 x.res.l.length (x.res.l.flatMap SpanT.cells), Bag (x.res.l.flatMap noOw)]) (fun x a' c' v => .mk x.nm x.fields x.oneofs x.ma x.mc x.msgs x.enums x.res (⟨a', c', x.names.l ++ [v]⟩)) (fun x => by cases x; rfl)
  (fun R' hM pd px pr p to at_ xs ar cr ls h1 h2 hD hu hll => someTexts_MessageDef_get hT hD (hM _ _ _ _ _ hR) hb h1 h2 h3 (hM _ _ _ _ _ (hF.box 61 _ _ _ rfl)) rfl (of25_fn ⟨px, 0, none⟩) hu hll)
  (fun x => by cases x; rw [mOw_mk]; (repeat (first|exact Fr.nil|(apply Fr.cons;focus ((repeat constructor);done))))) (fun x a' c' v => by cases x; rfl) (fun x a' c' v => by cases x; rfl) (fun x a' c' v => by cases x; rw [sl_snoc v]; rfl) (fun x a' c' v => by cases x; simp [mCnt, MsgT.fields, MsgT.oneofs, MsgT.msgs, MsgT.enums, MsgT.res, MsgT.names]; try omega) (fun x => by cases x; simp [mCnt, MsgT.fields, MsgT.oneofs, MsgT.msgs, MsgT.enums, MsgT.res, MsgT.names]; try omega) h3
  (fun x at_ m q t a' c' => by cases x; rfl)
include hT in
theorem rd_MessageDef_of {sub : Option (Nat → Nat → Except Nat MsgT)} {rdp : Nat → Nat → Except Nat MsgT} (hd0 : 0 ≤ deep) (hd1 : deep ≤ 100) (hrd : deep + 1 ≤ 100 → RdrC B R 228 (t.sl 3 7) (deep + 1) a n c MsgT.cells mEr mOw rdp) (hs1 : deep + 1 ≤ 100 → sub = some rdp) (hs0 : 100 < deep + 1 → sub = none) : RdrC B R 228 (t.sl 3 7) deep a n c MsgT.cells mEr mOw (fun q t => readR formMessage bs (fMsg bs sub) q t msg0) :=
 read_MessageDef (form := formMessage) (fs := fs3 t) (ra := t.ra 3) (rc := t.rc 3) (er := mEr) (ow := mOw) (cnt := mCnt) (upd := fMsg bs sub) hF.r3 rfl (Nat.le_of_ble_eq_true rfl)
  (AllI.get0 (l := fs3 t) (P := fun i (f : FP) => f.num = ((i + 1 : Nat) : Int) ∧ f.kind = (FK.kind (formMessage.getD i .t)) ∧ f.lst = (FK.list (formMessage.getD i .t))) ⟨⟨rfl, rfl, rfl⟩, ⟨rfl, rfl, rfl⟩, ⟨rfl, rfl, rfl⟩, ⟨rfl, rfl, rfl⟩, ⟨rfl, rfl, rfl⟩, ⟨rfl, rfl, rfl⟩, ⟨rfl, rfl, rfl⟩, trivial⟩)
  (fun f hf => (List.getElem?_of_mem hf).elim fun i hi => AllI.get0 (l := fs3 t) (P := fun _ (f : FP) => ∃ gb, al T.funs f.fg = some gb) ⟨⟨_, rfl⟩, ⟨_, rfl⟩, ⟨_, rfl⟩, ⟨_, rfl⟩, ⟨_, rfl⟩, ⟨_, rfl⟩, ⟨_, rfl⟩, trivial⟩ i f hi)
  (AllI.get0 (l := fs3 t) (P := fun i (f : FP) => GetC B R 187 f (formMessage.getD i .t) (i + 1) MsgT.cells mEr mOw mCnt bs a n c deep (fMsg bs sub)) ⟨get_MessageDef_1 hT hF hR hb h3, get_MessageDef_2 hF hR hb h3 hd0 (by omega) (fun q => rd_FieldDef hT hF hR hb h3 (by omega) q), get_MessageDef_3 hT hF hR hb h3, get_MessageDef_4 hF hR hb h3 hd0 hd1 hrd hs1 hs0, get_MessageDef_5 hF hR hb h3 hd0 (by omega) (fun q => rd_EnumDef hT hF hR hb h3 (by omega) q), get_MessageDef_6 hF hR hb h3 hd0 (by omega) (fun q => rd_Span hF hR hb h3 (by omega) q), get_MessageDef_7 hT hF hR hb h3, trivial⟩)
  hd0 (by omega) hR hb h3 rfl (fun _ _ s => Bag.close (ps := mOw msg0) (Sat.nilOwn (Bag.nil_ (Sat.nilOwn (Sat.nilOwn (Bag.nil_ (Sat.nilOwn (Bag.nil_ (Sat.nilOwn (Bag.nil_ (Sat.nilOwn s)))))))))))
include hT in
theorem rd_MessageDef_k : ∀ k : Nat, k ≤ 99 → RdrC B R 228 (t.sl 3 7) ((100 : Int) - k) a n c MsgT.cells mEr mOw (rdMsg bs k)
 | 0, _ => rd_MessageDef_of (sub := none) (rdp := rdMsg bs 0) hT hF hR hb h3 (by omega) (by omega) (fun q => absurd q (by omega)) (fun q => absurd q (by omega)) (fun _ => rfl)
 | k + 1, h => by
  have ih := rd_MessageDef_k k (by omega)
  refine rd_MessageDef_of (sub := some (rdMsg bs k)) (rdp := rdMsg bs k) hT hF hR hb h3 (by omega) (by omega) (fun _ => ?_) (fun _ => rfl) (fun q => absurd q (by omega))
  rw [show (100 : Int) - (k + 1 : Nat) + 1 = 100 - k by omega]
  exact ih
include hT in
theorem rd_MessageDef (hd : deep = 0) (_ : deep + 1 ≤ 100) : RdrC B R 228 (t.sl 3 7) (deep + 1) a n c MsgT.cells mEr mOw (rdMsg bs 99) := by
 subst hd
 exact rd_MessageDef_k hT hF hR hb h3 99 (Nat.le_refl _)
include hT in
theorem get_File_1 : GetC B R 75 ⟨1, 2, false, 239, [t.bp 67, t.bp 66], 240, [t.bp 67]⟩ .t 1 FileT.cells fEr fOw fCnt bs a n c deep (fFile bs) :=
 GetC.one (fun m q t => vS ((bs.drop q).take (t - q))) 0 (fun x m q t => { x with path := (bs.drop q).take (t - q) }) (fun x => by exact Nat.le_of_ble_eq_true rfl)
  (fun R' hM pd px pr p to at_ xs h1 h2 hx hD => (oneText_File_get hT hD (hM _ _ _ _ _ hR) hb h1 h2 h3 (hM _ _ _ _ _ (hF.box 67 _ _ _ rfl)) rfl (of28_fn ⟨px, 0, none⟩) hx))
  (fun x m q t => by rfl) (fun x m q t => by rfl) (fun x m q t => by rfl) (fun x at_ m q t => by rfl)
include hT in
theorem get_File_2 : GetC B R 75 ⟨2, 2, false, 239, [t.bp 69, t.bp 68], 240, [t.bp 69]⟩ .t 2 FileT.cells fEr fOw fCnt bs a n c deep (fFile bs) :=
 GetC.one (fun m q t => vS ((bs.drop q).take (t - q))) 1 (fun x m q t => { x with pack := (bs.drop q).take (t - q) }) (fun x => by exact Nat.le_of_ble_eq_true rfl)
  (fun R' hM pd px pr p to at_ xs h1 h2 hx hD => (oneText_File_get hT hD (hM _ _ _ _ _ hR) hb h1 h2 h3 (hM _ _ _ _ _ (hF.box 69 _ _ _ rfl)) rfl (of29_fn ⟨px, 0, none⟩) hx))
  (fun x m q t => by rfl) (fun x m q t => by rfl) (fun x m q t => by rfl) (fun x at_ m q t => by rfl)
theorem get_File_3 (hd0 : 0 ≤ deep) (hd1 : deep ≤ 100) (hrd : deep + 0 ≤ 100 → RdrC B R 244 (t.sl 2 2) (deep + 0) a n c ImpT.cells id noOw (rdImp bs)) : GetC B R 75 ⟨3, 2, true, 241, [t.bp 73, t.bp 70, t.bp 71], 243, [t.bp 72, t.bp 73, t.bp 71]⟩ .rs 3 FileT.cells fEr fOw fCnt bs a n c deep (fFile bs) :=
 GetC.rows (dd := deep + 0) (rdp := (rdImp bs)) 2 (fun x => x.imps) (fun x => [Own x.ma x.mc 187 7 x.msgs.length (x.msgs.flatMap MsgT.cells), Bag (x.msgs.flatMap mOw), Own x.enums.a x.enums.c 85 5 x.enums.l.length (x.enums.l.flatMap EnumT.cells), Bag (x.enums.l.flatMap eOw)]) (fun x a' c' v => { x with imps := ⟨a', c', x.imps.l ++ [v]⟩ }) (fun x => by rfl)
  (fun R' hM pd px pr p to at_ xs ar cr l h1 h2 hD hu hll => some_File_Import_get hD (hM _ _ _ _ _ hR) hb h1 h2 h3 (hM _ _ _ _ _ (hF.box 73 _ _ _ rfl)) rfl (of30_fn ⟨px, 0, none⟩) (hM _ _ _ _ _ (hF.box 72 _ _ _ rfl)) (hM _ _ _ _ _ (hF.box 71 _ _ _ rfl)) (hM _ _ _ _ _ hF.forms) rfl hd0 (by omega) (by decide) (by decide) hu hll (fun q => (hrd q).mono hM))
  (fun x => by unfold fOw; (repeat (first|exact Fr.nil|(apply Fr.cons;focus ((repeat constructor);done))))) (fun x a' c' v => by rfl) (fun x a' c' v => by rfl) (fun x a' c' v => by rw [sl_snoc v]; rfl) (fun x a' c' v => by simp [fCnt]; try omega) (fun x => by simp [fCnt]; try omega) h3
  (fun x at_ m q t a' c' v g1 g2 => by show Except.map _ ((rdImp bs) q t) = _; rw [g2]; rfl)
  (fun x at_ m q t pl g1 g2 => by show Except.map _ ((rdImp bs) q t) = _; rw [g2]; rfl)
  (fun x at_ m q t g1 => absurd g1 (by omega))
theorem get_File_4 (hd0 : 0 ≤ deep) (hd1 : deep ≤ 99) (hrd : deep + 1 ≤ 100 → RdrC B R 228 (t.sl 3 7) (deep + 1) a n c MsgT.cells mEr mOw (rdMsg bs 99)) : GetC B R 75 ⟨4, 2, true, 245, [t.bp 77, t.bp 74, t.bp 75], 246, [t.bp 76, t.bp 77, t.bp 75]⟩ .rs 4 FileT.cells fEr fOw fCnt bs a n c deep (fFile bs) :=
 GetC.rows (dd := deep + 1) (rdp := (rdMsg bs 99)) 3 (fun x => ⟨x.ma, x.mc, x.msgs⟩) (fun x => [Own x.imps.a x.imps.c 161 2 x.imps.l.length (x.imps.l.flatMap ImpT.cells), Bag (x.imps.l.flatMap noOw), Own x.enums.a x.enums.c 85 5 x.enums.l.length (x.enums.l.flatMap EnumT.cells), Bag (x.enums.l.flatMap eOw)]) (fun x a' c' v => { x with ma := a', mc := c', msgs := x.msgs ++ [v] }) (fun x => by rfl)
  (fun R' hM pd px pr p to at_ xs ar cr l h1 h2 hD hu hll => some_File_MessageDef_get hD (hM _ _ _ _ _ hR) hb h1 h2 h3 (hM _ _ _ _ _ (hF.box 77 _ _ _ rfl)) rfl (of31_fn ⟨px, 0, none⟩) (hM _ _ _ _ _ (hF.box 76 _ _ _ rfl)) (hM _ _ _ _ _ (hF.box 75 _ _ _ rfl)) (hM _ _ _ _ _ hF.forms) rfl hd0 (by omega) (by decide) (by decide) hu hll (fun q => (hrd q).mono hM))
  (fun x => by unfold fOw; (repeat (first|exact Fr.nil|(apply Fr.cons;focus ((repeat constructor);done))))) (fun x a' c' v => by rfl) (fun x a' c' v => by rfl) (fun x a' c' v => by rw [sl_snoc v]; rfl) (fun x a' c' v => by simp [fCnt]; try omega) (fun x => by simp [fCnt]; try omega) h3
  (fun x at_ m q t a' c' v g1 g2 => by show Except.map _ ((rdMsg bs 99) q t) = _; rw [g2]; simp [Except.map, pushR, mEr, mErL_map, EnumT.er, fEr, sEr, MsgT.nm, MsgT.fields, MsgT.oneofs, MsgT.ma, MsgT.mc, MsgT.msgs, MsgT.enums, MsgT.res, MsgT.names])
  (fun x at_ m q t pl g1 g2 => by show Except.map _ ((rdMsg bs 99) q t) = _; rw [g2]; rfl)
  (fun x at_ m q t g1 => absurd g1 (by omega))
theorem get_File_5 (hd0 : 0 ≤ deep) (hd1 : deep ≤ 100) (hrd : deep + 0 ≤ 100 → RdrC B R 232 (t.sl 5 5) (deep + 0) a n c EnumT.cells EnumT.er eOw (rdEnum bs)) : GetC B R 75 ⟨5, 2, true, 247, [t.bp 81, t.bp 78, t.bp 79], 248, [t.bp 80, t.bp 81, t.bp 79]⟩ .rs 5 FileT.cells fEr fOw fCnt bs a n c deep (fFile bs) :=
 GetC.rows (dd := deep + 0) (rdp := (rdEnum bs)) 4 (fun x => x.enums) (fun x => [Own x.imps.a x.imps.c 161 2 x.imps.l.length (x.imps.l.flatMap ImpT.cells), Bag (x.imps.l.flatMap noOw), Own x.ma x.mc 187 7 x.msgs.length (x.msgs.flatMap MsgT.cells), Bag (x.msgs.flatMap mOw)]) (fun x a' c' v => { x with enums := ⟨a', c', x.enums.l ++ [v]⟩ }) (fun x => by rfl)
  (fun R' hM pd px pr p to at_ xs ar cr l h1 h2 hD hu hll => some_File_EnumDef_get hD (hM _ _ _ _ _ hR) hb h1 h2 h3 (hM _ _ _ _ _ (hF.box 81 _ _ _ rfl)) rfl (of32_fn ⟨px, 0, none⟩) (hM _ _ _ _ _ (hF.box 80 _ _ _ rfl)) (hM _ _ _ _ _ (hF.box 79 _ _ _ rfl)) (hM _ _ _ _ _ hF.forms) rfl hd0 (by omega) (by decide) (by decide) hu hll (fun q => (hrd q).mono hM))
  (fun x => by unfold fOw; (repeat (first|exact Fr.nil|(apply Fr.cons;focus ((repeat constructor);done))))) (fun x a' c' v => by rfl) (fun x a' c' v => by rfl) (fun x a' c' v => by rw [sl_snoc v]; rfl) (fun x a' c' v => by simp [fCnt]; try omega) (fun x => by simp [fCnt]; try omega) h3
  (fun x at_ m q t a' c' v g1 g2 => by show Except.map _ ((rdEnum bs) q t) = _; rw [g2]; simp [Except.map, pushR, mEr, mErL_map, EnumT.er, fEr, sEr, MsgT.nm, MsgT.fields, MsgT.oneofs, MsgT.ma, MsgT.mc, MsgT.msgs, MsgT.enums, MsgT.res, MsgT.names])
  (fun x at_ m q t pl g1 g2 => by show Except.map _ ((rdEnum bs) q t) = _; rw [g2]; rfl)
  (fun x at_ m q t g1 => absurd g1 (by omega))
include hT in
theorem rd_File (hd0 : 0 ≤ deep) (hd1 : deep ≤ 0) : RdrC B R 252 (t.sl 1 5) deep a n c FileT.cells fEr fOw (rdFile bs) :=
 read_File (form := formFile) (fs := fs1 t) (ra := t.ra 1) (rc := t.rc 1) (er := fEr) (ow := fOw) (cnt := fCnt) (upd := fFile bs) hF.r1 rfl (Nat.le_of_ble_eq_true rfl)
  (AllI.get0 (l := fs1 t) (P := fun i (f : FP) => f.num = ((i + 1 : Nat) : Int) ∧ f.kind = (FK.kind (formFile.getD i .t)) ∧ f.lst = (FK.list (formFile.getD i .t))) ⟨⟨rfl, rfl, rfl⟩, ⟨rfl, rfl, rfl⟩, ⟨rfl, rfl, rfl⟩, ⟨rfl, rfl, rfl⟩, ⟨rfl, rfl, rfl⟩, trivial⟩)
  (fun f hf => (List.getElem?_of_mem hf).elim fun i hi => AllI.get0 (l := fs1 t) (P := fun _ (f : FP) => ∃ gb, al T.funs f.fg = some gb) ⟨⟨_, rfl⟩, ⟨_, rfl⟩, ⟨_, rfl⟩, ⟨_, rfl⟩, ⟨_, rfl⟩, trivial⟩ i f hi)
  (AllI.get0 (l := fs1 t) (P := fun i (f : FP) => GetC B R 75 f (formFile.getD i .t) (i + 1) FileT.cells fEr fOw fCnt bs a n c deep (fFile bs)) ⟨get_File_1 hT hF hR hb h3, get_File_2 hT hF hR hb h3, get_File_3 hF hR hb h3 hd0 (by omega) (fun q => rd_Import hT hF hR hb h3 (by omega) q), get_File_4 hF hR hb h3 hd0 (by omega) (fun q => rd_MessageDef hT hF hR hb h3 (by omega) q), get_File_5 hF hR hb h3 hd0 (by omega) (fun q => rd_EnumDef hT hF hR hb h3 (by omega) q), trivial⟩)
  hd0 (by omega) hR hb h3 rfl (fun _ _ s => Bag.close (ps := fOw file0) (Sat.nilOwn (Bag.nil_ (Sat.nilOwn (Bag.nil_ (Sat.nilOwn (Bag.nil_ s)))))))
theorem get_set_1 (hd0 : 0 ≤ deep) (hd1 : deep ≤ 100) (hrd : deep + 0 ≤ 100 → RdrC B R 252 (t.sl 1 5) (deep + 0) a n c FileT.cells fEr fOw (rdFile bs)) : GetC B R 98 ⟨1, 2, true, 249, [t.bp 85, t.bp 82, t.bp 83], 251, [t.bp 84, t.bp 85, t.bp 83]⟩ .rs 1 sCells sEr sOw sCnt bs a n c deep (fSet bs) :=
 GetC.rows (dd := deep + 0) (rdp := (rdFile bs)) 0 (fun x => x) (fun x => []) (fun x a' c' v => ⟨a', c', x.l ++ [v]⟩) (fun x => by rfl)
  (fun R' hM pd px pr p to at_ xs ar cr l h1 h2 hD hu hll => some_set_File_get hD (hM _ _ _ _ _ hR) hb h1 h2 h3 (hM _ _ _ _ _ (hF.box 85 _ _ _ rfl)) rfl (of33_fn ⟨px, 0, none⟩) (hM _ _ _ _ _ (hF.box 84 _ _ _ rfl)) (hM _ _ _ _ _ (hF.box 83 _ _ _ rfl)) (hM _ _ _ _ _ hF.forms) rfl hd0 (by omega) (by decide) (by decide) hu hll (fun q => (hrd q).mono hM))
  (fun x => by unfold sOw; (repeat (first|exact Fr.nil|(apply Fr.cons;focus ((repeat constructor);done))))) (fun x a' c' v => by rfl) (fun x a' c' v => by rfl) (fun x a' c' v => by rw [sl_snoc v]; rfl) (fun x a' c' v => by simp [sCnt]) (fun x => by simp [sCnt]) h3
  (fun x at_ m q t a' c' v g1 g2 => by show Except.map _ ((rdFile bs) q t) = _; rw [g2]; simp [Except.map, pushR, mEr, mErL_map, EnumT.er, fEr, sEr, MsgT.nm, MsgT.fields, MsgT.oneofs, MsgT.ma, MsgT.mc, MsgT.msgs, MsgT.enums, MsgT.res, MsgT.names])
  (fun x at_ m q t pl g1 g2 => by show Except.map _ ((rdFile bs) q t) = _; rw [g2]; rfl)
  (fun x at_ m q t g1 => absurd g1 (by omega))
include hT in
theorem rd_set (hd0 : 0 ≤ deep) (hd1 : deep ≤ 0) : RdrC B R 32 (t.sl 0 1) deep a n c sCells sEr sOw (rdSet bs) :=
 read_set (form := formSet) (fs := fs0 t) (ra := t.ra 0) (rc := t.rc 0) (er := sEr) (ow := sOw) (cnt := sCnt) (upd := fSet bs) hF.r0 rfl (Nat.le_of_ble_eq_true rfl)
  (AllI.get0 (l := fs0 t) (P := fun i (f : FP) => f.num = ((i + 1 : Nat) : Int) ∧ f.kind = (FK.kind (formSet.getD i .t)) ∧ f.lst = (FK.list (formSet.getD i .t))) ⟨⟨rfl, rfl, rfl⟩, trivial⟩)
  (fun f hf => (List.getElem?_of_mem hf).elim fun i hi => AllI.get0 (l := fs0 t) (P := fun _ (f : FP) => ∃ gb, al T.funs f.fg = some gb) ⟨⟨_, rfl⟩, trivial⟩ i f hi)
  (AllI.get0 (l := fs0 t) (P := fun i (f : FP) => GetC B R 98 f (formSet.getD i .t) (i + 1) sCells sEr sOw sCnt bs a n c deep (fSet bs)) ⟨get_set_1 hF hR hb h3 hd0 (by omega) (fun q => rd_File hT hF hR hb h3 (by omega) (by omega)), trivial⟩)
  hd0 (by omega) hR hb h3 rfl (fun _ _ s => Bag.close (ps := sOw rw0) (Sat.nilOwn (Bag.nil_ s)))
end
end Go.Proofs.YtclcnhfponjdaaaGreatDoor
end
section
namespace Go.Proofs.YtclcnhfponjdaaaGreatDoor
open Go.Sk
def sg (bs : Txt) (a b : Nat) : Txt := (bs.drop a).take (b - a)
theorem sg_self {bs : Txt} {a : Nat} : sg bs a a = [] := by simp [sg]
theorem sg_len {bs : Txt} {a b : Nat} (h2 : b ≤ bs.length) : (sg bs a b).length = b - a := by
 unfold sg
 rw [List.length_take, List.length_drop]
 omega
theorem sg_app {bs : Txt} {a b c : Nat} (h1 : a ≤ b) (h2 : b ≤ c) : sg bs a b ++ sg bs b c = sg bs a c := by
 unfold sg
 rw [show bs.drop b = (bs.drop a).drop (b - a) by rw [List.drop_drop]; congr 1; omega, show c - a = (b - a) + (c - b) by omega, List.take_add]
theorem sg_all {bs : Txt} : sg bs 0 bs.length = bs := by simp [sg]
theorem vr_canon : ∀ (l : List Int) (i : Nat) (v r : Int) (k : Nat), Bytes l → vr l i v = .ok r k → ∃ u, 0 ≤ u ∧ r = v + u * 2 ^ (7 * i) ∧ ((encF (9 - i) u).length = k - i → l.take (k - i) = encF (9 - i) u)
 | [], i, v, r, k, _, h => by simp only [vr] at h; split at h <;> cases h
 | c :: l, i, v, r, k, hb, h => by
  have hc : isByte c := hb c (by simp)
  obtain ⟨c0, c1⟩ := hc
  simp only [vr] at h
  split at h
  ·rename_i h10
   split at h
   ·cases h
   ·rename_i h9
    split at h
    ·rename_i h128
     cases h
     refine ⟨c, c0, by rw [Int.emod_eq_of_lt c0 h128], fun _ => ?_⟩
     rw [show i + 1 - i = 1 by omega]
     have : encF (9 - i) c = [c] := by
      cases hf : 9 - i with
      | zero => rfl
      | succ f => unfold encF; rw [if_pos h128]
     rw [this]
     rfl
    ·rename_i h128
     obtain ⟨u, hu0, hu, hl⟩ := vr_canon l (i + 1) _ r k (fun x hx => hb x (by simp [hx])) h
     have hk := (vr_le _ _ _ _ _ h).2
     refine ⟨c % 128 + 128 * u, by omega, ?_, ?_⟩
     ·rw [hu, show 7 * (i + 1) = 7 * i + 7 by omega, Int.pow_add, show (2 : Int) ^ 7 = 128 by decide, Int.add_mul, ← Int.add_assoc]
      congr 1
      rw [Int.mul_comm (2 ^ (7 * i)) 128, ← Int.mul_assoc, Int.mul_comm 128 u]
     ·have h9' : i < 9 := by omega
      rw [show 9 - i = (9 - (i + 1)) + 1 by omega]
      unfold encF
      split
      ·intro hh; simp only [List.length_singleton] at hh; omega
      ·intro hh
       rw [show (c % 128 + 128 * u) / 128 = u by omega] at hh ⊢
       simp only [List.length_cons] at hh
       rw [show k - i = (k - (i + 1)) + 1 by omega, List.take_succ_cons, hl (by omega)]
       congr 1
       omega
  ·cases h
theorem bytes_sg {bs : Txt} (h : Bytes bs) (a b : Nat) : Bytes (sg bs a b) := (h.drop a).take _
theorem vr_take : ∀ {l : List Int} {i : Nat} {v r : Int} {k : Nat}, vr l i v = .ok r k → k ≤ i + l.length := fun h => (vr_le _ _ _ _ _ h).1
theorem shortV_sg {bs : Txt} {a to p : Nat} {v : Int} (hb : Bytes bs) (ht : to ≤ bs.length) (h : shortV bs a to = some (v, p)) : a < p ∧ p ≤ to ∧ V64 v ∧ sg bs a p = enc v := by
 unfold shortV at h
 cases hv : vr ((bs.drop a).take (to - a)) 0 0 with
 | ok v' k =>
  rw [hv] at h
  simp only at h
  split at h
  ·rename_i hk
   cases h
   have hle := vr_le _ _ _ _ _ hv
   rw [List.length_take, List.length_drop] at hle
   have hby : Bytes ((bs.drop a).take (to - a)) := (hb.drop a).take _
   have hV := vr_val _ _ _ _ _ hby (by omega) (by simp) (by omega) hv
   obtain ⟨u, hu0, hu, hl⟩ := vr_canon _ _ _ _ _ hby hv
   simp only [Nat.mul_zero, Int.pow_zero, Int.mul_one, Int.zero_add, Nat.sub_zero] at hu hl
   subst hu
   refine ⟨by omega, by omega, hV, ?_⟩
   have := hl hk.symm
   rw [List.take_take, show min k (to - a) = k by omega] at this
   unfold Go.Proofs.YtclcnhfponjdaaaGreatDoor.sg
   rw [show a + k - a = k by omega]
   exact this
  ·cases h
 | short => rw [hv] at h; cases h
 | long => rw [hv] at h; cases h
/-- What a field's content must be. -/
def Vld (what : FK) (v : Int) (tx : Txt) : Prop := V64 v ∧ match what with
 | .t => v = tx.length ∧ tx ≠ [] ∧ goodL tx < 0
 | .ts => v = tx.length ∧ goodL tx < 0
 | .rs => v = tx.length
 | .z => tx = [] ∧ unzig v ≠ 0 ∧ I32 (unzig v)
 | .zl => tx = [] ∧ v ≠ 0
 | .n => tx = [] ∧ v ≠ 0 ∧ v ≤ 255
 | .b => tx = [] ∧ v = 1
theorem contL_sg {what : FK} {bs : Txt} {p to q t : Nat} {m : Int} (hb : Bytes bs) (ht : to ≤ bs.length) (h : contL what bs p to = some (m, q, t)) : p < q ∧ q ≤ t ∧ t ≤ to ∧ sg bs p t = enc m ++ sg bs q t ∧ Vld what m (sg bs q t) := by
 unfold contL at h
 cases hs : shortV bs p to with
 | none => rw [hs] at h; cases h
 | some nq =>
  obtain ⟨n, q'⟩ := nq
  rw [hs] at h
  obtain ⟨h1, h2, h3, h4⟩ := shortV_sg hb ht hs
  have hz : ∀ {x : Nat}, x = q' → sg bs q' x = [] := fun e => by subst e; exact sg_self
  have hlen : ∀ {k : Nat}, q' + k ≤ to → (sg bs q' (q' + k)).length = k := fun hk => by rw [sg_len (by omega)]; omega
  have hfin : q' ≤ t → q = q' → m = n → sg bs p t = enc m ++ sg bs q t := fun g1 g2 g3 => by
   subst g2 g3
   rw [← h4, sg_app (by omega) g1]
  cases what <;> simp only at h <;> split at h <;> cases h <;> rename_i hc
  ·have e : ((sg bs q (q + m.toNat)).length : Int) = m := by rw [hlen (by omega)]; omega
   refine ⟨h1, by omega, by omega, hfin (by omega) rfl rfl, h3, e.symm, fun h0 => ?_, ?_⟩
   ·rw [h0] at e; simp at e; omega
   ·unfold sg; rw [show q + m.toNat - q = m.toNat by omega]; exact hc.2.2
  ·have e : ((sg bs q (q + m.toNat)).length : Int) = m := by rw [hlen (by have := h3.1; omega)]; have := h3.1; omega
   refine ⟨h1, by omega, by have := h3.1; omega, hfin (by omega) rfl rfl, h3, e.symm, ?_⟩
   unfold sg; rw [show q + m.toNat - q = m.toNat by omega]; exact hc.2
  ·have e : ((sg bs q (q + m.toNat)).length : Int) = m := by rw [hlen (by have := h3.1; omega)]; have := h3.1; omega
   exact ⟨h1, by omega, by have := h3.1; omega, hfin (by omega) rfl rfl, h3, e.symm⟩
  ·exact ⟨h1, Nat.le_refl _, h2, hfin (Nat.le_refl _) rfl rfl, h3, sg_self, hc.1, hc.2⟩
  ·exact ⟨h1, Nat.le_refl _, h2, hfin (Nat.le_refl _) rfl rfl, h3, sg_self, hc⟩
  ·exact ⟨h1, Nat.le_refl _, h2, hfin (Nat.le_refl _) rfl rfl, h3, sg_self, hc⟩
  ·exact ⟨h1, Nat.le_refl _, h2, hfin (Nat.le_refl _) rfl rfl, h3, sg_self, hc⟩
theorem txtG_sg {bs : Txt} {g : Got} : txtG bs g = sg bs g.fr g.to := rfl
/-- A field that was read, and its bytes. -/
theorem gotL_sg {form : List FK} {bs : Txt} {a to last : Nat} {g : Got} (hb : Bytes bs) (ht : to ≤ bs.length) (h : gotL form bs a to last = some g) : a < g.to ∧ g.to ≤ to ∧ g.fr ≤ g.to ∧ 1 ≤ g.num ∧ g.num ≤ form.length ∧ (last < g.num ∨ last = g.num ∧ (form.getD (g.num - 1) .t).list = true) ∧
  sg bs a g.to = enc ((g.num : Int) * 8 + (form.getD (g.num - 1) .t).kind) ++ (enc g.v ++ txtG bs g) ∧ Vld (form.getD (g.num - 1) .t) g.v (txtG bs g) := by
 unfold gotL at h
 cases hk : tagL form bs a to last with
 | none => rw [hk] at h; cases h
 | some np =>
  obtain ⟨num, p⟩ := np
  rw [hk] at h
  simp only at h
  unfold tagL at hk
  cases hs : shortV bs a to with
  | none => rw [hs] at hk; cases hk
  | some vq =>
   obtain ⟨v, p'⟩ := vq
   rw [hs] at hk
   simp only at hk
   split at hk
   ·rename_i hc
    cases hk
    obtain ⟨k1, k2, k3, k4, k5⟩ := hc
    obtain ⟨a1, a2, a3, a4⟩ := shortV_sg hb ht hs
    cases hcon : contL (form.getD ((v / 8).toNat - 1) .t) bs p to with
    | none => rw [hcon] at h; cases h
    | some mqt =>
     obtain ⟨m, q, t⟩ := mqt
     rw [hcon] at h
     cases h
     obtain ⟨b1, b2, b3, b4, b5⟩ := contL_sg hb ht hcon
     have hv : ((v / 8).toNat : Int) * 8 + (form.getD ((v / 8).toNat - 1) .t).kind = v := by
      rw [← k5]
      have := Int.toNat_of_nonneg (show 0 ≤ v / 8 by omega)
      rw [this]
      omega
     refine ⟨by simp only; omega, b3, b2, by simp only; omega, by simp only; omega, k4, ?_, b5⟩
     simp only
     rw [hv, ← a4, txtG_sg, ← b4, sg_app (by omega) (by omega)]
   ·cases hk
/-- What holds of a record that is being read, with the bytes read so far. -/
theorem recL_inv {α : Type} {form : List FK} {bs : Txt} {f : α → Nat → Got → Except Nat α} {s to : Nat} (hb : Bytes bs) (ht : to ≤ bs.length) {P : Nat → α → Txt → Prop}
  (step : ∀ last x b at_ g y, P last x b → gotL form bs at_ to last = some g → f x at_ g = .ok y → P g.num y (b ++ sg bs at_ g.to)) :
  ∀ (k at_ last : Nat) (x y : α), s ≤ at_ → at_ ≤ to → P last x (sg bs s at_) → recL form bs f k at_ to last x = .ok y → ∃ last', P last' y (sg bs s to)
 | 0, at_, last, x, y, _, _, _, h => by unfold recL at h; cases h
 | k + 1, at_, last, x, y, h1, h2, hP, h => by
  unfold recL at h
  split at h
  ·cases hg : gotL form bs at_ to last with
   | none => rw [hg] at h; cases h
   | some g =>
    rw [hg] at h
    simp only at h
    cases hf : f x at_ g with
    | error p => rw [hf] at h; cases h
    | ok z =>
     rw [hf] at h
     simp only at h
     obtain ⟨g1, g2, _⟩ := gotL_sg hb ht hg
     have := step last x _ at_ g z hP hg hf
     rw [sg_app h1 (by omega)] at this
     exact recL_inv hb ht step k g.to g.num z y (by omega) g2 this h
  ·cases h
   rw [show at_ = to by omega] at hP
   exact ⟨last, hP⟩
theorem readR_inv {α : Type} {form : List FK} {bs : Txt} {f : α → Nat → Got → Except Nat α} {s to : Nat} {x y : α} (hb : Bytes bs) (ht : to ≤ bs.length) (hst : s ≤ to) {P : Nat → α → Txt → Prop} (h0 : P 0 x [])
  (step : ∀ last x b at_ g y, P last x b → gotL form bs at_ to last = some g → f x at_ g = .ok y → P g.num y (b ++ sg bs at_ g.to)) (h : readR form bs f s to x = .ok y) : ∃ last', P last' y (sg bs s to) :=
 recL_inv hb ht step _ s 0 x y (Nat.le_refl _) hst (by rw [sg_self]; exact h0) h
end Go.Proofs.YtclcnhfponjdaaaGreatDoor
end
section
namespace Go.Proofs.YtclcnhfponjdaaaGreatDoor
open Go.Sk
def TxtC (t : Txt) : Prop := goodT t = true ∧ OkT t
def SpanC (x : SpanT) : Prop := I32 x.f ∧ I32 x.t
def ValC (x : EValT) : Prop := TxtC x.nm ∧ I32 x.num
def ImpC (x : ImpT) : Prop := TxtC x.path ∧ True
def FieldC (x : FieldT) : Prop := TxtC x.nm ∧ I32 x.num ∧ U8 x.card ∧ U8 x.kind ∧ TxtC x.ty ∧ U8 x.key ∧ I64 x.oneof ∧ U8 x.packed ∧ TxtC x.js
def EnumC (x : EnumT) : Prop := TxtC x.nm ∧ (∀ y ∈ x.vals.l, ValC y) ∧ True ∧ (∀ y ∈ x.res.l, SpanC y) ∧ ∀ y ∈ x.names.l, TxtC y
mutual
def MsgC : MsgT → Nat → Prop
 | .mk nm fields oneofs _ _ msgs enums res names, d => d ≤ 99 ∧ TxtC nm ∧ (∀ y ∈ fields.l, FieldC y) ∧ (∀ y ∈ oneofs.l, TxtC y) ∧ MsgCL msgs (d + 1) ∧ (∀ y ∈ enums.l, EnumC y) ∧ (∀ y ∈ res.l, SpanC y) ∧ ∀ y ∈ names.l, TxtC y
def MsgCL : List MsgT → Nat → Prop
 | [], _ => True
 | m :: l, d => MsgC m d ∧ MsgCL l d
end
theorem MsgCL_iff {d : Nat} : ∀ {l : List MsgT}, MsgCL l d ↔ ∀ m ∈ l, MsgC m d
 | [] => by unfold MsgCL; exact ⟨fun _ _ h => (by cases h), fun _ => trivial⟩
 | m :: l => by unfold MsgCL; rw [MsgCL_iff, List.forall_mem_cons]
def FileC (x : FileT) : Prop := TxtC x.path ∧ TxtC x.pack ∧ (∀ y ∈ x.imps.l, ImpC y) ∧ (∀ y ∈ x.msgs, MsgC y 0) ∧ ∀ y ∈ x.enums.l, EnumC y
theorem all_snoc {α : Type} {P : α → Prop} {l : List α} {v : α} (h : ∀ x ∈ l, P x) (hv : P v) : ∀ x ∈ l ++ [v], P x := fun x hx => by
 rcases List.mem_append.1 hx with hx | hx
 ·exact h x hx
 ·rw [List.mem_singleton.1 hx]; exact hv
theorem mem_nil {α : Type} {P : α → Prop} : ∀ x ∈ ([] : List α), P x := fun _ h => by cases h
theorem fText_0 (k : Int) : fText k [] = [] := rfl
theorem fSign_0 (k : Int) : fSign k 0 = [] := rfl
theorem fSmall_0 (k : Int) : fSmall k 0 = [] := rfl
theorem fTruth_0 (k : Int) : fTruth k false = [] := rfl
theorem fTexts_0 (k : Int) : fTexts k [] = [] := rfl
theorem fRecs_0 {α : Type} (k : Int) (f : α → Txt) : fRecs k f [] = [] := rfl
theorem fText_n {k v : Int} {tx : Txt} (h : Vld .t v tx) : fText k tx = enc (k * 8 + 2) ++ (enc v ++ tx) := by
 unfold fText fBytes
 rw [if_neg h.2.2.1, h.2.1]
theorem fTexts_n {k v : Int} {tx : Txt} {l : List Txt} (h : Vld .ts v tx) : fTexts k (l ++ [tx]) = fTexts k l ++ (enc (k * 8 + 2) ++ (enc v ++ tx)) := by
 unfold fTexts fBytes
 rw [List.flatMap_append, List.flatMap_cons, List.flatMap_nil, List.append_nil, h.2.1]
theorem fRecs_n {α : Type} {f : α → Txt} {k v : Int} {tx : Txt} {l : List α} {x : α} (h : Vld .rs v tx) (e : tx = f x) : fRecs k f (l ++ [x]) = fRecs k f l ++ (enc (k * 8 + 2) ++ (enc v ++ tx)) := by
 unfold fRecs fBytes
 rw [List.flatMap_append, List.flatMap_cons, List.flatMap_nil, List.append_nil, h.2, e]
theorem fSign_n {k v : Int} {tx : Txt} (h : Vld .z v tx) : fSign k (unzig v) = enc (k * 8 + 0) ++ (enc v ++ tx) := by
 unfold fSign
 rw [if_neg h.2.2.1, zig_unzig h.1.1, h.2.1, List.append_nil]
theorem fSignl_n {k v : Int} {tx : Txt} (h : Vld .zl v tx) : fSign k (unzig v) = enc (k * 8 + 0) ++ (enc v ++ tx) := by
 unfold fSign
 have h0 := h.1.1
 have hu : unzig v ≠ 0 := by have := h.2.2; unfold unzig; split <;> omega
 rw [if_neg hu, zig_unzig h0, h.2.1, List.append_nil]
theorem fSmall_n {k v : Int} {tx : Txt} (h : Vld .n v tx) : fSmall k v = enc (k * 8 + 0) ++ (enc v ++ tx) := by
 unfold fSmall
 rw [if_neg h.2.2.1, h.2.1, List.append_nil]
theorem fTruth_n {k v : Int} {tx : Txt} (h : Vld .b v tx) : fTruth k true = enc (k * 8 + 0) ++ (enc v ++ tx) := by
 unfold fTruth
 rw [if_pos rfl, h.2.2, h.2.1, List.append_nil]
theorem txtC_of {bs : Txt} {g : Got} (hb : Bytes bs) (h16 : bs.length ≤ 16777216) (h : goodL (txtG bs g) < 0) : TxtC (txtG bs g) := by
 refine ⟨decide_eq_true h, bytes_sg hb _ _, ?_⟩
 rw [txtG_sg]
 unfold sg
 rw [List.length_take, List.length_drop]
 omega
theorem txtC_nil : TxtC [] := ⟨rfl, fun _ h => (by cases h), by decide⟩
theorem i32_0 : I32 0 := ⟨by decide, by decide⟩
theorem u8_0 : U8 0 := ⟨by decide, by decide⟩
theorem i64_0 : I64 0 := ⟨by decide, by decide⟩
theorem u8_of {v : Int} {tx : Txt} (h : Vld .n v tx) : U8 v := ⟨h.1.1, h.2.2.2⟩
theorem map_ok {α β : Type} {g : α → β} {e : Except Nat α} {y : β} (h : e.map g = .ok y) : ∃ x, e = .ok x ∧ y = g x := by
 cases e with
 | error p => cases h
 | ok x => cases h; exact ⟨x, rfl, rfl⟩
theorem msgB_pr {m : MsgT} {d : Nat} (h : d ≤ 99) : msgB m d = fText 1 m.nm ++ (fRecs 2 fieldB m.fields.l ++ (fTexts 3 m.oneofs.l ++ (fRecs 4 (fun y => msgB y (d + 1)) m.msgs ++ (fRecs 5 enumB m.enums.l ++ (fRecs 6 spanB m.res.l ++ fTexts 7 m.names.l))))) := by
 cases m
 conv => lhs; unfold msgB
 rw [if_neg (by omega), msgsB_eq]
 simp only [MsgT.nm, MsgT.fields, MsgT.oneofs, MsgT.msgs, MsgT.enums, MsgT.res, MsgT.names]
variable {bs : Txt}
def spanP (last : Nat) (x : SpanT) (b : Txt) : Prop := b = spanB x ∧ SpanC x ∧ (last < 1 → x.f = 0) ∧ (last < 2 → x.t = 0)
theorem rdSpan_form (hb : Bytes bs) (h16 : bs.length ≤ 16777216) {a to : Nat} {y : SpanT} (h1 : a ≤ to) (h2 : to ≤ bs.length) (h : rdSpan bs a to = .ok y) : sg bs a to = spanB y ∧ SpanC y := by
 have h0 : spanP 0 span0 [] := ⟨rfl, ⟨i32_0, i32_0⟩, fun _ => rfl, fun _ => rfl⟩
 obtain ⟨l', hP⟩ := readR_inv (P := spanP) hb h2 h1 h0 (by
  intro last x b at_ g y hP hg hf
  obtain ⟨rfl, ⟨c1, c2⟩, d1, d2⟩ := hP
  obtain ⟨g1, g2, g3, g4, g5, g6, g7, hv⟩ := gotL_sg hb h2 hg
  obtain ⟨num, v, fr, to'⟩ := g
  simp only at g1 g2 g3 g4 g5 g6 g7 hv
  rw [g7]
  have g5' : num ≤ 2 := g5
  clear g5 g7 hg
  have hnum : num = 1 ∨ num = 2 := by omega
  rcases hnum with rfl | rfl
  ·have hv : Vld .z v (txtG bs ⟨1, v, fr, to'⟩) := hv
   have hl : last < 1 := g6.elim (fun q => q) (fun q => absurd q.2 (by decide))
   have e1 := d1 (by omega)
   have e2 := d2 (by omega)
   cases hf
   refine ⟨?_, ⟨hv.2.2.2, c2⟩, fun (h : 1 < 1) => absurd h (by omega), fun _ => e2⟩
   unfold spanB
   simp only [pushR, e1, e2]
   rw [fSign_n hv]
   simp only [fSign_0, List.append_nil, List.nil_append, List.append_assoc]
   rfl
  ·have hv : Vld .z v (txtG bs ⟨2, v, fr, to'⟩) := hv
   have hl : last < 2 := g6.elim (fun q => q) (fun q => absurd q.2 (by decide))
   have e2 := d2 (by omega)
   cases hf
   refine ⟨?_, ⟨c1, hv.2.2.2⟩, fun (h : 2 < 1) => absurd h (by omega), fun (h : 2 < 2) => absurd h (by omega)⟩
   unfold spanB
   simp only [pushR, e2]
   rw [fSign_n hv]
   simp only [fSign_0, List.append_nil, List.nil_append, List.append_assoc]
   rfl) h
 exact ⟨hP.1, hP.2.1⟩
def valP (last : Nat) (x : EValT) (b : Txt) : Prop := b = valB x ∧ ValC x ∧ (last < 1 → x.nm = []) ∧ (last < 2 → x.num = 0)
theorem rdVal_form (hb : Bytes bs) (h16 : bs.length ≤ 16777216) {a to : Nat} {y : EValT} (h1 : a ≤ to) (h2 : to ≤ bs.length) (h : rdVal bs a to = .ok y) : sg bs a to = valB y ∧ ValC y := by
 have h0 : valP 0 val0 [] := ⟨rfl, ⟨txtC_nil, i32_0⟩, fun _ => rfl, fun _ => rfl⟩
 obtain ⟨l', hP⟩ := readR_inv (P := valP) hb h2 h1 h0 (by
  intro last x b at_ g y hP hg hf
  obtain ⟨rfl, ⟨c1, c2⟩, d1, d2⟩ := hP
  obtain ⟨g1, g2, g3, g4, g5, g6, g7, hv⟩ := gotL_sg hb h2 hg
  obtain ⟨num, v, fr, to'⟩ := g
  simp only at g1 g2 g3 g4 g5 g6 g7 hv
  rw [g7]
  have g5' : num ≤ 2 := g5
  clear g5 g7 hg
  have hnum : num = 1 ∨ num = 2 := by omega
  rcases hnum with rfl | rfl
  ·have hv : Vld .t v (txtG bs ⟨1, v, fr, to'⟩) := hv
   have hl : last < 1 := g6.elim (fun q => q) (fun q => absurd q.2 (by decide))
   have e1 := d1 (by omega)
   have e2 := d2 (by omega)
   cases hf
   refine ⟨?_, ⟨txtC_of hb h16 hv.2.2.2, c2⟩, fun (h : 1 < 1) => absurd h (by omega), fun _ => e2⟩
   unfold valB
   simp only [pushR, e1, e2]
   rw [fText_n hv]
   simp only [fSign_0, fText_0, List.append_nil, List.nil_append, List.append_assoc]
   rfl
  ·have hv : Vld .z v (txtG bs ⟨2, v, fr, to'⟩) := hv
   have hl : last < 2 := g6.elim (fun q => q) (fun q => absurd q.2 (by decide))
   have e2 := d2 (by omega)
   cases hf
   refine ⟨?_, ⟨c1, hv.2.2.2⟩, fun (h : 2 < 1) => absurd h (by omega), fun (h : 2 < 2) => absurd h (by omega)⟩
   unfold valB
   simp only [pushR, e2]
   rw [fSign_n hv]
   simp only [fSign_0, List.append_nil, List.nil_append, List.append_assoc]
   rfl) h
 exact ⟨hP.1, hP.2.1⟩
def impP (last : Nat) (x : ImpT) (b : Txt) : Prop := b = impB x ∧ ImpC x ∧ (last < 1 → x.path = []) ∧ (last < 2 → x.pub = false)
theorem rdImp_form (hb : Bytes bs) (h16 : bs.length ≤ 16777216) {a to : Nat} {y : ImpT} (h1 : a ≤ to) (h2 : to ≤ bs.length) (h : rdImp bs a to = .ok y) : sg bs a to = impB y ∧ ImpC y := by
 have h0 : impP 0 imp0 [] := ⟨rfl, ⟨txtC_nil, trivial⟩, fun _ => rfl, fun _ => rfl⟩
 obtain ⟨l', hP⟩ := readR_inv (P := impP) hb h2 h1 h0 (by
  intro last x b at_ g y hP hg hf
  obtain ⟨rfl, ⟨c1, c2⟩, d1, d2⟩ := hP
  obtain ⟨g1, g2, g3, g4, g5, g6, g7, hv⟩ := gotL_sg hb h2 hg
  obtain ⟨num, v, fr, to'⟩ := g
  simp only at g1 g2 g3 g4 g5 g6 g7 hv
  rw [g7]
  have g5' : num ≤ 2 := g5
  clear g5 g7 hg
  have hnum : num = 1 ∨ num = 2 := by omega
  rcases hnum with rfl | rfl
  ·have hv : Vld .t v (txtG bs ⟨1, v, fr, to'⟩) := hv
   have hl : last < 1 := g6.elim (fun q => q) (fun q => absurd q.2 (by decide))
   have e1 := d1 (by omega)
   have e2 := d2 (by omega)
   cases hf
   refine ⟨?_, ⟨txtC_of hb h16 hv.2.2.2, c2⟩, fun (h : 1 < 1) => absurd h (by omega), fun _ => e2⟩
   unfold impB
   simp only [pushR, e1, e2]
   rw [fText_n hv]
   simp only [fText_0, fTruth_0, List.append_nil, List.nil_append, List.append_assoc]
   rfl
  ·have hv : Vld .b v (txtG bs ⟨2, v, fr, to'⟩) := hv
   have hl : last < 2 := g6.elim (fun q => q) (fun q => absurd q.2 (by decide))
   have e2 := d2 (by omega)
   cases hf
   refine ⟨?_, ⟨c1, trivial⟩, fun (h : 2 < 1) => absurd h (by omega), fun (h : 2 < 2) => absurd h (by omega)⟩
   unfold impB
   simp only [pushR, e2]
   rw [fTruth_n hv]
   simp only [fTruth_0, List.append_nil, List.nil_append, List.append_assoc]
   rfl) h
 exact ⟨hP.1, hP.2.1⟩
def fieldP (last : Nat) (x : FieldT) (b : Txt) : Prop := b = fieldB x ∧ FieldC x ∧ (last < 1 → x.nm = []) ∧ (last < 2 → x.num = 0) ∧ (last < 3 → x.card = 0) ∧ (last < 4 → x.kind = 0) ∧ (last < 5 → x.ty = []) ∧ (last < 6 → x.key = 0) ∧ (last < 7 → x.oneof = 0) ∧ (last < 8 → x.packed = 0) ∧ (last < 9 → x.js = [])
theorem rdField_form (hb : Bytes bs) (h16 : bs.length ≤ 16777216) {a to : Nat} {y : FieldT} (h1 : a ≤ to) (h2 : to ≤ bs.length) (h : rdField bs a to = .ok y) : sg bs a to = fieldB y ∧ FieldC y := by
 have h0 : fieldP 0 field0 [] := ⟨rfl, ⟨txtC_nil, i32_0, u8_0, u8_0, txtC_nil, u8_0, i64_0, u8_0, txtC_nil⟩, fun _ => rfl, fun _ => rfl, fun _ => rfl, fun _ => rfl, fun _ => rfl, fun _ => rfl, fun _ => rfl, fun _ => rfl, fun _ => rfl⟩
 obtain ⟨l', hP⟩ := readR_inv (P := fieldP) hb h2 h1 h0 (by
  intro last x b at_ g y hP hg hf
  obtain ⟨rfl, ⟨c1, c2, c3, c4, c5, c6, c7, c8, c9⟩, d1, d2, d3, d4, d5, d6, d7, d8, d9⟩ := hP
  obtain ⟨g1, g2, g3, g4, g5, g6, g7, hv⟩ := gotL_sg hb h2 hg
  obtain ⟨num, v, fr, to'⟩ := g
  simp only at g1 g2 g3 g4 g5 g6 g7 hv
  rw [g7]
  have g5' : num ≤ 9 := g5
  clear g5 g7 hg
  have hnum : num = 1 ∨ num = 2 ∨ num = 3 ∨ num = 4 ∨ num = 5 ∨ num = 6 ∨ num = 7 ∨ num = 8 ∨ num = 9 := by omega
  rcases hnum with rfl | rfl | rfl | rfl | rfl | rfl | rfl | rfl | rfl
  ·have hv : Vld .t v (txtG bs ⟨1, v, fr, to'⟩) := hv
   have hl : last < 1 := g6.elim (fun q => q) (fun q => absurd q.2 (by decide))
   have e1 := d1 (by omega)
   have e2 := d2 (by omega)
   have e3 := d3 (by omega)
   have e4 := d4 (by omega)
   have e5 := d5 (by omega)
   have e6 := d6 (by omega)
   have e7 := d7 (by omega)
   have e8 := d8 (by omega)
   have e9 := d9 (by omega)
   cases hf
   refine ⟨?_, ⟨txtC_of hb h16 hv.2.2.2, c2, c3, c4, c5, c6, c7, c8, c9⟩, fun (h : 1 < 1) => absurd h (by omega), fun _ => e2, fun _ => e3, fun _ => e4, fun _ => e5, fun _ => e6, fun _ => e7, fun _ => e8, fun _ => e9⟩
   unfold fieldB
   simp only [pushR, e1, e2, e3, e4, e5, e6, e7, e8, e9]
   rw [fText_n hv]
   simp only [fSign_0, fSmall_0, fText_0, List.append_nil, List.nil_append, List.append_assoc]
   rfl
  ·have hv : Vld .z v (txtG bs ⟨2, v, fr, to'⟩) := hv
   have hl : last < 2 := g6.elim (fun q => q) (fun q => absurd q.2 (by decide))
   have e2 := d2 (by omega)
   have e3 := d3 (by omega)
   have e4 := d4 (by omega)
   have e5 := d5 (by omega)
   have e6 := d6 (by omega)
   have e7 := d7 (by omega)
   have e8 := d8 (by omega)
   have e9 := d9 (by omega)
   cases hf
   refine ⟨?_, ⟨c1, hv.2.2.2, c3, c4, c5, c6, c7, c8, c9⟩, fun (h : 2 < 1) => absurd h (by omega), fun (h : 2 < 2) => absurd h (by omega), fun _ => e3, fun _ => e4, fun _ => e5, fun _ => e6, fun _ => e7, fun _ => e8, fun _ => e9⟩
   unfold fieldB
   simp only [pushR, e2, e3, e4, e5, e6, e7, e8, e9]
   rw [fSign_n hv]
   simp only [fSign_0, fSmall_0, fText_0, List.append_nil, List.nil_append, List.append_assoc]
   rfl
  ·have hv : Vld .n v (txtG bs ⟨3, v, fr, to'⟩) := hv
   have hl : last < 3 := g6.elim (fun q => q) (fun q => absurd q.2 (by decide))
   have e3 := d3 (by omega)
   have e4 := d4 (by omega)
   have e5 := d5 (by omega)
   have e6 := d6 (by omega)
   have e7 := d7 (by omega)
   have e8 := d8 (by omega)
   have e9 := d9 (by omega)
   cases hf
   refine ⟨?_, ⟨c1, c2, u8_of hv, c4, c5, c6, c7, c8, c9⟩, fun (h : 3 < 1) => absurd h (by omega), fun (h : 3 < 2) => absurd h (by omega), fun (h : 3 < 3) => absurd h (by omega), fun _ => e4, fun _ => e5, fun _ => e6, fun _ => e7, fun _ => e8, fun _ => e9⟩
   unfold fieldB
   simp only [pushR, e3, e4, e5, e6, e7, e8, e9]
   rw [fSmall_n hv]
   simp only [fSign_0, fSmall_0, fText_0, List.append_nil, List.nil_append, List.append_assoc]
   rfl
  ·have hv : Vld .n v (txtG bs ⟨4, v, fr, to'⟩) := hv
   have hl : last < 4 := g6.elim (fun q => q) (fun q => absurd q.2 (by decide))
   have e4 := d4 (by omega)
   have e5 := d5 (by omega)
   have e6 := d6 (by omega)
   have e7 := d7 (by omega)
   have e8 := d8 (by omega)
   have e9 := d9 (by omega)
   cases hf
   refine ⟨?_, ⟨c1, c2, c3, u8_of hv, c5, c6, c7, c8, c9⟩, fun (h : 4 < 1) => absurd h (by omega), fun (h : 4 < 2) => absurd h (by omega), fun (h : 4 < 3) => absurd h (by omega), fun (h : 4 < 4) => absurd h (by omega), fun _ => e5, fun _ => e6, fun _ => e7, fun _ => e8, fun _ => e9⟩
   unfold fieldB
   simp only [pushR, e4, e5, e6, e7, e8, e9]
   rw [fSmall_n hv]
   simp only [fSign_0, fSmall_0, fText_0, List.append_nil, List.nil_append, List.append_assoc]
   rfl
  ·have hv : Vld .t v (txtG bs ⟨5, v, fr, to'⟩) := hv
   have hl : last < 5 := g6.elim (fun q => q) (fun q => absurd q.2 (by decide))
   have e5 := d5 (by omega)
   have e6 := d6 (by omega)
   have e7 := d7 (by omega)
   have e8 := d8 (by omega)
   have e9 := d9 (by omega)
   cases hf
   refine ⟨?_, ⟨c1, c2, c3, c4, txtC_of hb h16 hv.2.2.2, c6, c7, c8, c9⟩, fun (h : 5 < 1) => absurd h (by omega), fun (h : 5 < 2) => absurd h (by omega), fun (h : 5 < 3) => absurd h (by omega), fun (h : 5 < 4) => absurd h (by omega), fun (h : 5 < 5) => absurd h (by omega), fun _ => e6, fun _ => e7, fun _ => e8, fun _ => e9⟩
   unfold fieldB
   simp only [pushR, e5, e6, e7, e8, e9]
   rw [fText_n hv]
   simp only [fSign_0, fSmall_0, fText_0, List.append_nil, List.nil_append, List.append_assoc]
   rfl
  ·have hv : Vld .n v (txtG bs ⟨6, v, fr, to'⟩) := hv
   have hl : last < 6 := g6.elim (fun q => q) (fun q => absurd q.2 (by decide))
   have e6 := d6 (by omega)
   have e7 := d7 (by omega)
   have e8 := d8 (by omega)
   have e9 := d9 (by omega)
   cases hf
   refine ⟨?_, ⟨c1, c2, c3, c4, c5, u8_of hv, c7, c8, c9⟩, fun (h : 6 < 1) => absurd h (by omega), fun (h : 6 < 2) => absurd h (by omega), fun (h : 6 < 3) => absurd h (by omega), fun (h : 6 < 4) => absurd h (by omega), fun (h : 6 < 5) => absurd h (by omega), fun (h : 6 < 6) => absurd h (by omega), fun _ => e7, fun _ => e8, fun _ => e9⟩
   unfold fieldB
   simp only [pushR, e6, e7, e8, e9]
   rw [fSmall_n hv]
   simp only [fSign_0, fSmall_0, fText_0, List.append_nil, List.nil_append, List.append_assoc]
   rfl
  ·have hv : Vld .zl v (txtG bs ⟨7, v, fr, to'⟩) := hv
   have hl : last < 7 := g6.elim (fun q => q) (fun q => absurd q.2 (by decide))
   have e7 := d7 (by omega)
   have e8 := d8 (by omega)
   have e9 := d9 (by omega)
   cases hf
   refine ⟨?_, ⟨c1, c2, c3, c4, c5, c6, unzig_ok hv.1, c8, c9⟩, fun (h : 7 < 1) => absurd h (by omega), fun (h : 7 < 2) => absurd h (by omega), fun (h : 7 < 3) => absurd h (by omega), fun (h : 7 < 4) => absurd h (by omega), fun (h : 7 < 5) => absurd h (by omega), fun (h : 7 < 6) => absurd h (by omega), fun (h : 7 < 7) => absurd h (by omega), fun _ => e8, fun _ => e9⟩
   unfold fieldB
   simp only [pushR, e7, e8, e9]
   rw [fSignl_n hv]
   simp only [fSign_0, fSmall_0, fText_0, List.append_nil, List.nil_append, List.append_assoc]
   rfl
  ·have hv : Vld .n v (txtG bs ⟨8, v, fr, to'⟩) := hv
   have hl : last < 8 := g6.elim (fun q => q) (fun q => absurd q.2 (by decide))
   have e8 := d8 (by omega)
   have e9 := d9 (by omega)
   cases hf
   refine ⟨?_, ⟨c1, c2, c3, c4, c5, c6, c7, u8_of hv, c9⟩, fun (h : 8 < 1) => absurd h (by omega), fun (h : 8 < 2) => absurd h (by omega), fun (h : 8 < 3) => absurd h (by omega), fun (h : 8 < 4) => absurd h (by omega), fun (h : 8 < 5) => absurd h (by omega), fun (h : 8 < 6) => absurd h (by omega), fun (h : 8 < 7) => absurd h (by omega), fun (h : 8 < 8) => absurd h (by omega), fun _ => e9⟩
   unfold fieldB
   simp only [pushR, e8, e9]
   rw [fSmall_n hv]
   simp only [fSmall_0, fText_0, List.append_nil, List.nil_append, List.append_assoc]
   rfl
  ·have hv : Vld .t v (txtG bs ⟨9, v, fr, to'⟩) := hv
   have hl : last < 9 := g6.elim (fun q => q) (fun q => absurd q.2 (by decide))
   have e9 := d9 (by omega)
   cases hf
   refine ⟨?_, ⟨c1, c2, c3, c4, c5, c6, c7, c8, txtC_of hb h16 hv.2.2.2⟩, fun (h : 9 < 1) => absurd h (by omega), fun (h : 9 < 2) => absurd h (by omega), fun (h : 9 < 3) => absurd h (by omega), fun (h : 9 < 4) => absurd h (by omega), fun (h : 9 < 5) => absurd h (by omega), fun (h : 9 < 6) => absurd h (by omega), fun (h : 9 < 7) => absurd h (by omega), fun (h : 9 < 8) => absurd h (by omega), fun (h : 9 < 9) => absurd h (by omega)⟩
   unfold fieldB
   simp only [pushR, e9]
   rw [fText_n hv]
   simp only [fText_0, List.append_nil, List.nil_append, List.append_assoc]
   rfl) h
 exact ⟨hP.1, hP.2.1⟩
def enumP (last : Nat) (x : EnumT) (b : Txt) : Prop := b = enumB x ∧ EnumC x ∧ (last < 1 → x.nm = []) ∧ (last < 2 → x.vals.l = []) ∧ (last < 3 → x.ali = false) ∧ (last < 4 → x.res.l = []) ∧ (last < 5 → x.names.l = [])
theorem rdEnum_form (hb : Bytes bs) (h16 : bs.length ≤ 16777216) {a to : Nat} {y : EnumT} (h1 : a ≤ to) (h2 : to ≤ bs.length) (h : rdEnum bs a to = .ok y) : sg bs a to = enumB y ∧ EnumC y := by
 have h0 : enumP 0 enum0 [] := ⟨rfl, ⟨txtC_nil, mem_nil, trivial, mem_nil, mem_nil⟩, fun _ => rfl, fun _ => rfl, fun _ => rfl, fun _ => rfl, fun _ => rfl⟩
 obtain ⟨l', hP⟩ := readR_inv (P := enumP) hb h2 h1 h0 (by
  intro last x b at_ g y hP hg hf
  obtain ⟨rfl, ⟨c1, c2, c3, c4, c5⟩, d1, d2, d3, d4, d5⟩ := hP
  obtain ⟨g1, g2, g3, g4, g5, g6, g7, hv⟩ := gotL_sg hb h2 hg
  obtain ⟨num, v, fr, to'⟩ := g
  simp only at g1 g2 g3 g4 g5 g6 g7 hv
  rw [g7]
  have g5' : num ≤ 5 := g5
  clear g5 g7 hg
  have hnum : num = 1 ∨ num = 2 ∨ num = 3 ∨ num = 4 ∨ num = 5 := by omega
  rcases hnum with rfl | rfl | rfl | rfl | rfl
  ·have hv : Vld .t v (txtG bs ⟨1, v, fr, to'⟩) := hv
   have hl : last < 1 := g6.elim (fun q => q) (fun q => absurd q.2 (by decide))
   have e1 := d1 (by omega)
   have e2 := d2 (by omega)
   have e3 := d3 (by omega)
   have e4 := d4 (by omega)
   have e5 := d5 (by omega)
   cases hf
   refine ⟨?_, ⟨txtC_of hb h16 hv.2.2.2, c2, c3, c4, c5⟩, fun (h : 1 < 1) => absurd h (by omega), fun _ => e2, fun _ => e3, fun _ => e4, fun _ => e5⟩
   unfold enumB
   simp only [pushR, e1, e2, e3, e4, e5]
   rw [fText_n hv]
   simp only [fRecs_0, fText_0, fTexts_0, fTruth_0, List.append_nil, List.nil_append, List.append_assoc]
   rfl
  ·have hv : Vld .rs v (txtG bs ⟨2, v, fr, to'⟩) := hv
   have hl : last ≤ 2 := g6.elim (fun q => by omega) (fun q => by omega)
   have e3 := d3 (by omega)
   have e4 := d4 (by omega)
   have e5 := d5 (by omega)
   obtain ⟨w, hw, rfl⟩ := map_ok (e := rdVal bs fr to') hf
   obtain ⟨q1, q2⟩ := rdVal_form hb h16 g3 (Nat.le_trans g2 h2) hw
   refine ⟨?_, ⟨c1, all_snoc c2 q2, c3, c4, c5⟩, fun (h : 2 < 1) => absurd h (by omega), fun (h : 2 < 2) => absurd h (by omega), fun _ => e3, fun _ => e4, fun _ => e5⟩
   unfold enumB
   simp only [pushR, e3, e4, e5]
   rw [fRecs_n hv q1]
   simp only [fRecs_0, fTexts_0, fTruth_0, List.append_nil, List.nil_append, List.append_assoc]
   rfl
  ·have hv : Vld .b v (txtG bs ⟨3, v, fr, to'⟩) := hv
   have hl : last < 3 := g6.elim (fun q => q) (fun q => absurd q.2 (by decide))
   have e3 := d3 (by omega)
   have e4 := d4 (by omega)
   have e5 := d5 (by omega)
   cases hf
   refine ⟨?_, ⟨c1, c2, trivial, c4, c5⟩, fun (h : 3 < 1) => absurd h (by omega), fun (h : 3 < 2) => absurd h (by omega), fun (h : 3 < 3) => absurd h (by omega), fun _ => e4, fun _ => e5⟩
   unfold enumB
   simp only [pushR, e3, e4, e5]
   rw [fTruth_n hv]
   simp only [fRecs_0, fTexts_0, fTruth_0, List.append_nil, List.nil_append, List.append_assoc]
   rfl
  ·have hv : Vld .rs v (txtG bs ⟨4, v, fr, to'⟩) := hv
   have hl : last ≤ 4 := g6.elim (fun q => by omega) (fun q => by omega)
   have e5 := d5 (by omega)
   obtain ⟨w, hw, rfl⟩ := map_ok (e := rdSpan bs fr to') hf
   obtain ⟨q1, q2⟩ := rdSpan_form hb h16 g3 (Nat.le_trans g2 h2) hw
   refine ⟨?_, ⟨c1, c2, c3, all_snoc c4 q2, c5⟩, fun (h : 4 < 1) => absurd h (by omega), fun (h : 4 < 2) => absurd h (by omega), fun (h : 4 < 3) => absurd h (by omega), fun (h : 4 < 4) => absurd h (by omega), fun _ => e5⟩
   unfold enumB
   simp only [pushR, e5]
   rw [fRecs_n hv q1]
   simp only [fTexts_0, List.append_nil, List.nil_append, List.append_assoc]
   rfl
  ·have hv : Vld .ts v (txtG bs ⟨5, v, fr, to'⟩) := hv
   have hl : last ≤ 5 := g6.elim (fun q => by omega) (fun q => by omega)
   cases hf
   refine ⟨?_, ⟨c1, c2, c3, c4, all_snoc c5 (txtC_of hb h16 hv.2.2)⟩, fun (h : 5 < 1) => absurd h (by omega), fun (h : 5 < 2) => absurd h (by omega), fun (h : 5 < 3) => absurd h (by omega), fun (h : 5 < 4) => absurd h (by omega), fun (h : 5 < 5) => absurd h (by omega)⟩
   unfold enumB
   simp only [pushR]
   rw [fTexts_n hv]
   simp only [List.append_nil, List.nil_append, List.append_assoc]
   rfl) h
 exact ⟨hP.1, hP.2.1⟩
def msgP (d : Nat) (last : Nat) (x : MsgT) (b : Txt) : Prop := b = msgB x d ∧ MsgC x d ∧ (last < 1 → x.nm = []) ∧ (last < 2 → x.fields.l = []) ∧ (last < 3 → x.oneofs.l = []) ∧ (last < 4 → x.msgs = []) ∧ (last < 5 → x.enums.l = []) ∧ (last < 6 → x.res.l = []) ∧ (last < 7 → x.names.l = [])
theorem rdMsg_step {d : Nat} {sub : Option (Nat → Nat → Except Nat MsgT)} (hb : Bytes bs) (h16 : bs.length ≤ 16777216) (hd : d ≤ 99) (hsub : ∀ rd, sub = some rd → ∀ a b y, a ≤ b → b ≤ bs.length → rd a b = .ok y → sg bs a b = msgB y (d + 1) ∧ MsgC y (d + 1)) {a to : Nat} {y : MsgT} (h1 : a ≤ to) (h2 : to ≤ bs.length) (h : readR formMessage bs (fMsg bs sub) a to msg0 = .ok y) : sg bs a to = msgB y d ∧ MsgC y d := by
 have h0 : msgP d 0 msg0 [] := ⟨by rw [msgB_pr hd]; rfl, ⟨hd, txtC_nil, mem_nil, mem_nil, by unfold MsgCL; trivial, mem_nil, mem_nil, mem_nil⟩, fun _ => rfl, fun _ => rfl, fun _ => rfl, fun _ => rfl, fun _ => rfl, fun _ => rfl, fun _ => rfl⟩
 obtain ⟨l', hP⟩ := readR_inv (P := msgP d) hb h2 h1 h0 (by
  intro last x b at_ g y hP hg hf
  obtain ⟨rfl, hC, d1, d2, d3, d4, d5, d6, d7⟩ := hP
  obtain ⟨g1, g2, g3, g4, g5, g6, g7, hv⟩ := gotL_sg hb h2 hg
  obtain ⟨num, v, fr, to'⟩ := g
  simp only at g1 g2 g3 g4 g5 g6 g7 hv
  rw [g7]
  have g5' : num ≤ 7 := g5
  clear g5 g7 hg
  have hnum : num = 1 ∨ num = 2 ∨ num = 3 ∨ num = 4 ∨ num = 5 ∨ num = 6 ∨ num = 7 := by omega
  obtain ⟨nm, fields, oneofs, ma, mc, msgs, enums, res, names⟩ := x
  unfold MsgC at hC
  obtain ⟨c0, c1, c2, c3, c4, c5, c6, c7⟩ := hC
  simp only [MsgT.nm, MsgT.fields, MsgT.oneofs, MsgT.msgs, MsgT.enums, MsgT.res, MsgT.names] at d1 d2 d3 d4 d5 d6 d7
  rcases hnum with rfl | rfl | rfl | rfl | rfl | rfl | rfl
  ·have hv : Vld .t v (txtG bs ⟨1, v, fr, to'⟩) := hv
   have hl : last < 1 := g6.elim (fun q => q) (fun q => absurd q.2 (by decide))
   have e1 := d1 (by omega)
   have e2 := d2 (by omega)
   have e3 := d3 (by omega)
   have e4 := d4 (by omega)
   have e5 := d5 (by omega)
   have e6 := d6 (by omega)
   have e7 := d7 (by omega)
   cases hf
   refine ⟨?_, (by unfold MsgC; exact ⟨c0, txtC_of hb h16 hv.2.2.2, c2, c3, c4, c5, c6, c7⟩), fun (h : 1 < 1) => absurd h (by omega), fun _ => e2, fun _ => e3, fun _ => e4, fun _ => e5, fun _ => e6, fun _ => e7⟩
   rw [msgB_pr hd, msgB_pr hd]
   simp only [MsgT.nm, MsgT.fields, MsgT.oneofs, MsgT.msgs, MsgT.enums, MsgT.res, MsgT.names, pushR, e1, e2, e3, e4, e5, e6, e7]
   rw [fText_n hv]
   simp only [fRecs_0, fText_0, fTexts_0, List.append_nil, List.nil_append, List.append_assoc]
   rfl
  ·have hv : Vld .rs v (txtG bs ⟨2, v, fr, to'⟩) := hv
   have hl : last ≤ 2 := g6.elim (fun q => by omega) (fun q => by omega)
   have e3 := d3 (by omega)
   have e4 := d4 (by omega)
   have e5 := d5 (by omega)
   have e6 := d6 (by omega)
   have e7 := d7 (by omega)
   obtain ⟨w, hw, rfl⟩ := map_ok (e := rdField bs fr to') hf
   obtain ⟨q1, q2⟩ := rdField_form hb h16 g3 (Nat.le_trans g2 h2) hw
   refine ⟨?_, (by unfold MsgC; exact ⟨c0, c1, all_snoc c2 q2, c3, c4, c5, c6, c7⟩), fun (h : 2 < 1) => absurd h (by omega), fun (h : 2 < 2) => absurd h (by omega), fun _ => e3, fun _ => e4, fun _ => e5, fun _ => e6, fun _ => e7⟩
   rw [msgB_pr hd, msgB_pr hd]
   simp only [MsgT.nm, MsgT.fields, MsgT.oneofs, MsgT.msgs, MsgT.enums, MsgT.res, MsgT.names, pushR, e3, e4, e5, e6, e7]
   rw [fRecs_n hv q1]
   simp only [fRecs_0, fTexts_0, List.append_nil, List.nil_append, List.append_assoc]
   rfl
  ·have hv : Vld .ts v (txtG bs ⟨3, v, fr, to'⟩) := hv
   have hl : last ≤ 3 := g6.elim (fun q => by omega) (fun q => by omega)
   have e4 := d4 (by omega)
   have e5 := d5 (by omega)
   have e6 := d6 (by omega)
   have e7 := d7 (by omega)
   cases hf
   refine ⟨?_, (by unfold MsgC; exact ⟨c0, c1, c2, all_snoc c3 (txtC_of hb h16 hv.2.2), c4, c5, c6, c7⟩), fun (h : 3 < 1) => absurd h (by omega), fun (h : 3 < 2) => absurd h (by omega), fun (h : 3 < 3) => absurd h (by omega), fun _ => e4, fun _ => e5, fun _ => e6, fun _ => e7⟩
   rw [msgB_pr hd, msgB_pr hd]
   simp only [MsgT.nm, MsgT.fields, MsgT.oneofs, MsgT.msgs, MsgT.enums, MsgT.res, MsgT.names, pushR, e4, e5, e6, e7]
   rw [fTexts_n hv]
   simp only [fRecs_0, fTexts_0, List.append_nil, List.nil_append, List.append_assoc]
   rfl
  ·have hv : Vld .rs v (txtG bs ⟨4, v, fr, to'⟩) := hv
   have hl : last ≤ 4 := g6.elim (fun q => by omega) (fun q => by omega)
   have e5 := d5 (by omega)
   have e6 := d6 (by omega)
   have e7 := d7 (by omega)
   cases sub with
   | none => cases hf
   | some rd =>
   obtain ⟨w, hw, rfl⟩ := map_ok (e := rd fr to') hf
   obtain ⟨q1, q2⟩ := hsub rd rfl _ _ _ g3 (Nat.le_trans g2 h2) hw
   refine ⟨?_, (by unfold MsgC; exact ⟨c0, c1, c2, c3, MsgCL_iff.2 (all_snoc (MsgCL_iff.1 c4) q2), c5, c6, c7⟩), fun (h : 4 < 1) => absurd h (by omega), fun (h : 4 < 2) => absurd h (by omega), fun (h : 4 < 3) => absurd h (by omega), fun (h : 4 < 4) => absurd h (by omega), fun _ => e5, fun _ => e6, fun _ => e7⟩
   rw [msgB_pr hd, msgB_pr hd]
   simp only [MsgT.nm, MsgT.fields, MsgT.oneofs, MsgT.msgs, MsgT.enums, MsgT.res, MsgT.names, pushR, e5, e6, e7]
   rw [fRecs_n (f := fun y => msgB y (d + 1)) hv q1]
   simp only [fRecs_0, fTexts_0, List.append_nil, List.nil_append, List.append_assoc]
   rfl
  ·have hv : Vld .rs v (txtG bs ⟨5, v, fr, to'⟩) := hv
   have hl : last ≤ 5 := g6.elim (fun q => by omega) (fun q => by omega)
   have e6 := d6 (by omega)
   have e7 := d7 (by omega)
   obtain ⟨w, hw, rfl⟩ := map_ok (e := rdEnum bs fr to') hf
   obtain ⟨q1, q2⟩ := rdEnum_form hb h16 g3 (Nat.le_trans g2 h2) hw
   refine ⟨?_, (by unfold MsgC; exact ⟨c0, c1, c2, c3, c4, all_snoc c5 q2, c6, c7⟩), fun (h : 5 < 1) => absurd h (by omega), fun (h : 5 < 2) => absurd h (by omega), fun (h : 5 < 3) => absurd h (by omega), fun (h : 5 < 4) => absurd h (by omega), fun (h : 5 < 5) => absurd h (by omega), fun _ => e6, fun _ => e7⟩
   rw [msgB_pr hd, msgB_pr hd]
   simp only [MsgT.nm, MsgT.fields, MsgT.oneofs, MsgT.msgs, MsgT.enums, MsgT.res, MsgT.names, pushR, e6, e7]
   rw [fRecs_n hv q1]
   simp only [fRecs_0, fTexts_0, List.append_nil, List.nil_append, List.append_assoc]
   rfl
  ·have hv : Vld .rs v (txtG bs ⟨6, v, fr, to'⟩) := hv
   have hl : last ≤ 6 := g6.elim (fun q => by omega) (fun q => by omega)
   have e7 := d7 (by omega)
   obtain ⟨w, hw, rfl⟩ := map_ok (e := rdSpan bs fr to') hf
   obtain ⟨q1, q2⟩ := rdSpan_form hb h16 g3 (Nat.le_trans g2 h2) hw
   refine ⟨?_, (by unfold MsgC; exact ⟨c0, c1, c2, c3, c4, c5, all_snoc c6 q2, c7⟩), fun (h : 6 < 1) => absurd h (by omega), fun (h : 6 < 2) => absurd h (by omega), fun (h : 6 < 3) => absurd h (by omega), fun (h : 6 < 4) => absurd h (by omega), fun (h : 6 < 5) => absurd h (by omega), fun (h : 6 < 6) => absurd h (by omega), fun _ => e7⟩
   rw [msgB_pr hd, msgB_pr hd]
   simp only [MsgT.nm, MsgT.fields, MsgT.oneofs, MsgT.msgs, MsgT.enums, MsgT.res, MsgT.names, pushR, e7]
   rw [fRecs_n hv q1]
   simp only [fTexts_0, List.append_nil, List.nil_append, List.append_assoc]
   rfl
  ·have hv : Vld .ts v (txtG bs ⟨7, v, fr, to'⟩) := hv
   have hl : last ≤ 7 := g6.elim (fun q => by omega) (fun q => by omega)
   cases hf
   refine ⟨?_, (by unfold MsgC; exact ⟨c0, c1, c2, c3, c4, c5, c6, all_snoc c7 (txtC_of hb h16 hv.2.2)⟩), fun (h : 7 < 1) => absurd h (by omega), fun (h : 7 < 2) => absurd h (by omega), fun (h : 7 < 3) => absurd h (by omega), fun (h : 7 < 4) => absurd h (by omega), fun (h : 7 < 5) => absurd h (by omega), fun (h : 7 < 6) => absurd h (by omega), fun (h : 7 < 7) => absurd h (by omega)⟩
   rw [msgB_pr hd, msgB_pr hd]
   simp only [MsgT.nm, MsgT.fields, MsgT.oneofs, MsgT.msgs, MsgT.enums, MsgT.res, MsgT.names, pushR]
   rw [fTexts_n hv]
   simp only [List.append_nil, List.nil_append, List.append_assoc]
   rfl) h
 exact ⟨hP.1, hP.2.1⟩
theorem rdMsg_form (hb : Bytes bs) (h16 : bs.length ≤ 16777216) : ∀ (k d : Nat), k + d = 99 → ∀ {a to : Nat} {y : MsgT}, a ≤ to → to ≤ bs.length → rdMsg bs k a to = .ok y → sg bs a to = msgB y d ∧ MsgC y d
 | 0, d, hk, _, _, _, h1, h2, h => rdMsg_step (sub := none) hb h16 (by omega) (fun rd e => by cases e) h1 h2 h
 | k + 1, d, hk, _, _, _, h1, h2, h => rdMsg_step (sub := some (rdMsg bs k)) hb h16 (by omega) (fun rd e a b y g1 g2 g3 => by cases e; exact rdMsg_form hb h16 k (d + 1) (by omega) g1 g2 g3) h1 h2 h
def fileP (last : Nat) (x : FileT) (b : Txt) : Prop := b = fileB x ∧ FileC x ∧ (last < 1 → x.path = []) ∧ (last < 2 → x.pack = []) ∧ (last < 3 → x.imps.l = []) ∧ (last < 4 → x.msgs = []) ∧ (last < 5 → x.enums.l = [])
theorem rdFile_form (hb : Bytes bs) (h16 : bs.length ≤ 16777216) {a to : Nat} {y : FileT} (h1 : a ≤ to) (h2 : to ≤ bs.length) (h : rdFile bs a to = .ok y) : sg bs a to = fileB y ∧ FileC y := by
 have h0 : fileP 0 file0 [] := ⟨rfl, ⟨txtC_nil, txtC_nil, mem_nil, mem_nil, mem_nil⟩, fun _ => rfl, fun _ => rfl, fun _ => rfl, fun _ => rfl, fun _ => rfl⟩
 obtain ⟨l', hP⟩ := readR_inv (P := fileP) hb h2 h1 h0 (by
  intro last x b at_ g y hP hg hf
  obtain ⟨rfl, ⟨c1, c2, c3, c4, c5⟩, d1, d2, d3, d4, d5⟩ := hP
  obtain ⟨g1, g2, g3, g4, g5, g6, g7, hv⟩ := gotL_sg hb h2 hg
  obtain ⟨num, v, fr, to'⟩ := g
  simp only at g1 g2 g3 g4 g5 g6 g7 hv
  rw [g7]
  have g5' : num ≤ 5 := g5
  clear g5 g7 hg
  have hnum : num = 1 ∨ num = 2 ∨ num = 3 ∨ num = 4 ∨ num = 5 := by omega
  rcases hnum with rfl | rfl | rfl | rfl | rfl
  ·have hv : Vld .t v (txtG bs ⟨1, v, fr, to'⟩) := hv
   have hl : last < 1 := g6.elim (fun q => q) (fun q => absurd q.2 (by decide))
   have e1 := d1 (by omega)
   have e2 := d2 (by omega)
   have e3 := d3 (by omega)
   have e4 := d4 (by omega)
   have e5 := d5 (by omega)
   cases hf
   refine ⟨?_, ⟨txtC_of hb h16 hv.2.2.2, c2, c3, c4, c5⟩, fun (h : 1 < 1) => absurd h (by omega), fun _ => e2, fun _ => e3, fun _ => e4, fun _ => e5⟩
   unfold fileB
   simp only [pushR, msgsB_eq, e1, e2, e3, e4, e5]
   rw [fText_n hv]
   simp only [fRecs_0, fText_0, List.append_nil, List.nil_append, List.append_assoc]
   rfl
  ·have hv : Vld .t v (txtG bs ⟨2, v, fr, to'⟩) := hv
   have hl : last < 2 := g6.elim (fun q => q) (fun q => absurd q.2 (by decide))
   have e2 := d2 (by omega)
   have e3 := d3 (by omega)
   have e4 := d4 (by omega)
   have e5 := d5 (by omega)
   cases hf
   refine ⟨?_, ⟨c1, txtC_of hb h16 hv.2.2.2, c3, c4, c5⟩, fun (h : 2 < 1) => absurd h (by omega), fun (h : 2 < 2) => absurd h (by omega), fun _ => e3, fun _ => e4, fun _ => e5⟩
   unfold fileB
   simp only [pushR, msgsB_eq, e2, e3, e4, e5]
   rw [fText_n hv]
   simp only [fRecs_0, fText_0, List.append_nil, List.nil_append, List.append_assoc]
   rfl
  ·have hv : Vld .rs v (txtG bs ⟨3, v, fr, to'⟩) := hv
   have hl : last ≤ 3 := g6.elim (fun q => by omega) (fun q => by omega)
   have e4 := d4 (by omega)
   have e5 := d5 (by omega)
   obtain ⟨w, hw, rfl⟩ := map_ok (e := rdImp bs fr to') hf
   obtain ⟨q1, q2⟩ := rdImp_form hb h16 g3 (Nat.le_trans g2 h2) hw
   refine ⟨?_, ⟨c1, c2, all_snoc c3 q2, c4, c5⟩, fun (h : 3 < 1) => absurd h (by omega), fun (h : 3 < 2) => absurd h (by omega), fun (h : 3 < 3) => absurd h (by omega), fun _ => e4, fun _ => e5⟩
   unfold fileB
   simp only [pushR, msgsB_eq, e4, e5]
   rw [fRecs_n hv q1]
   simp only [fRecs_0, List.append_nil, List.nil_append, List.append_assoc]
   rfl
  ·have hv : Vld .rs v (txtG bs ⟨4, v, fr, to'⟩) := hv
   have hl : last ≤ 4 := g6.elim (fun q => by omega) (fun q => by omega)
   have e5 := d5 (by omega)
   obtain ⟨w, hw, rfl⟩ := map_ok (e := rdMsg bs 99 fr to') hf
   obtain ⟨q1, q2⟩ := rdMsg_form hb h16 99 0 rfl g3 (Nat.le_trans g2 h2) hw
   refine ⟨?_, ⟨c1, c2, c3, all_snoc c4 q2, c5⟩, fun (h : 4 < 1) => absurd h (by omega), fun (h : 4 < 2) => absurd h (by omega), fun (h : 4 < 3) => absurd h (by omega), fun (h : 4 < 4) => absurd h (by omega), fun _ => e5⟩
   unfold fileB
   simp only [pushR, msgsB_eq, e5]
   rw [fRecs_n (f := fun y => msgB y 0) hv q1]
   simp only [fRecs_0, List.append_nil, List.nil_append, List.append_assoc]
   rfl
  ·have hv : Vld .rs v (txtG bs ⟨5, v, fr, to'⟩) := hv
   have hl : last ≤ 5 := g6.elim (fun q => by omega) (fun q => by omega)
   obtain ⟨w, hw, rfl⟩ := map_ok (e := rdEnum bs fr to') hf
   obtain ⟨q1, q2⟩ := rdEnum_form hb h16 g3 (Nat.le_trans g2 h2) hw
   refine ⟨?_, ⟨c1, c2, c3, c4, all_snoc c5 q2⟩, fun (h : 5 < 1) => absurd h (by omega), fun (h : 5 < 2) => absurd h (by omega), fun (h : 5 < 3) => absurd h (by omega), fun (h : 5 < 4) => absurd h (by omega), fun (h : 5 < 5) => absurd h (by omega)⟩
   unfold fileB
   simp only [pushR, msgsB_eq]
   rw [fRecs_n hv q1]
   simp only [List.append_nil, List.nil_append, List.append_assoc]
   rfl) h
 exact ⟨hP.1, hP.2.1⟩
theorem rdSet_form (hb : Bytes bs) (h16 : bs.length ≤ 16777216) {y : Rw FileT} (h : rdSet bs 0 bs.length = .ok y) : setB y.l = bs ∧ ∀ f ∈ y.l, FileC f := by
 obtain ⟨l', hP⟩ := readR_inv (P := fun _ (x : Rw FileT) b => b = setB x.l ∧ ∀ f ∈ x.l, FileC f) hb (Nat.le_refl _) (Nat.zero_le _) ⟨rfl, mem_nil⟩ (by
  intro last x b at_ g y hP hg hf
  obtain ⟨rfl, hC⟩ := hP
  obtain ⟨g1, g2, g3, g4, g5, g6, g7, hv⟩ := gotL_sg hb (Nat.le_refl _) hg
  obtain ⟨num, v, fr, to'⟩ := g
  simp only at g1 g2 g3 g4 g5 g6 g7 hv
  rw [g7]
  obtain rfl : num = 1 := by have g5' : num ≤ 1 := g5; omega
  have hv : Vld .rs v (txtG bs ⟨1, v, fr, to'⟩) := hv
  obtain ⟨w, hw, rfl⟩ := map_ok (e := rdFile bs fr to') hf
  obtain ⟨q1, q2⟩ := rdFile_form hb h16 g3 g2 hw
  refine ⟨?_, all_snoc hC q2⟩
  unfold setB
  simp only [pushR]
  rw [fRecs_n hv q1]
  rfl) h
 rw [sg_all] at hP
 exact ⟨hP.1.symm, hP.2⟩
theorem EnumC_good {e : EnumT} (h : EnumC e) : goodEn e = true := by
 unfold goodEn
 simp only [Bool.and_eq_true, List.all_eq_true]
 exact ⟨⟨h.1.1, fun y hy => (h.2.2.2.2 y hy).1⟩, fun y hy => (h.2.1 y hy).1.1⟩
mutual
theorem MsgC_good : ∀ (m : MsgT) (d : Nat), MsgC m d → goodMs m d = true
 | .mk nm fields oneofs ma mc msgs enums res names, d, h => by
  unfold MsgC at h
  obtain ⟨c0, c1, c2, c3, c4, c5, c6, c7⟩ := h
  have ih : goodMsL msgs (d + 1) = true := MsgCL_good msgs (d + 1) c4
  unfold goodMs
  simp only [Bool.and_eq_true, decide_eq_true_eq, List.all_eq_true]
  exact ⟨⟨⟨⟨⟨⟨c0, c1.1⟩, fun y hy => (c3 y hy).1⟩, fun y hy => (c7 y hy).1⟩, fun y hy => by unfold goodFd; rw [(c2 y hy).1.1, (c2 y hy).2.2.2.2.1.1, (c2 y hy).2.2.2.2.2.2.2.2.1]; rfl⟩, ih⟩, fun y hy => EnumC_good (c5 y hy)⟩
theorem MsgCL_good : ∀ (l : List MsgT) (d : Nat), MsgCL l d → goodMsL l d = true
 | [], _, _ => by unfold goodMsL; rfl
 | m :: l, d, h => by
  unfold MsgCL at h
  unfold goodMsL
  rw [MsgC_good m d h.1, MsgCL_good l d h.2]
  rfl
end
theorem FileC_good {f : FileT} (h : FileC f) : goodFl f = true := by
 obtain ⟨h1, h2, h3, h4, h5⟩ := h
 have h6 : goodMsL f.msgs 0 = true := MsgCL_good _ _ (MsgCL_iff.2 h4)
 unfold goodFl
 simp only [Bool.and_eq_true, List.all_eq_true]
 exact ⟨⟨⟨⟨h1.1, h2.1⟩, fun y hy => (h3 y hy).1.1⟩, h6⟩, fun y hy => EnumC_good (h5 y hy)⟩
/-- ONE FORM. -/
theorem readL_form {bs : Txt} (hb : Bytes bs) {l : List FileT} {p : Nat} (h : readL bs = (l, 0, p)) : encodeL l = (some bs, 0) ∧ ∀ f ∈ l, FileC f := by
 unfold readL at h
 split at h
 ·cases h
 ·rename_i h16
  cases hs : rdSet bs 0 bs.length with
  | error q => rw [hs] at h; cases h
  | ok r =>
   rw [hs] at h
   cases h
   obtain ⟨h1, h2⟩ := rdSet_form hb (by omega) hs
   refine ⟨?_, h2⟩
   unfold encodeL
   rw [if_pos (List.all_eq_true.2 fun f hf => FileC_good (h2 f hf)), h1, if_pos (by omega)]
end Go.Proofs.YtclcnhfponjdaaaGreatDoor
end
section
namespace Go.Proofs.YtclcnhfponjdaaaGreatDoor
open Go.Sk
set_option maxRecDepth 100000
/-- A row with the room behind it. -/
def row5 {α : Type} (X : Option Addr → Nat → Nat → Nat → List Value → Prop) (z : Nat) (f : α → List Value) (x : α) (a : Option Addr) (c : Nat) (l : List α) : Prop := X a (l.length + 5) c z ((l ++ List.replicate 5 x).flatMap f)
def tx5 (X : Option Addr → Nat → Nat → Nat → List Value → Prop) (r : Rw Txt) : Prop := X r.a (r.l.length + 2) r.c 1 (tstr (r.l ++ [own2, own2]))
def e5 (X : Option Addr → Nat → Nat → Nat → List Value → Prop) (e : EnumT) : Prop := row5 X 2 EValT.cells lentEV e.vals.a e.vals.c e.vals.l ∧ row5 X 2 SpanT.cells lentSp e.res.a e.res.c e.res.l ∧ tx5 X e.names
mutual
def m5 (X : Option Addr → Nat → Nat → Nat → List Value → Prop) : MsgT → Prop
 | .mk _ fields oneofs ma mc msgs enums res names => row5 X 9 FieldT.cells lentF fields.a fields.c fields.l ∧ row5 X 2 SpanT.cells lentSp res.a res.c res.l ∧ tx5 X oneofs ∧ tx5 X names ∧
  row5 X 7 MsgT.cells lentM ma mc msgs ∧ m5L X msgs ∧ row5 X 5 EnumT.cells lentE enums.a enums.c enums.l ∧ ∀ e ∈ enums.l, e5 X e
def m5L (X : Option Addr → Nat → Nat → Nat → List Value → Prop) : List MsgT → Prop
 | [] => True
 | m :: l => m5 X m ∧ m5L X l
end
structure f5 (X : Option Addr → Nat → Nat → Nat → List Value → Prop) (f : FileT) : Prop where
 imps : row5 X 2 ImpT.cells lentIm f.imps.a f.imps.c f.imps.l
 msgs : row5 X 7 MsgT.cells lentM f.ma f.mc f.msgs
 sub : m5L X f.msgs
 enums : row5 X 5 EnumT.cells lentE f.enums.a f.enums.c f.enums.l
 esub : ∀ e ∈ f.enums.l, e5 X e
section
variable {B : World} {H : List HP} {w : World}
/-- A piece lies somewhere in H. -/
def Has (B : World) (H : List HP) (p : HP) : Prop := ∀ w, Sat B H w → ∃ R, Sat B (p :: R) w
theorem Has.sel {p : HP} {R : List HP} (s : Sel H p R) : Has B H p := fun w h => ⟨R, h.sel s⟩
theorem Has.bag {p : HP} {ps : List HP} (h : Has B H (Bag ps)) (hp : p ∈ ps) : Has B H p := fun w hS => by
 obtain ⟨R, h1⟩ := h w hS
 obtain ⟨i, hi⟩ := List.getElem?_of_mem hp
 exact ⟨_, Bag.at_ hi h1⟩
theorem Has.rd {a : Option Addr} {c : Nat} {e : TypeId} {sz k : Nat} {xs : List Value} (h : Has B H (Own a c e sz k xs)) (hS : Sat B H w) : Rd B H a k c sz xs := by
 obtain ⟨R, h1⟩ := h w hS
 obtain ⟨f1, f2, _⟩ := Own.facts h1 .h
 exact ⟨f1, f2, fun w' hS' => by
  obtain ⟨R', h2⟩ := h w' hS'
  exact (Own.rd (H := _ :: R') .h f1 f2).2.2 w' h2⟩
theorem e5_of (hS : Sat B H w) {e : EnumT} (h : ∀ p ∈ eRows e, Has B H p) : e5 (Rd B H) e := by
 unfold eRows at h
 simp only [List.forall_mem_cons] at h
 obtain ⟨h1, h2, h3, _⟩ := h
 exact ⟨Has.rd h1 hS, Has.rd h2 hS, Has.rd h3 hS⟩
theorem e5L_of (hS : Sat B H w) {l : List EnumT} (h : Has B H (Bag (l.flatMap eRows))) : ∀ e ∈ l, e5 (Rd B H) e := fun e he => e5_of hS fun p hp => h.bag (List.mem_flatMap.2 ⟨e, he, hp⟩)
mutual
theorem m5_of (hS : Sat B H w) : ∀ {m : MsgT}, (∀ p ∈ mRows m, Has B H p) → m5 (Rd B H) m
 | .mk nm fields oneofs ma mc msgs enums res names, h => by
  unfold mRows at h
  unfold m5
  simp only [List.forall_mem_cons] at h
  obtain ⟨h1, h2, h3, h4, h5, h6, h7, h8, _⟩ := h
  exact ⟨Has.rd h1 hS, Has.rd h2 hS, Has.rd h3 hS, Has.rd h4 hS, Has.rd h5 hS, m5L_of hS h6, Has.rd h7 hS, e5L_of hS h8⟩
theorem m5L_of (hS : Sat B H w) : ∀ {l : List MsgT}, Has B H (Bag (mRowsL l)) → m5L (Rd B H) l
 | [], _ => by unfold m5L; trivial
 | m :: l, h => by
  unfold m5L
  unfold mRowsL at h
  exact ⟨m5_of hS fun p hp => h.bag (List.mem_append_left _ hp), m5L_of hS fun w' hS' => by
   obtain ⟨R, h1⟩ := h w' hS'
   have h2 : Sat B (mRows m ++ (mRowsL l ++ R)) w' := by
    have := Bag.open_ h1
    rwa [List.append_assoc] at this
   exact ⟨mRows m ++ R, Bag.close (h2.mono fun hh hs => by
    have h3 : star ((mRowsL l ++ R) ++ mRows m) hh := star_comm hs
    rw [List.append_assoc] at h3
    obtain ⟨x, y, d, lx, ly, hb, hr⟩ := star_cut _ h3
    exact star_glue _ d lx ly hb (star_comm hr))⟩⟩
end
end
end Go.Proofs.YtclcnhfponjdaaaGreatDoor
end
section
namespace Go.Proofs.YtclcnhfponjdaaaGreatDoor
open Go.Sk
set_option maxRecDepth 100000
attribute [local irreducible] Cs Own Ex Pu Yld RT LJ QJ AtQ CT Rd QSp Sp FinQ Then LoopQ CutQ DT TakeQ EffQ
variable {B : World} {R : List HP}
end Go.Proofs.YtclcnhfponjdaaaGreatDoor
end
section
namespace Go.Proofs.YtclcnhfponjdaaaGreatDoor
open Go.Sk
set_option maxRecDepth 100000
theorem row5_pre {B : World} {R : List HP} {α : Type} {f : α → List Value} {z c : Nat} {a : Option Addr} {l : List α} {x : α} (hz : ∀ x, (f x).length = z) (h : Rd B R a (l.length + 5) c z ((l ++ List.replicate 5 x).flatMap f)) : Rd B R a l.length c z (l.flatMap f) := by
 have := h.sub (Nat.zero_le l.length) (by omega)
 rw [asub_z, Nat.sub_zero, Nat.sub_zero, Nat.zero_mul, List.drop_zero, List.flatMap_append, List.take_left' (flat_len hz l)] at this
 exact this
attribute [local irreducible] Cs Own Ex Pu Yld RT LJ QJ AtQ CT Rd QSp Sp FinQ Then LoopQ CutQ DT TakeQ EffQ
variable {B : World} {R : List HP}
end Go.Proofs.YtclcnhfponjdaaaGreatDoor
end
section
namespace Go.Proofs.YtclcnhfponjdaaaGreatDoor
open Go.Sk
set_option maxRecDepth 100000
attribute [local irreducible] Cs Own Ex Pu Yld RT LJ QJ AtQ CT Rd QSp Sp FinQ Then LoopQ CutQ DT TakeQ EffQ
variable {B : World} {R : List HP}
theorem signed_Span_int32_fn {num : Int} {g : FuncId} : Sp B Tryz.prog 85 [.int .i32 num, .func (.func g) #[] #[]] R [] (fun v H' => ∃ bn bo, v = .agg #[.int .i32 num, .int .u8 0, .bool false, .func (.func 175) #[] #[ptr bo, ptr bn], .func (.func 179) #[] #[ptr bo]] ∧ H' = [Cs bn 21 [.int .i32 num], Cs bo 199 [.func (.func g) #[] #[]]]) := by
 refine Sp.bodyM Tryz.func85 rfl Tryz.ntmps85 (by simp) ?_
 simp only [argE, List.cons_append, List.nil_append, Nat.zero_add, Nat.reduceAdd]
 repeat' (first|refine gM ?_|(refine gb ?_;intro b)|fail)
 rename_i bn bo
 refine RT.mkF rfl rfl rfl ?_
 refine RT.mkF rfl rfl rfl ?_
 try refine gM ?_
 exact AtQ.finA (l := [.int .i32 num, .int .u8 0, .bool false, .func (.func 175) #[] #[ptr bo, ptr bn], .func (.func 179) #[] #[ptr bo]]) (H' := [Cs bn 21 [.int .i32 num], Cs bo 199 [.func (.func g) #[] #[]]]) T Tryz.results85 rfl rfl rfl sE_ ⟨bn, bo, rfl, rfl⟩ (fun w h => h.frd (Ps := [_, _]) (Qs := [_]) fR_) (by first | exact .inl rfl | exact .inr rfl)
theorem oneText_EnumValue_fn {num : Int} {g : FuncId} : Sp B Tryz.prog 88 [.int .i32 num, .func (.func g) #[] #[]] R [] (fun v H' => ∃ bn bo, v = .agg #[.int .i32 num, .int .u8 2, .bool false, .func (.func 182) #[] #[ptr bo, ptr bn], .func (.func 184) #[] #[ptr bo]] ∧ H' = [Cs bn 21 [.int .i32 num], Cs bo 207 [.func (.func g) #[] #[]]]) := by
 refine Sp.bodyM Tryz.func88 rfl Tryz.ntmps88 (by simp) ?_
 simp only [argE, List.cons_append, List.nil_append, Nat.zero_add, Nat.reduceAdd]
 repeat' (first|refine gM ?_|(refine gb ?_;intro b)|fail)
 rename_i bn bo
 refine RT.mkF rfl rfl rfl ?_
 refine RT.mkF rfl rfl rfl ?_
 try refine gM ?_
 exact AtQ.finA (l := [.int .i32 num, .int .u8 2, .bool false, .func (.func 182) #[] #[ptr bo, ptr bn], .func (.func 184) #[] #[ptr bo]]) (H' := [Cs bn 21 [.int .i32 num], Cs bo 207 [.func (.func g) #[] #[]]]) T Tryz.results88 rfl rfl rfl sE_ ⟨bn, bo, rfl, rfl⟩ (fun w h => h.frd (Ps := [_, _]) (Qs := [_]) fR_) (by first | exact .inl rfl | exact .inr rfl)
theorem signed_EnumValue_int32_fn {num : Int} {g : FuncId} : Sp B Tryz.prog 90 [.int .i32 num, .func (.func g) #[] #[]] R [] (fun v H' => ∃ bn bo, v = .agg #[.int .i32 num, .int .u8 0, .bool false, .func (.func 186) #[] #[ptr bo, ptr bn], .func (.func 187) #[] #[ptr bo]] ∧ H' = [Cs bn 21 [.int .i32 num], Cs bo 209 [.func (.func g) #[] #[]]]) := by
 refine Sp.bodyM Tryz.func90 rfl Tryz.ntmps90 (by simp) ?_
 simp only [argE, List.cons_append, List.nil_append, Nat.zero_add, Nat.reduceAdd]
 repeat' (first|refine gM ?_|(refine gb ?_;intro b)|fail)
 rename_i bn bo
 refine RT.mkF rfl rfl rfl ?_
 refine RT.mkF rfl rfl rfl ?_
 try refine gM ?_
 exact AtQ.finA (l := [.int .i32 num, .int .u8 0, .bool false, .func (.func 186) #[] #[ptr bo, ptr bn], .func (.func 187) #[] #[ptr bo]]) (H' := [Cs bn 21 [.int .i32 num], Cs bo 209 [.func (.func g) #[] #[]]]) T Tryz.results90 rfl rfl rfl sE_ ⟨bn, bo, rfl, rfl⟩ (fun w h => h.frd (Ps := [_, _]) (Qs := [_]) fR_) (by first | exact .inl rfl | exact .inr rfl)
theorem oneText_EnumDef_fn {num : Int} {g : FuncId} : Sp B Tryz.prog 92 [.int .i32 num, .func (.func g) #[] #[]] R [] (fun v H' => ∃ bn bo, v = .agg #[.int .i32 num, .int .u8 2, .bool false, .func (.func 188) #[] #[ptr bo, ptr bn], .func (.func 189) #[] #[ptr bo]] ∧ H' = [Cs bn 21 [.int .i32 num], Cs bo 216 [.func (.func g) #[] #[]]]) := by
 refine Sp.bodyM Tryz.func92 rfl Tryz.ntmps92 (by simp) ?_
 simp only [argE, List.cons_append, List.nil_append, Nat.zero_add, Nat.reduceAdd]
 repeat' (first|refine gM ?_|(refine gb ?_;intro b)|fail)
 rename_i bn bo
 refine RT.mkF rfl rfl rfl ?_
 refine RT.mkF rfl rfl rfl ?_
 try refine gM ?_
 exact AtQ.finA (l := [.int .i32 num, .int .u8 2, .bool false, .func (.func 188) #[] #[ptr bo, ptr bn], .func (.func 189) #[] #[ptr bo]]) (H' := [Cs bn 21 [.int .i32 num], Cs bo 216 [.func (.func g) #[] #[]]]) T Tryz.results92 rfl rfl rfl sE_ ⟨bn, bo, rfl, rfl⟩ (fun w h => h.frd (Ps := [_, _]) (Qs := [_]) fR_) (by first | exact .inl rfl | exact .inr rfl)
theorem some_EnumDef_EnumValue_fn {num dp : Int} {lp : Addr} {g : FuncId} : Sp B Tryz.prog 94 [.int .i32 num, .pointer (some lp), .int .i64 dp, .func (.func g) #[] #[]] R [] (fun v H' => ∃ bn bl bd bo, v = .agg #[.int .i32 num, .int .u8 2, .bool true, .func (.func 190) #[] #[ptr bo, ptr bn, ptr bl], .func (.func 194) #[] #[ptr bd, ptr bo, ptr bl]] ∧ H' = [Cs bn 21 [.int .i32 num], Cs bl 218 [.pointer (some lp)], Cs bd 3 [.int .i64 dp], Cs bo 220 [.func (.func g) #[] #[]]]) := by
 refine Sp.bodyM Tryz.func94 rfl Tryz.ntmps94 (by simp) ?_
 simp only [argE, List.cons_append, List.nil_append, Nat.zero_add, Nat.reduceAdd]
 repeat' (first|refine gM ?_|(refine gb ?_;intro b)|fail)
 rename_i bn bl bd bo
 refine RT.mkF rfl rfl rfl ?_
 refine RT.mkF rfl rfl rfl ?_
 try refine gM ?_
 exact AtQ.finA (l := [.int .i32 num, .int .u8 2, .bool true, .func (.func 190) #[] #[ptr bo, ptr bn, ptr bl], .func (.func 194) #[] #[ptr bd, ptr bo, ptr bl]]) (H' := [Cs bn 21 [.int .i32 num], Cs bl 218 [.pointer (some lp)], Cs bd 3 [.int .i64 dp], Cs bo 220 [.func (.func g) #[] #[]]]) T Tryz.results94 rfl rfl rfl sE_ ⟨bn, bl, bd, bo, rfl, rfl⟩ (fun w h => h.frd (Ps := [_, _, _, _]) (Qs := [_]) fR_) (by first | exact .inl rfl | exact .inr rfl)
theorem truth_EnumDef_fn {num : Int} {g : FuncId} : Sp B Tryz.prog 96 [.int .i32 num, .func (.func g) #[] #[]] R [] (fun v H' => ∃ bn bo, v = .agg #[.int .i32 num, .int .u8 0, .bool false, .func (.func 197) #[] #[ptr bo, ptr bn], .func (.func 198) #[] #[ptr bo]] ∧ H' = [Cs bn 21 [.int .i32 num], Cs bo 223 [.func (.func g) #[] #[]]]) := by
 refine Sp.bodyM Tryz.func96 rfl Tryz.ntmps96 (by simp) ?_
 simp only [argE, List.cons_append, List.nil_append, Nat.zero_add, Nat.reduceAdd]
 repeat' (first|refine gM ?_|(refine gb ?_;intro b)|fail)
 rename_i bn bo
 refine RT.mkF rfl rfl rfl ?_
 refine RT.mkF rfl rfl rfl ?_
 try refine gM ?_
 exact AtQ.finA (l := [.int .i32 num, .int .u8 0, .bool false, .func (.func 197) #[] #[ptr bo, ptr bn], .func (.func 198) #[] #[ptr bo]]) (H' := [Cs bn 21 [.int .i32 num], Cs bo 223 [.func (.func g) #[] #[]]]) T Tryz.results96 rfl rfl rfl sE_ ⟨bn, bo, rfl, rfl⟩ (fun w h => h.frd (Ps := [_, _]) (Qs := [_]) fR_) (by first | exact .inl rfl | exact .inr rfl)
theorem some_EnumDef_Span_fn {num dp : Int} {lp : Addr} {g : FuncId} : Sp B Tryz.prog 98 [.int .i32 num, .pointer (some lp), .int .i64 dp, .func (.func g) #[] #[]] R [] (fun v H' => ∃ bn bl bd bo, v = .agg #[.int .i32 num, .int .u8 2, .bool true, .func (.func 199) #[] #[ptr bo, ptr bn, ptr bl], .func (.func 201) #[] #[ptr bd, ptr bo, ptr bl]] ∧ H' = [Cs bn 21 [.int .i32 num], Cs bl 225 [.pointer (some lp)], Cs bd 3 [.int .i64 dp], Cs bo 227 [.func (.func g) #[] #[]]]) := by
 refine Sp.bodyM Tryz.func98 rfl Tryz.ntmps98 (by simp) ?_
 simp only [argE, List.cons_append, List.nil_append, Nat.zero_add, Nat.reduceAdd]
 repeat' (first|refine gM ?_|(refine gb ?_;intro b)|fail)
 rename_i bn bl bd bo
 refine RT.mkF rfl rfl rfl ?_
 refine RT.mkF rfl rfl rfl ?_
 try refine gM ?_
 exact AtQ.finA (l := [.int .i32 num, .int .u8 2, .bool true, .func (.func 199) #[] #[ptr bo, ptr bn, ptr bl], .func (.func 201) #[] #[ptr bd, ptr bo, ptr bl]]) (H' := [Cs bn 21 [.int .i32 num], Cs bl 225 [.pointer (some lp)], Cs bd 3 [.int .i64 dp], Cs bo 227 [.func (.func g) #[] #[]]]) T Tryz.results98 rfl rfl rfl sE_ ⟨bn, bl, bd, bo, rfl, rfl⟩ (fun w h => h.frd (Ps := [_, _, _, _]) (Qs := [_]) fR_) (by first | exact .inl rfl | exact .inr rfl)
theorem someTexts_EnumDef_fn {num : Int} {g : FuncId} : Sp B Tryz.prog 100 [.int .i32 num, .func (.func g) #[] #[]] R [] (fun v H' => ∃ bn bo, v = .agg #[.int .i32 num, .int .u8 2, .bool true, .func (.func 203) #[] #[ptr bo, ptr bn], .func (.func 204) #[] #[ptr bo]] ∧ H' = [Cs bn 21 [.int .i32 num], Cs bo 230 [.func (.func g) #[] #[]]]) := by
 refine Sp.bodyM Tryz.func100 rfl Tryz.ntmps100 (by simp) ?_
 simp only [argE, List.cons_append, List.nil_append, Nat.zero_add, Nat.reduceAdd]
 repeat' (first|refine gM ?_|(refine gb ?_;intro b)|fail)
 rename_i bn bo
 refine RT.mkF rfl rfl rfl ?_
 refine RT.mkF rfl rfl rfl ?_
 try refine gM ?_
 exact AtQ.finA (l := [.int .i32 num, .int .u8 2, .bool true, .func (.func 203) #[] #[ptr bo, ptr bn], .func (.func 204) #[] #[ptr bo]]) (H' := [Cs bn 21 [.int .i32 num], Cs bo 230 [.func (.func g) #[] #[]]]) T Tryz.results100 rfl rfl rfl sE_ ⟨bn, bo, rfl, rfl⟩ (fun w h => h.frd (Ps := [_, _]) (Qs := [_]) fR_) (by first | exact .inl rfl | exact .inr rfl)
theorem oneText_FieldDef_fn {num : Int} {g : FuncId} : Sp B Tryz.prog 102 [.int .i32 num, .func (.func g) #[] #[]] R [] (fun v H' => ∃ bn bo, v = .agg #[.int .i32 num, .int .u8 2, .bool false, .func (.func 205) #[] #[ptr bo, ptr bn], .func (.func 206) #[] #[ptr bo]] ∧ H' = [Cs bn 21 [.int .i32 num], Cs bo 242 [.func (.func g) #[] #[]]]) := by
 refine Sp.bodyM Tryz.func102 rfl Tryz.ntmps102 (by simp) ?_
 simp only [argE, List.cons_append, List.nil_append, Nat.zero_add, Nat.reduceAdd]
 repeat' (first|refine gM ?_|(refine gb ?_;intro b)|fail)
 rename_i bn bo
 refine RT.mkF rfl rfl rfl ?_
 refine RT.mkF rfl rfl rfl ?_
 try refine gM ?_
 exact AtQ.finA (l := [.int .i32 num, .int .u8 2, .bool false, .func (.func 205) #[] #[ptr bo, ptr bn], .func (.func 206) #[] #[ptr bo]]) (H' := [Cs bn 21 [.int .i32 num], Cs bo 242 [.func (.func g) #[] #[]]]) T Tryz.results102 rfl rfl rfl sE_ ⟨bn, bo, rfl, rfl⟩ (fun w h => h.frd (Ps := [_, _]) (Qs := [_]) fR_) (by first | exact .inl rfl | exact .inr rfl)
theorem signed_FieldDef_int32_fn {num : Int} {g : FuncId} : Sp B Tryz.prog 104 [.int .i32 num, .func (.func g) #[] #[]] R [] (fun v H' => ∃ bn bo, v = .agg #[.int .i32 num, .int .u8 0, .bool false, .func (.func 207) #[] #[ptr bo, ptr bn], .func (.func 208) #[] #[ptr bo]] ∧ H' = [Cs bn 21 [.int .i32 num], Cs bo 244 [.func (.func g) #[] #[]]]) := by
 refine Sp.bodyM Tryz.func104 rfl Tryz.ntmps104 (by simp) ?_
 simp only [argE, List.cons_append, List.nil_append, Nat.zero_add, Nat.reduceAdd]
 repeat' (first|refine gM ?_|(refine gb ?_;intro b)|fail)
 rename_i bn bo
 refine RT.mkF rfl rfl rfl ?_
 refine RT.mkF rfl rfl rfl ?_
 try refine gM ?_
 exact AtQ.finA (l := [.int .i32 num, .int .u8 0, .bool false, .func (.func 207) #[] #[ptr bo, ptr bn], .func (.func 208) #[] #[ptr bo]]) (H' := [Cs bn 21 [.int .i32 num], Cs bo 244 [.func (.func g) #[] #[]]]) T Tryz.results104 rfl rfl rfl sE_ ⟨bn, bo, rfl, rfl⟩ (fun w h => h.frd (Ps := [_, _]) (Qs := [_]) fR_) (by first | exact .inl rfl | exact .inr rfl)
theorem small_FieldDef_Card_fn {num : Int} {g : FuncId} : Sp B Tryz.prog 106 [.int .i32 num, .func (.func g) #[] #[]] R [] (fun v H' => ∃ bn bo, v = .agg #[.int .i32 num, .int .u8 0, .bool false, .func (.func 209) #[] #[ptr bo, ptr bn], .func (.func 210) #[] #[ptr bo]] ∧ H' = [Cs bn 21 [.int .i32 num], Cs bo 247 [.func (.func g) #[] #[]]]) := by
 refine Sp.bodyM Tryz.func106 rfl Tryz.ntmps106 (by simp) ?_
 simp only [argE, List.cons_append, List.nil_append, Nat.zero_add, Nat.reduceAdd]
 repeat' (first|refine gM ?_|(refine gb ?_;intro b)|fail)
 rename_i bn bo
 refine RT.mkF rfl rfl rfl ?_
 refine RT.mkF rfl rfl rfl ?_
 try refine gM ?_
 exact AtQ.finA (l := [.int .i32 num, .int .u8 0, .bool false, .func (.func 209) #[] #[ptr bo, ptr bn], .func (.func 210) #[] #[ptr bo]]) (H' := [Cs bn 21 [.int .i32 num], Cs bo 247 [.func (.func g) #[] #[]]]) T Tryz.results106 rfl rfl rfl sE_ ⟨bn, bo, rfl, rfl⟩ (fun w h => h.frd (Ps := [_, _]) (Qs := [_]) fR_) (by first | exact .inl rfl | exact .inr rfl)
theorem small_FieldDef_Kind_fn {num : Int} {g : FuncId} : Sp B Tryz.prog 108 [.int .i32 num, .func (.func g) #[] #[]] R [] (fun v H' => ∃ bn bo, v = .agg #[.int .i32 num, .int .u8 0, .bool false, .func (.func 211) #[] #[ptr bo, ptr bn], .func (.func 212) #[] #[ptr bo]] ∧ H' = [Cs bn 21 [.int .i32 num], Cs bo 250 [.func (.func g) #[] #[]]]) := by
 refine Sp.bodyM Tryz.func108 rfl Tryz.ntmps108 (by simp) ?_
 simp only [argE, List.cons_append, List.nil_append, Nat.zero_add, Nat.reduceAdd]
 repeat' (first|refine gM ?_|(refine gb ?_;intro b)|fail)
 rename_i bn bo
 refine RT.mkF rfl rfl rfl ?_
 refine RT.mkF rfl rfl rfl ?_
 try refine gM ?_
 exact AtQ.finA (l := [.int .i32 num, .int .u8 0, .bool false, .func (.func 211) #[] #[ptr bo, ptr bn], .func (.func 212) #[] #[ptr bo]]) (H' := [Cs bn 21 [.int .i32 num], Cs bo 250 [.func (.func g) #[] #[]]]) T Tryz.results108 rfl rfl rfl sE_ ⟨bn, bo, rfl, rfl⟩ (fun w h => h.frd (Ps := [_, _]) (Qs := [_]) fR_) (by first | exact .inl rfl | exact .inr rfl)
theorem signed_FieldDef_int_fn {num : Int} {g : FuncId} : Sp B Tryz.prog 112 [.int .i32 num, .func (.func g) #[] #[]] R [] (fun v H' => ∃ bn bo, v = .agg #[.int .i32 num, .int .u8 0, .bool false, .func (.func 213) #[] #[ptr bo, ptr bn], .func (.func 214) #[] #[ptr bo]] ∧ H' = [Cs bn 21 [.int .i32 num], Cs bo 253 [.func (.func g) #[] #[]]]) := by
 refine Sp.bodyM Tryz.func112 rfl Tryz.ntmps112 (by simp) ?_
 simp only [argE, List.cons_append, List.nil_append, Nat.zero_add, Nat.reduceAdd]
 repeat' (first|refine gM ?_|(refine gb ?_;intro b)|fail)
 rename_i bn bo
 refine RT.mkF rfl rfl rfl ?_
 refine RT.mkF rfl rfl rfl ?_
 try refine gM ?_
 exact AtQ.finA (l := [.int .i32 num, .int .u8 0, .bool false, .func (.func 213) #[] #[ptr bo, ptr bn], .func (.func 214) #[] #[ptr bo]]) (H' := [Cs bn 21 [.int .i32 num], Cs bo 253 [.func (.func g) #[] #[]]]) T Tryz.results112 rfl rfl rfl sE_ ⟨bn, bo, rfl, rfl⟩ (fun w h => h.frd (Ps := [_, _]) (Qs := [_]) fR_) (by first | exact .inl rfl | exact .inr rfl)
theorem small_FieldDef_Tri_fn {num : Int} {g : FuncId} : Sp B Tryz.prog 114 [.int .i32 num, .func (.func g) #[] #[]] R [] (fun v H' => ∃ bn bo, v = .agg #[.int .i32 num, .int .u8 0, .bool false, .func (.func 215) #[] #[ptr bo, ptr bn], .func (.func 216) #[] #[ptr bo]] ∧ H' = [Cs bn 21 [.int .i32 num], Cs bo 256 [.func (.func g) #[] #[]]]) := by
 refine Sp.bodyM Tryz.func114 rfl Tryz.ntmps114 (by simp) ?_
 simp only [argE, List.cons_append, List.nil_append, Nat.zero_add, Nat.reduceAdd]
 repeat' (first|refine gM ?_|(refine gb ?_;intro b)|fail)
 rename_i bn bo
 refine RT.mkF rfl rfl rfl ?_
 refine RT.mkF rfl rfl rfl ?_
 try refine gM ?_
 exact AtQ.finA (l := [.int .i32 num, .int .u8 0, .bool false, .func (.func 215) #[] #[ptr bo, ptr bn], .func (.func 216) #[] #[ptr bo]]) (H' := [Cs bn 21 [.int .i32 num], Cs bo 256 [.func (.func g) #[] #[]]]) T Tryz.results114 rfl rfl rfl sE_ ⟨bn, bo, rfl, rfl⟩ (fun w h => h.frd (Ps := [_, _]) (Qs := [_]) fR_) (by first | exact .inl rfl | exact .inr rfl)
theorem oneText_MessageDef_fn {num : Int} {g : FuncId} : Sp B Tryz.prog 117 [.int .i32 num, .func (.func g) #[] #[]] R [] (fun v H' => ∃ bn bo, v = .agg #[.int .i32 num, .int .u8 2, .bool false, .func (.func 217) #[] #[ptr bo, ptr bn], .func (.func 218) #[] #[ptr bo]] ∧ H' = [Cs bn 21 [.int .i32 num], Cs bo 263 [.func (.func g) #[] #[]]]) := by
 refine Sp.bodyM Tryz.func117 rfl Tryz.ntmps117 (by simp) ?_
 simp only [argE, List.cons_append, List.nil_append, Nat.zero_add, Nat.reduceAdd]
 repeat' (first|refine gM ?_|(refine gb ?_;intro b)|fail)
 rename_i bn bo
 refine RT.mkF rfl rfl rfl ?_
 refine RT.mkF rfl rfl rfl ?_
 try refine gM ?_
 exact AtQ.finA (l := [.int .i32 num, .int .u8 2, .bool false, .func (.func 217) #[] #[ptr bo, ptr bn], .func (.func 218) #[] #[ptr bo]]) (H' := [Cs bn 21 [.int .i32 num], Cs bo 263 [.func (.func g) #[] #[]]]) T Tryz.results117 rfl rfl rfl sE_ ⟨bn, bo, rfl, rfl⟩ (fun w h => h.frd (Ps := [_, _]) (Qs := [_]) fR_) (by first | exact .inl rfl | exact .inr rfl)
theorem some_MessageDef_FieldDef_fn {num dp : Int} {lp : Addr} {g : FuncId} : Sp B Tryz.prog 119 [.int .i32 num, .pointer (some lp), .int .i64 dp, .func (.func g) #[] #[]] R [] (fun v H' => ∃ bn bl bd bo, v = .agg #[.int .i32 num, .int .u8 2, .bool true, .func (.func 219) #[] #[ptr bo, ptr bn, ptr bl], .func (.func 221) #[] #[ptr bd, ptr bo, ptr bl]] ∧ H' = [Cs bn 21 [.int .i32 num], Cs bl 265 [.pointer (some lp)], Cs bd 3 [.int .i64 dp], Cs bo 267 [.func (.func g) #[] #[]]]) := by
 refine Sp.bodyM Tryz.func119 rfl Tryz.ntmps119 (by simp) ?_
 simp only [argE, List.cons_append, List.nil_append, Nat.zero_add, Nat.reduceAdd]
 repeat' (first|refine gM ?_|(refine gb ?_;intro b)|fail)
 rename_i bn bl bd bo
 refine RT.mkF rfl rfl rfl ?_
 refine RT.mkF rfl rfl rfl ?_
 try refine gM ?_
 exact AtQ.finA (l := [.int .i32 num, .int .u8 2, .bool true, .func (.func 219) #[] #[ptr bo, ptr bn, ptr bl], .func (.func 221) #[] #[ptr bd, ptr bo, ptr bl]]) (H' := [Cs bn 21 [.int .i32 num], Cs bl 265 [.pointer (some lp)], Cs bd 3 [.int .i64 dp], Cs bo 267 [.func (.func g) #[] #[]]]) T Tryz.results119 rfl rfl rfl sE_ ⟨bn, bl, bd, bo, rfl, rfl⟩ (fun w h => h.frd (Ps := [_, _, _, _]) (Qs := [_]) fR_) (by first | exact .inl rfl | exact .inr rfl)
theorem someTexts_MessageDef_fn {num : Int} {g : FuncId} : Sp B Tryz.prog 121 [.int .i32 num, .func (.func g) #[] #[]] R [] (fun v H' => ∃ bn bo, v = .agg #[.int .i32 num, .int .u8 2, .bool true, .func (.func 223) #[] #[ptr bo, ptr bn], .func (.func 224) #[] #[ptr bo]] ∧ H' = [Cs bn 21 [.int .i32 num], Cs bo 269 [.func (.func g) #[] #[]]]) := by
 refine Sp.bodyM Tryz.func121 rfl Tryz.ntmps121 (by simp) ?_
 simp only [argE, List.cons_append, List.nil_append, Nat.zero_add, Nat.reduceAdd]
 repeat' (first|refine gM ?_|(refine gb ?_;intro b)|fail)
 rename_i bn bo
 refine RT.mkF rfl rfl rfl ?_
 refine RT.mkF rfl rfl rfl ?_
 try refine gM ?_
 exact AtQ.finA (l := [.int .i32 num, .int .u8 2, .bool true, .func (.func 223) #[] #[ptr bo, ptr bn], .func (.func 224) #[] #[ptr bo]]) (H' := [Cs bn 21 [.int .i32 num], Cs bo 269 [.func (.func g) #[] #[]]]) T Tryz.results121 rfl rfl rfl sE_ ⟨bn, bo, rfl, rfl⟩ (fun w h => h.frd (Ps := [_, _]) (Qs := [_]) fR_) (by first | exact .inl rfl | exact .inr rfl)
theorem some_MessageDef_MessageDef_fn {num dp : Int} {lp : Addr} {g : FuncId} : Sp B Tryz.prog 123 [.int .i32 num, .pointer (some lp), .int .i64 dp, .func (.func g) #[] #[]] R [] (fun v H' => ∃ bn bl bd bo, v = .agg #[.int .i32 num, .int .u8 2, .bool true, .func (.func 225) #[] #[ptr bo, ptr bn, ptr bl], .func (.func 227) #[] #[ptr bd, ptr bo, ptr bl]] ∧ H' = [Cs bn 21 [.int .i32 num], Cs bl 271 [.pointer (some lp)], Cs bd 3 [.int .i64 dp], Cs bo 273 [.func (.func g) #[] #[]]]) := by
 refine Sp.bodyM Tryz.func123 rfl Tryz.ntmps123 (by simp) ?_
 simp only [argE, List.cons_append, List.nil_append, Nat.zero_add, Nat.reduceAdd]
 repeat' (first|refine gM ?_|(refine gb ?_;intro b)|fail)
 rename_i bn bl bd bo
 refine RT.mkF rfl rfl rfl ?_
 refine RT.mkF rfl rfl rfl ?_
 try refine gM ?_
 exact AtQ.finA (l := [.int .i32 num, .int .u8 2, .bool true, .func (.func 225) #[] #[ptr bo, ptr bn, ptr bl], .func (.func 227) #[] #[ptr bd, ptr bo, ptr bl]]) (H' := [Cs bn 21 [.int .i32 num], Cs bl 271 [.pointer (some lp)], Cs bd 3 [.int .i64 dp], Cs bo 273 [.func (.func g) #[] #[]]]) T Tryz.results123 rfl rfl rfl sE_ ⟨bn, bl, bd, bo, rfl, rfl⟩ (fun w h => h.frd (Ps := [_, _, _, _]) (Qs := [_]) fR_) (by first | exact .inl rfl | exact .inr rfl)
theorem some_MessageDef_EnumDef_fn {num dp : Int} {lp : Addr} {g : FuncId} : Sp B Tryz.prog 125 [.int .i32 num, .pointer (some lp), .int .i64 dp, .func (.func g) #[] #[]] R [] (fun v H' => ∃ bn bl bd bo, v = .agg #[.int .i32 num, .int .u8 2, .bool true, .func (.func 229) #[] #[ptr bo, ptr bn, ptr bl], .func (.func 231) #[] #[ptr bd, ptr bo, ptr bl]] ∧ H' = [Cs bn 21 [.int .i32 num], Cs bl 275 [.pointer (some lp)], Cs bd 3 [.int .i64 dp], Cs bo 277 [.func (.func g) #[] #[]]]) := by
 refine Sp.bodyM Tryz.func125 rfl Tryz.ntmps125 (by simp) ?_
 simp only [argE, List.cons_append, List.nil_append, Nat.zero_add, Nat.reduceAdd]
 repeat' (first|refine gM ?_|(refine gb ?_;intro b)|fail)
 rename_i bn bl bd bo
 refine RT.mkF rfl rfl rfl ?_
 refine RT.mkF rfl rfl rfl ?_
 try refine gM ?_
 exact AtQ.finA (l := [.int .i32 num, .int .u8 2, .bool true, .func (.func 229) #[] #[ptr bo, ptr bn, ptr bl], .func (.func 231) #[] #[ptr bd, ptr bo, ptr bl]]) (H' := [Cs bn 21 [.int .i32 num], Cs bl 275 [.pointer (some lp)], Cs bd 3 [.int .i64 dp], Cs bo 277 [.func (.func g) #[] #[]]]) T Tryz.results125 rfl rfl rfl sE_ ⟨bn, bl, bd, bo, rfl, rfl⟩ (fun w h => h.frd (Ps := [_, _, _, _]) (Qs := [_]) fR_) (by first | exact .inl rfl | exact .inr rfl)
theorem some_MessageDef_Span_fn {num dp : Int} {lp : Addr} {g : FuncId} : Sp B Tryz.prog 127 [.int .i32 num, .pointer (some lp), .int .i64 dp, .func (.func g) #[] #[]] R [] (fun v H' => ∃ bn bl bd bo, v = .agg #[.int .i32 num, .int .u8 2, .bool true, .func (.func 233) #[] #[ptr bo, ptr bn, ptr bl], .func (.func 234) #[] #[ptr bd, ptr bo, ptr bl]] ∧ H' = [Cs bn 21 [.int .i32 num], Cs bl 225 [.pointer (some lp)], Cs bd 3 [.int .i64 dp], Cs bo 279 [.func (.func g) #[] #[]]]) := by
 refine Sp.bodyM Tryz.func127 rfl Tryz.ntmps127 (by simp) ?_
 simp only [argE, List.cons_append, List.nil_append, Nat.zero_add, Nat.reduceAdd]
 repeat' (first|refine gM ?_|(refine gb ?_;intro b)|fail)
 rename_i bn bl bd bo
 refine RT.mkF rfl rfl rfl ?_
 refine RT.mkF rfl rfl rfl ?_
 try refine gM ?_
 exact AtQ.finA (l := [.int .i32 num, .int .u8 2, .bool true, .func (.func 233) #[] #[ptr bo, ptr bn, ptr bl], .func (.func 234) #[] #[ptr bd, ptr bo, ptr bl]]) (H' := [Cs bn 21 [.int .i32 num], Cs bl 225 [.pointer (some lp)], Cs bd 3 [.int .i64 dp], Cs bo 279 [.func (.func g) #[] #[]]]) T Tryz.results127 rfl rfl rfl sE_ ⟨bn, bl, bd, bo, rfl, rfl⟩ (fun w h => h.frd (Ps := [_, _, _, _]) (Qs := [_]) fR_) (by first | exact .inl rfl | exact .inr rfl)
theorem oneText_Import_fn {num : Int} {g : FuncId} : Sp B Tryz.prog 130 [.int .i32 num, .func (.func g) #[] #[]] R [] (fun v H' => ∃ bn bo, v = .agg #[.int .i32 num, .int .u8 2, .bool false, .func (.func 235) #[] #[ptr bo, ptr bn], .func (.func 236) #[] #[ptr bo]] ∧ H' = [Cs bn 21 [.int .i32 num], Cs bo 286 [.func (.func g) #[] #[]]]) := by
 refine Sp.bodyM Tryz.func130 rfl Tryz.ntmps130 (by simp) ?_
 simp only [argE, List.cons_append, List.nil_append, Nat.zero_add, Nat.reduceAdd]
 repeat' (first|refine gM ?_|(refine gb ?_;intro b)|fail)
 rename_i bn bo
 refine RT.mkF rfl rfl rfl ?_
 refine RT.mkF rfl rfl rfl ?_
 try refine gM ?_
 exact AtQ.finA (l := [.int .i32 num, .int .u8 2, .bool false, .func (.func 235) #[] #[ptr bo, ptr bn], .func (.func 236) #[] #[ptr bo]]) (H' := [Cs bn 21 [.int .i32 num], Cs bo 286 [.func (.func g) #[] #[]]]) T Tryz.results130 rfl rfl rfl sE_ ⟨bn, bo, rfl, rfl⟩ (fun w h => h.frd (Ps := [_, _]) (Qs := [_]) fR_) (by first | exact .inl rfl | exact .inr rfl)
theorem truth_Import_fn {num : Int} {g : FuncId} : Sp B Tryz.prog 132 [.int .i32 num, .func (.func g) #[] #[]] R [] (fun v H' => ∃ bn bo, v = .agg #[.int .i32 num, .int .u8 0, .bool false, .func (.func 237) #[] #[ptr bo, ptr bn], .func (.func 238) #[] #[ptr bo]] ∧ H' = [Cs bn 21 [.int .i32 num], Cs bo 288 [.func (.func g) #[] #[]]]) := by
 refine Sp.bodyM Tryz.func132 rfl Tryz.ntmps132 (by simp) ?_
 simp only [argE, List.cons_append, List.nil_append, Nat.zero_add, Nat.reduceAdd]
 repeat' (first|refine gM ?_|(refine gb ?_;intro b)|fail)
 rename_i bn bo
 refine RT.mkF rfl rfl rfl ?_
 refine RT.mkF rfl rfl rfl ?_
 try refine gM ?_
 exact AtQ.finA (l := [.int .i32 num, .int .u8 0, .bool false, .func (.func 237) #[] #[ptr bo, ptr bn], .func (.func 238) #[] #[ptr bo]]) (H' := [Cs bn 21 [.int .i32 num], Cs bo 288 [.func (.func g) #[] #[]]]) T Tryz.results132 rfl rfl rfl sE_ ⟨bn, bo, rfl, rfl⟩ (fun w h => h.frd (Ps := [_, _]) (Qs := [_]) fR_) (by first | exact .inl rfl | exact .inr rfl)
theorem oneText_File_fn {num : Int} {g : FuncId} : Sp B Tryz.prog 134 [.int .i32 num, .func (.func g) #[] #[]] R [] (fun v H' => ∃ bn bo, v = .agg #[.int .i32 num, .int .u8 2, .bool false, .func (.func 239) #[] #[ptr bo, ptr bn], .func (.func 240) #[] #[ptr bo]] ∧ H' = [Cs bn 21 [.int .i32 num], Cs bo 295 [.func (.func g) #[] #[]]]) := by
 refine Sp.bodyM Tryz.func134 rfl Tryz.ntmps134 (by simp) ?_
 simp only [argE, List.cons_append, List.nil_append, Nat.zero_add, Nat.reduceAdd]
 repeat' (first|refine gM ?_|(refine gb ?_;intro b)|fail)
 rename_i bn bo
 refine RT.mkF rfl rfl rfl ?_
 refine RT.mkF rfl rfl rfl ?_
 try refine gM ?_
 exact AtQ.finA (l := [.int .i32 num, .int .u8 2, .bool false, .func (.func 239) #[] #[ptr bo, ptr bn], .func (.func 240) #[] #[ptr bo]]) (H' := [Cs bn 21 [.int .i32 num], Cs bo 295 [.func (.func g) #[] #[]]]) T Tryz.results134 rfl rfl rfl sE_ ⟨bn, bo, rfl, rfl⟩ (fun w h => h.frd (Ps := [_, _]) (Qs := [_]) fR_) (by first | exact .inl rfl | exact .inr rfl)
theorem some_File_Import_fn {num dp : Int} {lp : Addr} {g : FuncId} : Sp B Tryz.prog 137 [.int .i32 num, .pointer (some lp), .int .i64 dp, .func (.func g) #[] #[]] R [] (fun v H' => ∃ bn bl bd bo, v = .agg #[.int .i32 num, .int .u8 2, .bool true, .func (.func 241) #[] #[ptr bo, ptr bn, ptr bl], .func (.func 243) #[] #[ptr bd, ptr bo, ptr bl]] ∧ H' = [Cs bn 21 [.int .i32 num], Cs bl 297 [.pointer (some lp)], Cs bd 3 [.int .i64 dp], Cs bo 299 [.func (.func g) #[] #[]]]) := by
 refine Sp.bodyM Tryz.func137 rfl Tryz.ntmps137 (by simp) ?_
 simp only [argE, List.cons_append, List.nil_append, Nat.zero_add, Nat.reduceAdd]
 repeat' (first|refine gM ?_|(refine gb ?_;intro b)|fail)
 rename_i bn bl bd bo
 refine RT.mkF rfl rfl rfl ?_
 refine RT.mkF rfl rfl rfl ?_
 try refine gM ?_
 exact AtQ.finA (l := [.int .i32 num, .int .u8 2, .bool true, .func (.func 241) #[] #[ptr bo, ptr bn, ptr bl], .func (.func 243) #[] #[ptr bd, ptr bo, ptr bl]]) (H' := [Cs bn 21 [.int .i32 num], Cs bl 297 [.pointer (some lp)], Cs bd 3 [.int .i64 dp], Cs bo 299 [.func (.func g) #[] #[]]]) T Tryz.results137 rfl rfl rfl sE_ ⟨bn, bl, bd, bo, rfl, rfl⟩ (fun w h => h.frd (Ps := [_, _, _, _]) (Qs := [_]) fR_) (by first | exact .inl rfl | exact .inr rfl)
theorem some_File_MessageDef_fn {num dp : Int} {lp : Addr} {g : FuncId} : Sp B Tryz.prog 139 [.int .i32 num, .pointer (some lp), .int .i64 dp, .func (.func g) #[] #[]] R [] (fun v H' => ∃ bn bl bd bo, v = .agg #[.int .i32 num, .int .u8 2, .bool true, .func (.func 245) #[] #[ptr bo, ptr bn, ptr bl], .func (.func 246) #[] #[ptr bd, ptr bo, ptr bl]] ∧ H' = [Cs bn 21 [.int .i32 num], Cs bl 271 [.pointer (some lp)], Cs bd 3 [.int .i64 dp], Cs bo 301 [.func (.func g) #[] #[]]]) := by
 refine Sp.bodyM Tryz.func139 rfl Tryz.ntmps139 (by simp) ?_
 simp only [argE, List.cons_append, List.nil_append, Nat.zero_add, Nat.reduceAdd]
 repeat' (first|refine gM ?_|(refine gb ?_;intro b)|fail)
 rename_i bn bl bd bo
 refine RT.mkF rfl rfl rfl ?_
 refine RT.mkF rfl rfl rfl ?_
 try refine gM ?_
 exact AtQ.finA (l := [.int .i32 num, .int .u8 2, .bool true, .func (.func 245) #[] #[ptr bo, ptr bn, ptr bl], .func (.func 246) #[] #[ptr bd, ptr bo, ptr bl]]) (H' := [Cs bn 21 [.int .i32 num], Cs bl 271 [.pointer (some lp)], Cs bd 3 [.int .i64 dp], Cs bo 301 [.func (.func g) #[] #[]]]) T Tryz.results139 rfl rfl rfl sE_ ⟨bn, bl, bd, bo, rfl, rfl⟩ (fun w h => h.frd (Ps := [_, _, _, _]) (Qs := [_]) fR_) (by first | exact .inl rfl | exact .inr rfl)
theorem some_File_EnumDef_fn {num dp : Int} {lp : Addr} {g : FuncId} : Sp B Tryz.prog 141 [.int .i32 num, .pointer (some lp), .int .i64 dp, .func (.func g) #[] #[]] R [] (fun v H' => ∃ bn bl bd bo, v = .agg #[.int .i32 num, .int .u8 2, .bool true, .func (.func 247) #[] #[ptr bo, ptr bn, ptr bl], .func (.func 248) #[] #[ptr bd, ptr bo, ptr bl]] ∧ H' = [Cs bn 21 [.int .i32 num], Cs bl 275 [.pointer (some lp)], Cs bd 3 [.int .i64 dp], Cs bo 303 [.func (.func g) #[] #[]]]) := by
 refine Sp.bodyM Tryz.func141 rfl Tryz.ntmps141 (by simp) ?_
 simp only [argE, List.cons_append, List.nil_append, Nat.zero_add, Nat.reduceAdd]
 repeat' (first|refine gM ?_|(refine gb ?_;intro b)|fail)
 rename_i bn bl bd bo
 refine RT.mkF rfl rfl rfl ?_
 refine RT.mkF rfl rfl rfl ?_
 try refine gM ?_
 exact AtQ.finA (l := [.int .i32 num, .int .u8 2, .bool true, .func (.func 247) #[] #[ptr bo, ptr bn, ptr bl], .func (.func 248) #[] #[ptr bd, ptr bo, ptr bl]]) (H' := [Cs bn 21 [.int .i32 num], Cs bl 275 [.pointer (some lp)], Cs bd 3 [.int .i64 dp], Cs bo 303 [.func (.func g) #[] #[]]]) T Tryz.results141 rfl rfl rfl sE_ ⟨bn, bl, bd, bo, rfl, rfl⟩ (fun w h => h.frd (Ps := [_, _, _, _]) (Qs := [_]) fR_) (by first | exact .inl rfl | exact .inr rfl)
theorem some_set_File_fn {num dp : Int} {lp : Addr} {g : FuncId} : Sp B Tryz.prog 143 [.int .i32 num, .pointer (some lp), .int .i64 dp, .func (.func g) #[] #[]] R [] (fun v H' => ∃ bn bl bd bo, v = .agg #[.int .i32 num, .int .u8 2, .bool true, .func (.func 249) #[] #[ptr bo, ptr bn, ptr bl], .func (.func 251) #[] #[ptr bd, ptr bo, ptr bl]] ∧ H' = [Cs bn 21 [.int .i32 num], Cs bl 308 [.pointer (some lp)], Cs bd 3 [.int .i64 dp], Cs bo 310 [.func (.func g) #[] #[]]]) := by
 refine Sp.bodyM Tryz.func143 rfl Tryz.ntmps143 (by simp) ?_
 simp only [argE, List.cons_append, List.nil_append, Nat.zero_add, Nat.reduceAdd]
 repeat' (first|refine gM ?_|(refine gb ?_;intro b)|fail)
 rename_i bn bl bd bo
 refine RT.mkF rfl rfl rfl ?_
 refine RT.mkF rfl rfl rfl ?_
 try refine gM ?_
 exact AtQ.finA (l := [.int .i32 num, .int .u8 2, .bool true, .func (.func 249) #[] #[ptr bo, ptr bn, ptr bl], .func (.func 251) #[] #[ptr bd, ptr bo, ptr bl]]) (H' := [Cs bn 21 [.int .i32 num], Cs bl 308 [.pointer (some lp)], Cs bd 3 [.int .i64 dp], Cs bo 310 [.func (.func g) #[] #[]]]) T Tryz.results143 rfl rfl rfl sE_ ⟨bn, bl, bd, bo, rfl, rfl⟩ (fun w h => h.frd (Ps := [_, _, _, _]) (Qs := [_]) fR_) (by first | exact .inl rfl | exact .inr rfl)
end Go.Proofs.YtclcnhfponjdaaaGreatDoor
end
section
namespace Go.Proofs.YtclcnhfponjdaaaGreatDoor
open Go.Sk
/-- From S on these bytes were written (with k parts open within one another at most). -/
structure Wrt (k : Nat) (S : WS) (bs : Txt) (S' : WS) : Prop where
 lim : S'.limit = S.limit
 ok : S'.ok
 fits : S.e = 0 → (S.b.length + bs.length : Int) ≤ S.limit → S' = { S with b := S.b ++ bs }
 not : S.e = 0 → S.limit < (S.b.length + bs.length : Int) → S'.e ≠ 0 ∧ S'.op.length ≤ S.op.length + k
 stop : S.e ≠ 0 → S' = S
theorem Wrt.nil {k : Nat} {S : WS} (h : S.ok) : Wrt k S [] S := ⟨rfl, h, fun _ _ => by simp, fun _ hn => by have := h.2.2; simp at hn; omega, fun _ => rfl⟩
theorem Wrt.put {k : Nat} {S : WS} (h : S.ok) (l : Txt) : Wrt k S l (S.put l) := by
 refine ⟨?_, WS.put_ok h l, fun he hf => ?_, fun he hn => ?_, fun he => ?_⟩
 ·unfold WS.put; split <;> (try split) <;> rfl
 ·unfold WS.put; rw [if_pos he, if_neg (by omega)]
 ·unfold WS.put; rw [if_pos he, if_pos (by omega)]; exact ⟨fun h => absurd (show (15 : Int) = 0 from h) (by decide), Nat.le_add_right _ _⟩
 ·unfold WS.put; rw [if_neg he]
theorem Wrt.mono {k k2 : Nat} {S S1 : WS} {a : Txt} (h : Wrt k S a S1) (hk : k ≤ k2) : Wrt k2 S a S1 :=
 ⟨h.lim, h.ok, h.fits, fun he hn => ⟨(h.not he hn).1, Nat.le_trans (h.not he hn).2 (by omega)⟩, h.stop⟩
theorem Wrt.app {k : Nat} {S S1 S2 : WS} {a b : Txt} (h1 : Wrt k S a S1) (h2 : Wrt k S1 b S2) : Wrt k S (a ++ b) S2 := by
 refine ⟨h2.lim.trans h1.lim, h2.ok, fun he hf => ?_, fun he hn => ?_, fun he => ?_⟩
 ·rw [List.length_append] at hf
  have e1 := h1.fits he (by omega)
  have e2 := h2.fits (by rw [e1]; exact he) (by rw [e1]; simp only [List.length_append]; omega)
  rw [e2, e1]
  simp
 ·rw [List.length_append] at hn
  by_cases hf : (S.b.length + a.length : Int) ≤ S.limit
  ·have e1 := h1.fits he hf
   have e2 := h2.not (by rw [e1]; exact he) (by rw [e1]; simp only [List.length_append]; omega)
   rw [e1] at e2
   exact ⟨e2.1, by have := e2.2; simp only at this; omega⟩
  ·have e1 := h1.not he (by omega)
   have e2 := h2.stop e1.1
   rw [e2]
   exact ⟨e1.1, by have := e1.2; omega⟩
 ·have e1 := h1.stop he
  have e2 := h2.stop (by rw [e1]; exact he)
  rw [e2, e1]
/-- A writer in which k more parts may be opened within one another. -/
def Wok (k : Nat) (S : WS) : Prop := S.ok ∧ S.op.length ≤ 1000 ∧ (S.e = 0 → (∀ x ∈ S.op, 0 ≤ x ∧ x ≤ S.b.length) ∧ S.op.length + k ≤ 1000)
theorem Wok.mono {k k2 : Nat} {S : WS} (h : Wok k S) (hk : k2 ≤ k) : Wok k2 S := ⟨h.1, h.2.1, fun he => ⟨(h.2.2 he).1, Nat.le_trans (Nat.add_le_add_left hk _) (h.2.2 he).2⟩⟩
theorem Wrt.wok {k : Nat} {S S' : WS} {a : Txt} (h : Wrt k S a S') (hw : Wok k S) : Wok k S' := by
 refine ⟨h.ok, ?_, fun he => ?_⟩
 ·by_cases he : S.e = 0
  ·by_cases hf : (S.b.length + a.length : Int) ≤ S.limit
   ·rw [h.fits he hf]; exact hw.2.1
   ·have h1 := (h.not he (by omega)).2
    have h2 := (hw.2.2 he).2
    omega
  ·rw [h.stop he]; exact hw.2.1
 ·by_cases h0 : S.e = 0
  ·by_cases hf : (S.b.length + a.length : Int) ≤ S.limit
   ·rw [h.fits h0 hf]
    refine ⟨fun x hx => ?_, (hw.2.2 h0).2⟩
    have := (hw.2.2 h0).1 x hx
    simp only [List.length_append]
    omega
   ·exact absurd he (h.not h0 (by omega)).1
  ·rw [h.stop h0] at he ⊢
   exact hw.2.2 he
theorem wsTag_put {n k : Int} {S : WS} (h1 : 1 ≤ n) (h2 : n ≤ 536870911) (h3 : k ≤ 5) : wsTag n k S = S.put (enc (n * 8 + k)) := by
 unfold wsTag
 rw [if_neg (by omega)]
theorem Wok.put {k : Nat} {S : WS} (h : Wok k S) (l : Txt) : Wok k (S.put l) := (Wrt.put (k := k) h.1 l).wok h
theorem Wok.open_ {k : Nat} {S : WS} (h : Wok (k + 1) S) : Wok k (wsOpen S) := by
 unfold wsOpen
 split
 ·rename_i he
  obtain ⟨h1, h2, h3⟩ := h
  obtain ⟨h4, h5⟩ := h3 he
  refine ⟨h1, by simp only [List.length_append, List.length_singleton]; omega, fun _ => ⟨fun x hx => ?_, by simp only [List.length_append, List.length_singleton]; omega⟩⟩
  simp only [List.mem_append, List.mem_singleton] at hx
  rcases hx with hx | rfl
  ·exact h4 x hx
  ·simp only; omega
 ·exact h.mono (by omega)
/-- A part that is opened, written and shut is a field of bytes. -/
theorem Wrt.record {k : Nat} {n : Int} {S S3 : WS} {bs : Txt} (hS : Wok (k + 1) S) (h : Wrt k (wsOpen (S.put (enc (n * 8 + 2)))) bs S3) :
  Wrt (k + 1) S (fBytes n bs) (wsShut (if (S.put (enc (n * 8 + 2))).e = 0 then ((S.put (enc (n * 8 + 2))).b.length : Int) else 0) S3) := by
 obtain ⟨o1, o2, o3⟩ := hS.1
 unfold fBytes
 generalize enc (n * 8 + 2) = T at *
 have hw := h.wok (hS.put T).open_
 have h1 := Wrt.put (k := 0) hS.1 T
 by_cases he : S.e = 0
 ·by_cases hf : (S.b.length + T.length : Int) ≤ S.limit
  ·have e1 := h1.fits he hf
   rw [e1] at h ⊢
   have eo : wsOpen { S with b := S.b ++ T } = { S with b := S.b ++ T, op := S.op ++ [((S.b ++ T).length : Int)] } := by unfold wsOpen; rw [if_pos (by exact he)]
   rw [eo] at h
   dsimp only
   rw [if_pos he]
   by_cases hf2 : ((S.b ++ T).length + bs.length : Int) ≤ S.limit
   ·have e3 := h.fits he hf2
    rw [e3]
    have hl : (((S.b ++ T) ++ bs).length : Int) - ((S.b ++ T).length : Int) = bs.length := by simp only [List.length_append, Int.natCast_add]; omega
    have hsh : wsShut ((S.b ++ T).length : Int) { S with b := (S.b ++ T) ++ bs, op := S.op ++ [((S.b ++ T).length : Int)] } = if S.limit - (((S.b ++ T) ++ bs).length : Int) < ((enc bs.length).length : Int) then { S with b := (S.b ++ T) ++ bs, op := S.op ++ [((S.b ++ T).length : Int)], e := 15 } else { S with b := (S.b ++ T) ++ (enc bs.length ++ bs) } := by
     unfold wsShut
     dsimp only
     rw [if_neg (by simp [he]), if_pos (by simp), hl, Int.toNat_natCast, List.take_left, List.drop_left, List.dropLast_concat, List.append_assoc (S.b ++ T)]
    rw [hsh]
    clear hsh hl
    have hlen : ((T ++ (enc (bs.length : Int) ++ bs)).length : Int) = T.length + ((enc (bs.length : Int)).length + bs.length) := by simp
    have hlen2 : (((S.b ++ T) ++ bs).length : Int) = S.b.length + T.length + bs.length := by simp only [List.length_append, Int.natCast_add]
    have hlen3 : ((S.b ++ T).length : Int) = S.b.length + T.length := by simp
    rw [hlen3] at hf2
    by_cases hq : S.limit - (((S.b ++ T) ++ bs).length : Int) < ((enc bs.length).length : Int)
    ·rw [if_pos hq]
     rw [hlen2] at hq
     refine ⟨rfl, ⟨o1, o2, ?_⟩, fun _ hf => ?_, fun _ _ => ⟨by simp, by simp only [List.length_append, List.length_singleton]; omega⟩, fun h => absurd he h⟩
     ·dsimp only; rw [hlen2]; omega
     ·exfalso; rw [hlen] at hf; omega
    ·rw [if_neg hq]
     rw [hlen2] at hq
     refine ⟨rfl, ⟨o1, o2, ?_⟩, fun _ hf => by simp, fun _ hn => ?_, fun h => absurd he h⟩
     ·dsimp only; simp only [List.length_append, Int.natCast_add]; omega
     ·exfalso; rw [hlen] at hn; omega
   ·have e3 := h.not he (by dsimp only; omega)
    have hs : ∀ pl, wsShut pl S3 = S3 := fun pl => by unfold wsShut; rw [if_pos e3.1]
    rw [hs]
    have hlen3 : ((S.b ++ T).length : Int) = S.b.length + T.length := by simp
    rw [hlen3] at hf2
    refine ⟨h.lim, h.ok, fun _ hf => ?_, fun _ _ => ⟨e3.1, by have := e3.2; simp at this; omega⟩, fun h => absurd he h⟩
    exfalso
    simp only [List.length_append, Int.natCast_add] at hf
    omega
  ·have e1 := h1.not he (by omega)
   have eo : wsOpen (S.put T) = S.put T := by unfold wsOpen; rw [if_neg e1.1]
   rw [eo] at h
   have e3 := h.stop e1.1
   have hs : ∀ pl, wsShut pl S3 = S3 := fun pl => by unfold wsShut; rw [if_pos (by rw [e3]; exact e1.1)]
   rw [hs, e3]
   refine ⟨h1.lim, h1.ok, fun _ hf => ?_, fun _ _ => ⟨e1.1, by have := e1.2; omega⟩, fun h => absurd he h⟩
   exfalso
   simp only [List.length_append, Int.natCast_add] at hf
   omega
 ·have e1 := h1.stop he
  have eo : wsOpen (S.put T) = S := by rw [e1]; unfold wsOpen; rw [if_neg he]
  rw [eo] at h
  have e3 := h.stop he
  have hs : ∀ pl, wsShut pl S3 = S3 := fun pl => by unfold wsShut; rw [if_pos (by rw [e3]; exact he)]
  rw [hs, e3]
  exact ⟨rfl, hS.1, fun h => absurd h he, fun h => absurd h he, fun _ => rfl⟩
end Go.Proofs.YtclcnhfponjdaaaGreatDoor
end
section
namespace Go.Proofs.YtclcnhfponjdaaaGreatDoor
open Go.Sk
set_option maxRecDepth 100000
attribute [local irreducible] Cs Own Ex Pu Yld RT LJ QJ AtQ CT Rd QSp Sp FinQ Then LoopQ CutQ DT TakeQ EffQ
attribute [local irreducible] Wr
variable {B : World} {R : List HP}
set_option maxHeartbeats 1000000 in
theorem wbytes_fn {p : Nat} {S : WS} {a : Option Addr} {n c : Nat} {bl : List Int} (hS : S.ok) (hR : Rd B R a n c 1 (ints .u8 bl)) (hn : n ≤ 140737488355328) :
  Sp B Tryz.prog 183 [ptr p, sl8 a n c] R [Wr p S] (fun u H' => u = .tuple #[] ∧ H' = [Wr p (S.put (enc n ++ bl))]) := by
 obtain ⟨k0, k1, k2⟩ := hS
 have hbl := hR.lenI
 have hv : V64 (n : Int) := ⟨by omega, by omega⟩
 have hen := enc_len hv
 refine Sp.body Tryz.func183 rfl Tryz.ntmps183 (by simp) ?_
 simp only [argE, List.cons_append, List.nil_append, Nat.zero_add, Nat.reduceAdd]
 refine CT.wr fun x => ?_
 repeat' (first|refine gL ?_|(refine gv ?_;refine gk ?_)|fail)
 (refine RT.call T rfl fR_ (size_fn hv) rfl rfl rfl ?_; rintro _ _ ⟨rfl, rfl⟩; try simp only [List.cons_append, List.nil_append])
 repeat' (first|refine gL ?_|(refine gv ?_;refine gk ?_)|fail)
 (refine RT.call T rfl fR_ (room_fn k0 k1 k2 (by omega) (by omega)) rfl rfl rfl ?_; rintro _ _ ⟨rfl, rfl⟩; try simp only [List.cons_append, List.nil_append])
 have hlen : (enc n ++ bl).length = (enc n).length + n := by rw [List.length_append, hbl]
 by_cases hq : S.e = 0 ∧ ((enc n).length : Int) + n ≤ S.limit - S.b.length
 ·have hp : S.put (enc n ++ bl) = { S with b := S.b ++ (enc n ++ bl) } := by unfold WS.put; rw [if_pos hq.1, hlen, if_neg (by omega)]
  rw [hp, if_neg (by omega : ¬ (S.e = 0 ∧ S.limit - S.b.length < ((enc n).length : Int) + n)), decide_eq_true hq]
  repeat' (first|refine gL ?_|(refine gv ?_;refine gk ?_)|fail)
  refine RT.call T rfl fR_ (varint_w hv (by omega)) rfl rfl rfl ?_
  rintro _ _ ⟨a', c', rfl, rfl⟩
  simp only [List.cons_append, List.nil_append]
  try refine gL ?_
  refine RT.appI T (l := S.b ++ enc n) (l' := bl) rfl rfl rfl ((hR.cons).cons.cons) (fun a' c' => by ((repeat constructor);done)) (by omega) (by omega) rfl rfl rfl rfl (fun a2 c2 hac => ?_)
  try refine gL ?_
  refine AtQ.f0 Tryz.results183 (fun w h => ?_) (by first | exact .inl rfl | exact .inr rfl)
  refine Wr.in_ ⟨a2, c2, x.ao, x.co⟩ ?_
  have e1 : (S.b ++ (enc n ++ bl)).length = S.b.length + (enc n).length + n := by rw [List.length_append, hlen, Nat.add_assoc]
  simp only [e1]
  rw [List.append_assoc] at h
  exact Sat.fr (Ps := [_, _, _]) h fR_
 ·have hp : S.put (enc n ++ bl) = { S with e := if S.e = 0 ∧ S.limit - S.b.length < ((enc n).length : Int) + n then 15 else S.e } := by
   unfold WS.put
   rw [hlen]
   by_cases he : S.e = 0
   ·rw [if_pos he, if_pos (by omega), if_pos (by omega)]
   ·rw [if_neg he, if_neg (by omega)]
  rw [hp, decide_eq_false hq]
  try refine gL ?_
  refine AtQ.f0 Tryz.results183 (fun w h => ?_) (by first | exact .inl rfl | exact .inr rfl)
  exact Wr.in_ x h
end Go.Proofs.YtclcnhfponjdaaaGreatDoor
end
section
namespace Go.Proofs.YtclcnhfponjdaaaGreatDoor
open Go.Sk
set_option maxRecDepth 100000
attribute [local irreducible] Cs Own Ex Pu Yld RT LJ QJ AtQ CT Rd QSp Sp FinQ Then LoopQ CutQ DT TakeQ EffQ
attribute [local irreducible] Wr StAt
variable {B : World} {R : List HP} {pe pw bn bo off k : Nat} {num : Int} {g : FuncId} {gb : Bool} {ad : Addr} {xs : List Value} {S : WS}
theorem signed_Span_int32_put {v : Int} (hO : Rd B R (some ⟨pe, 0, none⟩) 1 1 2 [ptr pw, .int .i64 0]) (hn : Rd B R (some ⟨bn, 0, none⟩) 1 1 1 [.int .i32 num]) (ho : Rd B R (some ⟨bo, 0, none⟩) 1 1 1 [.func (.func g) #[] #[]]) (hg : al T.funs g = some gb) (hof : ∀ R, Sp B Tryz.prog g [.pointer (some ad)] R [] (fun v H' => v = .pointer (some (ad.add off)) ∧ H' = [])) (hx : StAt B R ad xs) (h1 : 1 ≤ num) (h2 : num ≤ 15) (hu : xs[off]? = some (.int .i32 v)) (hv : I32 v) (hS : S.ok) :
  Sp B Tryz.prog 175 [ptr pe, .pointer (some ad), ptr bo, ptr bn] R [Wr pw S] (fun u H' => u = .tuple #[] ∧ ∃ S', Wrt k S (fSign num v) S' ∧ H' = [Wr pw S']) := by
 obtain ⟨v0, v1⟩ := hv
 refine Sp.body Tryz.func175 rfl Tryz.ntmps175 (by simp) ?_
 simp only [argE, List.cons_append, List.nil_append, Nat.zero_add, Nat.reduceAdd]
 try refine gL ?_
 refine RT.ldB T rfl (rD (ho)) rfl rfl rfl rfl ?_
 try refine gL ?_
 refine RT.callC T (caps := []) rfl rfl fR_ (hof _) hg rfl rfl ?_
 rintro _ _ ⟨rfl, rfl⟩
 simp only [List.nil_append]
 refine RT.nilG rfl rfl rfl ?_
 refine RT.ldS T rfl hx.cons hu rfl rfl rfl ?_
 repeat' (first|refine gQ ?_|(refine gv ?_;(refine⟨fun hc=>?_,fun hc=>?_⟩<;>first|(exfalso;omega)|skip))|fail)
 ·refine AtQ.fin0 (H' := [Wr pw S]) Tryz.results175 ⟨rfl, S, ?_, rfl⟩ (fun w h => h) _ (by first | exact .inl rfl | exact .inr rfl)
  unfold fSign
  rw [if_pos hc]
  exact Wrt.nil hS
 ·
  refine CT.tail 5 mixed (by kernel_rfl) ?_
  dsimp only [List.take_succ_cons, List.take_zero, List.drop_succ_cons, List.drop_zero]
  try refine gL ?_
  refine RT.ldB T rfl (rD (hO)) rfl rfl rfl rfl ?_
  skip
  refine RT.ldB T rfl (rD (hn)) rfl rfl rfl rfl ?_
  try refine gL ?_
  refine AtQ.tail ?_
  refine RT.call T rfl fR_ (tag_fn (n := num) (k := 0) hS (by decide) (by decide) (by omega) (by omega)) rfl rfl rfl ?_
  rintro _ _ ⟨rfl, rfl⟩
  rw [wsTag_put (k := 0) h1 (by omega) (by decide)]
  simp only [List.cons_append, List.nil_append]
  try refine gQ ?_
  refine CT.tail 7 mixed (by kernel_rfl) ?_
  dsimp only [List.take_succ_cons, List.take_zero, List.drop_succ_cons, List.drop_zero]
  try refine gL ?_
  refine RT.ldB T rfl (rD (hO)) rfl rfl rfl rfl ?_
  repeat' (first|refine gL ?_|(refine gv ?_;refine gk ?_)|fail)
  (refine RT.qcall T rfl (QSp.of fR_ (zigzag_fn (n := v) ⟨by omega, by omega⟩)) rfl rfl rfl ?_)
  try refine gL ?_
  refine AtQ.tail ?_
  refine RT.call T rfl fR_ (writeVarint_fn (WS.put_ok hS _) (zig_ok (n := v) ⟨by omega, by omega⟩)) rfl rfl rfl ?_
  rintro _ _ ⟨rfl, rfl⟩
  simp only [List.cons_append, List.nil_append]
  try refine gL ?_
  refine AtQ.fin0 (H' := [Wr pw ((S.put (enc (num * 8 + 0))).put (enc (zig v)))]) Tryz.results175 ⟨rfl, _, ?_, rfl⟩ (fun w h => h) _ (by first | exact .inl rfl | exact .inr rfl)
  unfold fSign
  rw [if_neg hc]
  exact (Wrt.put hS _).app (Wrt.put (WS.put_ok hS _) _)
theorem signed_EnumValue_int32_put {v : Int} (hO : Rd B R (some ⟨pe, 0, none⟩) 1 1 2 [ptr pw, .int .i64 0]) (hn : Rd B R (some ⟨bn, 0, none⟩) 1 1 1 [.int .i32 num]) (ho : Rd B R (some ⟨bo, 0, none⟩) 1 1 1 [.func (.func g) #[] #[]]) (hg : al T.funs g = some gb) (hof : ∀ R, Sp B Tryz.prog g [.pointer (some ad)] R [] (fun v H' => v = .pointer (some (ad.add off)) ∧ H' = [])) (hx : StAt B R ad xs) (h1 : 1 ≤ num) (h2 : num ≤ 15) (hu : xs[off]? = some (.int .i32 v)) (hv : I32 v) (hS : S.ok) :
  Sp B Tryz.prog 186 [ptr pe, .pointer (some ad), ptr bo, ptr bn] R [Wr pw S] (fun u H' => u = .tuple #[] ∧ ∃ S', Wrt k S (fSign num v) S' ∧ H' = [Wr pw S']) := by
 obtain ⟨v0, v1⟩ := hv
 refine Sp.body Tryz.func186 rfl Tryz.ntmps186 (by simp) ?_
 simp only [argE, List.cons_append, List.nil_append, Nat.zero_add, Nat.reduceAdd]
 try refine gL ?_
 refine RT.ldB T rfl (rD (ho)) rfl rfl rfl rfl ?_
 try refine gL ?_
 refine RT.callC T (caps := []) rfl rfl fR_ (hof _) hg rfl rfl ?_
 rintro _ _ ⟨rfl, rfl⟩
 simp only [List.nil_append]
 refine RT.nilG rfl rfl rfl ?_
 refine RT.ldS T rfl hx.cons hu rfl rfl rfl ?_
 repeat' (first|refine gQ ?_|(refine gv ?_;(refine⟨fun hc=>?_,fun hc=>?_⟩<;>first|(exfalso;omega)|skip))|fail)
 ·refine AtQ.fin0 (H' := [Wr pw S]) Tryz.results186 ⟨rfl, S, ?_, rfl⟩ (fun w h => h) _ (by first | exact .inl rfl | exact .inr rfl)
  unfold fSign
  rw [if_pos hc]
  exact Wrt.nil hS
 ·
  refine CT.tail 5 mixed (by kernel_rfl) ?_
  dsimp only [List.take_succ_cons, List.take_zero, List.drop_succ_cons, List.drop_zero]
  try refine gL ?_
  refine RT.ldB T rfl (rD (hO)) rfl rfl rfl rfl ?_
  skip
  refine RT.ldB T rfl (rD (hn)) rfl rfl rfl rfl ?_
  try refine gL ?_
  refine AtQ.tail ?_
  refine RT.call T rfl fR_ (tag_fn (n := num) (k := 0) hS (by decide) (by decide) (by omega) (by omega)) rfl rfl rfl ?_
  rintro _ _ ⟨rfl, rfl⟩
  rw [wsTag_put (k := 0) h1 (by omega) (by decide)]
  simp only [List.cons_append, List.nil_append]
  try refine gQ ?_
  refine CT.tail 7 mixed (by kernel_rfl) ?_
  dsimp only [List.take_succ_cons, List.take_zero, List.drop_succ_cons, List.drop_zero]
  try refine gL ?_
  refine RT.ldB T rfl (rD (hO)) rfl rfl rfl rfl ?_
  repeat' (first|refine gL ?_|(refine gv ?_;refine gk ?_)|fail)
  (refine RT.qcall T rfl (QSp.of fR_ (zigzag_fn (n := v) ⟨by omega, by omega⟩)) rfl rfl rfl ?_)
  try refine gL ?_
  refine AtQ.tail ?_
  refine RT.call T rfl fR_ (writeVarint_fn (WS.put_ok hS _) (zig_ok (n := v) ⟨by omega, by omega⟩)) rfl rfl rfl ?_
  rintro _ _ ⟨rfl, rfl⟩
  simp only [List.cons_append, List.nil_append]
  try refine gL ?_
  refine AtQ.fin0 (H' := [Wr pw ((S.put (enc (num * 8 + 0))).put (enc (zig v)))]) Tryz.results186 ⟨rfl, _, ?_, rfl⟩ (fun w h => h) _ (by first | exact .inl rfl | exact .inr rfl)
  unfold fSign
  rw [if_neg hc]
  exact (Wrt.put hS _).app (Wrt.put (WS.put_ok hS _) _)
theorem signed_FieldDef_int32_put {v : Int} (hO : Rd B R (some ⟨pe, 0, none⟩) 1 1 2 [ptr pw, .int .i64 0]) (hn : Rd B R (some ⟨bn, 0, none⟩) 1 1 1 [.int .i32 num]) (ho : Rd B R (some ⟨bo, 0, none⟩) 1 1 1 [.func (.func g) #[] #[]]) (hg : al T.funs g = some gb) (hof : ∀ R, Sp B Tryz.prog g [.pointer (some ad)] R [] (fun v H' => v = .pointer (some (ad.add off)) ∧ H' = [])) (hx : StAt B R ad xs) (h1 : 1 ≤ num) (h2 : num ≤ 15) (hu : xs[off]? = some (.int .i32 v)) (hv : I32 v) (hS : S.ok) :
  Sp B Tryz.prog 207 [ptr pe, .pointer (some ad), ptr bo, ptr bn] R [Wr pw S] (fun u H' => u = .tuple #[] ∧ ∃ S', Wrt k S (fSign num v) S' ∧ H' = [Wr pw S']) := by
 obtain ⟨v0, v1⟩ := hv
 refine Sp.body Tryz.func207 rfl Tryz.ntmps207 (by simp) ?_
 simp only [argE, List.cons_append, List.nil_append, Nat.zero_add, Nat.reduceAdd]
 try refine gL ?_
 refine RT.ldB T rfl (rD (ho)) rfl rfl rfl rfl ?_
 try refine gL ?_
 refine RT.callC T (caps := []) rfl rfl fR_ (hof _) hg rfl rfl ?_
 rintro _ _ ⟨rfl, rfl⟩
 simp only [List.nil_append]
 refine RT.nilG rfl rfl rfl ?_
 refine RT.ldS T rfl hx.cons hu rfl rfl rfl ?_
 repeat' (first|refine gQ ?_|(refine gv ?_;(refine⟨fun hc=>?_,fun hc=>?_⟩<;>first|(exfalso;omega)|skip))|fail)
 ·refine AtQ.fin0 (H' := [Wr pw S]) Tryz.results207 ⟨rfl, S, ?_, rfl⟩ (fun w h => h) _ (by first | exact .inl rfl | exact .inr rfl)
  unfold fSign
  rw [if_pos hc]
  exact Wrt.nil hS
 ·
  refine CT.tail 5 mixed (by kernel_rfl) ?_
  dsimp only [List.take_succ_cons, List.take_zero, List.drop_succ_cons, List.drop_zero]
  try refine gL ?_
  refine RT.ldB T rfl (rD (hO)) rfl rfl rfl rfl ?_
  skip
  refine RT.ldB T rfl (rD (hn)) rfl rfl rfl rfl ?_
  try refine gL ?_
  refine AtQ.tail ?_
  refine RT.call T rfl fR_ (tag_fn (n := num) (k := 0) hS (by decide) (by decide) (by omega) (by omega)) rfl rfl rfl ?_
  rintro _ _ ⟨rfl, rfl⟩
  rw [wsTag_put (k := 0) h1 (by omega) (by decide)]
  simp only [List.cons_append, List.nil_append]
  try refine gQ ?_
  refine CT.tail 7 mixed (by kernel_rfl) ?_
  dsimp only [List.take_succ_cons, List.take_zero, List.drop_succ_cons, List.drop_zero]
  try refine gL ?_
  refine RT.ldB T rfl (rD (hO)) rfl rfl rfl rfl ?_
  repeat' (first|refine gL ?_|(refine gv ?_;refine gk ?_)|fail)
  (refine RT.qcall T rfl (QSp.of fR_ (zigzag_fn (n := v) ⟨by omega, by omega⟩)) rfl rfl rfl ?_)
  try refine gL ?_
  refine AtQ.tail ?_
  refine RT.call T rfl fR_ (writeVarint_fn (WS.put_ok hS _) (zig_ok (n := v) ⟨by omega, by omega⟩)) rfl rfl rfl ?_
  rintro _ _ ⟨rfl, rfl⟩
  simp only [List.cons_append, List.nil_append]
  try refine gL ?_
  refine AtQ.fin0 (H' := [Wr pw ((S.put (enc (num * 8 + 0))).put (enc (zig v)))]) Tryz.results207 ⟨rfl, _, ?_, rfl⟩ (fun w h => h) _ (by first | exact .inl rfl | exact .inr rfl)
  unfold fSign
  rw [if_neg hc]
  exact (Wrt.put hS _).app (Wrt.put (WS.put_ok hS _) _)
theorem signed_FieldDef_int_put {v : Int} (hO : Rd B R (some ⟨pe, 0, none⟩) 1 1 2 [ptr pw, .int .i64 0]) (hn : Rd B R (some ⟨bn, 0, none⟩) 1 1 1 [.int .i32 num]) (ho : Rd B R (some ⟨bo, 0, none⟩) 1 1 1 [.func (.func g) #[] #[]]) (hg : al T.funs g = some gb) (hof : ∀ R, Sp B Tryz.prog g [.pointer (some ad)] R [] (fun v H' => v = .pointer (some (ad.add off)) ∧ H' = [])) (hx : StAt B R ad xs) (h1 : 1 ≤ num) (h2 : num ≤ 15) (hu : xs[off]? = some (.int .i64 v)) (hv : I64 v) (hS : S.ok) :
  Sp B Tryz.prog 213 [ptr pe, .pointer (some ad), ptr bo, ptr bn] R [Wr pw S] (fun u H' => u = .tuple #[] ∧ ∃ S', Wrt k S (fSign num v) S' ∧ H' = [Wr pw S']) := by
 obtain ⟨v0, v1⟩ := hv
 refine Sp.body Tryz.func213 rfl Tryz.ntmps213 (by simp) ?_
 simp only [argE, List.cons_append, List.nil_append, Nat.zero_add, Nat.reduceAdd]
 try refine gL ?_
 refine RT.ldB T rfl (rD (ho)) rfl rfl rfl rfl ?_
 try refine gL ?_
 refine RT.callC T (caps := []) rfl rfl fR_ (hof _) hg rfl rfl ?_
 rintro _ _ ⟨rfl, rfl⟩
 simp only [List.nil_append]
 refine RT.nilG rfl rfl rfl ?_
 refine RT.ldS T rfl hx.cons hu rfl rfl rfl ?_
 repeat' (first|refine gQ ?_|(refine gv ?_;(refine⟨fun hc=>?_,fun hc=>?_⟩<;>first|(exfalso;omega)|skip))|fail)
 ·refine AtQ.fin0 (H' := [Wr pw S]) Tryz.results213 ⟨rfl, S, ?_, rfl⟩ (fun w h => h) _ (by first | exact .inl rfl | exact .inr rfl)
  unfold fSign
  rw [if_pos hc]
  exact Wrt.nil hS
 ·
  refine CT.tail 5 mixed (by kernel_rfl) ?_
  dsimp only [List.take_succ_cons, List.take_zero, List.drop_succ_cons, List.drop_zero]
  try refine gL ?_
  refine RT.ldB T rfl (rD (hO)) rfl rfl rfl rfl ?_
  skip
  refine RT.ldB T rfl (rD (hn)) rfl rfl rfl rfl ?_
  try refine gL ?_
  refine AtQ.tail ?_
  refine RT.call T rfl fR_ (tag_fn (n := num) (k := 0) hS (by decide) (by decide) (by omega) (by omega)) rfl rfl rfl ?_
  rintro _ _ ⟨rfl, rfl⟩
  rw [wsTag_put (k := 0) h1 (by omega) (by decide)]
  simp only [List.cons_append, List.nil_append]
  try refine gQ ?_
  refine CT.tail 6 mixed (by kernel_rfl) ?_
  dsimp only [List.take_succ_cons, List.take_zero, List.drop_succ_cons, List.drop_zero]
  try refine gL ?_
  refine RT.ldB T rfl (rD (hO)) rfl rfl rfl rfl ?_
  try refine gL ?_
  (refine RT.qcall T rfl (QSp.of fR_ (zigzag_fn (n := v) ⟨by omega, by omega⟩)) rfl rfl rfl ?_)
  try refine gL ?_
  refine AtQ.tail ?_
  refine RT.call T rfl fR_ (writeVarint_fn (WS.put_ok hS _) (zig_ok (n := v) ⟨by omega, by omega⟩)) rfl rfl rfl ?_
  rintro _ _ ⟨rfl, rfl⟩
  simp only [List.cons_append, List.nil_append]
  try refine gL ?_
  refine AtQ.fin0 (H' := [Wr pw ((S.put (enc (num * 8 + 0))).put (enc (zig v)))]) Tryz.results213 ⟨rfl, _, ?_, rfl⟩ (fun w h => h) _ (by first | exact .inl rfl | exact .inr rfl)
  unfold fSign
  rw [if_neg hc]
  exact (Wrt.put hS _).app (Wrt.put (WS.put_ok hS _) _)
theorem oneText_EnumValue_put {v : Txt} (hO : Rd B R (some ⟨pe, 0, none⟩) 1 1 2 [ptr pw, .int .i64 0]) (hn : Rd B R (some ⟨bn, 0, none⟩) 1 1 1 [.int .i32 num]) (ho : Rd B R (some ⟨bo, 0, none⟩) 1 1 1 [.func (.func g) #[] #[]]) (hg : al T.funs g = some gb) (hof : ∀ R, Sp B Tryz.prog g [.pointer (some ad)] R [] (fun v H' => v = .pointer (some (ad.add off)) ∧ H' = [])) (hx : StAt B R ad xs) (h1 : 1 ≤ num) (h2 : num ≤ 15) (hu : xs[off]? = some (vS v)) (hv : OkT v) (hS : S.ok) :
  Sp B Tryz.prog 182 [ptr pe, .pointer (some ad), ptr bo, ptr bn] R [Wr pw S] (fun u H' => u = .tuple #[] ∧ ∃ S', Wrt k S (fText num v) S' ∧ H' = [Wr pw S']) := by
 obtain ⟨v0, v1⟩ := hv
 refine Sp.body Tryz.func182 rfl Tryz.ntmps182 (by simp) ?_
 simp only [argE, List.cons_append, List.nil_append, Nat.zero_add, Nat.reduceAdd]
 try refine gL ?_
 refine RT.ldB T rfl (rD (ho)) rfl rfl rfl rfl ?_
 try refine gL ?_
 refine RT.callC T (caps := []) rfl rfl fR_ (hof _) hg rfl rfl ?_
 rintro _ _ ⟨rfl, rfl⟩
 simp only [List.nil_append]
 refine RT.nilG rfl rfl rfl ?_
 refine RT.ldS T rfl hx.cons hu rfl rfl rfl ?_
 try refine gQ ?_
 refine RT.nes (l := v) (l' := []) rfl rfl v0 (fun _ h => by cases h) rfl rfl (fun hc => ?_) (fun hc => ?_)
 ·try refine gQ ?_
  refine AtQ.fin0 (H' := [Wr pw S]) Tryz.results182 ⟨rfl, S, ?_, rfl⟩ (fun w h => h) _ (by first | exact .inl rfl | exact .inr rfl)
  unfold fText
  rw [if_pos hc]
  exact Wrt.nil hS
 ·try refine gQ ?_
  refine CT.tail 5 mixed (by kernel_rfl) ?_
  dsimp only [List.take_succ_cons, List.take_zero, List.drop_succ_cons, List.drop_zero]
  try refine gL ?_
  refine RT.ldB T rfl (rD (hO)) rfl rfl rfl rfl ?_
  skip
  refine RT.ldB T rfl (rD (hn)) rfl rfl rfl rfl ?_
  try refine gL ?_
  refine AtQ.tail ?_
  refine RT.call T rfl fR_ (tag_fn (n := num) (k := 2) hS (by decide) (by decide) (by omega) (by omega)) rfl rfl rfl ?_
  rintro _ _ ⟨rfl, rfl⟩
  rw [wsTag_put (k := 2) h1 (by omega) (by decide)]
  simp only [List.cons_append, List.nil_append]
  try refine gQ ?_
  refine RT.ldB T rfl (rD (hO)) rfl rfl rfl rfl ?_
  try refine gL ?_
  refine RT.convSB T rfl v0 rfl Tryz.underlying23 Tryz.underlying5 rfl rfl (fun a' c' hc' => ?_)
  refine RT.call T rfl fR_ (wbytes_fn (WS.put_ok hS _) (Ro.rd sE_ (by rw [ints_len]) hc') (by omega)) rfl rfl rfl ?_
  rintro _ _ ⟨rfl, rfl⟩
  simp only [List.cons_append, List.nil_append]
  try refine gL ?_
  refine AtQ.fin0 (H' := [Wr pw ((S.put _).put _)]) Tryz.results182 ⟨rfl, _, ?_, rfl⟩ (fun w h => h.fr (Ps := [_]) (R := Ro a' (ints .u8 v) :: R) fR_ |>.frd (Ps := [_]) (Qs := [_]) fR_) _ (by first | exact .inl rfl | exact .inr rfl)
  unfold fText fBytes
  rw [if_neg hc]
  exact (Wrt.put hS _).app (Wrt.put (WS.put_ok hS _) _)
theorem oneText_EnumDef_put {v : Txt} (hO : Rd B R (some ⟨pe, 0, none⟩) 1 1 2 [ptr pw, .int .i64 0]) (hn : Rd B R (some ⟨bn, 0, none⟩) 1 1 1 [.int .i32 num]) (ho : Rd B R (some ⟨bo, 0, none⟩) 1 1 1 [.func (.func g) #[] #[]]) (hg : al T.funs g = some gb) (hof : ∀ R, Sp B Tryz.prog g [.pointer (some ad)] R [] (fun v H' => v = .pointer (some (ad.add off)) ∧ H' = [])) (hx : StAt B R ad xs) (h1 : 1 ≤ num) (h2 : num ≤ 15) (hu : xs[off]? = some (vS v)) (hv : OkT v) (hS : S.ok) :
  Sp B Tryz.prog 188 [ptr pe, .pointer (some ad), ptr bo, ptr bn] R [Wr pw S] (fun u H' => u = .tuple #[] ∧ ∃ S', Wrt k S (fText num v) S' ∧ H' = [Wr pw S']) := by
 obtain ⟨v0, v1⟩ := hv
 refine Sp.body Tryz.func188 rfl Tryz.ntmps188 (by simp) ?_
 simp only [argE, List.cons_append, List.nil_append, Nat.zero_add, Nat.reduceAdd]
 try refine gL ?_
 refine RT.ldB T rfl (rD (ho)) rfl rfl rfl rfl ?_
 try refine gL ?_
 refine RT.callC T (caps := []) rfl rfl fR_ (hof _) hg rfl rfl ?_
 rintro _ _ ⟨rfl, rfl⟩
 simp only [List.nil_append]
 refine RT.nilG rfl rfl rfl ?_
 refine RT.ldS T rfl hx.cons hu rfl rfl rfl ?_
 try refine gQ ?_
 refine RT.nes (l := v) (l' := []) rfl rfl v0 (fun _ h => by cases h) rfl rfl (fun hc => ?_) (fun hc => ?_)
 ·try refine gQ ?_
  refine AtQ.fin0 (H' := [Wr pw S]) Tryz.results188 ⟨rfl, S, ?_, rfl⟩ (fun w h => h) _ (by first | exact .inl rfl | exact .inr rfl)
  unfold fText
  rw [if_pos hc]
  exact Wrt.nil hS
 ·try refine gQ ?_
  refine CT.tail 5 mixed (by kernel_rfl) ?_
  dsimp only [List.take_succ_cons, List.take_zero, List.drop_succ_cons, List.drop_zero]
  try refine gL ?_
  refine RT.ldB T rfl (rD (hO)) rfl rfl rfl rfl ?_
  skip
  refine RT.ldB T rfl (rD (hn)) rfl rfl rfl rfl ?_
  try refine gL ?_
  refine AtQ.tail ?_
  refine RT.call T rfl fR_ (tag_fn (n := num) (k := 2) hS (by decide) (by decide) (by omega) (by omega)) rfl rfl rfl ?_
  rintro _ _ ⟨rfl, rfl⟩
  rw [wsTag_put (k := 2) h1 (by omega) (by decide)]
  simp only [List.cons_append, List.nil_append]
  try refine gQ ?_
  refine RT.ldB T rfl (rD (hO)) rfl rfl rfl rfl ?_
  try refine gL ?_
  refine RT.convSB T rfl v0 rfl Tryz.underlying23 Tryz.underlying5 rfl rfl (fun a' c' hc' => ?_)
  refine RT.call T rfl fR_ (wbytes_fn (WS.put_ok hS _) (Ro.rd sE_ (by rw [ints_len]) hc') (by omega)) rfl rfl rfl ?_
  rintro _ _ ⟨rfl, rfl⟩
  simp only [List.cons_append, List.nil_append]
  try refine gL ?_
  refine AtQ.fin0 (H' := [Wr pw ((S.put _).put _)]) Tryz.results188 ⟨rfl, _, ?_, rfl⟩ (fun w h => h.fr (Ps := [_]) (R := Ro a' (ints .u8 v) :: R) fR_ |>.frd (Ps := [_]) (Qs := [_]) fR_) _ (by first | exact .inl rfl | exact .inr rfl)
  unfold fText fBytes
  rw [if_neg hc]
  exact (Wrt.put hS _).app (Wrt.put (WS.put_ok hS _) _)
theorem truth_EnumDef_put {v : Bool} (hO : Rd B R (some ⟨pe, 0, none⟩) 1 1 2 [ptr pw, .int .i64 0]) (hn : Rd B R (some ⟨bn, 0, none⟩) 1 1 1 [.int .i32 num]) (ho : Rd B R (some ⟨bo, 0, none⟩) 1 1 1 [.func (.func g) #[] #[]]) (hg : al T.funs g = some gb) (hof : ∀ R, Sp B Tryz.prog g [.pointer (some ad)] R [] (fun v H' => v = .pointer (some (ad.add off)) ∧ H' = [])) (hx : StAt B R ad xs) (h1 : 1 ≤ num) (h2 : num ≤ 15) (hu : xs[off]? = some (.bool v)) (hS : S.ok) :
  Sp B Tryz.prog 197 [ptr pe, .pointer (some ad), ptr bo, ptr bn] R [Wr pw S] (fun u H' => u = .tuple #[] ∧ ∃ S', Wrt k S (fTruth num v) S' ∧ H' = [Wr pw S']) := by
 refine Sp.body Tryz.func197 rfl Tryz.ntmps197 (by simp) ?_
 simp only [argE, List.cons_append, List.nil_append, Nat.zero_add, Nat.reduceAdd]
 try refine gL ?_
 refine RT.ldB T rfl (rD (ho)) rfl rfl rfl rfl ?_
 try refine gL ?_
 refine RT.callC T (caps := []) rfl rfl fR_ (hof _) hg rfl rfl ?_
 rintro _ _ ⟨rfl, rfl⟩
 simp only [List.nil_append]
 refine RT.nilG rfl rfl rfl ?_
 refine RT.ldS T rfl hx.cons hu rfl rfl rfl ?_
 cases v
 ·try refine gQ ?_
  refine AtQ.fin0 (H' := [Wr pw S]) Tryz.results197 ⟨rfl, S, ?_, rfl⟩ (fun w h => h) _ (by first | exact .inl rfl | exact .inr rfl)
  unfold fTruth
  rw [if_neg (by decide)]
  exact Wrt.nil hS
 ·try refine gQ ?_
  refine CT.tail 5 mixed (by kernel_rfl) ?_
  dsimp only [List.take_succ_cons, List.take_zero, List.drop_succ_cons, List.drop_zero]
  try refine gL ?_
  refine RT.ldB T rfl (rD (hO)) rfl rfl rfl rfl ?_
  skip
  refine RT.ldB T rfl (rD (hn)) rfl rfl rfl rfl ?_
  try refine gL ?_
  refine AtQ.tail ?_
  refine RT.call T rfl fR_ (tag_fn (n := num) (k := 0) hS (by decide) (by decide) (by omega) (by omega)) rfl rfl rfl ?_
  rintro _ _ ⟨rfl, rfl⟩
  rw [wsTag_put (k := 0) h1 (by omega) (by decide)]
  simp only [List.cons_append, List.nil_append]
  try refine gQ ?_
  refine RT.ldB T rfl (rD (hO)) rfl rfl rfl rfl ?_
  skip
  refine RT.call T rfl fR_ (writeVarint_fn (v := 1) (WS.put_ok hS _) ⟨by decide, by decide⟩) rfl rfl rfl ?_
  rintro _ _ ⟨rfl, rfl⟩
  simp only [List.cons_append, List.nil_append]
  try refine gL ?_
  refine AtQ.fin0 (H' := [Wr pw ((S.put _).put _)]) Tryz.results197 ⟨rfl, _, ?_, rfl⟩ (fun w h => h) _ (by first | exact .inl rfl | exact .inr rfl)
  unfold fTruth
  rw [if_pos rfl]
  exact (Wrt.put hS _).app (Wrt.put (WS.put_ok hS _) _)
theorem oneText_FieldDef_put {v : Txt} (hO : Rd B R (some ⟨pe, 0, none⟩) 1 1 2 [ptr pw, .int .i64 0]) (hn : Rd B R (some ⟨bn, 0, none⟩) 1 1 1 [.int .i32 num]) (ho : Rd B R (some ⟨bo, 0, none⟩) 1 1 1 [.func (.func g) #[] #[]]) (hg : al T.funs g = some gb) (hof : ∀ R, Sp B Tryz.prog g [.pointer (some ad)] R [] (fun v H' => v = .pointer (some (ad.add off)) ∧ H' = [])) (hx : StAt B R ad xs) (h1 : 1 ≤ num) (h2 : num ≤ 15) (hu : xs[off]? = some (vS v)) (hv : OkT v) (hS : S.ok) :
  Sp B Tryz.prog 205 [ptr pe, .pointer (some ad), ptr bo, ptr bn] R [Wr pw S] (fun u H' => u = .tuple #[] ∧ ∃ S', Wrt k S (fText num v) S' ∧ H' = [Wr pw S']) := by
 obtain ⟨v0, v1⟩ := hv
 refine Sp.body Tryz.func205 rfl Tryz.ntmps205 (by simp) ?_
 simp only [argE, List.cons_append, List.nil_append, Nat.zero_add, Nat.reduceAdd]
 try refine gL ?_
 refine RT.ldB T rfl (rD (ho)) rfl rfl rfl rfl ?_
 try refine gL ?_
 refine RT.callC T (caps := []) rfl rfl fR_ (hof _) hg rfl rfl ?_
 rintro _ _ ⟨rfl, rfl⟩
 simp only [List.nil_append]
 refine RT.nilG rfl rfl rfl ?_
 refine RT.ldS T rfl hx.cons hu rfl rfl rfl ?_
 try refine gQ ?_
 refine RT.nes (l := v) (l' := []) rfl rfl v0 (fun _ h => by cases h) rfl rfl (fun hc => ?_) (fun hc => ?_)
 ·try refine gQ ?_
  refine AtQ.fin0 (H' := [Wr pw S]) Tryz.results205 ⟨rfl, S, ?_, rfl⟩ (fun w h => h) _ (by first | exact .inl rfl | exact .inr rfl)
  unfold fText
  rw [if_pos hc]
  exact Wrt.nil hS
 ·try refine gQ ?_
  refine CT.tail 5 mixed (by kernel_rfl) ?_
  dsimp only [List.take_succ_cons, List.take_zero, List.drop_succ_cons, List.drop_zero]
  try refine gL ?_
  refine RT.ldB T rfl (rD (hO)) rfl rfl rfl rfl ?_
  skip
  refine RT.ldB T rfl (rD (hn)) rfl rfl rfl rfl ?_
  try refine gL ?_
  refine AtQ.tail ?_
  refine RT.call T rfl fR_ (tag_fn (n := num) (k := 2) hS (by decide) (by decide) (by omega) (by omega)) rfl rfl rfl ?_
  rintro _ _ ⟨rfl, rfl⟩
  rw [wsTag_put (k := 2) h1 (by omega) (by decide)]
  simp only [List.cons_append, List.nil_append]
  try refine gQ ?_
  refine RT.ldB T rfl (rD (hO)) rfl rfl rfl rfl ?_
  try refine gL ?_
  refine RT.convSB T rfl v0 rfl Tryz.underlying23 Tryz.underlying5 rfl rfl (fun a' c' hc' => ?_)
  refine RT.call T rfl fR_ (wbytes_fn (WS.put_ok hS _) (Ro.rd sE_ (by rw [ints_len]) hc') (by omega)) rfl rfl rfl ?_
  rintro _ _ ⟨rfl, rfl⟩
  simp only [List.cons_append, List.nil_append]
  try refine gL ?_
  refine AtQ.fin0 (H' := [Wr pw ((S.put _).put _)]) Tryz.results205 ⟨rfl, _, ?_, rfl⟩ (fun w h => h.fr (Ps := [_]) (R := Ro a' (ints .u8 v) :: R) fR_ |>.frd (Ps := [_]) (Qs := [_]) fR_) _ (by first | exact .inl rfl | exact .inr rfl)
  unfold fText fBytes
  rw [if_neg hc]
  exact (Wrt.put hS _).app (Wrt.put (WS.put_ok hS _) _)
theorem small_FieldDef_Card_put {v : Int} (hO : Rd B R (some ⟨pe, 0, none⟩) 1 1 2 [ptr pw, .int .i64 0]) (hn : Rd B R (some ⟨bn, 0, none⟩) 1 1 1 [.int .i32 num]) (ho : Rd B R (some ⟨bo, 0, none⟩) 1 1 1 [.func (.func g) #[] #[]]) (hg : al T.funs g = some gb) (hof : ∀ R, Sp B Tryz.prog g [.pointer (some ad)] R [] (fun v H' => v = .pointer (some (ad.add off)) ∧ H' = [])) (hx : StAt B R ad xs) (h1 : 1 ≤ num) (h2 : num ≤ 15) (hu : xs[off]? = some (.int .u8 v)) (hv : U8 v) (hS : S.ok) :
  Sp B Tryz.prog 209 [ptr pe, .pointer (some ad), ptr bo, ptr bn] R [Wr pw S] (fun u H' => u = .tuple #[] ∧ ∃ S', Wrt k S (fSmall num v) S' ∧ H' = [Wr pw S']) := by
 obtain ⟨v0, v1⟩ := hv
 refine Sp.body Tryz.func209 rfl Tryz.ntmps209 (by simp) ?_
 simp only [argE, List.cons_append, List.nil_append, Nat.zero_add, Nat.reduceAdd]
 try refine gL ?_
 refine RT.ldB T rfl (rD (ho)) rfl rfl rfl rfl ?_
 try refine gL ?_
 refine RT.callC T (caps := []) rfl rfl fR_ (hof _) hg rfl rfl ?_
 rintro _ _ ⟨rfl, rfl⟩
 simp only [List.nil_append]
 refine RT.nilG rfl rfl rfl ?_
 refine RT.ldS T rfl hx.cons hu rfl rfl rfl ?_
 repeat' (first|refine gQ ?_|(refine gv ?_;(refine⟨fun hc=>?_,fun hc=>?_⟩<;>first|(exfalso;omega)|skip))|fail)
 ·refine AtQ.fin0 (H' := [Wr pw S]) Tryz.results209 ⟨rfl, S, ?_, rfl⟩ (fun w h => h) _ (by first | exact .inl rfl | exact .inr rfl)
  unfold fSmall
  rw [if_pos hc]
  exact Wrt.nil hS
 ·
  refine CT.tail 5 mixed (by kernel_rfl) ?_
  dsimp only [List.take_succ_cons, List.take_zero, List.drop_succ_cons, List.drop_zero]
  try refine gL ?_
  refine RT.ldB T rfl (rD (hO)) rfl rfl rfl rfl ?_
  skip
  refine RT.ldB T rfl (rD (hn)) rfl rfl rfl rfl ?_
  try refine gL ?_
  refine AtQ.tail ?_
  refine RT.call T rfl fR_ (tag_fn (n := num) (k := 0) hS (by decide) (by decide) (by omega) (by omega)) rfl rfl rfl ?_
  rintro _ _ ⟨rfl, rfl⟩
  rw [wsTag_put (k := 0) h1 (by omega) (by decide)]
  simp only [List.cons_append, List.nil_append]
  try refine gQ ?_
  refine RT.ldB T rfl (rD (hO)) rfl rfl rfl rfl ?_
  repeat' (first|refine gL ?_|(refine gv ?_;refine gk ?_)|fail)
  refine RT.call T rfl fR_ (writeVarint_fn (v := v) (WS.put_ok hS _) ⟨by omega, by omega⟩) rfl rfl rfl ?_
  rintro _ _ ⟨rfl, rfl⟩
  simp only [List.cons_append, List.nil_append]
  try refine gL ?_
  refine AtQ.fin0 (H' := [Wr pw ((S.put _).put _)]) Tryz.results209 ⟨rfl, _, ?_, rfl⟩ (fun w h => h) _ (by first | exact .inl rfl | exact .inr rfl)
  unfold fSmall
  rw [if_neg hc]
  exact (Wrt.put hS _).app (Wrt.put (WS.put_ok hS _) _)
theorem small_FieldDef_Kind_put {v : Int} (hO : Rd B R (some ⟨pe, 0, none⟩) 1 1 2 [ptr pw, .int .i64 0]) (hn : Rd B R (some ⟨bn, 0, none⟩) 1 1 1 [.int .i32 num]) (ho : Rd B R (some ⟨bo, 0, none⟩) 1 1 1 [.func (.func g) #[] #[]]) (hg : al T.funs g = some gb) (hof : ∀ R, Sp B Tryz.prog g [.pointer (some ad)] R [] (fun v H' => v = .pointer (some (ad.add off)) ∧ H' = [])) (hx : StAt B R ad xs) (h1 : 1 ≤ num) (h2 : num ≤ 15) (hu : xs[off]? = some (.int .u8 v)) (hv : U8 v) (hS : S.ok) :
  Sp B Tryz.prog 211 [ptr pe, .pointer (some ad), ptr bo, ptr bn] R [Wr pw S] (fun u H' => u = .tuple #[] ∧ ∃ S', Wrt k S (fSmall num v) S' ∧ H' = [Wr pw S']) := by
 obtain ⟨v0, v1⟩ := hv
 refine Sp.body Tryz.func211 rfl Tryz.ntmps211 (by simp) ?_
 simp only [argE, List.cons_append, List.nil_append, Nat.zero_add, Nat.reduceAdd]
 try refine gL ?_
 refine RT.ldB T rfl (rD (ho)) rfl rfl rfl rfl ?_
 try refine gL ?_
 refine RT.callC T (caps := []) rfl rfl fR_ (hof _) hg rfl rfl ?_
 rintro _ _ ⟨rfl, rfl⟩
 simp only [List.nil_append]
 refine RT.nilG rfl rfl rfl ?_
 refine RT.ldS T rfl hx.cons hu rfl rfl rfl ?_
 repeat' (first|refine gQ ?_|(refine gv ?_;(refine⟨fun hc=>?_,fun hc=>?_⟩<;>first|(exfalso;omega)|skip))|fail)
 ·refine AtQ.fin0 (H' := [Wr pw S]) Tryz.results211 ⟨rfl, S, ?_, rfl⟩ (fun w h => h) _ (by first | exact .inl rfl | exact .inr rfl)
  unfold fSmall
  rw [if_pos hc]
  exact Wrt.nil hS
 ·
  refine CT.tail 5 mixed (by kernel_rfl) ?_
  dsimp only [List.take_succ_cons, List.take_zero, List.drop_succ_cons, List.drop_zero]
  try refine gL ?_
  refine RT.ldB T rfl (rD (hO)) rfl rfl rfl rfl ?_
  skip
  refine RT.ldB T rfl (rD (hn)) rfl rfl rfl rfl ?_
  try refine gL ?_
  refine AtQ.tail ?_
  refine RT.call T rfl fR_ (tag_fn (n := num) (k := 0) hS (by decide) (by decide) (by omega) (by omega)) rfl rfl rfl ?_
  rintro _ _ ⟨rfl, rfl⟩
  rw [wsTag_put (k := 0) h1 (by omega) (by decide)]
  simp only [List.cons_append, List.nil_append]
  try refine gQ ?_
  refine RT.ldB T rfl (rD (hO)) rfl rfl rfl rfl ?_
  repeat' (first|refine gL ?_|(refine gv ?_;refine gk ?_)|fail)
  refine RT.call T rfl fR_ (writeVarint_fn (v := v) (WS.put_ok hS _) ⟨by omega, by omega⟩) rfl rfl rfl ?_
  rintro _ _ ⟨rfl, rfl⟩
  simp only [List.cons_append, List.nil_append]
  try refine gL ?_
  refine AtQ.fin0 (H' := [Wr pw ((S.put _).put _)]) Tryz.results211 ⟨rfl, _, ?_, rfl⟩ (fun w h => h) _ (by first | exact .inl rfl | exact .inr rfl)
  unfold fSmall
  rw [if_neg hc]
  exact (Wrt.put hS _).app (Wrt.put (WS.put_ok hS _) _)
theorem small_FieldDef_Tri_put {v : Int} (hO : Rd B R (some ⟨pe, 0, none⟩) 1 1 2 [ptr pw, .int .i64 0]) (hn : Rd B R (some ⟨bn, 0, none⟩) 1 1 1 [.int .i32 num]) (ho : Rd B R (some ⟨bo, 0, none⟩) 1 1 1 [.func (.func g) #[] #[]]) (hg : al T.funs g = some gb) (hof : ∀ R, Sp B Tryz.prog g [.pointer (some ad)] R [] (fun v H' => v = .pointer (some (ad.add off)) ∧ H' = [])) (hx : StAt B R ad xs) (h1 : 1 ≤ num) (h2 : num ≤ 15) (hu : xs[off]? = some (.int .u8 v)) (hv : U8 v) (hS : S.ok) :
  Sp B Tryz.prog 215 [ptr pe, .pointer (some ad), ptr bo, ptr bn] R [Wr pw S] (fun u H' => u = .tuple #[] ∧ ∃ S', Wrt k S (fSmall num v) S' ∧ H' = [Wr pw S']) := by
 obtain ⟨v0, v1⟩ := hv
 refine Sp.body Tryz.func215 rfl Tryz.ntmps215 (by simp) ?_
 simp only [argE, List.cons_append, List.nil_append, Nat.zero_add, Nat.reduceAdd]
 try refine gL ?_
 refine RT.ldB T rfl (rD (ho)) rfl rfl rfl rfl ?_
 try refine gL ?_
 refine RT.callC T (caps := []) rfl rfl fR_ (hof _) hg rfl rfl ?_
 rintro _ _ ⟨rfl, rfl⟩
 simp only [List.nil_append]
 refine RT.nilG rfl rfl rfl ?_
 refine RT.ldS T rfl hx.cons hu rfl rfl rfl ?_
 repeat' (first|refine gQ ?_|(refine gv ?_;(refine⟨fun hc=>?_,fun hc=>?_⟩<;>first|(exfalso;omega)|skip))|fail)
 ·refine AtQ.fin0 (H' := [Wr pw S]) Tryz.results215 ⟨rfl, S, ?_, rfl⟩ (fun w h => h) _ (by first | exact .inl rfl | exact .inr rfl)
  unfold fSmall
  rw [if_pos hc]
  exact Wrt.nil hS
 ·
  refine CT.tail 5 mixed (by kernel_rfl) ?_
  dsimp only [List.take_succ_cons, List.take_zero, List.drop_succ_cons, List.drop_zero]
  try refine gL ?_
  refine RT.ldB T rfl (rD (hO)) rfl rfl rfl rfl ?_
  skip
  refine RT.ldB T rfl (rD (hn)) rfl rfl rfl rfl ?_
  try refine gL ?_
  refine AtQ.tail ?_
  refine RT.call T rfl fR_ (tag_fn (n := num) (k := 0) hS (by decide) (by decide) (by omega) (by omega)) rfl rfl rfl ?_
  rintro _ _ ⟨rfl, rfl⟩
  rw [wsTag_put (k := 0) h1 (by omega) (by decide)]
  simp only [List.cons_append, List.nil_append]
  try refine gQ ?_
  refine RT.ldB T rfl (rD (hO)) rfl rfl rfl rfl ?_
  repeat' (first|refine gL ?_|(refine gv ?_;refine gk ?_)|fail)
  refine RT.call T rfl fR_ (writeVarint_fn (v := v) (WS.put_ok hS _) ⟨by omega, by omega⟩) rfl rfl rfl ?_
  rintro _ _ ⟨rfl, rfl⟩
  simp only [List.cons_append, List.nil_append]
  try refine gL ?_
  refine AtQ.fin0 (H' := [Wr pw ((S.put _).put _)]) Tryz.results215 ⟨rfl, _, ?_, rfl⟩ (fun w h => h) _ (by first | exact .inl rfl | exact .inr rfl)
  unfold fSmall
  rw [if_neg hc]
  exact (Wrt.put hS _).app (Wrt.put (WS.put_ok hS _) _)
theorem oneText_MessageDef_put {v : Txt} (hO : Rd B R (some ⟨pe, 0, none⟩) 1 1 2 [ptr pw, .int .i64 0]) (hn : Rd B R (some ⟨bn, 0, none⟩) 1 1 1 [.int .i32 num]) (ho : Rd B R (some ⟨bo, 0, none⟩) 1 1 1 [.func (.func g) #[] #[]]) (hg : al T.funs g = some gb) (hof : ∀ R, Sp B Tryz.prog g [.pointer (some ad)] R [] (fun v H' => v = .pointer (some (ad.add off)) ∧ H' = [])) (hx : StAt B R ad xs) (h1 : 1 ≤ num) (h2 : num ≤ 15) (hu : xs[off]? = some (vS v)) (hv : OkT v) (hS : S.ok) :
  Sp B Tryz.prog 217 [ptr pe, .pointer (some ad), ptr bo, ptr bn] R [Wr pw S] (fun u H' => u = .tuple #[] ∧ ∃ S', Wrt k S (fText num v) S' ∧ H' = [Wr pw S']) := by
 obtain ⟨v0, v1⟩ := hv
 refine Sp.body Tryz.func217 rfl Tryz.ntmps217 (by simp) ?_
 simp only [argE, List.cons_append, List.nil_append, Nat.zero_add, Nat.reduceAdd]
 try refine gL ?_
 refine RT.ldB T rfl (rD (ho)) rfl rfl rfl rfl ?_
 try refine gL ?_
 refine RT.callC T (caps := []) rfl rfl fR_ (hof _) hg rfl rfl ?_
 rintro _ _ ⟨rfl, rfl⟩
 simp only [List.nil_append]
 refine RT.nilG rfl rfl rfl ?_
 refine RT.ldS T rfl hx.cons hu rfl rfl rfl ?_
 try refine gQ ?_
 refine RT.nes (l := v) (l' := []) rfl rfl v0 (fun _ h => by cases h) rfl rfl (fun hc => ?_) (fun hc => ?_)
 ·try refine gQ ?_
  refine AtQ.fin0 (H' := [Wr pw S]) Tryz.results217 ⟨rfl, S, ?_, rfl⟩ (fun w h => h) _ (by first | exact .inl rfl | exact .inr rfl)
  unfold fText
  rw [if_pos hc]
  exact Wrt.nil hS
 ·try refine gQ ?_
  refine CT.tail 5 mixed (by kernel_rfl) ?_
  dsimp only [List.take_succ_cons, List.take_zero, List.drop_succ_cons, List.drop_zero]
  try refine gL ?_
  refine RT.ldB T rfl (rD (hO)) rfl rfl rfl rfl ?_
  skip
  refine RT.ldB T rfl (rD (hn)) rfl rfl rfl rfl ?_
  try refine gL ?_
  refine AtQ.tail ?_
  refine RT.call T rfl fR_ (tag_fn (n := num) (k := 2) hS (by decide) (by decide) (by omega) (by omega)) rfl rfl rfl ?_
  rintro _ _ ⟨rfl, rfl⟩
  rw [wsTag_put (k := 2) h1 (by omega) (by decide)]
  simp only [List.cons_append, List.nil_append]
  try refine gQ ?_
  refine RT.ldB T rfl (rD (hO)) rfl rfl rfl rfl ?_
  try refine gL ?_
  refine RT.convSB T rfl v0 rfl Tryz.underlying23 Tryz.underlying5 rfl rfl (fun a' c' hc' => ?_)
  refine RT.call T rfl fR_ (wbytes_fn (WS.put_ok hS _) (Ro.rd sE_ (by rw [ints_len]) hc') (by omega)) rfl rfl rfl ?_
  rintro _ _ ⟨rfl, rfl⟩
  simp only [List.cons_append, List.nil_append]
  try refine gL ?_
  refine AtQ.fin0 (H' := [Wr pw ((S.put _).put _)]) Tryz.results217 ⟨rfl, _, ?_, rfl⟩ (fun w h => h.fr (Ps := [_]) (R := Ro a' (ints .u8 v) :: R) fR_ |>.frd (Ps := [_]) (Qs := [_]) fR_) _ (by first | exact .inl rfl | exact .inr rfl)
  unfold fText fBytes
  rw [if_neg hc]
  exact (Wrt.put hS _).app (Wrt.put (WS.put_ok hS _) _)
theorem oneText_Import_put {v : Txt} (hO : Rd B R (some ⟨pe, 0, none⟩) 1 1 2 [ptr pw, .int .i64 0]) (hn : Rd B R (some ⟨bn, 0, none⟩) 1 1 1 [.int .i32 num]) (ho : Rd B R (some ⟨bo, 0, none⟩) 1 1 1 [.func (.func g) #[] #[]]) (hg : al T.funs g = some gb) (hof : ∀ R, Sp B Tryz.prog g [.pointer (some ad)] R [] (fun v H' => v = .pointer (some (ad.add off)) ∧ H' = [])) (hx : StAt B R ad xs) (h1 : 1 ≤ num) (h2 : num ≤ 15) (hu : xs[off]? = some (vS v)) (hv : OkT v) (hS : S.ok) :
  Sp B Tryz.prog 235 [ptr pe, .pointer (some ad), ptr bo, ptr bn] R [Wr pw S] (fun u H' => u = .tuple #[] ∧ ∃ S', Wrt k S (fText num v) S' ∧ H' = [Wr pw S']) := by
 obtain ⟨v0, v1⟩ := hv
 refine Sp.body Tryz.func235 rfl Tryz.ntmps235 (by simp) ?_
 simp only [argE, List.cons_append, List.nil_append, Nat.zero_add, Nat.reduceAdd]
 try refine gL ?_
 refine RT.ldB T rfl (rD (ho)) rfl rfl rfl rfl ?_
 try refine gL ?_
 refine RT.callC T (caps := []) rfl rfl fR_ (hof _) hg rfl rfl ?_
 rintro _ _ ⟨rfl, rfl⟩
 simp only [List.nil_append]
 refine RT.nilG rfl rfl rfl ?_
 refine RT.ldS T rfl hx.cons hu rfl rfl rfl ?_
 try refine gQ ?_
 refine RT.nes (l := v) (l' := []) rfl rfl v0 (fun _ h => by cases h) rfl rfl (fun hc => ?_) (fun hc => ?_)
 ·try refine gQ ?_
  refine AtQ.fin0 (H' := [Wr pw S]) Tryz.results235 ⟨rfl, S, ?_, rfl⟩ (fun w h => h) _ (by first | exact .inl rfl | exact .inr rfl)
  unfold fText
  rw [if_pos hc]
  exact Wrt.nil hS
 ·try refine gQ ?_
  refine CT.tail 5 mixed (by kernel_rfl) ?_
  dsimp only [List.take_succ_cons, List.take_zero, List.drop_succ_cons, List.drop_zero]
  try refine gL ?_
  refine RT.ldB T rfl (rD (hO)) rfl rfl rfl rfl ?_
  skip
  refine RT.ldB T rfl (rD (hn)) rfl rfl rfl rfl ?_
  try refine gL ?_
  refine AtQ.tail ?_
  refine RT.call T rfl fR_ (tag_fn (n := num) (k := 2) hS (by decide) (by decide) (by omega) (by omega)) rfl rfl rfl ?_
  rintro _ _ ⟨rfl, rfl⟩
  rw [wsTag_put (k := 2) h1 (by omega) (by decide)]
  simp only [List.cons_append, List.nil_append]
  try refine gQ ?_
  refine RT.ldB T rfl (rD (hO)) rfl rfl rfl rfl ?_
  try refine gL ?_
  refine RT.convSB T rfl v0 rfl Tryz.underlying23 Tryz.underlying5 rfl rfl (fun a' c' hc' => ?_)
  refine RT.call T rfl fR_ (wbytes_fn (WS.put_ok hS _) (Ro.rd sE_ (by rw [ints_len]) hc') (by omega)) rfl rfl rfl ?_
  rintro _ _ ⟨rfl, rfl⟩
  simp only [List.cons_append, List.nil_append]
  try refine gL ?_
  refine AtQ.fin0 (H' := [Wr pw ((S.put _).put _)]) Tryz.results235 ⟨rfl, _, ?_, rfl⟩ (fun w h => h.fr (Ps := [_]) (R := Ro a' (ints .u8 v) :: R) fR_ |>.frd (Ps := [_]) (Qs := [_]) fR_) _ (by first | exact .inl rfl | exact .inr rfl)
  unfold fText fBytes
  rw [if_neg hc]
  exact (Wrt.put hS _).app (Wrt.put (WS.put_ok hS _) _)
theorem truth_Import_put {v : Bool} (hO : Rd B R (some ⟨pe, 0, none⟩) 1 1 2 [ptr pw, .int .i64 0]) (hn : Rd B R (some ⟨bn, 0, none⟩) 1 1 1 [.int .i32 num]) (ho : Rd B R (some ⟨bo, 0, none⟩) 1 1 1 [.func (.func g) #[] #[]]) (hg : al T.funs g = some gb) (hof : ∀ R, Sp B Tryz.prog g [.pointer (some ad)] R [] (fun v H' => v = .pointer (some (ad.add off)) ∧ H' = [])) (hx : StAt B R ad xs) (h1 : 1 ≤ num) (h2 : num ≤ 15) (hu : xs[off]? = some (.bool v)) (hS : S.ok) :
  Sp B Tryz.prog 237 [ptr pe, .pointer (some ad), ptr bo, ptr bn] R [Wr pw S] (fun u H' => u = .tuple #[] ∧ ∃ S', Wrt k S (fTruth num v) S' ∧ H' = [Wr pw S']) := by
 refine Sp.body Tryz.func237 rfl Tryz.ntmps237 (by simp) ?_
 simp only [argE, List.cons_append, List.nil_append, Nat.zero_add, Nat.reduceAdd]
 try refine gL ?_
 refine RT.ldB T rfl (rD (ho)) rfl rfl rfl rfl ?_
 try refine gL ?_
 refine RT.callC T (caps := []) rfl rfl fR_ (hof _) hg rfl rfl ?_
 rintro _ _ ⟨rfl, rfl⟩
 simp only [List.nil_append]
 refine RT.nilG rfl rfl rfl ?_
 refine RT.ldS T rfl hx.cons hu rfl rfl rfl ?_
 cases v
 ·try refine gQ ?_
  refine AtQ.fin0 (H' := [Wr pw S]) Tryz.results237 ⟨rfl, S, ?_, rfl⟩ (fun w h => h) _ (by first | exact .inl rfl | exact .inr rfl)
  unfold fTruth
  rw [if_neg (by decide)]
  exact Wrt.nil hS
 ·try refine gQ ?_
  refine CT.tail 5 mixed (by kernel_rfl) ?_
  dsimp only [List.take_succ_cons, List.take_zero, List.drop_succ_cons, List.drop_zero]
  try refine gL ?_
  refine RT.ldB T rfl (rD (hO)) rfl rfl rfl rfl ?_
  skip
  refine RT.ldB T rfl (rD (hn)) rfl rfl rfl rfl ?_
  try refine gL ?_
  refine AtQ.tail ?_
  refine RT.call T rfl fR_ (tag_fn (n := num) (k := 0) hS (by decide) (by decide) (by omega) (by omega)) rfl rfl rfl ?_
  rintro _ _ ⟨rfl, rfl⟩
  rw [wsTag_put (k := 0) h1 (by omega) (by decide)]
  simp only [List.cons_append, List.nil_append]
  try refine gQ ?_
  refine RT.ldB T rfl (rD (hO)) rfl rfl rfl rfl ?_
  skip
  refine RT.call T rfl fR_ (writeVarint_fn (v := 1) (WS.put_ok hS _) ⟨by decide, by decide⟩) rfl rfl rfl ?_
  rintro _ _ ⟨rfl, rfl⟩
  simp only [List.cons_append, List.nil_append]
  try refine gL ?_
  refine AtQ.fin0 (H' := [Wr pw ((S.put _).put _)]) Tryz.results237 ⟨rfl, _, ?_, rfl⟩ (fun w h => h) _ (by first | exact .inl rfl | exact .inr rfl)
  unfold fTruth
  rw [if_pos rfl]
  exact (Wrt.put hS _).app (Wrt.put (WS.put_ok hS _) _)
theorem oneText_File_put {v : Txt} (hO : Rd B R (some ⟨pe, 0, none⟩) 1 1 2 [ptr pw, .int .i64 0]) (hn : Rd B R (some ⟨bn, 0, none⟩) 1 1 1 [.int .i32 num]) (ho : Rd B R (some ⟨bo, 0, none⟩) 1 1 1 [.func (.func g) #[] #[]]) (hg : al T.funs g = some gb) (hof : ∀ R, Sp B Tryz.prog g [.pointer (some ad)] R [] (fun v H' => v = .pointer (some (ad.add off)) ∧ H' = [])) (hx : StAt B R ad xs) (h1 : 1 ≤ num) (h2 : num ≤ 15) (hu : xs[off]? = some (vS v)) (hv : OkT v) (hS : S.ok) :
  Sp B Tryz.prog 239 [ptr pe, .pointer (some ad), ptr bo, ptr bn] R [Wr pw S] (fun u H' => u = .tuple #[] ∧ ∃ S', Wrt k S (fText num v) S' ∧ H' = [Wr pw S']) := by
 obtain ⟨v0, v1⟩ := hv
 refine Sp.body Tryz.func239 rfl Tryz.ntmps239 (by simp) ?_
 simp only [argE, List.cons_append, List.nil_append, Nat.zero_add, Nat.reduceAdd]
 try refine gL ?_
 refine RT.ldB T rfl (rD (ho)) rfl rfl rfl rfl ?_
 try refine gL ?_
 refine RT.callC T (caps := []) rfl rfl fR_ (hof _) hg rfl rfl ?_
 rintro _ _ ⟨rfl, rfl⟩
 simp only [List.nil_append]
 refine RT.nilG rfl rfl rfl ?_
 refine RT.ldS T rfl hx.cons hu rfl rfl rfl ?_
 try refine gQ ?_
 refine RT.nes (l := v) (l' := []) rfl rfl v0 (fun _ h => by cases h) rfl rfl (fun hc => ?_) (fun hc => ?_)
 ·try refine gQ ?_
  refine AtQ.fin0 (H' := [Wr pw S]) Tryz.results239 ⟨rfl, S, ?_, rfl⟩ (fun w h => h) _ (by first | exact .inl rfl | exact .inr rfl)
  unfold fText
  rw [if_pos hc]
  exact Wrt.nil hS
 ·try refine gQ ?_
  refine CT.tail 5 mixed (by kernel_rfl) ?_
  dsimp only [List.take_succ_cons, List.take_zero, List.drop_succ_cons, List.drop_zero]
  try refine gL ?_
  refine RT.ldB T rfl (rD (hO)) rfl rfl rfl rfl ?_
  skip
  refine RT.ldB T rfl (rD (hn)) rfl rfl rfl rfl ?_
  try refine gL ?_
  refine AtQ.tail ?_
  refine RT.call T rfl fR_ (tag_fn (n := num) (k := 2) hS (by decide) (by decide) (by omega) (by omega)) rfl rfl rfl ?_
  rintro _ _ ⟨rfl, rfl⟩
  rw [wsTag_put (k := 2) h1 (by omega) (by decide)]
  simp only [List.cons_append, List.nil_append]
  try refine gQ ?_
  refine RT.ldB T rfl (rD (hO)) rfl rfl rfl rfl ?_
  try refine gL ?_
  refine RT.convSB T rfl v0 rfl Tryz.underlying23 Tryz.underlying5 rfl rfl (fun a' c' hc' => ?_)
  refine RT.call T rfl fR_ (wbytes_fn (WS.put_ok hS _) (Ro.rd sE_ (by rw [ints_len]) hc') (by omega)) rfl rfl rfl ?_
  rintro _ _ ⟨rfl, rfl⟩
  simp only [List.cons_append, List.nil_append]
  try refine gL ?_
  refine AtQ.fin0 (H' := [Wr pw ((S.put _).put _)]) Tryz.results239 ⟨rfl, _, ?_, rfl⟩ (fun w h => h.fr (Ps := [_]) (R := Ro a' (ints .u8 v) :: R) fR_ |>.frd (Ps := [_]) (Qs := [_]) fR_) _ (by first | exact .inl rfl | exact .inr rfl)
  unfold fText fBytes
  rw [if_neg hc]
  exact (Wrt.put hS _).app (Wrt.put (WS.put_ok hS _) _)
end Go.Proofs.YtclcnhfponjdaaaGreatDoor
end
section
namespace Go.Proofs.YtclcnhfponjdaaaGreatDoor
open Go.Sk
set_option maxRecDepth 100000
theorem fTexts_snoc {num : Int} {l : List Txt} {i : Nat} {x : Txt} (h : l[i]? = some x) : fTexts num (l.take (i + 1)) = fTexts num (l.take i) ++ fBytes num x := by
 unfold fTexts
 rw [List.take_add_one, h, List.flatMap_append]
 simp
theorem fRecs_snoc {α : Type} {num : Int} {f : α → Txt} {l : List α} {i : Nat} {x : α} (h : l[i]? = some x) : fRecs num f (l.take (i + 1)) = fRecs num f (l.take i) ++ fBytes num (f x) := by
 unfold fRecs
 rw [List.take_add_one, h, List.flatMap_append]
 simp
theorem map_get {l : List Txt} {j : Nat} (h : j < l.length) : (l.map vS)[j]? = some (vS l[j]) := by rw [List.getElem?_map, List.getElem?_eq_getElem h]; rfl
attribute [local irreducible] Cs Own Ex Pu Yld RT LJ QJ AtQ CT Rd QSp Sp FinQ Then LoopQ CutQ DT TakeQ EffQ
attribute [local irreducible] Wr StAt
variable {B : World} {R : List HP} {pe pw bn bo off k : Nat} {num : Int} {g : FuncId} {gb : Bool} {ad : Addr} {xs : List Value} {S : WS}
set_option maxHeartbeats 1000000 in
theorem someTexts_EnumDef_put {v : Rw Txt} (hO : Rd B R (some ⟨pe, 0, none⟩) 1 1 2 [ptr pw, .int .i64 0]) (hn : Rd B R (some ⟨bn, 0, none⟩) 1 1 1 [.int .i32 num]) (ho : Rd B R (some ⟨bo, 0, none⟩) 1 1 1 [.func (.func g) #[] #[]]) (hg : al T.funs g = some gb) (hof : ∀ R, Sp B Tryz.prog g [.pointer (some ad)] R [] (fun v H' => v = .pointer (some (ad.add off)) ∧ H' = [])) (hx : StAt B R ad xs) (h1 : 1 ≤ num) (h2 : num ≤ 15) (hu : xs[off]? = some v.v) (hv : ∀ t ∈ v.l, OkT t) (hvl : v.l.length ≤ 140737488355328) (hvR : Rd B R v.a v.l.length v.c 1 (v.l.map vS)) (hS : S.ok) :
  Sp B Tryz.prog 203 [ptr pe, .pointer (some ad), ptr bo, ptr bn] R [Wr pw S] (fun u H' => u = .tuple #[] ∧ ∃ S', Wrt k S (fTexts num v.l) S' ∧ H' = [Wr pw S']) := by
 obtain ⟨va, vc, l⟩ := v
 simp only [Rw.v] at *
 refine Sp.body Tryz.func203 rfl Tryz.ntmps203 (by simp) ?_
 simp only [argE, List.cons_append, List.nil_append, Nat.zero_add, Nat.reduceAdd]
 try refine gL ?_
 refine RT.ldB T rfl (rD (ho)) rfl rfl rfl rfl ?_
 try refine gL ?_
 refine RT.callC T (caps := []) rfl rfl fR_ (hof _) hg rfl rfl ?_
 rintro _ _ ⟨rfl, rfl⟩
 simp only [List.nil_append]
 refine RT.nilG rfl rfl rfl ?_
 refine RT.ldS T rfl hx.cons hu rfl rfl rfl ?_
 try refine gL ?_
 refine CT.loop (α := Nat × WS) (fun s => [(0, ptr pe), (1, .pointer (some ad)), (2, ptr bo), (3, ptr bn), (12, .slice va l.length vc), (13, .int .i64 l.length), (14, .int .i64 s.1)]) (fun s => Pu (s.1 ≤ l.length ∧ Wrt k S (fTexts num (l.take s.1)) s.2) :: Wr pw s.2 :: R) (fun s => l.length - s.1) (0, S)
  ⟨rfl, rfl, rfl, rfl, rfl, rfl, rfl, trivial⟩ (fun w h => Sat.pu_in ⟨Nat.zero_le _, by rw [List.take_zero]; exact Wrt.nil hS⟩ h) (fun ⟨i, S1⟩ => CT.pu fun ⟨hi, hw⟩ => ?_)
 dsimp only at hi hw ⊢
 have hS := hw.ok
 repeat' (first|refine gL ?_|(refine gv ?_;(refine⟨fun hc=>?_,fun hc=>?_⟩<;>first|(exfalso;omega)|skip))|fail)
 ·have hil : i < l.length := by omega
  have hgi := List.getElem?_eq_getElem hil
  have hto := hv l[i] (List.getElem_mem hil)
  refine RT.ix T (j := i) rfl rfl rfl (rD (hvR)) (by omega) (by omega) (by omega) rfl rfl ?_
  refine RT.ldr T rfl (rD (hvR)) (map_get hil) rfl rfl rfl ?_
  revert hgi hto
  generalize l[i] = t
  intro hgi hto
  obtain ⟨v0, v1⟩ := hto
  try refine gQ ?_
  refine CT.tail 5 mixed (by kernel_rfl) ?_
  dsimp only [List.take_succ_cons, List.take_zero, List.drop_succ_cons, List.drop_zero]
  try refine gL ?_
  refine RT.ldB T rfl (rD (hO)) rfl rfl rfl rfl ?_
  skip
  refine RT.ldB T rfl (rD (hn)) rfl rfl rfl rfl ?_
  try refine gL ?_
  refine AtQ.tail ?_
  refine RT.call T rfl fR_ (tag_fn (n := num) (k := 2) hS (by decide) (by decide) (by omega) (by omega)) rfl rfl rfl ?_
  rintro _ _ ⟨rfl, rfl⟩
  rw [wsTag_put (k := 2) h1 (by omega) (by decide)]
  simp only [List.cons_append, List.nil_append]
  try refine gQ ?_
  refine RT.ldB T rfl (rD (hO)) rfl rfl rfl rfl ?_
  try refine gL ?_
  refine RT.convSB T rfl v0 rfl Tryz.underlying23 Tryz.underlying5 rfl rfl (fun a' c' hc' => ?_)
  refine RT.call T rfl fR_ (wbytes_fn (WS.put_ok hS _) (Ro.rd sE_ (by rw [ints_len]) hc') (by omega)) rfl rfl rfl ?_
  rintro _ _ ⟨rfl, rfl⟩
  simp only [List.cons_append, List.nil_append]
  repeat' (first|refine gL ?_|(refine gv ?_;refine gk ?_)|fail)
  refine AtQ.loop (i + 1, (S1.put _).put _) ⟨rfl, rfl, rfl, rfl, rfl, rfl, rfl, trivial⟩ (fun w h => Sat.pu_in ⟨by omega, by rw [fTexts_snoc hgi]; exact hw.app ((Wrt.put hS _).app (Wrt.put (WS.put_ok hS _) _))⟩ (h.frd (Ps := [_]) (Qs := [_]) fR_)) (by dsimp only; omega)
 ·obtain rfl : i = l.length := by omega
  rw [List.take_length] at hw
  exact AtQ.fin0 (H' := [Wr pw S1]) Tryz.results203 ⟨rfl, S1, hw, rfl⟩ (fun w h => h) _ (by first | exact .inl rfl | exact .inr rfl)
set_option maxHeartbeats 1000000 in
theorem someTexts_MessageDef_put {v : Rw Txt} (hO : Rd B R (some ⟨pe, 0, none⟩) 1 1 2 [ptr pw, .int .i64 0]) (hn : Rd B R (some ⟨bn, 0, none⟩) 1 1 1 [.int .i32 num]) (ho : Rd B R (some ⟨bo, 0, none⟩) 1 1 1 [.func (.func g) #[] #[]]) (hg : al T.funs g = some gb) (hof : ∀ R, Sp B Tryz.prog g [.pointer (some ad)] R [] (fun v H' => v = .pointer (some (ad.add off)) ∧ H' = [])) (hx : StAt B R ad xs) (h1 : 1 ≤ num) (h2 : num ≤ 15) (hu : xs[off]? = some v.v) (hv : ∀ t ∈ v.l, OkT t) (hvl : v.l.length ≤ 140737488355328) (hvR : Rd B R v.a v.l.length v.c 1 (v.l.map vS)) (hS : S.ok) :
  Sp B Tryz.prog 223 [ptr pe, .pointer (some ad), ptr bo, ptr bn] R [Wr pw S] (fun u H' => u = .tuple #[] ∧ ∃ S', Wrt k S (fTexts num v.l) S' ∧ H' = [Wr pw S']) := by
 obtain ⟨va, vc, l⟩ := v
 simp only [Rw.v] at *
 refine Sp.body Tryz.func223 rfl Tryz.ntmps223 (by simp) ?_
 simp only [argE, List.cons_append, List.nil_append, Nat.zero_add, Nat.reduceAdd]
 try refine gL ?_
 refine RT.ldB T rfl (rD (ho)) rfl rfl rfl rfl ?_
 try refine gL ?_
 refine RT.callC T (caps := []) rfl rfl fR_ (hof _) hg rfl rfl ?_
 rintro _ _ ⟨rfl, rfl⟩
 simp only [List.nil_append]
 refine RT.nilG rfl rfl rfl ?_
 refine RT.ldS T rfl hx.cons hu rfl rfl rfl ?_
 try refine gL ?_
 refine CT.loop (α := Nat × WS) (fun s => [(0, ptr pe), (1, .pointer (some ad)), (2, ptr bo), (3, ptr bn), (12, .slice va l.length vc), (13, .int .i64 l.length), (14, .int .i64 s.1)]) (fun s => Pu (s.1 ≤ l.length ∧ Wrt k S (fTexts num (l.take s.1)) s.2) :: Wr pw s.2 :: R) (fun s => l.length - s.1) (0, S)
  ⟨rfl, rfl, rfl, rfl, rfl, rfl, rfl, trivial⟩ (fun w h => Sat.pu_in ⟨Nat.zero_le _, by rw [List.take_zero]; exact Wrt.nil hS⟩ h) (fun ⟨i, S1⟩ => CT.pu fun ⟨hi, hw⟩ => ?_)
 dsimp only at hi hw ⊢
 have hS := hw.ok
 repeat' (first|refine gL ?_|(refine gv ?_;(refine⟨fun hc=>?_,fun hc=>?_⟩<;>first|(exfalso;omega)|skip))|fail)
 ·have hil : i < l.length := by omega
  have hgi := List.getElem?_eq_getElem hil
  have hto := hv l[i] (List.getElem_mem hil)
  refine RT.ix T (j := i) rfl rfl rfl (rD (hvR)) (by omega) (by omega) (by omega) rfl rfl ?_
  refine RT.ldr T rfl (rD (hvR)) (map_get hil) rfl rfl rfl ?_
  revert hgi hto
  generalize l[i] = t
  intro hgi hto
  obtain ⟨v0, v1⟩ := hto
  try refine gQ ?_
  refine CT.tail 5 mixed (by kernel_rfl) ?_
  dsimp only [List.take_succ_cons, List.take_zero, List.drop_succ_cons, List.drop_zero]
  try refine gL ?_
  refine RT.ldB T rfl (rD (hO)) rfl rfl rfl rfl ?_
  skip
  refine RT.ldB T rfl (rD (hn)) rfl rfl rfl rfl ?_
  try refine gL ?_
  refine AtQ.tail ?_
  refine RT.call T rfl fR_ (tag_fn (n := num) (k := 2) hS (by decide) (by decide) (by omega) (by omega)) rfl rfl rfl ?_
  rintro _ _ ⟨rfl, rfl⟩
  rw [wsTag_put (k := 2) h1 (by omega) (by decide)]
  simp only [List.cons_append, List.nil_append]
  try refine gQ ?_
  refine RT.ldB T rfl (rD (hO)) rfl rfl rfl rfl ?_
  try refine gL ?_
  refine RT.convSB T rfl v0 rfl Tryz.underlying23 Tryz.underlying5 rfl rfl (fun a' c' hc' => ?_)
  refine RT.call T rfl fR_ (wbytes_fn (WS.put_ok hS _) (Ro.rd sE_ (by rw [ints_len]) hc') (by omega)) rfl rfl rfl ?_
  rintro _ _ ⟨rfl, rfl⟩
  simp only [List.cons_append, List.nil_append]
  repeat' (first|refine gL ?_|(refine gv ?_;refine gk ?_)|fail)
  refine AtQ.loop (i + 1, (S1.put _).put _) ⟨rfl, rfl, rfl, rfl, rfl, rfl, rfl, trivial⟩ (fun w h => Sat.pu_in ⟨by omega, by rw [fTexts_snoc hgi]; exact hw.app ((Wrt.put hS _).app (Wrt.put (WS.put_ok hS _) _))⟩ (h.frd (Ps := [_]) (Qs := [_]) fR_)) (by dsimp only; omega)
 ·obtain rfl : i = l.length := by omega
  rw [List.take_length] at hw
  exact AtQ.fin0 (H' := [Wr pw S1]) Tryz.results223 ⟨rfl, S1, hw, rfl⟩ (fun w h => h) _ (by first | exact .inl rfl | exact .inr rfl)
end Go.Proofs.YtclcnhfponjdaaaGreatDoor
end
section
namespace Go.Proofs.YtclcnhfponjdaaaGreatDoor
open Go.Sk
set_option maxRecDepth 100000
attribute [local irreducible] Cs Own Ex Pu Yld RT LJ QJ AtQ CT Rd QSp Sp FinQ Then LoopQ CutQ DT TakeQ EffQ
attribute [local irreducible] Wr StAt
variable {B : World} {R : List HP} {pe pw bn bo off k : Nat} {num : Int} {g : FuncId} {gb : Bool} {ad : Addr} {xs : List Value} {S : WS}
variable {bl : Nat} {fa : Addr} {fl : List Value}
set_option maxHeartbeats 2000000 in
theorem some_EnumDef_EnumValue_put {α : Type} {cl : α → List Value} {bs : α → Txt} {p rn rc : Nat} {ra : Option Addr} {v : Rw α} (hO : Rd B R (some ⟨pe, 0, none⟩) 1 1 2 [ptr pw, .int .i64 0]) (hn : Rd B R (some ⟨bn, 0, none⟩) 1 1 1 [.int .i32 num]) (ho : Rd B R (some ⟨bo, 0, none⟩) 1 1 1 [.func (.func g) #[] #[]]) (hg : al T.funs g = some gb) (hof : ∀ R, Sp B Tryz.prog g [.pointer (some ad)] R [] (fun v H' => v = .pointer (some (ad.add off)) ∧ H' = [])) (hx : StAt B R ad xs) (h1 : 1 ≤ num) (h2 : num ≤ 15)
  (hb : Rd B R (some ⟨bl, 0, none⟩) 1 1 1 [.pointer (some ⟨p, 6, none⟩)]) (hF : Rd B R (some ⟨p, 0, none⟩) 1 1 8 fl) (hfl : fl[6]? = some (.slice ra rn rc)) (hcl : ∀ x, (cl x).length = 2)
  (hu : xs[off]? = some v.v) (hvl : v.l.length ≤ 140737488355328) (hvR : Rd B R v.a v.l.length v.c 2 (v.l.flatMap cl))
  (hall : ∀ (i : Nat) (x : α), v.l[i]? = some x → ∀ (H : List HP) (S : WS), Wok k S → Sp B Tryz.prog 192 [.slice ra rn rc, ptr pe, .pointer (some ((adr v.a).add (i * 2)))] (H ++ R) [Wr pw S] (fun u H' => u = .tuple #[] ∧ ∃ S', Wrt k S (bs x) S' ∧ H' = [Wr pw S'])) (hS : Wok (k + 1) S) :
  Sp B Tryz.prog 190 [ptr pe, .pointer (some ad), ptr bo, ptr bn, ptr bl] R [Wr pw S] (fun u H' => u = .tuple #[] ∧ ∃ S', Wrt (k + 1) S (fRecs num bs v.l) S' ∧ H' = [Wr pw S']) := by
 obtain ⟨va, vc, l⟩ := v
 simp only [Rw.v] at *
 refine Sp.body Tryz.func190 rfl Tryz.ntmps190 (by simp) ?_
 simp only [argE, List.cons_append, List.nil_append, Nat.zero_add, Nat.reduceAdd]
 try refine gL ?_
 refine RT.ldB T rfl (rD (ho)) rfl rfl rfl rfl ?_
 try refine gL ?_
 refine RT.callC T (caps := []) rfl rfl fR_ (hof _) hg rfl rfl ?_
 rintro _ _ ⟨rfl, rfl⟩
 simp only [List.nil_append]
 refine RT.nilG rfl rfl rfl ?_
 refine RT.ldS T rfl hx.cons hu rfl rfl rfl ?_
 try refine gL ?_
 refine CT.loop (α := Nat × WS) (fun s => [(0, ptr pe), (1, .pointer (some ad)), (2, ptr bo), (3, ptr bn), (4, ptr bl), (14, .int .i64 l.length), (15, .int .i64 s.1)]) (fun s => Pu (s.1 ≤ l.length ∧ Wrt (k + 1) S (fRecs num bs (l.take s.1)) s.2) :: Wr pw s.2 :: R) (fun s => l.length - s.1) (0, S)
  ⟨rfl, rfl, rfl, rfl, rfl, rfl, rfl, trivial⟩ (fun w h => Sat.pu_in ⟨Nat.zero_le _, by rw [List.take_zero]; exact Wrt.nil hS.1⟩ h) (fun ⟨i, S1⟩ => CT.pu fun ⟨hi, hw⟩ => ?_)
 dsimp only at hi hw ⊢
 have hS1 := hw.wok hS
 have hS := hS1.1
 repeat' (first|refine gQ ?_|(refine gv ?_;(refine⟨fun hc=>?_,fun hc=>?_⟩<;>first|(exfalso;omega)|skip))|fail)
 ·have hil : i < l.length := by omega
  have hgi := List.getElem?_eq_getElem hil
  revert hgi
  generalize l[i] = x
  intro hgi
  refine CT.tail 5 mixed (by kernel_rfl) ?_
  dsimp only [List.take_succ_cons, List.take_zero, List.drop_succ_cons, List.drop_zero]
  try refine gL ?_
  refine RT.ldB T rfl (rD (hO)) rfl rfl rfl rfl ?_
  skip
  refine RT.ldB T rfl (rD (hn)) rfl rfl rfl rfl ?_
  try refine gL ?_
  refine AtQ.tail ?_
  refine RT.call T rfl fR_ (tag_fn (n := num) (k := 2) hS (by decide) (by decide) (by omega) (by omega)) rfl rfl rfl ?_
  rintro _ _ ⟨rfl, rfl⟩
  rw [wsTag_put (k := 2) h1 (by omega) (by decide)]
  simp only [List.cons_append, List.nil_append]
  try refine gQ ?_
  refine RT.ldB T rfl (rD (hO)) rfl rfl rfl rfl ?_
  have hS2 := hS1.put (enc (num * 8 + 2))
  refine RT.call T rfl fR_ (open_fn (by have := hS2.1; unfold WS.ok at this; omega) (by have := hS2.2.1; omega)) rfl rfl rfl ?_
  rintro _ _ ⟨rfl, rfl⟩
  simp only [List.cons_append, List.nil_append]
  try refine gQ ?_
  refine CT.tail 11 mixed (by kernel_rfl) ?_
  dsimp only [List.take_succ_cons, List.take_zero, List.drop_succ_cons, List.drop_zero]
  skip
  refine RT.ldB T rfl (rD (hb)) rfl rfl rfl rfl ?_
  refine RT.nilG rfl rfl rfl ?_
  refine RT.ldB T rfl (rD (hF)) hfl rfl rfl rfl ?_
  try refine gL ?_
  refine RT.ldB T rfl (rD (ho)) rfl rfl rfl rfl ?_
  refine RT.mv1 rfl rfl rfl ?_
  refine RT.qcallC T (caps := []) rfl rfl (QSp.of fR_ (hof _)) hg rfl rfl ?_
  refine RT.nilG rfl rfl rfl ?_
  refine RT.ldS T rfl hx.cons hu rfl rfl rfl ?_
  try refine gL ?_
  refine RT.ix T (j := i * 2) rfl rfl rfl (rD (hvR)) (by omega) (by omega) (by omega) rfl rfl ?_
  try refine gL ?_
  refine AtQ.tail ?_
  refine RT.call T rfl fR_ (hall i x hgi [] _ hS2.open_) rfl rfl rfl ?_
  rintro _ _ ⟨rfl, S3, hS3, rfl⟩
  simp only [List.cons_append, List.nil_append]
  have hS4 := hS3.wok hS2.open_
  try refine gL ?_
  refine RT.ldB T rfl (rD (hO)) rfl rfl rfl rfl ?_
  try refine gL ?_
  refine RT.call T rfl fR_ (shut_fn hS4.1 (by have := hS4.2.1; omega) (fun he => (hS4.2.2 he).1)) rfl rfl rfl ?_
  rintro _ _ ⟨rfl, rfl⟩
  simp only [List.cons_append, List.nil_append]
  repeat' (first|refine gL ?_|(refine gv ?_;refine gk ?_)|fail)
  refine AtQ.loop (i + 1, _) ⟨rfl, rfl, rfl, rfl, rfl, rfl, rfl, trivial⟩ (fun w h => Sat.pu_in ⟨by omega, by rw [fRecs_snoc hgi]; exact hw.app (Wrt.record hS1 hS3)⟩ h) (by dsimp only; omega)
 ·obtain rfl : i = l.length := by omega
  rw [List.take_length] at hw
  exact AtQ.fin0 (H' := [Wr pw S1]) Tryz.results190 ⟨rfl, S1, hw, rfl⟩ (fun w h => h) _ (by first | exact .inl rfl | exact .inr rfl)
set_option maxHeartbeats 2000000 in
theorem some_EnumDef_Span_put {α : Type} {cl : α → List Value} {bs : α → Txt} {p rn rc : Nat} {ra : Option Addr} {v : Rw α} (hO : Rd B R (some ⟨pe, 0, none⟩) 1 1 2 [ptr pw, .int .i64 0]) (hn : Rd B R (some ⟨bn, 0, none⟩) 1 1 1 [.int .i32 num]) (ho : Rd B R (some ⟨bo, 0, none⟩) 1 1 1 [.func (.func g) #[] #[]]) (hg : al T.funs g = some gb) (hof : ∀ R, Sp B Tryz.prog g [.pointer (some ad)] R [] (fun v H' => v = .pointer (some (ad.add off)) ∧ H' = [])) (hx : StAt B R ad xs) (h1 : 1 ≤ num) (h2 : num ≤ 15)
  (hb : Rd B R (some ⟨bl, 0, none⟩) 1 1 1 [.pointer (some ⟨p, 7, none⟩)]) (hF : Rd B R (some ⟨p, 0, none⟩) 1 1 8 fl) (hfl : fl[7]? = some (.slice ra rn rc)) (hcl : ∀ x, (cl x).length = 2)
  (hu : xs[off]? = some v.v) (hvl : v.l.length ≤ 140737488355328) (hvR : Rd B R v.a v.l.length v.c 2 (v.l.flatMap cl))
  (hall : ∀ (i : Nat) (x : α), v.l[i]? = some x → ∀ (H : List HP) (S : WS), Wok k S → Sp B Tryz.prog 200 [.slice ra rn rc, ptr pe, .pointer (some ((adr v.a).add (i * 2)))] (H ++ R) [Wr pw S] (fun u H' => u = .tuple #[] ∧ ∃ S', Wrt k S (bs x) S' ∧ H' = [Wr pw S'])) (hS : Wok (k + 1) S) :
  Sp B Tryz.prog 199 [ptr pe, .pointer (some ad), ptr bo, ptr bn, ptr bl] R [Wr pw S] (fun u H' => u = .tuple #[] ∧ ∃ S', Wrt (k + 1) S (fRecs num bs v.l) S' ∧ H' = [Wr pw S']) := by
 obtain ⟨va, vc, l⟩ := v
 simp only [Rw.v] at *
 refine Sp.body Tryz.func199 rfl Tryz.ntmps199 (by simp) ?_
 simp only [argE, List.cons_append, List.nil_append, Nat.zero_add, Nat.reduceAdd]
 try refine gL ?_
 refine RT.ldB T rfl (rD (ho)) rfl rfl rfl rfl ?_
 try refine gL ?_
 refine RT.callC T (caps := []) rfl rfl fR_ (hof _) hg rfl rfl ?_
 rintro _ _ ⟨rfl, rfl⟩
 simp only [List.nil_append]
 refine RT.nilG rfl rfl rfl ?_
 refine RT.ldS T rfl hx.cons hu rfl rfl rfl ?_
 try refine gL ?_
 refine CT.loop (α := Nat × WS) (fun s => [(0, ptr pe), (1, .pointer (some ad)), (2, ptr bo), (3, ptr bn), (4, ptr bl), (14, .int .i64 l.length), (15, .int .i64 s.1)]) (fun s => Pu (s.1 ≤ l.length ∧ Wrt (k + 1) S (fRecs num bs (l.take s.1)) s.2) :: Wr pw s.2 :: R) (fun s => l.length - s.1) (0, S)
  ⟨rfl, rfl, rfl, rfl, rfl, rfl, rfl, trivial⟩ (fun w h => Sat.pu_in ⟨Nat.zero_le _, by rw [List.take_zero]; exact Wrt.nil hS.1⟩ h) (fun ⟨i, S1⟩ => CT.pu fun ⟨hi, hw⟩ => ?_)
 dsimp only at hi hw ⊢
 have hS1 := hw.wok hS
 have hS := hS1.1
 repeat' (first|refine gQ ?_|(refine gv ?_;(refine⟨fun hc=>?_,fun hc=>?_⟩<;>first|(exfalso;omega)|skip))|fail)
 ·have hil : i < l.length := by omega
  have hgi := List.getElem?_eq_getElem hil
  revert hgi
  generalize l[i] = x
  intro hgi
  refine CT.tail 5 mixed (by kernel_rfl) ?_
  dsimp only [List.take_succ_cons, List.take_zero, List.drop_succ_cons, List.drop_zero]
  try refine gL ?_
  refine RT.ldB T rfl (rD (hO)) rfl rfl rfl rfl ?_
  skip
  refine RT.ldB T rfl (rD (hn)) rfl rfl rfl rfl ?_
  try refine gL ?_
  refine AtQ.tail ?_
  refine RT.call T rfl fR_ (tag_fn (n := num) (k := 2) hS (by decide) (by decide) (by omega) (by omega)) rfl rfl rfl ?_
  rintro _ _ ⟨rfl, rfl⟩
  rw [wsTag_put (k := 2) h1 (by omega) (by decide)]
  simp only [List.cons_append, List.nil_append]
  try refine gQ ?_
  refine RT.ldB T rfl (rD (hO)) rfl rfl rfl rfl ?_
  have hS2 := hS1.put (enc (num * 8 + 2))
  refine RT.call T rfl fR_ (open_fn (by have := hS2.1; unfold WS.ok at this; omega) (by have := hS2.2.1; omega)) rfl rfl rfl ?_
  rintro _ _ ⟨rfl, rfl⟩
  simp only [List.cons_append, List.nil_append]
  try refine gQ ?_
  refine CT.tail 11 mixed (by kernel_rfl) ?_
  dsimp only [List.take_succ_cons, List.take_zero, List.drop_succ_cons, List.drop_zero]
  skip
  refine RT.ldB T rfl (rD (hb)) rfl rfl rfl rfl ?_
  refine RT.nilG rfl rfl rfl ?_
  refine RT.ldB T rfl (rD (hF)) hfl rfl rfl rfl ?_
  try refine gL ?_
  refine RT.ldB T rfl (rD (ho)) rfl rfl rfl rfl ?_
  refine RT.mv1 rfl rfl rfl ?_
  refine RT.qcallC T (caps := []) rfl rfl (QSp.of fR_ (hof _)) hg rfl rfl ?_
  refine RT.nilG rfl rfl rfl ?_
  refine RT.ldS T rfl hx.cons hu rfl rfl rfl ?_
  try refine gL ?_
  refine RT.ix T (j := i * 2) rfl rfl rfl (rD (hvR)) (by omega) (by omega) (by omega) rfl rfl ?_
  try refine gL ?_
  refine AtQ.tail ?_
  refine RT.call T rfl fR_ (hall i x hgi [] _ hS2.open_) rfl rfl rfl ?_
  rintro _ _ ⟨rfl, S3, hS3, rfl⟩
  simp only [List.cons_append, List.nil_append]
  have hS4 := hS3.wok hS2.open_
  try refine gL ?_
  refine RT.ldB T rfl (rD (hO)) rfl rfl rfl rfl ?_
  try refine gL ?_
  refine RT.call T rfl fR_ (shut_fn hS4.1 (by have := hS4.2.1; omega) (fun he => (hS4.2.2 he).1)) rfl rfl rfl ?_
  rintro _ _ ⟨rfl, rfl⟩
  simp only [List.cons_append, List.nil_append]
  repeat' (first|refine gL ?_|(refine gv ?_;refine gk ?_)|fail)
  refine AtQ.loop (i + 1, _) ⟨rfl, rfl, rfl, rfl, rfl, rfl, rfl, trivial⟩ (fun w h => Sat.pu_in ⟨by omega, by rw [fRecs_snoc hgi]; exact hw.app (Wrt.record hS1 hS3)⟩ h) (by dsimp only; omega)
 ·obtain rfl : i = l.length := by omega
  rw [List.take_length] at hw
  exact AtQ.fin0 (H' := [Wr pw S1]) Tryz.results199 ⟨rfl, S1, hw, rfl⟩ (fun w h => h) _ (by first | exact .inl rfl | exact .inr rfl)
set_option maxHeartbeats 2000000 in
theorem some_MessageDef_FieldDef_put {α : Type} {cl : α → List Value} {bs : α → Txt} {p rn rc : Nat} {ra : Option Addr} {v : Rw α} (hO : Rd B R (some ⟨pe, 0, none⟩) 1 1 2 [ptr pw, .int .i64 0]) (hn : Rd B R (some ⟨bn, 0, none⟩) 1 1 1 [.int .i32 num]) (ho : Rd B R (some ⟨bo, 0, none⟩) 1 1 1 [.func (.func g) #[] #[]]) (hg : al T.funs g = some gb) (hof : ∀ R, Sp B Tryz.prog g [.pointer (some ad)] R [] (fun v H' => v = .pointer (some (ad.add off)) ∧ H' = [])) (hx : StAt B R ad xs) (h1 : 1 ≤ num) (h2 : num ≤ 15)
  (hb : Rd B R (some ⟨bl, 0, none⟩) 1 1 1 [.pointer (some ⟨p, 4, none⟩)]) (hF : Rd B R (some ⟨p, 0, none⟩) 1 1 8 fl) (hfl : fl[4]? = some (.slice ra rn rc)) (hcl : ∀ x, (cl x).length = 9)
  (hu : xs[off]? = some v.v) (hvl : v.l.length ≤ 140737488355328) (hvR : Rd B R v.a v.l.length v.c 9 (v.l.flatMap cl))
  (hall : ∀ (i : Nat) (x : α), v.l[i]? = some x → ∀ (H : List HP) (S : WS), Wok k S → Sp B Tryz.prog 220 [.slice ra rn rc, ptr pe, .pointer (some ((adr v.a).add (i * 9)))] (H ++ R) [Wr pw S] (fun u H' => u = .tuple #[] ∧ ∃ S', Wrt k S (bs x) S' ∧ H' = [Wr pw S'])) (hS : Wok (k + 1) S) :
  Sp B Tryz.prog 219 [ptr pe, .pointer (some ad), ptr bo, ptr bn, ptr bl] R [Wr pw S] (fun u H' => u = .tuple #[] ∧ ∃ S', Wrt (k + 1) S (fRecs num bs v.l) S' ∧ H' = [Wr pw S']) := by
 obtain ⟨va, vc, l⟩ := v
 simp only [Rw.v] at *
 refine Sp.body Tryz.func219 rfl Tryz.ntmps219 (by simp) ?_
 simp only [argE, List.cons_append, List.nil_append, Nat.zero_add, Nat.reduceAdd]
 try refine gL ?_
 refine RT.ldB T rfl (rD (ho)) rfl rfl rfl rfl ?_
 try refine gL ?_
 refine RT.callC T (caps := []) rfl rfl fR_ (hof _) hg rfl rfl ?_
 rintro _ _ ⟨rfl, rfl⟩
 simp only [List.nil_append]
 refine RT.nilG rfl rfl rfl ?_
 refine RT.ldS T rfl hx.cons hu rfl rfl rfl ?_
 try refine gL ?_
 refine CT.loop (α := Nat × WS) (fun s => [(0, ptr pe), (1, .pointer (some ad)), (2, ptr bo), (3, ptr bn), (4, ptr bl), (14, .int .i64 l.length), (15, .int .i64 s.1)]) (fun s => Pu (s.1 ≤ l.length ∧ Wrt (k + 1) S (fRecs num bs (l.take s.1)) s.2) :: Wr pw s.2 :: R) (fun s => l.length - s.1) (0, S)
  ⟨rfl, rfl, rfl, rfl, rfl, rfl, rfl, trivial⟩ (fun w h => Sat.pu_in ⟨Nat.zero_le _, by rw [List.take_zero]; exact Wrt.nil hS.1⟩ h) (fun ⟨i, S1⟩ => CT.pu fun ⟨hi, hw⟩ => ?_)
 dsimp only at hi hw ⊢
 have hS1 := hw.wok hS
 have hS := hS1.1
 repeat' (first|refine gQ ?_|(refine gv ?_;(refine⟨fun hc=>?_,fun hc=>?_⟩<;>first|(exfalso;omega)|skip))|fail)
 ·have hil : i < l.length := by omega
  have hgi := List.getElem?_eq_getElem hil
  revert hgi
  generalize l[i] = x
  intro hgi
  refine CT.tail 5 mixed (by kernel_rfl) ?_
  dsimp only [List.take_succ_cons, List.take_zero, List.drop_succ_cons, List.drop_zero]
  try refine gL ?_
  refine RT.ldB T rfl (rD (hO)) rfl rfl rfl rfl ?_
  skip
  refine RT.ldB T rfl (rD (hn)) rfl rfl rfl rfl ?_
  try refine gL ?_
  refine AtQ.tail ?_
  refine RT.call T rfl fR_ (tag_fn (n := num) (k := 2) hS (by decide) (by decide) (by omega) (by omega)) rfl rfl rfl ?_
  rintro _ _ ⟨rfl, rfl⟩
  rw [wsTag_put (k := 2) h1 (by omega) (by decide)]
  simp only [List.cons_append, List.nil_append]
  try refine gQ ?_
  refine RT.ldB T rfl (rD (hO)) rfl rfl rfl rfl ?_
  have hS2 := hS1.put (enc (num * 8 + 2))
  refine RT.call T rfl fR_ (open_fn (by have := hS2.1; unfold WS.ok at this; omega) (by have := hS2.2.1; omega)) rfl rfl rfl ?_
  rintro _ _ ⟨rfl, rfl⟩
  simp only [List.cons_append, List.nil_append]
  try refine gQ ?_
  refine CT.tail 11 mixed (by kernel_rfl) ?_
  dsimp only [List.take_succ_cons, List.take_zero, List.drop_succ_cons, List.drop_zero]
  skip
  refine RT.ldB T rfl (rD (hb)) rfl rfl rfl rfl ?_
  refine RT.nilG rfl rfl rfl ?_
  refine RT.ldB T rfl (rD (hF)) hfl rfl rfl rfl ?_
  try refine gL ?_
  refine RT.ldB T rfl (rD (ho)) rfl rfl rfl rfl ?_
  refine RT.mv1 rfl rfl rfl ?_
  refine RT.qcallC T (caps := []) rfl rfl (QSp.of fR_ (hof _)) hg rfl rfl ?_
  refine RT.nilG rfl rfl rfl ?_
  refine RT.ldS T rfl hx.cons hu rfl rfl rfl ?_
  try refine gL ?_
  refine RT.ix T (j := i * 9) rfl rfl rfl (rD (hvR)) (by omega) (by omega) (by omega) rfl rfl ?_
  try refine gL ?_
  refine AtQ.tail ?_
  refine RT.call T rfl fR_ (hall i x hgi [] _ hS2.open_) rfl rfl rfl ?_
  rintro _ _ ⟨rfl, S3, hS3, rfl⟩
  simp only [List.cons_append, List.nil_append]
  have hS4 := hS3.wok hS2.open_
  try refine gL ?_
  refine RT.ldB T rfl (rD (hO)) rfl rfl rfl rfl ?_
  try refine gL ?_
  refine RT.call T rfl fR_ (shut_fn hS4.1 (by have := hS4.2.1; omega) (fun he => (hS4.2.2 he).1)) rfl rfl rfl ?_
  rintro _ _ ⟨rfl, rfl⟩
  simp only [List.cons_append, List.nil_append]
  repeat' (first|refine gL ?_|(refine gv ?_;refine gk ?_)|fail)
  refine AtQ.loop (i + 1, _) ⟨rfl, rfl, rfl, rfl, rfl, rfl, rfl, trivial⟩ (fun w h => Sat.pu_in ⟨by omega, by rw [fRecs_snoc hgi]; exact hw.app (Wrt.record hS1 hS3)⟩ h) (by dsimp only; omega)
 ·obtain rfl : i = l.length := by omega
  rw [List.take_length] at hw
  exact AtQ.fin0 (H' := [Wr pw S1]) Tryz.results219 ⟨rfl, S1, hw, rfl⟩ (fun w h => h) _ (by first | exact .inl rfl | exact .inr rfl)
set_option maxHeartbeats 2000000 in
theorem some_MessageDef_MessageDef_put {α : Type} {cl : α → List Value} {bs : α → Txt} {p rn rc : Nat} {ra : Option Addr} {v : Rw α} (hO : Rd B R (some ⟨pe, 0, none⟩) 1 1 2 [ptr pw, .int .i64 0]) (hn : Rd B R (some ⟨bn, 0, none⟩) 1 1 1 [.int .i32 num]) (ho : Rd B R (some ⟨bo, 0, none⟩) 1 1 1 [.func (.func g) #[] #[]]) (hg : al T.funs g = some gb) (hof : ∀ R, Sp B Tryz.prog g [.pointer (some ad)] R [] (fun v H' => v = .pointer (some (ad.add off)) ∧ H' = [])) (hx : StAt B R ad xs) (h1 : 1 ≤ num) (h2 : num ≤ 15)
  (hb : Rd B R (some ⟨bl, 0, none⟩) 1 1 1 [.pointer (some ⟨p, 3, none⟩)]) (hF : Rd B R (some ⟨p, 0, none⟩) 1 1 8 fl) (hfl : fl[3]? = some (.slice ra rn rc)) (hcl : ∀ x, (cl x).length = 7)
  (hu : xs[off]? = some v.v) (hvl : v.l.length ≤ 140737488355328) (hvR : Rd B R v.a v.l.length v.c 7 (v.l.flatMap cl))
  (hall : ∀ (i : Nat) (x : α), v.l[i]? = some x → ∀ (H : List HP) (S : WS), Wok k S → Sp B Tryz.prog 226 [.slice ra rn rc, ptr pe, .pointer (some ((adr v.a).add (i * 7)))] (H ++ R) [Wr pw S] (fun u H' => u = .tuple #[] ∧ ∃ S', Wrt k S (bs x) S' ∧ H' = [Wr pw S'])) (hS : Wok (k + 1) S) :
  Sp B Tryz.prog 225 [ptr pe, .pointer (some ad), ptr bo, ptr bn, ptr bl] R [Wr pw S] (fun u H' => u = .tuple #[] ∧ ∃ S', Wrt (k + 1) S (fRecs num bs v.l) S' ∧ H' = [Wr pw S']) := by
 obtain ⟨va, vc, l⟩ := v
 simp only [Rw.v] at *
 refine Sp.body Tryz.func225 rfl Tryz.ntmps225 (by simp) ?_
 simp only [argE, List.cons_append, List.nil_append, Nat.zero_add, Nat.reduceAdd]
 try refine gL ?_
 refine RT.ldB T rfl (rD (ho)) rfl rfl rfl rfl ?_
 try refine gL ?_
 refine RT.callC T (caps := []) rfl rfl fR_ (hof _) hg rfl rfl ?_
 rintro _ _ ⟨rfl, rfl⟩
 simp only [List.nil_append]
 refine RT.nilG rfl rfl rfl ?_
 refine RT.ldS T rfl hx.cons hu rfl rfl rfl ?_
 try refine gL ?_
 refine CT.loop (α := Nat × WS) (fun s => [(0, ptr pe), (1, .pointer (some ad)), (2, ptr bo), (3, ptr bn), (4, ptr bl), (14, .int .i64 l.length), (15, .int .i64 s.1)]) (fun s => Pu (s.1 ≤ l.length ∧ Wrt (k + 1) S (fRecs num bs (l.take s.1)) s.2) :: Wr pw s.2 :: R) (fun s => l.length - s.1) (0, S)
  ⟨rfl, rfl, rfl, rfl, rfl, rfl, rfl, trivial⟩ (fun w h => Sat.pu_in ⟨Nat.zero_le _, by rw [List.take_zero]; exact Wrt.nil hS.1⟩ h) (fun ⟨i, S1⟩ => CT.pu fun ⟨hi, hw⟩ => ?_)
 dsimp only at hi hw ⊢
 have hS1 := hw.wok hS
 have hS := hS1.1
 repeat' (first|refine gQ ?_|(refine gv ?_;(refine⟨fun hc=>?_,fun hc=>?_⟩<;>first|(exfalso;omega)|skip))|fail)
 ·have hil : i < l.length := by omega
  have hgi := List.getElem?_eq_getElem hil
  revert hgi
  generalize l[i] = x
  intro hgi
  refine CT.tail 5 mixed (by kernel_rfl) ?_
  dsimp only [List.take_succ_cons, List.take_zero, List.drop_succ_cons, List.drop_zero]
  try refine gL ?_
  refine RT.ldB T rfl (rD (hO)) rfl rfl rfl rfl ?_
  skip
  refine RT.ldB T rfl (rD (hn)) rfl rfl rfl rfl ?_
  try refine gL ?_
  refine AtQ.tail ?_
  refine RT.call T rfl fR_ (tag_fn (n := num) (k := 2) hS (by decide) (by decide) (by omega) (by omega)) rfl rfl rfl ?_
  rintro _ _ ⟨rfl, rfl⟩
  rw [wsTag_put (k := 2) h1 (by omega) (by decide)]
  simp only [List.cons_append, List.nil_append]
  try refine gQ ?_
  refine RT.ldB T rfl (rD (hO)) rfl rfl rfl rfl ?_
  have hS2 := hS1.put (enc (num * 8 + 2))
  refine RT.call T rfl fR_ (open_fn (by have := hS2.1; unfold WS.ok at this; omega) (by have := hS2.2.1; omega)) rfl rfl rfl ?_
  rintro _ _ ⟨rfl, rfl⟩
  simp only [List.cons_append, List.nil_append]
  try refine gQ ?_
  refine CT.tail 11 mixed (by kernel_rfl) ?_
  dsimp only [List.take_succ_cons, List.take_zero, List.drop_succ_cons, List.drop_zero]
  skip
  refine RT.ldB T rfl (rD (hb)) rfl rfl rfl rfl ?_
  refine RT.nilG rfl rfl rfl ?_
  refine RT.ldB T rfl (rD (hF)) hfl rfl rfl rfl ?_
  try refine gL ?_
  refine RT.ldB T rfl (rD (ho)) rfl rfl rfl rfl ?_
  refine RT.mv1 rfl rfl rfl ?_
  refine RT.qcallC T (caps := []) rfl rfl (QSp.of fR_ (hof _)) hg rfl rfl ?_
  refine RT.nilG rfl rfl rfl ?_
  refine RT.ldS T rfl hx.cons hu rfl rfl rfl ?_
  try refine gL ?_
  refine RT.ix T (j := i * 7) rfl rfl rfl (rD (hvR)) (by omega) (by omega) (by omega) rfl rfl ?_
  try refine gL ?_
  refine AtQ.tail ?_
  refine RT.call T rfl fR_ (hall i x hgi [] _ hS2.open_) rfl rfl rfl ?_
  rintro _ _ ⟨rfl, S3, hS3, rfl⟩
  simp only [List.cons_append, List.nil_append]
  have hS4 := hS3.wok hS2.open_
  try refine gL ?_
  refine RT.ldB T rfl (rD (hO)) rfl rfl rfl rfl ?_
  try refine gL ?_
  refine RT.call T rfl fR_ (shut_fn hS4.1 (by have := hS4.2.1; omega) (fun he => (hS4.2.2 he).1)) rfl rfl rfl ?_
  rintro _ _ ⟨rfl, rfl⟩
  simp only [List.cons_append, List.nil_append]
  repeat' (first|refine gL ?_|(refine gv ?_;refine gk ?_)|fail)
  refine AtQ.loop (i + 1, _) ⟨rfl, rfl, rfl, rfl, rfl, rfl, rfl, trivial⟩ (fun w h => Sat.pu_in ⟨by omega, by rw [fRecs_snoc hgi]; exact hw.app (Wrt.record hS1 hS3)⟩ h) (by dsimp only; omega)
 ·obtain rfl : i = l.length := by omega
  rw [List.take_length] at hw
  exact AtQ.fin0 (H' := [Wr pw S1]) Tryz.results225 ⟨rfl, S1, hw, rfl⟩ (fun w h => h) _ (by first | exact .inl rfl | exact .inr rfl)
set_option maxHeartbeats 2000000 in
theorem some_MessageDef_EnumDef_put {α : Type} {cl : α → List Value} {bs : α → Txt} {p rn rc : Nat} {ra : Option Addr} {v : Rw α} (hO : Rd B R (some ⟨pe, 0, none⟩) 1 1 2 [ptr pw, .int .i64 0]) (hn : Rd B R (some ⟨bn, 0, none⟩) 1 1 1 [.int .i32 num]) (ho : Rd B R (some ⟨bo, 0, none⟩) 1 1 1 [.func (.func g) #[] #[]]) (hg : al T.funs g = some gb) (hof : ∀ R, Sp B Tryz.prog g [.pointer (some ad)] R [] (fun v H' => v = .pointer (some (ad.add off)) ∧ H' = [])) (hx : StAt B R ad xs) (h1 : 1 ≤ num) (h2 : num ≤ 15)
  (hb : Rd B R (some ⟨bl, 0, none⟩) 1 1 1 [.pointer (some ⟨p, 5, none⟩)]) (hF : Rd B R (some ⟨p, 0, none⟩) 1 1 8 fl) (hfl : fl[5]? = some (.slice ra rn rc)) (hcl : ∀ x, (cl x).length = 5)
  (hu : xs[off]? = some v.v) (hvl : v.l.length ≤ 140737488355328) (hvR : Rd B R v.a v.l.length v.c 5 (v.l.flatMap cl))
  (hall : ∀ (i : Nat) (x : α), v.l[i]? = some x → ∀ (H : List HP) (S : WS), Wok k S → Sp B Tryz.prog 230 [.slice ra rn rc, ptr pe, .pointer (some ((adr v.a).add (i * 5)))] (H ++ R) [Wr pw S] (fun u H' => u = .tuple #[] ∧ ∃ S', Wrt k S (bs x) S' ∧ H' = [Wr pw S'])) (hS : Wok (k + 1) S) :
  Sp B Tryz.prog 229 [ptr pe, .pointer (some ad), ptr bo, ptr bn, ptr bl] R [Wr pw S] (fun u H' => u = .tuple #[] ∧ ∃ S', Wrt (k + 1) S (fRecs num bs v.l) S' ∧ H' = [Wr pw S']) := by
 obtain ⟨va, vc, l⟩ := v
 simp only [Rw.v] at *
 refine Sp.body Tryz.func229 rfl Tryz.ntmps229 (by simp) ?_
 simp only [argE, List.cons_append, List.nil_append, Nat.zero_add, Nat.reduceAdd]
 try refine gL ?_
 refine RT.ldB T rfl (rD (ho)) rfl rfl rfl rfl ?_
 try refine gL ?_
 refine RT.callC T (caps := []) rfl rfl fR_ (hof _) hg rfl rfl ?_
 rintro _ _ ⟨rfl, rfl⟩
 simp only [List.nil_append]
 refine RT.nilG rfl rfl rfl ?_
 refine RT.ldS T rfl hx.cons hu rfl rfl rfl ?_
 try refine gL ?_
 refine CT.loop (α := Nat × WS) (fun s => [(0, ptr pe), (1, .pointer (some ad)), (2, ptr bo), (3, ptr bn), (4, ptr bl), (14, .int .i64 l.length), (15, .int .i64 s.1)]) (fun s => Pu (s.1 ≤ l.length ∧ Wrt (k + 1) S (fRecs num bs (l.take s.1)) s.2) :: Wr pw s.2 :: R) (fun s => l.length - s.1) (0, S)
  ⟨rfl, rfl, rfl, rfl, rfl, rfl, rfl, trivial⟩ (fun w h => Sat.pu_in ⟨Nat.zero_le _, by rw [List.take_zero]; exact Wrt.nil hS.1⟩ h) (fun ⟨i, S1⟩ => CT.pu fun ⟨hi, hw⟩ => ?_)
 dsimp only at hi hw ⊢
 have hS1 := hw.wok hS
 have hS := hS1.1
 repeat' (first|refine gQ ?_|(refine gv ?_;(refine⟨fun hc=>?_,fun hc=>?_⟩<;>first|(exfalso;omega)|skip))|fail)
 ·have hil : i < l.length := by omega
  have hgi := List.getElem?_eq_getElem hil
  revert hgi
  generalize l[i] = x
  intro hgi
  refine CT.tail 5 mixed (by kernel_rfl) ?_
  dsimp only [List.take_succ_cons, List.take_zero, List.drop_succ_cons, List.drop_zero]
  try refine gL ?_
  refine RT.ldB T rfl (rD (hO)) rfl rfl rfl rfl ?_
  skip
  refine RT.ldB T rfl (rD (hn)) rfl rfl rfl rfl ?_
  try refine gL ?_
  refine AtQ.tail ?_
  refine RT.call T rfl fR_ (tag_fn (n := num) (k := 2) hS (by decide) (by decide) (by omega) (by omega)) rfl rfl rfl ?_
  rintro _ _ ⟨rfl, rfl⟩
  rw [wsTag_put (k := 2) h1 (by omega) (by decide)]
  simp only [List.cons_append, List.nil_append]
  try refine gQ ?_
  refine RT.ldB T rfl (rD (hO)) rfl rfl rfl rfl ?_
  have hS2 := hS1.put (enc (num * 8 + 2))
  refine RT.call T rfl fR_ (open_fn (by have := hS2.1; unfold WS.ok at this; omega) (by have := hS2.2.1; omega)) rfl rfl rfl ?_
  rintro _ _ ⟨rfl, rfl⟩
  simp only [List.cons_append, List.nil_append]
  try refine gQ ?_
  refine CT.tail 11 mixed (by kernel_rfl) ?_
  dsimp only [List.take_succ_cons, List.take_zero, List.drop_succ_cons, List.drop_zero]
  skip
  refine RT.ldB T rfl (rD (hb)) rfl rfl rfl rfl ?_
  refine RT.nilG rfl rfl rfl ?_
  refine RT.ldB T rfl (rD (hF)) hfl rfl rfl rfl ?_
  try refine gL ?_
  refine RT.ldB T rfl (rD (ho)) rfl rfl rfl rfl ?_
  refine RT.mv1 rfl rfl rfl ?_
  refine RT.qcallC T (caps := []) rfl rfl (QSp.of fR_ (hof _)) hg rfl rfl ?_
  refine RT.nilG rfl rfl rfl ?_
  refine RT.ldS T rfl hx.cons hu rfl rfl rfl ?_
  try refine gL ?_
  refine RT.ix T (j := i * 5) rfl rfl rfl (rD (hvR)) (by omega) (by omega) (by omega) rfl rfl ?_
  try refine gL ?_
  refine AtQ.tail ?_
  refine RT.call T rfl fR_ (hall i x hgi [] _ hS2.open_) rfl rfl rfl ?_
  rintro _ _ ⟨rfl, S3, hS3, rfl⟩
  simp only [List.cons_append, List.nil_append]
  have hS4 := hS3.wok hS2.open_
  try refine gL ?_
  refine RT.ldB T rfl (rD (hO)) rfl rfl rfl rfl ?_
  try refine gL ?_
  refine RT.call T rfl fR_ (shut_fn hS4.1 (by have := hS4.2.1; omega) (fun he => (hS4.2.2 he).1)) rfl rfl rfl ?_
  rintro _ _ ⟨rfl, rfl⟩
  simp only [List.cons_append, List.nil_append]
  repeat' (first|refine gL ?_|(refine gv ?_;refine gk ?_)|fail)
  refine AtQ.loop (i + 1, _) ⟨rfl, rfl, rfl, rfl, rfl, rfl, rfl, trivial⟩ (fun w h => Sat.pu_in ⟨by omega, by rw [fRecs_snoc hgi]; exact hw.app (Wrt.record hS1 hS3)⟩ h) (by dsimp only; omega)
 ·obtain rfl : i = l.length := by omega
  rw [List.take_length] at hw
  exact AtQ.fin0 (H' := [Wr pw S1]) Tryz.results229 ⟨rfl, S1, hw, rfl⟩ (fun w h => h) _ (by first | exact .inl rfl | exact .inr rfl)
set_option maxHeartbeats 2000000 in
theorem some_MessageDef_Span_put {α : Type} {cl : α → List Value} {bs : α → Txt} {p rn rc : Nat} {ra : Option Addr} {v : Rw α} (hO : Rd B R (some ⟨pe, 0, none⟩) 1 1 2 [ptr pw, .int .i64 0]) (hn : Rd B R (some ⟨bn, 0, none⟩) 1 1 1 [.int .i32 num]) (ho : Rd B R (some ⟨bo, 0, none⟩) 1 1 1 [.func (.func g) #[] #[]]) (hg : al T.funs g = some gb) (hof : ∀ R, Sp B Tryz.prog g [.pointer (some ad)] R [] (fun v H' => v = .pointer (some (ad.add off)) ∧ H' = [])) (hx : StAt B R ad xs) (h1 : 1 ≤ num) (h2 : num ≤ 15)
  (hb : Rd B R (some ⟨bl, 0, none⟩) 1 1 1 [.pointer (some ⟨p, 7, none⟩)]) (hF : Rd B R (some ⟨p, 0, none⟩) 1 1 8 fl) (hfl : fl[7]? = some (.slice ra rn rc)) (hcl : ∀ x, (cl x).length = 2)
  (hu : xs[off]? = some v.v) (hvl : v.l.length ≤ 140737488355328) (hvR : Rd B R v.a v.l.length v.c 2 (v.l.flatMap cl))
  (hall : ∀ (i : Nat) (x : α), v.l[i]? = some x → ∀ (H : List HP) (S : WS), Wok k S → Sp B Tryz.prog 200 [.slice ra rn rc, ptr pe, .pointer (some ((adr v.a).add (i * 2)))] (H ++ R) [Wr pw S] (fun u H' => u = .tuple #[] ∧ ∃ S', Wrt k S (bs x) S' ∧ H' = [Wr pw S'])) (hS : Wok (k + 1) S) :
  Sp B Tryz.prog 233 [ptr pe, .pointer (some ad), ptr bo, ptr bn, ptr bl] R [Wr pw S] (fun u H' => u = .tuple #[] ∧ ∃ S', Wrt (k + 1) S (fRecs num bs v.l) S' ∧ H' = [Wr pw S']) := by
 obtain ⟨va, vc, l⟩ := v
 simp only [Rw.v] at *
 refine Sp.body Tryz.func233 rfl Tryz.ntmps233 (by simp) ?_
 simp only [argE, List.cons_append, List.nil_append, Nat.zero_add, Nat.reduceAdd]
 try refine gL ?_
 refine RT.ldB T rfl (rD (ho)) rfl rfl rfl rfl ?_
 try refine gL ?_
 refine RT.callC T (caps := []) rfl rfl fR_ (hof _) hg rfl rfl ?_
 rintro _ _ ⟨rfl, rfl⟩
 simp only [List.nil_append]
 refine RT.nilG rfl rfl rfl ?_
 refine RT.ldS T rfl hx.cons hu rfl rfl rfl ?_
 try refine gL ?_
 refine CT.loop (α := Nat × WS) (fun s => [(0, ptr pe), (1, .pointer (some ad)), (2, ptr bo), (3, ptr bn), (4, ptr bl), (14, .int .i64 l.length), (15, .int .i64 s.1)]) (fun s => Pu (s.1 ≤ l.length ∧ Wrt (k + 1) S (fRecs num bs (l.take s.1)) s.2) :: Wr pw s.2 :: R) (fun s => l.length - s.1) (0, S)
  ⟨rfl, rfl, rfl, rfl, rfl, rfl, rfl, trivial⟩ (fun w h => Sat.pu_in ⟨Nat.zero_le _, by rw [List.take_zero]; exact Wrt.nil hS.1⟩ h) (fun ⟨i, S1⟩ => CT.pu fun ⟨hi, hw⟩ => ?_)
 dsimp only at hi hw ⊢
 have hS1 := hw.wok hS
 have hS := hS1.1
 repeat' (first|refine gQ ?_|(refine gv ?_;(refine⟨fun hc=>?_,fun hc=>?_⟩<;>first|(exfalso;omega)|skip))|fail)
 ·have hil : i < l.length := by omega
  have hgi := List.getElem?_eq_getElem hil
  revert hgi
  generalize l[i] = x
  intro hgi
  refine CT.tail 5 mixed (by kernel_rfl) ?_
  dsimp only [List.take_succ_cons, List.take_zero, List.drop_succ_cons, List.drop_zero]
  try refine gL ?_
  refine RT.ldB T rfl (rD (hO)) rfl rfl rfl rfl ?_
  skip
  refine RT.ldB T rfl (rD (hn)) rfl rfl rfl rfl ?_
  try refine gL ?_
  refine AtQ.tail ?_
  refine RT.call T rfl fR_ (tag_fn (n := num) (k := 2) hS (by decide) (by decide) (by omega) (by omega)) rfl rfl rfl ?_
  rintro _ _ ⟨rfl, rfl⟩
  rw [wsTag_put (k := 2) h1 (by omega) (by decide)]
  simp only [List.cons_append, List.nil_append]
  try refine gQ ?_
  refine RT.ldB T rfl (rD (hO)) rfl rfl rfl rfl ?_
  have hS2 := hS1.put (enc (num * 8 + 2))
  refine RT.call T rfl fR_ (open_fn (by have := hS2.1; unfold WS.ok at this; omega) (by have := hS2.2.1; omega)) rfl rfl rfl ?_
  rintro _ _ ⟨rfl, rfl⟩
  simp only [List.cons_append, List.nil_append]
  try refine gQ ?_
  refine CT.tail 11 mixed (by kernel_rfl) ?_
  dsimp only [List.take_succ_cons, List.take_zero, List.drop_succ_cons, List.drop_zero]
  skip
  refine RT.ldB T rfl (rD (hb)) rfl rfl rfl rfl ?_
  refine RT.nilG rfl rfl rfl ?_
  refine RT.ldB T rfl (rD (hF)) hfl rfl rfl rfl ?_
  try refine gL ?_
  refine RT.ldB T rfl (rD (ho)) rfl rfl rfl rfl ?_
  refine RT.mv1 rfl rfl rfl ?_
  refine RT.qcallC T (caps := []) rfl rfl (QSp.of fR_ (hof _)) hg rfl rfl ?_
  refine RT.nilG rfl rfl rfl ?_
  refine RT.ldS T rfl hx.cons hu rfl rfl rfl ?_
  try refine gL ?_
  refine RT.ix T (j := i * 2) rfl rfl rfl (rD (hvR)) (by omega) (by omega) (by omega) rfl rfl ?_
  try refine gL ?_
  refine AtQ.tail ?_
  refine RT.call T rfl fR_ (hall i x hgi [] _ hS2.open_) rfl rfl rfl ?_
  rintro _ _ ⟨rfl, S3, hS3, rfl⟩
  simp only [List.cons_append, List.nil_append]
  have hS4 := hS3.wok hS2.open_
  try refine gL ?_
  refine RT.ldB T rfl (rD (hO)) rfl rfl rfl rfl ?_
  try refine gL ?_
  refine RT.call T rfl fR_ (shut_fn hS4.1 (by have := hS4.2.1; omega) (fun he => (hS4.2.2 he).1)) rfl rfl rfl ?_
  rintro _ _ ⟨rfl, rfl⟩
  simp only [List.cons_append, List.nil_append]
  repeat' (first|refine gL ?_|(refine gv ?_;refine gk ?_)|fail)
  refine AtQ.loop (i + 1, _) ⟨rfl, rfl, rfl, rfl, rfl, rfl, rfl, trivial⟩ (fun w h => Sat.pu_in ⟨by omega, by rw [fRecs_snoc hgi]; exact hw.app (Wrt.record hS1 hS3)⟩ h) (by dsimp only; omega)
 ·obtain rfl : i = l.length := by omega
  rw [List.take_length] at hw
  exact AtQ.fin0 (H' := [Wr pw S1]) Tryz.results233 ⟨rfl, S1, hw, rfl⟩ (fun w h => h) _ (by first | exact .inl rfl | exact .inr rfl)
set_option maxHeartbeats 2000000 in
theorem some_File_Import_put {α : Type} {cl : α → List Value} {bs : α → Txt} {p rn rc : Nat} {ra : Option Addr} {v : Rw α} (hO : Rd B R (some ⟨pe, 0, none⟩) 1 1 2 [ptr pw, .int .i64 0]) (hn : Rd B R (some ⟨bn, 0, none⟩) 1 1 1 [.int .i32 num]) (ho : Rd B R (some ⟨bo, 0, none⟩) 1 1 1 [.func (.func g) #[] #[]]) (hg : al T.funs g = some gb) (hof : ∀ R, Sp B Tryz.prog g [.pointer (some ad)] R [] (fun v H' => v = .pointer (some (ad.add off)) ∧ H' = [])) (hx : StAt B R ad xs) (h1 : 1 ≤ num) (h2 : num ≤ 15)
  (hb : Rd B R (some ⟨bl, 0, none⟩) 1 1 1 [.pointer (some ⟨p, 2, none⟩)]) (hF : Rd B R (some ⟨p, 0, none⟩) 1 1 8 fl) (hfl : fl[2]? = some (.slice ra rn rc)) (hcl : ∀ x, (cl x).length = 2)
  (hu : xs[off]? = some v.v) (hvl : v.l.length ≤ 140737488355328) (hvR : Rd B R v.a v.l.length v.c 2 (v.l.flatMap cl))
  (hall : ∀ (i : Nat) (x : α), v.l[i]? = some x → ∀ (H : List HP) (S : WS), Wok k S → Sp B Tryz.prog 242 [.slice ra rn rc, ptr pe, .pointer (some ((adr v.a).add (i * 2)))] (H ++ R) [Wr pw S] (fun u H' => u = .tuple #[] ∧ ∃ S', Wrt k S (bs x) S' ∧ H' = [Wr pw S'])) (hS : Wok (k + 1) S) :
  Sp B Tryz.prog 241 [ptr pe, .pointer (some ad), ptr bo, ptr bn, ptr bl] R [Wr pw S] (fun u H' => u = .tuple #[] ∧ ∃ S', Wrt (k + 1) S (fRecs num bs v.l) S' ∧ H' = [Wr pw S']) := by
 obtain ⟨va, vc, l⟩ := v
 simp only [Rw.v] at *
 refine Sp.body Tryz.func241 rfl Tryz.ntmps241 (by simp) ?_
 simp only [argE, List.cons_append, List.nil_append, Nat.zero_add, Nat.reduceAdd]
 try refine gL ?_
 refine RT.ldB T rfl (rD (ho)) rfl rfl rfl rfl ?_
 try refine gL ?_
 refine RT.callC T (caps := []) rfl rfl fR_ (hof _) hg rfl rfl ?_
 rintro _ _ ⟨rfl, rfl⟩
 simp only [List.nil_append]
 refine RT.nilG rfl rfl rfl ?_
 refine RT.ldS T rfl hx.cons hu rfl rfl rfl ?_
 try refine gL ?_
 refine CT.loop (α := Nat × WS) (fun s => [(0, ptr pe), (1, .pointer (some ad)), (2, ptr bo), (3, ptr bn), (4, ptr bl), (14, .int .i64 l.length), (15, .int .i64 s.1)]) (fun s => Pu (s.1 ≤ l.length ∧ Wrt (k + 1) S (fRecs num bs (l.take s.1)) s.2) :: Wr pw s.2 :: R) (fun s => l.length - s.1) (0, S)
  ⟨rfl, rfl, rfl, rfl, rfl, rfl, rfl, trivial⟩ (fun w h => Sat.pu_in ⟨Nat.zero_le _, by rw [List.take_zero]; exact Wrt.nil hS.1⟩ h) (fun ⟨i, S1⟩ => CT.pu fun ⟨hi, hw⟩ => ?_)
 dsimp only at hi hw ⊢
 have hS1 := hw.wok hS
 have hS := hS1.1
 repeat' (first|refine gQ ?_|(refine gv ?_;(refine⟨fun hc=>?_,fun hc=>?_⟩<;>first|(exfalso;omega)|skip))|fail)
 ·have hil : i < l.length := by omega
  have hgi := List.getElem?_eq_getElem hil
  revert hgi
  generalize l[i] = x
  intro hgi
  refine CT.tail 5 mixed (by kernel_rfl) ?_
  dsimp only [List.take_succ_cons, List.take_zero, List.drop_succ_cons, List.drop_zero]
  try refine gL ?_
  refine RT.ldB T rfl (rD (hO)) rfl rfl rfl rfl ?_
  skip
  refine RT.ldB T rfl (rD (hn)) rfl rfl rfl rfl ?_
  try refine gL ?_
  refine AtQ.tail ?_
  refine RT.call T rfl fR_ (tag_fn (n := num) (k := 2) hS (by decide) (by decide) (by omega) (by omega)) rfl rfl rfl ?_
  rintro _ _ ⟨rfl, rfl⟩
  rw [wsTag_put (k := 2) h1 (by omega) (by decide)]
  simp only [List.cons_append, List.nil_append]
  try refine gQ ?_
  refine RT.ldB T rfl (rD (hO)) rfl rfl rfl rfl ?_
  have hS2 := hS1.put (enc (num * 8 + 2))
  refine RT.call T rfl fR_ (open_fn (by have := hS2.1; unfold WS.ok at this; omega) (by have := hS2.2.1; omega)) rfl rfl rfl ?_
  rintro _ _ ⟨rfl, rfl⟩
  simp only [List.cons_append, List.nil_append]
  try refine gQ ?_
  refine CT.tail 11 mixed (by kernel_rfl) ?_
  dsimp only [List.take_succ_cons, List.take_zero, List.drop_succ_cons, List.drop_zero]
  skip
  refine RT.ldB T rfl (rD (hb)) rfl rfl rfl rfl ?_
  refine RT.nilG rfl rfl rfl ?_
  refine RT.ldB T rfl (rD (hF)) hfl rfl rfl rfl ?_
  try refine gL ?_
  refine RT.ldB T rfl (rD (ho)) rfl rfl rfl rfl ?_
  refine RT.mv1 rfl rfl rfl ?_
  refine RT.qcallC T (caps := []) rfl rfl (QSp.of fR_ (hof _)) hg rfl rfl ?_
  refine RT.nilG rfl rfl rfl ?_
  refine RT.ldS T rfl hx.cons hu rfl rfl rfl ?_
  try refine gL ?_
  refine RT.ix T (j := i * 2) rfl rfl rfl (rD (hvR)) (by omega) (by omega) (by omega) rfl rfl ?_
  try refine gL ?_
  refine AtQ.tail ?_
  refine RT.call T rfl fR_ (hall i x hgi [] _ hS2.open_) rfl rfl rfl ?_
  rintro _ _ ⟨rfl, S3, hS3, rfl⟩
  simp only [List.cons_append, List.nil_append]
  have hS4 := hS3.wok hS2.open_
  try refine gL ?_
  refine RT.ldB T rfl (rD (hO)) rfl rfl rfl rfl ?_
  try refine gL ?_
  refine RT.call T rfl fR_ (shut_fn hS4.1 (by have := hS4.2.1; omega) (fun he => (hS4.2.2 he).1)) rfl rfl rfl ?_
  rintro _ _ ⟨rfl, rfl⟩
  simp only [List.cons_append, List.nil_append]
  repeat' (first|refine gL ?_|(refine gv ?_;refine gk ?_)|fail)
  refine AtQ.loop (i + 1, _) ⟨rfl, rfl, rfl, rfl, rfl, rfl, rfl, trivial⟩ (fun w h => Sat.pu_in ⟨by omega, by rw [fRecs_snoc hgi]; exact hw.app (Wrt.record hS1 hS3)⟩ h) (by dsimp only; omega)
 ·obtain rfl : i = l.length := by omega
  rw [List.take_length] at hw
  exact AtQ.fin0 (H' := [Wr pw S1]) Tryz.results241 ⟨rfl, S1, hw, rfl⟩ (fun w h => h) _ (by first | exact .inl rfl | exact .inr rfl)
set_option maxHeartbeats 2000000 in
theorem some_File_MessageDef_put {α : Type} {cl : α → List Value} {bs : α → Txt} {p rn rc : Nat} {ra : Option Addr} {v : Rw α} (hO : Rd B R (some ⟨pe, 0, none⟩) 1 1 2 [ptr pw, .int .i64 0]) (hn : Rd B R (some ⟨bn, 0, none⟩) 1 1 1 [.int .i32 num]) (ho : Rd B R (some ⟨bo, 0, none⟩) 1 1 1 [.func (.func g) #[] #[]]) (hg : al T.funs g = some gb) (hof : ∀ R, Sp B Tryz.prog g [.pointer (some ad)] R [] (fun v H' => v = .pointer (some (ad.add off)) ∧ H' = [])) (hx : StAt B R ad xs) (h1 : 1 ≤ num) (h2 : num ≤ 15)
  (hb : Rd B R (some ⟨bl, 0, none⟩) 1 1 1 [.pointer (some ⟨p, 3, none⟩)]) (hF : Rd B R (some ⟨p, 0, none⟩) 1 1 8 fl) (hfl : fl[3]? = some (.slice ra rn rc)) (hcl : ∀ x, (cl x).length = 7)
  (hu : xs[off]? = some v.v) (hvl : v.l.length ≤ 140737488355328) (hvR : Rd B R v.a v.l.length v.c 7 (v.l.flatMap cl))
  (hall : ∀ (i : Nat) (x : α), v.l[i]? = some x → ∀ (H : List HP) (S : WS), Wok k S → Sp B Tryz.prog 226 [.slice ra rn rc, ptr pe, .pointer (some ((adr v.a).add (i * 7)))] (H ++ R) [Wr pw S] (fun u H' => u = .tuple #[] ∧ ∃ S', Wrt k S (bs x) S' ∧ H' = [Wr pw S'])) (hS : Wok (k + 1) S) :
  Sp B Tryz.prog 245 [ptr pe, .pointer (some ad), ptr bo, ptr bn, ptr bl] R [Wr pw S] (fun u H' => u = .tuple #[] ∧ ∃ S', Wrt (k + 1) S (fRecs num bs v.l) S' ∧ H' = [Wr pw S']) := by
 obtain ⟨va, vc, l⟩ := v
 simp only [Rw.v] at *
 refine Sp.body Tryz.func245 rfl Tryz.ntmps245 (by simp) ?_
 simp only [argE, List.cons_append, List.nil_append, Nat.zero_add, Nat.reduceAdd]
 try refine gL ?_
 refine RT.ldB T rfl (rD (ho)) rfl rfl rfl rfl ?_
 try refine gL ?_
 refine RT.callC T (caps := []) rfl rfl fR_ (hof _) hg rfl rfl ?_
 rintro _ _ ⟨rfl, rfl⟩
 simp only [List.nil_append]
 refine RT.nilG rfl rfl rfl ?_
 refine RT.ldS T rfl hx.cons hu rfl rfl rfl ?_
 try refine gL ?_
 refine CT.loop (α := Nat × WS) (fun s => [(0, ptr pe), (1, .pointer (some ad)), (2, ptr bo), (3, ptr bn), (4, ptr bl), (14, .int .i64 l.length), (15, .int .i64 s.1)]) (fun s => Pu (s.1 ≤ l.length ∧ Wrt (k + 1) S (fRecs num bs (l.take s.1)) s.2) :: Wr pw s.2 :: R) (fun s => l.length - s.1) (0, S)
  ⟨rfl, rfl, rfl, rfl, rfl, rfl, rfl, trivial⟩ (fun w h => Sat.pu_in ⟨Nat.zero_le _, by rw [List.take_zero]; exact Wrt.nil hS.1⟩ h) (fun ⟨i, S1⟩ => CT.pu fun ⟨hi, hw⟩ => ?_)
 dsimp only at hi hw ⊢
 have hS1 := hw.wok hS
 have hS := hS1.1
 repeat' (first|refine gQ ?_|(refine gv ?_;(refine⟨fun hc=>?_,fun hc=>?_⟩<;>first|(exfalso;omega)|skip))|fail)
 ·have hil : i < l.length := by omega
  have hgi := List.getElem?_eq_getElem hil
  revert hgi
  generalize l[i] = x
  intro hgi
  refine CT.tail 5 mixed (by kernel_rfl) ?_
  dsimp only [List.take_succ_cons, List.take_zero, List.drop_succ_cons, List.drop_zero]
  try refine gL ?_
  refine RT.ldB T rfl (rD (hO)) rfl rfl rfl rfl ?_
  skip
  refine RT.ldB T rfl (rD (hn)) rfl rfl rfl rfl ?_
  try refine gL ?_
  refine AtQ.tail ?_
  refine RT.call T rfl fR_ (tag_fn (n := num) (k := 2) hS (by decide) (by decide) (by omega) (by omega)) rfl rfl rfl ?_
  rintro _ _ ⟨rfl, rfl⟩
  rw [wsTag_put (k := 2) h1 (by omega) (by decide)]
  simp only [List.cons_append, List.nil_append]
  try refine gQ ?_
  refine RT.ldB T rfl (rD (hO)) rfl rfl rfl rfl ?_
  have hS2 := hS1.put (enc (num * 8 + 2))
  refine RT.call T rfl fR_ (open_fn (by have := hS2.1; unfold WS.ok at this; omega) (by have := hS2.2.1; omega)) rfl rfl rfl ?_
  rintro _ _ ⟨rfl, rfl⟩
  simp only [List.cons_append, List.nil_append]
  try refine gQ ?_
  refine CT.tail 11 mixed (by kernel_rfl) ?_
  dsimp only [List.take_succ_cons, List.take_zero, List.drop_succ_cons, List.drop_zero]
  skip
  refine RT.ldB T rfl (rD (hb)) rfl rfl rfl rfl ?_
  refine RT.nilG rfl rfl rfl ?_
  refine RT.ldB T rfl (rD (hF)) hfl rfl rfl rfl ?_
  try refine gL ?_
  refine RT.ldB T rfl (rD (ho)) rfl rfl rfl rfl ?_
  refine RT.mv1 rfl rfl rfl ?_
  refine RT.qcallC T (caps := []) rfl rfl (QSp.of fR_ (hof _)) hg rfl rfl ?_
  refine RT.nilG rfl rfl rfl ?_
  refine RT.ldS T rfl hx.cons hu rfl rfl rfl ?_
  try refine gL ?_
  refine RT.ix T (j := i * 7) rfl rfl rfl (rD (hvR)) (by omega) (by omega) (by omega) rfl rfl ?_
  try refine gL ?_
  refine AtQ.tail ?_
  refine RT.call T rfl fR_ (hall i x hgi [] _ hS2.open_) rfl rfl rfl ?_
  rintro _ _ ⟨rfl, S3, hS3, rfl⟩
  simp only [List.cons_append, List.nil_append]
  have hS4 := hS3.wok hS2.open_
  try refine gL ?_
  refine RT.ldB T rfl (rD (hO)) rfl rfl rfl rfl ?_
  try refine gL ?_
  refine RT.call T rfl fR_ (shut_fn hS4.1 (by have := hS4.2.1; omega) (fun he => (hS4.2.2 he).1)) rfl rfl rfl ?_
  rintro _ _ ⟨rfl, rfl⟩
  simp only [List.cons_append, List.nil_append]
  repeat' (first|refine gL ?_|(refine gv ?_;refine gk ?_)|fail)
  refine AtQ.loop (i + 1, _) ⟨rfl, rfl, rfl, rfl, rfl, rfl, rfl, trivial⟩ (fun w h => Sat.pu_in ⟨by omega, by rw [fRecs_snoc hgi]; exact hw.app (Wrt.record hS1 hS3)⟩ h) (by dsimp only; omega)
 ·obtain rfl : i = l.length := by omega
  rw [List.take_length] at hw
  exact AtQ.fin0 (H' := [Wr pw S1]) Tryz.results245 ⟨rfl, S1, hw, rfl⟩ (fun w h => h) _ (by first | exact .inl rfl | exact .inr rfl)
set_option maxHeartbeats 2000000 in
theorem some_File_EnumDef_put {α : Type} {cl : α → List Value} {bs : α → Txt} {p rn rc : Nat} {ra : Option Addr} {v : Rw α} (hO : Rd B R (some ⟨pe, 0, none⟩) 1 1 2 [ptr pw, .int .i64 0]) (hn : Rd B R (some ⟨bn, 0, none⟩) 1 1 1 [.int .i32 num]) (ho : Rd B R (some ⟨bo, 0, none⟩) 1 1 1 [.func (.func g) #[] #[]]) (hg : al T.funs g = some gb) (hof : ∀ R, Sp B Tryz.prog g [.pointer (some ad)] R [] (fun v H' => v = .pointer (some (ad.add off)) ∧ H' = [])) (hx : StAt B R ad xs) (h1 : 1 ≤ num) (h2 : num ≤ 15)
  (hb : Rd B R (some ⟨bl, 0, none⟩) 1 1 1 [.pointer (some ⟨p, 5, none⟩)]) (hF : Rd B R (some ⟨p, 0, none⟩) 1 1 8 fl) (hfl : fl[5]? = some (.slice ra rn rc)) (hcl : ∀ x, (cl x).length = 5)
  (hu : xs[off]? = some v.v) (hvl : v.l.length ≤ 140737488355328) (hvR : Rd B R v.a v.l.length v.c 5 (v.l.flatMap cl))
  (hall : ∀ (i : Nat) (x : α), v.l[i]? = some x → ∀ (H : List HP) (S : WS), Wok k S → Sp B Tryz.prog 230 [.slice ra rn rc, ptr pe, .pointer (some ((adr v.a).add (i * 5)))] (H ++ R) [Wr pw S] (fun u H' => u = .tuple #[] ∧ ∃ S', Wrt k S (bs x) S' ∧ H' = [Wr pw S'])) (hS : Wok (k + 1) S) :
  Sp B Tryz.prog 247 [ptr pe, .pointer (some ad), ptr bo, ptr bn, ptr bl] R [Wr pw S] (fun u H' => u = .tuple #[] ∧ ∃ S', Wrt (k + 1) S (fRecs num bs v.l) S' ∧ H' = [Wr pw S']) := by
 obtain ⟨va, vc, l⟩ := v
 simp only [Rw.v] at *
 refine Sp.body Tryz.func247 rfl Tryz.ntmps247 (by simp) ?_
 simp only [argE, List.cons_append, List.nil_append, Nat.zero_add, Nat.reduceAdd]
 try refine gL ?_
 refine RT.ldB T rfl (rD (ho)) rfl rfl rfl rfl ?_
 try refine gL ?_
 refine RT.callC T (caps := []) rfl rfl fR_ (hof _) hg rfl rfl ?_
 rintro _ _ ⟨rfl, rfl⟩
 simp only [List.nil_append]
 refine RT.nilG rfl rfl rfl ?_
 refine RT.ldS T rfl hx.cons hu rfl rfl rfl ?_
 try refine gL ?_
 refine CT.loop (α := Nat × WS) (fun s => [(0, ptr pe), (1, .pointer (some ad)), (2, ptr bo), (3, ptr bn), (4, ptr bl), (14, .int .i64 l.length), (15, .int .i64 s.1)]) (fun s => Pu (s.1 ≤ l.length ∧ Wrt (k + 1) S (fRecs num bs (l.take s.1)) s.2) :: Wr pw s.2 :: R) (fun s => l.length - s.1) (0, S)
  ⟨rfl, rfl, rfl, rfl, rfl, rfl, rfl, trivial⟩ (fun w h => Sat.pu_in ⟨Nat.zero_le _, by rw [List.take_zero]; exact Wrt.nil hS.1⟩ h) (fun ⟨i, S1⟩ => CT.pu fun ⟨hi, hw⟩ => ?_)
 dsimp only at hi hw ⊢
 have hS1 := hw.wok hS
 have hS := hS1.1
 repeat' (first|refine gQ ?_|(refine gv ?_;(refine⟨fun hc=>?_,fun hc=>?_⟩<;>first|(exfalso;omega)|skip))|fail)
 ·have hil : i < l.length := by omega
  have hgi := List.getElem?_eq_getElem hil
  revert hgi
  generalize l[i] = x
  intro hgi
  refine CT.tail 5 mixed (by kernel_rfl) ?_
  dsimp only [List.take_succ_cons, List.take_zero, List.drop_succ_cons, List.drop_zero]
  try refine gL ?_
  refine RT.ldB T rfl (rD (hO)) rfl rfl rfl rfl ?_
  skip
  refine RT.ldB T rfl (rD (hn)) rfl rfl rfl rfl ?_
  try refine gL ?_
  refine AtQ.tail ?_
  refine RT.call T rfl fR_ (tag_fn (n := num) (k := 2) hS (by decide) (by decide) (by omega) (by omega)) rfl rfl rfl ?_
  rintro _ _ ⟨rfl, rfl⟩
  rw [wsTag_put (k := 2) h1 (by omega) (by decide)]
  simp only [List.cons_append, List.nil_append]
  try refine gQ ?_
  refine RT.ldB T rfl (rD (hO)) rfl rfl rfl rfl ?_
  have hS2 := hS1.put (enc (num * 8 + 2))
  refine RT.call T rfl fR_ (open_fn (by have := hS2.1; unfold WS.ok at this; omega) (by have := hS2.2.1; omega)) rfl rfl rfl ?_
  rintro _ _ ⟨rfl, rfl⟩
  simp only [List.cons_append, List.nil_append]
  try refine gQ ?_
  refine CT.tail 11 mixed (by kernel_rfl) ?_
  dsimp only [List.take_succ_cons, List.take_zero, List.drop_succ_cons, List.drop_zero]
  skip
  refine RT.ldB T rfl (rD (hb)) rfl rfl rfl rfl ?_
  refine RT.nilG rfl rfl rfl ?_
  refine RT.ldB T rfl (rD (hF)) hfl rfl rfl rfl ?_
  try refine gL ?_
  refine RT.ldB T rfl (rD (ho)) rfl rfl rfl rfl ?_
  refine RT.mv1 rfl rfl rfl ?_
  refine RT.qcallC T (caps := []) rfl rfl (QSp.of fR_ (hof _)) hg rfl rfl ?_
  refine RT.nilG rfl rfl rfl ?_
  refine RT.ldS T rfl hx.cons hu rfl rfl rfl ?_
  try refine gL ?_
  refine RT.ix T (j := i * 5) rfl rfl rfl (rD (hvR)) (by omega) (by omega) (by omega) rfl rfl ?_
  try refine gL ?_
  refine AtQ.tail ?_
  refine RT.call T rfl fR_ (hall i x hgi [] _ hS2.open_) rfl rfl rfl ?_
  rintro _ _ ⟨rfl, S3, hS3, rfl⟩
  simp only [List.cons_append, List.nil_append]
  have hS4 := hS3.wok hS2.open_
  try refine gL ?_
  refine RT.ldB T rfl (rD (hO)) rfl rfl rfl rfl ?_
  try refine gL ?_
  refine RT.call T rfl fR_ (shut_fn hS4.1 (by have := hS4.2.1; omega) (fun he => (hS4.2.2 he).1)) rfl rfl rfl ?_
  rintro _ _ ⟨rfl, rfl⟩
  simp only [List.cons_append, List.nil_append]
  repeat' (first|refine gL ?_|(refine gv ?_;refine gk ?_)|fail)
  refine AtQ.loop (i + 1, _) ⟨rfl, rfl, rfl, rfl, rfl, rfl, rfl, trivial⟩ (fun w h => Sat.pu_in ⟨by omega, by rw [fRecs_snoc hgi]; exact hw.app (Wrt.record hS1 hS3)⟩ h) (by dsimp only; omega)
 ·obtain rfl : i = l.length := by omega
  rw [List.take_length] at hw
  exact AtQ.fin0 (H' := [Wr pw S1]) Tryz.results247 ⟨rfl, S1, hw, rfl⟩ (fun w h => h) _ (by first | exact .inl rfl | exact .inr rfl)
set_option maxHeartbeats 2000000 in
theorem some_set_File_put {α : Type} {cl : α → List Value} {bs : α → Txt} {p rn rc : Nat} {ra : Option Addr} {v : Rw α} (hO : Rd B R (some ⟨pe, 0, none⟩) 1 1 2 [ptr pw, .int .i64 0]) (hn : Rd B R (some ⟨bn, 0, none⟩) 1 1 1 [.int .i32 num]) (ho : Rd B R (some ⟨bo, 0, none⟩) 1 1 1 [.func (.func g) #[] #[]]) (hg : al T.funs g = some gb) (hof : ∀ R, Sp B Tryz.prog g [.pointer (some ad)] R [] (fun v H' => v = .pointer (some (ad.add off)) ∧ H' = [])) (hx : StAt B R ad xs) (h1 : 1 ≤ num) (h2 : num ≤ 15)
  (hb : Rd B R (some ⟨bl, 0, none⟩) 1 1 1 [.pointer (some ⟨p, 1, none⟩)]) (hF : Rd B R (some ⟨p, 0, none⟩) 1 1 8 fl) (hfl : fl[1]? = some (.slice ra rn rc)) (hcl : ∀ x, (cl x).length = 5)
  (hu : xs[off]? = some v.v) (hvl : v.l.length ≤ 140737488355328) (hvR : Rd B R v.a v.l.length v.c 5 (v.l.flatMap cl))
  (hall : ∀ (i : Nat) (x : α), v.l[i]? = some x → ∀ (H : List HP) (S : WS), Wok k S → Sp B Tryz.prog 250 [.slice ra rn rc, ptr pe, .pointer (some ((adr v.a).add (i * 5)))] (H ++ R) [Wr pw S] (fun u H' => u = .tuple #[] ∧ ∃ S', Wrt k S (bs x) S' ∧ H' = [Wr pw S'])) (hS : Wok (k + 1) S) :
  Sp B Tryz.prog 249 [ptr pe, .pointer (some ad), ptr bo, ptr bn, ptr bl] R [Wr pw S] (fun u H' => u = .tuple #[] ∧ ∃ S', Wrt (k + 1) S (fRecs num bs v.l) S' ∧ H' = [Wr pw S']) := by
 obtain ⟨va, vc, l⟩ := v
 simp only [Rw.v] at *
 refine Sp.body Tryz.func249 rfl Tryz.ntmps249 (by simp) ?_
 simp only [argE, List.cons_append, List.nil_append, Nat.zero_add, Nat.reduceAdd]
 try refine gL ?_
 refine RT.ldB T rfl (rD (ho)) rfl rfl rfl rfl ?_
 try refine gL ?_
 refine RT.callC T (caps := []) rfl rfl fR_ (hof _) hg rfl rfl ?_
 rintro _ _ ⟨rfl, rfl⟩
 simp only [List.nil_append]
 refine RT.nilG rfl rfl rfl ?_
 refine RT.ldS T rfl hx.cons hu rfl rfl rfl ?_
 try refine gL ?_
 refine CT.loop (α := Nat × WS) (fun s => [(0, ptr pe), (1, .pointer (some ad)), (2, ptr bo), (3, ptr bn), (4, ptr bl), (14, .int .i64 l.length), (15, .int .i64 s.1)]) (fun s => Pu (s.1 ≤ l.length ∧ Wrt (k + 1) S (fRecs num bs (l.take s.1)) s.2) :: Wr pw s.2 :: R) (fun s => l.length - s.1) (0, S)
  ⟨rfl, rfl, rfl, rfl, rfl, rfl, rfl, trivial⟩ (fun w h => Sat.pu_in ⟨Nat.zero_le _, by rw [List.take_zero]; exact Wrt.nil hS.1⟩ h) (fun ⟨i, S1⟩ => CT.pu fun ⟨hi, hw⟩ => ?_)
 dsimp only at hi hw ⊢
 have hS1 := hw.wok hS
 have hS := hS1.1
 repeat' (first|refine gQ ?_|(refine gv ?_;(refine⟨fun hc=>?_,fun hc=>?_⟩<;>first|(exfalso;omega)|skip))|fail)
 ·have hil : i < l.length := by omega
  have hgi := List.getElem?_eq_getElem hil
  revert hgi
  generalize l[i] = x
  intro hgi
  refine CT.tail 5 mixed (by kernel_rfl) ?_
  dsimp only [List.take_succ_cons, List.take_zero, List.drop_succ_cons, List.drop_zero]
  try refine gL ?_
  refine RT.ldB T rfl (rD (hO)) rfl rfl rfl rfl ?_
  skip
  refine RT.ldB T rfl (rD (hn)) rfl rfl rfl rfl ?_
  try refine gL ?_
  refine AtQ.tail ?_
  refine RT.call T rfl fR_ (tag_fn (n := num) (k := 2) hS (by decide) (by decide) (by omega) (by omega)) rfl rfl rfl ?_
  rintro _ _ ⟨rfl, rfl⟩
  rw [wsTag_put (k := 2) h1 (by omega) (by decide)]
  simp only [List.cons_append, List.nil_append]
  try refine gQ ?_
  refine RT.ldB T rfl (rD (hO)) rfl rfl rfl rfl ?_
  have hS2 := hS1.put (enc (num * 8 + 2))
  refine RT.call T rfl fR_ (open_fn (by have := hS2.1; unfold WS.ok at this; omega) (by have := hS2.2.1; omega)) rfl rfl rfl ?_
  rintro _ _ ⟨rfl, rfl⟩
  simp only [List.cons_append, List.nil_append]
  try refine gQ ?_
  refine CT.tail 11 mixed (by kernel_rfl) ?_
  dsimp only [List.take_succ_cons, List.take_zero, List.drop_succ_cons, List.drop_zero]
  skip
  refine RT.ldB T rfl (rD (hb)) rfl rfl rfl rfl ?_
  refine RT.nilG rfl rfl rfl ?_
  refine RT.ldB T rfl (rD (hF)) hfl rfl rfl rfl ?_
  try refine gL ?_
  refine RT.ldB T rfl (rD (ho)) rfl rfl rfl rfl ?_
  refine RT.mv1 rfl rfl rfl ?_
  refine RT.qcallC T (caps := []) rfl rfl (QSp.of fR_ (hof _)) hg rfl rfl ?_
  refine RT.nilG rfl rfl rfl ?_
  refine RT.ldS T rfl hx.cons hu rfl rfl rfl ?_
  try refine gL ?_
  refine RT.ix T (j := i * 5) rfl rfl rfl (rD (hvR)) (by omega) (by omega) (by omega) rfl rfl ?_
  try refine gL ?_
  refine AtQ.tail ?_
  refine RT.call T rfl fR_ (hall i x hgi [] _ hS2.open_) rfl rfl rfl ?_
  rintro _ _ ⟨rfl, S3, hS3, rfl⟩
  simp only [List.cons_append, List.nil_append]
  have hS4 := hS3.wok hS2.open_
  try refine gL ?_
  refine RT.ldB T rfl (rD (hO)) rfl rfl rfl rfl ?_
  try refine gL ?_
  refine RT.call T rfl fR_ (shut_fn hS4.1 (by have := hS4.2.1; omega) (fun he => (hS4.2.2 he).1)) rfl rfl rfl ?_
  rintro _ _ ⟨rfl, rfl⟩
  simp only [List.cons_append, List.nil_append]
  repeat' (first|refine gL ?_|(refine gv ?_;refine gk ?_)|fail)
  refine AtQ.loop (i + 1, _) ⟨rfl, rfl, rfl, rfl, rfl, rfl, rfl, trivial⟩ (fun w h => Sat.pu_in ⟨by omega, by rw [fRecs_snoc hgi]; exact hw.app (Wrt.record hS1 hS3)⟩ h) (by dsimp only; omega)
 ·obtain rfl : i = l.length := by omega
  rw [List.take_length] at hw
  exact AtQ.fin0 (H' := [Wr pw S1]) Tryz.results249 ⟨rfl, S1, hw, rfl⟩ (fun w h => h) _ (by first | exact .inl rfl | exact .inr rfl)
end Go.Proofs.YtclcnhfponjdaaaGreatDoor
end
