/- Merged: K1, K2, K3, K5, K6, K8, X0, S1, Lx, LAwake, D1, D2, D3, P23, P1, B1, B2, B3, B5, B6, B7, B8, B16, Pb4, S2, B17, M1, F1, H1, P21, B18, B18r, Y1, P24, Z1, Z0, Z2, Z3, Z4, P26. -/
import Derived.Test.YtdemnhdoadjhhaaGreatDoorRows
import Derived.WalkKit
import Derived.ProofKit
import Derived.OpenShut
import Derived.Test.YtdemnhdoadjhhaaGreatDoorSkA
import Derived.ReadAgain
import Derived.ChangeStays
import Derived.SizedLaws
import Derived.Test.YtdemnhdoadjhhaaGreatDoorTb
import Derived.SevenTiedAt
import Derived.Stop.Joined
import Derived.Shelf.Vars
import Derived.MakeChecks
import Derived.Lib.MakeNoZero
import Derived.Lib.Builder
import Derived.Laws.Externs
import Derived.LaidHandle
import Derived.Test.YtdemnhdoadjhhaaGreatDoorXsB
import Derived.Shelf.Strings.Builder1
import Derived.Shelf.Strings.Builder2
import Derived.Shelf.Unicode.DecodeAny
import Derived.Test.YtdemnhdoadjhhaaGreatDoorProg
import Derived.LaidMore
import Derived.LaidLaws
import Derived.Lib.LaidU8
import Derived.Lib.LaidU8T
import Derived.Lib.LaidIn
import Derived.Lib.TrimUEq
import Derived.Lib.Split
import Derived.Lib.CountLaws
import Derived.Lib.IndexBytes
import Derived.Shelf.Strings.Split
import Derived.Test.YtdemnhdoadjhhaaGreatDoorSkB
set_option linter.unusedVariables false
set_option linter.unusedSimpArgs false
section
namespace Go.Sk
open Go.ChangeShapes Go.WideShapes Go.ChangeAt Go.RowKit
/-- What lay before lies unchanged behind. -/
structure Old (W w' : World) : Prop where
 kept : W.keptBut w' (fun _ => False)
 fz : ∀ a : Addr, a.block < W.heap.size → w'.frozen? a = W.frozen? a
 size : W.heap.size ≤ w'.heap.size
theorem Sat.old {W w' : World} {H : List HP} (h : Sat W H w') : Old W w' := by
 refine ⟨⟨h.os, h.output, fun i hi => ?_⟩, fun a ha => ?_, h.size⟩
 ·rw [h.base i hi]
  cases hc : W.heap[i]? with
  | none => simp
  | some o => cases o <;> simp
 ·unfold World.frozen?
  rw [h.base _ ha]
theorem Old.frame {W w' : World} (h : Old W w') (may : MemPlace → Prop) : W.keptBut w' may := World.keptBut_mono (fun _ f => f.elim) h.kept
section
variable {H : Type} {enc : TypeId × Value → H} {P : Program}
theorem post_of_old {f : Func} {s : ChangeSpec} {apart fresh handsOn again : Bool} {W W' : World} {args : Array Value} {v : Value} {ds gs : List (DataW H)} {before pa pv : List MemPlace}
  (hW : DataW.Whole enc P f.params.toList s.vars apart W args.toList ds gs before)
  (hres : ∀ (b : Nat) (sp : Nat → Bool) (hd : Bool), DataW.TrodAll enc P W' b sp hd f.resultTypes.toList (v.resultList f.resultTypes.size) (s.fn H (ds ++ gs)).results [])
  (hargs : ∀ sp : Nat → Bool, (∀ p ∈ before, sp p.block = true) → DataW.TrodAll enc P W' 0 sp true f.params.toList args.toList (s.fn H (ds ++ gs)).args pa)
  (hvars : ∀ sp : Nat → Bool, (∀ p ∈ before, sp p.block = true) → DataW.TrodVars enc P W' sp s.vars (s.fn H (ds ++ gs)).vars pv)
  (hps : before = pa ++ pv) (ho : Old W W')
  (hok : ∀ (j : Nat) (t : TypeId) (r : Value), f.resultTypes[j]? = some t → (v.resultList f.resultTypes.size)[j]? = some r → Value.okWide P W' .any 0 t r) :
  s.post enc P f apart fresh handsOn again W args v W' := by
 have hold : ∀ p ∈ before, (fun b => decide (b < W.heap.size)) p.block = true := fun p hp => by simpa using hW.lt p hp
 have hlt := hW.lt
 refine ⟨ds, gs, before, [], pa, pv, hW, hres _ _ _, hargs _ hold, hvars _ hold, World.keptBut_mono (fun p hp => ⟨hp, ?_⟩) (ho.frame (· ∈ before)), fun _ => ?_⟩
 ·rw [hps, List.mem_append] at hp
  exact Or.inr hp
 ·obtain ⟨_, _, _, _, _, hz, hn⟩ := hW
  refine ⟨hok, _, _, ([] ++ pa) ++ pv, ⟨[] ++ pa, pv, trodAll_append (hargs _ (fun _ _ => rfl)) (hres _ _ _), hvars _ (fun _ _ => rfl), rfl, ?_, ?_⟩, ?_⟩
  ·intro b off hp
   have hb : MemPlace.cell b off ∈ before := by rw [hps]; simpa using hp
   rw [ho.fz _ (by simpa [MemPlace.block] using hlt _ hb)]
   exact hz b off hb
  ·intro ha
   have := hn ha
   rw [hps] at this
   simpa using this
  ·intro p hp _
   rw [hps]
   simpa using hp
end
end Go.Sk
end
section
namespace Go.Sk
open Go.ChangeShapes Go.WideShapes Go.ChangeAt Go.RowKit
section
variable {H : Type} {enc : TypeId × Value → H} {P : Program}
theorem Sat.same {W w' : World} {Hs : List HP} (h : Sat W Hs w') (p : MemPlace) (hp : p.block < W.heap.size) : W.sameAt w' p := by
 cases p <;> simp only [World.sameAt, MemPlace.block, World.cell?] at hp ⊢ <;> rw [h.base _ hp]
theorem TrodAll.stays {W w' : World} (hs : ∀ p : MemPlace, p.block < W.heap.size → W.sameAt w' p) {T : TypeId → Prop} (K : Kids P T) (hz : ∀ {t e : TypeId}, T t → P.underlying t = some (.slice e) → 0 < P.cellsOf e) {sp : Nat → Bool} :
  ∀ {ts : List TypeId} {vs : List Value} {ds : List (DataW H)} {ps : List MemPlace}, (∀ t ∈ ts, T t) → DataW.TrodAll enc P W 0 (fun _ => true) true ts vs ds ps → (∀ p ∈ ps, sp p.block = true) → DataW.TrodAll enc P w' 0 sp true ts vs ds ps
 | [], [], [], _, _, h, _ => h
 | _ :: _, _ :: _, _ :: _, _, hT, ⟨p, q, ⟨n, h1⟩, h2, e⟩, hsp => by
  subst e
  refine ⟨p, q, ⟨n, ?_⟩, TrodAll.stays hs K hz (fun t ht => hT t (List.mem_cons_of_mem _ ht)) h2 (fun x hx => hsp x (List.mem_append_right _ hx)), rfl⟩
  exact DataW.trod_stays K hz (fun h => by cases h) (hT _ (List.mem_cons_self ..)) h1 (fun x hx => hs x (DataW.trod_lt n _ _ _ h1 x hx)) (fun x hx => hsp x (List.mem_append_left _ hx))
end
end Go.Sk
namespace Go.Sk
open Go.ChangeShapes Go.WideShapes Go.ChangeAt Go.RowKit
section
variable {H : Type} {enc : TypeId × Value → H} {P : Program}
/-- From the walk of a law whose arguments may hold memory to its row's post. -/
theorem law_post {fid : FuncId} {f : Func} {s : ChangeSpec} {apart fresh handsOn again : Bool} {W : World} {args : Array Value} {ds gs : List (DataW H)} {before : List MemPlace} {T : TypeId → Prop} {tb : TypeId} (K : Kids P T)
  (hz : ∀ {t e : TypeId}, T t → P.underlying t = some (.slice e) → 0 < P.cellsOf e) (hT : ∀ t ∈ f.params.toList, T t) (hvars : s.vars = []) (hrt : f.resultTypes = #[tb]) (hub : P.underlying tb = some .bool)
  (hW : DataW.Whole enc P f.params.toList s.vars apart W args.toList ds gs before)
  (hfn : DataW.TrodAll enc P W 0 (fun _ => true) true f.params.toList args.toList ds before → (s.fn H (ds ++ [])).results = [.lit (.bool true)] ∧ (s.fn H (ds ++ [])).args = ds ∧ (s.fn H (ds ++ [])).vars = [])
  (hwalk : DataW.TrodAll enc P W 0 (fun _ => true) true f.params.toList args.toList ds before → Calls P fid args W fun e w' => e = .returned (.bool true) ∧ Sat W [] w') :
  Calls P fid args W fun e w' => ∃ v, e = .returned v ∧ s.post enc P f apart fresh handsOn again W args v w' := by
 have hW' := hW
 obtain ⟨p, q, hA, hV, rfl, hfz, hnd⟩ := hW
 rw [hvars] at hV
 obtain ⟨rfl, rfl⟩ := trodVars_none hV
 rw [List.append_nil] at hfn hwalk
 obtain ⟨e1, e2, e3⟩ := hfn hA
 refine (hwalk hA).mono fun e W' ⟨he, hs⟩ => ⟨_, he, ?_⟩
 refine post_of_old (pa := p) (pv := []) hW' (fun b sp hd => ?_) (fun sp hsp => ?_) (fun sp _ => ?_) rfl hs.old ?_
 ·rw [hrt, e1]
  exact trodAll_cons_mk (shut_bool hub _) trodAll_mk0
 ·rw [e2]
  exact TrodAll.stays (fun x hx => hs.same x hx) K hz hT hA (fun x hx => hsp x (List.mem_append_left _ hx))
 ·rw [e3, hvars]
  rfl
 ·exact ok_one hrt rfl (okWide_bool_mk hub _)
end
end Go.Sk
end
section
namespace Go.Sk
open Go.ChangeShapes Go.WideShapes Go.ChangeAt Go.RowKit
section
variable {H : Type} {enc : TypeId × Value → H} {P : Program} {W : World} {sp : Nat → Bool}
theorem Sat.cellOld {w : World} {Hs : List HP} (h : Sat W Hs w) {a : Addr} {v : Value} (hc : W.cell? a = some v) : w.cell? a = some v := by
 have hb : a.block < W.heap.size := World.block_lt_of_cell? W a hc
 unfold World.cell? at hc ⊢
 rw [h.base _ hb]
 exact hc
theorem getElem?_flat {z : Nat} : ∀ (es : List (List Value)), (∀ c ∈ es, c.length = z) → ∀ (j : Nat) (u : Value), es.flatten[j]? = some u → ∃ i c r, es[i]? = some c ∧ r < z ∧ j = i * z + r ∧ c[r]? = some u
 | [], _, j, u, h => by simp at h
 | c :: es, hz, j, u, h => by
  have hcz := hz c (by simp)
  rw [List.flatten_cons] at h
  by_cases hj : j < c.length
  ·rw [List.getElem?_append_left hj] at h
   exact ⟨0, c, j, rfl, by omega, by omega, h⟩
  ·rw [List.getElem?_append_right (by omega)] at h
   obtain ⟨i, c', r, h1, h2, h3, h4⟩ := getElem?_flat es (fun c hc => hz c (by simp [hc])) _ u h
   refine ⟨i + 1, c', r, by simpa using h1, h2, ?_, h4⟩
   rw [Nat.add_mul, Nat.one_mul]
   omega
end
end Go.Sk
end
section
namespace Go.Sk
open Go.ChangeShapes Go.WideShapes Go.ChangeAt Go.RowKit
section
variable {H : Type} {enc : TypeId × Value → H} {P : Program} {W : World}
/-- Nothing in it weighs more than may be reached. -/
def Light (P : Program) (t : TypeId) (d : DataW H) : Prop := ∀ q ∈ d.weights P t, q ≤ reachBytes
theorem light_all {e : TypeId} : ∀ {l : List (DataW H)}, (∀ q ∈ DataW.weightsAll P e l, q ≤ reachBytes) → ∀ d ∈ l, Light P e d
 | [], _, d, h => by cases h
 | x :: l, hw, d, h => by
  simp only [DataW.weightsAll, List.mem_append] at hw
  rcases List.mem_cons.1 h with rfl | h
  ·exact fun q hq => hw q (.inl hq)
  ·exact light_all (fun q hq => hw q (.inr hq)) d h
theorem light_each {ts : List TypeId} {ds : List (DataW H)} (hw : ∀ q ∈ DataW.weightsEach P ts ds, q ≤ reachBytes) {j : Nat} {t : TypeId} {d : DataW H} (ht : ts[j]? = some t) (hd : ds[j]? = some d) : Light P t d :=
 fun q hq => hw q (DataW.weights_mem_each ht hd q hq)
theorem trod_field {t : TypeId} {cs : List Value} {x : DataW H × List MemPlace} {fuel : Nat} {fs : Array Field} (ht : P.underlying t = some (.struct fs)) (h : DataW.trod enc P W 0 (fun _ => true) true fuel t cs = some x) (hw : Light P t x.1) (i : Nat) (f : Field) (hf : fs[i]? = some f) :
  ∃ m y, DataW.trod enc P W 0 (fun _ => true) true m f.type ((cs.drop f.offset).take (P.cellsOf f.type)) = some y ∧ Light P f.type y.1 := by
 obtain ⟨xs, n, _, rfl, _, hl, hg⟩ := DataW.trod_struct ht h
 have hi : i < xs.length := by rw [hl]; exact (Array.getElem?_eq_some_iff.1 hf).1
 refine ⟨n, xs[i], ?_, ?_⟩
 ·rw [hg i f hf, List.getElem?_eq_getElem hi]
 ·have hw' : ∀ q ∈ DataW.weightsEach P (fs.toList.map (·.type)) (xs.map (·.1)), q ≤ reachBytes := by
   intro q hq
   refine hw q ?_
   simp only [DataW.weights, ht]
   exact hq
  refine light_each hw' (j := i) ?_ ?_
  ·rw [List.getElem?_map, Array.getElem?_toList, hf]; rfl
  ·rw [List.getElem?_map, List.getElem?_eq_getElem hi]; rfl
end
end Go.Sk
end
section
namespace Go.Proofs.YtdemnhdoadjhhaaGreatDoor
open Go.Sk Go.ChangeShapes Go.WideShapes Go.ChangeAt Go.RowKit
set_option maxRecDepth 100000
theorem rowed : laidOutB Tryz.prog = true := by kernel_rfl
theorem mapped : mapsRowed Tryz.prog = true := by kernel_rfl
theorem kids : Kids Tryz.prog (· < Tryz.prog.types.size) := kids_rows rowed mapped
theorem fullAll : ((List.range Tryz.prog.types.size).all fun t => match Tryz.prog.underlying t with | some (.slice e) => decide (0 < Tryz.prog.cellsOf e) | _ => true) = true := by kernel_rfl
theorem full {t e : TypeId} (h : t < Tryz.prog.types.size) (he : Tryz.prog.underlying t = some (.slice e)) : 0 < Tryz.prog.cellsOf e := slices_full_of Tryz.prog fullAll t e h he
end Go.Proofs.YtdemnhdoadjhhaaGreatDoor
namespace Go.Sk
open Go.ChangeShapes Go.WideShapes Go.ChangeAt Go.RowKit
theorem Sp.law2 {P : Program} {W : World} {f : FuncId} {vs : List Value} {v : Value} (h : Sp W P f vs [] [] (fun u H' => u = v ∧ H' = [])) : Calls P f vs.toArray W fun e w' => e = .returned v ∧ Sat W [] w' :=
 (h W (Sat.refl W)).mono fun _ _ ⟨_, _, he, ⟨hv, hh⟩, hs⟩ => ⟨by rw [he, hv], by subst hh; exact hs⟩
end Go.Sk
end
section
namespace Go.Proofs.YtdemnhdoadjhhaaGreatDoor
open Go.Sk Go.ChangeShapes Go.WideShapes Go.ChangeAt Go.RowKit
set_option linter.unusedVariables false
/-- As the kit's 'returnsInHanded_of_change_and', the world's shape being told too. -/
theorem returns_and_shaped {H : Type} {enc : TypeId × Value → H} {a : Assume} {C : Checked} {os : Os} {f : FuncId} {fn : Func} {s : ChangeSpec} {conds : List PathCond} {apart fresh handsOn again : Bool} {X : World → Array Value → Prop}
  (hX : ∀ (w w' : World) (args : Array Value), w.heap = w'.heap → X w args → X w' args)
  (own : ownKnob C.prog.godebug = none) (started : os.Started) (noInit : C.prog.inits.idxOf? f = none) (hfn : C.prog.funcs[f]? = some fn)
  (witness : ∃ (w : World) (tape : Tape) (i : Input), w.os = os ∧ (w.forCall tape i).Shaped C.prog ∧ i.vars = [] ∧ Input.okWide C.prog (w.forCall tape i) .any w.heap.size f i ∧
   ((s.pre enc C.prog fn conds apart (w.forCall tape i).memory i.args ∧ X (w.forCall tape i).memory i.args) ∧ sizedMet enc C.prog fn (OpenSpec.ofChange s) apart (w.forCall tape i).memory i.args) ∧ a.holds C.prog (lone (Frame.enter C.prog f i.args .normal) [] (w.forCall tape i)))
  (contract : ∀ (W : World) (base : Nat) (args : Array Value) (ds gs : List (DataW H)) (before : List MemPlace),
   (∀ (j : Nat) t v, fn.params[j]? = some t → args[j]? = some v → Value.okWide C.prog W .any base t v) →
   DataW.Whole enc C.prog fn.params.toList s.vars apart W args.toList ds gs before →
   conds.all (PathCond.test C.prog ⟨fn.params.toList, ds, s.plain.varTypes C.prog, gs⟩) = true →
   (DataW.weightsEach C.prog (fn.params.toList ++ s.plain.varTypes C.prog) (ds ++ gs)).all (· ≤ reachBytes) = true → X W args → W.ShapedOpen C.prog →
   a.holds C.prog (lone (Frame.enter C.prog f args .normal) [] W) →
   Calls C.prog f args W fun e W' => ∃ v, e = .returned v ∧ s.post enc C.prog fn apart fresh handsOn again W args v W') :
  ReturnsInHanded a C os f .any (fun w args => (s.pre enc C.prog fn conds apart w args ∧ X w args) ∧ sizedMet enc C.prog fn (OpenSpec.ofChange s) apart w args) (s.post enc C.prog fn apart fresh handsOn again) := by
 refine returnsInHanded_of_calls own started noInit witness ?_
 intro w tape i _ hsh _ hok hpre hholds
 obtain ⟨_, _, _, fn', hfn', _, _, _, _, hval⟩ := hok
 have e : fn' = fn := Option.some.inj (hfn'.symm.trans hfn)
 subst e
 obtain ⟨⟨⟨ds, gs, before, hw, hc⟩, hx⟩, hz⟩ := hpre
 have hw' := DataW.Whole.of_heap (w' := w.forCall tape i) (by rfl) hw
 refine (contract (w.forCall tape i) w.heap.size i.args ds gs before hval hw' hc (hz.weights hw) (hX _ _ _ (by rfl) hx) hsh hholds).mono fun e W' ⟨v, he, hp⟩ => ?_
 subst he
 exact ChangeSpec.post_blind hp

end Go.Proofs.YtdemnhdoadjhhaaGreatDoor
end
section
namespace Go.Proofs.YtdemnhdoadjhhaaGreatDoor
open Go.Sk Go.Xs
set_option maxRecDepth 1000000
theorem idok : ∀ g, Nat.beq g 166 = true → ∀ (v : Value) (w : World), (callFunc g #[v]).run Tryz.prog w = .ok (.value v) w := by
 intro g hg v w
 rw [Nat.beq_eq] at hg
 subst hg
 rw [run_callFunc_extern Tryz.func166 (by kernel_rfl) (by kernel_rfl) (by kernel_rfl) (e := Extern.AbiNoEscape.same) (by kernel_rfl)]
 rfl
theorem mnzok : ∀ g e, (bif Nat.beq g 167 then some 5 else none : Option TypeId) = some e → ∀ (n : Nat) (w : World), n ≤ 281474976710656 → ∃ cs : Array Value, (callFunc g #[.int .i64 (n : Int)]).run Tryz.prog w = .ok (.value (.slice (some ⟨w.heap.size, 0, none⟩) n cs.size)) (w.drew.drew.alloc (.cells cs e)) ∧ n ≤ cs.size ∧ (n ≤ maxLen → cs.size ≤ maxLen) := by
 intro g e hg n w hn
 cases hb : Nat.beq g 167 with
 | false => rw [hb] at hg; cases hg
 | true =>
  rw [hb] at hg
  rw [Nat.beq_eq] at hb
  subst hb
  cases hg
  obtain ⟨cs, hrun, hle, hmax⟩ := Lib.run_makeNoZero (P := Tryz.prog) w #[3] 162 5 Tryz.underlying162 n hn
  refine ⟨cs, ?_, hle, hmax⟩
  rw [run_callFunc_extern Tryz.func167 (by kernel_rfl) (by kernel_rfl) (by kernel_rfl) (e := Extern.BytealgMakeNoZero.makeNoZero #[3] #[162]) (by kernel_rfl), hrun]
  rfl
noncomputable def tvs : List TabV := [
 ⟨1, "unicode/utf8.first", 267, Rows.laid_unicode_utf8_first, flatD Rows.laid_unicode_utf8_first⟩,
 ⟨2, "unicode/utf8.acceptRanges", 270, Rows.laid_unicode_utf8_acceptRanges, flatD Rows.laid_unicode_utf8_acceptRanges⟩]
/-- What the rows list. -/
def laidL : List (String × DataW Unit) := [("unicode/utf8.acceptRanges", Rows.laid_unicode_utf8_acceptRanges), ("unicode/utf8.first", Rows.laid_unicode_utf8_first)]
theorem tvs_ok : ∀ x ∈ tvs, TabV.Fit Tryz.prog laidL x := by
 intro x hx
 simp only [tvs, List.mem_cons, List.not_mem_nil, or_false] at hx
 rcases hx with rfl | rfl
 ·exact ⟨by simp [laidL], by kernel_rfl, by kernel_rfl, by kernel_rfl, by kernel_rfl⟩
 ·exact ⟨by simp [laidL], by kernel_rfl, by kernel_rfl, by kernel_rfl, by kernel_rfl⟩
/-- The reckoning's frame: the program, its two tables, its functions. -/
noncomputable def CX : Ctx := { P := Tryz.prog, G := Gx.flat 3, tab := TabV.find tvs, fns := fnsOf Tryz.prog, idf := fun g => Nat.beq g 166, idok := idok, mnz := fun g => bif Nat.beq g 167 then some 5 else none, mnzok := mnzok }
theorem names_ok : Tryz.prog.funcs.toList.all (fun fn => !(fn.name == "runtime.NumGoroutine")) = true := by kernel_rfl
theorem CX.fok : CX.FOK := fun _ _ h => fnsOf_ok names_ok h
theorem CX.ok {B : World} (h : laidMetH Tryz.prog laidL B) : CX.OK (fun b => B.heap[b]?) := by
 rw [MakeChecks.laidMetH_plain _ _ _ (by kernel_rfl)] at h
 exact TabV.ok (C := CX) h rfl tvs_ok rfl
theorem no_sp (B : World) (F : Xs.PH) : SpOK B F CX (fun _ _ _ => none) := fun _ _ _ _ _ _ h => by cases h
end Go.Proofs.YtdemnhdoadjhhaaGreatDoor
end
section
namespace Go.Proofs
open Go.Shelf
def Tryz.lays165_ren : Go.Shelf.Ren := ⟨fun | 165 => 125 | 240 => 155 | 241 => 156 | 276 => 166 | 277 => 167 | n => n, fun | 70 => 232 | 3 => 3 | 0 => 0 | 4 => 4 | 9 => 9 | 20 => 20 | 72 => 234 | 37 => 162 | 164 => 258 | 5 => 5 | n => n, fun | n => n⟩
theorem Tryz.lays165 : Go.Proofs.Lays.n165 Tryz.prog Tryz.lays165_ren := {
 mixed := by kernel_rfl
 f165 := Tryz.func125.trans (congrArg some (by kernel_rfl))
 f240 := Tryz.func155.trans (congrArg some (by kernel_rfl))
 f241 := Tryz.func156.trans (congrArg some (by kernel_rfl))
 f276 := Tryz.func166.trans (congrArg some (by kernel_rfl))
 f277 := Tryz.func167.trans (congrArg some (by kernel_rfl))
 t0 := Tryz.underlying0
 a0 := Tryz.isAgg0
 z0 := Tryz.sizeOf0
 v0 := Tryz.zeroValue0
 t3 := Tryz.underlying3
 a3 := Tryz.isAgg3
 z3 := Tryz.sizeOf3
 v3 := Tryz.zeroValue3
 t4 := Tryz.underlying4
 a4 := Tryz.isAgg4
 z4 := Tryz.sizeOf4
 v4 := Tryz.zeroValue4
 t9 := Tryz.underlying9
 a9 := Tryz.isAgg9
 z9 := Tryz.sizeOf9
 v9 := Tryz.zeroValue9
 t20 := Tryz.underlying20
 a20 := Tryz.isAgg20
 z20 := Tryz.sizeOf20
 v20 := Tryz.zeroValue20
 t37 := Tryz.underlying162
 a37 := Tryz.isAgg162
 z37 := Tryz.sizeOf162
 v37 := Tryz.zeroValue162
 t70 := Tryz.underlying232
 a70 := Tryz.isAgg232
 z70 := Tryz.sizeOf232
 v70 := Tryz.zeroValue232
 t72 := Tryz.underlying234
 a72 := Tryz.isAgg234
 z72 := Tryz.sizeOf234
 v72 := Tryz.zeroValue234
 t164 := Tryz.underlying258
 a164 := Tryz.isAgg258
 z164 := Tryz.sizeOf258
 v164 := Tryz.zeroValue258 }
theorem Tryz.Builder_Extra_165 : Builder.Extra Tryz.prog Tryz.lays165_ren := {
 sizeBuilder := by kernel_rfl
 liesBuilder := by kernel_rfl
 t5 := Tryz.underlying5
 a5 := Tryz.isAgg5
 z5 := Tryz.sizeOf5
 v5 := Tryz.zeroValue5
 infoByte := by kernel_rfl
 cellsByte := by kernel_rfl
 sizeByte := by kernel_rfl
 neB5 := by decide }
def Tryz.lays197_ren : Go.Shelf.Ren := ⟨fun | 197 => 164 | 260 => 174 | n => n, fun | 9 => 9 | 21 => 21 | 3 => 3 | 4 => 4 | 5 => 5 | 105 => 256 | 119 => 267 | 0 => 0 | 46 => 252 | 139 => 270 | 138 => 269 | n => n, fun | 3 => 1 | 4 => 2 | n => n⟩
theorem Tryz.lays197 : Go.Proofs.Lays.n197 Tryz.prog Tryz.lays197_ren := {
 mixed := by kernel_rfl
 f197 := Tryz.func164.trans (congrArg some (by kernel_rfl))
 f260 := Tryz.func174.trans (congrArg some (by kernel_rfl))
 t0 := Tryz.underlying0
 a0 := Tryz.isAgg0
 z0 := Tryz.sizeOf0
 v0 := Tryz.zeroValue0
 t3 := Tryz.underlying3
 a3 := Tryz.isAgg3
 z3 := Tryz.sizeOf3
 v3 := Tryz.zeroValue3
 t4 := Tryz.underlying4
 a4 := Tryz.isAgg4
 z4 := Tryz.sizeOf4
 v4 := Tryz.zeroValue4
 t5 := Tryz.underlying5
 a5 := Tryz.isAgg5
 z5 := Tryz.sizeOf5
 v5 := Tryz.zeroValue5
 t9 := Tryz.underlying9
 a9 := Tryz.isAgg9
 z9 := Tryz.sizeOf9
 v9 := Tryz.zeroValue9
 t21 := Tryz.underlying21
 a21 := Tryz.isAgg21
 z21 := Tryz.sizeOf21
 v21 := Tryz.zeroValue21
 t46 := Tryz.underlying252
 a46 := Tryz.isAgg252
 z46 := Tryz.sizeOf252
 v46 := Tryz.zeroValue252
 t105 := Tryz.underlying256
 a105 := Tryz.isAgg256
 z105 := Tryz.sizeOf256
 v105 := Tryz.zeroValue256
 t119 := Tryz.underlying267
 a119 := Tryz.isAgg267
 z119 := Tryz.sizeOf267
 t138 := Tryz.underlying269
 a138 := Tryz.isAgg269
 z138 := Tryz.sizeOf269
 v138 := Tryz.zeroValue269
 t139 := Tryz.underlying270
 a139 := Tryz.isAgg270
 z139 := Tryz.sizeOf270
 v139 := Tryz.zeroValue270
 g3 := by kernel_rfl
 g4 := by kernel_rfl }
open Go.RowKit Go.Lib in
theorem Tryz.utf8_DecodeRuneInString (s : ByteArray) (w : World) (hT : Lib.Utf8Tabs 1 2 w) :
  Calls Tryz.prog 164 #[.string s] w fun e w' => e = .returned (.tuple #[.int .i32 (Lib.decodeGo s).1, .int .i64 (Lib.decodeGo s).2]) ∧ Below w.heap.size w w' := Any.utf8_DecodeRuneInString Tryz.lays197 s w hT
end Go.Proofs
end
section
namespace Go.Proofs.YtdemnhdoadjhhaaGreatDoor
set_option maxRecDepth 1000000
theorem own : ownKnob Tryz.prog.godebug = none := by kernel_rfl
theorem laidAcc : (Rows.laid_unicode_utf8_acceptRanges : DataW Unit) = Lib.acceptData := by kernel_rfl
theorem laidFirst : Rows.laid_unicode_utf8_first = Lib.firstData := by kernel_rfl
def laidL2 : List (String × DataW Unit) := [("unicode/utf8.acceptRanges", Lib.acceptData), ("unicode/utf8.first", Lib.firstData)]
theorem laidL_eq2 : laidL = laidL2 := by unfold laidL; rw [laidAcc, laidFirst]; rfl
theorem utf8_of {W : World} (h : laidMetH Tryz.prog laidL W) : Lib.Utf8Tabs 1 2 W := by
 rw [laidL_eq2, MakeChecks.laidMetH_plain _ _ _ (by kernel_rfl)] at h
 exact utf8Tabs_of_reads (ρ := Tryz.lays197_ren) { Tryz.lays197 with } ⟨by kernel_rfl, by kernel_rfl, by kernel_rfl, by kernel_rfl, by kernel_rfl, by kernel_rfl, by kernel_rfl⟩ (Lib.laidMet.reads h (.tail _ (.head _))) (Lib.laidMet.reads h (.head _))
/-- The settled world, the two tables laid. -/
noncomputable def laidWorld (os : Os) : World :=
 let w0 := World.holding Tryz.prog os ⟨#[], #[], []⟩
 let put (h : Array Obj) (g : Nat) (cs : Array Value) : Array Obj := h.modify g fun
  | .cells _ t frozen => .cells cs t frozen
  | o => o
 let h1 := put w0.heap 1 (Lib.firstTab.map fun z => Value.int .u8 z).toArray
 let h2 := put h1 2 ((List.range 16).flatMap fun i => [Value.int .u8 (Lib.accLo i), Value.int .u8 (Lib.accHi i)]).toArray
 { w0 with heap := h2 }
theorem laid_met (os : Os) (args : Array Value) : laidMetH Tryz.prog laidL ((laidWorld os).forCall (fun _ _ => 0) ⟨#[], args, []⟩).memory := by
 rw [laidL_eq2, MakeChecks.laidMetH_plain _ _ _ (by kernel_rfl)]
 exact (LaidIn.of_run [2, 1] 8 (by kernel_rfl) (by kernel_rfl) (by kernel_rfl) (by kernel_rfl)).met
end Go.Proofs.YtdemnhdoadjhhaaGreatDoor
end
section
namespace Go.Proofs.YtdemnhdoadjhhaaGreatDoor
open Go.Sk Go.Xs
set_option maxRecDepth 1000000
theorem awake_run : isTrue (callN CX 2000 (fun _ _ _ => none) 60 8 [] (hp0 CX.G)) = true := by kernel_rfl
theorem awake_fn {B : World} (hT : laidMetH Tryz.prog laidL B) (R : List HP) : Sp B Tryz.prog 8 [] R [] (fun v H' => v = .bool true ∧ H' = []) :=
 sp_true (C := CX) mixed (CX.ok hT) CX.fok (fun B F _ => no_sp B F) awake_run
end Go.Proofs.YtdemnhdoadjhhaaGreatDoor
end
section
namespace Go.Sk
abbrev Txt := List Int
/-- A row: where it lies, its room, what it holds. -/
structure Rw (α : Type) where
 a : Option Addr
 c : Nat
 l : List α
def Rw.v {α : Type} (r : Rw α) : Value := .slice r.a r.l.length r.c
abbrev vS (t : Txt) : Value := .string (str t)
structure SpanT where
 f : Int
 t : Int
structure EValT where
 nm : Txt
 num : Int
structure FieldT where
 nm : Txt
 num : Int
 card : Int
 kind : Int
 ty : Txt
 key : Int
 oneof : Int
 packed : Int
 js : Txt
structure ImpT where
 path : Txt
 pub : Bool
structure EnumT where
 nm : Txt
 vals : Rw EValT
 ali : Bool
 res : Rw SpanT
 names : Rw Txt
inductive MsgT where
 | mk (nm : Txt) (fields : Rw FieldT) (oneofs : Rw Txt) (ma : Option Addr) (mc : Nat) (msgs : List MsgT) (enums : Rw EnumT) (res : Rw SpanT) (names : Rw Txt)
structure FileT where
 path : Txt
 pack : Txt
 imps : Rw ImpT
 ma : Option Addr
 mc : Nat
 msgs : List MsgT
 enums : Rw EnumT
namespace MsgT
def nm : MsgT → Txt | mk n _ _ _ _ _ _ _ _ => n
def fields : MsgT → Rw FieldT | mk _ f _ _ _ _ _ _ _ => f
def oneofs : MsgT → Rw Txt | mk _ _ o _ _ _ _ _ _ => o
def ma : MsgT → Option Addr | mk _ _ _ a _ _ _ _ _ => a
def mc : MsgT → Nat | mk _ _ _ _ c _ _ _ _ => c
def msgs : MsgT → List MsgT | mk _ _ _ _ _ l _ _ _ => l
def enums : MsgT → Rw EnumT | mk _ _ _ _ _ _ e _ _ => e
def res : MsgT → Rw SpanT | mk _ _ _ _ _ _ _ r _ => r
def names : MsgT → Rw Txt | mk _ _ _ _ _ _ _ _ n => n
end MsgT
def SpanT.cells (s : SpanT) : List Value := [.int .i32 s.f, .int .i32 s.t]
def EValT.cells (v : EValT) : List Value := [vS v.nm, .int .i32 v.num]
def FieldT.cells (f : FieldT) : List Value := [vS f.nm, .int .i32 f.num, .int .u8 f.card, .int .u8 f.kind, vS f.ty, .int .u8 f.key, .int .i64 f.oneof, .int .u8 f.packed, vS f.js]
def ImpT.cells (i : ImpT) : List Value := [vS i.path, .bool i.pub]
def EnumT.cells (e : EnumT) : List Value := [vS e.nm, e.vals.v, .bool e.ali, e.res.v, e.names.v]
def MsgT.cells (m : MsgT) : List Value := [vS m.nm, m.fields.v, m.oneofs.v, .slice m.ma m.msgs.length m.mc, m.enums.v, m.res.v, m.names.v]
def FileT.cells (f : FileT) : List Value := [vS f.path, vS f.pack, f.imps.v, .slice f.ma f.msgs.length f.mc, f.enums.v]
/-! ### how deep -/
mutual
def MsgT.deep : MsgT → Nat
 | .mk _ _ _ _ _ l _ _ _ => MsgT.deepL l + 1
def MsgT.deepL : List MsgT → Nat
 | [] => 0
 | m :: l => max (MsgT.deep m) (MsgT.deepL l)
end
theorem MsgT.deep_mem : ∀ {l : List MsgT} {m : MsgT}, m ∈ l → m.deep ≤ MsgT.deepL l
 | [], _, h => by cases h
 | x :: l, m, h => by
  unfold MsgT.deepL
  rcases List.mem_cons.1 h with rfl | h
  ·exact Nat.le_max_left _ _
  ·exact Nat.le_trans (MsgT.deep_mem h) (Nat.le_max_right _ _)
/-! ### that its rows can be read -/
section
variable (X : Option Addr → Nat → Nat → Nat → List Value → Prop)
/-- Each row is a row X: address, how many, room, size, cells. -/
def EnumT.In (e : EnumT) : Prop := X e.vals.a e.vals.l.length e.vals.c 2 (e.vals.l.flatMap EValT.cells) ∧ X e.res.a e.res.l.length e.res.c 2 (e.res.l.flatMap SpanT.cells) ∧ X e.names.a e.names.l.length e.names.c 1 (e.names.l.map vS)
mutual
def MsgT.In : MsgT → Prop
 | .mk _ fields oneofs ma mc msgs enums res names => X fields.a fields.l.length fields.c 9 (fields.l.flatMap FieldT.cells) ∧ X oneofs.a oneofs.l.length oneofs.c 1 (oneofs.l.map vS) ∧ X ma msgs.length mc 7 (msgs.flatMap MsgT.cells) ∧
  X enums.a enums.l.length enums.c 5 (enums.l.flatMap EnumT.cells) ∧ (∀ e ∈ enums.l, e.In X) ∧ X res.a res.l.length res.c 2 (res.l.flatMap SpanT.cells) ∧ X names.a names.l.length names.c 1 (names.l.map vS) ∧ MsgT.InL msgs
def MsgT.InL : List MsgT → Prop
 | [] => True
 | m :: l => MsgT.In m ∧ MsgT.InL l
end
end
theorem MsgT.inL_mem {X : Option Addr → Nat → Nat → Nat → List Value → Prop} : ∀ {l : List MsgT} {m : MsgT}, MsgT.InL X l → m ∈ l → MsgT.In X m
 | [], _, _, h => by cases h
 | x :: l, m, hl, h => by
  unfold MsgT.InL at hl
  rcases List.mem_cons.1 h with rfl | h
  ·exact hl.1
  ·exact MsgT.inL_mem hl.2 h
/-! ### what such trees hold -/
def OkT (t : Txt) : Prop := Byt t ∧ t.length ≤ 140737488355328
def OkN {α : Type} (r : Rw α) : Prop := r.l.length ≤ 140737488355328 ∧ r.l.length ≤ r.c ∧ r.c ≤ 9223372036854775807
def I32 (x : Int) : Prop := -2147483648 ≤ x ∧ x ≤ 2147483647
def U8 (x : Int) : Prop := 0 ≤ x ∧ x ≤ 255
def SpanT.Ok (s : SpanT) : Prop := I32 s.f ∧ I32 s.t
def EValT.Ok (v : EValT) : Prop := OkT v.nm ∧ I32 v.num
def FieldT.Ok (f : FieldT) : Prop := OkT f.nm ∧ I32 f.num ∧ U8 f.card ∧ U8 f.kind ∧ OkT f.ty ∧ U8 f.key ∧ (-9223372036854775808 ≤ f.oneof ∧ f.oneof ≤ 9223372036854775807) ∧ U8 f.packed ∧ OkT f.js
def ImpT.Ok (i : ImpT) : Prop := OkT i.path
def EnumT.Ok (e : EnumT) : Prop := OkT e.nm ∧ OkN e.vals ∧ (∀ v ∈ e.vals.l, v.Ok) ∧ OkN e.res ∧ (∀ s ∈ e.res.l, s.Ok) ∧ OkN e.names ∧ ∀ t ∈ e.names.l, OkT t
mutual
def MsgT.Ok : MsgT → Prop
 | .mk nm fields oneofs ma mc msgs enums res names => OkT nm ∧ (OkN fields ∧ ∀ f ∈ fields.l, f.Ok) ∧ (OkN oneofs ∧ ∀ t ∈ oneofs.l, OkT t) ∧ OkN (⟨ma, mc, msgs⟩ : Rw MsgT) ∧ (OkN enums ∧ ∀ e ∈ enums.l, e.Ok) ∧ (OkN res ∧ ∀ s ∈ res.l, s.Ok) ∧ (OkN names ∧ ∀ t ∈ names.l, OkT t) ∧ MsgT.OkL msgs
def MsgT.OkL : List MsgT → Prop
 | [] => True
 | m :: l => MsgT.Ok m ∧ MsgT.OkL l
end
theorem MsgT.okL_mem : ∀ {l : List MsgT} {m : MsgT}, MsgT.OkL l → m ∈ l → MsgT.Ok m
 | [], _, _, h => by cases h
 | x :: l, m, hl, h => by
  unfold MsgT.OkL at hl
  rcases List.mem_cons.1 h with rfl | h
  ·exact hl.1
  ·exact MsgT.okL_mem hl.2 h
theorem MsgT.okL_of : ∀ {l : List MsgT}, (∀ m ∈ l, MsgT.Ok m) → MsgT.OkL l
 | [], _ => by unfold MsgT.OkL; trivial
 | x :: l, h => by unfold MsgT.OkL; exact ⟨h x List.mem_cons_self, MsgT.okL_of fun m hm => h m (List.mem_cons_of_mem _ hm)⟩
theorem MsgT.inL_of {X : Option Addr → Nat → Nat → Nat → List Value → Prop} : ∀ {l : List MsgT}, (∀ m ∈ l, MsgT.In X m) → MsgT.InL X l
 | [], _ => by unfold MsgT.InL; trivial
 | x :: l, h => by unfold MsgT.InL; exact ⟨h x List.mem_cons_self, MsgT.inL_of fun m hm => h m (List.mem_cons_of_mem _ hm)⟩
structure FileT.Ok (f : FileT) : Prop where
 path : OkT f.path
 pack : OkT f.pack
 imps : OkN f.imps ∧ ∀ i ∈ f.imps.l, i.Ok
 msgs : OkN (⟨f.ma, f.mc, f.msgs⟩ : Rw MsgT) ∧ ∀ m ∈ f.msgs, m.Ok
 enums : OkN f.enums ∧ ∀ e ∈ f.enums.l, e.Ok
structure FileT.In (X : Option Addr → Nat → Nat → Nat → List Value → Prop) (f : FileT) : Prop where
 imps : X f.imps.a f.imps.l.length f.imps.c 2 (f.imps.l.flatMap ImpT.cells)
 msgs : X f.ma f.msgs.length f.mc 7 (f.msgs.flatMap MsgT.cells)
 sub : ∀ m ∈ f.msgs, m.In X
 enums : X f.enums.a f.enums.l.length f.enums.c 5 (f.enums.l.flatMap EnumT.cells)
 esub : ∀ e ∈ f.enums.l, e.In X
end Go.Sk
end
section
namespace Go.Sk
open Go.ChangeShapes Go.WideShapes Go.ChangeAt Go.RowKit
section
variable {H : Type} {enc : TypeId × Value → H} {P : Program} {W : World}
/-- As read_sliceW; the elements are read by less. -/
theorem read_sliceF {t e : TypeId} {cs : List Value} {x : DataW H × List MemPlace} {fuel : Nat} (ht : P.underlying t = some (.slice e)) (hz : 0 < P.cellsOf e) (h : DataW.trod enc P W 0 (fun _ => true) true fuel t cs = some x) (hw : Light P t x.1) :
  ∃ (a : Option Addr) (n c : Nat) (es : List (List Value)), cs = [.slice a n c] ∧ n ≤ c ∧ c * P.bytesOf e ≤ reachBytes ∧ es.length = n ∧ (∀ ce ∈ es, ce.length = P.cellsOf e ∧ ∃ m y, m < fuel ∧ DataW.trod enc P W 0 (fun _ => true) true m e ce = some y ∧ Light P e y.1) ∧ ∀ Hs, Rd W Hs a n c (P.cellsOf e) es.flatten := by
 rcases DataW.trod_slice ht h with ⟨rfl, _⟩ | ⟨a, n, c, elems, rest, m, hm, rfl, rfl, _, hnc, hcm, hel, hget, hrest, _⟩
 ·exact ⟨none, 0, 0, [], rfl, Nat.le_refl _, by simp, rfl, fun _ h => absurd h (by simp), fun _ => Rd.none_⟩
 ·obtain ⟨hrl, _⟩ := hrest rfl
  have hw' : ∀ q ∈ ((elems.length + rest.length) * P.bytesOf e :: (DataW.weightsAll P e (elems.map (·.1)) ++ DataW.weightsAll P e (rest.map (·.1)))), q ≤ reachBytes := by
   intro q hq
   refine hw q ?_
   simp only [DataW.weights, ht, List.length_map]
   exact hq
  have hcb : c * P.bytesOf e ≤ reachBytes := by
   have := hw' _ List.mem_cons_self
   rwa [hel, hrl, show n + (c - n) = c by omega] at this
  have hlight : ∀ y ∈ elems, Light P e y.1 := fun y hy => light_all (fun q hq => hw' q (List.mem_cons_of_mem _ (List.mem_append_left _ hq))) y.1 (List.mem_map.2 ⟨y, hy, rfl⟩)
  have hcells : ∀ i, i < n → ∃ ce, W.cells? 0 (a.add (i * P.cellsOf e)) (P.cellsOf e) = some ce ∧ ∃ y, DataW.trod enc P W 0 (fun _ => true) true m e ce = some y ∧ Light P e y.1 := fun i hi => by
   have h1 := hget i hi
   rw [List.getElem?_eq_getElem (by omega), Option.bind_eq_some_iff] at h1
   obtain ⟨ce, h2, h3⟩ := h1
   exact ⟨ce, h2, _, h3, hlight _ (List.getElem_mem _)⟩
  let f : Nat → List Value := fun i => (W.cells? 0 (a.add (i * P.cellsOf e)) (P.cellsOf e)).getD []
  have hf : ∀ i, i < n → W.cells? 0 (a.add (i * P.cellsOf e)) (P.cellsOf e) = some (f i) ∧ ∃ y, DataW.trod enc P W 0 (fun _ => true) true m e (f i) = some y ∧ Light P e y.1 := fun i hi => by
   obtain ⟨ce, h1, h2⟩ := hcells i hi
   simp only [f, h1, Option.getD_some]
   exact ⟨trivial, h2⟩
  have hlen : ∀ ce ∈ (List.range n).map f, ce.length = P.cellsOf e := fun ce hce => by
   obtain ⟨i, hi, rfl⟩ := List.mem_map.1 hce
   exact (World.cells?_some (hf i (List.mem_range.1 hi)).1).2.1
  refine ⟨some a, n, c, (List.range n).map f, rfl, hnc, hcb, by simp, fun ce hce => ⟨hlen ce hce, ?_⟩, fun Hs => ⟨?_, hnc, fun w hS => ⟨fun _ => rfl, fun j u hj => ?_⟩⟩⟩
  ·obtain ⟨i, hi, rfl⟩ := List.mem_map.1 hce
   obtain ⟨y, h1, h2⟩ := (hf i (List.mem_range.1 hi)).2
   exact ⟨m, y, by omega, h1, h2⟩
  ·rw [List.length_flatten, List.map_map]
   have : (List.range n).map (List.length ∘ f) = List.replicate n (P.cellsOf e) := by
    apply List.ext_getElem
    ·simp
    ·intro i h1 h2
     simp only [List.getElem_map, List.getElem_range, Function.comp, List.getElem_replicate]
     exact hlen _ (List.mem_map.2 ⟨i, List.mem_range.2 (by simpa using h1), rfl⟩)
   rw [this, List.sum_replicate_nat]
  ·obtain ⟨i, ce, r, h1, h2, h3, h4⟩ := getElem?_flat _ hlen j u hj
   have hi : i < n := by have := (List.getElem?_eq_some_iff.1 h1).1; simpa using this
   have hce : ce = f i := by
    rw [List.getElem?_map, List.getElem?_range hi] at h1
    simpa using h1.symm
   subst hce
   have hcell := (World.cells?_some (hf i hi).1).2.2 r h2
   rw [h4] at hcell
   rw [adr, Option.getD_some, h3]
   refine hS.cellOld ?_
   rw [addr_addadd] at hcell
   exact hcell
/-- A row of things, each read by its own law. -/
theorem read_rw {α : Type} (cells : α → List Value) (ok : α → Prop) {t e : TypeId} {z by_ : Nat} {cs : List Value} {x : DataW H × List MemPlace} {fuel : Nat} (ht : P.underlying t = some (.slice e)) (hz : P.cellsOf e = z) (hz0 : 0 < z) (hb : P.bytesOf e = by_) (hb0 : 0 < by_)
  (hel : ∀ m ce y, m < fuel → ce.length = z → DataW.trod enc P W 0 (fun _ => true) true m e ce = some y → Light P e y.1 → ∃ a : α, ce = cells a ∧ ok a)
  (h : DataW.trod enc P W 0 (fun _ => true) true fuel t cs = some x) (hw : Light P t x.1) :
  ∃ r : Rw α, cs = [r.v] ∧ OkN r ∧ (∀ a ∈ r.l, ok a) ∧ ∀ Hs, Rd W Hs r.a r.l.length r.c z (r.l.flatMap cells) := by
 subst hz hb
 obtain ⟨a, n, c, es, rfl, h1, h2, h3, h4, h5⟩ := read_sliceF ht hz0 h hw
 have hl : ∃ l : List α, es = l.map cells ∧ ∀ a ∈ l, ok a := by
  clear h3 h5
  induction es with
  | nil => exact ⟨[], rfl, fun _ h => absurd h (by simp)⟩
  | cons ce es ih =>
   obtain ⟨l, e1, e2⟩ := ih (fun c hc => h4 c (by simp [hc]))
   obtain ⟨hlen, m, y, hm, hy, hly⟩ := h4 ce (by simp)
   obtain ⟨b, rfl, hbk⟩ := hel m ce y hm hlen hy hly
   exact ⟨b :: l, by rw [e1]; rfl, fun x hx => by
    rcases List.mem_cons.1 hx with rfl | hx
    ·exact hbk
    ·exact e2 x hx⟩
 obtain ⟨l, rfl, hok⟩ := hl
 rw [List.length_map] at h3
 have hc : c ≤ 140737488355328 := by
  have : c * 1 ≤ c * P.bytesOf e := Nat.mul_le_mul_left _ hb0
  unfold reachBytes at h2
  omega
 refine ⟨⟨a, c, l⟩, by rw [← h3]; rfl, ⟨show l.length ≤ 140737488355328 from by omega, by rw [h3]; exact h1, Nat.le_trans hc (by decide)⟩, hok, fun Hs => ?_⟩
 have := h5 Hs
 rw [← h3, ← List.flatMap_def] at this
 exact this
/-- A field of one cell. -/
theorem fld1 {t : TypeId} {cs : List Value} {x : DataW H × List MemPlace} {fuel : Nat} {fs : Array Field} (ht : P.underlying t = some (.struct fs)) (h : DataW.trod enc P W 0 (fun _ => true) true fuel t cs = some x) (hw : Light P t x.1) (i : Nat) {tf : TypeId}
  (hf : (fs[i]?).map (fun f => (f.type, f.offset)) = some (tf, i)) (hc : P.cellsOf tf = 1) : ∃ m y, m < fuel ∧ DataW.trod enc P W 0 (fun _ => true) true m tf ((cs.drop i).take 1) = some y ∧ Light P tf y.1 := by
 obtain ⟨f, hf1, hf2⟩ := Option.map_eq_some_iff.1 hf
 simp only [Prod.mk.injEq] at hf2
 obtain ⟨rfl, hoff⟩ := hf2
 obtain ⟨xs, n, hn, hx, _, hl, hg⟩ := DataW.trod_struct ht h
 have hi : i < xs.length := by rw [hl]; exact (Array.getElem?_eq_some_iff.1 hf1).1
 obtain ⟨m, y, h1, h2⟩ := trod_field ht h hw i f hf1
 have h3 := hg i f hf1
 rw [List.getElem?_eq_getElem hi] at h3
 have hly : Light P f.type xs[i].1 := by
  have hw' : ∀ q ∈ DataW.weightsEach P (fs.toList.map (·.type)) (xs.map (·.1)), q ≤ reachBytes := by
   intro q hq
   refine hw q ?_
   rw [hx]
   simp only [DataW.weights, ht]
   exact hq
  refine light_each hw' (j := i) ?_ ?_
  ·rw [List.getElem?_map, Array.getElem?_toList, hf1]; rfl
  ·rw [List.getElem?_map, List.getElem?_eq_getElem hi]; rfl
 rw [hoff, hc] at h3
 exact ⟨n, _, by omega, h3, hly⟩
theorem take1 {cs : List Value} {i : Nat} {v : Value} (h : (cs.drop i).take 1 = [v]) : cs[i]? = some v := by
 have := congrArg (·[0]?) h
 simpa [List.getElem?_take, List.getElem?_drop] using this
theorem fldI {t : TypeId} {cs : List Value} {x : DataW H × List MemPlace} {fuel : Nat} {fs : Array Field} {k : IntKind} (ht : P.underlying t = some (.struct fs)) (h : DataW.trod enc P W 0 (fun _ => true) true fuel t cs = some x) (hw : Light P t x.1) (i : Nat) {tf : TypeId}
  (hf : (fs[i]?).map (fun f => (f.type, f.offset)) = some (tf, i)) (hc : P.cellsOf tf = 1) (hu : P.underlying tf = some (.int k)) : ∃ n, cs[i]? = some (.int k n) ∧ (Lit.int k n).wf = true := by
 obtain ⟨m, y, _, h1, _⟩ := fld1 ht h hw i hf hc
 obtain ⟨n, h2, _, h3⟩ := DataW.trod_int hu h1
 exact ⟨n, take1 h2, h3⟩
theorem fldBo {t : TypeId} {cs : List Value} {x : DataW H × List MemPlace} {fuel : Nat} {fs : Array Field} (ht : P.underlying t = some (.struct fs)) (h : DataW.trod enc P W 0 (fun _ => true) true fuel t cs = some x) (hw : Light P t x.1) (i : Nat) {tf : TypeId}
  (hf : (fs[i]?).map (fun f => (f.type, f.offset)) = some (tf, i)) (hc : P.cellsOf tf = 1) (hu : P.underlying tf = some .bool) : ∃ b, cs[i]? = some (.bool b) := by
 obtain ⟨m, y, _, h1, _⟩ := fld1 ht h hw i hf hc
 obtain ⟨b, h2, _⟩ := DataW.trod_bool hu h1
 exact ⟨b, take1 h2⟩
theorem read_txt {tf : TypeId} {cs : List Value} {y : DataW H × List MemPlace} {m : Nat} (hu : P.underlying tf = some .string) (h : DataW.trod enc P W 0 (fun _ => true) true m tf cs = some y) (hw : Light P tf y.1) : ∃ t : Txt, cs = [vS t] ∧ OkT t := by
 obtain ⟨s, rfl, rfl, _⟩ := DataW.trod_string hu h
 obtain ⟨l, hb, rfl, hn⟩ := str_of s
 refine ⟨l, rfl, hb, ?_⟩
 have := hw (str l).data.toList.length (by simp [DataW.weights])
 have hs : (str l).data.toList.length = l.length := by simp [str]
 rw [hs] at this
 unfold reachBytes at this
 omega
theorem fldS {t : TypeId} {cs : List Value} {x : DataW H × List MemPlace} {fuel : Nat} {fs : Array Field} (ht : P.underlying t = some (.struct fs)) (h : DataW.trod enc P W 0 (fun _ => true) true fuel t cs = some x) (hw : Light P t x.1) (i : Nat) {tf : TypeId}
  (hf : (fs[i]?).map (fun f => (f.type, f.offset)) = some (tf, i)) (hc : P.cellsOf tf = 1) (hu : P.underlying tf = some .string) : ∃ s : Txt, cs[i]? = some (vS s) ∧ OkT s := by
 obtain ⟨m, y, _, h1, h2⟩ := fld1 ht h hw i hf hc
 obtain ⟨s, h3, h4⟩ := read_txt hu h1 h2
 exact ⟨s, take1 h3, h4⟩
theorem fldR {α : Type} (cells : α → List Value) (ok : α → Prop) {t : TypeId} {cs : List Value} {x : DataW H × List MemPlace} {fuel : Nat} {fs : Array Field} (ht : P.underlying t = some (.struct fs)) (h : DataW.trod enc P W 0 (fun _ => true) true fuel t cs = some x) (hw : Light P t x.1) (i : Nat) {tf e : TypeId} {z by_ : Nat}
  (hf : (fs[i]?).map (fun f => (f.type, f.offset)) = some (tf, i)) (hc : P.cellsOf tf = 1) (hu : P.underlying tf = some (.slice e)) (hz : P.cellsOf e = z) (hz0 : 0 < z) (hb : P.bytesOf e = by_) (hb0 : 0 < by_)
  (hel : ∀ m ce y, m < fuel → ce.length = z → DataW.trod enc P W 0 (fun _ => true) true m e ce = some y → Light P e y.1 → ∃ a : α, ce = cells a ∧ ok a) :
  ∃ r : Rw α, cs[i]? = some r.v ∧ OkN r ∧ (∀ a ∈ r.l, ok a) ∧ ∀ Hs, Rd W Hs r.a r.l.length r.c z (r.l.flatMap cells) := by
 obtain ⟨m, y, hm, h1, h2⟩ := fld1 ht h hw i hf hc
 obtain ⟨r, h3, h4⟩ := read_rw cells ok hu hz hz0 hb hb0 (fun m' ce y' hm' => hel m' ce y' (by omega)) h1 h2
 exact ⟨r, take1 h3, h4⟩
theorem lst_eq {cs vs : List Value} (hl : cs.length = vs.length) (h : ∀ i, i < vs.length → cs[i]? = vs[i]?) : cs = vs := by
 apply List.ext_getElem?
 intro i
 by_cases hi : i < vs.length
 ·exact h i hi
 ·rw [List.getElem?_eq_none (by omega), List.getElem?_eq_none (by omega)]
theorem str_len {t : TypeId} {cs : List Value} {x : DataW H × List MemPlace} {fuel : Nat} {fs : Array Field} (ht : P.underlying t = some (.struct fs)) (h : DataW.trod enc P W 0 (fun _ => true) true fuel t cs = some x) : cs.length = P.cellsOf t := by
 obtain ⟨_, _, _, _, hl, _⟩ := DataW.trod_struct ht h
 exact hl
theorem wf_i32' {a : Int} (h : (Lit.int .i32 a).wf = true) : I32 a := by
 simp only [Lit.wf, Bool.and_eq_true, decide_eq_true_eq, IntKind.min, IntKind.max, IntKind.signed, IntKind.bits] at h
 obtain ⟨h0, h1⟩ := h
 simp at h0 h1
 exact ⟨h0, by omega⟩
theorem wf_u8' {a : Int} (h : (Lit.int .u8 a).wf = true) : U8 a := by
 simp only [Lit.wf, Bool.and_eq_true, decide_eq_true_eq, IntKind.min, IntKind.max, IntKind.signed, IntKind.bits] at h
 obtain ⟨h0, h1⟩ := h
 simp at h0 h1
 exact ⟨h0, by omega⟩
theorem wf_i64' {a : Int} (h : (Lit.int .i64 a).wf = true) : -9223372036854775808 ≤ a ∧ a ≤ 9223372036854775807 := by
 simp only [Lit.wf, Bool.and_eq_true, decide_eq_true_eq, IntKind.min, IntKind.max, IntKind.signed, IntKind.bits] at h
 obtain ⟨h0, h1⟩ := h
 simp at h0 h1
 exact ⟨h0, by omega⟩
end
end Go.Sk
end
section
namespace Go.Proofs.YtdemnhdoadjhhaaGreatDoor
open Go.Sk Go.ChangeShapes Go.WideShapes Go.ChangeAt Go.RowKit
set_option maxRecDepth 100000
section
variable {H : Type} {enc : TypeId × Value → H} {W : World}
theorem read_span {cs : List Value} {x : DataW H × List MemPlace} {fuel : Nat} (h : DataW.trod enc Tryz.prog W 0 (fun _ => true) true fuel 158 cs = some x) (hw : Light Tryz.prog 158 x.1) : ∃ s : SpanT, cs = s.cells ∧ s.Ok := by
 have hl := str_len Tryz.underlying158 h
 obtain ⟨v0, h0, w0⟩ := fldI Tryz.underlying158 h hw 0 (tf := 21) (k := .i32) (by kernel_rfl) (by kernel_rfl) (by kernel_rfl)
 obtain ⟨v1, h1, w1⟩ := fldI Tryz.underlying158 h hw 1 (tf := 21) (k := .i32) (by kernel_rfl) (by kernel_rfl) (by kernel_rfl)
 refine ⟨⟨v0, v1⟩, lst_eq (by rw [hl]; kernel_rfl) (fun i hi => ?_), wf_i32' w0, wf_i32' w1⟩
 match i, hi with
 | 0, _ => exact h0
 | 1, _ => exact h1
 | i + 2, hi => exact absurd hi (by simp [SpanT.cells])
theorem read_eval {cs : List Value} {x : DataW H × List MemPlace} {fuel : Nat} (h : DataW.trod enc Tryz.prog W 0 (fun _ => true) true fuel 111 cs = some x) (hw : Light Tryz.prog 111 x.1) : ∃ s : EValT, cs = s.cells ∧ s.Ok := by
 have hl := str_len Tryz.underlying111 h
 obtain ⟨v0, h0, w0⟩ := fldS Tryz.underlying111 h hw 0 (tf := 9) (by kernel_rfl) (by kernel_rfl) (by kernel_rfl)
 obtain ⟨v1, h1, w1⟩ := fldI Tryz.underlying111 h hw 1 (tf := 21) (k := .i32) (by kernel_rfl) (by kernel_rfl) (by kernel_rfl)
 refine ⟨⟨v0, v1⟩, lst_eq (by rw [hl]; kernel_rfl) (fun i hi => ?_), w0, wf_i32' w1⟩
 match i, hi with
 | 0, _ => exact h0
 | 1, _ => exact h1
 | i + 2, hi => exact absurd hi (by simp [EValT.cells])
theorem read_imp {cs : List Value} {x : DataW H × List MemPlace} {fuel : Nat} (h : DataW.trod enc Tryz.prog W 0 (fun _ => true) true fuel 94 cs = some x) (hw : Light Tryz.prog 94 x.1) : ∃ s : ImpT, cs = s.cells ∧ s.Ok := by
 have hl := str_len Tryz.underlying94 h
 obtain ⟨v0, h0, w0⟩ := fldS Tryz.underlying94 h hw 0 (tf := 9) (by kernel_rfl) (by kernel_rfl) (by kernel_rfl)
 obtain ⟨v1, h1⟩ := fldBo Tryz.underlying94 h hw 1 (tf := 4) (by kernel_rfl) (by kernel_rfl) (by kernel_rfl)
 refine ⟨⟨v0, v1⟩, lst_eq (by rw [hl]; kernel_rfl) (fun i hi => ?_), w0⟩
 match i, hi with
 | 0, _ => exact h0
 | 1, _ => exact h1
 | i + 2, hi => exact absurd hi (by simp [ImpT.cells])
theorem read_field {cs : List Value} {x : DataW H × List MemPlace} {fuel : Nat} (h : DataW.trod enc Tryz.prog W 0 (fun _ => true) true fuel 87 cs = some x) (hw : Light Tryz.prog 87 x.1) : ∃ s : FieldT, cs = s.cells ∧ s.Ok := by
 have hl := str_len Tryz.underlying87 h
 obtain ⟨v0, h0, w0⟩ := fldS Tryz.underlying87 h hw 0 (tf := 9) (by kernel_rfl) (by kernel_rfl) (by kernel_rfl)
 obtain ⟨v1, h1, w1⟩ := fldI Tryz.underlying87 h hw 1 (tf := 21) (k := .i32) (by kernel_rfl) (by kernel_rfl) (by kernel_rfl)
 obtain ⟨v2, h2, w2⟩ := fldI Tryz.underlying87 h hw 2 (tf := 83) (k := .u8) (by kernel_rfl) (by kernel_rfl) (by kernel_rfl)
 obtain ⟨v3, h3, w3⟩ := fldI Tryz.underlying87 h hw 3 (tf := 84) (k := .u8) (by kernel_rfl) (by kernel_rfl) (by kernel_rfl)
 obtain ⟨v4, h4, w4⟩ := fldS Tryz.underlying87 h hw 4 (tf := 9) (by kernel_rfl) (by kernel_rfl) (by kernel_rfl)
 obtain ⟨v5, h5, w5⟩ := fldI Tryz.underlying87 h hw 5 (tf := 84) (k := .u8) (by kernel_rfl) (by kernel_rfl) (by kernel_rfl)
 obtain ⟨v6, h6, w6⟩ := fldI Tryz.underlying87 h hw 6 (tf := 3) (k := .i64) (by kernel_rfl) (by kernel_rfl) (by kernel_rfl)
 obtain ⟨v7, h7, w7⟩ := fldI Tryz.underlying87 h hw 7 (tf := 85) (k := .u8) (by kernel_rfl) (by kernel_rfl) (by kernel_rfl)
 obtain ⟨v8, h8, w8⟩ := fldS Tryz.underlying87 h hw 8 (tf := 9) (by kernel_rfl) (by kernel_rfl) (by kernel_rfl)
 refine ⟨⟨v0, v1, v2, v3, v4, v5, v6, v7, v8⟩, lst_eq (by rw [hl]; kernel_rfl) (fun i hi => ?_), w0, wf_i32' w1, wf_u8' w2, wf_u8' w3, w4, wf_u8' w5, wf_i64' w6, wf_u8' w7, w8⟩
 match i, hi with
 | 0, _ => exact h0
 | 1, _ => exact h1
 | 2, _ => exact h2
 | 3, _ => exact h3
 | 4, _ => exact h4
 | 5, _ => exact h5
 | 6, _ => exact h6
 | 7, _ => exact h7
 | 8, _ => exact h8
 | i + 9, hi => exact absurd hi (by simp [FieldT.cells])
theorem flat_vS (l : List Txt) : l.flatMap (fun t => [vS t]) = l.map vS := by
 induction l with
 | nil => rfl
 | cons t l ih => rw [List.flatMap_cons, ih]; rfl
theorem read_enum {cs : List Value} {x : DataW H × List MemPlace} {fuel : Nat} (h : DataW.trod enc Tryz.prog W 0 (fun _ => true) true fuel 109 cs = some x) (hw : Light Tryz.prog 109 x.1) : ∃ e : EnumT, cs = e.cells ∧ e.Ok ∧ ∀ Hs, e.In (Rd W Hs) := by
 have hl := str_len Tryz.underlying109 h
 obtain ⟨v0, h0, w0⟩ := fldS Tryz.underlying109 h hw 0 (tf := 9) (by kernel_rfl) (by kernel_rfl) (by kernel_rfl)
 obtain ⟨v1, h1, n1, w1, r1⟩ := fldR EValT.cells EValT.Ok Tryz.underlying109 h hw 1 (tf := 107) (e := 111) (z := 2) (by_ := 24) (by kernel_rfl) (by kernel_rfl) (by kernel_rfl) (by kernel_rfl) (by decide) (by kernel_rfl) (by decide) (fun _ _ _ _ _ h hw => read_eval h hw)
 obtain ⟨v2, h2⟩ := fldBo Tryz.underlying109 h hw 2 (tf := 4) (by kernel_rfl) (by kernel_rfl) (by kernel_rfl)
 obtain ⟨v3, h3, n3, w3, r3⟩ := fldR SpanT.cells SpanT.Ok Tryz.underlying109 h hw 3 (tf := 70) (e := 158) (z := 2) (by_ := 8) (by kernel_rfl) (by kernel_rfl) (by kernel_rfl) (by kernel_rfl) (by decide) (by kernel_rfl) (by decide) (fun _ _ _ _ _ h hw => read_span h hw)
 obtain ⟨v4, h4, n4, w4, r4⟩ := fldR (fun t : Txt => [vS t]) OkT Tryz.underlying109 h hw 4 (tf := 69) (e := 9) (z := 1) (by_ := 16) (by kernel_rfl) (by kernel_rfl) (by kernel_rfl) (by kernel_rfl) (by decide) (by kernel_rfl) (by decide) (fun _ _ _ _ _ h hw => read_txt (by kernel_rfl) h hw)
 refine ⟨⟨v0, v1, v2, v3, v4⟩, lst_eq (by rw [hl]; kernel_rfl) (fun i hi => ?_), ⟨w0, n1, w1, n3, w3, n4, w4⟩, fun Hs => ⟨r1 Hs, r3 Hs, by have := r4 Hs; rwa [flat_vS] at this⟩⟩
 match i, hi with
 | 0, _ => exact h0
 | 1, _ => exact h1
 | 2, _ => exact h2
 | 3, _ => exact h3
 | 4, _ => exact h4
 | i + 5, hi => exact absurd hi (by simp [EnumT.cells])
theorem read_msg : ∀ (fuel : Nat) {cs : List Value} {x : DataW H × List MemPlace}, DataW.trod enc Tryz.prog W 0 (fun _ => true) true fuel 72 cs = some x → Light Tryz.prog 72 x.1 → ∃ m : MsgT, cs = m.cells ∧ m.Ok ∧ ∀ Hs, m.In (Rd W Hs) := by
 intro fuel
 induction fuel using Nat.strongRecOn with
 | _ fuel ih =>
 intro cs x h hw
 have hl := str_len Tryz.underlying72 h
 obtain ⟨v0, h0, w0⟩ := fldS Tryz.underlying72 h hw 0 (tf := 9) (by kernel_rfl) (by kernel_rfl) (by kernel_rfl)
 obtain ⟨v1, h1, n1, w1, r1⟩ := fldR FieldT.cells FieldT.Ok Tryz.underlying72 h hw 1 (tf := 68) (e := 87) (z := 9) (by_ := 80) (by kernel_rfl) (by kernel_rfl) (by kernel_rfl) (by kernel_rfl) (by decide) (by kernel_rfl) (by decide) (fun _ _ _ _ _ h hw => read_field h hw)
 obtain ⟨v2, h2, n2, w2, r2⟩ := fldR (fun t : Txt => [vS t]) OkT Tryz.underlying72 h hw 2 (tf := 69) (e := 9) (z := 1) (by_ := 16) (by kernel_rfl) (by kernel_rfl) (by kernel_rfl) (by kernel_rfl) (by decide) (by kernel_rfl) (by decide) (fun _ _ _ _ _ h hw => read_txt (by kernel_rfl) h hw)
 obtain ⟨v3, h3, n3, w3, r3⟩ := fldR MsgT.cells (fun m => m.Ok ∧ ∀ Hs, m.In (Rd W Hs)) Tryz.underlying72 h hw 3 (tf := 23) (e := 72) (z := 7) (by_ := 160) (by kernel_rfl) (by kernel_rfl) (by kernel_rfl) (by kernel_rfl) (by decide) (by kernel_rfl) (by decide) (fun m _ _ hm _ h hw => ih m hm h hw)
 obtain ⟨v4, h4, n4, w4, r4⟩ := fldR EnumT.cells (fun e => e.Ok ∧ ∀ Hs, e.In (Rd W Hs)) Tryz.underlying72 h hw 4 (tf := 24) (e := 109) (z := 5) (by_ := 96) (by kernel_rfl) (by kernel_rfl) (by kernel_rfl) (by kernel_rfl) (by decide) (by kernel_rfl) (by decide) (fun _ _ _ _ _ h hw => read_enum h hw)
 obtain ⟨v5, h5, n5, w5, r5⟩ := fldR SpanT.cells SpanT.Ok Tryz.underlying72 h hw 5 (tf := 70) (e := 158) (z := 2) (by_ := 8) (by kernel_rfl) (by kernel_rfl) (by kernel_rfl) (by kernel_rfl) (by decide) (by kernel_rfl) (by decide) (fun _ _ _ _ _ h hw => read_span h hw)
 obtain ⟨v6, h6, n6, w6, r6⟩ := fldR (fun t : Txt => [vS t]) OkT Tryz.underlying72 h hw 6 (tf := 69) (e := 9) (z := 1) (by_ := 16) (by kernel_rfl) (by kernel_rfl) (by kernel_rfl) (by kernel_rfl) (by decide) (by kernel_rfl) (by decide) (fun _ _ _ _ _ h hw => read_txt (by kernel_rfl) h hw)
 refine ⟨.mk v0 v1 v2 v3.a v3.c v3.l v4 v5 v6, lst_eq (by rw [hl]; kernel_rfl) (fun i hi => ?_), ?_, fun Hs => ?_⟩
 ·match i, hi with
  | 0, _ => exact h0
  | 1, _ => exact h1
  | 2, _ => exact h2
  | 3, _ => exact h3
  | 4, _ => exact h4
  | 5, _ => exact h5
  | 6, _ => exact h6
  | i + 7, hi => exact absurd hi (by simp [MsgT.cells])
 ·unfold MsgT.Ok
  exact ⟨w0, ⟨n1, w1⟩, ⟨n2, w2⟩, n3, ⟨n4, fun e he => (w4 e he).1⟩, ⟨n5, w5⟩, ⟨n6, w6⟩, MsgT.okL_of fun m hm => (w3 m hm).1⟩
 ·unfold MsgT.In
  exact ⟨r1 Hs, by have := r2 Hs; rwa [flat_vS] at this, r3 Hs, r4 Hs, fun e he => (w4 e he).2 Hs, r5 Hs, by have := r6 Hs; rwa [flat_vS] at this, MsgT.inL_of fun m hm => (w3 m hm).2 Hs⟩
theorem read_file {cs : List Value} {x : DataW H × List MemPlace} {fuel : Nat} (h : DataW.trod enc Tryz.prog W 0 (fun _ => true) true fuel 26 cs = some x) (hw : Light Tryz.prog 26 x.1) : ∃ f : FileT, cs = f.cells ∧ f.Ok ∧ ∀ Hs, f.In (Rd W Hs) := by
 have hl := str_len Tryz.underlying26 h
 obtain ⟨v0, h0, w0⟩ := fldS Tryz.underlying26 h hw 0 (tf := 9) (by kernel_rfl) (by kernel_rfl) (by kernel_rfl)
 obtain ⟨v1, h1, w1⟩ := fldS Tryz.underlying26 h hw 1 (tf := 9) (by kernel_rfl) (by kernel_rfl) (by kernel_rfl)
 obtain ⟨v2, h2, n2, w2, r2⟩ := fldR ImpT.cells ImpT.Ok Tryz.underlying26 h hw 2 (tf := 22) (e := 94) (z := 2) (by_ := 24) (by kernel_rfl) (by kernel_rfl) (by kernel_rfl) (by kernel_rfl) (by decide) (by kernel_rfl) (by decide) (fun _ _ _ _ _ h hw => read_imp h hw)
 obtain ⟨v3, h3, n3, w3, r3⟩ := fldR MsgT.cells (fun m => m.Ok ∧ ∀ Hs, m.In (Rd W Hs)) Tryz.underlying26 h hw 3 (tf := 23) (e := 72) (z := 7) (by_ := 160) (by kernel_rfl) (by kernel_rfl) (by kernel_rfl) (by kernel_rfl) (by decide) (by kernel_rfl) (by decide) (fun m _ _ _ _ h hw => read_msg m h hw)
 obtain ⟨v4, h4, n4, w4, r4⟩ := fldR EnumT.cells (fun e => e.Ok ∧ ∀ Hs, e.In (Rd W Hs)) Tryz.underlying26 h hw 4 (tf := 24) (e := 109) (z := 5) (by_ := 96) (by kernel_rfl) (by kernel_rfl) (by kernel_rfl) (by kernel_rfl) (by decide) (by kernel_rfl) (by decide) (fun _ _ _ _ _ h hw => read_enum h hw)
 refine ⟨⟨v0, v1, v2, v3.a, v3.c, v3.l, v4⟩, lst_eq (by rw [hl]; kernel_rfl) (fun i hi => ?_), ⟨w0, w1, ⟨n2, w2⟩, ⟨n3, fun m hm => (w3 m hm).1⟩, ⟨n4, fun e he => (w4 e he).1⟩⟩, fun Hs => ⟨r2 Hs, r3 Hs, fun m hm => (w3 m hm).2 Hs, r4 Hs, fun e he => (w4 e he).2 Hs⟩⟩
 match i, hi with
 | 0, _ => exact h0
 | 1, _ => exact h1
 | 2, _ => exact h2
 | 3, _ => exact h3
 | 4, _ => exact h4
 | i + 5, hi => exact absurd hi (by simp [FileT.cells])
end
end Go.Proofs.YtdemnhdoadjhhaaGreatDoor
end
section
namespace Go.Proofs.YtdemnhdoadjhhaaGreatDoor
open Go.Sk
section
variable {α : Type} {lt : α → α → Bool}
/-- An order in one row, equals allowed. -/
structure Wk (lt : α → α → Bool) : Prop where
 asy : ∀ {x y}, lt x y = true → lt y x = false
 tr : ∀ {x y z}, lt y x = false → lt z y = false → lt z x = false
def Srt (lt : α → α → Bool) (l : List α) : Prop := l.Pairwise (fun x y => lt y x = false)
theorem Srt.nil : Srt lt [] := List.Pairwise.nil
theorem Srt.one {x : α} : Srt lt [x] := List.pairwise_singleton _ _
theorem srt_app {a b : List α} : Srt lt (a ++ b) ↔ Srt lt a ∧ Srt lt b ∧ ∀ x ∈ a, ∀ y ∈ b, lt y x = false := List.pairwise_append
/-- The pieces of l, one behind the other: A so long, .. -/
theorem swap_two {P Q R : List α} {x y : α} {i j : Nat} (hi : P.length = i) (hj : P.length + 1 + Q.length = j) :
  ((P ++ x :: (Q ++ y :: R)).set j x).set i y = P ++ y :: (Q ++ x :: R) := by
 subst hi hj
 rw [List.set_append_right _ _ (by omega), List.set_append_right _ _ (by omega)]
 rw [show P.length + 1 + Q.length - P.length = Q.length + 1 by omega, Nat.sub_self, List.set_cons_succ, List.set_cons_zero, List.set_append_right _ _ (by omega), Nat.sub_self, List.set_cons_zero]
theorem swap_two' {P Q R : List α} {x y : α} {i j : Nat} (hi : P.length = i) (hj : P.length + 1 + Q.length = j) :
  ((P ++ x :: (Q ++ y :: R)).set i y).set j x = P ++ y :: (Q ++ x :: R) := by
 rw [List.set_comm _ _ (by omega)]
 exact swap_two hi hj
theorem get_at {P R : List α} {x : α} {i : Nat} (hi : P.length = i) : (P ++ x :: R)[i]? = some x := by
 subst hi
 rw [List.getElem?_append_right (by omega), Nat.sub_self]
 rfl
theorem get_at2 {P Q R : List α} {x y : α} {j : Nat} (hj : P.length + 1 + Q.length = j) : (P ++ x :: (Q ++ y :: R))[j]? = some y := by
 have e : P ++ x :: (Q ++ y :: R) = (P ++ x :: Q) ++ y :: R := by simp
 rw [e]
 exact get_at (by simp; omega)
/-! ### one put into a sorted row -/
theorem ins_ok (hw : Wk lt) {S1 S2 : List α} {x : α} (hs : Srt lt (S1 ++ S2)) (h1 : ∀ z ∈ S1, lt x z = false) (h2 : ∀ z ∈ S2, lt z x = false) : Srt lt (S1 ++ x :: S2) := by
 obtain ⟨a, b, c⟩ := srt_app.1 hs
 refine srt_app.2 ⟨a, List.pairwise_cons.2 ⟨h2, b⟩, fun z hz y hy => ?_⟩
 rcases List.mem_cons.1 hy with rfl | hy
 ·exact h1 z hz
 ·exact c z hz y hy
theorem srt_last (hw : Wk lt) {S : List α} {z x : α} (hs : Srt lt (S ++ [z])) (h : lt x z = false) : ∀ y ∈ S ++ [z], lt x y = false := fun y hy => by
 rcases List.mem_append.1 hy with hy | hy
 ·exact hw.tr ((srt_app.1 hs).2.2 y hy z (by simp)) h
 ·rw [List.mem_singleton.1 hy]; exact h
theorem srt_head (hw : Wk lt) {S : List α} {z x : α} (hs : Srt lt (z :: S)) (h : lt z x = false) : ∀ y ∈ z :: S, lt y x = false := fun y hy => by
 rcases List.mem_cons.1 hy with rfl | hy
 ·exact h
 ·exact hw.tr h ((List.pairwise_cons.1 hs).1 y hy)
/-! ### two sorted rows cut and put together -/
theorem merge_ok (hw : Wk lt) {X1 X2 Y1 Y2 Z1 Z2 : List α} (hx : Srt lt (X1 ++ X2)) (hy : Srt lt (Y1 ++ Y2)) (h1 : ∀ x ∈ X1, ∀ y ∈ Y2, lt y x = false) (h2 : ∀ y ∈ Y1, ∀ x ∈ X2, lt x y = false)
  (p1 : Z1.Perm (X1 ++ Y1)) (s1 : Srt lt Z1) (p2 : Z2.Perm (X2 ++ Y2)) (s2 : Srt lt Z2) : (Z1 ++ Z2).Perm (X1 ++ X2 ++ (Y1 ++ Y2)) ∧ Srt lt (Z1 ++ Z2) := by
 constructor
 ·refine (p1.append p2).trans ?_
  have e : (X1 ++ Y1 ++ (X2 ++ Y2)).Perm (X1 ++ X2 ++ (Y1 ++ Y2)) := by
   rw [List.append_assoc, List.append_assoc]
   refine List.Perm.append_left X1 ?_
   rw [← List.append_assoc, ← List.append_assoc]
   exact List.Perm.append_right Y2 List.perm_append_comm
  exact e
 ·refine srt_app.2 ⟨s1, s2, fun z hz w hw' => ?_⟩
  have hz' := p1.mem_iff.1 hz
  have hw2 := p2.mem_iff.1 hw'
  rcases List.mem_append.1 hz' with hz' | hz' <;> rcases List.mem_append.1 hw2 with hw2 | hw2
  ·exact (srt_app.1 hx).2.2 z hz' w hw2
  ·exact h1 z hz' w hw2
  ·exact h2 z hz' w hw2
  ·exact (srt_app.1 hy).2.2 z hz' w hw2
/-! ### rows of sorted blocks -/
inductive Blk (lt : α → α → Bool) (b : Nat) : List α → Prop
 | last {X : List α} : Srt lt X → X.length ≤ b → Blk lt b X
 | cons {X L : List α} : Srt lt X → X.length = b → Blk lt b L → Blk lt b (X ++ L)
inductive Ful (lt : α → α → Bool) (b : Nat) : List α → Prop
 | nil : Ful lt b []
 | snoc {L X : List α} : Ful lt b L → Srt lt X → X.length = b → Ful lt b (L ++ X)
theorem Ful.blk {b : Nat} {L : List α} (h : Ful lt b L) : ∀ {K : List α}, Blk lt b K → Blk lt b (L ++ K) := by
 induction h with
 | nil => intro K hK; exact hK
 | snoc _ h2 h3 ih => intro K hK; rw [List.append_assoc]; exact ih (.cons h2 h3 hK)
theorem Blk.two {b : Nat} {L : List α} (h : Blk lt b L) (hb : 0 < b) (hl : 2 * b ≤ L.length) : ∃ X Y K, L = X ++ Y ++ K ∧ Srt lt X ∧ Srt lt Y ∧ X.length = b ∧ Y.length = b ∧ Blk lt b K := by
 cases h with
 | last _ h2 => omega
 | cons h1 h2 h3 =>
  rename_i X L
  rw [List.length_append] at hl
  cases h3 with
  | last h4 h5 => exact ⟨X, L, [], by simp, h1, h4, h2, by omega, .last Srt.nil (Nat.zero_le _)⟩
  | cons h4 h5 h6 => rename_i Y K; exact ⟨X, Y, K, by simp, h1, h4, h2, h5, h6⟩
theorem Blk.more {b : Nat} {L : List α} (h : Blk lt b L) (hb : 0 < b) (h1 : b < L.length) (h2 : L.length < 2 * b) : ∃ X Y, L = X ++ Y ∧ Srt lt X ∧ Srt lt Y ∧ X.length = b := by
 cases h with
 | last _ h2 => omega
 | cons h3 h4 h5 =>
  rename_i X L
  rw [List.length_append] at h1 h2
  cases h5 with
  | last h6 h7 => exact ⟨X, L, rfl, h3, h6, h4⟩
  | cons h6 h7 h8 => rw [List.length_append] at h2; omega
theorem Blk.one {b : Nat} {L : List α} (h : Blk lt b L) (h1 : L.length ≤ b) : Srt lt L := by
 cases h with
 | last h2 _ => exact h2
 | cons h3 h4 h5 =>
  rename_i X L
  rw [List.length_append] at h1
  have : L = [] := List.eq_nil_of_length_eq_zero (by omega)
  subst this
  rw [List.append_nil]
  exact h3
/-! ### sorted in one way -/
end
end Go.Proofs.YtdemnhdoadjhhaaGreatDoor
end
section
namespace Go.Sk
def mayB (n : Int) : Bool := decide (1 ≤ n ∧ n ≤ 536870911 ∧ (n < 19000 ∨ 19999 < n))
def inS (s : SpanT) (x : Int) : Bool := decide (s.f ≤ x ∧ x ≤ s.t)
section
variable {res : List SpanT} {nums : List Int} {k t : Nat}
end
end Go.Sk
end
section
namespace Go.Proofs.YtdemnhdoadjhhaaGreatDoor
open Go.Sk
set_option maxRecDepth 100000
attribute [local irreducible] Cs Own Ex Pu Yld RT LJ QJ AtQ CT Rd QSp Sp FinQ Then LoopQ CutQ DT TakeQ EffQ
variable {B : World} {R : List HP}
abbrev ptr (b : Nat) : Value := .pointer (some ⟨b, 0, none⟩)
/-- The builder's two cells. -/
abbrev bdr (b : Nat) (p a : Option Addr) (k c : Nat) : HP := Cs b 234 [.pointer p, .slice a k c]
abbrev own8 (a : Option Addr) (c : Nat) (l : List Int) : HP := Own a c 5 1 l.length (ints .u8 l)
def okP (b : Nat) (p : Option Addr) : Prop := p = none ∨ p = some ⟨b, 0, none⟩
structure BA where
 p : Option Addr
 a : Option Addr
 c : Nat
def Bd (b : Nat) (l : List Int) : HP := Ex fun x : BA => [Pu (okP b x.p), bdr b x.p x.a l.length x.c, own8 x.a x.c l]
theorem CT.bd {n : Fm} {b : Nat} {c : Code} {E : Env} {H : List HP} {Q : Exit → Act → World → Prop} {l : List Int} (h : ∀ x : BA, okP b x.p → CT B Tryz.prog n c E (bdr b x.p x.a l.length x.c :: own8 x.a x.c l :: H) Q) :
  CT B Tryz.prog n c E (Bd b l :: H) Q := CT.ex fun x => CT.pu fun hp => h x hp
theorem Bd.in_ {b : Nat} {l : List Int} {H : List HP} {w : World} (x : BA) (hp : okP b x.p) (h : Sat B (bdr b x.p x.a l.length x.c :: own8 x.a x.c l :: H) w) : Sat B (Bd b l :: H) w :=
 Sat.ex_in (f := fun x : BA => [Pu (okP b x.p), bdr b x.p x.a l.length x.c, own8 x.a x.c l]) x (Sat.pu_in hp h)
attribute [local irreducible] Bd
theorem check_fn {b : Nat} {p : Option Addr} {s : Value} (hp : okP b p) : Sp B Tryz.prog 155 [ptr b] R [Cs b 234 [.pointer p, s]] (fun u H' => u = .tuple #[] ∧ H' = [Cs b 234 [ptr b, s]]) := by
 unfold Sp
 intro w hS
 have hb := (hS.cs (.h)).1
 have h0 : w.cell? ⟨b, 0, none⟩ = some (.pointer p) := by simp [World.cell?, hb]
 rcases hp with rfl | rfl
 ·refine (Any.Builder_copyCheck_fresh (ρ := Tryz.lays165_ren) { Tryz.lays165 with } Tryz.Builder_Extra_165.toX72 b w h0 (by simp [World.shape?, hb]; rfl) (by simp [World.frozen?, hb])).mono fun e w' ⟨he, hw⟩ => ?_
  subst hw
  exact ⟨_, _, he, ⟨rfl, rfl⟩, hS.setCs (off := 0) .h⟩
 ·refine (Any.Builder_copyCheck_used (ρ := Tryz.lays165_ren) { Tryz.lays165 with } Tryz.Builder_Extra_165.toX72 b w h0).mono fun e w' ⟨he, hw⟩ => ?_
  subst hw
  exact ⟨_, _, he, ⟨rfl, rfl⟩, hS⟩
theorem Bd.put {b c : Nat} {a : Option Addr} {l' : List Int} {k : Nat} {w : World} {H : List HP} (h : Sat B H w) (f : Fr H [Cs b 234 [ptr b, .slice a k c], Own a c 5 1 k (ints .u8 l')] R) (hk : l'.length = k) : Sat B (Bd b l' :: R) w := by
 subst hk
 exact Bd.in_ ⟨_, a, c⟩ (.inr rfl) (h.fr f)
theorem byte_fn {b : Nat} {l : List Int} {x : Int} (hl : l.length + 1 ≤ 140737488355328) :
  Sp B Tryz.prog 175 [ptr b, .int .u8 x] R [Bd b l] (fun u H' => u = .nilIface ∧ H' = [Bd b (l ++ [x])]) := by
 refine Sp.body Tryz.func175 rfl Tryz.ntmps175 (by simp) ?_
 simp only [argE, List.cons_append, List.nil_append, Nat.zero_add, Nat.reduceAdd]
 refine CT.bd fun z hz => ?_
 repeat' (first|(refine gv ?_;first|refine RT.id ?_|(refine⟨fun hc=>?_,fun hc=>?_⟩<;>first|(exfalso;omega)|skip)|refine gk ?_|refine num_m fun r hr=>?_|intro r hr)|refine gs ?_|(refine gb ?_;intro b)|refine gn ?_|(refine RT.isPush ?_;refine gp ?_;intro a' c' b' c1' hac)|refine gc ?_|fail)
 (refine RT.call T rfl fR_ (check_fn hz) rfl rfl rfl ?_; rintro _ _ ⟨rfl, rfl⟩; try simp only [List.cons_append, List.nil_append])
 repeat' (first|(refine gv ?_;first|refine RT.id ?_|(refine⟨fun hc=>?_,fun hc=>?_⟩<;>first|(exfalso;omega)|skip)|refine gk ?_|refine num_m fun r hr=>?_|intro r hr)|refine gs ?_|(refine gb ?_;intro b)|refine gn ?_|(refine RT.isPush ?_;refine gp ?_;intro a' c' b' c1' hac)|refine gc ?_|fail)
 exact AtQ.f1 Tryz.results175 rfl rfl (fun w h => Bd.put h (by (repeat (first|exact Fr.nil|(apply Fr.cons;focus ((repeat constructor);done))))) (by simp))
theorem text_fn {b : Nat} {l l' : List Int} (hb : Byt l') (hl : l.length + l'.length ≤ 140737488355328) :
  Sp B Tryz.prog 126 [ptr b, .string (str l')] R [Bd b l] (fun u H' => u = .tuple #[.int .i64 l'.length, .nilIface] ∧ H' = [Bd b (l ++ l')]) := by
 refine Sp.body Tryz.func126 rfl Tryz.ntmps126 (by simp) ?_
 simp only [argE, List.cons_append, List.nil_append, Nat.zero_add, Nat.reduceAdd]
 refine CT.bd fun z hz => ?_
 repeat' (first|(refine gv ?_;first|refine RT.id ?_|(refine⟨fun hc=>?_,fun hc=>?_⟩<;>first|(exfalso;omega)|skip)|refine gk ?_|refine num_m fun r hr=>?_|intro r hr)|refine gs ?_|(refine gb ?_;intro b)|refine gn ?_|(refine RT.isPush ?_;refine gp ?_;intro a' c' b' c1' hac)|refine gc ?_|fail)
 (refine RT.call T rfl fR_ (check_fn hz) rfl rfl rfl ?_; rintro _ _ ⟨rfl, rfl⟩; try simp only [List.cons_append, List.nil_append])
 repeat' (first|(refine gv ?_;first|refine RT.id ?_|(refine⟨fun hc=>?_,fun hc=>?_⟩<;>first|(exfalso;omega)|skip)|refine gk ?_|refine num_m fun r hr=>?_|intro r hr)|refine gs ?_|(refine gb ?_;intro b)|refine gn ?_|(refine RT.isPush ?_;refine gp ?_;intro a' c' b' c1' hac)|refine gc ?_|fail)
 refine RT.appS T (l := l) (l' := l') rfl rfl hb rfl rfl (fun a' c' => by ((repeat constructor);done)) (by omega) rfl rfl rfl (fun a' c' hac => ?_)
 repeat' (first|(refine gv ?_;first|refine RT.id ?_|(refine⟨fun hc=>?_,fun hc=>?_⟩<;>first|(exfalso;omega)|skip)|refine gk ?_|refine num_m fun r hr=>?_|intro r hr)|refine gs ?_|(refine gb ?_;intro b)|refine gn ?_|(refine RT.isPush ?_;refine gp ?_;intro a' c' b' c1' hac)|refine gc ?_|fail)
 exact AtQ.f2 Tryz.results126 rfl rfl rfl rfl (fun w h => Bd.put h (by (repeat (first|exact Fr.nil|(apply Fr.cons;focus ((repeat constructor);done))))) (by simp))
theorem bstr_fn {b : Nat} {l : List Int} (hb : Byt l) : Sp B Tryz.prog 127 [ptr b] R [Bd b l] (fun u H' => u = .string (str l) ∧ H' = []) := by
 refine Sp.body Tryz.func127 rfl Tryz.ntmps127 (by simp) ?_
 simp only [argE, List.cons_append, List.nil_append, Nat.zero_add, Nat.reduceAdd]
 refine CT.bd fun z hz => ?_
 repeat' (first|(refine gv ?_;first|refine RT.id ?_|(refine⟨fun hc=>?_,fun hc=>?_⟩<;>first|(exfalso;omega)|skip)|refine gk ?_|refine num_m fun r hr=>?_|intro r hr)|refine gs ?_|(refine gb ?_;intro b)|refine gn ?_|(refine RT.isPush ?_;refine gp ?_;intro a' c' b' c1' hac)|(refine CT.id_ ?_;first|refine nx ?_|refine CT.cond_t rfl ?_|refine CT.cond_f rfl ?_))
 first | (refine CT.region ?_) | (refine CT.quiet mixed (by kernel_rfl) ?_)
 repeat' (first|(refine gv ?_;first|refine RT.id ?_|(refine⟨fun hc=>?_,fun hc=>?_⟩<;>first|(exfalso;omega)|skip)|refine gk ?_|refine num_m fun r hr=>?_|intro r hr)|refine gs ?_|(refine gb ?_;intro b)|refine gn ?_|(refine RT.isPush ?_;refine gp ?_;intro a' c' b' c1' hac)|(refine CT.id_ ?_;first|refine nx ?_|refine CT.cond_t rfl ?_|refine CT.cond_f rfl ?_))
 refine CT.drawn [bdr b z.p z.a l.length z.c] 10 mixed ?_
 (refine DT.takes (k := 3) [0, 1, 2, 3, 5, 6, 7, 8, 9] [4, 10] (fun w h => Sat.ones (by (repeat (first|exact Fr.nil|(apply Fr.cons;focus ((repeat constructor);done))))) h) (by kernel_rfl) (by kernel_rfl) (by kernel_rfl) rfl (Clos.ofB (by kernel_rfl)) ?_)
 repeat' (first|(refine gv ?_;first|refine RT.id ?_|(refine⟨fun hc=>?_,fun hc=>?_⟩<;>first|(exfalso;omega)|skip)|refine gk ?_|refine num_m fun r hr=>?_|intro r hr)|refine gs ?_|(refine gb ?_;intro b)|refine gn ?_|(refine RT.isPush ?_;refine gp ?_;intro a' c' b' c1' hac)|refine gc ?_|fail)
 refine AtQ.take ?_
 (refine DT.eff 4 rfl (by kernel_rfl) ?_)
 refine RT.usd (by rfl) (by ((repeat constructor);done)) Tryz.underlying251 rfl rfl (fun q hq => ?_)
 (refine RT.nil ?_; refine AtQ.eff (fun w h => Sat.ones (by (repeat (first|exact Fr.nil|(apply Fr.cons;focus ((repeat constructor);done))))) h) ?_)
 (refine DT.eff 10 rfl (by kernel_rfl) ?_)
 refine RT.ust rfl rfl hq hb (by ((repeat constructor);done)) Tryz.underlying251 (by kernel_rfl) rfl rfl ?_
 (refine RT.nil ?_; refine AtQ.eff' (by kernel_rfl) ?_)
 (refine DT.eff 11 rfl (by kernel_rfl) ?_)
 repeat' (first|(refine gv ?_;first|refine RT.id ?_|(refine⟨fun hc=>?_,fun hc=>?_⟩<;>first|(exfalso;omega)|skip)|refine gk ?_|refine num_m fun r hr=>?_|intro r hr)|refine gs ?_|(refine gb ?_;intro b)|refine gn ?_|(refine RT.isPush ?_;refine gp ?_;intro a' c' b' c1' hac)|refine gc ?_|fail)
 refine AtQ.eff' (by kernel_rfl) ?_
 (refine DT.done (by kernel_rfl) ?_)
 repeat' (first|(refine gv ?_;first|refine RT.id ?_|(refine⟨fun hc=>?_,fun hc=>?_⟩<;>first|(exfalso;omega)|skip)|refine gk ?_|refine num_m fun r hr=>?_|intro r hr)|refine gs ?_|(refine gb ?_;intro b)|refine gn ?_|(refine RT.isPush ?_;refine gp ?_;intro a' c' b' c1' hac)|refine gc ?_|fail)
 exact AtQ.f1 Tryz.results127 rfl rfl (fun w h => h.tail.tail)
end Go.Proofs.YtdemnhdoadjhhaaGreatDoor
end
section
namespace Go.Proofs.YtdemnhdoadjhhaaGreatDoor
open Go.Sk
set_option maxRecDepth 100000
attribute [local irreducible] Cs Own Ex Pu Yld RT LJ QJ AtQ CT Rd QSp Sp FinQ Then LoopQ CutQ DT TakeQ EffQ
attribute [local irreducible] Bd
variable {B : World} {R : List HP}
theorem small_fn {x : Int} : Sp B Tryz.prog 139 [.int .u8 x] R [] (fun v H' => v = .bool (decide (97 ≤ x ∧ x ≤ 122)) ∧ H' = []) := by
 refine Sp.body Tryz.func139 rfl Tryz.ntmps139 (by simp) ?_
 simp only [argE, List.cons_append, List.nil_append, Nat.zero_add, Nat.reduceAdd]
 repeat' (first|(refine gv ?_;first|refine RT.id ?_|(refine⟨fun hc=>?_,fun hc=>?_⟩<;>first|(exfalso;omega)|skip)|refine gk ?_|refine num_m fun r hr=>?_|intro r hr)|refine gs ?_|(refine gb ?_;intro b)|refine gn ?_|(refine RT.isPush ?_;refine gp ?_;intro a' c' b' c1' hac)|refine gc ?_|fail)
 all_goals exact AtQ.f1 Tryz.results139 rfl (by first | (apply dec_t; omega) | (apply dec_f; omega)) (fun w h => h)
theorem digit_fn {x : Int} : Sp B Tryz.prog 138 [.int .u8 x] R [] (fun v H' => v = .bool (decide (48 ≤ x ∧ x ≤ 57)) ∧ H' = []) := by
 refine Sp.body Tryz.func138 rfl Tryz.ntmps138 (by simp) ?_
 simp only [argE, List.cons_append, List.nil_append, Nat.zero_add, Nat.reduceAdd]
 repeat' (first|(refine gv ?_;first|refine RT.id ?_|(refine⟨fun hc=>?_,fun hc=>?_⟩<;>first|(exfalso;omega)|skip)|refine gk ?_|refine num_m fun r hr=>?_|intro r hr)|refine gs ?_|(refine gb ?_;intro b)|refine gn ?_|(refine RT.isPush ?_;refine gp ?_;intro a' c' b' c1' hac)|refine gc ?_|fail)
 all_goals exact AtQ.f1 Tryz.results138 rfl (by first | (apply dec_t; omega) | (apply dec_f; omega)) (fun w h => h)
theorem capital_fn {x : Int} : Sp B Tryz.prog 140 [.int .u8 x] R [] (fun v H' => v = .bool (decide (65 ≤ x ∧ x ≤ 90)) ∧ H' = []) := by
 refine Sp.body Tryz.func140 rfl Tryz.ntmps140 (by simp) ?_
 simp only [argE, List.cons_append, List.nil_append, Nat.zero_add, Nat.reduceAdd]
 repeat' (first|(refine gv ?_;first|refine RT.id ?_|(refine⟨fun hc=>?_,fun hc=>?_⟩<;>first|(exfalso;omega)|skip)|refine gk ?_|refine num_m fun r hr=>?_|intro r hr)|refine gs ?_|(refine gb ?_;intro b)|refine gn ?_|(refine RT.isPush ?_;refine gp ?_;intro a' c' b' c1' hac)|refine gc ?_|fail)
 all_goals exact AtQ.f1 Tryz.results140 rfl (by first | (apply dec_t; omega) | (apply dec_f; omega)) (fun w h => h)
end Go.Proofs.YtdemnhdoadjhhaaGreatDoor
end
section
namespace Go.Proofs.YtdemnhdoadjhhaaGreatDoor
open Go.Sk
set_option maxRecDepth 100000
theorem drop_get {l : List Int} {i : Nat} (h : i < l.length) : l.drop i = l.getD i 0 :: l.drop (i + 1) := by
 rw [List.drop_eq_getElem_cons h]
 simp [List.getElem?_eq_getElem h]
def camelF : Bool → List Int → List Int
 | _, [] => []
 | b, c :: r => if c = 95 then camelF true r else (if b = true ∧ 97 ≤ c ∧ c ≤ 122 then c - 32 else c) :: camelF false r
def camelL (l : List Int) : List Int := camelF false l
def CamI (l : List Int) (i : Nat) (b : Bool) (out : List Int) : Prop := i ≤ l.length ∧ out ++ camelF b (l.drop i) = camelL l ∧ Byt out ∧ out.length ≤ i
theorem CamI.a {l : List Int} {i : Nat} {b : Bool} {out : List Int} (h : CamI l i b out) (hi : i < l.length) (hc : l.getD i 0 = 95) : CamI l (i + 1) true out := by
 obtain ⟨h1, h2, h3, h4⟩ := h
 rw [drop_get hi, camelF, if_pos hc] at h2
 exact ⟨hi, h2, h3, by omega⟩
theorem CamI.b {l : List Int} {i : Nat} {out : List Int} (hb : Byt l) (h : CamI l i true out) (hi : i < l.length) (hc : ¬ l.getD i 0 = 95) (hs : 97 ≤ l.getD i 0 ∧ l.getD i 0 ≤ 122) : CamI l (i + 1) false (out ++ [l.getD i 0 - 32]) := by
 obtain ⟨h1, h2, h3, h4⟩ := h
 rw [drop_get hi, camelF, if_neg hc, if_pos ⟨rfl, hs⟩] at h2
 refine ⟨hi, by rw [List.append_assoc]; exact h2, h3.app (Byt.one ⟨by omega, by omega⟩), by simp; omega⟩
theorem CamI.c {l : List Int} {i : Nat} {b : Bool} {out : List Int} (hb : Byt l) (h : CamI l i b out) (hi : i < l.length) (hc : ¬ l.getD i 0 = 95) (hs : ¬ (b = true ∧ 97 ≤ l.getD i 0 ∧ l.getD i 0 ≤ 122)) : CamI l (i + 1) false (out ++ [l.getD i 0]) := by
 obtain ⟨h1, h2, h3, h4⟩ := h
 rw [drop_get hi, camelF, if_neg hc, if_neg hs] at h2
 refine ⟨hi, by rw [List.append_assoc]; exact h2, h3.app (Byt.one (hb.get hi)), by simp; omega⟩
attribute [local irreducible] Cs Own Ex Pu Yld RT LJ QJ AtQ CT Rd QSp Sp FinQ Then LoopQ CutQ DT TakeQ EffQ
attribute [local irreducible] Bd
variable {B : World} {R : List HP}
theorem Bd.new {b : Nat} {w : World} {H : List HP} (h : Sat B (Cs b 234 [.pointer none, .slice none 0 0] :: H) w) : Sat B (Bd b [] :: H) w :=
 Bd.in_ ⟨none, none, 0⟩ (.inl rfl) (Sat.fr (Ps := [Cs b 234 [.pointer none, .slice none 0 0], own8 none 0 []]) (Sat.nilOwn (e := 5) (sz := 1) h) (by (repeat (first|exact Fr.nil|(apply Fr.cons;focus ((repeat constructor);done))))))
theorem camel_fn {l : List Int} (hb : Byt l) (hl : l.length ≤ 140737488355327) : Sp B Tryz.prog 165 [.string (str l)] R [] (fun v H' => v = .string (str (camelL l)) ∧ H' = []) := by
 refine Sp.body Tryz.func165 rfl Tryz.ntmps165 (by simp) ?_
 simp only [argE, List.cons_append, List.nil_append, Nat.zero_add, Nat.reduceAdd]
 repeat' (first|(refine gv ?_;first|refine RT.id ?_|(refine⟨fun hc=>?_,fun hc=>?_⟩<;>first|(exfalso;omega)|skip)|refine gk ?_|refine num_m fun r hr=>?_|intro r hr)|refine gs ?_|(refine gb ?_;intro b)|refine gn ?_|(refine RT.isPush ?_;refine gp ?_;intro a' c' b' c1' hac)|refine gc ?_|fail)
 refine CT.loop (α := Nat × Bool × List Int) (fun s => [(0, .string (str l)), (3, ptr b), (4, .bool s.2.1), (8, .int .i64 l.length), (9, .int .i64 s.1)]) (fun s => Pu (CamI l s.1 s.2.1 s.2.2) :: Bd b s.2.2 :: R) (fun s => l.length - s.1) (0, false, []) ⟨rfl, rfl, rfl, rfl, rfl, trivial⟩
  (fun w h => Sat.pu_in ⟨by simp, rfl, Byt.nil, by simp⟩ (Bd.new h)) (fun s => CT.pu fun hs => ?_)
 obtain ⟨i, bb, out⟩ := s
 have hi := hs.1
 simp only at hs hi ⊢
 have hlo := hs.2.2.2
 cases bb
 all_goals repeat' (first|(refine gv ?_;first|refine RT.id ?_|(refine⟨fun hc=>?_,fun hc=>?_⟩<;>first|(exfalso;omega)|skip)|refine gk ?_|refine num_m fun r hr=>?_|intro r hr)|refine gs ?_|(refine gb ?_;intro b)|refine gn ?_|(refine RT.isPush ?_;refine gp ?_;intro a' c' b' c1' hac)|refine gc ?_|fail)
 ·(refine RT.ixs T (j := i) rfl rfl (by omega) (by omega) (by assumption) rfl rfl rfl ?_)
  obtain ⟨h0, h1⟩ := hb.get (i := i) (by omega)
  repeat' (first|(refine gv ?_;first|refine RT.id ?_|(refine⟨fun hc=>?_,fun hc=>?_⟩<;>first|(exfalso;omega)|skip)|refine gk ?_|refine num_m fun r hr=>?_|intro r hr)|refine gs ?_|(refine gb ?_;intro b)|refine gn ?_|(refine RT.isPush ?_;refine gp ?_;intro a' c' b' c1' hac)|refine gc ?_|fail)
  ·exact AtQ.loop (i + 1, true, out) ⟨rfl, rfl, rfl, rfl, rfl, trivial⟩ (fun w h => Sat.pu_in (hs.a (by omega) hc) h) (by simp only; omega)
  ·(refine RT.call T rfl fR_ (byte_fn (l := out) (by omega)) rfl rfl rfl ?_; rintro _ _ ⟨rfl, rfl⟩; try simp only [List.cons_append, List.nil_append])
   repeat' (first|(refine gv ?_;first|refine RT.id ?_|(refine⟨fun hc=>?_,fun hc=>?_⟩<;>first|(exfalso;omega)|skip)|refine gk ?_|refine num_m fun r hr=>?_|intro r hr)|refine gs ?_|(refine gb ?_;intro b)|refine gn ?_|(refine RT.isPush ?_;refine gp ?_;intro a' c' b' c1' hac)|refine gc ?_|fail)
   exact AtQ.loop (i + 1, false, out ++ [l.getD i 0]) ⟨rfl, rfl, rfl, rfl, rfl, trivial⟩ (fun w h => Sat.pu_in (hs.c hb (by omega) hc (by simp)) h) (by simp only; omega)
 ·obtain rfl : i = l.length := by omega
  have he : out = camelL l := by have := hs.2.1; simpa [camelF] using this
  subst he
  (refine RT.call T rfl fR_ (bstr_fn hs.2.2.1) rfl rfl rfl ?_; rintro _ _ ⟨rfl, rfl⟩; try simp only [List.cons_append, List.nil_append])
  repeat' (first|(refine gv ?_;first|refine RT.id ?_|(refine⟨fun hc=>?_,fun hc=>?_⟩<;>first|(exfalso;omega)|skip)|refine gk ?_|refine num_m fun r hr=>?_|intro r hr)|refine gs ?_|(refine gb ?_;intro b)|refine gn ?_|(refine RT.isPush ?_;refine gp ?_;intro a' c' b' c1' hac)|refine gc ?_|fail)
  exact AtQ.f1 Tryz.results165 rfl rfl (fun w h => h)
 ·(refine RT.ixs T (j := i) rfl rfl (by omega) (by omega) (by assumption) rfl rfl rfl ?_)
  obtain ⟨h0, h1⟩ := hb.get (i := i) (by omega)
  repeat' (first|(refine gv ?_;first|refine RT.id ?_|(refine⟨fun hc=>?_,fun hc=>?_⟩<;>first|(exfalso;omega)|skip)|refine gk ?_|refine num_m fun r hr=>?_|intro r hr)|refine gs ?_|(refine gb ?_;intro b)|refine gn ?_|(refine RT.isPush ?_;refine gp ?_;intro a' c' b' c1' hac)|refine gc ?_|fail)
  ·exact AtQ.loop (i + 1, true, out) ⟨rfl, rfl, rfl, rfl, rfl, trivial⟩ (fun w h => Sat.pu_in (hs.a (by omega) hc) h) (by simp only; omega)
  ·(refine RT.call T rfl fR_ (small_fn) rfl rfl rfl ?_; rintro _ _ ⟨rfl, rfl⟩; try simp only [List.cons_append, List.nil_append])
   by_cases hsm : 97 ≤ l.getD i 0 ∧ l.getD i 0 ≤ 122
   ·rw [decide_eq_true hsm]
    repeat' (first|(refine gv ?_;first|refine RT.id ?_|(refine⟨fun hc=>?_,fun hc=>?_⟩<;>first|(exfalso;omega)|skip)|refine gk ?_|refine num_m fun r hr=>?_|intro r hr)|refine gs ?_|(refine gb ?_;intro b)|refine gn ?_|(refine RT.isPush ?_;refine gp ?_;intro a' c' b' c1' hac)|refine gc ?_|fail)
    (refine RT.call T rfl fR_ (byte_fn (l := out) (by omega)) rfl rfl rfl ?_; rintro _ _ ⟨rfl, rfl⟩; try simp only [List.cons_append, List.nil_append])
    repeat' (first|(refine gv ?_;first|refine RT.id ?_|(refine⟨fun hc=>?_,fun hc=>?_⟩<;>first|(exfalso;omega)|skip)|refine gk ?_|refine num_m fun r hr=>?_|intro r hr)|refine gs ?_|(refine gb ?_;intro b)|refine gn ?_|(refine RT.isPush ?_;refine gp ?_;intro a' c' b' c1' hac)|refine gc ?_|fail)
    exact AtQ.loop (i + 1, false, out ++ [l.getD i 0 - 32]) ⟨rfl, rfl, rfl, rfl, rfl, trivial⟩ (fun w h => Sat.pu_in (hs.b hb (by omega) hc hsm) h) (by simp only; omega)
   ·rw [decide_eq_false hsm]
    repeat' (first|(refine gv ?_;first|refine RT.id ?_|(refine⟨fun hc=>?_,fun hc=>?_⟩<;>first|(exfalso;omega)|skip)|refine gk ?_|refine num_m fun r hr=>?_|intro r hr)|refine gs ?_|(refine gb ?_;intro b)|refine gn ?_|(refine RT.isPush ?_;refine gp ?_;intro a' c' b' c1' hac)|refine gc ?_|fail)
    (refine RT.call T rfl fR_ (byte_fn (l := out) (by omega)) rfl rfl rfl ?_; rintro _ _ ⟨rfl, rfl⟩; try simp only [List.cons_append, List.nil_append])
    repeat' (first|(refine gv ?_;first|refine RT.id ?_|(refine⟨fun hc=>?_,fun hc=>?_⟩<;>first|(exfalso;omega)|skip)|refine gk ?_|refine num_m fun r hr=>?_|intro r hr)|refine gs ?_|(refine gb ?_;intro b)|refine gn ?_|(refine RT.isPush ?_;refine gp ?_;intro a' c' b' c1' hac)|refine gc ?_|fail)
    exact AtQ.loop (i + 1, false, out ++ [l.getD i 0]) ⟨rfl, rfl, rfl, rfl, rfl, trivial⟩ (fun w h => Sat.pu_in (hs.c hb (by omega) hc (fun h => hsm h.2)) h) (by simp only; omega)
 ·obtain rfl : i = l.length := by omega
  have he : out = camelL l := by have := hs.2.1; simpa [camelF] using this
  subst he
  (refine RT.call T rfl fR_ (bstr_fn hs.2.2.1) rfl rfl rfl ?_; rintro _ _ ⟨rfl, rfl⟩; try simp only [List.cons_append, List.nil_append])
  repeat' (first|(refine gv ?_;first|refine RT.id ?_|(refine⟨fun hc=>?_,fun hc=>?_⟩<;>first|(exfalso;omega)|skip)|refine gk ?_|refine num_m fun r hr=>?_|intro r hr)|refine gs ?_|(refine gb ?_;intro b)|refine gn ?_|(refine RT.isPush ?_;refine gp ?_;intro a' c' b' c1' hac)|refine gc ?_|fail)
  exact AtQ.f1 Tryz.results165 rfl rfl (fun w h => h)
end Go.Proofs.YtdemnhdoadjhhaaGreatDoor
end
section
namespace Go.Proofs.YtdemnhdoadjhhaaGreatDoor
open Go.Sk
set_option maxRecDepth 100000
variable {B : World} {R : List HP}
section
variable {n : Fm} {l0 rest : List Oper} {E : Env} {H : List HP} {Q : Exit → Act → World → Prop} {d : Nat} {ty : TypeId} {pos : String} {af : Array Edge} {g : Option (Nat × Bool)} {x y : Operand}
theorem RT.nozero {m : Nat} (hx : ev E x = some (.int .i64 (m : Int))) (hm : m ≤ 281474976710656) (hw : wt l0 E g = some true) (hd : Nat.blt d n = true)
  (kk : ∀ g0 c, m ≤ c → RT B Tryz.prog n true l0 rest ((d, .slice (some ⟨g0, 0, none⟩) m c) :: E) (Own (some ⟨g0, 0, none⟩) c 5 1 0 [] :: H) Q) :
  RT B Tryz.prog n true l0 (⟨some d, .call { callee := .value (.func 167), args := #[x], argTypes := #[3] }, ty, pos, af, g⟩ :: rest) E H Q :=
 RT.eff hw fun o aa w K ho hty hdd hA hS hK => by
  obtain ⟨cs, hrun, hle, hmax⟩ := Lib.run_makeNoZero (P := Tryz.prog) w #[3] 162 5 Tryz.underlying162 m hm
  have hx' := hA.ev hx
  have hcall : (callFunc 167 #[.int .i64 (m : Int)]).run Tryz.prog w = .ok (.value (.slice (some ⟨w.heap.size, 0, none⟩) m cs.size)) (w.drew.drew.alloc (.cells cs 5)) := by
   rw [run_callFunc_extern Tryz.func167 (by kernel_rfl) (by kernel_rfl) (by kernel_rfl) (e := Extern.BytealgMakeNoZero.makeNoZero #[3] #[162]) (by kernel_rfl), hrun]
   rfl
  have hS' : Sat B (Own (some ⟨w.heap.size, 0, none⟩) cs.size 5 1 0 [] :: H) (w.drew.drew.alloc (.cells cs 5)) :=
   hS.new rfl rfl rfl rfl fun h _ hb => by
    unfold Own
    exact ⟨rfl, Nat.zero_le _, hmax (by unfold maxLen; omega), .inr ⟨_, cs, rfl, hb, by omega, by simp⟩⟩
  have hex : (execOp aa.eval o).run Tryz.prog w = .ok (.value (.slice (some ⟨w.heap.size, 0, none⟩) m cs.size)) (w.drew.drew.alloc (.cells cs 5)) := by
   unfold execOp
   simp only [ho, resolve, Sem.run_bind, List.map_toArray, List.map_cons, List.map_nil, hx', Sem.run_pure, Result.andThen_ok]
   simp only [Act.eval, Deferred.ofValue, invoke]
   simpa using hcall
  unfold Oper.wp
  rw [hex]
  simp only [Oper.upon, hdd]
  have hk2 := kk w.heap.size cs.size hle
  exact hK _ _ (hk2 _ _ (hA.put (by simpa [Nat.blt_eq] using hd) _) hS')
theorem RT.copy0 {m : Bool} {b bS : Option Addr} {kd cd c2 e bb t : Nat} (hx : ev E x = some (.slice b kd cd)) (hy : ev E y = some (.slice bS 0 c2)) (ht : al T.slcs t = some (e, 1, bb)) (hw : wt l0 E g = some true) (hd : Nat.blt d n = true)
  (kt : RT B Tryz.prog n m l0 rest ((d, .int .i64 0) :: E) H Q) : RT B Tryz.prog n m l0 (⟨some d, .call { callee := .builtin .copy, args := #[x, y], argTypes := #[t, t] }, ty, pos, af, g⟩ :: rest) E H Q :=
 RT.y hw (by simpa [Nat.blt_eq] using hd) (y_run fun o aa w ho _ hA _ => by
  obtain ⟨hu, i, hi, hz, _⟩ := slcB_spec (T.slc ht)
  unfold execOp
  simp only [ho, resolve, invoke, builtin, List.map_toArray, List.map_cons, List.map_nil, hA.ev hx, hA.ev hy, Sem.run_bind, Sem.run_pure, Result.andThen_ok]
  rw [run_copy_none w t t _ e b bS kd cd 0 c2 hu (by rw [hi]; simp [hz]) (Nat.zero_min _)]
  rfl) kt
end
theorem asub0 (g0 c z : Nat) : asub (some ⟨g0, 0, none⟩) c z 0 = some ⟨g0, 0, none⟩ := by
 unfold asub
 split
 ·rfl
 ·simp [Addr.add]
attribute [local irreducible] Cs Own Ex Pu Yld RT LJ QJ AtQ CT Rd QSp Sp FinQ Then LoopQ CutQ DT TakeQ EffQ
attribute [local irreducible] Bd
variable {B : World} {R : List HP}
theorem grow_fn {b n : Nat} (hn : n ≤ 281474976710656) : Sp B Tryz.prog 156 [ptr b, .int .i64 n] R [Cs b 234 [ptr b, .slice none 0 0]] (fun u H' => u = .tuple #[] ∧ H' = [Bd b []]) := by
 refine Sp.body Tryz.func156 rfl Tryz.ntmps156 (by simp) ?_
 simp only [argE, List.cons_append, List.nil_append, Nat.zero_add, Nat.reduceAdd]
 refine CT.seq ?_
 refine CT.drawn [Cs b 234 [ptr b, .slice none 0 0]] 14 mixed ?_
 (refine DT.takes (k := 3) [0, 1, 2, 3, 4, 5, 6, 7, 9, 10, 11, 12, 13] [8, 14] (fun w h => Sat.ones (by (repeat (first|exact Fr.nil|(apply Fr.cons;focus ((repeat constructor);done))))) h) (by kernel_rfl) (by kernel_rfl) (by kernel_rfl) rfl (Clos.ofB (by kernel_rfl)) ?_)
 repeat' (first|(refine gv ?_;first|refine RT.id ?_|(refine⟨fun hc=>?_,fun hc=>?_⟩<;>first|(exfalso;omega)|skip)|refine gk ?_|refine num_m fun r hr=>?_|intro r hr)|refine gs ?_|(refine gb ?_;intro b)|refine gn ?_|(refine RT.isPush ?_;refine gp ?_;intro a' c' b' c1' hac)|refine gc ?_|fail)
 refine AtQ.take ?_
 (refine DT.eff 8 rfl (by kernel_rfl) ?_)
 rw [show (2 : Int) * ((0 : Nat) : Int) + (n : Int) = n by omega]
 refine RT.nozero rfl hn rfl rfl (fun g0 c hc => ?_)
 (refine RT.nil ?_; refine AtQ.eff (fun w h => Sat.ones (by (repeat (first|exact Fr.nil|(apply Fr.cons;focus ((repeat constructor);done))))) h) ?_)
 (refine DT.eff 14 rfl (by kernel_rfl) ?_)
 refine RT.slhi T (j := 0) rfl rfl rfl (by omega) rfl rfl rfl ?_
 rw [asub0]
 (refine RT.nil ?_; refine AtQ.eff' (by kernel_rfl) ?_)
 (refine DT.eff 15 rfl (by kernel_rfl) ?_)
 repeat' (first|(refine gv ?_;first|refine RT.id ?_|(refine⟨fun hc=>?_,fun hc=>?_⟩<;>first|(exfalso;omega)|skip)|refine gk ?_|refine num_m fun r hr=>?_|intro r hr)|refine gs ?_|(refine gb ?_;intro b)|refine gn ?_|(refine RT.isPush ?_;refine gp ?_;intro a' c' b' c1' hac)|refine gc ?_|fail)
 refine AtQ.eff' (by kernel_rfl) ?_
 (refine DT.done (by kernel_rfl) ?_)
 repeat' (first|(refine gv ?_;first|refine RT.id ?_|(refine⟨fun hc=>?_,fun hc=>?_⟩<;>first|(exfalso;omega)|skip)|refine gk ?_|refine num_m fun r hr=>?_|intro r hr)|refine gs ?_|(refine gb ?_;intro b)|refine gn ?_|(refine RT.isPush ?_;refine gp ?_;intro a' c' b' c1' hac)|refine gc ?_|fail)
 refine RT.copy0 rfl rfl rfl rfl rfl ?_
 repeat' (first|(refine gv ?_;first|refine RT.id ?_|(refine⟨fun hc=>?_,fun hc=>?_⟩<;>first|(exfalso;omega)|skip)|refine gk ?_|refine num_m fun r hr=>?_|intro r hr)|refine gs ?_|(refine gb ?_;intro b)|refine gn ?_|(refine RT.isPush ?_;refine gp ?_;intro a' c' b' c1' hac)|refine gc ?_|fail)
 exact AtQ.f0 Tryz.results156 (fun w h => Bd.put (k := 0) h (by (repeat (first|exact Fr.nil|(apply Fr.cons;focus ((repeat constructor);done))))) rfl) (by first | exact .inl rfl | exact .inr rfl)
theorem Grow_fn {b n : Nat} (hn : n ≤ 281474976710656) : Sp B Tryz.prog 125 [ptr b, .int .i64 n] R [Cs b 234 [.pointer none, .slice none 0 0]] (fun u H' => u = .tuple #[] ∧ H' = [Bd b []]) := by
 refine Sp.body Tryz.func125 rfl Tryz.ntmps125 (by simp) ?_
 simp only [argE, List.cons_append, List.nil_append, Nat.zero_add, Nat.reduceAdd]
 repeat' (first|(refine gv ?_;first|refine RT.id ?_|(refine⟨fun hc=>?_,fun hc=>?_⟩<;>first|(exfalso;omega)|skip)|refine gk ?_|refine num_m fun r hr=>?_|intro r hr)|refine gs ?_|(refine gb ?_;intro b)|refine gn ?_|(refine RT.isPush ?_;refine gp ?_;intro a' c' b' c1' hac)|refine gc ?_|fail)
 (refine RT.call T rfl fR_ (check_fn (.inl rfl)) rfl rfl rfl ?_; rintro _ _ ⟨rfl, rfl⟩; try simp only [List.cons_append, List.nil_append])
 repeat' (first|(refine gv ?_;first|refine RT.id ?_|(refine⟨fun hc=>?_,fun hc=>?_⟩<;>first|(exfalso;omega)|skip)|refine gk ?_|refine num_m fun r hr=>?_|intro r hr)|refine gs ?_|(refine gb ?_;intro b)|refine gn ?_|(refine RT.isPush ?_;refine gp ?_;intro a' c' b' c1' hac)|refine gc ?_|fail)
 ·(refine RT.call T rfl fR_ (grow_fn hn) rfl rfl rfl ?_; rintro _ _ ⟨rfl, rfl⟩; try simp only [List.cons_append, List.nil_append])
  repeat' (first|(refine gv ?_;first|refine RT.id ?_|(refine⟨fun hc=>?_,fun hc=>?_⟩<;>first|(exfalso;omega)|skip)|refine gk ?_|refine num_m fun r hr=>?_|intro r hr)|refine gs ?_|(refine gb ?_;intro b)|refine gn ?_|(refine RT.isPush ?_;refine gp ?_;intro a' c' b' c1' hac)|refine gc ?_|fail)
  exact AtQ.f0 Tryz.results125 (fun w h => by exact h) (by first | exact .inl rfl | exact .inr rfl)
 ·exact AtQ.f0 Tryz.results125 (fun w h => Bd.in_ ⟨_, none, 0⟩ (.inr rfl) (Sat.fr (Ps := [Cs b 234 [ptr b, .slice none 0 0], own8 none 0 []]) (Sat.nilOwn (e := 5) (sz := 1) h) (by (repeat (first|exact Fr.nil|(apply Fr.cons;focus ((repeat constructor);done))))))) (by first | exact .inl rfl | exact .inr rfl)
end Go.Proofs.YtdemnhdoadjhhaaGreatDoor
end
section
namespace Go.Proofs.YtdemnhdoadjhhaaGreatDoor
open Go.Sk
set_option maxRecDepth 100000
def strs (ls : List (List Int)) : List Value := ls.map fun l => .string (str l)
theorem strs_len (ls : List (List Int)) : (strs ls).length = ls.length := by simp [strs]
theorem strs_get {ls : List (List Int)} {i : Nat} (h : i < ls.length) : (strs ls)[i]? = some (.string (str (ls.getD i []))) := by
 simp [strs, h]
def sumL (ls : List (List Int)) : Nat := (ls.map List.length).sum
theorem getD_succ {α : Type} {ls : List α} {d : α} {i : Nat} (h : i < ls.length) : ls.take (i + 1) = ls.take i ++ [ls.getD i d] := by
 rw [List.take_add_one]
 simp [List.getElem?_eq_getElem h]
theorem sumL_app (a b : List (List Int)) : sumL (a ++ b) = sumL a + sumL b := by simp [sumL]
theorem sumL_succ {ls : List (List Int)} {i : Nat} (h : i < ls.length) : sumL (ls.take (i + 1)) = sumL (ls.take i) + (ls.getD i []).length := by
 rw [getD_succ (d := []) h, sumL_app]
 simp [sumL]
theorem sumL_take (ls : List (List Int)) (i : Nat) : sumL (ls.take i) ≤ sumL ls := by
 have h := sumL_app (ls.take i) (ls.drop i)
 rw [List.take_append_drop] at h
 omega
def dotted (ls : List (List Int)) : List Int := ls.flatMap fun y => 46 :: y
theorem dotted_len : ∀ ls : List (List Int), (dotted ls).length = sumL ls + ls.length
 | [] => rfl
 | x :: r => by
  have := dotted_len r
  unfold dotted sumL at *
  simp only [List.flatMap_cons, List.length_append, List.length_cons, List.map_cons, List.sum_cons]
  omega
def joinS : List (List Int) → List Int
 | [] => []
 | x :: r => x ++ dotted r
theorem dotted_byt {ls : List (List Int)} (h : ∀ l ∈ ls, Byt l) : Byt (dotted ls) := fun x hx => by
 obtain ⟨y, hy, hx⟩ := List.mem_flatMap.1 hx
 rcases List.mem_cons.1 hx with rfl | hx
 ·exact ⟨by decide, by decide⟩
 ·exact h y hy x hx
theorem dotted_succ {r : List (List Int)} {i : Nat} (h : i < r.length) : dotted (r.take (i + 1)) = dotted (r.take i) ++ [46] ++ r.getD i [] := by
 rw [getD_succ (d := []) h]
 simp [dotted]
attribute [local irreducible] Cs Own Ex Pu Yld RT LJ QJ AtQ CT Rd QSp Sp FinQ Then LoopQ CutQ DT TakeQ EffQ
attribute [local irreducible] Bd
variable {B : World} {R : List HP}
set_option maxHeartbeats 1000000 in
theorem sjoin_fn {a : Option Addr} {k c : Nat} {ls : List (List Int)} {sep : List Int} (hsep : sep = [46]) (hR : Rd B R a k c 1 (strs ls)) (hk : k = ls.length) (hB : ∀ l ∈ ls, Byt l) (hb : sumL ls + ls.length ≤ 10000000000000) :
  Sp B Tryz.prog 94 [.slice a k c, .string (str sep)] R [] (fun v H' => v = .string (str (joinS ls)) ∧ H' = []) := by
 refine Sp.body Tryz.func94 rfl Tryz.ntmps94 (by simp) ?_
 simp only [argE, List.cons_append, List.nil_append, Nat.zero_add, Nat.reduceAdd]
 have hsl : sep.length = 1 := by rw [hsep]; rfl
 subst hk
 have hget : ∀ i, i < ls.length → Byt (ls.getD i []) := fun i hi => by
  rw [List.getD_eq_getElem?_getD, List.getElem?_eq_getElem hi]
  exact hB _ (List.getElem_mem hi)
 repeat' (first|(refine gv ?_;first|refine RT.id ?_|(refine⟨fun hc=>?_,fun hc=>?_⟩<;>first|(exfalso;omega)|skip)|refine gk ?_|refine num_m fun r hr=>?_|intro r hr)|refine gs ?_|(refine gb ?_;intro b)|refine gn ?_|(refine RT.isPush ?_;refine gp ?_;intro a' c' b' c1' hac)|refine gc ?_|fail)
 ·have : ls = [] := List.eq_nil_of_length_eq_zero (by omega)
  exact AtQ.f1 Tryz.results94 rfl (by rw [this]; rfl) (fun w h => h)
 ·have h0 : 0 < ls.length := by omega
  refine RT.ix T (j := 0) rfl rfl rfl hR (by omega) (by omega) rfl rfl rfl ?_
  refine RT.ldr T rfl hR (strs_get h0) rfl rfl rfl ?_
  repeat' (first|(refine gv ?_;first|refine RT.id ?_|(refine⟨fun hc=>?_,fun hc=>?_⟩<;>first|(exfalso;omega)|skip)|refine gk ?_|refine num_m fun r hr=>?_|intro r hr)|refine gs ?_|(refine gb ?_;intro b)|refine gn ?_|(refine RT.isPush ?_;refine gp ?_;intro a' c' b' c1' hac)|refine gc ?_|fail)
  refine AtQ.f1 Tryz.results94 rfl ?_ (fun w h => h)
  obtain ⟨x, rfl⟩ : ∃ x, ls = [x] := List.length_eq_one_iff.1 (by omega)
  simp [joinS, dotted]
 ·have hq : (2 : Int) ≤ 9223372036854775807 / ((ls.length : Int) - 1) := Int.le_ediv_of_mul_le (by omega) (by omega)
  have hq2 : 9223372036854775807 / ((ls.length : Int) - 1) ≤ 9223372036854775807 := Int.ediv_le_self _ (by omega)
  refine RT.quo rfl rfl (by omega) (r := 9223372036854775807 / ((ls.length : Int) - 1)) (by rw [Int.tdiv_eq_ediv_of_nonneg (by omega)]; exact wr_i64 (by omega) (by omega)) rfl rfl ?_
  have hm : (sep.length : Int) * ((ls.length : Int) - 1) = (ls.length : Int) - 1 := by rw [hsl]; omega
  repeat' (first|(refine gv ?_;first|refine RT.id ?_|(refine⟨fun hc=>?_,fun hc=>?_⟩<;>first|(exfalso;omega)|skip)|refine gk ?_|refine num_m fun r hr=>?_|intro r hr)|refine gs ?_|(refine gb ?_;intro b)|refine gn ?_|(refine RT.isPush ?_;refine gp ?_;intro a' c' b' c1' hac)|refine gc ?_|fail)
  refine CT.loop (α := Nat) (fun i => [(0, .slice a ls.length c), (1, .string (str sep)), (39, .slice a ls.length c), (40, .int .i64 ls.length), (41, .int .i64 i), (5, .int .i64 (((ls.length - 1 + sumL (ls.take i) : Nat) : Int)))]) (fun i => Pu (i ≤ ls.length) :: R) (fun i => ls.length - i) 0 ⟨rfl, rfl, rfl, rfl, rfl, ?_, trivial⟩
   (fun w h => Sat.pu_in (Nat.zero_le _) h) (fun i => CT.pu fun hi => ?_)
  ·have e : (0 : Int) + (sep.length : Int) * ((ls.length : Int) - 1) = ((ls.length - 1 + sumL (ls.take 0) : Nat) : Int) := by rw [hm]; simp [sumL]; omega
   rw [← e]; rfl
  repeat' (first|(refine gv ?_;first|refine RT.id ?_|(refine⟨fun hc=>?_,fun hc=>?_⟩<;>first|(exfalso;omega)|skip)|refine gk ?_|refine num_m fun r hr=>?_|intro r hr)|refine gs ?_|(refine gb ?_;intro b)|refine gn ?_|(refine RT.isPush ?_;refine gp ?_;intro a' c' b' c1' hac)|refine gc ?_|fail)
  ·refine RT.ix T (j := i) rfl rfl rfl (by repeat (first | exact (hR) | apply Rd.cons)) (by omega) (by omega) (by omega) rfl rfl ?_
   refine RT.ldr T rfl (by repeat (first | exact (hR) | apply Rd.cons)) (strs_get (i := i) (by omega)) rfl rfl rfl ?_
   have hsum := sumL_succ (ls := ls) (i := i) (by omega)
   have hst := sumL_take ls (i + 1)
   repeat' (first|(refine gv ?_;first|refine RT.id ?_|(refine⟨fun hc=>?_,fun hc=>?_⟩<;>first|(exfalso;omega)|skip)|refine gk ?_|refine num_m fun r hr=>?_|intro r hr)|refine gs ?_|(refine gb ?_;intro b)|refine gn ?_|(refine RT.isPush ?_;refine gp ?_;intro a' c' b' c1' hac)|refine gc ?_|fail)
   exact AtQ.loop (i + 1) ⟨rfl, rfl, rfl, rfl, rfl, by rw [hsum, ← Nat.add_assoc]; rfl, trivial⟩ (fun w h => Sat.pu_in (by omega) h) (by omega)
  ·have hst := sumL_take ls i
   (refine RT.call T rfl fR_ (Grow_fn (by omega)) rfl rfl rfl ?_; rintro _ _ ⟨rfl, rfl⟩; try simp only [List.cons_append, List.nil_append])
   repeat' (first|(refine gv ?_;first|refine RT.id ?_|(refine⟨fun hc=>?_,fun hc=>?_⟩<;>first|(exfalso;omega)|skip)|refine gk ?_|refine num_m fun r hr=>?_|intro r hr)|refine gs ?_|(refine gb ?_;intro b)|refine gn ?_|(refine RT.isPush ?_;refine gp ?_;intro a' c' b' c1' hac)|refine gc ?_|fail)
   have h0 : 0 < ls.length := by omega
   have hs1 : sumL (ls.take 1) = sumL (ls.take 0) + (ls.getD 0 []).length := sumL_succ h0
   have hs0 : sumL (ls.take 0) = 0 := rfl
   have hs2 := sumL_take ls 1
   refine RT.ix T (j := 0) rfl rfl rfl (by repeat (first | exact (hR) | apply Rd.cons)) (by omega) (by omega) rfl rfl rfl ?_
   refine RT.ldr T rfl (by repeat (first | exact (hR) | apply Rd.cons)) (strs_get h0) rfl rfl rfl ?_
   (refine RT.call T rfl fR_ (text_fn (l := []) (hget 0 h0) (by rw [List.length_nil]; omega)) rfl rfl rfl ?_; rintro _ _ ⟨rfl, rfl⟩; try simp only [List.cons_append, List.nil_append])
   repeat' (first|(refine gv ?_;first|refine RT.id ?_|(refine⟨fun hc=>?_,fun hc=>?_⟩<;>first|(exfalso;omega)|skip)|refine gk ?_|refine num_m fun r hr=>?_|intro r hr)|refine gs ?_|(refine gb ?_;intro b)|refine gn ?_|(refine RT.isPush ?_;refine gp ?_;intro a' c' b' c1' hac)|refine gc ?_|fail)
   refine RT.sllo T (j := 1) rfl rfl rfl (by omega) rfl rfl rfl ?_
   repeat' (first|(refine gv ?_;first|refine RT.id ?_|(refine⟨fun hc=>?_,fun hc=>?_⟩<;>first|(exfalso;omega)|skip)|refine gk ?_|refine num_m fun r hr=>?_|intro r hr)|refine gs ?_|(refine gb ?_;intro b)|refine gn ?_|(refine RT.isPush ?_;refine gp ?_;intro a' c' b' c1' hac)|refine gc ?_|fail)
   have hR2 := Rd.sub (i := 1) (j := ls.length) hR (by omega) (Nat.le_refl _)
   have hr2 : ((strs ls).drop (1 * 1)).take ((ls.length - 1) * 1) = strs (ls.drop 1) := by
    rw [Nat.mul_one, Nat.mul_one, List.take_of_length_le (by rw [List.length_drop, strs_len]; omega)]
    simp [strs]
   rw [hr2] at hR2
   have hdl : (ls.drop 1).length = ls.length - 1 := List.length_drop ..
   have hsd : sumL (ls.drop 1) + (ls.getD 0 []).length = sumL ls := by
    have h := sumL_app (ls.take 1) (ls.drop 1)
    rw [List.take_append_drop] at h
    omega
   refine CT.loop (α := Nat) (fun i => [(1, .string (str sep)), (8, ptr b), (63, .slice (asub a c 1 1) (ls.length - 1) (c - 1)), (64, .int .i64 (ls.length - 1 : Nat)), (65, .int .i64 i)]) (fun i => Pu (i ≤ ls.length - 1) :: Bd b (ls.getD 0 [] ++ dotted ((ls.drop 1).take i)) :: R) (fun i => ls.length - 1 - i) 0 ⟨rfl, rfl, rfl, rfl, rfl, trivial⟩
    (fun w h => Sat.pu_in (Nat.zero_le _) (by simpa [dotted] using h)) (fun i => CT.pu fun hi => ?_)
   have hdt := dotted_len ((ls.drop 1).take i)
   have hst2 := sumL_take (ls.drop 1) i
   have htl : ((ls.drop 1).take i).length = i := by rw [List.length_take]; omega
   have hcur : (ls.getD 0 [] ++ dotted ((ls.drop 1).take i)).length = (ls.getD 0 []).length + (sumL ((ls.drop 1).take i) + i) := by rw [List.length_append, hdt, htl]
   repeat' (first|(refine gv ?_;first|refine RT.id ?_|(refine⟨fun hc=>?_,fun hc=>?_⟩<;>first|(exfalso;omega)|skip)|refine gk ?_|refine num_m fun r hr=>?_|intro r hr)|refine gs ?_|(refine gb ?_;intro b)|refine gn ?_|(refine RT.isPush ?_;refine gp ?_;intro a' c' b' c1' hac)|refine gc ?_|fail)
   ·have hi2 : i < (ls.drop 1).length := by omega
    have hx : (ls.drop 1).getD i [] = ls.getD (i + 1) [] := by simp
    have hsum2 := sumL_succ (ls := ls.drop 1) hi2
    have hst3 := sumL_take (ls.drop 1) (i + 1)
    refine RT.ix T (j := i) rfl rfl rfl (by repeat (first | exact (hR2) | apply Rd.cons)) (by omega) (by omega) (by omega) rfl rfl ?_
    refine RT.ldr T rfl (by repeat (first | exact (hR2) | apply Rd.cons)) (strs_get hi2) rfl rfl rfl ?_
    repeat' (first|(refine gv ?_;first|refine RT.id ?_|(refine⟨fun hc=>?_,fun hc=>?_⟩<;>first|(exfalso;omega)|skip)|refine gk ?_|refine num_m fun r hr=>?_|intro r hr)|refine gs ?_|(refine gb ?_;intro b)|refine gn ?_|(refine RT.isPush ?_;refine gp ?_;intro a' c' b' c1' hac)|refine gc ?_|fail)
    (refine RT.call T rfl fR_ (text_fn (l' := sep) (by rw [hsep]; decide) (by rw [hcur]; omega)) rfl rfl rfl ?_; rintro _ _ ⟨rfl, rfl⟩; try simp only [List.cons_append, List.nil_append])
    repeat' (first|(refine gv ?_;first|refine RT.id ?_|(refine⟨fun hc=>?_,fun hc=>?_⟩<;>first|(exfalso;omega)|skip)|refine gk ?_|refine num_m fun r hr=>?_|intro r hr)|refine gs ?_|(refine gb ?_;intro b)|refine gn ?_|(refine RT.isPush ?_;refine gp ?_;intro a' c' b' c1' hac)|refine gc ?_|fail)
    (refine RT.call T rfl fR_ (text_fn (by rw [hx]; exact hget _ (by omega)) (by rw [List.length_append, hcur]; omega)) rfl rfl rfl ?_; rintro _ _ ⟨rfl, rfl⟩; try simp only [List.cons_append, List.nil_append])
    repeat' (first|(refine gv ?_;first|refine RT.id ?_|(refine⟨fun hc=>?_,fun hc=>?_⟩<;>first|(exfalso;omega)|skip)|refine gk ?_|refine num_m fun r hr=>?_|intro r hr)|refine gs ?_|(refine gb ?_;intro b)|refine gn ?_|(refine RT.isPush ?_;refine gp ?_;intro a' c' b' c1' hac)|refine gc ?_|fail)
    exact AtQ.loop (i + 1) ⟨rfl, rfl, rfl, rfl, rfl, trivial⟩ (fun w h => Sat.pu_in (by omega) (by rw [dotted_succ hi2, ← hsep, ← List.append_assoc, ← List.append_assoc]; exact h)) (by omega)
   ·have hie : i = ls.length - 1 := by omega
    have he : ls.getD 0 [] ++ dotted ((ls.drop 1).take i) = joinS ls := by
     rw [hie, List.take_of_length_le (by rw [hdl]; exact Nat.le_refl _)]
     cases ls with
     | nil => rfl
     | cons x r => rfl
    (refine RT.call T rfl fR_ (bstr_fn (by exact (hget 0 h0).app (dotted_byt fun l hl => hB l (List.mem_of_mem_drop (List.mem_of_mem_take hl))))) rfl rfl rfl ?_; rintro _ _ ⟨rfl, rfl⟩; try simp only [List.cons_append, List.nil_append])
    repeat' (first|(refine gv ?_;first|refine RT.id ?_|(refine⟨fun hc=>?_,fun hc=>?_⟩<;>first|(exfalso;omega)|skip)|refine gk ?_|refine num_m fun r hr=>?_|intro r hr)|refine gs ?_|(refine gb ?_;intro b)|refine gn ?_|(refine RT.isPush ?_;refine gp ?_;intro a' c' b' c1' hac)|refine gc ?_|fail)
    exact AtQ.f1 Tryz.results94 rfl (by rw [he]) (fun w h => h)
end Go.Proofs.YtdemnhdoadjhhaaGreatDoor
end
section
namespace Go.Proofs.YtdemnhdoadjhhaaGreatDoor
open Go.Sk
set_option maxRecDepth 100000
def filt (ls : List (List Int)) : List (List Int) := ls.filter fun l => !l.isEmpty
def joinL (ls : List (List Int)) : List Int := joinS (filt ls)
theorem filt_in {ls : List (List Int)} {i : Nat} (h : i < ls.length) (he : ls.getD i [] ≠ []) : filt (ls.take (i + 1)) = filt (ls.take i) ++ [ls.getD i []] := by
 rw [getD_succ (d := []) h]
 unfold filt
 rw [List.filter_append]
 congr 1
 generalize ls.getD i [] = l at he
 cases l with
 | nil => exact absurd rfl he
 | cons x r => rfl
theorem filt_out {ls : List (List Int)} {i : Nat} (h : i < ls.length) (he : ls.getD i [] = []) : filt (ls.take (i + 1)) = filt (ls.take i) := by
 rw [getD_succ (d := []) h, he]
 simp [filt]
theorem filt_sum : ∀ ls : List (List Int), sumL (filt ls) = sumL ls ∧ (filt ls).length ≤ ls.length
 | [] => ⟨rfl, Nat.le_refl _⟩
 | x :: r => by
  obtain ⟨h1, h2⟩ := filt_sum r
  unfold filt sumL at *
  cases x with
  | nil => simp at *; omega
  | cons y t => simp at *; omega
theorem filt_mem {ls : List (List Int)} (h : ∀ l ∈ ls, Byt l) : ∀ l ∈ filt ls, Byt l := fun l hl => h l (List.mem_filter.1 hl).1
theorem filt_len_take (ls : List (List Int)) (i : Nat) : (filt (ls.take i)).length ≤ ls.length := by
 have := (filt_sum (ls.take i)).2
 rw [List.length_take] at this
 omega
theorem strs_push (ls : List (List Int)) (l : List Int) : strs ls ++ [.string (str l)] = strs (ls ++ [l]) := by simp [strs]
attribute [local irreducible] Cs Own Ex Pu Yld RT LJ QJ AtQ CT Rd QSp Sp FinQ Then LoopQ CutQ DT TakeQ EffQ
attribute [local irreducible] Bd
variable {B : World} {R : List HP}
set_option maxHeartbeats 1000000 in
theorem join_fn {a : Option Addr} {k c : Nat} {ls : List (List Int)} (hR : Rd B R a k c 1 (strs ls)) (hk : k = ls.length) (hB : ∀ l ∈ ls, Byt l) (hb : sumL ls + ls.length ≤ 1000000000000) :
  Sp B Tryz.prog 38 [.slice a k c] R [] (fun v H' => v = .string (str (joinL ls)) ∧ H' = []) := by
 refine Sp.body Tryz.func38 rfl Tryz.ntmps38 (by simp) ?_
 simp only [argE, List.cons_append, List.nil_append, Nat.zero_add, Nat.reduceAdd]
 subst hk
 have hget : ∀ i, i < ls.length → Byt (ls.getD i []) := fun i hi => by
  rw [List.getD_eq_getElem?_getD, List.getElem?_eq_getElem hi]
  exact hB _ (List.getElem_mem hi)
 repeat' (first|(refine gv ?_;first|refine RT.id ?_|(refine⟨fun hc=>?_,fun hc=>?_⟩<;>first|(exfalso;omega)|skip)|refine gk ?_|refine num_m fun r hr=>?_|intro r hr)|refine gs ?_|(refine gb ?_;intro b)|refine gn ?_|(refine RT.isPush ?_;refine gp ?_;intro a' c' b' c1' hac)|refine gc ?_|fail)
 refine CT.weak (fun w h => Sat.nilOwn (e := 9) (sz := 1) h) ?_
 refine CT.loop (α := Nat × Option Addr × Nat) (fun s => [(3, .slice s.2.1 (filt (ls.take s.1)).length s.2.2), (6, .slice a ls.length c), (7, .int .i64 ls.length), (8, .int .i64 s.1)]) (fun s => Pu (s.1 ≤ ls.length) :: Own s.2.1 s.2.2 9 1 (filt (ls.take s.1)).length (strs (filt (ls.take s.1))) :: R) (fun s => ls.length - s.1) (0, none, 0) ⟨rfl, rfl, rfl, rfl, trivial⟩
  (fun w h => Sat.pu_in (Nat.zero_le _) h) (fun s => CT.pu fun hi => ?_)
 obtain ⟨i, a1, c1⟩ := s
 simp only at hi ⊢
 have hfl := filt_len_take ls i
 repeat' (first|(refine gv ?_;first|refine RT.id ?_|(refine⟨fun hc=>?_,fun hc=>?_⟩<;>first|(exfalso;omega)|skip)|refine gk ?_|refine num_m fun r hr=>?_|intro r hr)|refine gs ?_|(refine gb ?_;intro b)|refine gn ?_|(refine RT.isPush ?_;refine gp ?_;intro a' c' b' c1' hac)|refine gc ?_|fail)
 ·refine RT.ix T (j := i) rfl rfl rfl (by repeat (first | exact (hR) | apply Rd.cons)) (by omega) (by omega) (by omega) rfl rfl ?_
  refine RT.ldr T rfl (by repeat (first | exact (hR) | apply Rd.cons)) (strs_get (i := i) (by omega)) rfl rfl rfl ?_
  repeat' (first|(refine gv ?_;first|refine RT.id ?_|(refine⟨fun hc=>?_,fun hc=>?_⟩<;>first|(exfalso;omega)|skip)|refine gk ?_|refine num_m fun r hr=>?_|intro r hr)|refine gs ?_|(refine gb ?_;intro b)|refine gn ?_|(refine RT.isPush ?_;refine gp ?_;intro a' c' b' c1' hac)|refine gc ?_|fail)
  refine RT.nes (l := ls.getD i []) (l' := []) rfl rfl (hget i (by omega)) Byt.nil rfl rfl (fun he => ?_) (fun he => ?_)
  ·repeat' (first|(refine gv ?_;first|refine RT.id ?_|(refine⟨fun hc=>?_,fun hc=>?_⟩<;>first|(exfalso;omega)|skip)|refine gk ?_|refine num_m fun r hr=>?_|intro r hr)|refine gs ?_|(refine gb ?_;intro b)|refine gn ?_|(refine RT.isPush ?_;refine gp ?_;intro a' c' b' c1' hac)|refine gc ?_|fail)
   have hf := filt_out (ls := ls) (i := i) (by omega) he
   exact AtQ.loop (i + 1, a1, c1) ⟨by simp only; rw [hf]; rfl, rfl, rfl, rfl, trivial⟩ (fun w h => Sat.pu_in (by simp only; omega) (by simp only; rw [hf]; exact h)) (by simp only; omega)
  ·repeat' (first|(refine gv ?_;first|refine RT.id ?_|(refine⟨fun hc=>?_,fun hc=>?_⟩<;>first|(exfalso;omega)|skip)|refine gk ?_|refine num_m fun r hr=>?_|intro r hr)|refine gs ?_|(refine gb ?_;intro b)|refine gn ?_|(refine RT.isPush ?_;refine gp ?_;intro a' c' b' c1' hac)|refine gc ?_|fail)
   have hf := filt_in (ls := ls) (i := i) (by omega) he
   have hfl2 : (filt (ls.take (i + 1))).length = (filt (ls.take i)).length + 1 := by rw [hf]; simp
   refine RT.push T rfl rfl rfl rfl (fun a' c' => by ((repeat constructor);done)) (by omega) (by omega) rfl rfl rfl rfl (fun a' c' b' c1' hac => ?_)
   repeat' (first|(refine gv ?_;first|refine RT.id ?_|(refine⟨fun hc=>?_,fun hc=>?_⟩<;>first|(exfalso;omega)|skip)|refine gk ?_|refine num_m fun r hr=>?_|intro r hr)|refine gs ?_|(refine gb ?_;intro b)|refine gn ?_|(refine RT.isPush ?_;refine gp ?_;intro a' c' b' c1' hac)|refine gc ?_|fail)
   exact AtQ.loop (i + 1, a', c') ⟨by simp only; rw [hfl2]; rfl, rfl, rfl, rfl, trivial⟩ (fun w h => Sat.pu_in (by simp only; omega) (by simp only; rw [hfl2, hf, ← strs_push]; exact h)) (by simp only; omega)
 ·have hie : i = ls.length := by omega
  subst hie
  rw [List.take_length] at *
  obtain ⟨hs1, hs2⟩ := filt_sum ls
  refine RT.fact (p := (filt ls).length ≤ c1) (fun w h => (Own.facts h (by ((repeat constructor);done))).2.1) fun hc1 => ?_
  (refine RT.call T rfl fR_ (sjoin_fn (sep := [46]) rfl (Own.rd (by ((repeat constructor);done)) (by rw [strs_len, Nat.mul_one]) hc1) rfl (filt_mem hB) (by omega)) rfl rfl rfl ?_; rintro _ _ ⟨rfl, rfl⟩; try simp only [List.cons_append, List.nil_append])
  repeat' (first|(refine gv ?_;first|refine RT.id ?_|(refine⟨fun hc=>?_,fun hc=>?_⟩<;>first|(exfalso;omega)|skip)|refine gk ?_|refine num_m fun r hr=>?_|intro r hr)|refine gs ?_|(refine gb ?_;intro b)|refine gn ?_|(refine RT.isPush ?_;refine gp ?_;intro a' c' b' c1' hac)|refine gc ?_|fail)
  exact AtQ.f1 Tryz.results38 rfl rfl (fun w h => h.tail)
end Go.Proofs.YtdemnhdoadjhhaaGreatDoor
end
section
namespace Go.Proofs.YtdemnhdoadjhhaaGreatDoor
open Go.Sk
set_option maxRecDepth 100000
theorem dec_pos (s : ByteArray) (p : Nat) : 1 ≤ (Utf8.decode s p).2 := by
 unfold Utf8.decode
 dsimp only
 repeat' split
 all_goals simp
def goodF (l : List Int) : Nat → Nat → Int
 | 0, _ => -1
 | f + 1, p => if p < l.length then (if (Utf8.decode (str l) p).1 = 65533 ∧ (Utf8.decode (str l) p).2 = 1 then p else goodF l f (p + (Utf8.decode (str l) p).2)) else -1
def goodL (l : List Int) : Int := goodF l l.length 0
def GooI (l : List Int) (p : Nat) : Prop := ∃ f, goodF l f p = goodL l ∧ l.length ≤ p + f
theorem GooI.z (l : List Int) : GooI l 0 := ⟨_, rfl, by omega⟩
theorem GooI.end_ {l : List Int} {p : Nat} (h : GooI l p) (hp : ¬ p < l.length) : goodL l = -1 := by
 obtain ⟨f, h1, _⟩ := h
 rw [← h1]
 cases f with
 | zero => rfl
 | succ f => rw [goodF, if_neg hp]
theorem GooI.bad {l : List Int} {p : Nat} (h : GooI l p) (hp : p < l.length) (hb : (Utf8.decode (str l) p).1 = 65533 ∧ (Utf8.decode (str l) p).2 = 1) : goodL l = p := by
 obtain ⟨f, h1, h2⟩ := h
 rw [← h1]
 cases f with
 | zero => omega
 | succ f => rw [goodF, if_pos hp, if_pos hb]
theorem GooI.go {l : List Int} {p : Nat} (h : GooI l p) (hp : p < l.length) (hb : ¬ ((Utf8.decode (str l) p).1 = 65533 ∧ (Utf8.decode (str l) p).2 = 1)) : GooI l (p + (Utf8.decode (str l) p).2) := by
 obtain ⟨f, h1, h2⟩ := h
 have := dec_pos (str l) p
 cases f with
 | zero => omega
 | succ f =>
  rw [goodF, if_pos hp, if_neg hb] at h1
  exact ⟨f, h1, by omega⟩
theorem dec_drop {l : List Int} {p : Nat} (h : p < l.length) : Lib.decodeGo (str (l.drop p)) = Utf8.decode (str l) p := by
 unfold Lib.decodeGo
 rw [if_neg (by rw [str_size, List.length_drop]; omega), ← Lib.decodeL_drop (str l) p, ← Lib.decodeL_drop (str (l.drop p)) 0, str_list, str_list, List.drop_zero, List.map_drop]
attribute [local irreducible] Cs Own Ex Pu Yld RT LJ QJ AtQ CT Rd QSp Sp FinQ Then LoopQ CutQ DT TakeQ EffQ
attribute [local irreducible] It Ro
variable {B : World} {R : List HP}
theorem tabs_of {H : List HP} {w : World} (hT : Lib.Utf8Tabs 1 2 B) (hS : Sat B H w) : Lib.Utf8Tabs 1 2 w :=
 ⟨fun c hc => hS.bcell (hT.1 c hc), fun i hi => ⟨hS.bcell (hT.2 i hi).1, hS.bcell (hT.2 i hi).2⟩⟩
theorem dec_q {H : List HP} (hT : Lib.Utf8Tabs 1 2 B) {l : List Int} {p : Nat} (h : p < l.length) : QSp B Tryz.prog 164 [.string (str (l.drop p))] H (.tuple #[.int .i32 (Utf8.decode (str l) p).1, .int .i64 (Utf8.decode (str l) p).2]) :=
 QSp.below fun w hS => by
  have := Tryz.utf8_DecodeRuneInString (str (l.drop p)) w (tabs_of hT hS)
  rw [dec_drop h] at this
  exact this
theorem goodS_fn (hT : Lib.Utf8Tabs 1 2 B) {l : List Int} (hb : Byt l) (hl : l.length ≤ 140737488355328) : Sp B Tryz.prog 147 [.string (str l)] R [] (fun v H' => v = .int .i64 (goodL l) ∧ H' = []) := by
 refine Sp.body Tryz.func147 rfl Tryz.ntmps147 (by simp) ?_
 simp only [argE, List.cons_append, List.nil_append, Nat.zero_add, Nat.reduceAdd]
 repeat' (first|(refine gv ?_;first|refine RT.id ?_|(refine⟨fun hc=>?_,fun hc=>?_⟩<;>first|(exfalso;omega)|skip)|refine gk ?_|refine num_m fun r hr=>?_|intro r hr)|refine gs ?_|(refine gb ?_;intro b)|refine gn ?_|(refine RT.isPush ?_;refine gp ?_;intro a' c' b' c1' hac)|refine gc ?_|fail)
 refine RT.rng T rfl rfl rfl rfl (fun b => ?_)
 repeat' (first|(refine gv ?_;first|refine RT.id ?_|(refine⟨fun hc=>?_,fun hc=>?_⟩<;>first|(exfalso;omega)|skip)|refine gk ?_|refine num_m fun r hr=>?_|intro r hr)|refine gs ?_|(refine gb ?_;intro b)|refine gn ?_|(refine RT.isPush ?_;refine gp ?_;intro a' c' b' c1' hac)|refine gc ?_|fail)
 refine CT.loop (α := Nat) (fun p => [(0, .string (str l)), (8, .pointer (some ⟨b, 0, none⟩))]) (fun p => Pu (GooI l p) :: It b (str l) p :: R) (fun p => l.length - p) 0 ⟨rfl, rfl, trivial⟩
  (fun w h => Sat.pu_in (GooI.z l) h) (fun p => CT.pu fun hp => ?_)
 have hdp := dec_pos (str l) p
 repeat' (first|(refine gv ?_;first|refine RT.id ?_|(refine⟨fun hc=>?_,fun hc=>?_⟩<;>first|(exfalso;omega)|skip)|refine gk ?_|refine num_m fun r hr=>?_|intro r hr)|refine gs ?_|(refine gb ?_;intro b)|refine gn ?_|(refine RT.isPush ?_;refine gp ?_;intro a' c' b' c1' hac)|refine gc ?_|fail)
 refine RT.nxt rfl (by ((repeat constructor);done)) rfl rfl (fun hlt => ?_) (fun hlt => ?_)
 ·rw [str_size] at hlt
  repeat' (first|(refine gv ?_;first|refine RT.id ?_|(refine⟨fun hc=>?_,fun hc=>?_⟩<;>first|(exfalso;omega)|skip)|refine gk ?_|refine num_m fun r hr=>?_|intro r hr)|refine gs ?_|(refine gb ?_;intro b)|refine gn ?_|(refine RT.isPush ?_;refine gp ?_;intro a' c' b' c1' hac)|refine gc ?_|fail)
  ·refine RT.slsL T (j := p) rfl rfl rfl (by omega) rfl rfl rfl ?_
   refine RT.qcall T rfl (dec_q hT hlt) rfl rfl rfl ?_
   repeat' (first|(refine gv ?_;first|refine RT.id ?_|(refine⟨fun hc=>?_,fun hc=>?_⟩<;>first|(exfalso;omega)|skip)|refine gk ?_|refine num_m fun r hr=>?_|intro r hr)|refine gs ?_|(refine gb ?_;intro b)|refine gn ?_|(refine RT.isPush ?_;refine gp ?_;intro a' c' b' c1' hac)|refine gc ?_|fail)
   ·exact AtQ.f1 Tryz.results147 rfl (by rw [hp.bad hlt (by omega)]) (fun w h => h.tail)
   ·exact AtQ.loop (p + (Utf8.decode (str l) p).2) ⟨rfl, rfl, trivial⟩ (fun w h => Sat.pu_in (hp.go hlt (by omega)) h) (by omega)
  ·exact AtQ.loop (p + (Utf8.decode (str l) p).2) ⟨rfl, rfl, trivial⟩ (fun w h => Sat.pu_in (hp.go hlt (by omega)) h) (by omega)
 ·rw [str_size] at hlt
  repeat' (first|(refine gv ?_;first|refine RT.id ?_|(refine⟨fun hc=>?_,fun hc=>?_⟩<;>first|(exfalso;omega)|skip)|refine gk ?_|refine num_m fun r hr=>?_|intro r hr)|refine gs ?_|(refine gb ?_;intro b)|refine gn ?_|(refine RT.isPush ?_;refine gp ?_;intro a' c' b' c1' hac)|refine gc ?_|fail)
  exact AtQ.f1 Tryz.results147 rfl (by rw [hp.end_ hlt]) (fun w h => h.tail)
end Go.Proofs.YtdemnhdoadjhhaaGreatDoor
end
section
namespace Go.Proofs.YtdemnhdoadjhhaaGreatDoor
open Go.Sk
set_option maxRecDepth 100000
def isLet (x : Int) : Prop := (97 ≤ x ∧ x ≤ 122) ∨ (65 ≤ x ∧ x ≤ 90) ∨ x = 95
instance (x : Int) : Decidable (isLet x) := inferInstanceAs (Decidable (_ ∨ _))
def isDig (x : Int) : Prop := 48 ≤ x ∧ x ≤ 57
def okC (x : Int) : Prop := isLet x ∨ isDig x
def identP (l : List Int) : Prop := 0 < l.length ∧ l.length ≤ 255 ∧ ¬ isDig (l.getD 0 0) ∧ ∀ j, j < l.length → okC (l.getD j 0)
open Classical in
noncomputable def identB (l : List Int) : Bool := decide (identP l)
open Classical in
theorem identB_t {l : List Int} (h : identP l) : identB l = true := by unfold identB; exact decide_eq_true h
open Classical in
theorem identB_f {l : List Int} (h : ¬ identP l) : identB l = false := by unfold identB; exact decide_eq_false h
attribute [local irreducible] Cs Own Ex Pu Yld RT LJ QJ AtQ CT Rd QSp Sp FinQ Then LoopQ CutQ DT TakeQ EffQ
attribute [local irreducible] Bd
variable {B : World} {R : List HP}
set_option maxHeartbeats 1000000 in
theorem ident_fn {l : List Int} (hb : Byt l) (hl : l.length ≤ 140737488355327) : Sp B Tryz.prog 114 [.string (str l)] R [] (fun v H' => v = .bool (identB l) ∧ H' = []) := by
 refine Sp.body Tryz.func114 rfl Tryz.ntmps114 (by simp) ?_
 simp only [argE, List.cons_append, List.nil_append, Nat.zero_add, Nat.reduceAdd]
 repeat' (first|(refine gv ?_;first|refine RT.id ?_|(refine⟨fun hc=>?_,fun hc=>?_⟩<;>first|(exfalso;omega)|skip)|refine gk ?_|refine num_m fun r hr=>?_|intro r hr)|refine gs ?_|(refine gb ?_;intro b)|refine gn ?_|(refine RT.isPush ?_;refine gp ?_;intro a' c' b' c1' hac)|refine gc ?_|fail)
 refine RT.eqs (l := l) (l' := []) rfl rfl hb Byt.nil rfl rfl (fun h => ?_) (fun h => ?_)
 ·repeat' (first|(refine gv ?_;first|refine RT.id ?_|(refine⟨fun hc=>?_,fun hc=>?_⟩<;>first|(exfalso;omega)|skip)|refine gk ?_|refine num_m fun r hr=>?_|intro r hr)|refine gs ?_|(refine gb ?_;intro b)|refine gn ?_|(refine RT.isPush ?_;refine gp ?_;intro a' c' b' c1' hac)|refine gc ?_|fail)
  exact AtQ.f1 Tryz.results114 rfl (by rw [identB_f (by rintro ⟨h0, _⟩; rw [h] at h0; simp at h0)]) (fun w h => h)
 ·have hp : 0 < l.length := List.length_pos_iff.2 h
  repeat' (first|(refine gv ?_;first|refine RT.id ?_|(refine⟨fun hc=>?_,fun hc=>?_⟩<;>first|(exfalso;omega)|skip)|refine gk ?_|refine num_m fun r hr=>?_|intro r hr)|refine gs ?_|(refine gb ?_;intro b)|refine gn ?_|(refine RT.isPush ?_;refine gp ?_;intro a' c' b' c1' hac)|refine gc ?_|fail)
  ·exact AtQ.f1 Tryz.results114 rfl (by rw [identB_f (by rintro ⟨_, h0, _⟩; omega)]) (fun w h => h)
  ·(refine RT.ixs T (j := 0) rfl rfl (by omega) (by omega) (by assumption) rfl rfl rfl ?_)
   (refine RT.qcall T rfl (QSp.of (by (repeat (first|exact Fr.nil|(apply Fr.cons;focus ((repeat constructor);done))))) (digit_fn)) rfl rfl rfl ?_)
   by_cases hd0 : 48 ≤ l.getD 0 0 ∧ l.getD 0 0 ≤ 57
   ·rw [decide_eq_true hd0]
    repeat' (first|(refine gv ?_;first|refine RT.id ?_|(refine⟨fun hc=>?_,fun hc=>?_⟩<;>first|(exfalso;omega)|skip)|refine gk ?_|refine num_m fun r hr=>?_|intro r hr)|refine gs ?_|(refine gb ?_;intro b)|refine gn ?_|(refine RT.isPush ?_;refine gp ?_;intro a' c' b' c1' hac)|refine gc ?_|fail)
    exact AtQ.f1 Tryz.results114 rfl (by rw [identB_f (by rintro ⟨_, _, h0, _⟩; exact h0 hd0)]) (fun w h => h)
   ·rw [decide_eq_false hd0]
    repeat' (first|(refine gv ?_;first|refine RT.id ?_|(refine⟨fun hc=>?_,fun hc=>?_⟩<;>first|(exfalso;omega)|skip)|refine gk ?_|refine num_m fun r hr=>?_|intro r hr)|refine gs ?_|(refine gb ?_;intro b)|refine gn ?_|(refine RT.isPush ?_;refine gp ?_;intro a' c' b' c1' hac)|refine gc ?_|fail)
    refine CT.loop (α := Nat) (fun i => [(0, .string (str l)), (18, .int .i64 l.length), (19, .int .i64 i)]) (fun i => Pu (i ≤ l.length ∧ ∀ j, j < i → okC (l.getD j 0)) :: R) (fun i => l.length - i) 0 ⟨rfl, rfl, rfl, trivial⟩
     (fun w h => Sat.pu_in ⟨Nat.zero_le _, fun j hj => absurd hj (by omega)⟩ h) (fun i => CT.pu fun ⟨hi, ho⟩ => ?_)
    have next : okC (l.getD i 0) → ∀ j, j < i + 1 → okC (l.getD j 0) := fun h j hj => by
     by_cases hji : j = i
     ·rw [hji]; exact h
     ·exact ho j (by omega)
    repeat' (first|(refine gv ?_;first|refine RT.id ?_|(refine⟨fun hc=>?_,fun hc=>?_⟩<;>first|(exfalso;omega)|skip)|refine gk ?_|refine num_m fun r hr=>?_|intro r hr)|refine gs ?_|(refine gb ?_;intro b)|refine gn ?_|(refine RT.isPush ?_;refine gp ?_;intro a' c' b' c1' hac)|refine gc ?_|fail)
    ·(refine RT.ixs T (j := i) rfl rfl (by omega) (by omega) (by assumption) rfl rfl rfl ?_)
     obtain ⟨c0, c1⟩ := hb.get (i := i) (by omega)
     have bad : ¬ okC (l.getD i 0) → identB l = false := fun h => identB_f (by rintro ⟨_, _, _, h0⟩; exact h (h0 i (by omega)))
     generalize hcc : l.getD i 0 = c at *
     repeat' (first|(refine gv ?_;first|refine RT.id ?_|(refine⟨fun hc=>?_,fun hc=>?_⟩<;>first|(exfalso;omega)|skip)|refine gk ?_|refine num_m fun r hr=>?_|intro r hr)|refine gs ?_|(refine gb ?_;intro b)|refine gn ?_|(refine RT.isPush ?_;refine gp ?_;intro a' c' b' c1' hac)|refine gc ?_|fail)
     (refine RT.qcall T rfl (QSp.of (by (repeat (first|exact Fr.nil|(apply Fr.cons;focus ((repeat constructor);done))))) (small_fn)) rfl rfl rfl ?_)
     by_cases ha : 97 ≤ c ∧ c ≤ 122
     ·rw [decide_eq_true ha]
      repeat' (first|(refine gv ?_;first|refine RT.id ?_|(refine⟨fun hc=>?_,fun hc=>?_⟩<;>first|(exfalso;omega)|skip)|refine gk ?_|refine num_m fun r hr=>?_|intro r hr)|refine gs ?_|(refine gb ?_;intro b)|refine gn ?_|(refine RT.isPush ?_;refine gp ?_;intro a' c' b' c1' hac)|refine gc ?_|fail)
      exact AtQ.loop (i + 1) ⟨rfl, rfl, rfl, trivial⟩ (fun w h => Sat.pu_in ⟨by omega, next (.inl (.inl ha))⟩ h) (by omega)
     ·rw [decide_eq_false ha]
      repeat' (first|(refine gv ?_;first|refine RT.id ?_|(refine⟨fun hc=>?_,fun hc=>?_⟩<;>first|(exfalso;omega)|skip)|refine gk ?_|refine num_m fun r hr=>?_|intro r hr)|refine gs ?_|(refine gb ?_;intro b)|refine gn ?_|(refine RT.isPush ?_;refine gp ?_;intro a' c' b' c1' hac)|refine gc ?_|fail)
      (refine RT.qcall T rfl (QSp.of (by (repeat (first|exact Fr.nil|(apply Fr.cons;focus ((repeat constructor);done))))) (capital_fn)) rfl rfl rfl ?_)
      by_cases hA : 65 ≤ c ∧ c ≤ 90
      ·rw [decide_eq_true hA]
       repeat' (first|(refine gv ?_;first|refine RT.id ?_|(refine⟨fun hc=>?_,fun hc=>?_⟩<;>first|(exfalso;omega)|skip)|refine gk ?_|refine num_m fun r hr=>?_|intro r hr)|refine gs ?_|(refine gb ?_;intro b)|refine gn ?_|(refine RT.isPush ?_;refine gp ?_;intro a' c' b' c1' hac)|refine gc ?_|fail)
       exact AtQ.loop (i + 1) ⟨rfl, rfl, rfl, trivial⟩ (fun w h => Sat.pu_in ⟨by omega, next (.inl (.inr (.inl hA)))⟩ h) (by omega)
      ·rw [decide_eq_false hA]
       repeat' (first|(refine gv ?_;first|refine RT.id ?_|(refine⟨fun hc=>?_,fun hc=>?_⟩<;>first|(exfalso;omega)|skip)|refine gk ?_|refine num_m fun r hr=>?_|intro r hr)|refine gs ?_|(refine gb ?_;intro b)|refine gn ?_|(refine RT.isPush ?_;refine gp ?_;intro a' c' b' c1' hac)|refine gc ?_|fail)
       (refine RT.qcall T rfl (QSp.of (by (repeat (first|exact Fr.nil|(apply Fr.cons;focus ((repeat constructor);done))))) (digit_fn)) rfl rfl rfl ?_)
       by_cases hd : 48 ≤ c ∧ c ≤ 57
       ·rw [decide_eq_true hd]
        repeat' (first|(refine gv ?_;first|refine RT.id ?_|(refine⟨fun hc=>?_,fun hc=>?_⟩<;>first|(exfalso;omega)|skip)|refine gk ?_|refine num_m fun r hr=>?_|intro r hr)|refine gs ?_|(refine gb ?_;intro b)|refine gn ?_|(refine RT.isPush ?_;refine gp ?_;intro a' c' b' c1' hac)|refine gc ?_|fail)
        exact AtQ.loop (i + 1) ⟨rfl, rfl, rfl, trivial⟩ (fun w h => Sat.pu_in ⟨by omega, next (.inr hd)⟩ h) (by omega)
       ·rw [decide_eq_false hd]
        repeat' (first|(refine gv ?_;first|refine RT.id ?_|(refine⟨fun hc=>?_,fun hc=>?_⟩<;>first|(exfalso;omega)|skip)|refine gk ?_|refine num_m fun r hr=>?_|intro r hr)|refine gs ?_|(refine gb ?_;intro b)|refine gn ?_|(refine RT.isPush ?_;refine gp ?_;intro a' c' b' c1' hac)|refine gc ?_|fail)
        ·exact AtQ.loop (i + 1) ⟨rfl, rfl, rfl, trivial⟩ (fun w h => Sat.pu_in ⟨by omega, next (.inl (.inr (.inr (by assumption))))⟩ h) (by omega)
        ·exact AtQ.f1 Tryz.results114 rfl (by rw [bad (by rintro ((h | h | h) | h); exact ha h; exact hA h; exact absurd h (by assumption); exact hd h)]) (fun w h => h)
    ·have hie : i = l.length := by omega
     subst hie
     exact AtQ.f1 Tryz.results114 rfl (by rw [identB_t ⟨hp, by omega, hd0, ho⟩]) (fun w h => h)
end Go.Proofs.YtdemnhdoadjhhaaGreatDoor
end
section
namespace Go.Proofs.YtdemnhdoadjhhaaGreatDoor
open Go.Sk
set_option maxRecDepth 100000
def partsF : List Int → List Int → List (List Int)
 | [], cur => [cur]
 | c :: r, cur => if c = 46 then cur :: partsF r [] else partsF r (cur ++ [c])
def partsL (l : List Int) : List (List Int) := partsF l []
def firstI : List Int → Option Nat
 | [] => none
 | c :: r => if c = 46 then some 0 else (firstI r).map (· + 1)
theorem partsF_cons (c : Int) (r cur : List Int) : partsF (c :: r) cur = if c = 46 then cur :: partsF r [] else partsF r (cur ++ [c]) := rfl
theorem firstI_cons (c : Int) (r : List Int) : firstI (c :: r) = if c = 46 then some 0 else (firstI r).map (· + 1) := rfl
theorem firstI_lt : ∀ (l : List Int) (i : Nat), firstI l = some i → i < l.length
 | [], i, h => by cases h
 | c :: r, i, h => by
  unfold firstI at h
  split at h
  ·cases h; simp
  ·obtain ⟨j, hj, rfl⟩ := Option.map_eq_some_iff.1 h
   have := firstI_lt r j hj
   simp; omega
theorem parts_first : ∀ (l cur : List Int), partsF l cur = match firstI l with | none => [cur ++ l] | some i => (cur ++ l.take i) :: partsF (l.drop (i + 1)) []
 | [], cur => by simp [partsF, firstI]
 | c :: r, cur => by
  rw [partsF_cons, firstI_cons]
  split
  ·simp
  ·rw [parts_first r (cur ++ [c])]
   cases firstI r with
   | none => simp
   | some i => simp
theorem index_first : ∀ (l : List Int), Byt l → Lib.indexByte (l.map b8) 46 = match firstI l with | none => -1 | some i => (i : Int)
 | [], _ => rfl
 | c :: r, h => by
  have hc := h c (by simp)
  have hr : Byt r := fun x hx => h x (by simp [hx])
  have ih := index_first r hr
  have he : (b8 c == 46) = decide (c = 46) := by
   by_cases h46 : c = 46
   ·subst h46; rfl
   ·rw [decide_eq_false h46]
    simp only [beq_eq_false_iff_ne, ne_eq]
    intro e
    have := b8_nat hc
    rw [e] at this
    apply h46
    rw [← this]
    rfl
  simp only [List.map_cons, Lib.indexByte, he, ih, firstI]
  by_cases h46 : c = 46
  ·simp [h46]
  ·simp only [h46, decide_false, if_false]
   cases firstI r with
   | none => simp
   | some i =>
    have hne : ((i : Int) == -1) = false := beq_eq_false_iff_ne.2 (by omega)
    simp [hne]
abbrev dot : ByteArray := ⟨#[46]⟩
theorem indexB_first {l : List Int} (h : Byt l) : Lib.indexB (str l) dot = match firstI l with | none => -1 | some i => (i : Int) := by
 have e : Lib.indexB (str l) dot = Lib.index (str l).data.toList [46] := rfl
 rw [e, Lib.index_one, str_list]
 exact index_first l h
theorem split_parts : ∀ (n : Nat) (l : List Int), l.length ≤ n → Byt l → Lib.splitB dot 0 (Lib.countB (str l) dot) (str l) = (partsL l).map str ∧ Lib.countB (str l) dot + 1 = (partsL l).length
 | n, l, hn, hb => by
  have hi := indexB_first hb
  unfold partsL
  rw [parts_first l []]
  cases hf : firstI l with
  | none =>
   rw [hf] at hi
   rw [Lib.countB_miss _ _ hi, Lib.splitB_zero]
   exact ⟨rfl, rfl⟩
  | some i =>
   rw [hf] at hi
   have hlt := firstI_lt l i hf
   have hrest : (str l).extract (i + dot.size) (str l).size = str (l.drop (i + 1)) := by
    rw [str_sub, str_size]
    rw [List.take_of_length_le (by rw [List.length_drop]; exact Nat.le_refl _)]
    rfl
   rw [Lib.countB_hit _ _ i (by decide) hi, hrest, Nat.add_comm 1, Lib.splitB_hit _ _ _ _ i hi, hrest]
   match n, hn with
   | 0, hn => omega
   | n + 1, hn =>
    obtain ⟨e1, e2⟩ := split_parts n (l.drop (i + 1)) (by rw [List.length_drop]; omega) (hb.drop _)
    rw [e1]
    have e3 : (str l).extract 0 (i + 0) = str (l.take i) := by rw [str_sub]; simp
    rw [e3]
    unfold partsL at *
    simp only [List.map_cons, List.nil_append, List.length_cons]
    exact ⟨trivial, by omega⟩
theorem partsF_byt : ∀ (l cur : List Int), Byt l → Byt cur → ∀ p ∈ partsF l cur, Byt p
 | [], cur, _, hc, p, hp => by simp [partsF] at hp; rw [hp]; exact hc
 | c :: r, cur, hl, hc, p, hp => by
  have h1 := hl c (by simp)
  have hr : Byt r := fun x hx => hl x (by simp [hx])
  unfold partsF at hp
  split at hp
  ·rcases List.mem_cons.1 hp with rfl | hp
   ·exact hc
   ·exact partsF_byt r [] hr Byt.nil p hp
  ·exact partsF_byt r (cur ++ [c]) hr (hc.app (Byt.one h1)) p hp
theorem partsF_len : ∀ (l cur : List Int), (partsF l cur).length ≤ l.length + 1 ∧ ∀ p ∈ partsF l cur, p.length ≤ cur.length + l.length
 | [], cur => by simp [partsF]
 | c :: r, cur => by
  unfold partsF
  split
  ·obtain ⟨h1, h2⟩ := partsF_len r []
   refine ⟨by simp; omega, fun p hp => ?_⟩
   rcases List.mem_cons.1 hp with rfl | hp
   ·simp
   ·have := h2 p hp; simp at this ⊢; omega
  ·obtain ⟨h1, h2⟩ := partsF_len r (cur ++ [c])
   refine ⟨by simp; omega, fun p hp => ?_⟩
   have := h2 p hp
   simp at this ⊢
   omega
end Go.Proofs.YtdemnhdoadjhhaaGreatDoor
end
section
namespace Go.Proofs
open Go.Shelf
def Tryz.lays146_ren : Go.Shelf.Ren := ⟨fun | 146 => 113 | 221 => 137 | 268 => 160 | 138 => 161 | 143 => 162 | 195 => 170 | 197 => 164 | 218 => 171 | 219 => 172 | 260 => 174 | 217 => 177 | 225 => 178 | 224 => 179 | 267 => 180 | 266 => 182 | 314 => 183 | n => n, fun | 9 => 9 | 31 => 69 | 3 => 3 | 4 => 4 | 0 => 0 | 105 => 256 | 21 => 21 | 5 => 5 | 46 => 252 | 119 => 267 | 139 => 270 | 138 => 269 | 146 => 272 | 51 => 271 | n => n, fun | 1 => 0 | 3 => 1 | 4 => 2 | n => n⟩
theorem Tryz.lays146 : Go.Proofs.Lays.n146 Tryz.prog Tryz.lays146_ren := {
 mixed := by kernel_rfl
 f138 := Tryz.func161.trans (congrArg some (by kernel_rfl))
 f143 := Tryz.func162.trans (congrArg some (by kernel_rfl))
 f146 := Tryz.func113.trans (congrArg some (by kernel_rfl))
 f195 := Tryz.func170.trans (congrArg some (by kernel_rfl))
 f197 := Tryz.func164.trans (congrArg some (by kernel_rfl))
 f217 := Tryz.func177.trans (congrArg some (by kernel_rfl))
 f218 := Tryz.func171.trans (congrArg some (by kernel_rfl))
 f219 := Tryz.func172.trans (congrArg some (by kernel_rfl))
 f221 := Tryz.func137.trans (congrArg some (by kernel_rfl))
 f224 := Tryz.func179.trans (congrArg some (by kernel_rfl))
 f225 := Tryz.func178.trans (congrArg some (by kernel_rfl))
 f260 := Tryz.func174.trans (congrArg some (by kernel_rfl))
 f266 := Tryz.func182.trans (congrArg some (by kernel_rfl))
 f267 := Tryz.func180.trans (congrArg some (by kernel_rfl))
 f268 := Tryz.func160.trans (congrArg some (by kernel_rfl))
 f314 := Tryz.func183.trans (congrArg some (by kernel_rfl))
 t0 := Tryz.underlying0
 a0 := Tryz.isAgg0
 z0 := Tryz.sizeOf0
 v0 := Tryz.zeroValue0
 t3 := Tryz.underlying3
 a3 := Tryz.isAgg3
 z3 := Tryz.sizeOf3
 v3 := Tryz.zeroValue3
 t4 := Tryz.underlying4
 a4 := Tryz.isAgg4
 z4 := Tryz.sizeOf4
 v4 := Tryz.zeroValue4
 t5 := Tryz.underlying5
 a5 := Tryz.isAgg5
 z5 := Tryz.sizeOf5
 v5 := Tryz.zeroValue5
 t9 := Tryz.underlying9
 a9 := Tryz.isAgg9
 z9 := Tryz.sizeOf9
 v9 := Tryz.zeroValue9
 t21 := Tryz.underlying21
 a21 := Tryz.isAgg21
 z21 := Tryz.sizeOf21
 v21 := Tryz.zeroValue21
 t31 := Tryz.underlying69
 a31 := Tryz.isAgg69
 z31 := Tryz.sizeOf69
 v31 := Tryz.zeroValue69
 t46 := Tryz.underlying252
 a46 := Tryz.isAgg252
 z46 := Tryz.sizeOf252
 v46 := Tryz.zeroValue252
 t51 := Tryz.underlying271
 a51 := Tryz.isAgg271
 z51 := Tryz.sizeOf271
 v51 := Tryz.zeroValue271
 t105 := Tryz.underlying256
 a105 := Tryz.isAgg256
 z105 := Tryz.sizeOf256
 v105 := Tryz.zeroValue256
 t119 := Tryz.underlying267
 a119 := Tryz.isAgg267
 z119 := Tryz.sizeOf267
 t138 := Tryz.underlying269
 a138 := Tryz.isAgg269
 z138 := Tryz.sizeOf269
 v138 := Tryz.zeroValue269
 t139 := Tryz.underlying270
 a139 := Tryz.isAgg270
 z139 := Tryz.sizeOf270
 v139 := Tryz.zeroValue270
 t146 := Tryz.underlying272
 a146 := Tryz.isAgg272
 z146 := Tryz.sizeOf272
 v146 := Tryz.zeroValue272
 g1 := by kernel_rfl
 g3 := by kernel_rfl
 g4 := by kernel_rfl }
open Go.RowKit Go.Lib in
theorem Tryz.strings_Split (s sep : ByteArray) (m : Int) (w : World) (hs : s.size < 4294967281) (hm : w.cell? ⟨0, 0, none⟩ = some (.int .i64 m)) (h1 : 1 ≤ sep.size) :
  Calls Tryz.prog 113 #[.string s, .string sep] w fun e w' =>
   e = .returned (.slice (some ⟨w.heap.size, 0, none⟩) (Lib.countB s sep + 1) (Lib.countB s sep + 1)) ∧ w' = w.alloc (.cells ((Lib.splitB sep 0 (Lib.countB s sep) s).map Value.string).toArray 9) := Any.strings_Split Tryz.lays146 (by kernel_rfl) s sep m w hs hm h1
end Go.Proofs
end
section
namespace Go.Proofs.YtdemnhdoadjhhaaGreatDoor
open Go.Sk
set_option maxRecDepth 100000
def fullP (l : List Int) : Prop := l.length ≤ 255 ∧ ∀ j, j < (partsL l).length → identP ((partsL l).getD j [])
open Classical in
noncomputable def fullB (l : List Int) : Bool := decide (fullP l)
open Classical in
theorem fullB_t {l : List Int} (h : fullP l) : fullB l = true := by unfold fullB; exact decide_eq_true h
open Classical in
theorem fullB_f {l : List Int} (h : ¬ fullP l) : fullB l = false := by unfold fullB; exact decide_eq_false h
theorem identB_cases (l : List Int) : (identB l = true ∧ identP l) ∨ (identB l = false ∧ ¬ identP l) := by
 by_cases h : identP l
 ·exact .inl ⟨identB_t h, h⟩
 ·exact .inr ⟨identB_f h, h⟩
attribute [local irreducible] Cs Own Ex Pu Yld RT LJ QJ AtQ CT Rd QSp Sp FinQ Then LoopQ CutQ DT TakeQ EffQ
attribute [local irreducible] Bd
variable {B : World} {R : List HP}
theorem ssplit_fn {l : List Int} {m : Int} (hM : B.cell? ⟨0, 0, none⟩ = some (.int .i64 m)) (hb : Byt l) (hl : l.length ≤ 4000000000) : Sp B Tryz.prog 113 [.string (str l), .string dot] R [] (fun v H' => ∃ a, v = .slice a (partsL l).length (partsL l).length ∧ H' = [Own a (partsL l).length 9 1 (partsL l).length (strs (partsL l))]) := by
 unfold Sp
 intro w hS
 obtain ⟨e1, e2⟩ := split_parts l.length l (Nat.le_refl _) hb
 refine (Tryz.strings_Split (str l) dot m w (by rw [str_size]; omega) (hS.bcell hM) (by decide)).mono fun e w' ⟨he, hw⟩ => ?_
 subst hw
 rw [e2] at he
 refine ⟨_, _, he, ⟨_, rfl, rfl⟩, ?_⟩
 rw [e1]
 have e3 : ((partsL l).map str).map Value.string = strs (partsL l) := by simp [strs, List.map_map]
 rw [e3]
 refine hS.new rfl rfl rfl rfl fun h _ hbk => ?_
 have hpl : (partsL l).length ≤ l.length + 1 := (partsF_len l []).1
 unfold Own
 exact ⟨by rw [strs_len, Nat.mul_one], Nat.le_refl _, by unfold maxLen; omega, .inr ⟨_, _, rfl, hbk, by simp [strs_len], by rw [Nat.mul_one]; exact List.take_of_length_le (by rw [strs_len]; exact Nat.le_refl _)⟩⟩
set_option maxHeartbeats 1000000 in
theorem full_fn {l : List Int} {m : Int} (hM : B.cell? ⟨0, 0, none⟩ = some (.int .i64 m)) (hb : Byt l) (hl : l.length ≤ 1000000000000) : Sp B Tryz.prog 91 [.string (str l)] R [] (fun v H' => v = .bool (fullB l) ∧ H' = []) := by
 refine Sp.body Tryz.func91 rfl Tryz.ntmps91 (by simp) ?_
 simp only [argE, List.cons_append, List.nil_append, Nat.zero_add, Nat.reduceAdd]
 repeat' (first|(refine gv ?_;first|refine RT.id ?_|(refine⟨fun hc=>?_,fun hc=>?_⟩<;>first|(exfalso;omega)|skip)|refine gk ?_|refine num_m fun r hr=>?_|intro r hr)|refine gs ?_|(refine gb ?_;intro b)|refine gn ?_|(refine RT.isPush ?_;refine gp ?_;intro a' c' b' c1' hac)|refine gc ?_|fail)
 ·exact AtQ.f1 Tryz.results91 rfl (by rw [fullB_f (by rintro ⟨h, _⟩; omega)]) (fun w h => h)
 ·refine RT.call T rfl (by (repeat (first|exact Fr.nil|(apply Fr.cons;focus ((repeat constructor);done))))) (ssplit_fn hM hb (by omega)) rfl rfl rfl ?_
  rintro _ _ ⟨a, rfl, rfl⟩
  simp only [List.cons_append, List.nil_append]
  have hpb := partsF_byt l [] hb Byt.nil
  have hpl2 := (partsF_len l []).2
  have hget : ∀ j, j < (partsL l).length → Byt ((partsL l).getD j []) ∧ ((partsL l).getD j []).length ≤ l.length := fun j hj => by
   rw [List.getD_eq_getElem?_getD, List.getElem?_eq_getElem hj]
   have := hpl2 _ (List.getElem_mem hj)
   exact ⟨hpb _ (List.getElem_mem hj), by simpa using this⟩
  have hpl' : (partsL l).length ≤ l.length + 1 := (partsF_len l []).1
  repeat' (first|(refine gv ?_;first|refine RT.id ?_|(refine⟨fun hc=>?_,fun hc=>?_⟩<;>first|(exfalso;omega)|skip)|refine gk ?_|refine num_m fun r hr=>?_|intro r hr)|refine gs ?_|(refine gb ?_;intro b)|refine gn ?_|(refine RT.isPush ?_;refine gp ?_;intro a' c' b' c1' hac)|refine gc ?_|fail)
  refine CT.loop (α := Nat) (fun i => [(9, .slice a (partsL l).length (partsL l).length), (10, .int .i64 (partsL l).length), (11, .int .i64 i)]) (fun i => Pu (i ≤ (partsL l).length ∧ ∀ j, j < i → identP ((partsL l).getD j [])) :: Own a (partsL l).length 9 1 (partsL l).length (strs (partsL l)) :: R) (fun i => (partsL l).length - i) 0 ⟨rfl, rfl, rfl, trivial⟩
   (fun w h => Sat.pu_in ⟨Nat.zero_le _, fun j hj => absurd hj (by omega)⟩ h) (fun i => CT.pu fun ⟨hi, ho⟩ => ?_)
  repeat' (first|(refine gv ?_;first|refine RT.id ?_|(refine⟨fun hc=>?_,fun hc=>?_⟩<;>first|(exfalso;omega)|skip)|refine gk ?_|refine num_m fun r hr=>?_|intro r hr)|refine gs ?_|(refine gb ?_;intro b)|refine gn ?_|(refine RT.isPush ?_;refine gp ?_;intro a' c' b' c1' hac)|refine gc ?_|fail)
  ·obtain ⟨g1, g2⟩ := hget i (by omega)
   refine RT.ix T (j := i) rfl rfl rfl (Own.rd (by ((repeat constructor);done)) (by rw [strs_len, Nat.mul_one]) (Nat.le_refl _)) (by omega) (by omega) (by omega) rfl rfl ?_
   refine RT.ldr T rfl (Own.rd (by ((repeat constructor);done)) (by rw [strs_len, Nat.mul_one]) (Nat.le_refl _)) (strs_get (i := i) (by omega)) rfl rfl rfl ?_
   repeat' (first|(refine gv ?_;first|refine RT.id ?_|(refine⟨fun hc=>?_,fun hc=>?_⟩<;>first|(exfalso;omega)|skip)|refine gk ?_|refine num_m fun r hr=>?_|intro r hr)|refine gs ?_|(refine gb ?_;intro b)|refine gn ?_|(refine RT.isPush ?_;refine gp ?_;intro a' c' b' c1' hac)|refine gc ?_|fail)
   (refine RT.call T rfl fR_ (ident_fn g1 (by omega)) rfl rfl rfl ?_; rintro _ _ ⟨rfl, rfl⟩; try simp only [List.cons_append, List.nil_append])
   rcases identB_cases ((partsL l).getD i []) with ⟨e, hp⟩ | ⟨e, hp⟩
   ·rw [e]
    repeat' (first|(refine gv ?_;first|refine RT.id ?_|(refine⟨fun hc=>?_,fun hc=>?_⟩<;>first|(exfalso;omega)|skip)|refine gk ?_|refine num_m fun r hr=>?_|intro r hr)|refine gs ?_|(refine gb ?_;intro b)|refine gn ?_|(refine RT.isPush ?_;refine gp ?_;intro a' c' b' c1' hac)|refine gc ?_|fail)
    exact AtQ.loop (i + 1) ⟨rfl, rfl, rfl, trivial⟩ (fun w h => Sat.pu_in ⟨by omega, fun j hj => by
     by_cases hji : j = i
     ·rw [hji]; exact hp
     ·exact ho j (by omega)⟩ h) (by omega)
   ·rw [e]
    repeat' (first|(refine gv ?_;first|refine RT.id ?_|(refine⟨fun hc=>?_,fun hc=>?_⟩<;>first|(exfalso;omega)|skip)|refine gk ?_|refine num_m fun r hr=>?_|intro r hr)|refine gs ?_|(refine gb ?_;intro b)|refine gn ?_|(refine RT.isPush ?_;refine gp ?_;intro a' c' b' c1' hac)|refine gc ?_|fail)
    exact AtQ.f1 Tryz.results91 rfl (by rw [fullB_f (fun h => hp (h.2 i (by omega)))]) (fun w h => h.tail)
  ·have hie : i = (partsL l).length := by omega
   subst hie
   exact AtQ.f1 Tryz.results91 rfl (by rw [fullB_t ⟨by omega, ho⟩]) (fun w h => h.tail)
end Go.Proofs.YtdemnhdoadjhhaaGreatDoor
end
section
namespace Go.Proofs.YtdemnhdoadjhhaaGreatDoor
open Go.Sk
abbrev Flt := Int × Txt
/-- What is wrong, or the names that are given. -/
abbrev Rs := Except Flt (List Txt)
def bnd : Rs → (List Txt → Rs) → Rs
 | .ok g, k => k g
 | .error x, _ => .error x
theorem bnd_ok {g : List Txt} {k : List Txt → Rs} : bnd (.ok g) k = k g := rfl
def must (p : Bool) (e : Int) (t : Txt) (k : Rs) : Rs := if p = true then k else .error (e, t)
theorem must_t {p : Bool} {e : Int} {t : Txt} {k : Rs} (h : p = true) : must p e t k = k := if_pos h
theorem must_f {p : Bool} {e : Int} {t : Txt} {k : Rs} (h : p = false) : must p e t k = .error (e, t) := by unfold must; rw [h]; rfl
def opt : Option Flt → Rs → Rs
 | none, k => k
 | some x, _ => .error x
theorem opt_none {k : Rs} : opt none k = k := rfl
def pathC (c : Int) : Bool := decide (33 ≤ c ∧ c ≤ 126 ∧ c ≠ 34 ∧ c ≠ 92)
def pathB (s : Txt) : Bool := decide (s ≠ [] ∧ s.length ≤ 255) && s.all pathC
noncomputable def refB (s : Txt) : Bool := if s.getD 0 0 = 46 then fullB (s.drop 1) && decide ((s.drop 1).length < 255) else fullB s
noncomputable def giveR (nm full : Txt) (g : List Txt) : Rs := must (identB nm && decide (full.length ≤ 255)) 60 full (must (decide (full ∉ g)) 61 full (.ok (g ++ [full])))
def spansF (least most : Int) (t : Txt) : List SpanT → List SpanT → Option Flt
 | _, [] => none
 | ahead, s :: l => if least ≤ s.f ∧ s.f ≤ s.t ∧ s.t ≤ most ∧ ∀ o ∈ ahead, s.t < o.f ∨ o.t < s.f then spansF least most t (ahead ++ [s]) l else some (63, t)
noncomputable def namesF (scope : Txt) : List Txt → List Txt → Option Flt
 | _, [] => none
 | ahead, n :: l => if identB n = true then (if n ∈ ahead then some (61, joinL [scope, n]) else namesF scope (ahead ++ [n]) l) else some (60, joinL [scope, n])
def kindB (k : Int) : Bool := decide (1 ≤ k ∧ k ≤ 18 ∧ k ≠ 10)
def namedB (k : Int) : Bool := decide (k = 0 ∨ k = 11 ∨ k = 14)
def packsB (k : Int) : Bool := decide (k ≠ 9 ∧ k ≠ 12 ∧ k ≠ 11)
def keyB (k : Int) : Bool := kindB k && decide (k ≠ 1 ∧ k ≠ 2 ∧ k ≠ 12 ∧ k ≠ 11 ∧ k ≠ 14)
def jsonL (f : FieldT) : Txt := if f.js = [] then camelL f.nm else f.js
def anyS (l : List SpanT) (n : Int) : Bool := l.any fun s => inS s n
/-- A field's tests from its names in JSON on, from those ahead of that on, .. -/
noncomputable def fieldR17 (ahead : List FieldT) (f : FieldT) (t : Txt) (g : List Txt) : Rs := must (decide (∀ o ∈ ahead, jsonL o ≠ jsonL f ∧ jsonL o ≠ f.nm ∧ o.nm ≠ jsonL f)) 61 t (.ok g)
noncomputable def fieldR16 (ahead : List FieldT) (f : FieldT) (t : Txt) (g : List Txt) : Rs := must (decide (goodL f.js < 0) && decide (f.js.length ≤ 255) && decide ((64 : Int) ∉ f.js)) 60 t (fieldR17 ahead f t g)
noncomputable def fieldR15 (ahead : List FieldT) (f : FieldT) (t : Txt) (g : List Txt) : Rs := must (decide (f.packed ≤ 2) && (decide (f.packed = 0) || decide (f.card = 3) && packsB f.kind)) 67 t (fieldR16 ahead f t g)
noncomputable def fieldR14 (no : Nat) (ahead : List FieldT) (f : FieldT) (t : Txt) (g : List Txt) : Rs := must (decide (0 ≤ f.oneof ∧ f.oneof ≤ no) && decide (f.oneof = 0 ∨ f.card = 1)) 64 t (fieldR15 ahead f t g)
noncomputable def fieldR11 (no : Nat) (ahead : List FieldT) (f : FieldT) (t : Txt) (g : List Txt) : Rs := must (if f.card = 4 then keyB f.key else decide (f.key = 0)) 65 t (fieldR14 no ahead f t g)
noncomputable def fieldR8 (no : Nat) (ahead : List FieldT) (f : FieldT) (t : Txt) (g : List Txt) : Rs := must (if namedB f.kind = true then refB f.ty else decide (f.ty = [])) 69 t (fieldR11 no ahead f t g)
noncomputable def fieldR7 (no : Nat) (ahead : List FieldT) (f : FieldT) (t : Txt) (g : List Txt) : Rs := must (decide (1 ≤ f.card ∧ f.card ≤ 4) && (decide (f.kind = 0) || kindB f.kind)) 69 t (fieldR8 no ahead f t g)
noncomputable def fieldR (names : List Txt) (res : List SpanT) (no : Nat) (full : Txt) (ahead : List FieldT) (f : FieldT) (g : List Txt) : Rs :=
 bnd (giveR f.nm (joinL [full, f.nm]) g) fun g =>
 must (decide (f.nm ∉ names)) 63 (joinL [full, f.nm]) <|
 must (mayB f.num && decide (∀ o ∈ ahead, o.num ≠ f.num)) 62 (joinL [full, f.nm]) <|
 must (!anyS res f.num) 63 (joinL [full, f.nm]) (fieldR7 no ahead f (joinL [full, f.nm]) g)
noncomputable def fieldsR (names : List Txt) (res : List SpanT) (no : Nat) (full : Txt) : List FieldT → List FieldT → List Txt → Rs
 | _, [], g => .ok g
 | ahead, f :: l, g => bnd (fieldR names res no full ahead f g) (fieldsR names res no full (ahead ++ [f]) l)
noncomputable def oneofsR (fields : List FieldT) (full : Txt) : Nat → List Txt → List Txt → Rs
 | _, [], g => .ok g
 | i, o :: l, g => bnd (giveR o (joinL [full, o]) g) fun g => must (decide (∃ f ∈ fields, f.oneof = (i : Int) + 1)) 64 (joinL [full, o]) (oneofsR fields full (i + 1) l g)
noncomputable def valsR (names : List Txt) (res : List SpanT) (ali : Bool) (scope : Txt) : List EValT → List EValT → List Txt → Rs
 | _, [], g => .ok g
 | ahead, v :: l, g => bnd (giveR v.nm (joinL [scope, v.nm]) g) fun g =>
  must (decide (v.nm ∉ names) && !anyS res v.num) 63 (joinL [scope, v.nm]) <|
  must (ali || decide (∀ o ∈ ahead, o.num ≠ v.num)) 66 (joinL [scope, v.nm]) (valsR names res ali scope (ahead ++ [v]) l g)
noncomputable def enumR (e : EnumT) (scope : Txt) (g : List Txt) : Rs :=
 bnd (giveR e.nm (joinL [scope, e.nm]) g) fun g =>
 must (decide (e.vals.l.length ≤ 1000)) 68 (joinL [scope, e.nm]) <|
 must (decide (∃ v, e.vals.l[0]? = some v ∧ v.num = 0)) 66 (joinL [scope, e.nm]) <|
 opt (spansF (-2147483648) 2147483647 (joinL [scope, e.nm]) [] e.res.l) <|
 opt (namesF scope [] e.names.l) <|
 valsR e.names.l e.res.l e.ali scope [] e.vals.l g
noncomputable def enumsR (scope : Txt) : List EnumT → List Txt → Rs
 | [], g => .ok g
 | e :: l, g => bnd (enumR e scope g) (enumsR scope l)
mutual
noncomputable def msgR : MsgT → Txt → Nat → List Txt → Rs
 | .mk nm fields oneofs _ _ msgs enums res names, scope, deep, g =>
  bnd (giveR nm (joinL [scope, nm]) g) fun g =>
  must (decide (deep < 16) && decide (fields.l.length ≤ 1000)) 68 (joinL [scope, nm]) <|
  opt (spansF 1 536870911 (joinL [scope, nm]) [] res.l) <|
  opt (namesF (joinL [scope, nm]) [] names.l) <|
  bnd (fieldsR names.l res.l oneofs.l.length (joinL [scope, nm]) [] fields.l g) fun g =>
  bnd (oneofsR fields.l (joinL [scope, nm]) 0 oneofs.l g) fun g =>
  bnd (msgsR msgs (joinL [scope, nm]) (deep + 1) g) fun g =>
  enumsR (joinL [scope, nm]) enums.l g
noncomputable def msgsR : List MsgT → Txt → Nat → List Txt → Rs
 | [], _, _, g => .ok g
 | m :: l, scope, deep, g => bnd (msgR m scope deep g) fun g => msgsR l scope deep g
end
def impsF : List Txt → List ImpT → Option Flt
 | _, [] => none
 | ahead, i :: l => if pathB i.path = true then (if i.path ∈ ahead then some (61, i.path) else impsF (ahead ++ [i.path]) l) else some (60, i.path)
noncomputable def fileR (f : FileT) : Rs :=
 must (pathB f.path) 60 f.path <|
 must (decide (f.pack = []) || fullB f.pack) 60 f.pack <|
 must (decide (f.imps.l.length ≤ 256)) 68 f.path <|
 opt (impsF [] f.imps.l) <|
 bnd (msgsR f.msgs f.pack 0 []) fun g =>
 enumsR f.pack f.enums.l g
/-- Check's answer: an error's number and its place. -/
noncomputable def checkL (f : FileT) : Flt := match fileR f with
 | .ok _ => (0, [])
 | .error x => x
end Go.Proofs.YtdemnhdoadjhhaaGreatDoor
end
section
namespace Go.Proofs.YtdemnhdoadjhhaaGreatDoor
open Go.Sk
set_option maxRecDepth 100000
attribute [local irreducible] Cs Own Ex Pu Yld RT LJ QJ AtQ CT Rd QSp Sp FinQ Then LoopQ CutQ DT TakeQ EffQ
variable {B : World} {R : List HP}
theorem may_fn {n : Int} : Sp B Tryz.prog 82 [.int .i32 n] R [] (fun v H' => v = .bool (mayB n) ∧ H' = []) := by
 refine Sp.body Tryz.func82 rfl Tryz.ntmps82 (by simp) ?_
 simp only [argE, List.cons_append, List.nil_append, Nat.zero_add, Nat.reduceAdd]
 repeat' (first|(refine gv ?_;first|refine RT.id ?_|(refine⟨fun hc=>?_,fun hc=>?_⟩<;>first|(exfalso;omega)|skip)|refine gk ?_|refine num_m fun r hr=>?_|intro r hr)|refine gs ?_|(refine gb ?_;intro b)|refine gn ?_|(refine RT.isPush ?_;refine gp ?_;intro a' c' b' c1' hac)|refine gc ?_|fail)
 all_goals (refine AtQ.f1 Tryz.results82 rfl ?_ (fun _ h => h); congr 1; unfold mayB; symm)
 all_goals first | (refine decide_eq_true ?_; omega) | (refine decide_eq_false ?_; omega)
end Go.Proofs.YtdemnhdoadjhhaaGreatDoor
end
section
namespace Go.Proofs.YtdemnhdoadjhhaaGreatDoor
open Go.Sk
set_option maxRecDepth 100000
attribute [local irreducible] Cs Own Ex Pu Yld RT LJ QJ AtQ CT Rd QSp Sp FinQ Then LoopQ CutQ DT TakeQ EffQ
variable {B : World} {R : List HP}
/-- What the going is given up by. -/
abbrev wv (e : Int) (t : Txt) : Value := .iface 100 (.agg #[.int .i64 e, vS t])
theorem must_fn {p : Bool} {e : Int} {t : Txt} : SpP B Tryz.prog 89 [.bool p, .int .i64 e, vS t] R [] (fun v H' => p = true ∧ H' = []) (fun v H' => p = false ∧ v = wv e t ∧ H' = []) := by
 refine SpP.body Tryz.func89 rfl Tryz.ntmps89 (by simp) ?_
 simp only [argE, List.cons_append, List.nil_append, Nat.zero_add, Nat.reduceAdd]
 cases p
 ·repeat' (first|(refine gv ?_;first|refine RT.id ?_|(refine⟨fun hc=>?_,fun hc=>?_⟩<;>first|(exfalso;omega)|skip)|refine gk ?_|refine num_m fun r hr=>?_|intro r hr)|refine gs ?_|(refine gb ?_;intro b)|refine gn ?_|(refine RT.isPush ?_;refine gp ?_;intro a' c' b' c1' hac)|refine gc ?_|fail)
  refine RT.buildW T rfl rfl rfl rfl rfl ?_
  refine RT.mkI rfl Tryz.underlying100 (by intro b h; cases h) rfl rfl ?_
  refine RT.panic rfl rfl ?_
  exact AtQ.finP (H' := []) ⟨rfl, rfl, rfl⟩ (fun w h => h)
 ·repeat' (first|(refine gv ?_;first|refine RT.id ?_|(refine⟨fun hc=>?_,fun hc=>?_⟩<;>first|(exfalso;omega)|skip)|refine gk ?_|refine num_m fun r hr=>?_|intro r hr)|refine gs ?_|(refine gb ?_;intro b)|refine gn ?_|(refine RT.isPush ?_;refine gp ?_;intro a' c' b' c1' hac)|refine gc ?_|fail)
  exact AtQ.ofFinN (AtQ.fin0 Tryz.results89 (H' := []) ⟨rfl, rfl⟩ (fun w h => h) _ (.inl rfl))
theorem bd {p : Prop} [Decidable p] (h : p) : decide p = true := decide_eq_true h
theorem kind_fn {k : Int} : Sp B Tryz.prog 142 [.int .u8 k] R [] (fun v H' => v = .bool (kindB k) ∧ H' = []) := by
 refine Sp.body Tryz.func142 rfl Tryz.ntmps142 (by simp) ?_
 simp only [argE, List.cons_append, List.nil_append, Nat.zero_add, Nat.reduceAdd]
 repeat' (first|(refine gv ?_;first|refine RT.id ?_|(refine⟨fun hc=>?_,fun hc=>?_⟩<;>first|(exfalso;omega)|skip)|refine gk ?_|refine num_m fun r hr=>?_|intro r hr)|refine gs ?_|(refine gb ?_;intro b)|refine gn ?_|(refine RT.isPush ?_;refine gp ?_;intro a' c' b' c1' hac)|refine gc ?_|fail)
 all_goals (refine AtQ.f1 Tryz.results142 rfl ?_ (fun _ h => h); congr 1; unfold kindB; symm; first | (refine decide_eq_true ?_; omega) | (refine decide_eq_false ?_; omega))
theorem named_fn {k : Int} : Sp B Tryz.prog 143 [.int .u8 k] R [] (fun v H' => v = .bool (namedB k) ∧ H' = []) := by
 refine Sp.body Tryz.func143 rfl Tryz.ntmps143 (by simp) ?_
 simp only [argE, List.cons_append, List.nil_append, Nat.zero_add, Nat.reduceAdd]
 repeat' (first|(refine gv ?_;first|refine RT.id ?_|(refine⟨fun hc=>?_,fun hc=>?_⟩<;>first|(exfalso;omega)|skip)|refine gk ?_|refine num_m fun r hr=>?_|intro r hr)|refine gs ?_|(refine gb ?_;intro b)|refine gn ?_|(refine RT.isPush ?_;refine gp ?_;intro a' c' b' c1' hac)|refine gc ?_|fail)
 all_goals (refine AtQ.f1 Tryz.results143 rfl ?_ (fun _ h => h); congr 1; unfold namedB; symm; first | (refine decide_eq_true ?_; omega) | (refine decide_eq_false ?_; omega))
theorem packs_fn {k : Int} : Sp B Tryz.prog 146 [.int .u8 k] R [] (fun v H' => v = .bool (packsB k) ∧ H' = []) := by
 refine Sp.body Tryz.func146 rfl Tryz.ntmps146 (by simp) ?_
 simp only [argE, List.cons_append, List.nil_append, Nat.zero_add, Nat.reduceAdd]
 repeat' (first|(refine gv ?_;first|refine RT.id ?_|(refine⟨fun hc=>?_,fun hc=>?_⟩<;>first|(exfalso;omega)|skip)|refine gk ?_|refine num_m fun r hr=>?_|intro r hr)|refine gs ?_|(refine gb ?_;intro b)|refine gn ?_|(refine RT.isPush ?_;refine gp ?_;intro a' c' b' c1' hac)|refine gc ?_|fail)
 all_goals (refine AtQ.f1 Tryz.results146 rfl ?_ (fun _ h => h); congr 1; unfold packsB; symm; first | (refine decide_eq_true ?_; omega) | (refine decide_eq_false ?_; omega))
theorem key_fn {k : Int} : Sp B Tryz.prog 145 [.int .u8 k] R [] (fun v H' => v = .bool (keyB k) ∧ H' = []) := by
 refine Sp.body Tryz.func145 rfl Tryz.ntmps145 (by simp) ?_
 simp only [argE, List.cons_append, List.nil_append, Nat.zero_add, Nat.reduceAdd]
 repeat' (first|(refine gv ?_;first|refine RT.id ?_|(refine⟨fun hc=>?_,fun hc=>?_⟩<;>first|(exfalso;omega)|skip)|refine gk ?_|refine num_m fun r hr=>?_|intro r hr)|refine gs ?_|(refine gb ?_;intro b)|refine gn ?_|(refine RT.isPush ?_;refine gp ?_;intro a' c' b' c1' hac)|refine gc ?_|fail)
 (refine RT.call T rfl fR_ (kind_fn (k := k)) rfl rfl rfl ?_; rintro _ _ ⟨rfl, rfl⟩; try simp only [List.cons_append, List.nil_append])
 cases hk : kindB k
 ·repeat' (first|(refine gv ?_;first|refine RT.id ?_|(refine⟨fun hc=>?_,fun hc=>?_⟩<;>first|(exfalso;omega)|skip)|refine gk ?_|refine num_m fun r hr=>?_|intro r hr)|refine gs ?_|(refine gb ?_;intro b)|refine gn ?_|(refine RT.isPush ?_;refine gp ?_;intro a' c' b' c1' hac)|refine gc ?_|fail)
  exact AtQ.f1 Tryz.results145 rfl (by unfold keyB; rw [hk]; rfl) (fun _ h => h)
 ·repeat' (first|(refine gv ?_;first|refine RT.id ?_|(refine⟨fun hc=>?_,fun hc=>?_⟩<;>first|(exfalso;omega)|skip)|refine gk ?_|refine num_m fun r hr=>?_|intro r hr)|refine gs ?_|(refine gb ?_;intro b)|refine gn ?_|(refine RT.isPush ?_;refine gp ?_;intro a' c' b' c1' hac)|refine gc ?_|fail)
  all_goals (refine AtQ.f1 Tryz.results145 rfl ?_ (fun _ h => h); congr 1; unfold keyB; rw [hk, Bool.true_and]; symm; first | (refine decide_eq_true ?_; omega) | (refine decide_eq_false ?_; omega))
/-! ### paths -/
theorem pathB_t {s : Txt} (h1 : s ≠ []) (h2 : s.length ≤ 255) (h3 : ∀ j, j < s.length → pathC (s.getD j 0) = true) : pathB s = true := by
 unfold pathB
 rw [decide_eq_true ⟨h1, h2⟩, Bool.true_and, List.all_eq_true]
 intro x hx
 obtain ⟨j, hj, rfl⟩ := List.getElem_of_mem hx
 have := h3 j hj
 rwa [List.getD_eq_getElem?_getD, List.getElem?_eq_getElem hj] at this
theorem pathB_f {s : Txt} {j : Nat} (hj : j < s.length) (h : pathC (s.getD j 0) = false) : pathB s = false := by
 unfold pathB
 rw [Bool.and_eq_false_iff]
 right
 rw [List.all_eq_false]
 rw [List.getD_eq_getElem?_getD, List.getElem?_eq_getElem hj] at h
 exact ⟨_, List.getElem_mem hj, by simpa using h⟩
set_option maxHeartbeats 1000000 in
theorem path_fn {s : Txt} (hb : Byt s) (hl : s.length ≤ 140737488355328) : Sp B Tryz.prog 90 [vS s] R [] (fun v H' => v = .bool (pathB s) ∧ H' = []) := by
 refine Sp.body Tryz.func90 rfl Tryz.ntmps90 (by simp) ?_
 simp only [argE, List.cons_append, List.nil_append, Nat.zero_add, Nat.reduceAdd]
 repeat' (first|(refine gv ?_;first|refine RT.id ?_|(refine⟨fun hc=>?_,fun hc=>?_⟩<;>first|(exfalso;omega)|skip)|refine gk ?_|refine num_m fun r hr=>?_|intro r hr)|refine gs ?_|(refine gb ?_;intro b)|refine gn ?_|(refine RT.isPush ?_;refine gp ?_;intro a' c' b' c1' hac)|refine gc ?_|fail)
 refine RT.eqs (l := s) (l' := []) rfl rfl hb Byt.nil rfl rfl (fun h => ?_) (fun h => ?_)
 ·repeat' (first|(refine gv ?_;first|refine RT.id ?_|(refine⟨fun hc=>?_,fun hc=>?_⟩<;>first|(exfalso;omega)|skip)|refine gk ?_|refine num_m fun r hr=>?_|intro r hr)|refine gs ?_|(refine gb ?_;intro b)|refine gn ?_|(refine RT.isPush ?_;refine gp ?_;intro a' c' b' c1' hac)|refine gc ?_|fail)
  exact AtQ.f1 Tryz.results90 rfl (by subst h; rfl) (fun _ h => h)
 ·repeat' (first|(refine gv ?_;first|refine RT.id ?_|(refine⟨fun hc=>?_,fun hc=>?_⟩<;>first|(exfalso;omega)|skip)|refine gk ?_|refine num_m fun r hr=>?_|intro r hr)|refine gs ?_|(refine gb ?_;intro b)|refine gn ?_|(refine RT.isPush ?_;refine gp ?_;intro a' c' b' c1' hac)|refine gc ?_|fail)
  ·exact AtQ.f1 Tryz.results90 rfl (by unfold pathB; rw [decide_eq_false (by omega)]; rfl) (fun _ h => h)
  refine CT.loop (α := Nat) (fun i => [(0, vS s), (13, .int .i64 s.length), (14, .int .i64 i)]) (fun i => Pu (i ≤ s.length ∧ ∀ j, j < i → pathC (s.getD j 0) = true) :: R) (fun i => s.length - i) 0 ⟨rfl, rfl, rfl, trivial⟩
   (fun w h => Sat.pu_in ⟨Nat.zero_le _, fun j hj => absurd hj (by omega)⟩ h) (fun i => CT.pu fun ⟨hi, ho⟩ => ?_)
  repeat' (first|(refine gv ?_;first|refine RT.id ?_|(refine⟨fun hc=>?_,fun hc=>?_⟩<;>first|(exfalso;omega)|skip)|refine gk ?_|refine num_m fun r hr=>?_|intro r hr)|refine gs ?_|(refine gb ?_;intro b)|refine gn ?_|(refine RT.isPush ?_;refine gp ?_;intro a' c' b' c1' hac)|refine gc ?_|fail)
  ·(refine RT.ixs T (j := i) rfl rfl (by omega) (by omega) (by assumption) rfl rfl rfl ?_)
   have hbi := hb.get (i := i) (by omega)
   repeat' (first|(refine gv ?_;first|refine RT.id ?_|(refine⟨fun hc=>?_,fun hc=>?_⟩<;>first|(exfalso;omega)|skip)|refine gk ?_|refine num_m fun r hr=>?_|intro r hr)|refine gs ?_|(refine gb ?_;intro b)|refine gn ?_|(refine RT.isPush ?_;refine gp ?_;intro a' c' b' c1' hac)|refine gc ?_|fail)
   all_goals first
    | exact AtQ.f1 Tryz.results90 rfl (by rw [pathB_f (j := i) (by omega) (by unfold pathC; refine decide_eq_false ?_; omega)]) (fun _ h => h.tail)
    | exact AtQ.f1 Tryz.results90 rfl (by rw [pathB_f (j := i) (by omega) (by unfold pathC; refine decide_eq_false ?_; omega)]) (fun _ h => h)
    | exact AtQ.loop (i + 1) ⟨rfl, rfl, rfl, trivial⟩ (fun w h => Sat.pu_in ⟨by omega, fun j hj => by
      by_cases hji : j = i
      ·rw [hji]; unfold pathC; refine decide_eq_true ?_; omega
      ·exact ho j (by omega)⟩ h) (by omega)
  ·have hie : i = s.length := by omega
   subst hie
   exact AtQ.f1 Tryz.results90 rfl (by rw [pathB_t h (by omega) ho]) (fun _ h => h)
end Go.Proofs.YtdemnhdoadjhhaaGreatDoor
end
section
namespace Go.Proofs.YtdemnhdoadjhhaaGreatDoor
open Go.Sk
/-! ### symbols -/
structure SymT where
 full : Txt
 sort : Int
 file : Txt
def SymT.cells (s : SymT) : List Value := [vS s.full, .int .u8 s.sort, vS s.file]
noncomputable def symE (fl sc : Txt) (e : EnumT) : List SymT := ⟨joinL [sc, e.nm], 2, fl⟩ :: e.vals.l.map (fun v => ⟨joinL [sc, v.nm], 3, fl⟩)
mutual
noncomputable def symM (fl : Txt) : MsgT → Txt → List SymT
 | .mk nm fields oneofs _ _ msgs enums _ _, sc =>
  ⟨joinL [sc, nm], 1, fl⟩ :: (fields.l.map (fun f => ⟨joinL [joinL [sc, nm], f.nm], 4, fl⟩) ++ (oneofs.l.map (fun o => ⟨joinL [joinL [sc, nm], o], 5, fl⟩) ++
   (symMs fl msgs (joinL [sc, nm]) ++ enums.l.flatMap (symE fl (joinL [sc, nm])))))
noncomputable def symMs (fl : Txt) : List MsgT → Txt → List SymT
 | [], _ => []
 | m :: l, sc => symM fl m sc ++ symMs fl l sc
end
noncomputable def symF (f : FileT) : List SymT := symMs f.path f.msgs f.pack ++ f.enums.l.flatMap (symE f.path f.pack)
/-! ### joining -/
theorem J_def (a b : Txt) : joinL [a, b] = if a = [] then b else if b = [] then a else a ++ 46 :: b := by
 cases a <;> cases b <;> simp [joinL, filt, joinS, dotted]
theorem J_assoc (a b c : Txt) : joinL [joinL [a, b], c] = joinL [a, joinL [b, c]] := by
 simp only [J_def]
 by_cases h1 : a = [] <;> by_cases h2 : b = [] <;> by_cases h3 : c = [] <;> simp [h1, h2, h3]
theorem J_inj {a b c : Txt} (h : joinL [a, b] = joinL [a, c]) : b = c := by
 simp only [J_def] at h
 by_cases h1 : a = []
 ·simpa [h1] using h
 ·by_cases h2 : b = [] <;> by_cases h3 : c = [] <;> simp [h1, h2, h3] at h ⊢
  exact h
/-! ### two runs that agree -/
def Ag2 (p p' : Txt) (r r' : Rs) : Prop := match r, r' with
 | .ok g, .ok g' => ∃ rs : List Txt, g = rs.map (fun x => joinL [p, x]) ∧ g' = rs.map (fun x => joinL [p', x])
 | .error x, .error y => x.1 = y.1
 | _, _ => False
def Ag (p p' : Txt) (F F' : List Txt → Rs) : Prop := ∀ rs : List Txt, Ag2 p p' (F (rs.map (fun x => joinL [p, x]))) (F' (rs.map (fun x => joinL [p', x])))
def OA (o o' : Option Flt) : Prop := match o, o' with
 | none, none => True
 | some x, some y => x.1 = y.1
 | _, _ => False
section
variable {p p' : Txt}
theorem Ag.ok : Ag p p' .ok .ok := fun rs => ⟨rs, rfl, rfl⟩
theorem Ag.must {b : Bool} {e : Int} {t t' : Txt} {K K' : List Txt → Rs} (h : Ag p p' K K') : Ag p p' (fun g => must b e t (K g)) (fun g => must b e t' (K' g)) := fun rs => by
 cases b
 ·exact rfl
 ·exact h rs
theorem Ag.opt {o o' : Option Flt} {K K' : List Txt → Rs} (ho : OA o o') (h : Ag p p' K K') : Ag p p' (fun g => opt o (K g)) (fun g => opt o' (K' g)) := fun rs => by
 cases o <;> cases o' <;> first | exact h rs | exact ho | exact ho.elim
theorem Ag.bnd {F F' K K' : List Txt → Rs} (hF : Ag p p' F F') (hK : Ag p p' K K') : Ag p p' (fun g => bnd (F g) K) (fun g => bnd (F' g) K') := fun rs => by
 have h := hF rs
 dsimp only
 cases h1 : F (rs.map (fun x => joinL [p, x])) with
 | ok g =>
  cases h2 : F' (rs.map (fun x => joinL [p', x])) with
  | ok g' =>
   rw [h1, h2] at h
   obtain ⟨rs2, rfl, rfl⟩ := h
   exact hK rs2
  | error x => rw [h1, h2] at h; exact h.elim
 | error x =>
  cases h2 : F' (rs.map (fun x => joinL [p', x])) with
  | ok g' => rw [h1, h2] at h; exact h.elim
  | error y => rw [h1, h2] at h; exact h
/-- A name that is short in both. -/
def Sh (p p' r : Txt) : Prop := (joinL [p, r]).length ≤ 255 ∧ (joinL [p', r]).length ≤ 255
theorem ag_give {nm r : Txt} (h : Sh p p' r) : Ag p p' (giveR nm (joinL [p, r])) (giveR nm (joinL [p', r])) := fun rs => by
 unfold giveR
 have e1 : decide ((joinL [p, r]).length ≤ 255) = true := decide_eq_true h.1
 have e2 : decide ((joinL [p', r]).length ≤ 255) = true := decide_eq_true h.2
 rw [e1, e2]
 cases hi : identB nm
 ·exact rfl
 ·simp only [Bool.and_true]
  by_cases hm : r ∈ rs
  ·have m1 : joinL [p, r] ∈ rs.map (fun x => joinL [p, x]) := List.mem_map.2 ⟨r, hm, rfl⟩
   have m2 : joinL [p', r] ∈ rs.map (fun x => joinL [p', x]) := List.mem_map.2 ⟨r, hm, rfl⟩
   rw [must_t rfl, must_t rfl, must_f (by simpa using m1), must_f (by simpa using m2)]
   exact rfl
  ·have m1 : joinL [p, r] ∉ rs.map (fun x => joinL [p, x]) := fun h => by
    obtain ⟨x, hx, e⟩ := List.mem_map.1 h
    exact hm (J_inj e ▸ hx)
   have m2 : joinL [p', r] ∉ rs.map (fun x => joinL [p', x]) := fun h => by
    obtain ⟨x, hx, e⟩ := List.mem_map.1 h
    exact hm (J_inj e ▸ hx)
   rw [must_t rfl, must_t rfl, must_t (by simpa using m1), must_t (by simpa using m2)]
   exact ⟨rs ++ [r], by simp, by simp⟩
theorem oa_spans {lo hi : Int} {t t' : Txt} : ∀ {l ah : List SpanT}, OA (spansF lo hi t ah l) (spansF lo hi t' ah l)
 | [], ah => by cases ah <;> exact trivial
 | s :: l, ah => by
  unfold spansF
  split
  ·exact oa_spans
  ·exact rfl
theorem oa_names {sc sc' : Txt} : ∀ {l ah : List Txt}, OA (namesF sc ah l) (namesF sc' ah l)
 | [], ah => by cases ah <;> exact trivial
 | s :: l, ah => by
  unfold namesF
  split
  ·split
   ·exact rfl
   ·exact oa_names
  ·exact rfl
theorem ag_field {names : List Txt} {res : List SpanT} {no : Nat} {r : Txt} {ah : List FieldT} {f : FieldT} (h : Sh p p' (joinL [r, f.nm])) : Ag p p' (fieldR names res no (joinL [p, r]) ah f) (fieldR names res no (joinL [p', r]) ah f) := by
 unfold fieldR
 rw [J_assoc, J_assoc]
 unfold fieldR7 fieldR8 fieldR11 fieldR14 fieldR15 fieldR16 fieldR17
 refine Ag.bnd (ag_give h) ?_
 repeat (first | exact Ag.ok | refine Ag.must ?_)
theorem ag_fields {names : List Txt} {res : List SpanT} {no : Nat} {r : Txt} : ∀ {l ah : List FieldT}, (∀ f ∈ l, Sh p p' (joinL [r, f.nm])) → Ag p p' (fieldsR names res no (joinL [p, r]) ah l) (fieldsR names res no (joinL [p', r]) ah l)
 | [], ah, _ => by cases ah <;> exact Ag.ok
 | f :: l, ah, h => by
  have e : ∀ q : Txt, fieldsR names res no q ah (f :: l) = fun g => bnd (fieldR names res no q ah f g) (fieldsR names res no q (ah ++ [f]) l) := fun q => by funext g; rw [fieldsR]
  rw [e, e]
  exact Ag.bnd (ag_field (h f List.mem_cons_self)) (ag_fields fun x hx => h x (List.mem_cons_of_mem _ hx))
theorem ag_oneofs {fields : List FieldT} {r : Txt} : ∀ {l : List Txt} {i : Nat}, (∀ o ∈ l, Sh p p' (joinL [r, o])) → Ag p p' (oneofsR fields (joinL [p, r]) i l) (oneofsR fields (joinL [p', r]) i l)
 | [], i, _ => Ag.ok
 | o :: l, i, h => by
  have e : ∀ q : Txt, oneofsR fields q i (o :: l) = fun g => bnd (giveR o (joinL [q, o]) g) fun g => Go.Proofs.YtdemnhdoadjhhaaGreatDoor.must (decide (∃ f ∈ fields, f.oneof = (i : Int) + 1)) 64 (joinL [q, o]) (oneofsR fields q (i + 1) l g) := fun q => by funext g; rw [oneofsR]
  rw [e, e, J_assoc, J_assoc]
  exact Ag.bnd (ag_give (h o List.mem_cons_self)) (Ag.must (ag_oneofs fun x hx => h x (List.mem_cons_of_mem _ hx)))
theorem ag_vals {names : List Txt} {res : List SpanT} {ali : Bool} {r : Txt} : ∀ {l ah : List EValT}, (∀ v ∈ l, Sh p p' (joinL [r, v.nm])) → Ag p p' (valsR names res ali (joinL [p, r]) ah l) (valsR names res ali (joinL [p', r]) ah l)
 | [], ah, _ => by cases ah <;> exact Ag.ok
 | v :: l, ah, h => by
  have e : ∀ q : Txt, valsR names res ali q ah (v :: l) = fun g => bnd (giveR v.nm (joinL [q, v.nm]) g) fun g => Go.Proofs.YtdemnhdoadjhhaaGreatDoor.must (decide (v.nm ∉ names) && !anyS res v.num) 63 (joinL [q, v.nm]) (Go.Proofs.YtdemnhdoadjhhaaGreatDoor.must (ali || decide (∀ o ∈ ah, o.num ≠ v.num)) 66 (joinL [q, v.nm]) (valsR names res ali q (ah ++ [v]) l g)) := fun q => by funext g; rw [valsR]
  rw [e, e, J_assoc, J_assoc]
  exact Ag.bnd (ag_give (h v List.mem_cons_self)) (Ag.must (Ag.must (ag_vals fun x hx => h x (List.mem_cons_of_mem _ hx))))
theorem ag_enum {e : EnumT} {r fl fl' : Txt} (h : ∀ s ∈ symE fl (joinL [p, r]) e, s.full.length ≤ 255) (h' : ∀ s ∈ symE fl' (joinL [p', r]) e, s.full.length ≤ 255) : Ag p p' (enumR e (joinL [p, r])) (enumR e (joinL [p', r])) := by
 unfold enumR
 have a1 := h _ List.mem_cons_self
 have a2 := h' _ List.mem_cons_self
 dsimp only at a1 a2
 rw [J_assoc] at a1 a2
 rw [J_assoc, J_assoc]
 refine Ag.bnd (ag_give ⟨a1, a2⟩) (Ag.must (Ag.must (Ag.opt oa_spans (Ag.opt oa_names (ag_vals fun v hv => ?_)))))
 have b1 := h _ (List.mem_cons_of_mem _ (List.mem_map.2 ⟨v, hv, rfl⟩))
 have b2 := h' _ (List.mem_cons_of_mem _ (List.mem_map.2 ⟨v, hv, rfl⟩))
 dsimp only at b1 b2
 rw [J_assoc] at b1 b2
 exact ⟨b1, b2⟩
theorem ag_enums {r fl fl' : Txt} : ∀ {l : List EnumT}, (∀ s ∈ l.flatMap (symE fl (joinL [p, r])), s.full.length ≤ 255) → (∀ s ∈ l.flatMap (symE fl' (joinL [p', r])), s.full.length ≤ 255) → Ag p p' (enumsR (joinL [p, r]) l) (enumsR (joinL [p', r]) l)
 | [], _, _ => Ag.ok
 | e :: l, h, h' => by
  have ee : ∀ q : Txt, enumsR q (e :: l) = fun g => bnd (enumR e q g) (enumsR q l) := fun q => by funext g; rw [enumsR]
  rw [ee, ee]
  rw [List.flatMap_cons] at h h'
  exact Ag.bnd (ag_enum (fun s hs => h s (List.mem_append_left _ hs)) (fun s hs => h' s (List.mem_append_left _ hs))) (ag_enums (fun s hs => h s (List.mem_append_right _ hs)) (fun s hs => h' s (List.mem_append_right _ hs)))
mutual
theorem ag_msg {fl fl' : Txt} : ∀ {m : MsgT} {r : Txt} {deep : Nat}, (∀ s ∈ symM fl m (joinL [p, r]), s.full.length ≤ 255) → (∀ s ∈ symM fl' m (joinL [p', r]), s.full.length ≤ 255) → Ag p p' (msgR m (joinL [p, r]) deep) (msgR m (joinL [p', r]) deep)
 | .mk nm fields oneofs ma mc msgs enums res names, r, deep, h, h' => by
  have ee : ∀ q : Txt, msgR (.mk nm fields oneofs ma mc msgs enums res names) q deep = fun g =>
   bnd (giveR nm (joinL [q, nm]) g) fun g =>
   Go.Proofs.YtdemnhdoadjhhaaGreatDoor.must (decide (deep < 16) && decide (fields.l.length ≤ 1000)) 68 (joinL [q, nm]) <|
   Go.Proofs.YtdemnhdoadjhhaaGreatDoor.opt (spansF 1 536870911 (joinL [q, nm]) [] res.l) <|
   Go.Proofs.YtdemnhdoadjhhaaGreatDoor.opt (namesF (joinL [q, nm]) [] names.l) <|
   bnd (fieldsR names.l res.l oneofs.l.length (joinL [q, nm]) [] fields.l g) fun g =>
   bnd (oneofsR fields.l (joinL [q, nm]) 0 oneofs.l g) fun g =>
   bnd (msgsR msgs (joinL [q, nm]) (deep + 1) g) fun g =>
   enumsR (joinL [q, nm]) enums.l g := fun q => by funext g; rw [msgR]
  rw [ee, ee, J_assoc, J_assoc]
  unfold symM at h h'
  rw [J_assoc] at h h'
  refine Ag.bnd (ag_give ⟨h _ List.mem_cons_self, h' _ List.mem_cons_self⟩) (Ag.must (Ag.opt oa_spans (Ag.opt oa_names (Ag.bnd (ag_fields fun f hf => ?_) (Ag.bnd (ag_oneofs fun o ho => ?_) (Ag.bnd (ag_msgs (fl := fl) (fl' := fl') (fun s hs => ?_) (fun s hs => ?_)) (ag_enums (fl := fl) (fl' := fl') (fun s hs => ?_) (fun s hs => ?_))))))))
  ·have b1 := h _ (List.mem_cons_of_mem _ (List.mem_append_left _ (List.mem_map.2 ⟨f, hf, rfl⟩)))
   have b2 := h' _ (List.mem_cons_of_mem _ (List.mem_append_left _ (List.mem_map.2 ⟨f, hf, rfl⟩)))
   dsimp only at b1 b2
   rw [J_assoc] at b1 b2
   exact ⟨b1, b2⟩
  ·have b1 := h _ (List.mem_cons_of_mem _ (List.mem_append_right _ (List.mem_append_left _ (List.mem_map.2 ⟨o, ho, rfl⟩))))
   have b2 := h' _ (List.mem_cons_of_mem _ (List.mem_append_right _ (List.mem_append_left _ (List.mem_map.2 ⟨o, ho, rfl⟩))))
   dsimp only at b1 b2
   rw [J_assoc] at b1 b2
   exact ⟨b1, b2⟩
  ·exact h _ (List.mem_cons_of_mem _ (List.mem_append_right _ (List.mem_append_right _ (List.mem_append_left _ hs))))
  ·exact h' _ (List.mem_cons_of_mem _ (List.mem_append_right _ (List.mem_append_right _ (List.mem_append_left _ hs))))
  ·exact h _ (List.mem_cons_of_mem _ (List.mem_append_right _ (List.mem_append_right _ (List.mem_append_right _ hs))))
  ·exact h' _ (List.mem_cons_of_mem _ (List.mem_append_right _ (List.mem_append_right _ (List.mem_append_right _ hs))))
theorem ag_msgs {fl fl' : Txt} : ∀ {l : List MsgT} {r : Txt} {deep : Nat}, (∀ s ∈ symMs fl l (joinL [p, r]), s.full.length ≤ 255) → (∀ s ∈ symMs fl' l (joinL [p', r]), s.full.length ≤ 255) → Ag p p' (msgsR l (joinL [p, r]) deep) (msgsR l (joinL [p', r]) deep)
 | [], r, deep, _, _ => by
  have ee : ∀ q : Txt, msgsR [] q deep = .ok := fun q => by funext g; rw [msgsR]
  rw [ee, ee]; exact Ag.ok
 | m :: l, r, deep, h, h' => by
  have ee : ∀ q : Txt, msgsR (m :: l) q deep = fun g => bnd (msgR m q deep g) fun g => msgsR l q deep g := fun q => by funext g; rw [msgsR]
  rw [ee, ee]
  unfold symMs at h h'
  exact Ag.bnd (ag_msg (fun s hs => h s (List.mem_append_left _ hs)) (fun s hs => h' s (List.mem_append_left _ hs))) (ag_msgs (fun s hs => h s (List.mem_append_right _ hs)) (fun s hs => h' s (List.mem_append_right _ hs)))
end
end
/-! ### CheckMoved -/
end Go.Proofs.YtdemnhdoadjhhaaGreatDoor
end
section
namespace Go.Proofs.YtdemnhdoadjhhaaGreatDoor
open Go.Sk
set_option maxRecDepth 100000
theorem joinS_snoc : ∀ (F : List (List Int)) (x : List Int), F ≠ [] → joinS (F ++ [x]) = joinS F ++ [46] ++ x
 | [], x, h => absurd rfl h
 | y :: r, x, _ => by simp [joinS, dotted]
theorem joinS_pos {F : List (List Int)} (h : F ≠ []) (hne : ∀ l ∈ F, l ≠ []) : 0 < (joinS F).length := by
 cases F with
 | nil => exact absurd rfl h
 | cons y r =>
  have := List.length_pos_iff.2 (hne y (by simp))
  simp only [joinS, List.length_append]
  omega
theorem filt_ne (ls : List (List Int)) : ∀ l ∈ filt ls, l ≠ [] := fun l hl h => by
 have := (List.mem_filter.1 hl).2
 rw [h] at this
 simp at this
theorem joinS_len : ∀ (F : List (List Int)), (joinS F).length ≤ sumL F + F.length
 | [] => by simp [joinS]
 | y :: r => by
  have := dotted_len r
  simp only [joinS, List.length_append, this, sumL, List.map_cons, List.sum_cons, List.length_cons]
  omega
theorem joinS_byt {F : List (List Int)} (h : ∀ l ∈ F, Byt l) : Byt (joinS F) := by
 cases F with
 | nil => exact Byt.nil
 | cons y r => exact (h y (by simp)).app (dotted_byt fun l hl => h l (by simp [hl]))
end Go.Proofs.YtdemnhdoadjhhaaGreatDoor
end
section
namespace Go.Proofs.YtdemnhdoadjhhaaGreatDoor
open Go.Sk
set_option maxRecDepth 100000
attribute [local irreducible] Cs Own Ex Pu Yld RT LJ QJ AtQ CT Rd QSp Sp FinQ Then LoopQ CutQ DT TakeQ EffQ
attribute [local irreducible] Bd
variable {B : World} {R : List HP}
set_option maxHeartbeats 1000000 in
theorem rjoin_big {a : Option Addr} {k c : Nat} {ls : List (List Int)} (hR : Rd B R a k c 1 (strs ls)) (hk : k = ls.length) (hB : ∀ l ∈ ls, Byt l) (hb : sumL ls + ls.length ≤ 190000000000000) (hb2 : ∀ i, i < ls.length → sumL (ls.take i) + ls.length ≤ 140737488355000) :
  Sp B Tryz.prog 26 [.slice a k c] R [] (fun v H' => v = .string (str (joinL ls)) ∧ H' = []) := by
 refine Sp.body Tryz.func26 rfl Tryz.ntmps26 (by simp) ?_
 simp only [argE, List.cons_append, List.nil_append, Nat.zero_add, Nat.reduceAdd]
 subst hk
 have hget : ∀ i, i < ls.length → Byt (ls.getD i []) := fun i hi => by
  rw [List.getD_eq_getElem?_getD, List.getElem?_eq_getElem hi]
  exact hB _ (List.getElem_mem hi)
 repeat' (first|(refine gv ?_;first|refine RT.id ?_|(refine⟨fun hc=>?_,fun hc=>?_⟩<;>first|(exfalso;omega)|skip)|refine gk ?_|refine num_m fun r hr=>?_|intro r hr)|refine gs ?_|(refine gb ?_;intro b)|refine gn ?_|(refine RT.isPush ?_;refine gp ?_;intro a' c' b' c1' hac)|refine gc ?_|fail)
 refine CT.weak (fun w h => Sat.nilOwn (e := 5) (sz := 1) h) ?_
 refine CT.loop (α := Nat × Option Addr × Nat) (fun s => [(0, .slice a ls.length c), (3, .slice s.2.1 (joinS (filt (ls.take s.1))).length s.2.2), (4, .int .i64 s.1)]) (fun s => Pu (s.1 ≤ ls.length) :: own8 s.2.1 s.2.2 (joinS (filt (ls.take s.1))) :: R) (fun s => ls.length - s.1) (0, none, 0) ⟨rfl, rfl, rfl, trivial⟩
  (fun w h => Sat.pu_in (Nat.zero_le _) h) (fun s => CT.pu fun hi => ?_)
 obtain ⟨i, a1, c1⟩ := s
 simp only at hi ⊢
 have hfs := filt_sum (ls.take i)
 have hb2i := hb2 i
 have hst := sumL_take ls i
 have htl : (ls.take i).length ≤ ls.length := by rw [List.length_take]; omega
 have hjl := joinS_len (filt (ls.take i))
 repeat' (first|(refine gv ?_;first|refine RT.id ?_|(refine⟨fun hc=>?_,fun hc=>?_⟩<;>first|(exfalso;omega)|skip)|refine gk ?_|refine num_m fun r hr=>?_|intro r hr)|refine gs ?_|(refine gb ?_;intro b)|refine gn ?_|(refine RT.isPush ?_;refine gp ?_;intro a' c' b' c1' hac)|refine gc ?_|fail)
 ·refine RT.ix T (j := i) rfl rfl rfl (by repeat (first | exact (hR) | apply Rd.cons)) (by omega) (by omega) (by omega) rfl rfl ?_
  refine RT.ldr T rfl (by repeat (first | exact (hR) | apply Rd.cons)) (strs_get (i := i) (by omega)) rfl rfl rfl ?_
  refine RT.eqs (l := ls.getD i []) (l' := []) rfl rfl (hget i (by omega)) Byt.nil rfl rfl (fun he => ?_) (fun he => ?_)
  ·repeat' (first|(refine gv ?_;first|refine RT.id ?_|(refine⟨fun hc=>?_,fun hc=>?_⟩<;>first|(exfalso;omega)|skip)|refine gk ?_|refine num_m fun r hr=>?_|intro r hr)|refine gs ?_|(refine gb ?_;intro b)|refine gn ?_|(refine RT.isPush ?_;refine gp ?_;intro a' c' b' c1' hac)|refine gc ?_|fail)
   have hf := filt_out (ls := ls) (i := i) (by omega) he
   exact AtQ.loop (i + 1, a1, c1) ⟨rfl, by simp only; rw [hf]; rfl, rfl, trivial⟩ (fun w h => Sat.pu_in (by simp only; omega) (by simp only; rw [hf]; exact h)) (by simp only; omega)
  ·have hf := filt_in (ls := ls) (i := i) (by omega) he
   have hsum := sumL_succ (ls := ls) (i := i) (by omega)
   have hst2 := sumL_take ls (i + 1)
   repeat' (first|(refine gv ?_;first|refine RT.id ?_|(refine⟨fun hc=>?_,fun hc=>?_⟩<;>first|(exfalso;omega)|skip)|refine gk ?_|refine num_m fun r hr=>?_|intro r hr)|refine gs ?_|(refine gb ?_;intro b)|refine gn ?_|(refine RT.isPush ?_;refine gp ?_;intro a' c' b' c1' hac)|refine gc ?_|fail)
   ·have hFne : filt (ls.take i) ≠ [] := by
     intro h0
     have hc2 : 0 < (joinS (filt (ls.take i))).length := by omega
     rw [h0] at hc2
     simp [joinS] at hc2
    have e := joinS_snoc (filt (ls.take i)) (ls.getD i []) hFne
    rw [← hf] at e
    refine RT.ix T (j := i) rfl rfl rfl (by repeat (first | exact (hR) | apply Rd.cons)) (by omega) (by omega) (by omega) rfl rfl ?_
    refine RT.ldr T rfl (by repeat (first | exact (hR) | apply Rd.cons)) (strs_get (i := i) (by omega)) rfl rfl rfl ?_
    refine RT.appS T (l := joinS (filt (ls.take i)) ++ [46]) (l' := ls.getD i []) rfl rfl (hget i (by omega)) rfl rfl (fun a' c' => by ((repeat constructor);done)) (by omega) rfl rfl rfl (fun a2 c2 hac => ?_)
    repeat' (first|(refine gv ?_;first|refine RT.id ?_|(refine⟨fun hc=>?_,fun hc=>?_⟩<;>first|(exfalso;omega)|skip)|refine gk ?_|refine num_m fun r hr=>?_|intro r hr)|refine gs ?_|(refine gb ?_;intro b)|refine gn ?_|(refine RT.isPush ?_;refine gp ?_;intro a' c' b' c1' hac)|refine gc ?_|fail)
    have hlen : (joinS (filt (ls.take (i + 1)))).length = (joinS (filt (ls.take i))).length + 1 + (ls.getD i []).length := by rw [e]; simp; omega
    refine AtQ.loop (i + 1, a2, c2) ⟨rfl, by simp only; rw [hlen]; rfl, rfl, trivial⟩ (fun w h => Sat.pu_in (by simp only; omega) ?_) (by simp only; omega)
    have h2 := h.frd (Ps := [Own a2 c2 5 1 ((joinS (filt (ls.take i))).length + 1 + (ls.getD i []).length) (ints .u8 (joinS (filt (ls.take i)) ++ [46] ++ ls.getD i []))]) (Qs := []) (by (repeat (first|exact Fr.nil|(apply Fr.cons;focus ((repeat constructor);done)))))
    rw [← e, ← hlen] at h2
    exact h2
   ·have hF : filt (ls.take i) = [] := by
     by_cases h0 : filt (ls.take i) = []
     ·exact h0
     ·have := joinS_pos h0 (filt_ne _); omega
    rw [hF, List.nil_append] at hf
    have hj0 : joinS (filt (ls.take i)) = [] := by rw [hF]; rfl
    have e : joinS (filt (ls.take (i + 1))) = joinS (filt (ls.take i)) ++ ls.getD i [] := by rw [hf, hj0]; simp [joinS, dotted]
    refine RT.ix T (j := i) rfl rfl rfl (by repeat (first | exact (hR) | apply Rd.cons)) (by omega) (by omega) (by omega) rfl rfl ?_
    refine RT.ldr T rfl (by repeat (first | exact (hR) | apply Rd.cons)) (strs_get (i := i) (by omega)) rfl rfl rfl ?_
    refine RT.appS T (l := joinS (filt (ls.take i))) (l' := ls.getD i []) rfl rfl (hget i (by omega)) rfl rfl (fun a' c' => by ((repeat constructor);done)) (by omega) rfl rfl rfl (fun a2 c2 hac => ?_)
    repeat' (first|(refine gv ?_;first|refine RT.id ?_|(refine⟨fun hc=>?_,fun hc=>?_⟩<;>first|(exfalso;omega)|skip)|refine gk ?_|refine num_m fun r hr=>?_|intro r hr)|refine gs ?_|(refine gb ?_;intro b)|refine gn ?_|(refine RT.isPush ?_;refine gp ?_;intro a' c' b' c1' hac)|refine gc ?_|fail)
    have hlen : (joinS (filt (ls.take (i + 1)))).length = (joinS (filt (ls.take i))).length + (ls.getD i []).length := by rw [e]; simp
    refine AtQ.loop (i + 1, a2, c2) ⟨rfl, by simp only; rw [hlen]; rfl, rfl, trivial⟩ (fun w h => Sat.pu_in (by simp only; omega) ?_) (by simp only; omega)
    have h2 := h.frd (Ps := [Own a2 c2 5 1 ((joinS (filt (ls.take i))).length + (ls.getD i []).length) (ints .u8 (joinS (filt (ls.take i)) ++ ls.getD i []))]) (Qs := []) (by (repeat (first|exact Fr.nil|(apply Fr.cons;focus ((repeat constructor);done)))))
    rw [← e, ← hlen] at h2
    exact h2
 ·have hie : i = ls.length := by omega
  subst hie
  rw [List.take_length] at *
  refine RT.fact (p := (joinS (filt ls)).length ≤ c1) (fun w h => (Own.facts h (by ((repeat constructor);done))).2.1) fun hoc => ?_
  refine RT.convBS T rfl (Own.rdI (by ((repeat constructor);done)) rfl hoc) (joinS_byt (filt_mem hB)) Tryz.underlying162 Tryz.underlying5 rfl rfl rfl ?_
  repeat' (first|(refine gv ?_;first|refine RT.id ?_|(refine⟨fun hc=>?_,fun hc=>?_⟩<;>first|(exfalso;omega)|skip)|refine gk ?_|refine num_m fun r hr=>?_|intro r hr)|refine gs ?_|(refine gb ?_;intro b)|refine gn ?_|(refine RT.isPush ?_;refine gp ?_;intro a' c' b' c1' hac)|refine gc ?_|fail)
  exact AtQ.f1 Tryz.results26 rfl rfl (fun w h => h.tail)
theorem rjoin_fn {a : Option Addr} {k c : Nat} {ls : List (List Int)} (hR : Rd B R a k c 1 (strs ls)) (hk : k = ls.length) (hB : ∀ l ∈ ls, Byt l) (hb : sumL ls + ls.length ≤ 1000000000000) :
  Sp B Tryz.prog 26 [.slice a k c] R [] (fun v H' => v = .string (str (joinL ls)) ∧ H' = []) :=
 rjoin_big hR hk hB (by omega) (fun i _ => by have := sumL_take ls i; omega)
end Go.Proofs.YtdemnhdoadjhhaaGreatDoor
end
section
namespace Go.Proofs.YtdemnhdoadjhhaaGreatDoor
open Go.Sk
set_option maxRecDepth 100000
def befB (s t : SymT) : Bool := if s.full = t.full then decide (s.sort < t.sort) else ltL s.full t.full
def SymT.Ok (s : SymT) : Prop := Byt s.full ∧ U8 s.sort ∧ Byt s.file
attribute [local irreducible] Cs Own Ex Pu Yld RT LJ QJ AtQ CT Rd QSp Sp FinQ Then LoopQ CutQ DT TakeQ EffQ
variable {B : World} {R : List HP}
theorem before_fn {s t : SymT} (hs : s.Ok) (ht : t.Ok) : Sp B Tryz.prog 56 [.agg s.cells.toArray, .agg t.cells.toArray] R [] (fun v H' => v = .bool (befB s t) ∧ H' = []) := by
 obtain ⟨sf, sk, sl⟩ := s
 obtain ⟨tf, tk, tl⟩ := t
 obtain ⟨s1, s2, s3⟩ := hs
 obtain ⟨t1, t2, t3⟩ := ht
 unfold U8 at s2 t2
 dsimp only [SymT.cells] at *
 unfold befB
 dsimp only
 refine Sp.body Tryz.func56 rfl Tryz.ntmps56 (by simp) ?_
 simp only [argE, List.cons_append, List.nil_append, Nat.zero_add, Nat.reduceAdd]
 repeat' (first|(refine gv ?_;first|refine RT.id ?_|(refine⟨fun hc=>?_,fun hc=>?_⟩<;>first|(exfalso;omega)|skip)|refine gk ?_|refine num_m fun r hr=>?_|intro r hr)|refine gs ?_|(refine gb ?_;intro b)|refine gn ?_|(refine RT.isPush ?_;refine gp ?_;intro a' c' b' c1' hac)|refine gc ?_|fail)
 refine RT.nes (l := sf) (l' := tf) rfl rfl s1 t1 rfl rfl (fun he => ?_) (fun he => ?_)
 ·rw [if_pos he]
  repeat' (first|(refine gv ?_;first|refine RT.id ?_|(refine⟨fun hc=>?_,fun hc=>?_⟩<;>first|(exfalso;omega)|skip)|refine gk ?_|refine num_m fun r hr=>?_|intro r hr)|refine gs ?_|(refine gb ?_;intro b)|refine gn ?_|(refine RT.isPush ?_;refine gp ?_;intro a' c' b' c1' hac)|refine gc ?_|fail)
  all_goals exact AtQ.f1 (HH := []) Tryz.results56 rfl (by first | rw [decide_eq_true (by omega)] | rw [decide_eq_false (by omega)]) dR_
 ·rw [if_neg he]
  repeat' (first|(refine gv ?_;first|refine RT.id ?_|(refine⟨fun hc=>?_,fun hc=>?_⟩<;>first|(exfalso;omega)|skip)|refine gk ?_|refine num_m fun r hr=>?_|intro r hr)|refine gs ?_|(refine gb ?_;intro b)|refine gn ?_|(refine RT.isPush ?_;refine gp ?_;intro a' c' b' c1' hac)|refine gc ?_|fail)
  refine RT.lts (l := sf) (l' := tf) rfl rfl s1 t1 rfl rfl ?_
  repeat' (first|(refine gv ?_;first|refine RT.id ?_|(refine⟨fun hc=>?_,fun hc=>?_⟩<;>first|(exfalso;omega)|skip)|refine gk ?_|refine num_m fun r hr=>?_|intro r hr)|refine gs ?_|(refine gb ?_;intro b)|refine gn ?_|(refine RT.isPush ?_;refine gp ?_;intro a' c' b' c1' hac)|refine gc ?_|fail)
  exact AtQ.f1 (HH := []) Tryz.results56 rfl rfl dR_
/-- A list of symbols as they are come to. -/
abbrev lst (b : Nat) (fl : Txt) (a : Option Addr) (c : Nat) (l : List SymT) : List HP := [Cs b 130 [.slice a l.length c, vS fl], Own a c 79 3 l.length (l.flatMap SymT.cells)]
theorem one_sym (x : SymT) : ∀ u ∈ x.cells, u.oneCell' = true := List.all_eq_true.1 (rfl : x.cells.all (·.oneCell') = true)
set_option maxHeartbeats 2000000 in
theorem put_fn {b : Nat} {fl s : Txt} {k : Int} {a : Option Addr} {c : Nat} {l : List SymT} (hl : l.length ≤ 1073741824) :
  Sp B Tryz.prog 108 [ptr b, vS s, .int .u8 k] R (lst b fl a c l) (fun v H' => v = .tuple #[] ∧ ∃ a' c', H' = lst b fl a' c' (l ++ [⟨s, k, fl⟩])) := by
 refine Sp.body Tryz.func108 rfl Tryz.ntmps108 (by simp) ?_
 simp only [argE, List.cons_append, List.nil_append, Nat.zero_add, Nat.reduceAdd]
 refine CT.drawn [Cs b 130 [.slice a l.length c, vS fl]] 16 mixed ?_
 (refine DT.takes (k := 5) [0, 1, 2, 3, 4, 5, 6, 7, 8, 9, 10, 11] [12, 13, 14, 15, 16] (fun w h => Sat.ones (by (repeat (first|exact Fr.nil|(apply Fr.cons;focus ((repeat constructor);done))))) h) (by kernel_rfl) (by kernel_rfl) (by kernel_rfl) rfl (Clos.ofB (by kernel_rfl)) ?_)
 repeat' (first|(refine gv ?_;first|refine RT.id ?_|(refine⟨fun hc=>?_,fun hc=>?_⟩<;>first|(exfalso;omega)|skip)|refine gk ?_|refine num_m fun r hr=>?_|intro r hr)|refine gs ?_|(refine gb ?_;intro b)|refine gn ?_|(refine RT.isPush ?_;refine gp ?_;intro a' c' b' c1' hac)|refine gc ?_|fail)
 refine AtQ.take ?_
 (refine DT.eff 12 rfl (by kernel_rfl) ?_)
 refine RT.bsA T (l := [vS s, .int .u8 k, vS fl]) rfl rfl rfl rfl rfl rfl rfl rfl (fun b' => ?_)
 (refine RT.nil ?_; refine AtQ.eff (fun w h => Sat.ones (by (repeat (first|exact Fr.nil|(apply Fr.cons;focus ((repeat constructor);done))))) h) ?_)
 (refine DT.eff 13 rfl (by kernel_rfl) ?_)
 refine RT.app T (xs := l.flatMap SymT.cells) (ys := (⟨s, k, fl⟩ : SymT).cells) rfl rfl rfl (fun a' c' => by ((repeat constructor);done)) (Own.rd (by ((repeat constructor);done)) rfl (Nat.le_refl _)) (one_sym _) (by omega) (by omega) rfl rfl rfl rfl (fun a' c' hac => ?_)
 (refine RT.nil ?_; refine AtQ.eff (fun w h => Sat.ones (by (repeat (first|exact Fr.nil|(apply Fr.cons;focus ((repeat constructor);done))))) h) ?_)
 (refine DT.takes (k := 1) [14, 15] [16] (fun w h => Sat.ones (by (repeat (first|exact Fr.nil|(apply Fr.cons;focus ((repeat constructor);done))))) h) (by kernel_rfl) (by kernel_rfl) (by kernel_rfl) rfl (Clos.ofB (by kernel_rfl)) ?_)
 repeat' (first|(refine gv ?_;first|refine RT.id ?_|(refine⟨fun hc=>?_,fun hc=>?_⟩<;>first|(exfalso;omega)|skip)|refine gk ?_|refine num_m fun r hr=>?_|intro r hr)|refine gs ?_|(refine gb ?_;intro b)|refine gn ?_|(refine RT.isPush ?_;refine gp ?_;intro a' c' b' c1' hac)|refine gc ?_|fail)
 refine AtQ.take ?_
 (refine DT.eff 16 rfl (by kernel_rfl) ?_)
 repeat' (first|(refine gv ?_;first|refine RT.id ?_|(refine⟨fun hc=>?_,fun hc=>?_⟩<;>first|(exfalso;omega)|skip)|refine gk ?_|refine num_m fun r hr=>?_|intro r hr)|refine gs ?_|(refine gb ?_;intro b)|refine gn ?_|(refine RT.isPush ?_;refine gp ?_;intro a' c' b' c1' hac)|refine gc ?_|fail)
 refine AtQ.eff' (by kernel_rfl) ?_
 (refine DT.done (by kernel_rfl) ?_)
 repeat' (first|(refine gv ?_;first|refine RT.id ?_|(refine⟨fun hc=>?_,fun hc=>?_⟩<;>first|(exfalso;omega)|skip)|refine gk ?_|refine num_m fun r hr=>?_|intro r hr)|refine gs ?_|(refine gb ?_;intro b)|refine gn ?_|(refine RT.isPush ?_;refine gp ?_;intro a' c' b' c1' hac)|refine gc ?_|fail)
 refine AtQ.fin0 Tryz.results108 (H' := lst b fl a' c' (l ++ [⟨s, k, fl⟩])) ⟨rfl, a', c', rfl⟩ (fun w h => ?_) _ (by first | exact .inl rfl | exact .inr rfl)
 unfold lst
 rw [List.length_append, List.length_singleton, List.flatMap_append, List.flatMap_singleton]
 exact h.tail
end Go.Proofs.YtdemnhdoadjhhaaGreatDoor
end
section
namespace Go.Proofs.YtdemnhdoadjhhaaGreatDoor
open Go.Sk
theorem bef_t {s t : SymT} : befB s t = true ↔ ltL s.full t.full = true ∨ s.full = t.full ∧ s.sort < t.sort := by
 unfold befB
 by_cases h : s.full = t.full
 ·rw [if_pos h, h, ltL_irr]; simp
 ·rw [if_neg h]; simp [h]
theorem bef_f {s t : SymT} : befB s t = false ↔ ltL s.full t.full = false ∧ (s.full = t.full → t.sort ≤ s.sort) := by
 rw [Bool.eq_false_iff, ne_eq, bef_t]
 constructor
 ·intro h
  exact ⟨Bool.eq_false_iff.2 fun h' => h (.inl h'), fun he => by
   by_cases h2 : s.sort < t.sort
   ·exact absurd (.inr ⟨he, h2⟩) h
   ·omega⟩
 ·rintro ⟨h1, h2⟩ (h | ⟨h, h3⟩)
  ·rw [h1] at h; cases h
  ·have := h2 h; omega
theorem bef_wk : Wk befB where
 asy := fun {x y} h => by
  rw [bef_t] at h
  rw [bef_f]
  rcases h with h | ⟨h1, h2⟩
  ·exact ⟨ltL_asy h, fun e => by rw [e, ltL_irr] at h; cases h⟩
  ·exact ⟨by rw [h1, ltL_irr], fun _ => by omega⟩
 tr := fun {x y z} h1 h2 => by
  rw [bef_f] at h1 h2 ⊢
  obtain ⟨a1, a2⟩ := h1
  obtain ⟨b1, b2⟩ := h2
  by_cases e1 : y.full = x.full
  ·by_cases e2 : z.full = y.full
   ·exact ⟨by rw [e2, e1, ltL_irr], fun _ => by have := a2 e1; have := b2 e2; omega⟩
   ·exact ⟨by rw [← e1]; exact b1, fun e => absurd (e.trans e1.symm) e2⟩
  ·have c1 : ltL x.full y.full = true := by
    cases hh : ltL x.full y.full with
    | true => rfl
    | false => exact absurd (ltL_tot a1 hh) e1
   by_cases e2 : z.full = y.full
   ·exact ⟨by rw [e2]; exact a1, fun e => absurd (e2.symm.trans e) e1⟩
   ·have c2 : ltL y.full z.full = true := by
     cases hh : ltL y.full z.full with
     | true => rfl
     | false => exact absurd (ltL_tot b1 hh) e2
    have c3 := ltL_tr c1 c2
    exact ⟨ltL_asy c3, fun e => by rw [e, ltL_irr] at c3; cases c3⟩
end Go.Proofs.YtdemnhdoadjhhaaGreatDoor
end
section
namespace Go.Proofs.YtdemnhdoadjhhaaGreatDoor
open Go.Sk
set_option maxRecDepth 100000
def cmpT (x y : Txt) : Int := if ltL x y = true then -1 else if ltL y x = true then 1 else 0
def cmpI (x y : Int) : Int := if x < y then -1 else if y < x then 1 else 0
def cmpV (s t : SymT) : Int := if cmpT s.full t.full ≠ 0 then cmpT s.full t.full else cmpI s.sort t.sort
theorem cmpV_lt (s t : SymT) : cmpV s t < 0 ↔ befB s t = true := by
 rw [bef_t]
 unfold cmpV cmpT cmpI
 cases h1 : ltL s.full t.full with
 | true => simp
 | false =>
  cases h2 : ltL t.full s.full with
  | true =>
   have hne : s.full ≠ t.full := fun e => by rw [e, ltL_irr] at h2; cases h2
   simp [hne]
  | false =>
   have he := ltL_tot h1 h2
   simp only [he, Bool.false_eq_true, if_false, ne_eq, not_true, true_and, false_or]
   split
   ·simp [*]
   ·split <;> constructor <;> intro h <;> omega
theorem cmpV_f {s t : SymT} (h : ¬ cmpV s t < 0) : befB s t = false := by
 rw [cmpV_lt] at h
 exact Bool.eq_false_iff.2 h
attribute [local irreducible] Cs Own Ex Pu Yld RT LJ QJ AtQ CT Rd QSp Sp FinQ Then LoopQ CutQ DT TakeQ EffQ
variable {B : World} {R : List HP}
theorem nanT_fn {l : Txt} (hb : Byt l) : Sp B Tryz.prog 96 [vS l] R [] (fun v H' => v = .bool false ∧ H' = []) := by
 refine Sp.body Tryz.func96 rfl Tryz.ntmps96 (by simp) ?_
 simp only [argE, List.cons_append, List.nil_append, Nat.zero_add, Nat.reduceAdd]
 repeat' (first|(refine gv ?_;first|refine RT.id ?_|(refine⟨fun hc=>?_,fun hc=>?_⟩<;>first|(exfalso;omega)|skip)|refine gk ?_|refine num_m fun r hr=>?_|intro r hr)|refine gs ?_|(refine gb ?_;intro b)|refine gn ?_|(refine RT.isPush ?_;refine gp ?_;intro a' c' b' c1' hac)|refine gc ?_|fail)
 refine RT.nes (l := l) (l' := l) rfl rfl hb hb rfl rfl (fun he => ?_) (fun he => absurd rfl he)
 repeat' (first|(refine gv ?_;first|refine RT.id ?_|(refine⟨fun hc=>?_,fun hc=>?_⟩<;>first|(exfalso;omega)|skip)|refine gk ?_|refine num_m fun r hr=>?_|intro r hr)|refine gs ?_|(refine gb ?_;intro b)|refine gn ?_|(refine RT.isPush ?_;refine gp ?_;intro a' c' b' c1' hac)|refine gc ?_|fail)
 exact AtQ.f1 Tryz.results96 rfl rfl (fun w h => h)
theorem nanS_fn {x : Int} : Sp B Tryz.prog 97 [.int .u8 x] R [] (fun v H' => v = .bool false ∧ H' = []) := by
 refine Sp.body Tryz.func97 rfl Tryz.ntmps97 (by simp) ?_
 simp only [argE, List.cons_append, List.nil_append, Nat.zero_add, Nat.reduceAdd]
 repeat' (first|(refine gv ?_;first|refine RT.id ?_|(refine⟨fun hc=>?_,fun hc=>?_⟩<;>first|(exfalso;omega)|skip)|refine gk ?_|refine num_m fun r hr=>?_|intro r hr)|refine gs ?_|(refine gb ?_;intro b)|refine gn ?_|(refine RT.isPush ?_;refine gp ?_;intro a' c' b' c1' hac)|refine gc ?_|fail)
 exact AtQ.f1 Tryz.results97 rfl rfl (fun w h => h)
theorem cmpT_fn {x y : Txt} (hx : Byt x) (hy : Byt y) : Sp B Tryz.prog 44 [vS x, vS y] R [] (fun v H' => v = .int .i64 (cmpT x y) ∧ H' = []) := by
 refine Sp.body Tryz.func44 rfl Tryz.ntmps44 (by simp) ?_
 simp only [argE, List.cons_append, List.nil_append, Nat.zero_add, Nat.reduceAdd]
 unfold cmpT
 repeat' (first|(refine gv ?_;first|refine RT.id ?_|(refine⟨fun hc=>?_,fun hc=>?_⟩<;>first|(exfalso;omega)|skip)|refine gk ?_|refine num_m fun r hr=>?_|intro r hr)|refine gs ?_|(refine gb ?_;intro b)|refine gn ?_|(refine RT.isPush ?_;refine gp ?_;intro a' c' b' c1' hac)|refine gc ?_|fail)
 (refine RT.call T rfl fR_ (nanT_fn hx) rfl rfl rfl ?_; rintro _ _ ⟨rfl, rfl⟩; try simp only [List.cons_append, List.nil_append])
 repeat' (first|(refine gv ?_;first|refine RT.id ?_|(refine⟨fun hc=>?_,fun hc=>?_⟩<;>first|(exfalso;omega)|skip)|refine gk ?_|refine num_m fun r hr=>?_|intro r hr)|refine gs ?_|(refine gb ?_;intro b)|refine gn ?_|(refine RT.isPush ?_;refine gp ?_;intro a' c' b' c1' hac)|refine gc ?_|fail)
 (refine RT.call T rfl fR_ (nanT_fn hy) rfl rfl rfl ?_; rintro _ _ ⟨rfl, rfl⟩; try simp only [List.cons_append, List.nil_append])
 repeat' (first|(refine gv ?_;first|refine RT.id ?_|(refine⟨fun hc=>?_,fun hc=>?_⟩<;>first|(exfalso;omega)|skip)|refine gk ?_|refine num_m fun r hr=>?_|intro r hr)|refine gs ?_|(refine gb ?_;intro b)|refine gn ?_|(refine RT.isPush ?_;refine gp ?_;intro a' c' b' c1' hac)|refine gc ?_|fail)
 refine RT.lts (l := x) (l' := y) rfl rfl hx hy rfl rfl ?_
 cases h1 : ltL x y
 ·repeat' (first|(refine gv ?_;first|refine RT.id ?_|(refine⟨fun hc=>?_,fun hc=>?_⟩<;>first|(exfalso;omega)|skip)|refine gk ?_|refine num_m fun r hr=>?_|intro r hr)|refine gs ?_|(refine gb ?_;intro b)|refine gn ?_|(refine RT.isPush ?_;refine gp ?_;intro a' c' b' c1' hac)|refine gc ?_|fail)
  refine RT.gts (l := x) (l' := y) rfl rfl hx hy rfl rfl ?_
  cases h2 : ltL y x
  ·repeat' (first|(refine gv ?_;first|refine RT.id ?_|(refine⟨fun hc=>?_,fun hc=>?_⟩<;>first|(exfalso;omega)|skip)|refine gk ?_|refine num_m fun r hr=>?_|intro r hr)|refine gs ?_|(refine gb ?_;intro b)|refine gn ?_|(refine RT.isPush ?_;refine gp ?_;intro a' c' b' c1' hac)|refine gc ?_|fail)
   exact AtQ.f1 Tryz.results44 rfl rfl (fun w h => h)
  ·repeat' (first|(refine gv ?_;first|refine RT.id ?_|(refine⟨fun hc=>?_,fun hc=>?_⟩<;>first|(exfalso;omega)|skip)|refine gk ?_|refine num_m fun r hr=>?_|intro r hr)|refine gs ?_|(refine gb ?_;intro b)|refine gn ?_|(refine RT.isPush ?_;refine gp ?_;intro a' c' b' c1' hac)|refine gc ?_|fail)
   exact AtQ.f1 Tryz.results44 rfl rfl (fun w h => h)
 ·repeat' (first|(refine gv ?_;first|refine RT.id ?_|(refine⟨fun hc=>?_,fun hc=>?_⟩<;>first|(exfalso;omega)|skip)|refine gk ?_|refine num_m fun r hr=>?_|intro r hr)|refine gs ?_|(refine gb ?_;intro b)|refine gn ?_|(refine RT.isPush ?_;refine gp ?_;intro a' c' b' c1' hac)|refine gc ?_|fail)
  exact AtQ.f1 Tryz.results44 rfl rfl (fun w h => h)
theorem cmpI_fn {x y : Int} : Sp B Tryz.prog 45 [.int .u8 x, .int .u8 y] R [] (fun v H' => v = .int .i64 (cmpI x y) ∧ H' = []) := by
 refine Sp.body Tryz.func45 rfl Tryz.ntmps45 (by simp) ?_
 simp only [argE, List.cons_append, List.nil_append, Nat.zero_add, Nat.reduceAdd]
 unfold cmpI
 repeat' (first|(refine gv ?_;first|refine RT.id ?_|(refine⟨fun hc=>?_,fun hc=>?_⟩<;>first|(exfalso;omega)|skip)|refine gk ?_|refine num_m fun r hr=>?_|intro r hr)|refine gs ?_|(refine gb ?_;intro b)|refine gn ?_|(refine RT.isPush ?_;refine gp ?_;intro a' c' b' c1' hac)|refine gc ?_|fail)
 (refine RT.call T rfl fR_ (nanS_fn) rfl rfl rfl ?_; rintro _ _ ⟨rfl, rfl⟩; try simp only [List.cons_append, List.nil_append])
 repeat' (first|(refine gv ?_;first|refine RT.id ?_|(refine⟨fun hc=>?_,fun hc=>?_⟩<;>first|(exfalso;omega)|skip)|refine gk ?_|refine num_m fun r hr=>?_|intro r hr)|refine gs ?_|(refine gb ?_;intro b)|refine gn ?_|(refine RT.isPush ?_;refine gp ?_;intro a' c' b' c1' hac)|refine gc ?_|fail)
 (refine RT.call T rfl fR_ (nanS_fn) rfl rfl rfl ?_; rintro _ _ ⟨rfl, rfl⟩; try simp only [List.cons_append, List.nil_append])
 repeat' (first|(refine gv ?_;first|refine RT.id ?_|(refine⟨fun hc=>?_,fun hc=>?_⟩<;>first|(exfalso;omega)|skip)|refine gk ?_|refine num_m fun r hr=>?_|intro r hr)|refine gs ?_|(refine gb ?_;intro b)|refine gn ?_|(refine RT.isPush ?_;refine gp ?_;intro a' c' b' c1' hac)|refine gc ?_|fail)
 ·exact AtQ.f1 Tryz.results45 rfl (by rw [if_pos (by omega)]) (fun w h => h)
 ·exact AtQ.f1 Tryz.results45 rfl (by rw [if_neg (by omega), if_pos (by omega)]) (fun w h => h)
 ·exact AtQ.f1 Tryz.results45 rfl (by rw [if_neg (by omega), if_neg (by omega)]) (fun w h => h)
theorem or_fn {a : Option Addr} {c : Nat} {p q : Int} (hr : Rd B R a 2 c 1 (ints .i64 [p, q])) : Sp B Tryz.prog 43 [.slice a 2 c] R [] (fun v H' => v = .int .i64 (if p ≠ 0 then p else q) ∧ H' = []) := by
 refine Sp.body Tryz.func43 rfl Tryz.ntmps43 (by simp) ?_
 simp only [argE, List.cons_append, List.nil_append, Nat.zero_add, Nat.reduceAdd]
 repeat' (first|(refine gv ?_;first|refine RT.id ?_|(refine⟨fun hc=>?_,fun hc=>?_⟩<;>first|(exfalso;omega)|skip)|refine gk ?_|refine num_m fun r hr=>?_|intro r hr)|refine gs ?_|(refine gb ?_;intro b)|refine gn ?_|(refine RT.isPush ?_;refine gp ?_;intro a' c' b' c1' hac)|refine gc ?_|fail)
 refine CT.loop (α := Nat) (fun i => [(3, .int .i64 0), (6, .slice a 2 c), (7, .int .i64 2), (8, .int .i64 i)]) (fun i => Pu (i ≤ 2 ∧ (1 ≤ i → p = 0) ∧ (2 ≤ i → q = 0)) :: R) (fun i => 2 - i) 0 ⟨rfl, rfl, rfl, rfl, trivial⟩
  (fun w h => Sat.pu_in ⟨by omega, by omega, by omega⟩ h) (fun i => CT.pu fun ⟨h1, h2, h3⟩ => ?_)
 repeat' (first|(refine gv ?_;first|refine RT.id ?_|(refine⟨fun hc=>?_,fun hc=>?_⟩<;>first|(exfalso;omega)|skip)|refine gk ?_|refine num_m fun r hr=>?_|intro r hr)|refine gs ?_|(refine gb ?_;intro b)|refine gn ?_|(refine RT.isPush ?_;refine gp ?_;intro a' c' b' c1' hac)|refine gc ?_|fail)
 ·have hi : i = 0 ∨ i = 1 := by omega
  refine RT.ix T (j := i) rfl rfl rfl (by repeat (first | exact (hr) | apply Rd.cons)) (by omega) (by omega) (by omega) rfl rfl ?_
  refine RT.ldi T (l := [p, q]) rfl (by repeat (first | exact (hr) | apply Rd.cons)) (by simp; omega) rfl rfl rfl ?_
  rcases hi with rfl | rfl
  ·rw [show List.getD [p, q] 0 0 = p from rfl]
   repeat' (first|(refine gv ?_;first|refine RT.id ?_|(refine⟨fun hc=>?_,fun hc=>?_⟩<;>first|(exfalso;omega)|skip)|refine gk ?_|refine num_m fun r hr=>?_|intro r hr)|refine gs ?_|(refine gb ?_;intro b)|refine gn ?_|(refine RT.isPush ?_;refine gp ?_;intro a' c' b' c1' hac)|refine gc ?_|fail)
   ·exact AtQ.loop 1 ⟨rfl, rfl, rfl, rfl, trivial⟩ (fun w h => Sat.pu_in ⟨by omega, by omega, by omega⟩ h) (by omega)
   ·exact AtQ.f1 Tryz.results43 rfl (by rw [if_pos (by omega)]) (fun w h => h)
  ·rw [show List.getD [p, q] 1 0 = q from rfl]
   repeat' (first|(refine gv ?_;first|refine RT.id ?_|(refine⟨fun hc=>?_,fun hc=>?_⟩<;>first|(exfalso;omega)|skip)|refine gk ?_|refine num_m fun r hr=>?_|intro r hr)|refine gs ?_|(refine gb ?_;intro b)|refine gn ?_|(refine RT.isPush ?_;refine gp ?_;intro a' c' b' c1' hac)|refine gc ?_|fail)
   ·exact AtQ.loop 2 ⟨rfl, rfl, rfl, rfl, trivial⟩ (fun w h => Sat.pu_in ⟨by omega, by omega, by omega⟩ h) (by omega)
   ·exact AtQ.f1 Tryz.results43 rfl (by rw [if_neg (by omega)]) (fun w h => h)
 ·exact AtQ.f1 Tryz.results43 rfl (by rw [if_neg (by omega), h3 (by omega)]) (fun w h => h)
theorem cmp_fn {s t : SymT} (hs : s.Ok) (ht : t.Ok) : Sp B Tryz.prog 42 [.agg s.cells.toArray, .agg t.cells.toArray] R [] (fun v H' => v = .int .i64 (cmpV s t) ∧ H' = []) := by
 obtain ⟨sf, sk, sl⟩ := s
 obtain ⟨tf, tk, tl⟩ := t
 obtain ⟨s1, s2, s3⟩ := hs
 obtain ⟨t1, t2, t3⟩ := ht
 dsimp only [SymT.cells] at *
 unfold cmpV
 dsimp only
 refine Sp.body Tryz.func42 rfl Tryz.ntmps42 (by simp) ?_
 simp only [argE, List.cons_append, List.nil_append, Nat.zero_add, Nat.reduceAdd]
 repeat' (first|(refine gv ?_;first|refine RT.id ?_|(refine⟨fun hc=>?_,fun hc=>?_⟩<;>first|(exfalso;omega)|skip)|refine gk ?_|refine num_m fun r hr=>?_|intro r hr)|refine gs ?_|(refine gb ?_;intro b)|refine gn ?_|(refine RT.isPush ?_;refine gp ?_;intro a' c' b' c1' hac)|(refine CT.id_ ?_;first|refine nx ?_|refine CT.region ?_|refine CT.cond_t rfl ?_|refine CT.cond_f rfl ?_))
 rename_i b1
 revert b1 b
 intro b1 b2
 refine CT.drawn [Cs b1 79 [vS sf, .int .u8 sk, vS sl], Cs b2 79 [vS tf, .int .u8 tk, vS tl]] 12 mixed ?_
 (refine DT.takes (k := 5) [0, 1, 2, 3, 5, 6, 7, 8] [4, 9, 10, 11, 12] (fun w h => Sat.ones (by (repeat (first|exact Fr.nil|(apply Fr.cons;focus ((repeat constructor);done))))) h) (by kernel_rfl) (by kernel_rfl) (by kernel_rfl) rfl (Clos.ofB (by kernel_rfl)) ?_)
 repeat' (first|(refine gv ?_;first|refine RT.id ?_|(refine⟨fun hc=>?_,fun hc=>?_⟩<;>first|(exfalso;omega)|skip)|refine gk ?_|refine num_m fun r hr=>?_|intro r hr)|refine gs ?_|(refine gb ?_;intro b)|refine gn ?_|(refine RT.isPush ?_;refine gp ?_;intro a' c' b' c1' hac)|refine gc ?_|fail)
 refine AtQ.take ?_
 (refine DT.eff 4 rfl (by kernel_rfl) ?_)
 (refine RT.call T rfl fR_ (cmpT_fn s1 t1) rfl rfl rfl ?_; rintro _ _ ⟨rfl, rfl⟩; try simp only [List.cons_append, List.nil_append])
 (refine RT.nil ?_; refine AtQ.eff (fun w h => Sat.ones (by (repeat (first|exact Fr.nil|(apply Fr.cons;focus ((repeat constructor);done))))) h) ?_)
 (refine DT.eff 9 rfl (by kernel_rfl) ?_)
 (refine RT.call T rfl fR_ (cmpI_fn (x := sk) (y := tk)) rfl rfl rfl ?_; rintro _ _ ⟨rfl, rfl⟩; try simp only [List.cons_append, List.nil_append])
 (refine RT.nil ?_; refine AtQ.eff (fun w h => Sat.ones (by (repeat (first|exact Fr.nil|(apply Fr.cons;focus ((repeat constructor);done))))) h) ?_)
 (refine DT.eff 10 rfl (by kernel_rfl) ?_)
 refine RT.bs T (l := [.int .i64 (cmpT sf tf), .int .i64 (cmpI sk tk)]) rfl rfl rfl rfl rfl rfl rfl (fun a9 c9 h9 => ?_)
 (refine RT.nil ?_; refine AtQ.eff (fun w h => Sat.ones (by (repeat (first|exact Fr.nil|(apply Fr.cons;focus ((repeat constructor);done))))) h) ?_)
 (refine DT.eff 11 rfl (by kernel_rfl) ?_)
 (refine RT.call T rfl fR_ (or_fn (a := a9) (c := c9) (p := cmpT sf tf) (q := cmpI sk tk) (Own.rd (by ((repeat constructor);done)) rfl h9)) rfl rfl rfl ?_; rintro _ _ ⟨rfl, rfl⟩; try simp only [List.cons_append, List.nil_append])
 (refine RT.nil ?_; refine AtQ.eff (fun w h => Sat.ones (by (repeat (first|exact Fr.nil|(apply Fr.cons;focus ((repeat constructor);done))))) h) ?_)
 (refine DT.eff 12 rfl (by kernel_rfl) ?_)
 repeat' (first|(refine gv ?_;first|refine RT.id ?_|(refine⟨fun hc=>?_,fun hc=>?_⟩<;>first|(exfalso;omega)|skip)|refine gk ?_|refine num_m fun r hr=>?_|intro r hr)|refine gs ?_|(refine gb ?_;intro b)|refine gn ?_|(refine RT.isPush ?_;refine gp ?_;intro a' c' b' c1' hac)|refine gc ?_|fail)
 refine AtQ.eff' (by kernel_rfl) ?_
 (refine DT.done (by kernel_rfl) ?_)
 repeat' (first|(refine gv ?_;first|refine RT.id ?_|(refine⟨fun hc=>?_,fun hc=>?_⟩<;>first|(exfalso;omega)|skip)|refine gk ?_|refine num_m fun r hr=>?_|intro r hr)|refine gs ?_|(refine gb ?_;intro b)|refine gn ?_|(refine RT.isPush ?_;refine gp ?_;intro a' c' b' c1' hac)|refine gc ?_|fail)
 exact AtQ.f1 (HH := []) Tryz.results42 rfl rfl dR_
end Go.Proofs.YtdemnhdoadjhhaaGreatDoor
end
section
namespace Go.Proofs.YtdemnhdoadjhhaaGreatDoor
open Go.Sk
set_option maxRecDepth 100000
theorem flat_set {α : Type} {f : α → List Value} {z : Nat} (hz : ∀ x, (f x).length = z) : ∀ {l : List α} {k : Nat} (y : α), k < l.length → (l.flatMap f).take (k * z) ++ f y ++ (l.flatMap f).drop (k * z + z) = (l.set k y).flatMap f
 | [], k, y, h => by simp at h
 | x :: l, 0, y, h => by
  rw [Nat.zero_mul, List.take_zero, Nat.zero_add, List.set_cons_zero, List.flatMap_cons, List.flatMap_cons, List.nil_append]
  congr 1
  exact List.drop_left' (hz x)
 | x :: l, k + 1, y, h => by
  have e : (k + 1) * z = z + k * z := by rw [Nat.add_mul, Nat.one_mul, Nat.add_comm]
  rw [List.set_cons_succ, List.flatMap_cons, List.flatMap_cons, ← flat_set hz y (show k < l.length by simp at h; omega), e]
  have e1 : (f x ++ l.flatMap f).take (z + k * z) = f x ++ (l.flatMap f).take (k * z) := by
   rw [List.take_append, hz, Nat.add_sub_cancel_left, List.take_of_length_le (by rw [hz]; omega)]
  have e2 : (f x ++ l.flatMap f).drop (z + k * z + z) = (l.flatMap f).drop (k * z + z) := by
   rw [List.drop_append, hz, List.drop_of_length_le (by rw [hz]; omega), List.nil_append]
   congr 1
   omega
  rw [e1, e2]
  simp only [List.append_assoc]
theorem sym_len (x : SymT) : x.cells.length = 3 := rfl
theorem own_rd {B : World} {H R : List HP} {a : Option Addr} {c : Nat} {e : TypeId} {l : List SymT} (hs : Sel H (Own a c e 3 l.length (l.flatMap SymT.cells)) R) (hc : l.length ≤ c) : Rd B H a l.length c 3 (l.flatMap SymT.cells) := Own.rd hs (flat_len sym_len l) hc
/-! ### symbols are texts -/
end Go.Proofs.YtdemnhdoadjhhaaGreatDoor
end
section
namespace Go.Proofs.YtdemnhdoadjhhaaGreatDoor
open Go.Sk
set_option maxRecDepth 100000
abbrev sO (a : Option Addr) (c N : Nat) (l : List SymT) : HP := Own a c 79 3 N (l.flatMap SymT.cells)
theorem sO_rd {B : World} {H R : List HP} {a : Option Addr} {c N : Nat} {l : List SymT} (hs : Sel H (sO a c N l) R) (hN : l.length = N) (hNc : N ≤ c) : Rd B H a N c 3 (l.flatMap SymT.cells) := Own.rd hs (by rw [flat_len sym_len, hN]) hNc
theorem swap_round {A X M Y C : List SymT} {i : Nat} {x y : SymT} (hx : X[i]? = some x) (hy : Y[i]? = some y) :
  A ++ Y.take i ++ X.drop i ++ M ++ X.take i ++ Y.drop i ++ C = (A ++ Y.take i) ++ x :: ((X.drop (i + 1) ++ M ++ X.take i) ++ y :: (Y.drop (i + 1) ++ C)) ∧
  A ++ Y.take (i + 1) ++ X.drop (i + 1) ++ M ++ X.take (i + 1) ++ Y.drop (i + 1) ++ C = (A ++ Y.take i) ++ y :: ((X.drop (i + 1) ++ M ++ X.take i) ++ x :: (Y.drop (i + 1) ++ C)) := by
 obtain ⟨hi, ex⟩ := List.getElem?_eq_some_iff.1 hx
 obtain ⟨hj, ey⟩ := List.getElem?_eq_some_iff.1 hy
 rw [List.drop_eq_getElem_cons hi, List.drop_eq_getElem_cons hj, ex, ey, List.take_add_one, List.take_add_one, hx, hy]
 simp
attribute [local irreducible] Cs Own Ex Pu Yld RT LJ QJ AtQ CT Rd QSp Sp FinQ Then LoopQ CutQ DT TakeQ EffQ
variable {B : World} {R : List HP}
set_option maxHeartbeats 4000000 in
theorem swap_fn {a : Option Addr} {c N : Nat} {A X M Y C D D' : List SymT} {p q k : Int} {f : Value} (hD : D = A ++ X ++ M ++ Y ++ C) (hD' : D' = A ++ Y ++ M ++ X ++ C) (hN : D.length = N) (hNc : N ≤ c) (hb : N ≤ 1073741824)
  (hp : p = A.length) (hq : q = A.length + X.length + M.length) (hk : k = X.length) (hxy : X.length = Y.length) :
  Sp B Tryz.prog 168 [.slice a N c, .int .i64 p, .int .i64 q, .int .i64 k, f] R [sO a c N D] (fun v H' => v = .tuple #[] ∧ H' = [sO a c N D']) := by
 have hNl : A.length + X.length + M.length + Y.length + C.length = N := by rw [← hN, hD]; simp only [List.length_append]
 refine Sp.body Tryz.func168 rfl Tryz.ntmps168 (by simp) ?_
 simp only [argE, List.cons_append, List.nil_append, Nat.zero_add, Nat.reduceAdd]
 subst hp hq hk
 repeat' (first|(refine gv ?_;first|refine RT.id ?_|(refine⟨fun hc=>?_,fun hc=>?_⟩<;>first|(exfalso;omega)|skip)|refine gk ?_|refine num_m fun r hr=>?_|intro r hr)|refine gs ?_|(refine gb ?_;intro b)|refine gn ?_|(refine RT.isPush ?_;refine gp ?_;intro a' c' b' c1' hac)|refine gc ?_|fail)
 refine CT.loop (α := Nat) (fun i => [(0, .slice a N c), (1, .int .i64 A.length), (2, .int .i64 (A.length + X.length + M.length)), (3, .int .i64 X.length), (10, .int .i64 i)])
  (fun i => Pu (i ≤ X.length) :: sO a c N (A ++ Y.take i ++ X.drop i ++ M ++ X.take i ++ Y.drop i ++ C) :: R) (fun i => X.length - i) 0
  ⟨rfl, rfl, rfl, rfl, rfl, trivial⟩ (fun w h => Sat.pu_in (Nat.zero_le _) (by simpa [hD] using h)) (fun i => CT.pu fun hi => ?_)
 repeat' (first|(refine gv ?_;first|refine RT.id ?_|(refine⟨fun hc=>?_,fun hc=>?_⟩<;>first|(exfalso;omega)|skip)|refine gk ?_|refine num_m fun r hr=>?_|intro r hr)|refine gs ?_|(refine gb ?_;intro b)|refine gn ?_|(refine RT.isPush ?_;refine gp ?_;intro a' c' b' c1' hac)|(refine CT.id_ ?_;first|refine nx ?_|refine CT.region ?_|refine CT.cond_t rfl ?_|refine CT.cond_f rfl ?_))
 ·have hi' : i < X.length := by omega
  obtain ⟨x, hx⟩ : ∃ x, X[i]? = some x := ⟨_, List.getElem?_eq_getElem hi'⟩
  obtain ⟨y, hy⟩ : ∃ y, Y[i]? = some y := ⟨_, List.getElem?_eq_getElem (by omega)⟩
  obtain ⟨e1, e2⟩ := swap_round (A := A) (M := M) (C := C) hx hy
  have hl1 : (A ++ Y.take i).length = A.length + i := by rw [List.length_append, List.length_take]; omega
  have hl2 : (A ++ Y.take i).length + 1 + (X.drop (i + 1) ++ M ++ X.take i).length = A.length + X.length + M.length + i := by
   rw [hl1]; simp only [List.length_append, List.length_drop, List.length_take]; omega
  have g1 := get_at (x := x) (R := (X.drop (i + 1) ++ M ++ X.take i) ++ y :: (Y.drop (i + 1) ++ C)) hl1
  have g2 := get_at2 (x := x) (y := y) (R := Y.drop (i + 1) ++ C) hl2
  have es := swap_two' (x := x) (y := y) (R := Y.drop (i + 1) ++ C) hl1 hl2
  have hNN : (A ++ Y.take i ++ X.drop i ++ M ++ X.take i ++ Y.drop i ++ C).length = N := by simp only [List.length_append, List.length_drop, List.length_take]; omega
  rw [← e1] at g1 g2 es
  rw [← e2] at es
  clear e1 e2 hl1 hl2
  generalize hDi : A ++ Y.take i ++ X.drop i ++ M ++ X.take i ++ Y.drop i ++ C = Di at *
  refine CT.drawn [sO a c N Di] 21 mixed ?_
  refine DT.mv 4 rfl rfl rfl (by kernel_rfl) (by kernel_rfl) (by kernel_rfl) rfl (Clos.ofB (by kernel_rfl)) (fun w h => Sat.ones (by (repeat (first|exact Fr.nil|(apply Fr.cons;focus ((repeat constructor);done))))) h) ?_
  refine DT.mv 5 rfl rfl rfl (by kernel_rfl) (by kernel_rfl) (by kernel_rfl) rfl (Clos.ofB (by kernel_rfl)) (fun w h => Sat.ones (by (repeat (first|exact Fr.nil|(apply Fr.cons;focus ((repeat constructor);done))))) h) ?_
  refine DT.mv 6 rfl rfl rfl (by kernel_rfl) (by kernel_rfl) (by kernel_rfl) rfl (Clos.ofB (by kernel_rfl)) (fun w h => Sat.ones (by (repeat (first|exact Fr.nil|(apply Fr.cons;focus ((repeat constructor);done))))) h) ?_
  refine DT.add 7 rfl rfl rfl (wr_i64 (by omega) (by omega)) rfl (by kernel_rfl) (by kernel_rfl) (by kernel_rfl) rfl (Clos.ofB (by kernel_rfl)) (fun w h => Sat.ones (by (repeat (first|exact Fr.nil|(apply Fr.cons;focus ((repeat constructor);done))))) h) ?_
  (refine DT.takes (k := 3) [0, 1, 2, 3, 8, 9, 10, 11, 12, 13, 14, 15, 16, 17, 18, 19, 20] [21] (fun w h => Sat.ones (by (repeat (first|exact Fr.nil|(apply Fr.cons;focus ((repeat constructor);done))))) h) (by kernel_rfl) (by kernel_rfl) (by kernel_rfl) rfl (Clos.ofB (by kernel_rfl)) ?_)
  repeat' (first|(refine gv ?_;first|refine RT.id ?_|(refine⟨fun hc=>?_,fun hc=>?_⟩<;>first|(exfalso;omega)|skip)|refine gk ?_|refine num_m fun r hr=>?_|intro r hr)|refine gs ?_|(refine gb ?_;intro b)|refine gn ?_|(refine RT.isPush ?_;refine gp ?_;intro a' c' b' c1' hac)|refine gc ?_|fail)
  refine RT.ix T (j := (A.length + X.length + M.length + i) * 3) rfl rfl rfl (sO_rd (by ((repeat constructor);done)) hNN hNc) (by omega) (by omega) (by omega) rfl rfl ?_
  refine RT.ldra T rfl (sO_rd (by ((repeat constructor);done)) hNN hNc) (l := y.cells) (flat_sub (f := SymT.cells) (z := 3) (fun _ => rfl) Di _ _ g2) rfl rfl rfl rfl ?_
  repeat' (first|(refine gv ?_;first|refine RT.id ?_|(refine⟨fun hc=>?_,fun hc=>?_⟩<;>first|(exfalso;omega)|skip)|refine gk ?_|refine num_m fun r hr=>?_|intro r hr)|refine gs ?_|(refine gb ?_;intro b)|refine gn ?_|(refine RT.isPush ?_;refine gp ?_;intro a' c' b' c1' hac)|refine gc ?_|fail)
  refine RT.ix T (j := (A.length + i) * 3) rfl rfl rfl (sO_rd (by ((repeat constructor);done)) hNN hNc) (by omega) (by omega) (by omega) rfl rfl ?_
  refine RT.ldra T rfl (sO_rd (by ((repeat constructor);done)) hNN hNc) (l := x.cells) (flat_sub (f := SymT.cells) (z := 3) (fun _ => rfl) Di _ _ g1) rfl rfl rfl rfl ?_
  repeat' (first|(refine gv ?_;first|refine RT.id ?_|(refine⟨fun hc=>?_,fun hc=>?_⟩<;>first|(exfalso;omega)|skip)|refine gk ?_|refine num_m fun r hr=>?_|intro r hr)|refine gs ?_|(refine gb ?_;intro b)|refine gn ?_|(refine RT.isPush ?_;refine gp ?_;intro a' c' b' c1' hac)|refine gc ?_|fail)
  refine RT.ix T (j := (A.length + i) * 3) rfl rfl rfl (sO_rd (by ((repeat constructor);done)) hNN hNc) (by omega) (by omega) (by omega) rfl rfl ?_
  repeat' (first|(refine gv ?_;first|refine RT.id ?_|(refine⟨fun hc=>?_,fun hc=>?_⟩<;>first|(exfalso;omega)|skip)|refine gk ?_|refine num_m fun r hr=>?_|intro r hr)|refine gs ?_|(refine gb ?_;intro b)|refine gn ?_|(refine RT.isPush ?_;refine gp ?_;intro a' c' b' c1' hac)|refine gc ?_|fail)
  refine AtQ.take ?_
  (refine DT.eff 21 rfl (by kernel_rfl) ?_)
  refine RT.stoA T (v := y.cells) rfl rfl rfl (by ((repeat constructor);done)) (by rw [flat_len sym_len, hNN, sym_len]; omega) (by rw [sym_len]; decide) rfl rfl rfl ?_
  rw [sym_len, flat_set sym_len _ (by rw [hNN]; omega)]
  (refine RT.nil ?_; refine AtQ.eff' (by kernel_rfl) ?_)
  (refine DT.eff 22 rfl (by kernel_rfl) ?_)
  refine RT.ix T (j := (A.length + X.length + M.length + i) * 3) rfl rfl rfl (sO_rd (by ((repeat constructor);done)) (by rw [List.length_set, hNN]) hNc) (by omega) (by omega) (by omega) rfl rfl ?_
  (refine RT.nil ?_; refine AtQ.eff' (by kernel_rfl) ?_)
  (refine DT.eff 23 rfl (by kernel_rfl) ?_)
  refine RT.stoA T (v := x.cells) rfl rfl rfl (by ((repeat constructor);done)) (by rw [flat_len sym_len, List.length_set, hNN, sym_len]; omega) (by rw [sym_len]; decide) rfl rfl rfl ?_
  rw [sym_len, flat_set sym_len _ (by rw [List.length_set, hNN]; omega), es]
  (refine RT.nil ?_; refine AtQ.eff' (by kernel_rfl) ?_)
  (refine DT.done (by kernel_rfl) ?_)
  repeat' (first|(refine gv ?_;first|refine RT.id ?_|(refine⟨fun hc=>?_,fun hc=>?_⟩<;>first|(exfalso;omega)|skip)|refine gk ?_|refine num_m fun r hr=>?_|intro r hr)|refine gs ?_|(refine gb ?_;intro b)|refine gn ?_|(refine RT.isPush ?_;refine gp ?_;intro a' c' b' c1' hac)|refine gc ?_|fail)
  exact AtQ.loop (i + 1) ⟨rfl, rfl, rfl, rfl, rfl, trivial⟩ (fun w h => Sat.pu_in (by omega) h) (by omega)
 ·have hie : i = X.length := by omega
  subst hie
  refine AtQ.fin0 Tryz.results168 (H' := [sO a c N D']) ⟨rfl, rfl⟩ (fun w h => ?_) _ (by first | exact .inl rfl | exact .inr rfl)
  rw [List.take_of_length_le (by omega : Y.length ≤ X.length), List.drop_of_length_le (by omega : Y.length ≤ X.length), List.take_of_length_le (Nat.le_refl _), List.drop_of_length_le (Nat.le_refl _), List.append_nil, List.append_nil] at h
  rw [hD']
  exact h
end Go.Proofs.YtdemnhdoadjhhaaGreatDoor
end
section
namespace Go.Proofs.YtdemnhdoadjhhaaGreatDoor
open Go.Sk
set_option maxRecDepth 100000
theorem split_len {l : List SymT} {k : Nat} (h : k ≤ l.length) : ∃ a b, l = a ++ b ∧ a.length = k := ⟨l.take k, l.drop k, (List.take_append_drop _ _).symm, by rw [List.length_take]; omega⟩
abbrev cF : Value := .func (.func 42) #[] #[]
attribute [local irreducible] Cs Own Ex Pu Yld RT LJ QJ AtQ CT Rd QSp Sp FinQ Then LoopQ CutQ DT TakeQ EffQ
variable {B : World} {R : List HP}
set_option maxHeartbeats 4000000 in
theorem rotate_fn {a : Option Addr} {c N m : Nat} {A X Y C D D' : List SymT} {p q : Int} {f : Value} (hD : D = A ++ X ++ Y ++ C) (hD' : D' = A ++ Y ++ X ++ C) (hN : D.length = N) (hNc : N ≤ c) (hb : N ≤ 1073741824)
  (hm : A.length + X.length = m) (hp : p = A.length) (hq : q = m + Y.length) (hx : 0 < X.length) (hy : 0 < Y.length) :
  Sp B Tryz.prog 157 [.slice a N c, .int .i64 p, .int .i64 m, .int .i64 q, f] R [sO a c N D] (fun v H' => v = .tuple #[] ∧ H' = [sO a c N D']) := by
 have hNl : A.length + X.length + Y.length + C.length = N := by rw [← hN, hD]; simp only [List.length_append]
 refine Sp.body Tryz.func157 rfl Tryz.ntmps157 (by simp) ?_
 simp only [argE, List.cons_append, List.nil_append, Nat.zero_add, Nat.reduceAdd]
 subst hp hq
 repeat' (first|(refine gv ?_;first|refine RT.id ?_|(refine⟨fun hc=>?_,fun hc=>?_⟩<;>first|(exfalso;omega)|skip)|refine gk ?_|refine num_m fun r hr=>?_|intro r hr)|refine gs ?_|(refine gb ?_;intro b)|refine gn ?_|(refine RT.isPush ?_;refine gp ?_;intro a' c' b' c1' hac)|refine gc ?_|fail)
 refine CT.loop (α := List SymT × List SymT × List SymT × List SymT) (fun s => [(0, .slice a N c), (2, .int .i64 m), (4, f), (10, .int .i64 s.2.1.length), (11, .int .i64 s.2.2.1.length)])
  (fun s => Pu (s.1.length + s.2.1.length = m ∧ D' = s.1 ++ s.2.2.1 ++ s.2.1 ++ s.2.2.2 ∧ 0 < s.2.1.length ∧ 0 < s.2.2.1.length ∧ s.1.length + s.2.1.length + s.2.2.1.length + s.2.2.2.length = N) :: sO a c N (s.1 ++ s.2.1 ++ s.2.2.1 ++ s.2.2.2) :: R) (fun s => s.2.1.length + s.2.2.1.length) (A, X, Y, C)
  ⟨rfl, rfl, rfl, congrArg (fun z : Int => some (Value.int IntKind.i64 z)) (by dsimp only; omega), congrArg (fun z : Int => some (Value.int IntKind.i64 z)) (by dsimp only; omega), trivial⟩
  (fun w h => Sat.pu_in ⟨hm, hD', hx, hy, hNl⟩ (by rw [← hD]; exact h)) (fun s => CT.pu fun hh => ?_)
 obtain ⟨P, X', Y', S⟩ := s
 obtain ⟨h1, h2, h3, h4, h5⟩ := hh
 dsimp only at h1 h2 h3 h4 h5 ⊢
 clear hm hD hD' hx hy hNl hN
 subst h2
 repeat' (first|(refine gv ?_;first|refine RT.id ?_|(refine⟨fun hc=>?_,fun hc=>?_⟩<;>first|(exfalso;omega)|skip)|refine gk ?_|refine num_m fun r hr=>?_|intro r hr)|refine gs ?_|(refine gb ?_;intro b)|refine gn ?_|(refine RT.isPush ?_;refine gp ?_;intro a' c' b' c1' hac)|refine gc ?_|fail)
 ·refine RT.call T rfl (by (repeat (first|exact Fr.nil|(apply Fr.cons;focus ((repeat constructor);done))))) (swap_fn (A := P) (X := X') (M := []) (Y := Y') (C := S) (D' := P ++ Y' ++ X' ++ S) (by simp only [List.append_nil]) (by simp only [List.append_nil]) (by simp only [List.length_append]; omega) hNc hb (by omega) (by simp only [List.length_nil]; omega) (by omega) (by omega)) rfl rfl rfl ?_
  rintro _ _ ⟨rfl, rfl⟩
  simp only [List.cons_append, List.nil_append]
  repeat' (first|(refine gv ?_;first|refine RT.id ?_|(refine⟨fun hc=>?_,fun hc=>?_⟩<;>first|(exfalso;omega)|skip)|refine gk ?_|refine num_m fun r hr=>?_|intro r hr)|refine gs ?_|(refine gb ?_;intro b)|refine gn ?_|(refine RT.isPush ?_;refine gp ?_;intro a' c' b' c1' hac)|refine gc ?_|fail)
  exact AtQ.fin0 Tryz.results157 (H' := [sO a c N (P ++ Y' ++ X' ++ S)]) ⟨rfl, rfl⟩ (fun w h => h) _ (by first | exact .inl rfl | exact .inr rfl)
 ·rename_i hc0
  obtain ⟨X1, X2, rfl, hx1⟩ := split_len (l := X') (k := Y'.length) (by omega)
  simp only [List.length_append] at h1 h3 h4 h5 hc0 hc ⊢
  refine RT.call T rfl (by (repeat (first|exact Fr.nil|(apply Fr.cons;focus ((repeat constructor);done))))) (swap_fn (A := P) (X := X1) (M := X2) (Y := Y') (C := S) (D' := P ++ Y' ++ X2 ++ X1 ++ S) (by simp only [List.append_assoc]) rfl (by simp only [List.length_append]; omega) hNc hb (by omega) (by omega) (by omega) (by omega)) rfl rfl rfl ?_
  rintro _ _ ⟨rfl, rfl⟩
  simp only [List.cons_append, List.nil_append]
  repeat' (first|(refine gv ?_;first|refine RT.id ?_|(refine⟨fun hc=>?_,fun hc=>?_⟩<;>first|(exfalso;omega)|skip)|refine gk ?_|refine num_m fun r hr=>?_|intro r hr)|refine gs ?_|(refine gb ?_;intro b)|refine gn ?_|(refine RT.isPush ?_;refine gp ?_;intro a' c' b' c1' hac)|refine gc ?_|fail)
  exact AtQ.loop (P ++ Y', X2, X1, S) ⟨rfl, rfl, rfl, congrArg (fun z : Int => some (Value.int IntKind.i64 z)) (by dsimp only; omega), congrArg (fun z : Int => some (Value.int IntKind.i64 z)) (by dsimp only; omega), trivial⟩
   (fun w h => Sat.pu_in ⟨by simp only [List.length_append]; omega, by simp only [List.append_assoc], by dsimp only; omega, by dsimp only; omega, by simp only [List.length_append]; omega⟩ h) (by simp only [List.length_append]; omega)
 ·rename_i hc0
  obtain ⟨Y1, Y2, rfl, hy1⟩ := split_len (l := Y') (k := Y'.length - X'.length) (by omega)
  simp only [List.length_append] at h1 h3 h4 h5 hc0 hc hy1 ⊢
  refine RT.call T rfl (by (repeat (first|exact Fr.nil|(apply Fr.cons;focus ((repeat constructor);done))))) (swap_fn (A := P) (X := X') (M := Y1) (Y := Y2) (C := S) (D' := P ++ Y2 ++ Y1 ++ X' ++ S) (by simp only [List.append_assoc]) rfl (by simp only [List.length_append]; omega) hNc hb (by omega) (by omega) (by omega) (by omega)) rfl rfl rfl ?_
  rintro _ _ ⟨rfl, rfl⟩
  simp only [List.cons_append, List.nil_append]
  repeat' (first|(refine gv ?_;first|refine RT.id ?_|(refine⟨fun hc=>?_,fun hc=>?_⟩<;>first|(exfalso;omega)|skip)|refine gk ?_|refine num_m fun r hr=>?_|intro r hr)|refine gs ?_|(refine gb ?_;intro b)|refine gn ?_|(refine RT.isPush ?_;refine gp ?_;intro a' c' b' c1' hac)|refine gc ?_|fail)
  exact AtQ.loop (P, Y2, Y1, X' ++ S) ⟨rfl, rfl, rfl, congrArg (fun z : Int => some (Value.int IntKind.i64 z)) (by dsimp only; omega), congrArg (fun z : Int => some (Value.int IntKind.i64 z)) (by dsimp only; omega), trivial⟩
   (fun w h => Sat.pu_in ⟨by dsimp only; omega, by simp only [List.append_assoc], by dsimp only; omega, by dsimp only; omega, by simp only [List.length_append]; omega⟩ (by simpa only [List.append_assoc] using h)) (by simp only [List.length_append]; omega)
end Go.Proofs.YtdemnhdoadjhhaaGreatDoor
end
section
namespace Go.Proofs.YtdemnhdoadjhhaaGreatDoor
open Go.Sk
set_option maxRecDepth 100000
theorem ins_step {A S C : List SymT} {x z : SymT} {k : Nat} (hz : S[k]? = some z) :
  A ++ S.take (k + 1) ++ x :: (S.drop (k + 1) ++ C) = (A ++ S.take k) ++ z :: ([] ++ x :: (S.drop (k + 1) ++ C)) ∧
  A ++ S.take k ++ x :: (S.drop k ++ C) = (A ++ S.take k) ++ x :: ([] ++ z :: (S.drop (k + 1) ++ C)) := by
 obtain ⟨hi, e⟩ := List.getElem?_eq_some_iff.1 hz
 rw [List.take_add_one, hz, List.drop_eq_getElem_cons hi, e]
 simp
attribute [local irreducible] Cs Own Ex Pu Yld RT LJ QJ AtQ CT Rd QSp Sp FinQ Then LoopQ CutQ DT TakeQ EffQ
variable {B : World} {R : List HP}
set_option maxHeartbeats 8000000 in
theorem ins_fn {a : Option Addr} {c N : Nat} {A X C D : List SymT} {p q : Int} (hD : D = A ++ X ++ C) (hN : D.length = N) (hNc : N ≤ c) (hb : N ≤ 1073741824) (hp : p = A.length) (hq : q = A.length + X.length) (hok : ∀ s ∈ X, s.Ok) :
  Sp B Tryz.prog 128 [.slice a N c, .int .i64 p, .int .i64 q, cF] R [sO a c N D] (fun v H' => v = .tuple #[] ∧ ∃ X', X'.Perm X ∧ Srt befB X' ∧ H' = [sO a c N (A ++ X' ++ C)]) := by
 have hNl : A.length + X.length + C.length = N := by rw [← hN, hD]; simp only [List.length_append]
 subst hp hq
 refine Sp.body Tryz.func128 rfl Tryz.ntmps128 (by simp) ?_
 simp only [argE, List.cons_append, List.nil_append, Nat.zero_add, Nat.reduceAdd]
 cases X with
 | nil =>
  simp only [List.length_nil] at hNl ⊢
  repeat' (first|(refine gv ?_;first|refine RT.id ?_|(refine⟨fun hc=>?_,fun hc=>?_⟩<;>first|(exfalso;omega)|skip)|refine gk ?_|refine num_m fun r hr=>?_|intro r hr)|refine gs ?_|(refine gb ?_;intro b)|refine gn ?_|(refine RT.isPush ?_;refine gp ?_;intro a' c' b' c1' hac)|(refine CT.id_ ?_;refine CT.loop0 ?_)|refine gc ?_|fail)
  exact AtQ.fin0 Tryz.results128 (H' := [sO a c N (A ++ [] ++ C)]) ⟨rfl, [], List.Perm.refl _, Srt.nil, rfl⟩ (fun w h => by rw [← hD]; exact h) _ (by first | exact .inl rfl | exact .inr rfl)
 | cons x0 X0 =>
 generalize hX : x0 :: X0 = X at *
 have hX1 : 1 ≤ X.length := by rw [← hX]; simp
 have hX0 : X = [x0] ++ X.drop 1 := by rw [← hX]; rfl
 repeat' (first|(refine gv ?_;first|refine RT.id ?_|(refine⟨fun hc=>?_,fun hc=>?_⟩<;>first|(exfalso;omega)|skip)|refine gk ?_|refine num_m fun r hr=>?_|intro r hr)|refine gs ?_|(refine gb ?_;intro b)|refine gn ?_|(refine RT.isPush ?_;refine gp ?_;intro a' c' b' c1' hac)|refine gc ?_|fail)
 refine CT.loop (α := List SymT) (fun s => [(0, .slice a N c), (1, .int .i64 A.length), (2, .int .i64 (A.length + X.length)), (3, cF), (8, .int .i64 (A.length + s.length))])
  (fun s => Pu (s.length ≤ X.length ∧ s.Perm (X.take s.length) ∧ Srt befB s) :: sO a c N (A ++ s ++ (X.drop s.length ++ C)) :: R) (fun s => X.length - s.length) [x0]
  ⟨rfl, rfl, rfl, rfl, rfl, trivial⟩
  (fun w h => Sat.pu_in ⟨hX1, by rw [← hX]; exact List.Perm.refl _, Srt.one⟩ (by
   have e : A ++ [x0] ++ (X.drop [x0].length ++ C) = D := by rw [hD]; conv => { rhs; rw [hX0] }; simp
   rw [e]; exact h)) (fun s => CT.pu fun ⟨h1, h2, h3⟩ => ?_)
 clear hX hX0 hD hN
 repeat' (first|(refine gv ?_;first|refine RT.id ?_|(refine⟨fun hc=>?_,fun hc=>?_⟩<;>first|(exfalso;omega)|skip)|refine gk ?_|refine num_m fun r hr=>?_|intro r hr)|refine gs ?_|(refine gb ?_;intro b)|refine gn ?_|(refine RT.isPush ?_;refine gp ?_;intro a' c' b' c1' hac)|(refine CT.id_ ?_;first|refine CT.seqN 4 rfl ?_|refine CT.blockN 4 rfl ?_|refine CT.region ?_|refine CT.quiet mixed (by kernel_rfl) ?_|refine CT.cond_t rfl ?_|refine CT.cond_f rfl ?_|refine CT.skip ?_|refine CT.ret ?_|refine CT.exit ?_))
 ·have hi : s.length < X.length := by omega
  obtain ⟨x, hx⟩ : ∃ x, X[s.length]? = some x := ⟨_, List.getElem?_eq_getElem hi⟩
  have hxd : X.drop s.length = x :: X.drop (s.length + 1) := by
   obtain ⟨hj, e⟩ := List.getElem?_eq_some_iff.1 hx
   rw [List.drop_eq_getElem_cons hj, e]
  have hxok := hok x (List.mem_of_getElem? hx)
  have hsok : ∀ z ∈ s, z.Ok := fun z hz => hok z (List.mem_of_mem_take (h2.mem_iff.1 hz))
  have hdl : (X.drop (s.length + 1)).length = X.length - (s.length + 1) := List.length_drop
  have hpm : ∀ k, (s.take k ++ x :: s.drop k).Perm (X.take (s.length + 1)) := fun k => by
   have e : X.take (s.length + 1) = X.take s.length ++ [x] := by rw [List.take_add_one, hx]; rfl
   rw [e]
   refine List.perm_middle.trans ?_
   rw [List.take_append_drop]
   exact (List.Perm.cons x h2).trans (List.perm_append_comm (l₁ := [x]) (l₂ := X.take s.length))
  rw [hxd]
  generalize hC : X.drop (s.length + 1) ++ C = C'
  have hCl : C'.length = X.length - (s.length + 1) + C.length := by rw [← hC, List.length_append, hdl]
  refine CT.block ?_
  refine CT.loop (α := Nat) (fun k => [(0, .slice a N c), (1, .int .i64 A.length), (2, .int .i64 (A.length + X.length)), (3, cF), (8, .int .i64 (A.length + s.length)), (9, .int .i64 (A.length + k))])
   (fun k => Pu (k ≤ s.length ∧ ∀ z ∈ s.drop k, befB x z = true) :: sO a c N (A ++ s.take k ++ x :: (s.drop k ++ C')) :: R) (fun k => k) s.length
   ⟨rfl, rfl, rfl, rfl, rfl, rfl, trivial⟩ (fun w h => Sat.pu_in ⟨Nat.le_refl _, by simp⟩ (by rw [← hC]; simpa using h)) (fun k => CT.pu fun ⟨hk, hkx⟩ => ?_)
  have hNN : (A ++ s.take k ++ x :: (s.drop k ++ C')).length = N := by simp only [List.length_append, List.length_cons, List.length_take, List.length_drop]; omega
  have hlt : (A ++ s.take k).length = A.length + k := by rw [List.length_append, List.length_take]; omega
  have gx := get_at (x := x) (R := s.drop k ++ C') hlt
  repeat' (first|(refine gv ?_;first|refine RT.id ?_|(refine⟨fun hc=>?_,fun hc=>?_⟩<;>first|(exfalso;omega)|skip)|refine gk ?_|refine num_m fun r hr=>?_|intro r hr)|refine gs ?_|(refine gb ?_;intro b)|refine gn ?_|(refine RT.isPush ?_;refine gp ?_;intro a' c' b' c1' hac)|(refine CT.id_ ?_;first|refine nx ?_|refine CT.region ?_|refine CT.cond_t rfl ?_|refine CT.cond_f rfl ?_))
  refine CT.tail 14 mixed (by kernel_rfl) ?_
  dsimp only [List.take_succ_cons, List.take_zero]
  repeat' (first|(refine gv ?_;first|refine RT.id ?_|(refine⟨fun hc=>?_,fun hc=>?_⟩<;>first|(exfalso;omega)|skip)|refine gk ?_|refine num_m fun r hr=>?_|intro r hr)|refine gs ?_|(refine gb ?_;intro b)|refine gn ?_|(refine RT.isPush ?_;refine gp ?_;intro a' c' b' c1' hac)|refine gc ?_|fail)
  ·obtain ⟨k, rfl⟩ : ∃ k', k = k' + 1 := ⟨k - 1, by omega⟩
   obtain ⟨z, hz⟩ : ∃ z, s[k]? = some z := ⟨_, List.getElem?_eq_getElem (by omega)⟩
   have hzok := hsok z (List.mem_of_getElem? hz)
   obtain ⟨e1, e2⟩ := ins_step (A := A) (C := C') (x := x) hz
   have hl0 : (A ++ s.take k).length = A.length + k := by rw [List.length_append, List.length_take]; omega
   have gz := get_at (x := z) (R := [] ++ x :: (s.drop (k + 1) ++ C')) hl0
   have es := swap_two (x := z) (y := x) (Q := []) (R := s.drop (k + 1) ++ C') hl0 (j := A.length + (k + 1)) (by rw [hl0]; simp only [List.length_nil]; omega)
   rw [← e1] at gz es
   rw [← e2] at es
   generalize hDi : A ++ s.take (k + 1) ++ x :: (s.drop (k + 1) ++ C') = Di at *
   refine RT.ix T (j := (A.length + (k + 1)) * 3) rfl rfl rfl (sO_rd (by ((repeat constructor);done)) hNN hNc) (by omega) (by omega) (by omega) rfl rfl ?_
   refine RT.ldra T rfl (sO_rd (by ((repeat constructor);done)) hNN hNc) (l := x.cells) (flat_sub (f := SymT.cells) (z := 3) (fun _ => rfl) Di _ _ gx) rfl rfl rfl rfl ?_
   repeat' (first|(refine gv ?_;first|refine RT.id ?_|(refine⟨fun hc=>?_,fun hc=>?_⟩<;>first|(exfalso;omega)|skip)|refine gk ?_|refine num_m fun r hr=>?_|intro r hr)|refine gs ?_|(refine gb ?_;intro b)|refine gn ?_|(refine RT.isPush ?_;refine gp ?_;intro a' c' b' c1' hac)|refine gc ?_|fail)
   refine RT.ix T (j := (A.length + k) * 3) rfl rfl rfl (sO_rd (by ((repeat constructor);done)) hNN hNc) (by omega) (by omega) (by omega) rfl rfl ?_
   refine RT.ldra T rfl (sO_rd (by ((repeat constructor);done)) hNN hNc) (l := z.cells) (flat_sub (f := SymT.cells) (z := 3) (fun _ => rfl) Di _ _ gz) rfl rfl rfl rfl ?_
   repeat' (first|(refine gv ?_;first|refine RT.id ?_|(refine⟨fun hc=>?_,fun hc=>?_⟩<;>first|(exfalso;omega)|skip)|refine gk ?_|refine num_m fun r hr=>?_|intro r hr)|refine gs ?_|(refine gb ?_;intro b)|refine gn ?_|(refine RT.isPush ?_;refine gp ?_;intro a' c' b' c1' hac)|refine gc ?_|fail)
   refine AtQ.tail ?_
   refine RT.callV T rfl rfl (by (repeat (first|exact Fr.nil|(apply Fr.cons;focus ((repeat constructor);done))))) (cmp_fn hxok hzok) rfl rfl rfl ?_
   rintro _ _ ⟨rfl, rfl⟩
   simp only [List.nil_append]
   repeat' (first|(refine gv ?_;first|refine RT.id ?_|(refine⟨fun hc=>?_,fun hc=>?_⟩<;>first|(exfalso;omega)|skip)|refine gk ?_|refine num_m fun r hr=>?_|intro r hr)|refine gs ?_|(refine gb ?_;intro b)|refine gn ?_|(refine RT.isPush ?_;refine gp ?_;intro a' c' b' c1' hac)|(refine CT.id_ ?_;first|refine nx ?_|refine CT.region ?_|refine CT.cond_t rfl ?_|refine CT.cond_f rfl ?_))
   ·((refine CT.drawn [sO a c N (Di)] 15 mixed ?_); (refine DT.mv 2 rfl rfl rfl (by kernel_rfl) (by kernel_rfl) (by kernel_rfl) rfl (Clos.ofB (by kernel_rfl)) (fun w h => Sat.ones (by (repeat (first|exact Fr.nil|(apply Fr.cons;focus ((repeat constructor);done))))) h) ?_); (refine DT.mv 3 rfl rfl rfl (by kernel_rfl) (by kernel_rfl) (by kernel_rfl) rfl (Clos.ofB (by kernel_rfl)) (fun w h => Sat.ones (by (repeat (first|exact Fr.nil|(apply Fr.cons;focus ((repeat constructor);done))))) h) ?_); (refine DT.sub 4 rfl rfl rfl (wr_i64 (by omega) (by omega)) rfl (by kernel_rfl) (by kernel_rfl) (by kernel_rfl) rfl (Clos.ofB (by kernel_rfl)) (fun w h => Sat.ones (by (repeat (first|exact Fr.nil|(apply Fr.cons;focus ((repeat constructor);done))))) h) ?_); (refine DT.takes (k := 3) [0, 1, 5, 6, 7, 8, 9, 10, 11, 12, 13, 14] [15] (fun w h => Sat.ones (by (repeat (first|exact Fr.nil|(apply Fr.cons;focus ((repeat constructor);done))))) h) (by kernel_rfl) (by kernel_rfl) (by kernel_rfl) rfl (Clos.ofB (by kernel_rfl)) ?_); (repeat' (first|(refine gv ?_;first|refine RT.id ?_|(refine⟨fun hc=>?_,fun hc=>?_⟩<;>first|(exfalso;omega)|skip)|refine gk ?_|refine num_m fun r hr=>?_|intro r hr)|refine gs ?_|(refine gb ?_;intro b)|refine gn ?_|(refine RT.isPush ?_;refine gp ?_;intro a' c' b' c1' hac)|refine gc ?_|fail)); (refine RT.ix T (j := (A.length + k) * 3) rfl rfl rfl (sO_rd (by ((repeat constructor);done)) hNN hNc) (by omega) (by omega) (by omega) rfl rfl ?_); (refine RT.ldra T rfl (sO_rd (by ((repeat constructor);done)) hNN hNc) (l := SymT.cells z) (flat_sub (f := SymT.cells) (z := 3) (fun _ => rfl) Di _ _ gz) rfl rfl rfl rfl ?_); (repeat' (first|(refine gv ?_;first|refine RT.id ?_|(refine⟨fun hc=>?_,fun hc=>?_⟩<;>first|(exfalso;omega)|skip)|refine gk ?_|refine num_m fun r hr=>?_|intro r hr)|refine gs ?_|(refine gb ?_;intro b)|refine gn ?_|(refine RT.isPush ?_;refine gp ?_;intro a' c' b' c1' hac)|refine gc ?_|fail)); (refine RT.ix T (j := (A.length + (k + 1)) * 3) rfl rfl rfl (sO_rd (by ((repeat constructor);done)) hNN hNc) (by omega) (by omega) (by omega) rfl rfl ?_); (refine RT.ldra T rfl (sO_rd (by ((repeat constructor);done)) hNN hNc) (l := SymT.cells x) (flat_sub (f := SymT.cells) (z := 3) (fun _ => rfl) Di _ _ gx) rfl rfl rfl rfl ?_); (repeat' (first|(refine gv ?_;first|refine RT.id ?_|(refine⟨fun hc=>?_,fun hc=>?_⟩<;>first|(exfalso;omega)|skip)|refine gk ?_|refine num_m fun r hr=>?_|intro r hr)|refine gs ?_|(refine gb ?_;intro b)|refine gn ?_|(refine RT.isPush ?_;refine gp ?_;intro a' c' b' c1' hac)|refine gc ?_|fail)); (refine RT.ix T (j := (A.length + (k + 1)) * 3) rfl rfl rfl (sO_rd (by ((repeat constructor);done)) hNN hNc) (by omega) (by omega) (by omega) rfl rfl ?_); (repeat' (first|(refine gv ?_;first|refine RT.id ?_|(refine⟨fun hc=>?_,fun hc=>?_⟩<;>first|(exfalso;omega)|skip)|refine gk ?_|refine num_m fun r hr=>?_|intro r hr)|refine gs ?_|(refine gb ?_;intro b)|refine gn ?_|(refine RT.isPush ?_;refine gp ?_;intro a' c' b' c1' hac)|refine gc ?_|fail)); (refine AtQ.take ?_); (refine DT.eff 15 rfl (by kernel_rfl) ?_); (refine RT.stoA T (v := SymT.cells z) rfl rfl rfl (by ((repeat constructor);done)) (by rw [flat_len sym_len, hNN, sym_len]; omega) (by rw [sym_len]; decide) rfl rfl rfl ?_); (rw [sym_len, flat_set sym_len _ (by rw [hNN]; omega)]); (refine RT.nil ?_; refine AtQ.eff' (by kernel_rfl) ?_); (refine DT.eff 16 rfl (by kernel_rfl) ?_); (refine RT.ix T (j := (A.length + k) * 3) rfl rfl rfl (sO_rd (by ((repeat constructor);done)) (by rw [List.length_set, hNN]) hNc) (by omega) (by omega) (by omega) rfl rfl ?_); (refine RT.nil ?_; refine AtQ.eff' (by kernel_rfl) ?_); (refine DT.eff 17 rfl (by kernel_rfl) ?_); (refine RT.stoA T (v := SymT.cells x) rfl rfl rfl (by ((repeat constructor);done)) (by rw [flat_len sym_len, List.length_set, hNN, sym_len]; omega) (by rw [sym_len]; decide) rfl rfl rfl ?_); (rw [sym_len, flat_set sym_len _ (by rw [List.length_set, hNN]; omega), es]); (refine RT.nil ?_; refine AtQ.eff' (by kernel_rfl) ?_); (refine DT.done (by kernel_rfl) ?_))
    repeat' (first|(refine gv ?_;first|refine RT.id ?_|(refine⟨fun hc=>?_,fun hc=>?_⟩<;>first|(exfalso;omega)|skip)|refine gk ?_|refine num_m fun r hr=>?_|intro r hr)|refine gs ?_|(refine gb ?_;intro b)|refine gn ?_|(refine RT.isPush ?_;refine gp ?_;intro a' c' b' c1' hac)|refine gc ?_|fail)
    exact AtQ.loop k ⟨rfl, rfl, rfl, rfl, rfl, congrArg (fun z : Int => some (Value.int IntKind.i64 z)) (by omega), trivial⟩ (fun w h => Sat.pu_in ⟨by omega, fun y hy => by
     have hdk : s.drop k = z :: s.drop (k + 1) := by
      obtain ⟨hj, e⟩ := List.getElem?_eq_some_iff.1 hz
      rw [List.drop_eq_getElem_cons hj, e]
     rw [hdk] at hy
     rcases List.mem_cons.1 hy with rfl | hy
     ·rw [← cmpV_lt]; omega
     ·exact hkx y hy⟩ h) (by omega)
   ·have hlast : ∀ y ∈ s.take (k + 1), befB x y = false := by
     have e : s.take (k + 1) = s.take k ++ [z] := by rw [List.take_add_one, hz]; rfl
     have hst : Srt befB (s.take (k + 1) ++ s.drop (k + 1)) := by rw [List.take_append_drop]; exact h3
     have hs1 := (srt_app.1 hst).1
     rw [e] at hs1 ⊢
     exact srt_last bef_wk hs1 (cmpV_f (by omega))
    repeat' (first|(refine gv ?_;first|refine RT.id ?_|(refine⟨fun hc=>?_,fun hc=>?_⟩<;>first|(exfalso;omega)|skip)|refine gk ?_|refine num_m fun r hr=>?_|intro r hr)|refine gs ?_|(refine gb ?_;intro b)|refine gn ?_|(refine RT.isPush ?_;refine gp ?_;intro a' c' b' c1' hac)|refine gc ?_|fail)
    have hlS : (s.take (k + 1) ++ x :: s.drop (k + 1)).length = s.length + 1 := by rw [(hpm (k + 1)).length_eq, List.length_take]; omega
    exact AtQ.loop (s.take (k + 1) ++ x :: s.drop (k + 1)) ⟨rfl, rfl, rfl, rfl, congrArg (fun z : Int => some (Value.int IntKind.i64 z)) (by rw [hlS]; omega), trivial⟩
     (fun w h => Sat.pu_in ⟨by omega, by rw [hlS]; exact hpm (k + 1), ins_ok bef_wk (by rw [List.take_append_drop]; exact h3) hlast (fun y hy => bef_wk.asy (hkx y hy))⟩ (by rw [hlS, hC]; rw [← hDi] at h; simpa only [List.append_assoc, List.cons_append] using h)) (by rw [hlS]; omega)
  ·obtain rfl : k = 0 := by omega
   repeat' (first|(refine gv ?_;first|refine RT.id ?_|(refine⟨fun hc=>?_,fun hc=>?_⟩<;>first|(exfalso;omega)|skip)|refine gk ?_|refine num_m fun r hr=>?_|intro r hr)|refine gs ?_|(refine gb ?_;intro b)|refine gn ?_|(refine RT.isPush ?_;refine gp ?_;intro a' c' b' c1' hac)|refine gc ?_|fail)
   refine AtQ.tail ?_
   repeat' (first|(refine gv ?_;first|refine RT.id ?_|(refine⟨fun hc=>?_,fun hc=>?_⟩<;>first|(exfalso;omega)|skip)|refine gk ?_|refine num_m fun r hr=>?_|intro r hr)|refine gs ?_|(refine gb ?_;intro b)|refine gn ?_|(refine RT.isPush ?_;refine gp ?_;intro a' c' b' c1' hac)|refine gc ?_|fail)
   have hlS : (s.take 0 ++ x :: s.drop 0).length = s.length + 1 := by rw [(hpm 0).length_eq, List.length_take]; omega
   exact AtQ.loop (s.take 0 ++ x :: s.drop 0) ⟨rfl, rfl, rfl, rfl, congrArg (fun z : Int => some (Value.int IntKind.i64 z)) (by rw [hlS]; omega), trivial⟩
    (fun w h => Sat.pu_in ⟨by omega, by rw [hlS]; exact hpm 0, ins_ok bef_wk (by rw [List.take_append_drop]; exact h3) (fun y hy => by simp at hy) (fun y hy => bef_wk.asy (hkx y hy))⟩ (by rw [hlS, hC]; simpa only [List.append_assoc, List.cons_append] using h)) (by rw [hlS]; omega)
 ·have hle : s.length = X.length := by omega
  rw [hle, List.take_length] at h2
  exact AtQ.fin0 Tryz.results128 (H' := [sO a c N (A ++ s ++ C)]) ⟨rfl, s, h2, h3, rfl⟩ (fun w h => by rw [hle, List.drop_length, List.nil_append] at h; exact h) _ (by first | exact .inl rfl | exact .inr rfl)
end Go.Proofs.YtdemnhdoadjhhaaGreatDoor
end
section
namespace Go.Proofs.YtdemnhdoadjhhaaGreatDoor
open Go.Sk
section
variable {α : Type} {lt : α → α → Bool}
theorem le_all (hw : Wk lt) {P Q : List α} {x y : α} (hP : Srt lt (P ++ [x])) (hQ : Srt lt (y :: Q)) (h : lt y x = false) : ∀ u ∈ P ++ [x], ∀ v ∈ y :: Q, lt v u = false := fun u hu v hv =>
 srt_head hw hQ (srt_last hw hP h u hu) v hv
theorem last_of {l : List α} {x : α} (h : l[l.length - 1]? = some x) : ∃ P, l = P ++ [x] := by
 rw [← List.getLast?_eq_getElem?] at h
 obtain ⟨P, e⟩ := List.getLast?_eq_some_iff.1 h
 exact ⟨P, e⟩
theorem head_of {l : List α} {x : α} (h : l[0]? = some x) : ∃ Q, l = x :: Q := by
 cases l with
 | nil => cases h
 | cons y l => simp at h; subst h; exact ⟨l, rfl⟩
theorem at_mid {P L S : List α} {i j : Nat} (hj : P.length + i = j) (h : i < L.length) : (P ++ L ++ S)[j]? = L[i]? := by
 subst hj
 rw [List.append_assoc, List.getElem?_append_right (by omega), Nat.add_sub_cancel_left, List.getElem?_append_left h]
theorem front_ok (hw : Wk lt) {Y : List α} {w : Nat} {x y : α} (hY : Srt lt Y) (hy : Y[w]? = some y) (h : lt x y = false) : ∀ z ∈ Y.take (w + 1), lt x z = false := by
 have e : Y.take (w + 1) = Y.take w ++ [y] := by rw [List.take_add_one, hy]; rfl
 have hs : Srt lt (Y.take (w + 1) ++ Y.drop (w + 1)) := by rw [List.take_append_drop]; exact hY
 have h1 := (srt_app.1 hs).1
 rw [e] at h1 ⊢
 exact srt_last hw h1 h
theorem back_ok (hw : Wk lt) {Y : List α} {w : Nat} {x y : α} (hY : Srt lt Y) (hy : Y[w]? = some y) (h : lt y x = false) : ∀ z ∈ Y.drop w, lt z x = false := by
 have e : Y.drop w = y :: Y.drop (w + 1) := by
  obtain ⟨hj, e⟩ := List.getElem?_eq_some_iff.1 hy
  rw [List.drop_eq_getElem_cons hj, e]
 have hs : Srt lt (Y.take w ++ Y.drop w) := by rw [List.take_append_drop]; exact hY
 have h1 := (srt_app.1 hs).2.1
 rw [e] at h1 ⊢
 exact srt_head hw h1 h
/-- All of the first one's front are at most all of the second one's end. -/
theorem cross (hw : Wk lt) {X1 X2 Y1 Y2 : List α} {x y : α} (hX : Srt lt (X1 ++ X2)) (hY : Srt lt (Y1 ++ Y2)) (hx : X1[X1.length - 1]? = some x) (hy : Y2[0]? = some y) (h : lt y x = false) : ∀ u ∈ X1, ∀ v ∈ Y2, lt v u = false := by
 obtain ⟨P, rfl⟩ := last_of hx
 obtain ⟨Q, rfl⟩ := head_of hy
 exact le_all hw (srt_app.1 hX).1 (srt_app.1 hY).2.1 h
theorem cross' (hw : Wk lt) {X1 X2 Y1 Y2 : List α} {x y : α} (hX : Srt lt (X1 ++ X2)) (hY : Srt lt (Y1 ++ Y2)) (hx : X2[0]? = some x) (hy : Y1[Y1.length - 1]? = some y) (h : lt y x = true) : ∀ v ∈ Y1, ∀ u ∈ X2, lt u v = false := by
 obtain ⟨Q, rfl⟩ := head_of hx
 obtain ⟨P, rfl⟩ := last_of hy
 exact le_all hw (srt_app.1 hY).1 (srt_app.1 hX).2.1 (hw.asy h)
/-- Where the search among two sorted rows ends, they are cut so that the fronts stand ahead of the ends. -/
theorem cut_ok (hw : Wk lt) {A X1 X2 Y1 Y2 C D : List α} {s lo hi : Nat} (hD : D = A ++ (X1 ++ X2) ++ (Y1 ++ Y2) ++ C) (hX : Srt lt (X1 ++ X2)) (hY : Srt lt (Y1 ++ Y2)) (hs : A.length + X1.length = s)
  (hlo : s = lo → X1 = [] ∨ Y2 = []) (hhi : s = hi → X2 = [] ∨ Y1 = [])
  (h1 : s = lo ∨ ∃ x y, D[s - 1]? = some x ∧ D[A.length + (X1.length + X2.length) + Y1.length]? = some y ∧ lt y x = false)
  (h2 : s = hi ∨ ∃ x y, D[s]? = some x ∧ D[A.length + (X1.length + X2.length) + Y1.length - 1]? = some y ∧ lt y x = true) :
  (∀ x ∈ X1, ∀ y ∈ Y2, lt y x = false) ∧ (∀ y ∈ Y1, ∀ x ∈ X2, lt x y = false) := by
 constructor
 ·intro u hu v hv
  have n1 : X1 ≠ [] := fun e => by rw [e] at hu; cases hu
  have n2 : Y2 ≠ [] := fun e => by rw [e] at hv; cases hv
  rcases h1 with h1 | ⟨x, y, hx, hy, h⟩
  ·rcases hlo h1 with e | e
   ·exact absurd e n1
   ·exact absurd e n2
  have l1 := List.length_pos_iff.2 n1
  have l2 := List.length_pos_iff.2 n2
  have e1 : D = A ++ X1 ++ (X2 ++ (Y1 ++ Y2) ++ C) := by rw [hD]; simp only [List.append_assoc]
  have e2 : D = (A ++ (X1 ++ X2) ++ Y1) ++ Y2 ++ C := by rw [hD]; simp only [List.append_assoc]
  rw [e1, at_mid (i := X1.length - 1) (by omega) (by omega)] at hx
  rw [e2, at_mid (i := 0) (by simp only [List.length_append]; omega) (by omega)] at hy
  exact cross hw hX hY hx hy h u hu v hv
 ·intro v hv u hu
  have n1 : X2 ≠ [] := fun e => by rw [e] at hu; cases hu
  have n2 : Y1 ≠ [] := fun e => by rw [e] at hv; cases hv
  rcases h2 with h2 | ⟨x, y, hx, hy, h⟩
  ·rcases hhi h2 with e | e
   ·exact absurd e n1
   ·exact absurd e n2
  have l1 := List.length_pos_iff.2 n1
  have l2 := List.length_pos_iff.2 n2
  have e1 : D = (A ++ X1) ++ X2 ++ ((Y1 ++ Y2) ++ C) := by rw [hD]; simp only [List.append_assoc]
  have e2 : D = (A ++ (X1 ++ X2)) ++ Y1 ++ (Y2 ++ C) := by rw [hD]; simp only [List.append_assoc]
  rw [e1, at_mid (i := 0) (by simp only [List.length_append]; omega) (by omega)] at hx
  rw [e2, at_mid (i := Y1.length - 1) (by simp only [List.length_append]; omega) (by omega)] at hy
  exact cross' hw hX hY hx hy h v hv u hu
end
end Go.Proofs.YtdemnhdoadjhhaaGreatDoor
end
