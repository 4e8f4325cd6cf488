/- Merged: K1, K2, K3, K5, K6, K8, S1, J8, D1, P1, G1, G2, G3, P3, G4, G5, T1, T2, T3, T4, T5, T6, U1, U2, U3, U4, V1, V2, V3, B1, B2, B3, B5, B6, B7, B8, B16, Pb4, S2, B17, M1, F1, H1. -/
import Derived.Test.YtdemnhdoadjhhaaGreatDoorRows
import Derived.WalkKit
import Derived.ProofKit
import Derived.OpenShut
import Derived.Test.YtdemnhdoadjhhaaGreatDoorSkA
import Derived.ReadAgain
import Derived.ChangeStays
import Derived.SizedLaws
import Derived.Test.YtdemnhdoadjhhaaGreatDoorTb
import Derived.SevenTiedAt
import Derived.Stop.Joined
import Derived.Shelf.Vars
import Derived.Shelf.Strings.Builder1
import Derived.Shelf.Strings.Builder2
import Derived.Shelf.Unicode.DecodeAny
import Derived.Test.YtdemnhdoadjhhaaGreatDoorProg
import Derived.LaidMore
import Derived.LaidLaws
import Derived.LaidHandle
import Derived.MakeChecks
import Derived.Lib.LaidU8
import Derived.Lib.LaidU8T
import Derived.Lib.LaidIn
import Derived.Test.YtdemnhdoadjhhaaGreatDoorSkB
import Derived.Lib.MakeNoZero
import Derived.Laws.Externs
import Derived.Lib.TrimUEq
import Derived.Lib.Split
import Derived.Lib.CountLaws
import Derived.Lib.IndexBytes
import Derived.Shelf.Strings.Split
set_option linter.unusedVariables false
set_option linter.unusedSimpArgs false
section
namespace Go.Sk
open Go.ChangeShapes Go.WideShapes Go.ChangeAt Go.RowKit
/-- What lay before lies unchanged behind. -/
structure Old (W w' : World) : Prop where
 kept : W.keptBut w' (fun _ => False)
 fz : ∀ a : Addr, a.block < W.heap.size → w'.frozen? a = W.frozen? a
 size : W.heap.size ≤ w'.heap.size
theorem Sat.old {W w' : World} {H : List HP} (h : Sat W H w') : Old W w' := by
 refine ⟨⟨h.os, h.output, fun i hi => ?_⟩, fun a ha => ?_, h.size⟩
 ·rw [h.base i hi]
  cases hc : W.heap[i]? with
  | none => simp
  | some o => cases o <;> simp
 ·unfold World.frozen?
  rw [h.base _ ha]
theorem Old.frame {W w' : World} (h : Old W w') (may : MemPlace → Prop) : W.keptBut w' may := World.keptBut_mono (fun _ f => f.elim) h.kept
section
variable {H : Type} {enc : TypeId × Value → H} {P : Program}
theorem post_of_old {f : Func} {s : ChangeSpec} {apart fresh handsOn again : Bool} {W W' : World} {args : Array Value} {v : Value} {ds gs : List (DataW H)} {before pa pv : List MemPlace}
  (hW : DataW.Whole enc P f.params.toList s.vars apart W args.toList ds gs before)
  (hres : ∀ (b : Nat) (sp : Nat → Bool) (hd : Bool), DataW.TrodAll enc P W' b sp hd f.resultTypes.toList (v.resultList f.resultTypes.size) (s.fn H (ds ++ gs)).results [])
  (hargs : ∀ sp : Nat → Bool, (∀ p ∈ before, sp p.block = true) → DataW.TrodAll enc P W' 0 sp true f.params.toList args.toList (s.fn H (ds ++ gs)).args pa)
  (hvars : ∀ sp : Nat → Bool, (∀ p ∈ before, sp p.block = true) → DataW.TrodVars enc P W' sp s.vars (s.fn H (ds ++ gs)).vars pv)
  (hps : before = pa ++ pv) (ho : Old W W')
  (hok : ∀ (j : Nat) (t : TypeId) (r : Value), f.resultTypes[j]? = some t → (v.resultList f.resultTypes.size)[j]? = some r → Value.okWide P W' .any 0 t r) :
  s.post enc P f apart fresh handsOn again W args v W' := by
 have hold : ∀ p ∈ before, (fun b => decide (b < W.heap.size)) p.block = true := fun p hp => by simpa using hW.lt p hp
 have hlt := hW.lt
 refine ⟨ds, gs, before, [], pa, pv, hW, hres _ _ _, hargs _ hold, hvars _ hold, World.keptBut_mono (fun p hp => ⟨hp, ?_⟩) (ho.frame (· ∈ before)), fun _ => ?_⟩
 ·rw [hps, List.mem_append] at hp
  exact Or.inr hp
 ·obtain ⟨_, _, _, _, _, hz, hn⟩ := hW
  refine ⟨hok, _, _, ([] ++ pa) ++ pv, ⟨[] ++ pa, pv, trodAll_append (hargs _ (fun _ _ => rfl)) (hres _ _ _), hvars _ (fun _ _ => rfl), rfl, ?_, ?_⟩, ?_⟩
  ·intro b off hp
   have hb : MemPlace.cell b off ∈ before := by rw [hps]; simpa using hp
   rw [ho.fz _ (by simpa [MemPlace.block] using hlt _ hb)]
   exact hz b off hb
  ·intro ha
   have := hn ha
   rw [hps] at this
   simpa using this
  ·intro p hp _
   rw [hps]
   simpa using hp
end
end Go.Sk
end
section
namespace Go.Sk
open Go.ChangeShapes Go.WideShapes Go.ChangeAt Go.RowKit
section
variable {H : Type} {enc : TypeId × Value → H} {P : Program}
theorem Sat.same {W w' : World} {Hs : List HP} (h : Sat W Hs w') (p : MemPlace) (hp : p.block < W.heap.size) : W.sameAt w' p := by
 cases p <;> simp only [World.sameAt, MemPlace.block, World.cell?] at hp ⊢ <;> rw [h.base _ hp]
theorem TrodAll.stays {W w' : World} (hs : ∀ p : MemPlace, p.block < W.heap.size → W.sameAt w' p) {T : TypeId → Prop} (K : Kids P T) (hz : ∀ {t e : TypeId}, T t → P.underlying t = some (.slice e) → 0 < P.cellsOf e) {sp : Nat → Bool} :
  ∀ {ts : List TypeId} {vs : List Value} {ds : List (DataW H)} {ps : List MemPlace}, (∀ t ∈ ts, T t) → DataW.TrodAll enc P W 0 (fun _ => true) true ts vs ds ps → (∀ p ∈ ps, sp p.block = true) → DataW.TrodAll enc P w' 0 sp true ts vs ds ps
 | [], [], [], _, _, h, _ => h
 | _ :: _, _ :: _, _ :: _, _, hT, ⟨p, q, ⟨n, h1⟩, h2, e⟩, hsp => by
  subst e
  refine ⟨p, q, ⟨n, ?_⟩, TrodAll.stays hs K hz (fun t ht => hT t (List.mem_cons_of_mem _ ht)) h2 (fun x hx => hsp x (List.mem_append_right _ hx)), rfl⟩
  exact DataW.trod_stays K hz (fun h => by cases h) (hT _ (List.mem_cons_self ..)) h1 (fun x hx => hs x (DataW.trod_lt n _ _ _ h1 x hx)) (fun x hx => hsp x (List.mem_append_left _ hx))
end
end Go.Sk
namespace Go.Sk
open Go.ChangeShapes Go.WideShapes Go.ChangeAt Go.RowKit
section
variable {H : Type} {enc : TypeId × Value → H} {P : Program}
/-- From the walk of a law whose arguments may hold memory to its row's post. -/
theorem law_post {fid : FuncId} {f : Func} {s : ChangeSpec} {apart fresh handsOn again : Bool} {W : World} {args : Array Value} {ds gs : List (DataW H)} {before : List MemPlace} {T : TypeId → Prop} {tb : TypeId} (K : Kids P T)
  (hz : ∀ {t e : TypeId}, T t → P.underlying t = some (.slice e) → 0 < P.cellsOf e) (hT : ∀ t ∈ f.params.toList, T t) (hvars : s.vars = []) (hrt : f.resultTypes = #[tb]) (hub : P.underlying tb = some .bool)
  (hW : DataW.Whole enc P f.params.toList s.vars apart W args.toList ds gs before)
  (hfn : DataW.TrodAll enc P W 0 (fun _ => true) true f.params.toList args.toList ds before → (s.fn H (ds ++ [])).results = [.lit (.bool true)] ∧ (s.fn H (ds ++ [])).args = ds ∧ (s.fn H (ds ++ [])).vars = [])
  (hwalk : DataW.TrodAll enc P W 0 (fun _ => true) true f.params.toList args.toList ds before → Calls P fid args W fun e w' => e = .returned (.bool true) ∧ Sat W [] w') :
  Calls P fid args W fun e w' => ∃ v, e = .returned v ∧ s.post enc P f apart fresh handsOn again W args v w' := by
 have hW' := hW
 obtain ⟨p, q, hA, hV, rfl, hfz, hnd⟩ := hW
 rw [hvars] at hV
 obtain ⟨rfl, rfl⟩ := trodVars_none hV
 rw [List.append_nil] at hfn hwalk
 obtain ⟨e1, e2, e3⟩ := hfn hA
 refine (hwalk hA).mono fun e W' ⟨he, hs⟩ => ⟨_, he, ?_⟩
 refine post_of_old (pa := p) (pv := []) hW' (fun b sp hd => ?_) (fun sp hsp => ?_) (fun sp _ => ?_) rfl hs.old ?_
 ·rw [hrt, e1]
  exact trodAll_cons_mk (shut_bool hub _) trodAll_mk0
 ·rw [e2]
  exact TrodAll.stays (fun x hx => hs.same x hx) K hz hT hA (fun x hx => hsp x (List.mem_append_left _ hx))
 ·rw [e3, hvars]
  rfl
 ·exact ok_one hrt rfl (okWide_bool_mk hub _)
end
end Go.Sk
end
section
namespace Go.Sk
open Go.ChangeShapes Go.WideShapes Go.ChangeAt Go.RowKit
section
variable {H : Type} {enc : TypeId × Value → H} {P : Program} {W : World} {sp : Nat → Bool}
theorem Sat.cellOld {w : World} {Hs : List HP} (h : Sat W Hs w) {a : Addr} {v : Value} (hc : W.cell? a = some v) : w.cell? a = some v := by
 have hb : a.block < W.heap.size := World.block_lt_of_cell? W a hc
 unfold World.cell? at hc ⊢
 rw [h.base _ hb]
 exact hc
theorem getElem?_flat {z : Nat} : ∀ (es : List (List Value)), (∀ c ∈ es, c.length = z) → ∀ (j : Nat) (u : Value), es.flatten[j]? = some u → ∃ i c r, es[i]? = some c ∧ r < z ∧ j = i * z + r ∧ c[r]? = some u
 | [], _, j, u, h => by simp at h
 | c :: es, hz, j, u, h => by
  have hcz := hz c (by simp)
  rw [List.flatten_cons] at h
  by_cases hj : j < c.length
  ·rw [List.getElem?_append_left hj] at h
   exact ⟨0, c, j, rfl, by omega, by omega, h⟩
  ·rw [List.getElem?_append_right (by omega)] at h
   obtain ⟨i, c', r, h1, h2, h3, h4⟩ := getElem?_flat es (fun c hc => hz c (by simp [hc])) _ u h
   refine ⟨i + 1, c', r, by simpa using h1, h2, ?_, h4⟩
   rw [Nat.add_mul, Nat.one_mul]
   omega
end
end Go.Sk
end
section
namespace Go.Sk
open Go.ChangeShapes Go.WideShapes Go.ChangeAt Go.RowKit
section
variable {H : Type} {enc : TypeId × Value → H} {P : Program} {W : World}
/-- Nothing in it weighs more than may be reached. -/
def Light (P : Program) (t : TypeId) (d : DataW H) : Prop := ∀ q ∈ d.weights P t, q ≤ reachBytes
theorem light_all {e : TypeId} : ∀ {l : List (DataW H)}, (∀ q ∈ DataW.weightsAll P e l, q ≤ reachBytes) → ∀ d ∈ l, Light P e d
 | [], _, d, h => by cases h
 | x :: l, hw, d, h => by
  simp only [DataW.weightsAll, List.mem_append] at hw
  rcases List.mem_cons.1 h with rfl | h
  ·exact fun q hq => hw q (.inl hq)
  ·exact light_all (fun q hq => hw q (.inr hq)) d h
theorem light_each {ts : List TypeId} {ds : List (DataW H)} (hw : ∀ q ∈ DataW.weightsEach P ts ds, q ≤ reachBytes) {j : Nat} {t : TypeId} {d : DataW H} (ht : ts[j]? = some t) (hd : ds[j]? = some d) : Light P t d :=
 fun q hq => hw q (DataW.weights_mem_each ht hd q hq)
theorem trod_field {t : TypeId} {cs : List Value} {x : DataW H × List MemPlace} {fuel : Nat} {fs : Array Field} (ht : P.underlying t = some (.struct fs)) (h : DataW.trod enc P W 0 (fun _ => true) true fuel t cs = some x) (hw : Light P t x.1) (i : Nat) (f : Field) (hf : fs[i]? = some f) :
  ∃ m y, DataW.trod enc P W 0 (fun _ => true) true m f.type ((cs.drop f.offset).take (P.cellsOf f.type)) = some y ∧ Light P f.type y.1 := by
 obtain ⟨xs, n, _, rfl, _, hl, hg⟩ := DataW.trod_struct ht h
 have hi : i < xs.length := by rw [hl]; exact (Array.getElem?_eq_some_iff.1 hf).1
 refine ⟨n, xs[i], ?_, ?_⟩
 ·rw [hg i f hf, List.getElem?_eq_getElem hi]
 ·have hw' : ∀ q ∈ DataW.weightsEach P (fs.toList.map (·.type)) (xs.map (·.1)), q ≤ reachBytes := by
   intro q hq
   refine hw q ?_
   simp only [DataW.weights, ht]
   exact hq
  refine light_each hw' (j := i) ?_ ?_
  ·rw [List.getElem?_map, Array.getElem?_toList, hf]; rfl
  ·rw [List.getElem?_map, List.getElem?_eq_getElem hi]; rfl
end
end Go.Sk
end
section
namespace Go.Proofs.YtdemnhdoadjhhaaGreatDoor
open Go.Sk Go.ChangeShapes Go.WideShapes Go.ChangeAt Go.RowKit
set_option maxRecDepth 100000
theorem rowed : laidOutB Tryz.prog = true := by kernel_rfl
theorem mapped : mapsRowed Tryz.prog = true := by kernel_rfl
theorem kids : Kids Tryz.prog (· < Tryz.prog.types.size) := kids_rows rowed mapped
theorem fullAll : ((List.range Tryz.prog.types.size).all fun t => match Tryz.prog.underlying t with | some (.slice e) => decide (0 < Tryz.prog.cellsOf e) | _ => true) = true := by kernel_rfl
theorem full {t e : TypeId} (h : t < Tryz.prog.types.size) (he : Tryz.prog.underlying t = some (.slice e)) : 0 < Tryz.prog.cellsOf e := slices_full_of Tryz.prog fullAll t e h he
end Go.Proofs.YtdemnhdoadjhhaaGreatDoor
namespace Go.Sk
open Go.ChangeShapes Go.WideShapes Go.ChangeAt Go.RowKit
theorem Sp.law2 {P : Program} {W : World} {f : FuncId} {vs : List Value} {v : Value} (h : Sp W P f vs [] [] (fun u H' => u = v ∧ H' = [])) : Calls P f vs.toArray W fun e w' => e = .returned v ∧ Sat W [] w' :=
 (h W (Sat.refl W)).mono fun _ _ ⟨_, _, he, ⟨hv, hh⟩, hs⟩ => ⟨by rw [he, hv], by subst hh; exact hs⟩
end Go.Sk
end
section
namespace Go.Proofs.YtdemnhdoadjhhaaGreatDoor
open Go.Sk Go.ChangeShapes Go.WideShapes Go.ChangeAt Go.RowKit
set_option linter.unusedVariables false
/-- As the kit's 'returnsInHanded_of_change_and', the world's shape being told too. -/
theorem returns_and_shaped {H : Type} {enc : TypeId × Value → H} {a : Assume} {C : Checked} {os : Os} {f : FuncId} {fn : Func} {s : ChangeSpec} {conds : List PathCond} {apart fresh handsOn again : Bool} {X : World → Array Value → Prop}
  (hX : ∀ (w w' : World) (args : Array Value), w.heap = w'.heap → X w args → X w' args)
  (own : ownKnob C.prog.godebug = none) (started : os.Started) (noInit : C.prog.inits.idxOf? f = none) (hfn : C.prog.funcs[f]? = some fn)
  (witness : ∃ (w : World) (tape : Tape) (i : Input), w.os = os ∧ (w.forCall tape i).Shaped C.prog ∧ i.vars = [] ∧ Input.okWide C.prog (w.forCall tape i) .any w.heap.size f i ∧
   ((s.pre enc C.prog fn conds apart (w.forCall tape i).memory i.args ∧ X (w.forCall tape i).memory i.args) ∧ sizedMet enc C.prog fn (OpenSpec.ofChange s) apart (w.forCall tape i).memory i.args) ∧ a.holds C.prog (lone (Frame.enter C.prog f i.args .normal) [] (w.forCall tape i)))
  (contract : ∀ (W : World) (base : Nat) (args : Array Value) (ds gs : List (DataW H)) (before : List MemPlace),
   (∀ (j : Nat) t v, fn.params[j]? = some t → args[j]? = some v → Value.okWide C.prog W .any base t v) →
   DataW.Whole enc C.prog fn.params.toList s.vars apart W args.toList ds gs before →
   conds.all (PathCond.test C.prog ⟨fn.params.toList, ds, s.plain.varTypes C.prog, gs⟩) = true →
   (DataW.weightsEach C.prog (fn.params.toList ++ s.plain.varTypes C.prog) (ds ++ gs)).all (· ≤ reachBytes) = true → X W args → W.ShapedOpen C.prog →
   a.holds C.prog (lone (Frame.enter C.prog f args .normal) [] W) →
   Calls C.prog f args W fun e W' => ∃ v, e = .returned v ∧ s.post enc C.prog fn apart fresh handsOn again W args v W') :
  ReturnsInHanded a C os f .any (fun w args => (s.pre enc C.prog fn conds apart w args ∧ X w args) ∧ sizedMet enc C.prog fn (OpenSpec.ofChange s) apart w args) (s.post enc C.prog fn apart fresh handsOn again) := by
 refine returnsInHanded_of_calls own started noInit witness ?_
 intro w tape i _ hsh _ hok hpre hholds
 obtain ⟨_, _, _, fn', hfn', _, _, _, _, hval⟩ := hok
 have e : fn' = fn := Option.some.inj (hfn'.symm.trans hfn)
 subst e
 obtain ⟨⟨⟨ds, gs, before, hw, hc⟩, hx⟩, hz⟩ := hpre
 have hw' := DataW.Whole.of_heap (w' := w.forCall tape i) (by rfl) hw
 refine (contract (w.forCall tape i) w.heap.size i.args ds gs before hval hw' hc (hz.weights hw) (hX _ _ _ (by rfl) hx) hsh hholds).mono fun e W' ⟨v, he, hp⟩ => ?_
 subst he
 exact ChangeSpec.post_blind hp

end Go.Proofs.YtdemnhdoadjhhaaGreatDoor
end
section
namespace Go.Proofs
open Go.Shelf
def Tryz.lays165_ren : Go.Shelf.Ren := ⟨fun | 165 => 125 | 240 => 155 | 241 => 156 | 276 => 166 | 277 => 167 | n => n, fun | 70 => 232 | 3 => 3 | 0 => 0 | 4 => 4 | 9 => 9 | 20 => 20 | 72 => 234 | 37 => 162 | 164 => 258 | 5 => 5 | n => n, fun | n => n⟩
theorem Tryz.lays165 : Go.Proofs.Lays.n165 Tryz.prog Tryz.lays165_ren := {
 mixed := by kernel_rfl
 f165 := Tryz.func125.trans (congrArg some (by kernel_rfl))
 f240 := Tryz.func155.trans (congrArg some (by kernel_rfl))
 f241 := Tryz.func156.trans (congrArg some (by kernel_rfl))
 f276 := Tryz.func166.trans (congrArg some (by kernel_rfl))
 f277 := Tryz.func167.trans (congrArg some (by kernel_rfl))
 t0 := Tryz.underlying0
 a0 := Tryz.isAgg0
 z0 := Tryz.sizeOf0
 v0 := Tryz.zeroValue0
 t3 := Tryz.underlying3
 a3 := Tryz.isAgg3
 z3 := Tryz.sizeOf3
 v3 := Tryz.zeroValue3
 t4 := Tryz.underlying4
 a4 := Tryz.isAgg4
 z4 := Tryz.sizeOf4
 v4 := Tryz.zeroValue4
 t9 := Tryz.underlying9
 a9 := Tryz.isAgg9
 z9 := Tryz.sizeOf9
 v9 := Tryz.zeroValue9
 t20 := Tryz.underlying20
 a20 := Tryz.isAgg20
 z20 := Tryz.sizeOf20
 v20 := Tryz.zeroValue20
 t37 := Tryz.underlying162
 a37 := Tryz.isAgg162
 z37 := Tryz.sizeOf162
 v37 := Tryz.zeroValue162
 t70 := Tryz.underlying232
 a70 := Tryz.isAgg232
 z70 := Tryz.sizeOf232
 v70 := Tryz.zeroValue232
 t72 := Tryz.underlying234
 a72 := Tryz.isAgg234
 z72 := Tryz.sizeOf234
 v72 := Tryz.zeroValue234
 t164 := Tryz.underlying258
 a164 := Tryz.isAgg258
 z164 := Tryz.sizeOf258
 v164 := Tryz.zeroValue258 }
theorem Tryz.Builder_Extra_165 : Builder.Extra Tryz.prog Tryz.lays165_ren := {
 sizeBuilder := by kernel_rfl
 liesBuilder := by kernel_rfl
 t5 := Tryz.underlying5
 a5 := Tryz.isAgg5
 z5 := Tryz.sizeOf5
 v5 := Tryz.zeroValue5
 infoByte := by kernel_rfl
 cellsByte := by kernel_rfl
 sizeByte := by kernel_rfl
 neB5 := by decide }
def Tryz.lays197_ren : Go.Shelf.Ren := ⟨fun | 197 => 164 | 260 => 174 | n => n, fun | 9 => 9 | 21 => 21 | 3 => 3 | 4 => 4 | 5 => 5 | 105 => 256 | 119 => 267 | 0 => 0 | 46 => 252 | 139 => 270 | 138 => 269 | n => n, fun | 3 => 1 | 4 => 2 | n => n⟩
theorem Tryz.lays197 : Go.Proofs.Lays.n197 Tryz.prog Tryz.lays197_ren := {
 mixed := by kernel_rfl
 f197 := Tryz.func164.trans (congrArg some (by kernel_rfl))
 f260 := Tryz.func174.trans (congrArg some (by kernel_rfl))
 t0 := Tryz.underlying0
 a0 := Tryz.isAgg0
 z0 := Tryz.sizeOf0
 v0 := Tryz.zeroValue0
 t3 := Tryz.underlying3
 a3 := Tryz.isAgg3
 z3 := Tryz.sizeOf3
 v3 := Tryz.zeroValue3
 t4 := Tryz.underlying4
 a4 := Tryz.isAgg4
 z4 := Tryz.sizeOf4
 v4 := Tryz.zeroValue4
 t5 := Tryz.underlying5
 a5 := Tryz.isAgg5
 z5 := Tryz.sizeOf5
 v5 := Tryz.zeroValue5
 t9 := Tryz.underlying9
 a9 := Tryz.isAgg9
 z9 := Tryz.sizeOf9
 v9 := Tryz.zeroValue9
 t21 := Tryz.underlying21
 a21 := Tryz.isAgg21
 z21 := Tryz.sizeOf21
 v21 := Tryz.zeroValue21
 t46 := Tryz.underlying252
 a46 := Tryz.isAgg252
 z46 := Tryz.sizeOf252
 v46 := Tryz.zeroValue252
 t105 := Tryz.underlying256
 a105 := Tryz.isAgg256
 z105 := Tryz.sizeOf256
 v105 := Tryz.zeroValue256
 t119 := Tryz.underlying267
 a119 := Tryz.isAgg267
 z119 := Tryz.sizeOf267
 t138 := Tryz.underlying269
 a138 := Tryz.isAgg269
 z138 := Tryz.sizeOf269
 v138 := Tryz.zeroValue269
 t139 := Tryz.underlying270
 a139 := Tryz.isAgg270
 z139 := Tryz.sizeOf270
 v139 := Tryz.zeroValue270
 g3 := by kernel_rfl
 g4 := by kernel_rfl }
open Go.RowKit Go.Lib in
theorem Tryz.utf8_DecodeRuneInString (s : ByteArray) (w : World) (hT : Lib.Utf8Tabs 1 2 w) :
  Calls Tryz.prog 164 #[.string s] w fun e w' => e = .returned (.tuple #[.int .i32 (Lib.decodeGo s).1, .int .i64 (Lib.decodeGo s).2]) ∧ Below w.heap.size w w' := Any.utf8_DecodeRuneInString Tryz.lays197 s w hT
end Go.Proofs
end
section
namespace Go.Proofs.YtdemnhdoadjhhaaGreatDoor
set_option maxRecDepth 1000000
/-- What the rows list. -/
def laidL : List (String × DataW Unit) := [("unicode/utf8.acceptRanges", Rows.laid_unicode_utf8_acceptRanges), ("unicode/utf8.first", Rows.laid_unicode_utf8_first)]
theorem own : ownKnob Tryz.prog.godebug = none := by kernel_rfl
theorem laidAcc : (Rows.laid_unicode_utf8_acceptRanges : DataW Unit) = Lib.acceptData := by kernel_rfl
theorem laidFirst : Rows.laid_unicode_utf8_first = Lib.firstData := by kernel_rfl
def laidL2 : List (String × DataW Unit) := [("unicode/utf8.acceptRanges", Lib.acceptData), ("unicode/utf8.first", Lib.firstData)]
theorem laidL_eq2 : laidL = laidL2 := by unfold laidL; rw [laidAcc, laidFirst]; rfl
theorem utf8_of {W : World} (h : laidMetH Tryz.prog laidL W) : Lib.Utf8Tabs 1 2 W := by
 rw [laidL_eq2, MakeChecks.laidMetH_plain _ _ _ (by kernel_rfl)] at h
 exact utf8Tabs_of_reads (ρ := Tryz.lays197_ren) { Tryz.lays197 with } ⟨by kernel_rfl, by kernel_rfl, by kernel_rfl, by kernel_rfl, by kernel_rfl, by kernel_rfl, by kernel_rfl⟩ (Lib.laidMet.reads h (.tail _ (.head _))) (Lib.laidMet.reads h (.head _))
/-- The settled world, the two tables laid. -/
noncomputable def laidWorld (os : Os) : World :=
 let w0 := World.holding Tryz.prog os ⟨#[], #[], []⟩
 let put (h : Array Obj) (g : Nat) (cs : Array Value) : Array Obj := h.modify g fun
  | .cells _ t frozen => .cells cs t frozen
  | o => o
 let h1 := put w0.heap 1 (Lib.firstTab.map fun z => Value.int .u8 z).toArray
 let h2 := put h1 2 ((List.range 16).flatMap fun i => [Value.int .u8 (Lib.accLo i), Value.int .u8 (Lib.accHi i)]).toArray
 { w0 with heap := h2 }
theorem laid_met (os : Os) (args : Array Value) : laidMetH Tryz.prog laidL ((laidWorld os).forCall (fun _ _ => 0) ⟨#[], args, []⟩).memory := by
 rw [laidL_eq2, MakeChecks.laidMetH_plain _ _ _ (by kernel_rfl)]
 exact (LaidIn.of_run [2, 1] 8 (by kernel_rfl) (by kernel_rfl) (by kernel_rfl) (by kernel_rfl)).met
end Go.Proofs.YtdemnhdoadjhhaaGreatDoor
end
section
namespace Go.Sk
abbrev Txt := List Int
/-- A row: where it lies, its room, what it holds. -/
structure Rw (α : Type) where
 a : Option Addr
 c : Nat
 l : List α
def Rw.v {α : Type} (r : Rw α) : Value := .slice r.a r.l.length r.c
abbrev vS (t : Txt) : Value := .string (str t)
structure SpanT where
 f : Int
 t : Int
structure EValT where
 nm : Txt
 num : Int
structure FieldT where
 nm : Txt
 num : Int
 card : Int
 kind : Int
 ty : Txt
 key : Int
 oneof : Int
 packed : Int
 js : Txt
structure ImpT where
 path : Txt
 pub : Bool
structure EnumT where
 nm : Txt
 vals : Rw EValT
 ali : Bool
 res : Rw SpanT
 names : Rw Txt
inductive MsgT where
 | mk (nm : Txt) (fields : Rw FieldT) (oneofs : Rw Txt) (ma : Option Addr) (mc : Nat) (msgs : List MsgT) (enums : Rw EnumT) (res : Rw SpanT) (names : Rw Txt)
structure FileT where
 path : Txt
 pack : Txt
 imps : Rw ImpT
 ma : Option Addr
 mc : Nat
 msgs : List MsgT
 enums : Rw EnumT
namespace MsgT
def nm : MsgT → Txt | mk n _ _ _ _ _ _ _ _ => n
def fields : MsgT → Rw FieldT | mk _ f _ _ _ _ _ _ _ => f
def oneofs : MsgT → Rw Txt | mk _ _ o _ _ _ _ _ _ => o
def ma : MsgT → Option Addr | mk _ _ _ a _ _ _ _ _ => a
def mc : MsgT → Nat | mk _ _ _ _ c _ _ _ _ => c
def msgs : MsgT → List MsgT | mk _ _ _ _ _ l _ _ _ => l
def enums : MsgT → Rw EnumT | mk _ _ _ _ _ _ e _ _ => e
def res : MsgT → Rw SpanT | mk _ _ _ _ _ _ _ r _ => r
def names : MsgT → Rw Txt | mk _ _ _ _ _ _ _ _ n => n
end MsgT
def SpanT.cells (s : SpanT) : List Value := [.int .i32 s.f, .int .i32 s.t]
def EValT.cells (v : EValT) : List Value := [vS v.nm, .int .i32 v.num]
def FieldT.cells (f : FieldT) : List Value := [vS f.nm, .int .i32 f.num, .int .u8 f.card, .int .u8 f.kind, vS f.ty, .int .u8 f.key, .int .i64 f.oneof, .int .u8 f.packed, vS f.js]
def ImpT.cells (i : ImpT) : List Value := [vS i.path, .bool i.pub]
def EnumT.cells (e : EnumT) : List Value := [vS e.nm, e.vals.v, .bool e.ali, e.res.v, e.names.v]
def MsgT.cells (m : MsgT) : List Value := [vS m.nm, m.fields.v, m.oneofs.v, .slice m.ma m.msgs.length m.mc, m.enums.v, m.res.v, m.names.v]
def FileT.cells (f : FileT) : List Value := [vS f.path, vS f.pack, f.imps.v, .slice f.ma f.msgs.length f.mc, f.enums.v]
/-! ### how deep -/
mutual
def MsgT.deep : MsgT → Nat
 | .mk _ _ _ _ _ l _ _ _ => MsgT.deepL l + 1
def MsgT.deepL : List MsgT → Nat
 | [] => 0
 | m :: l => max (MsgT.deep m) (MsgT.deepL l)
end
theorem MsgT.deep_mem : ∀ {l : List MsgT} {m : MsgT}, m ∈ l → m.deep ≤ MsgT.deepL l
 | [], _, h => by cases h
 | x :: l, m, h => by
  unfold MsgT.deepL
  rcases List.mem_cons.1 h with rfl | h
  ·exact Nat.le_max_left _ _
  ·exact Nat.le_trans (MsgT.deep_mem h) (Nat.le_max_right _ _)
/-! ### that its rows can be read -/
section
variable (X : Option Addr → Nat → Nat → Nat → List Value → Prop)
/-- Each row is a row X: address, how many, room, size, cells. -/
def EnumT.In (e : EnumT) : Prop := X e.vals.a e.vals.l.length e.vals.c 2 (e.vals.l.flatMap EValT.cells) ∧ X e.res.a e.res.l.length e.res.c 2 (e.res.l.flatMap SpanT.cells) ∧ X e.names.a e.names.l.length e.names.c 1 (e.names.l.map vS)
mutual
def MsgT.In : MsgT → Prop
 | .mk _ fields oneofs ma mc msgs enums res names => X fields.a fields.l.length fields.c 9 (fields.l.flatMap FieldT.cells) ∧ X oneofs.a oneofs.l.length oneofs.c 1 (oneofs.l.map vS) ∧ X ma msgs.length mc 7 (msgs.flatMap MsgT.cells) ∧
  X enums.a enums.l.length enums.c 5 (enums.l.flatMap EnumT.cells) ∧ (∀ e ∈ enums.l, e.In X) ∧ X res.a res.l.length res.c 2 (res.l.flatMap SpanT.cells) ∧ X names.a names.l.length names.c 1 (names.l.map vS) ∧ MsgT.InL msgs
def MsgT.InL : List MsgT → Prop
 | [] => True
 | m :: l => MsgT.In m ∧ MsgT.InL l
end
end
theorem MsgT.inL_mem {X : Option Addr → Nat → Nat → Nat → List Value → Prop} : ∀ {l : List MsgT} {m : MsgT}, MsgT.InL X l → m ∈ l → MsgT.In X m
 | [], _, _, h => by cases h
 | x :: l, m, hl, h => by
  unfold MsgT.InL at hl
  rcases List.mem_cons.1 h with rfl | h
  ·exact hl.1
  ·exact MsgT.inL_mem hl.2 h
/-! ### what such trees hold -/
def OkT (t : Txt) : Prop := Byt t ∧ t.length ≤ 140737488355328
def OkN {α : Type} (r : Rw α) : Prop := r.l.length ≤ 140737488355328 ∧ r.l.length ≤ r.c ∧ r.c ≤ 9223372036854775807
def I32 (x : Int) : Prop := -2147483648 ≤ x ∧ x ≤ 2147483647
def U8 (x : Int) : Prop := 0 ≤ x ∧ x ≤ 255
def SpanT.Ok (s : SpanT) : Prop := I32 s.f ∧ I32 s.t
def EValT.Ok (v : EValT) : Prop := OkT v.nm ∧ I32 v.num
def FieldT.Ok (f : FieldT) : Prop := OkT f.nm ∧ I32 f.num ∧ U8 f.card ∧ U8 f.kind ∧ OkT f.ty ∧ U8 f.key ∧ (-9223372036854775808 ≤ f.oneof ∧ f.oneof ≤ 9223372036854775807) ∧ U8 f.packed ∧ OkT f.js
def ImpT.Ok (i : ImpT) : Prop := OkT i.path
def EnumT.Ok (e : EnumT) : Prop := OkT e.nm ∧ OkN e.vals ∧ (∀ v ∈ e.vals.l, v.Ok) ∧ OkN e.res ∧ (∀ s ∈ e.res.l, s.Ok) ∧ OkN e.names ∧ ∀ t ∈ e.names.l, OkT t
mutual
def MsgT.Ok : MsgT → Prop
 | .mk nm fields oneofs ma mc msgs enums res names => OkT nm ∧ (OkN fields ∧ ∀ f ∈ fields.l, f.Ok) ∧ (OkN oneofs ∧ ∀ t ∈ oneofs.l, OkT t) ∧ OkN (⟨ma, mc, msgs⟩ : Rw MsgT) ∧ (OkN enums ∧ ∀ e ∈ enums.l, e.Ok) ∧ (OkN res ∧ ∀ s ∈ res.l, s.Ok) ∧ (OkN names ∧ ∀ t ∈ names.l, OkT t) ∧ MsgT.OkL msgs
def MsgT.OkL : List MsgT → Prop
 | [] => True
 | m :: l => MsgT.Ok m ∧ MsgT.OkL l
end
theorem MsgT.okL_mem : ∀ {l : List MsgT} {m : MsgT}, MsgT.OkL l → m ∈ l → MsgT.Ok m
 | [], _, _, h => by cases h
 | x :: l, m, hl, h => by
  unfold MsgT.OkL at hl
  rcases List.mem_cons.1 h with rfl | h
  ·exact hl.1
  ·exact MsgT.okL_mem hl.2 h
theorem MsgT.okL_of : ∀ {l : List MsgT}, (∀ m ∈ l, MsgT.Ok m) → MsgT.OkL l
 | [], _ => by unfold MsgT.OkL; trivial
 | x :: l, h => by unfold MsgT.OkL; exact ⟨h x List.mem_cons_self, MsgT.okL_of fun m hm => h m (List.mem_cons_of_mem _ hm)⟩
theorem MsgT.inL_of {X : Option Addr → Nat → Nat → Nat → List Value → Prop} : ∀ {l : List MsgT}, (∀ m ∈ l, MsgT.In X m) → MsgT.InL X l
 | [], _ => by unfold MsgT.InL; trivial
 | x :: l, h => by unfold MsgT.InL; exact ⟨h x List.mem_cons_self, MsgT.inL_of fun m hm => h m (List.mem_cons_of_mem _ hm)⟩
structure FileT.Ok (f : FileT) : Prop where
 path : OkT f.path
 pack : OkT f.pack
 imps : OkN f.imps ∧ ∀ i ∈ f.imps.l, i.Ok
 msgs : OkN (⟨f.ma, f.mc, f.msgs⟩ : Rw MsgT) ∧ ∀ m ∈ f.msgs, m.Ok
 enums : OkN f.enums ∧ ∀ e ∈ f.enums.l, e.Ok
structure FileT.In (X : Option Addr → Nat → Nat → Nat → List Value → Prop) (f : FileT) : Prop where
 imps : X f.imps.a f.imps.l.length f.imps.c 2 (f.imps.l.flatMap ImpT.cells)
 msgs : X f.ma f.msgs.length f.mc 7 (f.msgs.flatMap MsgT.cells)
 sub : ∀ m ∈ f.msgs, m.In X
 enums : X f.enums.a f.enums.l.length f.enums.c 5 (f.enums.l.flatMap EnumT.cells)
 esub : ∀ e ∈ f.enums.l, e.In X
end Go.Sk
end
section
namespace Go.Sk
def mayB (n : Int) : Bool := decide (1 ≤ n ∧ n ≤ 536870911 ∧ (n < 19000 ∨ 19999 < n))
def inS (s : SpanT) (x : Int) : Bool := decide (s.f ≤ x ∧ x ≤ s.t)
/-- The first span that holds a number: its place, from i on; -1. -/
def ixf (x : Int) : List SpanT → Nat → Int
 | [], _ => -1
 | s :: l, i => if inS s x = true then (i : Int) else ixf x l (i + 1)
theorem ixf_drop {x : Int} {l : List SpanT} {i : Nat} (h : i < l.length) : ixf x (l.drop i) i = if inS l[i] x = true then (i : Int) else ixf x (l.drop (i + 1)) (i + 1) := by
 rw [List.drop_eq_getElem_cons h]
 rfl
theorem ixf_none {x : Int} : ∀ {l : List SpanT} {i : Nat}, ixf x l i < 0 → l.any (fun s => inS s x) = false
 | [], _, _ => rfl
 | s :: l, i, h => by
  unfold ixf at h
  split at h
  ·omega
  ·rename_i hs
   rw [List.any_cons, ixf_none h]
   simpa using hs
theorem ixf_some {x : Int} : ∀ {l : List SpanT} {i : Nat}, 0 ≤ ixf x l i → ∃ (j : Nat) (s : SpanT), l[j]? = some s ∧ ixf x l i = ((i + j : Nat) : Int) ∧ inS s x = true
 | [], _, h => by unfold ixf at h; omega
 | s :: l, i, h => by
  unfold ixf at h ⊢
  split at h
  ·rename_i hs
   exact ⟨0, s, rfl, by rw [if_pos hs]; rfl, hs⟩
  ·rename_i hs
   obtain ⟨j, s', h1, h2, h3⟩ := ixf_some h
   exact ⟨j + 1, s', by simpa using h1, by rw [if_neg hs, h2]; congr 1; omega, h3⟩
/-- May a field more have it? -/
def good (res : List SpanT) (nums : List Int) (x : Int) : Bool := mayB x && !(res.any fun s => inS s x) && !(decide (x ∈ nums))
def goods (res : List SpanT) (nums : List Int) (k : Nat) : List Int := ((List.range k).map Int.ofNat).filter (good res nums)
section
variable {res : List SpanT} {nums : List Int} {k t : Nat}
theorem goods_succ : goods res nums (k + 1) = goods res nums k ++ if good res nums (k : Int) = true then [(k : Int)] else [] := by
 unfold goods
 rw [List.range_succ, List.map_append, List.filter_append]
 congr 1
 simp only [List.map_cons, List.map_nil, List.filter_cons, List.filter_nil]
 rfl
theorem goods_pre (h : k ≤ t) : ∃ m, goods res nums t = goods res nums k ++ m := by
 induction t with
 | zero => rw [Nat.le_zero.1 h]; exact ⟨[], by simp⟩
 | succ t ih =>
  rcases Nat.lt_or_ge t k with hlt | hge
  ·rw [show k = t + 1 by omega]; exact ⟨[], by simp⟩
  ·obtain ⟨m, hm⟩ := ih hge
   exact ⟨_, by rw [goods_succ, hm, List.append_assoc]⟩
theorem goods_jump (h : k ≤ t) (hg : ∀ x : Nat, k ≤ x → x < t → good res nums (x : Int) = false) : goods res nums t = goods res nums k := by
 induction t with
 | zero => rw [Nat.le_zero.1 h]
 | succ t ih =>
  rcases Nat.lt_or_ge t k with hlt | hge
  ·rw [show k = t + 1 by omega]
  ·rw [goods_succ, ih hge fun x h1 h2 => hg x h1 (by omega), hg t hge (by omega)]
   simp
theorem good_big {x : Int} (h : 536870912 ≤ x) : good res nums x = false := by
 unfold good mayB
 rw [show decide (1 ≤ x ∧ x ≤ 536870911 ∧ (x < 19000 ∨ 19999 < x)) = false from by refine decide_eq_false ?_; omega]
 rfl
theorem goods_end (h : 536870912 ≤ k) : goods res nums k = goods res nums 536870912 := goods_jump h fun x h1 _ => good_big (by omega)
/-- In a span that holds the number nothing is free from it on. -/
theorem goods_span {s : SpanT} (hs : s ∈ res) (h : inS s (k : Int) = true) (ht : (t : Int) = s.t) : goods res nums (t + 1) = goods res nums k := by
 unfold inS at h
 have h' := of_decide_eq_true h
 refine goods_jump (by omega) fun x h1 h2 => ?_
 unfold good
 have : (res.any fun s => inS s (x : Int)) = true := List.any_eq_true.2 ⟨s, hs, by unfold inS; refine decide_eq_true ?_; omega⟩
 rw [this]
 simp
theorem goods_one : goods res nums 1 = [] := by
 rw [show (1 : Nat) = 0 + 1 from rfl, goods_succ]
 rfl
/-- So many. -/
def many (n : Int) : Nat := (min (max n 0) 1000).toNat
/-- The least numbers that a field could have. -/
def freeL (res : List SpanT) (nums : List Int) (n : Int) : List Int := (goods res nums 536870912).take (many n)
theorem free_stop {n : Int} (hk : 536870912 ≤ k ∨ many n ≤ (goods res nums k).length) (hl : (goods res nums k).length ≤ many n) : goods res nums k = freeL res nums n := by
 unfold freeL
 rcases hk with hk | hk
 ·rw [← goods_end hk, List.take_of_length_le hl]
 ·rcases Nat.lt_or_ge k 536870912 with h | h
  ·obtain ⟨m, hm⟩ := goods_pre (res := res) (nums := nums) (Nat.le_of_lt h)
   rw [hm, List.take_left' (by omega)]
  ·rw [← goods_end h, List.take_of_length_le hl]
end
end Go.Sk
end
section
namespace Go.Proofs.YtdemnhdoadjhhaaGreatDoor
open Go.Sk
set_option maxRecDepth 100000
attribute [local irreducible] Cs Own Ex Pu Yld RT LJ QJ AtQ CT Rd QSp Sp FinQ Then LoopQ CutQ DT TakeQ EffQ
variable {B : World} {R : List HP}
theorem map_get {l : List Txt} {j : Nat} (h : j < l.length) : (l.map vS)[j]? = some (vS l[j]) := by rw [List.getElem?_map, List.getElem?_eq_getElem h]; rfl
/-- What a weight says of a row of k. -/
def Wt (k : Nat) (n w : Int) : Prop := n ≤ w ∧ w ≤ max n 4503599627370496 ∧ (w ≤ 16777216 → n + 8 * k ≤ w)
/-- Short texts. -/
def SmT (l : List Txt) : Prop := ∀ t ∈ l, t.length ≤ 16777216
theorem sm_take {α : Type} {P : α → Prop} {l : List α} {i : Nat} {x : α} (hx : l[i]? = some x) (h : ∀ y ∈ l.take i, P y) (h2 : P x) : ∀ y ∈ l.take (i + 1), P y := fun y hy => by
 rw [List.take_add_one, hx, List.mem_append] at hy
 rcases hy with hy | hy
 ·exact h y hy
 ·simp only [Option.toList_some, List.mem_singleton] at hy
  subst hy
  exact h2
set_option maxHeartbeats 4000000 in
theorem tweight_fn {r : Rw Txt} {n : Int} (hR : Rd B R r.a r.l.length r.c 1 (r.l.map vS)) (hk : r.l.length ≤ 140737488355328) (hok : ∀ t ∈ r.l, OkT t) (h0 : 0 ≤ n) (h1 : n ≤ 4503599627370496) :
  Sp B Tryz.prog 87 [r.v, .int .i64 n] R [] (fun v H' => (∃ w, v = .int .i64 w ∧ Wt r.l.length n w ∧ (w ≤ 16777216 → SmT r.l)) ∧ H' = []) := by
 obtain ⟨a, c, l⟩ := r
 simp only [Rw.v] at *
 refine Sp.body Tryz.func87 rfl Tryz.ntmps87 (by simp) ?_
 simp only [argE, List.cons_append, List.nil_append, Nat.zero_add, Nat.reduceAdd]
 try refine gL ?_
 refine CT.loop (α := Nat × Int) (fun s => [(0, .slice a l.length c), (1, .int .i64 s.2), (5, .int .i64 s.1)]) (fun s => Pu (s.1 ≤ l.length ∧ n + 8 * s.1 ≤ s.2 ∧ s.2 ≤ max n 4503599627370496 ∧ (s.2 ≤ 16777216 → SmT (l.take s.1))) :: R) (fun s => l.length - s.1) (0, n)
  ⟨rfl, rfl, rfl, trivial⟩ (fun w h => Sat.pu_in ⟨Nat.zero_le _, by dsimp only; omega, by dsimp only; omega, fun _ e he => by simp at he⟩ h) (fun ⟨i, q⟩ => CT.pu fun ⟨hi, hq1, hq2, hq3⟩ => ?_)
 dsimp only at hi hq1 hq2 hq3 ⊢
 repeat' (first|refine gL ?_|(refine gv ?_;first|(refine⟨fun hc=>?_,fun hc=>?_⟩<;>first|(exfalso;omega)|skip)|refine gk ?_)|fail)
 ·have hil : i < l.length := by omega
  have hto := (hok l[i] (List.getElem_mem hil)).2
  refine RT.ix T (j := i) rfl rfl rfl (by exact hR) (by omega) (by omega) (by omega) rfl rfl ?_
  refine RT.ldr T rfl (by exact hR) (map_get hil) rfl rfl rfl ?_
  repeat' (first|refine gL ?_|(refine gv ?_;refine gk ?_)|fail)
  exact AtQ.loop (i + 1, q + 8 + (l[i].length : Int)) ⟨rfl, rfl, rfl, trivial⟩ (fun w h => Sat.pu_in ⟨by omega, by dsimp only; omega, by dsimp only; omega, fun hw => by dsimp only at hw; exact sm_take (List.getElem?_eq_getElem hil) (hq3 (by omega)) (by omega)⟩ h) (by dsimp only; omega)
 ·exact AtQ.fin1 Tryz.results87 rfl ⟨⟨q, rfl, by unfold Wt; omega, fun h => by omega⟩, rfl⟩ (fun w h => h)
 ·exact AtQ.fin1 Tryz.results87 rfl ⟨⟨q, rfl, by unfold Wt; omega, fun h e he => hq3 h e (by rw [List.take_of_length_le (by omega)]; exact he)⟩, rfl⟩ (fun w h => h)
end Go.Proofs.YtdemnhdoadjhhaaGreatDoor
end
section
namespace Go.Proofs.YtdemnhdoadjhhaaGreatDoor
open Go.Sk
set_option maxRecDepth 100000
attribute [local irreducible] Cs Own Ex Pu Yld RT LJ QJ AtQ CT Rd QSp Sp FinQ Then LoopQ CutQ DT TakeQ EffQ
variable {B : World} {R : List HP}
def ESm (e : EnumT) : Prop := e.vals.l.length ≤ 2097152 ∧ e.res.l.length ≤ 2097152 ∧ e.names.l.length ≤ 2097152
/-- Its names are short. -/
def ENm (e : EnumT) : Prop := e.nm.length ≤ 16777216 ∧ (∀ v ∈ e.vals.l, v.nm.length ≤ 16777216) ∧ SmT e.names.l
/-- How many symbols it has. -/
def cntE (e : EnumT) : Nat := 1 + e.vals.l.length
theorem cb_take {α : Type} {f : α → Nat} {l : List α} {i : Nat} {x : α} {n q w : Int} (hx : l[i]? = some x) (h : n + ((l.take i).map f).sum ≤ q) (h2 : q + f x ≤ w) : n + ((l.take (i + 1)).map f).sum ≤ w := by
 rw [List.take_add_one, hx, List.map_append, List.sum_append]
 simp only [Option.toList_some, List.map_cons, List.map_nil, List.sum_cons, List.sum_nil]
 omega
set_option maxHeartbeats 8000000 in
theorem eweight_fn {r : Rw EnumT} {ah n : Int} (hR : Rd B R r.a r.l.length r.c 5 (r.l.flatMap EnumT.cells)) (hk : r.l.length ≤ 140737488355328) (hin : ∀ e ∈ r.l, e.In (Rd B R)) (hok : ∀ e ∈ r.l, e.Ok) (h0 : 0 ≤ n) (h1 : n ≤ 4503599627370496) (a0 : 0 ≤ ah) (a1 : n ≤ 16777216 → ah ≤ 281474976710656) :
  Sp B Tryz.prog 32 [r.v, .int .i64 ah, .int .i64 n] R [] (fun v H' => (∃ w, v = .int .i64 w ∧ Wt r.l.length n w ∧ (w ≤ 16777216 → (∀ e ∈ r.l, ESm e ∧ ENm e) ∧ n + (r.l.map cntE).sum ≤ w)) ∧ H' = []) := by
 obtain ⟨a, c, l⟩ := r
 simp only [Rw.v] at *
 refine Sp.body Tryz.func32 rfl Tryz.ntmps32 (by simp) ?_
 simp only [argE, List.cons_append, List.nil_append, Nat.zero_add, Nat.reduceAdd]
 try refine gL ?_
 refine CT.loop (α := Nat × Int) (fun s => [(0, .slice a l.length c), (1, .int .i64 ah), (2, .int .i64 s.2), (7, .int .i64 s.1)]) (fun s => Pu (s.1 ≤ l.length ∧ n + 8 * s.1 ≤ s.2 ∧ s.2 ≤ max n 4503599627370496 ∧ (s.2 ≤ 16777216 → (∀ e ∈ l.take s.1, ESm e ∧ ENm e) ∧ n + ((l.take s.1).map cntE).sum ≤ s.2)) :: R) (fun s => l.length - s.1) (0, n)
  ⟨rfl, rfl, rfl, rfl, trivial⟩ (fun w h => Sat.pu_in ⟨Nat.zero_le _, by dsimp only; omega, by dsimp only; omega, fun _ => ⟨fun e he => by simp at he, by simp⟩⟩ h) (fun ⟨i, q⟩ => CT.pu fun ⟨hi, hq1, hq2, hq3⟩ => ?_)
 dsimp only at hi hq1 hq2 hq3 ⊢
 repeat' (first|refine gL ?_|(refine gv ?_;first|(refine⟨fun hc=>?_,fun hc=>?_⟩<;>first|(exfalso;omega)|skip)|refine gk ?_)|fail)
 ·have hil : i < l.length := by omega
  have hgi := List.getElem?_eq_getElem hil
  revert hgi
  generalize l[i] = e
  intro hgi
  have hme := List.mem_of_getElem? hgi
  obtain ⟨en1, ⟨en2, _⟩, en3, ⟨en4, _⟩, en5, ⟨en6, _⟩, en7⟩ := hok e hme
  obtain ⟨ei1, ei2, ei3⟩ := hin e hme
  have ah1 := a1 (by omega)
  have en1 := en1.2
  have h5 := hq3 (by omega)
  refine RT.ix T (j := i * 5) rfl rfl rfl (by exact hR) (by omega) (by omega) (by omega) rfl rfl ?_
  refine RT.faA T rfl rfl rfl rfl ?_
  refine RT.ldr (u := vS e.nm) T rfl (by exact hR) (by rw [flat_get (f := EnumT.cells) (z := 5) (fun _ => rfl) hgi (by decide)]; rfl) rfl rfl rfl ?_
  repeat' (first|refine gL ?_|(refine gv ?_;refine gk ?_)|fail)
  refine RT.ix T (j := i * 5) rfl rfl rfl (by exact hR) (by omega) (by omega) (by omega) rfl rfl ?_
  refine RT.faA T rfl rfl rfl rfl ?_
  refine RT.ldr (u := e.res.v) T rfl (by exact hR) (by rw [flat_get (f := EnumT.cells) (z := 5) (fun _ => rfl) hgi (by decide)]; rfl) rfl rfl rfl ?_
  repeat' (first|refine gL ?_|(refine gv ?_;refine gk ?_)|fail)
  obtain ⟨q0, hq0⟩ : ∃ q0, q0 = q + 80 + ah + (e.nm.length : Int) + 8 * (e.res.l.length : Int) := ⟨_, rfl⟩
  rw [← hq0]
  refine CT.loop (α := Nat × Int) (fun s => [(0, .slice a l.length c), (1, .int .i64 ah), (2, .int .i64 s.2), (7, .int .i64 i), (8, .int .i64 s.1)]) (fun s => Pu (s.1 ≤ e.vals.l.length ∧ q0 + 8 * s.1 ≤ s.2 ∧ s.2 ≤ 4503599627370496 ∧ (s.2 ≤ 16777216 → ∀ v ∈ e.vals.l.take s.1, v.nm.length ≤ 16777216)) :: R) (fun s => e.vals.l.length - s.1) (0, q0)
   ⟨rfl, rfl, rfl, rfl, rfl, trivial⟩ (fun w h => Sat.pu_in ⟨Nat.zero_le _, by dsimp only; omega, by dsimp only; omega, fun _ e he => by simp at he⟩ h) (fun ⟨k, p⟩ => CT.pu fun ⟨hk1, hp1, hp2, hp3⟩ => ?_)
  dsimp only at hk1 hp1 hp2 hp3 ⊢
  try refine gL ?_
  refine RT.ix T (j := i * 5) rfl rfl rfl (by exact hR) (by omega) (by omega) (by omega) rfl rfl ?_
  refine RT.faA T rfl rfl rfl rfl ?_
  refine RT.ldr (u := e.vals.v) T rfl (by exact hR) (by rw [flat_get (f := EnumT.cells) (z := 5) (fun _ => rfl) hgi (by decide)]; rfl) rfl rfl rfl ?_
  repeat' (first|refine gL ?_|(refine gv ?_;first|(refine⟨fun hc=>?_,fun hc=>?_⟩<;>first|(exfalso;omega)|skip)|refine gk ?_)|fail)
  ·have hkl : k < e.vals.l.length := by omega
   have hgk := List.getElem?_eq_getElem hkl
   revert hgk
   generalize e.vals.l[k] = ev
   intro hgk
   have hv := (en3 ev (List.mem_of_getElem? hgk)).1.2
   refine RT.ix T (j := i * 5) rfl rfl rfl (by exact hR) (by omega) (by omega) (by omega) rfl rfl ?_
   refine RT.faA T rfl rfl rfl rfl ?_
   refine RT.ldr (u := e.vals.v) T rfl (by exact hR) (by rw [flat_get (f := EnumT.cells) (z := 5) (fun _ => rfl) hgi (by decide)]; rfl) rfl rfl rfl ?_
   try refine gL ?_
   refine RT.ix T (j := k * 2) rfl rfl rfl (by exact ei1) (by omega) (by omega) (by omega) rfl rfl ?_
   refine RT.faA T rfl rfl rfl rfl ?_
   refine RT.ldr (u := vS ev.nm) T rfl (by exact ei1) (by rw [flat_get (f := EValT.cells) (z := 2) (fun _ => rfl) hgk (by decide)]; rfl) rfl rfl rfl ?_
   repeat' (first|refine gL ?_|(refine gv ?_;refine gk ?_)|fail)
   exact AtQ.loop (k + 1, p + 80 + ah + (ev.nm.length : Int)) ⟨rfl, rfl, rfl, rfl, rfl, trivial⟩ (fun w h => Sat.pu_in ⟨by omega, by dsimp only; omega, by dsimp only; omega, fun hw => by dsimp only at hw; exact sm_take hgk (hp3 (by omega)) (by omega)⟩ h) (by dsimp only; omega)
  all_goals
   have hend : p ≤ 16777216 → k = e.vals.l.length := fun h => by omega
   refine RT.ix T (j := i * 5) rfl rfl rfl (by exact hR) (by omega) (by omega) (by omega) rfl rfl ?_
   refine RT.faA T rfl rfl rfl rfl ?_
   refine RT.ldr (u := e.names.v) T rfl (by exact hR) (by rw [flat_get (f := EnumT.cells) (z := 5) (fun _ => rfl) hgi (by decide)]; rfl) rfl rfl rfl ?_
   try refine gL ?_
   refine RT.call T rfl fR_ (tweight_fn (r := e.names) (n := p) ei3 en6 en7 (by omega) (by omega)) rfl rfl rfl ?_
   rintro _ _ ⟨⟨w, rfl, ⟨hw1, hw2, hw3⟩, hw4⟩, rfl⟩
   try simp only [List.cons_append, List.nil_append]
   repeat' (first|refine gL ?_|(refine gv ?_;refine gk ?_)|fail)
   exact AtQ.loop (i + 1, w) ⟨rfl, rfl, rfl, rfl, trivial⟩ (fun _ h => Sat.pu_in ⟨by omega, by dsimp only; omega, by dsimp only; omega, fun hw => by
    dsimp only at hw ⊢
    have hke := hend (by omega)
    have hw5 := hw3 hw
    have hp5 := hp3 (by omega)
    rw [List.take_of_length_le (by omega)] at hp5
    exact ⟨sm_take hgi h5.1 ⟨by unfold ESm; omega, by omega, hp5, hw4 hw⟩, cb_take hgi h5.2 (by unfold cntE; omega)⟩⟩ h) (by dsimp only; omega)
 ·exact AtQ.fin1 Tryz.results32 rfl ⟨⟨q, rfl, by unfold Wt; omega, fun h => by omega⟩, rfl⟩ (fun w h => h)
 ·exact AtQ.fin1 Tryz.results32 rfl ⟨⟨q, rfl, by unfold Wt; omega, fun h => by have h6 := hq3 h; rw [List.take_of_length_le (by omega)] at h6; exact h6⟩, rfl⟩ (fun w h => h)
end Go.Proofs.YtdemnhdoadjhhaaGreatDoor
end
section
namespace Go.Sk
open Go.Proofs.YtdemnhdoadjhhaaGreatDoor
/-- Short names. -/
def FNm (f : FieldT) : Prop := f.nm.length ≤ 16777216 ∧ f.ty.length ≤ 16777216 ∧ f.js.length ≤ 16777216
mutual
/-- Its rows are short, and those of all that it holds. -/
def MsgT.Sm : MsgT → Prop
 | .mk _ fields oneofs _ _ msgs enums res names => fields.l.length ≤ 2097152 ∧ oneofs.l.length ≤ 2097152 ∧ res.l.length ≤ 2097152 ∧ names.l.length ≤ 2097152 ∧ enums.l.length ≤ 2097152 ∧ (∀ e ∈ enums.l, ESm e) ∧ msgs.length ≤ 2097152 ∧ MsgT.SmL msgs
def MsgT.SmL : List MsgT → Prop
 | [] => True
 | m :: l => MsgT.Sm m ∧ MsgT.SmL l
end
mutual
/-- Its names are short, and those of all that it holds. -/
def MsgT.Nm : MsgT → Prop
 | .mk nm fields oneofs _ _ msgs enums res names => nm.length ≤ 16777216 ∧ (∀ f ∈ fields.l, FNm f) ∧ SmT oneofs.l ∧ SmT names.l ∧ (∀ e ∈ enums.l, ENm e) ∧ MsgT.NmL msgs
def MsgT.NmL : List MsgT → Prop
 | [] => True
 | m :: l => MsgT.Nm m ∧ MsgT.NmL l
end
mutual
/-- Its full names are short: so many bytes stand ahead. -/
def MsgT.Ful : MsgT → Int → Prop
 | .mk nm _ _ _ _ msgs _ _ _, ah => ah + nm.length + 1 ≤ 16777216 ∧ MsgT.FulL msgs (ah + nm.length + 1)
def MsgT.FulL : List MsgT → Int → Prop
 | [], _ => True
 | m :: l, ah => MsgT.Ful m ah ∧ MsgT.FulL l ah
end
theorem MsgT.fulL_of {ah : Int} : ∀ {l : List MsgT}, (∀ m ∈ l, MsgT.Ful m ah) → MsgT.FulL l ah
 | [], _ => by unfold MsgT.FulL; trivial
 | x :: l, h => by unfold MsgT.FulL; exact ⟨h x List.mem_cons_self, MsgT.fulL_of fun m hm => h m (List.mem_cons_of_mem _ hm)⟩
theorem MsgT.fulL_mem {ah : Int} : ∀ {l : List MsgT} {m : MsgT}, MsgT.FulL l ah → m ∈ l → MsgT.Ful m ah
 | [], _, _, h => by cases h
 | x :: l, m, hl, h => by
  unfold MsgT.FulL at hl
  rcases List.mem_cons.1 h with rfl | h
  ·exact hl.1
  ·exact MsgT.fulL_mem hl.2 h
mutual
/-- How many symbols it has. -/
def cntM : MsgT → Nat
 | .mk _ fields oneofs _ _ msgs enums _ _ => 1 + fields.l.length + oneofs.l.length + cntMs msgs + (enums.l.map cntE).sum
def cntMs : List MsgT → Nat
 | [] => 0
 | m :: l => cntM m + cntMs l
end
theorem cntMs_eq : ∀ l : List MsgT, cntMs l = (l.map cntM).sum
 | [] => by unfold cntMs; rfl
 | m :: l => by unfold cntMs; rw [List.map_cons, List.sum_cons, cntMs_eq l]
theorem MsgT.nmL_of : ∀ {l : List MsgT}, (∀ m ∈ l, MsgT.Nm m) → MsgT.NmL l
 | [], _ => by unfold MsgT.NmL; trivial
 | x :: l, h => by unfold MsgT.NmL; exact ⟨h x List.mem_cons_self, MsgT.nmL_of fun m hm => h m (List.mem_cons_of_mem _ hm)⟩
theorem MsgT.nmL_mem : ∀ {l : List MsgT} {m : MsgT}, MsgT.NmL l → m ∈ l → MsgT.Nm m
 | [], _, _, h => by cases h
 | x :: l, m, hl, h => by
  unfold MsgT.NmL at hl
  rcases List.mem_cons.1 h with rfl | h
  ·exact hl.1
  ·exact MsgT.nmL_mem hl.2 h
theorem MsgT.smL_of : ∀ {l : List MsgT}, (∀ m ∈ l, MsgT.Sm m) → MsgT.SmL l
 | [], _ => by unfold MsgT.SmL; trivial
 | x :: l, h => by unfold MsgT.SmL; exact ⟨h x List.mem_cons_self, MsgT.smL_of fun m hm => h m (List.mem_cons_of_mem _ hm)⟩
theorem MsgT.smL_mem : ∀ {l : List MsgT} {m : MsgT}, MsgT.SmL l → m ∈ l → MsgT.Sm m
 | [], _, _, h => by cases h
 | x :: l, m, hl, h => by
  unfold MsgT.SmL at hl
  rcases List.mem_cons.1 h with rfl | h
  ·exact hl.1
  ·exact MsgT.smL_mem hl.2 h
end Go.Sk
namespace Go.Proofs.YtdemnhdoadjhhaaGreatDoor
open Go.Sk
set_option maxRecDepth 100000
attribute [local irreducible] Cs Own Ex Pu Yld RT LJ QJ AtQ CT Rd QSp Sp FinQ Then LoopQ CutQ DT TakeQ EffQ
variable {B : World} {R : List HP}
/-- (Not to be seen through.) -/
def LeB (x y : Int) : Prop := x ≤ y
def Imp (p q : Prop) : Prop := p → q
set_option maxHeartbeats 16000000 in
theorem mweight_fn (d : Nat) : ∀ {a : Option Addr} {c : Nat} {l : List MsgT} {ah n : Int}, MsgT.deepL l ≤ d → Rd B R a l.length c 7 (l.flatMap MsgT.cells) → l.length ≤ 140737488355328 → MsgT.InL (Rd B R) l → MsgT.OkL l → 0 ≤ n → n ≤ 4503599627370496 → 0 ≤ ah → (n ≤ 16777216 → ah ≤ 281474976710656) →
  Sp B Tryz.prog 31 [.slice a l.length c, .int .i64 ah, .int .i64 n] R [] (fun v H' => (∃ w, v = .int .i64 w ∧ Wt l.length n w ∧ (w ≤ 16777216 → (MsgT.SmL l ∧ MsgT.NmL l ∧ MsgT.FulL l ah) ∧ n + cntMs l ≤ w)) ∧ H' = []) := by
 induction d using Nat.strongRecOn with
 | _ d ih =>
 intro a c l ah n hd hR hk hin hok h0 h1 a0 a1
 refine Sp.body Tryz.func31 rfl Tryz.ntmps31 (by simp) ?_
 simp only [argE, List.cons_append, List.nil_append, Nat.zero_add, Nat.reduceAdd]
 try refine gL ?_
 refine CT.loop (α := Nat × Int) (fun s => [(0, .slice a l.length c), (1, .int .i64 ah), (2, .int .i64 s.2), (7, .int .i64 s.1)]) (fun s => Pu (s.1 ≤ l.length ∧ n + 8 * s.1 ≤ s.2 ∧ s.2 ≤ max n 4503599627370496 ∧ (s.2 ≤ 16777216 → (∀ e ∈ l.take s.1, MsgT.Sm e ∧ MsgT.Nm e ∧ MsgT.Ful e ah) ∧ n + ((l.take s.1).map cntM).sum ≤ s.2)) :: R) (fun s => l.length - s.1) (0, n)
  ⟨rfl, rfl, rfl, rfl, trivial⟩ (fun w h => Sat.pu_in ⟨Nat.zero_le _, by dsimp only; omega, by dsimp only; omega, fun _ => ⟨fun e he => by simp at he, by simp⟩⟩ h) (fun ⟨i, q⟩ => CT.pu fun ⟨hi, hq1, hq2, hq3⟩ => ?_)
 dsimp only at hi hq1 hq2 hq3 ⊢
 repeat' (first|refine gL ?_|(refine gv ?_;(refine⟨fun hc=>?_,fun hc=>?_⟩<;>first|(exfalso;omega)|skip))|fail)
 ·have hil : i < l.length := by omega
  have hgi := List.getElem?_eq_getElem hil
  revert hgi
  generalize l[i] = m
  intro hgi
  have hme := List.mem_of_getElem? hgi
  have hmo := MsgT.okL_mem hok hme
  have hmi := MsgT.inL_mem hin hme
  have hmd := Nat.le_trans (MsgT.deep_mem hme) hd
  obtain ⟨nm, fields, oneofs, ma, mc, msgs, enums, res, names⟩ := m
  unfold MsgT.Ok at hmo
  unfold MsgT.In at hmi
  unfold MsgT.deep at hmd
  obtain ⟨⟨_, en1⟩, ⟨⟨ef1, _⟩, ef2⟩, ⟨⟨eo1, _⟩, eo2⟩, ⟨em1, _⟩, ⟨⟨ee1, _⟩, ee2⟩, ⟨⟨er1, _⟩, er2⟩, ⟨⟨et1, _⟩, et2⟩, em2⟩ := hmo
  obtain ⟨if1, io1, im1, ie1, ie2, ir1, it1, im2⟩ := hmi
  dsimp only at em1
  have ah1 := a1 (by omega)
  clear a1
  have h5 := hq3 (by omega)
  refine RT.ix T (j := i * 7) rfl rfl rfl (by exact hR) (by omega) (by omega) (by omega) rfl rfl ?_
  refine RT.faA T rfl rfl rfl rfl ?_
  refine RT.ldr (u := vS nm) T rfl (by exact hR) (by rw [flat_get (f := MsgT.cells) (z := 7) (fun _ => rfl) hgi (by decide)]; rfl) rfl rfl rfl ?_
  repeat' (first|refine gL ?_|(refine gv ?_;refine gk ?_)|fail)
  obtain ⟨full, hfull⟩ : ∃ full, full = ah + (nm.length : Int) + 1 := ⟨_, rfl⟩
  rw [← hfull]
  refine RT.ix T (j := i * 7) rfl rfl rfl (by exact hR) (by omega) (by omega) (by omega) rfl rfl ?_
  refine RT.faA T rfl rfl rfl rfl ?_
  refine RT.ldr (u := res.v) T rfl (by exact hR) (by rw [flat_get (f := MsgT.cells) (z := 7) (fun _ => rfl) hgi (by decide)]; rfl) rfl rfl rfl ?_
  repeat' (first|refine gL ?_|(refine gv ?_;refine gk ?_)|fail)
  obtain ⟨q0, hq0⟩ : ∃ q0, q0 = q + 200 + full + 8 * (res.l.length : Int) := ⟨_, rfl⟩
  rw [← hq0]
  refine CT.loop (α := Nat × Int) (fun s => [(0, .slice a l.length c), (1, .int .i64 ah), (2, .int .i64 s.2), (7, .int .i64 i), (8, .int .i64 full), (9, .int .i64 s.1)]) (fun s => Pu (s.1 ≤ fields.l.length ∧ q0 + 8 * s.1 ≤ s.2 ∧ s.2 ≤ 4503599627370496 ∧ (s.2 ≤ 16777216 → ∀ f ∈ fields.l.take s.1, FNm f)) :: R) (fun s => fields.l.length - s.1) (0, q0)
   ⟨rfl, rfl, rfl, rfl, rfl, rfl, trivial⟩ (fun w h => Sat.pu_in ⟨Nat.zero_le _, by dsimp only; omega, by dsimp only; omega, fun _ e he => by simp at he⟩ h) (fun ⟨k, p⟩ => CT.pu fun ⟨hk1, hp1, hp2, hp3⟩ => ?_)
  dsimp only at hk1 hp1 hp2 hp3 ⊢
  try refine gL ?_
  refine RT.ix T (j := i * 7) rfl rfl rfl (by exact hR) (by omega) (by omega) (by omega) rfl rfl ?_
  refine RT.faA T rfl rfl rfl rfl ?_
  refine RT.ldr (u := fields.v) T rfl (by exact hR) (by rw [flat_get (f := MsgT.cells) (z := 7) (fun _ => rfl) hgi (by decide)]; rfl) rfl rfl rfl ?_
  repeat' (first|refine gL ?_|(refine gv ?_;(refine⟨fun hc=>?_,fun hc=>?_⟩<;>first|(exfalso;omega)|skip))|fail)
  ·have hkl : k < fields.l.length := by omega
   have hgk := List.getElem?_eq_getElem hkl
   revert hgk
   generalize fields.l[k] = fd
   intro hgk
   obtain ⟨⟨_, fo1⟩, _, _, _, ⟨_, fo2⟩, _, _, _, ⟨_, fo3⟩⟩ := ef2 fd (List.mem_of_getElem? hgk)
   refine RT.ix T (j := i * 7) rfl rfl rfl (by exact hR) (by omega) (by omega) (by omega) rfl rfl ?_
   refine RT.faA T rfl rfl rfl rfl ?_
   refine RT.ldr (u := fields.v) T rfl (by exact hR) (by rw [flat_get (f := MsgT.cells) (z := 7) (fun _ => rfl) hgi (by decide)]; rfl) rfl rfl rfl ?_
   try refine gL ?_
   refine RT.ix T (j := k * 9) rfl rfl rfl (by exact if1) (by omega) (by omega) (by omega) rfl rfl ?_
   refine RT.ldra T rfl (by exact if1) (l := fd.cells) (flat_sub (f := FieldT.cells) (z := 9) (fun _ => rfl) fields.l k _ hgk) rfl rfl rfl rfl ?_
   repeat' (first|refine gM ?_|(refine gv ?_;refine gk ?_)|(refine gb ?_;intro b)|fail)
   exact AtQ.loop (k + 1, p + 120 + full + (fd.nm.length : Int) + (fd.ty.length : Int) + (fd.js.length : Int)) ⟨rfl, rfl, rfl, rfl, rfl, rfl, trivial⟩ (fun w h => Sat.pu_in ⟨by omega, by dsimp only; omega, by dsimp only; omega, fun hw => by dsimp only at hw; exact sm_take hgk (hp3 (by omega)) (by unfold FNm; omega)⟩ h.tail) (by dsimp only; omega)
  all_goals
   have hend : Imp (p ≤ 16777216) (k = fields.l.length) := fun h => by omega
   refine CT.loop (α := Nat × Int) (fun s => [(0, .slice a l.length c), (1, .int .i64 ah), (2, .int .i64 s.2), (7, .int .i64 i), (8, .int .i64 full), (11, .int .i64 s.1)]) (fun s => Pu (s.1 ≤ oneofs.l.length ∧ LeB (p + 8 * s.1) s.2 ∧ 0 ≤ s.2 ∧ s.2 ≤ 4503599627370496 ∧ (s.2 ≤ 16777216 → SmT (oneofs.l.take s.1))) :: R) (fun s => oneofs.l.length - s.1) (0, p)
    ⟨rfl, rfl, rfl, rfl, rfl, rfl, trivial⟩ (fun w h => Sat.pu_in ⟨Nat.zero_le _, by unfold LeB; dsimp only; omega, by dsimp only; omega, by dsimp only; omega, fun _ e he => by simp at he⟩ h) (fun ⟨j, o⟩ => CT.pu fun ⟨hj1, ho1, ho0, ho2, ho3⟩ => ?_)
   dsimp only at hj1 ho1 ho0 ho2 ho3 ⊢
   try refine gL ?_
   refine RT.ix T (j := i * 7) rfl rfl rfl (by exact hR) (by omega) (by omega) (by omega) rfl rfl ?_
   refine RT.faA T rfl rfl rfl rfl ?_
   refine RT.ldr (u := oneofs.v) T rfl (by exact hR) (by rw [flat_get (f := MsgT.cells) (z := 7) (fun _ => rfl) hgi (by decide)]; rfl) rfl rfl rfl ?_
   repeat' (first|refine gL ?_|(refine gv ?_;first|(refine⟨fun hc=>?_,fun hc=>?_⟩<;>first|(exfalso;omega)|skip)|refine gk ?_)|fail)
   ·have hjl : j < oneofs.l.length := by omega
    have hto := (eo2 oneofs.l[j] (List.getElem_mem hjl)).2
    refine RT.ix T (j := i * 7) rfl rfl rfl (by exact hR) (by omega) (by omega) (by omega) rfl rfl ?_
    refine RT.faA T rfl rfl rfl rfl ?_
    refine RT.ldr (u := oneofs.v) T rfl (by exact hR) (by rw [flat_get (f := MsgT.cells) (z := 7) (fun _ => rfl) hgi (by decide)]; rfl) rfl rfl rfl ?_
    try refine gL ?_
    refine RT.ix T (j := j) rfl rfl rfl (by exact io1) (by omega) (by omega) (by omega) rfl rfl ?_
    refine RT.ldr T rfl (by exact io1) (map_get hjl) rfl rfl rfl ?_
    repeat' (first|refine gL ?_|(refine gv ?_;refine gk ?_)|fail)
    exact AtQ.loop (j + 1, o + 80 + full + (oneofs.l[j].length : Int)) ⟨rfl, rfl, rfl, rfl, rfl, rfl, trivial⟩ (fun w h => Sat.pu_in ⟨by omega, by unfold LeB at *; dsimp only; omega, by dsimp only; omega, by dsimp only; omega, fun hw => by unfold LeB at *; dsimp only at hw; exact sm_take (List.getElem?_eq_getElem hjl) (ho3 (by omega)) (by omega)⟩ h) (by dsimp only; omega)
   all_goals
    unfold LeB at ho1
    have hend2 : Imp (o ≤ 16777216) (j = oneofs.l.length) := fun h => by omega
    refine RT.ix T (j := i * 7) rfl rfl rfl (by exact hR) (by omega) (by omega) (by omega) rfl rfl ?_
    refine RT.faA T rfl rfl rfl rfl ?_
    refine RT.ldr (u := names.v) T rfl (by exact hR) (by rw [flat_get (f := MsgT.cells) (z := 7) (fun _ => rfl) hgi (by decide)]; rfl) rfl rfl rfl ?_
    try refine gL ?_
    refine RT.call T rfl fR_ (tweight_fn (r := names) (n := o) it1 et1 et2 (by omega) (by omega)) rfl rfl rfl ?_
    rintro _ _ ⟨⟨w1, rfl, ⟨hw1, hw2, hw3⟩, hw4⟩, rfl⟩
    try simp only [List.cons_append, List.nil_append]
    try refine gL ?_
    refine RT.ix T (j := i * 7) rfl rfl rfl (by exact hR) (by omega) (by omega) (by omega) rfl rfl ?_
    refine RT.faA T rfl rfl rfl rfl ?_
    refine RT.ldr (u := enums.v) T rfl (by exact hR) (by rw [flat_get (f := MsgT.cells) (z := 7) (fun _ => rfl) hgi (by decide)]; rfl) rfl rfl rfl ?_
    try refine gL ?_
    refine RT.call T rfl fR_ (eweight_fn (r := enums) (ah := full) (n := w1) ie1 ee1 ie2 ee2 (by omega) (by omega) (by omega) (fun h => by omega)) rfl rfl rfl ?_
    rintro _ _ ⟨⟨w2, rfl, ⟨hx1, hx2, hx3⟩, hx4⟩, rfl⟩
    try simp only [List.cons_append, List.nil_append]
    try refine gL ?_
    refine RT.ix T (j := i * 7) rfl rfl rfl (by exact hR) (by omega) (by omega) (by omega) rfl rfl ?_
    refine RT.faA T rfl rfl rfl rfl ?_
    refine RT.ldr (u := .slice ma msgs.length mc) T rfl (by exact hR) (by rw [flat_get (f := MsgT.cells) (z := 7) (fun _ => rfl) hgi (by decide)]; rfl) rfl rfl rfl ?_
    try refine gL ?_
    refine RT.call T rfl fR_ (ih (MsgT.deepL msgs) (by omega) (Nat.le_refl _) im1 em1 im2 em2 (by omega) (by omega) (by omega) (fun h => by omega)) rfl rfl rfl ?_
    rintro _ _ ⟨⟨w3, rfl, ⟨hy1, hy2, hy3⟩, hy4⟩, rfl⟩
    try simp only [List.cons_append, List.nil_append]
    repeat' (first|refine gL ?_|(refine gv ?_;refine gk ?_)|fail)
    exact AtQ.loop (i + 1, w3) ⟨rfl, rfl, rfl, rfl, trivial⟩ (fun _ h => Sat.pu_in ⟨by omega, by dsimp only; omega, by dsimp only; omega, fun hw => by
     have hw : w3 ≤ 16777216 := hw
     have a1 := hend (by omega)
     have a2 := hend2 (by omega)
     have a3 := hw3 (by omega)
     have a4 := hx3 (by omega)
     have a5 := hy3 (by omega)
     have b1 := hp3 (by omega)
     rw [List.take_of_length_le (by omega)] at b1
     have b2 := ho3 (by omega)
     rw [List.take_of_length_le (by omega)] at b2
     obtain ⟨b3, c3⟩ := hx4 (by omega)
     obtain ⟨b4, c4⟩ := hy4 (by omega)
     have b5 := hw4 (by omega)
     refine ⟨sm_take hgi h5.1 ?_, cb_take hgi h5.2 (by unfold cntM; dsimp only; omega)⟩
     unfold MsgT.Sm MsgT.Nm MsgT.Ful
     exact ⟨⟨by omega, by omega, by omega, by omega, by omega, fun e he => (b3 e he).1, by omega, b4.1⟩, ⟨by omega, b1, b2, b5, fun e he => (b3 e he).2, b4.2.1⟩, by omega, by rw [← hfull]; exact b4.2.2⟩⟩ h) (by dsimp only; omega)
 ·exact AtQ.fin1 Tryz.results31 rfl ⟨⟨q, rfl, by unfold Wt; omega, fun h => by omega⟩, rfl⟩ (fun w h => h)
 ·exact AtQ.fin1 Tryz.results31 rfl ⟨⟨q, rfl, by unfold Wt; omega, fun h => by have h6 := hq3 h; rw [List.take_of_length_le (by omega)] at h6; exact ⟨⟨MsgT.smL_of fun e he => (h6.1 e he).1, MsgT.nmL_of fun e he => (h6.1 e he).2.1, MsgT.fulL_of fun e he => (h6.1 e he).2.2⟩, by rw [cntMs_eq]; exact h6.2⟩⟩, rfl⟩ (fun w h => h)
 --@
end Go.Proofs.YtdemnhdoadjhhaaGreatDoor
end
section
namespace Go.Sk
section
variable {X Y : Option Addr → Nat → Nat → Nat → List Value → Prop}
theorem EnumT.In.mono (h : ∀ a k c z xs, X a k c z xs → Y a k c z xs) {e : EnumT} (hi : e.In X) : e.In Y := ⟨h _ _ _ _ _ hi.1, h _ _ _ _ _ hi.2.1, h _ _ _ _ _ hi.2.2⟩
mutual
theorem MsgT.In.mono (h : ∀ a k c z xs, X a k c z xs → Y a k c z xs) : ∀ {m : MsgT}, MsgT.In X m → MsgT.In Y m
 | .mk nm fields oneofs ma mc msgs enums res names, hi => by
  unfold MsgT.In at hi ⊢
  obtain ⟨h1, h2, h3, h4, h5, h6, h7, h8⟩ := hi
  exact ⟨h _ _ _ _ _ h1, h _ _ _ _ _ h2, h _ _ _ _ _ h3, h _ _ _ _ _ h4, fun e he => (h5 e he).mono h, h _ _ _ _ _ h6, h _ _ _ _ _ h7, MsgT.InL.mono h h8⟩
theorem MsgT.InL.mono (h : ∀ a k c z xs, X a k c z xs → Y a k c z xs) : ∀ {l : List MsgT}, MsgT.InL X l → MsgT.InL Y l
 | [], _ => by unfold MsgT.InL; trivial
 | m :: l, hi => by
  unfold MsgT.InL at hi ⊢
  exact ⟨MsgT.In.mono h hi.1, MsgT.InL.mono h hi.2⟩
end
theorem FileT.In.mono (h : ∀ a k c z xs, X a k c z xs → Y a k c z xs) {f : FileT} (hi : f.In X) : f.In Y :=
 ⟨h _ _ _ _ _ hi.imps, h _ _ _ _ _ hi.msgs, fun m hm => MsgT.In.mono h (hi.sub m hm), h _ _ _ _ _ hi.enums, fun e he => (hi.esub e he).mono h⟩
end
end Go.Sk
end
section
namespace Go.Proofs.YtdemnhdoadjhhaaGreatDoor
open Go.Sk
set_option maxRecDepth 100000
attribute [local irreducible] Cs Own Ex Pu Yld RT LJ QJ AtQ CT Rd QSp Sp FinQ Then LoopQ CutQ DT TakeQ EffQ
variable {B : World} {R : List HP}
structure FSm (f : FileT) : Prop where
 imps : f.imps.l.length ≤ 2097152
 msgs : f.msgs.length ≤ 2097152
 sub : MsgT.SmL f.msgs
 enums : f.enums.l.length ≤ 2097152
 esub : ∀ e ∈ f.enums.l, ESm e
 nms : MsgT.NmL f.msgs
 pk : f.pack.length ≤ 16777216
 enm : ∀ e ∈ f.enums.l, ENm e
 ful : MsgT.FulL f.msgs (f.pack.length + 1)
 cnt : cntMs f.msgs + (f.enums.l.map cntE).sum ≤ 16777216
/-- Its names are short. -/
structure FNs (f : FileT) : Prop where
 nms : MsgT.NmL f.msgs
 pk : f.pack.length ≤ 16777216
 enm : ∀ e ∈ f.enums.l, ENm e
theorem FSm.ns {f : FileT} (h : FSm f) : FNs f := ⟨h.nms, h.pk, h.enm⟩
end Go.Proofs.YtdemnhdoadjhhaaGreatDoor
end
section
namespace Go.Proofs.YtdemnhdoadjhhaaGreatDoor
open Go.Sk
set_option maxRecDepth 100000
attribute [local irreducible] Cs Own Ex Pu Yld RT LJ QJ AtQ CT Rd QSp Sp FinQ Then LoopQ CutQ DT TakeQ EffQ
variable {B : World} {R : List HP}
theorem weightB_fn {f : FileT} (hi : f.In (Rd B R)) (ho : f.Ok) :
  Sp B Tryz.prog 9 [.agg f.cells.toArray] R [] (fun v H' => (∃ w, v = .int .i64 w ∧ 0 ≤ w ∧ w ≤ 4503599627370496 ∧ (w ≤ 16777216 → FSm f)) ∧ H' = []) := by
 obtain ⟨⟨_, hp1⟩, ⟨_, hp2⟩, ⟨⟨hi1, _⟩, hi2⟩, ⟨⟨hm1, _⟩, hm2⟩, ⟨⟨he1, _⟩, he2⟩⟩ := ho
 dsimp only at hm1
 refine Sp.body Tryz.func9 rfl Tryz.ntmps9 (by simp) ?_
 simp only [argE, List.cons_append, List.nil_append, Nat.zero_add, Nat.reduceAdd]
 repeat' (first|refine gL ?_|(refine gv ?_;refine gk ?_)|(refine gb ?_;intro b)|fail)
 have him := FileT.In.mono (Y := Rd B (Cs b 26 f.cells :: R)) (fun a k c z xs h => Rd.cons h) hi
 obtain ⟨q0, hq0⟩ : ∃ q0, q0 = 100 + (f.path.length : Int) + (f.pack.length : Int) := ⟨_, rfl⟩
 rw [← hq0]
 refine CT.loop (α := Nat × Int) (fun s => [(1, .pointer (some ⟨b, 0, none⟩)), (3, .int .i64 s.2), (4, .int .i64 s.1)]) (fun s => Pu (s.1 ≤ f.imps.l.length ∧ q0 + 8 * s.1 ≤ s.2 ∧ s.2 ≤ 4503599627370496) :: Cs b 26 f.cells :: R) (fun s => f.imps.l.length - s.1) (0, q0)
  ⟨rfl, rfl, rfl, trivial⟩ (fun w h => Sat.pu_in ⟨Nat.zero_le _, by dsimp only; omega, by dsimp only; omega⟩ h) (fun ⟨i, q⟩ => CT.pu fun ⟨hi1, hq1, hq2⟩ => ?_)
 dsimp only at hi1 hq1 hq2 ⊢
 repeat' (first|refine gL ?_|(refine gv ?_;first|(refine⟨fun hc=>?_,fun hc=>?_⟩<;>first|(exfalso;omega)|skip)|refine gk ?_)|fail)
 ·have hil : i < f.imps.l.length := by omega
  have hgi := List.getElem?_eq_getElem hil
  revert hgi
  generalize f.imps.l[i] = im
  intro hgi
  have hto := (hi2 im (List.mem_of_getElem? hgi)).2
  refine RT.ix T (j := i * 2) rfl rfl rfl (by exact him.imps) (by omega) (by omega) (by omega) rfl rfl ?_
  refine RT.faA T rfl rfl rfl rfl ?_
  refine RT.ldr (u := vS im.path) T rfl (by exact him.imps) (by rw [flat_get (f := ImpT.cells) (z := 2) (fun _ => rfl) hgi (by decide)]; rfl) rfl rfl rfl ?_
  repeat' (first|refine gL ?_|(refine gv ?_;refine gk ?_)|fail)
  exact AtQ.loop (i + 1, q + 20 + (im.path.length : Int)) ⟨rfl, rfl, rfl, trivial⟩ (fun w h => Sat.pu_in ⟨by omega, by dsimp only; omega, by dsimp only; omega⟩ h) (by dsimp only; omega)
 all_goals
  have hend : q ≤ 16777216 → i = f.imps.l.length := fun h => by omega
  refine RT.call T rfl fR_ (mweight_fn (R := Cs b 26 f.cells :: R) (ah := (f.pack.length : Int) + 1) (n := q) _ (Nat.le_refl _) him.msgs hm1 (MsgT.inL_of him.sub) (MsgT.okL_of hm2) (by omega) (by omega) (by omega) (fun h => by omega)) rfl rfl rfl ?_
  rintro _ _ ⟨⟨w2, rfl, ⟨hx1, hx2, hx3⟩, hx4⟩, rfl⟩
  try simp only [List.cons_append, List.nil_append]
  repeat' (first|refine gL ?_|(refine gv ?_;refine gk ?_)|fail)
  refine RT.call T rfl fR_ (eweight_fn (R := Cs b 26 f.cells :: R) (r := f.enums) (ah := (f.pack.length : Int) + 1) (n := w2) him.enums he1 him.esub he2 (by omega) (by omega) (by omega) (fun h => by omega)) rfl rfl rfl ?_
  rintro _ _ ⟨⟨w3, rfl, ⟨hy1, hy2, hy3⟩, hy4⟩, rfl⟩
  try simp only [List.cons_append, List.nil_append]
  try refine gL ?_
  exact AtQ.fin1 Tryz.results9 rfl ⟨⟨w3, rfl, by omega, by omega, fun h => by
   have a1 := hend (by omega)
   have a3 := hx3 (by omega)
   have a4 := hy3 (by omega)
   obtain ⟨a5, a6⟩ := hx4 (by omega)
   obtain ⟨a7, a8⟩ := hy4 (by omega)
   exact ⟨by omega, by omega, a5.1, by omega, fun e he => (a7 e he).1, a5.2.1, by omega, fun e he => (a7 e he).2, a5.2.2, by omega⟩⟩, rfl⟩ (fun w h => h.tail)
end Go.Proofs.YtdemnhdoadjhhaaGreatDoor
end
section
namespace Go.Proofs.YtdemnhdoadjhhaaGreatDoor
open Go.Sk
set_option maxRecDepth 100000
abbrev tstr (ls : List (List Int)) : List Value := ls.map vS
theorem tstr_get {ls : List (List Int)} {i : Nat} (h : i < ls.length) : (tstr ls)[i]? = some (.string (str (ls.getD i []))) := by
 rw [List.getElem?_map, List.getD_eq_getElem?_getD, List.getElem?_eq_getElem h]
 rfl
def own2 : List Int := [116, 104, 101, 32, 111, 119, 110, 101, 114, 39, 115]
theorem tstr_app (a b : List (List Int)) : tstr a ++ tstr b = tstr (a ++ b) := by simp [tstr]
theorem tstr_one (ls : List (List Int)) : ∀ u ∈ tstr ls, u.oneCell' = true := fun u hu => by
 obtain ⟨x, _, rfl⟩ := List.mem_map.1 hu
 rfl
theorem Rd.subT {B : World} {H : List HP} {a : Option Addr} {k c j : Nat} {ls : List (List Int)} (h : Rd B H a k c 1 (tstr ls)) (h2 : j ≤ k) : Rd B H a j c 1 (tstr (ls.take j)) := by
 have := h.sub (Nat.zero_le j) h2
 rw [asub_z, Nat.sub_zero, Nat.sub_zero, Nat.zero_mul, List.drop_zero, Nat.mul_one] at this
 simpa [tstr] using this
theorem owner_at {ls : List (List Int)} {i : Nat} (hi : i < 2) : (ls ++ [own2, own2]).getD (ls.length + i) [] = own2 := by
 rw [List.getD_eq_getElem?_getD, List.getElem?_append_right (by omega), Nat.add_sub_cancel_left]
 match i, hi with
 | 0, _ | 1, _ => rfl
attribute [local irreducible] Cs Own Ex Pu Yld RT LJ QJ AtQ CT Rd QSp Sp FinQ Then LoopQ CutQ DT TakeQ EffQ
variable {B : World} {R : List HP}
set_option maxHeartbeats 1000000 in
theorem sameT_fn {a a' : Option Addr} {k c k' c' : Nat} {ls ls' : List (List Int)} (hR : Rd B R a k c 1 (tstr ls)) (hk : k = ls.length) (hB : ∀ l ∈ ls, Byt l) (hR' : Rd B R a' k' c' 1 (tstr ls')) (hk' : k' = ls'.length) (hB' : ∀ l ∈ ls', Byt l) (hl : ls.length ≤ 1000000000000) (hl' : ls'.length ≤ 1000000000000) :
  Sp B Tryz.prog 130 [.slice a k c, .slice a' k' c'] R [] (fun v H' => v = .bool (decide (ls = ls')) ∧ H' = []) := by
 refine Sp.body Tryz.func130 rfl Tryz.ntmps130 (by simp) ?_
 simp only [argE, List.cons_append, List.nil_append, Nat.zero_add, Nat.reduceAdd]
 subst hk hk'
 have hget : ∀ i, i < ls.length → Byt (ls.getD i []) := fun i hi => by
  rw [List.getD_eq_getElem?_getD, List.getElem?_eq_getElem hi]
  exact hB _ (List.getElem_mem hi)
 have hget' : ∀ i, i < ls'.length → Byt (ls'.getD i []) := fun i hi => by
  rw [List.getD_eq_getElem?_getD, List.getElem?_eq_getElem hi]
  exact hB' _ (List.getElem_mem hi)
 repeat' (first|refine gL ?_|(refine gv ?_;(refine⟨fun hc=>?_,fun hc=>?_⟩<;>first|(exfalso;omega)|skip))|fail)
 ·refine CT.loop (α := Nat) (fun i => [(0, .slice a ls.length c), (1, .slice a' ls'.length c'), (5, .int .i64 i)]) (fun i => Pu (i ≤ ls.length ∧ ∀ j, j < i → ls.getD j [] = ls'.getD j []) :: R) (fun i => ls.length - i) 0 ⟨rfl, rfl, rfl, trivial⟩
   (fun w h => Sat.pu_in ⟨Nat.zero_le _, fun j hj => absurd hj (by omega)⟩ h) (fun i => CT.pu fun ⟨hi, ho⟩ => ?_)
  repeat' (first|refine gL ?_|(refine gv ?_;(refine⟨fun hc=>?_,fun hc=>?_⟩<;>first|(exfalso;omega)|skip))|fail)
  ·refine RT.ix T (j := i) rfl rfl rfl (rD (hR)) (by omega) (by omega) (by omega) rfl rfl ?_
   refine RT.ldr T rfl (rD (hR)) (tstr_get (i := i) (by omega)) rfl rfl rfl ?_
   try refine gL ?_
   refine RT.ix T (j := i) rfl rfl rfl (rD (hR')) (by omega) (by omega) (by omega) rfl rfl ?_
   refine RT.ldr T rfl (rD (hR')) (tstr_get (i := i) (by omega)) rfl rfl rfl ?_
   refine RT.nes (l := ls.getD i []) (l' := ls'.getD i []) rfl rfl (hget i (by omega)) (hget' i (by omega)) rfl rfl (fun he => ?_) (fun he => ?_)
   ·repeat' (first|refine gL ?_|(refine gv ?_;refine gk ?_)|fail)
    exact AtQ.loop (i + 1) ⟨rfl, rfl, rfl, trivial⟩ (fun w h => Sat.pu_in ⟨by omega, fun j hj => by
     by_cases hji : j = i
     ·rw [hji]; exact he
     ·exact ho j (by omega)⟩ h) (by omega)
   ·try refine gL ?_
    exact AtQ.f1 Tryz.results130 rfl (by rw [decide_eq_false (fun e => he (by rw [e]))]) (fun w h => h)
  ·have hie : i = ls.length := by omega
   subst hie
   have e : ls = ls' := by
    apply List.ext_getElem (by omega)
    intro j h1 h2
    have := ho j h1
    rw [List.getD_eq_getElem?_getD, List.getD_eq_getElem?_getD, List.getElem?_eq_getElem h1, List.getElem?_eq_getElem h2] at this
    exact this
   exact AtQ.f1 Tryz.results130 rfl (by rw [decide_eq_true e]) (fun w h => h)
 ·exact AtQ.f1 Tryz.results130 rfl (by rw [decide_eq_false (fun e => by have := congrArg List.length e; omega)]) (fun w h => h)
set_option maxHeartbeats 1000000 in
theorem lentT_fn {a : Option Addr} {n c : Nat} {ls : List (List Int)} (hR : Rd B R a n c 1 (tstr ls)) (hn : ls.length = n) (hl : ls.length ≤ 1000000000000) :
  Sp B Tryz.prog 88 [.slice a n c] R [] (fun v H' => ∃ a' c', v = .slice a' ls.length c' ∧ ls.length + 2 ≤ c' ∧ H' = [Own a' c' 9 1 (ls.length + 2) (tstr (ls ++ [own2, own2]))]) := by
 refine Sp.body Tryz.func88 rfl Tryz.ntmps88 (by simp) ?_
 simp only [argE, List.cons_append, List.nil_append, Nat.zero_add, Nat.reduceAdd]
 subst hn
 repeat' (first|refine gL ?_|(refine gv ?_;refine gk ?_)|fail)
 refine RT.mk0 T (c := ls.length + 2) rfl rfl rfl rfl rfl (by omega) (by omega) rfl rfl (fun a0 => ?_)
 try refine gL ?_
 refine RT.app T (xs := tstr []) (ys := tstr ls) rfl rfl rfl (fun a' c' => by ((repeat constructor);done)) (rD (hR)) (tstr_one ls) (by omega) (by omega) rfl rfl rfl rfl (fun a1 c1 hac => ?_)
 try refine gL ?_
 refine RT.bs T (l := tstr [own2, own2]) rfl rfl rfl rfl rfl rfl rfl (fun b2 d2 hd2 => ?_)
 refine RT.app T (xs := tstr [] ++ tstr ls) (ys := tstr [own2, own2]) rfl rfl rfl (fun a' c' => by ((repeat constructor);done)) (Own.rd sE_ rfl hd2) (tstr_one _) (by omega) (by omega) rfl rfl rfl rfl (fun a2 c2 hac2 => ?_)
 try refine gL ?_
 refine RT.slhi T (j := ls.length) rfl rfl rfl (by omega) rfl rfl rfl ?_
 rw [asub_z]
 try refine gL ?_
 refine AtQ.fin1 (H' := [Own a2 c2 9 1 (ls.length + 2) (tstr (ls ++ [own2, own2]))]) Tryz.results88 rfl ⟨a2, c2, rfl, by omega, rfl⟩ (fun w h => ?_)
 have h2 := h.frd (Ps := [Own a2 c2 9 1 (0 + ls.length + 2) (tstr [] ++ tstr ls ++ tstr [own2, own2])]) (Qs := [_]) fR_
 rw [Nat.zero_add, tstr_app, tstr_app, List.nil_append] at h2
 exact h2
set_option maxHeartbeats 1000000 in
theorem wholeT_fn {a a' : Option Addr} {c k' c' : Nat} {ls : List (List Int)} (hR : Rd B R a (ls.length + 2) c 1 (tstr (ls ++ [own2, own2]))) (hR' : Rd B R a' k' c' 1 (tstr ls)) (hk' : k' = ls.length) (hB : ∀ l ∈ ls, Byt l) (hk : ls.length ≤ 1000000000000) :
  Sp B Tryz.prog 99 [.slice a ls.length c, .slice a' k' c'] R [] (fun v H' => v = .bool true ∧ H' = []) := by
 refine Sp.body Tryz.func99 rfl Tryz.ntmps99 (by simp) ?_
 simp only [argE, List.cons_append, List.nil_append, Nat.zero_add, Nat.reduceAdd]
 subst hk'
 have hlc := hR.le
 have hRl : Rd B R a ls.length c 1 (tstr ls) := by
  have := Rd.subT hR (j := ls.length) (by omega)
  rw [List.take_left] at this
  exact this
 repeat' (first|refine gL ?_|(refine gv ?_;first|(refine⟨fun hc=>?_,fun hc=>?_⟩<;>first|(exfalso;omega)|skip)|refine gk ?_)|fail)
 refine RT.slhi T (j := ls.length + 2) rfl rfl (by omega) (by omega) rfl rfl rfl ?_
 rw [asub_z]
 try refine gL ?_
 refine RT.ix T (j := ls.length) rfl rfl rfl (rD (hR)) (by omega) (by omega) (by omega) rfl rfl ?_
 refine RT.ldr T rfl (rD (hR)) (tstr_get (i := ls.length) (by rw [List.length_append]; simp)) rfl rfl rfl ?_
 rw [show (ls ++ [own2, own2]).getD ls.length [] = own2 from owner_at (i := 0) (by omega)]
 refine RT.eqsame rfl rfl rfl rfl ?_
 repeat' (first|refine gL ?_|(refine gv ?_;refine gk ?_)|fail)
 refine RT.ix T (j := ls.length + 1) rfl rfl rfl (rD (hR)) (by omega) (by omega) (by omega) rfl rfl ?_
 refine RT.ldr T rfl (rD (hR)) (tstr_get (i := ls.length + 1) (by rw [List.length_append]; simp)) rfl rfl rfl ?_
 rw [show (ls ++ [own2, own2]).getD (ls.length + 1) [] = own2 from owner_at (i := 1) (by omega)]
 refine RT.eqsame rfl rfl rfl rfl ?_
 try refine gL ?_
 (refine RT.call T rfl fR_ (sameT_fn hRl rfl hB hR' rfl hB hk hk) rfl rfl rfl ?_; rintro _ _ ⟨rfl, rfl⟩; try simp only [List.cons_append, List.nil_append])
 simp only [decide_true]
 try refine gL ?_
 exact AtQ.f1 Tryz.results99 rfl rfl (fun w h => h)
theorem spoilT_fn {a : Option Addr} {n m c : Nat} {xs : List Value} (hn : n ≤ m) :
  Sp B Tryz.prog 100 [.slice a n c] R [Own a c 9 1 m xs] (fun v H' => v = .tuple #[] ∧ H' = []) := by
 refine Sp.weak (Pre' := [Ex fun ys => [Own a c 9 1 c (xs ++ ys)]]) (fun w h => ?_) ?_
 ·obtain ⟨h0, hh, h1, h2, d, l1, l2, ho, hr⟩ := h.heap
  obtain ⟨ys, hy⟩ := Own.full ho
  exact Sat.ex_in ys { h with heap := ⟨h0, hh, h1, h2, d, l1, l2, hy, hr⟩ }
 refine Sp.body Tryz.func100 rfl Tryz.ntmps100 (by simp) ?_
 simp only [argE, List.cons_append, List.nil_append, Nat.zero_add, Nat.reduceAdd]
 refine CT.ex (fun ys => ?_)
 generalize xs ++ ys = zs
 simp only [List.cons_append, List.nil_append]
 try refine gL ?_
 refine RT.fact (p := zs.length = c * 1 ∧ c ≤ c ∧ c ≤ maxLen) (fun w h => Own.facts h .h) (fun hf => ?_)
 obtain ⟨hzl, _, hcm⟩ := hf
 unfold maxLen at hcm
 refine RT.slhi T (j := c) rfl rfl (by omega) (by omega) rfl rfl rfl ?_
 rw [asub_z]
 try refine gL ?_
 refine CT.loop (α := Nat × List Value) (fun x => [(2, .slice a c c), (3, .int .i64 x.1)]) (fun x => Pu (x.1 ≤ c ∧ x.2.length = c) :: Own a c 9 1 c x.2 :: R) (fun x => c - x.1) (0, zs) ⟨rfl, rfl, trivial⟩
  (fun w h => Sat.pu_in ⟨Nat.zero_le _, by simp only; omega⟩ h) (fun x => CT.pu fun hx => ?_)
 obtain ⟨i, us⟩ := x
 obtain ⟨x1, x2⟩ := hx
 dsimp only at x1 x2 ⊢
 repeat' (first|refine gL ?_|(refine gv ?_;(refine⟨fun hc=>?_,fun hc=>?_⟩<;>first|(exfalso;omega)|skip))|fail)
 ·refine RT.ix T (j := i) rfl rfl rfl (Own.rd sE_ (by omega) (Nat.le_refl _)) (by omega) (by omega) (by omega) rfl rfl ?_
  refine RT.sto T rfl rfl rfl (by ((repeat constructor);done)) (by omega) rfl rfl ?_
  repeat' (first|refine gL ?_|(refine gv ?_;refine gk ?_)|fail)
  exact AtQ.loop (i + 1, us.set i (.string ⟨#[115, 112, 111, 105, 108, 116]⟩)) ⟨rfl, rfl, trivial⟩ (fun w h => Sat.pu_in ⟨by simp only; omega, by simp only [List.length_set]; exact x2⟩ h) (by simp only; omega)
 ·exact AtQ.f0 (HH := []) Tryz.results100 (fun w h => h.tail) (by first | exact .inl rfl | exact .inr rfl)
end Go.Proofs.YtdemnhdoadjhhaaGreatDoor
end
section
namespace Go.Proofs.YtdemnhdoadjhhaaGreatDoor
open Go.Sk
set_option maxRecDepth 100000
def lentT : Txt := [108, 101, 110, 116]
def lentEV : EValT := ⟨lentT, 0⟩
def lentSp : SpanT := ⟨-77, -77⟩
def lentF : FieldT := ⟨lentT, 0, 0, 0, [], 0, 0, 0, []⟩
def lentIm : ImpT := ⟨lentT, false⟩
def nilR {α : Type} : Rw α := ⟨none, 0, []⟩
def lentE : EnumT := ⟨lentT, nilR, false, nilR, nilR⟩
def lentM : MsgT := .mk lentT nilR nilR none 0 [] nilR nilR nilR
def lentFl : FileT := ⟨lentT, [], nilR, none, 0, [], nilR⟩
def rowH {α : Type} (e z : Nat) (f : α → List Value) (x : α) (a : Option Addr) (c : Nat) (l : List α) : HP := Own a c e z (l.length + 5) ((l ++ List.replicate 5 x).flatMap f)
def txH (r : Rw Txt) : HP := Own r.a r.c 9 1 (r.l.length + 2) (tstr (r.l ++ [own2, own2]))
def eRows (e : EnumT) : List HP := [rowH 111 2 EValT.cells lentEV e.vals.a e.vals.c e.vals.l, rowH 158 2 SpanT.cells lentSp e.res.a e.res.c e.res.l, txH e.names]
def barR {α : Type} (r : Rw α) : Rw α := ⟨none, 0, r.l⟩
/-- An enum without its places. -/
def EnumT.er (e : EnumT) : EnumT := ⟨e.nm, barR e.vals, e.ali, barR e.res, barR e.names⟩
mutual
/-- A message without its places. -/
def mEr : MsgT → MsgT
 | .mk nm fields oneofs _ _ msgs enums res names => .mk nm (barR fields) (barR oneofs) none 0 (mErL msgs) ⟨none, 0, enums.l.map EnumT.er⟩ (barR res) (barR names)
def mErL : List MsgT → List MsgT
 | [] => []
 | m :: l => mEr m :: mErL l
end
theorem mErL_map : ∀ l : List MsgT, mErL l = l.map mEr
 | [] => by unfold mErL; rfl
 | m :: l => by unfold mErL; rw [mErL_map l]; rfl
mutual
/-- The rows of a message that is lent. -/
def mRows : MsgT → List HP
 | .mk _ fields oneofs ma mc msgs enums res names => [rowH 87 9 FieldT.cells lentF fields.a fields.c fields.l, rowH 158 2 SpanT.cells lentSp res.a res.c res.l, txH oneofs, txH names,
   rowH 72 7 MsgT.cells lentM ma mc msgs, Bag (mRowsL msgs), rowH 109 5 EnumT.cells lentE enums.a enums.c enums.l, Bag (enums.l.flatMap eRows)]
def mRowsL : List MsgT → List HP
 | [] => []
 | m :: l => mRows m ++ mRowsL l
end
theorem mRowsL_flat : ∀ l : List MsgT, mRowsL l = l.flatMap mRows
 | [] => by unfold mRowsL; rfl
 | m :: l => by unfold mRowsL; rw [mRowsL_flat l, List.flatMap_cons]
theorem rep_snoc {α : Type} {l : List α} {x : α} {k : Nat} : (l ++ List.replicate k x) ++ [x] = l ++ List.replicate (k + 1) x := by
 rw [List.append_assoc, List.replicate_succ']
theorem flat_app {α : Type} {f : α → List Value} {l : List α} {x : α} : l.flatMap f ++ f x = (l ++ [x]).flatMap f := by simp
theorem one_flat {α : Type} {f : α → List Value} (h : ∀ x, ∀ u ∈ f x, u.oneCell' = true) (l : List α) : ∀ u ∈ l.flatMap f, u.oneCell' = true := fun u hu => by
 obtain ⟨x, _, hx⟩ := List.mem_flatMap.1 hu
 exact h x u hx
theorem one_ev (x : EValT) : ∀ u ∈ x.cells, u.oneCell' = true := List.all_eq_true.1 (rfl : x.cells.all (·.oneCell') = true)
theorem one_sp (x : SpanT) : ∀ u ∈ x.cells, u.oneCell' = true := List.all_eq_true.1 (rfl : x.cells.all (·.oneCell') = true)
theorem one_fd (x : FieldT) : ∀ u ∈ x.cells, u.oneCell' = true := List.all_eq_true.1 (rfl : x.cells.all (·.oneCell') = true)
theorem one_im (x : ImpT) : ∀ u ∈ x.cells, u.oneCell' = true := List.all_eq_true.1 (rfl : x.cells.all (·.oneCell') = true)
theorem one_en (x : EnumT) : ∀ u ∈ x.cells, u.oneCell' = true := List.all_eq_true.1 (rfl : x.cells.all (·.oneCell') = true)
theorem one_ms (x : MsgT) : ∀ u ∈ x.cells, u.oneCell' = true := List.all_eq_true.1 (rfl : x.cells.all (·.oneCell') = true)
theorem one_fl (x : FileT) : ∀ u ∈ x.cells, u.oneCell' = true := List.all_eq_true.1 (rfl : x.cells.all (·.oneCell') = true)
variable {B : World} {R : List HP} {w : World}
/-- Pieces into a bag. -/
theorem Bag.add {qs ps : List HP} (s : Sat B (qs ++ (Bag ps :: R)) w) : Sat B (Bag (ps ++ qs) :: R) w := by
 refine Bag.close (s.mono fun h hs => ?_)
 have h1 : star ((Bag ps :: R) ++ qs) h := star_comm hs
 obtain ⟨x, y, d, lx, ly, hb, hr⟩ := h1
 have h2 : star (qs ++ R) y := star_comm hr
 rw [List.append_assoc]
 exact star_glue ps d lx ly hb h2
theorem Rd.under {a : Option Addr} {k c sz : Nat} {xs : List Value} (h : Rd B R a k c sz xs) : ∀ H, Rd B (H ++ R) a k c sz xs
 | [] => h
 | _ :: H => Rd.cons (Rd.under h H)
end Go.Proofs.YtdemnhdoadjhhaaGreatDoor
end
section
namespace Go.Proofs.YtdemnhdoadjhhaaGreatDoor
open Go.Sk
set_option maxRecDepth 100000
attribute [local irreducible] Cs Own Ex Pu Yld RT LJ QJ AtQ CT Rd QSp Sp FinQ Then LoopQ CutQ DT TakeQ EffQ
variable {B : World} {R : List HP}
set_option maxHeartbeats 8000000 in
theorem lentE_fn {r : Rw EnumT} (hR : Rd B R r.a r.l.length r.c 5 (r.l.flatMap EnumT.cells)) (hk : r.l.length ≤ 2097152) (hin : ∀ e ∈ r.l, e.In (Rd B R)) (hsm : ∀ e ∈ r.l, ESm e) :
  Sp B Tryz.prog 34 [r.v] R [] (fun v H' => ∃ (a : Option Addr) (c : Nat) (l : List EnumT), v = .slice a l.length c ∧ l.map EnumT.er = r.l.map EnumT.er ∧ H' = [rowH 109 5 EnumT.cells lentE a c l, Bag (l.flatMap eRows)]) := by
 obtain ⟨a, c, l⟩ := r
 simp only [Rw.v] at *
 refine Sp.body Tryz.func34 rfl Tryz.ntmps34 (by simp) ?_
 simp only [argE, List.cons_append, List.nil_append, Nat.zero_add, Nat.reduceAdd]
 try refine gL ?_
 refine CT.weak (fun w h => Sat.nilOwn (e := 109) (sz := 5) (Bag.nil_ h)) ?_
 refine CT.loop (α := Nat × List EnumT × Option Addr × Nat) (fun s => [(0, .slice a l.length c), (3, .slice s.2.2.1 s.2.1.length s.2.2.2), (4, .int .i64 s.1)])
  (fun s => Pu (s.1 ≤ l.length ∧ s.2.1.map EnumT.er = (l.take s.1).map EnumT.er) :: Own s.2.2.1 s.2.2.2 109 5 s.2.1.length (s.2.1.flatMap EnumT.cells) :: Bag (s.2.1.flatMap eRows) :: R) (fun s => l.length - s.1) (0, [], none, 0)
  ⟨rfl, rfl, rfl, trivial⟩ (fun w h => Sat.pu_in ⟨Nat.zero_le _, rfl⟩ h) (fun ⟨i, l2, a2, c2⟩ => CT.pu fun ⟨hi, hl2⟩ => ?_)
 dsimp only at hi hl2 ⊢
 have hn2 : l2.length = i := by have := congrArg List.length hl2; simp at this; omega
 repeat' (first|refine gL ?_|(refine gv ?_;(refine⟨fun hc=>?_,fun hc=>?_⟩<;>first|(exfalso;omega)|skip))|fail)
 ·have hil : i < l.length := by omega
  have hgi := List.getElem?_eq_getElem hil
  revert hgi
  generalize l[i] = e
  intro hgi
  have hme := List.mem_of_getElem? hgi
  obtain ⟨es1, es2, es3⟩ := hsm e hme
  obtain ⟨ei1, ei2, ei3⟩ := hin e hme
  refine RT.ix T (j := i * 5) rfl rfl rfl (rD (hR)) (by omega) (by omega) (by omega) rfl rfl ?_
  refine RT.ldra T rfl (rD (hR)) (l := e.cells) (flat_sub (f := EnumT.cells) (z := 5) (fun _ => rfl) l i _ hgi) rfl rfl rfl rfl ?_
  repeat' (first|refine gM ?_|(refine gb ?_;intro b)|fail)
  revert b
  intro b0
  refine RT.weak (fun w h => Sat.nilOwn (e := 111) (sz := 2) h) ?_
  refine RT.app T (xs := []) (ys := e.vals.l.flatMap EValT.cells) rfl rfl rfl (fun a' c' => by ((repeat constructor);done)) (rD (ei1)) (one_flat one_ev _) (by omega) (by omega) rfl rfl rfl rfl (fun a3 c3 hc3 => ?_)
  simp only [Nat.zero_add, List.nil_append]
  try refine gL ?_
  refine RT.weak (fun w h => Sat.nilOwn (e := 158) (sz := 2) h) ?_
  refine RT.app T (xs := []) (ys := e.res.l.flatMap SpanT.cells) rfl rfl rfl (fun a' c' => by ((repeat constructor);done)) (rD (ei2)) (one_flat one_sp _) (by omega) (by omega) rfl rfl rfl rfl (fun a4 c4 hc4 => ?_)
  simp only [Nat.zero_add, List.nil_append]
  try refine gL ?_
  refine CT.loop (α := Nat × (Option Addr × Nat) × (Option Addr × Nat)) (fun s => [(0, .slice a l.length c), (3, .slice a2 l2.length c2), (4, .int .i64 i), (5, .pointer (some ⟨b0, 0, none⟩)), (6, .slice s.2.1.1 (e.vals.l.length + s.1) s.2.1.2), (7, .slice s.2.2.1 (e.res.l.length + s.1) s.2.2.2), (8, .int .i64 s.1)])
   (fun s => Pu (s.1 ≤ 5) :: Own s.2.2.1 s.2.2.2 158 2 (e.res.l.length + s.1) ((e.res.l ++ List.replicate s.1 lentSp).flatMap SpanT.cells) :: Own s.2.1.1 s.2.1.2 111 2 (e.vals.l.length + s.1) ((e.vals.l ++ List.replicate s.1 lentEV).flatMap EValT.cells) ::
    Cs b0 109 e.cells :: Own a2 c2 109 5 l2.length (l2.flatMap EnumT.cells) :: Bag (l2.flatMap eRows) :: R) (fun s => 5 - s.1) (0, (a3, c3), (a4, c4))
   ⟨rfl, rfl, rfl, rfl, rfl, rfl, rfl, trivial⟩ (fun w h => Sat.pu_in (Nat.zero_le _) (by simp only [List.replicate_zero, List.append_nil, Nat.add_zero]; exact h)) (fun ⟨k, ⟨a5, c5⟩, a6, c6⟩ => CT.pu fun hk5 => ?_)
  dsimp only at hk5 ⊢
  repeat' (first|refine gL ?_|(refine gv ?_;(refine⟨fun hc=>?_,fun hc=>?_⟩<;>first|(exfalso;omega)|skip))|fail)
  ·refine RT.bsA T (l := lentEV.cells) rfl rfl rfl rfl rfl rfl rfl rfl (fun a7 => ?_)
   refine RT.app T (xs := (e.vals.l ++ List.replicate k lentEV).flatMap EValT.cells) (ys := lentEV.cells) rfl rfl rfl (fun a' c' => by ((repeat constructor);done)) (Own.rd sE_ rfl (Nat.le_refl _)) (one_ev _) (by omega) (by omega) rfl rfl rfl rfl (fun a8 c8 hc8 => ?_)
   try refine gL ?_
   refine RT.bsA T (l := lentSp.cells) rfl rfl rfl rfl rfl rfl rfl rfl (fun a9 => ?_)
   refine RT.app T (xs := (e.res.l ++ List.replicate k lentSp).flatMap SpanT.cells) (ys := lentSp.cells) rfl rfl rfl (fun a' c' => by ((repeat constructor);done)) (Own.rd sE_ rfl (Nat.le_refl _)) (one_sp _) (by omega) (by omega) rfl rfl rfl rfl (fun a10 c10 hc10 => ?_)
   repeat' (first|refine gL ?_|(refine gv ?_;refine gk ?_)|fail)
   exact AtQ.loop (k + 1, (a8, c8), (a10, c10)) ⟨rfl, rfl, rfl, rfl, rfl, rfl, rfl, trivial⟩ (fun w h => Sat.pu_in (by omega) (by
    have h2 := h.tail.tail
    rw [flat_app, flat_app, rep_snoc, rep_snoc] at h2
    exact h2)) (by dsimp only; omega)
  obtain rfl : k = 5 := by omega
  refine RT.fact (p := e.vals.l.length + 5 ≤ c5 ∧ e.res.l.length + 5 ≤ c6) (fun w h => ⟨(Own.facts h (.t .h)).2.1, (Own.facts h .h).2.1⟩) (fun ⟨hc5, hc6⟩ => ?_)
  refine RT.slhi T (j := e.vals.l.length) rfl rfl rfl (by omega) rfl rfl rfl ?_
  rw [asub_z]
  try refine gL ?_
  refine RT.slhi T (j := e.res.l.length) rfl rfl rfl (by omega) rfl rfl rfl ?_
  rw [asub_z]
  try refine gL ?_
  refine RT.call T rfl fR_ (lentT_fn (a := e.names.a) (n := e.names.l.length) (c := e.names.c) (ls := e.names.l) (rD (ei3)) rfl (by omega)) rfl rfl rfl ?_
  rintro _ _ ⟨a7, c7, rfl, hc7, rfl⟩
  simp only [List.cons_append, List.nil_append]
  try refine gM ?_
  refine RT.bsA T (l := EnumT.cells ⟨e.nm, ⟨a5, c5, e.vals.l⟩, e.ali, ⟨a6, c6, e.res.l⟩, ⟨a7, c7, e.names.l⟩⟩) rfl rfl rfl rfl rfl rfl rfl rfl (fun a9 => ?_)
  refine RT.app T (xs := l2.flatMap EnumT.cells) (ys := EnumT.cells ⟨e.nm, ⟨a5, c5, e.vals.l⟩, e.ali, ⟨a6, c6, e.res.l⟩, ⟨a7, c7, e.names.l⟩⟩) rfl rfl rfl (fun a' c' => by ((repeat constructor);done)) (Own.rd sE_ rfl (Nat.le_refl _)) (one_en _) (by omega) (by omega) rfl rfl rfl rfl (fun a10 c10 hc10 => ?_)
  repeat' (first|refine gL ?_|(refine gv ?_;refine gk ?_)|fail)
  exact AtQ.loop (i + 1, l2 ++ [⟨e.nm, ⟨a5, c5, e.vals.l⟩, e.ali, ⟨a6, c6, e.res.l⟩, ⟨a7, c7, e.names.l⟩⟩], a10, c10) ⟨rfl, by rw [List.length_append]; rfl, rfl, trivial⟩ (fun w h => Sat.pu_in ⟨by omega, by
   rw [List.map_append, hl2, List.take_add_one, hgi, List.map_append]
   rfl⟩ (by
    have h2 := h.frd (Ps := [rowH 111 2 EValT.cells lentEV a5 c5 e.vals.l, rowH 158 2 SpanT.cells lentSp a6 c6 e.res.l, txH ⟨a7, c7, e.names.l⟩, Bag (l2.flatMap eRows), Own a10 c10 109 5 (l2.length + 1) (l2.flatMap EnumT.cells ++ EnumT.cells ⟨e.nm, ⟨a5, c5, e.vals.l⟩, e.ali, ⟨a6, c6, e.res.l⟩, ⟨a7, c7, e.names.l⟩⟩)]) (Qs := [_, _]) (R := R) fR_
    have h3 := Bag.add (qs := eRows ⟨e.nm, ⟨a5, c5, e.vals.l⟩, e.ali, ⟨a6, c6, e.res.l⟩, ⟨a7, c7, e.names.l⟩⟩) (ps := l2.flatMap eRows) h2
    have h4 := h3.fr (Ps := [Own a10 c10 109 5 (l2.length + 1) (l2.flatMap EnumT.cells ++ EnumT.cells ⟨e.nm, ⟨a5, c5, e.vals.l⟩, e.ali, ⟨a6, c6, e.res.l⟩, ⟨a7, c7, e.names.l⟩⟩), Bag (l2.flatMap eRows ++ eRows ⟨e.nm, ⟨a5, c5, e.vals.l⟩, e.ali, ⟨a6, c6, e.res.l⟩, ⟨a7, c7, e.names.l⟩⟩)]) (R := R) fR_
    rw [flat_app] at h4
    simp only [List.length_append, List.length_singleton, List.flatMap_append, List.flatMap_cons, List.flatMap_nil, List.append_nil] at h4 ⊢
    exact h4)) (by dsimp only; omega)
 obtain rfl : i = l.length := by omega
 rw [List.take_length] at hl2
 refine CT.loop (α := Nat × Option Addr × Nat) (fun s => [(0, .slice a l.length c), (3, .slice s.2.1 (l2.length + s.1) s.2.2), (9, .int .i64 s.1)])
  (fun s => Pu (s.1 ≤ 5) :: Own s.2.1 s.2.2 109 5 (l2.length + s.1) ((l2 ++ List.replicate s.1 lentE).flatMap EnumT.cells) :: Bag (l2.flatMap eRows) :: R) (fun s => 5 - s.1) (0, a2, c2)
  ⟨rfl, rfl, rfl, trivial⟩ (fun w h => Sat.pu_in (Nat.zero_le _) (by simp only [List.replicate_zero, List.append_nil, Nat.add_zero]; exact h)) (fun ⟨k, a5, c5⟩ => CT.pu fun hk5 => ?_)
 dsimp only at hk5 ⊢
 repeat' (first|refine gL ?_|(refine gv ?_;(refine⟨fun hc=>?_,fun hc=>?_⟩<;>first|(exfalso;omega)|skip))|fail)
 ·refine RT.bsA T (l := lentE.cells) rfl rfl rfl rfl rfl rfl rfl rfl (fun a7 => ?_)
  refine RT.app T (xs := (l2 ++ List.replicate k lentE).flatMap EnumT.cells) (ys := lentE.cells) rfl rfl rfl (fun a' c' => by ((repeat constructor);done)) (Own.rd sE_ rfl (Nat.le_refl _)) (one_en _) (by omega) (by omega) rfl rfl rfl rfl (fun a8 c8 hc8 => ?_)
  repeat' (first|refine gL ?_|(refine gv ?_;refine gk ?_)|fail)
  exact AtQ.loop (k + 1, a8, c8) ⟨rfl, rfl, rfl, trivial⟩ (fun w h => Sat.pu_in (by omega) (by
   have h2 := h.tail
   rw [flat_app, rep_snoc] at h2
   exact h2)) (by dsimp only; omega)
 obtain rfl : k = 5 := by omega
 refine RT.fact (p := l2.length + 5 ≤ c5) (fun w h => (Own.facts h .h).2.1) (fun hc5 => ?_)
 refine RT.slhi T (j := l.length) rfl rfl rfl (by omega) rfl rfl rfl ?_
 rw [asub_z]
 try refine gL ?_
 exact AtQ.fin1 (H' := [rowH 109 5 EnumT.cells lentE a5 c5 l2, Bag (l2.flatMap eRows)]) Tryz.results34 rfl ⟨a5, c5, l2, by rw [hn2], hl2, rfl⟩ (fun w h => h)
end Go.Proofs.YtdemnhdoadjhhaaGreatDoor
end
section
namespace Go.Proofs.YtdemnhdoadjhhaaGreatDoor
open Go.Sk
set_option maxRecDepth 100000
attribute [local irreducible] Cs Own Ex Pu Yld RT LJ QJ AtQ CT Rd QSp Sp FinQ Then LoopQ CutQ DT TakeQ EffQ
variable {B : World}
set_option maxHeartbeats 16000000 in
theorem lentM_fn (d : Nat) : ∀ {R : List HP} {a : Option Addr} {c : Nat} {l : List MsgT}, MsgT.deepL l ≤ d → Rd B R a l.length c 7 (l.flatMap MsgT.cells) → l.length ≤ 2097152 → MsgT.InL (Rd B R) l → MsgT.SmL l →
  Sp B Tryz.prog 33 [.slice a l.length c] R [] (fun v H' => ∃ (a : Option Addr) (c : Nat) (l' : List MsgT), v = .slice a l'.length c ∧ l'.map mEr = l.map mEr ∧ H' = [rowH 72 7 MsgT.cells lentM a c l', Bag (l'.flatMap mRows)]) := by
 induction d using Nat.strongRecOn with
 | _ d ih =>
 intro R a c l hd hR hk hin hsm
 refine Sp.body Tryz.func33 rfl Tryz.ntmps33 (by simp) ?_
 simp only [argE, List.cons_append, List.nil_append, Nat.zero_add, Nat.reduceAdd]
 try refine gL ?_
 refine CT.weak (fun w h => Sat.nilOwn (e := 72) (sz := 7) (Bag.nil_ h)) ?_
 refine CT.loop (α := Nat × List MsgT × Option Addr × Nat) (fun s => [(0, .slice a l.length c), (3, .slice s.2.2.1 s.2.1.length s.2.2.2), (4, .int .i64 s.1)])
  (fun s => Pu (s.1 ≤ l.length ∧ s.2.1.map mEr = (l.take s.1).map mEr) :: Own s.2.2.1 s.2.2.2 72 7 s.2.1.length (s.2.1.flatMap MsgT.cells) :: Bag (s.2.1.flatMap mRows) :: R) (fun s => l.length - s.1) (0, [], none, 0)
  ⟨rfl, rfl, rfl, trivial⟩ (fun w h => Sat.pu_in ⟨Nat.zero_le _, rfl⟩ h) (fun ⟨i, l2, a2, c2⟩ => CT.pu fun ⟨hi, hl2⟩ => ?_)
 dsimp only at hi hl2 ⊢
 have hn2 : l2.length = i := by have := congrArg List.length hl2; simp at this; omega
 repeat' (first|refine gL ?_|(refine gv ?_;(refine⟨fun hc=>?_,fun hc=>?_⟩<;>first|(exfalso;omega)|skip))|fail)
 ·have hil : i < l.length := by omega
  have hgi := List.getElem?_eq_getElem hil
  revert hgi
  generalize l[i] = m
  intro hgi
  have hme := List.mem_of_getElem? hgi
  have hmo := MsgT.smL_mem hsm hme
  have hmi := MsgT.inL_mem hin hme
  have hmd := Nat.le_trans (MsgT.deep_mem hme) hd
  obtain ⟨nm, fields, oneofs, ma, mc, msgs, enums, res, names⟩ := m
  unfold MsgT.Sm at hmo
  unfold MsgT.In at hmi
  unfold MsgT.deep at hmd
  obtain ⟨es1, es2, es3, es4, es5, es6, es7, es8⟩ := hmo
  obtain ⟨if1, io1, im1, ie1, ie2, ir1, it1, im2⟩ := hmi
  refine RT.ix T (j := i * 7) rfl rfl rfl (rD (hR)) (by omega) (by omega) (by omega) rfl rfl ?_
  refine RT.ldra T rfl (rD (hR)) (l := [vS nm, fields.v, oneofs.v, .slice ma msgs.length mc, enums.v, res.v, names.v]) (flat_sub (f := MsgT.cells) (z := 7) (fun _ => rfl) l i _ hgi) rfl rfl rfl rfl ?_
  repeat' (first|refine gM ?_|(refine gb ?_;intro b)|fail)
  revert b
  intro b0
  refine RT.weak (fun w h => Sat.nilOwn (e := 87) (sz := 9) h) ?_
  refine RT.app T (xs := []) (ys := fields.l.flatMap FieldT.cells) rfl rfl rfl (fun a' c' => by ((repeat constructor);done)) (rD (if1)) (one_flat one_fd _) (by omega) (by omega) rfl rfl rfl rfl (fun a3 c3 hc3 => ?_)
  simp only [Nat.zero_add, List.nil_append]
  try refine gL ?_
  refine RT.weak (fun w h => Sat.nilOwn (e := 158) (sz := 2) h) ?_
  refine RT.app T (xs := []) (ys := res.l.flatMap SpanT.cells) rfl rfl rfl (fun a' c' => by ((repeat constructor);done)) (rD (ir1)) (one_flat one_sp _) (by omega) (by omega) rfl rfl rfl rfl (fun a4 c4 hc4 => ?_)
  simp only [Nat.zero_add, List.nil_append]
  try refine gL ?_
  refine CT.loop (α := Nat × (Option Addr × Nat) × (Option Addr × Nat)) (fun s => [(0, .slice a l.length c), (3, .slice a2 l2.length c2), (4, .int .i64 i), (5, .pointer (some ⟨b0, 0, none⟩)), (6, .slice s.2.1.1 (fields.l.length + s.1) s.2.1.2), (7, .slice s.2.2.1 (res.l.length + s.1) s.2.2.2), (8, .int .i64 s.1)])
   (fun s => Pu (s.1 ≤ 5) :: Own s.2.2.1 s.2.2.2 158 2 (res.l.length + s.1) ((res.l ++ List.replicate s.1 lentSp).flatMap SpanT.cells) :: Own s.2.1.1 s.2.1.2 87 9 (fields.l.length + s.1) ((fields.l ++ List.replicate s.1 lentF).flatMap FieldT.cells) ::
    Cs b0 72 [vS nm, fields.v, oneofs.v, .slice ma msgs.length mc, enums.v, res.v, names.v] :: Own a2 c2 72 7 l2.length (l2.flatMap MsgT.cells) :: Bag (l2.flatMap mRows) :: R) (fun s => 5 - s.1) (0, (a3, c3), (a4, c4))
   ⟨rfl, rfl, rfl, rfl, rfl, rfl, rfl, trivial⟩ (fun w h => Sat.pu_in (Nat.zero_le _) (by simp only [List.replicate_zero, List.append_nil, Nat.add_zero]; exact h)) (fun ⟨k, ⟨a5, c5⟩, a6, c6⟩ => CT.pu fun hk5 => ?_)
  dsimp only at hk5 ⊢
  repeat' (first|refine gL ?_|(refine gv ?_;(refine⟨fun hc=>?_,fun hc=>?_⟩<;>first|(exfalso;omega)|skip))|fail)
  ·refine RT.bsA T (l := lentF.cells) rfl rfl rfl rfl rfl rfl rfl rfl (fun a7 => ?_)
   refine RT.app T (xs := (fields.l ++ List.replicate k lentF).flatMap FieldT.cells) (ys := lentF.cells) rfl rfl rfl (fun a' c' => by ((repeat constructor);done)) (Own.rd sE_ rfl (Nat.le_refl _)) (one_fd _) (by omega) (by omega) rfl rfl rfl rfl (fun a8 c8 hc8 => ?_)
   try refine gL ?_
   refine RT.bsA T (l := lentSp.cells) rfl rfl rfl rfl rfl rfl rfl rfl (fun a9 => ?_)
   refine RT.app T (xs := (res.l ++ List.replicate k lentSp).flatMap SpanT.cells) (ys := lentSp.cells) rfl rfl rfl (fun a' c' => by ((repeat constructor);done)) (Own.rd sE_ rfl (Nat.le_refl _)) (one_sp _) (by omega) (by omega) rfl rfl rfl rfl (fun a10 c10 hc10 => ?_)
   repeat' (first|refine gL ?_|(refine gv ?_;refine gk ?_)|fail)
   exact AtQ.loop (k + 1, (a8, c8), (a10, c10)) ⟨rfl, rfl, rfl, rfl, rfl, rfl, rfl, trivial⟩ (fun w h => Sat.pu_in (by omega) (by
    have h2 := h.tail.tail
    rw [flat_app, flat_app, rep_snoc, rep_snoc] at h2
    exact h2)) (by dsimp only; omega)
  obtain rfl : k = 5 := by omega
  refine RT.fact (p := fields.l.length + 5 ≤ c5 ∧ res.l.length + 5 ≤ c6) (fun w h => ⟨(Own.facts h (.t .h)).2.1, (Own.facts h .h).2.1⟩) (fun ⟨hc5, hc6⟩ => ?_)
  refine RT.slhi T (j := fields.l.length) rfl rfl rfl (by omega) rfl rfl rfl ?_
  rw [asub_z]
  try refine gL ?_
  refine RT.slhi T (j := res.l.length) rfl rfl rfl (by omega) rfl rfl rfl ?_
  rw [asub_z]
  try refine gL ?_
  refine RT.call T rfl fR_ (lentT_fn (a := oneofs.a) (n := oneofs.l.length) (c := oneofs.c) (ls := oneofs.l) (rD (io1)) rfl (by omega)) rfl rfl rfl ?_
  rintro _ _ ⟨a7, c7, rfl, hc7, rfl⟩
  simp only [List.cons_append, List.nil_append]
  try refine gL ?_
  refine RT.call T rfl fR_ (lentT_fn (a := names.a) (n := names.l.length) (c := names.c) (ls := names.l) (rD (it1)) rfl (by omega)) rfl rfl rfl ?_
  rintro _ _ ⟨a8, c8, rfl, hc8, rfl⟩
  simp only [List.cons_append, List.nil_append]
  try refine gL ?_
  refine RT.call T rfl fR_ (ih (MsgT.deepL msgs) (by omega) (a := ma) (c := mc) (l := msgs) (Nat.le_refl _) (rD (im1)) (by omega) (by exact MsgT.InL.mono (fun _ _ _ _ _ h => (rD (h))) im2) es8) rfl rfl rfl ?_
  rintro _ _ ⟨a9, c9, l9, rfl, hl9, rfl⟩
  simp only [List.cons_append, List.nil_append]
  try refine gL ?_
  refine RT.call T rfl fR_ (lentE_fn (r := enums) (rD (ie1)) (by omega) (fun e he => (ie2 e he).mono (fun _ _ _ _ _ h => (rD (h)))) es6) rfl rfl rfl ?_
  rintro _ _ ⟨a11, c11, l11, rfl, hl11, rfl⟩
  simp only [List.cons_append, List.nil_append]
  try refine gM ?_
  obtain ⟨m2, hm2⟩ : ∃ m2 : MsgT, m2 = (.mk nm ⟨a5, c5, fields.l⟩ ⟨a7, c7, oneofs.l⟩ a9 c9 l9 ⟨a11, c11, l11⟩ ⟨a6, c6, res.l⟩ ⟨a8, c8, names.l⟩) := ⟨_, rfl⟩
  have hmc : m2.cells = [vS nm, .slice a5 fields.l.length c5, .slice a7 oneofs.l.length c7, .slice a9 l9.length c9, .slice a11 l11.length c11, .slice a6 res.l.length c6, .slice a8 names.l.length c8] := by rw [hm2]; rfl
  have hmr : mRows m2 = [rowH 87 9 FieldT.cells lentF a5 c5 fields.l, rowH 158 2 SpanT.cells lentSp a6 c6 res.l, txH ⟨a7, c7, oneofs.l⟩, txH ⟨a8, c8, names.l⟩,
    rowH 72 7 MsgT.cells lentM a9 c9 l9, Bag (l9.flatMap mRows), rowH 109 5 EnumT.cells lentE a11 c11 l11, Bag (l11.flatMap eRows)] := by
   rw [hm2]; unfold mRows; rw [mRowsL_flat]
  have hmq : mEr m2 = mEr (.mk nm fields oneofs ma mc msgs enums res names) := by
   rw [hm2]; unfold mEr; rw [mErL_map, mErL_map, hl9, hl11]; rfl
  refine RT.bsA T (l := [vS nm, .slice a5 fields.l.length c5, .slice a7 oneofs.l.length c7, .slice a9 l9.length c9, .slice a11 l11.length c11, .slice a6 res.l.length c6, .slice a8 names.l.length c8]) rfl rfl rfl rfl rfl rfl rfl rfl (fun a12 => ?_)
  refine RT.app T (xs := l2.flatMap MsgT.cells) (ys := [vS nm, .slice a5 fields.l.length c5, .slice a7 oneofs.l.length c7, .slice a9 l9.length c9, .slice a11 l11.length c11, .slice a6 res.l.length c6, .slice a8 names.l.length c8]) rfl rfl rfl (fun a' c' => by ((repeat constructor);done)) (Own.rd sE_ rfl (Nat.le_refl _)) (hmc ▸ one_ms m2) (by omega) (by omega) rfl rfl rfl rfl (fun a10 c10 hc10 => ?_)
  repeat' (first|refine gL ?_|(refine gv ?_;refine gk ?_)|fail)
  exact AtQ.loop (i + 1, l2 ++ [m2], a10, c10) ⟨rfl, by rw [List.length_append]; rfl, rfl, trivial⟩ (fun w h => Sat.pu_in ⟨by omega, by
   rw [List.map_append, hl2, List.take_add_one, hgi, List.map_append, List.map_cons, hmq]
   rfl⟩ (by
    have h2 := h.frd (Ps := [rowH 87 9 FieldT.cells lentF a5 c5 fields.l, rowH 158 2 SpanT.cells lentSp a6 c6 res.l, txH ⟨a7, c7, oneofs.l⟩, txH ⟨a8, c8, names.l⟩,
     rowH 72 7 MsgT.cells lentM a9 c9 l9, Bag (l9.flatMap mRows), rowH 109 5 EnumT.cells lentE a11 c11 l11, Bag (l11.flatMap eRows), Bag (l2.flatMap mRows), Own a10 c10 72 7 (l2.length + 1) (l2.flatMap MsgT.cells ++ [vS nm, .slice a5 fields.l.length c5, .slice a7 oneofs.l.length c7, .slice a9 l9.length c9, .slice a11 l11.length c11, .slice a6 res.l.length c6, .slice a8 names.l.length c8])]) (Qs := [_, _]) (R := R) fR_
    have h3 := Bag.add (qs := mRows m2) (ps := l2.flatMap mRows) (by rw [hmr]; exact h2)
    have h4 := h3.fr (Ps := [Own a10 c10 72 7 (l2.length + 1) (l2.flatMap MsgT.cells ++ [vS nm, .slice a5 fields.l.length c5, .slice a7 oneofs.l.length c7, .slice a9 l9.length c9, .slice a11 l11.length c11, .slice a6 res.l.length c6, .slice a8 names.l.length c8]), Bag (l2.flatMap mRows ++ mRows m2)]) (R := R) fR_
    rw [← hmc, flat_app] at h4
    simp only [List.length_append, List.length_singleton, List.flatMap_append, List.flatMap_cons, List.flatMap_nil, List.append_nil] at h4 ⊢
    exact h4)) (by dsimp only; omega)
 obtain rfl : i = l.length := by omega
 rw [List.take_length] at hl2
 refine CT.loop (α := Nat × Option Addr × Nat) (fun s => [(0, .slice a l.length c), (3, .slice s.2.1 (l2.length + s.1) s.2.2), (9, .int .i64 s.1)])
  (fun s => Pu (s.1 ≤ 5) :: Own s.2.1 s.2.2 72 7 (l2.length + s.1) ((l2 ++ List.replicate s.1 lentM).flatMap MsgT.cells) :: Bag (l2.flatMap mRows) :: R) (fun s => 5 - s.1) (0, a2, c2)
  ⟨rfl, rfl, rfl, trivial⟩ (fun w h => Sat.pu_in (Nat.zero_le _) (by simp only [List.replicate_zero, List.append_nil, Nat.add_zero]; exact h)) (fun ⟨k, a5, c5⟩ => CT.pu fun hk5 => ?_)
 dsimp only at hk5 ⊢
 repeat' (first|refine gL ?_|(refine gv ?_;(refine⟨fun hc=>?_,fun hc=>?_⟩<;>first|(exfalso;omega)|skip))|fail)
 ·refine RT.bsA T (l := lentM.cells) rfl rfl rfl rfl rfl rfl rfl rfl (fun a7 => ?_)
  refine RT.app T (xs := (l2 ++ List.replicate k lentM).flatMap MsgT.cells) (ys := lentM.cells) rfl rfl rfl (fun a' c' => by ((repeat constructor);done)) (Own.rd sE_ rfl (Nat.le_refl _)) (one_ms _) (by omega) (by omega) rfl rfl rfl rfl (fun a8 c8 hc8 => ?_)
  repeat' (first|refine gL ?_|(refine gv ?_;refine gk ?_)|fail)
  exact AtQ.loop (k + 1, a8, c8) ⟨rfl, rfl, rfl, trivial⟩ (fun w h => Sat.pu_in (by omega) (by
   have h2 := h.tail
   rw [flat_app, rep_snoc] at h2
   exact h2)) (by dsimp only; omega)
 obtain rfl : k = 5 := by omega
 refine RT.fact (p := l2.length + 5 ≤ c5) (fun w h => (Own.facts h .h).2.1) (fun hc5 => ?_)
 refine RT.slhi T (j := l.length) rfl rfl rfl (by omega) rfl rfl rfl ?_
 rw [asub_z]
 try refine gL ?_
 exact AtQ.fin1 (H' := [rowH 72 7 MsgT.cells lentM a5 c5 l2, Bag (l2.flatMap mRows)]) Tryz.results33 rfl ⟨a5, c5, l2, by rw [hn2], hl2, rfl⟩ (fun w h => h)
end Go.Proofs.YtdemnhdoadjhhaaGreatDoor
end
section
namespace Go.Proofs.YtdemnhdoadjhhaaGreatDoor
open Go.Sk
set_option maxRecDepth 100000
attribute [local irreducible] Cs Own Ex Pu Yld RT LJ QJ AtQ CT Rd QSp Sp FinQ Then LoopQ CutQ DT TakeQ EffQ
variable {B : World} {R : List HP}
def fRows (f : FileT) : List HP := [rowH 94 2 ImpT.cells lentIm f.imps.a f.imps.c f.imps.l, rowH 72 7 MsgT.cells lentM f.ma f.mc f.msgs, Bag (f.msgs.flatMap mRows), rowH 109 5 EnumT.cells lentE f.enums.a f.enums.c f.enums.l, Bag (f.enums.l.flatMap eRows)]
def fEr (f : FileT) : FileT := ⟨f.path, f.pack, barR f.imps, none, 0, f.msgs.map mEr, ⟨none, 0, f.enums.l.map EnumT.er⟩⟩
set_option maxHeartbeats 8000000 in
theorem lentF_fn {r : Rw FileT} (hR : Rd B R r.a r.l.length r.c 5 (r.l.flatMap FileT.cells)) (hk : r.l.length ≤ 2097152) (hin : ∀ f ∈ r.l, f.In (Rd B R)) (hsm : ∀ f ∈ r.l, FSm f) :
  Sp B Tryz.prog 10 [r.v] R [] (fun v H' => ∃ (a : Option Addr) (c : Nat) (l : List FileT), v = .slice a l.length c ∧ l.map fEr = r.l.map fEr ∧ H' = [rowH 26 5 FileT.cells lentFl a c l, Bag (l.flatMap fRows)]) := by
 obtain ⟨a, c, l⟩ := r
 simp only [Rw.v] at *
 refine Sp.body Tryz.func10 rfl Tryz.ntmps10 (by simp) ?_
 simp only [argE, List.cons_append, List.nil_append, Nat.zero_add, Nat.reduceAdd]
 try refine gL ?_
 refine CT.weak (fun w h => Sat.nilOwn (e := 26) (sz := 5) (Bag.nil_ h)) ?_
 refine CT.loop (α := Nat × List FileT × Option Addr × Nat) (fun s => [(0, .slice a l.length c), (3, .slice s.2.2.1 s.2.1.length s.2.2.2), (4, .int .i64 s.1)])
  (fun s => Pu (s.1 ≤ l.length ∧ s.2.1.map fEr = (l.take s.1).map fEr) :: Own s.2.2.1 s.2.2.2 26 5 s.2.1.length (s.2.1.flatMap FileT.cells) :: Bag (s.2.1.flatMap fRows) :: R) (fun s => l.length - s.1) (0, [], none, 0)
  ⟨rfl, rfl, rfl, trivial⟩ (fun w h => Sat.pu_in ⟨Nat.zero_le _, rfl⟩ h) (fun ⟨i, l2, a2, c2⟩ => CT.pu fun ⟨hi, hl2⟩ => ?_)
 dsimp only at hi hl2 ⊢
 have hn2 : l2.length = i := by have := congrArg List.length hl2; simp at this; omega
 repeat' (first|refine gL ?_|(refine gv ?_;(refine⟨fun hc=>?_,fun hc=>?_⟩<;>first|(exfalso;omega)|skip))|fail)
 ·have hil : i < l.length := by omega
  have hgi := List.getElem?_eq_getElem hil
  revert hgi
  generalize l[i] = f
  intro hgi
  have hme := List.mem_of_getElem? hgi
  obtain ⟨es1, es2, es3, es4, es5⟩ := hsm f hme
  obtain ⟨ii1, im1, im2, ie1, ie2⟩ := hin f hme
  refine RT.ix T (j := i * 5) rfl rfl rfl (rD (hR)) (by omega) (by omega) (by omega) rfl rfl ?_
  refine RT.ldra T rfl (rD (hR)) (l := f.cells) (flat_sub (f := FileT.cells) (z := 5) (fun _ => rfl) l i _ hgi) rfl rfl rfl rfl ?_
  repeat' (first|refine gM ?_|(refine gb ?_;intro b)|fail)
  revert b
  intro b0
  refine RT.weak (fun w h => Sat.nilOwn (e := 94) (sz := 2) h) ?_
  refine RT.app T (xs := []) (ys := f.imps.l.flatMap ImpT.cells) rfl rfl rfl (fun a' c' => by ((repeat constructor);done)) (rD (ii1)) (one_flat one_im _) (by omega) (by omega) rfl rfl rfl rfl (fun a3 c3 hc3 => ?_)
  simp only [Nat.zero_add, List.nil_append]
  try refine gL ?_
  refine CT.loop (α := Nat × Option Addr × Nat) (fun s => [(0, .slice a l.length c), (3, .slice a2 l2.length c2), (4, .int .i64 i), (5, .pointer (some ⟨b0, 0, none⟩)), (6, .slice s.2.1 (f.imps.l.length + s.1) s.2.2), (7, .int .i64 s.1)])
   (fun s => Pu (s.1 ≤ 5) :: Own s.2.1 s.2.2 94 2 (f.imps.l.length + s.1) ((f.imps.l ++ List.replicate s.1 lentIm).flatMap ImpT.cells) ::
    Cs b0 26 f.cells :: Own a2 c2 26 5 l2.length (l2.flatMap FileT.cells) :: Bag (l2.flatMap fRows) :: R) (fun s => 5 - s.1) (0, a3, c3)
   ⟨rfl, rfl, rfl, rfl, rfl, rfl, trivial⟩ (fun w h => Sat.pu_in (Nat.zero_le _) (by simp only [List.replicate_zero, List.append_nil, Nat.add_zero]; exact h)) (fun ⟨k, a5, c5⟩ => CT.pu fun hk5 => ?_)
  dsimp only at hk5 ⊢
  repeat' (first|refine gL ?_|(refine gv ?_;(refine⟨fun hc=>?_,fun hc=>?_⟩<;>first|(exfalso;omega)|skip))|fail)
  ·refine RT.bsA T (l := lentIm.cells) rfl rfl rfl rfl rfl rfl rfl rfl (fun a7 => ?_)
   refine RT.app T (xs := (f.imps.l ++ List.replicate k lentIm).flatMap ImpT.cells) (ys := lentIm.cells) rfl rfl rfl (fun a' c' => by ((repeat constructor);done)) (Own.rd sE_ rfl (Nat.le_refl _)) (one_im _) (by omega) (by omega) rfl rfl rfl rfl (fun a8 c8 hc8 => ?_)
   repeat' (first|refine gL ?_|(refine gv ?_;refine gk ?_)|fail)
   exact AtQ.loop (k + 1, a8, c8) ⟨rfl, rfl, rfl, rfl, rfl, rfl, trivial⟩ (fun w h => Sat.pu_in (by omega) (by
    have h2 := h.tail
    rw [flat_app, rep_snoc] at h2
    exact h2)) (by dsimp only; omega)
  obtain rfl : k = 5 := by omega
  refine RT.fact (p := f.imps.l.length + 5 ≤ c5) (fun w h => (Own.facts h .h).2.1) (fun hc5 => ?_)
  refine RT.slhi T (j := f.imps.l.length) rfl rfl rfl (by omega) rfl rfl rfl ?_
  rw [asub_z]
  try refine gL ?_
  refine RT.call T rfl fR_ (lentM_fn _ (a := f.ma) (c := f.mc) (l := f.msgs) (Nat.le_refl _) (rD (im1)) (by omega) (MsgT.inL_of fun m hm => MsgT.In.mono (fun _ _ _ _ _ h => (rD (h))) (im2 m hm)) es3) rfl rfl rfl ?_
  rintro _ _ ⟨a9, c9, l9, rfl, hl9, rfl⟩
  simp only [List.cons_append, List.nil_append]
  try refine gL ?_
  refine RT.call T rfl fR_ (lentE_fn (r := f.enums) (rD (ie1)) (by omega) (fun e he => (ie2 e he).mono (fun _ _ _ _ _ h => (rD (h)))) es5) rfl rfl rfl ?_
  rintro _ _ ⟨a11, c11, l11, rfl, hl11, rfl⟩
  simp only [List.cons_append, List.nil_append]
  try refine gM ?_
  obtain ⟨f2, hf2⟩ : ∃ f2 : FileT, f2 = ⟨f.path, f.pack, ⟨a5, c5, f.imps.l⟩, a9, c9, l9, ⟨a11, c11, l11⟩⟩ := ⟨_, rfl⟩
  have hmc : f2.cells = [vS f.path, vS f.pack, .slice a5 f.imps.l.length c5, .slice a9 l9.length c9, .slice a11 l11.length c11] := by rw [hf2]; rfl
  have hmr : fRows f2 = [rowH 94 2 ImpT.cells lentIm a5 c5 f.imps.l, rowH 72 7 MsgT.cells lentM a9 c9 l9, Bag (l9.flatMap mRows), rowH 109 5 EnumT.cells lentE a11 c11 l11, Bag (l11.flatMap eRows)] := by rw [hf2]; rfl
  have hmq : fEr f2 = fEr f := by rw [hf2]; unfold fEr; dsimp only; rw [hl9, hl11]; rfl
  refine RT.bsA T (l := [vS f.path, vS f.pack, .slice a5 f.imps.l.length c5, .slice a9 l9.length c9, .slice a11 l11.length c11]) rfl rfl rfl rfl rfl rfl rfl rfl (fun a12 => ?_)
  refine RT.app T (xs := l2.flatMap FileT.cells) (ys := [vS f.path, vS f.pack, .slice a5 f.imps.l.length c5, .slice a9 l9.length c9, .slice a11 l11.length c11]) rfl rfl rfl (fun a' c' => by ((repeat constructor);done)) (Own.rd sE_ rfl (Nat.le_refl _)) (hmc ▸ one_fl f2) (by omega) (by omega) rfl rfl rfl rfl (fun a10 c10 hc10 => ?_)
  repeat' (first|refine gL ?_|(refine gv ?_;refine gk ?_)|fail)
  exact AtQ.loop (i + 1, l2 ++ [f2], a10, c10) ⟨rfl, by rw [List.length_append]; rfl, rfl, trivial⟩ (fun w h => Sat.pu_in ⟨by omega, by
   rw [List.map_append, hl2, List.take_add_one, hgi, List.map_append, List.map_cons, hmq]
   rfl⟩ (by
    have h2 := h.frd (Ps := [rowH 94 2 ImpT.cells lentIm a5 c5 f.imps.l, rowH 72 7 MsgT.cells lentM a9 c9 l9, Bag (l9.flatMap mRows), rowH 109 5 EnumT.cells lentE a11 c11 l11, Bag (l11.flatMap eRows), Bag (l2.flatMap fRows), Own a10 c10 26 5 (l2.length + 1) (l2.flatMap FileT.cells ++ [vS f.path, vS f.pack, .slice a5 f.imps.l.length c5, .slice a9 l9.length c9, .slice a11 l11.length c11])]) (Qs := [_, _]) (R := R) fR_
    have h3 := Bag.add (qs := fRows f2) (ps := l2.flatMap fRows) (by rw [hmr]; exact h2)
    have h4 := h3.fr (Ps := [Own a10 c10 26 5 (l2.length + 1) (l2.flatMap FileT.cells ++ [vS f.path, vS f.pack, .slice a5 f.imps.l.length c5, .slice a9 l9.length c9, .slice a11 l11.length c11]), Bag (l2.flatMap fRows ++ fRows f2)]) (R := R) fR_
    rw [← hmc, flat_app] at h4
    simp only [List.length_append, List.length_singleton, List.flatMap_append, List.flatMap_cons, List.flatMap_nil, List.append_nil] at h4 ⊢
    exact h4)) (by dsimp only; omega)
 obtain rfl : i = l.length := by omega
 rw [List.take_length] at hl2
 refine CT.loop (α := Nat × Option Addr × Nat) (fun s => [(0, .slice a l.length c), (3, .slice s.2.1 (l2.length + s.1) s.2.2), (8, .int .i64 s.1)])
  (fun s => Pu (s.1 ≤ 5) :: Own s.2.1 s.2.2 26 5 (l2.length + s.1) ((l2 ++ List.replicate s.1 lentFl).flatMap FileT.cells) :: Bag (l2.flatMap fRows) :: R) (fun s => 5 - s.1) (0, a2, c2)
  ⟨rfl, rfl, rfl, trivial⟩ (fun w h => Sat.pu_in (Nat.zero_le _) (by simp only [List.replicate_zero, List.append_nil, Nat.add_zero]; exact h)) (fun ⟨k, a5, c5⟩ => CT.pu fun hk5 => ?_)
 dsimp only at hk5 ⊢
 repeat' (first|refine gL ?_|(refine gv ?_;(refine⟨fun hc=>?_,fun hc=>?_⟩<;>first|(exfalso;omega)|skip))|fail)
 ·refine RT.bsA T (l := lentFl.cells) rfl rfl rfl rfl rfl rfl rfl rfl (fun a7 => ?_)
  refine RT.app T (xs := (l2 ++ List.replicate k lentFl).flatMap FileT.cells) (ys := lentFl.cells) rfl rfl rfl (fun a' c' => by ((repeat constructor);done)) (Own.rd sE_ rfl (Nat.le_refl _)) (one_fl _) (by omega) (by omega) rfl rfl rfl rfl (fun a8 c8 hc8 => ?_)
  repeat' (first|refine gL ?_|(refine gv ?_;refine gk ?_)|fail)
  exact AtQ.loop (k + 1, a8, c8) ⟨rfl, rfl, rfl, trivial⟩ (fun w h => Sat.pu_in (by omega) (by
   have h2 := h.tail
   rw [flat_app, rep_snoc] at h2
   exact h2)) (by dsimp only; omega)
 obtain rfl : k = 5 := by omega
 refine RT.fact (p := l2.length + 5 ≤ c5) (fun w h => (Own.facts h .h).2.1) (fun hc5 => ?_)
 refine RT.slhi T (j := l.length) rfl rfl rfl (by omega) rfl rfl rfl ?_
 rw [asub_z]
 try refine gL ?_
 exact AtQ.fin1 (H' := [rowH 26 5 FileT.cells lentFl a5 c5 l2, Bag (l2.flatMap fRows)]) Tryz.results10 rfl ⟨a5, c5, l2, by rw [hn2], hl2, rfl⟩ (fun w h => h)
end Go.Proofs.YtdemnhdoadjhhaaGreatDoor
end
section
namespace Go.Proofs.YtdemnhdoadjhhaaGreatDoor
open Go.Sk
set_option maxRecDepth 100000
/-- A row with the room behind it. -/
def row5 {α : Type} (X : Option Addr → Nat → Nat → Nat → List Value → Prop) (z : Nat) (f : α → List Value) (x : α) (a : Option Addr) (c : Nat) (l : List α) : Prop := X a (l.length + 5) c z ((l ++ List.replicate 5 x).flatMap f)
def tx5 (X : Option Addr → Nat → Nat → Nat → List Value → Prop) (r : Rw Txt) : Prop := X r.a (r.l.length + 2) r.c 1 (tstr (r.l ++ [own2, own2]))
def e5 (X : Option Addr → Nat → Nat → Nat → List Value → Prop) (e : EnumT) : Prop := row5 X 2 EValT.cells lentEV e.vals.a e.vals.c e.vals.l ∧ row5 X 2 SpanT.cells lentSp e.res.a e.res.c e.res.l ∧ tx5 X e.names
mutual
def m5 (X : Option Addr → Nat → Nat → Nat → List Value → Prop) : MsgT → Prop
 | .mk _ fields oneofs ma mc msgs enums res names => row5 X 9 FieldT.cells lentF fields.a fields.c fields.l ∧ row5 X 2 SpanT.cells lentSp res.a res.c res.l ∧ tx5 X oneofs ∧ tx5 X names ∧
  row5 X 7 MsgT.cells lentM ma mc msgs ∧ m5L X msgs ∧ row5 X 5 EnumT.cells lentE enums.a enums.c enums.l ∧ ∀ e ∈ enums.l, e5 X e
def m5L (X : Option Addr → Nat → Nat → Nat → List Value → Prop) : List MsgT → Prop
 | [] => True
 | m :: l => m5 X m ∧ m5L X l
end
theorem m5L_mem {X : Option Addr → Nat → Nat → Nat → List Value → Prop} : ∀ {l : List MsgT} {m : MsgT}, m5L X l → m ∈ l → m5 X m
 | [], _, _, h => by cases h
 | x :: l, m, hl, h => by
  unfold m5L at hl
  rcases List.mem_cons.1 h with rfl | h
  ·exact hl.1
  ·exact m5L_mem hl.2 h
structure f5 (X : Option Addr → Nat → Nat → Nat → List Value → Prop) (f : FileT) : Prop where
 imps : row5 X 2 ImpT.cells lentIm f.imps.a f.imps.c f.imps.l
 msgs : row5 X 7 MsgT.cells lentM f.ma f.mc f.msgs
 sub : m5L X f.msgs
 enums : row5 X 5 EnumT.cells lentE f.enums.a f.enums.c f.enums.l
 esub : ∀ e ∈ f.enums.l, e5 X e
section
variable {B : World} {H : List HP} {w : World}
/-- A piece lies somewhere in H. -/
def Has (B : World) (H : List HP) (p : HP) : Prop := ∀ w, Sat B H w → ∃ R, Sat B (p :: R) w
theorem Has.sel {p : HP} {R : List HP} (s : Sel H p R) : Has B H p := fun w h => ⟨R, h.sel s⟩
theorem Has.bag {p : HP} {ps : List HP} (h : Has B H (Bag ps)) (hp : p ∈ ps) : Has B H p := fun w hS => by
 obtain ⟨R, h1⟩ := h w hS
 obtain ⟨i, hi⟩ := List.getElem?_of_mem hp
 exact ⟨_, Bag.at_ hi h1⟩
theorem Has.rd {a : Option Addr} {c : Nat} {e : TypeId} {sz k : Nat} {xs : List Value} (h : Has B H (Own a c e sz k xs)) (hS : Sat B H w) : Rd B H a k c sz xs := by
 obtain ⟨R, h1⟩ := h w hS
 obtain ⟨f1, f2, _⟩ := Own.facts h1 .h
 exact ⟨f1, f2, fun w' hS' => by
  obtain ⟨R', h2⟩ := h w' hS'
  exact (Own.rd (H := _ :: R') .h f1 f2).2.2 w' h2⟩
theorem e5_of (hS : Sat B H w) {e : EnumT} (h : ∀ p ∈ eRows e, Has B H p) : e5 (Rd B H) e := by
 unfold eRows at h
 simp only [List.forall_mem_cons] at h
 obtain ⟨h1, h2, h3, _⟩ := h
 exact ⟨Has.rd h1 hS, Has.rd h2 hS, Has.rd h3 hS⟩
theorem e5L_of (hS : Sat B H w) {l : List EnumT} (h : Has B H (Bag (l.flatMap eRows))) : ∀ e ∈ l, e5 (Rd B H) e := fun e he => e5_of hS fun p hp => h.bag (List.mem_flatMap.2 ⟨e, he, hp⟩)
mutual
theorem m5_of (hS : Sat B H w) : ∀ {m : MsgT}, (∀ p ∈ mRows m, Has B H p) → m5 (Rd B H) m
 | .mk nm fields oneofs ma mc msgs enums res names, h => by
  unfold mRows at h
  unfold m5
  simp only [List.forall_mem_cons] at h
  obtain ⟨h1, h2, h3, h4, h5, h6, h7, h8, _⟩ := h
  exact ⟨Has.rd h1 hS, Has.rd h2 hS, Has.rd h3 hS, Has.rd h4 hS, Has.rd h5 hS, m5L_of hS h6, Has.rd h7 hS, e5L_of hS h8⟩
theorem m5L_of (hS : Sat B H w) : ∀ {l : List MsgT}, Has B H (Bag (mRowsL l)) → m5L (Rd B H) l
 | [], _ => by unfold m5L; trivial
 | m :: l, h => by
  unfold m5L
  unfold mRowsL at h
  exact ⟨m5_of hS fun p hp => h.bag (List.mem_append_left _ hp), m5L_of hS fun w' hS' => by
   obtain ⟨R, h1⟩ := h w' hS'
   have h2 : Sat B (mRows m ++ (mRowsL l ++ R)) w' := by
    have := Bag.open_ h1
    rwa [List.append_assoc] at this
   exact ⟨mRows m ++ R, Bag.close (h2.mono fun hh hs => by
    have h3 : star ((mRowsL l ++ R) ++ mRows m) hh := star_comm hs
    rw [List.append_assoc] at h3
    obtain ⟨x, y, d, lx, ly, hb, hr⟩ := star_cut _ h3
    exact star_glue _ d lx ly hb (star_comm hr))⟩⟩
end
end
end Go.Proofs.YtdemnhdoadjhhaaGreatDoor
end
section
namespace Go.Proofs.YtdemnhdoadjhhaaGreatDoor
open Go.Sk
set_option maxRecDepth 100000
theorem same_sp (s : SpanT) : sameS Tryz.prog 158 s.cells = true := by kernel_rfl
theorem same_fd (f : FieldT) : sameS Tryz.prog 87 f.cells = true := by kernel_rfl
theorem same_ev (v : EValT) : sameS Tryz.prog 111 v.cells = true := by kernel_rfl
theorem same_im (i : ImpT) : sameS Tryz.prog 94 i.cells = true := by kernel_rfl
theorem five_at {α : Type} {l : List α} {x : α} {k : Nat} (h1 : l.length ≤ k) (h2 : k < l.length + 5) : (l ++ List.replicate 5 x)[k]? = some x := by
 rw [List.getElem?_append_right h1, List.getElem?_replicate, if_pos (by omega)]
theorem five_lo {α : Type} {l : List α} {x y : α} {k : Nat} (h : l[k]? = some y) : (l ++ List.replicate 5 x)[k]? = some y := by
 rw [List.getElem?_append_left (List.getElem?_eq_some_iff.1 h).1]
 exact h
attribute [local irreducible] Cs Own Ex Pu Yld RT LJ QJ AtQ CT Rd QSp Sp FinQ Then LoopQ CutQ DT TakeQ EffQ
variable {B : World} {R : List HP}
set_option maxHeartbeats 4000000 in
theorem wholeS_fn {a a' : Option Addr} {c c' : Nat} {l : List SpanT} (hx : row5 (Rd B R) 2 SpanT.cells lentSp a c l) (hy : Rd B R a' l.length c' 2 (l.flatMap SpanT.cells)) (hk : l.length ≤ 2097152) :
  Sp B Tryz.prog 98 [.slice a l.length c, .slice a' l.length c'] R [] (fun v H' => v = .bool true ∧ H' = []) := by
 unfold row5 at hx
 have hc5 := hx.le
 refine Sp.body Tryz.func98 rfl Tryz.ntmps98 (by simp) ?_
 simp only [argE, List.cons_append, List.nil_append, Nat.zero_add, Nat.reduceAdd]
 repeat' (first|refine gL ?_|(refine gv ?_;first|(refine⟨fun hc=>?_,fun hc=>?_⟩<;>first|(exfalso;omega)|skip)|refine gk ?_)|fail)
 refine RT.slhi T (j := l.length + 5) rfl rfl (by omega) (by omega) rfl rfl rfl ?_
 rw [asub_z]
 try refine gL ?_
 refine CT.loop (α := Nat) (fun k => [(0, .slice a l.length c), (1, .slice a' l.length c'), (5, .int .i64 l.length), (6, .slice a (l.length + 5) c), (7, .int .i64 k)]) (fun k => Pu (k ≤ l.length + 5) :: R) (fun k => l.length + 5 - k) 0
  ⟨rfl, rfl, rfl, rfl, rfl, trivial⟩ (fun w h => Sat.pu_in (Nat.zero_le _) h) (fun k => CT.pu fun hk5 => ?_)
 repeat' (first|refine gL ?_|(refine gv ?_;first|(refine⟨fun hc=>?_,fun hc=>?_⟩<;>first|(exfalso;omega)|skip)|refine gk ?_)|fail)
 ·have hkl : k < l.length := by omega
  have hgk := List.getElem?_eq_getElem hkl
  revert hgk
  generalize l[k] = sp
  intro hgk
  refine RT.ix T (j := k * 2) rfl rfl rfl (by exact hx) (by omega) (by omega) (by omega) rfl rfl ?_
  refine RT.ldra T rfl (by exact hx) (l := sp.cells) (flat_sub (f := SpanT.cells) (z := 2) (fun _ => rfl) _ k _ (five_lo hgk)) rfl rfl rfl rfl ?_
  try refine gL ?_
  refine RT.ix T (j := k * 2) rfl rfl rfl (by exact hy) (by omega) (by omega) (by omega) rfl rfl ?_
  refine RT.ldra T rfl (by exact hy) (l := sp.cells) (flat_sub (f := SpanT.cells) (z := 2) (fun _ => rfl) _ k _ hgk) rfl rfl rfl rfl ?_
  refine RT.neS rfl rfl (same_sp sp) rfl rfl ?_
  repeat' (first|refine gL ?_|(refine gv ?_;first|(refine⟨fun hc=>?_,fun hc=>?_⟩<;>first|(exfalso;omega)|skip)|refine gk ?_)|fail)
  exact AtQ.loop (k + 1) ⟨rfl, rfl, rfl, rfl, rfl, trivial⟩ (fun w h => Sat.pu_in (by omega) h) (by omega)
 ·refine RT.ix T (j := k * 2) rfl rfl rfl (by exact hx) (by omega) (by omega) (by omega) rfl rfl ?_
  refine RT.faA T rfl rfl rfl rfl ?_
  refine RT.ldr (u := .int .i32 (-77)) T rfl (by exact hx) (by rw [flat_get (f := SpanT.cells) (z := 2) (fun _ => rfl) (five_at (by omega) (by omega)) (by decide)]; rfl) rfl rfl rfl ?_
  repeat' (first|refine gL ?_|(refine gv ?_;first|(refine⟨fun hc=>?_,fun hc=>?_⟩<;>first|(exfalso;omega)|skip)|refine gk ?_)|fail)
  exact AtQ.loop (k + 1) ⟨rfl, rfl, rfl, rfl, rfl, trivial⟩ (fun w h => Sat.pu_in (by omega) h) (by omega)
 ·exact AtQ.f1 Tryz.results98 rfl rfl (fun w h => h)
end Go.Proofs.YtdemnhdoadjhhaaGreatDoor
end
section
namespace Go.Proofs.YtdemnhdoadjhhaaGreatDoor
open Go.Sk
set_option maxRecDepth 100000
theorem nebool {B : World} {P : Program} {n : Fm} {m : Bool} {l0 rest : List Oper} {E : Env} {H : List HP} {Q : Exit → Act → World → Prop} {d : Nat} {ty t t' : TypeId} {pos : String} {af : Array Edge} {g : Option (Nat × Bool)} {x y : Operand} {b : Bool} (hu : P.underlying t = some .bool)
  (hx : ev E x = some (.bool b)) (hy : ev E y = some (.bool b)) (hw : wt l0 E g = some true) (hd : Nat.blt d n = true)
  (k1 : RT B P n m l0 rest ((d, .bool false) :: E) H Q) : RT B P n m l0 (⟨some d, .binOp .neq t x y t', ty, pos, af, g⟩ :: rest) E H Q :=
 RT.neb hu hx hy hw hd (by cases b <;> exact k1)
theorem er_at {α β : Type} {f : α → β} {l l2 : List α} {i : Nat} {x : α} (h : l2.map f = l.map f) (hx : l[i]? = some x) : ∃ y, l2[i]? = some y ∧ f y = f x := by
 have h1 : (l2.map f)[i]? = (l.map f)[i]? := by rw [h]
 rw [List.getElem?_map, List.getElem?_map, hx] at h1
 obtain ⟨y, hy, e⟩ := Option.map_eq_some_iff.1 h1
 exact ⟨y, hy, e⟩
theorem row5_pre {B : World} {R : List HP} {α : Type} {f : α → List Value} {z c : Nat} {a : Option Addr} {l : List α} {x : α} (hz : ∀ x, (f x).length = z) (h : Rd B R a (l.length + 5) c z ((l ++ List.replicate 5 x).flatMap f)) : Rd B R a l.length c z (l.flatMap f) := by
 have := h.sub (Nat.zero_le l.length) (by omega)
 rw [asub_z, Nat.sub_zero, Nat.sub_zero, Nat.zero_mul, List.drop_zero, List.flatMap_append, List.take_left' (flat_len hz l)] at this
 exact this
attribute [local irreducible] Cs Own Ex Pu Yld RT LJ QJ AtQ CT Rd QSp Sp FinQ Then LoopQ CutQ DT TakeQ EffQ
variable {B : World} {R : List HP}
set_option maxHeartbeats 8000000 in
theorem wholeE_fn {a a' : Option Addr} {c c' : Nat} {l l2 : List EnumT} (hx : row5 (Rd B R) 5 EnumT.cells lentE a c l2) (hxs : ∀ e ∈ l2, e5 (Rd B R) e) (her : l2.map EnumT.er = l.map EnumT.er) (hy : Rd B R a' l.length c' 5 (l.flatMap EnumT.cells)) (hys : ∀ e ∈ l, e.In (Rd B R)) (hok : ∀ e ∈ l, e.Ok) (hsm : ∀ e ∈ l, ESm e) (hk : l.length ≤ 2097152) :
  Sp B Tryz.prog 47 [.slice a l2.length c, .slice a' l.length c'] R [] (fun v H' => v = .bool true ∧ H' = []) := by
 unfold row5 at hx
 have hc5 := hx.le
 have hx0 := row5_pre (f := EnumT.cells) (z := 5) (fun _ => rfl) hx
 have hlen : l2.length = l.length := by simpa using congrArg List.length her
 rw [hlen] at hx hx0 hc5 ⊢
 refine Sp.body Tryz.func47 rfl Tryz.ntmps47 (by simp) ?_
 simp only [argE, List.cons_append, List.nil_append, Nat.zero_add, Nat.reduceAdd]
 repeat' (first|refine gL ?_|(refine gv ?_;first|(refine⟨fun hc=>?_,fun hc=>?_⟩<;>first|(exfalso;omega)|skip)|refine gk ?_)|fail)
 refine RT.slhi T (j := l.length + 5) rfl rfl (by omega) (by omega) rfl rfl rfl ?_
 rw [asub_z]
 try refine gL ?_
 refine CT.loop (α := Nat) (fun k => [(0, .slice a l.length c), (1, .slice a' l.length c'), (5, .int .i64 l.length), (6, .slice a (l.length + 5) c), (7, .int .i64 k)]) (fun k => Pu (l.length ≤ k ∧ k ≤ l.length + 5) :: R) (fun k => l.length + 5 - k) l.length
  ⟨rfl, rfl, rfl, rfl, rfl, trivial⟩ (fun w h => Sat.pu_in ⟨Nat.le_refl _, by omega⟩ h) (fun k => CT.pu fun ⟨hk4, hk5⟩ => ?_)
 repeat' (first|refine gL ?_|(refine gv ?_;first|(refine⟨fun hc=>?_,fun hc=>?_⟩<;>first|(exfalso;omega)|skip)|refine gk ?_)|fail)
 ·refine RT.ix T (j := k * 5) rfl rfl rfl (by exact hx) (by omega) (by omega) (by omega) rfl rfl ?_
  refine RT.faA T rfl rfl rfl rfl ?_
  refine RT.ldr (u := vS lentT) T rfl (by exact hx) (by rw [flat_get (f := EnumT.cells) (z := 5) (fun _ => rfl) (five_at (by omega) (by omega)) (by decide)]; rfl) rfl rfl rfl ?_
  refine RT.nesame rfl rfl rfl rfl ?_
  repeat' (first|refine gL ?_|(refine gv ?_;refine gk ?_)|fail)
  exact AtQ.loop (k + 1) ⟨rfl, rfl, rfl, rfl, rfl, trivial⟩ (fun w h => Sat.pu_in (by omega) h) (by omega)
 refine CT.loop (α := Nat) (fun i => [(0, .slice a l.length c), (1, .slice a' l.length c'), (5, .int .i64 l.length), (8, .int .i64 i)]) (fun i => Pu (i ≤ l.length) :: R) (fun i => l.length - i) 0
  ⟨rfl, rfl, rfl, rfl, trivial⟩ (fun w h => Sat.pu_in (Nat.zero_le _) h) (fun i => CT.pu fun hi => ?_)
 repeat' (first|refine gL ?_|(refine gv ?_;(refine⟨fun hc=>?_,fun hc=>?_⟩<;>first|(exfalso;omega)|skip))|fail)
 ·have hil : i < l.length := by omega
  have hgi := List.getElem?_eq_getElem hil
  revert hgi
  generalize l[i] = e
  intro hgi
  obtain ⟨e2, hg2, hee⟩ := er_at her hgi
  have he5 := hxs e2 (List.mem_of_getElem? hg2)
  have hein := hys e (List.mem_of_getElem? hgi)
  have hesm := hsm e (List.mem_of_getElem? hgi)
  have heok := hok e (List.mem_of_getElem? hgi)
  obtain ⟨nm, ⟨va, vc, vl⟩, ali, ⟨ra, rc, rl⟩, ⟨na, nc, nl⟩⟩ := e
  obtain ⟨nm2, ⟨va2, vc2, vl2⟩, ali2, ⟨ra2, rc2, rl2⟩, ⟨na2, nc2, nl2⟩⟩ := e2
  simp only [EnumT.er, barR, EnumT.mk.injEq, Rw.mk.injEq, true_and] at hee
  obtain ⟨rfl, rfl, rfl, rfl, rfl⟩ := hee
  obtain ⟨x1, x2, x3⟩ := he5
  obtain ⟨y1, y2, y3⟩ := hein
  obtain ⟨z1, z2, z3⟩ := hesm
  obtain ⟨⟨o1, _⟩, _, o2, _, _, _, o3⟩ := heok
  unfold row5 at x1 x2
  unfold tx5 at x3
  dsimp only at x1 x2 x3 y1 y2 y3 z1 z2 z3 o1 o2 o3
  have hv5 := x1.le
  refine RT.ix T (j := i * 5) rfl rfl rfl (by exact hy) (by omega) (by omega) (by omega) rfl rfl ?_
  refine RT.ldra T rfl (by exact hy) (l := [vS nm2, .slice va vl2.length vc, .bool ali2, .slice ra rl2.length rc, .slice na nl2.length nc]) (by exact flat_sub (f := EnumT.cells) (z := 5) (fun _ => rfl) _ i _ hgi) rfl rfl rfl rfl ?_
  repeat' (first|refine gM ?_|(refine gb ?_;intro b)|fail)
  refine RT.ix T (j := i * 5) rfl rfl rfl (rD (hx0)) (by omega) (by omega) (by omega) rfl rfl ?_
  refine RT.faA T rfl rfl rfl rfl ?_
  refine RT.ldr (u := vS nm2) T rfl (rD (hx0)) (by rw [flat_get (f := EnumT.cells) (z := 5) (fun _ => rfl) hg2 (by decide)]; rfl) rfl rfl rfl ?_
  try refine gL ?_
  refine RT.nesame rfl rfl rfl rfl ?_
  try refine gL ?_
  refine RT.ix T (j := i * 5) rfl rfl rfl (rD (hx0)) (by omega) (by omega) (by omega) rfl rfl ?_
  refine RT.faA T rfl rfl rfl rfl ?_
  refine RT.ldr (u := .bool ali2) T rfl (rD (hx0)) (by rw [flat_get (f := EnumT.cells) (z := 5) (fun _ => rfl) hg2 (by decide)]; rfl) rfl rfl rfl ?_
  try refine gL ?_
  refine nebool Tryz.underlying4 rfl rfl rfl rfl ?_
  try refine gL ?_
  refine RT.ix T (j := i * 5) rfl rfl rfl (rD (hx0)) (by omega) (by omega) (by omega) rfl rfl ?_
  refine RT.faA T rfl rfl rfl rfl ?_
  refine RT.ldr (u := .slice va2 vl2.length vc2) T rfl (rD (hx0)) (by rw [flat_get (f := EnumT.cells) (z := 5) (fun _ => rfl) hg2 (by decide)]; rfl) rfl rfl rfl ?_
  repeat' (first|refine gL ?_|(refine gv ?_;(refine⟨fun hc=>?_,fun hc=>?_⟩<;>first|(exfalso;omega)|skip))|fail)
  refine RT.ix T (j := i * 5) rfl rfl rfl (rD (hx0)) (by omega) (by omega) (by omega) rfl rfl ?_
  refine RT.faA T rfl rfl rfl rfl ?_
  refine RT.ldr (u := .slice va2 vl2.length vc2) T rfl (rD (hx0)) (by rw [flat_get (f := EnumT.cells) (z := 5) (fun _ => rfl) hg2 (by decide)]; rfl) rfl rfl rfl ?_
  repeat' (first|refine gL ?_|(refine gv ?_;first|(refine⟨fun hc=>?_,fun hc=>?_⟩<;>first|(exfalso;omega)|skip)|refine gk ?_)|fail)
  refine RT.ix T (j := i * 5) rfl rfl rfl (rD (hx0)) (by omega) (by omega) (by omega) rfl rfl ?_
  refine RT.faA T rfl rfl rfl rfl ?_
  refine RT.ldr (u := .slice va2 vl2.length vc2) T rfl (rD (hx0)) (by rw [flat_get (f := EnumT.cells) (z := 5) (fun _ => rfl) hg2 (by decide)]; rfl) rfl rfl rfl ?_
  repeat' (first|refine gL ?_|(refine gv ?_;refine gk ?_)|fail)
  refine RT.slhi T (j := vl2.length + 5) rfl rfl (by omega) (by omega) rfl rfl rfl ?_
  rw [asub_z]
  try refine gL ?_
  refine CT.loop (α := Nat) (fun k => [(0, .slice a l.length c), (1, .slice a' l.length c'), (5, .int .i64 l.length), (8, .int .i64 i), (9, .pointer (some ⟨b, 0, none⟩)), (10, .int .i64 vl2.length), (11, .slice va2 (vl2.length + 5) vc2), (12, .int .i64 k)]) (fun k => Pu (k ≤ vl2.length + 5) :: Cs b 109 [vS nm2, .slice va vl2.length vc, .bool ali2, .slice ra rl2.length rc, .slice na nl2.length nc] :: R) (fun k => vl2.length + 5 - k) 0
   ⟨rfl, rfl, rfl, rfl, rfl, rfl, rfl, rfl, trivial⟩ (fun w h => Sat.pu_in (Nat.zero_le _) h) (fun k => CT.pu fun hk5 => ?_)
  repeat' (first|refine gL ?_|(refine gv ?_;first|(refine⟨fun hc=>?_,fun hc=>?_⟩<;>first|(exfalso;omega)|skip)|refine gk ?_)|fail)
  ·have hkl : k < vl2.length := by omega
   have hgk := List.getElem?_eq_getElem hkl
   revert hgk
   generalize vl2[k] = ev
   intro hgk
   refine RT.ix T (j := k * 2) rfl rfl rfl (rD (x1)) (by omega) (by omega) (by omega) rfl rfl ?_
   refine RT.ldra T rfl (rD (x1)) (l := ev.cells) (flat_sub (f := EValT.cells) (z := 2) (fun _ => rfl) _ k _ (five_lo hgk)) rfl rfl rfl rfl ?_
   try refine gL ?_
   refine RT.ix T (j := k * 2) rfl rfl rfl (rD (y1)) (by omega) (by omega) (by omega) rfl rfl ?_
   refine RT.ldra T rfl (rD (y1)) (l := ev.cells) (flat_sub (f := EValT.cells) (z := 2) (fun _ => rfl) _ k _ hgk) rfl rfl rfl rfl ?_
   refine RT.neS rfl rfl (same_ev ev) rfl rfl ?_
   repeat' (first|refine gL ?_|(refine gv ?_;first|(refine⟨fun hc=>?_,fun hc=>?_⟩<;>first|(exfalso;omega)|skip)|refine gk ?_)|fail)
   exact AtQ.loop (k + 1) ⟨rfl, rfl, rfl, rfl, rfl, rfl, rfl, rfl, trivial⟩ (fun w h => Sat.pu_in (by omega) h) (by omega)
  ·refine RT.ix T (j := k * 2) rfl rfl rfl (rD (x1)) (by omega) (by omega) (by omega) rfl rfl ?_
   refine RT.faA T rfl rfl rfl rfl ?_
   refine RT.ldr (u := vS lentT) T rfl (rD (x1)) (by rw [flat_get (f := EValT.cells) (z := 2) (fun _ => rfl) (five_at (by omega) (by omega)) (by decide)]; rfl) rfl rfl rfl ?_
   refine RT.nesame rfl rfl rfl rfl ?_
   repeat' (first|refine gL ?_|(refine gv ?_;refine gk ?_)|fail)
   exact AtQ.loop (k + 1) ⟨rfl, rfl, rfl, rfl, rfl, rfl, rfl, rfl, trivial⟩ (fun w h => Sat.pu_in (by omega) h) (by omega)
  refine RT.ix T (j := i * 5) rfl rfl rfl (rD (hx0)) (by omega) (by omega) (by omega) rfl rfl ?_
  refine RT.faA T rfl rfl rfl rfl ?_
  refine RT.ldr (u := .slice ra2 rl2.length rc2) T rfl (rD (hx0)) (by rw [flat_get (f := EnumT.cells) (z := 5) (fun _ => rfl) hg2 (by decide)]; rfl) rfl rfl rfl ?_
  try refine gL ?_
  refine RT.qcall T rfl (QSp.of fR_ (wholeS_fn (a := ra2) (c := rc2) (l := rl2) (by unfold row5; exact (rD (x2))) (rD (y2)) (by omega))) rfl rfl rfl ?_
  try refine gL ?_
  refine RT.ix T (j := i * 5) rfl rfl rfl (rD (hx0)) (by omega) (by omega) (by omega) rfl rfl ?_
  refine RT.faA T rfl rfl rfl rfl ?_
  refine RT.ldr (u := .slice na2 nl2.length nc2) T rfl (rD (hx0)) (by rw [flat_get (f := EnumT.cells) (z := 5) (fun _ => rfl) hg2 (by decide)]; rfl) rfl rfl rfl ?_
  try refine gL ?_
  refine RT.qcall T rfl (QSp.of fR_ (wholeT_fn (a := na2) (c := nc2) (ls := nl2) (rD (x3)) (rD (y3)) rfl (fun t ht => (o3 t ht).1) (by omega))) rfl rfl rfl ?_
  repeat' (first|refine gL ?_|(refine gv ?_;refine gk ?_)|fail)
  exact AtQ.loop (i + 1) ⟨rfl, rfl, rfl, rfl, trivial⟩ (fun w h => Sat.pu_in (by omega) h.tail) (by omega)
 ·exact AtQ.f1 Tryz.results47 rfl rfl (fun w h => h)
end Go.Proofs.YtdemnhdoadjhhaaGreatDoor
end
section
namespace Go.Proofs.YtdemnhdoadjhhaaGreatDoor
open Go.Sk
set_option maxRecDepth 100000
section
variable {X Y : Option Addr → Nat → Nat → Nat → List Value → Prop}
theorem e5.mono (h : ∀ a k c z xs, X a k c z xs → Y a k c z xs) {e : EnumT} (hi : e5 X e) : e5 Y e := ⟨h _ _ _ _ _ hi.1, h _ _ _ _ _ hi.2.1, h _ _ _ _ _ hi.2.2⟩
mutual
theorem m5.mono (h : ∀ a k c z xs, X a k c z xs → Y a k c z xs) : ∀ {m : MsgT}, m5 X m → m5 Y m
 | .mk nm fields oneofs ma mc msgs enums res names, hi => by
  unfold m5 at hi ⊢
  obtain ⟨h1, h2, h3, h4, h5, h6, h7, h8⟩ := hi
  exact ⟨h _ _ _ _ _ h1, h _ _ _ _ _ h2, h _ _ _ _ _ h3, h _ _ _ _ _ h4, h _ _ _ _ _ h5, m5L.mono h h6, h _ _ _ _ _ h7, fun e he => (h8 e he).mono h⟩
theorem m5L.mono (h : ∀ a k c z xs, X a k c z xs → Y a k c z xs) : ∀ {l : List MsgT}, m5L X l → m5L Y l
 | [], _ => by unfold m5L; trivial
 | m :: l, hi => by
  unfold m5L at hi ⊢
  exact ⟨m5.mono h hi.1, m5L.mono h hi.2⟩
end
end
attribute [local irreducible] Cs Own Ex Pu Yld RT LJ QJ AtQ CT Rd QSp Sp FinQ Then LoopQ CutQ DT TakeQ EffQ
variable {B : World}
set_option maxHeartbeats 16000000 in
theorem wholeM_fn (d : Nat) : ∀ {R : List HP} {a a' : Option Addr} {c c' : Nat} {l l2 : List MsgT}, MsgT.deepL l ≤ d → row5 (Rd B R) 7 MsgT.cells lentM a c l2 → m5L (Rd B R) l2 → l2.map mEr = l.map mEr → Rd B R a' l.length c' 7 (l.flatMap MsgT.cells) → MsgT.InL (Rd B R) l → MsgT.OkL l → MsgT.SmL l → l.length ≤ 2097152 →
  Sp B Tryz.prog 46 [.slice a l2.length c, .slice a' l.length c'] R [] (fun v H' => v = .bool true ∧ H' = []) := by
 induction d using Nat.strongRecOn with
 | _ d ih =>
 intro R a a' c c' l l2 hd hx hxs her hy hys hok hsm hk
 unfold row5 at hx
 have hc5 := hx.le
 have hx0 := row5_pre (f := MsgT.cells) (z := 7) (fun _ => rfl) hx
 have hlen : l2.length = l.length := by simpa using congrArg List.length her
 rw [hlen] at hx hx0 hc5 ⊢
 refine Sp.body Tryz.func46 rfl Tryz.ntmps46 (by simp) ?_
 simp only [argE, List.cons_append, List.nil_append, Nat.zero_add, Nat.reduceAdd]
 repeat' (first|refine gL ?_|(refine gv ?_;first|(refine⟨fun hc=>?_,fun hc=>?_⟩<;>first|(exfalso;omega)|skip)|refine gk ?_)|fail)
 refine RT.slhi T (j := l.length + 5) rfl rfl (by omega) (by omega) rfl rfl rfl ?_
 rw [asub_z]
 try refine gL ?_
 refine CT.loop (α := Nat) (fun k => [(0, .slice a l.length c), (1, .slice a' l.length c'), (5, .int .i64 l.length), (6, .slice a (l.length + 5) c), (7, .int .i64 k)]) (fun k => Pu (l.length ≤ k ∧ k ≤ l.length + 5) :: R) (fun k => l.length + 5 - k) l.length
  ⟨rfl, rfl, rfl, rfl, rfl, trivial⟩ (fun w h => Sat.pu_in ⟨Nat.le_refl _, by omega⟩ h) (fun k => CT.pu fun ⟨hk4, hk5⟩ => ?_)
 repeat' (first|refine gL ?_|(refine gv ?_;first|(refine⟨fun hc=>?_,fun hc=>?_⟩<;>first|(exfalso;omega)|skip)|refine gk ?_)|fail)
 ·refine RT.ix T (j := k * 7) rfl rfl rfl (by exact hx) (by omega) (by omega) (by omega) rfl rfl ?_
  refine RT.faA T rfl rfl rfl rfl ?_
  refine RT.ldr (u := vS lentT) T rfl (by exact hx) (by rw [flat_get (f := MsgT.cells) (z := 7) (fun _ => rfl) (five_at (by omega) (by omega)) (by decide)]; rfl) rfl rfl rfl ?_
  refine RT.nesame rfl rfl rfl rfl ?_
  repeat' (first|refine gL ?_|(refine gv ?_;refine gk ?_)|fail)
  exact AtQ.loop (k + 1) ⟨rfl, rfl, rfl, rfl, rfl, trivial⟩ (fun w h => Sat.pu_in (by omega) h) (by omega)
 refine CT.loop (α := Nat) (fun i => [(0, .slice a l.length c), (1, .slice a' l.length c'), (5, .int .i64 l.length), (8, .int .i64 i)]) (fun i => Pu (i ≤ l.length) :: R) (fun i => l.length - i) 0
  ⟨rfl, rfl, rfl, rfl, trivial⟩ (fun w h => Sat.pu_in (Nat.zero_le _) h) (fun i => CT.pu fun hi => ?_)
 repeat' (first|refine gL ?_|(refine gv ?_;(refine⟨fun hc=>?_,fun hc=>?_⟩<;>first|(exfalso;omega)|skip))|fail)
 ·have hil : i < l.length := by omega
  have hgi := List.getElem?_eq_getElem hil
  revert hgi
  generalize l[i] = m
  intro hgi
  obtain ⟨m2, hg2, hee⟩ := er_at her hgi
  have hme := List.mem_of_getElem? hgi
  have he5 := m5L_mem hxs (List.mem_of_getElem? hg2)
  have hein := MsgT.inL_mem hys hme
  have hesm := MsgT.smL_mem hsm hme
  have heok := MsgT.okL_mem hok hme
  have hmd := Nat.le_trans (MsgT.deep_mem hme) hd
  obtain ⟨nm, ⟨fa, fc, fl⟩, ⟨oa, oc, ol⟩, ma, mc, msgs, ⟨ea, ec, el⟩, ⟨ra, rc, rl⟩, ⟨na, nc, nl⟩⟩ := m
  obtain ⟨nm2, ⟨fa2, fc2, fl2⟩, ⟨oa2, oc2, ol2⟩, ma2, mc2, msgs2, ⟨ea2, ec2, el2⟩, ⟨ra2, rc2, rl2⟩, ⟨na2, nc2, nl2⟩⟩ := m2
  unfold mEr at hee
  simp only [barR, MsgT.mk.injEq, Rw.mk.injEq, true_and] at hee
  obtain ⟨rfl, rfl, rfl, herm, here, rfl, rfl⟩ := hee
  rw [mErL_map, mErL_map] at herm
  unfold m5 at he5
  unfold MsgT.In at hein
  unfold MsgT.Sm at hesm
  unfold MsgT.Ok at heok
  unfold MsgT.deep at hmd
  obtain ⟨x1, x2, x3, x4, x5, x6, x7, x8⟩ := he5
  obtain ⟨y1, y3, y5, y7, y8, y2, y4, y6⟩ := hein
  obtain ⟨z1, z3, z2, z4, z7, z8, z5, z6⟩ := hesm
  obtain ⟨_, ⟨_, _⟩, ⟨_, o3⟩, _, ⟨_, o8⟩, ⟨_, o2⟩, ⟨_, o4⟩, o6⟩ := heok
  unfold row5 at x1 x2 x5 x7
  unfold tx5 at x3 x4
  dsimp only at x1 x2 x3 x4 x5 x7 x8 y1 y2 y3 y4 y5 y7 y8 z1 z2 z3 z4 z5 z7 z8 o2 o3 o4 o8
  have hv5 := x1.le
  refine RT.ix T (j := i * 7) rfl rfl rfl (by exact hy) (by omega) (by omega) (by omega) rfl rfl ?_
  refine RT.ldra T rfl (by exact hy) (l := [vS nm2, .slice fa fl2.length fc, .slice oa ol2.length oc, .slice ma msgs.length mc, .slice ea el.length ec, .slice ra rl2.length rc, .slice na nl2.length nc]) (by exact flat_sub (f := MsgT.cells) (z := 7) (fun _ => rfl) _ i _ hgi) rfl rfl rfl rfl ?_
  repeat' (first|refine gM ?_|(refine gb ?_;intro b)|fail)
  refine RT.ix T (j := i * 7) rfl rfl rfl (rD (hx0)) (by omega) (by omega) (by omega) rfl rfl ?_
  refine RT.faA T rfl rfl rfl rfl ?_
  refine RT.ldr (u := vS nm2) T rfl (rD (hx0)) (by rw [flat_get (f := MsgT.cells) (z := 7) (fun _ => rfl) hg2 (by decide)]; rfl) rfl rfl rfl ?_
  try refine gL ?_
  refine RT.nesame rfl rfl rfl rfl ?_
  try refine gL ?_
  refine RT.ix T (j := i * 7) rfl rfl rfl (rD (hx0)) (by omega) (by omega) (by omega) rfl rfl ?_
  refine RT.faA T rfl rfl rfl rfl ?_
  refine RT.ldr (u := .slice fa2 fl2.length fc2) T rfl (rD (hx0)) (by rw [flat_get (f := MsgT.cells) (z := 7) (fun _ => rfl) hg2 (by decide)]; rfl) rfl rfl rfl ?_
  repeat' (first|refine gL ?_|(refine gv ?_;(refine⟨fun hc=>?_,fun hc=>?_⟩<;>first|(exfalso;omega)|skip))|fail)
  refine RT.ix T (j := i * 7) rfl rfl rfl (rD (hx0)) (by omega) (by omega) (by omega) rfl rfl ?_
  refine RT.faA T rfl rfl rfl rfl ?_
  refine RT.ldr (u := .slice fa2 fl2.length fc2) T rfl (rD (hx0)) (by rw [flat_get (f := MsgT.cells) (z := 7) (fun _ => rfl) hg2 (by decide)]; rfl) rfl rfl rfl ?_
  repeat' (first|refine gL ?_|(refine gv ?_;first|(refine⟨fun hc=>?_,fun hc=>?_⟩<;>first|(exfalso;omega)|skip)|refine gk ?_)|fail)
  refine RT.ix T (j := i * 7) rfl rfl rfl (rD (hx0)) (by omega) (by omega) (by omega) rfl rfl ?_
  refine RT.faA T rfl rfl rfl rfl ?_
  refine RT.ldr (u := .slice fa2 fl2.length fc2) T rfl (rD (hx0)) (by rw [flat_get (f := MsgT.cells) (z := 7) (fun _ => rfl) hg2 (by decide)]; rfl) rfl rfl rfl ?_
  repeat' (first|refine gL ?_|(refine gv ?_;refine gk ?_)|fail)
  refine RT.slhi T (j := fl2.length + 5) rfl rfl (by omega) (by omega) rfl rfl rfl ?_
  rw [asub_z]
  try refine gL ?_
  refine CT.loop (α := Nat) (fun k => [(0, .slice a l.length c), (1, .slice a' l.length c'), (5, .int .i64 l.length), (8, .int .i64 i), (9, .pointer (some ⟨b, 0, none⟩)), (10, .int .i64 fl2.length), (11, .slice fa2 (fl2.length + 5) fc2), (12, .int .i64 k)]) (fun k => Pu (k ≤ fl2.length + 5) :: Cs b 72 [vS nm2, .slice fa fl2.length fc, .slice oa ol2.length oc, .slice ma msgs.length mc, .slice ea el.length ec, .slice ra rl2.length rc, .slice na nl2.length nc] :: R) (fun k => fl2.length + 5 - k) 0
   ⟨rfl, rfl, rfl, rfl, rfl, rfl, rfl, rfl, trivial⟩ (fun w h => Sat.pu_in (Nat.zero_le _) h) (fun k => CT.pu fun hk5 => ?_)
  repeat' (first|refine gL ?_|(refine gv ?_;first|(refine⟨fun hc=>?_,fun hc=>?_⟩<;>first|(exfalso;omega)|skip)|refine gk ?_)|fail)
  ·have hkl : k < fl2.length := by omega
   have hgk := List.getElem?_eq_getElem hkl
   revert hgk
   generalize fl2[k] = fd
   intro hgk
   refine RT.ix T (j := k * 9) rfl rfl rfl (rD (x1)) (by omega) (by omega) (by omega) rfl rfl ?_
   refine RT.ldra T rfl (rD (x1)) (l := fd.cells) (flat_sub (f := FieldT.cells) (z := 9) (fun _ => rfl) _ k _ (five_lo hgk)) rfl rfl rfl rfl ?_
   try refine gL ?_
   refine RT.ix T (j := k * 9) rfl rfl rfl (rD (y1)) (by omega) (by omega) (by omega) rfl rfl ?_
   refine RT.ldra T rfl (rD (y1)) (l := fd.cells) (flat_sub (f := FieldT.cells) (z := 9) (fun _ => rfl) _ k _ hgk) rfl rfl rfl rfl ?_
   refine RT.neS rfl rfl (same_fd fd) rfl rfl ?_
   repeat' (first|refine gL ?_|(refine gv ?_;first|(refine⟨fun hc=>?_,fun hc=>?_⟩<;>first|(exfalso;omega)|skip)|refine gk ?_)|fail)
   exact AtQ.loop (k + 1) ⟨rfl, rfl, rfl, rfl, rfl, rfl, rfl, rfl, trivial⟩ (fun w h => Sat.pu_in (by omega) h) (by omega)
  ·refine RT.ix T (j := k * 9) rfl rfl rfl (rD (x1)) (by omega) (by omega) (by omega) rfl rfl ?_
   refine RT.faA T rfl rfl rfl rfl ?_
   refine RT.ldr (u := vS lentT) T rfl (rD (x1)) (by rw [flat_get (f := FieldT.cells) (z := 9) (fun _ => rfl) (five_at (by omega) (by omega)) (by decide)]; rfl) rfl rfl rfl ?_
   refine RT.nesame rfl rfl rfl rfl ?_
   repeat' (first|refine gL ?_|(refine gv ?_;refine gk ?_)|fail)
   exact AtQ.loop (k + 1) ⟨rfl, rfl, rfl, rfl, rfl, rfl, rfl, rfl, trivial⟩ (fun w h => Sat.pu_in (by omega) h) (by omega)
  refine RT.ix T (j := i * 7) rfl rfl rfl (rD (hx0)) (by omega) (by omega) (by omega) rfl rfl ?_
  refine RT.faA T rfl rfl rfl rfl ?_
  refine RT.ldr (u := .slice ra2 rl2.length rc2) T rfl (rD (hx0)) (by rw [flat_get (f := MsgT.cells) (z := 7) (fun _ => rfl) hg2 (by decide)]; rfl) rfl rfl rfl ?_
  try refine gL ?_
  refine RT.qcall T rfl (QSp.of fR_ (wholeS_fn (a := ra2) (c := rc2) (l := rl2) (by unfold row5; exact (rD (x2))) (rD (y2)) (by omega))) rfl rfl rfl ?_
  try refine gL ?_
  refine RT.ix T (j := i * 7) rfl rfl rfl (rD (hx0)) (by omega) (by omega) (by omega) rfl rfl ?_
  refine RT.faA T rfl rfl rfl rfl ?_
  refine RT.ldr (u := .slice oa2 ol2.length oc2) T rfl (rD (hx0)) (by rw [flat_get (f := MsgT.cells) (z := 7) (fun _ => rfl) hg2 (by decide)]; rfl) rfl rfl rfl ?_
  try refine gL ?_
  refine RT.qcall T rfl (QSp.of fR_ (wholeT_fn (a := oa2) (c := oc2) (ls := ol2) (rD (x3)) (rD (y3)) rfl (fun t ht => (o3 t ht).1) (by omega))) rfl rfl rfl ?_
  try refine gL ?_
  refine RT.ix T (j := i * 7) rfl rfl rfl (rD (hx0)) (by omega) (by omega) (by omega) rfl rfl ?_
  refine RT.faA T rfl rfl rfl rfl ?_
  refine RT.ldr (u := .slice na2 nl2.length nc2) T rfl (rD (hx0)) (by rw [flat_get (f := MsgT.cells) (z := 7) (fun _ => rfl) hg2 (by decide)]; rfl) rfl rfl rfl ?_
  try refine gL ?_
  refine RT.qcall T rfl (QSp.of fR_ (wholeT_fn (a := na2) (c := nc2) (ls := nl2) (rD (x4)) (rD (y4)) rfl (fun t ht => (o4 t ht).1) (by omega))) rfl rfl rfl ?_
  try refine gL ?_
  refine RT.ix T (j := i * 7) rfl rfl rfl (rD (hx0)) (by omega) (by omega) (by omega) rfl rfl ?_
  refine RT.faA T rfl rfl rfl rfl ?_
  refine RT.ldr (u := .slice ma2 msgs2.length mc2) T rfl (rD (hx0)) (by rw [flat_get (f := MsgT.cells) (z := 7) (fun _ => rfl) hg2 (by decide)]; rfl) rfl rfl rfl ?_
  try refine gL ?_
  refine RT.qcall T rfl (QSp.of fR_ (ih (MsgT.deepL msgs) (by omega) (a := ma2) (c := mc2) (l := msgs) (l2 := msgs2) (Nat.le_refl _) (by unfold row5; exact (rD (x5))) (m5L.mono (fun _ _ _ _ _ h => (rD (h))) x6) herm (rD (y5)) (MsgT.InL.mono (fun _ _ _ _ _ h => (rD (h))) y6) o6 z6 (by omega))) rfl rfl rfl ?_
  try refine gL ?_
  refine RT.ix T (j := i * 7) rfl rfl rfl (rD (hx0)) (by omega) (by omega) (by omega) rfl rfl ?_
  refine RT.faA T rfl rfl rfl rfl ?_
  refine RT.ldr (u := .slice ea2 el2.length ec2) T rfl (rD (hx0)) (by rw [flat_get (f := MsgT.cells) (z := 7) (fun _ => rfl) hg2 (by decide)]; rfl) rfl rfl rfl ?_
  try refine gL ?_
  refine RT.qcall T rfl (QSp.of fR_ (wholeE_fn (a := ea2) (c := ec2) (l := el) (l2 := el2) (by unfold row5; exact (rD (x7))) (fun e he => (x8 e he).mono (fun _ _ _ _ _ h => (rD (h)))) here (rD (y7)) (fun e he => (y8 e he).mono (fun _ _ _ _ _ h => (rD (h)))) o8 z8 (by omega))) rfl rfl rfl ?_
  repeat' (first|refine gL ?_|(refine gv ?_;refine gk ?_)|fail)
  exact AtQ.loop (i + 1) ⟨rfl, rfl, rfl, rfl, trivial⟩ (fun w h => Sat.pu_in (by omega) h.tail) (by omega)
 ·exact AtQ.f1 Tryz.results46 rfl rfl (fun w h => h)
end Go.Proofs.YtdemnhdoadjhhaaGreatDoor
end
section
namespace Go.Proofs.YtdemnhdoadjhhaaGreatDoor
open Go.Sk
set_option maxRecDepth 100000
attribute [local irreducible] Cs Own Ex Pu Yld RT LJ QJ AtQ CT Rd QSp Sp FinQ Then LoopQ CutQ DT TakeQ EffQ
variable {B : World} {R : List HP}
set_option maxHeartbeats 16000000 in
theorem wholeF_fn {a a' : Option Addr} {c c' : Nat} {l l2 : List FileT} (hx : row5 (Rd B R) 5 FileT.cells lentFl a c l2) (hxs : ∀ f ∈ l2, f5 (Rd B R) f) (her : l2.map fEr = l.map fEr) (hy : Rd B R a' l.length c' 5 (l.flatMap FileT.cells)) (hys : ∀ f ∈ l, f.In (Rd B R)) (hok : ∀ f ∈ l, f.Ok) (hsm : ∀ f ∈ l, FSm f) (hk : l.length ≤ 2097152) :
  Sp B Tryz.prog 13 [.slice a l2.length c, .slice a' l.length c'] R [] (fun v H' => v = .bool true ∧ H' = []) := by
 unfold row5 at hx
 have hc5 := hx.le
 have hx0 := row5_pre (f := FileT.cells) (z := 5) (fun _ => rfl) hx
 have hlen : l2.length = l.length := by simpa using congrArg List.length her
 rw [hlen] at hx hx0 hc5 ⊢
 refine Sp.body Tryz.func13 rfl Tryz.ntmps13 (by simp) ?_
 simp only [argE, List.cons_append, List.nil_append, Nat.zero_add, Nat.reduceAdd]
 repeat' (first|refine gL ?_|(refine gv ?_;first|(refine⟨fun hc=>?_,fun hc=>?_⟩<;>first|(exfalso;omega)|skip)|refine gk ?_)|fail)
 refine RT.slhi T (j := l.length + 5) rfl rfl (by omega) (by omega) rfl rfl rfl ?_
 rw [asub_z]
 try refine gL ?_
 refine CT.loop (α := Nat) (fun k => [(0, .slice a l.length c), (1, .slice a' l.length c'), (5, .slice a (l.length + 5) c), (6, .int .i64 k)]) (fun k => Pu (k ≤ 5) :: R) (fun k => 5 - k) 0
  ⟨rfl, rfl, rfl, rfl, trivial⟩ (fun w h => Sat.pu_in (Nat.zero_le _) h) (fun k => CT.pu fun hk5 => ?_)
 repeat' (first|refine gL ?_|(refine gv ?_;first|(refine⟨fun hc=>?_,fun hc=>?_⟩<;>first|(exfalso;omega)|skip)|refine gk ?_)|fail)
 ·refine RT.ix T (j := (l.length + k) * 5) rfl rfl rfl (by exact hx) (by omega) (by omega) (by omega) rfl rfl ?_
  refine RT.faA T rfl rfl rfl rfl ?_
  refine RT.ldr (u := vS lentT) T rfl (by exact hx) (by rw [flat_get (f := FileT.cells) (z := 5) (fun _ => rfl) (five_at (by omega) (by omega)) (by decide)]; rfl) rfl rfl rfl ?_
  refine RT.nesame rfl rfl rfl rfl ?_
  repeat' (first|refine gL ?_|(refine gv ?_;refine gk ?_)|fail)
  exact AtQ.loop (k + 1) ⟨rfl, rfl, rfl, rfl, trivial⟩ (fun w h => Sat.pu_in (by omega) h) (by omega)
 refine CT.loop (α := Nat) (fun i => [(0, .slice a l.length c), (1, .slice a' l.length c'), (7, .int .i64 i)]) (fun i => Pu (i ≤ l.length) :: R) (fun i => l.length - i) 0
  ⟨rfl, rfl, rfl, trivial⟩ (fun w h => Sat.pu_in (Nat.zero_le _) h) (fun i => CT.pu fun hi => ?_)
 repeat' (first|refine gL ?_|(refine gv ?_;(refine⟨fun hc=>?_,fun hc=>?_⟩<;>first|(exfalso;omega)|skip))|fail)
 ·have hil : i < l.length := by omega
  have hgi := List.getElem?_eq_getElem hil
  revert hgi
  generalize l[i] = f
  intro hgi
  obtain ⟨f2, hg2, hee⟩ := er_at her hgi
  have hme := List.mem_of_getElem? hgi
  have he5 := hxs f2 (List.mem_of_getElem? hg2)
  have hein := hys f hme
  have hesm := hsm f hme
  have heok := hok f hme
  obtain ⟨p, k, ⟨ia, ic, il⟩, ma, mc, msgs, ⟨ea, ec, el⟩⟩ := f
  obtain ⟨p2, k2, ⟨ia2, ic2, il2⟩, ma2, mc2, msgs2, ⟨ea2, ec2, el2⟩⟩ := f2
  simp only [fEr, barR, FileT.mk.injEq, Rw.mk.injEq, true_and] at hee
  obtain ⟨rfl, rfl, rfl, herm, here⟩ := hee
  obtain ⟨x1, x5, x6, x7, x8⟩ := he5
  obtain ⟨y1, y5, y6, y7, y8⟩ := hein
  obtain ⟨z1, z5, z6, z7, z8⟩ := hesm
  obtain ⟨_, _, ⟨_, _⟩, ⟨_, o6⟩, ⟨_, o8⟩⟩ := heok
  unfold row5 at x1
  dsimp only at x1 x5 x6 x7 x8 y1 y5 y6 y7 y8 z1 z5 z6 z7 z8 o6 o8
  have hv5 := x1.le
  refine RT.ix T (j := i * 5) rfl rfl rfl (by exact hx0) (by omega) (by omega) (by omega) rfl rfl ?_
  refine RT.faA T rfl rfl rfl rfl ?_
  refine RT.ldr (u := vS p2) T rfl (by exact hx0) (by rw [flat_get (f := FileT.cells) (z := 5) (fun _ => rfl) hg2 (by decide)]; rfl) rfl rfl rfl ?_
  try refine gL ?_
  refine RT.ix T (j := i * 5) rfl rfl rfl (by exact hy) (by omega) (by omega) (by omega) rfl rfl ?_
  refine RT.faA T rfl rfl rfl rfl ?_
  refine RT.ldr (u := vS p2) T rfl (by exact hy) (by rw [flat_get (f := FileT.cells) (z := 5) (fun _ => rfl) hgi (by decide)]; rfl) rfl rfl rfl ?_
  refine RT.nesame rfl rfl rfl rfl ?_
  try refine gL ?_
  refine RT.ix T (j := i * 5) rfl rfl rfl (by exact hx0) (by omega) (by omega) (by omega) rfl rfl ?_
  refine RT.faA T rfl rfl rfl rfl ?_
  refine RT.ldr (u := vS k2) T rfl (by exact hx0) (by rw [flat_get (f := FileT.cells) (z := 5) (fun _ => rfl) hg2 (by decide)]; rfl) rfl rfl rfl ?_
  try refine gL ?_
  refine RT.ix T (j := i * 5) rfl rfl rfl (by exact hy) (by omega) (by omega) (by omega) rfl rfl ?_
  refine RT.faA T rfl rfl rfl rfl ?_
  refine RT.ldr (u := vS k2) T rfl (by exact hy) (by rw [flat_get (f := FileT.cells) (z := 5) (fun _ => rfl) hgi (by decide)]; rfl) rfl rfl rfl ?_
  refine RT.nesame rfl rfl rfl rfl ?_
  try refine gL ?_
  refine RT.ix T (j := i * 5) rfl rfl rfl (by exact hx0) (by omega) (by omega) (by omega) rfl rfl ?_
  refine RT.faA T rfl rfl rfl rfl ?_
  refine RT.ldr (u := .slice ia2 il2.length ic2) T rfl (by exact hx0) (by rw [flat_get (f := FileT.cells) (z := 5) (fun _ => rfl) hg2 (by decide)]; rfl) rfl rfl rfl ?_
  try refine gL ?_
  refine RT.ix T (j := i * 5) rfl rfl rfl (by exact hy) (by omega) (by omega) (by omega) rfl rfl ?_
  refine RT.faA T rfl rfl rfl rfl ?_
  refine RT.ldr (u := .slice ia il2.length ic) T rfl (by exact hy) (by rw [flat_get (f := FileT.cells) (z := 5) (fun _ => rfl) hgi (by decide)]; rfl) rfl rfl rfl ?_
  repeat' (first|refine gL ?_|(refine gv ?_;(refine⟨fun hc=>?_,fun hc=>?_⟩<;>first|(exfalso;omega)|skip))|fail)
  refine RT.ix T (j := i * 5) rfl rfl rfl (by exact hx0) (by omega) (by omega) (by omega) rfl rfl ?_
  refine RT.faA T rfl rfl rfl rfl ?_
  refine RT.ldr (u := .slice ia2 il2.length ic2) T rfl (by exact hx0) (by rw [flat_get (f := FileT.cells) (z := 5) (fun _ => rfl) hg2 (by decide)]; rfl) rfl rfl rfl ?_
  try refine gL ?_
  refine RT.ix T (j := i * 5) rfl rfl rfl (by exact hy) (by omega) (by omega) (by omega) rfl rfl ?_
  refine RT.faA T rfl rfl rfl rfl ?_
  refine RT.ldr (u := .slice ia il2.length ic) T rfl (by exact hy) (by rw [flat_get (f := FileT.cells) (z := 5) (fun _ => rfl) hgi (by decide)]; rfl) rfl rfl rfl ?_
  repeat' (first|refine gL ?_|(refine gv ?_;first|(refine⟨fun hc=>?_,fun hc=>?_⟩<;>first|(exfalso;omega)|skip)|refine gk ?_)|fail)
  refine RT.ix T (j := i * 5) rfl rfl rfl (by exact hy) (by omega) (by omega) (by omega) rfl rfl ?_
  refine RT.faA T rfl rfl rfl rfl ?_
  refine RT.ldr (u := .slice ia il2.length ic) T rfl (by exact hy) (by rw [flat_get (f := FileT.cells) (z := 5) (fun _ => rfl) hgi (by decide)]; rfl) rfl rfl rfl ?_
  try refine gL ?_
  refine RT.ix T (j := i * 5) rfl rfl rfl (by exact hx0) (by omega) (by omega) (by omega) rfl rfl ?_
  refine RT.faA T rfl rfl rfl rfl ?_
  refine RT.ldr (u := .slice ia2 il2.length ic2) T rfl (by exact hx0) (by rw [flat_get (f := FileT.cells) (z := 5) (fun _ => rfl) hg2 (by decide)]; rfl) rfl rfl rfl ?_
  repeat' (first|refine gL ?_|(refine gv ?_;refine gk ?_)|fail)
  refine RT.slhi T (j := il2.length + 5) rfl rfl (by omega) (by omega) rfl rfl rfl ?_
  rw [asub_z]
  try refine gL ?_
  refine CT.loop (α := Nat) (fun k => [(0, .slice a l.length c), (1, .slice a' l.length c'), (7, .int .i64 i), (8, .int .i64 il2.length), (9, .slice ia2 (il2.length + 5) ic2), (10, .int .i64 k)]) (fun k => Pu (k ≤ il2.length + 5) :: R) (fun k => il2.length + 5 - k) 0
   ⟨rfl, rfl, rfl, rfl, rfl, rfl, trivial⟩ (fun w h => Sat.pu_in (Nat.zero_le _) h) (fun k => CT.pu fun hk5 => ?_)
  repeat' (first|refine gL ?_|(refine gv ?_;first|(refine⟨fun hc=>?_,fun hc=>?_⟩<;>first|(exfalso;omega)|skip)|refine gk ?_)|fail)
  ·have hkl : k < il2.length := by omega
   have hgk := List.getElem?_eq_getElem hkl
   revert hgk
   generalize il2[k] = im
   intro hgk
   refine RT.ix T (j := k * 2) rfl rfl rfl (by exact x1) (by omega) (by omega) (by omega) rfl rfl ?_
   refine RT.ldra T rfl (by exact x1) (l := im.cells) (flat_sub (f := ImpT.cells) (z := 2) (fun _ => rfl) _ k _ (five_lo hgk)) rfl rfl rfl rfl ?_
   try refine gL ?_
   refine RT.ix T (j := i * 5) rfl rfl rfl (by exact hy) (by omega) (by omega) (by omega) rfl rfl ?_
   refine RT.faA T rfl rfl rfl rfl ?_
   refine RT.ldr (u := .slice ia il2.length ic) T rfl (by exact hy) (by rw [flat_get (f := FileT.cells) (z := 5) (fun _ => rfl) hgi (by decide)]; rfl) rfl rfl rfl ?_
   try refine gL ?_
   refine RT.ix T (j := k * 2) rfl rfl rfl (by exact y1) (by omega) (by omega) (by omega) rfl rfl ?_
   refine RT.ldra T rfl (by exact y1) (l := im.cells) (flat_sub (f := ImpT.cells) (z := 2) (fun _ => rfl) _ k _ hgk) rfl rfl rfl rfl ?_
   refine RT.neS rfl rfl (same_im im) rfl rfl ?_
   repeat' (first|refine gL ?_|(refine gv ?_;first|(refine⟨fun hc=>?_,fun hc=>?_⟩<;>first|(exfalso;omega)|skip)|refine gk ?_)|fail)
   exact AtQ.loop (k + 1) ⟨rfl, rfl, rfl, rfl, rfl, rfl, trivial⟩ (fun w h => Sat.pu_in (by omega) h) (by omega)
  ·refine RT.ix T (j := k * 2) rfl rfl rfl (by exact x1) (by omega) (by omega) (by omega) rfl rfl ?_
   refine RT.faA T rfl rfl rfl rfl ?_
   refine RT.ldr (u := vS lentT) T rfl (by exact x1) (by rw [flat_get (f := ImpT.cells) (z := 2) (fun _ => rfl) (five_at (by omega) (by omega)) (by decide)]; rfl) rfl rfl rfl ?_
   refine RT.nesame rfl rfl rfl rfl ?_
   repeat' (first|refine gL ?_|(refine gv ?_;refine gk ?_)|fail)
   exact AtQ.loop (k + 1) ⟨rfl, rfl, rfl, rfl, rfl, rfl, trivial⟩ (fun w h => Sat.pu_in (by omega) h) (by omega)
  refine RT.ix T (j := i * 5) rfl rfl rfl (by exact hx0) (by omega) (by omega) (by omega) rfl rfl ?_
  refine RT.faA T rfl rfl rfl rfl ?_
  refine RT.ldr (u := .slice ma2 msgs2.length mc2) T rfl (by exact hx0) (by rw [flat_get (f := FileT.cells) (z := 5) (fun _ => rfl) hg2 (by decide)]; rfl) rfl rfl rfl ?_
  try refine gL ?_
  refine RT.ix T (j := i * 5) rfl rfl rfl (by exact hy) (by omega) (by omega) (by omega) rfl rfl ?_
  refine RT.faA T rfl rfl rfl rfl ?_
  refine RT.ldr (u := .slice ma msgs.length mc) T rfl (by exact hy) (by rw [flat_get (f := FileT.cells) (z := 5) (fun _ => rfl) hgi (by decide)]; rfl) rfl rfl rfl ?_
  skip
  refine RT.qcall T rfl (QSp.of fR_ (wholeM_fn _ (a := ma2) (c := mc2) (l := msgs) (l2 := msgs2) (Nat.le_refl _) x5 x6 herm y5 (MsgT.inL_of y6) (MsgT.okL_of o6) z6 (by omega))) rfl rfl rfl ?_
  try refine gL ?_
  refine RT.ix T (j := i * 5) rfl rfl rfl (by exact hx0) (by omega) (by omega) (by omega) rfl rfl ?_
  refine RT.faA T rfl rfl rfl rfl ?_
  refine RT.ldr (u := .slice ea2 el2.length ec2) T rfl (by exact hx0) (by rw [flat_get (f := FileT.cells) (z := 5) (fun _ => rfl) hg2 (by decide)]; rfl) rfl rfl rfl ?_
  try refine gL ?_
  refine RT.ix T (j := i * 5) rfl rfl rfl (by exact hy) (by omega) (by omega) (by omega) rfl rfl ?_
  refine RT.faA T rfl rfl rfl rfl ?_
  refine RT.ldr (u := .slice ea el.length ec) T rfl (by exact hy) (by rw [flat_get (f := FileT.cells) (z := 5) (fun _ => rfl) hgi (by decide)]; rfl) rfl rfl rfl ?_
  skip
  refine RT.qcall T rfl (QSp.of fR_ (wholeE_fn (a := ea2) (c := ec2) (l := el) (l2 := el2) x7 x8 here y7 y8 o8 z8 (by omega))) rfl rfl rfl ?_
  repeat' (first|refine gL ?_|(refine gv ?_;refine gk ?_)|fail)
  exact AtQ.loop (i + 1) ⟨rfl, rfl, rfl, trivial⟩ (fun w h => Sat.pu_in (by omega) h) (by omega)
 ·exact AtQ.f1 Tryz.results13 rfl rfl (fun w h => h)
end Go.Proofs.YtdemnhdoadjhhaaGreatDoor
end
section
namespace Go.Proofs.YtdemnhdoadjhhaaGreatDoor
open Go.Sk
set_option maxRecDepth 100000
theorem Own.cutTo {B : World} {R : List HP} {w : World} {a : Option Addr} {c : Nat} {e : TypeId} {sz k j : Nat} {xs : List Value} (h : Sat B (Own a c e sz k xs :: R) w) (hj : j ≤ k) : Sat B (Own a c e sz j (xs.take (j * sz)) :: R) w := by
 obtain ⟨h0, hh, h1, h2, d, l1, l2, ho, hr⟩ := h.heap
 exact { h with heap := ⟨h0, hh, h1, h2, d, l1, l2, Own.short ho hj, hr⟩ }
theorem Own.bare {B : World} {R : List HP} {w : World} {α : Type} {e z c : Nat} {f : α → List Value} {x : α} {a : Option Addr} {l : List α} (hz : ∀ x, (f x).length = z) (h : Sat B (rowH e z f x a c l :: R) w) : Sat B (Own a c e z l.length (l.flatMap f) :: R) w := by
 have h2 := Own.cutTo h (j := l.length) (by omega)
 rw [List.flatMap_append, List.take_left' (flat_len hz l)] at h2
 exact h2
attribute [local irreducible] Cs Own Ex Pu Yld RT LJ QJ AtQ CT Rd QSp Sp FinQ Then LoopQ CutQ DT TakeQ EffQ
variable {B : World} {R : List HP}
set_option maxHeartbeats 8000000 in
theorem spoilE_fn {a : Option Addr} {c : Nat} {l : List EnumT} :
  Sp B Tryz.prog 49 [.slice a l.length c] R [rowH 109 5 EnumT.cells lentE a c l, Bag (l.flatMap eRows)] (fun v H' => v = .tuple #[] ∧ H' = []) := by
 refine Sp.weak (Pre' := [Own a c 109 5 l.length (l.flatMap EnumT.cells), Bag (l.flatMap eRows)]) (fun w h => Own.bare (f := EnumT.cells) (z := 5) (fun _ => rfl) h) ?_
 refine Sp.fact (p := l.length ≤ c ∧ c ≤ maxLen) (fun w h => ⟨(Own.facts h .h).2.1, (Own.facts h .h).2.2⟩) (fun ⟨hnc, hcm⟩ => ?_)
 unfold maxLen at hcm
 refine Sp.body Tryz.func49 rfl Tryz.ntmps49 (by simp) ?_
 simp only [argE, List.cons_append, List.nil_append, Nat.zero_add, Nat.reduceAdd]
 try refine gL ?_
 refine CT.loop (α := Nat × List Value) (fun s => [(0, .slice a l.length c), (2, .int .i64 s.1)])
  (fun s => Pu (s.1 ≤ l.length ∧ s.2.length = l.length * 5 ∧ ∀ j e, s.1 ≤ j → l[j]? = some e → ∀ q, q < 5 → s.2[j * 5 + q]? = e.cells[q]?) :: Own a c 109 5 l.length s.2 :: Bag ((l.drop s.1).flatMap eRows) :: R) (fun s => l.length - s.1) (0, l.flatMap EnumT.cells)
  ⟨rfl, rfl, trivial⟩ (fun w h => Sat.pu_in ⟨Nat.zero_le _, flat_len (f := EnumT.cells) (z := 5) (fun _ => rfl) l, fun j e _ he q hq => flat_get (f := EnumT.cells) (z := 5) (fun _ => rfl) he hq⟩ h) (fun ⟨i, us⟩ => CT.pu fun ⟨hi, hul, hus⟩ => ?_)
 dsimp only at hi hul hus ⊢
 repeat' (first|refine gL ?_|(refine gv ?_;(refine⟨fun hc=>?_,fun hc=>?_⟩<;>first|(exfalso;omega)|skip))|fail)
 ·have hil : i < l.length := by omega
  have hgi := List.getElem?_eq_getElem hil
  have hdr := List.drop_eq_getElem_cons hil
  revert hgi hdr
  generalize l[i] = e
  intro hgi hdr
  have hcell : ∀ q, q < 5 → us[i * 5 + q]? = e.cells[q]? := hus i e (Nat.le_refl _) hgi
  obtain ⟨nm, ⟨va, vc, vl⟩, ali, ⟨ra, rc, rl⟩, ⟨na, nc, nl⟩⟩ := e
  refine CT.weak (H' := Own va vc 111 2 vl.length (vl.flatMap EValT.cells) :: Own ra rc 158 2 rl.length (rl.flatMap SpanT.cells) :: txH ⟨na, nc, nl⟩ :: Bag ((l.drop (i + 1)).flatMap eRows) :: Own a c 109 5 l.length us :: R) (fun w h => ?_) ?_
  ·rw [hdr, List.flatMap_cons] at h
   have h1 := h.fr (Ps := [Bag _, Own a c 109 5 l.length us]) (R := R) fR_
   have h2 := Bag.split h1
   have h3 := Own.bare (f := EValT.cells) (z := 2) (fun _ => rfl) h2
   have h4 := h3.fr (Ps := [rowH 158 2 SpanT.cells lentSp ra rc rl, Own va vc 111 2 vl.length (vl.flatMap EValT.cells), txH ⟨na, nc, nl⟩, Bag _, Own a c 109 5 l.length us]) (R := R) fR_
   have h5 := Own.bare (f := SpanT.cells) (z := 2) (fun _ => rfl) h4
   exact h5.fr (Ps := [_, _, _, _, _]) (R := R) fR_
  refine CT.fact (p := (vl.length ≤ vc ∧ vc ≤ maxLen) ∧ (rl.length ≤ rc ∧ rc ≤ maxLen)) (fun w h => ⟨⟨(Own.facts h .h).2.1, (Own.facts h .h).2.2⟩, ⟨(Own.facts h (.t .h)).2.1, (Own.facts h (.t .h)).2.2⟩⟩) (fun ⟨⟨hv1, hv2⟩, hr1, hr2⟩ => ?_)
  unfold maxLen at hv2 hr2
  skip
  refine CT.loop (α := Nat × List Value) (fun s => [(0, .slice a l.length c), (2, .int .i64 i), (3, .int .i64 s.1)])
   (fun s => Pu (s.1 ≤ vl.length ∧ s.2.length = vl.length * 2) :: Own va vc 111 2 vl.length s.2 :: Own ra rc 158 2 rl.length (rl.flatMap SpanT.cells) :: txH ⟨na, nc, nl⟩ :: Bag ((l.drop (i + 1)).flatMap eRows) :: Own a c 109 5 l.length us :: R) (fun s => vl.length - s.1) (0, vl.flatMap EValT.cells)
   ⟨rfl, rfl, rfl, trivial⟩ (fun w h => Sat.pu_in ⟨Nat.zero_le _, flat_len (f := EValT.cells) (z := 2) (fun _ => rfl) vl⟩ h) (fun ⟨k, vs⟩ => CT.pu fun ⟨hk, hvl⟩ => ?_)
  dsimp only at hk hvl ⊢
  try refine gL ?_
  refine RT.ix T (j := i * 5) rfl rfl rfl (Own.rd sE_ hul hnc) (by omega) (by omega) (by omega) rfl rfl ?_
  refine RT.faA T rfl rfl rfl rfl ?_
  refine RT.ldr (u := .slice va vl.length vc) T rfl (Own.rd sE_ hul hnc) (by exact hcell 1 (by omega)) rfl rfl rfl ?_
  repeat' (first|refine gL ?_|(refine gv ?_;(refine⟨fun hc=>?_,fun hc=>?_⟩<;>first|(exfalso;omega)|skip))|fail)
  ·refine RT.ix T (j := i * 5) rfl rfl rfl (Own.rd sE_ hul hnc) (by omega) (by omega) (by omega) rfl rfl ?_
   refine RT.faA T rfl rfl rfl rfl ?_
   refine RT.ldr (u := .slice va vl.length vc) T rfl (Own.rd sE_ hul hnc) (by exact hcell 1 (by omega)) rfl rfl rfl ?_
   try refine gL ?_
   refine RT.ix T (j := k * 2) rfl rfl rfl (Own.rd sE_ hvl hv1) (by omega) (by omega) (by omega) rfl rfl ?_
   refine RT.stoA T (v := [.string ⟨#[83, 80, 79, 73, 76, 84]⟩, .int .i32 9]) rfl rfl rfl (by ((repeat constructor);done)) (by simp only [List.length_cons, List.length_nil]; omega) (by decide) rfl rfl rfl ?_
   repeat' (first|refine gL ?_|(refine gv ?_;refine gk ?_)|fail)
   exact AtQ.loop (k + 1, vs.take (k * 2) ++ [.string ⟨#[83, 80, 79, 73, 76, 84]⟩, .int .i32 9] ++ vs.drop (k * 2 + 2)) ⟨rfl, rfl, rfl, trivial⟩ (fun w h => Sat.pu_in ⟨by omega, by simp; omega⟩ h) (by dsimp only; omega)
  refine CT.loop (α := Nat × List Value) (fun s => [(0, .slice a l.length c), (2, .int .i64 i), (4, .int .i64 s.1)])
   (fun s => Pu (s.1 ≤ rl.length ∧ s.2.length = rl.length * 2) :: Own va vc 111 2 vl.length vs :: Own ra rc 158 2 rl.length s.2 :: txH ⟨na, nc, nl⟩ :: Bag ((l.drop (i + 1)).flatMap eRows) :: Own a c 109 5 l.length us :: R) (fun s => rl.length - s.1) (0, rl.flatMap SpanT.cells)
   ⟨rfl, rfl, rfl, trivial⟩ (fun w h => Sat.pu_in ⟨Nat.zero_le _, flat_len (f := SpanT.cells) (z := 2) (fun _ => rfl) rl⟩ h) (fun ⟨j, rs⟩ => CT.pu fun ⟨hj, hrl⟩ => ?_)
  dsimp only at hj hrl ⊢
  try refine gL ?_
  refine RT.ix T (j := i * 5) rfl rfl rfl (Own.rd sE_ hul hnc) (by omega) (by omega) (by omega) rfl rfl ?_
  refine RT.faA T rfl rfl rfl rfl ?_
  refine RT.ldr (u := .slice ra rl.length rc) T rfl (Own.rd sE_ hul hnc) (by exact hcell 3 (by omega)) rfl rfl rfl ?_
  repeat' (first|refine gL ?_|(refine gv ?_;(refine⟨fun hc=>?_,fun hc=>?_⟩<;>first|(exfalso;omega)|skip))|fail)
  ·refine RT.ix T (j := i * 5) rfl rfl rfl (Own.rd sE_ hul hnc) (by omega) (by omega) (by omega) rfl rfl ?_
   refine RT.faA T rfl rfl rfl rfl ?_
   refine RT.ldr (u := .slice ra rl.length rc) T rfl (Own.rd sE_ hul hnc) (by exact hcell 3 (by omega)) rfl rfl rfl ?_
   try refine gL ?_
   refine RT.ix T (j := j * 2) rfl rfl rfl (Own.rd sE_ hrl hr1) (by omega) (by omega) (by omega) rfl rfl ?_
   refine RT.stoA T (v := [.int .i32 99, .int .i32 98]) rfl rfl rfl (by ((repeat constructor);done)) (by simp only [List.length_cons, List.length_nil]; omega) (by decide) rfl rfl rfl ?_
   repeat' (first|refine gL ?_|(refine gv ?_;refine gk ?_)|fail)
   exact AtQ.loop (j + 1, rs.take (j * 2) ++ [.int .i32 99, .int .i32 98] ++ rs.drop (j * 2 + 2)) ⟨rfl, rfl, rfl, trivial⟩ (fun w h => Sat.pu_in ⟨by omega, by simp; omega⟩ h) (by dsimp only; omega)
  refine RT.ix T (j := i * 5) rfl rfl rfl (Own.rd sE_ hul hnc) (by omega) (by omega) (by omega) rfl rfl ?_
  refine RT.faA T rfl rfl rfl rfl ?_
  refine RT.ldr (u := .slice na nl.length nc) T rfl (Own.rd sE_ hul hnc) (by exact hcell 4 (by omega)) rfl rfl rfl ?_
  skip
  refine RT.call T rfl fR_ (spoilT_fn (a := na) (n := nl.length) (m := nl.length + 2) (c := nc) (xs := tstr (nl ++ [own2, own2])) (by omega)) rfl rfl rfl ?_
  rintro _ _ ⟨rfl, rfl⟩
  simp only [List.cons_append, List.nil_append]
  try refine gL ?_
  refine RT.ix T (j := i * 5) rfl rfl rfl (Own.rd sE_ hul hnc) (by omega) (by omega) (by omega) rfl rfl ?_
  refine RT.faA T rfl rfl rfl rfl ?_
  refine RT.stoZ T (v := .string ⟨#[83, 112, 111, 105, 108, 116]⟩) rfl rfl rfl (by ((repeat constructor);done)) (by omega) rfl rfl ?_
  repeat' (first|refine gL ?_|(refine gv ?_;refine gk ?_)|fail)
  exact AtQ.loop (i + 1, us.set (i * 5 + 0) (.string ⟨#[83, 112, 111, 105, 108, 116]⟩)) ⟨rfl, rfl, trivial⟩ (fun w h => Sat.pu_in ⟨by omega, by simp; omega, fun j e hj he q hq => by
   dsimp only
   rw [List.getElem?_set_ne (by omega)]
   exact hus j e (by dsimp only at hj; omega) he q hq⟩ (h.frd (Ps := [Own a c 109 5 l.length (us.set (i * 5 + 0) (.string ⟨#[83, 112, 111, 105, 108, 116]⟩)), Bag ((l.drop (i + 1)).flatMap eRows)]) (Qs := [_, _]) (R := R) fR_)) (by dsimp only; omega)
 ·exact AtQ.f0 (HH := []) Tryz.results49 (fun w h => h.tail.tail) (by first | exact .inl rfl | exact .inr rfl)
end Go.Proofs.YtdemnhdoadjhhaaGreatDoor
end
section
namespace Go.Proofs.YtdemnhdoadjhhaaGreatDoor
open Go.Sk
set_option maxRecDepth 100000
def spF : List Value := FieldT.cells ⟨[115, 112, 111, 105, 108, 116], 0, 0, 0, [], 0, 0, 0, []⟩
theorem spF_len : spF.length = 9 := rfl
attribute [local irreducible] Cs Own Ex Pu Yld RT LJ QJ AtQ CT Rd QSp Sp FinQ Then LoopQ CutQ DT TakeQ EffQ
variable {B : World}
set_option maxHeartbeats 16000000 in
theorem spoilM_fn (d : Nat) : ∀ {R : List HP} {a : Option Addr} {c : Nat} {l : List MsgT}, MsgT.deepL l ≤ d →
  Sp B Tryz.prog 48 [.slice a l.length c] R [rowH 72 7 MsgT.cells lentM a c l, Bag (l.flatMap mRows)] (fun v H' => v = .tuple #[] ∧ H' = []) := by
 induction d using Nat.strongRecOn with
 | _ d ih =>
 intro R a c l hd
 refine Sp.weak (Pre' := [Own a c 72 7 l.length (l.flatMap MsgT.cells), Bag (l.flatMap mRows)]) (fun w h => Own.bare (f := MsgT.cells) (z := 7) (fun _ => rfl) h) ?_
 refine Sp.fact (p := l.length ≤ c ∧ c ≤ maxLen) (fun w h => ⟨(Own.facts h .h).2.1, (Own.facts h .h).2.2⟩) (fun ⟨hnc, hcm⟩ => ?_)
 unfold maxLen at hcm
 refine Sp.body Tryz.func48 rfl Tryz.ntmps48 (by simp) ?_
 simp only [argE, List.cons_append, List.nil_append, Nat.zero_add, Nat.reduceAdd]
 try refine gL ?_
 refine CT.loop (α := Nat × List Value) (fun s => [(0, .slice a l.length c), (2, .int .i64 s.1)])
  (fun s => Pu (s.1 ≤ l.length ∧ s.2.length = l.length * 7 ∧ ∀ j e, s.1 ≤ j → l[j]? = some e → ∀ q, q < 7 → s.2[j * 7 + q]? = e.cells[q]?) :: Own a c 72 7 l.length s.2 :: Bag ((l.drop s.1).flatMap mRows) :: R) (fun s => l.length - s.1) (0, l.flatMap MsgT.cells)
  ⟨rfl, rfl, trivial⟩ (fun w h => Sat.pu_in ⟨Nat.zero_le _, flat_len (f := MsgT.cells) (z := 7) (fun _ => rfl) l, fun j e _ he q hq => flat_get (f := MsgT.cells) (z := 7) (fun _ => rfl) he hq⟩ h) (fun ⟨i, us⟩ => CT.pu fun ⟨hi, hul, hus⟩ => ?_)
 dsimp only at hi hul hus ⊢
 repeat' (first|refine gL ?_|(refine gv ?_;(refine⟨fun hc=>?_,fun hc=>?_⟩<;>first|(exfalso;omega)|skip))|fail)
 ·have hil : i < l.length := by omega
  have hgi := List.getElem?_eq_getElem hil
  have hdr := List.drop_eq_getElem_cons hil
  revert hgi hdr
  generalize l[i] = m
  intro hgi hdr
  have hcell : ∀ q, q < 7 → us[i * 7 + q]? = m.cells[q]? := hus i m (Nat.le_refl _) hgi
  have hmd := Nat.le_trans (MsgT.deep_mem (List.mem_of_getElem? hgi)) hd
  obtain ⟨nm, ⟨fa, fc, fl⟩, ⟨oa, oc, ol⟩, ma, mc, msgs, ⟨ea, ec, el⟩, ⟨ra, rc, rl⟩, ⟨na, nc, nl⟩⟩ := m
  unfold MsgT.deep at hmd
  have hmr : mRows (.mk nm ⟨fa, fc, fl⟩ ⟨oa, oc, ol⟩ ma mc msgs ⟨ea, ec, el⟩ ⟨ra, rc, rl⟩ ⟨na, nc, nl⟩) = [rowH 87 9 FieldT.cells lentF fa fc fl, rowH 158 2 SpanT.cells lentSp ra rc rl, txH ⟨oa, oc, ol⟩, txH ⟨na, nc, nl⟩,
    rowH 72 7 MsgT.cells lentM ma mc msgs, Bag (msgs.flatMap mRows), rowH 109 5 EnumT.cells lentE ea ec el, Bag (el.flatMap eRows)] := by
   unfold mRows; rw [mRowsL_flat]
  refine CT.weak (H' := Own fa fc 87 9 fl.length (fl.flatMap FieldT.cells) :: Own ra rc 158 2 rl.length (rl.flatMap SpanT.cells) :: txH ⟨oa, oc, ol⟩ :: txH ⟨na, nc, nl⟩ :: rowH 72 7 MsgT.cells lentM ma mc msgs :: Bag (msgs.flatMap mRows) :: rowH 109 5 EnumT.cells lentE ea ec el :: Bag (el.flatMap eRows) :: Bag ((l.drop (i + 1)).flatMap mRows) :: Own a c 72 7 l.length us :: R) (fun w h => ?_) ?_
  ·rw [hdr, List.flatMap_cons, hmr] at h
   have h1 := h.fr (Ps := [Bag _, Own a c 72 7 l.length us]) (R := R) fR_
   have h2 := Bag.split h1
   have h3 := Own.bare (f := FieldT.cells) (z := 9) (fun _ => rfl) h2
   have h4 := h3.fr (Ps := [rowH 158 2 SpanT.cells lentSp ra rc rl]) (R := Own fa fc 87 9 fl.length (fl.flatMap FieldT.cells) :: txH ⟨oa, oc, ol⟩ :: txH ⟨na, nc, nl⟩ :: rowH 72 7 MsgT.cells lentM ma mc msgs :: Bag (msgs.flatMap mRows) :: rowH 109 5 EnumT.cells lentE ea ec el :: Bag (el.flatMap eRows) :: Bag ((l.drop (i + 1)).flatMap mRows) :: Own a c 72 7 l.length us :: R) fR_
   have h5 := Own.bare (f := SpanT.cells) (z := 2) (fun _ => rfl) h4
   exact h5.fr (Ps := [Own fa fc 87 9 fl.length (fl.flatMap FieldT.cells)]) (R := Own ra rc 158 2 rl.length (rl.flatMap SpanT.cells) :: txH ⟨oa, oc, ol⟩ :: txH ⟨na, nc, nl⟩ :: rowH 72 7 MsgT.cells lentM ma mc msgs :: Bag (msgs.flatMap mRows) :: rowH 109 5 EnumT.cells lentE ea ec el :: Bag (el.flatMap eRows) :: Bag ((l.drop (i + 1)).flatMap mRows) :: Own a c 72 7 l.length us :: R) fR_
  refine CT.fact (p := (fl.length ≤ fc ∧ fc ≤ maxLen) ∧ (rl.length ≤ rc ∧ rc ≤ maxLen)) (fun w h => ⟨⟨(Own.facts h .h).2.1, (Own.facts h .h).2.2⟩, ⟨(Own.facts h (.t .h)).2.1, (Own.facts h (.t .h)).2.2⟩⟩) (fun ⟨⟨hv1, hv2⟩, hr1, hr2⟩ => ?_)
  unfold maxLen at hv2 hr2
  skip
  refine CT.loop (α := Nat × List Value) (fun s => [(0, .slice a l.length c), (2, .int .i64 i), (3, .int .i64 s.1)])
   (fun s => Pu (s.1 ≤ fl.length ∧ s.2.length = fl.length * 9) :: Own fa fc 87 9 fl.length s.2 :: Own ra rc 158 2 rl.length (rl.flatMap SpanT.cells) :: txH ⟨oa, oc, ol⟩ :: txH ⟨na, nc, nl⟩ :: rowH 72 7 MsgT.cells lentM ma mc msgs :: Bag (msgs.flatMap mRows) :: rowH 109 5 EnumT.cells lentE ea ec el :: Bag (el.flatMap eRows) :: Bag ((l.drop (i + 1)).flatMap mRows) :: Own a c 72 7 l.length us :: R) (fun s => fl.length - s.1) (0, fl.flatMap FieldT.cells)
   ⟨rfl, rfl, rfl, trivial⟩ (fun w h => Sat.pu_in ⟨Nat.zero_le _, flat_len (f := FieldT.cells) (z := 9) (fun _ => rfl) fl⟩ h) (fun ⟨k, vs⟩ => CT.pu fun ⟨hk, hvl⟩ => ?_)
  dsimp only at hk hvl ⊢
  try refine gL ?_
  refine RT.ix T (j := i * 7) rfl rfl rfl (Own.rd sE_ hul hnc) (by omega) (by omega) (by omega) rfl rfl ?_
  refine RT.faA T rfl rfl rfl rfl ?_
  refine RT.ldr (u := .slice fa fl.length fc) T rfl (Own.rd sE_ hul hnc) (by exact hcell 1 (by omega)) rfl rfl rfl ?_
  repeat' (first|refine gL ?_|(refine gv ?_;(refine⟨fun hc=>?_,fun hc=>?_⟩<;>first|(exfalso;omega)|skip))|fail)
  ·refine RT.ix T (j := i * 7) rfl rfl rfl (Own.rd sE_ hul hnc) (by omega) (by omega) (by omega) rfl rfl ?_
   refine RT.faA T rfl rfl rfl rfl ?_
   refine RT.ldr (u := .slice fa fl.length fc) T rfl (Own.rd sE_ hul hnc) (by exact hcell 1 (by omega)) rfl rfl rfl ?_
   try refine gL ?_
   refine RT.ix T (j := k * 9) rfl rfl rfl (Own.rd sE_ hvl hv1) (by omega) (by omega) (by omega) rfl rfl ?_
   refine RT.stoA T (v := spF) rfl rfl rfl (by ((repeat constructor);done)) (by rw [spF_len]; omega) (by decide) rfl rfl rfl ?_
   repeat' (first|refine gL ?_|(refine gv ?_;refine gk ?_)|fail)
   exact AtQ.loop (k + 1, vs.take (k * 9) ++ spF ++ vs.drop (k * 9 + spF.length)) ⟨rfl, rfl, rfl, trivial⟩ (fun w h => Sat.pu_in ⟨by omega, by simp [spF_len]; omega⟩ h) (by dsimp only; omega)
  refine RT.ix T (j := i * 7) rfl rfl rfl (Own.rd sE_ hul hnc) (by omega) (by omega) (by omega) rfl rfl ?_
  refine RT.faA T rfl rfl rfl rfl ?_
  refine RT.ldr (u := .slice oa ol.length oc) T rfl (Own.rd sE_ hul hnc) (by exact hcell 2 (by omega)) rfl rfl rfl ?_
  skip
  refine RT.call T rfl fR_ (spoilT_fn (a := oa) (n := ol.length) (m := ol.length + 2) (c := oc) (xs := tstr (ol ++ [own2, own2])) (by omega)) rfl rfl rfl ?_
  rintro _ _ ⟨rfl, rfl⟩
  simp only [List.cons_append, List.nil_append]
  try refine gL ?_
  refine RT.ix T (j := i * 7) rfl rfl rfl (Own.rd sE_ hul hnc) (by omega) (by omega) (by omega) rfl rfl ?_
  refine RT.faA T rfl rfl rfl rfl ?_
  refine RT.ldr (u := .slice na nl.length nc) T rfl (Own.rd sE_ hul hnc) (by exact hcell 6 (by omega)) rfl rfl rfl ?_
  skip
  refine RT.call T rfl fR_ (spoilT_fn (a := na) (n := nl.length) (m := nl.length + 2) (c := nc) (xs := tstr (nl ++ [own2, own2])) (by omega)) rfl rfl rfl ?_
  rintro _ _ ⟨rfl, rfl⟩
  simp only [List.cons_append, List.nil_append]
  try refine gL ?_
  refine CT.loop (α := Nat × List Value) (fun s => [(0, .slice a l.length c), (2, .int .i64 i), (4, .int .i64 s.1)])
   (fun s => Pu (s.1 ≤ rl.length ∧ s.2.length = rl.length * 2) :: Own fa fc 87 9 fl.length vs :: Own ra rc 158 2 rl.length s.2 :: rowH 72 7 MsgT.cells lentM ma mc msgs :: Bag (msgs.flatMap mRows) :: rowH 109 5 EnumT.cells lentE ea ec el :: Bag (el.flatMap eRows) :: Bag ((l.drop (i + 1)).flatMap mRows) :: Own a c 72 7 l.length us :: R) (fun s => rl.length - s.1) (0, rl.flatMap SpanT.cells)
   ⟨rfl, rfl, rfl, trivial⟩ (fun w h => Sat.pu_in ⟨Nat.zero_le _, flat_len (f := SpanT.cells) (z := 2) (fun _ => rfl) rl⟩ h) (fun ⟨j, rs⟩ => CT.pu fun ⟨hj, hrl⟩ => ?_)
  dsimp only at hj hrl ⊢
  try refine gL ?_
  refine RT.ix T (j := i * 7) rfl rfl rfl (Own.rd sE_ hul hnc) (by omega) (by omega) (by omega) rfl rfl ?_
  refine RT.faA T rfl rfl rfl rfl ?_
  refine RT.ldr (u := .slice ra rl.length rc) T rfl (Own.rd sE_ hul hnc) (by exact hcell 5 (by omega)) rfl rfl rfl ?_
  repeat' (first|refine gL ?_|(refine gv ?_;(refine⟨fun hc=>?_,fun hc=>?_⟩<;>first|(exfalso;omega)|skip))|fail)
  ·refine RT.ix T (j := i * 7) rfl rfl rfl (Own.rd sE_ hul hnc) (by omega) (by omega) (by omega) rfl rfl ?_
   refine RT.faA T rfl rfl rfl rfl ?_
   refine RT.ldr (u := .slice ra rl.length rc) T rfl (Own.rd sE_ hul hnc) (by exact hcell 5 (by omega)) rfl rfl rfl ?_
   try refine gL ?_
   refine RT.ix T (j := j * 2) rfl rfl rfl (Own.rd sE_ hrl hr1) (by omega) (by omega) (by omega) rfl rfl ?_
   refine RT.stoA T (v := [.int .i32 99, .int .i32 98]) rfl rfl rfl (by ((repeat constructor);done)) (by simp only [List.length_cons, List.length_nil]; omega) (by decide) rfl rfl rfl ?_
   repeat' (first|refine gL ?_|(refine gv ?_;refine gk ?_)|fail)
   exact AtQ.loop (j + 1, rs.take (j * 2) ++ [.int .i32 99, .int .i32 98] ++ rs.drop (j * 2 + 2)) ⟨rfl, rfl, rfl, trivial⟩ (fun w h => Sat.pu_in ⟨by omega, by simp; omega⟩ h) (by dsimp only; omega)
  refine RT.ix T (j := i * 7) rfl rfl rfl (Own.rd sE_ hul hnc) (by omega) (by omega) (by omega) rfl rfl ?_
  refine RT.faA T rfl rfl rfl rfl ?_
  refine RT.ldr (u := .slice ma msgs.length mc) T rfl (Own.rd sE_ hul hnc) (by exact hcell 3 (by omega)) rfl rfl rfl ?_
  skip
  refine RT.call T rfl fR_ (ih (MsgT.deepL msgs) (by omega) (a := ma) (c := mc) (l := msgs) (Nat.le_refl _)) rfl rfl rfl ?_
  rintro _ _ ⟨rfl, rfl⟩
  simp only [List.cons_append, List.nil_append]
  try refine gL ?_
  refine RT.ix T (j := i * 7) rfl rfl rfl (Own.rd sE_ hul hnc) (by omega) (by omega) (by omega) rfl rfl ?_
  refine RT.faA T rfl rfl rfl rfl ?_
  refine RT.ldr (u := .slice ea el.length ec) T rfl (Own.rd sE_ hul hnc) (by exact hcell 4 (by omega)) rfl rfl rfl ?_
  skip
  refine RT.call T rfl fR_ (spoilE_fn (a := ea) (c := ec) (l := el)) rfl rfl rfl ?_
  rintro _ _ ⟨rfl, rfl⟩
  simp only [List.cons_append, List.nil_append]
  try refine gL ?_
  refine RT.ix T (j := i * 7) rfl rfl rfl (Own.rd sE_ hul hnc) (by omega) (by omega) (by omega) rfl rfl ?_
  refine RT.faA T rfl rfl rfl rfl ?_
  refine RT.stoZ T (v := .string ⟨#[83, 112, 111, 105, 108, 116]⟩) rfl rfl rfl (by ((repeat constructor);done)) (by omega) rfl rfl ?_
  repeat' (first|refine gL ?_|(refine gv ?_;refine gk ?_)|fail)
  exact AtQ.loop (i + 1, us.set (i * 7 + 0) (.string ⟨#[83, 112, 111, 105, 108, 116]⟩)) ⟨rfl, rfl, trivial⟩ (fun w h => Sat.pu_in ⟨by omega, by simp; omega, fun j e hj he q hq => by
   dsimp only
   rw [List.getElem?_set_ne (by omega)]
   exact hus j e (by dsimp only at hj; omega) he q hq⟩ (h.frd (Ps := [Own a c 72 7 l.length (us.set (i * 7 + 0) (.string ⟨#[83, 112, 111, 105, 108, 116]⟩)), Bag ((l.drop (i + 1)).flatMap mRows)]) (Qs := [_, _]) (R := R) fR_)) (by dsimp only; omega)
 ·exact AtQ.f0 (HH := []) Tryz.results48 (fun w h => h.tail.tail) (by first | exact .inl rfl | exact .inr rfl)
end Go.Proofs.YtdemnhdoadjhhaaGreatDoor
end
section
namespace Go.Proofs.YtdemnhdoadjhhaaGreatDoor
open Go.Sk
set_option maxRecDepth 100000
attribute [local irreducible] Cs Own Ex Pu Yld RT LJ QJ AtQ CT Rd QSp Sp FinQ Then LoopQ CutQ DT TakeQ EffQ
variable {B : World} {R : List HP}
set_option maxHeartbeats 8000000 in
theorem spoilF_fn {a : Option Addr} {c : Nat} {l : List FileT} :
  Sp B Tryz.prog 14 [.slice a l.length c] R [rowH 26 5 FileT.cells lentFl a c l, Bag (l.flatMap fRows)] (fun v H' => v = .tuple #[] ∧ H' = []) := by
 refine Sp.weak (Pre' := [Own a c 26 5 l.length (l.flatMap FileT.cells), Bag (l.flatMap fRows)]) (fun w h => Own.bare (f := FileT.cells) (z := 5) (fun _ => rfl) h) ?_
 refine Sp.fact (p := l.length ≤ c ∧ c ≤ maxLen) (fun w h => ⟨(Own.facts h .h).2.1, (Own.facts h .h).2.2⟩) (fun ⟨hnc, hcm⟩ => ?_)
 unfold maxLen at hcm
 refine Sp.body Tryz.func14 rfl Tryz.ntmps14 (by simp) ?_
 simp only [argE, List.cons_append, List.nil_append, Nat.zero_add, Nat.reduceAdd]
 try refine gL ?_
 refine CT.loop (α := Nat × List Value) (fun s => [(0, .slice a l.length c), (2, .int .i64 s.1)])
  (fun s => Pu (s.1 ≤ l.length ∧ s.2.length = l.length * 5 ∧ ∀ j e, s.1 ≤ j → l[j]? = some e → ∀ q, q < 5 → s.2[j * 5 + q]? = e.cells[q]?) :: Own a c 26 5 l.length s.2 :: Bag ((l.drop s.1).flatMap fRows) :: R) (fun s => l.length - s.1) (0, l.flatMap FileT.cells)
  ⟨rfl, rfl, trivial⟩ (fun w h => Sat.pu_in ⟨Nat.zero_le _, flat_len (f := FileT.cells) (z := 5) (fun _ => rfl) l, fun j e _ he q hq => flat_get (f := FileT.cells) (z := 5) (fun _ => rfl) he hq⟩ h) (fun ⟨i, us⟩ => CT.pu fun ⟨hi, hul, hus⟩ => ?_)
 dsimp only at hi hul hus ⊢
 repeat' (first|refine gL ?_|(refine gv ?_;(refine⟨fun hc=>?_,fun hc=>?_⟩<;>first|(exfalso;omega)|skip))|fail)
 ·have hil : i < l.length := by omega
  have hgi := List.getElem?_eq_getElem hil
  have hdr := List.drop_eq_getElem_cons hil
  revert hgi hdr
  generalize l[i] = f
  intro hgi hdr
  have hcell : ∀ q, q < 5 → us[i * 5 + q]? = f.cells[q]? := hus i f (Nat.le_refl _) hgi
  obtain ⟨p, pk, ⟨ia, ic, il⟩, ma, mc, msgs, ⟨ea, ec, el⟩⟩ := f
  refine CT.weak (H' := Own ia ic 94 2 il.length (il.flatMap ImpT.cells) :: rowH 72 7 MsgT.cells lentM ma mc msgs :: Bag (msgs.flatMap mRows) :: rowH 109 5 EnumT.cells lentE ea ec el :: Bag (el.flatMap eRows) :: Bag ((l.drop (i + 1)).flatMap fRows) :: Own a c 26 5 l.length us :: R) (fun w h => ?_) ?_
  ·rw [hdr, List.flatMap_cons] at h
   have h1 := h.fr (Ps := [Bag _, Own a c 26 5 l.length us]) (R := R) fR_
   have h2 := Bag.split h1
   exact Own.bare (f := ImpT.cells) (z := 2) (fun _ => rfl) h2
  refine CT.fact (p := il.length ≤ ic ∧ ic ≤ maxLen) (fun w h => ⟨(Own.facts h .h).2.1, (Own.facts h .h).2.2⟩) (fun ⟨hv1, hv2⟩ => ?_)
  unfold maxLen at hv2
  skip
  refine CT.loop (α := Nat × List Value) (fun s => [(0, .slice a l.length c), (2, .int .i64 i), (3, .int .i64 s.1)])
   (fun s => Pu (s.1 ≤ il.length ∧ s.2.length = il.length * 2) :: Own ia ic 94 2 il.length s.2 :: rowH 72 7 MsgT.cells lentM ma mc msgs :: Bag (msgs.flatMap mRows) :: rowH 109 5 EnumT.cells lentE ea ec el :: Bag (el.flatMap eRows) :: Bag ((l.drop (i + 1)).flatMap fRows) :: Own a c 26 5 l.length us :: R) (fun s => il.length - s.1) (0, il.flatMap ImpT.cells)
   ⟨rfl, rfl, rfl, trivial⟩ (fun w h => Sat.pu_in ⟨Nat.zero_le _, flat_len (f := ImpT.cells) (z := 2) (fun _ => rfl) il⟩ h) (fun ⟨k, vs⟩ => CT.pu fun ⟨hk, hvl⟩ => ?_)
  dsimp only at hk hvl ⊢
  try refine gL ?_
  refine RT.ix T (j := i * 5) rfl rfl rfl (Own.rd sE_ hul hnc) (by omega) (by omega) (by omega) rfl rfl ?_
  refine RT.faA T rfl rfl rfl rfl ?_
  refine RT.ldr (u := .slice ia il.length ic) T rfl (Own.rd sE_ hul hnc) (by exact hcell 2 (by omega)) rfl rfl rfl ?_
  repeat' (first|refine gL ?_|(refine gv ?_;(refine⟨fun hc=>?_,fun hc=>?_⟩<;>first|(exfalso;omega)|skip))|fail)
  ·refine RT.ix T (j := i * 5) rfl rfl rfl (Own.rd sE_ hul hnc) (by omega) (by omega) (by omega) rfl rfl ?_
   refine RT.faA T rfl rfl rfl rfl ?_
   refine RT.ldr (u := .slice ia il.length ic) T rfl (Own.rd sE_ hul hnc) (by exact hcell 2 (by omega)) rfl rfl rfl ?_
   try refine gL ?_
   refine RT.ix T (j := k * 2) rfl rfl rfl (Own.rd sE_ hvl hv1) (by omega) (by omega) (by omega) rfl rfl ?_
   refine RT.stoA T (v := [.string ⟨#[115, 112, 111, 105, 108, 116]⟩, .bool false]) rfl rfl rfl (by ((repeat constructor);done)) (by simp only [List.length_cons, List.length_nil]; omega) (by decide) rfl rfl rfl ?_
   repeat' (first|refine gL ?_|(refine gv ?_;refine gk ?_)|fail)
   exact AtQ.loop (k + 1, vs.take (k * 2) ++ [.string ⟨#[115, 112, 111, 105, 108, 116]⟩, .bool false] ++ vs.drop (k * 2 + 2)) ⟨rfl, rfl, rfl, trivial⟩ (fun w h => Sat.pu_in ⟨by omega, by simp; omega⟩ h) (by dsimp only; omega)
  refine RT.ix T (j := i * 5) rfl rfl rfl (Own.rd sE_ hul hnc) (by omega) (by omega) (by omega) rfl rfl ?_
  refine RT.faA T rfl rfl rfl rfl ?_
  refine RT.ldr (u := .slice ma msgs.length mc) T rfl (Own.rd sE_ hul hnc) (by exact hcell 3 (by omega)) rfl rfl rfl ?_
  skip
  refine RT.call T rfl fR_ (spoilM_fn _ (a := ma) (c := mc) (l := msgs) (Nat.le_refl _)) rfl rfl rfl ?_
  rintro _ _ ⟨rfl, rfl⟩
  simp only [List.cons_append, List.nil_append]
  try refine gL ?_
  refine RT.ix T (j := i * 5) rfl rfl rfl (Own.rd sE_ hul hnc) (by omega) (by omega) (by omega) rfl rfl ?_
  refine RT.faA T rfl rfl rfl rfl ?_
  refine RT.ldr (u := .slice ea el.length ec) T rfl (Own.rd sE_ hul hnc) (by exact hcell 4 (by omega)) rfl rfl rfl ?_
  skip
  refine RT.call T rfl fR_ (spoilE_fn (a := ea) (c := ec) (l := el)) rfl rfl rfl ?_
  rintro _ _ ⟨rfl, rfl⟩
  simp only [List.cons_append, List.nil_append]
  try refine gL ?_
  refine RT.ix T (j := i * 5) rfl rfl rfl (Own.rd sE_ hul hnc) (by omega) (by omega) (by omega) rfl rfl ?_
  refine RT.faA T rfl rfl rfl rfl ?_
  refine RT.stoZ T (v := .string ⟨#[115, 112, 111, 105, 108, 116]⟩) rfl rfl rfl (by ((repeat constructor);done)) (by omega) rfl rfl ?_
  try refine gL ?_
  refine RT.ix T (j := i * 5) rfl rfl rfl (Own.rd sE_ (by simp; omega) hnc) (by omega) (by omega) (by omega) rfl rfl ?_
  refine RT.faA T rfl rfl rfl rfl ?_
  refine RT.stoZ T (v := .string ⟨#[115, 112, 111, 105, 108, 116, 46, 115, 112, 111, 105, 108, 116]⟩) rfl rfl rfl (by ((repeat constructor);done)) (by simp; omega) rfl rfl ?_
  repeat' (first|refine gL ?_|(refine gv ?_;refine gk ?_)|fail)
  exact AtQ.loop (i + 1, ((us.set (i * 5 + 0) (.string ⟨#[115, 112, 111, 105, 108, 116]⟩)).set (i * 5 + 1) (.string ⟨#[115, 112, 111, 105, 108, 116, 46, 115, 112, 111, 105, 108, 116]⟩))) ⟨rfl, rfl, trivial⟩ (fun w h => Sat.pu_in ⟨by omega, by simp; omega, fun j e hj he q hq => by
   dsimp only at hj ⊢
   rw [List.getElem?_set_ne (by omega), List.getElem?_set_ne (by omega)]
   exact hus j e (by omega) he q hq⟩ (h.frd (Ps := [Own a c 26 5 l.length ((us.set (i * 5 + 0) (.string ⟨#[115, 112, 111, 105, 108, 116]⟩)).set (i * 5 + 1) (.string ⟨#[115, 112, 111, 105, 108, 116, 46, 115, 112, 111, 105, 108, 116]⟩)), Bag ((l.drop (i + 1)).flatMap fRows)]) (Qs := [_]) (R := R) fR_)) (by dsimp only; omega)
 ·exact AtQ.f0 (HH := []) Tryz.results14 (fun w h => h.tail.tail) (by first | exact .inl rfl | exact .inr rfl)
end Go.Proofs.YtdemnhdoadjhhaaGreatDoor
end
section
namespace Go.Proofs.YtdemnhdoadjhhaaGreatDoor
open Go.Sk
set_option maxRecDepth 100000
attribute [local irreducible] Cs Own Ex Pu Yld RT LJ QJ AtQ CT Rd QSp Sp FinQ Then LoopQ CutQ DT TakeQ EffQ
variable {B : World} {R : List HP}
abbrev ptr (b : Nat) : Value := .pointer (some ⟨b, 0, none⟩)
/-- The builder's two cells. -/
abbrev bdr (b : Nat) (p a : Option Addr) (k c : Nat) : HP := Cs b 234 [.pointer p, .slice a k c]
abbrev own8 (a : Option Addr) (c : Nat) (l : List Int) : HP := Own a c 5 1 l.length (ints .u8 l)
def okP (b : Nat) (p : Option Addr) : Prop := p = none ∨ p = some ⟨b, 0, none⟩
structure BA where
 p : Option Addr
 a : Option Addr
 c : Nat
def Bd (b : Nat) (l : List Int) : HP := Ex fun x : BA => [Pu (okP b x.p), bdr b x.p x.a l.length x.c, own8 x.a x.c l]
theorem CT.bd {n : Fm} {b : Nat} {c : Code} {E : Env} {H : List HP} {Q : Exit → Act → World → Prop} {l : List Int} (h : ∀ x : BA, okP b x.p → CT B Tryz.prog n c E (bdr b x.p x.a l.length x.c :: own8 x.a x.c l :: H) Q) :
  CT B Tryz.prog n c E (Bd b l :: H) Q := CT.ex fun x => CT.pu fun hp => h x hp
theorem Bd.in_ {b : Nat} {l : List Int} {H : List HP} {w : World} (x : BA) (hp : okP b x.p) (h : Sat B (bdr b x.p x.a l.length x.c :: own8 x.a x.c l :: H) w) : Sat B (Bd b l :: H) w :=
 Sat.ex_in (f := fun x : BA => [Pu (okP b x.p), bdr b x.p x.a l.length x.c, own8 x.a x.c l]) x (Sat.pu_in hp h)
attribute [local irreducible] Bd
theorem check_fn {b : Nat} {p : Option Addr} {s : Value} (hp : okP b p) : Sp B Tryz.prog 155 [ptr b] R [Cs b 234 [.pointer p, s]] (fun u H' => u = .tuple #[] ∧ H' = [Cs b 234 [ptr b, s]]) := by
 unfold Sp
 intro w hS
 have hb := (hS.cs (.h)).1
 have h0 : w.cell? ⟨b, 0, none⟩ = some (.pointer p) := by simp [World.cell?, hb]
 rcases hp with rfl | rfl
 ·refine (Any.Builder_copyCheck_fresh (ρ := Tryz.lays165_ren) { Tryz.lays165 with } Tryz.Builder_Extra_165.toX72 b w h0 (by simp [World.shape?, hb]; rfl) (by simp [World.frozen?, hb])).mono fun e w' ⟨he, hw⟩ => ?_
  subst hw
  exact ⟨_, _, he, ⟨rfl, rfl⟩, hS.setCs (off := 0) .h⟩
 ·refine (Any.Builder_copyCheck_used (ρ := Tryz.lays165_ren) { Tryz.lays165 with } Tryz.Builder_Extra_165.toX72 b w h0).mono fun e w' ⟨he, hw⟩ => ?_
  subst hw
  exact ⟨_, _, he, ⟨rfl, rfl⟩, hS⟩
theorem Bd.put {b c : Nat} {a : Option Addr} {l' : List Int} {k : Nat} {w : World} {H : List HP} (h : Sat B H w) (f : Fr H [Cs b 234 [ptr b, .slice a k c], Own a c 5 1 k (ints .u8 l')] R) (hk : l'.length = k) : Sat B (Bd b l' :: R) w := by
 subst hk
 exact Bd.in_ ⟨_, a, c⟩ (.inr rfl) (h.fr f)
theorem byte_fn {b : Nat} {l : List Int} {x : Int} (hl : l.length + 1 ≤ 140737488355328) :
  Sp B Tryz.prog 175 [ptr b, .int .u8 x] R [Bd b l] (fun u H' => u = .nilIface ∧ H' = [Bd b (l ++ [x])]) := by
 refine Sp.body Tryz.func175 rfl Tryz.ntmps175 (by simp) ?_
 simp only [argE, List.cons_append, List.nil_append, Nat.zero_add, Nat.reduceAdd]
 refine CT.bd fun z hz => ?_
 try refine gL ?_
 (refine RT.call T rfl fR_ (check_fn hz) rfl rfl rfl ?_; rintro _ _ ⟨rfl, rfl⟩; try simp only [List.cons_append, List.nil_append])
 repeat' (first|refine gL ?_|(refine RT.isPush ?_;refine gp ?_;intro a' c' b' c1' hac)|fail)
 exact AtQ.f1 Tryz.results175 rfl rfl (fun w h => Bd.put h fR_ (by simp))
theorem text_fn {b : Nat} {l l' : List Int} (hb : Byt l') (hl : l.length + l'.length ≤ 140737488355328) :
  Sp B Tryz.prog 126 [ptr b, .string (str l')] R [Bd b l] (fun u H' => u = .tuple #[.int .i64 l'.length, .nilIface] ∧ H' = [Bd b (l ++ l')]) := by
 refine Sp.body Tryz.func126 rfl Tryz.ntmps126 (by simp) ?_
 simp only [argE, List.cons_append, List.nil_append, Nat.zero_add, Nat.reduceAdd]
 refine CT.bd fun z hz => ?_
 try refine gL ?_
 (refine RT.call T rfl fR_ (check_fn hz) rfl rfl rfl ?_; rintro _ _ ⟨rfl, rfl⟩; try simp only [List.cons_append, List.nil_append])
 try refine gL ?_
 refine RT.appS T (l := l) (l' := l') rfl rfl hb rfl rfl (fun a' c' => by ((repeat constructor);done)) (by omega) rfl rfl rfl (fun a' c' hac => ?_)
 try refine gL ?_
 exact AtQ.f2 Tryz.results126 rfl rfl rfl rfl (fun w h => Bd.put h fR_ (by simp))
theorem bstr_fn {b : Nat} {l : List Int} (hb : Byt l) : Sp B Tryz.prog 127 [ptr b] R [Bd b l] (fun u H' => u = .string (str l) ∧ H' = []) := by
 refine Sp.body Tryz.func127 rfl Tryz.ntmps127 (by simp) ?_
 simp only [argE, List.cons_append, List.nil_append, Nat.zero_add, Nat.reduceAdd]
 refine CT.bd fun z hz => ?_
 try refine gR ?_
 first | (refine CT.region ?_) | (refine CT.quiet mixed (by kernel_rfl) ?_)
 try refine gR ?_
 refine CT.drawn [bdr b z.p z.a l.length z.c] 10 mixed ?_
 (refine DT.takes (k := 3) [0, 1, 2, 3, 5, 6, 7, 8, 9] [4, 10] (fun w h => Sat.ones (by (repeat (first|exact Fr.nil|(apply Fr.cons;focus ((repeat constructor);done))))) h) (by kernel_rfl) (by kernel_rfl) (by kernel_rfl) rfl (Clos.ofB (by kernel_rfl)) ?_)
 try refine gL ?_
 refine AtQ.take ?_
 (refine DT.eff 4 rfl (by kernel_rfl) ?_)
 refine RT.usd (by rfl) sE_ Tryz.underlying251 rfl rfl (fun q hq => ?_)
 (refine RT.nil ?_; refine AtQ.eff (fun w h => Sat.ones fR_ h) ?_)
 (refine DT.eff 10 rfl (by kernel_rfl) ?_)
 refine RT.ust rfl rfl hq hb (by ((repeat constructor);done)) Tryz.underlying251 (by kernel_rfl) rfl rfl ?_
 (refine RT.nil ?_; refine AtQ.eff' (by kernel_rfl) ?_)
 (refine DT.eff 11 rfl (by kernel_rfl) ?_)
 try refine gL ?_
 refine AtQ.eff' (by kernel_rfl) ?_
 (refine DT.done (by kernel_rfl) ?_)
 try refine gL ?_
 exact AtQ.f1 Tryz.results127 rfl rfl (fun w h => h.tail.tail)
end Go.Proofs.YtdemnhdoadjhhaaGreatDoor
end
section
namespace Go.Proofs.YtdemnhdoadjhhaaGreatDoor
open Go.Sk
set_option maxRecDepth 100000
attribute [local irreducible] Cs Own Ex Pu Yld RT LJ QJ AtQ CT Rd QSp Sp FinQ Then LoopQ CutQ DT TakeQ EffQ
attribute [local irreducible] Bd
variable {B : World} {R : List HP}
theorem small_fn {x : Int} : Sp B Tryz.prog 139 [.int .u8 x] R [] (fun v H' => v = .bool (decide (97 ≤ x ∧ x ≤ 122)) ∧ H' = []) := by
 refine Sp.body Tryz.func139 rfl Tryz.ntmps139 (by simp) ?_
 simp only [argE, List.cons_append, List.nil_append, Nat.zero_add, Nat.reduceAdd]
 repeat' (first|refine gL ?_|(refine gv ?_;(refine⟨fun hc=>?_,fun hc=>?_⟩<;>first|(exfalso;omega)|skip))|fail)
 all_goals exact AtQ.f1 Tryz.results139 rfl (by first | (apply dec_t; omega) | (apply dec_f; omega)) (fun w h => h)
theorem digit_fn {x : Int} : Sp B Tryz.prog 138 [.int .u8 x] R [] (fun v H' => v = .bool (decide (48 ≤ x ∧ x ≤ 57)) ∧ H' = []) := by
 refine Sp.body Tryz.func138 rfl Tryz.ntmps138 (by simp) ?_
 simp only [argE, List.cons_append, List.nil_append, Nat.zero_add, Nat.reduceAdd]
 repeat' (first|refine gL ?_|(refine gv ?_;(refine⟨fun hc=>?_,fun hc=>?_⟩<;>first|(exfalso;omega)|skip))|fail)
 all_goals exact AtQ.f1 Tryz.results138 rfl (by first | (apply dec_t; omega) | (apply dec_f; omega)) (fun w h => h)
theorem capital_fn {x : Int} : Sp B Tryz.prog 140 [.int .u8 x] R [] (fun v H' => v = .bool (decide (65 ≤ x ∧ x ≤ 90)) ∧ H' = []) := by
 refine Sp.body Tryz.func140 rfl Tryz.ntmps140 (by simp) ?_
 simp only [argE, List.cons_append, List.nil_append, Nat.zero_add, Nat.reduceAdd]
 repeat' (first|refine gL ?_|(refine gv ?_;(refine⟨fun hc=>?_,fun hc=>?_⟩<;>first|(exfalso;omega)|skip))|fail)
 all_goals exact AtQ.f1 Tryz.results140 rfl (by first | (apply dec_t; omega) | (apply dec_f; omega)) (fun w h => h)
end Go.Proofs.YtdemnhdoadjhhaaGreatDoor
end
section
namespace Go.Proofs.YtdemnhdoadjhhaaGreatDoor
open Go.Sk
set_option maxRecDepth 100000
theorem drop_get {l : List Int} {i : Nat} (h : i < l.length) : l.drop i = l.getD i 0 :: l.drop (i + 1) := by
 rw [List.drop_eq_getElem_cons h]
 simp [List.getElem?_eq_getElem h]
def camelF : Bool → List Int → List Int
 | _, [] => []
 | b, c :: r => if c = 95 then camelF true r else (if b = true ∧ 97 ≤ c ∧ c ≤ 122 then c - 32 else c) :: camelF false r
def camelL (l : List Int) : List Int := camelF false l
def CamI (l : List Int) (i : Nat) (b : Bool) (out : List Int) : Prop := i ≤ l.length ∧ out ++ camelF b (l.drop i) = camelL l ∧ Byt out ∧ out.length ≤ i
theorem CamI.a {l : List Int} {i : Nat} {b : Bool} {out : List Int} (h : CamI l i b out) (hi : i < l.length) (hc : l.getD i 0 = 95) : CamI l (i + 1) true out := by
 obtain ⟨h1, h2, h3, h4⟩ := h
 rw [drop_get hi, camelF, if_pos hc] at h2
 exact ⟨hi, h2, h3, by omega⟩
theorem CamI.b {l : List Int} {i : Nat} {out : List Int} (hb : Byt l) (h : CamI l i true out) (hi : i < l.length) (hc : ¬ l.getD i 0 = 95) (hs : 97 ≤ l.getD i 0 ∧ l.getD i 0 ≤ 122) : CamI l (i + 1) false (out ++ [l.getD i 0 - 32]) := by
 obtain ⟨h1, h2, h3, h4⟩ := h
 rw [drop_get hi, camelF, if_neg hc, if_pos ⟨rfl, hs⟩] at h2
 refine ⟨hi, by rw [List.append_assoc]; exact h2, h3.app (Byt.one ⟨by omega, by omega⟩), by simp; omega⟩
theorem CamI.c {l : List Int} {i : Nat} {b : Bool} {out : List Int} (hb : Byt l) (h : CamI l i b out) (hi : i < l.length) (hc : ¬ l.getD i 0 = 95) (hs : ¬ (b = true ∧ 97 ≤ l.getD i 0 ∧ l.getD i 0 ≤ 122)) : CamI l (i + 1) false (out ++ [l.getD i 0]) := by
 obtain ⟨h1, h2, h3, h4⟩ := h
 rw [drop_get hi, camelF, if_neg hc, if_neg hs] at h2
 refine ⟨hi, by rw [List.append_assoc]; exact h2, h3.app (Byt.one (hb.get hi)), by simp; omega⟩
attribute [local irreducible] Cs Own Ex Pu Yld RT LJ QJ AtQ CT Rd QSp Sp FinQ Then LoopQ CutQ DT TakeQ EffQ
attribute [local irreducible] Bd
variable {B : World} {R : List HP}
theorem Bd.new {b : Nat} {w : World} {H : List HP} (h : Sat B (Cs b 234 [.pointer none, .slice none 0 0] :: H) w) : Sat B (Bd b [] :: H) w :=
 Bd.in_ ⟨none, none, 0⟩ (.inl rfl) (Sat.fr (Ps := [Cs b 234 [.pointer none, .slice none 0 0], own8 none 0 []]) (Sat.nilOwn (e := 5) (sz := 1) h) fR_)
theorem camel_fn {l : List Int} (hb : Byt l) (hl : l.length ≤ 140737488355327) : Sp B Tryz.prog 165 [.string (str l)] R [] (fun v H' => v = .string (str (camelL l)) ∧ H' = []) := by
 refine Sp.body Tryz.func165 rfl Tryz.ntmps165 (by simp) ?_
 simp only [argE, List.cons_append, List.nil_append, Nat.zero_add, Nat.reduceAdd]
 repeat' (first|refine gL ?_|(refine gb ?_;intro b)|fail)
 refine CT.loop (α := Nat × Bool × List Int) (fun s => [(0, .string (str l)), (3, ptr b), (4, .bool s.2.1), (8, .int .i64 l.length), (9, .int .i64 s.1)]) (fun s => Pu (CamI l s.1 s.2.1 s.2.2) :: Bd b s.2.2 :: R) (fun s => l.length - s.1) (0, false, []) ⟨rfl, rfl, rfl, rfl, rfl, trivial⟩
  (fun w h => Sat.pu_in ⟨by simp, rfl, Byt.nil, by simp⟩ (Bd.new h)) (fun s => CT.pu fun hs => ?_)
 obtain ⟨i, bb, out⟩ := s
 have hi := hs.1
 simp only at hs hi ⊢
 have hlo := hs.2.2.2
 cases bb
 all_goals repeat' (first|refine gL ?_|(refine gv ?_;(refine⟨fun hc=>?_,fun hc=>?_⟩<;>first|(exfalso;omega)|skip))|fail)
 ·(refine RT.ixs T (j := i) rfl rfl (by omega) (by omega) (by assumption) rfl rfl rfl ?_)
  obtain ⟨h0, h1⟩ := hb.get (i := i) (by omega)
  repeat' (first|refine gL ?_|(refine gv ?_;first|(refine⟨fun hc=>?_,fun hc=>?_⟩<;>first|(exfalso;omega)|skip)|refine gk ?_)|fail)
  ·exact AtQ.loop (i + 1, true, out) ⟨rfl, rfl, rfl, rfl, rfl, trivial⟩ (fun w h => Sat.pu_in (hs.a (by omega) hc) h) (by simp only; omega)
  ·(refine RT.call T rfl fR_ (byte_fn (l := out) (by omega)) rfl rfl rfl ?_; rintro _ _ ⟨rfl, rfl⟩; try simp only [List.cons_append, List.nil_append])
   repeat' (first|refine gL ?_|(refine gv ?_;refine gk ?_)|fail)
   exact AtQ.loop (i + 1, false, out ++ [l.getD i 0]) ⟨rfl, rfl, rfl, rfl, rfl, trivial⟩ (fun w h => Sat.pu_in (hs.c hb (by omega) hc (by simp)) h) (by simp only; omega)
 ·obtain rfl : i = l.length := by omega
  have he : out = camelL l := by have := hs.2.1; simpa [camelF] using this
  subst he
  (refine RT.call T rfl fR_ (bstr_fn hs.2.2.1) rfl rfl rfl ?_; rintro _ _ ⟨rfl, rfl⟩; try simp only [List.cons_append, List.nil_append])
  try refine gL ?_
  exact AtQ.f1 Tryz.results165 rfl rfl (fun w h => h)
 ·(refine RT.ixs T (j := i) rfl rfl (by omega) (by omega) (by assumption) rfl rfl rfl ?_)
  obtain ⟨h0, h1⟩ := hb.get (i := i) (by omega)
  repeat' (first|refine gL ?_|(refine gv ?_;first|(refine⟨fun hc=>?_,fun hc=>?_⟩<;>first|(exfalso;omega)|skip)|refine gk ?_)|fail)
  ·exact AtQ.loop (i + 1, true, out) ⟨rfl, rfl, rfl, rfl, rfl, trivial⟩ (fun w h => Sat.pu_in (hs.a (by omega) hc) h) (by simp only; omega)
  ·(refine RT.call T rfl fR_ (small_fn) rfl rfl rfl ?_; rintro _ _ ⟨rfl, rfl⟩; try simp only [List.cons_append, List.nil_append])
   by_cases hsm : 97 ≤ l.getD i 0 ∧ l.getD i 0 ≤ 122
   ·rw [decide_eq_true hsm]
    repeat' (first|refine gL ?_|(refine gv ?_;refine gk ?_)|fail)
    (refine RT.call T rfl fR_ (byte_fn (l := out) (by omega)) rfl rfl rfl ?_; rintro _ _ ⟨rfl, rfl⟩; try simp only [List.cons_append, List.nil_append])
    repeat' (first|refine gL ?_|(refine gv ?_;refine gk ?_)|fail)
    exact AtQ.loop (i + 1, false, out ++ [l.getD i 0 - 32]) ⟨rfl, rfl, rfl, rfl, rfl, trivial⟩ (fun w h => Sat.pu_in (hs.b hb (by omega) hc hsm) h) (by simp only; omega)
   ·rw [decide_eq_false hsm]
    try refine gL ?_
    (refine RT.call T rfl fR_ (byte_fn (l := out) (by omega)) rfl rfl rfl ?_; rintro _ _ ⟨rfl, rfl⟩; try simp only [List.cons_append, List.nil_append])
    repeat' (first|refine gL ?_|(refine gv ?_;refine gk ?_)|fail)
    exact AtQ.loop (i + 1, false, out ++ [l.getD i 0]) ⟨rfl, rfl, rfl, rfl, rfl, trivial⟩ (fun w h => Sat.pu_in (hs.c hb (by omega) hc (fun h => hsm h.2)) h) (by simp only; omega)
 ·obtain rfl : i = l.length := by omega
  have he : out = camelL l := by have := hs.2.1; simpa [camelF] using this
  subst he
  (refine RT.call T rfl fR_ (bstr_fn hs.2.2.1) rfl rfl rfl ?_; rintro _ _ ⟨rfl, rfl⟩; try simp only [List.cons_append, List.nil_append])
  try refine gL ?_
  exact AtQ.f1 Tryz.results165 rfl rfl (fun w h => h)
end Go.Proofs.YtdemnhdoadjhhaaGreatDoor
end
section
namespace Go.Proofs.YtdemnhdoadjhhaaGreatDoor
open Go.Sk
set_option maxRecDepth 100000
variable {B : World} {R : List HP}
section
variable {n : Fm} {l0 rest : List Oper} {E : Env} {H : List HP} {Q : Exit → Act → World → Prop} {d : Nat} {ty : TypeId} {pos : String} {af : Array Edge} {g : Option (Nat × Bool)} {x y : Operand}
theorem RT.nozero {m : Nat} (hx : ev E x = some (.int .i64 (m : Int))) (hm : m ≤ 281474976710656) (hw : wt l0 E g = some true) (hd : Nat.blt d n = true)
  (kk : ∀ g0 c, m ≤ c → RT B Tryz.prog n true l0 rest ((d, .slice (some ⟨g0, 0, none⟩) m c) :: E) (Own (some ⟨g0, 0, none⟩) c 5 1 0 [] :: H) Q) :
  RT B Tryz.prog n true l0 (⟨some d, .call { callee := .value (.func 167), args := #[x], argTypes := #[3] }, ty, pos, af, g⟩ :: rest) E H Q :=
 RT.eff hw fun o aa w K ho hty hdd hA hS hK => by
  obtain ⟨cs, hrun, hle, hmax⟩ := Lib.run_makeNoZero (P := Tryz.prog) w #[3] 162 5 Tryz.underlying162 m hm
  have hx' := hA.ev hx
  have hcall : (callFunc 167 #[.int .i64 (m : Int)]).run Tryz.prog w = .ok (.value (.slice (some ⟨w.heap.size, 0, none⟩) m cs.size)) (w.drew.drew.alloc (.cells cs 5)) := by
   rw [run_callFunc_extern Tryz.func167 (by kernel_rfl) (by kernel_rfl) (by kernel_rfl) (e := Extern.BytealgMakeNoZero.makeNoZero #[3] #[162]) (by kernel_rfl), hrun]
   rfl
  have hS' : Sat B (Own (some ⟨w.heap.size, 0, none⟩) cs.size 5 1 0 [] :: H) (w.drew.drew.alloc (.cells cs 5)) :=
   hS.new rfl rfl rfl rfl fun h _ hb => by
    unfold Own
    exact ⟨rfl, Nat.zero_le _, hmax (by unfold maxLen; omega), .inr ⟨_, cs, rfl, hb, by omega, by simp⟩⟩
  have hex : (execOp aa.eval o).run Tryz.prog w = .ok (.value (.slice (some ⟨w.heap.size, 0, none⟩) m cs.size)) (w.drew.drew.alloc (.cells cs 5)) := by
   unfold execOp
   simp only [ho, resolve, Sem.run_bind, List.map_toArray, List.map_cons, List.map_nil, hx', Sem.run_pure, Result.andThen_ok]
   simp only [Act.eval, Deferred.ofValue, invoke]
   simpa using hcall
  unfold Oper.wp
  rw [hex]
  simp only [Oper.upon, hdd]
  have hk2 := kk w.heap.size cs.size hle
  exact hK _ _ (hk2 _ _ (hA.put (by simpa [Nat.blt_eq] using hd) _) hS')
theorem RT.copy0 {m : Bool} {b bS : Option Addr} {kd cd c2 e bb t : Nat} (hx : ev E x = some (.slice b kd cd)) (hy : ev E y = some (.slice bS 0 c2)) (ht : al T.slcs t = some (e, 1, bb)) (hw : wt l0 E g = some true) (hd : Nat.blt d n = true)
  (kt : RT B Tryz.prog n m l0 rest ((d, .int .i64 0) :: E) H Q) : RT B Tryz.prog n m l0 (⟨some d, .call { callee := .builtin .copy, args := #[x, y], argTypes := #[t, t] }, ty, pos, af, g⟩ :: rest) E H Q :=
 RT.y hw (by simpa [Nat.blt_eq] using hd) (y_run fun o aa w ho _ hA _ => by
  obtain ⟨hu, i, hi, hz, _⟩ := slcB_spec (T.slc ht)
  unfold execOp
  simp only [ho, resolve, invoke, builtin, List.map_toArray, List.map_cons, List.map_nil, hA.ev hx, hA.ev hy, Sem.run_bind, Sem.run_pure, Result.andThen_ok]
  rw [run_copy_none w t t _ e b bS kd cd 0 c2 hu (by rw [hi]; simp [hz]) (Nat.zero_min _)]
  rfl) kt
end
theorem asub0 (g0 c z : Nat) : asub (some ⟨g0, 0, none⟩) c z 0 = some ⟨g0, 0, none⟩ := by
 unfold asub
 split
 ·rfl
 ·simp [Addr.add]
attribute [local irreducible] Cs Own Ex Pu Yld RT LJ QJ AtQ CT Rd QSp Sp FinQ Then LoopQ CutQ DT TakeQ EffQ
attribute [local irreducible] Bd
variable {B : World} {R : List HP}
theorem grow_fn {b n : Nat} (hn : n ≤ 281474976710656) : Sp B Tryz.prog 156 [ptr b, .int .i64 n] R [Cs b 234 [ptr b, .slice none 0 0]] (fun u H' => u = .tuple #[] ∧ H' = [Bd b []]) := by
 refine Sp.body Tryz.func156 rfl Tryz.ntmps156 (by simp) ?_
 simp only [argE, List.cons_append, List.nil_append, Nat.zero_add, Nat.reduceAdd]
 refine CT.seq ?_
 refine CT.drawn [Cs b 234 [ptr b, .slice none 0 0]] 14 mixed ?_
 (refine DT.takes (k := 3) [0, 1, 2, 3, 4, 5, 6, 7, 9, 10, 11, 12, 13] [8, 14] (fun w h => Sat.ones (by (repeat (first|exact Fr.nil|(apply Fr.cons;focus ((repeat constructor);done))))) h) (by kernel_rfl) (by kernel_rfl) (by kernel_rfl) rfl (Clos.ofB (by kernel_rfl)) ?_)
 repeat' (first|refine gL ?_|(refine gv ?_;refine gk ?_)|fail)
 refine AtQ.take ?_
 (refine DT.eff 8 rfl (by kernel_rfl) ?_)
 rw [show (2 : Int) * ((0 : Nat) : Int) + (n : Int) = n by omega]
 refine RT.nozero rfl hn rfl rfl (fun g0 c hc => ?_)
 (refine RT.nil ?_; refine AtQ.eff (fun w h => Sat.ones fR_ h) ?_)
 (refine DT.eff 14 rfl (by kernel_rfl) ?_)
 refine RT.slhi T (j := 0) rfl rfl rfl (by omega) rfl rfl rfl ?_
 rw [asub0]
 (refine RT.nil ?_; refine AtQ.eff' (by kernel_rfl) ?_)
 (refine DT.eff 15 rfl (by kernel_rfl) ?_)
 try refine gL ?_
 refine AtQ.eff' (by kernel_rfl) ?_
 (refine DT.done (by kernel_rfl) ?_)
 try refine gL ?_
 refine RT.copy0 rfl rfl rfl rfl rfl ?_
 try refine gL ?_
 exact AtQ.f0 Tryz.results156 (fun w h => Bd.put (k := 0) h fR_ rfl) (by first | exact .inl rfl | exact .inr rfl)
theorem Grow_fn {b n : Nat} (hn : n ≤ 281474976710656) : Sp B Tryz.prog 125 [ptr b, .int .i64 n] R [Cs b 234 [.pointer none, .slice none 0 0]] (fun u H' => u = .tuple #[] ∧ H' = [Bd b []]) := by
 refine Sp.body Tryz.func125 rfl Tryz.ntmps125 (by simp) ?_
 simp only [argE, List.cons_append, List.nil_append, Nat.zero_add, Nat.reduceAdd]
 try refine gL ?_
 (refine RT.call T rfl fR_ (check_fn (.inl rfl)) rfl rfl rfl ?_; rintro _ _ ⟨rfl, rfl⟩; try simp only [List.cons_append, List.nil_append])
 repeat' (first|refine gL ?_|(refine gv ?_;first|(refine⟨fun hc=>?_,fun hc=>?_⟩<;>first|(exfalso;omega)|skip)|refine gk ?_)|fail)
 ·(refine RT.call T rfl fR_ (grow_fn hn) rfl rfl rfl ?_; rintro _ _ ⟨rfl, rfl⟩; try simp only [List.cons_append, List.nil_append])
  try refine gL ?_
  exact AtQ.f0 Tryz.results125 (fun w h => by exact h) (by first | exact .inl rfl | exact .inr rfl)
 ·exact AtQ.f0 Tryz.results125 (fun w h => Bd.in_ ⟨_, none, 0⟩ (.inr rfl) (Sat.fr (Ps := [Cs b 234 [ptr b, .slice none 0 0], own8 none 0 []]) (Sat.nilOwn (e := 5) (sz := 1) h) fR_)) (by first | exact .inl rfl | exact .inr rfl)
end Go.Proofs.YtdemnhdoadjhhaaGreatDoor
end
section
namespace Go.Proofs.YtdemnhdoadjhhaaGreatDoor
open Go.Sk
set_option maxRecDepth 100000
def strs (ls : List (List Int)) : List Value := ls.map fun l => .string (str l)
theorem strs_len (ls : List (List Int)) : (strs ls).length = ls.length := by simp [strs]
theorem strs_get {ls : List (List Int)} {i : Nat} (h : i < ls.length) : (strs ls)[i]? = some (.string (str (ls.getD i []))) := by
 simp [strs, h]
def sumL (ls : List (List Int)) : Nat := (ls.map List.length).sum
theorem getD_succ {α : Type} {ls : List α} {d : α} {i : Nat} (h : i < ls.length) : ls.take (i + 1) = ls.take i ++ [ls.getD i d] := by
 rw [List.take_add_one]
 simp [List.getElem?_eq_getElem h]
theorem sumL_app (a b : List (List Int)) : sumL (a ++ b) = sumL a + sumL b := by simp [sumL]
theorem sumL_succ {ls : List (List Int)} {i : Nat} (h : i < ls.length) : sumL (ls.take (i + 1)) = sumL (ls.take i) + (ls.getD i []).length := by
 rw [getD_succ (d := []) h, sumL_app]
 simp [sumL]
theorem sumL_take (ls : List (List Int)) (i : Nat) : sumL (ls.take i) ≤ sumL ls := by
 have h := sumL_app (ls.take i) (ls.drop i)
 rw [List.take_append_drop] at h
 omega
def dotted (ls : List (List Int)) : List Int := ls.flatMap fun y => 46 :: y
theorem dotted_len : ∀ ls : List (List Int), (dotted ls).length = sumL ls + ls.length
 | [] => rfl
 | x :: r => by
  have := dotted_len r
  unfold dotted sumL at *
  simp only [List.flatMap_cons, List.length_append, List.length_cons, List.map_cons, List.sum_cons]
  omega
def joinS : List (List Int) → List Int
 | [] => []
 | x :: r => x ++ dotted r
theorem dotted_byt {ls : List (List Int)} (h : ∀ l ∈ ls, Byt l) : Byt (dotted ls) := fun x hx => by
 obtain ⟨y, hy, hx⟩ := List.mem_flatMap.1 hx
 rcases List.mem_cons.1 hx with rfl | hx
 ·exact ⟨by decide, by decide⟩
 ·exact h y hy x hx
theorem dotted_succ {r : List (List Int)} {i : Nat} (h : i < r.length) : dotted (r.take (i + 1)) = dotted (r.take i) ++ [46] ++ r.getD i [] := by
 rw [getD_succ (d := []) h]
 simp [dotted]
attribute [local irreducible] Cs Own Ex Pu Yld RT LJ QJ AtQ CT Rd QSp Sp FinQ Then LoopQ CutQ DT TakeQ EffQ
attribute [local irreducible] Bd
variable {B : World} {R : List HP}
set_option maxHeartbeats 1000000 in
theorem sjoin_fn {a : Option Addr} {k c : Nat} {ls : List (List Int)} {sep : List Int} (hsep : sep = [46]) (hR : Rd B R a k c 1 (strs ls)) (hk : k = ls.length) (hB : ∀ l ∈ ls, Byt l) (hb : sumL ls + ls.length ≤ 10000000000000) :
  Sp B Tryz.prog 94 [.slice a k c, .string (str sep)] R [] (fun v H' => v = .string (str (joinS ls)) ∧ H' = []) := by
 refine Sp.body Tryz.func94 rfl Tryz.ntmps94 (by simp) ?_
 simp only [argE, List.cons_append, List.nil_append, Nat.zero_add, Nat.reduceAdd]
 have hsl : sep.length = 1 := by rw [hsep]; rfl
 subst hk
 have hget : ∀ i, i < ls.length → Byt (ls.getD i []) := fun i hi => by
  rw [List.getD_eq_getElem?_getD, List.getElem?_eq_getElem hi]
  exact hB _ (List.getElem_mem hi)
 repeat' (first|refine gL ?_|(refine gv ?_;first|(refine⟨fun hc=>?_,fun hc=>?_⟩<;>first|(exfalso;omega)|skip)|refine gk ?_)|fail)
 ·have : ls = [] := List.eq_nil_of_length_eq_zero (by omega)
  exact AtQ.f1 Tryz.results94 rfl (by rw [this]; rfl) (fun w h => h)
 ·have h0 : 0 < ls.length := by omega
  refine RT.ix T (j := 0) rfl rfl rfl hR (by omega) (by omega) rfl rfl rfl ?_
  refine RT.ldr T rfl hR (strs_get h0) rfl rfl rfl ?_
  try refine gL ?_
  refine AtQ.f1 Tryz.results94 rfl ?_ (fun w h => h)
  obtain ⟨x, rfl⟩ : ∃ x, ls = [x] := List.length_eq_one_iff.1 (by omega)
  simp [joinS, dotted]
 ·have hq : (2 : Int) ≤ 9223372036854775807 / ((ls.length : Int) - 1) := Int.le_ediv_of_mul_le (by omega) (by omega)
  have hq2 : 9223372036854775807 / ((ls.length : Int) - 1) ≤ 9223372036854775807 := Int.ediv_le_self _ (by omega)
  refine RT.quo rfl rfl (by omega) (r := 9223372036854775807 / ((ls.length : Int) - 1)) (by rw [Int.tdiv_eq_ediv_of_nonneg (by omega)]; exact wr_i64 (by omega) (by omega)) rfl rfl ?_
  have hm : (sep.length : Int) * ((ls.length : Int) - 1) = (ls.length : Int) - 1 := by rw [hsl]; omega
  repeat' (first|refine gL ?_|(refine gv ?_;first|(refine⟨fun hc=>?_,fun hc=>?_⟩<;>first|(exfalso;omega)|skip)|refine gk ?_)|fail)
  refine CT.loop (α := Nat) (fun i => [(0, .slice a ls.length c), (1, .string (str sep)), (39, .slice a ls.length c), (40, .int .i64 ls.length), (41, .int .i64 i), (5, .int .i64 (((ls.length - 1 + sumL (ls.take i) : Nat) : Int)))]) (fun i => Pu (i ≤ ls.length) :: R) (fun i => ls.length - i) 0 ⟨rfl, rfl, rfl, rfl, rfl, ?_, trivial⟩
   (fun w h => Sat.pu_in (Nat.zero_le _) h) (fun i => CT.pu fun hi => ?_)
  ·have e : (0 : Int) + (sep.length : Int) * ((ls.length : Int) - 1) = ((ls.length - 1 + sumL (ls.take 0) : Nat) : Int) := by rw [hm]; simp [sumL]; omega
   rw [← e]; rfl
  repeat' (first|refine gL ?_|(refine gv ?_;(refine⟨fun hc=>?_,fun hc=>?_⟩<;>first|(exfalso;omega)|skip))|(refine gb ?_;intro b)|fail)
  ·refine RT.ix T (j := i) rfl rfl rfl (rD (hR)) (by omega) (by omega) (by omega) rfl rfl ?_
   refine RT.ldr T rfl (rD (hR)) (strs_get (i := i) (by omega)) rfl rfl rfl ?_
   have hsum := sumL_succ (ls := ls) (i := i) (by omega)
   have hst := sumL_take ls (i + 1)
   repeat' (first|refine gL ?_|(refine gv ?_;first|(refine⟨fun hc=>?_,fun hc=>?_⟩<;>first|(exfalso;omega)|skip)|refine gk ?_)|fail)
   exact AtQ.loop (i + 1) ⟨rfl, rfl, rfl, rfl, rfl, by rw [hsum, ← Nat.add_assoc]; rfl, trivial⟩ (fun w h => Sat.pu_in (by omega) h) (by omega)
  ·have hst := sumL_take ls i
   (refine RT.call T rfl fR_ (Grow_fn (by omega)) rfl rfl rfl ?_; rintro _ _ ⟨rfl, rfl⟩; try simp only [List.cons_append, List.nil_append])
   try refine gL ?_
   have h0 : 0 < ls.length := by omega
   have hs1 : sumL (ls.take 1) = sumL (ls.take 0) + (ls.getD 0 []).length := sumL_succ h0
   have hs0 : sumL (ls.take 0) = 0 := rfl
   have hs2 := sumL_take ls 1
   refine RT.ix T (j := 0) rfl rfl rfl (rD (hR)) (by omega) (by omega) rfl rfl rfl ?_
   refine RT.ldr T rfl (rD (hR)) (strs_get h0) rfl rfl rfl ?_
   (refine RT.call T rfl fR_ (text_fn (l := []) (hget 0 h0) (by rw [List.length_nil]; omega)) rfl rfl rfl ?_; rintro _ _ ⟨rfl, rfl⟩; try simp only [List.cons_append, List.nil_append])
   try refine gL ?_
   refine RT.sllo T (j := 1) rfl rfl rfl (by omega) rfl rfl rfl ?_
   try refine gL ?_
   have hR2 := Rd.sub (i := 1) (j := ls.length) hR (by omega) (Nat.le_refl _)
   have hr2 : ((strs ls).drop (1 * 1)).take ((ls.length - 1) * 1) = strs (ls.drop 1) := by
    rw [Nat.mul_one, Nat.mul_one, List.take_of_length_le (by rw [List.length_drop, strs_len]; omega)]
    simp [strs]
   rw [hr2] at hR2
   have hdl : (ls.drop 1).length = ls.length - 1 := List.length_drop ..
   have hsd : sumL (ls.drop 1) + (ls.getD 0 []).length = sumL ls := by
    have h := sumL_app (ls.take 1) (ls.drop 1)
    rw [List.take_append_drop] at h
    omega
   refine CT.loop (α := Nat) (fun i => [(1, .string (str sep)), (8, ptr b), (63, .slice (asub a c 1 1) (ls.length - 1) (c - 1)), (64, .int .i64 (ls.length - 1 : Nat)), (65, .int .i64 i)]) (fun i => Pu (i ≤ ls.length - 1) :: Bd b (ls.getD 0 [] ++ dotted ((ls.drop 1).take i)) :: R) (fun i => ls.length - 1 - i) 0 ⟨rfl, rfl, rfl, rfl, rfl, trivial⟩
    (fun w h => Sat.pu_in (Nat.zero_le _) (by simpa [dotted] using h)) (fun i => CT.pu fun hi => ?_)
   have hdt := dotted_len ((ls.drop 1).take i)
   have hst2 := sumL_take (ls.drop 1) i
   have htl : ((ls.drop 1).take i).length = i := by rw [List.length_take]; omega
   have hcur : (ls.getD 0 [] ++ dotted ((ls.drop 1).take i)).length = (ls.getD 0 []).length + (sumL ((ls.drop 1).take i) + i) := by rw [List.length_append, hdt, htl]
   repeat' (first|refine gL ?_|(refine gv ?_;(refine⟨fun hc=>?_,fun hc=>?_⟩<;>first|(exfalso;omega)|skip))|fail)
   ·have hi2 : i < (ls.drop 1).length := by omega
    have hx : (ls.drop 1).getD i [] = ls.getD (i + 1) [] := by simp
    have hsum2 := sumL_succ (ls := ls.drop 1) hi2
    have hst3 := sumL_take (ls.drop 1) (i + 1)
    refine RT.ix T (j := i) rfl rfl rfl (rD (hR2)) (by omega) (by omega) (by omega) rfl rfl ?_
    refine RT.ldr T rfl (rD (hR2)) (strs_get hi2) rfl rfl rfl ?_
    try refine gL ?_
    (refine RT.call T rfl fR_ (text_fn (l' := sep) (by rw [hsep]; decide) (by rw [hcur]; omega)) rfl rfl rfl ?_; rintro _ _ ⟨rfl, rfl⟩; try simp only [List.cons_append, List.nil_append])
    try refine gL ?_
    (refine RT.call T rfl fR_ (text_fn (by rw [hx]; exact hget _ (by omega)) (by rw [List.length_append, hcur]; omega)) rfl rfl rfl ?_; rintro _ _ ⟨rfl, rfl⟩; try simp only [List.cons_append, List.nil_append])
    repeat' (first|refine gL ?_|(refine gv ?_;refine gk ?_)|fail)
    exact AtQ.loop (i + 1) ⟨rfl, rfl, rfl, rfl, rfl, trivial⟩ (fun w h => Sat.pu_in (by omega) (by rw [dotted_succ hi2, ← hsep, ← List.append_assoc, ← List.append_assoc]; exact h)) (by omega)
   ·have hie : i = ls.length - 1 := by omega
    have he : ls.getD 0 [] ++ dotted ((ls.drop 1).take i) = joinS ls := by
     rw [hie, List.take_of_length_le (by rw [hdl]; exact Nat.le_refl _)]
     cases ls with
     | nil => rfl
     | cons x r => rfl
    (refine RT.call T rfl fR_ (bstr_fn (by exact (hget 0 h0).app (dotted_byt fun l hl => hB l (List.mem_of_mem_drop (List.mem_of_mem_take hl))))) rfl rfl rfl ?_; rintro _ _ ⟨rfl, rfl⟩; try simp only [List.cons_append, List.nil_append])
    try refine gL ?_
    exact AtQ.f1 Tryz.results94 rfl (by rw [he]) (fun w h => h)
end Go.Proofs.YtdemnhdoadjhhaaGreatDoor
end
section
namespace Go.Proofs.YtdemnhdoadjhhaaGreatDoor
open Go.Sk
set_option maxRecDepth 100000
def filt (ls : List (List Int)) : List (List Int) := ls.filter fun l => !l.isEmpty
def joinL (ls : List (List Int)) : List Int := joinS (filt ls)
theorem filt_in {ls : List (List Int)} {i : Nat} (h : i < ls.length) (he : ls.getD i [] ≠ []) : filt (ls.take (i + 1)) = filt (ls.take i) ++ [ls.getD i []] := by
 rw [getD_succ (d := []) h]
 unfold filt
 rw [List.filter_append]
 congr 1
 generalize ls.getD i [] = l at he
 cases l with
 | nil => exact absurd rfl he
 | cons x r => rfl
theorem filt_out {ls : List (List Int)} {i : Nat} (h : i < ls.length) (he : ls.getD i [] = []) : filt (ls.take (i + 1)) = filt (ls.take i) := by
 rw [getD_succ (d := []) h, he]
 simp [filt]
theorem filt_sum : ∀ ls : List (List Int), sumL (filt ls) = sumL ls ∧ (filt ls).length ≤ ls.length
 | [] => ⟨rfl, Nat.le_refl _⟩
 | x :: r => by
  obtain ⟨h1, h2⟩ := filt_sum r
  unfold filt sumL at *
  cases x with
  | nil => simp at *; omega
  | cons y t => simp at *; omega
theorem filt_mem {ls : List (List Int)} (h : ∀ l ∈ ls, Byt l) : ∀ l ∈ filt ls, Byt l := fun l hl => h l (List.mem_filter.1 hl).1
theorem filt_len_take (ls : List (List Int)) (i : Nat) : (filt (ls.take i)).length ≤ ls.length := by
 have := (filt_sum (ls.take i)).2
 rw [List.length_take] at this
 omega
theorem strs_push (ls : List (List Int)) (l : List Int) : strs ls ++ [.string (str l)] = strs (ls ++ [l]) := by simp [strs]
attribute [local irreducible] Cs Own Ex Pu Yld RT LJ QJ AtQ CT Rd QSp Sp FinQ Then LoopQ CutQ DT TakeQ EffQ
attribute [local irreducible] Bd
variable {B : World} {R : List HP}
set_option maxHeartbeats 1000000 in
theorem join_fn {a : Option Addr} {k c : Nat} {ls : List (List Int)} (hR : Rd B R a k c 1 (strs ls)) (hk : k = ls.length) (hB : ∀ l ∈ ls, Byt l) (hb : sumL ls + ls.length ≤ 1000000000000) :
  Sp B Tryz.prog 38 [.slice a k c] R [] (fun v H' => v = .string (str (joinL ls)) ∧ H' = []) := by
 refine Sp.body Tryz.func38 rfl Tryz.ntmps38 (by simp) ?_
 simp only [argE, List.cons_append, List.nil_append, Nat.zero_add, Nat.reduceAdd]
 subst hk
 have hget : ∀ i, i < ls.length → Byt (ls.getD i []) := fun i hi => by
  rw [List.getD_eq_getElem?_getD, List.getElem?_eq_getElem hi]
  exact hB _ (List.getElem_mem hi)
 try refine gL ?_
 refine CT.weak (fun w h => Sat.nilOwn (e := 9) (sz := 1) h) ?_
 refine CT.loop (α := Nat × Option Addr × Nat) (fun s => [(3, .slice s.2.1 (filt (ls.take s.1)).length s.2.2), (6, .slice a ls.length c), (7, .int .i64 ls.length), (8, .int .i64 s.1)]) (fun s => Pu (s.1 ≤ ls.length) :: Own s.2.1 s.2.2 9 1 (filt (ls.take s.1)).length (strs (filt (ls.take s.1))) :: R) (fun s => ls.length - s.1) (0, none, 0) ⟨rfl, rfl, rfl, rfl, trivial⟩
  (fun w h => Sat.pu_in (Nat.zero_le _) h) (fun s => CT.pu fun hi => ?_)
 obtain ⟨i, a1, c1⟩ := s
 simp only at hi ⊢
 have hfl := filt_len_take ls i
 repeat' (first|refine gL ?_|(refine gv ?_;(refine⟨fun hc=>?_,fun hc=>?_⟩<;>first|(exfalso;omega)|skip))|fail)
 ·refine RT.ix T (j := i) rfl rfl rfl (rD (hR)) (by omega) (by omega) (by omega) rfl rfl ?_
  refine RT.ldr T rfl (rD (hR)) (strs_get (i := i) (by omega)) rfl rfl rfl ?_
  try refine gL ?_
  refine RT.nes (l := ls.getD i []) (l' := []) rfl rfl (hget i (by omega)) Byt.nil rfl rfl (fun he => ?_) (fun he => ?_)
  ·repeat' (first|refine gL ?_|(refine gv ?_;refine gk ?_)|fail)
   have hf := filt_out (ls := ls) (i := i) (by omega) he
   exact AtQ.loop (i + 1, a1, c1) ⟨by simp only; rw [hf]; rfl, rfl, rfl, rfl, trivial⟩ (fun w h => Sat.pu_in (by simp only; omega) (by simp only; rw [hf]; exact h)) (by simp only; omega)
  ·try refine gL ?_
   have hf := filt_in (ls := ls) (i := i) (by omega) he
   have hfl2 : (filt (ls.take (i + 1))).length = (filt (ls.take i)).length + 1 := by rw [hf]; simp
   refine RT.push T rfl rfl rfl rfl (fun a' c' => by ((repeat constructor);done)) (by omega) (by omega) rfl rfl rfl rfl (fun a' c' b' c1' hac => ?_)
   repeat' (first|refine gL ?_|(refine gv ?_;refine gk ?_)|fail)
   exact AtQ.loop (i + 1, a', c') ⟨by simp only; rw [hfl2]; rfl, rfl, rfl, rfl, trivial⟩ (fun w h => Sat.pu_in (by simp only; omega) (by simp only; rw [hfl2, hf, ← strs_push]; exact h)) (by simp only; omega)
 ·have hie : i = ls.length := by omega
  subst hie
  rw [List.take_length] at *
  obtain ⟨hs1, hs2⟩ := filt_sum ls
  refine RT.fact (p := (filt ls).length ≤ c1) (fun w h => (Own.facts h sE_).2.1) fun hc1 => ?_
  (refine RT.call T rfl fR_ (sjoin_fn (sep := [46]) rfl (Own.rd sE_ (by rw [strs_len, Nat.mul_one]) hc1) rfl (filt_mem hB) (by omega)) rfl rfl rfl ?_; rintro _ _ ⟨rfl, rfl⟩; try simp only [List.cons_append, List.nil_append])
  try refine gL ?_
  exact AtQ.f1 Tryz.results38 rfl rfl (fun w h => h.tail)
end Go.Proofs.YtdemnhdoadjhhaaGreatDoor
end
section
namespace Go.Proofs.YtdemnhdoadjhhaaGreatDoor
open Go.Sk
set_option maxRecDepth 100000
theorem dec_pos (s : ByteArray) (p : Nat) : 1 ≤ (Utf8.decode s p).2 := by
 unfold Utf8.decode
 dsimp only
 repeat' split
 all_goals simp
def goodF (l : List Int) : Nat → Nat → Int
 | 0, _ => -1
 | f + 1, p => if p < l.length then (if (Utf8.decode (str l) p).1 = 65533 ∧ (Utf8.decode (str l) p).2 = 1 then p else goodF l f (p + (Utf8.decode (str l) p).2)) else -1
def goodL (l : List Int) : Int := goodF l l.length 0
def GooI (l : List Int) (p : Nat) : Prop := ∃ f, goodF l f p = goodL l ∧ l.length ≤ p + f
theorem GooI.z (l : List Int) : GooI l 0 := ⟨_, rfl, by omega⟩
theorem GooI.end_ {l : List Int} {p : Nat} (h : GooI l p) (hp : ¬ p < l.length) : goodL l = -1 := by
 obtain ⟨f, h1, _⟩ := h
 rw [← h1]
 cases f with
 | zero => rfl
 | succ f => rw [goodF, if_neg hp]
theorem GooI.bad {l : List Int} {p : Nat} (h : GooI l p) (hp : p < l.length) (hb : (Utf8.decode (str l) p).1 = 65533 ∧ (Utf8.decode (str l) p).2 = 1) : goodL l = p := by
 obtain ⟨f, h1, h2⟩ := h
 rw [← h1]
 cases f with
 | zero => omega
 | succ f => rw [goodF, if_pos hp, if_pos hb]
theorem GooI.go {l : List Int} {p : Nat} (h : GooI l p) (hp : p < l.length) (hb : ¬ ((Utf8.decode (str l) p).1 = 65533 ∧ (Utf8.decode (str l) p).2 = 1)) : GooI l (p + (Utf8.decode (str l) p).2) := by
 obtain ⟨f, h1, h2⟩ := h
 have := dec_pos (str l) p
 cases f with
 | zero => omega
 | succ f =>
  rw [goodF, if_pos hp, if_neg hb] at h1
  exact ⟨f, h1, by omega⟩
theorem dec_drop {l : List Int} {p : Nat} (h : p < l.length) : Lib.decodeGo (str (l.drop p)) = Utf8.decode (str l) p := by
 unfold Lib.decodeGo
 rw [if_neg (by rw [str_size, List.length_drop]; omega), ← Lib.decodeL_drop (str l) p, ← Lib.decodeL_drop (str (l.drop p)) 0, str_list, str_list, List.drop_zero, List.map_drop]
attribute [local irreducible] Cs Own Ex Pu Yld RT LJ QJ AtQ CT Rd QSp Sp FinQ Then LoopQ CutQ DT TakeQ EffQ
attribute [local irreducible] It Ro
variable {B : World} {R : List HP}
theorem tabs_of {H : List HP} {w : World} (hT : Lib.Utf8Tabs 1 2 B) (hS : Sat B H w) : Lib.Utf8Tabs 1 2 w :=
 ⟨fun c hc => hS.bcell (hT.1 c hc), fun i hi => ⟨hS.bcell (hT.2 i hi).1, hS.bcell (hT.2 i hi).2⟩⟩
theorem dec_q {H : List HP} (hT : Lib.Utf8Tabs 1 2 B) {l : List Int} {p : Nat} (h : p < l.length) : QSp B Tryz.prog 164 [.string (str (l.drop p))] H (.tuple #[.int .i32 (Utf8.decode (str l) p).1, .int .i64 (Utf8.decode (str l) p).2]) :=
 QSp.below fun w hS => by
  have := Tryz.utf8_DecodeRuneInString (str (l.drop p)) w (tabs_of hT hS)
  rw [dec_drop h] at this
  exact this
theorem goodS_fn (hT : Lib.Utf8Tabs 1 2 B) {l : List Int} (hb : Byt l) (hl : l.length ≤ 140737488355328) : Sp B Tryz.prog 147 [.string (str l)] R [] (fun v H' => v = .int .i64 (goodL l) ∧ H' = []) := by
 refine Sp.body Tryz.func147 rfl Tryz.ntmps147 (by simp) ?_
 simp only [argE, List.cons_append, List.nil_append, Nat.zero_add, Nat.reduceAdd]
 try refine gL ?_
 refine RT.rng T rfl rfl rfl rfl (fun b => ?_)
 try refine gL ?_
 refine CT.loop (α := Nat) (fun p => [(0, .string (str l)), (8, .pointer (some ⟨b, 0, none⟩))]) (fun p => Pu (GooI l p) :: It b (str l) p :: R) (fun p => l.length - p) 0 ⟨rfl, rfl, trivial⟩
  (fun w h => Sat.pu_in (GooI.z l) h) (fun p => CT.pu fun hp => ?_)
 have hdp := dec_pos (str l) p
 try refine gL ?_
 refine RT.nxt rfl (by ((repeat constructor);done)) rfl rfl (fun hlt => ?_) (fun hlt => ?_)
 ·rw [str_size] at hlt
  repeat' (first|refine gL ?_|(refine gv ?_;(refine⟨fun hc=>?_,fun hc=>?_⟩<;>first|(exfalso;omega)|skip))|fail)
  ·refine RT.slsL T (j := p) rfl rfl rfl (by omega) rfl rfl rfl ?_
   refine RT.qcall T rfl (dec_q hT hlt) rfl rfl rfl ?_
   repeat' (first|refine gL ?_|(refine gv ?_;(refine⟨fun hc=>?_,fun hc=>?_⟩<;>first|(exfalso;omega)|skip))|fail)
   ·exact AtQ.f1 Tryz.results147 rfl (by rw [hp.bad hlt (by omega)]) (fun w h => h.tail)
   ·exact AtQ.loop (p + (Utf8.decode (str l) p).2) ⟨rfl, rfl, trivial⟩ (fun w h => Sat.pu_in (hp.go hlt (by omega)) h) (by omega)
  ·exact AtQ.loop (p + (Utf8.decode (str l) p).2) ⟨rfl, rfl, trivial⟩ (fun w h => Sat.pu_in (hp.go hlt (by omega)) h) (by omega)
 ·rw [str_size] at hlt
  try refine gL ?_
  exact AtQ.f1 Tryz.results147 rfl (by rw [hp.end_ hlt]) (fun w h => h.tail)
end Go.Proofs.YtdemnhdoadjhhaaGreatDoor
end
section
namespace Go.Proofs.YtdemnhdoadjhhaaGreatDoor
open Go.Sk
set_option maxRecDepth 100000
def isLet (x : Int) : Prop := (97 ≤ x ∧ x ≤ 122) ∨ (65 ≤ x ∧ x ≤ 90) ∨ x = 95
instance (x : Int) : Decidable (isLet x) := inferInstanceAs (Decidable (_ ∨ _))
def isDig (x : Int) : Prop := 48 ≤ x ∧ x ≤ 57
def okC (x : Int) : Prop := isLet x ∨ isDig x
def identP (l : List Int) : Prop := 0 < l.length ∧ l.length ≤ 255 ∧ ¬ isDig (l.getD 0 0) ∧ ∀ j, j < l.length → okC (l.getD j 0)
open Classical in
noncomputable def identB (l : List Int) : Bool := decide (identP l)
open Classical in
theorem identB_t {l : List Int} (h : identP l) : identB l = true := by unfold identB; exact decide_eq_true h
open Classical in
theorem identB_f {l : List Int} (h : ¬ identP l) : identB l = false := by unfold identB; exact decide_eq_false h
attribute [local irreducible] Cs Own Ex Pu Yld RT LJ QJ AtQ CT Rd QSp Sp FinQ Then LoopQ CutQ DT TakeQ EffQ
attribute [local irreducible] Bd
variable {B : World} {R : List HP}
set_option maxHeartbeats 1000000 in
theorem ident_fn {l : List Int} (hb : Byt l) (hl : l.length ≤ 140737488355327) : Sp B Tryz.prog 114 [.string (str l)] R [] (fun v H' => v = .bool (identB l) ∧ H' = []) := by
 refine Sp.body Tryz.func114 rfl Tryz.ntmps114 (by simp) ?_
 simp only [argE, List.cons_append, List.nil_append, Nat.zero_add, Nat.reduceAdd]
 try refine gL ?_
 refine RT.eqs (l := l) (l' := []) rfl rfl hb Byt.nil rfl rfl (fun h => ?_) (fun h => ?_)
 ·try refine gL ?_
  exact AtQ.f1 Tryz.results114 rfl (by rw [identB_f (by rintro ⟨h0, _⟩; rw [h] at h0; simp at h0)]) (fun w h => h)
 ·have hp : 0 < l.length := List.length_pos_iff.2 h
  repeat' (first|refine gL ?_|(refine gv ?_;(refine⟨fun hc=>?_,fun hc=>?_⟩<;>first|(exfalso;omega)|skip))|fail)
  ·exact AtQ.f1 Tryz.results114 rfl (by rw [identB_f (by rintro ⟨_, h0, _⟩; omega)]) (fun w h => h)
  ·(refine RT.ixs T (j := 0) rfl rfl (by omega) (by omega) (by assumption) rfl rfl rfl ?_)
   (refine RT.qcall T rfl (QSp.of fR_ (digit_fn)) rfl rfl rfl ?_)
   by_cases hd0 : 48 ≤ l.getD 0 0 ∧ l.getD 0 0 ≤ 57
   ·rw [decide_eq_true hd0]
    try refine gL ?_
    exact AtQ.f1 Tryz.results114 rfl (by rw [identB_f (by rintro ⟨_, _, h0, _⟩; exact h0 hd0)]) (fun w h => h)
   ·rw [decide_eq_false hd0]
    try refine gL ?_
    refine CT.loop (α := Nat) (fun i => [(0, .string (str l)), (18, .int .i64 l.length), (19, .int .i64 i)]) (fun i => Pu (i ≤ l.length ∧ ∀ j, j < i → okC (l.getD j 0)) :: R) (fun i => l.length - i) 0 ⟨rfl, rfl, rfl, trivial⟩
     (fun w h => Sat.pu_in ⟨Nat.zero_le _, fun j hj => absurd hj (by omega)⟩ h) (fun i => CT.pu fun ⟨hi, ho⟩ => ?_)
    have next : okC (l.getD i 0) → ∀ j, j < i + 1 → okC (l.getD j 0) := fun h j hj => by
     by_cases hji : j = i
     ·rw [hji]; exact h
     ·exact ho j (by omega)
    repeat' (first|refine gL ?_|(refine gv ?_;(refine⟨fun hc=>?_,fun hc=>?_⟩<;>first|(exfalso;omega)|skip))|fail)
    ·(refine RT.ixs T (j := i) rfl rfl (by omega) (by omega) (by assumption) rfl rfl rfl ?_)
     obtain ⟨c0, c1⟩ := hb.get (i := i) (by omega)
     have bad : ¬ okC (l.getD i 0) → identB l = false := fun h => identB_f (by rintro ⟨_, _, _, h0⟩; exact h (h0 i (by omega)))
     generalize hcc : l.getD i 0 = c at *
     try refine gL ?_
     (refine RT.qcall T rfl (QSp.of fR_ (small_fn)) rfl rfl rfl ?_)
     by_cases ha : 97 ≤ c ∧ c ≤ 122
     ·rw [decide_eq_true ha]
      repeat' (first|refine gL ?_|(refine gv ?_;refine gk ?_)|fail)
      exact AtQ.loop (i + 1) ⟨rfl, rfl, rfl, trivial⟩ (fun w h => Sat.pu_in ⟨by omega, next (.inl (.inl ha))⟩ h) (by omega)
     ·rw [decide_eq_false ha]
      try refine gL ?_
      (refine RT.qcall T rfl (QSp.of fR_ (capital_fn)) rfl rfl rfl ?_)
      by_cases hA : 65 ≤ c ∧ c ≤ 90
      ·rw [decide_eq_true hA]
       repeat' (first|refine gL ?_|(refine gv ?_;refine gk ?_)|fail)
       exact AtQ.loop (i + 1) ⟨rfl, rfl, rfl, trivial⟩ (fun w h => Sat.pu_in ⟨by omega, next (.inl (.inr (.inl hA)))⟩ h) (by omega)
      ·rw [decide_eq_false hA]
       try refine gL ?_
       (refine RT.qcall T rfl (QSp.of fR_ (digit_fn)) rfl rfl rfl ?_)
       by_cases hd : 48 ≤ c ∧ c ≤ 57
       ·rw [decide_eq_true hd]
        repeat' (first|refine gL ?_|(refine gv ?_;refine gk ?_)|fail)
        exact AtQ.loop (i + 1) ⟨rfl, rfl, rfl, trivial⟩ (fun w h => Sat.pu_in ⟨by omega, next (.inr hd)⟩ h) (by omega)
       ·rw [decide_eq_false hd]
        repeat' (first|refine gL ?_|(refine gv ?_;first|(refine⟨fun hc=>?_,fun hc=>?_⟩<;>first|(exfalso;omega)|skip)|refine gk ?_)|fail)
        ·exact AtQ.loop (i + 1) ⟨rfl, rfl, rfl, trivial⟩ (fun w h => Sat.pu_in ⟨by omega, next (.inl (.inr (.inr (by assumption))))⟩ h) (by omega)
        ·exact AtQ.f1 Tryz.results114 rfl (by rw [bad (by rintro ((h | h | h) | h); exact ha h; exact hA h; exact absurd h (by assumption); exact hd h)]) (fun w h => h)
    ·have hie : i = l.length := by omega
     subst hie
     exact AtQ.f1 Tryz.results114 rfl (by rw [identB_t ⟨hp, by omega, hd0, ho⟩]) (fun w h => h)
end Go.Proofs.YtdemnhdoadjhhaaGreatDoor
end
section
namespace Go.Proofs.YtdemnhdoadjhhaaGreatDoor
open Go.Sk
set_option maxRecDepth 100000
def partsF : List Int → List Int → List (List Int)
 | [], cur => [cur]
 | c :: r, cur => if c = 46 then cur :: partsF r [] else partsF r (cur ++ [c])
def partsL (l : List Int) : List (List Int) := partsF l []
def firstI : List Int → Option Nat
 | [] => none
 | c :: r => if c = 46 then some 0 else (firstI r).map (· + 1)
theorem partsF_cons (c : Int) (r cur : List Int) : partsF (c :: r) cur = if c = 46 then cur :: partsF r [] else partsF r (cur ++ [c]) := rfl
theorem firstI_cons (c : Int) (r : List Int) : firstI (c :: r) = if c = 46 then some 0 else (firstI r).map (· + 1) := rfl
theorem firstI_lt : ∀ (l : List Int) (i : Nat), firstI l = some i → i < l.length
 | [], i, h => by cases h
 | c :: r, i, h => by
  unfold firstI at h
  split at h
  ·cases h; simp
  ·obtain ⟨j, hj, rfl⟩ := Option.map_eq_some_iff.1 h
   have := firstI_lt r j hj
   simp; omega
theorem parts_first : ∀ (l cur : List Int), partsF l cur = match firstI l with | none => [cur ++ l] | some i => (cur ++ l.take i) :: partsF (l.drop (i + 1)) []
 | [], cur => by simp [partsF, firstI]
 | c :: r, cur => by
  rw [partsF_cons, firstI_cons]
  split
  ·simp
  ·rw [parts_first r (cur ++ [c])]
   cases firstI r with
   | none => simp
   | some i => simp
theorem index_first : ∀ (l : List Int), Byt l → Lib.indexByte (l.map b8) 46 = match firstI l with | none => -1 | some i => (i : Int)
 | [], _ => rfl
 | c :: r, h => by
  have hc := h c (by simp)
  have hr : Byt r := fun x hx => h x (by simp [hx])
  have ih := index_first r hr
  have he : (b8 c == 46) = decide (c = 46) := by
   by_cases h46 : c = 46
   ·subst h46; rfl
   ·rw [decide_eq_false h46]
    simp only [beq_eq_false_iff_ne, ne_eq]
    intro e
    have := b8_nat hc
    rw [e] at this
    apply h46
    rw [← this]
    rfl
  simp only [List.map_cons, Lib.indexByte, he, ih, firstI]
  by_cases h46 : c = 46
  ·simp [h46]
  ·simp only [h46, decide_false, if_false]
   cases firstI r with
   | none => simp
   | some i =>
    have hne : ((i : Int) == -1) = false := beq_eq_false_iff_ne.2 (by omega)
    simp [hne]
abbrev dot : ByteArray := ⟨#[46]⟩
theorem indexB_first {l : List Int} (h : Byt l) : Lib.indexB (str l) dot = match firstI l with | none => -1 | some i => (i : Int) := by
 have e : Lib.indexB (str l) dot = Lib.index (str l).data.toList [46] := rfl
 rw [e, Lib.index_one, str_list]
 exact index_first l h
theorem split_parts : ∀ (n : Nat) (l : List Int), l.length ≤ n → Byt l → Lib.splitB dot 0 (Lib.countB (str l) dot) (str l) = (partsL l).map str ∧ Lib.countB (str l) dot + 1 = (partsL l).length
 | n, l, hn, hb => by
  have hi := indexB_first hb
  unfold partsL
  rw [parts_first l []]
  cases hf : firstI l with
  | none =>
   rw [hf] at hi
   rw [Lib.countB_miss _ _ hi, Lib.splitB_zero]
   exact ⟨rfl, rfl⟩
  | some i =>
   rw [hf] at hi
   have hlt := firstI_lt l i hf
   have hrest : (str l).extract (i + dot.size) (str l).size = str (l.drop (i + 1)) := by
    rw [str_sub, str_size]
    rw [List.take_of_length_le (by rw [List.length_drop]; exact Nat.le_refl _)]
    rfl
   rw [Lib.countB_hit _ _ i (by decide) hi, hrest, Nat.add_comm 1, Lib.splitB_hit _ _ _ _ i hi, hrest]
   match n, hn with
   | 0, hn => omega
   | n + 1, hn =>
    obtain ⟨e1, e2⟩ := split_parts n (l.drop (i + 1)) (by rw [List.length_drop]; omega) (hb.drop _)
    rw [e1]
    have e3 : (str l).extract 0 (i + 0) = str (l.take i) := by rw [str_sub]; simp
    rw [e3]
    unfold partsL at *
    simp only [List.map_cons, List.nil_append, List.length_cons]
    exact ⟨trivial, by omega⟩
theorem partsF_byt : ∀ (l cur : List Int), Byt l → Byt cur → ∀ p ∈ partsF l cur, Byt p
 | [], cur, _, hc, p, hp => by simp [partsF] at hp; rw [hp]; exact hc
 | c :: r, cur, hl, hc, p, hp => by
  have h1 := hl c (by simp)
  have hr : Byt r := fun x hx => hl x (by simp [hx])
  unfold partsF at hp
  split at hp
  ·rcases List.mem_cons.1 hp with rfl | hp
   ·exact hc
   ·exact partsF_byt r [] hr Byt.nil p hp
  ·exact partsF_byt r (cur ++ [c]) hr (hc.app (Byt.one h1)) p hp
theorem partsF_len : ∀ (l cur : List Int), (partsF l cur).length ≤ l.length + 1 ∧ ∀ p ∈ partsF l cur, p.length ≤ cur.length + l.length
 | [], cur => by simp [partsF]
 | c :: r, cur => by
  unfold partsF
  split
  ·obtain ⟨h1, h2⟩ := partsF_len r []
   refine ⟨by simp; omega, fun p hp => ?_⟩
   rcases List.mem_cons.1 hp with rfl | hp
   ·simp
   ·have := h2 p hp; simp at this ⊢; omega
  ·obtain ⟨h1, h2⟩ := partsF_len r (cur ++ [c])
   refine ⟨by simp; omega, fun p hp => ?_⟩
   have := h2 p hp
   simp at this ⊢
   omega
end Go.Proofs.YtdemnhdoadjhhaaGreatDoor
end
section
namespace Go.Proofs
open Go.Shelf
def Tryz.lays146_ren : Go.Shelf.Ren := ⟨fun | 146 => 113 | 221 => 137 | 268 => 160 | 138 => 161 | 143 => 162 | 195 => 170 | 197 => 164 | 218 => 171 | 219 => 172 | 260 => 174 | 217 => 177 | 225 => 178 | 224 => 179 | 267 => 180 | 266 => 182 | 314 => 183 | n => n, fun | 9 => 9 | 31 => 69 | 3 => 3 | 4 => 4 | 0 => 0 | 105 => 256 | 21 => 21 | 5 => 5 | 46 => 252 | 119 => 267 | 139 => 270 | 138 => 269 | 146 => 272 | 51 => 271 | n => n, fun | 1 => 0 | 3 => 1 | 4 => 2 | n => n⟩
theorem Tryz.lays146 : Go.Proofs.Lays.n146 Tryz.prog Tryz.lays146_ren := {
 mixed := by kernel_rfl
 f138 := Tryz.func161.trans (congrArg some (by kernel_rfl))
 f143 := Tryz.func162.trans (congrArg some (by kernel_rfl))
 f146 := Tryz.func113.trans (congrArg some (by kernel_rfl))
 f195 := Tryz.func170.trans (congrArg some (by kernel_rfl))
 f197 := Tryz.func164.trans (congrArg some (by kernel_rfl))
 f217 := Tryz.func177.trans (congrArg some (by kernel_rfl))
 f218 := Tryz.func171.trans (congrArg some (by kernel_rfl))
 f219 := Tryz.func172.trans (congrArg some (by kernel_rfl))
 f221 := Tryz.func137.trans (congrArg some (by kernel_rfl))
 f224 := Tryz.func179.trans (congrArg some (by kernel_rfl))
 f225 := Tryz.func178.trans (congrArg some (by kernel_rfl))
 f260 := Tryz.func174.trans (congrArg some (by kernel_rfl))
 f266 := Tryz.func182.trans (congrArg some (by kernel_rfl))
 f267 := Tryz.func180.trans (congrArg some (by kernel_rfl))
 f268 := Tryz.func160.trans (congrArg some (by kernel_rfl))
 f314 := Tryz.func183.trans (congrArg some (by kernel_rfl))
 t0 := Tryz.underlying0
 a0 := Tryz.isAgg0
 z0 := Tryz.sizeOf0
 v0 := Tryz.zeroValue0
 t3 := Tryz.underlying3
 a3 := Tryz.isAgg3
 z3 := Tryz.sizeOf3
 v3 := Tryz.zeroValue3
 t4 := Tryz.underlying4
 a4 := Tryz.isAgg4
 z4 := Tryz.sizeOf4
 v4 := Tryz.zeroValue4
 t5 := Tryz.underlying5
 a5 := Tryz.isAgg5
 z5 := Tryz.sizeOf5
 v5 := Tryz.zeroValue5
 t9 := Tryz.underlying9
 a9 := Tryz.isAgg9
 z9 := Tryz.sizeOf9
 v9 := Tryz.zeroValue9
 t21 := Tryz.underlying21
 a21 := Tryz.isAgg21
 z21 := Tryz.sizeOf21
 v21 := Tryz.zeroValue21
 t31 := Tryz.underlying69
 a31 := Tryz.isAgg69
 z31 := Tryz.sizeOf69
 v31 := Tryz.zeroValue69
 t46 := Tryz.underlying252
 a46 := Tryz.isAgg252
 z46 := Tryz.sizeOf252
 v46 := Tryz.zeroValue252
 t51 := Tryz.underlying271
 a51 := Tryz.isAgg271
 z51 := Tryz.sizeOf271
 v51 := Tryz.zeroValue271
 t105 := Tryz.underlying256
 a105 := Tryz.isAgg256
 z105 := Tryz.sizeOf256
 v105 := Tryz.zeroValue256
 t119 := Tryz.underlying267
 a119 := Tryz.isAgg267
 z119 := Tryz.sizeOf267
 t138 := Tryz.underlying269
 a138 := Tryz.isAgg269
 z138 := Tryz.sizeOf269
 v138 := Tryz.zeroValue269
 t139 := Tryz.underlying270
 a139 := Tryz.isAgg270
 z139 := Tryz.sizeOf270
 v139 := Tryz.zeroValue270
 t146 := Tryz.underlying272
 a146 := Tryz.isAgg272
 z146 := Tryz.sizeOf272
 v146 := Tryz.zeroValue272
 g1 := by kernel_rfl
 g3 := by kernel_rfl
 g4 := by kernel_rfl }
open Go.RowKit Go.Lib in
theorem Tryz.strings_Split (s sep : ByteArray) (m : Int) (w : World) (hs : s.size < 4294967281) (hm : w.cell? ⟨0, 0, none⟩ = some (.int .i64 m)) (h1 : 1 ≤ sep.size) :
  Calls Tryz.prog 113 #[.string s, .string sep] w fun e w' =>
   e = .returned (.slice (some ⟨w.heap.size, 0, none⟩) (Lib.countB s sep + 1) (Lib.countB s sep + 1)) ∧ w' = w.alloc (.cells ((Lib.splitB sep 0 (Lib.countB s sep) s).map Value.string).toArray 9) := Any.strings_Split Tryz.lays146 (by kernel_rfl) s sep m w hs hm h1
end Go.Proofs
end
section
namespace Go.Proofs.YtdemnhdoadjhhaaGreatDoor
open Go.Sk
set_option maxRecDepth 100000
def fullP (l : List Int) : Prop := l.length ≤ 255 ∧ ∀ j, j < (partsL l).length → identP ((partsL l).getD j [])
open Classical in
noncomputable def fullB (l : List Int) : Bool := decide (fullP l)
open Classical in
theorem fullB_t {l : List Int} (h : fullP l) : fullB l = true := by unfold fullB; exact decide_eq_true h
open Classical in
theorem fullB_f {l : List Int} (h : ¬ fullP l) : fullB l = false := by unfold fullB; exact decide_eq_false h
theorem identB_cases (l : List Int) : (identB l = true ∧ identP l) ∨ (identB l = false ∧ ¬ identP l) := by
 by_cases h : identP l
 ·exact .inl ⟨identB_t h, h⟩
 ·exact .inr ⟨identB_f h, h⟩
attribute [local irreducible] Cs Own Ex Pu Yld RT LJ QJ AtQ CT Rd QSp Sp FinQ Then LoopQ CutQ DT TakeQ EffQ
attribute [local irreducible] Bd
variable {B : World} {R : List HP}
theorem ssplit_fn {l : List Int} {m : Int} (hM : B.cell? ⟨0, 0, none⟩ = some (.int .i64 m)) (hb : Byt l) (hl : l.length ≤ 4000000000) : Sp B Tryz.prog 113 [.string (str l), .string dot] R [] (fun v H' => ∃ a, v = .slice a (partsL l).length (partsL l).length ∧ H' = [Own a (partsL l).length 9 1 (partsL l).length (strs (partsL l))]) := by
 unfold Sp
 intro w hS
 obtain ⟨e1, e2⟩ := split_parts l.length l (Nat.le_refl _) hb
 refine (Tryz.strings_Split (str l) dot m w (by rw [str_size]; omega) (hS.bcell hM) (by decide)).mono fun e w' ⟨he, hw⟩ => ?_
 subst hw
 rw [e2] at he
 refine ⟨_, _, he, ⟨_, rfl, rfl⟩, ?_⟩
 rw [e1]
 have e3 : ((partsL l).map str).map Value.string = strs (partsL l) := by simp [strs, List.map_map]
 rw [e3]
 refine hS.new rfl rfl rfl rfl fun h _ hbk => ?_
 have hpl : (partsL l).length ≤ l.length + 1 := (partsF_len l []).1
 unfold Own
 exact ⟨by rw [strs_len, Nat.mul_one], Nat.le_refl _, by unfold maxLen; omega, .inr ⟨_, _, rfl, hbk, by simp [strs_len], by rw [Nat.mul_one]; exact List.take_of_length_le (by rw [strs_len]; exact Nat.le_refl _)⟩⟩
set_option maxHeartbeats 1000000 in
theorem full_fn {l : List Int} {m : Int} (hM : B.cell? ⟨0, 0, none⟩ = some (.int .i64 m)) (hb : Byt l) (hl : l.length ≤ 1000000000000) : Sp B Tryz.prog 91 [.string (str l)] R [] (fun v H' => v = .bool (fullB l) ∧ H' = []) := by
 refine Sp.body Tryz.func91 rfl Tryz.ntmps91 (by simp) ?_
 simp only [argE, List.cons_append, List.nil_append, Nat.zero_add, Nat.reduceAdd]
 repeat' (first|refine gL ?_|(refine gv ?_;(refine⟨fun hc=>?_,fun hc=>?_⟩<;>first|(exfalso;omega)|skip))|fail)
 ·exact AtQ.f1 Tryz.results91 rfl (by rw [fullB_f (by rintro ⟨h, _⟩; omega)]) (fun w h => h)
 ·refine RT.call T rfl fR_ (ssplit_fn hM hb (by omega)) rfl rfl rfl ?_
  rintro _ _ ⟨a, rfl, rfl⟩
  simp only [List.cons_append, List.nil_append]
  have hpb := partsF_byt l [] hb Byt.nil
  have hpl2 := (partsF_len l []).2
  have hget : ∀ j, j < (partsL l).length → Byt ((partsL l).getD j []) ∧ ((partsL l).getD j []).length ≤ l.length := fun j hj => by
   rw [List.getD_eq_getElem?_getD, List.getElem?_eq_getElem hj]
   have := hpl2 _ (List.getElem_mem hj)
   exact ⟨hpb _ (List.getElem_mem hj), by simpa using this⟩
  have hpl' : (partsL l).length ≤ l.length + 1 := (partsF_len l []).1
  try refine gL ?_
  refine CT.loop (α := Nat) (fun i => [(9, .slice a (partsL l).length (partsL l).length), (10, .int .i64 (partsL l).length), (11, .int .i64 i)]) (fun i => Pu (i ≤ (partsL l).length ∧ ∀ j, j < i → identP ((partsL l).getD j [])) :: Own a (partsL l).length 9 1 (partsL l).length (strs (partsL l)) :: R) (fun i => (partsL l).length - i) 0 ⟨rfl, rfl, rfl, trivial⟩
   (fun w h => Sat.pu_in ⟨Nat.zero_le _, fun j hj => absurd hj (by omega)⟩ h) (fun i => CT.pu fun ⟨hi, ho⟩ => ?_)
  repeat' (first|refine gL ?_|(refine gv ?_;(refine⟨fun hc=>?_,fun hc=>?_⟩<;>first|(exfalso;omega)|skip))|fail)
  ·obtain ⟨g1, g2⟩ := hget i (by omega)
   refine RT.ix T (j := i) rfl rfl rfl (Own.rd sE_ (by rw [strs_len, Nat.mul_one]) (Nat.le_refl _)) (by omega) (by omega) (by omega) rfl rfl ?_
   refine RT.ldr T rfl (Own.rd sE_ (by rw [strs_len, Nat.mul_one]) (Nat.le_refl _)) (strs_get (i := i) (by omega)) rfl rfl rfl ?_
   try refine gL ?_
   (refine RT.call T rfl fR_ (ident_fn g1 (by omega)) rfl rfl rfl ?_; rintro _ _ ⟨rfl, rfl⟩; try simp only [List.cons_append, List.nil_append])
   rcases identB_cases ((partsL l).getD i []) with ⟨e, hp⟩ | ⟨e, hp⟩
   ·rw [e]
    repeat' (first|refine gL ?_|(refine gv ?_;refine gk ?_)|fail)
    exact AtQ.loop (i + 1) ⟨rfl, rfl, rfl, trivial⟩ (fun w h => Sat.pu_in ⟨by omega, fun j hj => by
     by_cases hji : j = i
     ·rw [hji]; exact hp
     ·exact ho j (by omega)⟩ h) (by omega)
   ·rw [e]
    try refine gL ?_
    exact AtQ.f1 Tryz.results91 rfl (by rw [fullB_f (fun h => hp (h.2 i (by omega)))]) (fun w h => h.tail)
  ·have hie : i = (partsL l).length := by omega
   subst hie
   exact AtQ.f1 Tryz.results91 rfl (by rw [fullB_t ⟨by omega, ho⟩]) (fun w h => h.tail)
end Go.Proofs.YtdemnhdoadjhhaaGreatDoor
end
section
namespace Go.Proofs.YtdemnhdoadjhhaaGreatDoor
open Go.Sk
abbrev Flt := Int × Txt
/-- What is wrong, or the names that are given. -/
abbrev Rs := Except Flt (List Txt)
def bnd : Rs → (List Txt → Rs) → Rs
 | .ok g, k => k g
 | .error x, _ => .error x
theorem bnd_ok {g : List Txt} {k : List Txt → Rs} : bnd (.ok g) k = k g := rfl
def must (p : Bool) (e : Int) (t : Txt) (k : Rs) : Rs := if p = true then k else .error (e, t)
theorem must_t {p : Bool} {e : Int} {t : Txt} {k : Rs} (h : p = true) : must p e t k = k := if_pos h
theorem must_f {p : Bool} {e : Int} {t : Txt} {k : Rs} (h : p = false) : must p e t k = .error (e, t) := by unfold must; rw [h]; rfl
def opt : Option Flt → Rs → Rs
 | none, k => k
 | some x, _ => .error x
theorem opt_none {k : Rs} : opt none k = k := rfl
def pathC (c : Int) : Bool := decide (33 ≤ c ∧ c ≤ 126 ∧ c ≠ 34 ∧ c ≠ 92)
def pathB (s : Txt) : Bool := decide (s ≠ [] ∧ s.length ≤ 255) && s.all pathC
noncomputable def refB (s : Txt) : Bool := if s.getD 0 0 = 46 then fullB (s.drop 1) && decide ((s.drop 1).length < 255) else fullB s
noncomputable def giveR (nm full : Txt) (g : List Txt) : Rs := must (identB nm && decide (full.length ≤ 255)) 60 full (must (decide (full ∉ g)) 61 full (.ok (g ++ [full])))
def spansF (least most : Int) (t : Txt) : List SpanT → List SpanT → Option Flt
 | _, [] => none
 | ahead, s :: l => if least ≤ s.f ∧ s.f ≤ s.t ∧ s.t ≤ most ∧ ∀ o ∈ ahead, s.t < o.f ∨ o.t < s.f then spansF least most t (ahead ++ [s]) l else some (63, t)
noncomputable def namesF (scope : Txt) : List Txt → List Txt → Option Flt
 | _, [] => none
 | ahead, n :: l => if identB n = true then (if n ∈ ahead then some (61, joinL [scope, n]) else namesF scope (ahead ++ [n]) l) else some (60, joinL [scope, n])
def kindB (k : Int) : Bool := decide (1 ≤ k ∧ k ≤ 18 ∧ k ≠ 10)
def namedB (k : Int) : Bool := decide (k = 0 ∨ k = 11 ∨ k = 14)
def packsB (k : Int) : Bool := decide (k ≠ 9 ∧ k ≠ 12 ∧ k ≠ 11)
def keyB (k : Int) : Bool := kindB k && decide (k ≠ 1 ∧ k ≠ 2 ∧ k ≠ 12 ∧ k ≠ 11 ∧ k ≠ 14)
def jsonL (f : FieldT) : Txt := if f.js = [] then camelL f.nm else f.js
def anyS (l : List SpanT) (n : Int) : Bool := l.any fun s => inS s n
/-- A field's tests from its names in JSON on, from those ahead of that on, .. -/
noncomputable def fieldR17 (ahead : List FieldT) (f : FieldT) (t : Txt) (g : List Txt) : Rs := must (decide (∀ o ∈ ahead, jsonL o ≠ jsonL f ∧ jsonL o ≠ f.nm ∧ o.nm ≠ jsonL f)) 61 t (.ok g)
noncomputable def fieldR16 (ahead : List FieldT) (f : FieldT) (t : Txt) (g : List Txt) : Rs := must (decide (goodL f.js < 0) && decide (f.js.length ≤ 255) && decide ((64 : Int) ∉ f.js)) 60 t (fieldR17 ahead f t g)
noncomputable def fieldR15 (ahead : List FieldT) (f : FieldT) (t : Txt) (g : List Txt) : Rs := must (decide (f.packed ≤ 2) && (decide (f.packed = 0) || decide (f.card = 3) && packsB f.kind)) 67 t (fieldR16 ahead f t g)
noncomputable def fieldR14 (no : Nat) (ahead : List FieldT) (f : FieldT) (t : Txt) (g : List Txt) : Rs := must (decide (0 ≤ f.oneof ∧ f.oneof ≤ no) && decide (f.oneof = 0 ∨ f.card = 1)) 64 t (fieldR15 ahead f t g)
noncomputable def fieldR11 (no : Nat) (ahead : List FieldT) (f : FieldT) (t : Txt) (g : List Txt) : Rs := must (if f.card = 4 then keyB f.key else decide (f.key = 0)) 65 t (fieldR14 no ahead f t g)
noncomputable def fieldR8 (no : Nat) (ahead : List FieldT) (f : FieldT) (t : Txt) (g : List Txt) : Rs := must (if namedB f.kind = true then refB f.ty else decide (f.ty = [])) 69 t (fieldR11 no ahead f t g)
noncomputable def fieldR7 (no : Nat) (ahead : List FieldT) (f : FieldT) (t : Txt) (g : List Txt) : Rs := must (decide (1 ≤ f.card ∧ f.card ≤ 4) && (decide (f.kind = 0) || kindB f.kind)) 69 t (fieldR8 no ahead f t g)
noncomputable def fieldR (names : List Txt) (res : List SpanT) (no : Nat) (full : Txt) (ahead : List FieldT) (f : FieldT) (g : List Txt) : Rs :=
 bnd (giveR f.nm (joinL [full, f.nm]) g) fun g =>
 must (decide (f.nm ∉ names)) 63 (joinL [full, f.nm]) <|
 must (mayB f.num && decide (∀ o ∈ ahead, o.num ≠ f.num)) 62 (joinL [full, f.nm]) <|
 must (!anyS res f.num) 63 (joinL [full, f.nm]) (fieldR7 no ahead f (joinL [full, f.nm]) g)
noncomputable def fieldsR (names : List Txt) (res : List SpanT) (no : Nat) (full : Txt) : List FieldT → List FieldT → List Txt → Rs
 | _, [], g => .ok g
 | ahead, f :: l, g => bnd (fieldR names res no full ahead f g) (fieldsR names res no full (ahead ++ [f]) l)
noncomputable def oneofsR (fields : List FieldT) (full : Txt) : Nat → List Txt → List Txt → Rs
 | _, [], g => .ok g
 | i, o :: l, g => bnd (giveR o (joinL [full, o]) g) fun g => must (decide (∃ f ∈ fields, f.oneof = (i : Int) + 1)) 64 (joinL [full, o]) (oneofsR fields full (i + 1) l g)
noncomputable def valsR (names : List Txt) (res : List SpanT) (ali : Bool) (scope : Txt) : List EValT → List EValT → List Txt → Rs
 | _, [], g => .ok g
 | ahead, v :: l, g => bnd (giveR v.nm (joinL [scope, v.nm]) g) fun g =>
  must (decide (v.nm ∉ names) && !anyS res v.num) 63 (joinL [scope, v.nm]) <|
  must (ali || decide (∀ o ∈ ahead, o.num ≠ v.num)) 66 (joinL [scope, v.nm]) (valsR names res ali scope (ahead ++ [v]) l g)
noncomputable def enumR (e : EnumT) (scope : Txt) (g : List Txt) : Rs :=
 bnd (giveR e.nm (joinL [scope, e.nm]) g) fun g =>
 must (decide (e.vals.l.length ≤ 1000)) 68 (joinL [scope, e.nm]) <|
 must (decide (∃ v, e.vals.l[0]? = some v ∧ v.num = 0)) 66 (joinL [scope, e.nm]) <|
 opt (spansF (-2147483648) 2147483647 (joinL [scope, e.nm]) [] e.res.l) <|
 opt (namesF scope [] e.names.l) <|
 valsR e.names.l e.res.l e.ali scope [] e.vals.l g
noncomputable def enumsR (scope : Txt) : List EnumT → List Txt → Rs
 | [], g => .ok g
 | e :: l, g => bnd (enumR e scope g) (enumsR scope l)
mutual
noncomputable def msgR : MsgT → Txt → Nat → List Txt → Rs
 | .mk nm fields oneofs _ _ msgs enums res names, scope, deep, g =>
  bnd (giveR nm (joinL [scope, nm]) g) fun g =>
  must (decide (deep < 16) && decide (fields.l.length ≤ 1000)) 68 (joinL [scope, nm]) <|
  opt (spansF 1 536870911 (joinL [scope, nm]) [] res.l) <|
  opt (namesF (joinL [scope, nm]) [] names.l) <|
  bnd (fieldsR names.l res.l oneofs.l.length (joinL [scope, nm]) [] fields.l g) fun g =>
  bnd (oneofsR fields.l (joinL [scope, nm]) 0 oneofs.l g) fun g =>
  bnd (msgsR msgs (joinL [scope, nm]) (deep + 1) g) fun g =>
  enumsR (joinL [scope, nm]) enums.l g
noncomputable def msgsR : List MsgT → Txt → Nat → List Txt → Rs
 | [], _, _, g => .ok g
 | m :: l, scope, deep, g => bnd (msgR m scope deep g) fun g => msgsR l scope deep g
end
def impsF : List Txt → List ImpT → Option Flt
 | _, [] => none
 | ahead, i :: l => if pathB i.path = true then (if i.path ∈ ahead then some (61, i.path) else impsF (ahead ++ [i.path]) l) else some (60, i.path)
noncomputable def fileR (f : FileT) : Rs :=
 must (pathB f.path) 60 f.path <|
 must (decide (f.pack = []) || fullB f.pack) 60 f.pack <|
 must (decide (f.imps.l.length ≤ 256)) 68 f.path <|
 opt (impsF [] f.imps.l) <|
 bnd (msgsR f.msgs f.pack 0 []) fun g =>
 enumsR f.pack f.enums.l g
/-- Check's answer: an error's number and its place. -/
noncomputable def checkL (f : FileT) : Flt := match fileR f with
 | .ok _ => (0, [])
 | .error x => x
end Go.Proofs.YtdemnhdoadjhhaaGreatDoor
end
section
namespace Go.Proofs.YtdemnhdoadjhhaaGreatDoor
open Go.Sk
set_option maxRecDepth 100000
attribute [local irreducible] Cs Own Ex Pu Yld RT LJ QJ AtQ CT Rd QSp Sp FinQ Then LoopQ CutQ DT TakeQ EffQ
variable {B : World} {R : List HP}
theorem may_fn {n : Int} : Sp B Tryz.prog 82 [.int .i32 n] R [] (fun v H' => v = .bool (mayB n) ∧ H' = []) := by
 refine Sp.body Tryz.func82 rfl Tryz.ntmps82 (by simp) ?_
 simp only [argE, List.cons_append, List.nil_append, Nat.zero_add, Nat.reduceAdd]
 repeat' (first|refine gL ?_|(refine gv ?_;(refine⟨fun hc=>?_,fun hc=>?_⟩<;>first|(exfalso;omega)|skip))|fail)
 all_goals (refine AtQ.f1 Tryz.results82 rfl ?_ (fun _ h => h); congr 1; unfold mayB; symm)
 all_goals first | (refine decide_eq_true ?_; omega) | (refine decide_eq_false ?_; omega)
theorem free1_fn {s : SpanT} {x : Int} {b : Nat} : Sp B Tryz.prog 81 [.agg s.cells.toArray, .pointer (some ⟨b, 0, none⟩)] R [Cs b 21 [.int .i32 x]] (fun v H' => v = .bool (inS s x) ∧ H' = [Cs b 21 [.int .i32 x]]) := by
 refine Sp.body Tryz.func81 rfl Tryz.ntmps81 (by simp) ?_
 simp only [argE, List.cons_append, List.nil_append, Nat.zero_add, Nat.reduceAdd]
 repeat' (first|refine gL ?_|(refine gv ?_;(refine⟨fun hc=>?_,fun hc=>?_⟩<;>first|(exfalso;omega)|skip))|(refine gb ?_;intro b)|fail)
 all_goals (refine AtQ.f1 Tryz.results81 rfl ?_ (fun _ h => h.tail); congr 1; unfold inS; symm)
 all_goals first | (refine decide_eq_true ?_; omega) | (refine decide_eq_false ?_; omega)
set_option maxHeartbeats 1000000 in
theorem index_fn {a : Option Addr} {k c b : Nat} {x : Int} {l : List SpanT} (hl : l.length = k) (hk : k ≤ 140737488355328) (hR : ∀ H, Rd B (H ++ Cs b 21 [.int .i32 x] :: R) a k c 2 (l.flatMap SpanT.cells)) :
  Sp B Tryz.prog 80 [.slice a k c, .func (.func 81) #[] #[.pointer (some ⟨b, 0, none⟩)]] R [Cs b 21 [.int .i32 x]]
   (fun v H' => v = .int .i64 (ixf x l 0) ∧ H' = [Cs b 21 [.int .i32 x]]) := by
 refine Sp.body Tryz.func80 rfl Tryz.ntmps80 (by simp) ?_
 simp only [argE, List.cons_append, List.nil_append, Nat.zero_add, Nat.reduceAdd]
 try refine gL ?_
 refine CT.loop (α := Nat) (fun i => [(0, .slice a k c), (1, .func (.func 81) #[] #[.pointer (some ⟨b, 0, none⟩)]), (7, .int .i64 k), (8, .int .i64 i)]) (fun i => Pu (i ≤ k ∧ ixf x l 0 = ixf x (l.drop i) i) :: Cs b 21 [.int .i32 x] :: R) (fun i => k - i) 0
  ⟨rfl, rfl, rfl, rfl, trivial⟩ (fun w h => Sat.pu_in ⟨Nat.zero_le _, rfl⟩ h) (fun i => ?_)
 refine CT.pu fun ⟨hi, hix⟩ => ?_
 repeat' (first|refine gL ?_|(refine gv ?_;(refine⟨fun hc=>?_,fun hc=>?_⟩<;>first|(exfalso;omega)|skip))|fail)
 ·refine RT.ix T (j := i * 2) rfl rfl rfl (by exact hR []) (by omega) (by omega) (by omega) rfl rfl ?_
  have hil : i < l.length := by omega
  refine RT.ldra T rfl (by exact hR []) (l := l[i].cells) (flat_sub (f := SpanT.cells) (z := 2) (fun _ => rfl) l i _ (List.getElem?_eq_getElem hil)) rfl rfl rfl rfl ?_
  refine RT.callC T (caps := [.pointer (some ⟨b, 0, none⟩)]) rfl rfl fR_ (free1_fn (s := l[i]) (x := x) (b := b)) rfl rfl rfl ?_
  rintro _ _ ⟨rfl, rfl⟩
  rw [ixf_drop hil] at hix
  cases hin : inS l[i] x with
  | true =>
   rw [hin, if_pos rfl] at hix
   try refine gL ?_
   exact AtQ.f1 Tryz.results80 rfl (by rw [hix]) (fun _ h => h)
  | false =>
   rw [hin, if_neg (by decide)] at hix
   repeat' (first|refine gL ?_|(refine gv ?_;refine gk ?_)|fail)
   exact AtQ.loop (i + 1) ⟨rfl, rfl, rfl, rfl, trivial⟩ (fun w h => Sat.pu_in ⟨by omega, hix⟩ h) (by omega)
 ·refine AtQ.f1 Tryz.results80 rfl ?_ (fun _ h => h)
  rw [hix, List.drop_of_length_le (by omega)]
  rfl
end Go.Proofs.YtdemnhdoadjhhaaGreatDoor
end
section
namespace Go.Proofs.YtdemnhdoadjhhaaGreatDoor
open Go.Sk
set_option maxRecDepth 100000
attribute [local irreducible] Cs Own Ex Pu Yld RT LJ QJ AtQ CT Rd QSp Sp FinQ Then LoopQ CutQ DT TakeQ EffQ
variable {B : World} {R : List HP}
/-- What the going is given up by. -/
abbrev wv (e : Int) (t : Txt) : Value := .iface 100 (.agg #[.int .i64 e, vS t])
theorem must_fn {p : Bool} {e : Int} {t : Txt} : SpP B Tryz.prog 89 [.bool p, .int .i64 e, vS t] R [] (fun v H' => p = true ∧ H' = []) (fun v H' => p = false ∧ v = wv e t ∧ H' = []) := by
 refine SpP.body Tryz.func89 rfl Tryz.ntmps89 (by simp) ?_
 simp only [argE, List.cons_append, List.nil_append, Nat.zero_add, Nat.reduceAdd]
 cases p
 ·try refine gL ?_
  refine RT.buildW T rfl rfl rfl rfl rfl ?_
  refine RT.mkI rfl Tryz.underlying100 (by intro b h; cases h) rfl rfl ?_
  refine RT.panic rfl rfl ?_
  exact AtQ.finP (H' := []) ⟨rfl, rfl, rfl⟩ (fun w h => h)
 ·try refine gL ?_
  exact AtQ.ofFinN (AtQ.fin0 Tryz.results89 (H' := []) ⟨rfl, rfl⟩ (fun w h => h) _ (.inl rfl))
theorem bd {p : Prop} [Decidable p] (h : p) : decide p = true := decide_eq_true h
theorem kind_fn {k : Int} : Sp B Tryz.prog 142 [.int .u8 k] R [] (fun v H' => v = .bool (kindB k) ∧ H' = []) := by
 refine Sp.body Tryz.func142 rfl Tryz.ntmps142 (by simp) ?_
 simp only [argE, List.cons_append, List.nil_append, Nat.zero_add, Nat.reduceAdd]
 repeat' (first|refine gL ?_|(refine gv ?_;(refine⟨fun hc=>?_,fun hc=>?_⟩<;>first|(exfalso;omega)|skip))|fail)
 all_goals (refine AtQ.f1 Tryz.results142 rfl ?_ (fun _ h => h); congr 1; unfold kindB; symm; first | (refine decide_eq_true ?_; omega) | (refine decide_eq_false ?_; omega))
theorem named_fn {k : Int} : Sp B Tryz.prog 143 [.int .u8 k] R [] (fun v H' => v = .bool (namedB k) ∧ H' = []) := by
 refine Sp.body Tryz.func143 rfl Tryz.ntmps143 (by simp) ?_
 simp only [argE, List.cons_append, List.nil_append, Nat.zero_add, Nat.reduceAdd]
 repeat' (first|refine gL ?_|(refine gv ?_;(refine⟨fun hc=>?_,fun hc=>?_⟩<;>first|(exfalso;omega)|skip))|fail)
 all_goals (refine AtQ.f1 Tryz.results143 rfl ?_ (fun _ h => h); congr 1; unfold namedB; symm; first | (refine decide_eq_true ?_; omega) | (refine decide_eq_false ?_; omega))
theorem packs_fn {k : Int} : Sp B Tryz.prog 146 [.int .u8 k] R [] (fun v H' => v = .bool (packsB k) ∧ H' = []) := by
 refine Sp.body Tryz.func146 rfl Tryz.ntmps146 (by simp) ?_
 simp only [argE, List.cons_append, List.nil_append, Nat.zero_add, Nat.reduceAdd]
 repeat' (first|refine gL ?_|(refine gv ?_;(refine⟨fun hc=>?_,fun hc=>?_⟩<;>first|(exfalso;omega)|skip))|fail)
 all_goals (refine AtQ.f1 Tryz.results146 rfl ?_ (fun _ h => h); congr 1; unfold packsB; symm; first | (refine decide_eq_true ?_; omega) | (refine decide_eq_false ?_; omega))
theorem key_fn {k : Int} : Sp B Tryz.prog 145 [.int .u8 k] R [] (fun v H' => v = .bool (keyB k) ∧ H' = []) := by
 refine Sp.body Tryz.func145 rfl Tryz.ntmps145 (by simp) ?_
 simp only [argE, List.cons_append, List.nil_append, Nat.zero_add, Nat.reduceAdd]
 try refine gL ?_
 (refine RT.call T rfl fR_ (kind_fn (k := k)) rfl rfl rfl ?_; rintro _ _ ⟨rfl, rfl⟩; try simp only [List.cons_append, List.nil_append])
 cases hk : kindB k
 ·try refine gL ?_
  exact AtQ.f1 Tryz.results145 rfl (by unfold keyB; rw [hk]; rfl) (fun _ h => h)
 ·repeat' (first|refine gL ?_|(refine gv ?_;(refine⟨fun hc=>?_,fun hc=>?_⟩<;>first|(exfalso;omega)|skip))|fail)
  all_goals (refine AtQ.f1 Tryz.results145 rfl ?_ (fun _ h => h); congr 1; unfold keyB; rw [hk, Bool.true_and]; symm; first | (refine decide_eq_true ?_; omega) | (refine decide_eq_false ?_; omega))
/-! ### paths -/
theorem pathB_t {s : Txt} (h1 : s ≠ []) (h2 : s.length ≤ 255) (h3 : ∀ j, j < s.length → pathC (s.getD j 0) = true) : pathB s = true := by
 unfold pathB
 rw [decide_eq_true ⟨h1, h2⟩, Bool.true_and, List.all_eq_true]
 intro x hx
 obtain ⟨j, hj, rfl⟩ := List.getElem_of_mem hx
 have := h3 j hj
 rwa [List.getD_eq_getElem?_getD, List.getElem?_eq_getElem hj] at this
theorem pathB_f {s : Txt} {j : Nat} (hj : j < s.length) (h : pathC (s.getD j 0) = false) : pathB s = false := by
 unfold pathB
 rw [Bool.and_eq_false_iff]
 right
 rw [List.all_eq_false]
 rw [List.getD_eq_getElem?_getD, List.getElem?_eq_getElem hj] at h
 exact ⟨_, List.getElem_mem hj, by simpa using h⟩
set_option maxHeartbeats 1000000 in
theorem path_fn {s : Txt} (hb : Byt s) (hl : s.length ≤ 140737488355328) : Sp B Tryz.prog 90 [vS s] R [] (fun v H' => v = .bool (pathB s) ∧ H' = []) := by
 refine Sp.body Tryz.func90 rfl Tryz.ntmps90 (by simp) ?_
 simp only [argE, List.cons_append, List.nil_append, Nat.zero_add, Nat.reduceAdd]
 try refine gL ?_
 refine RT.eqs (l := s) (l' := []) rfl rfl hb Byt.nil rfl rfl (fun h => ?_) (fun h => ?_)
 ·try refine gL ?_
  exact AtQ.f1 Tryz.results90 rfl (by subst h; rfl) (fun _ h => h)
 ·repeat' (first|refine gL ?_|(refine gv ?_;(refine⟨fun hc=>?_,fun hc=>?_⟩<;>first|(exfalso;omega)|skip))|fail)
  ·exact AtQ.f1 Tryz.results90 rfl (by unfold pathB; rw [decide_eq_false (by omega)]; rfl) (fun _ h => h)
  refine CT.loop (α := Nat) (fun i => [(0, vS s), (13, .int .i64 s.length), (14, .int .i64 i)]) (fun i => Pu (i ≤ s.length ∧ ∀ j, j < i → pathC (s.getD j 0) = true) :: R) (fun i => s.length - i) 0 ⟨rfl, rfl, rfl, trivial⟩
   (fun w h => Sat.pu_in ⟨Nat.zero_le _, fun j hj => absurd hj (by omega)⟩ h) (fun i => CT.pu fun ⟨hi, ho⟩ => ?_)
  repeat' (first|refine gL ?_|(refine gv ?_;(refine⟨fun hc=>?_,fun hc=>?_⟩<;>first|(exfalso;omega)|skip))|fail)
  ·(refine RT.ixs T (j := i) rfl rfl (by omega) (by omega) (by assumption) rfl rfl rfl ?_)
   have hbi := hb.get (i := i) (by omega)
   repeat' (first|refine gL ?_|(refine gv ?_;first|(refine⟨fun hc=>?_,fun hc=>?_⟩<;>first|(exfalso;omega)|skip)|refine gk ?_)|fail)
   all_goals first
    | exact AtQ.f1 Tryz.results90 rfl (by rw [pathB_f (j := i) (by omega) (by unfold pathC; refine decide_eq_false ?_; omega)]) (fun _ h => h.tail)
    | exact AtQ.f1 Tryz.results90 rfl (by rw [pathB_f (j := i) (by omega) (by unfold pathC; refine decide_eq_false ?_; omega)]) (fun _ h => h)
    | exact AtQ.loop (i + 1) ⟨rfl, rfl, rfl, trivial⟩ (fun w h => Sat.pu_in ⟨by omega, fun j hj => by
      by_cases hji : j = i
      ·rw [hji]; unfold pathC; refine decide_eq_true ?_; omega
      ·exact ho j (by omega)⟩ h) (by omega)
  ·have hie : i = s.length := by omega
   subst hie
   exact AtQ.f1 Tryz.results90 rfl (by rw [pathB_t h (by omega) ho]) (fun _ h => h)
end Go.Proofs.YtdemnhdoadjhhaaGreatDoor
end
