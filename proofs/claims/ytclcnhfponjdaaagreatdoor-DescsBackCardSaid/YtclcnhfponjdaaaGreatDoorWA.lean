/- Merged: K1, K2, K3, K5, K6, K8, S1, J8, FDescsBack, D1, D2, D3, V1, V2, V3, V5, V8, B8, P40, V7, P50, D4, R1, R2, R3, R4, R5, R6, V6, R7, R8, R9, V12, R12r, T1, P42, P3, T2, Y1, L2, Y2, Y3, Y4. -/
import Derived.Test.YtclcnhfponjdaaaGreatDoorRows
import Derived.WalkKit
import Derived.ProofKit
import Derived.OpenShut
import Derived.Test.YtclcnhfponjdaaaGreatDoorSkA
import Derived.ReadAgain
import Derived.ChangeStays
import Derived.SizedLaws
import Derived.Test.YtclcnhfponjdaaaGreatDoorTb
import Derived.SevenTiedAt
import Derived.Stop.Joined
import Derived.Shelf.Vars
import Derived.Shelf.Unicode.DecodeAny
import Derived.Test.YtclcnhfponjdaaaGreatDoorProg
import Derived.LaidMore
import Derived.LaidLaws
import Derived.LaidHandle
import Derived.MakeChecks
import Derived.Lib.LaidU8
import Derived.Lib.LaidU8T
import Derived.Lib.LaidIn
import Derived.JoinedOf
import Derived.Lib.TrimUEq
import Derived.Test.YtclcnhfponjdaaaGreatDoorSkB
set_option linter.unusedVariables false
set_option linter.unusedSimpArgs false
section
namespace Go.Sk
open Go.ChangeShapes Go.WideShapes Go.ChangeAt Go.RowKit
/-- What lay before lies unchanged behind. -/
structure Old (W w' : World) : Prop where
 kept : W.keptBut w' (fun _ => False)
 fz : ∀ a : Addr, a.block < W.heap.size → w'.frozen? a = W.frozen? a
 size : W.heap.size ≤ w'.heap.size
theorem Sat.old {W w' : World} {H : List HP} (h : Sat W H w') : Old W w' := by
 refine ⟨⟨h.os, h.output, fun i hi => ?_⟩, fun a ha => ?_, h.size⟩
 ·rw [h.base i hi]
  cases hc : W.heap[i]? with
  | none => simp
  | some o => cases o <;> simp
 ·unfold World.frozen?
  rw [h.base _ ha]
theorem Old.frame {W w' : World} (h : Old W w') (may : MemPlace → Prop) : W.keptBut w' may := World.keptBut_mono (fun _ f => f.elim) h.kept
section
variable {H : Type} {enc : TypeId × Value → H} {P : Program}
theorem post_of_old {f : Func} {s : ChangeSpec} {apart fresh handsOn again : Bool} {W W' : World} {args : Array Value} {v : Value} {ds gs : List (DataW H)} {before pa pv : List MemPlace}
  (hW : DataW.Whole enc P f.params.toList s.vars apart W args.toList ds gs before)
  (hres : ∀ (b : Nat) (sp : Nat → Bool) (hd : Bool), DataW.TrodAll enc P W' b sp hd f.resultTypes.toList (v.resultList f.resultTypes.size) (s.fn H (ds ++ gs)).results [])
  (hargs : ∀ sp : Nat → Bool, (∀ p ∈ before, sp p.block = true) → DataW.TrodAll enc P W' 0 sp true f.params.toList args.toList (s.fn H (ds ++ gs)).args pa)
  (hvars : ∀ sp : Nat → Bool, (∀ p ∈ before, sp p.block = true) → DataW.TrodVars enc P W' sp s.vars (s.fn H (ds ++ gs)).vars pv)
  (hps : before = pa ++ pv) (ho : Old W W')
  (hok : ∀ (j : Nat) (t : TypeId) (r : Value), f.resultTypes[j]? = some t → (v.resultList f.resultTypes.size)[j]? = some r → Value.okWide P W' .any 0 t r) :
  s.post enc P f apart fresh handsOn again W args v W' := by
 have hold : ∀ p ∈ before, (fun b => decide (b < W.heap.size)) p.block = true := fun p hp => by simpa using hW.lt p hp
 have hlt := hW.lt
 refine ⟨ds, gs, before, [], pa, pv, hW, hres _ _ _, hargs _ hold, hvars _ hold, World.keptBut_mono (fun p hp => ⟨hp, ?_⟩) (ho.frame (· ∈ before)), fun _ => ?_⟩
 ·rw [hps, List.mem_append] at hp
  exact Or.inr hp
 ·obtain ⟨_, _, _, _, _, hz, hn⟩ := hW
  refine ⟨hok, _, _, ([] ++ pa) ++ pv, ⟨[] ++ pa, pv, trodAll_append (hargs _ (fun _ _ => rfl)) (hres _ _ _), hvars _ (fun _ _ => rfl), rfl, ?_, ?_⟩, ?_⟩
  ·intro b off hp
   have hb : MemPlace.cell b off ∈ before := by rw [hps]; simpa using hp
   rw [ho.fz _ (by simpa [MemPlace.block] using hlt _ hb)]
   exact hz b off hb
  ·intro ha
   have := hn ha
   rw [hps] at this
   simpa using this
  ·intro p hp _
   rw [hps]
   simpa using hp
end
end Go.Sk
end
section
namespace Go.Sk
open Go.ChangeShapes Go.WideShapes Go.ChangeAt Go.RowKit
section
variable {H : Type} {enc : TypeId × Value → H} {P : Program}
theorem Sat.same {W w' : World} {Hs : List HP} (h : Sat W Hs w') (p : MemPlace) (hp : p.block < W.heap.size) : W.sameAt w' p := by
 cases p <;> simp only [World.sameAt, MemPlace.block, World.cell?] at hp ⊢ <;> rw [h.base _ hp]
theorem TrodAll.stays {W w' : World} (hs : ∀ p : MemPlace, p.block < W.heap.size → W.sameAt w' p) {T : TypeId → Prop} (K : Kids P T) (hz : ∀ {t e : TypeId}, T t → P.underlying t = some (.slice e) → 0 < P.cellsOf e) {sp : Nat → Bool} :
  ∀ {ts : List TypeId} {vs : List Value} {ds : List (DataW H)} {ps : List MemPlace}, (∀ t ∈ ts, T t) → DataW.TrodAll enc P W 0 (fun _ => true) true ts vs ds ps → (∀ p ∈ ps, sp p.block = true) → DataW.TrodAll enc P w' 0 sp true ts vs ds ps
 | [], [], [], _, _, h, _ => h
 | _ :: _, _ :: _, _ :: _, _, hT, ⟨p, q, ⟨n, h1⟩, h2, e⟩, hsp => by
  subst e
  refine ⟨p, q, ⟨n, ?_⟩, TrodAll.stays hs K hz (fun t ht => hT t (List.mem_cons_of_mem _ ht)) h2 (fun x hx => hsp x (List.mem_append_right _ hx)), rfl⟩
  exact DataW.trod_stays K hz (fun h => by cases h) (hT _ (List.mem_cons_self ..)) h1 (fun x hx => hs x (DataW.trod_lt n _ _ _ h1 x hx)) (fun x hx => hsp x (List.mem_append_left _ hx))
end
end Go.Sk
namespace Go.Sk
open Go.ChangeShapes Go.WideShapes Go.ChangeAt Go.RowKit
section
variable {H : Type} {enc : TypeId × Value → H} {P : Program}
/-- From the walk of a law whose arguments may hold memory to its row's post. -/
theorem law_post {fid : FuncId} {f : Func} {s : ChangeSpec} {apart fresh handsOn again : Bool} {W : World} {args : Array Value} {ds gs : List (DataW H)} {before : List MemPlace} {T : TypeId → Prop} {tb : TypeId} (K : Kids P T)
  (hz : ∀ {t e : TypeId}, T t → P.underlying t = some (.slice e) → 0 < P.cellsOf e) (hT : ∀ t ∈ f.params.toList, T t) (hvars : s.vars = []) (hrt : f.resultTypes = #[tb]) (hub : P.underlying tb = some .bool)
  (hW : DataW.Whole enc P f.params.toList s.vars apart W args.toList ds gs before)
  (hfn : DataW.TrodAll enc P W 0 (fun _ => true) true f.params.toList args.toList ds before → (s.fn H (ds ++ [])).results = [.lit (.bool true)] ∧ (s.fn H (ds ++ [])).args = ds ∧ (s.fn H (ds ++ [])).vars = [])
  (hwalk : DataW.TrodAll enc P W 0 (fun _ => true) true f.params.toList args.toList ds before → Calls P fid args W fun e w' => e = .returned (.bool true) ∧ Sat W [] w') :
  Calls P fid args W fun e w' => ∃ v, e = .returned v ∧ s.post enc P f apart fresh handsOn again W args v w' := by
 have hW' := hW
 obtain ⟨p, q, hA, hV, rfl, hfz, hnd⟩ := hW
 rw [hvars] at hV
 obtain ⟨rfl, rfl⟩ := trodVars_none hV
 rw [List.append_nil] at hfn hwalk
 obtain ⟨e1, e2, e3⟩ := hfn hA
 refine (hwalk hA).mono fun e W' ⟨he, hs⟩ => ⟨_, he, ?_⟩
 refine post_of_old (pa := p) (pv := []) hW' (fun b sp hd => ?_) (fun sp hsp => ?_) (fun sp _ => ?_) rfl hs.old ?_
 ·rw [hrt, e1]
  exact trodAll_cons_mk (shut_bool hub _) trodAll_mk0
 ·rw [e2]
  exact TrodAll.stays (fun x hx => hs.same x hx) K hz hT hA (fun x hx => hsp x (List.mem_append_left _ hx))
 ·rw [e3, hvars]
  rfl
 ·exact ok_one hrt rfl (okWide_bool_mk hub _)
end
end Go.Sk
end
section
namespace Go.Sk
open Go.ChangeShapes Go.WideShapes Go.ChangeAt Go.RowKit
section
variable {H : Type} {enc : TypeId × Value → H} {P : Program} {W : World} {sp : Nat → Bool}
theorem Sat.cellOld {w : World} {Hs : List HP} (h : Sat W Hs w) {a : Addr} {v : Value} (hc : W.cell? a = some v) : w.cell? a = some v := by
 have hb : a.block < W.heap.size := World.block_lt_of_cell? W a hc
 unfold World.cell? at hc ⊢
 rw [h.base _ hb]
 exact hc
theorem getElem?_flat {z : Nat} : ∀ (es : List (List Value)), (∀ c ∈ es, c.length = z) → ∀ (j : Nat) (u : Value), es.flatten[j]? = some u → ∃ i c r, es[i]? = some c ∧ r < z ∧ j = i * z + r ∧ c[r]? = some u
 | [], _, j, u, h => by simp at h
 | c :: es, hz, j, u, h => by
  have hcz := hz c (by simp)
  rw [List.flatten_cons] at h
  by_cases hj : j < c.length
  ·rw [List.getElem?_append_left hj] at h
   exact ⟨0, c, j, rfl, by omega, by omega, h⟩
  ·rw [List.getElem?_append_right (by omega)] at h
   obtain ⟨i, c', r, h1, h2, h3, h4⟩ := getElem?_flat es (fun c hc => hz c (by simp [hc])) _ u h
   refine ⟨i + 1, c', r, by simpa using h1, h2, ?_, h4⟩
   rw [Nat.add_mul, Nat.one_mul]
   omega
end
end Go.Sk
end
section
namespace Go.Sk
open Go.ChangeShapes Go.WideShapes Go.ChangeAt Go.RowKit
section
variable {H : Type} {enc : TypeId × Value → H} {P : Program} {W : World}
/-- Nothing in it weighs more than may be reached. -/
def Light (P : Program) (t : TypeId) (d : DataW H) : Prop := ∀ q ∈ d.weights P t, q ≤ reachBytes
theorem light_all {e : TypeId} : ∀ {l : List (DataW H)}, (∀ q ∈ DataW.weightsAll P e l, q ≤ reachBytes) → ∀ d ∈ l, Light P e d
 | [], _, d, h => by cases h
 | x :: l, hw, d, h => by
  simp only [DataW.weightsAll, List.mem_append] at hw
  rcases List.mem_cons.1 h with rfl | h
  ·exact fun q hq => hw q (.inl hq)
  ·exact light_all (fun q hq => hw q (.inr hq)) d h
theorem light_each {ts : List TypeId} {ds : List (DataW H)} (hw : ∀ q ∈ DataW.weightsEach P ts ds, q ≤ reachBytes) {j : Nat} {t : TypeId} {d : DataW H} (ht : ts[j]? = some t) (hd : ds[j]? = some d) : Light P t d :=
 fun q hq => hw q (DataW.weights_mem_each ht hd q hq)
theorem trod_field {t : TypeId} {cs : List Value} {x : DataW H × List MemPlace} {fuel : Nat} {fs : Array Field} (ht : P.underlying t = some (.struct fs)) (h : DataW.trod enc P W 0 (fun _ => true) true fuel t cs = some x) (hw : Light P t x.1) (i : Nat) (f : Field) (hf : fs[i]? = some f) :
  ∃ m y, DataW.trod enc P W 0 (fun _ => true) true m f.type ((cs.drop f.offset).take (P.cellsOf f.type)) = some y ∧ Light P f.type y.1 := by
 obtain ⟨xs, n, _, rfl, _, hl, hg⟩ := DataW.trod_struct ht h
 have hi : i < xs.length := by rw [hl]; exact (Array.getElem?_eq_some_iff.1 hf).1
 refine ⟨n, xs[i], ?_, ?_⟩
 ·rw [hg i f hf, List.getElem?_eq_getElem hi]
 ·have hw' : ∀ q ∈ DataW.weightsEach P (fs.toList.map (·.type)) (xs.map (·.1)), q ≤ reachBytes := by
   intro q hq
   refine hw q ?_
   simp only [DataW.weights, ht]
   exact hq
  refine light_each hw' (j := i) ?_ ?_
  ·rw [List.getElem?_map, Array.getElem?_toList, hf]; rfl
  ·rw [List.getElem?_map, List.getElem?_eq_getElem hi]; rfl
end
end Go.Sk
end
section
namespace Go.Proofs.YtclcnhfponjdaaaGreatDoor
open Go.Sk Go.ChangeShapes Go.WideShapes Go.ChangeAt Go.RowKit
set_option maxRecDepth 100000
theorem rowed : laidOutB Tryz.prog = true := by kernel_rfl
theorem mapped : mapsRowed Tryz.prog = true := by kernel_rfl
theorem kids : Kids Tryz.prog (· < Tryz.prog.types.size) := kids_rows rowed mapped
theorem fullAll : ((List.range Tryz.prog.types.size).all fun t => match Tryz.prog.underlying t with | some (.slice e) => decide (0 < Tryz.prog.cellsOf e) | _ => true) = true := by kernel_rfl
theorem full {t e : TypeId} (h : t < Tryz.prog.types.size) (he : Tryz.prog.underlying t = some (.slice e)) : 0 < Tryz.prog.cellsOf e := slices_full_of Tryz.prog fullAll t e h he
end Go.Proofs.YtclcnhfponjdaaaGreatDoor
namespace Go.Sk
open Go.ChangeShapes Go.WideShapes Go.ChangeAt Go.RowKit
theorem Sp.law2 {P : Program} {W : World} {f : FuncId} {vs : List Value} {v : Value} (h : Sp W P f vs [] [] (fun u H' => u = v ∧ H' = [])) : Calls P f vs.toArray W fun e w' => e = .returned v ∧ Sat W [] w' :=
 (h W (Sat.refl W)).mono fun _ _ ⟨_, _, he, ⟨hv, hh⟩, hs⟩ => ⟨by rw [he, hv], by subst hh; exact hs⟩
end Go.Sk
end
section
namespace Go.Proofs.YtclcnhfponjdaaaGreatDoor
open Go.Sk Go.ChangeShapes Go.WideShapes Go.ChangeAt Go.RowKit
set_option linter.unusedVariables false
/-- As the kit's 'returnsInHanded_of_change_and', the world's shape being told too. -/
theorem returns_and_shaped {H : Type} {enc : TypeId × Value → H} {a : Assume} {C : Checked} {os : Os} {f : FuncId} {fn : Func} {s : ChangeSpec} {conds : List PathCond} {apart fresh handsOn again : Bool} {X : World → Array Value → Prop}
  (hX : ∀ (w w' : World) (args : Array Value), w.heap = w'.heap → X w args → X w' args)
  (own : ownKnob C.prog.godebug = none) (started : os.Started) (noInit : C.prog.inits.idxOf? f = none) (hfn : C.prog.funcs[f]? = some fn)
  (witness : ∃ (w : World) (tape : Tape) (i : Input), w.os = os ∧ (w.forCall tape i).Shaped C.prog ∧ i.vars = [] ∧ Input.okWide C.prog (w.forCall tape i) .any w.heap.size f i ∧
   ((s.pre enc C.prog fn conds apart (w.forCall tape i).memory i.args ∧ X (w.forCall tape i).memory i.args) ∧ sizedMet enc C.prog fn (OpenSpec.ofChange s) apart (w.forCall tape i).memory i.args) ∧ a.holds C.prog (lone (Frame.enter C.prog f i.args .normal) [] (w.forCall tape i)))
  (contract : ∀ (W : World) (base : Nat) (args : Array Value) (ds gs : List (DataW H)) (before : List MemPlace),
   (∀ (j : Nat) t v, fn.params[j]? = some t → args[j]? = some v → Value.okWide C.prog W .any base t v) →
   DataW.Whole enc C.prog fn.params.toList s.vars apart W args.toList ds gs before →
   conds.all (PathCond.test C.prog ⟨fn.params.toList, ds, s.plain.varTypes C.prog, gs⟩) = true →
   (DataW.weightsEach C.prog (fn.params.toList ++ s.plain.varTypes C.prog) (ds ++ gs)).all (· ≤ reachBytes) = true → X W args → W.ShapedOpen C.prog →
   a.holds C.prog (lone (Frame.enter C.prog f args .normal) [] W) →
   Calls C.prog f args W fun e W' => ∃ v, e = .returned v ∧ s.post enc C.prog fn apart fresh handsOn again W args v W') :
  ReturnsInHanded a C os f .any (fun w args => (s.pre enc C.prog fn conds apart w args ∧ X w args) ∧ sizedMet enc C.prog fn (OpenSpec.ofChange s) apart w args) (s.post enc C.prog fn apart fresh handsOn again) := by
 refine returnsInHanded_of_calls own started noInit witness ?_
 intro w tape i _ hsh _ hok hpre hholds
 obtain ⟨_, _, _, fn', hfn', _, _, _, _, hval⟩ := hok
 have e : fn' = fn := Option.some.inj (hfn'.symm.trans hfn)
 subst e
 obtain ⟨⟨⟨ds, gs, before, hw, hc⟩, hx⟩, hz⟩ := hpre
 have hw' := DataW.Whole.of_heap (w' := w.forCall tape i) (by rfl) hw
 refine (contract (w.forCall tape i) w.heap.size i.args ds gs before hval hw' hc (hz.weights hw) (hX _ _ _ (by rfl) hx) hsh hholds).mono fun e W' ⟨v, he, hp⟩ => ?_
 subst he
 exact ChangeSpec.post_blind hp

end Go.Proofs.YtclcnhfponjdaaaGreatDoor
end
section
namespace Go.Proofs
open Go.Shelf
def Tryz.lays197_ren : Go.Shelf.Ren := ⟨fun | 197 => 291 | 260 => 298 | n => n, fun | 9 => 9 | 21 => 21 | 3 => 3 | 4 => 4 | 5 => 5 | 105 => 447 | 119 => 454 | 0 => 0 | 46 => 316 | 139 => 457 | 138 => 456 | n => n, fun | 3 => 0 | 4 => 1 | n => n⟩
theorem Tryz.lays197 : Go.Proofs.Lays.n197 Tryz.prog Tryz.lays197_ren := {
 mixed := by kernel_rfl
 f197 := Tryz.func291.trans (congrArg some (by kernel_rfl))
 f260 := Tryz.func298.trans (congrArg some (by kernel_rfl))
 t0 := Tryz.underlying0
 a0 := Tryz.isAgg0
 z0 := Tryz.sizeOf0
 v0 := Tryz.zeroValue0
 t3 := Tryz.underlying3
 a3 := Tryz.isAgg3
 z3 := Tryz.sizeOf3
 v3 := Tryz.zeroValue3
 t4 := Tryz.underlying4
 a4 := Tryz.isAgg4
 z4 := Tryz.sizeOf4
 v4 := Tryz.zeroValue4
 t5 := Tryz.underlying5
 a5 := Tryz.isAgg5
 z5 := Tryz.sizeOf5
 v5 := Tryz.zeroValue5
 t9 := Tryz.underlying9
 a9 := Tryz.isAgg9
 z9 := Tryz.sizeOf9
 v9 := Tryz.zeroValue9
 t21 := Tryz.underlying21
 a21 := Tryz.isAgg21
 z21 := Tryz.sizeOf21
 v21 := Tryz.zeroValue21
 t46 := Tryz.underlying316
 a46 := Tryz.isAgg316
 z46 := Tryz.sizeOf316
 v46 := Tryz.zeroValue316
 t105 := Tryz.underlying447
 a105 := Tryz.isAgg447
 z105 := Tryz.sizeOf447
 v105 := Tryz.zeroValue447
 t119 := Tryz.underlying454
 a119 := Tryz.isAgg454
 z119 := Tryz.sizeOf454
 t138 := Tryz.underlying456
 a138 := Tryz.isAgg456
 z138 := Tryz.sizeOf456
 v138 := Tryz.zeroValue456
 t139 := Tryz.underlying457
 a139 := Tryz.isAgg457
 z139 := Tryz.sizeOf457
 v139 := Tryz.zeroValue457
 g3 := by kernel_rfl
 g4 := by kernel_rfl }
open Go.RowKit Go.Lib in
theorem Tryz.utf8_DecodeRuneInString (s : ByteArray) (w : World) (hT : Lib.Utf8Tabs 0 1 w) :
  Calls Tryz.prog 291 #[.string s] w fun e w' => e = .returned (.tuple #[.int .i32 (Lib.decodeGo s).1, .int .i64 (Lib.decodeGo s).2]) ∧ Below w.heap.size w w' := Any.utf8_DecodeRuneInString Tryz.lays197 s w hT
end Go.Proofs
end
section
namespace Go.Proofs.YtclcnhfponjdaaaGreatDoor
set_option maxRecDepth 1000000
/-- What the rows list. -/
def laidL : List (String × DataW Unit) := [("unicode/utf8.acceptRanges", Rows.laid_unicode_utf8_acceptRanges), ("unicode/utf8.first", Rows.laid_unicode_utf8_first)]
theorem own : ownKnob Tryz.prog.godebug = none := by kernel_rfl
theorem laidAcc : (Rows.laid_unicode_utf8_acceptRanges : DataW Unit) = Lib.acceptData := by kernel_rfl
theorem laidFirst : Rows.laid_unicode_utf8_first = Lib.firstData := by kernel_rfl
def laidL2 : List (String × DataW Unit) := [("unicode/utf8.acceptRanges", Lib.acceptData), ("unicode/utf8.first", Lib.firstData)]
theorem laidL_eq2 : laidL = laidL2 := by unfold laidL; rw [laidAcc, laidFirst]; rfl
theorem utf8_of {W : World} (h : laidMetH Tryz.prog laidL W) : Lib.Utf8Tabs 0 1 W := by
 rw [laidL_eq2, MakeChecks.laidMetH_plain _ _ _ (by kernel_rfl)] at h
 exact utf8Tabs_of_reads (ρ := Tryz.lays197_ren) { Tryz.lays197 with } ⟨by kernel_rfl, by kernel_rfl, by kernel_rfl, by kernel_rfl, by kernel_rfl, by kernel_rfl, by kernel_rfl⟩ (Lib.laidMet.reads h (.tail _ (.head _))) (Lib.laidMet.reads h (.head _))
/-- The settled world, the two tables laid. -/
noncomputable def laidWorld (os : Os) : World :=
 let w0 := World.holding Tryz.prog os ⟨#[], #[], []⟩
 let put (h : Array Obj) (g : Nat) (cs : Array Value) : Array Obj := h.modify g fun
  | .cells _ t frozen => .cells cs t frozen
  | o => o
 let h1 := put w0.heap 0 (Lib.firstTab.map fun z => Value.int .u8 z).toArray
 let h2 := put h1 1 ((List.range 16).flatMap fun i => [Value.int .u8 (Lib.accLo i), Value.int .u8 (Lib.accHi i)]).toArray
 { w0 with heap := h2 }
theorem laid_met (os : Os) (args : Array Value) : laidMetH Tryz.prog laidL ((laidWorld os).forCall (fun _ _ => 0) ⟨#[], args, []⟩).memory := by
 rw [laidL_eq2, MakeChecks.laidMetH_plain _ _ _ (by kernel_rfl)]
 exact (LaidIn.of_run [1, 0] 8 (by kernel_rfl) (by kernel_rfl) (by kernel_rfl) (by kernel_rfl)).met
end Go.Proofs.YtclcnhfponjdaaaGreatDoor
end
section
namespace Go.Proofs.YtclcnhfponjdaaaGreatDoor.descsBackFacts
open Go
set_option maxRecDepth 1000000
theorem and3 {a b : Bool} (h : a = true) (k : b = true) : (a && b) = true := by rw [h, k]; rfl
theorem fact0 : (fun (P : Program) (f : FuncId) (fn : Func) (s : ChangeSpec) (c : OpenClaim) => (c.wf (OpenSpec.ofChange s) : Bool)) Tryz.prog 7 Tryz.f7 Rows.descsBackSpec Rows.descsBackRow = true := by kernel_rfl
theorem fact1 : (fun (P : Program) (f : FuncId) (fn : Func) (s : ChangeSpec) (c : OpenClaim) => (laidOutB P : Bool)) Tryz.prog 7 Tryz.f7 Rows.descsBackSpec Rows.descsBackRow = true := by kernel_rfl
theorem fact2 : (fun (P : Program) (f : FuncId) (fn : Func) (s : ChangeSpec) (c : OpenClaim) => (mapsRowed P : Bool)) Tryz.prog 7 Tryz.f7 Rows.descsBackSpec Rows.descsBackRow = true := by kernel_rfl
theorem fact3 : (fun (P : Program) (f : FuncId) (fn : Func) (s : ChangeSpec) (c : OpenClaim) => (fn.params.all (P.readableRec ·) : Bool)) Tryz.prog 7 Tryz.f7 Rows.descsBackSpec Rows.descsBackRow = true := by kernel_rfl
theorem fact4 : (fun (P : Program) (f : FuncId) (fn : Func) (s : ChangeSpec) (c : OpenClaim) => (namedTie P c.named s.vars : Bool)) Tryz.prog 7 Tryz.f7 Rows.descsBackSpec Rows.descsBackRow = true := by kernel_rfl
theorem fact5 : (fun (P : Program) (f : FuncId) (fn : Func) (s : ChangeSpec) (c : OpenClaim) => ((c.stops == []) : Bool)) Tryz.prog 7 Tryz.f7 Rows.descsBackSpec Rows.descsBackRow = true := by kernel_rfl
theorem fact6 : (fun (P : Program) (f : FuncId) (fn : Func) (s : ChangeSpec) (c : OpenClaim) => ((P.stops == []) : Bool)) Tryz.prog 7 Tryz.f7 Rows.descsBackSpec Rows.descsBackRow = true := by kernel_rfl
theorem fact7 : (fun (P : Program) (f : FuncId) (fn : Func) (s : ChangeSpec) (c : OpenClaim) => ((c.knobs == []) : Bool)) Tryz.prog 7 Tryz.f7 Rows.descsBackSpec Rows.descsBackRow = true := by kernel_rfl
theorem fact8 : (fun (P : Program) (f : FuncId) (fn : Func) (s : ChangeSpec) (c : OpenClaim) => ((P.stopKnobs == []) : Bool)) Tryz.prog 7 Tryz.f7 Rows.descsBackSpec Rows.descsBackRow = true := by kernel_rfl
theorem fact9 : (fun (P : Program) (f : FuncId) (fn : Func) (s : ChangeSpec) (c : OpenClaim) => ((c.inPlace == P.inPlace f) : Bool)) Tryz.prog 7 Tryz.f7 Rows.descsBackSpec Rows.descsBackRow = true := by kernel_rfl
theorem fact10 : (fun (P : Program) (f : FuncId) (fn : Func) (s : ChangeSpec) (c : OpenClaim) => ((c.unfollowed == P.unfollowed f) : Bool)) Tryz.prog 7 Tryz.f7 Rows.descsBackSpec Rows.descsBackRow = true := by kernel_rfl
theorem fact11 : (fun (P : Program) (f : FuncId) (fn : Func) (s : ChangeSpec) (c : OpenClaim) => ((c.recurses == P.recurses f) : Bool)) Tryz.prog 7 Tryz.f7 Rows.descsBackSpec Rows.descsBackRow = true := by kernel_rfl
theorem fact12 : (fun (P : Program) (f : FuncId) (fn : Func) (s : ChangeSpec) (c : OpenClaim) => ((c.named == P.varsNamed f) : Bool)) Tryz.prog 7 Tryz.f7 Rows.descsBackSpec Rows.descsBackRow = true := by kernel_rfl
theorem fact13 : (fun (P : Program) (f : FuncId) (fn : Func) (s : ChangeSpec) (c : OpenClaim) => ((c.maps == (fn.params.toList ++ s.plain.varTypes P).any (P.mapsRec ·)) : Bool)) Tryz.prog 7 Tryz.f7 Rows.descsBackSpec Rows.descsBackRow = true := by kernel_rfl
theorem fact14 : (fun (P : Program) (f : FuncId) (fn : Func) (s : ChangeSpec) (c : OpenClaim) => ((c.ifaces == (fn.params.toList ++ s.plain.varTypes P).any (P.ifacesRec ·)) : Bool)) Tryz.prog 7 Tryz.f7 Rows.descsBackSpec Rows.descsBackRow = true := by kernel_rfl
theorem fact15 : (fun (P : Program) (f : FuncId) (fn : Func) (s : ChangeSpec) (c : OpenClaim) => ((c.mapsOut == P.mapsAmong fn.resultTypes.toList) : Bool)) Tryz.prog 7 Tryz.f7 Rows.descsBackSpec Rows.descsBackRow = true := by kernel_rfl
theorem fact16 : (fun (P : Program) (f : FuncId) (fn : Func) (s : ChangeSpec) (c : OpenClaim) => ((c.loops == (fn.params.toList ++ s.plain.varTypes P).any (P.loopsFrom ·)) : Bool)) Tryz.prog 7 Tryz.f7 Rows.descsBackSpec Rows.descsBackRow = true := by kernel_rfl
theorem fact17 : (fun (P : Program) (f : FuncId) (fn : Func) (s : ChangeSpec) (c : OpenClaim) => ((c.wideKeys == (fn.params.toList ++ s.plain.varTypes P ++ fn.resultTypes.toList).any (P.wideKeysFrom ·)) : Bool)) Tryz.prog 7 Tryz.f7 Rows.descsBackSpec Rows.descsBackRow = true := by kernel_rfl
theorem fact18 : (fun (P : Program) (f : FuncId) (fn : Func) (s : ChangeSpec) (c : OpenClaim) => (s.vars.all (P.varReadable ·) : Bool)) Tryz.prog 7 Tryz.f7 Rows.descsBackSpec Rows.descsBackRow = true := by kernel_rfl
theorem fact19 : (fun (P : Program) (f : FuncId) (fn : Func) (s : ChangeSpec) (c : OpenClaim) => (fn.resultTypes.all (fun t => P.readableRec t && decide (t < P.types.size)) : Bool)) Tryz.prog 7 Tryz.f7 Rows.descsBackSpec Rows.descsBackRow = true := by kernel_rfl
theorem fact20 : (fun (P : Program) (f : FuncId) (fn : Func) (s : ChangeSpec) (c : OpenClaim) => ((c.ifacesOut == fn.resultTypes.toList.any (P.ifacesRec ·)) : Bool)) Tryz.prog 7 Tryz.f7 Rows.descsBackSpec Rows.descsBackRow = true := by kernel_rfl
theorem fact21 : (fun (P : Program) (f : FuncId) (fn : Func) (s : ChangeSpec) (c : OpenClaim) => ((c.loopsOut == fn.resultTypes.toList.any (P.loopsFrom ·)) : Bool)) Tryz.prog 7 Tryz.f7 Rows.descsBackSpec Rows.descsBackRow = true := by kernel_rfl
theorem fact22 : (fun (P : Program) (f : FuncId) (fn : Func) (s : ChangeSpec) (c : OpenClaim) => ((c.plainKeys == P.plainKeys) : Bool)) Tryz.prog 7 Tryz.f7 Rows.descsBackSpec Rows.descsBackRow = true := by kernel_rfl
theorem fact23 : (fun (P : Program) (f : FuncId) (fn : Func) (s : ChangeSpec) (c : OpenClaim) => (c.shortTexts.isNone : Bool)) Tryz.prog 7 Tryz.f7 Rows.descsBackSpec Rows.descsBackRow = true := by kernel_rfl
theorem fact24 : (fun (P : Program) (f : FuncId) (fn : Func) (s : ChangeSpec) (c : OpenClaim) => (P.stopsHeard : Bool)) Tryz.prog 7 Tryz.f7 Rows.descsBackSpec Rows.descsBackRow = true := by kernel_rfl
theorem fact25 : (fun (P : Program) (f : FuncId) (fn : Func) (s : ChangeSpec) (c : OpenClaim) => (P.mayEnter : Bool)) Tryz.prog 7 Tryz.f7 Rows.descsBackSpec Rows.descsBackRow = true := by kernel_rfl
theorem fact26 : (fun (P : Program) (f : FuncId) (fn : Func) (s : ChangeSpec) (c : OpenClaim) => ((c.lifted == P.liftsFinal) : Bool)) Tryz.prog 7 Tryz.f7 Rows.descsBackSpec Rows.descsBackRow = true := by kernel_rfl
theorem fact27 : (fun (P : Program) (f : FuncId) (fn : Func) (s : ChangeSpec) (c : OpenClaim) => ((P.make == some c.make) : Bool)) Tryz.prog 7 Tryz.f7 Rows.descsBackSpec Rows.descsBackRow = true := by kernel_rfl
theorem fact28 : (fun (P : Program) (f : FuncId) (fn : Func) (s : ChangeSpec) (c : OpenClaim) => ((c.kinds == (if c.domain.isEmpty then [] else fn.params.toList.map fun t => match P.underlying t with | some (.int k) => some k | _ => none)) : Bool)) Tryz.prog 7 Tryz.f7 Rows.descsBackSpec Rows.descsBackRow = true := by kernel_rfl
theorem fact29 : (fun (P : Program) (f : FuncId) (fn : Func) (s : ChangeSpec) (c : OpenClaim) => ((c.pinned == c.pinnedBy) : Bool)) Tryz.prog 7 Tryz.f7 Rows.descsBackSpec Rows.descsBackRow = true := by kernel_rfl
theorem fact30 : (fun (P : Program) (f : FuncId) (fn : Func) (s : ChangeSpec) (c : OpenClaim) => ((c.veiled == (fn.params.toList ++ s.plain.varTypes P ++ fn.resultTypes.toList).any (P.veiledRec ·)) : Bool)) Tryz.prog 7 Tryz.f7 Rows.descsBackSpec Rows.descsBackRow = true := by kernel_rfl
theorem fact31 : (fun (P : Program) (f : FuncId) (fn : Func) (s : ChangeSpec) (c : OpenClaim) => (c.veiledFits P fn.params.toList (fn.params.toList ++ s.plain.varTypes P ++ fn.resultTypes.toList) : Bool)) Tryz.prog 7 Tryz.f7 Rows.descsBackSpec Rows.descsBackRow = true := by kernel_rfl
theorem closed : joinedFacts Tryz.prog 7 Tryz.f7 Rows.descsBackSpec Rows.descsBackRow = true := (and3 (and3 (and3 (and3 (and3 (and3 (and3 (and3 (and3 (and3 (and3 (and3 (and3 (and3 (and3 (and3 (and3 (and3 (and3 (and3 (and3 (and3 (and3 (and3 (and3 (and3 (and3 (and3 (and3 (and3 (and3 fact0 fact1) fact2) fact3) fact4) fact5) fact6) fact7) fact8) fact9) fact10) fact11) fact12) fact13) fact14) fact15) fact16) fact17) fact18) fact19) fact20) fact21) fact22) fact23) fact24) fact25) fact26) fact27) fact28) fact29) fact30) fact31)
end Go.Proofs.YtclcnhfponjdaaaGreatDoor.descsBackFacts
end
section
namespace Go.Sk
abbrev Txt := List Int
/-- A row: where it lies, its room, what it holds. -/
structure Rw (α : Type) where
 a : Option Addr
 c : Nat
 l : List α
def Rw.v {α : Type} (r : Rw α) : Value := .slice r.a r.l.length r.c
abbrev vS (t : Txt) : Value := .string (str t)
structure SpanT where
 f : Int
 t : Int
structure EValT where
 nm : Txt
 num : Int
structure FieldT where
 nm : Txt
 num : Int
 card : Int
 kind : Int
 ty : Txt
 key : Int
 oneof : Int
 packed : Int
 js : Txt
structure ImpT where
 path : Txt
 pub : Bool
structure EnumT where
 nm : Txt
 vals : Rw EValT
 ali : Bool
 res : Rw SpanT
 names : Rw Txt
inductive MsgT where
 | mk (nm : Txt) (fields : Rw FieldT) (oneofs : Rw Txt) (ma : Option Addr) (mc : Nat) (msgs : List MsgT) (enums : Rw EnumT) (res : Rw SpanT) (names : Rw Txt)
structure FileT where
 path : Txt
 pack : Txt
 imps : Rw ImpT
 ma : Option Addr
 mc : Nat
 msgs : List MsgT
 enums : Rw EnumT
namespace MsgT
def nm : MsgT → Txt | mk n _ _ _ _ _ _ _ _ => n
def fields : MsgT → Rw FieldT | mk _ f _ _ _ _ _ _ _ => f
def oneofs : MsgT → Rw Txt | mk _ _ o _ _ _ _ _ _ => o
def ma : MsgT → Option Addr | mk _ _ _ a _ _ _ _ _ => a
def mc : MsgT → Nat | mk _ _ _ _ c _ _ _ _ => c
def msgs : MsgT → List MsgT | mk _ _ _ _ _ l _ _ _ => l
def enums : MsgT → Rw EnumT | mk _ _ _ _ _ _ e _ _ => e
def res : MsgT → Rw SpanT | mk _ _ _ _ _ _ _ r _ => r
def names : MsgT → Rw Txt | mk _ _ _ _ _ _ _ _ n => n
end MsgT
def SpanT.cells (s : SpanT) : List Value := [.int .i32 s.f, .int .i32 s.t]
def EValT.cells (v : EValT) : List Value := [vS v.nm, .int .i32 v.num]
def FieldT.cells (f : FieldT) : List Value := [vS f.nm, .int .i32 f.num, .int .u8 f.card, .int .u8 f.kind, vS f.ty, .int .u8 f.key, .int .i64 f.oneof, .int .u8 f.packed, vS f.js]
def ImpT.cells (i : ImpT) : List Value := [vS i.path, .bool i.pub]
def EnumT.cells (e : EnumT) : List Value := [vS e.nm, e.vals.v, .bool e.ali, e.res.v, e.names.v]
def MsgT.cells (m : MsgT) : List Value := [vS m.nm, m.fields.v, m.oneofs.v, .slice m.ma m.msgs.length m.mc, m.enums.v, m.res.v, m.names.v]
def FileT.cells (f : FileT) : List Value := [vS f.path, vS f.pack, f.imps.v, .slice f.ma f.msgs.length f.mc, f.enums.v]
/-! ### how deep -/
mutual
def MsgT.deep : MsgT → Nat
 | .mk _ _ _ _ _ l _ _ _ => MsgT.deepL l + 1
def MsgT.deepL : List MsgT → Nat
 | [] => 0
 | m :: l => max (MsgT.deep m) (MsgT.deepL l)
end
theorem MsgT.deep_mem : ∀ {l : List MsgT} {m : MsgT}, m ∈ l → m.deep ≤ MsgT.deepL l
 | [], _, h => by cases h
 | x :: l, m, h => by
  unfold MsgT.deepL
  rcases List.mem_cons.1 h with rfl | h
  ·exact Nat.le_max_left _ _
  ·exact Nat.le_trans (MsgT.deep_mem h) (Nat.le_max_right _ _)
/-! ### that its rows can be read -/
section
variable (X : Option Addr → Nat → Nat → Nat → List Value → Prop)
/-- Each row is a row X: address, how many, room, size, cells. -/
def EnumT.In (e : EnumT) : Prop := X e.vals.a e.vals.l.length e.vals.c 2 (e.vals.l.flatMap EValT.cells) ∧ X e.res.a e.res.l.length e.res.c 2 (e.res.l.flatMap SpanT.cells) ∧ X e.names.a e.names.l.length e.names.c 1 (e.names.l.map vS)
mutual
def MsgT.In : MsgT → Prop
 | .mk _ fields oneofs ma mc msgs enums res names => X fields.a fields.l.length fields.c 9 (fields.l.flatMap FieldT.cells) ∧ X oneofs.a oneofs.l.length oneofs.c 1 (oneofs.l.map vS) ∧ X ma msgs.length mc 7 (msgs.flatMap MsgT.cells) ∧
  X enums.a enums.l.length enums.c 5 (enums.l.flatMap EnumT.cells) ∧ (∀ e ∈ enums.l, e.In X) ∧ X res.a res.l.length res.c 2 (res.l.flatMap SpanT.cells) ∧ X names.a names.l.length names.c 1 (names.l.map vS) ∧ MsgT.InL msgs
def MsgT.InL : List MsgT → Prop
 | [] => True
 | m :: l => MsgT.In m ∧ MsgT.InL l
end
end
theorem MsgT.inL_mem {X : Option Addr → Nat → Nat → Nat → List Value → Prop} : ∀ {l : List MsgT} {m : MsgT}, MsgT.InL X l → m ∈ l → MsgT.In X m
 | [], _, _, h => by cases h
 | x :: l, m, hl, h => by
  unfold MsgT.InL at hl
  rcases List.mem_cons.1 h with rfl | h
  ·exact hl.1
  ·exact MsgT.inL_mem hl.2 h
/-! ### what such trees hold -/
def OkT (t : Txt) : Prop := Byt t ∧ t.length ≤ 140737488355328
def OkN {α : Type} (r : Rw α) : Prop := r.l.length ≤ 140737488355328 ∧ r.l.length ≤ r.c ∧ r.c ≤ 9223372036854775807
def I32 (x : Int) : Prop := -2147483648 ≤ x ∧ x ≤ 2147483647
def U8 (x : Int) : Prop := 0 ≤ x ∧ x ≤ 255
def SpanT.Ok (s : SpanT) : Prop := I32 s.f ∧ I32 s.t
def EValT.Ok (v : EValT) : Prop := OkT v.nm ∧ I32 v.num
def FieldT.Ok (f : FieldT) : Prop := OkT f.nm ∧ I32 f.num ∧ U8 f.card ∧ U8 f.kind ∧ OkT f.ty ∧ U8 f.key ∧ (-9223372036854775808 ≤ f.oneof ∧ f.oneof ≤ 9223372036854775807) ∧ U8 f.packed ∧ OkT f.js
def ImpT.Ok (i : ImpT) : Prop := OkT i.path
def EnumT.Ok (e : EnumT) : Prop := OkT e.nm ∧ OkN e.vals ∧ (∀ v ∈ e.vals.l, v.Ok) ∧ OkN e.res ∧ (∀ s ∈ e.res.l, s.Ok) ∧ OkN e.names ∧ ∀ t ∈ e.names.l, OkT t
mutual
def MsgT.Ok : MsgT → Prop
 | .mk nm fields oneofs ma mc msgs enums res names => OkT nm ∧ (OkN fields ∧ ∀ f ∈ fields.l, f.Ok) ∧ (OkN oneofs ∧ ∀ t ∈ oneofs.l, OkT t) ∧ OkN (⟨ma, mc, msgs⟩ : Rw MsgT) ∧ (OkN enums ∧ ∀ e ∈ enums.l, e.Ok) ∧ (OkN res ∧ ∀ s ∈ res.l, s.Ok) ∧ (OkN names ∧ ∀ t ∈ names.l, OkT t) ∧ MsgT.OkL msgs
def MsgT.OkL : List MsgT → Prop
 | [] => True
 | m :: l => MsgT.Ok m ∧ MsgT.OkL l
end
theorem MsgT.okL_mem : ∀ {l : List MsgT} {m : MsgT}, MsgT.OkL l → m ∈ l → MsgT.Ok m
 | [], _, _, h => by cases h
 | x :: l, m, hl, h => by
  unfold MsgT.OkL at hl
  rcases List.mem_cons.1 h with rfl | h
  ·exact hl.1
  ·exact MsgT.okL_mem hl.2 h
theorem MsgT.okL_of : ∀ {l : List MsgT}, (∀ m ∈ l, MsgT.Ok m) → MsgT.OkL l
 | [], _ => by unfold MsgT.OkL; trivial
 | x :: l, h => by unfold MsgT.OkL; exact ⟨h x List.mem_cons_self, MsgT.okL_of fun m hm => h m (List.mem_cons_of_mem _ hm)⟩
theorem MsgT.inL_of {X : Option Addr → Nat → Nat → Nat → List Value → Prop} : ∀ {l : List MsgT}, (∀ m ∈ l, MsgT.In X m) → MsgT.InL X l
 | [], _ => by unfold MsgT.InL; trivial
 | x :: l, h => by unfold MsgT.InL; exact ⟨h x List.mem_cons_self, MsgT.inL_of fun m hm => h m (List.mem_cons_of_mem _ hm)⟩
structure FileT.Ok (f : FileT) : Prop where
 path : OkT f.path
 pack : OkT f.pack
 imps : OkN f.imps ∧ ∀ i ∈ f.imps.l, i.Ok
 msgs : OkN (⟨f.ma, f.mc, f.msgs⟩ : Rw MsgT) ∧ ∀ m ∈ f.msgs, m.Ok
 enums : OkN f.enums ∧ ∀ e ∈ f.enums.l, e.Ok
structure FileT.In (X : Option Addr → Nat → Nat → Nat → List Value → Prop) (f : FileT) : Prop where
 imps : X f.imps.a f.imps.l.length f.imps.c 2 (f.imps.l.flatMap ImpT.cells)
 msgs : X f.ma f.msgs.length f.mc 7 (f.msgs.flatMap MsgT.cells)
 sub : ∀ m ∈ f.msgs, m.In X
 enums : X f.enums.a f.enums.l.length f.enums.c 5 (f.enums.l.flatMap EnumT.cells)
 esub : ∀ e ∈ f.enums.l, e.In X
end Go.Sk
end
section
namespace Go.Sk
open Go.ChangeShapes Go.WideShapes Go.ChangeAt Go.RowKit
section
variable {H : Type} {enc : TypeId × Value → H} {P : Program} {W : World}
/-- As read_sliceW; the elements are read by less. -/
theorem read_sliceF {t e : TypeId} {cs : List Value} {x : DataW H × List MemPlace} {fuel : Nat} (ht : P.underlying t = some (.slice e)) (hz : 0 < P.cellsOf e) (h : DataW.trod enc P W 0 (fun _ => true) true fuel t cs = some x) (hw : Light P t x.1) :
  ∃ (a : Option Addr) (n c : Nat) (es : List (List Value)), cs = [.slice a n c] ∧ n ≤ c ∧ c * P.bytesOf e ≤ reachBytes ∧ es.length = n ∧ (∀ ce ∈ es, ce.length = P.cellsOf e ∧ ∃ m y, m < fuel ∧ DataW.trod enc P W 0 (fun _ => true) true m e ce = some y ∧ Light P e y.1) ∧ ∀ Hs, Rd W Hs a n c (P.cellsOf e) es.flatten := by
 rcases DataW.trod_slice ht h with ⟨rfl, _⟩ | ⟨a, n, c, elems, rest, m, hm, rfl, rfl, _, hnc, hcm, hel, hget, hrest, _⟩
 ·exact ⟨none, 0, 0, [], rfl, Nat.le_refl _, by simp, rfl, fun _ h => absurd h (by simp), fun _ => Rd.none_⟩
 ·obtain ⟨hrl, _⟩ := hrest rfl
  have hw' : ∀ q ∈ ((elems.length + rest.length) * P.bytesOf e :: (DataW.weightsAll P e (elems.map (·.1)) ++ DataW.weightsAll P e (rest.map (·.1)))), q ≤ reachBytes := by
   intro q hq
   refine hw q ?_
   simp only [DataW.weights, ht, List.length_map]
   exact hq
  have hcb : c * P.bytesOf e ≤ reachBytes := by
   have := hw' _ List.mem_cons_self
   rwa [hel, hrl, show n + (c - n) = c by omega] at this
  have hlight : ∀ y ∈ elems, Light P e y.1 := fun y hy => light_all (fun q hq => hw' q (List.mem_cons_of_mem _ (List.mem_append_left _ hq))) y.1 (List.mem_map.2 ⟨y, hy, rfl⟩)
  have hcells : ∀ i, i < n → ∃ ce, W.cells? 0 (a.add (i * P.cellsOf e)) (P.cellsOf e) = some ce ∧ ∃ y, DataW.trod enc P W 0 (fun _ => true) true m e ce = some y ∧ Light P e y.1 := fun i hi => by
   have h1 := hget i hi
   rw [List.getElem?_eq_getElem (by omega), Option.bind_eq_some_iff] at h1
   obtain ⟨ce, h2, h3⟩ := h1
   exact ⟨ce, h2, _, h3, hlight _ (List.getElem_mem _)⟩
  let f : Nat → List Value := fun i => (W.cells? 0 (a.add (i * P.cellsOf e)) (P.cellsOf e)).getD []
  have hf : ∀ i, i < n → W.cells? 0 (a.add (i * P.cellsOf e)) (P.cellsOf e) = some (f i) ∧ ∃ y, DataW.trod enc P W 0 (fun _ => true) true m e (f i) = some y ∧ Light P e y.1 := fun i hi => by
   obtain ⟨ce, h1, h2⟩ := hcells i hi
   simp only [f, h1, Option.getD_some]
   exact ⟨trivial, h2⟩
  have hlen : ∀ ce ∈ (List.range n).map f, ce.length = P.cellsOf e := fun ce hce => by
   obtain ⟨i, hi, rfl⟩ := List.mem_map.1 hce
   exact (World.cells?_some (hf i (List.mem_range.1 hi)).1).2.1
  refine ⟨some a, n, c, (List.range n).map f, rfl, hnc, hcb, by simp, fun ce hce => ⟨hlen ce hce, ?_⟩, fun Hs => ⟨?_, hnc, fun w hS => ⟨fun _ => rfl, fun j u hj => ?_⟩⟩⟩
  ·obtain ⟨i, hi, rfl⟩ := List.mem_map.1 hce
   obtain ⟨y, h1, h2⟩ := (hf i (List.mem_range.1 hi)).2
   exact ⟨m, y, by omega, h1, h2⟩
  ·rw [List.length_flatten, List.map_map]
   have : (List.range n).map (List.length ∘ f) = List.replicate n (P.cellsOf e) := by
    apply List.ext_getElem
    ·simp
    ·intro i h1 h2
     simp only [List.getElem_map, List.getElem_range, Function.comp, List.getElem_replicate]
     exact hlen _ (List.mem_map.2 ⟨i, List.mem_range.2 (by simpa using h1), rfl⟩)
   rw [this, List.sum_replicate_nat]
  ·obtain ⟨i, ce, r, h1, h2, h3, h4⟩ := getElem?_flat _ hlen j u hj
   have hi : i < n := by have := (List.getElem?_eq_some_iff.1 h1).1; simpa using this
   have hce : ce = f i := by
    rw [List.getElem?_map, List.getElem?_range hi] at h1
    simpa using h1.symm
   subst hce
   have hcell := (World.cells?_some (hf i hi).1).2.2 r h2
   rw [h4] at hcell
   rw [adr, Option.getD_some, h3]
   refine hS.cellOld ?_
   rw [addr_addadd] at hcell
   exact hcell
/-- A row of things, each read by its own law. -/
theorem read_rw {α : Type} (cells : α → List Value) (ok : α → Prop) {t e : TypeId} {z by_ : Nat} {cs : List Value} {x : DataW H × List MemPlace} {fuel : Nat} (ht : P.underlying t = some (.slice e)) (hz : P.cellsOf e = z) (hz0 : 0 < z) (hb : P.bytesOf e = by_) (hb0 : 0 < by_)
  (hel : ∀ m ce y, m < fuel → ce.length = z → DataW.trod enc P W 0 (fun _ => true) true m e ce = some y → Light P e y.1 → ∃ a : α, ce = cells a ∧ ok a)
  (h : DataW.trod enc P W 0 (fun _ => true) true fuel t cs = some x) (hw : Light P t x.1) :
  ∃ r : Rw α, cs = [r.v] ∧ OkN r ∧ (∀ a ∈ r.l, ok a) ∧ ∀ Hs, Rd W Hs r.a r.l.length r.c z (r.l.flatMap cells) := by
 subst hz hb
 obtain ⟨a, n, c, es, rfl, h1, h2, h3, h4, h5⟩ := read_sliceF ht hz0 h hw
 have hl : ∃ l : List α, es = l.map cells ∧ ∀ a ∈ l, ok a := by
  clear h3 h5
  induction es with
  | nil => exact ⟨[], rfl, fun _ h => absurd h (by simp)⟩
  | cons ce es ih =>
   obtain ⟨l, e1, e2⟩ := ih (fun c hc => h4 c (by simp [hc]))
   obtain ⟨hlen, m, y, hm, hy, hly⟩ := h4 ce (by simp)
   obtain ⟨b, rfl, hbk⟩ := hel m ce y hm hlen hy hly
   exact ⟨b :: l, by rw [e1]; rfl, fun x hx => by
    rcases List.mem_cons.1 hx with rfl | hx
    ·exact hbk
    ·exact e2 x hx⟩
 obtain ⟨l, rfl, hok⟩ := hl
 rw [List.length_map] at h3
 have hc : c ≤ 140737488355328 := by
  have : c * 1 ≤ c * P.bytesOf e := Nat.mul_le_mul_left _ hb0
  unfold reachBytes at h2
  omega
 refine ⟨⟨a, c, l⟩, by rw [← h3]; rfl, ⟨show l.length ≤ 140737488355328 from by omega, by rw [h3]; exact h1, Nat.le_trans hc (by decide)⟩, hok, fun Hs => ?_⟩
 have := h5 Hs
 rw [← h3, ← List.flatMap_def] at this
 exact this
/-- A field of one cell. -/
theorem fld1 {t : TypeId} {cs : List Value} {x : DataW H × List MemPlace} {fuel : Nat} {fs : Array Field} (ht : P.underlying t = some (.struct fs)) (h : DataW.trod enc P W 0 (fun _ => true) true fuel t cs = some x) (hw : Light P t x.1) (i : Nat) {tf : TypeId}
  (hf : (fs[i]?).map (fun f => (f.type, f.offset)) = some (tf, i)) (hc : P.cellsOf tf = 1) : ∃ m y, m < fuel ∧ DataW.trod enc P W 0 (fun _ => true) true m tf ((cs.drop i).take 1) = some y ∧ Light P tf y.1 := by
 obtain ⟨f, hf1, hf2⟩ := Option.map_eq_some_iff.1 hf
 simp only [Prod.mk.injEq] at hf2
 obtain ⟨rfl, hoff⟩ := hf2
 obtain ⟨xs, n, hn, hx, _, hl, hg⟩ := DataW.trod_struct ht h
 have hi : i < xs.length := by rw [hl]; exact (Array.getElem?_eq_some_iff.1 hf1).1
 obtain ⟨m, y, h1, h2⟩ := trod_field ht h hw i f hf1
 have h3 := hg i f hf1
 rw [List.getElem?_eq_getElem hi] at h3
 have hly : Light P f.type xs[i].1 := by
  have hw' : ∀ q ∈ DataW.weightsEach P (fs.toList.map (·.type)) (xs.map (·.1)), q ≤ reachBytes := by
   intro q hq
   refine hw q ?_
   rw [hx]
   simp only [DataW.weights, ht]
   exact hq
  refine light_each hw' (j := i) ?_ ?_
  ·rw [List.getElem?_map, Array.getElem?_toList, hf1]; rfl
  ·rw [List.getElem?_map, List.getElem?_eq_getElem hi]; rfl
 rw [hoff, hc] at h3
 exact ⟨n, _, by omega, h3, hly⟩
theorem take1 {cs : List Value} {i : Nat} {v : Value} (h : (cs.drop i).take 1 = [v]) : cs[i]? = some v := by
 have := congrArg (·[0]?) h
 simpa [List.getElem?_take, List.getElem?_drop] using this
theorem fldI {t : TypeId} {cs : List Value} {x : DataW H × List MemPlace} {fuel : Nat} {fs : Array Field} {k : IntKind} (ht : P.underlying t = some (.struct fs)) (h : DataW.trod enc P W 0 (fun _ => true) true fuel t cs = some x) (hw : Light P t x.1) (i : Nat) {tf : TypeId}
  (hf : (fs[i]?).map (fun f => (f.type, f.offset)) = some (tf, i)) (hc : P.cellsOf tf = 1) (hu : P.underlying tf = some (.int k)) : ∃ n, cs[i]? = some (.int k n) ∧ (Lit.int k n).wf = true := by
 obtain ⟨m, y, _, h1, _⟩ := fld1 ht h hw i hf hc
 obtain ⟨n, h2, _, h3⟩ := DataW.trod_int hu h1
 exact ⟨n, take1 h2, h3⟩
theorem fldBo {t : TypeId} {cs : List Value} {x : DataW H × List MemPlace} {fuel : Nat} {fs : Array Field} (ht : P.underlying t = some (.struct fs)) (h : DataW.trod enc P W 0 (fun _ => true) true fuel t cs = some x) (hw : Light P t x.1) (i : Nat) {tf : TypeId}
  (hf : (fs[i]?).map (fun f => (f.type, f.offset)) = some (tf, i)) (hc : P.cellsOf tf = 1) (hu : P.underlying tf = some .bool) : ∃ b, cs[i]? = some (.bool b) := by
 obtain ⟨m, y, _, h1, _⟩ := fld1 ht h hw i hf hc
 obtain ⟨b, h2, _⟩ := DataW.trod_bool hu h1
 exact ⟨b, take1 h2⟩
theorem read_txt {tf : TypeId} {cs : List Value} {y : DataW H × List MemPlace} {m : Nat} (hu : P.underlying tf = some .string) (h : DataW.trod enc P W 0 (fun _ => true) true m tf cs = some y) (hw : Light P tf y.1) : ∃ t : Txt, cs = [vS t] ∧ OkT t := by
 obtain ⟨s, rfl, rfl, _⟩ := DataW.trod_string hu h
 obtain ⟨l, hb, rfl, hn⟩ := str_of s
 refine ⟨l, rfl, hb, ?_⟩
 have := hw (str l).data.toList.length (by simp [DataW.weights])
 have hs : (str l).data.toList.length = l.length := by simp [str]
 rw [hs] at this
 unfold reachBytes at this
 omega
theorem fldS {t : TypeId} {cs : List Value} {x : DataW H × List MemPlace} {fuel : Nat} {fs : Array Field} (ht : P.underlying t = some (.struct fs)) (h : DataW.trod enc P W 0 (fun _ => true) true fuel t cs = some x) (hw : Light P t x.1) (i : Nat) {tf : TypeId}
  (hf : (fs[i]?).map (fun f => (f.type, f.offset)) = some (tf, i)) (hc : P.cellsOf tf = 1) (hu : P.underlying tf = some .string) : ∃ s : Txt, cs[i]? = some (vS s) ∧ OkT s := by
 obtain ⟨m, y, _, h1, h2⟩ := fld1 ht h hw i hf hc
 obtain ⟨s, h3, h4⟩ := read_txt hu h1 h2
 exact ⟨s, take1 h3, h4⟩
theorem fldR {α : Type} (cells : α → List Value) (ok : α → Prop) {t : TypeId} {cs : List Value} {x : DataW H × List MemPlace} {fuel : Nat} {fs : Array Field} (ht : P.underlying t = some (.struct fs)) (h : DataW.trod enc P W 0 (fun _ => true) true fuel t cs = some x) (hw : Light P t x.1) (i : Nat) {tf e : TypeId} {z by_ : Nat}
  (hf : (fs[i]?).map (fun f => (f.type, f.offset)) = some (tf, i)) (hc : P.cellsOf tf = 1) (hu : P.underlying tf = some (.slice e)) (hz : P.cellsOf e = z) (hz0 : 0 < z) (hb : P.bytesOf e = by_) (hb0 : 0 < by_)
  (hel : ∀ m ce y, m < fuel → ce.length = z → DataW.trod enc P W 0 (fun _ => true) true m e ce = some y → Light P e y.1 → ∃ a : α, ce = cells a ∧ ok a) :
  ∃ r : Rw α, cs[i]? = some r.v ∧ OkN r ∧ (∀ a ∈ r.l, ok a) ∧ ∀ Hs, Rd W Hs r.a r.l.length r.c z (r.l.flatMap cells) := by
 obtain ⟨m, y, hm, h1, h2⟩ := fld1 ht h hw i hf hc
 obtain ⟨r, h3, h4⟩ := read_rw cells ok hu hz hz0 hb hb0 (fun m' ce y' hm' => hel m' ce y' (by omega)) h1 h2
 exact ⟨r, take1 h3, h4⟩
theorem lst_eq {cs vs : List Value} (hl : cs.length = vs.length) (h : ∀ i, i < vs.length → cs[i]? = vs[i]?) : cs = vs := by
 apply List.ext_getElem?
 intro i
 by_cases hi : i < vs.length
 ·exact h i hi
 ·rw [List.getElem?_eq_none (by omega), List.getElem?_eq_none (by omega)]
theorem str_len {t : TypeId} {cs : List Value} {x : DataW H × List MemPlace} {fuel : Nat} {fs : Array Field} (ht : P.underlying t = some (.struct fs)) (h : DataW.trod enc P W 0 (fun _ => true) true fuel t cs = some x) : cs.length = P.cellsOf t := by
 obtain ⟨_, _, _, _, hl, _⟩ := DataW.trod_struct ht h
 exact hl
theorem wf_i32' {a : Int} (h : (Lit.int .i32 a).wf = true) : I32 a := by
 simp only [Lit.wf, Bool.and_eq_true, decide_eq_true_eq, IntKind.min, IntKind.max, IntKind.signed, IntKind.bits] at h
 obtain ⟨h0, h1⟩ := h
 simp at h0 h1
 exact ⟨h0, by omega⟩
theorem wf_u8' {a : Int} (h : (Lit.int .u8 a).wf = true) : U8 a := by
 simp only [Lit.wf, Bool.and_eq_true, decide_eq_true_eq, IntKind.min, IntKind.max, IntKind.signed, IntKind.bits] at h
 obtain ⟨h0, h1⟩ := h
 simp at h0 h1
 exact ⟨h0, by omega⟩
theorem wf_i64' {a : Int} (h : (Lit.int .i64 a).wf = true) : -9223372036854775808 ≤ a ∧ a ≤ 9223372036854775807 := by
 simp only [Lit.wf, Bool.and_eq_true, decide_eq_true_eq, IntKind.min, IntKind.max, IntKind.signed, IntKind.bits] at h
 obtain ⟨h0, h1⟩ := h
 simp at h0 h1
 exact ⟨h0, by omega⟩
end
end Go.Sk
end
section
namespace Go.Proofs.YtclcnhfponjdaaaGreatDoor
open Go.Sk Go.ChangeShapes Go.WideShapes Go.ChangeAt Go.RowKit
set_option maxRecDepth 100000
section
variable {H : Type} {enc : TypeId × Value → H} {W : World}
theorem read_span {cs : List Value} {x : DataW H × List MemPlace} {fuel : Nat} (h : DataW.trod enc Tryz.prog W 0 (fun _ => true) true fuel 196 cs = some x) (hw : Light Tryz.prog 196 x.1) : ∃ s : SpanT, cs = s.cells ∧ s.Ok := by
 have hl := str_len Tryz.underlying196 h
 obtain ⟨v0, h0, w0⟩ := fldI Tryz.underlying196 h hw 0 (tf := 21) (k := .i32) (by kernel_rfl) (by kernel_rfl) (by kernel_rfl)
 obtain ⟨v1, h1, w1⟩ := fldI Tryz.underlying196 h hw 1 (tf := 21) (k := .i32) (by kernel_rfl) (by kernel_rfl) (by kernel_rfl)
 refine ⟨⟨v0, v1⟩, lst_eq (by rw [hl]; kernel_rfl) (fun i hi => ?_), wf_i32' w0, wf_i32' w1⟩
 match i, hi with
 | 0, _ => exact h0
 | 1, _ => exact h1
 | i + 2, hi => exact absurd hi (by simp [SpanT.cells])
theorem read_eval {cs : List Value} {x : DataW H × List MemPlace} {fuel : Nat} (h : DataW.trod enc Tryz.prog W 0 (fun _ => true) true fuel 80 cs = some x) (hw : Light Tryz.prog 80 x.1) : ∃ s : EValT, cs = s.cells ∧ s.Ok := by
 have hl := str_len Tryz.underlying80 h
 obtain ⟨v0, h0, w0⟩ := fldS Tryz.underlying80 h hw 0 (tf := 9) (by kernel_rfl) (by kernel_rfl) (by kernel_rfl)
 obtain ⟨v1, h1, w1⟩ := fldI Tryz.underlying80 h hw 1 (tf := 21) (k := .i32) (by kernel_rfl) (by kernel_rfl) (by kernel_rfl)
 refine ⟨⟨v0, v1⟩, lst_eq (by rw [hl]; kernel_rfl) (fun i hi => ?_), w0, wf_i32' w1⟩
 match i, hi with
 | 0, _ => exact h0
 | 1, _ => exact h1
 | i + 2, hi => exact absurd hi (by simp [EValT.cells])
theorem read_imp {cs : List Value} {x : DataW H × List MemPlace} {fuel : Nat} (h : DataW.trod enc Tryz.prog W 0 (fun _ => true) true fuel 161 cs = some x) (hw : Light Tryz.prog 161 x.1) : ∃ s : ImpT, cs = s.cells ∧ s.Ok := by
 have hl := str_len Tryz.underlying161 h
 obtain ⟨v0, h0, w0⟩ := fldS Tryz.underlying161 h hw 0 (tf := 9) (by kernel_rfl) (by kernel_rfl) (by kernel_rfl)
 obtain ⟨v1, h1⟩ := fldBo Tryz.underlying161 h hw 1 (tf := 4) (by kernel_rfl) (by kernel_rfl) (by kernel_rfl)
 refine ⟨⟨v0, v1⟩, lst_eq (by rw [hl]; kernel_rfl) (fun i hi => ?_), w0⟩
 match i, hi with
 | 0, _ => exact h0
 | 1, _ => exact h1
 | i + 2, hi => exact absurd hi (by simp [ImpT.cells])
theorem read_field {cs : List Value} {x : DataW H × List MemPlace} {fuel : Nat} (h : DataW.trod enc Tryz.prog W 0 (fun _ => true) true fuel 240 cs = some x) (hw : Light Tryz.prog 240 x.1) : ∃ s : FieldT, cs = s.cells ∧ s.Ok := by
 have hl := str_len Tryz.underlying240 h
 obtain ⟨v0, h0, w0⟩ := fldS Tryz.underlying240 h hw 0 (tf := 9) (by kernel_rfl) (by kernel_rfl) (by kernel_rfl)
 obtain ⟨v1, h1, w1⟩ := fldI Tryz.underlying240 h hw 1 (tf := 21) (k := .i32) (by kernel_rfl) (by kernel_rfl) (by kernel_rfl)
 obtain ⟨v2, h2, w2⟩ := fldI Tryz.underlying240 h hw 2 (tf := 236) (k := .u8) (by kernel_rfl) (by kernel_rfl) (by kernel_rfl)
 obtain ⟨v3, h3, w3⟩ := fldI Tryz.underlying240 h hw 3 (tf := 237) (k := .u8) (by kernel_rfl) (by kernel_rfl) (by kernel_rfl)
 obtain ⟨v4, h4, w4⟩ := fldS Tryz.underlying240 h hw 4 (tf := 9) (by kernel_rfl) (by kernel_rfl) (by kernel_rfl)
 obtain ⟨v5, h5, w5⟩ := fldI Tryz.underlying240 h hw 5 (tf := 237) (k := .u8) (by kernel_rfl) (by kernel_rfl) (by kernel_rfl)
 obtain ⟨v6, h6, w6⟩ := fldI Tryz.underlying240 h hw 6 (tf := 3) (k := .i64) (by kernel_rfl) (by kernel_rfl) (by kernel_rfl)
 obtain ⟨v7, h7, w7⟩ := fldI Tryz.underlying240 h hw 7 (tf := 238) (k := .u8) (by kernel_rfl) (by kernel_rfl) (by kernel_rfl)
 obtain ⟨v8, h8, w8⟩ := fldS Tryz.underlying240 h hw 8 (tf := 9) (by kernel_rfl) (by kernel_rfl) (by kernel_rfl)
 refine ⟨⟨v0, v1, v2, v3, v4, v5, v6, v7, v8⟩, lst_eq (by rw [hl]; kernel_rfl) (fun i hi => ?_), w0, wf_i32' w1, wf_u8' w2, wf_u8' w3, w4, wf_u8' w5, wf_i64' w6, wf_u8' w7, w8⟩
 match i, hi with
 | 0, _ => exact h0
 | 1, _ => exact h1
 | 2, _ => exact h2
 | 3, _ => exact h3
 | 4, _ => exact h4
 | 5, _ => exact h5
 | 6, _ => exact h6
 | 7, _ => exact h7
 | 8, _ => exact h8
 | i + 9, hi => exact absurd hi (by simp [FieldT.cells])
theorem flat_vS (l : List Txt) : l.flatMap (fun t => [vS t]) = l.map vS := by
 induction l with
 | nil => rfl
 | cons t l ih => rw [List.flatMap_cons, ih]; rfl
theorem read_enum {cs : List Value} {x : DataW H × List MemPlace} {fuel : Nat} (h : DataW.trod enc Tryz.prog W 0 (fun _ => true) true fuel 85 cs = some x) (hw : Light Tryz.prog 85 x.1) : ∃ e : EnumT, cs = e.cells ∧ e.Ok ∧ ∀ Hs, e.In (Rd W Hs) := by
 have hl := str_len Tryz.underlying85 h
 obtain ⟨v0, h0, w0⟩ := fldS Tryz.underlying85 h hw 0 (tf := 9) (by kernel_rfl) (by kernel_rfl) (by kernel_rfl)
 obtain ⟨v1, h1, n1, w1, r1⟩ := fldR EValT.cells EValT.Ok Tryz.underlying85 h hw 1 (tf := 81) (e := 80) (z := 2) (by_ := 24) (by kernel_rfl) (by kernel_rfl) (by kernel_rfl) (by kernel_rfl) (by decide) (by kernel_rfl) (by decide) (fun _ _ _ _ _ h hw => read_eval h hw)
 obtain ⟨v2, h2⟩ := fldBo Tryz.underlying85 h hw 2 (tf := 4) (by kernel_rfl) (by kernel_rfl) (by kernel_rfl)
 obtain ⟨v3, h3, n3, w3, r3⟩ := fldR SpanT.cells SpanT.Ok Tryz.underlying85 h hw 3 (tf := 82) (e := 196) (z := 2) (by_ := 8) (by kernel_rfl) (by kernel_rfl) (by kernel_rfl) (by kernel_rfl) (by decide) (by kernel_rfl) (by decide) (fun _ _ _ _ _ h hw => read_span h hw)
 obtain ⟨v4, h4, n4, w4, r4⟩ := fldR (fun t : Txt => [vS t]) OkT Tryz.underlying85 h hw 4 (tf := 83) (e := 9) (z := 1) (by_ := 16) (by kernel_rfl) (by kernel_rfl) (by kernel_rfl) (by kernel_rfl) (by decide) (by kernel_rfl) (by decide) (fun _ _ _ _ _ h hw => read_txt (by kernel_rfl) h hw)
 refine ⟨⟨v0, v1, v2, v3, v4⟩, lst_eq (by rw [hl]; kernel_rfl) (fun i hi => ?_), ⟨w0, n1, w1, n3, w3, n4, w4⟩, fun Hs => ⟨r1 Hs, r3 Hs, by have := r4 Hs; rwa [flat_vS] at this⟩⟩
 match i, hi with
 | 0, _ => exact h0
 | 1, _ => exact h1
 | 2, _ => exact h2
 | 3, _ => exact h3
 | 4, _ => exact h4
 | i + 5, hi => exact absurd hi (by simp [EnumT.cells])
theorem read_msg : ∀ (fuel : Nat) {cs : List Value} {x : DataW H × List MemPlace}, DataW.trod enc Tryz.prog W 0 (fun _ => true) true fuel 187 cs = some x → Light Tryz.prog 187 x.1 → ∃ m : MsgT, cs = m.cells ∧ m.Ok ∧ ∀ Hs, m.In (Rd W Hs) := by
 intro fuel
 induction fuel using Nat.strongRecOn with
 | _ fuel ih =>
 intro cs x h hw
 have hl := str_len Tryz.underlying187 h
 obtain ⟨v0, h0, w0⟩ := fldS Tryz.underlying187 h hw 0 (tf := 9) (by kernel_rfl) (by kernel_rfl) (by kernel_rfl)
 obtain ⟨v1, h1, n1, w1, r1⟩ := fldR FieldT.cells FieldT.Ok Tryz.underlying187 h hw 1 (tf := 185) (e := 240) (z := 9) (by_ := 80) (by kernel_rfl) (by kernel_rfl) (by kernel_rfl) (by kernel_rfl) (by decide) (by kernel_rfl) (by decide) (fun _ _ _ _ _ h hw => read_field h hw)
 obtain ⟨v2, h2, n2, w2, r2⟩ := fldR (fun t : Txt => [vS t]) OkT Tryz.underlying187 h hw 2 (tf := 83) (e := 9) (z := 1) (by_ := 16) (by kernel_rfl) (by kernel_rfl) (by kernel_rfl) (by kernel_rfl) (by decide) (by kernel_rfl) (by decide) (fun _ _ _ _ _ h hw => read_txt (by kernel_rfl) h hw)
 obtain ⟨v3, h3, n3, w3, r3⟩ := fldR MsgT.cells (fun m => m.Ok ∧ ∀ Hs, m.In (Rd W Hs)) Tryz.underlying187 h hw 3 (tf := 72) (e := 187) (z := 7) (by_ := 160) (by kernel_rfl) (by kernel_rfl) (by kernel_rfl) (by kernel_rfl) (by decide) (by kernel_rfl) (by decide) (fun m _ _ hm _ h hw => ih m hm h hw)
 obtain ⟨v4, h4, n4, w4, r4⟩ := fldR EnumT.cells (fun e => e.Ok ∧ ∀ Hs, e.In (Rd W Hs)) Tryz.underlying187 h hw 4 (tf := 73) (e := 85) (z := 5) (by_ := 96) (by kernel_rfl) (by kernel_rfl) (by kernel_rfl) (by kernel_rfl) (by decide) (by kernel_rfl) (by decide) (fun _ _ _ _ _ h hw => read_enum h hw)
 obtain ⟨v5, h5, n5, w5, r5⟩ := fldR SpanT.cells SpanT.Ok Tryz.underlying187 h hw 5 (tf := 82) (e := 196) (z := 2) (by_ := 8) (by kernel_rfl) (by kernel_rfl) (by kernel_rfl) (by kernel_rfl) (by decide) (by kernel_rfl) (by decide) (fun _ _ _ _ _ h hw => read_span h hw)
 obtain ⟨v6, h6, n6, w6, r6⟩ := fldR (fun t : Txt => [vS t]) OkT Tryz.underlying187 h hw 6 (tf := 83) (e := 9) (z := 1) (by_ := 16) (by kernel_rfl) (by kernel_rfl) (by kernel_rfl) (by kernel_rfl) (by decide) (by kernel_rfl) (by decide) (fun _ _ _ _ _ h hw => read_txt (by kernel_rfl) h hw)
 refine ⟨.mk v0 v1 v2 v3.a v3.c v3.l v4 v5 v6, lst_eq (by rw [hl]; kernel_rfl) (fun i hi => ?_), ?_, fun Hs => ?_⟩
 ·match i, hi with
  | 0, _ => exact h0
  | 1, _ => exact h1
  | 2, _ => exact h2
  | 3, _ => exact h3
  | 4, _ => exact h4
  | 5, _ => exact h5
  | 6, _ => exact h6
  | i + 7, hi => exact absurd hi (by simp [MsgT.cells])
 ·unfold MsgT.Ok
  exact ⟨w0, ⟨n1, w1⟩, ⟨n2, w2⟩, n3, ⟨n4, fun e he => (w4 e he).1⟩, ⟨n5, w5⟩, ⟨n6, w6⟩, MsgT.okL_of fun m hm => (w3 m hm).1⟩
 ·unfold MsgT.In
  exact ⟨r1 Hs, by have := r2 Hs; rwa [flat_vS] at this, r3 Hs, r4 Hs, fun e he => (w4 e he).2 Hs, r5 Hs, by have := r6 Hs; rwa [flat_vS] at this, MsgT.inL_of fun m hm => (w3 m hm).2 Hs⟩
theorem read_file {cs : List Value} {x : DataW H × List MemPlace} {fuel : Nat} (h : DataW.trod enc Tryz.prog W 0 (fun _ => true) true fuel 75 cs = some x) (hw : Light Tryz.prog 75 x.1) : ∃ f : FileT, cs = f.cells ∧ f.Ok ∧ ∀ Hs, f.In (Rd W Hs) := by
 have hl := str_len Tryz.underlying75 h
 obtain ⟨v0, h0, w0⟩ := fldS Tryz.underlying75 h hw 0 (tf := 9) (by kernel_rfl) (by kernel_rfl) (by kernel_rfl)
 obtain ⟨v1, h1, w1⟩ := fldS Tryz.underlying75 h hw 1 (tf := 9) (by kernel_rfl) (by kernel_rfl) (by kernel_rfl)
 obtain ⟨v2, h2, n2, w2, r2⟩ := fldR ImpT.cells ImpT.Ok Tryz.underlying75 h hw 2 (tf := 71) (e := 161) (z := 2) (by_ := 24) (by kernel_rfl) (by kernel_rfl) (by kernel_rfl) (by kernel_rfl) (by decide) (by kernel_rfl) (by decide) (fun _ _ _ _ _ h hw => read_imp h hw)
 obtain ⟨v3, h3, n3, w3, r3⟩ := fldR MsgT.cells (fun m => m.Ok ∧ ∀ Hs, m.In (Rd W Hs)) Tryz.underlying75 h hw 3 (tf := 72) (e := 187) (z := 7) (by_ := 160) (by kernel_rfl) (by kernel_rfl) (by kernel_rfl) (by kernel_rfl) (by decide) (by kernel_rfl) (by decide) (fun m _ _ _ _ h hw => read_msg m h hw)
 obtain ⟨v4, h4, n4, w4, r4⟩ := fldR EnumT.cells (fun e => e.Ok ∧ ∀ Hs, e.In (Rd W Hs)) Tryz.underlying75 h hw 4 (tf := 73) (e := 85) (z := 5) (by_ := 96) (by kernel_rfl) (by kernel_rfl) (by kernel_rfl) (by kernel_rfl) (by decide) (by kernel_rfl) (by decide) (fun _ _ _ _ _ h hw => read_enum h hw)
 refine ⟨⟨v0, v1, v2, v3.a, v3.c, v3.l, v4⟩, lst_eq (by rw [hl]; kernel_rfl) (fun i hi => ?_), ⟨w0, w1, ⟨n2, w2⟩, ⟨n3, fun m hm => (w3 m hm).1⟩, ⟨n4, fun e he => (w4 e he).1⟩⟩, fun Hs => ⟨r2 Hs, r3 Hs, fun m hm => (w3 m hm).2 Hs, r4 Hs, fun e he => (w4 e he).2 Hs⟩⟩
 match i, hi with
 | 0, _ => exact h0
 | 1, _ => exact h1
 | 2, _ => exact h2
 | 3, _ => exact h3
 | 4, _ => exact h4
 | i + 5, hi => exact absurd hi (by simp [FileT.cells])
end
end Go.Proofs.YtclcnhfponjdaaaGreatDoor
end
section
namespace Go.Sk
/-- What reading a varint comes to. -/
inductive VR where
 | ok (v : Int) (k : Nat)
 | short
 | long
/-- From the i-th byte on, what stands ahead being v. -/
def vr : List Int → Nat → Int → VR
 | [], i, _ => if i < 10 then .short else .long
 | c :: l, i, v => if i < 10 then (if i = 9 ∧ 1 < c then .long else if c < 128 then .ok (v + c % 128 * 2 ^ (7 * i)) (i + 1) else vr l (i + 1) (v + c % 128 * 2 ^ (7 * i))) else .long
def isByte (x : Int) : Prop := 0 ≤ x ∧ x < 256
def Bytes (l : List Int) : Prop := ∀ x ∈ l, isByte x
theorem Bytes.get {l : List Int} (h : Bytes l) (i : Nat) : isByte (l.getD i 0) := by
 by_cases hi : i < l.length
 ·simp only [List.getD_eq_getElem?_getD, List.getElem?_eq_getElem hi, Option.getD_some]
  exact h _ (List.getElem_mem hi)
 ·simp only [List.getD_eq_getElem?_getD, List.getElem?_eq_none (Nat.le_of_not_lt hi), Option.getD_none]
  exact ⟨by omega, by omega⟩
theorem Bytes.drop {l : List Int} (h : Bytes l) (i : Nat) : Bytes (l.drop i) := fun x hx => h x (List.mem_of_mem_drop hx)
theorem Bytes.take {l : List Int} (h : Bytes l) (i : Nat) : Bytes (l.take i) := fun x hx => h x (List.mem_of_mem_take hx)
theorem vr_le : ∀ (l : List Int) (i : Nat) (v : Int) (r : Int) (k : Nat), vr l i v = .ok r k → k ≤ i + l.length ∧ i < k
 | [], i, v, r, k, h => by simp only [vr] at h; split at h <;> cases h
 | c :: l, i, v, r, k, h => by
  simp only [vr] at h
  split at h
  ·split at h
   ·cases h
   ·split at h
    ·cases h; simp only [List.length_cons]; omega
    ·have := vr_le l (i + 1) _ r k h; simp only [List.length_cons]; omega
  ·cases h

/-! ### bits -/
theorem or_disj {x y : Nat} {s : Nat} (h : x < 2 ^ s) : x ||| (y * 2 ^ s) = x + y * 2 ^ s := by
 rw [Nat.mul_comm, Nat.or_comm, ← Nat.two_pow_add_eq_or_of_lt h, Nat.add_comm]
theorem or_add {k : IntKind} {v x y : Int} {s : Nat} (hv : 0 ≤ v) (hv2 : v < 2 ^ s) (hy : 0 ≤ y) (hx : x = y * 2 ^ s) (hb : v + x < 2 ^ k.bits) (hs : k.signed = false) :
  k.wrap ((BitVec.ofInt k.bits v ||| BitVec.ofInt k.bits x).toNat : Int) = v + x := by
 subst hx
 obtain ⟨a, rfl⟩ := Int.eq_ofNat_of_zero_le hv
 obtain ⟨b, rfl⟩ := Int.eq_ofNat_of_zero_le hy
 have e1 : ((b : Int) * 2 ^ s) = ((b * 2 ^ s : Nat) : Int) := by simp
 have ha2 : a < 2 ^ s := by
  have : ((a : Nat) : Int) < ((2 ^ s : Nat) : Int) := by simpa using hv2
  omega
 have hb2 : a + b * 2 ^ s < 2 ^ k.bits := by
  have : ((a + b * 2 ^ s : Nat) : Int) < ((2 ^ k.bits : Nat) : Int) := by simpa using hb
  omega
 rw [e1, BitVec.toNat_or, BitVec.toNat_ofInt, BitVec.toNat_ofInt]
 have m1 : ((a : Int) % ((2 ^ k.bits : Nat) : Int)).toNat = a := by
  rw [← Int.natCast_emod, Int.toNat_natCast, Nat.mod_eq_of_lt (by omega)]
 have m2 : (((b * 2 ^ s : Nat) : Int) % ((2 ^ k.bits : Nat) : Int)).toNat = b * 2 ^ s := by
  rw [← Int.natCast_emod, Int.toNat_natCast, Nat.mod_eq_of_lt (by omega)]
 rw [m1, m2, or_disj ha2]
 simp only [IntKind.wrap, hs, Bool.false_and]
 have : (((a + b * 2 ^ s : Nat) : Int) % (2 ^ k.bits : Int)) = ((a + b * 2 ^ s : Nat) : Int) := by
  rw [show ((2 : Int) ^ k.bits) = ((2 ^ k.bits : Nat) : Int) by simp, ← Int.natCast_emod, Nat.mod_eq_of_lt hb2]
 simp only [this]
 simp
theorem and_mask {k : IntKind} {x : Int} {s : Nat} (hx : 0 ≤ x) (hb : x < 2 ^ k.bits) (hs : k.signed = false) (hk : s ≤ k.bits) :
  k.wrap ((BitVec.ofInt k.bits x &&& BitVec.ofInt k.bits (2 ^ s - 1)).toNat : Int) = x % 2 ^ s := by
 obtain ⟨a, rfl⟩ := Int.eq_ofNat_of_zero_le hx
 have hp : 0 < 2 ^ s := Nat.pow_pos (by omega)
 have e1 : ((2 : Int) ^ s - 1) = ((2 ^ s - 1 : Nat) : Int) := by
  rw [Int.ofNat_sub (by omega)]; simp
 have ha : a < 2 ^ k.bits := by
  have : ((a : Nat) : Int) < ((2 ^ k.bits : Nat) : Int) := by simpa using hb
  omega
 have hle : 2 ^ s ≤ 2 ^ k.bits := Nat.pow_le_pow_right (by omega) hk
 rw [e1, BitVec.toNat_and, BitVec.toNat_ofInt, BitVec.toNat_ofInt]
 have m1 : ((a : Int) % ((2 ^ k.bits : Nat) : Int)).toNat = a := by
  rw [← Int.natCast_emod, Int.toNat_natCast, Nat.mod_eq_of_lt ha]
 have m2 : (((2 ^ s - 1 : Nat) : Int) % ((2 ^ k.bits : Nat) : Int)).toNat = 2 ^ s - 1 := by
  rw [← Int.natCast_emod, Int.toNat_natCast, Nat.mod_eq_of_lt (by omega)]
 rw [m1, m2, Nat.and_two_pow_sub_one_eq_mod]
 simp only [IntKind.wrap, hs, Bool.false_and]
 have hlt : a % 2 ^ s < 2 ^ k.bits := Nat.lt_of_lt_of_le (Nat.mod_lt _ hp) hle
 have : (((a % 2 ^ s : Nat) : Int) % (2 ^ k.bits : Int)) = ((a % 2 ^ s : Nat) : Int) := by
  rw [show ((2 : Int) ^ k.bits) = ((2 ^ k.bits : Nat) : Int) by simp, ← Int.natCast_emod, Nat.mod_eq_of_lt hlt]
 simp only [this]
 simp
theorem and127 {x : Int} (h : isByte x) : IntKind.u8.wrap ((BitVec.ofInt IntKind.u8.bits x &&& BitVec.ofInt IntKind.u8.bits 127).toNat : Int) = x % 128 :=
 and_mask (k := .u8) (s := 7) h.1 (by simp only [IntKind.bits]; exact h.2) rfl (by decide)
theorem or128 {x : Int} (h : isByte x) : IntKind.u8.wrap ((BitVec.ofInt IntKind.u8.bits x ||| BitVec.ofInt IntKind.u8.bits 128).toNat : Int) = x % 128 + 128 := by
 have hall : ∀ n : Nat, n < 256 → IntKind.u8.wrap ((BitVec.ofInt IntKind.u8.bits (n : Int) ||| BitVec.ofInt IntKind.u8.bits 128).toNat : Int) = (n : Int) % 128 + 128 := by decide +kernel
 obtain ⟨n, rfl⟩ := Int.eq_ofNat_of_zero_le h.1
 exact hall n (by have := h.2; omega)
theorem shr7 {v : Int} : v.fdiv (2 ^ (min (7 : Int).toNat IntKind.u64.bits)) = v / 128 := by
 rw [show min (7 : Int).toNat IntKind.u64.bits = 7 by decide, show (2 : Int) ^ 7 = 128 by decide, Int.fdiv_eq_ediv_of_nonneg _ (by decide)]
theorem pow7 {i : Nat} (h : i ≤ 9) : i = 0 ∨ i = 1 ∨ i = 2 ∨ i = 3 ∨ i = 4 ∨ i = 5 ∨ i = 6 ∨ i = 7 ∨ i = 8 ∨ i = 9 := by omega
theorem part_lt {x : Int} {i : Nat} (h : isByte x) (hi : i ≤ 9) (h9 : i = 9 → x ≤ 1) {v : Int} (hv : v < 2 ^ (7 * i)) : v + x % 128 * 2 ^ (7 * i) < 18446744073709551616 := by
 obtain ⟨h0, h1⟩ := h
 rcases pow7 hi with rfl | rfl | rfl | rfl | rfl | rfl | rfl | rfl | rfl | rfl
 all_goals (try have := h9 rfl); simp at hv ⊢; omega
theorem shl7 {x : Int} {i : Nat} (h : isByte x) (hi : i ≤ 9) (h9 : i = 9 → x ≤ 1) : IntKind.u64.wrap (x % 128 * 2 ^ (min ((7 * (i : Int)).toNat) IntKind.u64.bits)) = x % 128 * 2 ^ (7 * i) := by
 have h2 : min ((7 * (i : Int)).toNat) IntKind.u64.bits = 7 * i := by simp only [IntKind.bits]; omega
 rw [h2]
 have h3 := part_lt h hi h9 (v := 0) (Int.pow_pos (by decide))
 have h4 : 0 ≤ x % 128 * 2 ^ (7 * i) := Int.mul_nonneg (by omega) (Int.le_of_lt (Int.pow_pos (by decide)))
 exact wr_u64 h4 (by omega)
theorem or7 {x v : Int} {i : Nat} (h : isByte x) (hi : i ≤ 9) (h9 : i = 9 → x ≤ 1) (h0 : 0 ≤ v) (hv : v < 2 ^ (7 * i)) :
  IntKind.u64.wrap ((BitVec.ofInt IntKind.u64.bits v ||| BitVec.ofInt IntKind.u64.bits (x % 128 * 2 ^ (7 * i))).toNat : Int) = v + x % 128 * 2 ^ (7 * i) :=
 or_add (k := .u64) (y := x % 128) (s := 7 * i) h0 hv (by omega) rfl (by simp only [IntKind.bits]; exact part_lt h hi h9 hv) rfl
theorem step7 {x v : Int} {i : Nat} (hv : v < 2 ^ (7 * i)) : v + x % 128 * 2 ^ (7 * i) < 2 ^ (7 * (i + 1)) := by
 rw [show 7 * (i + 1) = 7 * i + 7 by omega, Int.pow_add]
 have hp : (0 : Int) ≤ 2 ^ (7 * i) := Int.le_of_lt (Int.pow_pos (by decide))
 generalize (2 : Int) ^ (7 * i) = p at *
 have h1 : x % 128 ≤ 127 := by omega
 have h2 : x % 128 * p ≤ 127 * p := Int.mul_le_mul_of_nonneg_right h1 hp
 omega
end Go.Sk
end
section
namespace Go.Sk
/-- The shortest varint, at most so many bytes and one. -/
def encF : Nat → Int → List Int
 | 0, v => [v]
 | f + 1, v => if v < 128 then [v] else (v % 128 + 128) :: encF f (v / 128)
def enc (v : Int) : List Int := encF 9 v
theorem encF_len : ∀ (f : Nat) (v : Int), 0 ≤ v → v < 128 ^ (f + 1) → 1 ≤ (encF f v).length ∧ (encF f v).length ≤ f + 1 ∧ v < 128 ^ (encF f v).length ∧ ((encF f v).length = 1 ∨ 128 ^ ((encF f v).length - 1) ≤ v)
 | 0, v, h0, h1 => by simp only [encF, List.length_singleton]; exact ⟨by omega, by omega, by simpa using h1, .inl trivial⟩
 | f + 1, v, h0, h1 => by
  simp only [encF]
  split
  ·rename_i h; simp only [List.length_singleton]; exact ⟨by omega, by omega, by omega, .inl trivial⟩
  ·rename_i h
   have hp : (128 : Int) ^ (f + 1 + 1) = 128 ^ (f + 1) * 128 := by rw [Int.pow_succ]
   obtain ⟨a, b, c, d⟩ := encF_len f (v / 128) (by omega) (by omega)
   simp only [List.length_cons]
   refine ⟨by omega, by omega, ?_, .inr ?_⟩
   ·rw [Int.pow_succ]; omega
   ·rw [Nat.add_sub_cancel]
    rcases d with d | d
    ·rw [d]; simp; omega
    ·obtain ⟨k, hk⟩ : ∃ k, (encF f (v / 128)).length = k + 1 := ⟨_, (Nat.succ_pred_eq_of_pos a).symm⟩
     rw [hk] at d ⊢
     rw [Nat.add_sub_cancel] at d
     rw [Int.pow_succ]; omega
def V64 (v : Int) : Prop := 0 ≤ v ∧ v < 18446744073709551616
theorem V64.lt {v : Int} (h : V64 v) : v < 128 ^ 10 := by have := h.2; omega
theorem enc_len {v : Int} (h : V64 v) : 1 ≤ (enc v).length ∧ (enc v).length ≤ 10 ∧ v < 128 ^ (enc v).length ∧ ((enc v).length = 1 ∨ 128 ^ ((enc v).length - 1) ≤ v) := encF_len 9 v h.1 h.lt
theorem encF_bytes : ∀ (f : Nat) (v : Int), 0 ≤ v → v < 128 ^ (f + 1) → Bytes (encF f v)
 | 0, v, h0, h1 => fun x hx => by simp only [encF, List.mem_singleton] at hx; subst hx; exact ⟨h0, by simp at h1; omega⟩
 | f + 1, v, h0, h1 => fun x hx => by
  simp only [encF] at hx
  split at hx
  ·simp only [List.mem_singleton] at hx; subst hx; exact ⟨h0, by omega⟩
  ·rcases List.mem_cons.1 hx with rfl | hx
   ·exact ⟨by omega, by omega⟩
   ·have hp : (128 : Int) ^ (f + 1 + 1) = 128 ^ (f + 1) * 128 := by rw [Int.pow_succ]
    exact encF_bytes f (v / 128) (by omega) (by omega) x hx
theorem enc_bytes {v : Int} (h : V64 v) : Bytes (enc v) := encF_bytes 9 v h.1 h.lt
/-- The last byte is 0 in the number 0 alone. -/
theorem encF_last : ∀ (f : Nat) (v : Int), 0 ≤ v → v < 128 ^ (f + 1) → ∃ l x, encF f v = l ++ [x] ∧ 0 ≤ x ∧ x < 128 ∧ (l ≠ [] → x ≠ 0)
 | 0, v, h0, h1 => ⟨[], v, rfl, h0, by simpa using h1, fun h => absurd rfl h⟩
 | f + 1, v, h0, h1 => by
  simp only [encF]
  split
  ·rename_i h; exact ⟨[], v, rfl, h0, h, fun h => absurd rfl h⟩
  ·have hp : (128 : Int) ^ (f + 1 + 1) = 128 ^ (f + 1) * 128 := by rw [Int.pow_succ]
   obtain ⟨l, x, e, a, b, c⟩ := encF_last f (v / 128) (by omega) (by omega)
   refine ⟨(v % 128 + 128) :: l, x, by rw [e]; rfl, a, b, fun _ => ?_⟩
   cases l with
   | cons y l => exact c (by simp)
   | nil =>
    have hx : encF f (v / 128) = [x] := e
    cases f with
    | zero => simp only [encF, List.cons.injEq, and_true] at hx; omega
    | succ f =>
     simp only [encF] at hx
     split at hx
     ·simp only [List.cons.injEq, and_true] at hx; omega
     ·rename_i h2
      simp only [List.cons.injEq] at hx
      omega
/-- How a varint that has been read goes on: all its bytes but the last say that there is more. -/
def more : List Int → Prop
 | [] => True
 | c :: l => 128 ≤ c ∧ c < 256 ∧ more l
def val : Nat → List Int → Int
 | _, [] => 0
 | i, c :: l => c % 128 * 2 ^ (7 * i) + val (i + 1) l
theorem vr_more : ∀ (l : List Int) (i : Nat) (v x : Int) (r : List Int), more l → i + l.length ≤ 9 → 0 ≤ x → x < 128 → (i + l.length = 9 → x ≤ 1) → vr (l ++ x :: r) i v = .ok (v + val i (l ++ [x])) (i + l.length + 1)
 | [], i, v, x, r, _, hi, h0, h1, h9 => by
  simp only [List.nil_append, vr, val, List.length_nil, Nat.add_zero] at *
  rw [if_pos (by omega), if_neg (by omega), if_pos h1]
  simp
 | c :: l, i, v, x, r, hm, hi, h0, h1, h9 => by
  simp only [List.length_cons] at hi h9
  simp only [List.cons_append, vr, val, List.length_cons]
  rw [if_pos (by omega), if_neg (by omega), if_neg (by have := hm.1; omega), vr_more l (i + 1) _ x r hm.2.2 (by omega) h0 h1 (fun h => h9 (by omega))]
  congr 1
  ·omega
  ·omega
theorem encF_val : ∀ (f i : Nat) (v : Int), 0 ≤ v → v < 128 ^ (f + 1) → ∃ l x, encF f v = l ++ [x] ∧ more l ∧ 0 ≤ x ∧ x < 128 ∧ val i (l ++ [x]) = v * 2 ^ (7 * i) ∧ (l.length = f → x * 128 ^ f ≤ v)
 | 0, i, v, h0, h1 => ⟨[], v, rfl, trivial, h0, by simpa using h1, by simp only [List.nil_append, val]; rw [Int.emod_eq_of_lt h0 (by simpa using h1)]; omega, fun _ => by simp⟩
 | f + 1, i, v, h0, h1 => by
  simp only [encF]
  split
  ·rename_i h
   exact ⟨[], v, rfl, trivial, h0, h, by simp only [List.nil_append, val]; rw [Int.emod_eq_of_lt h0 h]; omega, fun h => by simp at h⟩
  ·have hp : (128 : Int) ^ (f + 1 + 1) = 128 ^ (f + 1) * 128 := by rw [Int.pow_succ]
   obtain ⟨l, x, e, hm, a, b, hv, hb⟩ := encF_val f (i + 1) (v / 128) (by omega) (by omega)
   refine ⟨(v % 128 + 128) :: l, x, by rw [e]; rfl, ⟨by omega, by omega, hm⟩, a, b, ?_, fun hl => ?_⟩
   ·simp only [List.cons_append, val]
    rw [hv, show 7 * (i + 1) = 7 * i + 7 by omega, Int.pow_add, show ((v % 128 + 128) % 128) = v % 128 by omega]
    generalize (2 : Int) ^ (7 * i) = p
    rw [show (2 : Int) ^ 7 = 128 by decide, Int.mul_comm p 128, ← Int.mul_assoc, ← Int.add_mul]
    congr 1
    omega
   ·simp only [List.length_cons, Nat.add_right_cancel_iff] at hl
    have := hb hl
    rw [Int.pow_succ, ← Int.mul_assoc]
    omega
theorem enc_val {v : Int} (h : V64 v) : ∃ l x, enc v = l ++ [x] ∧ more l ∧ l.length ≤ 9 ∧ 0 ≤ x ∧ x < 128 ∧ val 0 (l ++ [x]) = v ∧ (l.length = 9 → x ≤ 1) ∧ (l ≠ [] → x ≠ 0) := by
 obtain ⟨l, x, e, hm, a, b, hv, hb⟩ := encF_val 9 0 v h.1 h.lt
 have hl := (enc_len h).2.1
 have e' : enc v = l ++ [x] := e
 rw [e'] at hl
 simp only [List.length_append, List.length_singleton] at hl
 refine ⟨l, x, e, hm, by omega, a, b, by simpa using hv, fun h9 => ?_, ?_⟩
 ·have := hb h9
  have := h.2
  omega
 ·obtain ⟨l2, x2, e2, _, _, h2⟩ := encF_last 9 v h.1 h.lt
  rw [e] at e2
  obtain ⟨h3, h4⟩ := List.append_inj' e2 rfl
  simp only [List.cons.injEq, and_true] at h4
  subst h3 h4
  exact h2
end Go.Sk
end
section
namespace Go.Sk
theorem or1_nat (v : Nat) : v ||| 1 = v / 2 * 2 + 1 := by
 have h1 : v / 2 * 2 + 1 = 1 ||| (v / 2 * 2 ^ 1) := by rw [or_disj (by decide)]; omega
 rw [h1]
 rcases Nat.mod_two_eq_zero_or_one v with h | h
 ·rw [Nat.or_comm]; congr 1; omega
 ·have h2 : v = 1 ||| (v / 2 * 2 ^ 1) := by rw [or_disj (by decide)]; omega
  have h3 : (1 ||| (v / 2 * 2 ^ 1)) ||| 1 = 1 ||| (v / 2 * 2 ^ 1) := by
   rw [Nat.or_comm, ← Nat.or_assoc, Nat.or_self]
  rw [← h2] at h3
  rw [← h2, h3]
theorem or1 {v : Int} (h : V64 v) : IntKind.u64.wrap ((BitVec.ofInt IntKind.u64.bits v ||| BitVec.ofInt IntKind.u64.bits 1).toNat : Int) = v / 2 * 2 + 1 := by
 obtain ⟨h0, h1⟩ := h
 obtain ⟨a, rfl⟩ := Int.eq_ofNat_of_zero_le h0
 have ha : a < 2 ^ 64 := by omega
 rw [BitVec.toNat_or, BitVec.toNat_ofInt, BitVec.toNat_ofInt]
 have m1 : ((a : Int) % ((2 ^ IntKind.u64.bits : Nat) : Int)).toNat = a := by
  simp only [IntKind.bits]; rw [← Int.natCast_emod, Int.toNat_natCast, Nat.mod_eq_of_lt ha]
 have m2 : ((1 : Int) % ((2 ^ IntKind.u64.bits : Nat) : Int)).toNat = 1 := by decide
 rw [m1, m2, or1_nat]
 rw [wr_u64 (by omega) (by omega)]
 simp
theorem pow2_lt {a b : Nat} (h : (2 : Int) ^ a < 2 ^ b) : a < b := by
 have h' : ((2 ^ a : Nat) : Int) < ((2 ^ b : Nat) : Int) := by simpa using h
 have h2 : 2 ^ a < 2 ^ b := Int.ofNat_lt.1 h'
 exact (Nat.pow_lt_pow_iff_right (by decide : 1 < 2)).1 h2
theorem pow128 (k : Nat) : (128 : Int) ^ k = 2 ^ (7 * k) := by rw [Int.pow_mul]; rfl
theorem size_of {v : Int} (hv : V64 v) {l : Nat} (h1 : 1 ≤ l) (h2 : 2 ^ (l - 1) ≤ v / 2 * 2 + 1) (h3 : v / 2 * 2 + 1 < 2 ^ l) : (l + 6) / 7 = (enc v).length := by
 obtain ⟨a, b, c, d⟩ := enc_len hv
 generalize (enc v).length = k at *
 obtain ⟨j, rfl⟩ : ∃ j, k = j + 1 := ⟨k - 1, by omega⟩
 have h0 := hv.1
 have e1 : (128 : Int) ^ (j + 1) = 2 * (64 * 128 ^ j) := by rw [Int.pow_succ]; omega
 have hlt : v / 2 * 2 + 1 < 128 ^ (j + 1) := by omega
 have hge : (128 : Int) ^ j ≤ v / 2 * 2 + 1 := by
  rcases d with d | d
  ·have : j = 0 := by omega
   subst this; simp; omega
  ·rw [Nat.add_sub_cancel] at d; omega
 have u1 : l - 1 < 7 * (j + 1) := pow2_lt (Int.lt_of_le_of_lt h2 (by rw [← pow128]; exact hlt))
 have u2 : 7 * j < l := pow2_lt (Int.lt_of_le_of_lt (by rw [← pow128]; exact hge) h3)
 omega
/-- The writer as data. -/
structure WS where
 b : List Int
 limit : Int
 op : List Int
 e : Int
def WS.ok (S : WS) : Prop := 0 ≤ S.limit ∧ S.limit ≤ 16777216 ∧ (S.b.length : Int) ≤ S.limit
def WS.put (S : WS) (l : List Int) : WS := if S.e = 0 then (if S.limit - S.b.length < l.length then { S with e := 15 } else { S with b := S.b ++ l }) else S
theorem WS.put_ok {S : WS} (h : S.ok) (l : List Int) : (S.put l).ok := by
 unfold WS.put
 split
 ·split
  ·exact h
  ·exact ⟨h.1, h.2.1, by simp only [List.length_append]; omega⟩
 ·exact h
end Go.Sk
end
section
namespace Go.Sk
theorem wrap64 (x : Int) : V64 (IntKind.u64.wrap x) := by
 unfold V64 IntKind.wrap
 simp only [IntKind.signed, IntKind.bits, Bool.false_and]
 have h : (0 : Int) < 2 ^ 64 := by decide
 have h1 := Int.emod_nonneg x (Int.ne_of_gt h)
 have h2 := Int.emod_lt_of_pos x h
 simp only [Bool.false_eq_true, if_false]
 constructor
 ·omega
 ·have : (2 : Int) ^ 64 = 18446744073709551616 := by decide
  omega
theorem or_tag {n k : Int} (h0 : 0 ≤ n) (h1 : n < 4294967296) (hk0 : 0 ≤ k) (hk1 : k < 8) :
  IntKind.u64.wrap ((BitVec.ofInt IntKind.u64.bits (n * 8) ||| BitVec.ofInt IntKind.u64.bits k).toNat : Int) = n * 8 + k := by
 rw [BitVec.or_comm]
 have := or_add (k := .u64) (v := k) (x := n * 8) (y := n) (s := 3) hk0 (by omega) h0 (by omega) (by simp only [IntKind.bits]; omega) rfl
 rw [this]
 omega
theorem shl3 {n : Int} (h0 : 0 ≤ n) (h1 : n < 4294967296) : IntKind.u64.wrap (n * 2 ^ (min (3 : Int).toNat IntKind.u64.bits)) = n * 8 := by
 rw [show min (3 : Int).toNat IntKind.u64.bits = 3 by decide, show (2 : Int) ^ 3 = 8 by decide]
 exact wr_u64 (by omega) (by omega)
end Go.Sk
end
section
namespace Go.Sk
def zig (n : Int) : Int := if 0 ≤ n then 2 * n else -2 * n - 1
def unzig (v : Int) : Int := if v % 2 = 0 then v / 2 else -(v / 2) - 1
def I64 (n : Int) : Prop := -9223372036854775808 ≤ n ∧ n ≤ 9223372036854775807
theorem zig_ok {n : Int} (h : I64 n) : V64 (zig n) := by
 obtain ⟨h0, h1⟩ := h
 unfold zig V64
 split <;> constructor <;> omega
theorem unzig_ok {v : Int} (h : V64 v) : I64 (unzig v) := by
 obtain ⟨h0, h1⟩ := h
 unfold unzig I64
 split <;> constructor <;> omega
theorem unzig_zig (n : Int) : unzig (zig n) = n := by
 unfold zig unzig
 split
 ·rw [if_pos (by omega)]; omega
 ·rw [if_neg (by omega)]; omega
theorem zig_unzig {v : Int} (h : 0 ≤ v) : zig (unzig v) = v := by
 unfold zig unzig
 split
 ·rw [if_pos (by omega)]; omega
 ·rw [if_neg (by omega)]; omega
theorem toNat_ofInt64 {x : Int} (h : V64 x) : (BitVec.ofInt 64 x).toNat = x.toNat := by
 obtain ⟨h0, h1⟩ := h
 rw [BitVec.toNat_ofInt]
 congr 1
 exact Int.emod_eq_of_lt h0 (by simpa using h1)
theorem xor0 {x : Int} (h : V64 x) : IntKind.u64.wrap ((BitVec.ofInt IntKind.u64.bits x ^^^ BitVec.ofInt IntKind.u64.bits 0).toNat : Int) = x := by
 show IntKind.u64.wrap ((BitVec.ofInt 64 x ^^^ BitVec.ofInt 64 0).toNat : Int) = x
 rw [show (BitVec.ofInt 64 0) = 0#64 by decide, BitVec.xor_zero, toNat_ofInt64 h]
 obtain ⟨h0, h1⟩ := h
 rw [Int.toNat_of_nonneg h0]
 exact wr_u64 h0 (by omega)
theorem xorm {x : Int} (h : V64 x) : IntKind.u64.wrap ((BitVec.ofInt IntKind.u64.bits x ^^^ BitVec.ofInt IntKind.u64.bits 18446744073709551615).toNat : Int) = 18446744073709551615 - x := by
 show IntKind.u64.wrap ((BitVec.ofInt 64 x ^^^ BitVec.ofInt 64 18446744073709551615).toNat : Int) = _
 rw [show (BitVec.ofInt 64 18446744073709551615) = BitVec.allOnes 64 by decide, BitVec.xor_allOnes, BitVec.toNat_not, toNat_ofInt64 h]
 obtain ⟨h0, h1⟩ := h
 have e : ((2 ^ 64 - 1 - x.toNat : Nat) : Int) = 18446744073709551615 - x := by omega
 rw [e]
 exact wr_u64 (by omega) (by omega)
theorem xor0i {x : Int} (h0 : 0 ≤ x) (h1 : x ≤ 9223372036854775807) : IntKind.i64.wrap ((BitVec.ofInt IntKind.i64.bits x ^^^ BitVec.ofInt IntKind.i64.bits 0).toNat : Int) = x := by
 show IntKind.i64.wrap ((BitVec.ofInt 64 x ^^^ BitVec.ofInt 64 0).toNat : Int) = x
 rw [show (BitVec.ofInt 64 0) = 0#64 by decide, BitVec.xor_zero, toNat_ofInt64 ⟨h0, by omega⟩, Int.toNat_of_nonneg h0]
 exact wr_i64 (by omega) (by omega)
theorem xormi {x : Int} (h0 : 0 ≤ x) (h1 : x ≤ 9223372036854775807) : IntKind.i64.wrap ((BitVec.ofInt IntKind.i64.bits x ^^^ BitVec.ofInt IntKind.i64.bits (-1)).toNat : Int) = -x - 1 := by
 show IntKind.i64.wrap ((BitVec.ofInt 64 x ^^^ BitVec.ofInt 64 (-1)).toNat : Int) = _
 rw [show (BitVec.ofInt 64 (-1)) = BitVec.allOnes 64 by decide, BitVec.xor_allOnes, BitVec.toNat_not, toNat_ofInt64 ⟨h0, by omega⟩]
 have e : ((2 ^ 64 - 1 - x.toNat : Nat) : Int) = 18446744073709551615 - x := by omega
 rw [e]
 rw [IntKind.wrap_i64]
 omega
theorem shl1 {n : Int} : n * 2 ^ (min (1 : Int).toNat IntKind.i64.bits) = n * 2 := by
 rw [show min (1 : Int).toNat IntKind.i64.bits = 1 by decide]; omega
theorem shr63 {n : Int} (h : I64 n) : n.fdiv (2 ^ (min (63 : Int).toNat IntKind.i64.bits)) = if 0 ≤ n then 0 else -1 := by
 obtain ⟨h0, h1⟩ := h
 rw [show min (63 : Int).toNat IntKind.i64.bits = 63 by decide, show (2 : Int) ^ 63 = 9223372036854775808 by decide, Int.fdiv_eq_ediv_of_nonneg _ (by decide)]
 split <;> omega
theorem shr1 {v : Int} : v.fdiv (2 ^ (min (1 : Int).toNat IntKind.u64.bits)) = v / 2 := by
 rw [show min (1 : Int).toNat IntKind.u64.bits = 1 by decide, show (2 : Int) ^ 1 = 2 by decide, Int.fdiv_eq_ediv_of_nonneg _ (by decide)]
theorem and1 {v : Int} (h : V64 v) : IntKind.u64.wrap ((BitVec.ofInt IntKind.u64.bits v &&& BitVec.ofInt IntKind.u64.bits 1).toNat : Int) = v % 2 :=
 and_mask (k := .u64) (s := 1) h.1 (by simp only [IntKind.bits]; exact h.2) rfl (by decide)
end Go.Sk
end
section
namespace Go.Proofs.YtclcnhfponjdaaaGreatDoor
open Go.Sk
set_option maxRecDepth 100000
theorem dec_pos (s : ByteArray) (p : Nat) : 1 ≤ (Utf8.decode s p).2 := by
 unfold Utf8.decode
 dsimp only
 repeat' split
 all_goals simp
def goodF (l : List Int) : Nat → Nat → Int
 | 0, _ => -1
 | f + 1, p => if p < l.length then (if (Utf8.decode (str l) p).1 = 65533 ∧ (Utf8.decode (str l) p).2 = 1 then p else goodF l f (p + (Utf8.decode (str l) p).2)) else -1
def goodL (l : List Int) : Int := goodF l l.length 0
def GooI (l : List Int) (p : Nat) : Prop := ∃ f, goodF l f p = goodL l ∧ l.length ≤ p + f
theorem GooI.z (l : List Int) : GooI l 0 := ⟨_, rfl, by omega⟩
theorem GooI.end_ {l : List Int} {p : Nat} (h : GooI l p) (hp : ¬ p < l.length) : goodL l = -1 := by
 obtain ⟨f, h1, _⟩ := h
 rw [← h1]
 cases f with
 | zero => rfl
 | succ f => rw [goodF, if_neg hp]
theorem GooI.bad {l : List Int} {p : Nat} (h : GooI l p) (hp : p < l.length) (hb : (Utf8.decode (str l) p).1 = 65533 ∧ (Utf8.decode (str l) p).2 = 1) : goodL l = p := by
 obtain ⟨f, h1, h2⟩ := h
 rw [← h1]
 cases f with
 | zero => omega
 | succ f => rw [goodF, if_pos hp, if_pos hb]
theorem GooI.go {l : List Int} {p : Nat} (h : GooI l p) (hp : p < l.length) (hb : ¬ ((Utf8.decode (str l) p).1 = 65533 ∧ (Utf8.decode (str l) p).2 = 1)) : GooI l (p + (Utf8.decode (str l) p).2) := by
 obtain ⟨f, h1, h2⟩ := h
 have := dec_pos (str l) p
 cases f with
 | zero => omega
 | succ f =>
  rw [goodF, if_pos hp, if_neg hb] at h1
  exact ⟨f, h1, by omega⟩
theorem dec_drop {l : List Int} {p : Nat} (h : p < l.length) : Lib.decodeGo (str (l.drop p)) = Utf8.decode (str l) p := by
 unfold Lib.decodeGo
 rw [if_neg (by rw [str_size, List.length_drop]; omega), ← Lib.decodeL_drop (str l) p, ← Lib.decodeL_drop (str (l.drop p)) 0, str_list, str_list, List.drop_zero, List.map_drop]
attribute [local irreducible] Cs Own Ex Pu Yld RT LJ QJ AtQ CT Rd QSp Sp FinQ Then LoopQ CutQ DT TakeQ EffQ
attribute [local irreducible] It Ro
variable {B : World} {R : List HP}
theorem tabs_of {H : List HP} {w : World} (hT : Lib.Utf8Tabs 0 1 B) (hS : Sat B H w) : Lib.Utf8Tabs 0 1 w :=
 ⟨fun c hc => hS.bcell (hT.1 c hc), fun i hi => ⟨hS.bcell (hT.2 i hi).1, hS.bcell (hT.2 i hi).2⟩⟩
theorem dec_q {H : List HP} (hT : Lib.Utf8Tabs 0 1 B) {l : List Int} {p : Nat} (h : p < l.length) : QSp B Tryz.prog 291 [.string (str (l.drop p))] H (.tuple #[.int .i32 (Utf8.decode (str l) p).1, .int .i64 (Utf8.decode (str l) p).2]) :=
 QSp.below fun w hS => by
  have := Tryz.utf8_DecodeRuneInString (str (l.drop p)) w (tabs_of hT hS)
  rw [dec_drop h] at this
  exact this
theorem goodS_fn (hT : Lib.Utf8Tabs 0 1 B) {l : List Int} (hb : Byt l) (hl : l.length ≤ 140737488355328) : Sp B Tryz.prog 258 [.string (str l)] R [] (fun v H' => v = .int .i64 (goodL l) ∧ H' = []) := by
 refine Sp.body Tryz.func258 rfl Tryz.ntmps258 (by simp) ?_
 simp only [argE, List.cons_append, List.nil_append, Nat.zero_add, Nat.reduceAdd]
 try refine gL ?_
 refine RT.rng T rfl rfl rfl rfl (fun b => ?_)
 try refine gL ?_
 refine CT.loop (α := Nat) (fun p => [(0, .string (str l)), (8, .pointer (some ⟨b, 0, none⟩))]) (fun p => Pu (GooI l p) :: It b (str l) p :: R) (fun p => l.length - p) 0 ⟨rfl, rfl, trivial⟩
  (fun w h => Sat.pu_in (GooI.z l) h) (fun p => CT.pu fun hp => ?_)
 have hdp := dec_pos (str l) p
 try refine gL ?_
 refine RT.nxt rfl (by ((repeat constructor);done)) rfl rfl (fun hlt => ?_) (fun hlt => ?_)
 ·rw [str_size] at hlt
  repeat' (first|refine gL ?_|(refine gv ?_;(refine⟨fun hc=>?_,fun hc=>?_⟩<;>first|(exfalso;omega)|skip))|fail)
  ·refine RT.slsL T (j := p) rfl rfl rfl (by omega) rfl rfl rfl ?_
   refine RT.qcall T rfl (dec_q hT hlt) rfl rfl rfl ?_
   repeat' (first|refine gL ?_|(refine gv ?_;(refine⟨fun hc=>?_,fun hc=>?_⟩<;>first|(exfalso;omega)|skip))|fail)
   ·exact AtQ.f1 Tryz.results258 rfl (by rw [hp.bad hlt (by omega)]) (fun w h => h.tail)
   ·exact AtQ.loop (p + (Utf8.decode (str l) p).2) ⟨rfl, rfl, trivial⟩ (fun w h => Sat.pu_in (hp.go hlt (by omega)) h) (by omega)
  ·exact AtQ.loop (p + (Utf8.decode (str l) p).2) ⟨rfl, rfl, trivial⟩ (fun w h => Sat.pu_in (hp.go hlt (by omega)) h) (by omega)
 ·rw [str_size] at hlt
  try refine gL ?_
  exact AtQ.f1 Tryz.results258 rfl (by rw [hp.end_ hlt]) (fun w h => h.tail)
theorem goodB_fn (hT : Lib.Utf8Tabs 0 1 B) {a : Option Addr} {k c : Nat} {l : List Int} (hR : Rd B R a k c 1 (ints .u8 l)) (hb : Byt l) (hl : l.length ≤ 140737488355328) : Sp B Tryz.prog 277 [.slice a k c] R [] (fun v H' => v = .int .i64 (goodL l) ∧ H' = []) := by
 refine Sp.body Tryz.func277 rfl Tryz.ntmps277 (by simp) ?_
 simp only [argE, List.cons_append, List.nil_append, Nat.zero_add, Nat.reduceAdd]
 have hk : l.length = k := by have := Rd.len hR; rw [ints_len] at this; omega
 try refine gL ?_
 refine RT.convBS T rfl hR hb Tryz.underlying23 Tryz.underlying5 rfl rfl rfl ?_
 refine RT.rng T rfl rfl rfl rfl (fun b => ?_)
 try refine gL ?_
 refine CT.loop (α := Nat) (fun p => [(0, .slice a k c), (9, .pointer (some ⟨b, 0, none⟩))]) (fun p => Pu (GooI l p) :: It b (str l) p :: R) (fun p => l.length - p) 0 ⟨rfl, rfl, trivial⟩
  (fun w h => Sat.pu_in (GooI.z l) h) (fun p => CT.pu fun hp => ?_)
 have hdp := dec_pos (str l) p
 try refine gL ?_
 refine RT.nxt rfl (by ((repeat constructor);done)) rfl rfl (fun hlt => ?_) (fun hlt => ?_)
 ·rw [str_size] at hlt
  repeat' (first|refine gL ?_|(refine gv ?_;(refine⟨fun hc=>?_,fun hc=>?_⟩<;>first|(exfalso;omega)|skip))|fail)
  ·refine RT.sllo T (j := p) rfl rfl rfl (by omega) rfl rfl rfl ?_
   have hR2 := Rd.sub (i := p) (j := k) hR (by omega) (Nat.le_refl _)
   have he : ((ints .u8 l).drop (p * 1)).take ((k - p) * 1) = ints .u8 (l.drop p) := by
    rw [Nat.mul_one, Nat.mul_one, List.take_of_length_le (by rw [List.length_drop, ints_len]; omega)]
    simp [ints]
   rw [he] at hR2
   refine RT.convBS T rfl (rD (hR2)) (hb.drop p) Tryz.underlying23 Tryz.underlying5 rfl rfl rfl ?_
   refine RT.qcall T rfl (dec_q hT hlt) rfl rfl rfl ?_
   repeat' (first|refine gL ?_|(refine gv ?_;(refine⟨fun hc=>?_,fun hc=>?_⟩<;>first|(exfalso;omega)|skip))|fail)
   ·exact AtQ.f1 Tryz.results277 rfl (by rw [hp.bad hlt (by omega)]) (fun w h => h.tail)
   ·exact AtQ.loop (p + (Utf8.decode (str l) p).2) ⟨rfl, rfl, trivial⟩ (fun w h => Sat.pu_in (hp.go hlt (by omega)) h) (by omega)
  ·exact AtQ.loop (p + (Utf8.decode (str l) p).2) ⟨rfl, rfl, trivial⟩ (fun w h => Sat.pu_in (hp.go hlt (by omega)) h) (by omega)
 ·rw [str_size] at hlt
  try refine gL ?_
  exact AtQ.f1 Tryz.results277 rfl (by rw [hp.end_ hlt]) (fun w h => h.tail)
end Go.Proofs.YtclcnhfponjdaaaGreatDoor
end
section
namespace Go.Proofs.YtclcnhfponjdaaaGreatDoor
open Go.Sk
def fBytes (num : Int) (b : Txt) : Txt := enc (num * 8 + 2) ++ (enc b.length ++ b)
def fText (num : Int) (s : Txt) : Txt := if s = [] then [] else fBytes num s
def fTexts (num : Int) (l : List Txt) : Txt := l.flatMap (fBytes num)
def fSign (num n : Int) : Txt := if n = 0 then [] else enc (num * 8 + 0) ++ enc (zig n)
def fSmall (num n : Int) : Txt := if n = 0 then [] else enc (num * 8 + 0) ++ enc n
def fTruth (num : Int) (b : Bool) : Txt := if b = true then enc (num * 8 + 0) ++ enc 1 else []
def fRecs {α : Type} (num : Int) (f : α → Txt) (l : List α) : Txt := l.flatMap fun x => fBytes num (f x)
def spanB (s : SpanT) : Txt := fSign 1 s.f ++ fSign 2 s.t
def valB (v : EValT) : Txt := fText 1 v.nm ++ fSign 2 v.num
def enumB (e : EnumT) : Txt := fText 1 e.nm ++ (fRecs 2 valB e.vals.l ++ (fTruth 3 e.ali ++ (fRecs 4 spanB e.res.l ++ fTexts 5 e.names.l)))
def fieldB (f : FieldT) : Txt := fText 1 f.nm ++ (fSign 2 f.num ++ (fSmall 3 f.card ++ (fSmall 4 f.kind ++ (fText 5 f.ty ++ (fSmall 6 f.key ++ (fSign 7 f.oneof ++ (fSmall 8 f.packed ++ fText 9 f.js)))))))
def impB (i : ImpT) : Txt := fText 1 i.path ++ fTruth 2 i.pub
mutual
/-- A message's record; d: in so many others it stands. -/
def msgB : MsgT → Nat → Txt
 | .mk nm fields oneofs _ _ msgs enums res names, d => if 99 < d then [] else fText 1 nm ++ (fRecs 2 fieldB fields.l ++ (fTexts 3 oneofs.l ++ (msgsB msgs (d + 1) ++ (fRecs 5 enumB enums.l ++ (fRecs 6 spanB res.l ++ fTexts 7 names.l)))))
def msgsB : List MsgT → Nat → Txt
 | [], _ => []
 | m :: l, d => fBytes 4 (msgB m d) ++ msgsB l d
end
theorem msgsB_eq (d : Nat) : ∀ l : List MsgT, msgsB l d = fRecs 4 (fun m => msgB m d) l
 | [] => by unfold msgsB; rfl
 | m :: l => by unfold msgsB; rw [msgsB_eq d l]; rfl
def fileB (f : FileT) : Txt := fText 1 f.path ++ (fText 2 f.pack ++ (fRecs 3 impB f.imps.l ++ (msgsB f.msgs 0 ++ fRecs 5 enumB f.enums.l)))
def setB (l : List FileT) : Txt := fRecs 1 fileB l
/-! ### what cannot be written -/
def goodT (t : Txt) : Bool := decide (goodL t < 0)
def goodEn (e : EnumT) : Bool := goodT e.nm && e.names.l.all goodT && e.vals.l.all fun v => goodT v.nm
def goodFd (f : FieldT) : Bool := goodT f.nm && goodT f.ty && goodT f.js
mutual
def goodMs : MsgT → Nat → Bool
 | .mk nm fields oneofs _ _ msgs enums _ names, d => decide (d ≤ 99) && goodT nm && oneofs.l.all goodT && names.l.all goodT && fields.l.all goodFd && goodMsL msgs (d + 1) && enums.l.all goodEn
def goodMsL : List MsgT → Nat → Bool
 | [], _ => true
 | m :: l, d => goodMs m d && goodMsL l d
end
def goodFl (f : FileT) : Bool := goodT f.path && goodT f.pack && (f.imps.l.all fun i => goodT i.path) && goodMsL f.msgs 0 && f.enums.l.all goodEn
/-- Encode's answer. -/
def encodeL (l : List FileT) : Option Txt × Int := if l.all goodFl = true then (if (setB l).length ≤ 16777216 then (some (setB l), 0) else (none, 71)) else (none, 70)
end Go.Proofs.YtclcnhfponjdaaaGreatDoor
end
section
namespace Go.Sk
/-- A reader: where it stands, where it ends, its error, and that one's place. -/
structure RS where
 at_ : Nat
 en : Nat
 e : Int
 wh : Nat
def RS.ok (n : Nat) (s : RS) : Prop := s.at_ ≤ s.en ∧ s.en ≤ n ∧ s.wh ≤ n
def RS.seg (bs : List Int) (s : RS) : List Int := (bs.drop s.at_).take (s.en - s.at_)
def RS.wrong (e : Int) (at_ : Nat) (s : RS) : RS := if s.e = 0 then { s with e := e, wh := at_ } else s
def RS.varint (bs : List Int) (s : RS) : Int × RS :=
 if s.e = 0 then match vr (s.seg bs) 0 0 with
  | .ok v k => (v, { s with at_ := s.at_ + k })
  | .short => (0, { s with e := 10, wh := s.at_ })
  | .long => (0, { s with e := 11, wh := s.at_ })
 else (0, s)
def RS.tag (bs : List Int) (s : RS) : (Int × Int) × RS :=
 if (s.varint bs).2.e = 0 then
  (if 4294967295 < (s.varint bs).1 ∨ (s.varint bs).1 / 8 = 0 ∨ 5 < (s.varint bs).1 % 8 then ((0, 0), { (s.varint bs).2 with at_ := s.at_, e := 12, wh := s.at_ })
   else (((s.varint bs).1 / 8, (s.varint bs).1 % 8), (s.varint bs).2))
 else ((0, 0), (s.varint bs).2)
/-- Bytes with their length: where they begin and end, if they are there. -/
def RS.span (bs : List Int) (s : RS) : Option (Nat × Nat) × RS :=
 if (s.varint bs).2.e = 0 then
  (if ((s.varint bs).2.en : Int) - (s.varint bs).2.at_ < (s.varint bs).1 then (none, { (s.varint bs).2 with at_ := s.at_, e := 10, wh := s.at_ })
   else (some ((s.varint bs).2.at_, (s.varint bs).2.at_ + (s.varint bs).1.toNat), { (s.varint bs).2 with at_ := (s.varint bs).2.at_ + (s.varint bs).1.toNat }))
 else (none, (s.varint bs).2)
def RS.none_ (s : RS) : RS := ⟨s.wh, s.wh, s.e, s.wh⟩
def RS.end_ (s : RS) : RS := if s.at_ < s.en then s.wrong 16 s.at_ else s
def RS.part (bs : List Int) (s : RS) : RS × RS := match (s.span bs).1 with
 | some (i, j) => (⟨i, j, 0, 0⟩, (s.span bs).2)
 | none => ((s.span bs).2.none_, (s.span bs).2)
theorem RS.seg_len {bs : List Int} {n : Nat} {s : RS} (h : s.ok n) (hb : bs.length = n) : (s.seg bs).length = s.en - s.at_ := by
 obtain ⟨h1, h2, h3⟩ := h
 unfold RS.seg
 rw [List.length_take, List.length_drop]
 omega
theorem vr_val : ∀ (l : List Int) (i : Nat) (v r : Int) (k : Nat), Bytes l → 0 ≤ v → v < 2 ^ (7 * i) → i ≤ 10 → vr l i v = .ok r k → 0 ≤ r ∧ r < 18446744073709551616
 | [], i, v, r, k, _, _, _, _, h => by simp only [vr] at h; split at h <;> cases h
 | c :: l, i, v, r, k, hb, h0, hv, hi, h => by
  have hc : isByte c := hb c (by simp)
  simp only [vr] at h
  split at h
  ·rename_i h10
   split at h
   ·cases h
   ·rename_i h9
    have h9' : i = 9 → c ≤ 1 := fun e => by omega
    have hp := part_lt hc (by omega) h9' hv
    have hp0 : 0 ≤ c % 128 * 2 ^ (7 * i) := Int.mul_nonneg (by omega) (Int.le_of_lt (Int.pow_pos (by decide)))
    split at h
    ·cases h
     exact ⟨by omega, hp⟩
    ·exact vr_val l (i + 1) _ r k (fun x hx => hb x (by simp [hx])) (by omega) (step7 hv) (by omega) h
  ·cases h
theorem V64.zero : V64 0 := ⟨by decide, by decide⟩
theorem RS.varint_spec {bs : List Int} {n : Nat} {s : RS} (h : s.ok n) (hb : bs.length = n) (hby : Bytes bs) : (s.varint bs).2.ok n ∧ (s.varint bs).2.en = s.en ∧ s.at_ ≤ (s.varint bs).2.at_ ∧ V64 (s.varint bs).1 ∧ ((s.varint bs).2.e ≠ 0 → (s.varint bs).2.at_ = s.at_ ∧ (s.varint bs).1 = 0) ∧ ((s.varint bs).2.e = 0 → s.e = 0 ∧ s.at_ < (s.varint bs).2.at_) := by
 have hl := RS.seg_len h hb
 obtain ⟨h1, h2, h3⟩ := h
 unfold RS.varint
 split
 ·rename_i he
  split
  ·rename_i v k hv
   have hle := vr_le _ _ _ _ _ hv
   have hval := vr_val _ _ _ _ _ ((hby.drop _).take _) (by omega) (by simp) (by omega) hv
   rw [hl] at hle
   exact ⟨⟨by simp only; omega, h2, h3⟩, rfl, by simp only; omega, hval, fun hn => absurd he hn, fun _ => ⟨he, by simp only; omega⟩⟩
  ·exact ⟨⟨h1, h2, by simp only; omega⟩, rfl, Nat.le_refl _, V64.zero, fun _ => ⟨rfl, rfl⟩, fun hn => by simp at hn⟩
  ·exact ⟨⟨h1, h2, by simp only; omega⟩, rfl, Nat.le_refl _, V64.zero, fun _ => ⟨rfl, rfl⟩, fun hn => by simp at hn⟩
 ·rename_i he
  exact ⟨⟨h1, h2, h3⟩, rfl, Nat.le_refl _, V64.zero, fun _ => ⟨rfl, rfl⟩, fun hn => absurd hn he⟩
end Go.Sk
end
section
namespace Go.Proofs.YtclcnhfponjdaaaGreatDoor
open Go.Sk
/-- What a field is: a text, texts, records, a number with sign of 32 bits, one of 64, a number of one byte, a 1. -/
inductive FK where
 | t | ts | rs | z | zl | n | b
def FK.list : FK → Bool
 | .ts => true
 | .rs => true
 | _ => false
def FK.kind : FK → Int
 | .t => 2
 | .ts => 2
 | .rs => 2
 | _ => 0
def formSet : List FK := [.rs]
def formFile : List FK := [.t, .t, .rs, .rs, .rs]
def formImport : List FK := [.t, .b]
def formMessage : List FK := [.t, .rs, .ts, .rs, .rs, .rs, .ts]
def formField : List FK := [.t, .z, .n, .n, .t, .n, .zl, .n, .t]
def formEnum : List FK := [.t, .rs, .b, .rs, .ts]
def formValue : List FK := [.t, .z]
def formSpan : List FK := [.z, .z]
/-- The shortest varint at a place: its number, the place behind. -/
def shortV (bs : Txt) (at_ to : Nat) : Option (Int × Nat) := match vr ((bs.drop at_).take (to - at_)) 0 0 with
 | .ok v k => if k = (enc v).length then some (v, at_ + k) else none
 | _ => none
/-- A tag: the field's number, the place behind. -/
def tagL (form : List FK) (bs : Txt) (at_ to last : Nat) : Option (Nat × Nat) := match shortV bs at_ to with
 | some (v, p) => if v ≤ 4294967295 ∧ 1 ≤ v / 8 ∧ v / 8 ≤ form.length ∧ (last < (v / 8).toNat ∨ last = (v / 8).toNat ∧ (form.getD ((v / 8).toNat - 1) .t).list = true) ∧ v % 8 = (form.getD ((v / 8).toNat - 1) .t).kind then some ((v / 8).toNat, p) else none
 | none => none
/-- A content: its number, where it lies. -/
def contL (what : FK) (bs : Txt) (p to : Nat) : Option (Int × Nat × Nat) := match shortV bs p to with
 | none => none
 | some (n, q) => match what with
  | .t => if n ≤ (to : Int) - q ∧ 0 < n ∧ goodL ((bs.drop q).take n.toNat) < 0 then some (n, q, q + n.toNat) else none
  | .ts => if n ≤ (to : Int) - q ∧ goodL ((bs.drop q).take n.toNat) < 0 then some (n, q, q + n.toNat) else none
  | .rs => if n ≤ (to : Int) - q then some (n, q, q + n.toNat) else none
  | .z => if unzig n ≠ 0 ∧ -2147483648 ≤ unzig n ∧ unzig n ≤ 2147483647 then some (n, q, q) else none
  | .zl => if n ≠ 0 then some (n, q, q) else none
  | .n => if n ≠ 0 ∧ n ≤ 255 then some (n, q, q) else none
  | .b => if n = 1 then some (n, q, q) else none
structure Got where
 num : Nat
 v : Int
 fr : Nat
 to : Nat
def gotL (form : List FK) (bs : Txt) (at_ to last : Nat) : Option Got := match tagL form bs at_ to last with
 | none => none
 | some (num, p) => match contL (form.getD (num - 1) .t) bs p to with
  | none => none
  | some (n, fr, t) => some ⟨num, n, fr, t⟩
/-- Fields one behind the other. -/
def recL {α : Type} (form : List FK) (bs : Txt) (f : α → Nat → Got → Except Nat α) : Nat → Nat → Nat → Nat → α → Except Nat α
 | 0, at_, _, _, _ => .error at_
 | k + 1, at_, to, last, x => if at_ < to then (match gotL form bs at_ to last with
  | none => .error at_
  | some g => match f x at_ g with
   | .error p => .error p
   | .ok y => recL form bs f k g.to to g.num y) else .ok x
def readR {α : Type} (form : List FK) (bs : Txt) (f : α → Nat → Got → Except Nat α) (at_ to : Nat) (x : α) : Except Nat α := recL form bs f (to - at_ + 1) at_ to 0 x
def txtG (bs : Txt) (g : Got) : Txt := (bs.drop g.fr).take (g.to - g.fr)
def pushR {α : Type} (r : Rw α) (x : α) : Rw α := ⟨none, 0, r.l ++ [x]⟩
def rw0 {α : Type} : Rw α := ⟨none, 0, []⟩
def span0 : SpanT := ⟨0, 0⟩
def val0 : EValT := ⟨[], 0⟩
def enum0 : EnumT := ⟨[], rw0, false, rw0, rw0⟩
def field0 : FieldT := ⟨[], 0, 0, 0, [], 0, 0, 0, []⟩
def imp0 : ImpT := ⟨[], false⟩
def msg0 : MsgT := .mk [] rw0 rw0 none 0 [] rw0 rw0 rw0
def file0 : FileT := ⟨[], [], rw0, none, 0, [], rw0⟩
def fSpan (_bs : Txt) (x : SpanT) (_ : Nat) (g : Got) : Except Nat SpanT := .ok (match g.num with
 | 1 => { x with f := unzig g.v }
 | _ => { x with t := unzig g.v })
def rdSpan (bs : Txt) (a b : Nat) : Except Nat SpanT := readR formSpan bs (fSpan bs) a b span0
def fVal (bs : Txt) (x : EValT) (_ : Nat) (g : Got) : Except Nat EValT := .ok (match g.num with
 | 1 => { x with nm := txtG bs g }
 | _ => { x with num := unzig g.v })
def rdVal (bs : Txt) (a b : Nat) : Except Nat EValT := readR formValue bs (fVal bs) a b val0
def fEnum (bs : Txt) (x : EnumT) (_ : Nat) (g : Got) : Except Nat EnumT := match g.num with
 | 1 => .ok { x with nm := txtG bs g }
 | 2 => (rdVal bs g.fr g.to).map fun v => { x with vals := pushR x.vals v }
 | 3 => .ok { x with ali := true }
 | 4 => (rdSpan bs g.fr g.to).map fun v => { x with res := pushR x.res v }
 | _ => .ok { x with names := pushR x.names (txtG bs g) }
def rdEnum (bs : Txt) (a b : Nat) : Except Nat EnumT := readR formEnum bs (fEnum bs) a b enum0
def fField (bs : Txt) (x : FieldT) (_ : Nat) (g : Got) : Except Nat FieldT := .ok (match g.num with
 | 1 => { x with nm := txtG bs g }
 | 2 => { x with num := unzig g.v }
 | 3 => { x with card := g.v }
 | 4 => { x with kind := g.v }
 | 5 => { x with ty := txtG bs g }
 | 6 => { x with key := g.v }
 | 7 => { x with oneof := unzig g.v }
 | 8 => { x with packed := g.v }
 | _ => { x with js := txtG bs g })
def rdField (bs : Txt) (a b : Nat) : Except Nat FieldT := readR formField bs (fField bs) a b field0
def fImp (bs : Txt) (x : ImpT) (_ : Nat) (g : Got) : Except Nat ImpT := .ok (match g.num with
 | 1 => { x with path := txtG bs g }
 | _ => { x with pub := true })
def rdImp (bs : Txt) (a b : Nat) : Except Nat ImpT := readR formImport bs (fImp bs) a b imp0
/-- A field of a message; sub reads a message within, none: it stands too deep. -/
def fMsg (bs : Txt) (sub : Option (Nat → Nat → Except Nat MsgT)) (x : MsgT) (at_ : Nat) (g : Got) : Except Nat MsgT := match x with
 | .mk nm fields oneofs ma mc msgs enums res names => match g.num with
  | 1 => .ok (.mk (txtG bs g) fields oneofs ma mc msgs enums res names)
  | 2 => (rdField bs g.fr g.to).map fun v => .mk nm (pushR fields v) oneofs ma mc msgs enums res names
  | 3 => .ok (.mk nm fields (pushR oneofs (txtG bs g)) ma mc msgs enums res names)
  | 4 => match sub with
   | none => .error at_
   | some rd => (rd g.fr g.to).map fun v => .mk nm fields oneofs none 0 (msgs ++ [v]) enums res names
  | 5 => (rdEnum bs g.fr g.to).map fun v => .mk nm fields oneofs ma mc msgs (pushR enums v) res names
  | 6 => (rdSpan bs g.fr g.to).map fun v => .mk nm fields oneofs ma mc msgs enums (pushR res v) names
  | _ => .ok (.mk nm fields oneofs ma mc msgs enums res (pushR names (txtG bs g)))
/-- A message, k more may stand within one another below it. -/
def rdMsg (bs : Txt) : Nat → Nat → Nat → Except Nat MsgT
 | 0, a, b => readR formMessage bs (fMsg bs none) a b msg0
 | k + 1, a, b => readR formMessage bs (fMsg bs (some (rdMsg bs k))) a b msg0
def fFile (bs : Txt) (x : FileT) (_ : Nat) (g : Got) : Except Nat FileT := match g.num with
 | 1 => .ok { x with path := txtG bs g }
 | 2 => .ok { x with pack := txtG bs g }
 | 3 => (rdImp bs g.fr g.to).map fun v => { x with imps := pushR x.imps v }
 | 4 => (rdMsg bs 99 g.fr g.to).map fun v => { x with ma := none, mc := 0, msgs := x.msgs ++ [v] }
 | _ => (rdEnum bs g.fr g.to).map fun v => { x with enums := pushR x.enums v }
def rdFile (bs : Txt) (a b : Nat) : Except Nat FileT := readR formFile bs (fFile bs) a b file0
def fSet (bs : Txt) (x : Rw FileT) (_ : Nat) (g : Got) : Except Nat (Rw FileT) := (rdFile bs g.fr g.to).map fun v => pushR x v
def rdSet (bs : Txt) (a b : Nat) : Except Nat (Rw FileT) := readR formSet bs (fSet bs) a b rw0
/-- Decode's answer. -/
def readL (bs : Txt) : List FileT × Int × Nat := if 16777216 < bs.length then ([], 71, 0) else match rdSet bs 0 bs.length with
 | .error p => ([], 70, p)
 | .ok r => (r.l, 0, 0)
end Go.Proofs.YtclcnhfponjdaaaGreatDoor
end
section
namespace Go.Proofs.YtclcnhfponjdaaaGreatDoor
open Go.Sk Go.ChangeShapes Go.WideShapes Go.ChangeAt
section
variable {H : Type} {enc : TypeId × Value → H} {W : World}
end
end Go.Proofs.YtclcnhfponjdaaaGreatDoor
end
section
namespace Go.Proofs.YtclcnhfponjdaaaGreatDoor
open Go.Sk
set_option maxRecDepth 100000
attribute [local irreducible] Cs Own Ex Pu Yld RT LJ QJ AtQ CT Rd QSp Sp FinQ Then LoopQ CutQ DT TakeQ EffQ
variable {B : World} {R : List HP}
abbrev rdr (p : Nat) (a : Option Addr) (n c : Nat) (at_ en e wh : Int) : HP := Cs p 320 [.slice a n c, .int .i64 at_, .int .i64 en, .int .i64 e, .int .i64 wh]
abbrev ptr (p : Nat) : Value := .pointer (some ⟨p, 0, none⟩)

theorem at_fn {p n c : Nat} {a : Option Addr} {at_ en e wh : Int} :
  Sp B Tryz.prog 73 [ptr p] R [rdr p a n c at_ en e wh] (fun v H' => v = .int .i64 at_ ∧ H' = [rdr p a n c at_ en e wh]) := by
 refine Sp.body Tryz.func73 rfl Tryz.ntmps73 (by simp) ?_
 simp only [argE, List.cons_append, List.nil_append, Nat.zero_add, Nat.reduceAdd]
 try refine gL ?_
 exact AtQ.fin1 Tryz.results73 rfl ⟨rfl, rfl⟩ (fun _ h => h)
theorem left_fn {p n c : Nat} {a : Option Addr} {at_ en e wh : Int} (h0 : 0 ≤ at_) (h1 : at_ ≤ en) (h2 : en ≤ 9223372036854775807) :
  Sp B Tryz.prog 72 [ptr p] R [rdr p a n c at_ en e wh] (fun v H' => v = .int .i64 (if e = 0 then en - at_ else 0) ∧ H' = [rdr p a n c at_ en e wh]) := by
 refine Sp.body Tryz.func72 rfl Tryz.ntmps72 (by simp) ?_
 simp only [argE, List.cons_append, List.nil_append, Nat.zero_add, Nat.reduceAdd]
 repeat' (first|refine gL ?_|(refine gv ?_;first|(refine⟨fun hc=>?_,fun hc=>?_⟩<;>first|(exfalso;omega)|skip)|refine gk ?_)|fail)
 all_goals exact AtQ.fin1 Tryz.results72 rfl ⟨by simp [hc], rfl⟩ (fun _ h => h)
theorem err_fn {p n c : Nat} {a : Option Addr} {at_ en e wh : Int} :
  Sp B Tryz.prog 75 [ptr p] R [rdr p a n c at_ en e wh] (fun v H' => v = .tuple #[.int .i64 e, .int .i64 (if e = 0 then 0 else wh)] ∧ H' = [rdr p a n c at_ en e wh]) := by
 refine Sp.body Tryz.func75 rfl Tryz.ntmps75 (by simp) ?_
 simp only [argE, List.cons_append, List.nil_append, Nat.zero_add, Nat.reduceAdd]
 repeat' (first|refine gL ?_|(refine gv ?_;(refine⟨fun hc=>?_,fun hc=>?_⟩<;>first|(exfalso;omega)|skip))|fail)
 all_goals exact AtQ.fin2 Tryz.results75 rfl rfl ⟨by simp [hc], rfl⟩ (fun _ h => h)
theorem wrong_fn {p n c : Nat} {a : Option Addr} {at_ en e wh e' at' : Int} :
  Sp B Tryz.prog 167 [ptr p, .int .i64 e', .int .i64 at'] R [rdr p a n c at_ en e wh] (fun v H' => v = .tuple #[] ∧ H' = [rdr p a n c at_ en (if e = 0 then e' else e) (if e = 0 then at' else wh)]) := by
 refine Sp.body Tryz.func167 rfl Tryz.ntmps167 (by simp) ?_
 simp only [argE, List.cons_append, List.nil_append, Nat.zero_add, Nat.reduceAdd]
 repeat' (first|refine gL ?_|(refine gv ?_;(refine⟨fun hc=>?_,fun hc=>?_⟩<;>first|(exfalso;omega)|skip))|fail)
 all_goals (refine AtQ.fin0 (H' := [_]) Tryz.results167 ?_ (fun _ h => h) _ (by first | exact .inl rfl | exact .inr rfl); exact ⟨rfl, by simp [hc]⟩)

/-- What Varint makes of a reader. -/
def vrVal : VR → Int
 | .ok v _ => v
 | _ => 0
def vrAt : VR → Int → Int
 | .ok _ k, at_ => at_ + k
 | _, at_ => at_
def vrErr : VR → Int
 | .ok _ _ => 0
 | .short => 10
 | .long => 11
set_option maxHeartbeats 1000000 in
theorem varint_fn {p n c : Nat} {a : Option Addr} {at_ en : Nat} {e wh : Int} {bs : List Int} (hR : Rd B R a n c 1 (ints .u8 bs)) (hb : Bytes bs) (h1 : at_ ≤ en) (h2 : en ≤ n) (h3 : n ≤ 140737488355328) :
  Sp B Tryz.prog 166 [ptr p] R [rdr p a n c at_ en e wh] (fun v H' => v = .int .u64 (if e = 0 then vrVal (vr ((bs.drop at_).take (en - at_)) 0 0) else 0) ∧
   H' = [rdr p a n c (if e = 0 then vrAt (vr ((bs.drop at_).take (en - at_)) 0 0) at_ else at_) en (if e = 0 then vrErr (vr ((bs.drop at_).take (en - at_)) 0 0) else e)
    (if e = 0 ∧ vrErr (vr ((bs.drop at_).take (en - at_)) 0 0) ≠ 0 then at_ else wh)]) := by
 refine Sp.body Tryz.func166 rfl Tryz.ntmps166 (by simp) ?_
 simp only [argE, List.cons_append, List.nil_append, Nat.zero_add, Nat.reduceAdd]
 repeat' (first|refine gL ?_|(refine gv ?_;(refine⟨fun hc=>?_,fun hc=>?_⟩<;>first|(exfalso;omega)|skip))|fail)
 ·subst hc
  have hlen := hR.len
  rw [ints_len] at hlen
  generalize hL : (bs.drop at_).take (en - at_) = L
  have hlong : ∀ l i v, ¬ i < 10 → vr l i v = .long := fun l i v h => by cases l <;> (simp only [vr]; rw [if_neg h])
  have hLl : L.length = en - at_ := by rw [← hL]; simp; omega
  refine CT.loop (α := Nat × Int) (fun x => [(0, ptr p), (3, .int .u64 x.2), (4, .int .i64 x.1)])
   (fun x => Pu (x.1 ≤ 10 ∧ 0 ≤ x.2 ∧ x.2 < 2 ^ (7 * x.1) ∧ x.1 ≤ en - at_ ∧ vr L 0 0 = vr (L.drop x.1) x.1 x.2) :: rdr p a n c at_ en 0 wh :: R)
   (fun x => 10 - x.1) (0, 0) ⟨rfl, rfl, rfl, trivial⟩ (fun w h => h.pu_in ⟨by omega, by omega, by decide, by omega, rfl⟩) (fun x => CT.pu fun hx => ?_)
  obtain ⟨i, v⟩ := x
  obtain ⟨hi, hv0, hv1, hil, hvr⟩ := hx
  simp only at hi hv0 hv1 hil hvr ⊢
  repeat' (first|refine gL ?_|(refine gv ?_;first|(refine⟨fun hc=>?_,fun hc=>?_⟩<;>first|(exfalso;omega)|skip)|refine gk ?_)|fail)
  ·have hnil : L.drop i = [] := List.drop_eq_nil_of_le (by omega)
   have hv : vr L 0 0 = .short := by rw [hvr, hnil]; simp only [vr]; rw [if_pos (by omega)]
   (refine RT.call T rfl fR_ (wrong_fn) rfl rfl rfl ?_; rintro _ _ ⟨rfl, rfl⟩; try simp only [List.cons_append, List.nil_append])
   try refine gL ?_
   refine AtQ.fin1 (H' := [_]) Tryz.results166 rfl ?_ (fun _ h => h); exact ⟨by simp [hv, vrVal], by simp [hv, vrAt, vrErr]⟩
  ·apply RT.ix T (j := at_ + i); exact rfl; exact rfl; exact rfl; exact hR.cons; omega; omega; omega; exact rfl; exact rfl
   apply RT.ldi T; exact rfl; exact hR.cons; omega; exact rfl; exact rfl; exact rfl
   have hxb := hb.get (at_ + i)
   have hdrop : L.drop i = bs.getD (at_ + i) 0 :: L.drop (i + 1) := by
    rw [List.drop_eq_getElem_cons (by omega : i < L.length)]
    subst hL
    simp [List.getElem_take, List.getElem_drop, List.getElem?_eq_getElem (show at_ + i < bs.length by omega)]
   generalize bs.getD (at_ + i) 0 = x at *
   have hxb2 := hxb
   obtain ⟨hx0, hx1⟩ := hxb2
   have hgo : ¬ (i = 9 ∧ 1 < x) → x < 128 ∨ i ≠ 9 := by omega
   repeat' (first|refine gL ?_|(refine gv ?_;(refine⟨fun hc=>?_,fun hc=>?_⟩<;>first|(exfalso;omega)|skip))|fail)
   ·have hv : vr L 0 0 = .long := by rw [hvr, hdrop]; simp only [vr]; rw [if_pos (by omega), if_pos (by omega)]
    (refine RT.call T rfl fR_ (wrong_fn) rfl rfl rfl ?_; rintro _ _ ⟨rfl, rfl⟩; try simp only [List.cons_append, List.nil_append])
    try refine gL ?_
    refine AtQ.fin1 (H' := [_]) Tryz.results166 rfl ?_ (fun _ h => h); exact ⟨by simp [hv, vrVal], by simp [hv, vrAt, vrErr]⟩
   all_goals
    have hi9 : i ≤ 9 := by omega
    have h9 : i = 9 → x ≤ 1 := by omega
    have hlt := part_lt hxb hi9 h9 hv1
    have hst := step7 (x := x) hv1
    have hge : 0 ≤ x % 128 * 2 ^ (7 * i) := Int.mul_nonneg (by omega) (Int.le_of_lt (Int.pow_pos (by decide)))
    refine RT.ar rfl rfl (y_and rfl rfl (and127 hxb)) rfl rfl ?_
    repeat' (first|refine gL ?_|(refine gv ?_;refine gk ?_)|fail)
    refine RT.ar rfl rfl (y_shl rfl rfl (by omega) (shl7 hxb hi9 h9)) rfl rfl ?_
    skip
    refine RT.ar rfl rfl (y_or rfl rfl (or7 hxb hi9 h9 hv0 hv1)) rfl rfl ?_
    generalize hw : v + x % 128 * 2 ^ (7 * i) = v' at *
    repeat' (first|refine gL ?_|(refine gv ?_;first|(refine⟨fun hc=>?_,fun hc=>?_⟩<;>first|(exfalso;omega)|skip)|refine gk ?_)|fail)
    all_goals first
     | (
      have hv : vr L 0 0 = .ok v' (i + 1) := by rw [hvr, hdrop]; simp only [vr]; rw [if_pos (by omega), if_neg (by omega), if_pos (by omega), hw]
      refine AtQ.fin1 (H' := [_]) Tryz.results166 rfl ?_ (fun _ h => h); exact ⟨by simp [hv, vrVal], by simp [hv, vrAt, vrErr]⟩)
     | (
      have hv : vr L 0 0 = vr (L.drop (i + 1)) (i + 1) v' := by rw [hvr, hdrop]; simp only [vr]; rw [if_pos (by omega), if_neg (by omega), if_neg (by omega), hw]
      refine AtQ.loop (i + 1, v') ⟨rfl, rfl, rfl, trivial⟩ (fun w h => h.pu_in ⟨by omega, by omega, hst, by omega, hv⟩) (by simp only; omega))
  ·have hv : vr L 0 0 = .long := by rw [hvr]; exact hlong _ _ _ (by omega)
   (refine RT.call T rfl fR_ (wrong_fn) rfl rfl rfl ?_; rintro _ _ ⟨rfl, rfl⟩; try simp only [List.cons_append, List.nil_append])
   try refine gL ?_
   refine AtQ.fin1 (H' := [_]) Tryz.results166 rfl ?_ (fun _ h => h); exact ⟨by simp [hv, vrVal], by simp [hv, vrAt, vrErr]⟩
 ·refine AtQ.fin1 (H' := [_]) Tryz.results166 rfl ?_ (fun _ h => h); exact ⟨by simp [hc], by simp [hc]⟩
end Go.Proofs.YtclcnhfponjdaaaGreatDoor
end
section
namespace Go.Proofs.YtclcnhfponjdaaaGreatDoor
open Go.Sk
set_option maxRecDepth 100000
attribute [local irreducible] Cs Own Ex Pu Yld RT LJ QJ AtQ CT Rd QSp Sp FinQ Then LoopQ CutQ DT TakeQ EffQ
variable {B : World} {R : List HP}
abbrev own8 (a : Option Addr) (c : Nat) (l : List Int) (n : Nat) : HP := Own a c 5 1 n (ints .u8 l)
abbrev sl8 (a : Option Addr) (n c : Nat) : Value := .slice a n c

/-- A state of the loops that write a varint. -/
structure SV where
 f : Nat
 v : Int
 p : List Int
 k : Nat
 a : Option Addr
 c : Nat
def SV.ok (s : SV) (v : Int) : Prop := 0 ≤ s.v ∧ s.v < 128 ^ (s.f + 1) ∧ s.f ≤ 9 ∧ enc v = s.p ++ encF s.f s.v ∧ s.p.length = s.k ∧ s.k + s.f = 9 ∧ s.v ≤ v
theorem SV.ok0 {v : Int} (hv : V64 v) (a : Option Addr) (c : Nat) : SV.ok ⟨9, v, [], 0, a, c⟩ v := ⟨hv.1, hv.lt, Nat.le_refl _, rfl, rfl, rfl, Int.le_refl _⟩
theorem SV.stop {s : SV} {v : Int} (h : s.ok v) (hlt : s.v < 128) : enc v = s.p ++ [s.v] ∧ s.k + 1 = (enc v).length := by
 obtain ⟨h0, h1, h2, h3, h4, h5, h6⟩ := h
 have : encF s.f s.v = [s.v] := by
  cases hf : s.f with
  | zero => rfl
  | succ f => simp only [encF]; rw [if_pos hlt]
 rw [this] at h3
 exact ⟨h3, by rw [h3]; simp [h4]⟩
theorem SV.go {s : SV} {v : Int} (h : s.ok v) (hge : ¬ s.v < 128) (a : Option Addr) (c : Nat) : SV.ok ⟨s.f - 1, s.v / 128, s.p ++ [s.v % 128 + 128], s.k + 1, a, c⟩ v ∧ 1 ≤ s.f := by
 obtain ⟨h0, h1, h2, h3, h4, h5, h6⟩ := h
 have hf : 1 ≤ s.f := by
  rcases Nat.eq_zero_or_pos s.f with e | e
  ·rw [e] at h1; simp at h1; omega
  ·exact e
 obtain ⟨f, hf'⟩ : ∃ f, s.f = f + 1 := ⟨s.f - 1, by omega⟩
 rw [hf'] at h1 h3 h5 ⊢
 have hp : (128 : Int) ^ (f + 1 + 1) = 128 ^ (f + 1) * 128 := by rw [Int.pow_succ]
 simp only [encF] at h3
 rw [if_neg hge] at h3
 exact ⟨⟨by simp only; omega, by simp only [Nat.add_sub_cancel]; omega, by simp only; omega, by simp only [Nat.add_sub_cancel]; rw [h3]; simp, by simp [h4], by simp only; omega, by simp only; omega⟩, by omega⟩
set_option maxHeartbeats 1000000 in
theorem varint_w {a : Option Addr} {n c : Nat} {l : List Int} {v : Int} (hv : V64 v) (hn : n ≤ 100000000000000) :
  Sp B Tryz.prog 275 [sl8 a n c, .int .u64 v] R [own8 a c l n] (fun u H' => ∃ a' c', u = sl8 a' (n + (enc v).length) c' ∧ H' = [own8 a' c' (l ++ enc v) (n + (enc v).length)]) := by
 refine Sp.body Tryz.func275 rfl Tryz.ntmps275 (by simp) ?_
 simp only [argE, List.cons_append, List.nil_append, Nat.zero_add, Nat.reduceAdd]
 try refine gL ?_
 refine CT.loop (α := SV) (fun s => [(0, sl8 s.a (n + s.k) s.c), (1, .int .u64 s.v)]) (fun s => Pu (s.ok v) :: own8 s.a s.c (l ++ s.p) (n + s.k) :: R) (fun s => s.f) ⟨9, v, [], 0, a, c⟩ ⟨rfl, rfl, trivial⟩
  (fun w h => Sat.pu_in (SV.ok0 hv a c) (by simpa using h)) (fun s => CT.pu fun hs => ?_)
 have hs' := hs
 obtain ⟨h0, h1, h2, h3, h4, h5, h6⟩ := hs'
 have hvb := hv.2
 repeat' (first|refine gL ?_|(refine gv ?_;first|(refine⟨fun hc=>?_,fun hc=>?_⟩<;>first|(exfalso;omega)|skip)|refine gk ?_|refine num_m fun r hr=>?_)|(refine RT.isPush ?_;refine gp ?_;intro a' c' b' c1' hac)|fail)
 ·have hb : isByte r := ⟨by omega, by omega⟩
  refine RT.ar rfl rfl (y_or rfl rfl (or128 hb)) rfl rfl ?_
  have e1 : r % 128 + 128 = s.v % 128 + 128 := by omega
  rw [e1]
  repeat' (first|refine gL ?_|(refine RT.isPush ?_;refine gp ?_;intro a' c' b' c1' hac)|fail)
  refine RT.shr rfl rfl (by omega) shr7 rfl rfl ?_
  try refine gL ?_
  obtain ⟨hk, hf⟩ := SV.go hs (by omega) a' c'
  refine AtQ.loop ⟨s.f - 1, s.v / 128, s.p ++ [s.v % 128 + 128], s.k + 1, a', c'⟩ ⟨rfl, rfl, trivial⟩ (fun w h => Sat.pu_in hk (by rw [List.append_assoc] at h; exact h)) (by simp only; omega)
 ·obtain ⟨e1, e2⟩ := SV.stop hs (by omega)
  refine AtQ.fin1 (H' := [own8 _ _ (l ++ s.p ++ [s.v]) (n + s.k + 1)]) Tryz.results275 rfl ?_ (fun _ h => h)
  exact ⟨_, _, by rw [← e2]; rfl, by rw [← e2, e1, List.append_assoc]; rfl⟩
end Go.Proofs.YtclcnhfponjdaaaGreatDoor
end
section
namespace Go.Proofs.YtclcnhfponjdaaaGreatDoor
open Go.Sk
set_option maxRecDepth 100000
attribute [local irreducible] Cs Own Ex Pu Yld RT LJ QJ AtQ CT Rd QSp Sp FinQ Then LoopQ CutQ DT TakeQ EffQ
variable {B : World} {R : List HP}

theorem clone_fn {a : Option Addr} {n c : Nat} {l : List Int} (hR : Rd B R a n c 1 (ints .u8 l)) (hn : n ≤ 140737488355328) :
  Sp B Tryz.prog 148 [sl8 a n c] R [] (fun u H' => ∃ a' c', u = sl8 a' n c' ∧ H' = [own8 a' c' l n]) := by
 refine Sp.body Tryz.func148 rfl Tryz.ntmps148 (by simp) ?_
 simp only [argE, List.cons_append, List.nil_append, Nat.zero_add, Nat.reduceAdd]
 have hl := hR.lenI
 try refine gL ?_
 (refine RT.snil T rfl rfl rfl rfl rfl (fun hc => ?_) (fun hc => ?_))
 ·try refine gL ?_
  refine AtQ.fact (p := n = 0) (fun w h => ?_) (fun h0 => ?_)
  ·have := hR.isSome w h
   rw [hc] at this
   rcases Nat.eq_zero_or_pos n with e | e
   ·exact e
   ·simpa using this e
  ·have hl0 : l = [] := List.eq_nil_of_length_eq_zero (by omega)
   subst h0 hl0
   refine AtQ.fin1 (H' := [own8 none 0 [] 0]) Tryz.results148 rfl ?_ (fun w h => Sat.nilOwn h)
   exact ⟨_, _, rfl, rfl⟩
 ·try refine gL ?_
  refine RT.bs T rfl rfl rfl rfl rfl rfl rfl (fun b c hbc => ?_)
  try refine gL ?_
  refine RT.appI T (l := []) rfl rfl rfl hR.cons (fun a' c' => by ((repeat constructor);done)) (by omega) (by omega) rfl rfl rfl rfl (fun a' c' hac => ?_)
  try refine gL ?_
  refine AtQ.fin1 (H' := [own8 a' c' l n]) Tryz.results148 rfl ?_ (fun w h => by simpa using h)
  exact ⟨_, _, by simp, rfl⟩
theorem newReader_fn {a : Option Addr} {n c : Nat} {l : List Int} (hR : Rd B R a n c 1 (ints .u8 l)) (hn : n ≤ 140737488355328) :
  Sp B Tryz.prog 33 [sl8 a n c] R [] (fun u H' => ∃ p a' c', u = ptr p ∧ H' = [rdr p a' n c' 0 n 0 0, own8 a' c' l n]) := by
 refine Sp.body Tryz.func33 rfl Tryz.ntmps33 (by simp) ?_
 simp only [argE, List.cons_append, List.nil_append, Nat.zero_add, Nat.reduceAdd]
 try refine gL ?_
 refine RT.call T rfl fR_ (clone_fn hR hn) rfl rfl rfl ?_
 rintro _ _ ⟨a', c', rfl, rfl⟩
 simp only [List.cons_append, List.nil_append]
 repeat' (first|refine gL ?_|(refine gb ?_;intro b)|fail)
 refine AtQ.fin1 (H' := [rdr b a' n c' 0 n 0 0, own8 a' c' l n]) Tryz.results33 rfl ?_ (fun w h => h)
 exact ⟨_, _, _, rfl, rfl⟩
/-- How many bits a number has. -/
def chk8 (s : ByteArray) : Bool := (List.range 256).all fun i => match s.data.toList[i]? with
 | some b => decide (b.toNat ≤ 8) && (if i = 0 then b.toNat == 0 else decide (1 ≤ b.toNat ∧ 2 ^ (b.toNat - 1) ≤ i ∧ i < 2 ^ b.toNat))
 | none => false
theorem RT.len8 {m : Bool} {n : Fm} {l0 rest : List Oper} {E : Env} {H : List HP} {Q : Exit → Act → World → Prop} {d : Nat} {ty : TypeId} {pos : String} {af : Array Edge} {g : Option (Nat × Bool)} {x y : Operand} {t : TypeId} {s : ByteArray} {i : Int}
  (hx : ev E x = some (.string s)) (hy : ev E y = some (.int .u8 i)) (h0 : 0 ≤ i) (h1 : i < 256) (hc : chk8 s = true) (ht : al T.kinds t = some 2) (hw : wt l0 E g = some true) (hd : Nat.blt d n = true)
  (k : ∀ b : Nat, b ≤ 8 → (i = 0 ∧ b = 0 ∨ 1 ≤ b ∧ 2 ^ (b - 1) ≤ i ∧ i < 2 ^ b) → RT B Tryz.prog n m l0 rest ((d, .int .u8 b) :: E) H Q) : RT B Tryz.prog n m l0 (⟨some d, .index t x y, ty, pos, af, g⟩ :: rest) E H Q := by
 obtain ⟨j, rfl⟩ := Int.eq_ofNat_of_zero_le h0
 have hj := List.all_eq_true.1 hc j (List.mem_range.2 (by omega))
 cases hb : s.data.toList[j]? with
 | none => simp [hb] at hj
 | some b =>
  simp only [hb, Bool.and_eq_true, decide_eq_true_eq] at hj
  obtain ⟨h8, hj⟩ := hj
  refine RT.y hw (by simpa [Nat.blt_eq] using hd) (y_ixs T ht hx hy (by omega) (by simpa using hb)) (k b.toNat h8 ?_)
  split at hj
  ·rename_i hz; exact .inl ⟨by omega, by simpa using hj⟩
  ·simp only [decide_eq_true_eq] at hj
   obtain ⟨a1, a2, a3⟩ := hj
   refine .inr ⟨a1, ?_, ?_⟩
   ·have : ((2 ^ (b.toNat - 1) : Nat) : Int) ≤ (j : Int) := by omega
    simpa using this
   ·have : (j : Int) < ((2 ^ b.toNat : Nat) : Int) := by omega
    simpa using this
theorem shrN {v : Int} {j : Int} {p : Int} (h : (2 : Int) ^ (min j.toNat IntKind.u64.bits) = p) (hp : 0 ≤ p) : v.fdiv (2 ^ (min j.toNat IntKind.u64.bits)) = v / p := by
 rw [h, Int.fdiv_eq_ediv_of_nonneg _ hp]
def LenOk (x : Int) (L : Int) : Prop := ∃ l : Nat, L = l ∧ 1 ≤ l ∧ l ≤ 64 ∧ 2 ^ (l - 1) ≤ x ∧ x < 2 ^ l
theorem lenOk_mk {x L : Int} {s b : Nat} {i p : Int} (hL : L = s + b) (h1 : 1 ≤ b) (h2 : 2 ^ (b - 1) ≤ i) (h3 : i < 2 ^ b) (hs : (2 : Int) ^ s = p) (hi : i = x / p) (h64 : s + b ≤ 64) : LenOk x L := by
 subst hL
 have hp : 0 < p := by rw [← hs]; exact Int.pow_pos (by decide)
 refine ⟨s + b, by simp, by omega, h64, ?_, ?_⟩
 ·rw [show s + b - 1 = (b - 1) + s by omega, Int.pow_add, hs]
  subst hi
  exact Int.le_trans (Int.mul_le_mul_of_nonneg_right h2 (Int.le_of_lt hp)) (Int.ediv_mul_le x (by omega))
 ·rw [Nat.add_comm, Int.pow_add, hs]
  subst hi
  exact Int.lt_of_lt_of_le (Int.lt_ediv_add_one_mul_self x hp) (Int.mul_le_mul_of_nonneg_right h3 (Int.le_of_lt hp))
set_option maxHeartbeats 1000000 in
theorem len64_fn {x : Int} (h0 : 1 ≤ x) (h1 : x < 18446744073709551616) :
  Sp B Tryz.prog 253 [.int .u64 x] R [] (fun u H' => (∃ L, u = .int .i64 L ∧ LenOk x L) ∧ H' = []) := by
 refine Sp.body Tryz.func253 rfl Tryz.ntmps253 (by simp) ?_
 simp only [argE, List.cons_append, List.nil_append, Nat.zero_add, Nat.reduceAdd]
 repeat' (first|refine gL ?_|(refine gv ?_;first|(refine⟨fun hc=>?_,fun hc=>?_⟩<;>first|(exfalso;omega)|skip)|refine gk ?_)|fail)
 all_goals repeat' (first
  | (refine RT.shr rfl rfl (by omega) (shrN (by decide : (2 : Int) ^ (min (32 : Int).toNat IntKind.u64.bits) = 4294967296) (by decide)) rfl rfl ?_)
  | (refine RT.shr rfl rfl (by omega) (shrN (by decide : (2 : Int) ^ (min (16 : Int).toNat IntKind.u64.bits) = 65536) (by decide)) rfl rfl ?_)
  | (refine RT.shr rfl rfl (by omega) (shrN (by decide : (2 : Int) ^ (min (8 : Int).toNat IntKind.u64.bits) = 256) (by decide)) rfl rfl ?_)
  | (refine RT.len8 rfl rfl (by omega) (by omega) (by kernel_rfl) rfl rfl rfl (fun b hb8 hb => ?_))
  | (refine gv ?_;first|refine RT.id ?_|(refine⟨fun hc=>?_,fun hc=>?_⟩<;>first|(exfalso;omega)|skip)|refine gk ?_|refine num_m fun r hr=>?_|intro r hr)|refine gs ?_|(refine gb ?_;intro b)|refine gn ?_|(refine RT.isPush ?_;refine gp ?_;intro a' c' b' c1' hac) | (refine AtQ.id_ ?_; first | refine nx ?_|refine A0 ?_|refine A9 ?_|refine AtQ.in_ne rfl ?_) | (refine CT.id_ ?_; first | refine nx ?_|refine CT.region ?_|refine CT.quiet mixed (by kernel_rfl) ?_|refine CT.cond_t rfl ?_|refine CT.cond_f rfl ?_))
 all_goals
  refine AtQ.fin1 (H' := []) Tryz.results253 rfl ?_ (fun _ h => h)
  refine ⟨⟨_, rfl, ?_⟩, rfl⟩
  rcases hb with ⟨hb1, hb2⟩ | ⟨hb1, hb2, hb3⟩
  ·exfalso; omega
  ·skip
   first | (refine lenOk_mk (s := 0) (p := 1) (by omega) hb1 hb2 hb3 (by decide) ?_ (by omega); omega) | (refine lenOk_mk (s := 8) (p := 256) (by omega) hb1 hb2 hb3 (by decide) ?_ (by omega); omega) | (refine lenOk_mk (s := 16) (p := 65536) (by omega) hb1 hb2 hb3 (by decide) ?_ (by omega); omega) | (refine lenOk_mk (s := 24) (p := 16777216) (by omega) hb1 hb2 hb3 (by decide) ?_ (by omega); omega) | (refine lenOk_mk (s := 32) (p := 4294967296) (by omega) hb1 hb2 hb3 (by decide) ?_ (by omega); omega) | (refine lenOk_mk (s := 40) (p := 1099511627776) (by omega) hb1 hb2 hb3 (by decide) ?_ (by omega); omega) | (refine lenOk_mk (s := 48) (p := 281474976710656) (by omega) hb1 hb2 hb3 (by decide) ?_ (by omega); omega) | (refine lenOk_mk (s := 56) (p := 72057594037927936) (by omega) hb1 hb2 hb3 (by decide) ?_ (by omega); omega)
end Go.Proofs.YtclcnhfponjdaaaGreatDoor
end
section
namespace Go.Proofs.YtclcnhfponjdaaaGreatDoor
open Go.Sk
set_option maxRecDepth 100000
attribute [local irreducible] Cs Own Ex Pu Yld RT LJ QJ AtQ CT Rd QSp Sp FinQ Then LoopQ CutQ DT TakeQ EffQ
variable {B : World} {R : List HP}
theorem size_fn {v : Int} (hv : V64 v) : Sp B Tryz.prog 146 [.int .u64 v] R [] (fun u H' => u = .int .i64 (enc v).length ∧ H' = []) := by
 refine Sp.body Tryz.func146 rfl Tryz.ntmps146 (by simp) ?_
 simp only [argE, List.cons_append, List.nil_append, Nat.zero_add, Nat.reduceAdd]
 have h0 := hv.1
 have h1 := hv.2
 try refine gL ?_
 refine RT.ar rfl rfl (y_or rfl rfl (or1 hv)) rfl rfl ?_
 refine RT.call T rfl fR_ (len64_fn (by omega) (by omega)) rfl rfl rfl ?_
 rintro _ _ ⟨⟨L, rfl, l, rfl, h2, h3, h4, h5⟩, rfl⟩
 simp only [List.nil_append]
 have hs := size_of hv h2 h4 h5
 repeat' (first|refine gL ?_|(refine gv ?_;refine gk ?_)|fail)
 refine RT.quo rfl rfl (by omega) (r := (enc v).length) (by rw [Int.tdiv_eq_ediv_of_nonneg (by omega), ← hs]; exact (wr_i64 (by omega) (by omega)).trans (by omega)) rfl rfl ?_
 try refine gL ?_
 refine AtQ.fin1 (H' := []) Tryz.results146 rfl ?_ (fun _ h => h)
 exact ⟨rfl, rfl⟩
abbrev wtr (p : Nat) (ab : Option Addr) (nb cb : Nat) (limit : Int) (ao : Option Addr) (no co : Nat) (e : Int) : HP := Cs p 374 [.slice ab nb cb, .int .i64 limit, .slice ao no co, .int .i64 e]
/-- A writer in memory. -/
structure WA where
 ab : Option Addr
 cb : Nat
 ao : Option Addr
 co : Nat
def Wr (p : Nat) (S : WS) : HP := Ex fun x : WA => [wtr p x.ab S.b.length x.cb S.limit x.ao S.op.length x.co S.e, own8 x.ab x.cb S.b S.b.length, Own x.ao x.co 3 1 S.op.length (ints .i64 S.op)]
theorem CT.wr {n : Fm} {p : Nat} {c : Code} {E : Env} {H : List HP} {Q : Exit → Act → World → Prop} {S : WS} (h : ∀ x : WA, CT B Tryz.prog n c E (wtr p x.ab S.b.length x.cb S.limit x.ao S.op.length x.co S.e :: own8 x.ab x.cb S.b S.b.length :: Own x.ao x.co 3 1 S.op.length (ints .i64 S.op) :: H) Q) :
  CT B Tryz.prog n c E (Wr p S :: H) Q := CT.ex h
theorem Wr.in_ {p : Nat} {S : WS} {H : List HP} {w : World} (x : WA) (h : Sat B (wtr p x.ab S.b.length x.cb S.limit x.ao S.op.length x.co S.e :: own8 x.ab x.cb S.b S.b.length :: Own x.ao x.co 3 1 S.op.length (ints .i64 S.op) :: H) w) :
  Sat B (Wr p S :: H) w := Sat.ex_in (f := fun x : WA => [wtr p x.ab S.b.length x.cb S.limit x.ao S.op.length x.co S.e, own8 x.ab x.cb S.b S.b.length, Own x.ao x.co 3 1 S.op.length (ints .i64 S.op)]) x h
attribute [local irreducible] Wr
theorem room_fn {p : Nat} {ab ao : Option Addr} {nb cb no co : Nat} {limit e k : Int} (h0 : 0 ≤ limit) (h1 : limit ≤ 16777216) (h2 : (nb : Int) ≤ limit) (h3 : -9223372036854775808 ≤ k) (h4 : k ≤ 9223372036854775807) :
  Sp B Tryz.prog 274 [ptr p, .int .i64 k] R [wtr p ab nb cb limit ao no co e] (fun u H' => u = .bool (decide (e = 0 ∧ k ≤ limit - nb)) ∧ H' = [wtr p ab nb cb limit ao no co (if e = 0 ∧ limit - nb < k then 15 else e)]) := by
 refine Sp.body Tryz.func274 rfl Tryz.ntmps274 (by simp) ?_
 simp only [argE, List.cons_append, List.nil_append, Nat.zero_add, Nat.reduceAdd]
 repeat' (first|refine gL ?_|(refine gv ?_;first|(refine⟨fun hc=>?_,fun hc=>?_⟩<;>first|(exfalso;omega)|skip)|refine gk ?_)|fail)
 all_goals (refine AtQ.fin1 (H' := [_]) Tryz.results274 rfl ?_ (fun _ h => h); refine ⟨?_, ?_⟩)
 all_goals first | first | (apply dec_t; omega) | (apply dec_f; omega) | split <;> first | rfl | (exfalso; omega)
theorem writeVarint_fn {p : Nat} {S : WS} {v : Int} (hS : S.ok) (hv : V64 v) :
  Sp B Tryz.prog 177 [ptr p, .int .u64 v] R [Wr p S] (fun u H' => u = .tuple #[] ∧ H' = [Wr p (S.put (enc v))]) := by
 have hsz := enc_len hv
 obtain ⟨k0, k1, k2⟩ := hS
 refine Sp.body Tryz.func177 rfl Tryz.ntmps177 (by simp) ?_
 simp only [argE, List.cons_append, List.nil_append, Nat.zero_add, Nat.reduceAdd]
 refine CT.wr fun x => ?_
 try refine gL ?_
 (refine RT.call T rfl fR_ (size_fn hv) rfl rfl rfl ?_; rintro _ _ ⟨rfl, rfl⟩; try simp only [List.cons_append, List.nil_append])
 skip
 (refine RT.call T rfl fR_ (room_fn k0 k1 k2 (by omega) (by omega)) rfl rfl rfl ?_; rintro _ _ ⟨rfl, rfl⟩; try simp only [List.cons_append, List.nil_append])
 by_cases hq : S.e = 0 ∧ ((enc v).length : Int) ≤ S.limit - S.b.length
 ·have hp : S.put (enc v) = { S with b := S.b ++ enc v } := by unfold WS.put; rw [if_pos hq.1, if_neg (by omega)]
  rw [hp, if_neg (by omega : ¬ (S.e = 0 ∧ S.limit - S.b.length < (enc v).length)), decide_eq_true hq]
  try refine gL ?_
  refine RT.call T rfl fR_ (varint_w hv (by omega)) rfl rfl rfl ?_
  rintro _ _ ⟨a', c', rfl, rfl⟩
  simp only [List.cons_append, List.nil_append]
  try refine gL ?_
  refine AtQ.f0 Tryz.results177 (fun w h => ?_) (by first | exact .inl rfl | exact .inr rfl)
  refine Wr.in_ ⟨a', c', x.ao, x.co⟩ ?_
  simp only [List.length_append]
  exact Sat.fr (Ps := [_, _, _]) h fR_
 ·have hp : S.put (enc v) = { S with e := if S.e = 0 ∧ S.limit - S.b.length < (enc v).length then 15 else S.e } := by
   unfold WS.put
   by_cases he : S.e = 0
   ·rw [if_pos he, if_pos (by omega), if_pos (by omega)]
   ·rw [if_neg he, if_neg (by omega)]
  rw [hp, decide_eq_false hq]
  try refine gL ?_
  refine AtQ.f0 Tryz.results177 (fun w h => ?_) (by first | exact .inl rfl | exact .inr rfl)
  exact Wr.in_ x h
end Go.Proofs.YtclcnhfponjdaaaGreatDoor
end
section
namespace Go.Proofs.YtclcnhfponjdaaaGreatDoor
open Go.Sk
set_option maxRecDepth 100000
attribute [local irreducible] Cs Own Ex Pu Yld RT LJ QJ AtQ CT Rd QSp Sp FinQ Then LoopQ CutQ DT TakeQ EffQ
attribute [local irreducible] Wr
variable {B : World} {R : List HP}
theorem newWriter_ok {limit : Int} (h0 : 0 ≤ limit) (h1 : limit ≤ 16777216) :
  Sp B Tryz.prog 61 [.int .i64 limit] R [] (fun u H' => ∃ p, u = .tuple #[ptr p, .int .i64 0] ∧ H' = [Wr p ⟨[], limit, [], 0⟩]) := by
 refine Sp.body Tryz.func61 rfl Tryz.ntmps61 (by simp) ?_
 simp only [argE, List.cons_append, List.nil_append, Nat.zero_add, Nat.reduceAdd]
 repeat' (first|refine gL ?_|(refine gv ?_;(refine⟨fun hc=>?_,fun hc=>?_⟩<;>first|(exfalso;omega)|skip))|(refine gb ?_;intro b)|fail)
 refine AtQ.fin2 (H' := [Wr b ⟨[], limit, [], 0⟩]) Tryz.results61 rfl rfl ⟨b, rfl, rfl⟩ (fun w h => ?_)
 refine Wr.in_ ⟨none, 0, none, 0⟩ ?_
 exact Sat.fr (Ps := [_, _, _]) (Sat.nilOwn (e := 5) (sz := 1) (Sat.nilOwn (e := 3) (sz := 1) h)) fR_
def WS.done (S : WS) : List Int × Int := if S.e = 0 then (if S.op.length = 0 then (S.b, 0) else ([], 1)) else ([], S.e)
set_option maxHeartbeats 1000000 in
theorem done_fn {p : Nat} {S : WS} (hS : S.ok) (ho : S.op.length ≤ 140737488355328) :
  Sp B Tryz.prog 63 [ptr p] R [Wr p S] (fun u H' => ∃ a c, u = .tuple #[sl8 a (WS.done S).1.length c, .int .i64 (WS.done S).2] ∧ H' = [own8 a c (WS.done S).1 (WS.done S).1.length, Wr p S]) := by
 obtain ⟨k0, k1, k2⟩ := hS
 refine Sp.body Tryz.func63 rfl Tryz.ntmps63 (by simp) ?_
 simp only [argE, List.cons_append, List.nil_append, Nat.zero_add, Nat.reduceAdd]
 refine CT.wr fun x => ?_
 repeat' (first|refine gL ?_|(refine gv ?_;(refine⟨fun hc=>?_,fun hc=>?_⟩<;>first|(exfalso;omega)|skip))|fail)
 ·have hd : WS.done S = ([], 1) := by unfold WS.done; rw [if_pos (by assumption), if_neg (by omega)]
  rw [hd]
  refine AtQ.fin2 (H' := [own8 none 0 [] 0, Wr p S]) Tryz.results63 rfl rfl ⟨_, _, rfl, rfl⟩ (fun w h => ?_)
  exact Sat.fr (Ps := [_, _]) (Wr.in_ x (Sat.fr (Ps := [_, _, _]) (Sat.nilOwn (e := 5) (sz := 1) h) fR_)) fR_
 ·have hd : WS.done S = (S.b, 0) := by unfold WS.done; rw [if_pos (by assumption), if_pos (by omega)]
  rw [hd]
  refine RT.fact (Own.factsI (ki := .u8) (l := S.b) sE_) (fun hf => ?_)
  refine RT.call T rfl fR_ (clone_fn (Own.rdI sE_ rfl hf.2.1) (by omega)) rfl rfl rfl ?_
  rintro _ _ ⟨a', c', rfl, rfl⟩
  simp only [List.cons_append, List.nil_append]
  try refine gL ?_
  refine AtQ.fin2 (H' := [own8 a' c' S.b S.b.length, Wr p S]) Tryz.results63 rfl rfl ⟨_, _, rfl, rfl⟩ (fun w h => ?_)
  exact Sat.fr (Ps := [_, _]) (Wr.in_ x (Sat.fr (Ps := [_, _, _]) h fR_)) fR_
 ·have hd : WS.done S = ([], S.e) := by unfold WS.done; rw [if_neg (by assumption)]
  rw [hd]
  refine AtQ.fin2 (H' := [own8 none 0 [] 0, Wr p S]) Tryz.results63 rfl rfl ⟨_, _, rfl, rfl⟩ (fun w h => ?_)
  exact Sat.fr (Ps := [_, _]) (Wr.in_ x (Sat.fr (Ps := [_, _, _]) (Sat.nilOwn (e := 5) (sz := 1) h) fR_)) fR_
/-- The state of the padding loop. -/
structure SP where
 i : Nat
 a : Option Addr
 c : Nat
end Go.Proofs.YtclcnhfponjdaaaGreatDoor
end
section
namespace Go.Proofs.YtclcnhfponjdaaaGreatDoor
open Go.Sk
set_option maxRecDepth 100000
attribute [local irreducible] Cs Own Ex Pu Yld RT LJ QJ AtQ CT Rd QSp Sp FinQ Then LoopQ CutQ DT TakeQ EffQ
attribute [local irreducible] Wr
variable {B : World} {R : List HP}
def wsOpen (S : WS) : WS := if S.e = 0 then { S with op := S.op ++ [(S.b.length : Int)] } else S
set_option maxHeartbeats 1000000 in
theorem open_fn {p : Nat} {S : WS} (hb : S.b.length ≤ 16777216) (ho : S.op.length ≤ 1000000000) :
  Sp B Tryz.prog 191 [ptr p] R [Wr p S] (fun u H' => u = .int .i64 (if S.e = 0 then (S.b.length : Int) else 0) ∧ H' = [Wr p (wsOpen S)]) := by
 refine Sp.body Tryz.func191 rfl Tryz.ntmps191 (by simp) ?_
 simp only [argE, List.cons_append, List.nil_append, Nat.zero_add, Nat.reduceAdd]
 refine CT.wr fun x => ?_
 try refine gR ?_
 first | (refine CT.region ?_) | (refine CT.quiet mixed (by kernel_rfl) ?_)
 try refine gR ?_
 first | (refine CT.region ?_) | (refine CT.quiet mixed (by kernel_rfl) ?_)
 repeat' (first|refine gR ?_|(refine gv ?_;(refine⟨fun hc=>?_,fun hc=>?_⟩<;>first|(exfalso;omega)|skip))|fail)
 ·refine CT.drawn [wtr p x.ab S.b.length x.cb S.limit x.ao S.op.length x.co S.e] 14 mixed ?_
  (refine DT.takes (k := 5) [0, 1, 2, 3, 4, 5, 6, 7, 8, 9] [10, 11, 12, 13, 14] (fun w h => Sat.ones (by (repeat (first|exact Fr.nil|(apply Fr.cons;focus ((repeat constructor);done))))) h) (by kernel_rfl) (by kernel_rfl) (by kernel_rfl) rfl (Clos.ofB (by kernel_rfl)) ?_)
  try refine gL ?_
  refine AtQ.take ?_
  (refine DT.eff 10 rfl (by kernel_rfl) ?_)
  refine RT.bs T rfl rfl rfl rfl rfl rfl rfl (fun b' c1 hc1 => ?_)
  (refine RT.nil ?_; refine AtQ.eff (fun w h => Sat.ones fR_ h) ?_)
  (refine DT.eff 11 rfl (by kernel_rfl) ?_)
  refine RT.appI T (ki := .i64) (l := S.op) (l' := [(S.b.length : Int)]) rfl rfl rfl (Own.rdI sE_ rfl hc1) (fun a' c' => by ((repeat constructor);done)) (by omega) (by omega) rfl rfl rfl rfl (fun a' c' hac => ?_)
  (refine RT.nil ?_; refine AtQ.eff (fun w h => Sat.ones fR_ h) ?_)
  (refine DT.takes (k := 1) [12, 13] [14] (fun w h => Sat.ones (by (repeat (first|exact Fr.nil|(apply Fr.cons;focus ((repeat constructor);done))))) h) (by kernel_rfl) (by kernel_rfl) (by kernel_rfl) rfl (Clos.ofB (by kernel_rfl)) ?_)
  try refine gL ?_
  refine AtQ.take ?_
  (refine DT.eff 14 rfl (by kernel_rfl) ?_)
  try refine gL ?_
  refine AtQ.eff' (by kernel_rfl) ?_
  (refine DT.done (by kernel_rfl) ?_)
  try refine gL ?_
  refine AtQ.f1 Tryz.results191 rfl (by rw [if_pos hc]) (fun w h => ?_)
  refine Wr.in_ ⟨x.ab, x.cb, a', c'⟩ ?_
  simp only [wsOpen, if_pos hc, List.length_append, List.length_singleton]
  exact Sat.fr (Ps := [_, _, _]) h.tail fR_
 ·try refine gL ?_
  refine AtQ.f1 Tryz.results191 rfl (by rw [if_neg hc]) (fun w h => ?_)
  refine Wr.in_ x ?_
  simp only [wsOpen, if_neg hc]
  exact h
def wsTag (n k : Int) (S : WS) : WS := if S.e = 0 ∧ (n < 1 ∨ 536870911 < n ∨ 5 < k) then { S with e := 12 } else S.put (enc (n * 8 + k))
theorem put_bad {S : WS} (h : S.e ≠ 0) (l : List Int) : S.put l = S := by unfold WS.put; rw [if_neg h]
set_option maxHeartbeats 1000000 in
theorem tag_fn {p : Nat} {S : WS} {n k : Int} (hS : S.ok) (hk0 : 0 ≤ k) (hk1 : k < 256) (hn0 : -2147483648 ≤ n) (hn1 : n ≤ 2147483647) :
  Sp B Tryz.prog 176 [ptr p, .int .i32 n, .int .u8 k] R [Wr p S] (fun u H' => u = .tuple #[] ∧ H' = [Wr p (wsTag n k S)]) := by
 refine Sp.body Tryz.func176 rfl Tryz.ntmps176 (by simp) ?_
 simp only [argE, List.cons_append, List.nil_append, Nat.zero_add, Nat.reduceAdd]
 refine CT.wr fun x => ?_
 by_cases hb : S.e = 0 ∧ (n < 1 ∨ 536870911 < n ∨ 5 < k)
 ·have ht : wsTag n k S = { S with e := 12 } := by unfold wsTag; rw [if_pos hb]
  rw [ht]
  repeat' (first|refine gL ?_|(refine gv ?_;first|(refine⟨fun hc=>?_,fun hc=>?_⟩<;>first|(exfalso;omega)|skip)|refine gk ?_|refine num_m fun r hr=>?_)|fail)
  all_goals
   refine RT.ar rfl rfl (y_shl rfl rfl (by omega) rfl) rfl rfl ?_
   repeat' (first|refine gL ?_|(refine gv ?_;refine gk ?_)|fail)
   refine RT.ar rfl rfl (y_or rfl rfl rfl) rfl rfl ?_
   refine RT.weak (H' := Wr p { S with e := 12 } :: R) (fun w h => Wr.in_ (S := { S with e := 12 }) x h) ?_
   refine RT.call T rfl fR_ (writeVarint_fn (S := { S with e := 12 }) hS (wrap64 _)) rfl rfl rfl ?_
   rintro _ _ ⟨rfl, rfl⟩
   rw [put_bad (by simp)]
   try refine gL ?_
   exact AtQ.f0 Tryz.results176 (fun w h => h) (by first | exact .inl rfl | exact .inr rfl)
 ·by_cases he : S.e = 0
  ·have ht : wsTag n k S = S.put (enc (n * 8 + k)) := by unfold wsTag; rw [if_neg hb]
   rw [ht]
   repeat' (first|refine gL ?_|(refine gv ?_;first|(refine⟨fun hc=>?_,fun hc=>?_⟩<;>first|(exfalso;omega)|skip)|refine gk ?_)|fail)
   refine RT.ar rfl rfl (y_shl rfl rfl (by omega) (shl3 (by omega) (by omega))) rfl rfl ?_
   repeat' (first|refine gL ?_|(refine gv ?_;refine gk ?_)|fail)
   refine RT.ar rfl rfl (y_or rfl rfl (or_tag (by omega) (by omega) (by omega) (by omega))) rfl rfl ?_
   refine RT.weak (H' := Wr p S :: R) (fun w h => Wr.in_ x h) ?_
   refine RT.call T rfl fR_ (writeVarint_fn hS ⟨by omega, by omega⟩) rfl rfl rfl ?_
   rintro _ _ ⟨rfl, rfl⟩
   try refine gL ?_
   exact AtQ.f0 Tryz.results176 (fun w h => h) (by first | exact .inl rfl | exact .inr rfl)
  ·have ht : wsTag n k S = S := by unfold wsTag; rw [if_neg hb, put_bad he]
   rw [ht]
   repeat' (first|refine gL ?_|(refine gv ?_;first|(refine⟨fun hc=>?_,fun hc=>?_⟩<;>first|(exfalso;omega)|skip)|refine num_m fun r hr=>?_)|fail)
   all_goals
    refine RT.ar rfl rfl (y_shl rfl rfl (by omega) rfl) rfl rfl ?_
    repeat' (first|refine gL ?_|(refine gv ?_;refine gk ?_)|fail)
    refine RT.ar rfl rfl (y_or rfl rfl rfl) rfl rfl ?_
    refine RT.weak (H' := Wr p S :: R) (fun w h => Wr.in_ x h) ?_
    refine RT.call T rfl fR_ (writeVarint_fn hS (wrap64 _)) rfl rfl rfl ?_
    rintro _ _ ⟨rfl, rfl⟩
    rw [put_bad he]
    try refine gL ?_
    exact AtQ.f0 Tryz.results176 (fun w h => h) (by first | exact .inl rfl | exact .inr rfl)
end Go.Proofs.YtclcnhfponjdaaaGreatDoor
end
section
namespace Go.Sk
theorem asub_zero {a : Option Addr} {c z : Nat} : asub a c z 0 = a := by
 unfold asub
 split
 ·rfl
 ·rw [Nat.zero_mul]
  cases a <;> simp [Addr.add]
theorem ins_src {L ys : List Value} {n m i : Nat} (h1 : L.length = n) (hi : i ≤ n) : (((L ++ ys).drop (i * 1)).take ((n + m - i) * 1)).take (n - i) = L.drop i := by
 subst h1
 rw [Nat.mul_one, Nat.mul_one, List.take_take, show min (L.length - i) (L.length + m - i) = L.length - i by omega, List.drop_append_of_le_length hi]
 exact List.take_left' (by simp)
theorem ins_shift {L ys L' : List Value} {n m i : Nat} (h1 : L.length = n) (h2 : ys.length = m) (h3 : L'.length = m) (hi : i ≤ n) :
  let X := L ++ ys
  let X1 := X.take (i + m) ++ ((X.drop (i * 1)).take ((n + m - i) * 1)).take (n - i) ++ X.drop (i + m + (n - i))
  X1.take i ++ L'.take m ++ X1.drop (i + m) = L.take i ++ L' ++ L.drop i := by
 subst h1 h2
 intro X X1
 have e1 : X.take (i + ys.length) = L.take i ++ (X.drop i).take ys.length := by
  rw [List.take_add]
  congr 1
  exact List.take_append_of_le_length hi
 have e2 : ((X.drop (i * 1)).take ((L.length + ys.length - i) * 1)).take (L.length - i) = L.drop i := by
  rw [Nat.mul_one, Nat.mul_one, List.take_take, show min (L.length - i) (L.length + ys.length - i) = L.length - i by omega, List.drop_append_of_le_length hi]
  exact List.take_left' (by simp)
 have e3 : X.drop (i + ys.length + (L.length - i)) = [] := List.drop_eq_nil_of_le (by simp [X]; omega)
 have hl : (X.take (i + ys.length)).length = i + ys.length := by simp [X]; omega
 have e4 : X1 = X.take (i + ys.length) ++ L.drop i := by
  show _ ++ _ ++ _ = _
  rw [e2, e3, List.append_nil]
 have e5 : X1.take i = L.take i := by
  rw [e4, List.take_append_of_le_length (by rw [hl]; omega), e1, List.take_append_of_le_length (by rw [List.length_take]; omega), List.take_take, Nat.min_self]
 have e6 : X1.drop (i + ys.length) = L.drop i := by rw [e4]; exact List.drop_left' hl
 have e7 : L'.take ys.length = L' := List.take_of_length_le (by omega)
 rw [e5, e6, e7]
theorem ins_grow {L zs L' : List Value} {n m i : Nat} (h1 : L.length = n) (h2 : zs.length = n + m - i) (h3 : L'.length = m) (hi : i ≤ n) :
  let X := L.take i ++ zs
  let X1 := X.take i ++ L'.take m ++ X.drop (i + m)
  X1.take (i + m) ++ ((L.drop (i * 1)).take ((n - i) * 1)).take (n - i) ++ X1.drop (i + m + (n - i)) = L.take i ++ L' ++ L.drop i := by
 subst h1 h3
 intro X X1
 have hl : (L.take i).length = i := by simp; omega
 have e1 : X.take i = L.take i := List.take_left' hl
 have e2 : X1 = (L.take i ++ L') ++ X.drop (i + L'.length) := by
  show _ ++ _ ++ _ = _
  rw [e1, List.take_length]
 have hl2 : (L.take i ++ L').length = i + L'.length := by rw [List.length_append, hl]
 have e3 : ((L.drop (i * 1)).take ((L.length - i) * 1)).take (L.length - i) = L.drop i := by
  rw [Nat.mul_one, Nat.mul_one, List.take_take, Nat.min_self]
  exact List.take_of_length_le (by simp)
 rw [e3, e2, List.take_left' hl2, @List.drop_eq_nil_of_le _ (L.take i ++ L' ++ X.drop (i + L'.length)), List.append_nil]
 simp [X, h2]
 omega
end Go.Sk
end
section
namespace Go.Proofs.YtclcnhfponjdaaaGreatDoor
open Go.Sk
set_option maxRecDepth 100000
attribute [local irreducible] Cs Own Ex Pu Yld RT LJ QJ AtQ CT Rd QSp Sp FinQ Then LoopQ CutQ DT TakeQ EffQ
attribute [local irreducible] Wr
variable {B : World} {R : List HP}
set_option maxHeartbeats 2000000 in
theorem insert_fn {a av : Option Addr} {c cv n m i : Nat} {l l' : List Int} (hi : i ≤ n) (hnm : n + m ≤ 33554432) :
  Sp B Tryz.prog 278 [sl8 a n c, .int .i64 i, sl8 av m cv] R [own8 a c l n, own8 av cv l' m] (fun u H' => ∃ a' c', u = sl8 a' (n + m) c' ∧ H' = [own8 a' c' (l.take i ++ l' ++ l.drop i) (n + m)]) := by
 refine Sp.body Tryz.func278 rfl Tryz.ntmps278 (by simp) ?_
 simp only [argE, List.cons_append, List.nil_append, Nat.zero_add, Nat.reduceAdd]
 try refine gL ?_
 refine RT.fact (Own.factsI (l := l) sE_) (fun hf => ?_)
 refine RT.fact (Own.factsI (l := l') (c := cv) (k := m) sE_) (fun hf' => ?_)
 refine RT.sllo T (j := i) rfl rfl (by omega) (by omega) rfl rfl rfl ?_
 repeat' (first|refine gL ?_|(refine gv ?_;first|(refine⟨fun hc=>?_,fun hc=>?_⟩<;>first|(exfalso;omega)|skip)|refine gk ?_)|fail)
 ·have hm : m = 0 := by omega
  have hl' : l' = [] := List.eq_nil_of_length_eq_zero (by omega)
  subst hm hl'
  refine AtQ.fin1 (H' := [own8 a c l n]) Tryz.results278 rfl ⟨a, c, rfl, by simp⟩ (fun w h => ?_)
  exact (Sat.sel (p := own8 av cv [] 0) h sE_).tail
 ·refine RT.appI T (l := l) (l' := l') rfl rfl rfl (Own.rdI sE_ hf'.1 hf'.2.1) (fun a' c' => by ((repeat constructor);done)) (by omega) (by omega) rfl rfl rfl rfl (fun a' c' hac => ?_)
  try refine gL ?_
  refine AtQ.fin1 (H' := [own8 a' c' (l ++ l') (n + m)]) Tryz.results278 rfl ⟨a', c', rfl, ?_⟩ (fun w h => ?_)
  ·rw [List.take_of_length_le (by omega), List.drop_eq_nil_of_le (by omega), List.append_nil]
  ·exact (Sat.sel (p := own8 av cv l' m) h sE_).tail
 ·refine RT.slhi T (j := i) rfl rfl (by omega) (by omega) rfl rfl rfl ?_
  repeat' (first|refine gL ?_|(refine gv ?_;refine gk ?_)|fail)
  refine RT.appz T (j := n + m - i) rfl rfl (by omega) (by omega) (by omega) rfl rfl (Rd.subI0 (Own.rdI sE_ hf.1 hf.2.1) hi) (by omega) (by omega) rfl rfl rfl rfl (fun a' c' zs hzs hac => ?_)
  have hK : i + (n + m - i) = n + m := by omega
  rw [hK] at hac ⊢
  try refine gL ?_
  rw [show ints IntKind.u8 (l.take i) = (ints IntKind.u8 l).take i by simp [ints]]
  refine RT.sllo T (j := i) rfl rfl (by omega) (by omega) rfl rfl rfl ?_
  try refine gL ?_
  refine RT.copy T (r := m) rfl rfl (by ((repeat constructor);done)) (by omega) (by omega) (by omega) (Own.rdI sE_ hf'.1 hf'.2.1) (fun v hv => ints_one _ _ v (List.mem_of_mem_take hv)) rfl rfl rfl ?_
  try refine gR ?_
  refine CT.drawn [] 8 mixed ?_
  (refine DT.takes (k := 1) [0, 1, 2, 3, 4, 5, 6, 7] [8] (fun w h => Sat.ones (by (repeat (first|exact Fr.nil|(apply Fr.cons;focus ((repeat constructor);done))))) h) (by kernel_rfl) (by kernel_rfl) (by kernel_rfl) rfl (Clos.ofB (by kernel_rfl)) ?_)
  repeat' (first|refine gL ?_|(refine gv ?_;refine gk ?_)|fail)
  refine RT.sllo T (j := i + m) rfl rfl (by omega) (by omega) rfl rfl rfl ?_
  try refine gL ?_
  refine RT.sllo T (j := i) rfl rfl (by omega) (by omega) rfl rfl rfl ?_
  try refine gL ?_
  refine AtQ.take ?_
  (refine DT.eff 8 rfl (by kernel_rfl) ?_)
  refine RT.copy T (r := n - i) rfl rfl (by ((repeat constructor);done)) (by omega) (by omega) (by omega) (Rd.sub (i := i) (j := n) (Own.rdI sE_ hf.1 hf.2.1) hi (Nat.le_refl _)) (fun v hv => ints_one _ _ v (List.mem_of_mem_drop (List.mem_of_mem_take (List.mem_of_mem_take hv)))) rfl rfl rfl ?_
  refine RT.nil ?_
  refine AtQ.eff' (by kernel_rfl) ?_
  (refine DT.done (by kernel_rfl) ?_)
  try refine gL ?_
  refine AtQ.fin1 (H' := [own8 a' c' (l.take i ++ l' ++ l.drop i) (n + m)]) Tryz.results278 rfl ⟨a', c', rfl, rfl⟩ (fun w h => ?_)
  rw [ins_grow (by rw [ints_len, hf.1]) hzs (by rw [ints_len, hf'.1]) hi] at h
  have h := (Sat.sel (p := own8 av cv l' m) (Sat.sel (p := own8 a c l n) h sE_).tail sE_).tail
  rw [show (ints IntKind.u8 l).take i ++ ints .u8 l' ++ (ints .u8 l).drop i = ints .u8 (l.take i ++ l' ++ l.drop i) by simp [ints]] at h
  exact h
 ·refine RT.slhi T (j := n + m) rfl rfl (by omega) (by omega) rfl rfl rfl ?_
  rw [asub_zero]
  refine RT.get (p := fun ys => ys.length = n + m - n) (f := fun ys => [Own a c 5 1 (n + m) (ints .u8 l ++ ys), own8 av cv l' m] ++ R) (fun w h => Sat.ownMore (a := a) (c := c) (k := n) (k' := n + m) (e := 5) (xs := ints .u8 l) h (by omega) (by omega) (fun ys => by ((repeat constructor);done))) (fun ys hys => ?_)
  simp only [List.cons_append, List.nil_append]
  repeat' (first|refine gL ?_|(refine gv ?_;refine gk ?_)|fail)
  refine RT.sllo T (j := i + m) rfl rfl (by omega) (by omega) rfl rfl rfl ?_
  refine RT.over T (ts := 23) (tR := 12) (by_ := 1) (i := i + m) rfl rfl sE_ sE_ (by omega) (by omega) (by omega) Tryz.func295 (by kernel_rfl) (by kernel_rfl) (by kernel_rfl) (by kernel_rfl) rfl rfl rfl rfl ?_
  try refine gR ?_
  refine CT.drawn [] 8 mixed ?_
  (refine DT.takes (k := 1) [0, 1, 2, 3, 4, 5, 6, 7] [8] (fun w h => Sat.ones (by (repeat (first|exact Fr.nil|(apply Fr.cons;focus ((repeat constructor);done))))) h) (by kernel_rfl) (by kernel_rfl) (by kernel_rfl) rfl (Clos.ofB (by kernel_rfl)) ?_)
  repeat' (first|refine gL ?_|(refine gv ?_;refine gk ?_)|fail)
  refine RT.sllo T (j := i + m) rfl rfl (by omega) (by omega) rfl rfl rfl ?_
  try refine gL ?_
  refine RT.sllo T (j := i) rfl rfl (by omega) (by omega) rfl rfl rfl ?_
  try refine gL ?_
  refine AtQ.take ?_
  (refine DT.eff 8 rfl (by kernel_rfl) ?_)
  have hL : (ints IntKind.u8 l).length = n := by rw [ints_len, hf.1]
  have hL' : (ints IntKind.u8 l').length = m := by rw [ints_len, hf'.1]
  refine RT.copy T (r := n - i) rfl rfl (by ((repeat constructor);done)) (by omega) (by omega) (by omega) (Rd.sub (i := i) (j := n + m) (Own.rd (xs := ints .u8 l ++ ys) sE_ (by rw [List.length_append, hL, hys]; omega) (by omega)) (by omega) (Nat.le_refl _)) (fun v hv => by rw [ins_src hL hi] at hv; exact ints_one _ _ v (List.mem_of_mem_drop hv)) rfl rfl rfl ?_
  refine RT.nil ?_
  refine AtQ.eff' (by kernel_rfl) ?_
  (refine DT.done (by kernel_rfl) ?_)
  try refine gL ?_
  refine RT.sllo T (j := i) rfl rfl (by omega) (by omega) rfl rfl rfl ?_
  try refine gL ?_
  refine RT.copy T (r := m) rfl rfl (by ((repeat constructor);done)) (by omega) (by omega) (by omega) (Own.rdI sE_ hf'.1 hf'.2.1) (fun v hv => ints_one _ _ v (List.mem_of_mem_take hv)) rfl rfl rfl ?_
  try refine gL ?_
  refine AtQ.fin1 (H' := [own8 a c (l.take i ++ l' ++ l.drop i) (n + m)]) Tryz.results278 rfl ⟨a, c, rfl, rfl⟩ (fun w h => ?_)
  rw [ins_shift hL (by omega) hL' hi] at h
  have h := (Sat.sel (p := own8 av cv l' m) h sE_).tail
  rw [show (ints IntKind.u8 l).take i ++ ints .u8 l' ++ (ints .u8 l).drop i = ints .u8 (l.take i ++ l' ++ l.drop i) by simp [ints]] at h
  exact h
def wsShut (place : Int) (S : WS) : WS :=
 if S.e ≠ 0 then S
 else if S.op.getLast? = some place then
  (if S.limit - S.b.length < (enc (S.b.length - place)).length then { S with e := 15 }
   else { S with b := S.b.take place.toNat ++ enc (S.b.length - place) ++ S.b.drop place.toNat, op := S.op.dropLast })
 else { S with e := 1 }
set_option maxHeartbeats 2000000 in
theorem shut_fn {p : Nat} {S : WS} {place : Int} (hS : S.ok) (ho : S.op.length ≤ 1000000000) (hop : S.e = 0 → ∀ x ∈ S.op, 0 ≤ x ∧ x ≤ S.b.length) :
  Sp B Tryz.prog 193 [ptr p, .int .i64 place] R [Wr p S] (fun u H' => u = .tuple #[] ∧ H' = [Wr p (wsShut place S)]) := by
 obtain ⟨k0, k1, k2⟩ := hS
 refine Sp.body Tryz.func193 rfl Tryz.ntmps193 (by simp) ?_
 simp only [argE, List.cons_append, List.nil_append, Nat.zero_add, Nat.reduceAdd]
 refine CT.wr fun x => ?_
 by_cases he : S.e = 0
 ·rcases List.eq_nil_or_concat S.op with hn | ⟨op, y, hn⟩
  ·have hw : wsShut place S = { S with e := 1 } := by unfold wsShut; rw [if_neg (by simp [he]), hn]; rfl
   have hl : S.op.length = 0 := by rw [hn]; rfl
   rw [hw]
   repeat' (first|refine gL ?_|(refine gv ?_;(refine⟨fun hc=>?_,fun hc=>?_⟩<;>first|(exfalso;omega)|skip))|fail)
   refine AtQ.f0 Tryz.results193 (fun w h => ?_) (by first | exact .inl rfl | exact .inr rfl)
   exact Wr.in_ (S := { S with e := 1 }) x h
  ·have hl : S.op.length = op.length + 1 := by rw [hn]; simp
   have hgl : S.op.getLast? = some y := by rw [hn]; simp
   have hgd : S.op.getD op.length 0 = y := by rw [hn]; simp
   have hy := hop he y (by rw [hn]; simp)
   have hdl : S.op.dropLast = op := by rw [hn]; simp
   repeat' (first|refine gL ?_|(refine gv ?_;first|(refine⟨fun hc=>?_,fun hc=>?_⟩<;>first|(exfalso;omega)|skip)|refine gk ?_)|fail)
   refine RT.fact (Own.factsI (ki := .i64) (l := S.op) sE_) (fun hf => ?_)
   refine RT.ix T (j := op.length) rfl rfl rfl (Own.rdI sE_ rfl hf.2.1) (by omega) (by omega) (by omega) rfl rfl ?_
   refine RT.ldi T rfl (Own.rdI sE_ rfl hf.2.1) (by omega) rfl rfl rfl ?_
   rw [hgd]
   repeat' (first|refine gL ?_|(refine gv ?_;first|(refine⟨fun hc=>?_,fun hc=>?_⟩<;>first|(exfalso;omega)|skip)|refine gk ?_)|fail)
   ·subst hc
    obtain ⟨pl, rfl⟩ := Int.eq_ofNat_of_zero_le hy.1
    refine RT.weak (fun w h => Sat.nilOwn (e := 5) (sz := 1) h) ?_
    have hv : V64 ((S.b.length : Int) - (pl : Int)) := ⟨by omega, by omega⟩
    have hel := enc_len hv
    refine RT.call T rfl fR_ (varint_w (l := []) hv (by omega)) rfl rfl rfl ?_
    rintro _ _ ⟨a', c', rfl, rfl⟩
    rw [Nat.zero_add, List.nil_append]
    generalize hE : enc ((S.b.length : Int) - (pl : Int)) = E at hel
    simp only [List.cons_append, List.nil_append]
    try refine gL ?_
    (refine RT.call T rfl fR_ (room_fn k0 k1 k2 (by omega) (by omega)) rfl rfl rfl ?_; rintro _ _ ⟨rfl, rfl⟩; try simp only [List.cons_append, List.nil_append])
    by_cases hq : (E.length : Int) ≤ S.limit - S.b.length
    ·have hw : wsShut pl S = { S with b := S.b.take pl ++ E ++ S.b.drop pl, op := op } := by
      unfold wsShut
      rw [if_neg (by simp [he]), if_pos hgl, hE, if_neg (by omega), hdl, Int.toNat_natCast]
     rw [hw, if_neg (by omega), decide_eq_true ⟨he, hq⟩]
     try refine gL ?_
     refine RT.call T rfl fR_ (insert_fn (i := pl) (by omega) (by omega)) rfl rfl rfl ?_
     rintro _ _ ⟨a2, c2, rfl, rfl⟩
     simp only [List.cons_append, List.nil_append]
     repeat' (first|refine gL ?_|(refine gv ?_;refine gk ?_)|fail)
     refine RT.slhi T (j := op.length) rfl rfl (by omega) (by omega) rfl rfl rfl ?_
     rw [asub_zero]
     try refine gL ?_
     refine AtQ.f0 Tryz.results193 (fun w h => ?_) (by first | exact .inl rfl | exact .inr rfl)
     refine Wr.in_ ⟨a2, c2, x.ao, x.co⟩ ?_
     have hlen : (S.b.take pl ++ E ++ S.b.drop pl).length = S.b.length + E.length := by simp; omega
     simp only [hlen]
     have h := Sat.ownLess (a := x.ao) (c := x.co) (k := S.op.length) (k' := op.length) (e := 3) (xs := ints .i64 S.op) h (by omega) (by ((repeat constructor);done))
     rw [show (ints IntKind.i64 S.op).take op.length = ints .i64 op by rw [hn]; simp [ints]] at h
     exact Sat.fr (Ps := [_, _, _]) h fR_
    ·have hw : wsShut pl S = { S with e := 15 } := by
      unfold wsShut
      rw [if_neg (by simp [he]), if_pos hgl, hE, if_pos (by omega)]
     rw [hw, if_pos ⟨he, by omega⟩, decide_eq_false (fun h => hq h.2)]
     try refine gL ?_
     refine AtQ.f0 Tryz.results193 (fun w h => ?_) (by first | exact .inl rfl | exact .inr rfl)
     refine Wr.in_ (S := { S with e := 15 }) x ?_
     exact Sat.fr (Ps := [_, _, _]) (Sat.sel (p := own8 a' c' E E.length) h sE_).tail fR_
   ·have hw : wsShut place S = { S with e := 1 } := by
     unfold wsShut
     rw [if_neg (by simp [he]), if_neg (by rw [hgl]; simpa using hc)]
    rw [hw]
    refine AtQ.f0 Tryz.results193 (fun w h => ?_) (by first | exact .inl rfl | exact .inr rfl)
    exact Wr.in_ (S := { S with e := 1 }) x h
 ·have hw : wsShut place S = S := by unfold wsShut; rw [if_pos he]
  rw [hw]
  repeat' (first|refine gL ?_|(refine gv ?_;(refine⟨fun hc=>?_,fun hc=>?_⟩<;>first|(exfalso;omega)|skip))|fail)
  refine AtQ.f0 Tryz.results193 (fun w h => ?_) (by first | exact .inl rfl | exact .inr rfl)
  exact Wr.in_ x h
end Go.Proofs.YtclcnhfponjdaaaGreatDoor
end
section
namespace Go.Proofs.YtclcnhfponjdaaaGreatDoor
open Go.Sk
set_option maxRecDepth 100000
attribute [local irreducible] Cs Own Ex Pu Yld RT LJ QJ AtQ CT Rd QSp Sp FinQ Then LoopQ CutQ DT TakeQ EffQ
attribute [local irreducible] Wr
variable {B : World} {R : List HP}
abbrev rds (p : Nat) (a : Option Addr) (n c : Nat) (s : RS) : HP := rdr p a n c s.at_ s.en s.e s.wh
theorem varint_s {p n c : Nat} {a : Option Addr} {s : RS} {bs : List Int} (hR : Rd B R a n c 1 (ints .u8 bs)) (hb : Bytes bs) (hs : s.ok n) (h3 : n ≤ 140737488355328) :
  Sp B Tryz.prog 166 [ptr p] R [rds p a n c s] (fun v H' => v = .int .u64 (s.varint bs).1 ∧ H' = [rds p a n c (s.varint bs).2]) := by
 refine Sp.mono (varint_fn hR hb hs.1 hs.2.1 h3) ?_
 rintro v H' ⟨rfl, rfl⟩
 unfold RS.varint RS.seg
 by_cases he : s.e = 0
 ·simp only [he, if_true, true_and]
  cases hv : vr ((bs.drop s.at_).take (s.en - s.at_)) 0 0 <;> simp [vrVal, vrAt, vrErr, rds]
 ·simp [he, rds]
theorem wrong_s {p n c : Nat} {a : Option Addr} {s : RS} {e' : Int} {at' : Nat} :
  Sp B Tryz.prog 167 [ptr p, .int .i64 e', .int .i64 at'] R [rds p a n c s] (fun v H' => v = .tuple #[] ∧ H' = [rds p a n c (s.wrong e' at')]) := by
 refine Sp.mono wrong_fn ?_
 rintro v H' ⟨rfl, rfl⟩
 refine ⟨rfl, ?_⟩
 unfold RS.wrong
 by_cases he : s.e = 0 <;> simp [he, rds]
theorem take_step {l l' : List Int} {i : Nat} (h : l.take i = l'.take i) (h1 : i < l.length) (h2 : i < l'.length) (h3 : l.getD i 0 = l'.getD i 0) : l.take (i + 1) = l'.take (i + 1) := by
 rw [List.take_add_one, List.take_add_one, h, List.getElem?_eq_getElem h1, List.getElem?_eq_getElem h2]
 simp only [List.getD_eq_getElem?_getD, List.getElem?_eq_getElem h1, List.getElem?_eq_getElem h2, Option.getD_some] at h3
 rw [h3]
theorem sameBytes_fn {a b : Option Addr} {n m c d : Nat} {l l' : List Int} (hR : Rd B R a n c 1 (ints .u8 l)) (hR' : Rd B R b m d 1 (ints .u8 l')) (hn : n ≤ 140737488355328) (hm : m ≤ 140737488355328) :
  Sp B Tryz.prog 19 [sl8 a n c, sl8 b m d] R [] (fun u H' => u = .bool (decide (l = l')) ∧ H' = []) := by
 refine Sp.body Tryz.func19 rfl Tryz.ntmps19 (by simp) ?_
 simp only [argE, List.cons_append, List.nil_append, Nat.zero_add, Nat.reduceAdd]
 have hl := hR.lenI
 have hl' := hR'.lenI
 repeat' (first|refine gL ?_|(refine gv ?_;(refine⟨fun hc=>?_,fun hc=>?_⟩<;>first|(exfalso;omega)|skip))|fail)
 ·have hnm : n = m := by omega
  refine CT.loop (α := Nat) (fun i => [(0, sl8 a n c), (1, sl8 b m d), (5, .int .i64 i)]) (fun i => Pu (i ≤ n ∧ l.take i = l'.take i) :: R) (fun i => n - i) 0 ⟨rfl, rfl, rfl, trivial⟩
   (fun w h => Sat.pu_in ⟨Nat.zero_le _, rfl⟩ h) (fun i => CT.pu fun hs => ?_)
  obtain ⟨s1, s2⟩ := hs
  repeat' (first|refine gL ?_|(refine gv ?_;(refine⟨fun hc=>?_,fun hc=>?_⟩<;>first|(exfalso;omega)|skip))|fail)
  ·refine RT.ix T (j := i) rfl rfl rfl hR (by omega) (by omega) (by omega) rfl rfl ?_
   refine RT.ldi T rfl hR (by omega) rfl rfl rfl ?_
   try refine gL ?_
   refine RT.ix T (j := i) rfl rfl rfl hR' (by omega) (by omega) (by omega) rfl rfl ?_
   refine RT.ldi T rfl hR' (by omega) rfl rfl rfl ?_
   repeat' (first|refine gL ?_|(refine gv ?_;first|(refine⟨fun hc=>?_,fun hc=>?_⟩<;>first|(exfalso;omega)|skip)|refine gk ?_)|fail)
   ·refine AtQ.loop (i + 1) ⟨rfl, rfl, rfl, trivial⟩ (fun w h => Sat.pu_in ⟨by omega, take_step s2 (by omega) (by omega) hc⟩ h) (by omega)
   ·refine AtQ.f1 Tryz.results19 rfl ?_ (fun _ h => h)
    rw [decide_eq_false]
    intro h
    subst h
    exact hc rfl
  ·refine AtQ.f1 Tryz.results19 rfl ?_ (fun _ h => h)
   rw [decide_eq_true]
   rw [List.take_of_length_le (by omega), List.take_of_length_le (by omega)] at s2
   exact s2
 ·refine AtQ.f1 Tryz.results19 rfl ?_ (fun _ h => h)
  rw [decide_eq_false]
  intro h
  rw [h, hl'] at hl
  omega
theorem and7 {v : Int} (h : V64 v) : IntKind.u64.wrap ((BitVec.ofInt IntKind.u64.bits v &&& BitVec.ofInt IntKind.u64.bits 7).toNat : Int) = v % 8 :=
 and_mask (k := .u64) (s := 3) h.1 (by simp only [IntKind.bits]; exact h.2) rfl (by decide)
theorem shr3 {v : Int} : v.fdiv (2 ^ (min (3 : Int).toNat IntKind.u64.bits)) = v / 8 := by
 rw [show min (3 : Int).toNat IntKind.u64.bits = 3 by decide, show (2 : Int) ^ 3 = 8 by decide, Int.fdiv_eq_ediv_of_nonneg _ (by decide)]
set_option maxHeartbeats 1000000 in
theorem rtag_fn {p n c : Nat} {a : Option Addr} {s : RS} {bs : List Int} (hR : Rd B R a n c 1 (ints .u8 bs)) (hb : Bytes bs) (hs : s.ok n) (h3 : n ≤ 140737488355328) :
  Sp B Tryz.prog 74 [ptr p] R [rds p a n c s] (fun u H' => u = .tuple #[.int .i32 (s.tag bs).1.1, .int .u8 (s.tag bs).1.2] ∧ H' = [rds p a n c (s.tag bs).2]) := by
 obtain ⟨q1, q2, q3, q4, q5, q6⟩ := RS.varint_spec hs hR.lenI hb
 generalize hT : s.tag bs = T'
 unfold RS.tag at hT
 refine Sp.body Tryz.func74 rfl Tryz.ntmps74 (by simp) ?_
 simp only [argE, List.cons_append, List.nil_append, Nat.zero_add, Nat.reduceAdd]
 try refine gL ?_
 (refine RT.call T rfl fR_ (varint_s hR hb hs h3) rfl rfl rfl ?_; rintro _ _ ⟨rfl, rfl⟩; try simp only [List.cons_append, List.nil_append])
 generalize s.varint bs = vs at *
 obtain ⟨v, s1⟩ := vs
 simp only at q1 q2 q3 q4 q5 q6 ⊢
 obtain ⟨v0, v1⟩ := q4
 obtain ⟨o1, o2, o3⟩ := hs
 by_cases he : s1.e = 0
 ·rw [if_pos he] at hT
  obtain ⟨he0, _⟩ := q6 he
  repeat' (first|refine gL ?_|(refine gv ?_;(refine⟨fun hc=>?_,fun hc=>?_⟩<;>first|(exfalso;omega)|skip))|fail)
  refine RT.ar rfl rfl (y_and rfl rfl (and7 ⟨v0, v1⟩)) rfl rfl ?_
  by_cases hbad : 4294967295 < v ∨ v / 8 = 0 ∨ 5 < v % 8
  ·rw [if_pos hbad] at hT
   subst hT
   repeat' (first|refine gL ?_|(refine gv ?_;first|(refine⟨fun hc=>?_,fun hc=>?_⟩<;>first|(exfalso;omega)|skip)|refine gk ?_)|fail)
   ·refine RT.call T rfl fR_ (wrong_s (s := { s1 with at_ := s.at_ }) (at' := s.at_)) rfl rfl rfl ?_
    rintro _ _ ⟨rfl, rfl⟩
    rw [show RS.wrong 12 s.at_ { s1 with at_ := s.at_ } = { s1 with at_ := s.at_, e := 12, wh := s.at_ } by unfold RS.wrong; rw [if_pos he]]
    try refine gL ?_
    exact AtQ.f2 Tryz.results74 rfl rfl rfl rfl (fun w h => h)
   ·refine RT.shr rfl rfl (by omega) shr3 rfl rfl ?_
    repeat' (first|refine gL ?_|(refine gv ?_;(refine⟨fun hc=>?_,fun hc=>?_⟩<;>first|(exfalso;omega)|skip))|fail)
    all_goals
     refine RT.call T rfl fR_ (wrong_s (s := { s1 with at_ := s.at_ }) (at' := s.at_)) rfl rfl rfl ?_
     rintro _ _ ⟨rfl, rfl⟩
     rw [show RS.wrong 12 s.at_ { s1 with at_ := s.at_ } = { s1 with at_ := s.at_, e := 12, wh := s.at_ } by unfold RS.wrong; rw [if_pos he]]
     try refine gL ?_
     exact AtQ.f2 Tryz.results74 rfl rfl rfl rfl (fun w h => h)
  ·rw [if_neg hbad] at hT
   subst hT
   repeat' (first|refine gL ?_|(refine gv ?_;first|(refine⟨fun hc=>?_,fun hc=>?_⟩<;>first|(exfalso;omega)|skip)|refine gk ?_)|fail)
   refine RT.shr rfl rfl (by omega) shr3 rfl rfl ?_
   repeat' (first|refine gL ?_|(refine gv ?_;(refine⟨fun hc=>?_,fun hc=>?_⟩<;>first|(exfalso;omega)|skip))|fail)
   refine RT.shr rfl rfl (by omega) shr3 rfl rfl ?_
   repeat' (first|refine gL ?_|(refine gv ?_;refine gk ?_)|fail)
   exact AtQ.f2 Tryz.results74 rfl rfl rfl rfl (fun w h => h)
 ·rw [if_neg he] at hT
  subst hT
  repeat' (first|refine gL ?_|(refine gv ?_;(refine⟨fun hc=>?_,fun hc=>?_⟩<;>first|(exfalso;omega)|skip))|fail)
  exact AtQ.f2 Tryz.results74 rfl rfl rfl rfl (fun w h => h)
end Go.Proofs.YtclcnhfponjdaaaGreatDoor
end
section
namespace Go.Proofs.YtclcnhfponjdaaaGreatDoor
open Go.Sk
set_option maxRecDepth 100000
attribute [local irreducible] Cs Own Ex Pu Yld RT LJ QJ AtQ CT Rd QSp Sp FinQ Then LoopQ CutQ DT TakeQ EffQ
attribute [local irreducible] Wr
variable {B : World} {R : List HP}
def spanV : Option (Nat × Nat) → Value
 | some (i, j) => .tuple #[.int .i64 i, .int .i64 j, .bool true]
 | none => .tuple #[.int .i64 0, .int .i64 0, .bool false]
set_option maxHeartbeats 1000000 in
theorem span_fn {p n c : Nat} {a : Option Addr} {s : RS} {bs : List Int} (hR : Rd B R a n c 1 (ints .u8 bs)) (hb : Bytes bs) (hs : s.ok n) (h3 : n ≤ 140737488355328) :
  Sp B Tryz.prog 267 [ptr p] R [rds p a n c s] (fun u H' => u = spanV (s.span bs).1 ∧ H' = [rds p a n c (s.span bs).2]) := by
 obtain ⟨q1, q2, q3, q4, q5, q6⟩ := RS.varint_spec hs hR.lenI hb
 generalize hT : s.span bs = T'
 unfold RS.span at hT
 refine Sp.body Tryz.func267 rfl Tryz.ntmps267 (by simp) ?_
 simp only [argE, List.cons_append, List.nil_append, Nat.zero_add, Nat.reduceAdd]
 try refine gL ?_
 (refine RT.call T rfl fR_ (varint_s hR hb hs h3) rfl rfl rfl ?_; rintro _ _ ⟨rfl, rfl⟩; try simp only [List.cons_append, List.nil_append])
 generalize s.varint bs = vs at *
 obtain ⟨v, s1⟩ := vs
 simp only at q1 q2 q3 q4 q5 q6 ⊢
 obtain ⟨v0, v1⟩ := q4
 obtain ⟨o1, o2, o3⟩ := hs
 obtain ⟨r1, r2, r3⟩ := q1
 by_cases he : s1.e = 0
 ·rw [if_pos he] at hT
  obtain ⟨he0, _⟩ := q6 he
  by_cases hbad : (s1.en : Int) - s1.at_ < v
  ·rw [if_pos hbad] at hT
   subst hT
   repeat' (first|refine gL ?_|(refine gv ?_;first|(refine⟨fun hc=>?_,fun hc=>?_⟩<;>first|(exfalso;omega)|skip)|refine gk ?_)|fail)
   refine RT.call T rfl fR_ (wrong_s (s := { s1 with at_ := s.at_ }) (at' := s.at_)) rfl rfl rfl ?_
   rintro _ _ ⟨rfl, rfl⟩
   rw [show RS.wrong 10 s.at_ { s1 with at_ := s.at_ } = { s1 with at_ := s.at_, e := 10, wh := s.at_ } by unfold RS.wrong; rw [if_pos he]]
   refine RT.weak (H' := rdr p a n c s.at_ s1.en 10 s.at_ :: R) (fun w h => h) ?_
   repeat' (first|refine gL ?_|(refine gv ?_;(refine⟨fun hc=>?_,fun hc=>?_⟩<;>first|(exfalso;omega)|skip))|fail)
   exact AtQ.fin3 Tryz.results267 rfl rfl rfl ⟨rfl, rfl⟩ (fun w h => h)
  ·rw [if_neg hbad] at hT
   subst hT
   obtain ⟨k, rfl⟩ := Int.eq_ofNat_of_zero_le v0
   repeat' (first|refine gL ?_|(refine gv ?_;first|(refine⟨fun hc=>?_,fun hc=>?_⟩<;>first|(exfalso;omega)|skip)|refine gk ?_)|fail)
   exact AtQ.fin3 Tryz.results267 rfl rfl rfl ⟨rfl, rfl⟩ (fun w h => h)
 ·rw [if_neg he] at hT
  subst hT
  repeat' (first|refine gL ?_|(refine gv ?_;(refine⟨fun hc=>?_,fun hc=>?_⟩<;>first|(exfalso;omega)|skip))|fail)
  exact AtQ.fin3 Tryz.results267 rfl rfl rfl ⟨rfl, rfl⟩ (fun w h => h)
theorem none_fn {p n c : Nat} {a : Option Addr} {s : RS} :
  Sp B Tryz.prog 297 [ptr p] R [rds p a n c s] (fun u H' => ∃ p', u = ptr p' ∧ H' = [rds p' a n c s.none_, rds p a n c s]) := by
 refine Sp.body Tryz.func297 rfl Tryz.ntmps297 (by simp) ?_
 simp only [argE, List.cons_append, List.nil_append, Nat.zero_add, Nat.reduceAdd]
 try refine gR ?_
 first | (refine CT.region ?_) | (refine CT.quiet mixed (by kernel_rfl) ?_)
 try refine gR ?_
 refine CT.drawn [rds p a n c s] 22 mixed ?_
 (refine DT.takes (k := 2) [0, 1, 2, 3, 4, 5, 6, 7, 8, 9, 10, 11, 12, 13, 14, 15, 16, 17, 18, 19, 20] [21, 22] (fun w h => Sat.ones (by (repeat (first|exact Fr.nil|(apply Fr.cons;focus ((repeat constructor);done))))) h) (by kernel_rfl) (by kernel_rfl) (by kernel_rfl) rfl (Clos.ofB (by kernel_rfl)) ?_)
 try refine gL ?_
 refine AtQ.take ?_
 (refine DT.eff 21 rfl (by kernel_rfl) ?_)
 repeat' (first|refine gL ?_|(refine gb ?_;intro b)|fail)
 refine AtQ.eff (fun w h => Sat.ones fR_ h) ?_
 (refine DT.eff 22 rfl (by kernel_rfl) ?_)
 try refine gL ?_
 refine AtQ.eff' (by kernel_rfl) ?_
 (refine DT.done (by kernel_rfl) ?_)
 try refine gL ?_
 exact AtQ.fin1 (H' := [rds b a n c s.none_, rds p a n c s]) Tryz.results297 rfl ⟨b, rfl, rfl⟩ (fun w h => h)
theorem part_fn {p n c : Nat} {a : Option Addr} {s : RS} {bs : List Int} (hR : Rd B R a n c 1 (ints .u8 bs)) (hb : Bytes bs) (hs : s.ok n) (h3 : n ≤ 140737488355328) :
  Sp B Tryz.prog 279 [ptr p] R [rds p a n c s] (fun u H' => ∃ p', u = ptr p' ∧ H' = [rds p' a n c (s.part bs).1, rds p a n c (s.part bs).2]) := by
 unfold RS.part
 refine Sp.body Tryz.func279 rfl Tryz.ntmps279 (by simp) ?_
 simp only [argE, List.cons_append, List.nil_append, Nat.zero_add, Nat.reduceAdd]
 try refine gL ?_
 (refine RT.call T rfl fR_ (span_fn hR hb hs h3) rfl rfl rfl ?_; rintro _ _ ⟨rfl, rfl⟩; try simp only [List.cons_append, List.nil_append])
 generalize s.span bs = sp
 obtain ⟨o, s1⟩ := sp
 cases o with
 | none =>
  simp only [spanV]
  try refine gL ?_
  refine RT.call T rfl fR_ (none_fn (s := s1)) rfl rfl rfl ?_
  rintro _ _ ⟨p', rfl, rfl⟩
  simp only [List.cons_append, List.nil_append]
  try refine gL ?_
  exact AtQ.fin1 (H' := [rds p' a n c s1.none_, rds p a n c s1]) Tryz.results279 rfl ⟨p', rfl, rfl⟩ (fun w h => h)
 | some ij =>
  obtain ⟨i, j⟩ := ij
  simp only [spanV]
  repeat' (first|refine gL ?_|(refine gb ?_;intro b)|fail)
  exact AtQ.fin1 (H' := [rds b a n c ⟨i, j, 0, 0⟩, rds p a n c s1]) Tryz.results279 rfl ⟨b, rfl, rfl⟩ (fun w h => h)
end Go.Proofs.YtclcnhfponjdaaaGreatDoor
end
section
namespace Go.Sk
theorem RS.span_in {bs : List Int} {n : Nat} {s : RS} (h : s.ok n) (hb : bs.length = n) (hby : Bytes bs) : ∀ i j, (s.span bs).1 = some (i, j) → i ≤ j ∧ j ≤ n := by
 intro i j hij
 obtain ⟨a, b, c, d, e, f⟩ := RS.varint_spec h hb hby
 have hd := d.1
 have h2 := a.2.1
 unfold RS.span at hij
 split at hij
 ·split at hij
  ·cases hij
  ·simp only [Option.some.injEq, Prod.mk.injEq] at hij
   omega
 ·cases hij
/-- The bytes with their length that a reader has ahead. -/
def RS.bytes (bs : List Int) (s : RS) : List Int × RS := match (s.span bs).1 with
 | some (i, j) => ((bs.drop i).take (j - i), (s.span bs).2)
 | none => ([], (s.span bs).2)
end Go.Sk
end
section
namespace Go.Proofs.YtclcnhfponjdaaaGreatDoor
open Go.Sk
set_option maxRecDepth 100000
attribute [local irreducible] Cs Own Ex Pu Yld RT LJ QJ AtQ CT Rd QSp Sp FinQ Then LoopQ CutQ DT TakeQ EffQ
attribute [local irreducible] Wr
variable {B : World} {R : List HP}
set_option maxHeartbeats 1000000 in
theorem rbytes_fn {p n c : Nat} {a : Option Addr} {s : RS} {bs : List Int} (hR : Rd B R a n c 1 (ints .u8 bs)) (hb : Bytes bs) (hs : s.ok n) (h3 : n ≤ 140737488355328) :
  Sp B Tryz.prog 276 [ptr p] R [rds p a n c s] (fun u H' => ∃ a' c', u = sl8 a' (s.bytes bs).1.length c' ∧ H' = [own8 a' c' (s.bytes bs).1 (s.bytes bs).1.length, rds p a n c (s.bytes bs).2]) := by
 obtain ⟨o1, o2, o3⟩ := hs
 have hsp := RS.span_in (bs := bs) (n := n) (s := s) ⟨o1, o2, o3⟩ hR.lenI hb
 have hle := hR.le
 refine Sp.body Tryz.func276 rfl Tryz.ntmps276 (by simp) ?_
 simp only [argE, List.cons_append, List.nil_append, Nat.zero_add, Nat.reduceAdd]
 unfold RS.bytes
 try refine gL ?_
 (refine RT.call T rfl fR_ (span_fn hR hb ⟨o1, o2, o3⟩ h3) rfl rfl rfl ?_; rintro _ _ ⟨rfl, rfl⟩; try simp only [List.cons_append, List.nil_append])
 generalize s.span bs = sp at *
 obtain ⟨o, s1⟩ := sp
 cases o with
 | none =>
  simp only [spanV]
  try refine gL ?_
  refine AtQ.fin1 (H' := [own8 none 0 [] 0, rds p a n c s1]) Tryz.results276 rfl ⟨none, 0, rfl, rfl⟩ (fun w h => Sat.nilOwn h)
 | some ij =>
  obtain ⟨i, j⟩ := ij
  obtain ⟨h1, h2⟩ := hsp i j rfl
  simp only [spanV]
  try refine gL ?_
  refine RT.sllh T (j := i) (j' := j) rfl rfl rfl (by omega) (by omega) (by omega) (by omega) rfl rfl rfl ?_
  have hsub := hR.subI h1 h2
  refine RT.call T rfl fR_ (clone_fn hsub.cons (by omega)) rfl rfl rfl ?_
  rintro _ _ ⟨a', c', rfl, rfl⟩
  simp only [List.cons_append, List.nil_append]
  have hl : ((bs.drop i).take (j - i)).length = j - i := hsub.lenI
  try refine gL ?_
  refine AtQ.fin1 (H' := [own8 a' c' ((bs.drop i).take (j - i)) (j - i), rds p a n c s1]) Tryz.results276 rfl ⟨a', c', by rw [hl], by rw [hl]⟩ (fun w h => h)
end Go.Proofs.YtclcnhfponjdaaaGreatDoor
end
section
namespace Go.Proofs.YtclcnhfponjdaaaGreatDoor
open Go.Sk
set_option maxRecDepth 100000
abbrev tstr (ls : List (List Int)) : List Value := ls.map vS
def own2 : List Int := [116, 104, 101, 32, 111, 119, 110, 101, 114, 39, 115]
theorem tstr_app (a b : List (List Int)) : tstr a ++ tstr b = tstr (a ++ b) := by simp [tstr]
theorem Rd.subT {B : World} {H : List HP} {a : Option Addr} {k c j : Nat} {ls : List (List Int)} (h : Rd B H a k c 1 (tstr ls)) (h2 : j ≤ k) : Rd B H a j c 1 (tstr (ls.take j)) := by
 have := h.sub (Nat.zero_le j) h2
 rw [asub_z, Nat.sub_zero, Nat.sub_zero, Nat.zero_mul, List.drop_zero, Nat.mul_one] at this
 simpa [tstr] using this
attribute [local irreducible] Cs Own Ex Pu Yld RT LJ QJ AtQ CT Rd QSp Sp FinQ Then LoopQ CutQ DT TakeQ EffQ
variable {B : World} {R : List HP}
end Go.Proofs.YtclcnhfponjdaaaGreatDoor
end
section
namespace Go.Proofs.YtclcnhfponjdaaaGreatDoor
open Go.Sk
def wT (l : List Txt) : Nat := (l.map fun t => 8 + t.length).sum
def wE (e : EnumT) : Nat := 32 + e.nm.length + 8 * e.res.l.length + wT e.names.l + (e.vals.l.map fun v => 16 + v.nm.length).sum
def wFd (f : FieldT) : Nat := 64 + f.nm.length + f.ty.length + f.js.length
mutual
def wM : MsgT → Nat
 | .mk nm fields oneofs _ _ msgs enums res names => 64 + nm.length + wT oneofs.l + 8 * res.l.length + wT names.l + (enums.l.map wE).sum + (fields.l.map wFd).sum + wMs msgs
def wMs : List MsgT → Nat
 | [] => 0
 | m :: l => wM m + wMs l
end
theorem wMs_eq : ∀ l : List MsgT, wMs l = (l.map wM).sum
 | [] => by unfold wMs; rfl
 | m :: l => by unfold wMs; rw [wMs_eq l]; simp
def wI (i : ImpT) : Nat := 16 + i.path.length
def wF (f : FileT) : Nat := 64 + f.path.length + f.pack.length + (f.enums.l.map wE).sum + (f.imps.l.map wI).sum + wMs f.msgs
def wFs (l : List FileT) : Nat := (l.map wF).sum
/-! ### rows are short -/
def ESm (e : EnumT) : Prop := e.vals.l.length ≤ 8388608 ∧ e.res.l.length ≤ 8388608 ∧ e.names.l.length ≤ 8388608
end Go.Proofs.YtclcnhfponjdaaaGreatDoor
namespace Go.Sk
open Go.Proofs.YtclcnhfponjdaaaGreatDoor
mutual
/-- Its rows are short, and those of all that it holds. -/
def MsgT.Sm : MsgT → Prop
 | .mk _ fields oneofs _ _ msgs enums res names => fields.l.length ≤ 8388608 ∧ oneofs.l.length ≤ 8388608 ∧ res.l.length ≤ 8388608 ∧ names.l.length ≤ 8388608 ∧ enums.l.length ≤ 8388608 ∧ (∀ e ∈ enums.l, ESm e) ∧ msgs.length ≤ 8388608 ∧ MsgT.SmL msgs
def MsgT.SmL : List MsgT → Prop
 | [] => True
 | m :: l => MsgT.Sm m ∧ MsgT.SmL l
end
end Go.Sk
namespace Go.Proofs.YtclcnhfponjdaaaGreatDoor
open Go.Sk
structure FSm (f : FileT) : Prop where
 imps : f.imps.l.length ≤ 8388608
 msgs : f.msgs.length ≤ 8388608
 sub : MsgT.SmL f.msgs
 enums : f.enums.l.length ≤ 8388608
 esub : ∀ e ∈ f.enums.l, ESm e
theorem sum_len {α : Type} {f : α → Nat} {k : Nat} (h : ∀ x, k ≤ f x) : ∀ l : List α, k * l.length ≤ (l.map f).sum
 | [] => by simp
 | x :: l => by
  have := sum_len h l
  have := h x
  simp only [List.map_cons, List.sum_cons, List.length_cons, Nat.mul_add]
  omega
theorem sum_mem {α : Type} {f : α → Nat} : ∀ {l : List α} {x : α}, x ∈ l → f x ≤ (l.map f).sum
 | [], _, h => by cases h
 | y :: l, x, h => by
  simp only [List.map_cons, List.sum_cons]
  rcases List.mem_cons.1 h with rfl | h
  ·omega
  ·have := sum_mem (f := f) h; omega
theorem wE_sm {e : EnumT} (h : wE e ≤ 33554432) : ESm e := by
 unfold wE wT at h
 have h1 := sum_len (f := fun t : Txt => 8 + t.length) (k := 8) (fun _ => by omega) e.names.l
 have h2 := sum_len (f := fun v : EValT => 16 + v.nm.length) (k := 16) (fun _ => by omega) e.vals.l
 exact ⟨by omega, by omega, by omega⟩
theorem wEs_sm {l : List EnumT} (h : (l.map wE).sum ≤ 33554432) : l.length ≤ 8388608 ∧ ∀ e ∈ l, ESm e := by
 have h1 := sum_len (f := wE) (k := 32) (fun _ => by unfold wE; omega) l
 exact ⟨by omega, fun e he => wE_sm (by have := sum_mem (f := wE) he; omega)⟩
mutual
theorem wM_sm : ∀ {m : MsgT}, wM m ≤ 33554432 → m.Sm
 | .mk nm fields oneofs ma mc msgs enums res names, h => by
  unfold wM wT at h
  unfold MsgT.Sm
  have h1 := sum_len (f := fun t : Txt => 8 + t.length) (k := 8) (fun _ => by omega) names.l
  have h2 := sum_len (f := fun t : Txt => 8 + t.length) (k := 8) (fun _ => by omega) oneofs.l
  have h3 := sum_len (f := wFd) (k := 64) (fun _ => by unfold wFd; omega) fields.l
  have h4 := wEs_sm (l := enums.l) (by omega)
  have h5 := wMs_sm (l := msgs) (by omega)
  exact ⟨by omega, by omega, by omega, by omega, h4.1, h4.2, h5.1, h5.2⟩
theorem wMs_sm : ∀ {l : List MsgT}, wMs l ≤ 33554432 → l.length ≤ 8388608 ∧ MsgT.SmL l
 | [], _ => by unfold MsgT.SmL; exact ⟨by simp, trivial⟩
 | m :: l, h => by
  have hl := sum_len (f := wM) (k := 64) (fun m => by cases m; unfold wM; omega) (m :: l)
  rw [← wMs_eq] at hl
  unfold wMs at h
  have h1 := wM_sm (m := m) (by omega)
  have h2 := wMs_sm (l := l) (by omega)
  unfold wMs at hl
  unfold MsgT.SmL
  exact ⟨by omega, h1, h2.2⟩
end
theorem wF_sm {f : FileT} (h : wF f ≤ 33554432) : FSm f := by
 unfold wF at h
 have h1 := sum_len (f := wI) (k := 16) (fun _ => by unfold wI; omega) f.imps.l
 have h4 := wEs_sm (l := f.enums.l) (by omega)
 have h5 := wMs_sm (l := f.msgs) (by omega)
 exact ⟨by omega, h5.1, h5.2, h4.1, h4.2⟩
theorem wFs_sm {l : List FileT} (h : wFs l ≤ 33554432) : l.length ≤ 8388608 ∧ ∀ f ∈ l, FSm f := by
 unfold wFs at h
 have h1 := sum_len (f := wF) (k := 64) (fun _ => by unfold wF; omega) l
 exact ⟨by omega, fun f hf => wF_sm (by have := sum_mem (f := wF) hf; omega)⟩
/-! ### bytes -/
theorem encF_le : ∀ (f : Nat) (v : Int), (encF f v).length ≤ f + 1
 | 0, v => by simp [encF]
 | f + 1, v => by
  rw [encF]
  split
  ·simp
  ·have := encF_le f (v / 128); simp; omega
theorem enc_le (v : Int) : (enc v).length ≤ 10 := encF_le 9 v
theorem fBytes_le (n : Int) (b : Txt) : (fBytes n b).length ≤ 20 + b.length := by
 have h1 := enc_le (n * 8 + 2)
 have h2 := enc_le (b.length : Int)
 unfold fBytes
 simp only [List.length_append]
 omega
theorem fText_le (n : Int) (b : Txt) : (fText n b).length ≤ 20 + b.length := by
 unfold fText
 split
 ·simp
 ·exact fBytes_le n b
theorem fSign_le (n v : Int) : (fSign n v).length ≤ 20 := by
 have h1 := enc_le (n * 8 + 0)
 have h2 := enc_le (zig v)
 unfold fSign
 split
 ·simp
 ·simp only [List.length_append]; omega
theorem fSmall_le (n v : Int) : (fSmall n v).length ≤ 20 := by
 have h1 := enc_le (n * 8 + 0)
 have h2 := enc_le v
 unfold fSmall
 split
 ·simp
 ·simp only [List.length_append]; omega
theorem fTruth_le (n : Int) (b : Bool) : (fTruth n b).length ≤ 20 := by
 have h1 := enc_le (n * 8 + 0)
 have h2 := enc_le 1
 unfold fTruth
 split
 ·simp only [List.length_append]; omega
 ·simp
theorem flat_le {α : Type} {f : α → Txt} {g : α → Nat} (h : ∀ x, (f x).length ≤ 8 * g x) : ∀ l : List α, (l.flatMap f).length ≤ 8 * (l.map g).sum
 | [] => by simp
 | x :: l => by
  have h1 := flat_le h l
  have h2 := h x
  simp only [List.flatMap_cons, List.length_append, List.map_cons, List.sum_cons]
  omega
theorem fTexts_le (n : Int) (l : List Txt) : (fTexts n l).length ≤ 8 * wT l := flat_le (fun t => by have := fBytes_le n t; omega) l
theorem spans_le (n : Int) (l : List SpanT) : (fRecs n spanB l).length ≤ 64 * l.length := by
 have := flat_le (f := fun x => fBytes n (spanB x)) (g := fun _ => 8) (fun x => by
  have h1 := fBytes_le n (spanB x)
  have h2 := fSign_le 1 x.f
  have h3 := fSign_le 2 x.t
  unfold spanB at h1 ⊢
  simp only [List.length_append] at h1
  omega) l
 have h2 : ∀ l : List SpanT, (l.map fun _ => 8).sum = 8 * l.length := fun l => by
  induction l with
  | nil => rfl
  | cons x l ih => simp only [List.map_cons, List.sum_cons, List.length_cons, ih]; omega
 rw [h2] at this
 unfold fRecs
 omega
theorem enums_le (n : Int) (l : List EnumT) : (fRecs n enumB l).length ≤ 8 * (l.map wE).sum := flat_le (fun e => by
  have h1 := fBytes_le n (enumB e)
  have h2 := fText_le 1 e.nm
  have h3 := flat_le (f := fun x => fBytes 2 (valB x)) (g := fun v : EValT => 16 + v.nm.length) (fun x => by
   have h1 := fBytes_le 2 (valB x)
   have h2 := fText_le 1 x.nm
   have h3 := fSign_le 2 x.num
   unfold valB at h1 ⊢
   simp only [List.length_append] at h1
   omega) e.vals.l
  have h4 := fTruth_le 3 e.ali
  have h5 := spans_le 4 e.res.l
  have h6 := fTexts_le 5 e.names.l
  unfold fRecs at h5
  unfold enumB fRecs at h1 ⊢
  simp only [List.length_append] at h1
  unfold wE
  omega) l
theorem fields_le (n : Int) (l : List FieldT) : (fRecs n fieldB l).length ≤ 8 * (l.map wFd).sum := flat_le (fun f => by
  have h1 := fBytes_le n (fieldB f)
  have h2 := fText_le 1 f.nm
  have h3 := fSign_le 2 f.num
  have h4 := fSmall_le 3 f.card
  have h5 := fSmall_le 4 f.kind
  have h6 := fText_le 5 f.ty
  have h7 := fSmall_le 6 f.key
  have h8 := fSign_le 7 f.oneof
  have h9 := fSmall_le 8 f.packed
  have h10 := fText_le 9 f.js
  unfold fieldB at h1 ⊢
  simp only [List.length_append] at h1
  unfold wFd
  omega) l
mutual
theorem msg_le : ∀ (n : Int) (m : MsgT) (d : Nat), (msgB m d).length + 20 ≤ 8 * wM m
 | n, .mk nm fields oneofs ma mc msgs enums res names, d => by
  unfold msgB wM
  split
  ·simp; omega
  ·have h1 := fText_le 1 nm
   have h2 := fields_le 2 fields.l
   have h3 := fTexts_le 3 oneofs.l
   have h4 := msgs_le msgs (d + 1)
   have h5 := enums_le 5 enums.l
   have h6 := spans_le 6 res.l
   have h7 := fTexts_le 7 names.l
   simp only [List.length_append]
   omega
theorem msgs_le : ∀ (l : List MsgT) (d : Nat), (msgsB l d).length ≤ 8 * wMs l
 | [], d => by unfold msgsB wMs; simp
 | m :: l, d => by
  have h1 := msg_le 4 m d
  have h2 := msgs_le l d
  have h3 := fBytes_le 4 (msgB m d)
  unfold msgsB wMs
  simp only [List.length_append]
  omega
end
end Go.Proofs.YtclcnhfponjdaaaGreatDoor
end
section
namespace Go.Sk
section
variable {X Y : Option Addr → Nat → Nat → Nat → List Value → Prop}
theorem EnumT.In.mono (h : ∀ a k c z xs, X a k c z xs → Y a k c z xs) {e : EnumT} (hi : e.In X) : e.In Y := ⟨h _ _ _ _ _ hi.1, h _ _ _ _ _ hi.2.1, h _ _ _ _ _ hi.2.2⟩
mutual
theorem MsgT.In.mono (h : ∀ a k c z xs, X a k c z xs → Y a k c z xs) : ∀ {m : MsgT}, MsgT.In X m → MsgT.In Y m
 | .mk nm fields oneofs ma mc msgs enums res names, hi => by
  unfold MsgT.In at hi ⊢
  obtain ⟨h1, h2, h3, h4, h5, h6, h7, h8⟩ := hi
  exact ⟨h _ _ _ _ _ h1, h _ _ _ _ _ h2, h _ _ _ _ _ h3, h _ _ _ _ _ h4, fun e he => (h5 e he).mono h, h _ _ _ _ _ h6, h _ _ _ _ _ h7, MsgT.InL.mono h h8⟩
theorem MsgT.InL.mono (h : ∀ a k c z xs, X a k c z xs → Y a k c z xs) : ∀ {l : List MsgT}, MsgT.InL X l → MsgT.InL Y l
 | [], _ => by unfold MsgT.InL; trivial
 | m :: l, hi => by
  unfold MsgT.InL at hi ⊢
  exact ⟨MsgT.In.mono h hi.1, MsgT.InL.mono h hi.2⟩
end
theorem FileT.In.mono (h : ∀ a k c z xs, X a k c z xs → Y a k c z xs) {f : FileT} (hi : f.In X) : f.In Y :=
 ⟨h _ _ _ _ _ hi.imps, h _ _ _ _ _ hi.msgs, fun m hm => MsgT.In.mono h (hi.sub m hm), h _ _ _ _ _ hi.enums, fun e he => (hi.esub e he).mono h⟩
end
end Go.Sk
end
section
namespace Go.Proofs.YtclcnhfponjdaaaGreatDoor
open Go.Sk
set_option maxRecDepth 100000
def lentT : Txt := [108, 101, 110, 116]
def lentEV : EValT := ⟨lentT, 0⟩
def lentSp : SpanT := ⟨-77, -77⟩
def lentF : FieldT := ⟨lentT, 0, 0, 0, [], 0, 0, 0, []⟩
def lentIm : ImpT := ⟨lentT, false⟩
def nilR {α : Type} : Rw α := ⟨none, 0, []⟩
def lentE : EnumT := ⟨lentT, nilR, false, nilR, nilR⟩
def lentM : MsgT := .mk lentT nilR nilR none 0 [] nilR nilR nilR
def rowH {α : Type} (e z : Nat) (f : α → List Value) (x : α) (a : Option Addr) (c : Nat) (l : List α) : HP := Own a c e z (l.length + 5) ((l ++ List.replicate 5 x).flatMap f)
def txH (r : Rw Txt) : HP := Own r.a r.c 9 1 (r.l.length + 2) (tstr (r.l ++ [own2, own2]))
def eRows (e : EnumT) : List HP := [rowH 80 2 EValT.cells lentEV e.vals.a e.vals.c e.vals.l, rowH 196 2 SpanT.cells lentSp e.res.a e.res.c e.res.l, txH e.names]
def barR {α : Type} (r : Rw α) : Rw α := ⟨none, 0, r.l⟩
/-- An enum without its places. -/
def EnumT.er (e : EnumT) : EnumT := ⟨e.nm, barR e.vals, e.ali, barR e.res, barR e.names⟩
mutual
/-- A message without its places. -/
def mEr : MsgT → MsgT
 | .mk nm fields oneofs _ _ msgs enums res names => .mk nm (barR fields) (barR oneofs) none 0 (mErL msgs) ⟨none, 0, enums.l.map EnumT.er⟩ (barR res) (barR names)
def mErL : List MsgT → List MsgT
 | [] => []
 | m :: l => mEr m :: mErL l
end
theorem mErL_map : ∀ l : List MsgT, mErL l = l.map mEr
 | [] => by unfold mErL; rfl
 | m :: l => by unfold mErL; rw [mErL_map l]; rfl
mutual
/-- The rows of a message that is lent. -/
def mRows : MsgT → List HP
 | .mk _ fields oneofs ma mc msgs enums res names => [rowH 240 9 FieldT.cells lentF fields.a fields.c fields.l, rowH 196 2 SpanT.cells lentSp res.a res.c res.l, txH oneofs, txH names,
   rowH 187 7 MsgT.cells lentM ma mc msgs, Bag (mRowsL msgs), rowH 85 5 EnumT.cells lentE enums.a enums.c enums.l, Bag (enums.l.flatMap eRows)]
def mRowsL : List MsgT → List HP
 | [] => []
 | m :: l => mRows m ++ mRowsL l
end
theorem flat_app {α : Type} {f : α → List Value} {l : List α} {x : α} : l.flatMap f ++ f x = (l ++ [x]).flatMap f := by simp
theorem one_flat {α : Type} {f : α → List Value} (h : ∀ x, ∀ u ∈ f x, u.oneCell' = true) (l : List α) : ∀ u ∈ l.flatMap f, u.oneCell' = true := fun u hu => by
 obtain ⟨x, _, hx⟩ := List.mem_flatMap.1 hu
 exact h x u hx
theorem one_ev (x : EValT) : ∀ u ∈ x.cells, u.oneCell' = true := List.all_eq_true.1 (rfl : x.cells.all (·.oneCell') = true)
theorem one_sp (x : SpanT) : ∀ u ∈ x.cells, u.oneCell' = true := List.all_eq_true.1 (rfl : x.cells.all (·.oneCell') = true)
theorem one_fd (x : FieldT) : ∀ u ∈ x.cells, u.oneCell' = true := List.all_eq_true.1 (rfl : x.cells.all (·.oneCell') = true)
theorem one_im (x : ImpT) : ∀ u ∈ x.cells, u.oneCell' = true := List.all_eq_true.1 (rfl : x.cells.all (·.oneCell') = true)
theorem one_en (x : EnumT) : ∀ u ∈ x.cells, u.oneCell' = true := List.all_eq_true.1 (rfl : x.cells.all (·.oneCell') = true)
theorem one_ms (x : MsgT) : ∀ u ∈ x.cells, u.oneCell' = true := List.all_eq_true.1 (rfl : x.cells.all (·.oneCell') = true)
theorem one_fl (x : FileT) : ∀ u ∈ x.cells, u.oneCell' = true := List.all_eq_true.1 (rfl : x.cells.all (·.oneCell') = true)
variable {B : World} {R : List HP} {w : World}
/-- Pieces into a bag. -/
theorem Bag.add {qs ps : List HP} (s : Sat B (qs ++ (Bag ps :: R)) w) : Sat B (Bag (ps ++ qs) :: R) w := by
 refine Bag.close (s.mono fun h hs => ?_)
 have h1 : star ((Bag ps :: R) ++ qs) h := star_comm hs
 obtain ⟨x, y, d, lx, ly, hb, hr⟩ := h1
 have h2 : star (qs ++ R) y := star_comm hr
 rw [List.append_assoc]
 exact star_glue ps d lx ly hb h2
theorem Rd.under {a : Option Addr} {k c sz : Nat} {xs : List Value} (h : Rd B R a k c sz xs) : ∀ H, Rd B (H ++ R) a k c sz xs
 | [] => h
 | _ :: H => Rd.cons (Rd.under h H)
end Go.Proofs.YtclcnhfponjdaaaGreatDoor
end
section
namespace Go.Proofs.YtclcnhfponjdaaaGreatDoor
open Go.Sk
set_option maxRecDepth 100000
/-- What bytes are given up by. -/
abbrev wrv (p : Int) : Value := .iface 95 (.agg #[.int .i64 p])
/-- A reader that has no error. -/
abbrev rdo (pr : Nat) (a : Option Addr) (n c p to : Nat) : HP := rds pr a n c ⟨p, to, 0, 0⟩
theorem varint_eq {bs : Txt} {p to k : Nat} {v : Int} (h : vr ((bs.drop p).take (to - p)) 0 0 = .ok v k) : RS.varint bs ⟨p, to, 0, 0⟩ = (v, ⟨p + k, to, 0, 0⟩) := by simp [RS.varint, RS.seg, h]
theorem shortV_eq {bs : Txt} {p to k : Nat} {v : Int} (h : vr ((bs.drop p).take (to - p)) 0 0 = .ok v k) : shortV bs p to = if k = (enc v).length then some (v, p + k) else none := by simp [shortV, h]
attribute [local irreducible] Cs Own Ex Pu Yld RT LJ QJ AtQ CT Rd QSp Sp FinQ Then LoopQ CutQ DT TakeQ EffQ
variable {B : World} {R : List HP} {pd pr n c p to : Nat} {a : Option Addr} {at_ deep : Int} {bs : Txt}
theorem need_fn {b : Bool} (hD : Rd B R (some ⟨pd, 0, none⟩) 1 1 3 [ptr pr, .int .i64 at_, .int .i64 deep]) :
  SpP B Tryz.prog 145 [ptr pd, .bool b] R [] (fun _ H' => b = true ∧ H' = []) (fun v H' => b = false ∧ v = wrv at_ ∧ H' = []) := by
 refine SpP.body Tryz.func145 rfl Tryz.ntmps145 (by simp) ?_
 simp only [argE, List.cons_append, List.nil_append, Nat.zero_add, Nat.reduceAdd]
 cases b with
 | true =>
  try refine gL ?_
  exact AtQ.ofFinN (AtQ.fin0 Tryz.results145 (H' := []) ⟨rfl, rfl⟩ (fun w h => h) _ (.inl rfl))
 | false =>
  try refine gL ?_
  refine RT.ldB T rfl (rD (hD)) rfl rfl rfl rfl ?_
  try refine gL ?_
  refine RT.mkI rfl Tryz.underlying95 (by intro b h; cases h) rfl rfl ?_
  refine RT.panic rfl rfl ?_
  ((repeat refine nx ?_); exact AtQ.finP (H' := []) ⟨rfl, rfl, rfl⟩ dR_)
theorem need_t : Sp B Tryz.prog 145 [ptr pd, .bool true] R [] (fun v H' => v = .tuple #[] ∧ H' = []) := by
 refine Sp.body Tryz.func145 rfl Tryz.ntmps145 (by simp) ?_
 simp only [argE, List.cons_append, List.nil_append, Nat.zero_add, Nat.reduceAdd]
 try refine gL ?_
 exact AtQ.fin0 Tryz.results145 (H' := []) ⟨rfl, rfl⟩ (fun w h => h) _ (.inl rfl)
theorem need_f (hD : Rd B R (some ⟨pd, 0, none⟩) 1 1 3 [ptr pr, .int .i64 at_, .int .i64 deep]) : SpP B Tryz.prog 145 [ptr pd, .bool false] R [] (fun _ _ => False) (fun v H' => v = wrv at_ ∧ H' = []) := fun w hS =>
 (need_fn (b := false) hD w hS).mono fun e w' h => h.imp (fun ⟨_, _, _, h, _⟩ => absurd h.1 (by decide)) (fun ⟨v, H', h1, h2, h3⟩ => ⟨v, H', h1, h2.2, h3⟩)
set_option maxHeartbeats 1000000 in
theorem ivarint_fn (hD : Rd B R (some ⟨pd, 0, none⟩) 1 1 3 [ptr pr, .int .i64 at_, .int .i64 deep]) (hR : Rd B R a n c 1 (ints .u8 bs)) (hb : Bytes bs) (h1 : p ≤ to) (h2 : to ≤ n) (h3 : n ≤ 16777216) :
  SpP B Tryz.prog 181 [ptr pd] R [rdo pr a n c p to] (fun v H' => ∃ x q, contL .zl bs p to = some (x, q, q) ∧ V64 x ∧ q ≤ to ∧ p < q ∧ v = .int .u64 x ∧ H' = [rdo pr a n c q to]) (fun v H' => contL .zl bs p to = none ∧ v = wrv at_ ∧ H' = []) := by
 have hok : RS.ok n ⟨p, to, 0, 0⟩ := ⟨h1, h2, Nat.zero_le _⟩
 have hsp := RS.varint_spec (s := ⟨p, to, 0, 0⟩) hok hR.lenI hb
 refine SpP.body Tryz.func181 rfl Tryz.ntmps181 (by simp) ?_
 simp only [argE, List.cons_append, List.nil_append, Nat.zero_add, Nat.reduceAdd]
 try refine gL ?_
 refine RT.ldB T rfl (rD (hD)) rfl rfl rfl rfl ?_
 (refine RT.call T rfl fR_ (at_fn) rfl rfl rfl ?_; rintro _ _ ⟨rfl, rfl⟩; try simp only [List.cons_append, List.nil_append])
 try refine gL ?_
 refine RT.ldB T rfl (rD (hD)) rfl rfl rfl rfl ?_
 (refine RT.call T rfl fR_ (varint_s hR hb hok (by omega)) rfl rfl rfl ?_; rintro _ _ ⟨rfl, rfl⟩; try simp only [List.cons_append, List.nil_append])
 cases hv : vr ((bs.drop p).take (to - p)) 0 0 with
 | ok v k =>
  rw [varint_eq hv] at hsp ⊢
  obtain ⟨⟨r1, _, _⟩, _, r3, r4, _, r5⟩ := hsp
  simp only at r1 r3 r4 r5
  have r6 := (r5 trivial).2
  have hsv := shortV_eq hv
  have henc := r4
  obtain ⟨v0, v1⟩ := r4
  try refine gL ?_
  refine RT.ldB T rfl (rD (hD)) rfl rfl rfl rfl ?_
  (refine RT.call T rfl fR_ (err_fn) rfl rfl rfl ?_; rintro _ _ ⟨rfl, rfl⟩; try simp only [List.cons_append, List.nil_append])
  repeat' (first|refine gL ?_|(refine gv ?_;(refine⟨fun hc=>?_,fun hc=>?_⟩<;>first|(exfalso;omega)|skip))|fail)
  ·refine RT.ldB T rfl (rD (hD)) rfl rfl rfl rfl ?_
   (refine RT.call T rfl fR_ (at_fn) rfl rfl rfl ?_; rintro _ _ ⟨rfl, rfl⟩; try simp only [List.cons_append, List.nil_append])
   repeat' (first|refine gL ?_|(refine gv ?_;refine gk ?_)|fail)
   (refine RT.call T rfl fR_ (size_fn henc) rfl rfl rfl ?_; rintro _ _ ⟨rfl, rfl⟩; try simp only [List.cons_append, List.nil_append])
   repeat' (first|refine gL ?_|(refine gv ?_;(refine⟨fun hc=>?_,fun hc=>?_⟩<;>first|(exfalso;omega)|skip))|fail)
   ·(refine RT.callP T rfl fR_ (need_f (rD (hD))) rfl rfl rfl (fun v H1 hp => ?_) (fun v H1 hp => ?_))
    ·obtain ⟨rfl, rfl⟩ := hp
     ((repeat refine nx ?_); exact AtQ.finP (H' := []) ⟨by simp only [contL, hsv]; rw [if_pos (by omega)]; simp [hc], rfl, rfl⟩ dR_)
    ·exact hp.elim
   ·(refine RT.call T rfl fR_ (need_t) rfl rfl rfl ?_; rintro _ _ ⟨rfl, rfl⟩; try simp only [List.cons_append, List.nil_append])
    try refine gL ?_
    exact AtQ.ofFin (AtQ.fin1 (H' := [rdo pr a n c (p + k) to]) Tryz.results181 rfl ⟨v, p + k, by simp only [contL, hsv]; rw [if_pos (by omega)]; simp [hc], henc, r1, r6, rfl, rfl⟩ (fun w h => h))
   ·(refine RT.callP T rfl fR_ (need_f (rD (hD))) rfl rfl rfl (fun v H1 hp => ?_) (fun v H1 hp => ?_))
    ·obtain ⟨rfl, rfl⟩ := hp
     ((repeat refine nx ?_); exact AtQ.finP (H' := []) ⟨by simp only [contL, hsv]; rw [if_neg (by omega)], rfl, rfl⟩ dR_)
    ·exact hp.elim
 | short =>
  have hsv : RS.varint bs ⟨p, to, 0, 0⟩ = (0, ⟨p, to, 10, p⟩) := by simp [RS.varint, RS.seg, hv]
  have hsh : shortV bs p to = none := by simp [shortV, hv]
  rw [hsv]
  try refine gL ?_
  refine RT.ldB T rfl (rD (hD)) rfl rfl rfl rfl ?_
  (refine RT.call T rfl fR_ (err_fn) rfl rfl rfl ?_; rintro _ _ ⟨rfl, rfl⟩; try simp only [List.cons_append, List.nil_append])
  repeat' (first|refine gL ?_|(refine gv ?_;(refine⟨fun hc=>?_,fun hc=>?_⟩<;>first|(exfalso;omega)|skip))|fail)
  (refine RT.callP T rfl fR_ (need_f (rD (hD))) rfl rfl rfl (fun v H1 hp => ?_) (fun v H1 hp => ?_))
  ·obtain ⟨rfl, rfl⟩ := hp
   ((repeat refine nx ?_); exact AtQ.finP (H' := []) ⟨by simp only [contL, hsh], rfl, rfl⟩ dR_)
  ·exact hp.elim
 | long =>
  have hsv : RS.varint bs ⟨p, to, 0, 0⟩ = (0, ⟨p, to, 11, p⟩) := by simp [RS.varint, RS.seg, hv]
  have hsh : shortV bs p to = none := by simp [shortV, hv]
  rw [hsv]
  try refine gL ?_
  refine RT.ldB T rfl (rD (hD)) rfl rfl rfl rfl ?_
  (refine RT.call T rfl fR_ (err_fn) rfl rfl rfl ?_; rintro _ _ ⟨rfl, rfl⟩; try simp only [List.cons_append, List.nil_append])
  repeat' (first|refine gL ?_|(refine gv ?_;(refine⟨fun hc=>?_,fun hc=>?_⟩<;>first|(exfalso;omega)|skip))|fail)
  (refine RT.callP T rfl fR_ (need_f (rD (hD))) rfl rfl rfl (fun v H1 hp => ?_) (fun v H1 hp => ?_))
  ·obtain ⟨rfl, rfl⟩ := hp
   ((repeat refine nx ?_); exact AtQ.finP (H' := []) ⟨by simp only [contL, hsh], rfl, rfl⟩ dR_)
  ·exact hp.elim
theorem left_o (h1 : p ≤ to) (h2 : to ≤ 16777216) : Sp B Tryz.prog 72 [ptr pr] R [rdo pr a n c p to] (fun v H' => v = .int .i64 ((to : Int) - p) ∧ H' = [rdo pr a n c p to]) :=
 Sp.mono (left_fn (by simp only; omega) (by simp only; omega) (by simp only; omega)) (by rintro v H' ⟨rfl, rfl⟩; exact ⟨by simp, rfl⟩)
theorem left_m {q m : Nat} (h2 : q + m ≤ 16777216) : Sp B Tryz.prog 72 [ptr pr] R [rdo pr a n c q (q + m)] (fun v H' => v = .int .i64 m ∧ H' = [rdo pr a n c q (q + m)]) :=
 Sp.mono (left_o (by omega) h2) (by rintro v H' ⟨rfl, rfl⟩; exact ⟨by rw [show ((q + m : Nat) : Int) - q = m by omega], rfl⟩)
theorem part_ok {k : Nat} {v : Int} (h : vr ((bs.drop p).take (to - p)) 0 0 = .ok v k) (h0 : v ≤ (to : Int) - (p + k : Nat)) : RS.part bs ⟨p, to, 0, 0⟩ = (⟨p + k, p + k + v.toNat, 0, 0⟩, ⟨p + k + v.toNat, to, 0, 0⟩) := by
 unfold RS.part RS.span
 simp only [varint_eq h, if_true]
 rw [if_neg (by omega)]
theorem part_no {k : Nat} {v : Int} (h : vr ((bs.drop p).take (to - p)) 0 0 = .ok v k) (h0 : ¬ v ≤ (to : Int) - (p + k : Nat)) : (RS.part bs ⟨p, to, 0, 0⟩).2.e = 10 := by
 unfold RS.part RS.span
 simp only [varint_eq h, if_true]
 rw [if_pos (by omega)]
theorem part_er (h : (RS.varint bs ⟨p, to, 0, 0⟩).2.e ≠ 0) : (RS.part bs ⟨p, to, 0, 0⟩).2.e ≠ 0 := by
 unfold RS.part RS.span
 rw [if_neg h]
 exact h
set_option maxHeartbeats 1000000 in
theorem ipart_fn (hD : Rd B R (some ⟨pd, 0, none⟩) 1 1 3 [ptr pr, .int .i64 at_, .int .i64 deep]) (hR : Rd B R a n c 1 (ints .u8 bs)) (hb : Bytes bs) (h1 : p ≤ to) (h2 : to ≤ n) (h3 : n ≤ 16777216) :
  SpP B Tryz.prog 195 [ptr pd] R [rdo pr a n c p to] (fun u H' => ∃ p' m q t, contL .rs bs p to = some (m, q, t) ∧ t ≤ to ∧ q ≤ t ∧ p < q ∧ u = ptr p' ∧ H' = [rdo p' a n c q t, rdo pr a n c t to]) (fun v H' => contL .rs bs p to = none ∧ v = wrv at_ ∧ H' = []) := by
 have hok : RS.ok n ⟨p, to, 0, 0⟩ := ⟨h1, h2, Nat.zero_le _⟩
 have hsp := RS.varint_spec (s := ⟨p, to, 0, 0⟩) hok hR.lenI hb
 refine SpP.body Tryz.func195 rfl Tryz.ntmps195 (by simp) ?_
 simp only [argE, List.cons_append, List.nil_append, Nat.zero_add, Nat.reduceAdd]
 try refine gL ?_
 refine RT.ldB T rfl (rD (hD)) rfl rfl rfl rfl ?_
 (refine RT.call T rfl fR_ (at_fn) rfl rfl rfl ?_; rintro _ _ ⟨rfl, rfl⟩; try simp only [List.cons_append, List.nil_append])
 try refine gL ?_
 refine RT.ldB T rfl (rD (hD)) rfl rfl rfl rfl ?_
 refine RT.call T rfl fR_ (part_fn hR hb hok (by omega)) rfl rfl rfl ?_
 rintro _ _ ⟨p', rfl, rfl⟩
 simp only [List.cons_append, List.nil_append]
 by_cases hg : ∃ v k, vr ((bs.drop p).take (to - p)) 0 0 = .ok v k ∧ v ≤ (to : Int) - (p + k : Nat)
 ·obtain ⟨v, k, hv, hle⟩ := hg
  rw [varint_eq hv] at hsp
  rw [part_ok hv hle]
  obtain ⟨⟨r1, _, _⟩, _, r3, r4, _, r5⟩ := hsp
  simp only at r1 r3 r4 r5
  have r6 := (r5 trivial).2
  have hsv := shortV_eq hv
  have henc := r4
  obtain ⟨v0, v1⟩ := r4
  obtain ⟨m, rfl⟩ := Int.eq_ofNat_of_zero_le v0
  simp only [Int.toNat_natCast]
  try refine gL ?_
  refine RT.ldB T rfl (rD (hD)) rfl rfl rfl rfl ?_
  (refine RT.call T rfl fR_ (err_fn) rfl rfl rfl ?_; rintro _ _ ⟨rfl, rfl⟩; try simp only [List.cons_append, List.nil_append])
  repeat' (first|refine gL ?_|(refine gv ?_;(refine⟨fun hc=>?_,fun hc=>?_⟩<;>first|(exfalso;omega)|skip))|fail)
  refine RT.ldB T rfl (rD (hD)) rfl rfl rfl rfl ?_
  (refine RT.call T rfl fR_ (at_fn) rfl rfl rfl ?_; rintro _ _ ⟨rfl, rfl⟩; try simp only [List.cons_append, List.nil_append])
  repeat' (first|refine gL ?_|(refine gv ?_;refine gk ?_)|fail)
  (refine RT.call T rfl fR_ (left_m (pr := p') (q := p + k) (m := m) (by omega)) rfl rfl rfl ?_; rintro _ _ ⟨rfl, rfl⟩; try simp only [List.cons_append, List.nil_append])
  repeat' (first|refine gL ?_|(refine gv ?_;refine gk ?_)|fail)
  have hel := (enc_len henc).2.1
  (refine RT.call T rfl fR_ (size_fn henc) rfl rfl rfl ?_; rintro _ _ ⟨rfl, rfl⟩; try simp only [List.cons_append, List.nil_append])
  try refine gL ?_
  (refine RT.call T rfl fR_ (left_m (pr := p') (q := p + k) (m := m) (by omega)) rfl rfl rfl ?_; rintro _ _ ⟨rfl, rfl⟩; try simp only [List.cons_append, List.nil_append])
  repeat' (first|refine gL ?_|(refine gv ?_;first|(refine⟨fun hc=>?_,fun hc=>?_⟩<;>first|(exfalso;omega)|skip)|refine gk ?_)|fail)
  ·(refine RT.call T rfl fR_ (need_t) rfl rfl rfl ?_; rintro _ _ ⟨rfl, rfl⟩; try simp only [List.cons_append, List.nil_append])
   try refine gL ?_
   exact AtQ.ofFin (AtQ.fin1 (H' := [rdo p' a n c (p + k) (p + k + m), rdo pr a n c (p + k + m) to]) Tryz.results195 rfl ⟨p', (m : Int), p + k, p + k + m, by simp only [contL, hsv]; rw [if_pos (by omega)]; simp only [Int.toNat_natCast]; rw [if_pos (by omega)], by omega, by omega, r6, rfl, rfl⟩ (fun w h => h))
  ·(refine RT.callP T rfl fR_ (need_f (rD (hD))) rfl rfl rfl (fun v H1 hp => ?_) (fun v H1 hp => ?_))
   ·obtain ⟨rfl, rfl⟩ := hp
    ((repeat refine nx ?_); exact AtQ.finP (H' := []) ⟨by simp only [contL, hsv]; rw [if_neg (by omega)], rfl, rfl⟩ dR_)
   ·exact hp.elim
 ·have he : (RS.part bs ⟨p, to, 0, 0⟩).2.e ≠ 0 ∧ contL .rs bs p to = none := by
   cases hv : vr ((bs.drop p).take (to - p)) 0 0 with
   | ok v k =>
    have h0 : ¬ v ≤ (to : Int) - (p + k : Nat) := fun h => hg ⟨v, k, hv, h⟩
    refine ⟨by rw [part_no hv h0]; decide, ?_⟩
    simp only [contL, shortV_eq hv]
    by_cases hk : k = (enc v).length
    ·rw [if_pos hk]
     simp only
     rw [if_neg h0]
    ·rw [if_neg hk]
   | short => exact ⟨part_er (by simp [RS.varint, RS.seg, hv]), by simp only [contL, shortV, hv]⟩
   | long => exact ⟨part_er (by simp [RS.varint, RS.seg, hv]), by simp only [contL, shortV, hv]⟩
  obtain ⟨he, hcn⟩ := he
  generalize RS.part bs ⟨p, to, 0, 0⟩ = sp at he ⊢
  obtain ⟨s1, s2⟩ := sp
  simp only at he ⊢
  try refine gL ?_
  refine RT.ldB T rfl (rD (hD)) rfl rfl rfl rfl ?_
  (refine RT.call T rfl fR_ (err_fn) rfl rfl rfl ?_; rintro _ _ ⟨rfl, rfl⟩; try simp only [List.cons_append, List.nil_append])
  repeat' (first|refine gL ?_|(refine gv ?_;(refine⟨fun hc=>?_,fun hc=>?_⟩<;>first|(exfalso;omega)|skip))|fail)
  (refine RT.callP T rfl fR_ (need_f (rD (hD))) rfl rfl rfl (fun v H1 hp => ?_) (fun v H1 hp => ?_))
  ·obtain ⟨rfl, rfl⟩ := hp
   ((repeat refine nx ?_); exact AtQ.finP (H' := []) ⟨hcn, rfl, rfl⟩ dR_)
  ·exact hp.elim
theorem bytes_ok {k : Nat} {v : Int} (h : vr ((bs.drop p).take (to - p)) 0 0 = .ok v k) (h0 : v ≤ (to : Int) - (p + k : Nat)) : RS.bytes bs ⟨p, to, 0, 0⟩ = ((bs.drop (p + k)).take v.toNat, ⟨p + k + v.toNat, to, 0, 0⟩) := by
 unfold RS.bytes RS.span
 simp only [varint_eq h, if_true]
 rw [if_neg (by omega)]
 simp only [Nat.add_sub_cancel_left]
theorem bytes_no {k : Nat} {v : Int} (h : vr ((bs.drop p).take (to - p)) 0 0 = .ok v k) (h0 : ¬ v ≤ (to : Int) - (p + k : Nat)) : (RS.bytes bs ⟨p, to, 0, 0⟩).2.e = 10 ∧ (RS.bytes bs ⟨p, to, 0, 0⟩).1 = [] := by
 unfold RS.bytes RS.span
 simp only [varint_eq h, if_true]
 rw [if_pos (by omega)]
 exact ⟨rfl, rfl⟩
theorem bytes_er (h : (RS.varint bs ⟨p, to, 0, 0⟩).2.e ≠ 0) : (RS.bytes bs ⟨p, to, 0, 0⟩).2.e ≠ 0 ∧ (RS.bytes bs ⟨p, to, 0, 0⟩).1 = [] := by
 unfold RS.bytes RS.span
 rw [if_neg h]
 exact ⟨h, rfl⟩
set_option maxHeartbeats 2000000 in
theorem itext_fn (hT : Lib.Utf8Tabs 0 1 B) (hD : Rd B R (some ⟨pd, 0, none⟩) 1 1 3 [ptr pr, .int .i64 at_, .int .i64 deep]) (hR : Rd B R a n c 1 (ints .u8 bs)) (hb : Bytes bs) (h1 : p ≤ to) (h2 : to ≤ n) (h3 : n ≤ 16777216) :
  SpP B Tryz.prog 185 [ptr pd] R [rdo pr a n c p to] (fun u H' => ∃ m q t, contL .ts bs p to = some (m, q, t) ∧ t ≤ to ∧ q ≤ t ∧ p < q ∧ u = vS ((bs.drop q).take (t - q)) ∧ H' = [rdo pr a n c t to]) (fun v H' => contL .ts bs p to = none ∧ v = wrv at_ ∧ H' = []) := by
 have hok : RS.ok n ⟨p, to, 0, 0⟩ := ⟨h1, h2, Nat.zero_le _⟩
 have hsp := RS.varint_spec (s := ⟨p, to, 0, 0⟩) hok hR.lenI hb
 have hbl := hR.lenI
 refine SpP.body Tryz.func185 rfl Tryz.ntmps185 (by simp) ?_
 simp only [argE, List.cons_append, List.nil_append, Nat.zero_add, Nat.reduceAdd]
 try refine gL ?_
 refine RT.ldB T rfl (rD (hD)) rfl rfl rfl rfl ?_
 (refine RT.call T rfl fR_ (at_fn) rfl rfl rfl ?_; rintro _ _ ⟨rfl, rfl⟩; try simp only [List.cons_append, List.nil_append])
 try refine gL ?_
 refine RT.ldB T rfl (rD (hD)) rfl rfl rfl rfl ?_
 refine RT.call T rfl fR_ (rbytes_fn hR hb hok (by omega)) rfl rfl rfl ?_
 rintro _ _ ⟨a', c', rfl, rfl⟩
 simp only [List.cons_append, List.nil_append]
 by_cases hg : ∃ v k, vr ((bs.drop p).take (to - p)) 0 0 = .ok v k ∧ v ≤ (to : Int) - (p + k : Nat)
 ·obtain ⟨v, k, hv, hle⟩ := hg
  rw [varint_eq hv] at hsp
  rw [bytes_ok hv hle]
  obtain ⟨⟨r1, _, _⟩, _, r3, r4, _, r5⟩ := hsp
  simp only at r1 r3 r4 r5
  have r6 := (r5 trivial).2
  have hsv := shortV_eq hv
  have henc := r4
  obtain ⟨v0, v1⟩ := r4
  obtain ⟨m, rfl⟩ := Int.eq_ofNat_of_zero_le v0
  have hel := (enc_len henc).2.1
  simp only [Int.toNat_natCast]
  have htl : ((bs.drop (p + k)).take m).length = m := by rw [List.length_take, List.length_drop]; omega
  have htb : Byt ((bs.drop (p + k)).take m) := (hb.drop _).take _
  refine RT.fact (p := m ≤ c') (fun w h => by have := (Own.facts h .h).2.1; omega) fun hc4 => ?_
  rw [htl]
  try refine gL ?_
  refine RT.ldB T rfl (rD (hD)) rfl rfl rfl rfl ?_
  (refine RT.call T rfl fR_ (err_fn) rfl rfl rfl ?_; rintro _ _ ⟨rfl, rfl⟩; try simp only [List.cons_append, List.nil_append])
  repeat' (first|refine gL ?_|(refine gv ?_;(refine⟨fun hc=>?_,fun hc=>?_⟩<;>first|(exfalso;omega)|skip))|fail)
  refine RT.ldB T rfl (rD (hD)) rfl rfl rfl rfl ?_
  (refine RT.call T rfl fR_ (at_fn) rfl rfl rfl ?_; rintro _ _ ⟨rfl, rfl⟩; try simp only [List.cons_append, List.nil_append])
  repeat' (first|refine gL ?_|(refine gv ?_;refine gk ?_)|fail)
  (refine RT.call T rfl fR_ (size_fn henc) rfl rfl rfl ?_; rintro _ _ ⟨rfl, rfl⟩; try simp only [List.cons_append, List.nil_append])
  repeat' (first|refine gL ?_|(refine gv ?_;first|(refine⟨fun hc=>?_,fun hc=>?_⟩<;>first|(exfalso;omega)|skip)|refine gk ?_)|fail)
  ·(refine RT.qcall T rfl (QSp.of fR_ (goodB_fn (l := (bs.drop (p + k)).take m) hT (Own.rdI sE_ htl hc4) htb (by omega))) rfl rfl rfl ?_)
   repeat' (first|refine gL ?_|(refine gv ?_;(refine⟨fun hc=>?_,fun hc=>?_⟩<;>first|(exfalso;omega)|skip))|fail)
   ·(refine RT.call T rfl fR_ (need_t) rfl rfl rfl ?_; rintro _ _ ⟨rfl, rfl⟩; try simp only [List.cons_append, List.nil_append])
    try refine gL ?_
    refine RT.convBS T rfl (Own.rdI sE_ htl hc4) htb Tryz.underlying23 Tryz.underlying5 rfl rfl rfl ?_
    try refine gL ?_
    exact AtQ.ofFin (AtQ.fin1 (H' := [rdo pr a n c (p + k + m) to]) Tryz.results185 rfl ⟨(m : Int), p + k, p + k + m, by simp only [contL, hsv]; rw [if_pos (by omega)]; simp only [Int.toNat_natCast]; rw [if_pos ⟨by omega, by omega⟩], by omega, by omega, r6, by rw [Nat.add_sub_cancel_left], rfl⟩ (fun w h => h.frd (Ps := [_]) (Qs := [_]) fR_))
   ·(refine RT.callP T rfl fR_ (need_f (rD (hD))) rfl rfl rfl (fun v H1 hp => ?_) (fun v H1 hp => ?_))
    ·obtain ⟨rfl, rfl⟩ := hp
     ((repeat refine nx ?_); exact AtQ.finP (H' := []) ⟨by simp only [contL, hsv]; rw [if_pos (by omega)]; simp only [Int.toNat_natCast]; rw [if_neg (fun h => absurd h.2 (by omega))], rfl, rfl⟩ dR_)
    ·exact hp.elim
  ·(refine RT.callP T rfl fR_ (need_f (rD (hD))) rfl rfl rfl (fun v H1 hp => ?_) (fun v H1 hp => ?_))
   ·obtain ⟨rfl, rfl⟩ := hp
    ((repeat refine nx ?_); exact AtQ.finP (H' := []) ⟨by simp only [contL, hsv]; rw [if_neg (by omega)], rfl, rfl⟩ dR_)
   ·exact hp.elim
 ·have he : (RS.bytes bs ⟨p, to, 0, 0⟩).2.e ≠ 0 ∧ contL .ts bs p to = none := by
   cases hv : vr ((bs.drop p).take (to - p)) 0 0 with
   | ok v k =>
    have h0 : ¬ v ≤ (to : Int) - (p + k : Nat) := fun h => hg ⟨v, k, hv, h⟩
    refine ⟨by rw [(bytes_no hv h0).1]; decide, ?_⟩
    simp only [contL, shortV_eq hv]
    by_cases hk : k = (enc v).length
    ·rw [if_pos hk]
     simp only
     rw [if_neg (fun h => h0 h.1)]
    ·rw [if_neg hk]
   | short => exact ⟨(bytes_er (by simp [RS.varint, RS.seg, hv])).1, by simp only [contL, shortV, hv]⟩
   | long => exact ⟨(bytes_er (by simp [RS.varint, RS.seg, hv])).1, by simp only [contL, shortV, hv]⟩
  obtain ⟨he, hcn⟩ := he
  generalize RS.bytes bs ⟨p, to, 0, 0⟩ = sp at he ⊢
  obtain ⟨l1, s2⟩ := sp
  simp only at he ⊢
  try refine gL ?_
  refine RT.ldB T rfl (rD (hD)) rfl rfl rfl rfl ?_
  (refine RT.call T rfl fR_ (err_fn) rfl rfl rfl ?_; rintro _ _ ⟨rfl, rfl⟩; try simp only [List.cons_append, List.nil_append])
  repeat' (first|refine gL ?_|(refine gv ?_;(refine⟨fun hc=>?_,fun hc=>?_⟩<;>first|(exfalso;omega)|skip))|fail)
  (refine RT.callP T rfl fR_ (need_f (rD (hD))) rfl rfl rfl (fun v H1 hp => ?_) (fun v H1 hp => ?_))
  ·obtain ⟨rfl, rfl⟩ := hp
   ((repeat refine nx ?_); exact AtQ.finP (H' := []) ⟨hcn, rfl, rfl⟩ dR_)
  ·exact hp.elim
end Go.Proofs.YtclcnhfponjdaaaGreatDoor
end
section
namespace Go.Proofs.YtclcnhfponjdaaaGreatDoor
open Go.Sk
set_option maxRecDepth 100000
attribute [local irreducible] Cs Own Ex Pu Yld RT LJ QJ AtQ CT Rd QSp Sp FinQ Then LoopQ CutQ DT TakeQ EffQ
attribute [local irreducible] Wr
variable {B : World} {R : List HP}
theorem zigzag_fn {n : Int} (hn : I64 n) : Sp B Tryz.prog 178 [.int .i64 n] R [] (fun u H' => u = .int .u64 (zig n) ∧ H' = []) := by
 have hn' := hn
 obtain ⟨n0, n1⟩ := hn'
 refine Sp.body Tryz.func178 rfl Tryz.ntmps178 (by simp) ?_
 simp only [argE, List.cons_append, List.nil_append, Nat.zero_add, Nat.reduceAdd]
 try refine gL ?_
 refine RT.ar rfl rfl (y_shl (r := IntKind.i64.wrap (n * 2)) rfl rfl (by omega) (by rw [shl1])) rfl rfl ?_
 repeat' (first|refine gL ?_|(refine gv ?_;refine num_m fun r hr=>?_)|fail)
 have hr2 : r = (n * 2) % 18446744073709551616 := by rw [← hr, IntKind.wrap_i64]; omega
 clear hr
 rename Int => x
 by_cases h : 0 ≤ n
 ·refine RT.shr rfl rfl (by omega) (r := 0) (by rw [shr63 hn, if_pos h]) rfl rfl ?_
  repeat' (first|refine gL ?_|(refine gv ?_;refine gk ?_)|fail)
  refine RT.ar rfl rfl (y_xor rfl rfl (xor0 ⟨by omega, by omega⟩)) rfl rfl ?_
  try refine gL ?_
  refine AtQ.f1 Tryz.results178 rfl ?_ (fun _ h => h)
  rw [show zig n = x by unfold zig; rw [if_pos h]; omega]
 ·refine RT.shr rfl rfl (by omega) (r := -1) (by rw [shr63 hn, if_neg h]) rfl rfl ?_
  repeat' (first|refine gL ?_|(refine gv ?_;refine num_m fun r hr=>?_)|fail)
  have hr3 : r = 18446744073709551615 := by omega
  subst hr3
  refine RT.ar rfl rfl (y_xor rfl rfl (xorm ⟨by omega, by omega⟩)) rfl rfl ?_
  try refine gL ?_
  refine AtQ.f1 Tryz.results178 rfl ?_ (fun _ h => h)
  rw [show zig n = 18446744073709551615 - x by unfold zig; rw [if_neg h]; omega]
theorem unzig_fn {v : Int} (hv : V64 v) : Sp B Tryz.prog 180 [.int .u64 v] R [] (fun u H' => u = .int .i64 (unzig v) ∧ H' = []) := by
 have hv' := hv
 obtain ⟨v0, v1⟩ := hv'
 refine Sp.body Tryz.func180 rfl Tryz.ntmps180 (by simp) ?_
 simp only [argE, List.cons_append, List.nil_append, Nat.zero_add, Nat.reduceAdd]
 try refine gL ?_
 refine RT.shr rfl rfl (by omega) shr1 rfl rfl ?_
 repeat' (first|refine gL ?_|(refine gv ?_;refine gk ?_)|fail)
 refine RT.ar rfl rfl (y_and rfl rfl (and1 hv)) rfl rfl ?_
 repeat' (first|refine gL ?_|(refine gv ?_;refine gk ?_)|fail)
 by_cases h : v % 2 = 0
 ·refine RT.neg rfl (r := 0) (by rw [h]; rfl) rfl rfl ?_
  skip
  refine RT.ar rfl rfl (y_xor rfl rfl (xor0i (by omega) (by omega))) rfl rfl ?_
  try refine gL ?_
  refine AtQ.f1 Tryz.results180 rfl ?_ (fun _ h => h)
  rw [show unzig v = v / 2 by unfold unzig; rw [if_pos h]]
 ·refine RT.neg rfl (r := -1) (by rw [show v % 2 = 1 by omega]; rfl) rfl rfl ?_
  skip
  refine RT.ar rfl rfl (y_xor rfl rfl (xormi (by omega) (by omega))) rfl rfl ?_
  try refine gL ?_
  refine AtQ.f1 Tryz.results180 rfl ?_ (fun _ h => h)
  rw [show unzig v = -(v / 2) - 1 by unfold unzig; rw [if_neg h]]
end Go.Proofs.YtclcnhfponjdaaaGreatDoor
end
section
namespace Go.Proofs.YtclcnhfponjdaaaGreatDoor
open Go.Sk
set_option maxRecDepth 100000
theorem cont_none {bs : Txt} {p to : Nat} (h : contL .zl bs p to = none) : contL .z bs p to = none ∧ contL .n bs p to = none ∧ contL .b bs p to = none := by
 unfold contL at *
 cases hs : shortV bs p to with
 | none => exact ⟨rfl, rfl, rfl⟩
 | some nq =>
  obtain ⟨m, q⟩ := nq
  rw [hs] at h
  simp only at h
  have hm : m = 0 := by
   by_cases h0 : m = 0
   ·exact h0
   ·rw [if_pos h0] at h; cases h
  subst hm
  exact ⟨rfl, rfl, rfl⟩
theorem cont_some {bs : Txt} {p to q : Nat} {m : Int} (h : contL .zl bs p to = some (m, q, q)) : m ≠ 0 ∧ contL .z bs p to = (if unzig m ≠ 0 ∧ -2147483648 ≤ unzig m ∧ unzig m ≤ 2147483647 then some (m, q, q) else none) ∧ contL .n bs p to = (if m ≠ 0 ∧ m ≤ 255 then some (m, q, q) else none) ∧ contL .b bs p to = (if m = 1 then some (m, q, q) else none) := by
 unfold contL at *
 cases hs : shortV bs p to with
 | none => rw [hs] at h; cases h
 | some nq =>
  obtain ⟨m', q'⟩ := nq
  rw [hs] at h
  simp only at h
  by_cases h0 : m' ≠ 0
  ·rw [if_pos h0] at h
   cases h
   exact ⟨h0, rfl, rfl, rfl⟩
  ·rw [if_neg h0] at h
   cases h
theorem unzig_ne {m : Int} (h0 : 0 ≤ m) (h : m ≠ 0) : unzig m ≠ 0 := by
 unfold unzig
 split <;> omega
theorem setN_set {v : Value} : ∀ {xs : List Value} {off : Nat}, off < xs.length → SetN xs off v (xs.set off v)
 | _ :: _, 0, _ => .z
 | _ :: _, _ + 1, h => .s (setN_set (Nat.lt_of_succ_lt_succ h))
attribute [local irreducible] Cs Own Ex Pu Yld RT LJ QJ AtQ CT Rd QSp Sp FinQ Then LoopQ CutQ DT TakeQ EffQ
variable {B : World} {R : List HP} {pd pr px bo off n c p to : Nat} {a : Option Addr} {at_ deep : Int} {bs : Txt} {g : FuncId} {gb : Bool} {xs : List Value}

set_option maxHeartbeats 1000000 in
theorem signed_Span_int32_get (hD : Rd B R (some ⟨pd, 0, none⟩) 1 1 3 [ptr pr, .int .i64 at_, .int .i64 deep]) (hR : Rd B R a n c 1 (ints .u8 bs)) (hb : Bytes bs) (h1 : p ≤ to) (h2 : to ≤ n) (h3 : n ≤ 16777216) (ho : Rd B R (some ⟨bo, 0, none⟩) 1 1 1 [.func (.func g) #[] #[]]) (hg : al T.funs g = some gb) (hof : ∀ R, Sp B Tryz.prog g [ptr px] R [] (fun v H' => v = .pointer (some ⟨px, off, none⟩) ∧ H' = [])) (hx : off < xs.length) :
  SpP B Tryz.prog 179 [ptr pd, ptr px, ptr bo] R [Cs px 196 xs, rdo pr a n c p to] (fun _ H' => ∃ m q, contL .z bs p to = some (m, q, q) ∧ q ≤ to ∧ p < q ∧ V64 m ∧ I32 (unzig m) ∧ H' = [Cs px 196 (xs.set off (.int .i32 (unzig m))), rdo pr a n c q to]) (fun v H' => contL .z bs p to = none ∧ v = wrv at_ ∧ H' = []) := by
 refine SpP.body Tryz.func179 rfl Tryz.ntmps179 (by simp) ?_
 simp only [argE, List.cons_append, List.nil_append, Nat.zero_add, Nat.reduceAdd]
 try refine gL ?_
 (refine RT.callP T rfl fR_ (ivarint_fn (rD (hD)) (rD (hR)) hb h1 h2 h3) rfl rfl rfl (fun v H1 hp => ?_) (fun v H1 hp => ?_))
 ·obtain ⟨hn, rfl, rfl⟩ := hp
  ((repeat refine nx ?_); exact AtQ.finP (H' := []) ⟨(cont_none hn).1, rfl, rfl⟩ dR_)
 obtain ⟨m, q, hc1, hv, hq1, hq2, rfl, rfl⟩ := hp
 obtain ⟨hm0, hz, _, _⟩ := cont_some hc1
 have huz := unzig_ok hv
 have hun := unzig_ne hv.1 hm0
 have huz' := huz
 obtain ⟨u0, u1⟩ := huz'
 simp only [List.cons_append, List.nil_append]
 skip
 (refine RT.call T rfl fR_ (unzig_fn hv) rfl rfl rfl ?_; rintro _ _ ⟨rfl, rfl⟩; try simp only [List.cons_append, List.nil_append])
 by_cases hI : I32 (unzig m)
 ·have hr' := hI
  obtain ⟨r0, r1⟩ := hr'
  rw [if_pos ⟨hun, r0, r1⟩] at hz
  repeat' (first|refine gL ?_|(refine gv ?_;first|(refine⟨fun hc=>?_,fun hc=>?_⟩<;>first|(exfalso;omega)|skip)|refine gk ?_)|fail)
  (refine RT.call T rfl fR_ (need_t) rfl rfl rfl ?_; rintro _ _ ⟨rfl, rfl⟩; try simp only [List.cons_append, List.nil_append])
  try refine gL ?_
  refine RT.ldB T rfl (rD (ho)) rfl rfl rfl rfl ?_
  try refine gL ?_
  refine RT.callC T (caps := []) rfl rfl fR_ (hof _) hg rfl rfl ?_
  rintro _ _ ⟨rfl, rfl⟩
  simp only [List.nil_append]
  repeat' (first|refine gL ?_|(refine gv ?_;refine gk ?_)|fail)
  refine RT.st T rfl rfl rfl (by ((repeat constructor);done)) (setN_set hx) rfl rfl ?_
  try refine gL ?_
  refine AtQ.ofFinN (AtQ.fin0 (H' := [Cs px 196 (xs.set off (.int .i32 (unzig m))), rdo pr a n c q to]) Tryz.results179 ?_ (fun w h => h.frd (Ps := [_, _]) (Qs := []) fR_) _ (by first | exact .inl rfl | exact .inr rfl))
  exact ⟨m, q, hz, hq1, hq2, hv, hI, rfl⟩
 ·rw [if_neg (fun h => hI h.2)] at hz
  repeat' (first|refine gL ?_|(refine gv ?_;first|(refine⟨fun hc=>?_,fun hc=>?_⟩<;>first|(exfalso;omega)|skip)|intro r hr)|fail)
  ·exfalso
   simp only [IntKind.wrap_i32, IntKind.wrap_i64] at *
   unfold I32 at hI
   omega
  (refine RT.callP T rfl fR_ (need_f (rD (hD))) rfl rfl rfl (fun v H1 hp => ?_) (fun v H1 hp => ?_))
  ·obtain ⟨rfl, rfl⟩ := hp
   ((repeat refine nx ?_); exact AtQ.finP (H' := []) ⟨hz, rfl, rfl⟩ dR_)
  ·exact hp.elim
set_option maxHeartbeats 1000000 in
theorem signed_EnumValue_int32_get (hD : Rd B R (some ⟨pd, 0, none⟩) 1 1 3 [ptr pr, .int .i64 at_, .int .i64 deep]) (hR : Rd B R a n c 1 (ints .u8 bs)) (hb : Bytes bs) (h1 : p ≤ to) (h2 : to ≤ n) (h3 : n ≤ 16777216) (ho : Rd B R (some ⟨bo, 0, none⟩) 1 1 1 [.func (.func g) #[] #[]]) (hg : al T.funs g = some gb) (hof : ∀ R, Sp B Tryz.prog g [ptr px] R [] (fun v H' => v = .pointer (some ⟨px, off, none⟩) ∧ H' = [])) (hx : off < xs.length) :
  SpP B Tryz.prog 187 [ptr pd, ptr px, ptr bo] R [Cs px 80 xs, rdo pr a n c p to] (fun _ H' => ∃ m q, contL .z bs p to = some (m, q, q) ∧ q ≤ to ∧ p < q ∧ V64 m ∧ I32 (unzig m) ∧ H' = [Cs px 80 (xs.set off (.int .i32 (unzig m))), rdo pr a n c q to]) (fun v H' => contL .z bs p to = none ∧ v = wrv at_ ∧ H' = []) := by
 refine SpP.body Tryz.func187 rfl Tryz.ntmps187 (by simp) ?_
 simp only [argE, List.cons_append, List.nil_append, Nat.zero_add, Nat.reduceAdd]
 try refine gL ?_
 (refine RT.callP T rfl fR_ (ivarint_fn (rD (hD)) (rD (hR)) hb h1 h2 h3) rfl rfl rfl (fun v H1 hp => ?_) (fun v H1 hp => ?_))
 ·obtain ⟨hn, rfl, rfl⟩ := hp
  ((repeat refine nx ?_); exact AtQ.finP (H' := []) ⟨(cont_none hn).1, rfl, rfl⟩ dR_)
 obtain ⟨m, q, hc1, hv, hq1, hq2, rfl, rfl⟩ := hp
 obtain ⟨hm0, hz, _, _⟩ := cont_some hc1
 have huz := unzig_ok hv
 have hun := unzig_ne hv.1 hm0
 have huz' := huz
 obtain ⟨u0, u1⟩ := huz'
 simp only [List.cons_append, List.nil_append]
 skip
 (refine RT.call T rfl fR_ (unzig_fn hv) rfl rfl rfl ?_; rintro _ _ ⟨rfl, rfl⟩; try simp only [List.cons_append, List.nil_append])
 by_cases hI : I32 (unzig m)
 ·have hr' := hI
  obtain ⟨r0, r1⟩ := hr'
  rw [if_pos ⟨hun, r0, r1⟩] at hz
  repeat' (first|refine gL ?_|(refine gv ?_;first|(refine⟨fun hc=>?_,fun hc=>?_⟩<;>first|(exfalso;omega)|skip)|refine gk ?_)|fail)
  (refine RT.call T rfl fR_ (need_t) rfl rfl rfl ?_; rintro _ _ ⟨rfl, rfl⟩; try simp only [List.cons_append, List.nil_append])
  try refine gL ?_
  refine RT.ldB T rfl (rD (ho)) rfl rfl rfl rfl ?_
  try refine gL ?_
  refine RT.callC T (caps := []) rfl rfl fR_ (hof _) hg rfl rfl ?_
  rintro _ _ ⟨rfl, rfl⟩
  simp only [List.nil_append]
  repeat' (first|refine gL ?_|(refine gv ?_;refine gk ?_)|fail)
  refine RT.st T rfl rfl rfl (by ((repeat constructor);done)) (setN_set hx) rfl rfl ?_
  try refine gL ?_
  refine AtQ.ofFinN (AtQ.fin0 (H' := [Cs px 80 (xs.set off (.int .i32 (unzig m))), rdo pr a n c q to]) Tryz.results187 ?_ (fun w h => h.frd (Ps := [_, _]) (Qs := []) fR_) _ (by first | exact .inl rfl | exact .inr rfl))
  exact ⟨m, q, hz, hq1, hq2, hv, hI, rfl⟩
 ·rw [if_neg (fun h => hI h.2)] at hz
  repeat' (first|refine gL ?_|(refine gv ?_;first|(refine⟨fun hc=>?_,fun hc=>?_⟩<;>first|(exfalso;omega)|skip)|intro r hr)|fail)
  ·exfalso
   simp only [IntKind.wrap_i32, IntKind.wrap_i64] at *
   unfold I32 at hI
   omega
  (refine RT.callP T rfl fR_ (need_f (rD (hD))) rfl rfl rfl (fun v H1 hp => ?_) (fun v H1 hp => ?_))
  ·obtain ⟨rfl, rfl⟩ := hp
   ((repeat refine nx ?_); exact AtQ.finP (H' := []) ⟨hz, rfl, rfl⟩ dR_)
  ·exact hp.elim
set_option maxHeartbeats 1000000 in
theorem signed_FieldDef_int32_get (hD : Rd B R (some ⟨pd, 0, none⟩) 1 1 3 [ptr pr, .int .i64 at_, .int .i64 deep]) (hR : Rd B R a n c 1 (ints .u8 bs)) (hb : Bytes bs) (h1 : p ≤ to) (h2 : to ≤ n) (h3 : n ≤ 16777216) (ho : Rd B R (some ⟨bo, 0, none⟩) 1 1 1 [.func (.func g) #[] #[]]) (hg : al T.funs g = some gb) (hof : ∀ R, Sp B Tryz.prog g [ptr px] R [] (fun v H' => v = .pointer (some ⟨px, off, none⟩) ∧ H' = [])) (hx : off < xs.length) :
  SpP B Tryz.prog 208 [ptr pd, ptr px, ptr bo] R [Cs px 240 xs, rdo pr a n c p to] (fun _ H' => ∃ m q, contL .z bs p to = some (m, q, q) ∧ q ≤ to ∧ p < q ∧ V64 m ∧ I32 (unzig m) ∧ H' = [Cs px 240 (xs.set off (.int .i32 (unzig m))), rdo pr a n c q to]) (fun v H' => contL .z bs p to = none ∧ v = wrv at_ ∧ H' = []) := by
 refine SpP.body Tryz.func208 rfl Tryz.ntmps208 (by simp) ?_
 simp only [argE, List.cons_append, List.nil_append, Nat.zero_add, Nat.reduceAdd]
 try refine gL ?_
 (refine RT.callP T rfl fR_ (ivarint_fn (rD (hD)) (rD (hR)) hb h1 h2 h3) rfl rfl rfl (fun v H1 hp => ?_) (fun v H1 hp => ?_))
 ·obtain ⟨hn, rfl, rfl⟩ := hp
  ((repeat refine nx ?_); exact AtQ.finP (H' := []) ⟨(cont_none hn).1, rfl, rfl⟩ dR_)
 obtain ⟨m, q, hc1, hv, hq1, hq2, rfl, rfl⟩ := hp
 obtain ⟨hm0, hz, _, _⟩ := cont_some hc1
 have huz := unzig_ok hv
 have hun := unzig_ne hv.1 hm0
 have huz' := huz
 obtain ⟨u0, u1⟩ := huz'
 simp only [List.cons_append, List.nil_append]
 skip
 (refine RT.call T rfl fR_ (unzig_fn hv) rfl rfl rfl ?_; rintro _ _ ⟨rfl, rfl⟩; try simp only [List.cons_append, List.nil_append])
 by_cases hI : I32 (unzig m)
 ·have hr' := hI
  obtain ⟨r0, r1⟩ := hr'
  rw [if_pos ⟨hun, r0, r1⟩] at hz
  repeat' (first|refine gL ?_|(refine gv ?_;first|(refine⟨fun hc=>?_,fun hc=>?_⟩<;>first|(exfalso;omega)|skip)|refine gk ?_)|fail)
  (refine RT.call T rfl fR_ (need_t) rfl rfl rfl ?_; rintro _ _ ⟨rfl, rfl⟩; try simp only [List.cons_append, List.nil_append])
  try refine gL ?_
  refine RT.ldB T rfl (rD (ho)) rfl rfl rfl rfl ?_
  try refine gL ?_
  refine RT.callC T (caps := []) rfl rfl fR_ (hof _) hg rfl rfl ?_
  rintro _ _ ⟨rfl, rfl⟩
  simp only [List.nil_append]
  repeat' (first|refine gL ?_|(refine gv ?_;refine gk ?_)|fail)
  refine RT.st T rfl rfl rfl (by ((repeat constructor);done)) (setN_set hx) rfl rfl ?_
  try refine gL ?_
  refine AtQ.ofFinN (AtQ.fin0 (H' := [Cs px 240 (xs.set off (.int .i32 (unzig m))), rdo pr a n c q to]) Tryz.results208 ?_ (fun w h => h.frd (Ps := [_, _]) (Qs := []) fR_) _ (by first | exact .inl rfl | exact .inr rfl))
  exact ⟨m, q, hz, hq1, hq2, hv, hI, rfl⟩
 ·rw [if_neg (fun h => hI h.2)] at hz
  repeat' (first|refine gL ?_|(refine gv ?_;first|(refine⟨fun hc=>?_,fun hc=>?_⟩<;>first|(exfalso;omega)|skip)|intro r hr)|fail)
  ·exfalso
   simp only [IntKind.wrap_i32, IntKind.wrap_i64] at *
   unfold I32 at hI
   omega
  (refine RT.callP T rfl fR_ (need_f (rD (hD))) rfl rfl rfl (fun v H1 hp => ?_) (fun v H1 hp => ?_))
  ·obtain ⟨rfl, rfl⟩ := hp
   ((repeat refine nx ?_); exact AtQ.finP (H' := []) ⟨hz, rfl, rfl⟩ dR_)
  ·exact hp.elim
set_option maxHeartbeats 1000000 in
theorem signed_FieldDef_int_get (hD : Rd B R (some ⟨pd, 0, none⟩) 1 1 3 [ptr pr, .int .i64 at_, .int .i64 deep]) (hR : Rd B R a n c 1 (ints .u8 bs)) (hb : Bytes bs) (h1 : p ≤ to) (h2 : to ≤ n) (h3 : n ≤ 16777216) (ho : Rd B R (some ⟨bo, 0, none⟩) 1 1 1 [.func (.func g) #[] #[]]) (hg : al T.funs g = some gb) (hof : ∀ R, Sp B Tryz.prog g [ptr px] R [] (fun v H' => v = .pointer (some ⟨px, off, none⟩) ∧ H' = [])) (hx : off < xs.length) :
  SpP B Tryz.prog 214 [ptr pd, ptr px, ptr bo] R [Cs px 240 xs, rdo pr a n c p to] (fun _ H' => ∃ m q, contL .zl bs p to = some (m, q, q) ∧ q ≤ to ∧ p < q ∧ V64 m ∧ H' = [Cs px 240 (xs.set off (.int .i64 (unzig m))), rdo pr a n c q to]) (fun v H' => contL .zl bs p to = none ∧ v = wrv at_ ∧ H' = []) := by
 refine SpP.body Tryz.func214 rfl Tryz.ntmps214 (by simp) ?_
 simp only [argE, List.cons_append, List.nil_append, Nat.zero_add, Nat.reduceAdd]
 try refine gL ?_
 (refine RT.callP T rfl fR_ (ivarint_fn (rD (hD)) (rD (hR)) hb h1 h2 h3) rfl rfl rfl (fun v H1 hp => ?_) (fun v H1 hp => ?_))
 ·obtain ⟨hn, rfl, rfl⟩ := hp
  ((repeat refine nx ?_); exact AtQ.finP (H' := []) ⟨hn, rfl, rfl⟩ dR_)
 obtain ⟨m, q, hc1, hv, hq1, hq2, rfl, rfl⟩ := hp
 obtain ⟨hm0, hz, _, _⟩ := cont_some hc1
 have huz := unzig_ok hv
 have hun := unzig_ne hv.1 hm0
 have huz' := huz
 obtain ⟨u0, u1⟩ := huz'
 simp only [List.cons_append, List.nil_append]
 skip
 (refine RT.call T rfl fR_ (unzig_fn hv) rfl rfl rfl ?_; rintro _ _ ⟨rfl, rfl⟩; try simp only [List.cons_append, List.nil_append])
 ·repeat' (first|refine gL ?_|(refine gv ?_;(refine⟨fun hc=>?_,fun hc=>?_⟩<;>first|(exfalso;omega)|skip))|fail)
  (refine RT.call T rfl fR_ (need_t) rfl rfl rfl ?_; rintro _ _ ⟨rfl, rfl⟩; try simp only [List.cons_append, List.nil_append])
  try refine gL ?_
  refine RT.ldB T rfl (rD (ho)) rfl rfl rfl rfl ?_
  try refine gL ?_
  refine RT.callC T (caps := []) rfl rfl fR_ (hof _) hg rfl rfl ?_
  rintro _ _ ⟨rfl, rfl⟩
  simp only [List.nil_append]
  try refine gL ?_
  refine RT.st T rfl rfl rfl (by ((repeat constructor);done)) (setN_set hx) rfl rfl ?_
  try refine gL ?_
  refine AtQ.ofFinN (AtQ.fin0 (H' := [Cs px 240 (xs.set off (.int .i64 (unzig m))), rdo pr a n c q to]) Tryz.results214 ?_ (fun w h => h.frd (Ps := [_, _]) (Qs := []) fR_) _ (by first | exact .inl rfl | exact .inr rfl))
  exact ⟨m, q, hc1, hq1, hq2, hv, rfl⟩
set_option maxHeartbeats 1000000 in
theorem small_Card_get (hD : Rd B R (some ⟨pd, 0, none⟩) 1 1 3 [ptr pr, .int .i64 at_, .int .i64 deep]) (hR : Rd B R a n c 1 (ints .u8 bs)) (hb : Bytes bs) (h1 : p ≤ to) (h2 : to ≤ n) (h3 : n ≤ 16777216) (ho : Rd B R (some ⟨bo, 0, none⟩) 1 1 1 [.func (.func g) #[] #[]]) (hg : al T.funs g = some gb) (hof : ∀ R, Sp B Tryz.prog g [ptr px] R [] (fun v H' => v = .pointer (some ⟨px, off, none⟩) ∧ H' = [])) (hx : off < xs.length) :
  SpP B Tryz.prog 210 [ptr pd, ptr px, ptr bo] R [Cs px 240 xs, rdo pr a n c p to] (fun _ H' => ∃ m q, contL .n bs p to = some (m, q, q) ∧ q ≤ to ∧ p < q ∧ 0 ≤ m ∧ m ≤ 255 ∧ H' = [Cs px 240 (xs.set off (.int .u8 m)), rdo pr a n c q to]) (fun v H' => contL .n bs p to = none ∧ v = wrv at_ ∧ H' = []) := by
 refine SpP.body Tryz.func210 rfl Tryz.ntmps210 (by simp) ?_
 simp only [argE, List.cons_append, List.nil_append, Nat.zero_add, Nat.reduceAdd]
 try refine gL ?_
 (refine RT.callP T rfl fR_ (ivarint_fn (rD (hD)) (rD (hR)) hb h1 h2 h3) rfl rfl rfl (fun v H1 hp => ?_) (fun v H1 hp => ?_))
 ·obtain ⟨hn, rfl, rfl⟩ := hp
  ((repeat refine nx ?_); exact AtQ.finP (H' := []) ⟨(cont_none hn).2.1, rfl, rfl⟩ dR_)
 obtain ⟨m, q, hc1, hv, hq1, hq2, rfl, rfl⟩ := hp
 obtain ⟨hm0, _, hz, _⟩ := cont_some hc1
 obtain ⟨v0, v1⟩ := hv
 simp only [List.cons_append, List.nil_append]
 by_cases hr : m ≤ 255
 ·rw [if_pos ⟨hm0, hr⟩] at hz
  repeat' (first|refine gL ?_|(refine gv ?_;(refine⟨fun hc=>?_,fun hc=>?_⟩<;>first|(exfalso;omega)|skip))|fail)
  (refine RT.call T rfl fR_ (need_t) rfl rfl rfl ?_; rintro _ _ ⟨rfl, rfl⟩; try simp only [List.cons_append, List.nil_append])
  try refine gL ?_
  refine RT.ldB T rfl (rD (ho)) rfl rfl rfl rfl ?_
  try refine gL ?_
  refine RT.callC T (caps := []) rfl rfl fR_ (hof _) hg rfl rfl ?_
  rintro _ _ ⟨rfl, rfl⟩
  simp only [List.nil_append]
  repeat' (first|refine gL ?_|(refine gv ?_;refine gk ?_)|fail)
  refine RT.st T rfl rfl rfl (by ((repeat constructor);done)) (setN_set hx) rfl rfl ?_
  try refine gL ?_
  refine AtQ.ofFinN (AtQ.fin0 (H' := [Cs px 240 (xs.set off (.int .u8 m)), rdo pr a n c q to]) Tryz.results210 ?_ (fun w h => h.frd (Ps := [_, _]) (Qs := []) fR_) _ (by first | exact .inl rfl | exact .inr rfl))
  exact ⟨m, q, hz, hq1, hq2, v0, hr, rfl⟩
 ·rw [if_neg (fun h => hr h.2)] at hz
  repeat' (first|refine gL ?_|(refine gv ?_;(refine⟨fun hc=>?_,fun hc=>?_⟩<;>first|(exfalso;omega)|skip))|fail)
  (refine RT.callP T rfl fR_ (need_f (rD (hD))) rfl rfl rfl (fun v H1 hp => ?_) (fun v H1 hp => ?_))
  ·obtain ⟨rfl, rfl⟩ := hp
   ((repeat refine nx ?_); exact AtQ.finP (H' := []) ⟨hz, rfl, rfl⟩ dR_)
  ·exact hp.elim
set_option maxHeartbeats 1000000 in
theorem small_Kind_get (hD : Rd B R (some ⟨pd, 0, none⟩) 1 1 3 [ptr pr, .int .i64 at_, .int .i64 deep]) (hR : Rd B R a n c 1 (ints .u8 bs)) (hb : Bytes bs) (h1 : p ≤ to) (h2 : to ≤ n) (h3 : n ≤ 16777216) (ho : Rd B R (some ⟨bo, 0, none⟩) 1 1 1 [.func (.func g) #[] #[]]) (hg : al T.funs g = some gb) (hof : ∀ R, Sp B Tryz.prog g [ptr px] R [] (fun v H' => v = .pointer (some ⟨px, off, none⟩) ∧ H' = [])) (hx : off < xs.length) :
  SpP B Tryz.prog 212 [ptr pd, ptr px, ptr bo] R [Cs px 240 xs, rdo pr a n c p to] (fun _ H' => ∃ m q, contL .n bs p to = some (m, q, q) ∧ q ≤ to ∧ p < q ∧ 0 ≤ m ∧ m ≤ 255 ∧ H' = [Cs px 240 (xs.set off (.int .u8 m)), rdo pr a n c q to]) (fun v H' => contL .n bs p to = none ∧ v = wrv at_ ∧ H' = []) := by
 refine SpP.body Tryz.func212 rfl Tryz.ntmps212 (by simp) ?_
 simp only [argE, List.cons_append, List.nil_append, Nat.zero_add, Nat.reduceAdd]
 try refine gL ?_
 (refine RT.callP T rfl fR_ (ivarint_fn (rD (hD)) (rD (hR)) hb h1 h2 h3) rfl rfl rfl (fun v H1 hp => ?_) (fun v H1 hp => ?_))
 ·obtain ⟨hn, rfl, rfl⟩ := hp
  ((repeat refine nx ?_); exact AtQ.finP (H' := []) ⟨(cont_none hn).2.1, rfl, rfl⟩ dR_)
 obtain ⟨m, q, hc1, hv, hq1, hq2, rfl, rfl⟩ := hp
 obtain ⟨hm0, _, hz, _⟩ := cont_some hc1
 obtain ⟨v0, v1⟩ := hv
 simp only [List.cons_append, List.nil_append]
 by_cases hr : m ≤ 255
 ·rw [if_pos ⟨hm0, hr⟩] at hz
  repeat' (first|refine gL ?_|(refine gv ?_;(refine⟨fun hc=>?_,fun hc=>?_⟩<;>first|(exfalso;omega)|skip))|fail)
  (refine RT.call T rfl fR_ (need_t) rfl rfl rfl ?_; rintro _ _ ⟨rfl, rfl⟩; try simp only [List.cons_append, List.nil_append])
  try refine gL ?_
  refine RT.ldB T rfl (rD (ho)) rfl rfl rfl rfl ?_
  try refine gL ?_
  refine RT.callC T (caps := []) rfl rfl fR_ (hof _) hg rfl rfl ?_
  rintro _ _ ⟨rfl, rfl⟩
  simp only [List.nil_append]
  repeat' (first|refine gL ?_|(refine gv ?_;refine gk ?_)|fail)
  refine RT.st T rfl rfl rfl (by ((repeat constructor);done)) (setN_set hx) rfl rfl ?_
  try refine gL ?_
  refine AtQ.ofFinN (AtQ.fin0 (H' := [Cs px 240 (xs.set off (.int .u8 m)), rdo pr a n c q to]) Tryz.results212 ?_ (fun w h => h.frd (Ps := [_, _]) (Qs := []) fR_) _ (by first | exact .inl rfl | exact .inr rfl))
  exact ⟨m, q, hz, hq1, hq2, v0, hr, rfl⟩
 ·rw [if_neg (fun h => hr h.2)] at hz
  repeat' (first|refine gL ?_|(refine gv ?_;(refine⟨fun hc=>?_,fun hc=>?_⟩<;>first|(exfalso;omega)|skip))|fail)
  (refine RT.callP T rfl fR_ (need_f (rD (hD))) rfl rfl rfl (fun v H1 hp => ?_) (fun v H1 hp => ?_))
  ·obtain ⟨rfl, rfl⟩ := hp
   ((repeat refine nx ?_); exact AtQ.finP (H' := []) ⟨hz, rfl, rfl⟩ dR_)
  ·exact hp.elim
set_option maxHeartbeats 1000000 in
theorem small_Tri_get (hD : Rd B R (some ⟨pd, 0, none⟩) 1 1 3 [ptr pr, .int .i64 at_, .int .i64 deep]) (hR : Rd B R a n c 1 (ints .u8 bs)) (hb : Bytes bs) (h1 : p ≤ to) (h2 : to ≤ n) (h3 : n ≤ 16777216) (ho : Rd B R (some ⟨bo, 0, none⟩) 1 1 1 [.func (.func g) #[] #[]]) (hg : al T.funs g = some gb) (hof : ∀ R, Sp B Tryz.prog g [ptr px] R [] (fun v H' => v = .pointer (some ⟨px, off, none⟩) ∧ H' = [])) (hx : off < xs.length) :
  SpP B Tryz.prog 216 [ptr pd, ptr px, ptr bo] R [Cs px 240 xs, rdo pr a n c p to] (fun _ H' => ∃ m q, contL .n bs p to = some (m, q, q) ∧ q ≤ to ∧ p < q ∧ 0 ≤ m ∧ m ≤ 255 ∧ H' = [Cs px 240 (xs.set off (.int .u8 m)), rdo pr a n c q to]) (fun v H' => contL .n bs p to = none ∧ v = wrv at_ ∧ H' = []) := by
 refine SpP.body Tryz.func216 rfl Tryz.ntmps216 (by simp) ?_
 simp only [argE, List.cons_append, List.nil_append, Nat.zero_add, Nat.reduceAdd]
 try refine gL ?_
 (refine RT.callP T rfl fR_ (ivarint_fn (rD (hD)) (rD (hR)) hb h1 h2 h3) rfl rfl rfl (fun v H1 hp => ?_) (fun v H1 hp => ?_))
 ·obtain ⟨hn, rfl, rfl⟩ := hp
  ((repeat refine nx ?_); exact AtQ.finP (H' := []) ⟨(cont_none hn).2.1, rfl, rfl⟩ dR_)
 obtain ⟨m, q, hc1, hv, hq1, hq2, rfl, rfl⟩ := hp
 obtain ⟨hm0, _, hz, _⟩ := cont_some hc1
 obtain ⟨v0, v1⟩ := hv
 simp only [List.cons_append, List.nil_append]
 by_cases hr : m ≤ 255
 ·rw [if_pos ⟨hm0, hr⟩] at hz
  repeat' (first|refine gL ?_|(refine gv ?_;(refine⟨fun hc=>?_,fun hc=>?_⟩<;>first|(exfalso;omega)|skip))|fail)
  (refine RT.call T rfl fR_ (need_t) rfl rfl rfl ?_; rintro _ _ ⟨rfl, rfl⟩; try simp only [List.cons_append, List.nil_append])
  try refine gL ?_
  refine RT.ldB T rfl (rD (ho)) rfl rfl rfl rfl ?_
  try refine gL ?_
  refine RT.callC T (caps := []) rfl rfl fR_ (hof _) hg rfl rfl ?_
  rintro _ _ ⟨rfl, rfl⟩
  simp only [List.nil_append]
  repeat' (first|refine gL ?_|(refine gv ?_;refine gk ?_)|fail)
  refine RT.st T rfl rfl rfl (by ((repeat constructor);done)) (setN_set hx) rfl rfl ?_
  try refine gL ?_
  refine AtQ.ofFinN (AtQ.fin0 (H' := [Cs px 240 (xs.set off (.int .u8 m)), rdo pr a n c q to]) Tryz.results216 ?_ (fun w h => h.frd (Ps := [_, _]) (Qs := []) fR_) _ (by first | exact .inl rfl | exact .inr rfl))
  exact ⟨m, q, hz, hq1, hq2, v0, hr, rfl⟩
 ·rw [if_neg (fun h => hr h.2)] at hz
  repeat' (first|refine gL ?_|(refine gv ?_;(refine⟨fun hc=>?_,fun hc=>?_⟩<;>first|(exfalso;omega)|skip))|fail)
  (refine RT.callP T rfl fR_ (need_f (rD (hD))) rfl rfl rfl (fun v H1 hp => ?_) (fun v H1 hp => ?_))
  ·obtain ⟨rfl, rfl⟩ := hp
   ((repeat refine nx ?_); exact AtQ.finP (H' := []) ⟨hz, rfl, rfl⟩ dR_)
  ·exact hp.elim
set_option maxHeartbeats 1000000 in
theorem truth_EnumDef_get (hD : Rd B R (some ⟨pd, 0, none⟩) 1 1 3 [ptr pr, .int .i64 at_, .int .i64 deep]) (hR : Rd B R a n c 1 (ints .u8 bs)) (hb : Bytes bs) (h1 : p ≤ to) (h2 : to ≤ n) (h3 : n ≤ 16777216) (ho : Rd B R (some ⟨bo, 0, none⟩) 1 1 1 [.func (.func g) #[] #[]]) (hg : al T.funs g = some gb) (hof : ∀ R, Sp B Tryz.prog g [ptr px] R [] (fun v H' => v = .pointer (some ⟨px, off, none⟩) ∧ H' = [])) (hx : off < xs.length) :
  SpP B Tryz.prog 198 [ptr pd, ptr px, ptr bo] R [Cs px 85 xs, rdo pr a n c p to] (fun _ H' => ∃ m q, contL .b bs p to = some (m, q, q) ∧ q ≤ to ∧ p < q ∧ H' = [Cs px 85 (xs.set off (.bool true)), rdo pr a n c q to]) (fun v H' => contL .b bs p to = none ∧ v = wrv at_ ∧ H' = []) := by
 refine SpP.body Tryz.func198 rfl Tryz.ntmps198 (by simp) ?_
 simp only [argE, List.cons_append, List.nil_append, Nat.zero_add, Nat.reduceAdd]
 try refine gL ?_
 (refine RT.callP T rfl fR_ (ivarint_fn (rD (hD)) (rD (hR)) hb h1 h2 h3) rfl rfl rfl (fun v H1 hp => ?_) (fun v H1 hp => ?_))
 ·obtain ⟨hn, rfl, rfl⟩ := hp
  ((repeat refine nx ?_); exact AtQ.finP (H' := []) ⟨(cont_none hn).2.2, rfl, rfl⟩ dR_)
 obtain ⟨m, q, hc1, hv, hq1, hq2, rfl, rfl⟩ := hp
 obtain ⟨hm0, _, _, hz⟩ := cont_some hc1
 obtain ⟨v0, v1⟩ := hv
 simp only [List.cons_append, List.nil_append]
 by_cases hr : m = 1
 ·rw [if_pos hr] at hz
  repeat' (first|refine gL ?_|(refine gv ?_;(refine⟨fun hc=>?_,fun hc=>?_⟩<;>first|(exfalso;omega)|skip))|fail)
  (refine RT.call T rfl fR_ (need_t) rfl rfl rfl ?_; rintro _ _ ⟨rfl, rfl⟩; try simp only [List.cons_append, List.nil_append])
  try refine gL ?_
  refine RT.ldB T rfl (rD (ho)) rfl rfl rfl rfl ?_
  try refine gL ?_
  refine RT.callC T (caps := []) rfl rfl fR_ (hof _) hg rfl rfl ?_
  rintro _ _ ⟨rfl, rfl⟩
  simp only [List.nil_append]
  try refine gL ?_
  refine RT.st T rfl rfl rfl (by ((repeat constructor);done)) (setN_set hx) rfl rfl ?_
  try refine gL ?_
  refine AtQ.ofFinN (AtQ.fin0 (H' := [Cs px 85 (xs.set off (.bool true)), rdo pr a n c q to]) Tryz.results198 ?_ (fun w h => h.frd (Ps := [_, _]) (Qs := []) fR_) _ (by first | exact .inl rfl | exact .inr rfl))
  exact ⟨m, q, hz, hq1, hq2, rfl⟩
 ·rw [if_neg hr] at hz
  repeat' (first|refine gL ?_|(refine gv ?_;(refine⟨fun hc=>?_,fun hc=>?_⟩<;>first|(exfalso;omega)|skip))|fail)
  (refine RT.callP T rfl fR_ (need_f (rD (hD))) rfl rfl rfl (fun v H1 hp => ?_) (fun v H1 hp => ?_))
  ·obtain ⟨rfl, rfl⟩ := hp
   ((repeat refine nx ?_); exact AtQ.finP (H' := []) ⟨hz, rfl, rfl⟩ dR_)
  ·exact hp.elim
set_option maxHeartbeats 1000000 in
theorem truth_Import_get (hD : Rd B R (some ⟨pd, 0, none⟩) 1 1 3 [ptr pr, .int .i64 at_, .int .i64 deep]) (hR : Rd B R a n c 1 (ints .u8 bs)) (hb : Bytes bs) (h1 : p ≤ to) (h2 : to ≤ n) (h3 : n ≤ 16777216) (ho : Rd B R (some ⟨bo, 0, none⟩) 1 1 1 [.func (.func g) #[] #[]]) (hg : al T.funs g = some gb) (hof : ∀ R, Sp B Tryz.prog g [ptr px] R [] (fun v H' => v = .pointer (some ⟨px, off, none⟩) ∧ H' = [])) (hx : off < xs.length) :
  SpP B Tryz.prog 238 [ptr pd, ptr px, ptr bo] R [Cs px 161 xs, rdo pr a n c p to] (fun _ H' => ∃ m q, contL .b bs p to = some (m, q, q) ∧ q ≤ to ∧ p < q ∧ H' = [Cs px 161 (xs.set off (.bool true)), rdo pr a n c q to]) (fun v H' => contL .b bs p to = none ∧ v = wrv at_ ∧ H' = []) := by
 refine SpP.body Tryz.func238 rfl Tryz.ntmps238 (by simp) ?_
 simp only [argE, List.cons_append, List.nil_append, Nat.zero_add, Nat.reduceAdd]
 try refine gL ?_
 (refine RT.callP T rfl fR_ (ivarint_fn (rD (hD)) (rD (hR)) hb h1 h2 h3) rfl rfl rfl (fun v H1 hp => ?_) (fun v H1 hp => ?_))
 ·obtain ⟨hn, rfl, rfl⟩ := hp
  ((repeat refine nx ?_); exact AtQ.finP (H' := []) ⟨(cont_none hn).2.2, rfl, rfl⟩ dR_)
 obtain ⟨m, q, hc1, hv, hq1, hq2, rfl, rfl⟩ := hp
 obtain ⟨hm0, _, _, hz⟩ := cont_some hc1
 obtain ⟨v0, v1⟩ := hv
 simp only [List.cons_append, List.nil_append]
 by_cases hr : m = 1
 ·rw [if_pos hr] at hz
  repeat' (first|refine gL ?_|(refine gv ?_;(refine⟨fun hc=>?_,fun hc=>?_⟩<;>first|(exfalso;omega)|skip))|fail)
  (refine RT.call T rfl fR_ (need_t) rfl rfl rfl ?_; rintro _ _ ⟨rfl, rfl⟩; try simp only [List.cons_append, List.nil_append])
  try refine gL ?_
  refine RT.ldB T rfl (rD (ho)) rfl rfl rfl rfl ?_
  try refine gL ?_
  refine RT.callC T (caps := []) rfl rfl fR_ (hof _) hg rfl rfl ?_
  rintro _ _ ⟨rfl, rfl⟩
  simp only [List.nil_append]
  try refine gL ?_
  refine RT.st T rfl rfl rfl (by ((repeat constructor);done)) (setN_set hx) rfl rfl ?_
  try refine gL ?_
  refine AtQ.ofFinN (AtQ.fin0 (H' := [Cs px 161 (xs.set off (.bool true)), rdo pr a n c q to]) Tryz.results238 ?_ (fun w h => h.frd (Ps := [_, _]) (Qs := []) fR_) _ (by first | exact .inl rfl | exact .inr rfl))
  exact ⟨m, q, hz, hq1, hq2, rfl⟩
 ·rw [if_neg hr] at hz
  repeat' (first|refine gL ?_|(refine gv ?_;(refine⟨fun hc=>?_,fun hc=>?_⟩<;>first|(exfalso;omega)|skip))|fail)
  (refine RT.callP T rfl fR_ (need_f (rD (hD))) rfl rfl rfl (fun v H1 hp => ?_) (fun v H1 hp => ?_))
  ·obtain ⟨rfl, rfl⟩ := hp
   ((repeat refine nx ?_); exact AtQ.finP (H' := []) ⟨hz, rfl, rfl⟩ dR_)
  ·exact hp.elim
end Go.Proofs.YtclcnhfponjdaaaGreatDoor
end
section
namespace Go.Proofs.YtclcnhfponjdaaaGreatDoor
open Go.Sk
set_option maxRecDepth 100000
theorem cont_t {bs : Txt} {p to q t : Nat} {m : Int} (h : contL .ts bs p to = some (m, q, t)) : t = q + m.toNat ∧ 0 ≤ (to : Int) - q - m ∧ contL .t bs p to = (if 0 < m then some (m, q, t) else none) := by
 unfold contL at *
 cases hs : shortV bs p to with
 | none => rw [hs] at h; cases h
 | some nq =>
  obtain ⟨m', q'⟩ := nq
  rw [hs] at h
  simp only at h ⊢
  by_cases h0 : m' ≤ (to : Int) - q' ∧ goodL ((bs.drop q').take m'.toNat) < 0
  ·rw [if_pos h0] at h
   cases h
   refine ⟨rfl, by omega, ?_⟩
   by_cases h1 : 0 < m
   ·rw [if_pos ⟨h0.1, h1, h0.2⟩, if_pos h1]
   ·rw [if_neg (fun h => h1 h.2.1), if_neg h1]
  ·rw [if_neg h0] at h
   cases h
theorem cont_tn {bs : Txt} {p to : Nat} (h : contL .ts bs p to = none) : contL .t bs p to = none := by
 unfold contL at *
 cases hs : shortV bs p to with
 | none => rfl
 | some nq =>
  obtain ⟨m', q'⟩ := nq
  rw [hs] at h
  simp only at h ⊢
  by_cases h0 : m' ≤ (to : Int) - q' ∧ goodL ((bs.drop q').take m'.toNat) < 0
  ·rw [if_pos h0] at h
   cases h
  ·rw [if_neg (fun h => h0 ⟨h.1, h.2.2⟩)]
attribute [local irreducible] Cs Own Ex Pu Yld RT LJ QJ AtQ CT Rd QSp Sp FinQ Then LoopQ CutQ DT TakeQ EffQ
variable {B : World} {R : List HP} {pd pr px bo off n c p to : Nat} {a : Option Addr} {at_ deep : Int} {bs : Txt} {g : FuncId} {gb : Bool} {xs : List Value}

set_option maxHeartbeats 1000000 in
theorem oneText_EnumValue_get (hT : Lib.Utf8Tabs 0 1 B) (hD : Rd B R (some ⟨pd, 0, none⟩) 1 1 3 [ptr pr, .int .i64 at_, .int .i64 deep]) (hR : Rd B R a n c 1 (ints .u8 bs)) (hb : Bytes bs) (h1 : p ≤ to) (h2 : to ≤ n) (h3 : n ≤ 16777216) (ho : Rd B R (some ⟨bo, 0, none⟩) 1 1 1 [.func (.func g) #[] #[]]) (hg : al T.funs g = some gb) (hof : ∀ R, Sp B Tryz.prog g [ptr px] R [] (fun v H' => v = .pointer (some ⟨px, off, none⟩) ∧ H' = [])) (hx : off < xs.length) :
  SpP B Tryz.prog 184 [ptr pd, ptr px, ptr bo] R [Cs px 80 xs, rdo pr a n c p to] (fun _ H' => ∃ m q t, contL .t bs p to = some (m, q, t) ∧ t ≤ to ∧ q ≤ t ∧ p < q ∧ H' = [Cs px 80 (xs.set off (vS ((bs.drop q).take (t - q)))), rdo pr a n c t to]) (fun v H' => contL .t bs p to = none ∧ v = wrv at_ ∧ H' = []) := by
 have hbl := hR.lenI
 refine SpP.body Tryz.func184 rfl Tryz.ntmps184 (by simp) ?_
 simp only [argE, List.cons_append, List.nil_append, Nat.zero_add, Nat.reduceAdd]
 try refine gL ?_
 refine RT.ldB T rfl (rD (ho)) rfl rfl rfl rfl ?_
 try refine gL ?_
 refine RT.callC T (caps := []) rfl rfl fR_ (hof _) hg rfl rfl ?_
 rintro _ _ ⟨rfl, rfl⟩
 simp only [List.nil_append]
 try refine gL ?_
 (refine RT.callP T rfl fR_ (itext_fn hT (rD (hD)) (rD (hR)) hb h1 h2 h3) rfl rfl rfl (fun v H1 hp => ?_) (fun v H1 hp => ?_))
 ·obtain ⟨hn, rfl, rfl⟩ := hp
  ((repeat refine nx ?_); exact AtQ.finP (H' := []) ⟨cont_tn hn, rfl, rfl⟩ dR_)
 obtain ⟨m, q, t, hc1, hq1, hq2, hq3, rfl, rfl⟩ := hp
 obtain ⟨ht, hle, hz⟩ := cont_t hc1
 have htb : Byt ((bs.drop q).take (t - q)) := (hb.drop _).take _
 have htl : ((bs.drop q).take (t - q)).length = t - q := by rw [List.length_take, List.length_drop]; omega
 simp only [List.cons_append, List.nil_append]
 generalize htx : (bs.drop q).take (t - q) = tx at *
 try refine gL ?_
 refine RT.st T rfl rfl rfl (by ((repeat constructor);done)) (setN_set hx) rfl rfl ?_
 try refine gL ?_
 refine RT.ldB T rfl (rD (ho)) rfl rfl rfl rfl ?_
 try refine gL ?_
 refine RT.callC T (caps := []) rfl rfl fR_ (hof _) hg rfl rfl ?_
 rintro _ _ ⟨rfl, rfl⟩
 simp only [List.nil_append]
 try refine gL ?_
 refine RT.ldB T rfl (Cs.rd sE_) (u := vS tx) (by rw [List.getElem?_set_self hx]) rfl rfl rfl ?_
 refine RT.nes (l := tx) (l' := []) rfl rfl htb (fun _ h => by cases h) rfl rfl (fun hc => ?_) (fun hc => ?_)
 ·have h0 : ¬ 0 < m := by
   rw [hc] at htl
   simp only [List.length_nil] at htl
   omega
  rw [if_neg h0] at hz
  skip
  (refine RT.callP T rfl fR_ (need_f (rD (hD))) rfl rfl rfl (fun v H1 hp => ?_) (fun v H1 hp => ?_))
  ·obtain ⟨rfl, rfl⟩ := hp
   ((repeat refine nx ?_); exact AtQ.finP (H' := []) ⟨hz, rfl, rfl⟩ dR_)
  ·exact hp.elim
 ·have h0 : 0 < m := by
   have : tx.length ≠ 0 := fun h => hc (List.length_eq_zero_iff.1 h)
   omega
  rw [if_pos h0] at hz
  skip
  (refine RT.call T rfl fR_ (need_t) rfl rfl rfl ?_; rintro _ _ ⟨rfl, rfl⟩; try simp only [List.cons_append, List.nil_append])
  try refine gL ?_
  refine AtQ.ofFinN (AtQ.fin0 (H' := [Cs px 80 (xs.set off (vS tx)), rdo pr a n c t to]) Tryz.results184 ?_ (fun w h => h.frd (Ps := [_, _]) (Qs := []) fR_) _ (by first | exact .inl rfl | exact .inr rfl))
  exact ⟨m, q, t, hz, hq1, hq2, hq3, by rw [htx]⟩
set_option maxHeartbeats 1000000 in
theorem oneText_EnumDef_get (hT : Lib.Utf8Tabs 0 1 B) (hD : Rd B R (some ⟨pd, 0, none⟩) 1 1 3 [ptr pr, .int .i64 at_, .int .i64 deep]) (hR : Rd B R a n c 1 (ints .u8 bs)) (hb : Bytes bs) (h1 : p ≤ to) (h2 : to ≤ n) (h3 : n ≤ 16777216) (ho : Rd B R (some ⟨bo, 0, none⟩) 1 1 1 [.func (.func g) #[] #[]]) (hg : al T.funs g = some gb) (hof : ∀ R, Sp B Tryz.prog g [ptr px] R [] (fun v H' => v = .pointer (some ⟨px, off, none⟩) ∧ H' = [])) (hx : off < xs.length) :
  SpP B Tryz.prog 189 [ptr pd, ptr px, ptr bo] R [Cs px 85 xs, rdo pr a n c p to] (fun _ H' => ∃ m q t, contL .t bs p to = some (m, q, t) ∧ t ≤ to ∧ q ≤ t ∧ p < q ∧ H' = [Cs px 85 (xs.set off (vS ((bs.drop q).take (t - q)))), rdo pr a n c t to]) (fun v H' => contL .t bs p to = none ∧ v = wrv at_ ∧ H' = []) := by
 have hbl := hR.lenI
 refine SpP.body Tryz.func189 rfl Tryz.ntmps189 (by simp) ?_
 simp only [argE, List.cons_append, List.nil_append, Nat.zero_add, Nat.reduceAdd]
 try refine gL ?_
 refine RT.ldB T rfl (rD (ho)) rfl rfl rfl rfl ?_
 try refine gL ?_
 refine RT.callC T (caps := []) rfl rfl fR_ (hof _) hg rfl rfl ?_
 rintro _ _ ⟨rfl, rfl⟩
 simp only [List.nil_append]
 try refine gL ?_
 (refine RT.callP T rfl fR_ (itext_fn hT (rD (hD)) (rD (hR)) hb h1 h2 h3) rfl rfl rfl (fun v H1 hp => ?_) (fun v H1 hp => ?_))
 ·obtain ⟨hn, rfl, rfl⟩ := hp
  ((repeat refine nx ?_); exact AtQ.finP (H' := []) ⟨cont_tn hn, rfl, rfl⟩ dR_)
 obtain ⟨m, q, t, hc1, hq1, hq2, hq3, rfl, rfl⟩ := hp
 obtain ⟨ht, hle, hz⟩ := cont_t hc1
 have htb : Byt ((bs.drop q).take (t - q)) := (hb.drop _).take _
 have htl : ((bs.drop q).take (t - q)).length = t - q := by rw [List.length_take, List.length_drop]; omega
 simp only [List.cons_append, List.nil_append]
 generalize htx : (bs.drop q).take (t - q) = tx at *
 try refine gL ?_
 refine RT.st T rfl rfl rfl (by ((repeat constructor);done)) (setN_set hx) rfl rfl ?_
 try refine gL ?_
 refine RT.ldB T rfl (rD (ho)) rfl rfl rfl rfl ?_
 try refine gL ?_
 refine RT.callC T (caps := []) rfl rfl fR_ (hof _) hg rfl rfl ?_
 rintro _ _ ⟨rfl, rfl⟩
 simp only [List.nil_append]
 try refine gL ?_
 refine RT.ldB T rfl (Cs.rd sE_) (u := vS tx) (by rw [List.getElem?_set_self hx]) rfl rfl rfl ?_
 refine RT.nes (l := tx) (l' := []) rfl rfl htb (fun _ h => by cases h) rfl rfl (fun hc => ?_) (fun hc => ?_)
 ·have h0 : ¬ 0 < m := by
   rw [hc] at htl
   simp only [List.length_nil] at htl
   omega
  rw [if_neg h0] at hz
  skip
  (refine RT.callP T rfl fR_ (need_f (rD (hD))) rfl rfl rfl (fun v H1 hp => ?_) (fun v H1 hp => ?_))
  ·obtain ⟨rfl, rfl⟩ := hp
   ((repeat refine nx ?_); exact AtQ.finP (H' := []) ⟨hz, rfl, rfl⟩ dR_)
  ·exact hp.elim
 ·have h0 : 0 < m := by
   have : tx.length ≠ 0 := fun h => hc (List.length_eq_zero_iff.1 h)
   omega
  rw [if_pos h0] at hz
  skip
  (refine RT.call T rfl fR_ (need_t) rfl rfl rfl ?_; rintro _ _ ⟨rfl, rfl⟩; try simp only [List.cons_append, List.nil_append])
  try refine gL ?_
  refine AtQ.ofFinN (AtQ.fin0 (H' := [Cs px 85 (xs.set off (vS tx)), rdo pr a n c t to]) Tryz.results189 ?_ (fun w h => h.frd (Ps := [_, _]) (Qs := []) fR_) _ (by first | exact .inl rfl | exact .inr rfl))
  exact ⟨m, q, t, hz, hq1, hq2, hq3, by rw [htx]⟩
set_option maxHeartbeats 1000000 in
theorem oneText_FieldDef_get (hT : Lib.Utf8Tabs 0 1 B) (hD : Rd B R (some ⟨pd, 0, none⟩) 1 1 3 [ptr pr, .int .i64 at_, .int .i64 deep]) (hR : Rd B R a n c 1 (ints .u8 bs)) (hb : Bytes bs) (h1 : p ≤ to) (h2 : to ≤ n) (h3 : n ≤ 16777216) (ho : Rd B R (some ⟨bo, 0, none⟩) 1 1 1 [.func (.func g) #[] #[]]) (hg : al T.funs g = some gb) (hof : ∀ R, Sp B Tryz.prog g [ptr px] R [] (fun v H' => v = .pointer (some ⟨px, off, none⟩) ∧ H' = [])) (hx : off < xs.length) :
  SpP B Tryz.prog 206 [ptr pd, ptr px, ptr bo] R [Cs px 240 xs, rdo pr a n c p to] (fun _ H' => ∃ m q t, contL .t bs p to = some (m, q, t) ∧ t ≤ to ∧ q ≤ t ∧ p < q ∧ H' = [Cs px 240 (xs.set off (vS ((bs.drop q).take (t - q)))), rdo pr a n c t to]) (fun v H' => contL .t bs p to = none ∧ v = wrv at_ ∧ H' = []) := by
 have hbl := hR.lenI
 refine SpP.body Tryz.func206 rfl Tryz.ntmps206 (by simp) ?_
 simp only [argE, List.cons_append, List.nil_append, Nat.zero_add, Nat.reduceAdd]
 try refine gL ?_
 refine RT.ldB T rfl (rD (ho)) rfl rfl rfl rfl ?_
 try refine gL ?_
 refine RT.callC T (caps := []) rfl rfl fR_ (hof _) hg rfl rfl ?_
 rintro _ _ ⟨rfl, rfl⟩
 simp only [List.nil_append]
 try refine gL ?_
 (refine RT.callP T rfl fR_ (itext_fn hT (rD (hD)) (rD (hR)) hb h1 h2 h3) rfl rfl rfl (fun v H1 hp => ?_) (fun v H1 hp => ?_))
 ·obtain ⟨hn, rfl, rfl⟩ := hp
  ((repeat refine nx ?_); exact AtQ.finP (H' := []) ⟨cont_tn hn, rfl, rfl⟩ dR_)
 obtain ⟨m, q, t, hc1, hq1, hq2, hq3, rfl, rfl⟩ := hp
 obtain ⟨ht, hle, hz⟩ := cont_t hc1
 have htb : Byt ((bs.drop q).take (t - q)) := (hb.drop _).take _
 have htl : ((bs.drop q).take (t - q)).length = t - q := by rw [List.length_take, List.length_drop]; omega
 simp only [List.cons_append, List.nil_append]
 generalize htx : (bs.drop q).take (t - q) = tx at *
 try refine gL ?_
 refine RT.st T rfl rfl rfl (by ((repeat constructor);done)) (setN_set hx) rfl rfl ?_
 try refine gL ?_
 refine RT.ldB T rfl (rD (ho)) rfl rfl rfl rfl ?_
 try refine gL ?_
 refine RT.callC T (caps := []) rfl rfl fR_ (hof _) hg rfl rfl ?_
 rintro _ _ ⟨rfl, rfl⟩
 simp only [List.nil_append]
 try refine gL ?_
 refine RT.ldB T rfl (Cs.rd sE_) (u := vS tx) (by rw [List.getElem?_set_self hx]) rfl rfl rfl ?_
 refine RT.nes (l := tx) (l' := []) rfl rfl htb (fun _ h => by cases h) rfl rfl (fun hc => ?_) (fun hc => ?_)
 ·have h0 : ¬ 0 < m := by
   rw [hc] at htl
   simp only [List.length_nil] at htl
   omega
  rw [if_neg h0] at hz
  skip
  (refine RT.callP T rfl fR_ (need_f (rD (hD))) rfl rfl rfl (fun v H1 hp => ?_) (fun v H1 hp => ?_))
  ·obtain ⟨rfl, rfl⟩ := hp
   ((repeat refine nx ?_); exact AtQ.finP (H' := []) ⟨hz, rfl, rfl⟩ dR_)
  ·exact hp.elim
 ·have h0 : 0 < m := by
   have : tx.length ≠ 0 := fun h => hc (List.length_eq_zero_iff.1 h)
   omega
  rw [if_pos h0] at hz
  skip
  (refine RT.call T rfl fR_ (need_t) rfl rfl rfl ?_; rintro _ _ ⟨rfl, rfl⟩; try simp only [List.cons_append, List.nil_append])
  try refine gL ?_
  refine AtQ.ofFinN (AtQ.fin0 (H' := [Cs px 240 (xs.set off (vS tx)), rdo pr a n c t to]) Tryz.results206 ?_ (fun w h => h.frd (Ps := [_, _]) (Qs := []) fR_) _ (by first | exact .inl rfl | exact .inr rfl))
  exact ⟨m, q, t, hz, hq1, hq2, hq3, by rw [htx]⟩
set_option maxHeartbeats 1000000 in
theorem oneText_MessageDef_get (hT : Lib.Utf8Tabs 0 1 B) (hD : Rd B R (some ⟨pd, 0, none⟩) 1 1 3 [ptr pr, .int .i64 at_, .int .i64 deep]) (hR : Rd B R a n c 1 (ints .u8 bs)) (hb : Bytes bs) (h1 : p ≤ to) (h2 : to ≤ n) (h3 : n ≤ 16777216) (ho : Rd B R (some ⟨bo, 0, none⟩) 1 1 1 [.func (.func g) #[] #[]]) (hg : al T.funs g = some gb) (hof : ∀ R, Sp B Tryz.prog g [ptr px] R [] (fun v H' => v = .pointer (some ⟨px, off, none⟩) ∧ H' = [])) (hx : off < xs.length) :
  SpP B Tryz.prog 218 [ptr pd, ptr px, ptr bo] R [Cs px 187 xs, rdo pr a n c p to] (fun _ H' => ∃ m q t, contL .t bs p to = some (m, q, t) ∧ t ≤ to ∧ q ≤ t ∧ p < q ∧ H' = [Cs px 187 (xs.set off (vS ((bs.drop q).take (t - q)))), rdo pr a n c t to]) (fun v H' => contL .t bs p to = none ∧ v = wrv at_ ∧ H' = []) := by
 have hbl := hR.lenI
 refine SpP.body Tryz.func218 rfl Tryz.ntmps218 (by simp) ?_
 simp only [argE, List.cons_append, List.nil_append, Nat.zero_add, Nat.reduceAdd]
 try refine gL ?_
 refine RT.ldB T rfl (rD (ho)) rfl rfl rfl rfl ?_
 try refine gL ?_
 refine RT.callC T (caps := []) rfl rfl fR_ (hof _) hg rfl rfl ?_
 rintro _ _ ⟨rfl, rfl⟩
 simp only [List.nil_append]
 try refine gL ?_
 (refine RT.callP T rfl fR_ (itext_fn hT (rD (hD)) (rD (hR)) hb h1 h2 h3) rfl rfl rfl (fun v H1 hp => ?_) (fun v H1 hp => ?_))
 ·obtain ⟨hn, rfl, rfl⟩ := hp
  ((repeat refine nx ?_); exact AtQ.finP (H' := []) ⟨cont_tn hn, rfl, rfl⟩ dR_)
 obtain ⟨m, q, t, hc1, hq1, hq2, hq3, rfl, rfl⟩ := hp
 obtain ⟨ht, hle, hz⟩ := cont_t hc1
 have htb : Byt ((bs.drop q).take (t - q)) := (hb.drop _).take _
 have htl : ((bs.drop q).take (t - q)).length = t - q := by rw [List.length_take, List.length_drop]; omega
 simp only [List.cons_append, List.nil_append]
 generalize htx : (bs.drop q).take (t - q) = tx at *
 try refine gL ?_
 refine RT.st T rfl rfl rfl (by ((repeat constructor);done)) (setN_set hx) rfl rfl ?_
 try refine gL ?_
 refine RT.ldB T rfl (rD (ho)) rfl rfl rfl rfl ?_
 try refine gL ?_
 refine RT.callC T (caps := []) rfl rfl fR_ (hof _) hg rfl rfl ?_
 rintro _ _ ⟨rfl, rfl⟩
 simp only [List.nil_append]
 try refine gL ?_
 refine RT.ldB T rfl (Cs.rd sE_) (u := vS tx) (by rw [List.getElem?_set_self hx]) rfl rfl rfl ?_
 refine RT.nes (l := tx) (l' := []) rfl rfl htb (fun _ h => by cases h) rfl rfl (fun hc => ?_) (fun hc => ?_)
 ·have h0 : ¬ 0 < m := by
   rw [hc] at htl
   simp only [List.length_nil] at htl
   omega
  rw [if_neg h0] at hz
  skip
  (refine RT.callP T rfl fR_ (need_f (rD (hD))) rfl rfl rfl (fun v H1 hp => ?_) (fun v H1 hp => ?_))
  ·obtain ⟨rfl, rfl⟩ := hp
   ((repeat refine nx ?_); exact AtQ.finP (H' := []) ⟨hz, rfl, rfl⟩ dR_)
  ·exact hp.elim
 ·have h0 : 0 < m := by
   have : tx.length ≠ 0 := fun h => hc (List.length_eq_zero_iff.1 h)
   omega
  rw [if_pos h0] at hz
  skip
  (refine RT.call T rfl fR_ (need_t) rfl rfl rfl ?_; rintro _ _ ⟨rfl, rfl⟩; try simp only [List.cons_append, List.nil_append])
  try refine gL ?_
  refine AtQ.ofFinN (AtQ.fin0 (H' := [Cs px 187 (xs.set off (vS tx)), rdo pr a n c t to]) Tryz.results218 ?_ (fun w h => h.frd (Ps := [_, _]) (Qs := []) fR_) _ (by first | exact .inl rfl | exact .inr rfl))
  exact ⟨m, q, t, hz, hq1, hq2, hq3, by rw [htx]⟩
set_option maxHeartbeats 1000000 in
theorem oneText_Import_get (hT : Lib.Utf8Tabs 0 1 B) (hD : Rd B R (some ⟨pd, 0, none⟩) 1 1 3 [ptr pr, .int .i64 at_, .int .i64 deep]) (hR : Rd B R a n c 1 (ints .u8 bs)) (hb : Bytes bs) (h1 : p ≤ to) (h2 : to ≤ n) (h3 : n ≤ 16777216) (ho : Rd B R (some ⟨bo, 0, none⟩) 1 1 1 [.func (.func g) #[] #[]]) (hg : al T.funs g = some gb) (hof : ∀ R, Sp B Tryz.prog g [ptr px] R [] (fun v H' => v = .pointer (some ⟨px, off, none⟩) ∧ H' = [])) (hx : off < xs.length) :
  SpP B Tryz.prog 236 [ptr pd, ptr px, ptr bo] R [Cs px 161 xs, rdo pr a n c p to] (fun _ H' => ∃ m q t, contL .t bs p to = some (m, q, t) ∧ t ≤ to ∧ q ≤ t ∧ p < q ∧ H' = [Cs px 161 (xs.set off (vS ((bs.drop q).take (t - q)))), rdo pr a n c t to]) (fun v H' => contL .t bs p to = none ∧ v = wrv at_ ∧ H' = []) := by
 have hbl := hR.lenI
 refine SpP.body Tryz.func236 rfl Tryz.ntmps236 (by simp) ?_
 simp only [argE, List.cons_append, List.nil_append, Nat.zero_add, Nat.reduceAdd]
 try refine gL ?_
 refine RT.ldB T rfl (rD (ho)) rfl rfl rfl rfl ?_
 try refine gL ?_
 refine RT.callC T (caps := []) rfl rfl fR_ (hof _) hg rfl rfl ?_
 rintro _ _ ⟨rfl, rfl⟩
 simp only [List.nil_append]
 try refine gL ?_
 (refine RT.callP T rfl fR_ (itext_fn hT (rD (hD)) (rD (hR)) hb h1 h2 h3) rfl rfl rfl (fun v H1 hp => ?_) (fun v H1 hp => ?_))
 ·obtain ⟨hn, rfl, rfl⟩ := hp
  ((repeat refine nx ?_); exact AtQ.finP (H' := []) ⟨cont_tn hn, rfl, rfl⟩ dR_)
 obtain ⟨m, q, t, hc1, hq1, hq2, hq3, rfl, rfl⟩ := hp
 obtain ⟨ht, hle, hz⟩ := cont_t hc1
 have htb : Byt ((bs.drop q).take (t - q)) := (hb.drop _).take _
 have htl : ((bs.drop q).take (t - q)).length = t - q := by rw [List.length_take, List.length_drop]; omega
 simp only [List.cons_append, List.nil_append]
 generalize htx : (bs.drop q).take (t - q) = tx at *
 try refine gL ?_
 refine RT.st T rfl rfl rfl (by ((repeat constructor);done)) (setN_set hx) rfl rfl ?_
 try refine gL ?_
 refine RT.ldB T rfl (rD (ho)) rfl rfl rfl rfl ?_
 try refine gL ?_
 refine RT.callC T (caps := []) rfl rfl fR_ (hof _) hg rfl rfl ?_
 rintro _ _ ⟨rfl, rfl⟩
 simp only [List.nil_append]
 try refine gL ?_
 refine RT.ldB T rfl (Cs.rd sE_) (u := vS tx) (by rw [List.getElem?_set_self hx]) rfl rfl rfl ?_
 refine RT.nes (l := tx) (l' := []) rfl rfl htb (fun _ h => by cases h) rfl rfl (fun hc => ?_) (fun hc => ?_)
 ·have h0 : ¬ 0 < m := by
   rw [hc] at htl
   simp only [List.length_nil] at htl
   omega
  rw [if_neg h0] at hz
  skip
  (refine RT.callP T rfl fR_ (need_f (rD (hD))) rfl rfl rfl (fun v H1 hp => ?_) (fun v H1 hp => ?_))
  ·obtain ⟨rfl, rfl⟩ := hp
   ((repeat refine nx ?_); exact AtQ.finP (H' := []) ⟨hz, rfl, rfl⟩ dR_)
  ·exact hp.elim
 ·have h0 : 0 < m := by
   have : tx.length ≠ 0 := fun h => hc (List.length_eq_zero_iff.1 h)
   omega
  rw [if_pos h0] at hz
  skip
  (refine RT.call T rfl fR_ (need_t) rfl rfl rfl ?_; rintro _ _ ⟨rfl, rfl⟩; try simp only [List.cons_append, List.nil_append])
  try refine gL ?_
  refine AtQ.ofFinN (AtQ.fin0 (H' := [Cs px 161 (xs.set off (vS tx)), rdo pr a n c t to]) Tryz.results236 ?_ (fun w h => h.frd (Ps := [_, _]) (Qs := []) fR_) _ (by first | exact .inl rfl | exact .inr rfl))
  exact ⟨m, q, t, hz, hq1, hq2, hq3, by rw [htx]⟩
set_option maxHeartbeats 1000000 in
theorem oneText_File_get (hT : Lib.Utf8Tabs 0 1 B) (hD : Rd B R (some ⟨pd, 0, none⟩) 1 1 3 [ptr pr, .int .i64 at_, .int .i64 deep]) (hR : Rd B R a n c 1 (ints .u8 bs)) (hb : Bytes bs) (h1 : p ≤ to) (h2 : to ≤ n) (h3 : n ≤ 16777216) (ho : Rd B R (some ⟨bo, 0, none⟩) 1 1 1 [.func (.func g) #[] #[]]) (hg : al T.funs g = some gb) (hof : ∀ R, Sp B Tryz.prog g [ptr px] R [] (fun v H' => v = .pointer (some ⟨px, off, none⟩) ∧ H' = [])) (hx : off < xs.length) :
  SpP B Tryz.prog 240 [ptr pd, ptr px, ptr bo] R [Cs px 75 xs, rdo pr a n c p to] (fun _ H' => ∃ m q t, contL .t bs p to = some (m, q, t) ∧ t ≤ to ∧ q ≤ t ∧ p < q ∧ H' = [Cs px 75 (xs.set off (vS ((bs.drop q).take (t - q)))), rdo pr a n c t to]) (fun v H' => contL .t bs p to = none ∧ v = wrv at_ ∧ H' = []) := by
 have hbl := hR.lenI
 refine SpP.body Tryz.func240 rfl Tryz.ntmps240 (by simp) ?_
 simp only [argE, List.cons_append, List.nil_append, Nat.zero_add, Nat.reduceAdd]
 try refine gL ?_
 refine RT.ldB T rfl (rD (ho)) rfl rfl rfl rfl ?_
 try refine gL ?_
 refine RT.callC T (caps := []) rfl rfl fR_ (hof _) hg rfl rfl ?_
 rintro _ _ ⟨rfl, rfl⟩
 simp only [List.nil_append]
 try refine gL ?_
 (refine RT.callP T rfl fR_ (itext_fn hT (rD (hD)) (rD (hR)) hb h1 h2 h3) rfl rfl rfl (fun v H1 hp => ?_) (fun v H1 hp => ?_))
 ·obtain ⟨hn, rfl, rfl⟩ := hp
  ((repeat refine nx ?_); exact AtQ.finP (H' := []) ⟨cont_tn hn, rfl, rfl⟩ dR_)
 obtain ⟨m, q, t, hc1, hq1, hq2, hq3, rfl, rfl⟩ := hp
 obtain ⟨ht, hle, hz⟩ := cont_t hc1
 have htb : Byt ((bs.drop q).take (t - q)) := (hb.drop _).take _
 have htl : ((bs.drop q).take (t - q)).length = t - q := by rw [List.length_take, List.length_drop]; omega
 simp only [List.cons_append, List.nil_append]
 generalize htx : (bs.drop q).take (t - q) = tx at *
 try refine gL ?_
 refine RT.st T rfl rfl rfl (by ((repeat constructor);done)) (setN_set hx) rfl rfl ?_
 try refine gL ?_
 refine RT.ldB T rfl (rD (ho)) rfl rfl rfl rfl ?_
 try refine gL ?_
 refine RT.callC T (caps := []) rfl rfl fR_ (hof _) hg rfl rfl ?_
 rintro _ _ ⟨rfl, rfl⟩
 simp only [List.nil_append]
 try refine gL ?_
 refine RT.ldB T rfl (Cs.rd sE_) (u := vS tx) (by rw [List.getElem?_set_self hx]) rfl rfl rfl ?_
 refine RT.nes (l := tx) (l' := []) rfl rfl htb (fun _ h => by cases h) rfl rfl (fun hc => ?_) (fun hc => ?_)
 ·have h0 : ¬ 0 < m := by
   rw [hc] at htl
   simp only [List.length_nil] at htl
   omega
  rw [if_neg h0] at hz
  skip
  (refine RT.callP T rfl fR_ (need_f (rD (hD))) rfl rfl rfl (fun v H1 hp => ?_) (fun v H1 hp => ?_))
  ·obtain ⟨rfl, rfl⟩ := hp
   ((repeat refine nx ?_); exact AtQ.finP (H' := []) ⟨hz, rfl, rfl⟩ dR_)
  ·exact hp.elim
 ·have h0 : 0 < m := by
   have : tx.length ≠ 0 := fun h => hc (List.length_eq_zero_iff.1 h)
   omega
  rw [if_pos h0] at hz
  skip
  (refine RT.call T rfl fR_ (need_t) rfl rfl rfl ?_; rintro _ _ ⟨rfl, rfl⟩; try simp only [List.cons_append, List.nil_append])
  try refine gL ?_
  refine AtQ.ofFinN (AtQ.fin0 (H' := [Cs px 75 (xs.set off (vS tx)), rdo pr a n c t to]) Tryz.results240 ?_ (fun w h => h.frd (Ps := [_, _]) (Qs := []) fR_) _ (by first | exact .inl rfl | exact .inr rfl))
  exact ⟨m, q, t, hz, hq1, hq2, hq3, by rw [htx]⟩
end Go.Proofs.YtclcnhfponjdaaaGreatDoor
end
section
namespace Go.Proofs.YtclcnhfponjdaaaGreatDoor
open Go.Sk
set_option maxRecDepth 100000
attribute [local irreducible] Cs Own Ex Pu Yld RT LJ QJ AtQ CT Rd QSp Sp FinQ Then LoopQ CutQ DT TakeQ EffQ
variable {B : World} {R : List HP} {pd pr px bo off n c p to : Nat} {a : Option Addr} {at_ deep : Int} {bs : Txt} {g : FuncId} {gb : Bool} {xs : List Value}

set_option maxHeartbeats 4000000 in
theorem someTexts_EnumDef_get (hT : Lib.Utf8Tabs 0 1 B) (hD : Rd B R (some ⟨pd, 0, none⟩) 1 1 3 [ptr pr, .int .i64 at_, .int .i64 deep]) (hR : Rd B R a n c 1 (ints .u8 bs)) (hb : Bytes bs) (h1 : p ≤ to) (h2 : to ≤ n) (h3 : n ≤ 16777216) (ho : Rd B R (some ⟨bo, 0, none⟩) 1 1 1 [.func (.func g) #[] #[]]) (hg : al T.funs g = some gb) (hof : ∀ R, Sp B Tryz.prog g [ptr px] R [] (fun v H' => v = .pointer (some ⟨px, off, none⟩) ∧ H' = [])) {ar : Option Addr} {cr : Nat} {ls : List Txt} (hu : xs[off]? = some (.slice ar ls.length cr)) (hll : ls.length ≤ 16777216) :
  SpP B Tryz.prog 204 [ptr pd, ptr px, ptr bo] R [Cs px 85 xs, Own ar cr 9 1 ls.length (tstr ls), rdo pr a n c p to] (fun _ H' => ∃ m q t a' c', contL .ts bs p to = some (m, q, t) ∧ t ≤ to ∧ q ≤ t ∧ p < q ∧ H' = [Cs px 85 (xs.set off (.slice a' (ls.length + 1) c')), Own a' c' 9 1 (ls.length + 1) (tstr (ls ++ [(bs.drop q).take (t - q)])), rdo pr a n c t to]) (fun v H' => contL .ts bs p to = none ∧ v = wrv at_ ∧ H' = []) := by
 have hx : off < xs.length := (List.getElem?_eq_some_iff.1 hu).1
 have hbl := hR.lenI
 refine SpP.body Tryz.func204 rfl Tryz.ntmps204 (by simp) ?_
 simp only [argE, List.cons_append, List.nil_append, Nat.zero_add, Nat.reduceAdd]
 refine CT.drawnP (Cs px 85 xs :: R) 11 mixed ?_
 refine DTP.takes (k := 9) [0, 1, 3, 4, 8] [2, 5, 6, 7, 9, 10, 11] FinP.panAct (fun w h => h.frd (Ps := [_]) (Qs := [_, _]) fR_) (by kernel_rfl) (by kernel_rfl) (by kernel_rfl) rfl (Clos.ofB (by kernel_rfl)) ?_
 refine RT.ldB T rfl (rD (ho)) rfl rfl rfl rfl ?_
 try refine gL ?_
 refine RT.ldB T rfl (rD (ho)) rfl rfl rfl rfl ?_
 try refine gL ?_
 refine AtQ.takeP ?_
 refine DTP.eff 2 rfl (by kernel_rfl) ?_
 refine RT.callC T (caps := []) rfl rfl fR_ (hof _) hg rfl rfl ?_
 rintro _ _ ⟨rfl, rfl⟩
 simp only [List.nil_append]
 try refine gL ?_
 refine AtQ.effP (fun w h => h.frd (Ps := [_]) (Qs := [_, _]) fR_) ?_
 refine DTP.eff 5 rfl (by kernel_rfl) ?_
 refine RT.callC T (caps := []) rfl rfl fR_ (hof _) hg rfl rfl ?_
 rintro _ _ ⟨rfl, rfl⟩
 simp only [List.nil_append]
 try refine gL ?_
 refine AtQ.effP (fun w h => h.frd (Ps := [_]) (Qs := [_, _]) fR_) ?_
 refine DTP.takes (k := 5) [6, 7] [9, 10, 11] FinP.panAct (fun w h => h.frd (Ps := [_]) (Qs := [_, _]) fR_) (by kernel_rfl) (by kernel_rfl) (by kernel_rfl) rfl (Clos.ofB (by kernel_rfl)) ?_
 refine RT.nilG rfl rfl rfl ?_
 refine RT.ldB T rfl (Cs.rd .h) hu rfl rfl rfl ?_
 try refine gL ?_
 refine AtQ.takeP ?_
 refine DTP.eff 9 rfl (by kernel_rfl) ?_
 (refine RT.callP T rfl fR_ (itext_fn hT (rD (hD)) (rD (hR)) hb h1 h2 h3) rfl rfl rfl (fun v H1 hp => ?_) (fun v H1 hp => ?_))
 ·obtain ⟨hn, rfl, rfl⟩ := hp
  ((repeat refine nx ?_); exact AtQ.finP (H' := []) ⟨hn, rfl, rfl⟩ dR_)
 obtain ⟨m, q, t, hc1, hq1, hq2, hq3, rfl, rfl⟩ := hp
 simp only [List.cons_append, List.nil_append]
 have htb : Byt ((bs.drop q).take (t - q)) := (hb.drop _).take _
 have htl : ((bs.drop q).take (t - q)).length = t - q := by rw [List.length_take, List.length_drop]; omega
 generalize htx : (bs.drop q).take (t - q) = tx at *
 try refine gL ?_
 refine AtQ.effP (fun w h => h.frd (Ps := [_]) (Qs := [_, _]) fR_) ?_
 refine DTP.eff 10 rfl (by kernel_rfl) ?_
 refine RT.bs T (l := [vS tx]) rfl rfl rfl rfl rfl rfl rfl (fun a9 c9 h9 => ?_)
 try refine gL ?_
 refine AtQ.effP (fun w h => h.frd (Ps := [_]) (Qs := [_, _, _]) fR_) ?_
 refine DTP.eff 11 rfl (by kernel_rfl) ?_
 refine RT.app T (xs := tstr ls) (ys := [vS tx]) rfl rfl rfl (fun a' c' => by ((repeat constructor);done)) (Own.rd sE_ rfl h9) (fun u hu => by rw [List.mem_singleton.1 hu]; rfl) (by omega) (by omega) rfl rfl rfl rfl (fun a' c' hac => ?_)
 try refine gL ?_
 refine AtQ.effP' (by kernel_rfl) ?_
 refine DTP.eff 12 rfl (by kernel_rfl) ?_
 refine RT.nilG rfl rfl rfl ?_
 try refine gL ?_
 refine AtQ.effP' (by kernel_rfl) ?_
 refine DTP.eff 13 rfl (by kernel_rfl) ?_
 refine RT.st T rfl rfl rfl (by ((repeat constructor);done)) (setN_set hx) rfl rfl ?_
 try refine gL ?_
 refine AtQ.effP' (by kernel_rfl) ?_
 refine DTP.done (by kernel_rfl) ?_
 skip
 refine AtQ.ofFinN (AtQ.fin0 (H' := [Cs px 85 (xs.set off (.slice a' (ls.length + 1) c')), Own a' c' 9 1 (ls.length + 1) (tstr (ls ++ [tx])), rdo pr a n c t to]) Tryz.results204 ?_ (fun w h => ?_) _ (by first | exact .inl rfl | exact .inr rfl))
 ·exact ⟨m, q, t, a', c', hc1, hq1, hq2, hq3, by rw [htx]⟩
 ·rw [← tstr_app]
  exact h.frd (Ps := [_, _, _]) (Qs := [_]) fR_
set_option maxHeartbeats 4000000 in
theorem someTexts_MessageDef_get (hT : Lib.Utf8Tabs 0 1 B) (hD : Rd B R (some ⟨pd, 0, none⟩) 1 1 3 [ptr pr, .int .i64 at_, .int .i64 deep]) (hR : Rd B R a n c 1 (ints .u8 bs)) (hb : Bytes bs) (h1 : p ≤ to) (h2 : to ≤ n) (h3 : n ≤ 16777216) (ho : Rd B R (some ⟨bo, 0, none⟩) 1 1 1 [.func (.func g) #[] #[]]) (hg : al T.funs g = some gb) (hof : ∀ R, Sp B Tryz.prog g [ptr px] R [] (fun v H' => v = .pointer (some ⟨px, off, none⟩) ∧ H' = [])) {ar : Option Addr} {cr : Nat} {ls : List Txt} (hu : xs[off]? = some (.slice ar ls.length cr)) (hll : ls.length ≤ 16777216) :
  SpP B Tryz.prog 224 [ptr pd, ptr px, ptr bo] R [Cs px 187 xs, Own ar cr 9 1 ls.length (tstr ls), rdo pr a n c p to] (fun _ H' => ∃ m q t a' c', contL .ts bs p to = some (m, q, t) ∧ t ≤ to ∧ q ≤ t ∧ p < q ∧ H' = [Cs px 187 (xs.set off (.slice a' (ls.length + 1) c')), Own a' c' 9 1 (ls.length + 1) (tstr (ls ++ [(bs.drop q).take (t - q)])), rdo pr a n c t to]) (fun v H' => contL .ts bs p to = none ∧ v = wrv at_ ∧ H' = []) := by
 have hx : off < xs.length := (List.getElem?_eq_some_iff.1 hu).1
 have hbl := hR.lenI
 refine SpP.body Tryz.func224 rfl Tryz.ntmps224 (by simp) ?_
 simp only [argE, List.cons_append, List.nil_append, Nat.zero_add, Nat.reduceAdd]
 refine CT.drawnP (Cs px 187 xs :: R) 11 mixed ?_
 refine DTP.takes (k := 9) [0, 1, 3, 4, 8] [2, 5, 6, 7, 9, 10, 11] FinP.panAct (fun w h => h.frd (Ps := [_]) (Qs := [_, _]) fR_) (by kernel_rfl) (by kernel_rfl) (by kernel_rfl) rfl (Clos.ofB (by kernel_rfl)) ?_
 refine RT.ldB T rfl (rD (ho)) rfl rfl rfl rfl ?_
 try refine gL ?_
 refine RT.ldB T rfl (rD (ho)) rfl rfl rfl rfl ?_
 try refine gL ?_
 refine AtQ.takeP ?_
 refine DTP.eff 2 rfl (by kernel_rfl) ?_
 refine RT.callC T (caps := []) rfl rfl fR_ (hof _) hg rfl rfl ?_
 rintro _ _ ⟨rfl, rfl⟩
 simp only [List.nil_append]
 try refine gL ?_
 refine AtQ.effP (fun w h => h.frd (Ps := [_]) (Qs := [_, _]) fR_) ?_
 refine DTP.eff 5 rfl (by kernel_rfl) ?_
 refine RT.callC T (caps := []) rfl rfl fR_ (hof _) hg rfl rfl ?_
 rintro _ _ ⟨rfl, rfl⟩
 simp only [List.nil_append]
 try refine gL ?_
 refine AtQ.effP (fun w h => h.frd (Ps := [_]) (Qs := [_, _]) fR_) ?_
 refine DTP.takes (k := 5) [6, 7] [9, 10, 11] FinP.panAct (fun w h => h.frd (Ps := [_]) (Qs := [_, _]) fR_) (by kernel_rfl) (by kernel_rfl) (by kernel_rfl) rfl (Clos.ofB (by kernel_rfl)) ?_
 refine RT.nilG rfl rfl rfl ?_
 refine RT.ldB T rfl (Cs.rd .h) hu rfl rfl rfl ?_
 try refine gL ?_
 refine AtQ.takeP ?_
 refine DTP.eff 9 rfl (by kernel_rfl) ?_
 (refine RT.callP T rfl fR_ (itext_fn hT (rD (hD)) (rD (hR)) hb h1 h2 h3) rfl rfl rfl (fun v H1 hp => ?_) (fun v H1 hp => ?_))
 ·obtain ⟨hn, rfl, rfl⟩ := hp
  ((repeat refine nx ?_); exact AtQ.finP (H' := []) ⟨hn, rfl, rfl⟩ dR_)
 obtain ⟨m, q, t, hc1, hq1, hq2, hq3, rfl, rfl⟩ := hp
 simp only [List.cons_append, List.nil_append]
 have htb : Byt ((bs.drop q).take (t - q)) := (hb.drop _).take _
 have htl : ((bs.drop q).take (t - q)).length = t - q := by rw [List.length_take, List.length_drop]; omega
 generalize htx : (bs.drop q).take (t - q) = tx at *
 try refine gL ?_
 refine AtQ.effP (fun w h => h.frd (Ps := [_]) (Qs := [_, _]) fR_) ?_
 refine DTP.eff 10 rfl (by kernel_rfl) ?_
 refine RT.bs T (l := [vS tx]) rfl rfl rfl rfl rfl rfl rfl (fun a9 c9 h9 => ?_)
 try refine gL ?_
 refine AtQ.effP (fun w h => h.frd (Ps := [_]) (Qs := [_, _, _]) fR_) ?_
 refine DTP.eff 11 rfl (by kernel_rfl) ?_
 refine RT.app T (xs := tstr ls) (ys := [vS tx]) rfl rfl rfl (fun a' c' => by ((repeat constructor);done)) (Own.rd sE_ rfl h9) (fun u hu => by rw [List.mem_singleton.1 hu]; rfl) (by omega) (by omega) rfl rfl rfl rfl (fun a' c' hac => ?_)
 try refine gL ?_
 refine AtQ.effP' (by kernel_rfl) ?_
 refine DTP.eff 12 rfl (by kernel_rfl) ?_
 refine RT.nilG rfl rfl rfl ?_
 try refine gL ?_
 refine AtQ.effP' (by kernel_rfl) ?_
 refine DTP.eff 13 rfl (by kernel_rfl) ?_
 refine RT.st T rfl rfl rfl (by ((repeat constructor);done)) (setN_set hx) rfl rfl ?_
 try refine gL ?_
 refine AtQ.effP' (by kernel_rfl) ?_
 refine DTP.done (by kernel_rfl) ?_
 skip
 refine AtQ.ofFinN (AtQ.fin0 (H' := [Cs px 187 (xs.set off (.slice a' (ls.length + 1) c')), Own a' c' 9 1 (ls.length + 1) (tstr (ls ++ [tx])), rdo pr a n c t to]) Tryz.results224 ?_ (fun w h => ?_) _ (by first | exact .inl rfl | exact .inr rfl))
 ·exact ⟨m, q, t, a', c', hc1, hq1, hq2, hq3, by rw [htx]⟩
 ·rw [← tstr_app]
  exact h.frd (Ps := [_, _, _]) (Qs := [_]) fR_
end Go.Proofs.YtclcnhfponjdaaaGreatDoor
end
