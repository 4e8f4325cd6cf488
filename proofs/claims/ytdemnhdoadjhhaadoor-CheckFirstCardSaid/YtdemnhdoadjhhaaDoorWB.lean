/- Merged: H3, B18, G1, G2, G3, P3, G4, H4, H5, H6. -/
import Derived.Test.YtdemnhdoadjhhaaDoorWA
import Derived.Lib.Bytealg
import Derived.Test.YtdemnhdoadjhhaaDoorSkA
import Derived.Test.YtdemnhdoadjhhaaDoorTab
set_option linter.unusedVariables false
set_option linter.unusedSimpArgs false
section
namespace Go.Proofs.YtdemnhdoadjhhaaDoor
open Go.Sk
set_option maxRecDepth 100000
/-- That some byte is among them. -/
theorem idx_mem {l : List Int} (hb : Byt l) {c : Int} (hc : 0 ≤ c ∧ c ≤ 255) : decide (0 ≤ Lib.indexByte (str l).data.toList c.toNat.toUInt8) = decide (c ∈ l) := by
  have key : ∀ (m : List Int), Byt m → (0 ≤ Lib.indexByte ((str m).data.toList) c.toNat.toUInt8 ↔ c ∈ m) := by
    intro m
    induction m with
    | nil => intro _; simp [str, Lib.indexByte]
    | cons x m ih =>
      intro hm
      have hx := hm x (by simp)
      unfold isB at hx
      have ihm := ih (fun y hy => hm y (by simp [hy]))
      have hge := Lib.indexByte_ge ((str m).data.toList) c.toNat.toUInt8
      have hcons : (str (x :: m)).data.toList = x.toNat.toUInt8 :: (str m).data.toList := by rw [str_list, str_list]; rfl
      rw [hcons, Lib.indexByte]
      have heq : (x.toNat.toUInt8 == c.toNat.toUInt8) = decide (x = c) := by
        rw [Bool.eq_iff_iff, beq_iff_eq, decide_eq_true_eq]
        constructor
        · intro h
          have := congrArg UInt8.toNat h
          simp at this
          omega
        · rintro rfl; rfl
      rw [heq]
      by_cases h : x = c
      · rw [decide_eq_true h]; simp [h]
      · rw [decide_eq_false h]
        simp only [List.mem_cons]
        rw [if_neg (by decide)]
        constructor
        · intro h2
          right
          apply ihm.1
          split at h2
          · omega
          · rename_i hne
            rw [beq_iff_eq] at hne
            omega
        · rintro (h2 | h2)
          · exact absurd h2.symm h
          · have := ihm.2 h2
            rw [if_neg (by rw [beq_iff_eq]; omega)]
            omega
  rw [Bool.eq_iff_iff, decide_eq_true_eq, decide_eq_true_eq]
  exact key l hb
attribute [local irreducible] Cs Own Ex Pu Yld RT LJ QJ AtQ CT Rd QSp Sp FinQ Then LoopQ CutQ DT TakeQ EffQ
variable {B : World} {R : List HP}
section
variable {n : Fm} {m : Bool} {l0 rest : List Oper} {E : Env} {H : List HP} {Q : Exit → Act → World → Prop} {d : Nat} {ty : TypeId} {pos : String} {af : Array Edge} {g : Option (Nat × Bool)} {x y : Operand} {ats : Array TypeId}
theorem RT.ibyte {s : ByteArray} {c : Int} (hx : ev E x = some (.string s)) (hy : ev E y = some (.int .u8 c)) (hw : wt l0 E g = some true) (hd : Nat.blt d n = true)
    (kk : RT B Tryd.prog n m l0 rest ((d, .int .i64 (Lib.indexByte s.data.toList c.toNat.toUInt8)) :: E) H Q) :
    RT B Tryd.prog n m l0 (⟨some d, .call { callee := .value (.func 94), args := #[x, y], argTypes := ats }, ty, pos, af, g⟩ :: rest) E H Q :=
  RT.y hw (by simpa [Nat.blt_eq] using hd) (y_run fun o aa w ho _ hA _ => by
    have hcall : (callFunc 94 #[.string s, .int .u8 c]).run Tryd.prog w = .ok (.value (.int .i64 (Lib.indexByte s.data.toList c.toNat.toUInt8))) w := by
      rw [run_callFunc_extern Tryd.func94 (by kernel_rfl) (by kernel_rfl) (by kernel_rfl) (e := Extern.BytealgIndexByte.indexByte) (by kernel_rfl), Lib.run_indexByteString]
      rfl
    unfold execOp
    simp only [ho, resolve, Sem.run_bind, List.map_toArray, List.map_cons, List.map_nil, hA.ev hx, hA.ev hy, Sem.run_pure, Result.andThen_ok]
    simp only [Act.eval, Deferred.ofValue, invoke]
    simpa using hcall) kk
end
theorem ibyte_fn {l : List Int} {c : Int} : Sp B Tryd.prog 89 [vS l, .int .u8 c] R [] (fun v H' => v = .int .i64 (Lib.indexByte (str l).data.toList c.toNat.toUInt8) ∧ H' = []) := by
  refine Sp.body Tryd.func89 rfl Tryd.ntmps89 (by simp) ?_
  simp only [argE, List.cons_append, List.nil_append, Nat.zero_add, Nat.reduceAdd]
  repeat' (first|((first|refine vc_id ?_|(refine RT.id ?_;refine RT.c T ?_));(conv=>whnf);first|refine RT.id ?_|(refine⟨fun hc=>?_,fun hc=>?_⟩<;>first|(exfalso;omega)|skip)|(apply num_k;omega;omega)|(apply num_m;intro r hr)|(intro r hr))|(refine RT.id ?_;first|refine RT.nil ?_|(apply RT.ld T;exact rfl;(focus ((repeat constructor);done));iterate 4 exact rfl)|(apply RT.st T;(iterate 3 exact rfl);(focus ((repeat constructor);done));(focus repeat constructor);iterate 2 exact rfl)|((first|apply RT.box|apply RT.alloc T);(iterate 4 exact rfl);intro b)|refine RT.build T rfl rfl rfl rfl rfl ?_|(apply RT.lens T;iterate 4 exact rfl))|(refine AtQ.id_ ?_;first|refine nx ?_|refine A0 ?_|refine A9 ?_|refine AtQ.in_ne rfl ?_)|(refine CT.id_ ?_;first|refine nx ?_|refine CT.region ?_|refine CT.quiet mixed (by kernel_rfl) ?_|refine CT.cond_t rfl ?_|refine CT.cond_f rfl ?_))
  refine RT.ibyte rfl rfl rfl rfl ?_
  repeat' (first|((first|refine vc_id ?_|(refine RT.id ?_;refine RT.c T ?_));(conv=>whnf);first|refine RT.id ?_|(refine⟨fun hc=>?_,fun hc=>?_⟩<;>first|(exfalso;omega)|skip)|(apply num_k;omega;omega)|(apply num_m;intro r hr)|(intro r hr))|(refine RT.id ?_;first|refine RT.nil ?_|(apply RT.ld T;exact rfl;(focus ((repeat constructor);done));iterate 4 exact rfl)|(apply RT.st T;(iterate 3 exact rfl);(focus ((repeat constructor);done));(focus repeat constructor);iterate 2 exact rfl)|((first|apply RT.box|apply RT.alloc T);(iterate 4 exact rfl);intro b)|refine RT.build T rfl rfl rfl rfl rfl ?_|(apply RT.lens T;iterate 4 exact rfl))|(refine AtQ.id_ ?_;first|refine nx ?_|refine A0 ?_|refine A9 ?_|refine AtQ.in_ne rfl ?_)|(refine CT.id_ ?_;first|refine nx ?_|refine CT.region ?_|refine CT.quiet mixed (by kernel_rfl) ?_|refine CT.cond_t rfl ?_|refine CT.cond_f rfl ?_))
  exact AtQ.f1 Tryd.results89 rfl rfl (fun _ h => h)
theorem sindex_fn {l sep : List Int} (hsep : sep = [64]) (hb : Byt l) : Sp B Tryd.prog 85 [vS l, vS sep] R [] (fun v H' => v = .int .i64 (Lib.indexByte (str l).data.toList 64) ∧ H' = []) := by
  refine Sp.body Tryd.func85 rfl Tryd.ntmps85 (by simp) ?_
  simp only [argE, List.cons_append, List.nil_append, Nat.zero_add, Nat.reduceAdd]
  have hsl : sep.length = 1 := by rw [hsep]; rfl
  have hsb : Byt sep := by rw [hsep]; exact Byt.one (by unfold isB; decide)
  repeat' (first|((first|refine vc_id ?_|(refine RT.id ?_;refine RT.c T ?_));(conv=>whnf);first|refine RT.id ?_|(refine⟨fun hc=>?_,fun hc=>?_⟩<;>first|(exfalso;omega)|skip)|(apply num_k;omega;omega)|(apply num_m;intro r hr)|(intro r hr))|(refine RT.id ?_;first|refine RT.nil ?_|(apply RT.ld T;exact rfl;(focus ((repeat constructor);done));iterate 4 exact rfl)|(apply RT.st T;(iterate 3 exact rfl);(focus ((repeat constructor);done));(focus repeat constructor);iterate 2 exact rfl)|((first|apply RT.box|apply RT.alloc T);(iterate 4 exact rfl);intro b)|refine RT.build T rfl rfl rfl rfl rfl ?_|(apply RT.lens T;iterate 4 exact rfl))|(refine AtQ.id_ ?_;first|refine nx ?_|refine A0 ?_|refine A9 ?_|refine AtQ.in_ne rfl ?_)|(refine CT.id_ ?_;first|refine nx ?_|refine CT.region ?_|refine CT.quiet mixed (by kernel_rfl) ?_|refine CT.cond_t rfl ?_|refine CT.cond_f rfl ?_))
  refine RT.eqs (l := sep) (l' := l) rfl rfl hsb hb rfl rfl (fun h => ?_) (fun h => ?_)
  · repeat' (first|((first|refine vc_id ?_|(refine RT.id ?_;refine RT.c T ?_));(conv=>whnf);first|refine RT.id ?_|(refine⟨fun hc=>?_,fun hc=>?_⟩<;>first|(exfalso;omega)|skip)|(apply num_k;omega;omega)|(apply num_m;intro r hr)|(intro r hr))|(refine RT.id ?_;first|refine RT.nil ?_|(apply RT.ld T;exact rfl;(focus ((repeat constructor);done));iterate 4 exact rfl)|(apply RT.st T;(iterate 3 exact rfl);(focus ((repeat constructor);done));(focus repeat constructor);iterate 2 exact rfl)|((first|apply RT.box|apply RT.alloc T);(iterate 4 exact rfl);intro b)|refine RT.build T rfl rfl rfl rfl rfl ?_|(apply RT.lens T;iterate 4 exact rfl))|(refine AtQ.id_ ?_;first|refine nx ?_|refine A0 ?_|refine A9 ?_|refine AtQ.in_ne rfl ?_)|(refine CT.id_ ?_;first|refine nx ?_|refine CT.region ?_|refine CT.quiet mixed (by kernel_rfl) ?_|refine CT.cond_t rfl ?_|refine CT.cond_f rfl ?_))
    exact AtQ.f1 Tryd.results85 rfl (by rw [← h, hsep]; rfl) (fun _ h => h)
  · repeat' (first|((first|refine vc_id ?_|(refine RT.id ?_;refine RT.c T ?_));(conv=>whnf);first|refine RT.id ?_|(refine⟨fun hc=>?_,fun hc=>?_⟩<;>first|(exfalso;omega)|skip)|(apply num_k;omega;omega)|(apply num_m;intro r hr)|(intro r hr))|(refine RT.id ?_;first|refine RT.nil ?_|(apply RT.ld T;exact rfl;(focus ((repeat constructor);done));iterate 4 exact rfl)|(apply RT.st T;(iterate 3 exact rfl);(focus ((repeat constructor);done));(focus repeat constructor);iterate 2 exact rfl)|((first|apply RT.box|apply RT.alloc T);(iterate 4 exact rfl);intro b)|refine RT.build T rfl rfl rfl rfl rfl ?_|(apply RT.lens T;iterate 4 exact rfl))|(refine AtQ.id_ ?_;first|refine nx ?_|refine A0 ?_|refine A9 ?_|refine AtQ.in_ne rfl ?_)|(refine CT.id_ ?_;first|refine nx ?_|refine CT.region ?_|refine CT.quiet mixed (by kernel_rfl) ?_|refine CT.cond_t rfl ?_|refine CT.cond_f rfl ?_))
    (refine RT.ixs T (j := 0) rfl rfl (by omega) (by omega) (by assumption) rfl rfl rfl ?_)
    have h0 : sep.getD 0 0 = 64 := by rw [hsep]; rfl
    rw [h0]
    (refine RT.call T rfl (by (repeat (first|exact Fr.nil|(apply Fr.cons;focus ((repeat constructor);done))))) (ibyte_fn (l := l) (c := 64)) rfl rfl rfl ?_; rintro _ _ ⟨rfl, rfl⟩; try simp only [List.cons_append, List.nil_append])
    repeat' (first|((first|refine vc_id ?_|(refine RT.id ?_;refine RT.c T ?_));(conv=>whnf);first|refine RT.id ?_|(refine⟨fun hc=>?_,fun hc=>?_⟩<;>first|(exfalso;omega)|skip)|(apply num_k;omega;omega)|(apply num_m;intro r hr)|(intro r hr))|(refine RT.id ?_;first|refine RT.nil ?_|(apply RT.ld T;exact rfl;(focus ((repeat constructor);done));iterate 4 exact rfl)|(apply RT.st T;(iterate 3 exact rfl);(focus ((repeat constructor);done));(focus repeat constructor);iterate 2 exact rfl)|((first|apply RT.box|apply RT.alloc T);(iterate 4 exact rfl);intro b)|refine RT.build T rfl rfl rfl rfl rfl ?_|(apply RT.lens T;iterate 4 exact rfl))|(refine AtQ.id_ ?_;first|refine nx ?_|refine A0 ?_|refine A9 ?_|refine AtQ.in_ne rfl ?_)|(refine CT.id_ ?_;first|refine nx ?_|refine CT.region ?_|refine CT.quiet mixed (by kernel_rfl) ?_|refine CT.cond_t rfl ?_|refine CT.cond_f rfl ?_))
    exact AtQ.f1 Tryd.results85 rfl rfl (fun _ h => h)
theorem contains_fn {l : List Int} (hb : Byt l) : Sp B Tryd.prog 64 [vS l, vS [64]] R [] (fun v H' => v = .bool (decide ((64 : Int) ∈ l)) ∧ H' = []) := by
  have hsx : ∀ R, Sp B Tryd.prog 76 [vS l, vS [64]] R [] (fun v H' => v = .int .i64 (Lib.indexByte (str l).data.toList 64) ∧ H' = []) := fun R => by
    refine Sp.body Tryd.func76 rfl Tryd.ntmps76 (by simp) ?_
    simp only [argE, List.cons_append, List.nil_append, Nat.zero_add, Nat.reduceAdd]
    repeat' (first|((first|refine vc_id ?_|(refine RT.id ?_;refine RT.c T ?_));(conv=>whnf);first|refine RT.id ?_|(refine⟨fun hc=>?_,fun hc=>?_⟩<;>first|(exfalso;omega)|skip)|(apply num_k;omega;omega)|(apply num_m;intro r hr)|(intro r hr))|(refine RT.id ?_;first|refine RT.nil ?_|(apply RT.ld T;exact rfl;(focus ((repeat constructor);done));iterate 4 exact rfl)|(apply RT.st T;(iterate 3 exact rfl);(focus ((repeat constructor);done));(focus repeat constructor);iterate 2 exact rfl)|((first|apply RT.box|apply RT.alloc T);(iterate 4 exact rfl);intro b)|refine RT.build T rfl rfl rfl rfl rfl ?_|(apply RT.lens T;iterate 4 exact rfl))|(refine AtQ.id_ ?_;first|refine nx ?_|refine A0 ?_|refine A9 ?_|refine AtQ.in_ne rfl ?_)|(refine CT.id_ ?_;first|refine nx ?_|refine CT.region ?_|refine CT.quiet mixed (by kernel_rfl) ?_|refine CT.cond_t rfl ?_|refine CT.cond_f rfl ?_))
    (refine RT.call T rfl (by (repeat (first|exact Fr.nil|(apply Fr.cons;focus ((repeat constructor);done))))) (sindex_fn (l := l) (sep := [64]) rfl hb) rfl rfl rfl ?_; rintro _ _ ⟨rfl, rfl⟩; try simp only [List.cons_append, List.nil_append])
    repeat' (first|((first|refine vc_id ?_|(refine RT.id ?_;refine RT.c T ?_));(conv=>whnf);first|refine RT.id ?_|(refine⟨fun hc=>?_,fun hc=>?_⟩<;>first|(exfalso;omega)|skip)|(apply num_k;omega;omega)|(apply num_m;intro r hr)|(intro r hr))|(refine RT.id ?_;first|refine RT.nil ?_|(apply RT.ld T;exact rfl;(focus ((repeat constructor);done));iterate 4 exact rfl)|(apply RT.st T;(iterate 3 exact rfl);(focus ((repeat constructor);done));(focus repeat constructor);iterate 2 exact rfl)|((first|apply RT.box|apply RT.alloc T);(iterate 4 exact rfl);intro b)|refine RT.build T rfl rfl rfl rfl rfl ?_|(apply RT.lens T;iterate 4 exact rfl))|(refine AtQ.id_ ?_;first|refine nx ?_|refine A0 ?_|refine A9 ?_|refine AtQ.in_ne rfl ?_)|(refine CT.id_ ?_;first|refine nx ?_|refine CT.region ?_|refine CT.quiet mixed (by kernel_rfl) ?_|refine CT.cond_t rfl ?_|refine CT.cond_f rfl ?_))
    exact AtQ.f1 Tryd.results76 rfl rfl (fun _ h => h)
  refine Sp.body Tryd.func64 rfl Tryd.ntmps64 (by simp) ?_
  simp only [argE, List.cons_append, List.nil_append, Nat.zero_add, Nat.reduceAdd]
  repeat' (first|((first|refine vc_id ?_|(refine RT.id ?_;refine RT.c T ?_));(conv=>whnf);first|refine RT.id ?_|(refine⟨fun hc=>?_,fun hc=>?_⟩<;>first|(exfalso;omega)|skip)|(apply num_k;omega;omega)|(apply num_m;intro r hr)|(intro r hr))|(refine RT.id ?_;first|refine RT.nil ?_|(apply RT.ld T;exact rfl;(focus ((repeat constructor);done));iterate 4 exact rfl)|(apply RT.st T;(iterate 3 exact rfl);(focus ((repeat constructor);done));(focus repeat constructor);iterate 2 exact rfl)|((first|apply RT.box|apply RT.alloc T);(iterate 4 exact rfl);intro b)|refine RT.build T rfl rfl rfl rfl rfl ?_|(apply RT.lens T;iterate 4 exact rfl))|(refine AtQ.id_ ?_;first|refine nx ?_|refine A0 ?_|refine A9 ?_|refine AtQ.in_ne rfl ?_)|(refine CT.id_ ?_;first|refine nx ?_|refine CT.region ?_|refine CT.quiet mixed (by kernel_rfl) ?_|refine CT.cond_t rfl ?_|refine CT.cond_f rfl ?_))
  (refine RT.call T rfl (by (repeat (first|exact Fr.nil|(apply Fr.cons;focus ((repeat constructor);done))))) (hsx _) rfl rfl rfl ?_; rintro _ _ ⟨rfl, rfl⟩; try simp only [List.cons_append, List.nil_append])
  have hm := idx_mem hb (c := 64) (by decide)
  rw [show (64 : Int).toNat.toUInt8 = 64 from rfl] at hm
  generalize Lib.indexByte (str l).data.toList 64 = q at *
  repeat' (first|((first|refine vc_id ?_|(refine RT.id ?_;refine RT.c T ?_));(conv=>whnf);first|refine RT.id ?_|(refine⟨fun hc=>?_,fun hc=>?_⟩<;>first|(exfalso;omega)|skip)|(apply num_k;omega;omega)|(apply num_m;intro r hr)|(intro r hr))|(refine RT.id ?_;first|refine RT.nil ?_|(apply RT.ld T;exact rfl;(focus ((repeat constructor);done));iterate 4 exact rfl)|(apply RT.st T;(iterate 3 exact rfl);(focus ((repeat constructor);done));(focus repeat constructor);iterate 2 exact rfl)|((first|apply RT.box|apply RT.alloc T);(iterate 4 exact rfl);intro b)|refine RT.build T rfl rfl rfl rfl rfl ?_|(apply RT.lens T;iterate 4 exact rfl))|(refine AtQ.id_ ?_;first|refine nx ?_|refine A0 ?_|refine A9 ?_|refine AtQ.in_ne rfl ?_)|(refine CT.id_ ?_;first|refine nx ?_|refine CT.region ?_|refine CT.quiet mixed (by kernel_rfl) ?_|refine CT.cond_t rfl ?_|refine CT.cond_f rfl ?_))
  all_goals (refine AtQ.f1 Tryd.results64 rfl ?_ (fun _ h => h); rw [← hm]; congr 1; symm; first | (refine decide_eq_true ?_; omega) | (refine decide_eq_false ?_; omega))
theorem json_fn {f : FieldT} (hb : Byt f.js) (hn : Byt f.nm) (hl : f.nm.length ≤ 16777216) : Sp B Tryd.prog 65 [.agg f.cells.toArray] R [] (fun v H' => v = vS (jsonL f) ∧ H' = []) := by
  refine Sp.body Tryd.func65 rfl Tryd.ntmps65 (by simp) ?_
  simp only [argE, List.cons_append, List.nil_append, Nat.zero_add, Nat.reduceAdd]
  repeat' (first|((first|refine vc_id ?_|(refine RT.id ?_;refine RT.c T ?_));(conv=>whnf);first|refine RT.id ?_|(refine⟨fun hc=>?_,fun hc=>?_⟩<;>first|(exfalso;omega)|skip)|(apply num_k;omega;omega)|(apply num_m;intro r hr)|(intro r hr))|(refine RT.id ?_;first|refine RT.nil ?_|(apply RT.ld T;exact rfl;(focus ((repeat constructor);done));iterate 4 exact rfl)|(apply RT.st T;(iterate 3 exact rfl);(focus ((repeat constructor);done));(focus repeat constructor);iterate 2 exact rfl)|((first|apply RT.box|apply RT.alloc T);(iterate 4 exact rfl);intro b)|refine RT.build T rfl rfl rfl rfl rfl ?_|(apply RT.lens T;iterate 4 exact rfl))|(refine AtQ.id_ ?_;first|refine nx ?_|refine A0 ?_|refine A9 ?_|refine AtQ.in_ne rfl ?_)|(refine CT.id_ ?_;first|refine nx ?_|refine CT.region ?_|refine CT.quiet mixed (by kernel_rfl) ?_|refine CT.cond_t rfl ?_|refine CT.cond_f rfl ?_))
  refine RT.nes (l := f.js) (l' := []) rfl rfl hb Byt.nil rfl rfl (fun he => ?_) (fun he => ?_)
  · repeat' (first|((first|refine vc_id ?_|(refine RT.id ?_;refine RT.c T ?_));(conv=>whnf);first|refine RT.id ?_|(refine⟨fun hc=>?_,fun hc=>?_⟩<;>first|(exfalso;omega)|skip)|(apply num_k;omega;omega)|(apply num_m;intro r hr)|(intro r hr))|(refine RT.id ?_;first|refine RT.nil ?_|(apply RT.ld T;exact rfl;(focus ((repeat constructor);done));iterate 4 exact rfl)|(apply RT.st T;(iterate 3 exact rfl);(focus ((repeat constructor);done));(focus repeat constructor);iterate 2 exact rfl)|((first|apply RT.box|apply RT.alloc T);(iterate 4 exact rfl);intro b)|refine RT.build T rfl rfl rfl rfl rfl ?_|(apply RT.lens T;iterate 4 exact rfl))|(refine AtQ.id_ ?_;first|refine nx ?_|refine A0 ?_|refine A9 ?_|refine AtQ.in_ne rfl ?_)|(refine CT.id_ ?_;first|refine nx ?_|refine CT.region ?_|refine CT.quiet mixed (by kernel_rfl) ?_|refine CT.cond_t rfl ?_|refine CT.cond_f rfl ?_))
    (refine RT.call T rfl (by (repeat (first|exact Fr.nil|(apply Fr.cons;focus ((repeat constructor);done))))) (camel_fn (l := f.nm) hn (by omega)) rfl rfl rfl ?_; rintro _ _ ⟨rfl, rfl⟩; try simp only [List.cons_append, List.nil_append])
    repeat' (first|((first|refine vc_id ?_|(refine RT.id ?_;refine RT.c T ?_));(conv=>whnf);first|refine RT.id ?_|(refine⟨fun hc=>?_,fun hc=>?_⟩<;>first|(exfalso;omega)|skip)|(apply num_k;omega;omega)|(apply num_m;intro r hr)|(intro r hr))|(refine RT.id ?_;first|refine RT.nil ?_|(apply RT.ld T;exact rfl;(focus ((repeat constructor);done));iterate 4 exact rfl)|(apply RT.st T;(iterate 3 exact rfl);(focus ((repeat constructor);done));(focus repeat constructor);iterate 2 exact rfl)|((first|apply RT.box|apply RT.alloc T);(iterate 4 exact rfl);intro b)|refine RT.build T rfl rfl rfl rfl rfl ?_|(apply RT.lens T;iterate 4 exact rfl))|(refine AtQ.id_ ?_;first|refine nx ?_|refine A0 ?_|refine A9 ?_|refine AtQ.in_ne rfl ?_)|(refine CT.id_ ?_;first|refine nx ?_|refine CT.region ?_|refine CT.quiet mixed (by kernel_rfl) ?_|refine CT.cond_t rfl ?_|refine CT.cond_f rfl ?_))
    exact AtQ.f1 Tryd.results65 rfl (by unfold jsonL; rw [if_pos he]) (fun _ h => h.tail)
  · repeat' (first|((first|refine vc_id ?_|(refine RT.id ?_;refine RT.c T ?_));(conv=>whnf);first|refine RT.id ?_|(refine⟨fun hc=>?_,fun hc=>?_⟩<;>first|(exfalso;omega)|skip)|(apply num_k;omega;omega)|(apply num_m;intro r hr)|(intro r hr))|(refine RT.id ?_;first|refine RT.nil ?_|(apply RT.ld T;exact rfl;(focus ((repeat constructor);done));iterate 4 exact rfl)|(apply RT.st T;(iterate 3 exact rfl);(focus ((repeat constructor);done));(focus repeat constructor);iterate 2 exact rfl)|((first|apply RT.box|apply RT.alloc T);(iterate 4 exact rfl);intro b)|refine RT.build T rfl rfl rfl rfl rfl ?_|(apply RT.lens T;iterate 4 exact rfl))|(refine AtQ.id_ ?_;first|refine nx ?_|refine A0 ?_|refine A9 ?_|refine AtQ.in_ne rfl ?_)|(refine CT.id_ ?_;first|refine nx ?_|refine CT.region ?_|refine CT.quiet mixed (by kernel_rfl) ?_|refine CT.cond_t rfl ?_|refine CT.cond_f rfl ?_))
    exact AtQ.f1 Tryd.results65 rfl (by unfold jsonL; rw [if_neg he]) (fun _ h => h.tail)
/-! ### references -/
theorem hasp_fn {l sep : List Int} (hsep : sep = [46]) (hb : Byt l) (hl : l.length ≤ 140737488355328) : Sp B Tryd.prog 93 [vS l, vS sep] R [] (fun v H' => v = .bool (decide (l.getD 0 0 = 46)) ∧ H' = []) := by
  refine Sp.body Tryd.func93 rfl Tryd.ntmps93 (by simp) ?_
  simp only [argE, List.cons_append, List.nil_append, Nat.zero_add, Nat.reduceAdd]
  have hsl : sep.length = 1 := by rw [hsep]; rfl
  have hsb : Byt sep := by rw [hsep]; exact Byt.one (by unfold isB; decide)
  repeat' (first|((first|refine vc_id ?_|(refine RT.id ?_;refine RT.c T ?_));(conv=>whnf);first|refine RT.id ?_|(refine⟨fun hc=>?_,fun hc=>?_⟩<;>first|(exfalso;omega)|skip)|(apply num_k;omega;omega)|(apply num_m;intro r hr)|(intro r hr))|(refine RT.id ?_;first|refine RT.nil ?_|(apply RT.ld T;exact rfl;(focus ((repeat constructor);done));iterate 4 exact rfl)|(apply RT.st T;(iterate 3 exact rfl);(focus ((repeat constructor);done));(focus repeat constructor);iterate 2 exact rfl)|((first|apply RT.box|apply RT.alloc T);(iterate 4 exact rfl);intro b)|refine RT.build T rfl rfl rfl rfl rfl ?_|(apply RT.lens T;iterate 4 exact rfl))|(refine AtQ.id_ ?_;first|refine nx ?_|refine A0 ?_|refine A9 ?_|refine AtQ.in_ne rfl ?_)|(refine CT.id_ ?_;first|refine nx ?_|refine CT.region ?_|refine CT.quiet mixed (by kernel_rfl) ?_|refine CT.cond_t rfl ?_|refine CT.cond_f rfl ?_))
  · refine RT.slsH T (j := 1) rfl rfl (by omega) (by omega) rfl rfl rfl ?_
    repeat' (first|((first|refine vc_id ?_|(refine RT.id ?_;refine RT.c T ?_));(conv=>whnf);first|refine RT.id ?_|(refine⟨fun hc=>?_,fun hc=>?_⟩<;>first|(exfalso;omega)|skip)|(apply num_k;omega;omega)|(apply num_m;intro r hr)|(intro r hr))|(refine RT.id ?_;first|refine RT.nil ?_|(apply RT.ld T;exact rfl;(focus ((repeat constructor);done));iterate 4 exact rfl)|(apply RT.st T;(iterate 3 exact rfl);(focus ((repeat constructor);done));(focus repeat constructor);iterate 2 exact rfl)|((first|apply RT.box|apply RT.alloc T);(iterate 4 exact rfl);intro b)|refine RT.build T rfl rfl rfl rfl rfl ?_|(apply RT.lens T;iterate 4 exact rfl))|(refine AtQ.id_ ?_;first|refine nx ?_|refine A0 ?_|refine A9 ?_|refine AtQ.in_ne rfl ?_)|(refine CT.id_ ?_;first|refine nx ?_|refine CT.region ?_|refine CT.quiet mixed (by kernel_rfl) ?_|refine CT.cond_t rfl ?_|refine CT.cond_f rfl ?_))
    cases l with
    | nil => exfalso; simp only [List.length_nil] at *; omega
    | cons x m =>
      refine RT.eqs (l := [x]) (l' := sep) rfl rfl (hb.take 1) hsb rfl rfl (fun h => ?_) (fun h => ?_)
      · repeat' (first|((first|refine vc_id ?_|(refine RT.id ?_;refine RT.c T ?_));(conv=>whnf);first|refine RT.id ?_|(refine⟨fun hc=>?_,fun hc=>?_⟩<;>first|(exfalso;omega)|skip)|(apply num_k;omega;omega)|(apply num_m;intro r hr)|(intro r hr))|(refine RT.id ?_;first|refine RT.nil ?_|(apply RT.ld T;exact rfl;(focus ((repeat constructor);done));iterate 4 exact rfl)|(apply RT.st T;(iterate 3 exact rfl);(focus ((repeat constructor);done));(focus repeat constructor);iterate 2 exact rfl)|((first|apply RT.box|apply RT.alloc T);(iterate 4 exact rfl);intro b)|refine RT.build T rfl rfl rfl rfl rfl ?_|(apply RT.lens T;iterate 4 exact rfl))|(refine AtQ.id_ ?_;first|refine nx ?_|refine A0 ?_|refine A9 ?_|refine AtQ.in_ne rfl ?_)|(refine CT.id_ ?_;first|refine nx ?_|refine CT.region ?_|refine CT.quiet mixed (by kernel_rfl) ?_|refine CT.cond_t rfl ?_|refine CT.cond_f rfl ?_))
        exact AtQ.f1 Tryd.results93 rfl (by rw [hsep] at h; simp at h; subst h; rfl) (fun _ h => h)
      · repeat' (first|((first|refine vc_id ?_|(refine RT.id ?_;refine RT.c T ?_));(conv=>whnf);first|refine RT.id ?_|(refine⟨fun hc=>?_,fun hc=>?_⟩<;>first|(exfalso;omega)|skip)|(apply num_k;omega;omega)|(apply num_m;intro r hr)|(intro r hr))|(refine RT.id ?_;first|refine RT.nil ?_|(apply RT.ld T;exact rfl;(focus ((repeat constructor);done));iterate 4 exact rfl)|(apply RT.st T;(iterate 3 exact rfl);(focus ((repeat constructor);done));(focus repeat constructor);iterate 2 exact rfl)|((first|apply RT.box|apply RT.alloc T);(iterate 4 exact rfl);intro b)|refine RT.build T rfl rfl rfl rfl rfl ?_|(apply RT.lens T;iterate 4 exact rfl))|(refine AtQ.id_ ?_;first|refine nx ?_|refine A0 ?_|refine A9 ?_|refine AtQ.in_ne rfl ?_)|(refine CT.id_ ?_;first|refine nx ?_|refine CT.region ?_|refine CT.quiet mixed (by kernel_rfl) ?_|refine CT.cond_t rfl ?_|refine CT.cond_f rfl ?_))
        exact AtQ.f1 Tryd.results93 rfl (by rw [hsep] at h; simp at h; congr 1; symm; simpa using h) (fun _ h => h)
  · have : l = [] := List.eq_nil_of_length_eq_zero (by omega)
    subst this
    exact AtQ.f1 Tryd.results93 rfl rfl (fun _ h => h)
theorem cutp_fn {l sep : List Int} (hsep : sep = [46]) (hb : Byt l) (hl : l.length ≤ 140737488355328) : Sp B Tryd.prog 86 [vS l, vS sep] R [] (fun v H' => v = .tuple #[vS (if l.getD 0 0 = 46 then l.drop 1 else l), .bool (decide (l.getD 0 0 = 46))] ∧ H' = []) := by
  refine Sp.body Tryd.func86 rfl Tryd.ntmps86 (by simp) ?_
  simp only [argE, List.cons_append, List.nil_append, Nat.zero_add, Nat.reduceAdd]
  have hsl : sep.length = 1 := by rw [hsep]; rfl
  repeat' (first|((first|refine vc_id ?_|(refine RT.id ?_;refine RT.c T ?_));(conv=>whnf);first|refine RT.id ?_|(refine⟨fun hc=>?_,fun hc=>?_⟩<;>first|(exfalso;omega)|skip)|(apply num_k;omega;omega)|(apply num_m;intro r hr)|(intro r hr))|(refine RT.id ?_;first|refine RT.nil ?_|(apply RT.ld T;exact rfl;(focus ((repeat constructor);done));iterate 4 exact rfl)|(apply RT.st T;(iterate 3 exact rfl);(focus ((repeat constructor);done));(focus repeat constructor);iterate 2 exact rfl)|((first|apply RT.box|apply RT.alloc T);(iterate 4 exact rfl);intro b)|refine RT.build T rfl rfl rfl rfl rfl ?_|(apply RT.lens T;iterate 4 exact rfl))|(refine AtQ.id_ ?_;first|refine nx ?_|refine A0 ?_|refine A9 ?_|refine AtQ.in_ne rfl ?_)|(refine CT.id_ ?_;first|refine nx ?_|refine CT.region ?_|refine CT.quiet mixed (by kernel_rfl) ?_|refine CT.cond_t rfl ?_|refine CT.cond_f rfl ?_))
  (refine RT.call T rfl (by (repeat (first|exact Fr.nil|(apply Fr.cons;focus ((repeat constructor);done))))) (hasp_fn hsep hb hl) rfl rfl rfl ?_; rintro _ _ ⟨rfl, rfl⟩; try simp only [List.cons_append, List.nil_append])
  by_cases h : l.getD 0 0 = 46
  · rw [decide_eq_true h]
    have h0 : 1 ≤ l.length := by
      cases l with
      | nil => simp at h
      | cons x m => simp
    repeat' (first|((first|refine vc_id ?_|(refine RT.id ?_;refine RT.c T ?_));(conv=>whnf);first|refine RT.id ?_|(refine⟨fun hc=>?_,fun hc=>?_⟩<;>first|(exfalso;omega)|skip)|(apply num_k;omega;omega)|(apply num_m;intro r hr)|(intro r hr))|(refine RT.id ?_;first|refine RT.nil ?_|(apply RT.ld T;exact rfl;(focus ((repeat constructor);done));iterate 4 exact rfl)|(apply RT.st T;(iterate 3 exact rfl);(focus ((repeat constructor);done));(focus repeat constructor);iterate 2 exact rfl)|((first|apply RT.box|apply RT.alloc T);(iterate 4 exact rfl);intro b)|refine RT.build T rfl rfl rfl rfl rfl ?_|(apply RT.lens T;iterate 4 exact rfl))|(refine AtQ.id_ ?_;first|refine nx ?_|refine A0 ?_|refine A9 ?_|refine AtQ.in_ne rfl ?_)|(refine CT.id_ ?_;first|refine nx ?_|refine CT.region ?_|refine CT.quiet mixed (by kernel_rfl) ?_|refine CT.cond_t rfl ?_|refine CT.cond_f rfl ?_))
    refine RT.slsL T (j := 1) rfl rfl (by omega) (by omega) rfl rfl rfl ?_
    repeat' (first|((first|refine vc_id ?_|(refine RT.id ?_;refine RT.c T ?_));(conv=>whnf);first|refine RT.id ?_|(refine⟨fun hc=>?_,fun hc=>?_⟩<;>first|(exfalso;omega)|skip)|(apply num_k;omega;omega)|(apply num_m;intro r hr)|(intro r hr))|(refine RT.id ?_;first|refine RT.nil ?_|(apply RT.ld T;exact rfl;(focus ((repeat constructor);done));iterate 4 exact rfl)|(apply RT.st T;(iterate 3 exact rfl);(focus ((repeat constructor);done));(focus repeat constructor);iterate 2 exact rfl)|((first|apply RT.box|apply RT.alloc T);(iterate 4 exact rfl);intro b)|refine RT.build T rfl rfl rfl rfl rfl ?_|(apply RT.lens T;iterate 4 exact rfl))|(refine AtQ.id_ ?_;first|refine nx ?_|refine A0 ?_|refine A9 ?_|refine AtQ.in_ne rfl ?_)|(refine CT.id_ ?_;first|refine nx ?_|refine CT.region ?_|refine CT.quiet mixed (by kernel_rfl) ?_|refine CT.cond_t rfl ?_|refine CT.cond_f rfl ?_))
    exact AtQ.f2 Tryd.results86 rfl rfl (by rw [if_pos h]) rfl (fun _ h => h)
  · rw [decide_eq_false h]
    repeat' (first|((first|refine vc_id ?_|(refine RT.id ?_;refine RT.c T ?_));(conv=>whnf);first|refine RT.id ?_|(refine⟨fun hc=>?_,fun hc=>?_⟩<;>first|(exfalso;omega)|skip)|(apply num_k;omega;omega)|(apply num_m;intro r hr)|(intro r hr))|(refine RT.id ?_;first|refine RT.nil ?_|(apply RT.ld T;exact rfl;(focus ((repeat constructor);done));iterate 4 exact rfl)|(apply RT.st T;(iterate 3 exact rfl);(focus ((repeat constructor);done));(focus repeat constructor);iterate 2 exact rfl)|((first|apply RT.box|apply RT.alloc T);(iterate 4 exact rfl);intro b)|refine RT.build T rfl rfl rfl rfl rfl ?_|(apply RT.lens T;iterate 4 exact rfl))|(refine AtQ.id_ ?_;first|refine nx ?_|refine A0 ?_|refine A9 ?_|refine AtQ.in_ne rfl ?_)|(refine CT.id_ ?_;first|refine nx ?_|refine CT.region ?_|refine CT.quiet mixed (by kernel_rfl) ?_|refine CT.cond_t rfl ?_|refine CT.cond_f rfl ?_))
    exact AtQ.f2 Tryd.results86 rfl rfl (by rw [if_neg h]) rfl (fun _ h => h)
theorem cutprefix_fn {l : List Int} (hb : Byt l) (hl : l.length ≤ 140737488355328) : Sp B Tryd.prog 77 [vS l, vS [46]] R [] (fun v H' => v = .tuple #[vS (if l.getD 0 0 = 46 then l.drop 1 else l), .bool (decide (l.getD 0 0 = 46))] ∧ H' = []) := by
  refine Sp.body Tryd.func77 rfl Tryd.ntmps77 (by simp) ?_
  simp only [argE, List.cons_append, List.nil_append, Nat.zero_add, Nat.reduceAdd]
  repeat' (first|((first|refine vc_id ?_|(refine RT.id ?_;refine RT.c T ?_));(conv=>whnf);first|refine RT.id ?_|(refine⟨fun hc=>?_,fun hc=>?_⟩<;>first|(exfalso;omega)|skip)|(apply num_k;omega;omega)|(apply num_m;intro r hr)|(intro r hr))|(refine RT.id ?_;first|refine RT.nil ?_|(apply RT.ld T;exact rfl;(focus ((repeat constructor);done));iterate 4 exact rfl)|(apply RT.st T;(iterate 3 exact rfl);(focus ((repeat constructor);done));(focus repeat constructor);iterate 2 exact rfl)|((first|apply RT.box|apply RT.alloc T);(iterate 4 exact rfl);intro b)|refine RT.build T rfl rfl rfl rfl rfl ?_|(apply RT.lens T;iterate 4 exact rfl))|(refine AtQ.id_ ?_;first|refine nx ?_|refine A0 ?_|refine A9 ?_|refine AtQ.in_ne rfl ?_)|(refine CT.id_ ?_;first|refine nx ?_|refine CT.region ?_|refine CT.quiet mixed (by kernel_rfl) ?_|refine CT.cond_t rfl ?_|refine CT.cond_f rfl ?_))
  (refine RT.call T rfl (by (repeat (first|exact Fr.nil|(apply Fr.cons;focus ((repeat constructor);done))))) (cutp_fn (sep := [46]) rfl hb hl) rfl rfl rfl ?_; rintro _ _ ⟨rfl, rfl⟩; try simp only [List.cons_append, List.nil_append])
  repeat' (first|((first|refine vc_id ?_|(refine RT.id ?_;refine RT.c T ?_));(conv=>whnf);first|refine RT.id ?_|(refine⟨fun hc=>?_,fun hc=>?_⟩<;>first|(exfalso;omega)|skip)|(apply num_k;omega;omega)|(apply num_m;intro r hr)|(intro r hr))|(refine RT.id ?_;first|refine RT.nil ?_|(apply RT.ld T;exact rfl;(focus ((repeat constructor);done));iterate 4 exact rfl)|(apply RT.st T;(iterate 3 exact rfl);(focus ((repeat constructor);done));(focus repeat constructor);iterate 2 exact rfl)|((first|apply RT.box|apply RT.alloc T);(iterate 4 exact rfl);intro b)|refine RT.build T rfl rfl rfl rfl rfl ?_|(apply RT.lens T;iterate 4 exact rfl))|(refine AtQ.id_ ?_;first|refine nx ?_|refine A0 ?_|refine A9 ?_|refine AtQ.in_ne rfl ?_)|(refine CT.id_ ?_;first|refine nx ?_|refine CT.region ?_|refine CT.quiet mixed (by kernel_rfl) ?_|refine CT.cond_t rfl ?_|refine CT.cond_f rfl ?_))
  exact AtQ.f2 Tryd.results77 rfl rfl rfl rfl (fun _ h => h)
theorem ref_fn {l : List Int} {m : Int} (hM : B.cell? ⟨0, 0, none⟩ = some (.int .i64 m)) (hb : Byt l) (hl : l.length ≤ 16777216) : Sp B Tryd.prog 60 [vS l] R [] (fun v H' => v = .bool (refB l) ∧ H' = []) := by
  refine Sp.body Tryd.func60 rfl Tryd.ntmps60 (by simp) ?_
  simp only [argE, List.cons_append, List.nil_append, Nat.zero_add, Nat.reduceAdd]
  repeat' (first|((first|refine vc_id ?_|(refine RT.id ?_;refine RT.c T ?_));(conv=>whnf);first|refine RT.id ?_|(refine⟨fun hc=>?_,fun hc=>?_⟩<;>first|(exfalso;omega)|skip)|(apply num_k;omega;omega)|(apply num_m;intro r hr)|(intro r hr))|(refine RT.id ?_;first|refine RT.nil ?_|(apply RT.ld T;exact rfl;(focus ((repeat constructor);done));iterate 4 exact rfl)|(apply RT.st T;(iterate 3 exact rfl);(focus ((repeat constructor);done));(focus repeat constructor);iterate 2 exact rfl)|((first|apply RT.box|apply RT.alloc T);(iterate 4 exact rfl);intro b)|refine RT.build T rfl rfl rfl rfl rfl ?_|(apply RT.lens T;iterate 4 exact rfl))|(refine AtQ.id_ ?_;first|refine nx ?_|refine A0 ?_|refine A9 ?_|refine AtQ.in_ne rfl ?_)|(refine CT.id_ ?_;first|refine nx ?_|refine CT.region ?_|refine CT.quiet mixed (by kernel_rfl) ?_|refine CT.cond_t rfl ?_|refine CT.cond_f rfl ?_))
  (refine RT.call T rfl (by (repeat (first|exact Fr.nil|(apply Fr.cons;focus ((repeat constructor);done))))) (cutprefix_fn hb (by omega)) rfl rfl rfl ?_; rintro _ _ ⟨rfl, rfl⟩; try simp only [List.cons_append, List.nil_append])
  by_cases h : l.getD 0 0 = 46
  · rw [decide_eq_true h, if_pos h]
    have hd : (l.drop 1).length ≤ l.length := by rw [List.length_drop]; omega
    repeat' (first|((first|refine vc_id ?_|(refine RT.id ?_;refine RT.c T ?_));(conv=>whnf);first|refine RT.id ?_|(refine⟨fun hc=>?_,fun hc=>?_⟩<;>first|(exfalso;omega)|skip)|(apply num_k;omega;omega)|(apply num_m;intro r hr)|(intro r hr))|(refine RT.id ?_;first|refine RT.nil ?_|(apply RT.ld T;exact rfl;(focus ((repeat constructor);done));iterate 4 exact rfl)|(apply RT.st T;(iterate 3 exact rfl);(focus ((repeat constructor);done));(focus repeat constructor);iterate 2 exact rfl)|((first|apply RT.box|apply RT.alloc T);(iterate 4 exact rfl);intro b)|refine RT.build T rfl rfl rfl rfl rfl ?_|(apply RT.lens T;iterate 4 exact rfl))|(refine AtQ.id_ ?_;first|refine nx ?_|refine A0 ?_|refine A9 ?_|refine AtQ.in_ne rfl ?_)|(refine CT.id_ ?_;first|refine nx ?_|refine CT.region ?_|refine CT.quiet mixed (by kernel_rfl) ?_|refine CT.cond_t rfl ?_|refine CT.cond_f rfl ?_))
    (refine RT.call T rfl (by (repeat (first|exact Fr.nil|(apply Fr.cons;focus ((repeat constructor);done))))) (full_fn hM (hb.drop 1) (by omega)) rfl rfl rfl ?_; rintro _ _ ⟨rfl, rfl⟩; try simp only [List.cons_append, List.nil_append])
    cases hf : fullB (l.drop 1)
    · repeat' (first|((first|refine vc_id ?_|(refine RT.id ?_;refine RT.c T ?_));(conv=>whnf);first|refine RT.id ?_|(refine⟨fun hc=>?_,fun hc=>?_⟩<;>first|(exfalso;omega)|skip)|(apply num_k;omega;omega)|(apply num_m;intro r hr)|(intro r hr))|(refine RT.id ?_;first|refine RT.nil ?_|(apply RT.ld T;exact rfl;(focus ((repeat constructor);done));iterate 4 exact rfl)|(apply RT.st T;(iterate 3 exact rfl);(focus ((repeat constructor);done));(focus repeat constructor);iterate 2 exact rfl)|((first|apply RT.box|apply RT.alloc T);(iterate 4 exact rfl);intro b)|refine RT.build T rfl rfl rfl rfl rfl ?_|(apply RT.lens T;iterate 4 exact rfl))|(refine AtQ.id_ ?_;first|refine nx ?_|refine A0 ?_|refine A9 ?_|refine AtQ.in_ne rfl ?_)|(refine CT.id_ ?_;first|refine nx ?_|refine CT.region ?_|refine CT.quiet mixed (by kernel_rfl) ?_|refine CT.cond_t rfl ?_|refine CT.cond_f rfl ?_))
      exact AtQ.f1 Tryd.results60 rfl (by unfold refB; rw [if_pos h, hf]; rfl) (fun _ h => h)
    · repeat' (first|((first|refine vc_id ?_|(refine RT.id ?_;refine RT.c T ?_));(conv=>whnf);first|refine RT.id ?_|(refine⟨fun hc=>?_,fun hc=>?_⟩<;>first|(exfalso;omega)|skip)|(apply num_k;omega;omega)|(apply num_m;intro r hr)|(intro r hr))|(refine RT.id ?_;first|refine RT.nil ?_|(apply RT.ld T;exact rfl;(focus ((repeat constructor);done));iterate 4 exact rfl)|(apply RT.st T;(iterate 3 exact rfl);(focus ((repeat constructor);done));(focus repeat constructor);iterate 2 exact rfl)|((first|apply RT.box|apply RT.alloc T);(iterate 4 exact rfl);intro b)|refine RT.build T rfl rfl rfl rfl rfl ?_|(apply RT.lens T;iterate 4 exact rfl))|(refine AtQ.id_ ?_;first|refine nx ?_|refine A0 ?_|refine A9 ?_|refine AtQ.in_ne rfl ?_)|(refine CT.id_ ?_;first|refine nx ?_|refine CT.region ?_|refine CT.quiet mixed (by kernel_rfl) ?_|refine CT.cond_t rfl ?_|refine CT.cond_f rfl ?_))
      all_goals (refine AtQ.f1 Tryd.results60 rfl ?_ (fun _ h => h); unfold refB; rw [if_pos h, hf, Bool.true_and]; congr 1; symm; first | (refine decide_eq_true ?_; omega) | (refine decide_eq_false ?_; omega))
  · rw [decide_eq_false h, if_neg h]
    repeat' (first|((first|refine vc_id ?_|(refine RT.id ?_;refine RT.c T ?_));(conv=>whnf);first|refine RT.id ?_|(refine⟨fun hc=>?_,fun hc=>?_⟩<;>first|(exfalso;omega)|skip)|(apply num_k;omega;omega)|(apply num_m;intro r hr)|(intro r hr))|(refine RT.id ?_;first|refine RT.nil ?_|(apply RT.ld T;exact rfl;(focus ((repeat constructor);done));iterate 4 exact rfl)|(apply RT.st T;(iterate 3 exact rfl);(focus ((repeat constructor);done));(focus repeat constructor);iterate 2 exact rfl)|((first|apply RT.box|apply RT.alloc T);(iterate 4 exact rfl);intro b)|refine RT.build T rfl rfl rfl rfl rfl ?_|(apply RT.lens T;iterate 4 exact rfl))|(refine AtQ.id_ ?_;first|refine nx ?_|refine A0 ?_|refine A9 ?_|refine AtQ.in_ne rfl ?_)|(refine CT.id_ ?_;first|refine nx ?_|refine CT.region ?_|refine CT.quiet mixed (by kernel_rfl) ?_|refine CT.cond_t rfl ?_|refine CT.cond_f rfl ?_))
    (refine RT.call T rfl (by (repeat (first|exact Fr.nil|(apply Fr.cons;focus ((repeat constructor);done))))) (full_fn hM hb (by omega)) rfl rfl rfl ?_; rintro _ _ ⟨rfl, rfl⟩; try simp only [List.cons_append, List.nil_append])
    repeat' (first|((first|refine vc_id ?_|(refine RT.id ?_;refine RT.c T ?_));(conv=>whnf);first|refine RT.id ?_|(refine⟨fun hc=>?_,fun hc=>?_⟩<;>first|(exfalso;omega)|skip)|(apply num_k;omega;omega)|(apply num_m;intro r hr)|(intro r hr))|(refine RT.id ?_;first|refine RT.nil ?_|(apply RT.ld T;exact rfl;(focus ((repeat constructor);done));iterate 4 exact rfl)|(apply RT.st T;(iterate 3 exact rfl);(focus ((repeat constructor);done));(focus repeat constructor);iterate 2 exact rfl)|((first|apply RT.box|apply RT.alloc T);(iterate 4 exact rfl);intro b)|refine RT.build T rfl rfl rfl rfl rfl ?_|(apply RT.lens T;iterate 4 exact rfl))|(refine AtQ.id_ ?_;first|refine nx ?_|refine A0 ?_|refine A9 ?_|refine AtQ.in_ne rfl ?_)|(refine CT.id_ ?_;first|refine nx ?_|refine CT.region ?_|refine CT.quiet mixed (by kernel_rfl) ?_|refine CT.cond_t rfl ?_|refine CT.cond_f rfl ?_))
    exact AtQ.f1 Tryd.results60 rfl (by unfold refB; rw [if_neg h]) (fun _ h => h)
end Go.Proofs.YtdemnhdoadjhhaaDoor
end
section
namespace Go.Proofs.YtdemnhdoadjhhaaDoor
open Go.Sk
set_option maxRecDepth 100000
theorem joinS_len : ∀ (F : List (List Int)), (joinS F).length ≤ sumL F + F.length
  | [] => by simp [joinS]
  | y :: r => by
    have := dotted_len r
    simp only [joinS, List.length_append, this, sumL, List.map_cons, List.sum_cons, List.length_cons]
    omega
theorem joinS_byt {F : List (List Int)} (h : ∀ l ∈ F, Byt l) : Byt (joinS F) := by
  cases F with
  | nil => exact Byt.nil
  | cons y r => exact (h y (by simp)).app (dotted_byt fun l hl => h l (by simp [hl]))
end Go.Proofs.YtdemnhdoadjhhaaDoor
end
section
namespace Go.Proofs.YtdemnhdoadjhhaaDoor
open Go.Sk
set_option maxRecDepth 100000
attribute [local irreducible] Cs Own Ex Pu Yld RT LJ QJ AtQ CT Rd QSp Sp FinQ Then LoopQ CutQ DT TakeQ EffQ
variable {B : World} {R : List HP}
theorem map_get {l : List Txt} {j : Nat} (h : j < l.length) : (l.map vS)[j]? = some (vS l[j]) := by rw [List.getElem?_map, List.getElem?_eq_getElem h]; rfl
/-- What a weight says of a row of k. -/
def Wt (k : Nat) (n w : Int) : Prop := n ≤ w ∧ w ≤ max n 4503599627370496 ∧ (w ≤ 16777216 → n + 8 * k ≤ w)
/-- Short texts. -/
def SmT (l : List Txt) : Prop := ∀ t ∈ l, t.length ≤ 16777216
theorem sm_take {α : Type} {P : α → Prop} {l : List α} {i : Nat} {x : α} (hx : l[i]? = some x) (h : ∀ y ∈ l.take i, P y) (h2 : P x) : ∀ y ∈ l.take (i + 1), P y := fun y hy => by
  rw [List.take_add_one, hx, List.mem_append] at hy
  rcases hy with hy | hy
  · exact h y hy
  · simp only [Option.toList_some, List.mem_singleton] at hy
    subst hy
    exact h2
set_option maxHeartbeats 4000000 in
theorem tweight_fn {r : Rw Txt} {n : Int} (hR : Rd B R r.a r.l.length r.c 1 (r.l.map vS)) (hk : r.l.length ≤ 140737488355328) (hok : ∀ t ∈ r.l, OkT t) (h0 : 0 ≤ n) (h1 : n ≤ 4503599627370496) :
    Sp B Tryd.prog 26 [r.v, .int .i64 n] R [] (fun v H' => (∃ w, v = .int .i64 w ∧ Wt r.l.length n w ∧ (w ≤ 16777216 → SmT r.l)) ∧ H' = []) := by
  obtain ⟨a, c, l⟩ := r
  simp only [Rw.v] at *
  refine Sp.body Tryd.func26 rfl Tryd.ntmps26 (by simp) ?_
  simp only [argE, List.cons_append, List.nil_append, Nat.zero_add, Nat.reduceAdd]
  repeat' (first|((first|refine vc_id ?_|(refine RT.id ?_;refine RT.c T ?_));(conv=>whnf);first|refine RT.id ?_|(refine⟨fun hc=>?_,fun hc=>?_⟩<;>first|(exfalso;omega)|skip)|(apply num_k;omega;omega)|(apply num_m;intro r hr)|(intro r hr))|(refine RT.id ?_;first|refine RT.nil ?_|(apply RT.ld T;exact rfl;(focus ((repeat constructor);done));iterate 4 exact rfl)|(apply RT.st T;(iterate 3 exact rfl);(focus ((repeat constructor);done));(focus repeat constructor);iterate 2 exact rfl)|((first|apply RT.box|apply RT.alloc T);(iterate 4 exact rfl);intro b)|refine RT.build T rfl rfl rfl rfl rfl ?_|(apply RT.lens T;iterate 4 exact rfl))|(refine AtQ.id_ ?_;first|refine nx ?_|refine A0 ?_|refine A9 ?_|refine AtQ.in_ne rfl ?_)|(refine CT.id_ ?_;first|refine nx ?_|refine CT.region ?_|refine CT.quiet mixed (by kernel_rfl) ?_|refine CT.cond_t rfl ?_|refine CT.cond_f rfl ?_))
  refine CT.loop (α := Nat × Int) (fun s => [(0, .slice a l.length c), (1, .int .i64 s.2), (5, .int .i64 s.1)]) (fun s => Pu (s.1 ≤ l.length ∧ n + 8 * s.1 ≤ s.2 ∧ s.2 ≤ max n 4503599627370496 ∧ (s.2 ≤ 16777216 → SmT (l.take s.1))) :: R) (fun s => l.length - s.1) (0, n)
    ⟨rfl, rfl, rfl, trivial⟩ (fun w h => Sat.pu_in ⟨Nat.zero_le _, by dsimp only; omega, by dsimp only; omega, fun _ e he => by simp at he⟩ h) (fun ⟨i, q⟩ => CT.pu fun ⟨hi, hq1, hq2, hq3⟩ => ?_)
  dsimp only at hi hq1 hq2 hq3 ⊢
  repeat' (first|((first|refine vc_id ?_|(refine RT.id ?_;refine RT.c T ?_));(conv=>whnf);first|refine RT.id ?_|(refine⟨fun hc=>?_,fun hc=>?_⟩<;>first|(exfalso;omega)|skip)|(apply num_k;omega;omega)|(apply num_m;intro r hr)|(intro r hr))|(refine RT.id ?_;first|refine RT.nil ?_|(apply RT.ld T;exact rfl;(focus ((repeat constructor);done));iterate 4 exact rfl)|(apply RT.st T;(iterate 3 exact rfl);(focus ((repeat constructor);done));(focus repeat constructor);iterate 2 exact rfl)|((first|apply RT.box|apply RT.alloc T);(iterate 4 exact rfl);intro b)|refine RT.build T rfl rfl rfl rfl rfl ?_|(apply RT.lens T;iterate 4 exact rfl))|(refine AtQ.id_ ?_;first|refine nx ?_|refine A0 ?_|refine A9 ?_|refine AtQ.in_ne rfl ?_)|(refine CT.id_ ?_;first|refine nx ?_|refine CT.region ?_|refine CT.quiet mixed (by kernel_rfl) ?_|refine CT.cond_t rfl ?_|refine CT.cond_f rfl ?_))
  · have hil : i < l.length := by omega
    have hto := (hok l[i] (List.getElem_mem hil)).2
    refine RT.ix T (j := i) rfl rfl rfl (by exact hR) (by omega) (by omega) (by omega) rfl rfl ?_
    refine RT.ldr T rfl (by exact hR) (map_get hil) rfl rfl rfl ?_
    repeat' (first|((first|refine vc_id ?_|(refine RT.id ?_;refine RT.c T ?_));(conv=>whnf);first|refine RT.id ?_|(refine⟨fun hc=>?_,fun hc=>?_⟩<;>first|(exfalso;omega)|skip)|(apply num_k;omega;omega)|(apply num_m;intro r hr)|(intro r hr))|(refine RT.id ?_;first|refine RT.nil ?_|(apply RT.ld T;exact rfl;(focus ((repeat constructor);done));iterate 4 exact rfl)|(apply RT.st T;(iterate 3 exact rfl);(focus ((repeat constructor);done));(focus repeat constructor);iterate 2 exact rfl)|((first|apply RT.box|apply RT.alloc T);(iterate 4 exact rfl);intro b)|refine RT.build T rfl rfl rfl rfl rfl ?_|(apply RT.lens T;iterate 4 exact rfl))|(refine AtQ.id_ ?_;first|refine nx ?_|refine A0 ?_|refine A9 ?_|refine AtQ.in_ne rfl ?_)|(refine CT.id_ ?_;first|refine nx ?_|refine CT.region ?_|refine CT.quiet mixed (by kernel_rfl) ?_|refine CT.cond_t rfl ?_|refine CT.cond_f rfl ?_))
    exact AtQ.loop (i + 1, q + 8 + (l[i].length : Int)) ⟨rfl, rfl, rfl, trivial⟩ (fun w h => Sat.pu_in ⟨by omega, by dsimp only; omega, by dsimp only; omega, fun hw => by dsimp only at hw; exact sm_take (List.getElem?_eq_getElem hil) (hq3 (by omega)) (by omega)⟩ h) (by dsimp only; omega)
  · exact AtQ.fin1 Tryd.results26 rfl ⟨⟨q, rfl, by unfold Wt; omega, fun h => by omega⟩, rfl⟩ (fun w h => h)
  · exact AtQ.fin1 Tryd.results26 rfl ⟨⟨q, rfl, by unfold Wt; omega, fun h e he => hq3 h e (by rw [List.take_of_length_le (by omega)]; exact he)⟩, rfl⟩ (fun w h => h)
end Go.Proofs.YtdemnhdoadjhhaaDoor
end
section
namespace Go.Proofs.YtdemnhdoadjhhaaDoor
open Go.Sk
set_option maxRecDepth 100000
attribute [local irreducible] Cs Own Ex Pu Yld RT LJ QJ AtQ CT Rd QSp Sp FinQ Then LoopQ CutQ DT TakeQ EffQ
variable {B : World} {R : List HP}
def ESm (e : EnumT) : Prop := e.vals.l.length ≤ 2097152 ∧ e.res.l.length ≤ 2097152 ∧ e.names.l.length ≤ 2097152
/-- Its names are short. -/
def ENm (e : EnumT) : Prop := e.nm.length ≤ 16777216 ∧ (∀ v ∈ e.vals.l, v.nm.length ≤ 16777216) ∧ SmT e.names.l
set_option maxHeartbeats 8000000 in
theorem eweight_fn {r : Rw EnumT} {ah n : Int} (hR : Rd B R r.a r.l.length r.c 5 (r.l.flatMap EnumT.cells)) (hk : r.l.length ≤ 140737488355328) (hin : ∀ e ∈ r.l, e.In (Rd B R)) (hok : ∀ e ∈ r.l, e.Ok) (h0 : 0 ≤ n) (h1 : n ≤ 4503599627370496) (a0 : 0 ≤ ah) (a1 : n ≤ 16777216 → ah ≤ 281474976710656) :
    Sp B Tryd.prog 11 [r.v, .int .i64 ah, .int .i64 n] R [] (fun v H' => (∃ w, v = .int .i64 w ∧ Wt r.l.length n w ∧ (w ≤ 16777216 → ∀ e ∈ r.l, ESm e ∧ ENm e)) ∧ H' = []) := by
  obtain ⟨a, c, l⟩ := r
  simp only [Rw.v] at *
  refine Sp.body Tryd.func11 rfl Tryd.ntmps11 (by simp) ?_
  simp only [argE, List.cons_append, List.nil_append, Nat.zero_add, Nat.reduceAdd]
  repeat' (first|((first|refine vc_id ?_|(refine RT.id ?_;refine RT.c T ?_));(conv=>whnf);first|refine RT.id ?_|(refine⟨fun hc=>?_,fun hc=>?_⟩<;>first|(exfalso;omega)|skip)|(apply num_k;omega;omega)|(apply num_m;intro r hr)|(intro r hr))|(refine RT.id ?_;first|refine RT.nil ?_|(apply RT.ld T;exact rfl;(focus ((repeat constructor);done));iterate 4 exact rfl)|(apply RT.st T;(iterate 3 exact rfl);(focus ((repeat constructor);done));(focus repeat constructor);iterate 2 exact rfl)|((first|apply RT.box|apply RT.alloc T);(iterate 4 exact rfl);intro b)|refine RT.build T rfl rfl rfl rfl rfl ?_|(apply RT.lens T;iterate 4 exact rfl))|(refine AtQ.id_ ?_;first|refine nx ?_|refine A0 ?_|refine A9 ?_|refine AtQ.in_ne rfl ?_)|(refine CT.id_ ?_;first|refine nx ?_|refine CT.region ?_|refine CT.quiet mixed (by kernel_rfl) ?_|refine CT.cond_t rfl ?_|refine CT.cond_f rfl ?_))
  refine CT.loop (α := Nat × Int) (fun s => [(0, .slice a l.length c), (1, .int .i64 ah), (2, .int .i64 s.2), (7, .int .i64 s.1)]) (fun s => Pu (s.1 ≤ l.length ∧ n + 8 * s.1 ≤ s.2 ∧ s.2 ≤ max n 4503599627370496 ∧ (s.2 ≤ 16777216 → ∀ e ∈ l.take s.1, ESm e ∧ ENm e)) :: R) (fun s => l.length - s.1) (0, n)
    ⟨rfl, rfl, rfl, rfl, trivial⟩ (fun w h => Sat.pu_in ⟨Nat.zero_le _, by dsimp only; omega, by dsimp only; omega, fun _ e he => by simp at he⟩ h) (fun ⟨i, q⟩ => CT.pu fun ⟨hi, hq1, hq2, hq3⟩ => ?_)
  dsimp only at hi hq1 hq2 hq3 ⊢
  repeat' (first|((first|refine vc_id ?_|(refine RT.id ?_;refine RT.c T ?_));(conv=>whnf);first|refine RT.id ?_|(refine⟨fun hc=>?_,fun hc=>?_⟩<;>first|(exfalso;omega)|skip)|(apply num_k;omega;omega)|(apply num_m;intro r hr)|(intro r hr))|(refine RT.id ?_;first|refine RT.nil ?_|(apply RT.ld T;exact rfl;(focus ((repeat constructor);done));iterate 4 exact rfl)|(apply RT.st T;(iterate 3 exact rfl);(focus ((repeat constructor);done));(focus repeat constructor);iterate 2 exact rfl)|((first|apply RT.box|apply RT.alloc T);(iterate 4 exact rfl);intro b)|refine RT.build T rfl rfl rfl rfl rfl ?_|(apply RT.lens T;iterate 4 exact rfl))|(refine AtQ.id_ ?_;first|refine nx ?_|refine A0 ?_|refine A9 ?_|refine AtQ.in_ne rfl ?_)|(refine CT.id_ ?_;first|refine nx ?_|refine CT.region ?_|refine CT.quiet mixed (by kernel_rfl) ?_|refine CT.cond_t rfl ?_|refine CT.cond_f rfl ?_))
  · have hil : i < l.length := by omega
    have hgi := List.getElem?_eq_getElem hil
    revert hgi
    generalize l[i] = e
    intro hgi
    have hme := List.mem_of_getElem? hgi
    obtain ⟨en1, ⟨en2, _⟩, en3, ⟨en4, _⟩, en5, ⟨en6, _⟩, en7⟩ := hok e hme
    obtain ⟨ei1, ei2, ei3⟩ := hin e hme
    have ah1 := a1 (by omega)
    have en1 := en1.2
    have h5 := hq3 (by omega)
    refine RT.ix T (j := i * 5) rfl rfl rfl (by exact hR) (by omega) (by omega) (by omega) rfl rfl ?_
    refine RT.faA T rfl rfl rfl rfl ?_
    refine RT.ldr (u := vS e.nm) T rfl (by exact hR) (by rw [flat_get (f := EnumT.cells) (z := 5) (fun _ => rfl) hgi (by decide)]; rfl) rfl rfl rfl ?_
    repeat' (first|((first|refine vc_id ?_|(refine RT.id ?_;refine RT.c T ?_));(conv=>whnf);first|refine RT.id ?_|(refine⟨fun hc=>?_,fun hc=>?_⟩<;>first|(exfalso;omega)|skip)|(apply num_k;omega;omega)|(apply num_m;intro r hr)|(intro r hr))|(refine RT.id ?_;first|refine RT.nil ?_|(apply RT.ld T;exact rfl;(focus ((repeat constructor);done));iterate 4 exact rfl)|(apply RT.st T;(iterate 3 exact rfl);(focus ((repeat constructor);done));(focus repeat constructor);iterate 2 exact rfl)|((first|apply RT.box|apply RT.alloc T);(iterate 4 exact rfl);intro b)|refine RT.build T rfl rfl rfl rfl rfl ?_|(apply RT.lens T;iterate 4 exact rfl))|(refine AtQ.id_ ?_;first|refine nx ?_|refine A0 ?_|refine A9 ?_|refine AtQ.in_ne rfl ?_)|(refine CT.id_ ?_;first|refine nx ?_|refine CT.region ?_|refine CT.quiet mixed (by kernel_rfl) ?_|refine CT.cond_t rfl ?_|refine CT.cond_f rfl ?_))
    refine RT.ix T (j := i * 5) rfl rfl rfl (by exact hR) (by omega) (by omega) (by omega) rfl rfl ?_
    refine RT.faA T rfl rfl rfl rfl ?_
    refine RT.ldr (u := e.res.v) T rfl (by exact hR) (by rw [flat_get (f := EnumT.cells) (z := 5) (fun _ => rfl) hgi (by decide)]; rfl) rfl rfl rfl ?_
    repeat' (first|((first|refine vc_id ?_|(refine RT.id ?_;refine RT.c T ?_));(conv=>whnf);first|refine RT.id ?_|(refine⟨fun hc=>?_,fun hc=>?_⟩<;>first|(exfalso;omega)|skip)|(apply num_k;omega;omega)|(apply num_m;intro r hr)|(intro r hr))|(refine RT.id ?_;first|refine RT.nil ?_|(apply RT.ld T;exact rfl;(focus ((repeat constructor);done));iterate 4 exact rfl)|(apply RT.st T;(iterate 3 exact rfl);(focus ((repeat constructor);done));(focus repeat constructor);iterate 2 exact rfl)|((first|apply RT.box|apply RT.alloc T);(iterate 4 exact rfl);intro b)|refine RT.build T rfl rfl rfl rfl rfl ?_|(apply RT.lens T;iterate 4 exact rfl))|(refine AtQ.id_ ?_;first|refine nx ?_|refine A0 ?_|refine A9 ?_|refine AtQ.in_ne rfl ?_)|(refine CT.id_ ?_;first|refine nx ?_|refine CT.region ?_|refine CT.quiet mixed (by kernel_rfl) ?_|refine CT.cond_t rfl ?_|refine CT.cond_f rfl ?_))
    obtain ⟨q0, hq0⟩ : ∃ q0, q0 = q + 80 + ah + (e.nm.length : Int) + 8 * (e.res.l.length : Int) := ⟨_, rfl⟩
    rw [← hq0]
    refine CT.loop (α := Nat × Int) (fun s => [(0, .slice a l.length c), (1, .int .i64 ah), (2, .int .i64 s.2), (7, .int .i64 i), (8, .int .i64 s.1)]) (fun s => Pu (s.1 ≤ e.vals.l.length ∧ q0 + 8 * s.1 ≤ s.2 ∧ s.2 ≤ 4503599627370496 ∧ (s.2 ≤ 16777216 → ∀ v ∈ e.vals.l.take s.1, v.nm.length ≤ 16777216)) :: R) (fun s => e.vals.l.length - s.1) (0, q0)
      ⟨rfl, rfl, rfl, rfl, rfl, trivial⟩ (fun w h => Sat.pu_in ⟨Nat.zero_le _, by dsimp only; omega, by dsimp only; omega, fun _ e he => by simp at he⟩ h) (fun ⟨k, p⟩ => CT.pu fun ⟨hk1, hp1, hp2, hp3⟩ => ?_)
    dsimp only at hk1 hp1 hp2 hp3 ⊢
    repeat' (first|((first|refine vc_id ?_|(refine RT.id ?_;refine RT.c T ?_));(conv=>whnf);first|refine RT.id ?_|(refine⟨fun hc=>?_,fun hc=>?_⟩<;>first|(exfalso;omega)|skip)|(apply num_k;omega;omega)|(apply num_m;intro r hr)|(intro r hr))|(refine RT.id ?_;first|refine RT.nil ?_|(apply RT.ld T;exact rfl;(focus ((repeat constructor);done));iterate 4 exact rfl)|(apply RT.st T;(iterate 3 exact rfl);(focus ((repeat constructor);done));(focus repeat constructor);iterate 2 exact rfl)|((first|apply RT.box|apply RT.alloc T);(iterate 4 exact rfl);intro b)|refine RT.build T rfl rfl rfl rfl rfl ?_|(apply RT.lens T;iterate 4 exact rfl))|(refine AtQ.id_ ?_;first|refine nx ?_|refine A0 ?_|refine A9 ?_|refine AtQ.in_ne rfl ?_)|(refine CT.id_ ?_;first|refine nx ?_|refine CT.region ?_|refine CT.quiet mixed (by kernel_rfl) ?_|refine CT.cond_t rfl ?_|refine CT.cond_f rfl ?_))
    refine RT.ix T (j := i * 5) rfl rfl rfl (by exact hR) (by omega) (by omega) (by omega) rfl rfl ?_
    refine RT.faA T rfl rfl rfl rfl ?_
    refine RT.ldr (u := e.vals.v) T rfl (by exact hR) (by rw [flat_get (f := EnumT.cells) (z := 5) (fun _ => rfl) hgi (by decide)]; rfl) rfl rfl rfl ?_
    repeat' (first|((first|refine vc_id ?_|(refine RT.id ?_;refine RT.c T ?_));(conv=>whnf);first|refine RT.id ?_|(refine⟨fun hc=>?_,fun hc=>?_⟩<;>first|(exfalso;omega)|skip)|(apply num_k;omega;omega)|(apply num_m;intro r hr)|(intro r hr))|(refine RT.id ?_;first|refine RT.nil ?_|(apply RT.ld T;exact rfl;(focus ((repeat constructor);done));iterate 4 exact rfl)|(apply RT.st T;(iterate 3 exact rfl);(focus ((repeat constructor);done));(focus repeat constructor);iterate 2 exact rfl)|((first|apply RT.box|apply RT.alloc T);(iterate 4 exact rfl);intro b)|refine RT.build T rfl rfl rfl rfl rfl ?_|(apply RT.lens T;iterate 4 exact rfl))|(refine AtQ.id_ ?_;first|refine nx ?_|refine A0 ?_|refine A9 ?_|refine AtQ.in_ne rfl ?_)|(refine CT.id_ ?_;first|refine nx ?_|refine CT.region ?_|refine CT.quiet mixed (by kernel_rfl) ?_|refine CT.cond_t rfl ?_|refine CT.cond_f rfl ?_))
    · have hkl : k < e.vals.l.length := by omega
      have hgk := List.getElem?_eq_getElem hkl
      revert hgk
      generalize e.vals.l[k] = ev
      intro hgk
      have hv := (en3 ev (List.mem_of_getElem? hgk)).1.2
      refine RT.ix T (j := i * 5) rfl rfl rfl (by exact hR) (by omega) (by omega) (by omega) rfl rfl ?_
      refine RT.faA T rfl rfl rfl rfl ?_
      refine RT.ldr (u := e.vals.v) T rfl (by exact hR) (by rw [flat_get (f := EnumT.cells) (z := 5) (fun _ => rfl) hgi (by decide)]; rfl) rfl rfl rfl ?_
      repeat' (first|((first|refine vc_id ?_|(refine RT.id ?_;refine RT.c T ?_));(conv=>whnf);first|refine RT.id ?_|(refine⟨fun hc=>?_,fun hc=>?_⟩<;>first|(exfalso;omega)|skip)|(apply num_k;omega;omega)|(apply num_m;intro r hr)|(intro r hr))|(refine RT.id ?_;first|refine RT.nil ?_|(apply RT.ld T;exact rfl;(focus ((repeat constructor);done));iterate 4 exact rfl)|(apply RT.st T;(iterate 3 exact rfl);(focus ((repeat constructor);done));(focus repeat constructor);iterate 2 exact rfl)|((first|apply RT.box|apply RT.alloc T);(iterate 4 exact rfl);intro b)|refine RT.build T rfl rfl rfl rfl rfl ?_|(apply RT.lens T;iterate 4 exact rfl))|(refine AtQ.id_ ?_;first|refine nx ?_|refine A0 ?_|refine A9 ?_|refine AtQ.in_ne rfl ?_)|(refine CT.id_ ?_;first|refine nx ?_|refine CT.region ?_|refine CT.quiet mixed (by kernel_rfl) ?_|refine CT.cond_t rfl ?_|refine CT.cond_f rfl ?_))
      refine RT.ix T (j := k * 2) rfl rfl rfl (by exact ei1) (by omega) (by omega) (by omega) rfl rfl ?_
      refine RT.faA T rfl rfl rfl rfl ?_
      refine RT.ldr (u := vS ev.nm) T rfl (by exact ei1) (by rw [flat_get (f := EValT.cells) (z := 2) (fun _ => rfl) hgk (by decide)]; rfl) rfl rfl rfl ?_
      repeat' (first|((first|refine vc_id ?_|(refine RT.id ?_;refine RT.c T ?_));(conv=>whnf);first|refine RT.id ?_|(refine⟨fun hc=>?_,fun hc=>?_⟩<;>first|(exfalso;omega)|skip)|(apply num_k;omega;omega)|(apply num_m;intro r hr)|(intro r hr))|(refine RT.id ?_;first|refine RT.nil ?_|(apply RT.ld T;exact rfl;(focus ((repeat constructor);done));iterate 4 exact rfl)|(apply RT.st T;(iterate 3 exact rfl);(focus ((repeat constructor);done));(focus repeat constructor);iterate 2 exact rfl)|((first|apply RT.box|apply RT.alloc T);(iterate 4 exact rfl);intro b)|refine RT.build T rfl rfl rfl rfl rfl ?_|(apply RT.lens T;iterate 4 exact rfl))|(refine AtQ.id_ ?_;first|refine nx ?_|refine A0 ?_|refine A9 ?_|refine AtQ.in_ne rfl ?_)|(refine CT.id_ ?_;first|refine nx ?_|refine CT.region ?_|refine CT.quiet mixed (by kernel_rfl) ?_|refine CT.cond_t rfl ?_|refine CT.cond_f rfl ?_))
      exact AtQ.loop (k + 1, p + 80 + ah + (ev.nm.length : Int)) ⟨rfl, rfl, rfl, rfl, rfl, trivial⟩ (fun w h => Sat.pu_in ⟨by omega, by dsimp only; omega, by dsimp only; omega, fun hw => by dsimp only at hw; exact sm_take hgk (hp3 (by omega)) (by omega)⟩ h) (by dsimp only; omega)
    all_goals
      have hend : p ≤ 16777216 → k = e.vals.l.length := fun h => by omega
      refine RT.ix T (j := i * 5) rfl rfl rfl (by exact hR) (by omega) (by omega) (by omega) rfl rfl ?_
      refine RT.faA T rfl rfl rfl rfl ?_
      refine RT.ldr (u := e.names.v) T rfl (by exact hR) (by rw [flat_get (f := EnumT.cells) (z := 5) (fun _ => rfl) hgi (by decide)]; rfl) rfl rfl rfl ?_
      repeat' (first|((first|refine vc_id ?_|(refine RT.id ?_;refine RT.c T ?_));(conv=>whnf);first|refine RT.id ?_|(refine⟨fun hc=>?_,fun hc=>?_⟩<;>first|(exfalso;omega)|skip)|(apply num_k;omega;omega)|(apply num_m;intro r hr)|(intro r hr))|(refine RT.id ?_;first|refine RT.nil ?_|(apply RT.ld T;exact rfl;(focus ((repeat constructor);done));iterate 4 exact rfl)|(apply RT.st T;(iterate 3 exact rfl);(focus ((repeat constructor);done));(focus repeat constructor);iterate 2 exact rfl)|((first|apply RT.box|apply RT.alloc T);(iterate 4 exact rfl);intro b)|refine RT.build T rfl rfl rfl rfl rfl ?_|(apply RT.lens T;iterate 4 exact rfl))|(refine AtQ.id_ ?_;first|refine nx ?_|refine A0 ?_|refine A9 ?_|refine AtQ.in_ne rfl ?_)|(refine CT.id_ ?_;first|refine nx ?_|refine CT.region ?_|refine CT.quiet mixed (by kernel_rfl) ?_|refine CT.cond_t rfl ?_|refine CT.cond_f rfl ?_))
      refine RT.call T rfl (by (repeat (first|exact Fr.nil|(apply Fr.cons;focus ((repeat constructor);done))))) (tweight_fn (r := e.names) (n := p) ei3 en6 en7 (by omega) (by omega)) rfl rfl rfl ?_
      rintro _ _ ⟨⟨w, rfl, ⟨hw1, hw2, hw3⟩, hw4⟩, rfl⟩
      try simp only [List.cons_append, List.nil_append]
      repeat' (first|((first|refine vc_id ?_|(refine RT.id ?_;refine RT.c T ?_));(conv=>whnf);first|refine RT.id ?_|(refine⟨fun hc=>?_,fun hc=>?_⟩<;>first|(exfalso;omega)|skip)|(apply num_k;omega;omega)|(apply num_m;intro r hr)|(intro r hr))|(refine RT.id ?_;first|refine RT.nil ?_|(apply RT.ld T;exact rfl;(focus ((repeat constructor);done));iterate 4 exact rfl)|(apply RT.st T;(iterate 3 exact rfl);(focus ((repeat constructor);done));(focus repeat constructor);iterate 2 exact rfl)|((first|apply RT.box|apply RT.alloc T);(iterate 4 exact rfl);intro b)|refine RT.build T rfl rfl rfl rfl rfl ?_|(apply RT.lens T;iterate 4 exact rfl))|(refine AtQ.id_ ?_;first|refine nx ?_|refine A0 ?_|refine A9 ?_|refine AtQ.in_ne rfl ?_)|(refine CT.id_ ?_;first|refine nx ?_|refine CT.region ?_|refine CT.quiet mixed (by kernel_rfl) ?_|refine CT.cond_t rfl ?_|refine CT.cond_f rfl ?_))
      exact AtQ.loop (i + 1, w) ⟨rfl, rfl, rfl, rfl, trivial⟩ (fun _ h => Sat.pu_in ⟨by omega, by dsimp only; omega, by dsimp only; omega, fun hw => sm_take hgi h5 (by
        have hw := hw
        dsimp only at hw
        have hke := hend (by omega)
        have hw5 := hw3 hw
        have hp5 := hp3 (by omega)
        rw [List.take_of_length_le (by omega)] at hp5
        exact ⟨by unfold ESm; omega, by omega, hp5, hw4 hw⟩)⟩ h) (by dsimp only; omega)
  · exact AtQ.fin1 Tryd.results11 rfl ⟨⟨q, rfl, by unfold Wt; omega, fun h => by omega⟩, rfl⟩ (fun w h => h)
  · exact AtQ.fin1 Tryd.results11 rfl ⟨⟨q, rfl, by unfold Wt; omega, fun h e he => hq3 h e (by rw [List.take_of_length_le (by omega)]; exact he)⟩, rfl⟩ (fun w h => h)
end Go.Proofs.YtdemnhdoadjhhaaDoor
end
section
namespace Go.Sk
open Go.Proofs.YtdemnhdoadjhhaaDoor
/-- Short names. -/
def FNm (f : FieldT) : Prop := f.nm.length ≤ 16777216 ∧ f.ty.length ≤ 16777216 ∧ f.js.length ≤ 16777216
mutual
/-- Its rows are short, and those of all that it holds. -/
def MsgT.Sm : MsgT → Prop
  | .mk _ fields oneofs _ _ msgs enums res names => fields.l.length ≤ 2097152 ∧ oneofs.l.length ≤ 2097152 ∧ res.l.length ≤ 2097152 ∧ names.l.length ≤ 2097152 ∧ enums.l.length ≤ 2097152 ∧ (∀ e ∈ enums.l, ESm e) ∧ msgs.length ≤ 2097152 ∧ MsgT.SmL msgs
def MsgT.SmL : List MsgT → Prop
  | [] => True
  | m :: l => MsgT.Sm m ∧ MsgT.SmL l
end
mutual
/-- Its names are short, and those of all that it holds. -/
def MsgT.Nm : MsgT → Prop
  | .mk nm fields oneofs _ _ msgs enums res names => nm.length ≤ 16777216 ∧ (∀ f ∈ fields.l, FNm f) ∧ SmT oneofs.l ∧ SmT names.l ∧ (∀ e ∈ enums.l, ENm e) ∧ MsgT.NmL msgs
def MsgT.NmL : List MsgT → Prop
  | [] => True
  | m :: l => MsgT.Nm m ∧ MsgT.NmL l
end
theorem MsgT.nmL_of : ∀ {l : List MsgT}, (∀ m ∈ l, MsgT.Nm m) → MsgT.NmL l
  | [], _ => by unfold MsgT.NmL; trivial
  | x :: l, h => by unfold MsgT.NmL; exact ⟨h x List.mem_cons_self, MsgT.nmL_of fun m hm => h m (List.mem_cons_of_mem _ hm)⟩
theorem MsgT.nmL_mem : ∀ {l : List MsgT} {m : MsgT}, MsgT.NmL l → m ∈ l → MsgT.Nm m
  | [], _, _, h => by cases h
  | x :: l, m, hl, h => by
    unfold MsgT.NmL at hl
    rcases List.mem_cons.1 h with rfl | h
    · exact hl.1
    · exact MsgT.nmL_mem hl.2 h
theorem MsgT.smL_of : ∀ {l : List MsgT}, (∀ m ∈ l, MsgT.Sm m) → MsgT.SmL l
  | [], _ => by unfold MsgT.SmL; trivial
  | x :: l, h => by unfold MsgT.SmL; exact ⟨h x List.mem_cons_self, MsgT.smL_of fun m hm => h m (List.mem_cons_of_mem _ hm)⟩
end Go.Sk
namespace Go.Proofs.YtdemnhdoadjhhaaDoor
open Go.Sk
set_option maxRecDepth 100000
attribute [local irreducible] Cs Own Ex Pu Yld RT LJ QJ AtQ CT Rd QSp Sp FinQ Then LoopQ CutQ DT TakeQ EffQ
variable {B : World} {R : List HP}
/-- (Not to be seen through.) -/
def LeB (x y : Int) : Prop := x ≤ y
set_option maxHeartbeats 16000000 in
theorem mweight_fn (d : Nat) : ∀ {a : Option Addr} {c : Nat} {l : List MsgT} {ah n : Int}, MsgT.deepL l ≤ d → Rd B R a l.length c 7 (l.flatMap MsgT.cells) → l.length ≤ 140737488355328 → MsgT.InL (Rd B R) l → MsgT.OkL l → 0 ≤ n → n ≤ 4503599627370496 → 0 ≤ ah → (n ≤ 16777216 → ah ≤ 281474976710656) →
    Sp B Tryd.prog 10 [.slice a l.length c, .int .i64 ah, .int .i64 n] R [] (fun v H' => (∃ w, v = .int .i64 w ∧ Wt l.length n w ∧ (w ≤ 16777216 → MsgT.SmL l ∧ MsgT.NmL l)) ∧ H' = []) := by
  induction d using Nat.strongRecOn with
  | _ d ih =>
  intro a c l ah n hd hR hk hin hok h0 h1 a0 a1
  refine Sp.body Tryd.func10 rfl Tryd.ntmps10 (by simp) ?_
  simp only [argE, List.cons_append, List.nil_append, Nat.zero_add, Nat.reduceAdd]
  repeat' (first|((first|refine vc_id ?_|(refine RT.id ?_;refine RT.c T ?_));(conv=>whnf);first|refine RT.id ?_|(refine⟨fun hc=>?_,fun hc=>?_⟩<;>first|(exfalso;omega)|skip)|(apply num_k;omega;omega)|(apply num_m;intro r hr)|(intro r hr))|(refine RT.id ?_;first|refine RT.nil ?_|(apply RT.ld T;exact rfl;(focus ((repeat constructor);done));iterate 4 exact rfl)|(apply RT.st T;(iterate 3 exact rfl);(focus ((repeat constructor);done));(focus repeat constructor);iterate 2 exact rfl)|((first|apply RT.box|apply RT.alloc T);(iterate 4 exact rfl);intro b)|refine RT.build T rfl rfl rfl rfl rfl ?_|(apply RT.lens T;iterate 4 exact rfl))|(refine AtQ.id_ ?_;first|refine nx ?_|refine A0 ?_|refine A9 ?_|refine AtQ.in_ne rfl ?_)|(refine CT.id_ ?_;first|refine nx ?_|refine CT.region ?_|refine CT.quiet mixed (by kernel_rfl) ?_|refine CT.cond_t rfl ?_|refine CT.cond_f rfl ?_))
  refine CT.loop (α := Nat × Int) (fun s => [(0, .slice a l.length c), (1, .int .i64 ah), (2, .int .i64 s.2), (7, .int .i64 s.1)]) (fun s => Pu (s.1 ≤ l.length ∧ n + 8 * s.1 ≤ s.2 ∧ s.2 ≤ max n 4503599627370496 ∧ (s.2 ≤ 16777216 → ∀ e ∈ l.take s.1, MsgT.Sm e ∧ MsgT.Nm e)) :: R) (fun s => l.length - s.1) (0, n)
    ⟨rfl, rfl, rfl, rfl, trivial⟩ (fun w h => Sat.pu_in ⟨Nat.zero_le _, by dsimp only; omega, by dsimp only; omega, fun _ e he => by simp at he⟩ h) (fun ⟨i, q⟩ => CT.pu fun ⟨hi, hq1, hq2, hq3⟩ => ?_)
  dsimp only at hi hq1 hq2 hq3 ⊢
  repeat' (first|((first|refine vc_id ?_|(refine RT.id ?_;refine RT.c T ?_));(conv=>whnf);first|refine RT.id ?_|(refine⟨fun hc=>?_,fun hc=>?_⟩<;>first|(exfalso;omega)|skip)|(apply num_k;omega;omega)|(apply num_m;intro r hr)|(intro r hr))|(refine RT.id ?_;first|refine RT.nil ?_|(apply RT.ld T;exact rfl;(focus ((repeat constructor);done));iterate 4 exact rfl)|(apply RT.st T;(iterate 3 exact rfl);(focus ((repeat constructor);done));(focus repeat constructor);iterate 2 exact rfl)|((first|apply RT.box|apply RT.alloc T);(iterate 4 exact rfl);intro b)|refine RT.build T rfl rfl rfl rfl rfl ?_|(apply RT.lens T;iterate 4 exact rfl))|(refine AtQ.id_ ?_;first|refine nx ?_|refine A0 ?_|refine A9 ?_|refine AtQ.in_ne rfl ?_)|(refine CT.id_ ?_;first|refine nx ?_|refine CT.region ?_|refine CT.quiet mixed (by kernel_rfl) ?_|refine CT.cond_t rfl ?_|refine CT.cond_f rfl ?_))
  · have hil : i < l.length := by omega
    have hgi := List.getElem?_eq_getElem hil
    revert hgi
    generalize l[i] = m
    intro hgi
    have hme := List.mem_of_getElem? hgi
    have hmo := MsgT.okL_mem hok hme
    have hmi := MsgT.inL_mem hin hme
    have hmd := Nat.le_trans (MsgT.deep_mem hme) hd
    obtain ⟨nm, fields, oneofs, ma, mc, msgs, enums, res, names⟩ := m
    unfold MsgT.Ok at hmo
    unfold MsgT.In at hmi
    unfold MsgT.deep at hmd
    obtain ⟨⟨_, en1⟩, ⟨⟨ef1, _⟩, ef2⟩, ⟨⟨eo1, _⟩, eo2⟩, ⟨em1, _⟩, ⟨⟨ee1, _⟩, ee2⟩, ⟨⟨er1, _⟩, er2⟩, ⟨⟨et1, _⟩, et2⟩, em2⟩ := hmo
    obtain ⟨if1, io1, im1, ie1, ie2, ir1, it1, im2⟩ := hmi
    dsimp only at em1
    have ah1 := a1 (by omega)
    have h5 := hq3 (by omega)
    refine RT.ix T (j := i * 7) rfl rfl rfl (by exact hR) (by omega) (by omega) (by omega) rfl rfl ?_
    refine RT.faA T rfl rfl rfl rfl ?_
    refine RT.ldr (u := vS nm) T rfl (by exact hR) (by rw [flat_get (f := MsgT.cells) (z := 7) (fun _ => rfl) hgi (by decide)]; rfl) rfl rfl rfl ?_
    repeat' (first|((first|refine vc_id ?_|(refine RT.id ?_;refine RT.c T ?_));(conv=>whnf);first|refine RT.id ?_|(refine⟨fun hc=>?_,fun hc=>?_⟩<;>first|(exfalso;omega)|skip)|(apply num_k;omega;omega)|(apply num_m;intro r hr)|(intro r hr))|(refine RT.id ?_;first|refine RT.nil ?_|(apply RT.ld T;exact rfl;(focus ((repeat constructor);done));iterate 4 exact rfl)|(apply RT.st T;(iterate 3 exact rfl);(focus ((repeat constructor);done));(focus repeat constructor);iterate 2 exact rfl)|((first|apply RT.box|apply RT.alloc T);(iterate 4 exact rfl);intro b)|refine RT.build T rfl rfl rfl rfl rfl ?_|(apply RT.lens T;iterate 4 exact rfl))|(refine AtQ.id_ ?_;first|refine nx ?_|refine A0 ?_|refine A9 ?_|refine AtQ.in_ne rfl ?_)|(refine CT.id_ ?_;first|refine nx ?_|refine CT.region ?_|refine CT.quiet mixed (by kernel_rfl) ?_|refine CT.cond_t rfl ?_|refine CT.cond_f rfl ?_))
    obtain ⟨full, hfull⟩ : ∃ full, full = ah + (nm.length : Int) + 1 := ⟨_, rfl⟩
    rw [← hfull]
    refine RT.ix T (j := i * 7) rfl rfl rfl (by exact hR) (by omega) (by omega) (by omega) rfl rfl ?_
    refine RT.faA T rfl rfl rfl rfl ?_
    refine RT.ldr (u := res.v) T rfl (by exact hR) (by rw [flat_get (f := MsgT.cells) (z := 7) (fun _ => rfl) hgi (by decide)]; rfl) rfl rfl rfl ?_
    repeat' (first|((first|refine vc_id ?_|(refine RT.id ?_;refine RT.c T ?_));(conv=>whnf);first|refine RT.id ?_|(refine⟨fun hc=>?_,fun hc=>?_⟩<;>first|(exfalso;omega)|skip)|(apply num_k;omega;omega)|(apply num_m;intro r hr)|(intro r hr))|(refine RT.id ?_;first|refine RT.nil ?_|(apply RT.ld T;exact rfl;(focus ((repeat constructor);done));iterate 4 exact rfl)|(apply RT.st T;(iterate 3 exact rfl);(focus ((repeat constructor);done));(focus repeat constructor);iterate 2 exact rfl)|((first|apply RT.box|apply RT.alloc T);(iterate 4 exact rfl);intro b)|refine RT.build T rfl rfl rfl rfl rfl ?_|(apply RT.lens T;iterate 4 exact rfl))|(refine AtQ.id_ ?_;first|refine nx ?_|refine A0 ?_|refine A9 ?_|refine AtQ.in_ne rfl ?_)|(refine CT.id_ ?_;first|refine nx ?_|refine CT.region ?_|refine CT.quiet mixed (by kernel_rfl) ?_|refine CT.cond_t rfl ?_|refine CT.cond_f rfl ?_))
    obtain ⟨q0, hq0⟩ : ∃ q0, q0 = q + 200 + full + 8 * (res.l.length : Int) := ⟨_, rfl⟩
    rw [← hq0]
    refine CT.loop (α := Nat × Int) (fun s => [(0, .slice a l.length c), (1, .int .i64 ah), (2, .int .i64 s.2), (7, .int .i64 i), (8, .int .i64 full), (9, .int .i64 s.1)]) (fun s => Pu (s.1 ≤ fields.l.length ∧ q0 + 8 * s.1 ≤ s.2 ∧ s.2 ≤ 4503599627370496 ∧ (s.2 ≤ 16777216 → ∀ f ∈ fields.l.take s.1, FNm f)) :: R) (fun s => fields.l.length - s.1) (0, q0)
      ⟨rfl, rfl, rfl, rfl, rfl, rfl, trivial⟩ (fun w h => Sat.pu_in ⟨Nat.zero_le _, by dsimp only; omega, by dsimp only; omega, fun _ e he => by simp at he⟩ h) (fun ⟨k, p⟩ => CT.pu fun ⟨hk1, hp1, hp2, hp3⟩ => ?_)
    dsimp only at hk1 hp1 hp2 hp3 ⊢
    repeat' (first|((first|refine vc_id ?_|(refine RT.id ?_;refine RT.c T ?_));(conv=>whnf);first|refine RT.id ?_|(refine⟨fun hc=>?_,fun hc=>?_⟩<;>first|(exfalso;omega)|skip)|(apply num_k;omega;omega)|(apply num_m;intro r hr)|(intro r hr))|(refine RT.id ?_;first|refine RT.nil ?_|(apply RT.ld T;exact rfl;(focus ((repeat constructor);done));iterate 4 exact rfl)|(apply RT.st T;(iterate 3 exact rfl);(focus ((repeat constructor);done));(focus repeat constructor);iterate 2 exact rfl)|((first|apply RT.box|apply RT.alloc T);(iterate 4 exact rfl);intro b)|refine RT.build T rfl rfl rfl rfl rfl ?_|(apply RT.lens T;iterate 4 exact rfl))|(refine AtQ.id_ ?_;first|refine nx ?_|refine A0 ?_|refine A9 ?_|refine AtQ.in_ne rfl ?_)|(refine CT.id_ ?_;first|refine nx ?_|refine CT.region ?_|refine CT.quiet mixed (by kernel_rfl) ?_|refine CT.cond_t rfl ?_|refine CT.cond_f rfl ?_))
    refine RT.ix T (j := i * 7) rfl rfl rfl (by exact hR) (by omega) (by omega) (by omega) rfl rfl ?_
    refine RT.faA T rfl rfl rfl rfl ?_
    refine RT.ldr (u := fields.v) T rfl (by exact hR) (by rw [flat_get (f := MsgT.cells) (z := 7) (fun _ => rfl) hgi (by decide)]; rfl) rfl rfl rfl ?_
    repeat' (first|((first|refine vc_id ?_|(refine RT.id ?_;refine RT.c T ?_));(conv=>whnf);first|refine RT.id ?_|(refine⟨fun hc=>?_,fun hc=>?_⟩<;>first|(exfalso;omega)|skip)|(apply num_k;omega;omega)|(apply num_m;intro r hr)|(intro r hr))|(refine RT.id ?_;first|refine RT.nil ?_|(apply RT.ld T;exact rfl;(focus ((repeat constructor);done));iterate 4 exact rfl)|(apply RT.st T;(iterate 3 exact rfl);(focus ((repeat constructor);done));(focus repeat constructor);iterate 2 exact rfl)|((first|apply RT.box|apply RT.alloc T);(iterate 4 exact rfl);intro b)|refine RT.build T rfl rfl rfl rfl rfl ?_|(apply RT.lens T;iterate 4 exact rfl))|(refine AtQ.id_ ?_;first|refine nx ?_|refine A0 ?_|refine A9 ?_|refine AtQ.in_ne rfl ?_)|(refine CT.id_ ?_;first|refine nx ?_|refine CT.region ?_|refine CT.quiet mixed (by kernel_rfl) ?_|refine CT.cond_t rfl ?_|refine CT.cond_f rfl ?_))
    · have hkl : k < fields.l.length := by omega
      have hgk := List.getElem?_eq_getElem hkl
      revert hgk
      generalize fields.l[k] = fd
      intro hgk
      obtain ⟨⟨_, fo1⟩, _, _, _, ⟨_, fo2⟩, _, _, _, ⟨_, fo3⟩⟩ := ef2 fd (List.mem_of_getElem? hgk)
      refine RT.ix T (j := i * 7) rfl rfl rfl (by exact hR) (by omega) (by omega) (by omega) rfl rfl ?_
      refine RT.faA T rfl rfl rfl rfl ?_
      refine RT.ldr (u := fields.v) T rfl (by exact hR) (by rw [flat_get (f := MsgT.cells) (z := 7) (fun _ => rfl) hgi (by decide)]; rfl) rfl rfl rfl ?_
      repeat' (first|((first|refine vc_id ?_|(refine RT.id ?_;refine RT.c T ?_));(conv=>whnf);first|refine RT.id ?_|(refine⟨fun hc=>?_,fun hc=>?_⟩<;>first|(exfalso;omega)|skip)|(apply num_k;omega;omega)|(apply num_m;intro r hr)|(intro r hr))|(refine RT.id ?_;first|refine RT.nil ?_|(apply RT.ld T;exact rfl;(focus ((repeat constructor);done));iterate 4 exact rfl)|(apply RT.st T;(iterate 3 exact rfl);(focus ((repeat constructor);done));(focus repeat constructor);iterate 2 exact rfl)|((first|apply RT.box|apply RT.alloc T);(iterate 4 exact rfl);intro b)|refine RT.build T rfl rfl rfl rfl rfl ?_|(apply RT.lens T;iterate 4 exact rfl))|(refine AtQ.id_ ?_;first|refine nx ?_|refine A0 ?_|refine A9 ?_|refine AtQ.in_ne rfl ?_)|(refine CT.id_ ?_;first|refine nx ?_|refine CT.region ?_|refine CT.quiet mixed (by kernel_rfl) ?_|refine CT.cond_t rfl ?_|refine CT.cond_f rfl ?_))
      refine RT.ix T (j := k * 9) rfl rfl rfl (by exact if1) (by omega) (by omega) (by omega) rfl rfl ?_
      refine RT.ldra T rfl (by exact if1) (l := fd.cells) (flat_sub (f := FieldT.cells) (z := 9) (fun _ => rfl) fields.l k _ hgk) rfl rfl rfl rfl ?_
      repeat' (first|((first|refine vc_id ?_|(refine RT.id ?_;refine RT.c T ?_));(conv=>whnf);first|refine RT.id ?_|(refine⟨fun hc=>?_,fun hc=>?_⟩<;>first|(exfalso;omega)|skip)|(apply num_k;omega;omega)|(apply num_m;intro r hr)|(intro r hr))|(refine RT.id ?_;first|refine RT.nil ?_|(apply RT.ld T;exact rfl;(focus ((repeat constructor);done));iterate 4 exact rfl)|(apply RT.st T;(iterate 3 exact rfl);(focus ((repeat constructor);done));(focus repeat constructor);iterate 2 exact rfl)|((first|apply RT.box|apply RT.alloc T);(iterate 4 exact rfl);intro b)|refine RT.build T rfl rfl rfl rfl rfl ?_|(apply RT.lens T;iterate 4 exact rfl))|(refine RT.id ?_;first|(apply RT.staggW T;exact rfl;exact rfl;exact rfl;(focus ((repeat constructor);done));iterate 4 exact rfl)|(apply RT.ldagg T;exact rfl;(focus ((repeat constructor);done));iterate 4 exact rfl))|(refine AtQ.id_ ?_;first|refine nx ?_|refine A0 ?_|refine A9 ?_|refine AtQ.in_ne rfl ?_)|(refine CT.id_ ?_;first|refine nx ?_|refine CT.region ?_|refine CT.quiet mixed (by kernel_rfl) ?_|refine CT.cond_t rfl ?_|refine CT.cond_f rfl ?_))
      exact AtQ.loop (k + 1, p + 120 + full + (fd.nm.length : Int) + (fd.ty.length : Int) + (fd.js.length : Int)) ⟨rfl, rfl, rfl, rfl, rfl, rfl, trivial⟩ (fun w h => Sat.pu_in ⟨by omega, by dsimp only; omega, by dsimp only; omega, fun hw => by dsimp only at hw; exact sm_take hgk (hp3 (by omega)) (by unfold FNm; omega)⟩ h.tail) (by dsimp only; omega)
    all_goals
      have hend : p ≤ 16777216 → k = fields.l.length := fun h => by omega
      refine CT.loop (α := Nat × Int) (fun s => [(0, .slice a l.length c), (1, .int .i64 ah), (2, .int .i64 s.2), (7, .int .i64 i), (8, .int .i64 full), (11, .int .i64 s.1)]) (fun s => Pu (s.1 ≤ oneofs.l.length ∧ LeB (p + 8 * s.1) s.2 ∧ 0 ≤ s.2 ∧ s.2 ≤ 4503599627370496 ∧ (s.2 ≤ 16777216 → SmT (oneofs.l.take s.1))) :: R) (fun s => oneofs.l.length - s.1) (0, p)
        ⟨rfl, rfl, rfl, rfl, rfl, rfl, trivial⟩ (fun w h => Sat.pu_in ⟨Nat.zero_le _, by unfold LeB; dsimp only; omega, by dsimp only; omega, by dsimp only; omega, fun _ e he => by simp at he⟩ h) (fun ⟨j, o⟩ => CT.pu fun ⟨hj1, ho1, ho0, ho2, ho3⟩ => ?_)
      dsimp only at hj1 ho1 ho0 ho2 ho3 ⊢
      repeat' (first|((first|refine vc_id ?_|(refine RT.id ?_;refine RT.c T ?_));(conv=>whnf);first|refine RT.id ?_|(refine⟨fun hc=>?_,fun hc=>?_⟩<;>first|(exfalso;omega)|skip)|(apply num_k;omega;omega)|(apply num_m;intro r hr)|(intro r hr))|(refine RT.id ?_;first|refine RT.nil ?_|(apply RT.ld T;exact rfl;(focus ((repeat constructor);done));iterate 4 exact rfl)|(apply RT.st T;(iterate 3 exact rfl);(focus ((repeat constructor);done));(focus repeat constructor);iterate 2 exact rfl)|((first|apply RT.box|apply RT.alloc T);(iterate 4 exact rfl);intro b)|refine RT.build T rfl rfl rfl rfl rfl ?_|(apply RT.lens T;iterate 4 exact rfl))|(refine AtQ.id_ ?_;first|refine nx ?_|refine A0 ?_|refine A9 ?_|refine AtQ.in_ne rfl ?_)|(refine CT.id_ ?_;first|refine nx ?_|refine CT.region ?_|refine CT.quiet mixed (by kernel_rfl) ?_|refine CT.cond_t rfl ?_|refine CT.cond_f rfl ?_))
      refine RT.ix T (j := i * 7) rfl rfl rfl (by exact hR) (by omega) (by omega) (by omega) rfl rfl ?_
      refine RT.faA T rfl rfl rfl rfl ?_
      refine RT.ldr (u := oneofs.v) T rfl (by exact hR) (by rw [flat_get (f := MsgT.cells) (z := 7) (fun _ => rfl) hgi (by decide)]; rfl) rfl rfl rfl ?_
      repeat' (first|((first|refine vc_id ?_|(refine RT.id ?_;refine RT.c T ?_));(conv=>whnf);first|refine RT.id ?_|(refine⟨fun hc=>?_,fun hc=>?_⟩<;>first|(exfalso;omega)|skip)|(apply num_k;omega;omega)|(apply num_m;intro r hr)|(intro r hr))|(refine RT.id ?_;first|refine RT.nil ?_|(apply RT.ld T;exact rfl;(focus ((repeat constructor);done));iterate 4 exact rfl)|(apply RT.st T;(iterate 3 exact rfl);(focus ((repeat constructor);done));(focus repeat constructor);iterate 2 exact rfl)|((first|apply RT.box|apply RT.alloc T);(iterate 4 exact rfl);intro b)|refine RT.build T rfl rfl rfl rfl rfl ?_|(apply RT.lens T;iterate 4 exact rfl))|(refine AtQ.id_ ?_;first|refine nx ?_|refine A0 ?_|refine A9 ?_|refine AtQ.in_ne rfl ?_)|(refine CT.id_ ?_;first|refine nx ?_|refine CT.region ?_|refine CT.quiet mixed (by kernel_rfl) ?_|refine CT.cond_t rfl ?_|refine CT.cond_f rfl ?_))
      · have hjl : j < oneofs.l.length := by omega
        have hto := (eo2 oneofs.l[j] (List.getElem_mem hjl)).2
        refine RT.ix T (j := i * 7) rfl rfl rfl (by exact hR) (by omega) (by omega) (by omega) rfl rfl ?_
        refine RT.faA T rfl rfl rfl rfl ?_
        refine RT.ldr (u := oneofs.v) T rfl (by exact hR) (by rw [flat_get (f := MsgT.cells) (z := 7) (fun _ => rfl) hgi (by decide)]; rfl) rfl rfl rfl ?_
        repeat' (first|((first|refine vc_id ?_|(refine RT.id ?_;refine RT.c T ?_));(conv=>whnf);first|refine RT.id ?_|(refine⟨fun hc=>?_,fun hc=>?_⟩<;>first|(exfalso;omega)|skip)|(apply num_k;omega;omega)|(apply num_m;intro r hr)|(intro r hr))|(refine RT.id ?_;first|refine RT.nil ?_|(apply RT.ld T;exact rfl;(focus ((repeat constructor);done));iterate 4 exact rfl)|(apply RT.st T;(iterate 3 exact rfl);(focus ((repeat constructor);done));(focus repeat constructor);iterate 2 exact rfl)|((first|apply RT.box|apply RT.alloc T);(iterate 4 exact rfl);intro b)|refine RT.build T rfl rfl rfl rfl rfl ?_|(apply RT.lens T;iterate 4 exact rfl))|(refine AtQ.id_ ?_;first|refine nx ?_|refine A0 ?_|refine A9 ?_|refine AtQ.in_ne rfl ?_)|(refine CT.id_ ?_;first|refine nx ?_|refine CT.region ?_|refine CT.quiet mixed (by kernel_rfl) ?_|refine CT.cond_t rfl ?_|refine CT.cond_f rfl ?_))
        refine RT.ix T (j := j) rfl rfl rfl (by exact io1) (by omega) (by omega) (by omega) rfl rfl ?_
        refine RT.ldr T rfl (by exact io1) (map_get hjl) rfl rfl rfl ?_
        repeat' (first|((first|refine vc_id ?_|(refine RT.id ?_;refine RT.c T ?_));(conv=>whnf);first|refine RT.id ?_|(refine⟨fun hc=>?_,fun hc=>?_⟩<;>first|(exfalso;omega)|skip)|(apply num_k;omega;omega)|(apply num_m;intro r hr)|(intro r hr))|(refine RT.id ?_;first|refine RT.nil ?_|(apply RT.ld T;exact rfl;(focus ((repeat constructor);done));iterate 4 exact rfl)|(apply RT.st T;(iterate 3 exact rfl);(focus ((repeat constructor);done));(focus repeat constructor);iterate 2 exact rfl)|((first|apply RT.box|apply RT.alloc T);(iterate 4 exact rfl);intro b)|refine RT.build T rfl rfl rfl rfl rfl ?_|(apply RT.lens T;iterate 4 exact rfl))|(refine AtQ.id_ ?_;first|refine nx ?_|refine A0 ?_|refine A9 ?_|refine AtQ.in_ne rfl ?_)|(refine CT.id_ ?_;first|refine nx ?_|refine CT.region ?_|refine CT.quiet mixed (by kernel_rfl) ?_|refine CT.cond_t rfl ?_|refine CT.cond_f rfl ?_))
        exact AtQ.loop (j + 1, o + 80 + full + (oneofs.l[j].length : Int)) ⟨rfl, rfl, rfl, rfl, rfl, rfl, trivial⟩ (fun w h => Sat.pu_in ⟨by omega, by unfold LeB at *; dsimp only; omega, by dsimp only; omega, by dsimp only; omega, fun hw => by unfold LeB at *; dsimp only at hw; exact sm_take (List.getElem?_eq_getElem hjl) (ho3 (by omega)) (by omega)⟩ h) (by dsimp only; omega)
      all_goals
        unfold LeB at ho1
        have hend2 : o ≤ 16777216 → j = oneofs.l.length := fun h => by omega
        refine RT.ix T (j := i * 7) rfl rfl rfl (by exact hR) (by omega) (by omega) (by omega) rfl rfl ?_
        refine RT.faA T rfl rfl rfl rfl ?_
        refine RT.ldr (u := names.v) T rfl (by exact hR) (by rw [flat_get (f := MsgT.cells) (z := 7) (fun _ => rfl) hgi (by decide)]; rfl) rfl rfl rfl ?_
        repeat' (first|((first|refine vc_id ?_|(refine RT.id ?_;refine RT.c T ?_));(conv=>whnf);first|refine RT.id ?_|(refine⟨fun hc=>?_,fun hc=>?_⟩<;>first|(exfalso;omega)|skip)|(apply num_k;omega;omega)|(apply num_m;intro r hr)|(intro r hr))|(refine RT.id ?_;first|refine RT.nil ?_|(apply RT.ld T;exact rfl;(focus ((repeat constructor);done));iterate 4 exact rfl)|(apply RT.st T;(iterate 3 exact rfl);(focus ((repeat constructor);done));(focus repeat constructor);iterate 2 exact rfl)|((first|apply RT.box|apply RT.alloc T);(iterate 4 exact rfl);intro b)|refine RT.build T rfl rfl rfl rfl rfl ?_|(apply RT.lens T;iterate 4 exact rfl))|(refine AtQ.id_ ?_;first|refine nx ?_|refine A0 ?_|refine A9 ?_|refine AtQ.in_ne rfl ?_)|(refine CT.id_ ?_;first|refine nx ?_|refine CT.region ?_|refine CT.quiet mixed (by kernel_rfl) ?_|refine CT.cond_t rfl ?_|refine CT.cond_f rfl ?_))
        refine RT.call T rfl (by (repeat (first|exact Fr.nil|(apply Fr.cons;focus ((repeat constructor);done))))) (tweight_fn (r := names) (n := o) it1 et1 et2 (by omega) (by omega)) rfl rfl rfl ?_
        rintro _ _ ⟨⟨w1, rfl, ⟨hw1, hw2, hw3⟩, hw4⟩, rfl⟩
        try simp only [List.cons_append, List.nil_append]
        repeat' (first|((first|refine vc_id ?_|(refine RT.id ?_;refine RT.c T ?_));(conv=>whnf);first|refine RT.id ?_|(refine⟨fun hc=>?_,fun hc=>?_⟩<;>first|(exfalso;omega)|skip)|(apply num_k;omega;omega)|(apply num_m;intro r hr)|(intro r hr))|(refine RT.id ?_;first|refine RT.nil ?_|(apply RT.ld T;exact rfl;(focus ((repeat constructor);done));iterate 4 exact rfl)|(apply RT.st T;(iterate 3 exact rfl);(focus ((repeat constructor);done));(focus repeat constructor);iterate 2 exact rfl)|((first|apply RT.box|apply RT.alloc T);(iterate 4 exact rfl);intro b)|refine RT.build T rfl rfl rfl rfl rfl ?_|(apply RT.lens T;iterate 4 exact rfl))|(refine AtQ.id_ ?_;first|refine nx ?_|refine A0 ?_|refine A9 ?_|refine AtQ.in_ne rfl ?_)|(refine CT.id_ ?_;first|refine nx ?_|refine CT.region ?_|refine CT.quiet mixed (by kernel_rfl) ?_|refine CT.cond_t rfl ?_|refine CT.cond_f rfl ?_))
        refine RT.ix T (j := i * 7) rfl rfl rfl (by exact hR) (by omega) (by omega) (by omega) rfl rfl ?_
        refine RT.faA T rfl rfl rfl rfl ?_
        refine RT.ldr (u := enums.v) T rfl (by exact hR) (by rw [flat_get (f := MsgT.cells) (z := 7) (fun _ => rfl) hgi (by decide)]; rfl) rfl rfl rfl ?_
        repeat' (first|((first|refine vc_id ?_|(refine RT.id ?_;refine RT.c T ?_));(conv=>whnf);first|refine RT.id ?_|(refine⟨fun hc=>?_,fun hc=>?_⟩<;>first|(exfalso;omega)|skip)|(apply num_k;omega;omega)|(apply num_m;intro r hr)|(intro r hr))|(refine RT.id ?_;first|refine RT.nil ?_|(apply RT.ld T;exact rfl;(focus ((repeat constructor);done));iterate 4 exact rfl)|(apply RT.st T;(iterate 3 exact rfl);(focus ((repeat constructor);done));(focus repeat constructor);iterate 2 exact rfl)|((first|apply RT.box|apply RT.alloc T);(iterate 4 exact rfl);intro b)|refine RT.build T rfl rfl rfl rfl rfl ?_|(apply RT.lens T;iterate 4 exact rfl))|(refine AtQ.id_ ?_;first|refine nx ?_|refine A0 ?_|refine A9 ?_|refine AtQ.in_ne rfl ?_)|(refine CT.id_ ?_;first|refine nx ?_|refine CT.region ?_|refine CT.quiet mixed (by kernel_rfl) ?_|refine CT.cond_t rfl ?_|refine CT.cond_f rfl ?_))
        refine RT.call T rfl (by (repeat (first|exact Fr.nil|(apply Fr.cons;focus ((repeat constructor);done))))) (eweight_fn (r := enums) (ah := full) (n := w1) ie1 ee1 ie2 ee2 (by omega) (by omega) (by omega) (fun h => by omega)) rfl rfl rfl ?_
        rintro _ _ ⟨⟨w2, rfl, ⟨hx1, hx2, hx3⟩, hx4⟩, rfl⟩
        try simp only [List.cons_append, List.nil_append]
        repeat' (first|((first|refine vc_id ?_|(refine RT.id ?_;refine RT.c T ?_));(conv=>whnf);first|refine RT.id ?_|(refine⟨fun hc=>?_,fun hc=>?_⟩<;>first|(exfalso;omega)|skip)|(apply num_k;omega;omega)|(apply num_m;intro r hr)|(intro r hr))|(refine RT.id ?_;first|refine RT.nil ?_|(apply RT.ld T;exact rfl;(focus ((repeat constructor);done));iterate 4 exact rfl)|(apply RT.st T;(iterate 3 exact rfl);(focus ((repeat constructor);done));(focus repeat constructor);iterate 2 exact rfl)|((first|apply RT.box|apply RT.alloc T);(iterate 4 exact rfl);intro b)|refine RT.build T rfl rfl rfl rfl rfl ?_|(apply RT.lens T;iterate 4 exact rfl))|(refine AtQ.id_ ?_;first|refine nx ?_|refine A0 ?_|refine A9 ?_|refine AtQ.in_ne rfl ?_)|(refine CT.id_ ?_;first|refine nx ?_|refine CT.region ?_|refine CT.quiet mixed (by kernel_rfl) ?_|refine CT.cond_t rfl ?_|refine CT.cond_f rfl ?_))
        refine RT.ix T (j := i * 7) rfl rfl rfl (by exact hR) (by omega) (by omega) (by omega) rfl rfl ?_
        refine RT.faA T rfl rfl rfl rfl ?_
        refine RT.ldr (u := .slice ma msgs.length mc) T rfl (by exact hR) (by rw [flat_get (f := MsgT.cells) (z := 7) (fun _ => rfl) hgi (by decide)]; rfl) rfl rfl rfl ?_
        repeat' (first|((first|refine vc_id ?_|(refine RT.id ?_;refine RT.c T ?_));(conv=>whnf);first|refine RT.id ?_|(refine⟨fun hc=>?_,fun hc=>?_⟩<;>first|(exfalso;omega)|skip)|(apply num_k;omega;omega)|(apply num_m;intro r hr)|(intro r hr))|(refine RT.id ?_;first|refine RT.nil ?_|(apply RT.ld T;exact rfl;(focus ((repeat constructor);done));iterate 4 exact rfl)|(apply RT.st T;(iterate 3 exact rfl);(focus ((repeat constructor);done));(focus repeat constructor);iterate 2 exact rfl)|((first|apply RT.box|apply RT.alloc T);(iterate 4 exact rfl);intro b)|refine RT.build T rfl rfl rfl rfl rfl ?_|(apply RT.lens T;iterate 4 exact rfl))|(refine AtQ.id_ ?_;first|refine nx ?_|refine A0 ?_|refine A9 ?_|refine AtQ.in_ne rfl ?_)|(refine CT.id_ ?_;first|refine nx ?_|refine CT.region ?_|refine CT.quiet mixed (by kernel_rfl) ?_|refine CT.cond_t rfl ?_|refine CT.cond_f rfl ?_))
        refine RT.call T rfl (by (repeat (first|exact Fr.nil|(apply Fr.cons;focus ((repeat constructor);done))))) (ih (MsgT.deepL msgs) (by omega) (Nat.le_refl _) im1 em1 im2 em2 (by omega) (by omega) (by omega) (fun h => by omega)) rfl rfl rfl ?_
        rintro _ _ ⟨⟨w3, rfl, ⟨hy1, hy2, hy3⟩, hy4⟩, rfl⟩
        try simp only [List.cons_append, List.nil_append]
        repeat' (first|((first|refine vc_id ?_|(refine RT.id ?_;refine RT.c T ?_));(conv=>whnf);first|refine RT.id ?_|(refine⟨fun hc=>?_,fun hc=>?_⟩<;>first|(exfalso;omega)|skip)|(apply num_k;omega;omega)|(apply num_m;intro r hr)|(intro r hr))|(refine RT.id ?_;first|refine RT.nil ?_|(apply RT.ld T;exact rfl;(focus ((repeat constructor);done));iterate 4 exact rfl)|(apply RT.st T;(iterate 3 exact rfl);(focus ((repeat constructor);done));(focus repeat constructor);iterate 2 exact rfl)|((first|apply RT.box|apply RT.alloc T);(iterate 4 exact rfl);intro b)|refine RT.build T rfl rfl rfl rfl rfl ?_|(apply RT.lens T;iterate 4 exact rfl))|(refine AtQ.id_ ?_;first|refine nx ?_|refine A0 ?_|refine A9 ?_|refine AtQ.in_ne rfl ?_)|(refine CT.id_ ?_;first|refine nx ?_|refine CT.region ?_|refine CT.quiet mixed (by kernel_rfl) ?_|refine CT.cond_t rfl ?_|refine CT.cond_f rfl ?_))
        exact AtQ.loop (i + 1, w3) ⟨rfl, rfl, rfl, rfl, trivial⟩ (fun _ h => Sat.pu_in ⟨by omega, by dsimp only; omega, by dsimp only; omega, fun hw => sm_take hgi h5 (by
          have hw : w3 ≤ 16777216 := hw
          have a1 := hend (by omega)
          have a2 := hend2 (by omega)
          have a3 := hw3 (by omega)
          have a4 := hx3 (by omega)
          have a5 := hy3 (by omega)
          have b1 := hp3 (by omega)
          rw [List.take_of_length_le (by omega)] at b1
          have b2 := ho3 (by omega)
          rw [List.take_of_length_le (by omega)] at b2
          have b3 := hx4 (by omega)
          have b4 := hy4 (by omega)
          have b5 := hw4 (by omega)
          unfold MsgT.Sm MsgT.Nm
          exact ⟨⟨by omega, by omega, by omega, by omega, by omega, fun e he => (b3 e he).1, by omega, b4.1⟩, by omega, b1, b2, b5, fun e he => (b3 e he).2, b4.2⟩)⟩ h) (by dsimp only; omega)
  · exact AtQ.fin1 Tryd.results10 rfl ⟨⟨q, rfl, by unfold Wt; omega, fun h => by omega⟩, rfl⟩ (fun w h => h)
  · exact AtQ.fin1 Tryd.results10 rfl ⟨⟨q, rfl, by unfold Wt; omega, fun h => ⟨MsgT.smL_of fun e he => (hq3 h e (by rw [List.take_of_length_le (by omega)]; exact he)).1, MsgT.nmL_of fun e he => (hq3 h e (by rw [List.take_of_length_le (by omega)]; exact he)).2⟩⟩, rfl⟩ (fun w h => h)
  --@
end Go.Proofs.YtdemnhdoadjhhaaDoor
end
section
namespace Go.Sk
section
variable {X Y : Option Addr → Nat → Nat → Nat → List Value → Prop}
theorem EnumT.In.mono (h : ∀ a k c z xs, X a k c z xs → Y a k c z xs) {e : EnumT} (hi : e.In X) : e.In Y := ⟨h _ _ _ _ _ hi.1, h _ _ _ _ _ hi.2.1, h _ _ _ _ _ hi.2.2⟩
mutual
theorem MsgT.In.mono (h : ∀ a k c z xs, X a k c z xs → Y a k c z xs) : ∀ {m : MsgT}, MsgT.In X m → MsgT.In Y m
  | .mk nm fields oneofs ma mc msgs enums res names, hi => by
    unfold MsgT.In at hi ⊢
    obtain ⟨h1, h2, h3, h4, h5, h6, h7, h8⟩ := hi
    exact ⟨h _ _ _ _ _ h1, h _ _ _ _ _ h2, h _ _ _ _ _ h3, h _ _ _ _ _ h4, fun e he => (h5 e he).mono h, h _ _ _ _ _ h6, h _ _ _ _ _ h7, MsgT.InL.mono h h8⟩
theorem MsgT.InL.mono (h : ∀ a k c z xs, X a k c z xs → Y a k c z xs) : ∀ {l : List MsgT}, MsgT.InL X l → MsgT.InL Y l
  | [], _ => by unfold MsgT.InL; trivial
  | m :: l, hi => by
    unfold MsgT.InL at hi ⊢
    exact ⟨MsgT.In.mono h hi.1, MsgT.InL.mono h hi.2⟩
end
theorem FileT.In.mono (h : ∀ a k c z xs, X a k c z xs → Y a k c z xs) {f : FileT} (hi : f.In X) : f.In Y :=
  ⟨h _ _ _ _ _ hi.imps, h _ _ _ _ _ hi.msgs, fun m hm => MsgT.In.mono h (hi.sub m hm), h _ _ _ _ _ hi.enums, fun e he => (hi.esub e he).mono h⟩
end
end Go.Sk
end
section
namespace Go.Proofs.YtdemnhdoadjhhaaDoor
open Go.Sk
set_option maxRecDepth 100000
attribute [local irreducible] Cs Own Ex Pu Yld RT LJ QJ AtQ CT Rd QSp Sp FinQ Then LoopQ CutQ DT TakeQ EffQ
variable {B : World} {R : List HP}
structure FSm (f : FileT) : Prop where
  imps : f.imps.l.length ≤ 2097152
  msgs : f.msgs.length ≤ 2097152
  sub : MsgT.SmL f.msgs
  enums : f.enums.l.length ≤ 2097152
  esub : ∀ e ∈ f.enums.l, ESm e
  nms : MsgT.NmL f.msgs
  pk : f.pack.length ≤ 16777216
  enm : ∀ e ∈ f.enums.l, ENm e
/-- Its names are short. -/
structure FNs (f : FileT) : Prop where
  nms : MsgT.NmL f.msgs
  pk : f.pack.length ≤ 16777216
  enm : ∀ e ∈ f.enums.l, ENm e
theorem FSm.ns {f : FileT} (h : FSm f) : FNs f := ⟨h.nms, h.pk, h.enm⟩
theorem weight_fn {f : FileT} (hi : f.In (Rd B R)) (ho : f.Ok) :
    Sp B Tryd.prog 5 [.agg f.cells.toArray] R [] (fun v H' => (∃ w, v = .int .i64 w ∧ 0 ≤ w ∧ (w ≤ 16777216 → FSm f)) ∧ H' = []) := by
  obtain ⟨⟨_, hp1⟩, ⟨_, hp2⟩, ⟨⟨hi1, _⟩, hi2⟩, ⟨⟨hm1, _⟩, hm2⟩, ⟨⟨he1, _⟩, he2⟩⟩ := ho
  dsimp only at hm1
  refine Sp.body Tryd.func5 rfl Tryd.ntmps5 (by simp) ?_
  simp only [argE, List.cons_append, List.nil_append, Nat.zero_add, Nat.reduceAdd]
  repeat' (first|((first|refine vc_id ?_|(refine RT.id ?_;refine RT.c T ?_));(conv=>whnf);first|refine RT.id ?_|(refine⟨fun hc=>?_,fun hc=>?_⟩<;>first|(exfalso;omega)|skip)|(apply num_k;omega;omega)|(apply num_m;intro r hr)|(intro r hr))|(refine RT.id ?_;first|refine RT.nil ?_|(apply RT.ld T;exact rfl;(focus ((repeat constructor);done));iterate 4 exact rfl)|(apply RT.st T;(iterate 3 exact rfl);(focus ((repeat constructor);done));(focus repeat constructor);iterate 2 exact rfl)|((first|apply RT.box|apply RT.alloc T);(iterate 4 exact rfl);intro b)|refine RT.build T rfl rfl rfl rfl rfl ?_|(apply RT.lens T;iterate 4 exact rfl))|(refine AtQ.id_ ?_;first|refine nx ?_|refine A0 ?_|refine A9 ?_|refine AtQ.in_ne rfl ?_)|(refine CT.id_ ?_;first|refine nx ?_|refine CT.region ?_|refine CT.quiet mixed (by kernel_rfl) ?_|refine CT.cond_t rfl ?_|refine CT.cond_f rfl ?_))
  have him := FileT.In.mono (Y := Rd B (Cs b 26 f.cells :: R)) (fun a k c z xs h => Rd.cons h) hi
  obtain ⟨q0, hq0⟩ : ∃ q0, q0 = 100 + (f.path.length : Int) + (f.pack.length : Int) := ⟨_, rfl⟩
  rw [← hq0]
  refine CT.loop (α := Nat × Int) (fun s => [(1, .pointer (some ⟨b, 0, none⟩)), (3, .int .i64 s.2), (4, .int .i64 s.1)]) (fun s => Pu (s.1 ≤ f.imps.l.length ∧ q0 + 8 * s.1 ≤ s.2 ∧ s.2 ≤ 4503599627370496) :: Cs b 26 f.cells :: R) (fun s => f.imps.l.length - s.1) (0, q0)
    ⟨rfl, rfl, rfl, trivial⟩ (fun w h => Sat.pu_in ⟨Nat.zero_le _, by dsimp only; omega, by dsimp only; omega⟩ h) (fun ⟨i, q⟩ => CT.pu fun ⟨hi1, hq1, hq2⟩ => ?_)
  dsimp only at hi1 hq1 hq2 ⊢
  repeat' (first|((first|refine vc_id ?_|(refine RT.id ?_;refine RT.c T ?_));(conv=>whnf);first|refine RT.id ?_|(refine⟨fun hc=>?_,fun hc=>?_⟩<;>first|(exfalso;omega)|skip)|(apply num_k;omega;omega)|(apply num_m;intro r hr)|(intro r hr))|(refine RT.id ?_;first|refine RT.nil ?_|(apply RT.ld T;exact rfl;(focus ((repeat constructor);done));iterate 4 exact rfl)|(apply RT.st T;(iterate 3 exact rfl);(focus ((repeat constructor);done));(focus repeat constructor);iterate 2 exact rfl)|((first|apply RT.box|apply RT.alloc T);(iterate 4 exact rfl);intro b)|refine RT.build T rfl rfl rfl rfl rfl ?_|(apply RT.lens T;iterate 4 exact rfl))|(refine AtQ.id_ ?_;first|refine nx ?_|refine A0 ?_|refine A9 ?_|refine AtQ.in_ne rfl ?_)|(refine CT.id_ ?_;first|refine nx ?_|refine CT.region ?_|refine CT.quiet mixed (by kernel_rfl) ?_|refine CT.cond_t rfl ?_|refine CT.cond_f rfl ?_))
  · have hil : i < f.imps.l.length := by omega
    have hgi := List.getElem?_eq_getElem hil
    revert hgi
    generalize f.imps.l[i] = im
    intro hgi
    have hto := (hi2 im (List.mem_of_getElem? hgi)).2
    refine RT.ix T (j := i * 2) rfl rfl rfl (by exact him.imps) (by omega) (by omega) (by omega) rfl rfl ?_
    refine RT.faA T rfl rfl rfl rfl ?_
    refine RT.ldr (u := vS im.path) T rfl (by exact him.imps) (by rw [flat_get (f := ImpT.cells) (z := 2) (fun _ => rfl) hgi (by decide)]; rfl) rfl rfl rfl ?_
    repeat' (first|((first|refine vc_id ?_|(refine RT.id ?_;refine RT.c T ?_));(conv=>whnf);first|refine RT.id ?_|(refine⟨fun hc=>?_,fun hc=>?_⟩<;>first|(exfalso;omega)|skip)|(apply num_k;omega;omega)|(apply num_m;intro r hr)|(intro r hr))|(refine RT.id ?_;first|refine RT.nil ?_|(apply RT.ld T;exact rfl;(focus ((repeat constructor);done));iterate 4 exact rfl)|(apply RT.st T;(iterate 3 exact rfl);(focus ((repeat constructor);done));(focus repeat constructor);iterate 2 exact rfl)|((first|apply RT.box|apply RT.alloc T);(iterate 4 exact rfl);intro b)|refine RT.build T rfl rfl rfl rfl rfl ?_|(apply RT.lens T;iterate 4 exact rfl))|(refine AtQ.id_ ?_;first|refine nx ?_|refine A0 ?_|refine A9 ?_|refine AtQ.in_ne rfl ?_)|(refine CT.id_ ?_;first|refine nx ?_|refine CT.region ?_|refine CT.quiet mixed (by kernel_rfl) ?_|refine CT.cond_t rfl ?_|refine CT.cond_f rfl ?_))
    exact AtQ.loop (i + 1, q + 20 + (im.path.length : Int)) ⟨rfl, rfl, rfl, trivial⟩ (fun w h => Sat.pu_in ⟨by omega, by dsimp only; omega, by dsimp only; omega⟩ h) (by dsimp only; omega)
  all_goals
    have hend : q ≤ 16777216 → i = f.imps.l.length := fun h => by omega
    refine RT.call T rfl (by (repeat (first|exact Fr.nil|(apply Fr.cons;focus ((repeat constructor);done))))) (mweight_fn (R := Cs b 26 f.cells :: R) (ah := (f.pack.length : Int) + 1) (n := q) _ (Nat.le_refl _) him.msgs hm1 (MsgT.inL_of him.sub) (MsgT.okL_of hm2) (by omega) (by omega) (by omega) (fun h => by omega)) rfl rfl rfl ?_
    rintro _ _ ⟨⟨w2, rfl, ⟨hx1, hx2, hx3⟩, hx4⟩, rfl⟩
    try simp only [List.cons_append, List.nil_append]
    repeat' (first|((first|refine vc_id ?_|(refine RT.id ?_;refine RT.c T ?_));(conv=>whnf);first|refine RT.id ?_|(refine⟨fun hc=>?_,fun hc=>?_⟩<;>first|(exfalso;omega)|skip)|(apply num_k;omega;omega)|(apply num_m;intro r hr)|(intro r hr))|(refine RT.id ?_;first|refine RT.nil ?_|(apply RT.ld T;exact rfl;(focus ((repeat constructor);done));iterate 4 exact rfl)|(apply RT.st T;(iterate 3 exact rfl);(focus ((repeat constructor);done));(focus repeat constructor);iterate 2 exact rfl)|((first|apply RT.box|apply RT.alloc T);(iterate 4 exact rfl);intro b)|refine RT.build T rfl rfl rfl rfl rfl ?_|(apply RT.lens T;iterate 4 exact rfl))|(refine AtQ.id_ ?_;first|refine nx ?_|refine A0 ?_|refine A9 ?_|refine AtQ.in_ne rfl ?_)|(refine CT.id_ ?_;first|refine nx ?_|refine CT.region ?_|refine CT.quiet mixed (by kernel_rfl) ?_|refine CT.cond_t rfl ?_|refine CT.cond_f rfl ?_))
    refine RT.call T rfl (by (repeat (first|exact Fr.nil|(apply Fr.cons;focus ((repeat constructor);done))))) (eweight_fn (R := Cs b 26 f.cells :: R) (r := f.enums) (ah := (f.pack.length : Int) + 1) (n := w2) him.enums he1 him.esub he2 (by omega) (by omega) (by omega) (fun h => by omega)) rfl rfl rfl ?_
    rintro _ _ ⟨⟨w3, rfl, ⟨hy1, hy2, hy3⟩, hy4⟩, rfl⟩
    try simp only [List.cons_append, List.nil_append]
    repeat' (first|((first|refine vc_id ?_|(refine RT.id ?_;refine RT.c T ?_));(conv=>whnf);first|refine RT.id ?_|(refine⟨fun hc=>?_,fun hc=>?_⟩<;>first|(exfalso;omega)|skip)|(apply num_k;omega;omega)|(apply num_m;intro r hr)|(intro r hr))|(refine RT.id ?_;first|refine RT.nil ?_|(apply RT.ld T;exact rfl;(focus ((repeat constructor);done));iterate 4 exact rfl)|(apply RT.st T;(iterate 3 exact rfl);(focus ((repeat constructor);done));(focus repeat constructor);iterate 2 exact rfl)|((first|apply RT.box|apply RT.alloc T);(iterate 4 exact rfl);intro b)|refine RT.build T rfl rfl rfl rfl rfl ?_|(apply RT.lens T;iterate 4 exact rfl))|(refine AtQ.id_ ?_;first|refine nx ?_|refine A0 ?_|refine A9 ?_|refine AtQ.in_ne rfl ?_)|(refine CT.id_ ?_;first|refine nx ?_|refine CT.region ?_|refine CT.quiet mixed (by kernel_rfl) ?_|refine CT.cond_t rfl ?_|refine CT.cond_f rfl ?_))
    exact AtQ.fin1 Tryd.results5 rfl ⟨⟨w3, rfl, by omega, fun h => by
      have a1 := hend (by omega)
      have a3 := hx3 (by omega)
      have a4 := hy3 (by omega)
      exact ⟨by omega, by omega, (hx4 (by omega)).1, by omega, fun e he => (hy4 (by omega) e he).1, (hx4 (by omega)).2, by omega, fun e he => (hy4 (by omega) e he).2⟩⟩, rfl⟩ (fun w h => h.tail)
end Go.Proofs.YtdemnhdoadjhhaaDoor
end
section
namespace Go.Proofs.YtdemnhdoadjhhaaDoor
open Go.Sk
set_option maxRecDepth 100000
theorem Rd.pre {B : World} {H : List HP} {a : Option Addr} {k c sz j : Nat} {xs : List Value} (h : Rd B H a k c sz xs) (hj : j ≤ k) : Rd B H a j c sz (xs.take (j * sz)) := by
  have := Rd.sub (i := 0) (j := j) h (Nat.zero_le _) hj
  rw [asub_z] at this
  simpa using this
theorem flat_take {α : Type} {f : α → List Value} {z : Nat} (hz : ∀ x, (f x).length = z) {l : List α} {i : Nat} (h : i ≤ l.length) : (l.flatMap f).take (i * z) = (l.take i).flatMap f := by
  have h1 : l.flatMap f = (l.take i).flatMap f ++ (l.drop i).flatMap f := by rw [← List.flatMap_append, List.take_append_drop]
  have h2 : ((l.take i).flatMap f).length = i * z := by rw [flat_len hz, List.length_take, Nat.min_eq_left h]
  rw [h1, ← h2, List.take_left']
  rfl
theorem Rd.flatPre {B : World} {H : List HP} {α : Type} {f : α → List Value} {a : Option Addr} {k c sz j : Nat} {l : List α} (hz : ∀ x, (f x).length = sz) (h : Rd B H a k c sz (l.flatMap f)) (hk : l.length = k) (hj : j ≤ k) : Rd B H a j c sz ((l.take j).flatMap f) := by
  have := Rd.pre h hj
  rwa [flat_take hz (by omega)] at this
/-- Names that are given, as a map that counts. -/
def gv (g : List Txt) : List (Value × Value) := g.map fun x => (vS x, .int .i64 1)
theorem gv_in {g : List Txt} {x : Txt} (h : x ∈ g) : ∃ i : Nat, (gv g)[i]? = some (vS x, Value.int .i64 1) := by
  obtain ⟨i, hi, rfl⟩ := List.getElem_of_mem h
  exact ⟨i, by unfold gv; rw [List.getElem?_map, List.getElem?_eq_getElem hi]; rfl⟩
theorem vS_inj {x y : Txt} (hx : Byt x) (hy : Byt y) (h : vS x = vS y) : x = y := by
  injection h with h
  exact (str_inj hx hy).1 h
theorem gv_no {g : List Txt} {x : Txt} (hg : ∀ y ∈ g, Byt y) (hx : Byt x) (h : x ∉ g) : MGet (gv g) (vS x) none := fun y hy => by
  unfold gv at hy
  obtain ⟨z, hz, rfl⟩ := List.mem_map.1 hy
  intro e
  exact h (vS_inj (hg z hz) hx e ▸ hz)
theorem gv_push {g : List Txt} {x : Txt} : gv g ++ [(vS x, .int .i64 1)] = gv (g ++ [x]) := by simp [gv]
/-- The reader and its map. -/
abbrev rdr (br bm : Nat) : HP := Cs br 56 [.map (some bm)]
abbrev giv (bm : Nat) (g : List Txt) : HP := Mp .string bm (gv g)
abbrev BL (l : List Txt) : Prop := ∀ y ∈ l, Byt y
theorem BL.push {l : List Txt} {x : Txt} (h : BL l) (hx : Byt x) : BL (l ++ [x]) := fun y hy => by
  rcases List.mem_append.1 hy with hy | hy
  · exact h y hy
  · rw [List.mem_singleton.1 hy]; exact hx
theorem b2 {x y : Txt} (hx : Byt x) (hy : Byt y) : ∀ l ∈ [x, y], Byt l := fun l hl => by
  rcases List.mem_cons.1 hl with rfl | hl
  · exact hx
  · rw [List.mem_singleton.1 hl]; exact hy
theorem j2_byt {x y : Txt} (hx : Byt x) (hy : Byt y) : Byt (joinL [x, y]) := joinS_byt (filt_mem (b2 hx hy))
theorem s2 (x y : Txt) : sumL [x, y] = x.length + y.length := by simp [sumL]
theorem j2_len {x y : Txt} : (joinL [x, y]).length ≤ x.length + y.length + 2 := by
  have h1 := joinS_len (filt [x, y])
  obtain ⟨h2, h3⟩ := filt_sum [x, y]
  rw [h2, s2] at h1
  unfold joinL
  simp only [List.length_cons, List.length_nil] at h3
  omega
/-- It goes on with more names given, or is given up. -/
abbrev PostR (r : Rs) (ps : List HP) (bm : Nat) : Value → List HP → Prop := fun _ H' => ∃ g, r = .ok g ∧ BL g ∧ H' = ps ++ [giv bm g]
abbrev PPR (r : Rs) : Value → List HP → Prop := fun v H' => ∃ e t, r = .error (e, t) ∧ v = wv e t ∧ H' = []
abbrev PostO (r : Option Flt) : Value → List HP → Prop := fun _ H' => r = none ∧ H' = []
abbrev PPO (r : Option Flt) : Value → List HP → Prop := fun v H' => ∃ e t, r = some (e, t) ∧ v = wv e t ∧ H' = []
attribute [local irreducible] Cs Own Ex Pu Yld RT LJ QJ AtQ CT Rd QSp Sp FinQ Then LoopQ CutQ DT TakeQ EffQ
variable {B : World} {R : List HP}
set_option maxHeartbeats 1000000 in
theorem give_fn {br bm : Nat} {g : List Txt} {nm full : Txt} (hg : BL g) (hn : Byt nm) (hf : Byt full) (hnl : nm.length ≤ 16777216) (hfl : full.length ≤ 140737488355327) :
    SpP B Tryd.prog 38 [ptr br, vS nm, vS full] R [rdr br bm, giv bm g] (PostR (giveR nm full g) [rdr br bm] bm) (PPR (giveR nm full g)) := by
  refine SpP.body Tryd.func38 rfl Tryd.ntmps38 (by simp) ?_
  simp only [argE, List.cons_append, List.nil_append, Nat.zero_add, Nat.reduceAdd]
  repeat' (first|((first|refine vc_id ?_|(refine RT.id ?_;refine RT.c T ?_));(conv=>whnf);first|refine RT.id ?_|(refine⟨fun hc=>?_,fun hc=>?_⟩<;>first|(exfalso;omega)|skip)|(apply num_k;omega;omega)|(apply num_m;intro r hr)|(intro r hr))|(refine RT.id ?_;first|refine RT.nil ?_|(apply RT.ld T;exact rfl;(focus ((repeat constructor);done));iterate 4 exact rfl)|(apply RT.st T;(iterate 3 exact rfl);(focus ((repeat constructor);done));(focus repeat constructor);iterate 2 exact rfl)|((first|apply RT.box|apply RT.alloc T);(iterate 4 exact rfl);intro b)|refine RT.build T rfl rfl rfl rfl rfl ?_|(apply RT.lens T;iterate 4 exact rfl))|(refine AtQ.id_ ?_;first|refine nx ?_|refine A0 ?_|refine A9 ?_|refine AtQ.in_ne rfl ?_)|(refine CT.id_ ?_;first|refine nx ?_|refine CT.region ?_|refine CT.quiet mixed (by kernel_rfl) ?_|refine CT.cond_t rfl ?_|refine CT.cond_f rfl ?_))
  (refine RT.call T rfl (by (repeat (first|exact Fr.nil|(apply Fr.cons;focus ((repeat constructor);done))))) (ident_fn hn (by omega)) rfl rfl rfl ?_; rintro _ _ ⟨rfl, rfl⟩; try simp only [List.cons_append, List.nil_append])
  cases hi : identB nm
  · repeat' (first|((first|refine vc_id ?_|(refine RT.id ?_;refine RT.c T ?_));(conv=>whnf);first|refine RT.id ?_|(refine⟨fun hc=>?_,fun hc=>?_⟩<;>first|(exfalso;omega)|skip)|(apply num_k;omega;omega)|(apply num_m;intro r hr)|(intro r hr))|(refine RT.id ?_;first|refine RT.nil ?_|(apply RT.ld T;exact rfl;(focus ((repeat constructor);done));iterate 4 exact rfl)|(apply RT.st T;(iterate 3 exact rfl);(focus ((repeat constructor);done));(focus repeat constructor);iterate 2 exact rfl)|((first|apply RT.box|apply RT.alloc T);(iterate 4 exact rfl);intro b)|refine RT.build T rfl rfl rfl rfl rfl ?_|(apply RT.lens T;iterate 4 exact rfl))|(refine AtQ.id_ ?_;first|refine nx ?_|refine A0 ?_|refine A9 ?_|refine AtQ.in_ne rfl ?_)|(refine CT.id_ ?_;first|refine nx ?_|refine CT.region ?_|refine CT.quiet mixed (by kernel_rfl) ?_|refine CT.cond_t rfl ?_|refine CT.cond_f rfl ?_))
    (refine RT.callP T rfl (by (repeat (first|exact Fr.nil|(apply Fr.cons;focus ((repeat constructor);done))))) (must_fn (p := false) (e := 60) (t := full)) rfl rfl rfl (fun v H1 hp => ?_) (fun v H1 hp => ?_))
    · obtain ⟨_, rfl, rfl⟩ := hp
      ((repeat refine nx ?_); exact AtQ.finP (H' := []) ⟨60, full, by unfold giveR; rw [hi]; rfl, rfl, rfl⟩ (fun w h => by repeat (first | exact h | replace h := h.tail)))
    · cases hp.1
  · repeat' (first|((first|refine vc_id ?_|(refine RT.id ?_;refine RT.c T ?_));(conv=>whnf);first|refine RT.id ?_|(refine⟨fun hc=>?_,fun hc=>?_⟩<;>first|(exfalso;omega)|skip)|(apply num_k;omega;omega)|(apply num_m;intro r hr)|(intro r hr))|(refine RT.id ?_;first|refine RT.nil ?_|(apply RT.ld T;exact rfl;(focus ((repeat constructor);done));iterate 4 exact rfl)|(apply RT.st T;(iterate 3 exact rfl);(focus ((repeat constructor);done));(focus repeat constructor);iterate 2 exact rfl)|((first|apply RT.box|apply RT.alloc T);(iterate 4 exact rfl);intro b)|refine RT.build T rfl rfl rfl rfl rfl ?_|(apply RT.lens T;iterate 4 exact rfl))|(refine AtQ.id_ ?_;first|refine nx ?_|refine A0 ?_|refine A9 ?_|refine AtQ.in_ne rfl ?_)|(refine CT.id_ ?_;first|refine nx ?_|refine CT.region ?_|refine CT.quiet mixed (by kernel_rfl) ?_|refine CT.cond_t rfl ?_|refine CT.cond_f rfl ?_))
    · (refine RT.callP T rfl (by (repeat (first|exact Fr.nil|(apply Fr.cons;focus ((repeat constructor);done))))) (must_fn (p := true) (e := 60) (t := full)) rfl rfl rfl (fun v H1 hp => ?_) (fun v H1 hp => ?_))
      · cases hp.1
      · obtain ⟨_, rfl⟩ := hp
        have hG : giveR nm full g = must (decide (full ∉ g)) 61 full (.ok (g ++ [full])) := by
          unfold giveR
          rw [must_t (by rw [hi, decide_eq_true (by omega)]; rfl)]
        simp only [List.cons_append, List.nil_append]
        repeat' (first|((first|refine vc_id ?_|(refine RT.id ?_;refine RT.c T ?_));(conv=>whnf);first|refine RT.id ?_|(refine⟨fun hc=>?_,fun hc=>?_⟩<;>first|(exfalso;omega)|skip)|(apply num_k;omega;omega)|(apply num_m;intro r hr)|(intro r hr))|(refine RT.id ?_;first|refine RT.nil ?_|(apply RT.ld T;exact rfl;(focus ((repeat constructor);done));iterate 4 exact rfl)|(apply RT.st T;(iterate 3 exact rfl);(focus ((repeat constructor);done));(focus repeat constructor);iterate 2 exact rfl)|((first|apply RT.box|apply RT.alloc T);(iterate 4 exact rfl);intro b)|refine RT.build T rfl rfl rfl rfl rfl ?_|(apply RT.lens T;iterate 4 exact rfl))|(refine AtQ.id_ ?_;first|refine nx ?_|refine A0 ?_|refine A9 ?_|refine AtQ.in_ne rfl ?_)|(refine CT.id_ ?_;first|refine nx ?_|refine CT.region ?_|refine CT.quiet mixed (by kernel_rfl) ?_|refine CT.cond_t rfl ?_|refine CT.cond_f rfl ?_))
        by_cases hm : full ∈ g
        · obtain ⟨i, hgi⟩ := gv_in hm
          refine RT.lookup (dk := .string) (r := some (.int .i64 1)) T rfl rfl (by ((repeat constructor);done)) trivial ⟨i, hgi⟩ Tryd.underlying54 Tryd.underlying9 rfl rfl rfl ?_
          dsimp only [Option.getD]
          repeat' (first|((first|refine vc_id ?_|(refine RT.id ?_;refine RT.c T ?_));(conv=>whnf);first|refine RT.id ?_|(refine⟨fun hc=>?_,fun hc=>?_⟩<;>first|(exfalso;omega)|skip)|(apply num_k;omega;omega)|(apply num_m;intro r hr)|(intro r hr))|(refine RT.id ?_;first|refine RT.nil ?_|(apply RT.ld T;exact rfl;(focus ((repeat constructor);done));iterate 4 exact rfl)|(apply RT.st T;(iterate 3 exact rfl);(focus ((repeat constructor);done));(focus repeat constructor);iterate 2 exact rfl)|((first|apply RT.box|apply RT.alloc T);(iterate 4 exact rfl);intro b)|refine RT.build T rfl rfl rfl rfl rfl ?_|(apply RT.lens T;iterate 4 exact rfl))|(refine AtQ.id_ ?_;first|refine nx ?_|refine A0 ?_|refine A9 ?_|refine AtQ.in_ne rfl ?_)|(refine CT.id_ ?_;first|refine nx ?_|refine CT.region ?_|refine CT.quiet mixed (by kernel_rfl) ?_|refine CT.cond_t rfl ?_|refine CT.cond_f rfl ?_))
          refine RT.mapSet (dk := .string) (l := gv g) rfl rfl rfl (by ((repeat constructor);done)) trivial hgi Tryd.underlying54 Tryd.underlying9 rfl ?_
          repeat' (first|((first|refine vc_id ?_|(refine RT.id ?_;refine RT.c T ?_));(conv=>whnf);first|refine RT.id ?_|(refine⟨fun hc=>?_,fun hc=>?_⟩<;>first|(exfalso;omega)|skip)|(apply num_k;omega;omega)|(apply num_m;intro r hr)|(intro r hr))|(refine RT.id ?_;first|refine RT.nil ?_|(apply RT.ld T;exact rfl;(focus ((repeat constructor);done));iterate 4 exact rfl)|(apply RT.st T;(iterate 3 exact rfl);(focus ((repeat constructor);done));(focus repeat constructor);iterate 2 exact rfl)|((first|apply RT.box|apply RT.alloc T);(iterate 4 exact rfl);intro b)|refine RT.build T rfl rfl rfl rfl rfl ?_|(apply RT.lens T;iterate 4 exact rfl))|(refine AtQ.id_ ?_;first|refine nx ?_|refine A0 ?_|refine A9 ?_|refine AtQ.in_ne rfl ?_)|(refine CT.id_ ?_;first|refine nx ?_|refine CT.region ?_|refine CT.quiet mixed (by kernel_rfl) ?_|refine CT.cond_t rfl ?_|refine CT.cond_f rfl ?_))
          refine RT.lookup (dk := .string) (r := some (.int .i64 2)) T rfl rfl (by ((repeat constructor);done)) trivial ⟨i, by rw [List.getElem?_set_self (List.getElem?_eq_some_iff.1 hgi).1]; rfl⟩ Tryd.underlying54 Tryd.underlying9 rfl rfl rfl ?_
          dsimp only [Option.getD]
          repeat' (first|((first|refine vc_id ?_|(refine RT.id ?_;refine RT.c T ?_));(conv=>whnf);first|refine RT.id ?_|(refine⟨fun hc=>?_,fun hc=>?_⟩<;>first|(exfalso;omega)|skip)|(apply num_k;omega;omega)|(apply num_m;intro r hr)|(intro r hr))|(refine RT.id ?_;first|refine RT.nil ?_|(apply RT.ld T;exact rfl;(focus ((repeat constructor);done));iterate 4 exact rfl)|(apply RT.st T;(iterate 3 exact rfl);(focus ((repeat constructor);done));(focus repeat constructor);iterate 2 exact rfl)|((first|apply RT.box|apply RT.alloc T);(iterate 4 exact rfl);intro b)|refine RT.build T rfl rfl rfl rfl rfl ?_|(apply RT.lens T;iterate 4 exact rfl))|(refine AtQ.id_ ?_;first|refine nx ?_|refine A0 ?_|refine A9 ?_|refine AtQ.in_ne rfl ?_)|(refine CT.id_ ?_;first|refine nx ?_|refine CT.region ?_|refine CT.quiet mixed (by kernel_rfl) ?_|refine CT.cond_t rfl ?_|refine CT.cond_f rfl ?_))
          (refine RT.callP T rfl (by (repeat (first|exact Fr.nil|(apply Fr.cons;focus ((repeat constructor);done))))) (must_fn (p := false) (e := 61) (t := full)) rfl rfl rfl (fun v H1 hp => ?_) (fun v H1 hp => ?_))
          · obtain ⟨_, rfl, rfl⟩ := hp
            ((repeat refine nx ?_); exact AtQ.finP (H' := []) ⟨61, full, by rw [hG]; exact must_f (decide_eq_false (fun h => h hm)), rfl, rfl⟩ (fun w h => by repeat (first | exact h | replace h := h.tail)))
          · cases hp.1
        · refine RT.lookup (dk := .string) (r := none) T rfl rfl (by ((repeat constructor);done)) trivial (gv_no hg hf hm) Tryd.underlying54 Tryd.underlying9 rfl rfl rfl ?_
          dsimp only [Option.getD]
          repeat' (first|((first|refine vc_id ?_|(refine RT.id ?_;refine RT.c T ?_));(conv=>whnf);first|refine RT.id ?_|(refine⟨fun hc=>?_,fun hc=>?_⟩<;>first|(exfalso;omega)|skip)|(apply num_k;omega;omega)|(apply num_m;intro r hr)|(intro r hr))|(refine RT.id ?_;first|refine RT.nil ?_|(apply RT.ld T;exact rfl;(focus ((repeat constructor);done));iterate 4 exact rfl)|(apply RT.st T;(iterate 3 exact rfl);(focus ((repeat constructor);done));(focus repeat constructor);iterate 2 exact rfl)|((first|apply RT.box|apply RT.alloc T);(iterate 4 exact rfl);intro b)|refine RT.build T rfl rfl rfl rfl rfl ?_|(apply RT.lens T;iterate 4 exact rfl))|(refine AtQ.id_ ?_;first|refine nx ?_|refine A0 ?_|refine A9 ?_|refine AtQ.in_ne rfl ?_)|(refine CT.id_ ?_;first|refine nx ?_|refine CT.region ?_|refine CT.quiet mixed (by kernel_rfl) ?_|refine CT.cond_t rfl ?_|refine CT.cond_f rfl ?_))
          refine RT.mapNew (dk := .string) (l := gv g) rfl rfl rfl (by ((repeat constructor);done)) trivial (gv_no hg hf hm) Tryd.underlying54 Tryd.underlying9 rfl ?_
          rw [show (0 : Int) + 1 = 1 from rfl, gv_push]
          obtain ⟨i, hgi⟩ := gv_in (g := g ++ [full]) (x := full) (by simp)
          repeat' (first|((first|refine vc_id ?_|(refine RT.id ?_;refine RT.c T ?_));(conv=>whnf);first|refine RT.id ?_|(refine⟨fun hc=>?_,fun hc=>?_⟩<;>first|(exfalso;omega)|skip)|(apply num_k;omega;omega)|(apply num_m;intro r hr)|(intro r hr))|(refine RT.id ?_;first|refine RT.nil ?_|(apply RT.ld T;exact rfl;(focus ((repeat constructor);done));iterate 4 exact rfl)|(apply RT.st T;(iterate 3 exact rfl);(focus ((repeat constructor);done));(focus repeat constructor);iterate 2 exact rfl)|((first|apply RT.box|apply RT.alloc T);(iterate 4 exact rfl);intro b)|refine RT.build T rfl rfl rfl rfl rfl ?_|(apply RT.lens T;iterate 4 exact rfl))|(refine AtQ.id_ ?_;first|refine nx ?_|refine A0 ?_|refine A9 ?_|refine AtQ.in_ne rfl ?_)|(refine CT.id_ ?_;first|refine nx ?_|refine CT.region ?_|refine CT.quiet mixed (by kernel_rfl) ?_|refine CT.cond_t rfl ?_|refine CT.cond_f rfl ?_))
          refine RT.lookup (dk := .string) (r := some (.int .i64 1)) T rfl rfl (by ((repeat constructor);done)) trivial ⟨i, hgi⟩ Tryd.underlying54 Tryd.underlying9 rfl rfl rfl ?_
          dsimp only [Option.getD]
          repeat' (first|((first|refine vc_id ?_|(refine RT.id ?_;refine RT.c T ?_));(conv=>whnf);first|refine RT.id ?_|(refine⟨fun hc=>?_,fun hc=>?_⟩<;>first|(exfalso;omega)|skip)|(apply num_k;omega;omega)|(apply num_m;intro r hr)|(intro r hr))|(refine RT.id ?_;first|refine RT.nil ?_|(apply RT.ld T;exact rfl;(focus ((repeat constructor);done));iterate 4 exact rfl)|(apply RT.st T;(iterate 3 exact rfl);(focus ((repeat constructor);done));(focus repeat constructor);iterate 2 exact rfl)|((first|apply RT.box|apply RT.alloc T);(iterate 4 exact rfl);intro b)|refine RT.build T rfl rfl rfl rfl rfl ?_|(apply RT.lens T;iterate 4 exact rfl))|(refine AtQ.id_ ?_;first|refine nx ?_|refine A0 ?_|refine A9 ?_|refine AtQ.in_ne rfl ?_)|(refine CT.id_ ?_;first|refine nx ?_|refine CT.region ?_|refine CT.quiet mixed (by kernel_rfl) ?_|refine CT.cond_t rfl ?_|refine CT.cond_f rfl ?_))
          (refine RT.callP T rfl (by (repeat (first|exact Fr.nil|(apply Fr.cons;focus ((repeat constructor);done))))) (must_fn (p := true) (e := 61) (t := full)) rfl rfl rfl (fun v H1 hp => ?_) (fun v H1 hp => ?_))
          · cases hp.1
          · obtain ⟨_, rfl⟩ := hp
            repeat' (first|((first|refine vc_id ?_|(refine RT.id ?_;refine RT.c T ?_));(conv=>whnf);first|refine RT.id ?_|(refine⟨fun hc=>?_,fun hc=>?_⟩<;>first|(exfalso;omega)|skip)|(apply num_k;omega;omega)|(apply num_m;intro r hr)|(intro r hr))|(refine RT.id ?_;first|refine RT.nil ?_|(apply RT.ld T;exact rfl;(focus ((repeat constructor);done));iterate 4 exact rfl)|(apply RT.st T;(iterate 3 exact rfl);(focus ((repeat constructor);done));(focus repeat constructor);iterate 2 exact rfl)|((first|apply RT.box|apply RT.alloc T);(iterate 4 exact rfl);intro b)|refine RT.build T rfl rfl rfl rfl rfl ?_|(apply RT.lens T;iterate 4 exact rfl))|(refine AtQ.id_ ?_;first|refine nx ?_|refine A0 ?_|refine A9 ?_|refine AtQ.in_ne rfl ?_)|(refine CT.id_ ?_;first|refine nx ?_|refine CT.region ?_|refine CT.quiet mixed (by kernel_rfl) ?_|refine CT.cond_t rfl ?_|refine CT.cond_f rfl ?_))
            exact AtQ.ofFinN (AtQ.fin0 Tryd.results38 (H' := [rdr br bm, giv bm (g ++ [full])]) ⟨g ++ [full], by rw [hG]; exact must_t (decide_eq_true hm), hg.push hf, rfl⟩ (fun w h => h) _ (.inl rfl))
    · (refine RT.callP T rfl (by (repeat (first|exact Fr.nil|(apply Fr.cons;focus ((repeat constructor);done))))) (must_fn (p := false) (e := 60) (t := full)) rfl rfl rfl (fun v H1 hp => ?_) (fun v H1 hp => ?_))
      · obtain ⟨_, rfl, rfl⟩ := hp
        ((repeat refine nx ?_); exact AtQ.finP (H' := []) ⟨60, full, by unfold giveR; exact must_f (by rw [decide_eq_false (by omega)]; simp), rfl, rfl⟩ (fun w h => by repeat (first | exact h | replace h := h.tail)))
      · cases hp.1
set_option maxHeartbeats 1000000 in
theorem spans_fn {r : Rw SpanT} {lo hi : Int} {t : Txt} (hR : Rd B R r.a r.l.length r.c 2 (r.l.flatMap SpanT.cells)) (hk : r.l.length ≤ 140737488355328) :
    SpP B Tryd.prog 39 [r.v, .int .i32 lo, .int .i32 hi, vS t] R [] (PostO (spansF lo hi t [] r.l)) (PPO (spansF lo hi t [] r.l)) := by
  obtain ⟨a, c, l⟩ := r
  simp only [Rw.v] at *
  refine SpP.body Tryd.func39 rfl Tryd.ntmps39 (by simp) ?_
  simp only [argE, List.cons_append, List.nil_append, Nat.zero_add, Nat.reduceAdd]
  repeat' (first|((first|refine vc_id ?_|(refine RT.id ?_;refine RT.c T ?_));(conv=>whnf);first|refine RT.id ?_|(refine⟨fun hc=>?_,fun hc=>?_⟩<;>first|(exfalso;omega)|skip)|(apply num_k;omega;omega)|(apply num_m;intro r hr)|(intro r hr))|(refine RT.id ?_;first|refine RT.nil ?_|(apply RT.ld T;exact rfl;(focus ((repeat constructor);done));iterate 4 exact rfl)|(apply RT.st T;(iterate 3 exact rfl);(focus ((repeat constructor);done));(focus repeat constructor);iterate 2 exact rfl)|((first|apply RT.box|apply RT.alloc T);(iterate 4 exact rfl);intro b)|refine RT.build T rfl rfl rfl rfl rfl ?_|(apply RT.lens T;iterate 4 exact rfl))|(refine AtQ.id_ ?_;first|refine nx ?_|refine A0 ?_|refine A9 ?_|refine AtQ.in_ne rfl ?_)|(refine CT.id_ ?_;first|refine nx ?_|refine CT.region ?_|refine CT.quiet mixed (by kernel_rfl) ?_|refine CT.cond_t rfl ?_|refine CT.cond_f rfl ?_))
  refine CT.loop (α := Nat) (fun i => [(0, .slice a l.length c), (1, .int .i32 lo), (2, .int .i32 hi), (3, vS t), (12, .slice a l.length c), (13, .int .i64 l.length), (14, .int .i64 i)]) (fun i => Pu (i ≤ l.length ∧ spansF lo hi t [] l = spansF lo hi t (l.take i) (l.drop i)) :: R) (fun i => l.length - i) 0
    ⟨rfl, rfl, rfl, rfl, rfl, rfl, rfl, trivial⟩ (fun w h => Sat.pu_in ⟨Nat.zero_le _, rfl⟩ h) (fun i => CT.pu fun ⟨hil, hF⟩ => ?_)
  repeat' (first|((first|refine vc_id ?_|(refine RT.id ?_;refine RT.c T ?_));(conv=>whnf);first|refine RT.id ?_|(refine⟨fun hc=>?_,fun hc=>?_⟩<;>first|(exfalso;omega)|skip)|(apply num_k;omega;omega)|(apply num_m;intro r hr)|(intro r hr))|(refine RT.id ?_;first|refine RT.nil ?_|(apply RT.ld T;exact rfl;(focus ((repeat constructor);done));iterate 4 exact rfl)|(apply RT.st T;(iterate 3 exact rfl);(focus ((repeat constructor);done));(focus repeat constructor);iterate 2 exact rfl)|((first|apply RT.box|apply RT.alloc T);(iterate 4 exact rfl);intro b)|refine RT.build T rfl rfl rfl rfl rfl ?_|(apply RT.lens T;iterate 4 exact rfl))|(refine AtQ.id_ ?_;first|refine nx ?_|refine A0 ?_|refine A9 ?_|refine AtQ.in_ne rfl ?_)|(refine CT.id_ ?_;first|refine nx ?_|refine CT.region ?_|refine CT.quiet mixed (by kernel_rfl) ?_|refine CT.cond_t rfl ?_|refine CT.cond_f rfl ?_))
  · have hi' : i < l.length := by omega
    rw [List.drop_eq_getElem_cons hi', spansF] at hF
    have hgi := List.getElem?_eq_getElem hi'
    have htk : l.take i ++ [l[i]] = l.take (i + 1) := by rw [List.take_add_one, hgi]; rfl
    rw [htk] at hF
    revert hF hgi htk
    generalize l[i] = s
    intro hF hgi htk
    refine RT.ix T (j := i * 2) rfl rfl rfl (by exact hR) (by omega) (by omega) (by omega) rfl rfl ?_
    refine RT.ldra T rfl (by exact hR) (l := s.cells) (flat_sub (f := SpanT.cells) (z := 2) (fun _ => rfl) l i _ hgi) rfl rfl rfl rfl ?_
    repeat' (first|((first|refine vc_id ?_|(refine RT.id ?_;refine RT.c T ?_));(conv=>whnf);first|refine RT.id ?_|(refine⟨fun hc=>?_,fun hc=>?_⟩<;>first|(exfalso;omega)|skip)|(apply num_k;omega;omega)|(apply num_m;intro r hr)|(intro r hr))|(refine RT.id ?_;first|refine RT.nil ?_|(apply RT.ld T;exact rfl;(focus ((repeat constructor);done));iterate 4 exact rfl)|(apply RT.st T;(iterate 3 exact rfl);(focus ((repeat constructor);done));(focus repeat constructor);iterate 2 exact rfl)|((first|apply RT.box|apply RT.alloc T);(iterate 4 exact rfl);intro b)|refine RT.build T rfl rfl rfl rfl rfl ?_|(apply RT.lens T;iterate 4 exact rfl))|(refine RT.id ?_;first|(apply RT.staggW T;exact rfl;exact rfl;exact rfl;(focus ((repeat constructor);done));iterate 4 exact rfl)|(apply RT.ldagg T;exact rfl;(focus ((repeat constructor);done));iterate 4 exact rfl))|(refine AtQ.id_ ?_;first|refine nx ?_|refine A0 ?_|refine A9 ?_|refine AtQ.in_ne rfl ?_)|(refine CT.id_ ?_;first|refine nx ?_|refine CT.region ?_|refine CT.quiet mixed (by kernel_rfl) ?_|refine CT.cond_t rfl ?_|refine CT.cond_f rfl ?_))
    · (refine RT.callP T rfl (by (repeat (first|exact Fr.nil|(apply Fr.cons;focus ((repeat constructor);done))))) (must_fn (p := true) (e := 63) (t := t)) rfl rfl rfl (fun v H1 hp => ?_) (fun v H1 hp => ?_))
      · cases hp.1
      obtain ⟨_, rfl⟩ := hp
      repeat' (first|((first|refine vc_id ?_|(refine RT.id ?_;refine RT.c T ?_));(conv=>whnf);first|refine RT.id ?_|(refine⟨fun hc=>?_,fun hc=>?_⟩<;>first|(exfalso;omega)|skip)|(apply num_k;omega;omega)|(apply num_m;intro r hr)|(intro r hr))|(refine RT.id ?_;first|refine RT.nil ?_|(apply RT.ld T;exact rfl;(focus ((repeat constructor);done));iterate 4 exact rfl)|(apply RT.st T;(iterate 3 exact rfl);(focus ((repeat constructor);done));(focus repeat constructor);iterate 2 exact rfl)|((first|apply RT.box|apply RT.alloc T);(iterate 4 exact rfl);intro b)|refine RT.build T rfl rfl rfl rfl rfl ?_|(apply RT.lens T;iterate 4 exact rfl))|(refine AtQ.id_ ?_;first|refine nx ?_|refine A0 ?_|refine A9 ?_|refine AtQ.in_ne rfl ?_)|(refine CT.id_ ?_;first|refine nx ?_|refine CT.region ?_|refine CT.quiet mixed (by kernel_rfl) ?_|refine CT.cond_t rfl ?_|refine CT.cond_f rfl ?_))
      refine RT.slhi T (j := i) rfl rfl rfl (by have := Rd.le hR; omega) rfl rfl rfl ?_
      rw [asub_z]
      have hA := Rd.flatPre (f := SpanT.cells) (j := i) (fun _ => rfl) hR rfl hil
      have hAl : (l.take i).length = i := by rw [List.length_take]; omega
      generalize l.take i = ah at *
      simp only [List.nil_append]
      repeat' (first|((first|refine vc_id ?_|(refine RT.id ?_;refine RT.c T ?_));(conv=>whnf);first|refine RT.id ?_|(refine⟨fun hc=>?_,fun hc=>?_⟩<;>first|(exfalso;omega)|skip)|(apply num_k;omega;omega)|(apply num_m;intro r hr)|(intro r hr))|(refine RT.id ?_;first|refine RT.nil ?_|(apply RT.ld T;exact rfl;(focus ((repeat constructor);done));iterate 4 exact rfl)|(apply RT.st T;(iterate 3 exact rfl);(focus ((repeat constructor);done));(focus repeat constructor);iterate 2 exact rfl)|((first|apply RT.box|apply RT.alloc T);(iterate 4 exact rfl);intro b)|refine RT.build T rfl rfl rfl rfl rfl ?_|(apply RT.lens T;iterate 4 exact rfl))|(refine AtQ.id_ ?_;first|refine nx ?_|refine A0 ?_|refine A9 ?_|refine AtQ.in_ne rfl ?_)|(refine CT.id_ ?_;first|refine nx ?_|refine CT.region ?_|refine CT.quiet mixed (by kernel_rfl) ?_|refine CT.cond_t rfl ?_|refine CT.cond_f rfl ?_))
      refine CT.loop (α := Nat) (fun k => [(0, .slice a l.length c), (1, .int .i32 lo), (2, .int .i32 hi), (3, vS t), (9, .pointer (some ⟨b, 0, none⟩)), (12, .slice a l.length c), (13, .int .i64 l.length), (14, .int .i64 i), (40, .slice a i c), (41, .int .i64 i), (42, .int .i64 k)])
        (fun k => Pu (k ≤ i ∧ ∀ o ∈ ah.take k, s.t < o.f ∨ o.t < s.f) :: Cs b 80 s.cells :: R) (fun k => i - k) 0
        ⟨rfl, rfl, rfl, rfl, rfl, rfl, rfl, rfl, rfl, rfl, rfl, trivial⟩ (fun w h => Sat.pu_in ⟨Nat.zero_le _, fun o ho => by simp at ho⟩ h) (fun k => CT.pu fun ⟨hki, hko⟩ => ?_)
      repeat' (first|((first|refine vc_id ?_|(refine RT.id ?_;refine RT.c T ?_));(conv=>whnf);first|refine RT.id ?_|(refine⟨fun hc=>?_,fun hc=>?_⟩<;>first|(exfalso;omega)|skip)|(apply num_k;omega;omega)|(apply num_m;intro r hr)|(intro r hr))|(refine RT.id ?_;first|refine RT.nil ?_|(apply RT.ld T;exact rfl;(focus ((repeat constructor);done));iterate 4 exact rfl)|(apply RT.st T;(iterate 3 exact rfl);(focus ((repeat constructor);done));(focus repeat constructor);iterate 2 exact rfl)|((first|apply RT.box|apply RT.alloc T);(iterate 4 exact rfl);intro b)|refine RT.build T rfl rfl rfl rfl rfl ?_|(apply RT.lens T;iterate 4 exact rfl))|(refine AtQ.id_ ?_;first|refine nx ?_|refine A0 ?_|refine A9 ?_|refine AtQ.in_ne rfl ?_)|(refine CT.id_ ?_;first|refine nx ?_|refine CT.region ?_|refine CT.quiet mixed (by kernel_rfl) ?_|refine CT.cond_t rfl ?_|refine CT.cond_f rfl ?_))
      · have hka : k < ah.length := by omega
        have hgk := List.getElem?_eq_getElem hka
        revert hgk
        generalize ah[k] = o
        intro hgk
        refine RT.ix T (j := k * 2) rfl rfl rfl (by exact Rd.cons hA) (by omega) (by omega) (by omega) rfl rfl ?_
        refine RT.ldra T rfl (by exact Rd.cons hA) (l := o.cells) (flat_sub (f := SpanT.cells) (z := 2) (fun _ => rfl) ah k _ hgk) rfl rfl rfl rfl ?_
        repeat' (first|((first|refine vc_id ?_|(refine RT.id ?_;refine RT.c T ?_));(conv=>whnf);first|refine RT.id ?_|(refine⟨fun hc=>?_,fun hc=>?_⟩<;>first|(exfalso;omega)|skip)|(apply num_k;omega;omega)|(apply num_m;intro r hr)|(intro r hr))|(refine RT.id ?_;first|refine RT.nil ?_|(apply RT.ld T;exact rfl;(focus ((repeat constructor);done));iterate 4 exact rfl)|(apply RT.st T;(iterate 3 exact rfl);(focus ((repeat constructor);done));(focus repeat constructor);iterate 2 exact rfl)|((first|apply RT.box|apply RT.alloc T);(iterate 4 exact rfl);intro b)|refine RT.build T rfl rfl rfl rfl rfl ?_|(apply RT.lens T;iterate 4 exact rfl))|(refine RT.id ?_;first|(apply RT.staggW T;exact rfl;exact rfl;exact rfl;(focus ((repeat constructor);done));iterate 4 exact rfl)|(apply RT.ldagg T;exact rfl;(focus ((repeat constructor);done));iterate 4 exact rfl))|(refine AtQ.id_ ?_;first|refine nx ?_|refine A0 ?_|refine A9 ?_|refine AtQ.in_ne rfl ?_)|(refine CT.id_ ?_;first|refine nx ?_|refine CT.region ?_|refine CT.quiet mixed (by kernel_rfl) ?_|refine CT.cond_t rfl ?_|refine CT.cond_f rfl ?_))
        · (refine RT.callP T rfl (by (repeat (first|exact Fr.nil|(apply Fr.cons;focus ((repeat constructor);done))))) (must_fn (p := true) (e := 63) (t := t)) rfl rfl rfl (fun v H1 hp => ?_) (fun v H1 hp => ?_))
          · cases hp.1
          · obtain ⟨_, rfl⟩ := hp
            repeat' (first|((first|refine vc_id ?_|(refine RT.id ?_;refine RT.c T ?_));(conv=>whnf);first|refine RT.id ?_|(refine⟨fun hc=>?_,fun hc=>?_⟩<;>first|(exfalso;omega)|skip)|(apply num_k;omega;omega)|(apply num_m;intro r hr)|(intro r hr))|(refine RT.id ?_;first|refine RT.nil ?_|(apply RT.ld T;exact rfl;(focus ((repeat constructor);done));iterate 4 exact rfl)|(apply RT.st T;(iterate 3 exact rfl);(focus ((repeat constructor);done));(focus repeat constructor);iterate 2 exact rfl)|((first|apply RT.box|apply RT.alloc T);(iterate 4 exact rfl);intro b)|refine RT.build T rfl rfl rfl rfl rfl ?_|(apply RT.lens T;iterate 4 exact rfl))|(refine AtQ.id_ ?_;first|refine nx ?_|refine A0 ?_|refine A9 ?_|refine AtQ.in_ne rfl ?_)|(refine CT.id_ ?_;first|refine nx ?_|refine CT.region ?_|refine CT.quiet mixed (by kernel_rfl) ?_|refine CT.cond_t rfl ?_|refine CT.cond_f rfl ?_))
            exact AtQ.loop (k + 1) ⟨rfl, rfl, rfl, rfl, rfl, rfl, rfl, rfl, rfl, rfl, rfl, trivial⟩ (fun w h => Sat.pu_in ⟨by omega, sm_take hgk hko (by omega)⟩ h.tail) (by omega)
        · (refine RT.callP T rfl (by (repeat (first|exact Fr.nil|(apply Fr.cons;focus ((repeat constructor);done))))) (must_fn (p := true) (e := 63) (t := t)) rfl rfl rfl (fun v H1 hp => ?_) (fun v H1 hp => ?_))
          · cases hp.1
          · obtain ⟨_, rfl⟩ := hp
            repeat' (first|((first|refine vc_id ?_|(refine RT.id ?_;refine RT.c T ?_));(conv=>whnf);first|refine RT.id ?_|(refine⟨fun hc=>?_,fun hc=>?_⟩<;>first|(exfalso;omega)|skip)|(apply num_k;omega;omega)|(apply num_m;intro r hr)|(intro r hr))|(refine RT.id ?_;first|refine RT.nil ?_|(apply RT.ld T;exact rfl;(focus ((repeat constructor);done));iterate 4 exact rfl)|(apply RT.st T;(iterate 3 exact rfl);(focus ((repeat constructor);done));(focus repeat constructor);iterate 2 exact rfl)|((first|apply RT.box|apply RT.alloc T);(iterate 4 exact rfl);intro b)|refine RT.build T rfl rfl rfl rfl rfl ?_|(apply RT.lens T;iterate 4 exact rfl))|(refine AtQ.id_ ?_;first|refine nx ?_|refine A0 ?_|refine A9 ?_|refine AtQ.in_ne rfl ?_)|(refine CT.id_ ?_;first|refine nx ?_|refine CT.region ?_|refine CT.quiet mixed (by kernel_rfl) ?_|refine CT.cond_t rfl ?_|refine CT.cond_f rfl ?_))
            exact AtQ.loop (k + 1) ⟨rfl, rfl, rfl, rfl, rfl, rfl, rfl, rfl, rfl, rfl, rfl, trivial⟩ (fun w h => Sat.pu_in ⟨by omega, sm_take hgk hko (by omega)⟩ h.tail) (by omega)
        · (refine RT.callP T rfl (by (repeat (first|exact Fr.nil|(apply Fr.cons;focus ((repeat constructor);done))))) (must_fn (p := false) (e := 63) (t := t)) rfl rfl rfl (fun v H1 hp => ?_) (fun v H1 hp => ?_))
          · obtain ⟨_, rfl, rfl⟩ := hp
            ((repeat refine nx ?_); exact AtQ.finP (H' := []) ⟨63, t, by rw [hF, if_neg (by rintro ⟨h1, h2, h3, h4⟩; have := h4 o (List.mem_of_getElem? hgk); omega)], rfl, rfl⟩ (fun w h => by repeat (first | exact h | replace h := h.tail)))
          · cases hp.1
      · have hke : k = i := by omega
        subst hke
        rw [List.take_of_length_le (by omega)] at hko
        rw [if_pos ⟨by omega, by omega, by omega, hko⟩] at hF
        exact AtQ.loop (k + 1) ⟨rfl, rfl, rfl, rfl, rfl, rfl, rfl, trivial⟩ (fun w h => Sat.pu_in ⟨by omega, hF⟩ h.tail) (by omega)
    all_goals
      (refine RT.callP T rfl (by (repeat (first|exact Fr.nil|(apply Fr.cons;focus ((repeat constructor);done))))) (must_fn (p := false) (e := 63) (t := t)) rfl rfl rfl (fun v H1 hp => ?_) (fun v H1 hp => ?_))
      · obtain ⟨_, rfl, rfl⟩ := hp
        ((repeat refine nx ?_); exact AtQ.finP (H' := []) ⟨63, t, by rw [hF, if_neg (by rintro ⟨h1, h2, h3, _⟩; omega)], rfl, rfl⟩ (fun w h => by repeat (first | exact h | replace h := h.tail)))
      · cases hp.1
  · refine AtQ.ofFinN (AtQ.fin0 Tryd.results39 (H' := []) ⟨?_, rfl⟩ (fun w h => h) _ (.inl rfl))
    rw [hF, List.drop_of_length_le (by omega)]
    cases l.take i <;> rfl
end Go.Proofs.YtdemnhdoadjhhaaDoor
end
section
namespace Go.Proofs.YtdemnhdoadjhhaaDoor
open Go.Sk
set_option maxRecDepth 100000
/-- Texts that can be read, are bytes and short. -/
structure TxR (B : World) (R : List HP) (r : Rw Txt) : Prop where
  rd : Rd B R r.a r.l.length r.c 1 (r.l.map vS)
  len : r.l.length ≤ 140737488355328
  byt : BL r.l
  sm : SmT r.l
theorem s2l {x y : Txt} (h1 : x.length ≤ 16777216) (h2 : y.length ≤ 16777216) : sumL [x, y] + [x, y].length ≤ 1000000000000 := by
  rw [s2]
  simp only [List.length_cons, List.length_nil]
  omega
theorem map_take {l : List Txt} {j : Nat} : (l.map vS).take (j * 1) = (l.take j).map vS := by rw [Nat.mul_one, List.map_take]
theorem Rd.txtPre {B : World} {H : List HP} {a : Option Addr} {k c j : Nat} {l : List Txt} (h : Rd B H a k c 1 (l.map vS)) (hj : j ≤ k) : Rd B H a j c 1 ((l.take j).map vS) := by
  have := Rd.pre h hj
  rwa [map_take] at this
attribute [local irreducible] Cs Own Ex Pu Yld RT LJ QJ AtQ CT Rd QSp Sp FinQ Then LoopQ CutQ DT TakeQ EffQ
variable {B : World} {R : List HP}
set_option maxHeartbeats 1000000 in
theorem reserved_fn {r : Rw Txt} {sc : Txt} (hr : TxR B R r) (hs : Byt sc) (hsl : sc.length ≤ 16777216) :
    SpP B Tryd.prog 40 [r.v, vS sc] R [] (PostO (namesF sc [] r.l)) (PPO (namesF sc [] r.l)) := by
  obtain ⟨a, c, l⟩ := r
  obtain ⟨hR, hk, hb, hsm⟩ := hr
  simp only [Rw.v] at *
  refine SpP.body Tryd.func40 rfl Tryd.ntmps40 (by simp) ?_
  simp only [argE, List.cons_append, List.nil_append, Nat.zero_add, Nat.reduceAdd]
  repeat' (first|((first|refine vc_id ?_|(refine RT.id ?_;refine RT.c T ?_));(conv=>whnf);first|refine RT.id ?_|(refine⟨fun hc=>?_,fun hc=>?_⟩<;>first|(exfalso;omega)|skip)|(apply num_k;omega;omega)|(apply num_m;intro r hr)|(intro r hr))|(refine RT.id ?_;first|refine RT.nil ?_|(apply RT.ld T;exact rfl;(focus ((repeat constructor);done));iterate 4 exact rfl)|(apply RT.st T;(iterate 3 exact rfl);(focus ((repeat constructor);done));(focus repeat constructor);iterate 2 exact rfl)|((first|apply RT.box|apply RT.alloc T);(iterate 4 exact rfl);intro b)|refine RT.build T rfl rfl rfl rfl rfl ?_|(apply RT.lens T;iterate 4 exact rfl))|(refine AtQ.id_ ?_;first|refine nx ?_|refine A0 ?_|refine A9 ?_|refine AtQ.in_ne rfl ?_)|(refine CT.id_ ?_;first|refine nx ?_|refine CT.region ?_|refine CT.quiet mixed (by kernel_rfl) ?_|refine CT.cond_t rfl ?_|refine CT.cond_f rfl ?_))
  refine CT.loop (α := Nat) (fun i => [(0, .slice a l.length c), (1, vS sc), (7, .slice a l.length c), (8, .int .i64 l.length), (9, .int .i64 i)]) (fun i => Pu (i ≤ l.length ∧ namesF sc [] l = namesF sc (l.take i) (l.drop i)) :: R) (fun i => l.length - i) 0
    ⟨rfl, rfl, rfl, rfl, rfl, trivial⟩ (fun w h => Sat.pu_in ⟨Nat.zero_le _, rfl⟩ h) (fun i => CT.pu fun ⟨hil, hF⟩ => ?_)
  repeat' (first|((first|refine vc_id ?_|(refine RT.id ?_;refine RT.c T ?_));(conv=>whnf);first|refine RT.id ?_|(refine⟨fun hc=>?_,fun hc=>?_⟩<;>first|(exfalso;omega)|skip)|(apply num_k;omega;omega)|(apply num_m;intro r hr)|(intro r hr))|(refine RT.id ?_;first|refine RT.nil ?_|(apply RT.ld T;exact rfl;(focus ((repeat constructor);done));iterate 4 exact rfl)|(apply RT.st T;(iterate 3 exact rfl);(focus ((repeat constructor);done));(focus repeat constructor);iterate 2 exact rfl)|((first|apply RT.box|apply RT.alloc T);(iterate 4 exact rfl);intro b)|refine RT.build T rfl rfl rfl rfl rfl ?_|(apply RT.lens T;iterate 4 exact rfl))|(refine AtQ.id_ ?_;first|refine nx ?_|refine A0 ?_|refine A9 ?_|refine AtQ.in_ne rfl ?_)|(refine CT.id_ ?_;first|refine nx ?_|refine CT.region ?_|refine CT.quiet mixed (by kernel_rfl) ?_|refine CT.cond_t rfl ?_|refine CT.cond_f rfl ?_))
  · have hi' : i < l.length := by omega
    have hgi := List.getElem?_eq_getElem hi'
    rw [List.drop_eq_getElem_cons hi', namesF] at hF
    have htk : l.take i ++ [l[i]] = l.take (i + 1) := by rw [List.take_add_one, hgi]; rfl
    rw [htk] at hF
    have hbn := hb _ (List.getElem_mem hi')
    have hsn := hsm _ (List.getElem_mem hi')
    revert hF hgi htk hbn hsn
    generalize l[i] = n
    intro hF hgi htk hbn hsn
    refine RT.ix T (j := i) rfl rfl rfl (by exact hR) (by omega) (by omega) (by omega) rfl rfl ?_
    refine RT.ldr T rfl (by exact hR) (u := vS n) (by rw [List.getElem?_map, hgi]; rfl) rfl rfl rfl ?_
    repeat' (first|((first|refine vc_id ?_|(refine RT.id ?_;refine RT.c T ?_));(conv=>whnf);first|refine RT.id ?_|(refine⟨fun hc=>?_,fun hc=>?_⟩<;>first|(exfalso;omega)|skip)|(apply num_k;omega;omega)|(apply num_m;intro r hr)|(intro r hr))|(refine RT.id ?_;first|refine RT.nil ?_|(apply RT.ld T;exact rfl;(focus ((repeat constructor);done));iterate 4 exact rfl)|(apply RT.st T;(iterate 3 exact rfl);(focus ((repeat constructor);done));(focus repeat constructor);iterate 2 exact rfl)|((first|apply RT.box|apply RT.alloc T);(iterate 4 exact rfl);intro b)|refine RT.build T rfl rfl rfl rfl rfl ?_|(apply RT.lens T;iterate 4 exact rfl))|(refine AtQ.id_ ?_;first|refine nx ?_|refine A0 ?_|refine A9 ?_|refine AtQ.in_ne rfl ?_)|(refine CT.id_ ?_;first|refine nx ?_|refine CT.region ?_|refine CT.quiet mixed (by kernel_rfl) ?_|refine CT.cond_t rfl ?_|refine CT.cond_f rfl ?_))
    (refine RT.bs T (l := strs [sc,  n]) rfl rfl rfl rfl rfl rfl rfl (fun a9 c9 h9 => ?_); (refine RT.call T rfl (by (repeat (first|exact Fr.nil|(apply Fr.cons;focus ((repeat constructor);done))))) (join_fn (ls := [sc,  n]) (Own.rd (by ((repeat constructor);done)) rfl h9) rfl (b2  hs  hbn) ( s2l hsl hsn)) rfl rfl rfl ?_; rintro _ _ ⟨rfl, rfl⟩; try simp only [List.cons_append, List.nil_append]); refine RT.weak (fun w h => h.tail) ?_)
    repeat' (first|((first|refine vc_id ?_|(refine RT.id ?_;refine RT.c T ?_));(conv=>whnf);first|refine RT.id ?_|(refine⟨fun hc=>?_,fun hc=>?_⟩<;>first|(exfalso;omega)|skip)|(apply num_k;omega;omega)|(apply num_m;intro r hr)|(intro r hr))|(refine RT.id ?_;first|refine RT.nil ?_|(apply RT.ld T;exact rfl;(focus ((repeat constructor);done));iterate 4 exact rfl)|(apply RT.st T;(iterate 3 exact rfl);(focus ((repeat constructor);done));(focus repeat constructor);iterate 2 exact rfl)|((first|apply RT.box|apply RT.alloc T);(iterate 4 exact rfl);intro b)|refine RT.build T rfl rfl rfl rfl rfl ?_|(apply RT.lens T;iterate 4 exact rfl))|(refine AtQ.id_ ?_;first|refine nx ?_|refine A0 ?_|refine A9 ?_|refine AtQ.in_ne rfl ?_)|(refine CT.id_ ?_;first|refine nx ?_|refine CT.region ?_|refine CT.quiet mixed (by kernel_rfl) ?_|refine CT.cond_t rfl ?_|refine CT.cond_f rfl ?_))
    (refine RT.call T rfl (by (repeat (first|exact Fr.nil|(apply Fr.cons;focus ((repeat constructor);done))))) (ident_fn hbn (by omega)) rfl rfl rfl ?_; rintro _ _ ⟨rfl, rfl⟩; try simp only [List.cons_append, List.nil_append])
    repeat' (first|((first|refine vc_id ?_|(refine RT.id ?_;refine RT.c T ?_));(conv=>whnf);first|refine RT.id ?_|(refine⟨fun hc=>?_,fun hc=>?_⟩<;>first|(exfalso;omega)|skip)|(apply num_k;omega;omega)|(apply num_m;intro r hr)|(intro r hr))|(refine RT.id ?_;first|refine RT.nil ?_|(apply RT.ld T;exact rfl;(focus ((repeat constructor);done));iterate 4 exact rfl)|(apply RT.st T;(iterate 3 exact rfl);(focus ((repeat constructor);done));(focus repeat constructor);iterate 2 exact rfl)|((first|apply RT.box|apply RT.alloc T);(iterate 4 exact rfl);intro b)|refine RT.build T rfl rfl rfl rfl rfl ?_|(apply RT.lens T;iterate 4 exact rfl))|(refine AtQ.id_ ?_;first|refine nx ?_|refine A0 ?_|refine A9 ?_|refine AtQ.in_ne rfl ?_)|(refine CT.id_ ?_;first|refine nx ?_|refine CT.region ?_|refine CT.quiet mixed (by kernel_rfl) ?_|refine CT.cond_t rfl ?_|refine CT.cond_f rfl ?_))
    cases hid : identB n
    · rw [hid, if_neg (by decide)] at hF
      (refine RT.callP T rfl (by (repeat (first|exact Fr.nil|(apply Fr.cons;focus ((repeat constructor);done))))) (must_fn (p := false) (e := 60) (t := joinL [sc, n])) rfl rfl rfl (fun v H1 hp => ?_) (fun v H1 hp => ?_))
      · obtain ⟨_, rfl, rfl⟩ := hp
        ((repeat refine nx ?_); exact AtQ.finP (H' := []) ⟨60, joinL [sc, n], hF, rfl, rfl⟩ (fun w h => by repeat (first | exact h | replace h := h.tail)))
      · cases hp.1
    · rw [hid, if_pos rfl] at hF
      (refine RT.callP T rfl (by (repeat (first|exact Fr.nil|(apply Fr.cons;focus ((repeat constructor);done))))) (must_fn (p := true) (e := 60) (t := joinL [sc, n])) rfl rfl rfl (fun v H1 hp => ?_) (fun v H1 hp => ?_))
      · cases hp.1
      · obtain ⟨_, rfl⟩ := hp
        repeat' (first|((first|refine vc_id ?_|(refine RT.id ?_;refine RT.c T ?_));(conv=>whnf);first|refine RT.id ?_|(refine⟨fun hc=>?_,fun hc=>?_⟩<;>first|(exfalso;omega)|skip)|(apply num_k;omega;omega)|(apply num_m;intro r hr)|(intro r hr))|(refine RT.id ?_;first|refine RT.nil ?_|(apply RT.ld T;exact rfl;(focus ((repeat constructor);done));iterate 4 exact rfl)|(apply RT.st T;(iterate 3 exact rfl);(focus ((repeat constructor);done));(focus repeat constructor);iterate 2 exact rfl)|((first|apply RT.box|apply RT.alloc T);(iterate 4 exact rfl);intro b)|refine RT.build T rfl rfl rfl rfl rfl ?_|(apply RT.lens T;iterate 4 exact rfl))|(refine AtQ.id_ ?_;first|refine nx ?_|refine A0 ?_|refine A9 ?_|refine AtQ.in_ne rfl ?_)|(refine CT.id_ ?_;first|refine nx ?_|refine CT.region ?_|refine CT.quiet mixed (by kernel_rfl) ?_|refine CT.cond_t rfl ?_|refine CT.cond_f rfl ?_))
        refine RT.slhi T (j := i) rfl rfl rfl (by have := Rd.le hR; omega) rfl rfl rfl ?_
        rw [asub_z]
        have hA := Rd.txtPre (j := i) hR hil
        have hAl : (l.take i).length = i := by rw [List.length_take]; omega
        have hAb : BL (l.take i) := fun t ht => hb t (List.mem_of_mem_take ht)
        simp only [List.nil_append]
        repeat' (first|((first|refine vc_id ?_|(refine RT.id ?_;refine RT.c T ?_));(conv=>whnf);first|refine RT.id ?_|(refine⟨fun hc=>?_,fun hc=>?_⟩<;>first|(exfalso;omega)|skip)|(apply num_k;omega;omega)|(apply num_m;intro r hr)|(intro r hr))|(refine RT.id ?_;first|refine RT.nil ?_|(apply RT.ld T;exact rfl;(focus ((repeat constructor);done));iterate 4 exact rfl)|(apply RT.st T;(iterate 3 exact rfl);(focus ((repeat constructor);done));(focus repeat constructor);iterate 2 exact rfl)|((first|apply RT.box|apply RT.alloc T);(iterate 4 exact rfl);intro b)|refine RT.build T rfl rfl rfl rfl rfl ?_|(apply RT.lens T;iterate 4 exact rfl))|(refine AtQ.id_ ?_;first|refine nx ?_|refine A0 ?_|refine A9 ?_|refine AtQ.in_ne rfl ?_)|(refine CT.id_ ?_;first|refine nx ?_|refine CT.region ?_|refine CT.quiet mixed (by kernel_rfl) ?_|refine CT.cond_t rfl ?_|refine CT.cond_f rfl ?_))
        (refine RT.call T rfl (by (repeat (first|exact Fr.nil|(apply Fr.cons;focus ((repeat constructor);done))))) (contT_fn hAl (by omega) hA hAb hbn) rfl rfl rfl ?_; rintro _ _ ⟨rfl, rfl⟩; try simp only [List.cons_append, List.nil_append])
        by_cases hm : n ∈ l.take i
        · rw [decide_eq_true hm]
          rw [if_pos hm] at hF
          repeat' (first|((first|refine vc_id ?_|(refine RT.id ?_;refine RT.c T ?_));(conv=>whnf);first|refine RT.id ?_|(refine⟨fun hc=>?_,fun hc=>?_⟩<;>first|(exfalso;omega)|skip)|(apply num_k;omega;omega)|(apply num_m;intro r hr)|(intro r hr))|(refine RT.id ?_;first|refine RT.nil ?_|(apply RT.ld T;exact rfl;(focus ((repeat constructor);done));iterate 4 exact rfl)|(apply RT.st T;(iterate 3 exact rfl);(focus ((repeat constructor);done));(focus repeat constructor);iterate 2 exact rfl)|((first|apply RT.box|apply RT.alloc T);(iterate 4 exact rfl);intro b)|refine RT.build T rfl rfl rfl rfl rfl ?_|(apply RT.lens T;iterate 4 exact rfl))|(refine AtQ.id_ ?_;first|refine nx ?_|refine A0 ?_|refine A9 ?_|refine AtQ.in_ne rfl ?_)|(refine CT.id_ ?_;first|refine nx ?_|refine CT.region ?_|refine CT.quiet mixed (by kernel_rfl) ?_|refine CT.cond_t rfl ?_|refine CT.cond_f rfl ?_))
          (refine RT.callP T rfl (by (repeat (first|exact Fr.nil|(apply Fr.cons;focus ((repeat constructor);done))))) (must_fn (p := false) (e := 61) (t := joinL [sc, n])) rfl rfl rfl (fun v H1 hp => ?_) (fun v H1 hp => ?_))
          · obtain ⟨_, rfl, rfl⟩ := hp
            ((repeat refine nx ?_); exact AtQ.finP (H' := []) ⟨61, joinL [sc, n], hF, rfl, rfl⟩ (fun w h => by repeat (first | exact h | replace h := h.tail)))
          · cases hp.1
        · rw [decide_eq_false hm]
          rw [if_neg hm] at hF
          repeat' (first|((first|refine vc_id ?_|(refine RT.id ?_;refine RT.c T ?_));(conv=>whnf);first|refine RT.id ?_|(refine⟨fun hc=>?_,fun hc=>?_⟩<;>first|(exfalso;omega)|skip)|(apply num_k;omega;omega)|(apply num_m;intro r hr)|(intro r hr))|(refine RT.id ?_;first|refine RT.nil ?_|(apply RT.ld T;exact rfl;(focus ((repeat constructor);done));iterate 4 exact rfl)|(apply RT.st T;(iterate 3 exact rfl);(focus ((repeat constructor);done));(focus repeat constructor);iterate 2 exact rfl)|((first|apply RT.box|apply RT.alloc T);(iterate 4 exact rfl);intro b)|refine RT.build T rfl rfl rfl rfl rfl ?_|(apply RT.lens T;iterate 4 exact rfl))|(refine AtQ.id_ ?_;first|refine nx ?_|refine A0 ?_|refine A9 ?_|refine AtQ.in_ne rfl ?_)|(refine CT.id_ ?_;first|refine nx ?_|refine CT.region ?_|refine CT.quiet mixed (by kernel_rfl) ?_|refine CT.cond_t rfl ?_|refine CT.cond_f rfl ?_))
          (refine RT.callP T rfl (by (repeat (first|exact Fr.nil|(apply Fr.cons;focus ((repeat constructor);done))))) (must_fn (p := true) (e := 61) (t := joinL [sc, n])) rfl rfl rfl (fun v H1 hp => ?_) (fun v H1 hp => ?_))
          · cases hp.1
          · obtain ⟨_, rfl⟩ := hp
            repeat' (first|((first|refine vc_id ?_|(refine RT.id ?_;refine RT.c T ?_));(conv=>whnf);first|refine RT.id ?_|(refine⟨fun hc=>?_,fun hc=>?_⟩<;>first|(exfalso;omega)|skip)|(apply num_k;omega;omega)|(apply num_m;intro r hr)|(intro r hr))|(refine RT.id ?_;first|refine RT.nil ?_|(apply RT.ld T;exact rfl;(focus ((repeat constructor);done));iterate 4 exact rfl)|(apply RT.st T;(iterate 3 exact rfl);(focus ((repeat constructor);done));(focus repeat constructor);iterate 2 exact rfl)|((first|apply RT.box|apply RT.alloc T);(iterate 4 exact rfl);intro b)|refine RT.build T rfl rfl rfl rfl rfl ?_|(apply RT.lens T;iterate 4 exact rfl))|(refine AtQ.id_ ?_;first|refine nx ?_|refine A0 ?_|refine A9 ?_|refine AtQ.in_ne rfl ?_)|(refine CT.id_ ?_;first|refine nx ?_|refine CT.region ?_|refine CT.quiet mixed (by kernel_rfl) ?_|refine CT.cond_t rfl ?_|refine CT.cond_f rfl ?_))
            exact AtQ.loop (i + 1) ⟨rfl, rfl, rfl, rfl, rfl, trivial⟩ (fun w h => Sat.pu_in ⟨by omega, hF⟩ h) (by omega)
  · refine AtQ.ofFinN (AtQ.fin0 Tryd.results40 (H' := []) ⟨?_, rfl⟩ (fun w h => h) _ (.inl rfl))
    rw [hF, List.drop_of_length_le (by omega)]
    cases l.take i <;> rfl
end Go.Proofs.YtdemnhdoadjhhaaDoor
end
section
namespace Go.Proofs.YtdemnhdoadjhhaaDoor
open Go.Sk
set_option maxRecDepth 100000
theorem map_getT {l : List Txt} {j : Nat} {x : Txt} (h : l[j]? = some x) : (l.map vS)[j]? = some (vS x) := by rw [List.getElem?_map, h]; rfl
attribute [local irreducible] Cs Own Ex Pu Yld RT LJ QJ AtQ CT Rd QSp Sp FinQ Then LoopQ CutQ DT TakeQ EffQ
variable {B : World} {R : List HP}
set_option maxHeartbeats 4000000 in
theorem enum_fn {br bm : Nat} {g : List Txt} {e : EnumT} {sc : Txt} (hin : e.In (Rd B R)) (hok : e.Ok) (hnm : ENm e) (hg : BL g) (hs : Byt sc) (hsl : sc.length ≤ 16777216) :
    SpP B Tryd.prog 31 [ptr br, .agg e.cells.toArray, vS sc] R [rdr br bm, giv bm g] (PostR (enumR e sc g) [rdr br bm] bm) (PPR (enumR e sc g)) := by
  obtain ⟨nm, ⟨va, vc, vl⟩, ali, ⟨ra, rc, rl⟩, ⟨na, nc, nl⟩⟩ := e
  obtain ⟨hv, hr, hn⟩ := hin
  obtain ⟨⟨ho1, _⟩, ⟨ho2, _⟩, ho3, ⟨ho4, _⟩, ho5, ⟨ho6, _⟩, ho7⟩ := hok
  obtain ⟨hm1, hm2, hm3⟩ := hnm
  dsimp only at hv hr hn ho1 ho2 ho3 ho4 ho5 ho6 ho7 hm1 hm2 hm3
  have hT : enumR ⟨nm, ⟨va, vc, vl⟩, ali, ⟨ra, rc, rl⟩, ⟨na, nc, nl⟩⟩ sc g = enumR ⟨nm, ⟨va, vc, vl⟩, ali, ⟨ra, rc, rl⟩, ⟨na, nc, nl⟩⟩ sc g := rfl
  conv at hT => rhs; unfold enumR
  dsimp only at hT
  generalize enumR ⟨nm, ⟨va, vc, vl⟩, ali, ⟨ra, rc, rl⟩, ⟨na, nc, nl⟩⟩ sc g = TT at *
  dsimp only [EnumT.cells, Rw.v]
  refine SpP.body Tryd.func31 rfl Tryd.ntmps31 (by simp) ?_
  simp only [argE, List.cons_append, List.nil_append, Nat.zero_add, Nat.reduceAdd]
  repeat' (first|((first|refine vc_id ?_|(refine RT.id ?_;refine RT.c T ?_));(conv=>whnf);first|refine RT.id ?_|(refine⟨fun hc=>?_,fun hc=>?_⟩<;>first|(exfalso;omega)|skip)|(apply num_k;omega;omega)|(apply num_m;intro r hr)|(intro r hr))|(refine RT.id ?_;first|refine RT.nil ?_|(apply RT.ld T;exact rfl;(focus ((repeat constructor);done));iterate 4 exact rfl)|(apply RT.st T;(iterate 3 exact rfl);(focus ((repeat constructor);done));(focus repeat constructor);iterate 2 exact rfl)|((first|apply RT.box|apply RT.alloc T);(iterate 4 exact rfl);intro b)|refine RT.build T rfl rfl rfl rfl rfl ?_|(apply RT.lens T;iterate 4 exact rfl))|(refine AtQ.id_ ?_;first|refine nx ?_|refine A0 ?_|refine A9 ?_|refine AtQ.in_ne rfl ?_)|(refine CT.id_ ?_;first|refine nx ?_|refine CT.region ?_|refine CT.quiet mixed (by kernel_rfl) ?_|refine CT.cond_t rfl ?_|refine CT.cond_f rfl ?_))
  revert b
  intro eb
  (refine RT.bs T (l := strs [sc,  nm]) rfl rfl rfl rfl rfl rfl rfl (fun a9 c9 h9 => ?_); (refine RT.call T rfl (by (repeat (first|exact Fr.nil|(apply Fr.cons;focus ((repeat constructor);done))))) (join_fn (ls := [sc,  nm]) (Own.rd (by ((repeat constructor);done)) rfl h9) rfl (b2  hs  ho1) ( s2l hsl hm1)) rfl rfl rfl ?_; rintro _ _ ⟨rfl, rfl⟩; try simp only [List.cons_append, List.nil_append]); refine RT.weak (fun w h => h.tail) ?_)
  repeat' (first|((first|refine vc_id ?_|(refine RT.id ?_;refine RT.c T ?_));(conv=>whnf);first|refine RT.id ?_|(refine⟨fun hc=>?_,fun hc=>?_⟩<;>first|(exfalso;omega)|skip)|(apply num_k;omega;omega)|(apply num_m;intro r hr)|(intro r hr))|(refine RT.id ?_;first|refine RT.nil ?_|(apply RT.ld T;exact rfl;(focus ((repeat constructor);done));iterate 4 exact rfl)|(apply RT.st T;(iterate 3 exact rfl);(focus ((repeat constructor);done));(focus repeat constructor);iterate 2 exact rfl)|((first|apply RT.box|apply RT.alloc T);(iterate 4 exact rfl);intro b)|refine RT.build T rfl rfl rfl rfl rfl ?_|(apply RT.lens T;iterate 4 exact rfl))|(refine AtQ.id_ ?_;first|refine nx ?_|refine A0 ?_|refine A9 ?_|refine AtQ.in_ne rfl ?_)|(refine CT.id_ ?_;first|refine nx ?_|refine CT.region ?_|refine CT.quiet mixed (by kernel_rfl) ?_|refine CT.cond_t rfl ?_|refine CT.cond_f rfl ?_))
  have hjl := @j2_len sc nm
  (refine RT.callP T rfl (by (repeat (first|exact Fr.nil|(apply Fr.cons;focus ((repeat constructor);done))))) (give_fn (br := br) (bm := bm) hg ho1 (j2_byt hs ho1) hm1 (show (joinL [sc, nm]).length ≤ 140737488355327 by omega)) rfl rfl rfl (fun v H1 hp => ?_) (fun v H1 hp => ?_))
  · obtain ⟨e, t, h1, rfl, rfl⟩ := hp
    ((repeat refine nx ?_); exact AtQ.finP (H' := []) ⟨e, t, by rw [hT, h1]; rfl, rfl, rfl⟩ (fun w h => by repeat (first | exact h | replace h := h.tail)))
  obtain ⟨g1, h1, hb1, rfl⟩ := hp
  rw [h1] at hT
  rw [bnd_ok] at hT
  simp only [List.cons_append, List.nil_append]
  repeat' (first|((first|refine vc_id ?_|(refine RT.id ?_;refine RT.c T ?_));(conv=>whnf);first|refine RT.id ?_|(refine⟨fun hc=>?_,fun hc=>?_⟩<;>first|(exfalso;omega)|skip)|(apply num_k;omega;omega)|(apply num_m;intro r hr)|(intro r hr))|(refine RT.id ?_;first|refine RT.nil ?_|(apply RT.ld T;exact rfl;(focus ((repeat constructor);done));iterate 4 exact rfl)|(apply RT.st T;(iterate 3 exact rfl);(focus ((repeat constructor);done));(focus repeat constructor);iterate 2 exact rfl)|((first|apply RT.box|apply RT.alloc T);(iterate 4 exact rfl);intro b)|refine RT.build T rfl rfl rfl rfl rfl ?_|(apply RT.lens T;iterate 4 exact rfl))|(refine AtQ.id_ ?_;first|refine nx ?_|refine A0 ?_|refine A9 ?_|refine AtQ.in_ne rfl ?_)|(refine CT.id_ ?_;first|refine nx ?_|refine CT.region ?_|refine CT.quiet mixed (by kernel_rfl) ?_|refine CT.cond_t rfl ?_|refine CT.cond_f rfl ?_))
  rotate_left
  · (refine RT.callP T rfl (by (repeat (first|exact Fr.nil|(apply Fr.cons;focus ((repeat constructor);done))))) (must_fn (p := false) (e := 68) (t := joinL [sc, nm])) rfl rfl rfl (fun v H1 hp => ?_) (fun v H1 hp => ?_))
    · obtain ⟨_, rfl, rfl⟩ := hp
      ((repeat refine nx ?_); exact AtQ.finP (H' := []) ⟨68, joinL [sc, nm], by rw [hT]; exact must_f (decide_eq_false (by omega)), rfl, rfl⟩ (fun w h => by repeat (first | exact h | replace h := h.tail)))
    · cases hp.1
  rw [must_t (decide_eq_true (by omega))] at hT
  (refine RT.callP T rfl (by (repeat (first|exact Fr.nil|(apply Fr.cons;focus ((repeat constructor);done))))) (must_fn (p := true) (e := 68) (t := joinL [sc, nm])) rfl rfl rfl (fun v H1 hp => ?_) (fun v H1 hp => ?_))
  · cases hp.1
  obtain ⟨_, rfl⟩ := hp
  simp only [List.nil_append]
  repeat' (first|((first|refine vc_id ?_|(refine RT.id ?_;refine RT.c T ?_));(conv=>whnf);first|refine RT.id ?_|(refine⟨fun hc=>?_,fun hc=>?_⟩<;>first|(exfalso;omega)|skip)|(apply num_k;omega;omega)|(apply num_m;intro r hr)|(intro r hr))|(refine RT.id ?_;first|refine RT.nil ?_|(apply RT.ld T;exact rfl;(focus ((repeat constructor);done));iterate 4 exact rfl)|(apply RT.st T;(iterate 3 exact rfl);(focus ((repeat constructor);done));(focus repeat constructor);iterate 2 exact rfl)|((first|apply RT.box|apply RT.alloc T);(iterate 4 exact rfl);intro b)|refine RT.build T rfl rfl rfl rfl rfl ?_|(apply RT.lens T;iterate 4 exact rfl))|(refine AtQ.id_ ?_;first|refine nx ?_|refine A0 ?_|refine A9 ?_|refine AtQ.in_ne rfl ?_)|(refine CT.id_ ?_;first|refine nx ?_|refine CT.region ?_|refine CT.quiet mixed (by kernel_rfl) ?_|refine CT.cond_t rfl ?_|refine CT.cond_f rfl ?_))
  · have hl0 : 0 < vl.length := by omega
    have hg0 := List.getElem?_eq_getElem hl0
    revert hg0
    generalize vl[0] = v0
    intro hg0
    refine RT.ix T (j := 0) rfl rfl rfl (by repeat (first | exact (hv) | apply Rd.cons)) (by omega) (by omega) rfl rfl rfl ?_
    refine RT.faA T rfl rfl rfl rfl ?_
    refine RT.ldr (u := .int .i32 v0.num) T rfl (by repeat (first | exact (hv) | apply Rd.cons)) (by rw [show (0 + 1 : Nat) = 0 * 2 + 1 from rfl, flat_get (f := EValT.cells) (z := 2) (fun _ => rfl) hg0 (by decide)]; rfl) rfl rfl rfl ?_
    repeat' (first|((first|refine vc_id ?_|(refine RT.id ?_;refine RT.c T ?_));(conv=>whnf);first|refine RT.id ?_|(refine⟨fun hc=>?_,fun hc=>?_⟩<;>first|(exfalso;omega)|skip)|(apply num_k;omega;omega)|(apply num_m;intro r hr)|(intro r hr))|(refine RT.id ?_;first|refine RT.nil ?_|(apply RT.ld T;exact rfl;(focus ((repeat constructor);done));iterate 4 exact rfl)|(apply RT.st T;(iterate 3 exact rfl);(focus ((repeat constructor);done));(focus repeat constructor);iterate 2 exact rfl)|((first|apply RT.box|apply RT.alloc T);(iterate 4 exact rfl);intro b)|refine RT.build T rfl rfl rfl rfl rfl ?_|(apply RT.lens T;iterate 4 exact rfl))|(refine AtQ.id_ ?_;first|refine nx ?_|refine A0 ?_|refine A9 ?_|refine AtQ.in_ne rfl ?_)|(refine CT.id_ ?_;first|refine nx ?_|refine CT.region ?_|refine CT.quiet mixed (by kernel_rfl) ?_|refine CT.cond_t rfl ?_|refine CT.cond_f rfl ?_))
    rotate_left
    · (refine RT.callP T rfl (by (repeat (first|exact Fr.nil|(apply Fr.cons;focus ((repeat constructor);done))))) (must_fn (p := false) (e := 66) (t := joinL [sc, nm])) rfl rfl rfl (fun v H1 hp => ?_) (fun v H1 hp => ?_))
      · obtain ⟨_, rfl, rfl⟩ := hp
        ((repeat refine nx ?_); exact AtQ.finP (H' := []) ⟨66, joinL [sc, nm], by rw [hT]; exact must_f (decide_eq_false (by rintro ⟨v, hv, h0⟩; rw [hg0] at hv; cases hv; omega)), rfl, rfl⟩ (fun w h => by repeat (first | exact h | replace h := h.tail)))
      · cases hp.1
    rw [must_t (decide_eq_true ⟨v0, hg0, by omega⟩)] at hT
    (refine RT.callP T rfl (by (repeat (first|exact Fr.nil|(apply Fr.cons;focus ((repeat constructor);done))))) (must_fn (p := true) (e := 66) (t := joinL [sc, nm])) rfl rfl rfl (fun v H1 hp => ?_) (fun v H1 hp => ?_))
    · cases hp.1
    obtain ⟨_, rfl⟩ := hp
    simp only [List.nil_append]
    repeat' (first|((first|refine vc_id ?_|(refine RT.id ?_;refine RT.c T ?_));(conv=>whnf);first|refine RT.id ?_|(refine⟨fun hc=>?_,fun hc=>?_⟩<;>first|(exfalso;omega)|skip)|(apply num_k;omega;omega)|(apply num_m;intro r hr)|(intro r hr))|(refine RT.id ?_;first|refine RT.nil ?_|(apply RT.ld T;exact rfl;(focus ((repeat constructor);done));iterate 4 exact rfl)|(apply RT.st T;(iterate 3 exact rfl);(focus ((repeat constructor);done));(focus repeat constructor);iterate 2 exact rfl)|((first|apply RT.box|apply RT.alloc T);(iterate 4 exact rfl);intro b)|refine RT.build T rfl rfl rfl rfl rfl ?_|(apply RT.lens T;iterate 4 exact rfl))|(refine AtQ.id_ ?_;first|refine nx ?_|refine A0 ?_|refine A9 ?_|refine AtQ.in_ne rfl ?_)|(refine CT.id_ ?_;first|refine nx ?_|refine CT.region ?_|refine CT.quiet mixed (by kernel_rfl) ?_|refine CT.cond_t rfl ?_|refine CT.cond_f rfl ?_))
    (refine RT.callP T rfl (by (repeat (first|exact Fr.nil|(apply Fr.cons;focus ((repeat constructor);done))))) (spans_fn (r := ⟨ra, rc, rl⟩) (lo := -2147483648) (hi := 2147483647) (t := joinL [sc, nm]) (by repeat (first | exact (hr) | apply Rd.cons)) ho4) rfl rfl rfl (fun v H1 hp => ?_) (fun v H1 hp => ?_))
    · obtain ⟨e, t, h2, rfl, rfl⟩ := hp
      ((repeat refine nx ?_); exact AtQ.finP (H' := []) ⟨e, t, by rw [hT, h2]; rfl, rfl, rfl⟩ (fun w h => by repeat (first | exact h | replace h := h.tail)))
    obtain ⟨h2, rfl⟩ := hp
    rw [h2] at hT
    rw [opt_none] at hT
    simp only [List.nil_append]
    repeat' (first|((first|refine vc_id ?_|(refine RT.id ?_;refine RT.c T ?_));(conv=>whnf);first|refine RT.id ?_|(refine⟨fun hc=>?_,fun hc=>?_⟩<;>first|(exfalso;omega)|skip)|(apply num_k;omega;omega)|(apply num_m;intro r hr)|(intro r hr))|(refine RT.id ?_;first|refine RT.nil ?_|(apply RT.ld T;exact rfl;(focus ((repeat constructor);done));iterate 4 exact rfl)|(apply RT.st T;(iterate 3 exact rfl);(focus ((repeat constructor);done));(focus repeat constructor);iterate 2 exact rfl)|((first|apply RT.box|apply RT.alloc T);(iterate 4 exact rfl);intro b)|refine RT.build T rfl rfl rfl rfl rfl ?_|(apply RT.lens T;iterate 4 exact rfl))|(refine AtQ.id_ ?_;first|refine nx ?_|refine A0 ?_|refine A9 ?_|refine AtQ.in_ne rfl ?_)|(refine CT.id_ ?_;first|refine nx ?_|refine CT.region ?_|refine CT.quiet mixed (by kernel_rfl) ?_|refine CT.cond_t rfl ?_|refine CT.cond_f rfl ?_))
    (refine RT.callP T rfl (by (repeat (first|exact Fr.nil|(apply Fr.cons;focus ((repeat constructor);done))))) (reserved_fn (r := ⟨na, nc, nl⟩) (sc := sc) ⟨(by repeat (first | exact (hn) | apply Rd.cons)), ho6, fun t ht => (ho7 t ht).1, hm3⟩ hs hsl) rfl rfl rfl (fun v H1 hp => ?_) (fun v H1 hp => ?_))
    · obtain ⟨e, t, h3, rfl, rfl⟩ := hp
      ((repeat refine nx ?_); exact AtQ.finP (H' := []) ⟨e, t, by rw [hT, h3]; try rfl, rfl, rfl⟩ (fun w h => by repeat (first | exact h | replace h := h.tail)))
    obtain ⟨h3, rfl⟩ := hp
    rw [h3] at hT
    rw [opt_none] at hT
    simp only [List.nil_append]
    repeat' (first|((first|refine vc_id ?_|(refine RT.id ?_;refine RT.c T ?_));(conv=>whnf);first|refine RT.id ?_|(refine⟨fun hc=>?_,fun hc=>?_⟩<;>first|(exfalso;omega)|skip)|(apply num_k;omega;omega)|(apply num_m;intro r hr)|(intro r hr))|(refine RT.id ?_;first|refine RT.nil ?_|(apply RT.ld T;exact rfl;(focus ((repeat constructor);done));iterate 4 exact rfl)|(apply RT.st T;(iterate 3 exact rfl);(focus ((repeat constructor);done));(focus repeat constructor);iterate 2 exact rfl)|((first|apply RT.box|apply RT.alloc T);(iterate 4 exact rfl);intro b)|refine RT.build T rfl rfl rfl rfl rfl ?_|(apply RT.lens T;iterate 4 exact rfl))|(refine AtQ.id_ ?_;first|refine nx ?_|refine A0 ?_|refine A9 ?_|refine AtQ.in_ne rfl ?_)|(refine CT.id_ ?_;first|refine nx ?_|refine CT.region ?_|refine CT.quiet mixed (by kernel_rfl) ?_|refine CT.cond_t rfl ?_|refine CT.cond_f rfl ?_))
    clear h1 h2 h3 hg0
    obtain ⟨es, hes⟩ : ∃ es, es = [vS nm, Value.slice va vl.length vc, Value.bool ali, Value.slice ra rl.length rc, Value.slice na nl.length nc] := ⟨_, rfl⟩
    rw [← hes]
    refine CT.loop (α := Nat × List Txt) (fun s => [(0, ptr br), (2, vS sc), (4, .pointer (some ⟨eb, 0, none⟩)), (49, .slice va vl.length vc), (50, .int .i64 vl.length), (51, .int .i64 s.1)])
      (fun s => Pu (s.1 ≤ vl.length ∧ BL s.2 ∧ TT = valsR nl rl ali sc (vl.take s.1) (vl.drop s.1) s.2) :: rdr br bm :: giv bm s.2 :: Cs eb 67 es :: R) (fun s => vl.length - s.1) (0, g1)
      ⟨rfl, rfl, rfl, rfl, rfl, rfl, trivial⟩ (fun w h => Sat.pu_in ⟨Nat.zero_le _, hb1, hT⟩ h) (fun ⟨i, gi⟩ => CT.pu fun ⟨hil, hbi, hTi⟩ => ?_)
    dsimp only at hil hbi hTi ⊢
    clear hT hb1
    subst hes
    repeat' (first|((first|refine vc_id ?_|(refine RT.id ?_;refine RT.c T ?_));(conv=>whnf);first|refine RT.id ?_|(refine⟨fun hc=>?_,fun hc=>?_⟩<;>first|(exfalso;omega)|skip)|(apply num_k;omega;omega)|(apply num_m;intro r hr)|(intro r hr))|(refine RT.id ?_;first|refine RT.nil ?_|(apply RT.ld T;exact rfl;(focus ((repeat constructor);done));iterate 4 exact rfl)|(apply RT.st T;(iterate 3 exact rfl);(focus ((repeat constructor);done));(focus repeat constructor);iterate 2 exact rfl)|((first|apply RT.box|apply RT.alloc T);(iterate 4 exact rfl);intro b)|refine RT.build T rfl rfl rfl rfl rfl ?_|(apply RT.lens T;iterate 4 exact rfl))|(refine AtQ.id_ ?_;first|refine nx ?_|refine A0 ?_|refine A9 ?_|refine AtQ.in_ne rfl ?_)|(refine CT.id_ ?_;first|refine nx ?_|refine CT.region ?_|refine CT.quiet mixed (by kernel_rfl) ?_|refine CT.cond_t rfl ?_|refine CT.cond_f rfl ?_))
    · have hi' : i < vl.length := by omega
      have hgi := List.getElem?_eq_getElem hi'
      rw [List.drop_eq_getElem_cons hi', valsR] at hTi
      have htk : vl.take i ++ [vl[i]] = vl.take (i + 1) := by rw [List.take_add_one, hgi]; rfl
      rw [htk] at hTi
      clear htk
      revert hTi hgi
      generalize vl[i] = ev
      intro hTi hgi
      have hme := List.mem_of_getElem? hgi
      have hvb := (ho3 ev hme).1.1
      have hvs := hm2 ev hme
      refine RT.ix T (j := i * 2) rfl rfl rfl (by repeat (first | exact (hv) | apply Rd.cons)) (by omega) (by omega) (by omega) rfl rfl ?_
      refine RT.ldra T rfl (by repeat (first | exact (hv) | apply Rd.cons)) (l := ev.cells) (flat_sub (f := EValT.cells) (z := 2) (fun _ => rfl) vl i _ hgi) rfl rfl rfl rfl ?_
      repeat' (first|((first|refine vc_id ?_|(refine RT.id ?_;refine RT.c T ?_));(conv=>whnf);first|refine RT.id ?_|(refine⟨fun hc=>?_,fun hc=>?_⟩<;>first|(exfalso;omega)|skip)|(apply num_k;omega;omega)|(apply num_m;intro r hr)|(intro r hr))|(refine RT.id ?_;first|refine RT.nil ?_|(apply RT.ld T;exact rfl;(focus ((repeat constructor);done));iterate 4 exact rfl)|(apply RT.st T;(iterate 3 exact rfl);(focus ((repeat constructor);done));(focus repeat constructor);iterate 2 exact rfl)|((first|apply RT.box|apply RT.alloc T);(iterate 4 exact rfl);intro b)|refine RT.build T rfl rfl rfl rfl rfl ?_|(apply RT.lens T;iterate 4 exact rfl))|(refine RT.id ?_;first|(apply RT.staggW T;exact rfl;exact rfl;exact rfl;(focus ((repeat constructor);done));iterate 4 exact rfl)|(apply RT.ldagg T;exact rfl;(focus ((repeat constructor);done));iterate 4 exact rfl))|(refine AtQ.id_ ?_;first|refine nx ?_|refine A0 ?_|refine A9 ?_|refine AtQ.in_ne rfl ?_)|(refine CT.id_ ?_;first|refine nx ?_|refine CT.region ?_|refine CT.quiet mixed (by kernel_rfl) ?_|refine CT.cond_t rfl ?_|refine CT.cond_f rfl ?_))
      (refine RT.bs T (l := strs [sc,  ev.nm]) rfl rfl rfl rfl rfl rfl rfl (fun a9 c9 h9 => ?_); (refine RT.call T rfl (by (repeat (first|exact Fr.nil|(apply Fr.cons;focus ((repeat constructor);done))))) (join_fn (ls := [sc,  ev.nm]) (Own.rd (by ((repeat constructor);done)) rfl h9) rfl (b2  hs  hvb) ( s2l hsl hvs)) rfl rfl rfl ?_; rintro _ _ ⟨rfl, rfl⟩; try simp only [List.cons_append, List.nil_append]); refine RT.weak (fun w h => h.tail) ?_)
      repeat' (first|((first|refine vc_id ?_|(refine RT.id ?_;refine RT.c T ?_));(conv=>whnf);first|refine RT.id ?_|(refine⟨fun hc=>?_,fun hc=>?_⟩<;>first|(exfalso;omega)|skip)|(apply num_k;omega;omega)|(apply num_m;intro r hr)|(intro r hr))|(refine RT.id ?_;first|refine RT.nil ?_|(apply RT.ld T;exact rfl;(focus ((repeat constructor);done));iterate 4 exact rfl)|(apply RT.st T;(iterate 3 exact rfl);(focus ((repeat constructor);done));(focus repeat constructor);iterate 2 exact rfl)|((first|apply RT.box|apply RT.alloc T);(iterate 4 exact rfl);intro b)|refine RT.build T rfl rfl rfl rfl rfl ?_|(apply RT.lens T;iterate 4 exact rfl))|(refine AtQ.id_ ?_;first|refine nx ?_|refine A0 ?_|refine A9 ?_|refine AtQ.in_ne rfl ?_)|(refine CT.id_ ?_;first|refine nx ?_|refine CT.region ?_|refine CT.quiet mixed (by kernel_rfl) ?_|refine CT.cond_t rfl ?_|refine CT.cond_f rfl ?_))
      have hjv := @j2_len sc ev.nm
      have hjb := j2_byt hs hvb
      generalize joinL [sc, ev.nm] = at_ at *
      (refine RT.callP T rfl (by (repeat (first|exact Fr.nil|(apply Fr.cons;focus ((repeat constructor);done))))) (give_fn (br := br) (bm := bm) (g := gi) hbi hvb hjb hvs (show at_.length ≤ 140737488355327 by omega)) rfl rfl rfl (fun v H1 hp => ?_) (fun v H1 hp => ?_))
      · obtain ⟨e, t, h4, rfl, rfl⟩ := hp
        ((repeat refine nx ?_); exact AtQ.finP (H' := []) ⟨e, t, by rw [hTi, h4]; rfl, rfl, rfl⟩ (fun w h => by repeat (first | exact h | replace h := h.tail)))
      obtain ⟨g2, h4, hb2, rfl⟩ := hp
      rw [h4] at hTi
      rw [bnd_ok] at hTi
      simp only [List.cons_append, List.nil_append]
      repeat' (first|((first|refine vc_id ?_|(refine RT.id ?_;refine RT.c T ?_));(conv=>whnf);first|refine RT.id ?_|(refine⟨fun hc=>?_,fun hc=>?_⟩<;>first|(exfalso;omega)|skip)|(apply num_k;omega;omega)|(apply num_m;intro r hr)|(intro r hr))|(refine RT.id ?_;first|refine RT.nil ?_|(apply RT.ld T;exact rfl;(focus ((repeat constructor);done));iterate 4 exact rfl)|(apply RT.st T;(iterate 3 exact rfl);(focus ((repeat constructor);done));(focus repeat constructor);iterate 2 exact rfl)|((first|apply RT.box|apply RT.alloc T);(iterate 4 exact rfl);intro b)|refine RT.build T rfl rfl rfl rfl rfl ?_|(apply RT.lens T;iterate 4 exact rfl))|(refine AtQ.id_ ?_;first|refine nx ?_|refine A0 ?_|refine A9 ?_|refine AtQ.in_ne rfl ?_)|(refine CT.id_ ?_;first|refine nx ?_|refine CT.region ?_|refine CT.quiet mixed (by kernel_rfl) ?_|refine CT.cond_t rfl ?_|refine CT.cond_f rfl ?_))
      (refine RT.call T rfl (by (repeat (first|exact Fr.nil|(apply Fr.cons;focus ((repeat constructor);done))))) (contT_fn (l := nl) (x := ev.nm) rfl ho6 (by repeat (first | exact (hn) | apply Rd.cons)) (fun t ht => (ho7 t ht).1) hvb) rfl rfl rfl ?_; rintro _ _ ⟨rfl, rfl⟩; try simp only [List.cons_append, List.nil_append])
      have pan63 : (decide (ev.nm ∉ nl) && !anyS rl ev.num) = false → TT = .error (63, at_) := fun h => by rw [hTi]; exact must_f h
      by_cases hmn : ev.nm ∈ nl
      · rw [decide_eq_true hmn]
        repeat' (first|((first|refine vc_id ?_|(refine RT.id ?_;refine RT.c T ?_));(conv=>whnf);first|refine RT.id ?_|(refine⟨fun hc=>?_,fun hc=>?_⟩<;>first|(exfalso;omega)|skip)|(apply num_k;omega;omega)|(apply num_m;intro r hr)|(intro r hr))|(refine RT.id ?_;first|refine RT.nil ?_|(apply RT.ld T;exact rfl;(focus ((repeat constructor);done));iterate 4 exact rfl)|(apply RT.st T;(iterate 3 exact rfl);(focus ((repeat constructor);done));(focus repeat constructor);iterate 2 exact rfl)|((first|apply RT.box|apply RT.alloc T);(iterate 4 exact rfl);intro b)|refine RT.build T rfl rfl rfl rfl rfl ?_|(apply RT.lens T;iterate 4 exact rfl))|(refine AtQ.id_ ?_;first|refine nx ?_|refine A0 ?_|refine A9 ?_|refine AtQ.in_ne rfl ?_)|(refine CT.id_ ?_;first|refine nx ?_|refine CT.region ?_|refine CT.quiet mixed (by kernel_rfl) ?_|refine CT.cond_t rfl ?_|refine CT.cond_f rfl ?_))
        (refine RT.callP T rfl (by (repeat (first|exact Fr.nil|(apply Fr.cons;focus ((repeat constructor);done))))) (must_fn (p := false) (e := 63) (t := at_)) rfl rfl rfl (fun v H1 hp => ?_) (fun v H1 hp => ?_))
        · obtain ⟨_, rfl, rfl⟩ := hp
          ((repeat refine nx ?_); exact AtQ.finP (H' := []) ⟨63, at_, pan63 (by rw [decide_eq_false (fun h => h hmn)]; rfl), rfl, rfl⟩ (fun w h => by repeat (first | exact h | replace h := h.tail)))
        · cases hp.1
      · rw [decide_eq_false hmn]
        repeat' (first|((first|refine vc_id ?_|(refine RT.id ?_;refine RT.c T ?_));(conv=>whnf);first|refine RT.id ?_|(refine⟨fun hc=>?_,fun hc=>?_⟩<;>first|(exfalso;omega)|skip)|(apply num_k;omega;omega)|(apply num_m;intro r hr)|(intro r hr))|(refine RT.id ?_;first|refine RT.nil ?_|(apply RT.ld T;exact rfl;(focus ((repeat constructor);done));iterate 4 exact rfl)|(apply RT.st T;(iterate 3 exact rfl);(focus ((repeat constructor);done));(focus repeat constructor);iterate 2 exact rfl)|((first|apply RT.box|apply RT.alloc T);(iterate 4 exact rfl);intro b)|refine RT.build T rfl rfl rfl rfl rfl ?_|(apply RT.lens T;iterate 4 exact rfl))|(refine AtQ.id_ ?_;first|refine nx ?_|refine A0 ?_|refine A9 ?_|refine AtQ.in_ne rfl ?_)|(refine CT.id_ ?_;first|refine nx ?_|refine CT.region ?_|refine CT.quiet mixed (by kernel_rfl) ?_|refine CT.cond_t rfl ?_|refine CT.cond_f rfl ?_))
        (refine RT.call T rfl (by (repeat (first|exact Fr.nil|(apply Fr.cons;focus ((repeat constructor);done))))) (within_fn (r := ⟨ra, rc, rl⟩) (x := ev.num) (by repeat (first | exact (hr) | apply Rd.cons)) ho4) rfl rfl rfl ?_; rintro _ _ ⟨rfl, rfl⟩; try simp only [List.cons_append, List.nil_append])
        cases han : anyS rl ev.num
        rotate_left
        · repeat' (first|((first|refine vc_id ?_|(refine RT.id ?_;refine RT.c T ?_));(conv=>whnf);first|refine RT.id ?_|(refine⟨fun hc=>?_,fun hc=>?_⟩<;>first|(exfalso;omega)|skip)|(apply num_k;omega;omega)|(apply num_m;intro r hr)|(intro r hr))|(refine RT.id ?_;first|refine RT.nil ?_|(apply RT.ld T;exact rfl;(focus ((repeat constructor);done));iterate 4 exact rfl)|(apply RT.st T;(iterate 3 exact rfl);(focus ((repeat constructor);done));(focus repeat constructor);iterate 2 exact rfl)|((first|apply RT.box|apply RT.alloc T);(iterate 4 exact rfl);intro b)|refine RT.build T rfl rfl rfl rfl rfl ?_|(apply RT.lens T;iterate 4 exact rfl))|(refine AtQ.id_ ?_;first|refine nx ?_|refine A0 ?_|refine A9 ?_|refine AtQ.in_ne rfl ?_)|(refine CT.id_ ?_;first|refine nx ?_|refine CT.region ?_|refine CT.quiet mixed (by kernel_rfl) ?_|refine CT.cond_t rfl ?_|refine CT.cond_f rfl ?_))
          (refine RT.callP T rfl (by (repeat (first|exact Fr.nil|(apply Fr.cons;focus ((repeat constructor);done))))) (must_fn (p := false) (e := 63) (t := at_)) rfl rfl rfl (fun v H1 hp => ?_) (fun v H1 hp => ?_))
          · obtain ⟨_, rfl, rfl⟩ := hp
            ((repeat refine nx ?_); exact AtQ.finP (H' := []) ⟨63, at_, pan63 (by rw [han, decide_eq_true hmn]; rfl), rfl, rfl⟩ (fun w h => by repeat (first | exact h | replace h := h.tail)))
          · cases hp.1
        · repeat' (first|((first|refine vc_id ?_|(refine RT.id ?_;refine RT.c T ?_));(conv=>whnf);first|refine RT.id ?_|(refine⟨fun hc=>?_,fun hc=>?_⟩<;>first|(exfalso;omega)|skip)|(apply num_k;omega;omega)|(apply num_m;intro r hr)|(intro r hr))|(refine RT.id ?_;first|refine RT.nil ?_|(apply RT.ld T;exact rfl;(focus ((repeat constructor);done));iterate 4 exact rfl)|(apply RT.st T;(iterate 3 exact rfl);(focus ((repeat constructor);done));(focus repeat constructor);iterate 2 exact rfl)|((first|apply RT.box|apply RT.alloc T);(iterate 4 exact rfl);intro b)|refine RT.build T rfl rfl rfl rfl rfl ?_|(apply RT.lens T;iterate 4 exact rfl))|(refine AtQ.id_ ?_;first|refine nx ?_|refine A0 ?_|refine A9 ?_|refine AtQ.in_ne rfl ?_)|(refine CT.id_ ?_;first|refine nx ?_|refine CT.region ?_|refine CT.quiet mixed (by kernel_rfl) ?_|refine CT.cond_t rfl ?_|refine CT.cond_f rfl ?_))
          (refine RT.callP T rfl (by (repeat (first|exact Fr.nil|(apply Fr.cons;focus ((repeat constructor);done))))) (must_fn (p := true) (e := 63) (t := at_)) rfl rfl rfl (fun v H1 hp => ?_) (fun v H1 hp => ?_))
          · cases hp.1
          obtain ⟨_, rfl⟩ := hp
          rw [must_t (by rw [han, decide_eq_true hmn]; rfl)] at hTi
          simp only [List.nil_append]
          cases hal : ali
          · subst hal
            repeat' (first|((first|refine vc_id ?_|(refine RT.id ?_;refine RT.c T ?_));(conv=>whnf);first|refine RT.id ?_|(refine⟨fun hc=>?_,fun hc=>?_⟩<;>first|(exfalso;omega)|skip)|(apply num_k;omega;omega)|(apply num_m;intro r hr)|(intro r hr))|(refine RT.id ?_;first|refine RT.nil ?_|(apply RT.ld T;exact rfl;(focus ((repeat constructor);done));iterate 4 exact rfl)|(apply RT.st T;(iterate 3 exact rfl);(focus ((repeat constructor);done));(focus repeat constructor);iterate 2 exact rfl)|((first|apply RT.box|apply RT.alloc T);(iterate 4 exact rfl);intro b)|refine RT.build T rfl rfl rfl rfl rfl ?_|(apply RT.lens T;iterate 4 exact rfl))|(refine AtQ.id_ ?_;first|refine nx ?_|refine A0 ?_|refine A9 ?_|refine AtQ.in_ne rfl ?_)|(refine CT.id_ ?_;first|refine nx ?_|refine CT.region ?_|refine CT.quiet mixed (by kernel_rfl) ?_|refine CT.cond_t rfl ?_|refine CT.cond_f rfl ?_))
            refine RT.slhi T (j := i) rfl rfl rfl (by have := Rd.le hv; omega) rfl rfl rfl ?_
            rw [asub_z]
            have hA := Rd.flatPre (f := EValT.cells) (j := i) (fun _ => rfl) hv rfl hil
            have hAl : (vl.take i).length = i := by rw [List.length_take]; omega
            repeat' (first|((first|refine vc_id ?_|(refine RT.id ?_;refine RT.c T ?_));(conv=>whnf);first|refine RT.id ?_|(refine⟨fun hc=>?_,fun hc=>?_⟩<;>first|(exfalso;omega)|skip)|(apply num_k;omega;omega)|(apply num_m;intro r hr)|(intro r hr))|(refine RT.id ?_;first|refine RT.nil ?_|(apply RT.ld T;exact rfl;(focus ((repeat constructor);done));iterate 4 exact rfl)|(apply RT.st T;(iterate 3 exact rfl);(focus ((repeat constructor);done));(focus repeat constructor);iterate 2 exact rfl)|((first|apply RT.box|apply RT.alloc T);(iterate 4 exact rfl);intro b)|refine RT.build T rfl rfl rfl rfl rfl ?_|(apply RT.lens T;iterate 4 exact rfl))|(refine AtQ.id_ ?_;first|refine nx ?_|refine A0 ?_|refine A9 ?_|refine AtQ.in_ne rfl ?_)|(refine CT.id_ ?_;first|refine nx ?_|refine CT.region ?_|refine CT.quiet mixed (by kernel_rfl) ?_|refine CT.cond_t rfl ?_|refine CT.cond_f rfl ?_))
            refine RT.mkF rfl rfl rfl ?_
            repeat' (first|((first|refine vc_id ?_|(refine RT.id ?_;refine RT.c T ?_));(conv=>whnf);first|refine RT.id ?_|(refine⟨fun hc=>?_,fun hc=>?_⟩<;>first|(exfalso;omega)|skip)|(apply num_k;omega;omega)|(apply num_m;intro r hr)|(intro r hr))|(refine RT.id ?_;first|refine RT.nil ?_|(apply RT.ld T;exact rfl;(focus ((repeat constructor);done));iterate 4 exact rfl)|(apply RT.st T;(iterate 3 exact rfl);(focus ((repeat constructor);done));(focus repeat constructor);iterate 2 exact rfl)|((first|apply RT.box|apply RT.alloc T);(iterate 4 exact rfl);intro b)|refine RT.build T rfl rfl rfl rfl rfl ?_|(apply RT.lens T;iterate 4 exact rfl))|(refine AtQ.id_ ?_;first|refine nx ?_|refine A0 ?_|refine A9 ?_|refine AtQ.in_ne rfl ?_)|(refine CT.id_ ?_;first|refine nx ?_|refine CT.region ?_|refine CT.quiet mixed (by kernel_rfl) ?_|refine CT.cond_t rfl ?_|refine CT.cond_f rfl ?_))
            refine RT.call T rfl (by (repeat (first|exact Fr.nil|(apply Fr.cons;focus ((repeat constructor);done))))) (contfV_fn (l := vl.take i) (p := fun o => decide (o.num = ev.num)) (f := 47) (caps := [.pointer (some ⟨b, 0, none⟩)]) (Pre := [Cs b 64 ev.cells]) hAl (by omega) (by repeat (first | exact (hA) | apply Rd.cons)) rfl (fun s _ => enum1_fn)) rfl rfl rfl ?_
            rintro _ _ ⟨rfl, rfl⟩
            simp only [List.cons_append, List.nil_append]
            have hany : decide (∀ o ∈ vl.take i, o.num ≠ ev.num) = !((vl.take i).any fun o => decide (o.num = ev.num)) := by
              rw [Bool.eq_iff_iff]
              simp
            rw [Bool.false_or, hany] at hTi
            cases hq : (vl.take i).any fun o => decide (o.num = ev.num)
            · rw [hq] at hTi
              repeat' (first|((first|refine vc_id ?_|(refine RT.id ?_;refine RT.c T ?_));(conv=>whnf);first|refine RT.id ?_|(refine⟨fun hc=>?_,fun hc=>?_⟩<;>first|(exfalso;omega)|skip)|(apply num_k;omega;omega)|(apply num_m;intro r hr)|(intro r hr))|(refine RT.id ?_;first|refine RT.nil ?_|(apply RT.ld T;exact rfl;(focus ((repeat constructor);done));iterate 4 exact rfl)|(apply RT.st T;(iterate 3 exact rfl);(focus ((repeat constructor);done));(focus repeat constructor);iterate 2 exact rfl)|((first|apply RT.box|apply RT.alloc T);(iterate 4 exact rfl);intro b)|refine RT.build T rfl rfl rfl rfl rfl ?_|(apply RT.lens T;iterate 4 exact rfl))|(refine AtQ.id_ ?_;first|refine nx ?_|refine A0 ?_|refine A9 ?_|refine AtQ.in_ne rfl ?_)|(refine CT.id_ ?_;first|refine nx ?_|refine CT.region ?_|refine CT.quiet mixed (by kernel_rfl) ?_|refine CT.cond_t rfl ?_|refine CT.cond_f rfl ?_))
              (refine RT.callP T rfl (by (repeat (first|exact Fr.nil|(apply Fr.cons;focus ((repeat constructor);done))))) (must_fn (p := true) (e := 66) (t := at_)) rfl rfl rfl (fun v H1 hp => ?_) (fun v H1 hp => ?_))
              · cases hp.1
              obtain ⟨_, rfl⟩ := hp
              rw [must_t (p := !false) rfl] at hTi
              repeat' (first|((first|refine vc_id ?_|(refine RT.id ?_;refine RT.c T ?_));(conv=>whnf);first|refine RT.id ?_|(refine⟨fun hc=>?_,fun hc=>?_⟩<;>first|(exfalso;omega)|skip)|(apply num_k;omega;omega)|(apply num_m;intro r hr)|(intro r hr))|(refine RT.id ?_;first|refine RT.nil ?_|(apply RT.ld T;exact rfl;(focus ((repeat constructor);done));iterate 4 exact rfl)|(apply RT.st T;(iterate 3 exact rfl);(focus ((repeat constructor);done));(focus repeat constructor);iterate 2 exact rfl)|((first|apply RT.box|apply RT.alloc T);(iterate 4 exact rfl);intro b)|refine RT.build T rfl rfl rfl rfl rfl ?_|(apply RT.lens T;iterate 4 exact rfl))|(refine AtQ.id_ ?_;first|refine nx ?_|refine A0 ?_|refine A9 ?_|refine AtQ.in_ne rfl ?_)|(refine CT.id_ ?_;first|refine nx ?_|refine CT.region ?_|refine CT.quiet mixed (by kernel_rfl) ?_|refine CT.cond_t rfl ?_|refine CT.cond_f rfl ?_))
              exact AtQ.loop (i + 1, g2) ⟨rfl, rfl, rfl, rfl, rfl, rfl, trivial⟩ (fun w h => Sat.pu_in ⟨by omega, hb2, hTi⟩ (h.frd (Ps := [rdr br bm, giv bm g2, Cs eb 67 _]) (Qs := [_]) (by (repeat (first|exact Fr.nil|(apply Fr.cons;focus ((repeat constructor);done))))))) (by dsimp only; omega)
            · rw [hq] at hTi
              repeat' (first|((first|refine vc_id ?_|(refine RT.id ?_;refine RT.c T ?_));(conv=>whnf);first|refine RT.id ?_|(refine⟨fun hc=>?_,fun hc=>?_⟩<;>first|(exfalso;omega)|skip)|(apply num_k;omega;omega)|(apply num_m;intro r hr)|(intro r hr))|(refine RT.id ?_;first|refine RT.nil ?_|(apply RT.ld T;exact rfl;(focus ((repeat constructor);done));iterate 4 exact rfl)|(apply RT.st T;(iterate 3 exact rfl);(focus ((repeat constructor);done));(focus repeat constructor);iterate 2 exact rfl)|((first|apply RT.box|apply RT.alloc T);(iterate 4 exact rfl);intro b)|refine RT.build T rfl rfl rfl rfl rfl ?_|(apply RT.lens T;iterate 4 exact rfl))|(refine AtQ.id_ ?_;first|refine nx ?_|refine A0 ?_|refine A9 ?_|refine AtQ.in_ne rfl ?_)|(refine CT.id_ ?_;first|refine nx ?_|refine CT.region ?_|refine CT.quiet mixed (by kernel_rfl) ?_|refine CT.cond_t rfl ?_|refine CT.cond_f rfl ?_))
              (refine RT.callP T rfl (by (repeat (first|exact Fr.nil|(apply Fr.cons;focus ((repeat constructor);done))))) (must_fn (p := false) (e := 66) (t := at_)) rfl rfl rfl (fun v H1 hp => ?_) (fun v H1 hp => ?_))
              · obtain ⟨_, rfl, rfl⟩ := hp
                ((repeat refine nx ?_); exact AtQ.finP (H' := []) ⟨66, at_, by rw [hTi]; exact must_f rfl, rfl, rfl⟩ (fun w h => by repeat (first | exact h | replace h := h.tail)))
              · cases hp.1
          · subst hal
            rw [Bool.true_or, must_t rfl] at hTi
            repeat' (first|((first|refine vc_id ?_|(refine RT.id ?_;refine RT.c T ?_));(conv=>whnf);first|refine RT.id ?_|(refine⟨fun hc=>?_,fun hc=>?_⟩<;>first|(exfalso;omega)|skip)|(apply num_k;omega;omega)|(apply num_m;intro r hr)|(intro r hr))|(refine RT.id ?_;first|refine RT.nil ?_|(apply RT.ld T;exact rfl;(focus ((repeat constructor);done));iterate 4 exact rfl)|(apply RT.st T;(iterate 3 exact rfl);(focus ((repeat constructor);done));(focus repeat constructor);iterate 2 exact rfl)|((first|apply RT.box|apply RT.alloc T);(iterate 4 exact rfl);intro b)|refine RT.build T rfl rfl rfl rfl rfl ?_|(apply RT.lens T;iterate 4 exact rfl))|(refine AtQ.id_ ?_;first|refine nx ?_|refine A0 ?_|refine A9 ?_|refine AtQ.in_ne rfl ?_)|(refine CT.id_ ?_;first|refine nx ?_|refine CT.region ?_|refine CT.quiet mixed (by kernel_rfl) ?_|refine CT.cond_t rfl ?_|refine CT.cond_f rfl ?_))
            (refine RT.callP T rfl (by (repeat (first|exact Fr.nil|(apply Fr.cons;focus ((repeat constructor);done))))) (must_fn (p := true) (e := 66) (t := at_)) rfl rfl rfl (fun v H1 hp => ?_) (fun v H1 hp => ?_))
            · cases hp.1
            obtain ⟨_, rfl⟩ := hp
            repeat' (first|((first|refine vc_id ?_|(refine RT.id ?_;refine RT.c T ?_));(conv=>whnf);first|refine RT.id ?_|(refine⟨fun hc=>?_,fun hc=>?_⟩<;>first|(exfalso;omega)|skip)|(apply num_k;omega;omega)|(apply num_m;intro r hr)|(intro r hr))|(refine RT.id ?_;first|refine RT.nil ?_|(apply RT.ld T;exact rfl;(focus ((repeat constructor);done));iterate 4 exact rfl)|(apply RT.st T;(iterate 3 exact rfl);(focus ((repeat constructor);done));(focus repeat constructor);iterate 2 exact rfl)|((first|apply RT.box|apply RT.alloc T);(iterate 4 exact rfl);intro b)|refine RT.build T rfl rfl rfl rfl rfl ?_|(apply RT.lens T;iterate 4 exact rfl))|(refine AtQ.id_ ?_;first|refine nx ?_|refine A0 ?_|refine A9 ?_|refine AtQ.in_ne rfl ?_)|(refine CT.id_ ?_;first|refine nx ?_|refine CT.region ?_|refine CT.quiet mixed (by kernel_rfl) ?_|refine CT.cond_t rfl ?_|refine CT.cond_f rfl ?_))
            exact AtQ.loop (i + 1, g2) ⟨rfl, rfl, rfl, rfl, rfl, rfl, trivial⟩ (fun w h => Sat.pu_in ⟨by omega, hb2, hTi⟩ (h.frd (Ps := [rdr br bm, giv bm g2, Cs eb 67 _]) (Qs := [_]) (by (repeat (first|exact Fr.nil|(apply Fr.cons;focus ((repeat constructor);done))))))) (by dsimp only; omega)
    · refine AtQ.ofFinN (AtQ.fin0 Tryd.results31 (H' := [rdr br bm, giv bm gi]) ⟨gi, ?_, hbi, rfl⟩ (fun w h => h.frd (Ps := [rdr br bm, giv bm gi]) (Qs := [_]) (by (repeat (first|exact Fr.nil|(apply Fr.cons;focus ((repeat constructor);done)))))) _ (.inl rfl))
      rw [hTi, List.drop_of_length_le (by omega)]
      cases vl.take i <;> rfl
  · (refine RT.callP T rfl (by (repeat (first|exact Fr.nil|(apply Fr.cons;focus ((repeat constructor);done))))) (must_fn (p := false) (e := 66) (t := joinL [sc, nm])) rfl rfl rfl (fun v H1 hp => ?_) (fun v H1 hp => ?_))
    · obtain ⟨_, rfl, rfl⟩ := hp
      ((repeat refine nx ?_); exact AtQ.finP (H' := []) ⟨66, joinL [sc, nm], by rw [hT]; exact must_f (decide_eq_false (by rintro ⟨v, hv, h0⟩; have := (List.getElem?_eq_some_iff.1 hv).1; omega)), rfl, rfl⟩ (fun w h => by repeat (first | exact h | replace h := h.tail)))
    · cases hp.1
end Go.Proofs.YtdemnhdoadjhhaaDoor
end
