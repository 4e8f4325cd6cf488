/- Walks: hex digits, numbers to the base sixteen, means, HasPrefix, ValidRune. -/
import Derived.Test.YtbpelgbblpeojaaDoorB4
import Derived.Test.YtbpelgbblpeojaaDoorSkB
import Derived.Lib.Bytealg
import Derived.Laws.Externs
set_option linter.unusedVariables false
set_option linter.unusedSimpArgs false
namespace Go.Proofs.YtbpelgbblpeojaaDoor
open Go.Sk
set_option maxRecDepth 100000
def hexV (c : Int) : Int := if 48 ≤ c ∧ c ≤ 57 then c - 48 else if 97 ≤ c ∧ c ≤ 102 then c - 87 else if 65 ≤ c ∧ c ≤ 70 then c - 55 else -1
theorem hexV_lt (c : Int) : -1 ≤ hexV c ∧ hexV c < 16 := by
  unfold hexV
  repeat' split
  all_goals omega
/-- How many digits to the base sixteen stand in front, at most k. -/
def hcnt : List Int → Nat → Nat
  | [], _ => 0
  | _ :: _, 0 => 0
  | c :: r, k + 1 => if 0 ≤ hexV c then 1 + hcnt r k else 0
/-- The number of the first k. -/
def hval : List Int → Nat → Int → Int
  | _, 0, v => v
  | [], _ + 1, v => v
  | c :: r, k + 1, v => hval r k (v * 16 + hexV c)
theorem hcnt_le : ∀ (l : List Int) (k : Nat), hcnt l k ≤ k ∧ hcnt l k ≤ l.length
  | [], k => by simp [hcnt]
  | c :: r, 0 => by simp [hcnt]
  | c :: r, k + 1 => by
    have := hcnt_le r k
    unfold hcnt
    split <;> simp <;> omega
theorem hcnt_lt : ∀ (l : List Int) (k n : Nat), n < hcnt l k → 0 ≤ hexV (l.getD n 0)
  | [], k, n, h => by simp [hcnt] at h
  | c :: r, 0, n, h => by simp [hcnt] at h
  | c :: r, k + 1, n, h => by
    unfold hcnt at h
    split at h
    · rename_i hc
      cases n with
      | zero => simpa using hc
      | succ n => have := hcnt_lt r k n (by omega); simpa using this
    · omega
theorem hcnt_end : ∀ (l : List Int) (k n : Nat), n = hcnt l k → n < k → n < l.length → ¬ 0 ≤ hexV (l.getD n 0)
  | [], k, n, _, _, h => by simp at h
  | c :: r, 0, n, _, h, _ => by omega
  | c :: r, k + 1, n, h, h1, h2 => by
    unfold hcnt at h
    split at h
    · subst h
      have := hcnt_end r k (hcnt r k) rfl (by omega) (by simp only [List.length_cons] at h2; omega)
      rw [show 1 + hcnt r k = hcnt r k + 1 by omega]
      simpa using this
    · rename_i hc
      subst h
      simpa using hc
theorem hval_succ : ∀ (l : List Int) (n : Nat) (v : Int), n < l.length → hval l (n + 1) v = hval l n v * 16 + hexV (l.getD n 0)
  | [], n, v, h => by simp at h
  | c :: r, 0, v, h => by cases r <;> simp [hval]
  | c :: r, n + 1, v, h => by
    have := hval_succ r n (v * 16 + hexV c) (by simp only [List.length_cons] at h; omega)
    rw [hval, this, hval]
    simp
theorem hval_bd {l : List Int} {k : Nat} : ∀ n, n ≤ hcnt l k → n ≤ 8 → 0 ≤ hval l n 0 ∧ hval l n 0 < 16 ^ n
  | 0, _, _ => by cases l <;> simp [hval]
  | n + 1, h, h8 => by
    obtain ⟨h0, h1⟩ := hval_bd (l := l) (k := k) n (by omega) (by omega)
    have hl := hcnt_le l k
    have h2 := hcnt_lt l k n (by omega)
    have h3 := (hexV_lt (l.getD n 0)).2
    rw [hval_succ l n 0 (by omega), Int.pow_succ]
    omega
theorem pow16 {n : Nat} (h : n ≤ 8) : (16 : Int) ^ n ≤ 4294967296 := by
  have : n = 0 ∨ n = 1 ∨ n = 2 ∨ n = 3 ∨ n = 4 ∨ n = 5 ∨ n = 6 ∨ n = 7 ∨ n = 8 := by omega
  rcases this with rfl | rfl | rfl | rfl | rfl | rfl | rfl | rfl | rfl <;> decide
def firstC (c : Int) : List Int → Option Nat
  | [] => none
  | x :: r => if x = c then some 0 else (firstC c r).map (· + 1)
theorem firstC_lt (c : Int) : ∀ (l : List Int) (i : Nat), firstC c l = some i → i < l.length ∧ l.getD i 0 = c
  | [], i, h => by cases h
  | x :: r, i, h => by
    unfold firstC at h
    split at h
    · rename_i e
      cases h
      exact ⟨by simp, by simpa using e⟩
    · obtain ⟨j, hj, rfl⟩ := Option.map_eq_some_iff.1 h
      obtain ⟨h1, h2⟩ := firstC_lt c r j hj
      exact ⟨by simp; omega, by simpa using h2⟩
def idxC (l : List Int) (c : Int) : Int := match firstC c l with | none => -1 | some i => i
theorem indexByte_idx {c : Int} (hc : isB c) : ∀ (l : List Int), Byt l → Lib.indexByte (l.map b8) (b8 c) = idxC l c
  | [], _ => rfl
  | x :: r, h => by
    have hx := h x (by simp)
    have ih := indexByte_idx hc r (fun y hy => h y (by simp [hy]))
    have hxc : (b8 x == b8 c) = decide (x = c) := by
      by_cases e : x = c
      · subst e; simp
      · have : b8 x ≠ b8 c := fun e2 => e (by rw [← b8_nat hx, ← b8_nat hc, e2])
        simp [this, e]
    rw [List.map_cons, Lib.indexByte, hxc, ih]
    unfold idxC
    rw [firstC]
    by_cases e : x = c
    · simp [e]
    · simp only [e, decide_false, Bool.false_eq_true, if_false]
      cases firstC c r with
      | none => rfl
      | some i =>
        simp only [Option.map_some]
        have : ((i : Int) == -1) = false := by rw [beq_eq_false_iff_ne]; omega
        rw [this]
        simp
attribute [local irreducible] Cs Own Ex Pu Yld RT LJ QJ AtQ CT Rd QSp Sp FinQ Then LoopQ CutQ DT TakeQ EffQ
attribute [local irreducible] Bd
variable {B : World} {R : List HP}
theorem hex_fn {c : Int} (h0 : 0 ≤ c) (h1 : c < 256) : Sp B Tryd.prog 102 [.int .u8 c] R [] (fun v H' => v = .int .i64 (hexV c) ∧ H' = []) := by
  refine Sp.body Tryd.func102 rfl Tryd.ntmps102 (by simp) ?_
  simp only [argE, List.cons_append, List.nil_append, Nat.zero_add, Nat.reduceAdd]
  repeat' (first|((first|refine vc_id ?_|(refine RT.id ?_;refine RT.c T ?_));(conv=>whnf);first|refine RT.id ?_|(refine⟨fun hc=>?_,fun hc=>?_⟩<;>first|(exfalso;omega)|skip)|((first|apply num_i64|apply num_u64|apply num_u8|apply num_i32|apply num_u32);omega;omega)|((first|apply num_u64m|apply num_u8m|apply num_u32m);intro r hr)|(intro r hr))|(refine RT.id ?_;first|refine RT.nil ?_|(apply RT.ld T;exact rfl;(focus ((repeat constructor);done));iterate 4 exact rfl)|(apply RT.st T;(iterate 3 exact rfl);(focus ((repeat constructor);done));(focus repeat constructor);iterate 2 exact rfl)|((first|apply RT.box|apply RT.alloc T);(iterate 4 exact rfl);intro b)|((first|apply RT.pnil T|apply RT.pnnil T);iterate 6 exact rfl)|(refine RT.isPush ?_;refine RT.pushI T rfl rfl rfl (fun a' c'=>by ((repeat constructor);done)) (by omega) (by omega) rfl rfl rfl rfl (fun a' c' b' c1' hac=>?_))|refine RT.build T rfl rfl rfl rfl rfl ?_|(apply RT.lens T;iterate 4 exact rfl))|(refine AtQ.id_ ?_;first|refine A0 ?_|refine A1 ?_|refine A2 ?_|refine A3 ?_|refine A4 ?_|refine A5 ?_|refine A6 ?_|refine A7 ?_|refine A8 ?_|refine A9 ?_|refine AtQ.in_ne rfl ?_|refine AA ?_|refine AB ?_|refine AC ?_|refine AD ?_)|(refine CT.id_ ?_;first|(refine CT.seq ?_) | (refine CT.region ?_) | (refine CT.quiet mixed (by kernel_rfl) ?_) | (refine CT.cond_t rfl ?_) | (refine CT.cond_f rfl ?_) | (refine CT.skip ?_) | (refine CT.ret ?_) | (refine CT.exit ?_) | (refine CT.block ?_)))
  (refine RT.call T rfl (by (repeat (first|exact Fr.nil|(apply Fr.cons;focus ((repeat constructor);done))))) (digit_fn) rfl rfl rfl ?_; rintro _ _ ⟨rfl, rfl⟩; try simp only [List.cons_append, List.nil_append])
  by_cases hd : 48 ≤ c ∧ c ≤ 57
  · rw [decide_eq_true hd]
    repeat' (first|((first|refine vc_id ?_|(refine RT.id ?_;refine RT.c T ?_));(conv=>whnf);first|refine RT.id ?_|(refine⟨fun hc=>?_,fun hc=>?_⟩<;>first|(exfalso;omega)|skip)|((first|apply num_i64|apply num_u64|apply num_u8|apply num_i32|apply num_u32);omega;omega)|((first|apply num_u64m|apply num_u8m|apply num_u32m);intro r hr)|(intro r hr))|(refine RT.id ?_;first|refine RT.nil ?_|(apply RT.ld T;exact rfl;(focus ((repeat constructor);done));iterate 4 exact rfl)|(apply RT.st T;(iterate 3 exact rfl);(focus ((repeat constructor);done));(focus repeat constructor);iterate 2 exact rfl)|((first|apply RT.box|apply RT.alloc T);(iterate 4 exact rfl);intro b)|((first|apply RT.pnil T|apply RT.pnnil T);iterate 6 exact rfl)|(refine RT.isPush ?_;refine RT.pushI T rfl rfl rfl (fun a' c'=>by ((repeat constructor);done)) (by omega) (by omega) rfl rfl rfl rfl (fun a' c' b' c1' hac=>?_))|refine RT.build T rfl rfl rfl rfl rfl ?_|(apply RT.lens T;iterate 4 exact rfl))|(refine AtQ.id_ ?_;first|refine A0 ?_|refine A1 ?_|refine A2 ?_|refine A3 ?_|refine A4 ?_|refine A5 ?_|refine A6 ?_|refine A7 ?_|refine A8 ?_|refine A9 ?_|refine AtQ.in_ne rfl ?_|refine AA ?_|refine AB ?_|refine AC ?_|refine AD ?_)|(refine CT.id_ ?_;first|(refine CT.seq ?_) | (refine CT.region ?_) | (refine CT.quiet mixed (by kernel_rfl) ?_) | (refine CT.cond_t rfl ?_) | (refine CT.cond_f rfl ?_) | (refine CT.skip ?_) | (refine CT.ret ?_) | (refine CT.exit ?_) | (refine CT.block ?_)))
    exact AtQ.f1 Tryd.results102 rfl (by unfold hexV; rw [if_pos hd]) (fun w h => h)
  · rw [decide_eq_false hd]
    repeat' (first|((first|refine vc_id ?_|(refine RT.id ?_;refine RT.c T ?_));(conv=>whnf);first|refine RT.id ?_|(refine⟨fun hc=>?_,fun hc=>?_⟩<;>first|(exfalso;omega)|skip)|((first|apply num_i64|apply num_u64|apply num_u8|apply num_i32|apply num_u32);omega;omega)|((first|apply num_u64m|apply num_u8m|apply num_u32m);intro r hr)|(intro r hr))|(refine RT.id ?_;first|refine RT.nil ?_|(apply RT.ld T;exact rfl;(focus ((repeat constructor);done));iterate 4 exact rfl)|(apply RT.st T;(iterate 3 exact rfl);(focus ((repeat constructor);done));(focus repeat constructor);iterate 2 exact rfl)|((first|apply RT.box|apply RT.alloc T);(iterate 4 exact rfl);intro b)|((first|apply RT.pnil T|apply RT.pnnil T);iterate 6 exact rfl)|(refine RT.isPush ?_;refine RT.pushI T rfl rfl rfl (fun a' c'=>by ((repeat constructor);done)) (by omega) (by omega) rfl rfl rfl rfl (fun a' c' b' c1' hac=>?_))|refine RT.build T rfl rfl rfl rfl rfl ?_|(apply RT.lens T;iterate 4 exact rfl))|(refine AtQ.id_ ?_;first|refine A0 ?_|refine A1 ?_|refine A2 ?_|refine A3 ?_|refine A4 ?_|refine A5 ?_|refine A6 ?_|refine A7 ?_|refine A8 ?_|refine A9 ?_|refine AtQ.in_ne rfl ?_|refine AA ?_|refine AB ?_|refine AC ?_|refine AD ?_)|(refine CT.id_ ?_;first|(refine CT.seq ?_) | (refine CT.region ?_) | (refine CT.quiet mixed (by kernel_rfl) ?_) | (refine CT.cond_t rfl ?_) | (refine CT.cond_f rfl ?_) | (refine CT.skip ?_) | (refine CT.ret ?_) | (refine CT.exit ?_) | (refine CT.block ?_)))
    all_goals first
      | exact AtQ.f1 Tryd.results102 rfl (by unfold hexV; rw [if_neg hd, if_pos (by omega)]; congr 1; omega) (fun w h => h)
      | exact AtQ.f1 Tryd.results102 rfl (by unfold hexV; rw [if_neg hd, if_neg (by omega), if_pos (by omega)]; congr 1; omega) (fun w h => h)
      | exact AtQ.f1 Tryd.results102 rfl (by unfold hexV; rw [if_neg hd, if_neg (by omega), if_neg (by omega)]) (fun w h => h)
theorem valid_fn {n : Int} : Sp B Tryd.prog 89 [.int .i32 n] R [] (fun v H' => v = .bool (decide (validR n)) ∧ H' = []) := by
  refine Sp.body Tryd.func89 rfl Tryd.ntmps89 (by simp) ?_
  simp only [argE, List.cons_append, List.nil_append, Nat.zero_add, Nat.reduceAdd]
  repeat' (first|((first|refine vc_id ?_|(refine RT.id ?_;refine RT.c T ?_));(conv=>whnf);first|refine RT.id ?_|(refine⟨fun hc=>?_,fun hc=>?_⟩<;>first|(exfalso;omega)|skip)|((first|apply num_i64|apply num_u64|apply num_u8|apply num_i32|apply num_u32);omega;omega)|((first|apply num_u64m|apply num_u8m|apply num_u32m);intro r hr)|(intro r hr))|(refine RT.id ?_;first|refine RT.nil ?_|(apply RT.ld T;exact rfl;(focus ((repeat constructor);done));iterate 4 exact rfl)|(apply RT.st T;(iterate 3 exact rfl);(focus ((repeat constructor);done));(focus repeat constructor);iterate 2 exact rfl)|((first|apply RT.box|apply RT.alloc T);(iterate 4 exact rfl);intro b)|((first|apply RT.pnil T|apply RT.pnnil T);iterate 6 exact rfl)|(refine RT.isPush ?_;refine RT.pushI T rfl rfl rfl (fun a' c'=>by ((repeat constructor);done)) (by omega) (by omega) rfl rfl rfl rfl (fun a' c' b' c1' hac=>?_))|refine RT.build T rfl rfl rfl rfl rfl ?_|(apply RT.lens T;iterate 4 exact rfl))|(refine AtQ.id_ ?_;first|refine A0 ?_|refine A1 ?_|refine A2 ?_|refine A3 ?_|refine A4 ?_|refine A5 ?_|refine A6 ?_|refine A7 ?_|refine A8 ?_|refine A9 ?_|refine AtQ.in_ne rfl ?_|refine AA ?_|refine AB ?_|refine AC ?_|refine AD ?_)|(refine CT.id_ ?_;first|(refine CT.seq ?_) | (refine CT.region ?_) | (refine CT.quiet mixed (by kernel_rfl) ?_) | (refine CT.cond_t rfl ?_) | (refine CT.cond_f rfl ?_) | (refine CT.skip ?_) | (refine CT.ret ?_) | (refine CT.exit ?_) | (refine CT.block ?_)))
  all_goals first
    | exact AtQ.f1 Tryd.results89 rfl (by rw [decide_eq_true (show validR n by unfold validR; omega)]) (fun w h => h)
    | exact AtQ.f1 Tryd.results89 rfl (by rw [decide_eq_false (show ¬ validR n by unfold validR; omega)]) (fun w h => h)
theorem RT.idx {n : Fm} {m : Bool} {l0 rest : List Oper} {E : Env} {H : List HP} {Q : Exit → Act → World → Prop} {d : Nat} {ty : TypeId} {pos : String} {af : Array Edge} {g : Option (Nat × Bool)} {x y : Operand} {ats : Array TypeId} {l : List Int} {c : Int}
    (hx : ev E x = some (.string (str l))) (hy : ev E y = some (.int .u8 c)) (hb : Byt l) (hc : isB c) (hw : wt l0 E g = some true) (hd : Nat.blt d n.n = true)
    (k : RT B Tryd.prog n m l0 rest ((d, .int .i64 (idxC l c)) :: E) H Q) : RT B Tryd.prog n m l0 (⟨some d, .call { callee := .value (.func 114), args := #[x, y], argTypes := ats }, ty, pos, af, g⟩ :: rest) E H Q := by
  have hy2 : Yld B Tryd.prog n E H (.call { callee := .value (.func 114), args := #[x, y], argTypes := ats }) ty (.int .i64 (idxC l c)) := y_run fun o aa w ho _ hA _ => by
    have hrun : (Extern.BytealgIndexByte.indexByte #[.string (str l), .int .u8 c]).run Tryd.prog w = .ok (.int .i64 (idxC l c)) w := by
      rw [Lib.run_indexByteString, str_list]
      have : c.toNat.toUInt8 = b8 c := rfl
      rw [this, indexByte_idx hc l hb]
    refine exec_ext (xs := [x, y]) (vs := [.string (str l), .int .u8 c]) ho hA (by simp [evs, hx, hy]) ?_
    rw [run_callFunc_extern Tryd.func114 (by kernel_rfl) (by kernel_rfl) (by kernel_rfl) (e := Extern.BytealgIndexByte.indexByte) (by kernel_rfl), hrun]
    rfl
  exact RT.y hw (by simpa [Nat.blt_eq] using hd) hy2 k
theorem index_fn {l : List Int} {c : Int} (hb : Byt l) (hc : isB c) : Sp B Tryd.prog 101 [.string (str l), .int .u8 c] R [] (fun v H' => v = .int .i64 (idxC l c) ∧ H' = []) := by
  have h109 : Sp B Tryd.prog 109 [.string (str l), .int .u8 c] R [] (fun v H' => v = .int .i64 (idxC l c) ∧ H' = []) := by
    refine Sp.body Tryd.func109 rfl Tryd.ntmps109 (by simp) ?_
    simp only [argE, List.cons_append, List.nil_append, Nat.zero_add, Nat.reduceAdd]
    repeat' (first|((first|refine vc_id ?_|(refine RT.id ?_;refine RT.c T ?_));(conv=>whnf);first|refine RT.id ?_|(refine⟨fun hc=>?_,fun hc=>?_⟩<;>first|(exfalso;omega)|skip)|((first|apply num_i64|apply num_u64|apply num_u8|apply num_i32|apply num_u32);omega;omega)|((first|apply num_u64m|apply num_u8m|apply num_u32m);intro r hr)|(intro r hr))|(refine RT.id ?_;first|refine RT.nil ?_|(apply RT.ld T;exact rfl;(focus ((repeat constructor);done));iterate 4 exact rfl)|(apply RT.st T;(iterate 3 exact rfl);(focus ((repeat constructor);done));(focus repeat constructor);iterate 2 exact rfl)|((first|apply RT.box|apply RT.alloc T);(iterate 4 exact rfl);intro b)|((first|apply RT.pnil T|apply RT.pnnil T);iterate 6 exact rfl)|(refine RT.isPush ?_;refine RT.pushI T rfl rfl rfl (fun a' c'=>by ((repeat constructor);done)) (by omega) (by omega) rfl rfl rfl rfl (fun a' c' b' c1' hac=>?_))|refine RT.build T rfl rfl rfl rfl rfl ?_|(apply RT.lens T;iterate 4 exact rfl))|(refine AtQ.id_ ?_;first|refine A0 ?_|refine A1 ?_|refine A2 ?_|refine A3 ?_|refine A4 ?_|refine A5 ?_|refine A6 ?_|refine A7 ?_|refine A8 ?_|refine A9 ?_|refine AtQ.in_ne rfl ?_|refine AA ?_|refine AB ?_|refine AC ?_|refine AD ?_)|(refine CT.id_ ?_;first|(refine CT.seq ?_) | (refine CT.region ?_) | (refine CT.quiet mixed (by kernel_rfl) ?_) | (refine CT.cond_t rfl ?_) | (refine CT.cond_f rfl ?_) | (refine CT.skip ?_) | (refine CT.ret ?_) | (refine CT.exit ?_) | (refine CT.block ?_)))
    refine RT.idx rfl rfl hb hc rfl rfl ?_
    repeat' (first|((first|refine vc_id ?_|(refine RT.id ?_;refine RT.c T ?_));(conv=>whnf);first|refine RT.id ?_|(refine⟨fun hc=>?_,fun hc=>?_⟩<;>first|(exfalso;omega)|skip)|((first|apply num_i64|apply num_u64|apply num_u8|apply num_i32|apply num_u32);omega;omega)|((first|apply num_u64m|apply num_u8m|apply num_u32m);intro r hr)|(intro r hr))|(refine RT.id ?_;first|refine RT.nil ?_|(apply RT.ld T;exact rfl;(focus ((repeat constructor);done));iterate 4 exact rfl)|(apply RT.st T;(iterate 3 exact rfl);(focus ((repeat constructor);done));(focus repeat constructor);iterate 2 exact rfl)|((first|apply RT.box|apply RT.alloc T);(iterate 4 exact rfl);intro b)|((first|apply RT.pnil T|apply RT.pnnil T);iterate 6 exact rfl)|(refine RT.isPush ?_;refine RT.pushI T rfl rfl rfl (fun a' c'=>by ((repeat constructor);done)) (by omega) (by omega) rfl rfl rfl rfl (fun a' c' b' c1' hac=>?_))|refine RT.build T rfl rfl rfl rfl rfl ?_|(apply RT.lens T;iterate 4 exact rfl))|(refine AtQ.id_ ?_;first|refine A0 ?_|refine A1 ?_|refine A2 ?_|refine A3 ?_|refine A4 ?_|refine A5 ?_|refine A6 ?_|refine A7 ?_|refine A8 ?_|refine A9 ?_|refine AtQ.in_ne rfl ?_|refine AA ?_|refine AB ?_|refine AC ?_|refine AD ?_)|(refine CT.id_ ?_;first|(refine CT.seq ?_) | (refine CT.region ?_) | (refine CT.quiet mixed (by kernel_rfl) ?_) | (refine CT.cond_t rfl ?_) | (refine CT.cond_f rfl ?_) | (refine CT.skip ?_) | (refine CT.ret ?_) | (refine CT.exit ?_) | (refine CT.block ?_)))
    exact AtQ.f1 Tryd.results109 rfl rfl (fun w h => h)
  refine Sp.body Tryd.func101 rfl Tryd.ntmps101 (by simp) ?_
  simp only [argE, List.cons_append, List.nil_append, Nat.zero_add, Nat.reduceAdd]
  repeat' (first|((first|refine vc_id ?_|(refine RT.id ?_;refine RT.c T ?_));(conv=>whnf);first|refine RT.id ?_|(refine⟨fun hc=>?_,fun hc=>?_⟩<;>first|(exfalso;omega)|skip)|((first|apply num_i64|apply num_u64|apply num_u8|apply num_i32|apply num_u32);omega;omega)|((first|apply num_u64m|apply num_u8m|apply num_u32m);intro r hr)|(intro r hr))|(refine RT.id ?_;first|refine RT.nil ?_|(apply RT.ld T;exact rfl;(focus ((repeat constructor);done));iterate 4 exact rfl)|(apply RT.st T;(iterate 3 exact rfl);(focus ((repeat constructor);done));(focus repeat constructor);iterate 2 exact rfl)|((first|apply RT.box|apply RT.alloc T);(iterate 4 exact rfl);intro b)|((first|apply RT.pnil T|apply RT.pnnil T);iterate 6 exact rfl)|(refine RT.isPush ?_;refine RT.pushI T rfl rfl rfl (fun a' c'=>by ((repeat constructor);done)) (by omega) (by omega) rfl rfl rfl rfl (fun a' c' b' c1' hac=>?_))|refine RT.build T rfl rfl rfl rfl rfl ?_|(apply RT.lens T;iterate 4 exact rfl))|(refine AtQ.id_ ?_;first|refine A0 ?_|refine A1 ?_|refine A2 ?_|refine A3 ?_|refine A4 ?_|refine A5 ?_|refine A6 ?_|refine A7 ?_|refine A8 ?_|refine A9 ?_|refine AtQ.in_ne rfl ?_|refine AA ?_|refine AB ?_|refine AC ?_|refine AD ?_)|(refine CT.id_ ?_;first|(refine CT.seq ?_) | (refine CT.region ?_) | (refine CT.quiet mixed (by kernel_rfl) ?_) | (refine CT.cond_t rfl ?_) | (refine CT.cond_f rfl ?_) | (refine CT.skip ?_) | (refine CT.ret ?_) | (refine CT.exit ?_) | (refine CT.block ?_)))
  (refine RT.call T rfl (by (repeat (first|exact Fr.nil|(apply Fr.cons;focus ((repeat constructor);done))))) (h109) rfl rfl rfl ?_; rintro _ _ ⟨rfl, rfl⟩; try simp only [List.cons_append, List.nil_append])
  repeat' (first|((first|refine vc_id ?_|(refine RT.id ?_;refine RT.c T ?_));(conv=>whnf);first|refine RT.id ?_|(refine⟨fun hc=>?_,fun hc=>?_⟩<;>first|(exfalso;omega)|skip)|((first|apply num_i64|apply num_u64|apply num_u8|apply num_i32|apply num_u32);omega;omega)|((first|apply num_u64m|apply num_u8m|apply num_u32m);intro r hr)|(intro r hr))|(refine RT.id ?_;first|refine RT.nil ?_|(apply RT.ld T;exact rfl;(focus ((repeat constructor);done));iterate 4 exact rfl)|(apply RT.st T;(iterate 3 exact rfl);(focus ((repeat constructor);done));(focus repeat constructor);iterate 2 exact rfl)|((first|apply RT.box|apply RT.alloc T);(iterate 4 exact rfl);intro b)|((first|apply RT.pnil T|apply RT.pnnil T);iterate 6 exact rfl)|(refine RT.isPush ?_;refine RT.pushI T rfl rfl rfl (fun a' c'=>by ((repeat constructor);done)) (by omega) (by omega) rfl rfl rfl rfl (fun a' c' b' c1' hac=>?_))|refine RT.build T rfl rfl rfl rfl rfl ?_|(apply RT.lens T;iterate 4 exact rfl))|(refine AtQ.id_ ?_;first|refine A0 ?_|refine A1 ?_|refine A2 ?_|refine A3 ?_|refine A4 ?_|refine A5 ?_|refine A6 ?_|refine A7 ?_|refine A8 ?_|refine A9 ?_|refine AtQ.in_ne rfl ?_|refine AA ?_|refine AB ?_|refine AC ?_|refine AD ?_)|(refine CT.id_ ?_;first|(refine CT.seq ?_) | (refine CT.region ?_) | (refine CT.quiet mixed (by kernel_rfl) ?_) | (refine CT.cond_t rfl ?_) | (refine CT.cond_f rfl ?_) | (refine CT.skip ?_) | (refine CT.ret ?_) | (refine CT.exit ?_) | (refine CT.block ?_)))
  exact AtQ.f1 Tryd.results101 rfl rfl (fun w h => h)
end Go.Proofs.YtbpelgbblpeojaaDoor
