/- Merged: P22, B16r, Y8. -/
import Derived.Test.YtdemnhdoadjhhaaGreatDoorWA
import Derived.Test.YtdemnhdoadjhhaaGreatDoorWB
set_option linter.unusedVariables false
set_option linter.unusedSimpArgs false
section
namespace Go.Proofs.YtdemnhdoadjhhaaGreatDoor
open Go.Sk
theorem give_ok {nm full : Txt} {g g' : List Txt} (h : giveR nm full g = .ok g') : identB nm = true ∧ full.length ≤ 255 ∧ full ∉ g ∧ g' = g ++ [full] := by
  unfold giveR must at h
  split at h
  · rename_i h1
    rw [Bool.and_eq_true, decide_eq_true_eq] at h1
    split at h
    · rename_i h2
      cases h
      exact ⟨h1.1, h1.2, of_decide_eq_true h2, rfl⟩
    · cases h
  · cases h
theorem give_to {nm full : Txt} {g : List Txt} (h1 : identB nm = true) (h2 : full.length ≤ 255) (h3 : full ∉ g) : giveR nm full g = .ok (g ++ [full]) := by
  unfold giveR
  rw [must_t (by rw [h1, decide_eq_true h2]; rfl), must_t (decide_eq_true h3)]
/-- What is given stays, is one of N, and nothing hangs on t. -/
def EG (t : Txt) (N : Txt → Prop) (F : List Txt → Rs) : Prop := ∀ g h, F g = .ok h → (∀ y ∈ g, y ∈ h) ∧ (∀ y ∈ h, y ∈ g ∨ N y) ∧ (t ∉ h → ∀ g2 : List Txt, (∀ y, y ∈ g2 ↔ y ∈ g ∨ y = t) → ∃ h2, F g2 = .ok h2 ∧ ∀ y, y ∈ h2 ↔ y ∈ h ∨ y = t)
section
variable {t : Txt} {N : Txt → Prop}
theorem EG.ok : EG t N .ok := fun g h e => by cases e; exact ⟨fun y h => h, fun y h => .inl h, fun _ g2 h2 => ⟨g2, rfl, h2⟩⟩
theorem EG.must {b : Bool} {e : Int} {t' : Txt} {K : List Txt → Rs} (h : EG t N K) : EG t N (fun g => must b e t' (K g)) := fun g h' eq => by
  cases b
  · cases eq
  · exact h g h' eq
theorem EG.opt {o : Option Flt} {K : List Txt → Rs} (h : EG t N K) : EG t N (fun g => opt o (K g)) := fun g h' eq => by
  cases o with
  | none => exact h g h' eq
  | some x => cases eq
theorem EG.bnd {F K : List Txt → Rs} (hF : EG t N F) (hK : EG t N K) : EG t N (fun g => bnd (F g) K) := fun g h eq => by
  dsimp only at eq
  cases e1 : F g with
  | error x => rw [e1] at eq; cases eq
  | ok g1 =>
    rw [e1, bnd_ok] at eq
    obtain ⟨a1, a2, a3⟩ := hF g g1 e1
    obtain ⟨b1, b2, b3⟩ := hK g1 h eq
    refine ⟨fun y hy => b1 y (a1 y hy), fun y hy => (b2 y hy).elim (fun hy => a2 y hy) .inr, fun ht g2 hg2 => ?_⟩
    obtain ⟨h2, e2, c2⟩ := a3 (fun hh => ht (b1 t hh)) g2 hg2
    obtain ⟨h3, e3, c3⟩ := b3 ht h2 c2
    exact ⟨h3, by dsimp only; rw [e2, bnd_ok, e3], c3⟩
theorem eg_give {nm full : Txt} (hN : N full) : EG t N (giveR nm full) := fun g h e => by
  obtain ⟨h1, h2, h3, rfl⟩ := give_ok e
  refine ⟨fun y hy => List.mem_append_left _ hy, fun y hy => (List.mem_append.1 hy).elim .inl fun hy => .inr (by rw [List.mem_singleton.1 hy]; exact hN), fun ht g2 hg2 => ?_⟩
  have hne : full ≠ t := fun e => ht (by rw [← e]; simp)
  refine ⟨g2 ++ [full], give_to h1 h2 (fun hh => ?_), fun y => ?_⟩
  · rcases (hg2 full).1 hh with hh | hh
    · exact h3 hh
    · exact hne hh
  · simp only [List.mem_append, List.mem_singleton, hg2]
    constructor
    · rintro ((h | h) | h)
      · exact .inl (.inl h)
      · exact .inr h
      · exact .inl (.inr h)
    · rintro ((h | h) | h)
      · exact .inl (.inl h)
      · exact .inr h
      · exact .inl (.inr h)
theorem eg_field {names : List Txt} {res : List SpanT} {no : Nat} {full : Txt} {ah : List FieldT} {f : FieldT} (h : N (joinL [full, f.nm])) : EG t N (fieldR names res no full ah f) := by
  unfold fieldR fieldR7 fieldR8 fieldR11 fieldR14 fieldR15 fieldR16 fieldR17
  refine EG.bnd (eg_give h) ?_
  repeat (first | exact EG.ok | refine EG.must ?_)
theorem eg_fields {names : List Txt} {res : List SpanT} {no : Nat} {full : Txt} : ∀ {l ah : List FieldT}, (∀ f ∈ l, N (joinL [full, f.nm])) → EG t N (fieldsR names res no full ah l)
  | [], ah, _ => by cases ah <;> exact EG.ok
  | f :: l, ah, h => by
    have e : fieldsR names res no full ah (f :: l) = fun g => bnd (fieldR names res no full ah f g) (fieldsR names res no full (ah ++ [f]) l) := by funext g; rw [fieldsR]
    rw [e]
    exact EG.bnd (eg_field (h f List.mem_cons_self)) (eg_fields fun x hx => h x (List.mem_cons_of_mem _ hx))
theorem eg_oneofs {fields : List FieldT} {full : Txt} : ∀ {l : List Txt} {i : Nat}, (∀ o ∈ l, N (joinL [full, o])) → EG t N (oneofsR fields full i l)
  | [], i, _ => EG.ok
  | o :: l, i, h => by
    have e : oneofsR fields full i (o :: l) = fun g => bnd (giveR o (joinL [full, o]) g) fun g => Go.Proofs.YtdemnhdoadjhhaaGreatDoor.must (decide (∃ f ∈ fields, f.oneof = (i : Int) + 1)) 64 (joinL [full, o]) (oneofsR fields full (i + 1) l g) := by funext g; rw [oneofsR]
    rw [e]
    exact EG.bnd (eg_give (h o List.mem_cons_self)) (EG.must (eg_oneofs fun x hx => h x (List.mem_cons_of_mem _ hx)))
theorem eg_vals {names : List Txt} {res : List SpanT} {ali : Bool} {sc : Txt} : ∀ {l ah : List EValT}, (∀ v ∈ l, N (joinL [sc, v.nm])) → EG t N (valsR names res ali sc ah l)
  | [], ah, _ => by cases ah <;> exact EG.ok
  | v :: l, ah, h => by
    have e : valsR names res ali sc ah (v :: l) = fun g => bnd (giveR v.nm (joinL [sc, v.nm]) g) fun g => Go.Proofs.YtdemnhdoadjhhaaGreatDoor.must (decide (v.nm ∉ names) && !anyS res v.num) 63 (joinL [sc, v.nm]) (Go.Proofs.YtdemnhdoadjhhaaGreatDoor.must (ali || decide (∀ o ∈ ah, o.num ≠ v.num)) 66 (joinL [sc, v.nm]) (valsR names res ali sc (ah ++ [v]) l g)) := by funext g; rw [valsR]
    rw [e]
    exact EG.bnd (eg_give (h v List.mem_cons_self)) (EG.must (EG.must (eg_vals fun x hx => h x (List.mem_cons_of_mem _ hx))))
theorem eg_enum {e : EnumT} {sc fl : Txt} (h : ∀ s ∈ symE fl sc e, N s.full) : EG t N (enumR e sc) := by
  unfold enumR
  refine EG.bnd (eg_give (h _ List.mem_cons_self)) (EG.must (EG.must (EG.opt (EG.opt (eg_vals fun v hv => ?_)))))
  exact h _ (List.mem_cons_of_mem _ (List.mem_map.2 ⟨v, hv, rfl⟩))
theorem eg_enums {sc fl : Txt} : ∀ {l : List EnumT}, (∀ s ∈ l.flatMap (symE fl sc), N s.full) → EG t N (enumsR sc l)
  | [], _ => EG.ok
  | e :: l, h => by
    have ee : enumsR sc (e :: l) = fun g => bnd (enumR e sc g) (enumsR sc l) := by funext g; rw [enumsR]
    rw [ee]
    rw [List.flatMap_cons] at h
    exact EG.bnd (eg_enum (fun s hs => h s (List.mem_append_left _ hs))) (eg_enums (fun s hs => h s (List.mem_append_right _ hs)))
mutual
theorem eg_msg {fl : Txt} : ∀ {m : MsgT} {sc : Txt} {deep : Nat}, (∀ s ∈ symM fl m sc, N s.full) → EG t N (msgR m sc deep)
  | .mk nm fields oneofs ma mc msgs enums res names, sc, deep, h => by
    have ee : msgR (.mk nm fields oneofs ma mc msgs enums res names) sc deep = fun g =>
      bnd (giveR nm (joinL [sc, nm]) g) fun g =>
      Go.Proofs.YtdemnhdoadjhhaaGreatDoor.must (decide (deep < 16) && decide (fields.l.length ≤ 1000)) 68 (joinL [sc, nm]) <|
      Go.Proofs.YtdemnhdoadjhhaaGreatDoor.opt (spansF 1 536870911 (joinL [sc, nm]) [] res.l) <|
      Go.Proofs.YtdemnhdoadjhhaaGreatDoor.opt (namesF (joinL [sc, nm]) [] names.l) <|
      bnd (fieldsR names.l res.l oneofs.l.length (joinL [sc, nm]) [] fields.l g) fun g =>
      bnd (oneofsR fields.l (joinL [sc, nm]) 0 oneofs.l g) fun g =>
      bnd (msgsR msgs (joinL [sc, nm]) (deep + 1) g) fun g =>
      enumsR (joinL [sc, nm]) enums.l g := by funext g; rw [msgR]
    rw [ee]
    unfold symM at h
    refine EG.bnd (eg_give (h _ List.mem_cons_self)) (EG.must (EG.opt (EG.opt (EG.bnd (eg_fields fun f hf => ?_) (EG.bnd (eg_oneofs fun o ho => ?_) (EG.bnd (eg_msgs (fl := fl) (fun s hs => ?_)) (eg_enums (fl := fl) (fun s hs => ?_))))))))
    · exact h _ (List.mem_cons_of_mem _ (List.mem_append_left _ (List.mem_map.2 ⟨f, hf, rfl⟩)))
    · exact h _ (List.mem_cons_of_mem _ (List.mem_append_right _ (List.mem_append_left _ (List.mem_map.2 ⟨o, ho, rfl⟩))))
    · exact h _ (List.mem_cons_of_mem _ (List.mem_append_right _ (List.mem_append_right _ (List.mem_append_left _ hs))))
    · exact h _ (List.mem_cons_of_mem _ (List.mem_append_right _ (List.mem_append_right _ (List.mem_append_right _ hs))))
theorem eg_msgs {fl : Txt} : ∀ {l : List MsgT} {sc : Txt} {deep : Nat}, (∀ s ∈ symMs fl l sc, N s.full) → EG t N (msgsR l sc deep)
  | [], sc, deep, _ => by
    have ee : msgsR [] sc deep = .ok := by funext g; rw [msgsR]
    rw [ee]; exact EG.ok
  | m :: l, sc, deep, h => by
    have ee : msgsR (m :: l) sc deep = fun g => bnd (msgR m sc deep g) fun g => msgsR l sc deep g := by funext g; rw [msgsR]
    rw [ee]
    unfold symMs at h
    exact EG.bnd (eg_msg (fun s hs => h s (List.mem_append_left _ hs))) (eg_msgs (fun s hs => h s (List.mem_append_right _ hs)))
end
end
/-! ### the fields of the first message, taken out -/
theorem bnd_bnd {r : Rs} {k k2 : List Txt → Rs} : bnd (bnd r k) k2 = bnd r (fun g => bnd (k g) k2) := by cases r <;> rfl
theorem bnd_must {b : Bool} {e : Int} {t : Txt} {r : Rs} {k : List Txt → Rs} : bnd (must b e t r) k = must b e t (bnd r k) := by cases b <;> rfl
theorem bnd_opt {o : Option Flt} {r : Rs} {k : List Txt → Rs} : bnd (opt o r) k = opt o (bnd r k) := by cases o <;> rfl
theorem fields_app {names : List Txt} {res : List SpanT} {no : Nat} {full : Txt} : ∀ {a b ah : List FieldT} {g : List Txt}, fieldsR names res no full ah (a ++ b) g = bnd (fieldsR names res no full ah a g) (fieldsR names res no full (ah ++ a) b)
  | [], b, ah, g => by
    have e : fieldsR names res no full ah [] g = .ok g := by cases ah <;> rfl
    rw [List.nil_append, e, bnd_ok, List.append_nil]
  | f :: a, b, ah, g => by
    rw [List.cons_append, fieldsR, fieldsR, bnd_bnd]
    congr 1
    funext g
    rw [fields_app, List.append_assoc]
    rfl
theorem oneofs_more {fields : List FieldT} {x : FieldT} {full : Txt} (hx : x.oneof = 0) : ∀ {l : List Txt} {i : Nat} {g : List Txt}, oneofsR (fields ++ [x]) full i l g = oneofsR fields full i l g
  | [], i, g => rfl
  | o :: l, i, g => by
    rw [oneofsR, oneofsR]
    congr 1
    funext g
    rw [oneofs_more hx]
    congr 1
    refine decide_eq_decide.2 ⟨?_, ?_⟩
    · rintro ⟨f, hf, h⟩
      rcases List.mem_append.1 hf with hf | hf
      · exact ⟨f, hf, h⟩
      · rw [List.mem_singleton.1 hf, hx] at h
        omega
    · rintro ⟨f, hf, h⟩
      exact ⟨f, List.mem_append_left _ hf, h⟩
/-- All ahead of the fields. -/
noncomputable def preR (path pack : Txt) (imps : List ImpT) (nm : Txt) (res : List SpanT) (names : List Txt) (n : Nat) (Z : List Txt → Rs) : Rs :=
  must (pathB path) 60 path <| must (decide (pack = []) || fullB pack) 60 pack <| must (decide (imps.length ≤ 256)) 68 path <| opt (impsF [] imps) <|
  bnd (giveR nm (joinL [pack, nm]) []) fun g => must (decide (0 < 16) && decide (n ≤ 1000)) 68 (joinL [pack, nm]) <| opt (spansF 1 536870911 (joinL [pack, nm]) [] res) <| opt (namesF (joinL [pack, nm]) [] names) <| Z g
/-- All behind them. -/
noncomputable def postK (full pack : Txt) (fields : List FieldT) (oneofs : List Txt) (msgs rest : List MsgT) (en enums : List EnumT) : List Txt → Rs := fun g =>
  bnd (oneofsR fields full 0 oneofs g) fun g => bnd (msgsR msgs full 1 g) fun g => bnd (enumsR full en g) fun g => bnd (msgsR rest pack 0 g) fun g => enumsR pack enums g
theorem file_eq {path pack nm : Txt} {imps : Rw ImpT} {fields : Rw FieldT} {oneofs : Rw Txt} {ma ma2 : Option Addr} {mc mc2 : Nat} {msgs rest : List MsgT} {en enums : Rw EnumT} {res : Rw SpanT} {names : Rw Txt} :
    fileR ⟨path, pack, imps, ma, mc, .mk nm fields oneofs ma2 mc2 msgs en res names :: rest, enums⟩ =
      preR path pack imps.l nm res.l names.l fields.l.length (fun g => bnd (fieldsR names.l res.l oneofs.l.length (joinL [pack, nm]) [] fields.l g) (postK (joinL [pack, nm]) pack fields.l oneofs.l msgs rest en.l enums.l)) := by
  unfold fileR preR postK
  dsimp only
  rw [msgsR, msgR]
  simp only [bnd_bnd, bnd_must, bnd_opt]
theorem pre_ok {path pack nm : Txt} {imps : List ImpT} {res : List SpanT} {names : List Txt} {n : Nat} {Z : List Txt → Rs} {h : List Txt} (e : preR path pack imps nm res names n Z = .ok h) :
    Z [joinL [pack, nm]] = .ok h ∧ ∀ n2 Z2, n2 ≤ 1000 → preR path pack imps nm res names n2 Z2 = Z2 [joinL [pack, nm]] := by
  unfold preR at e ⊢
  cases c1 : pathB path
  · rw [c1] at e; cases e
  cases c2 : (decide (pack = []) || fullB pack)
  · rw [c1, c2, must_t rfl] at e; cases e
  cases c3 : decide (imps.length ≤ 256)
  · rw [c1, c2, c3, must_t rfl, must_t rfl] at e; cases e
  rw [c1, c2, c3, must_t rfl, must_t rfl, must_t rfl] at e
  cases c4 : impsF [] imps with
  | some x => rw [c4] at e; cases e
  | none =>
    rw [c4, opt_none] at e
    cases c5 : giveR nm (joinL [pack, nm]) [] with
    | error x => rw [c5] at e; cases e
    | ok g1 =>
      obtain ⟨_, _, _, rfl⟩ := give_ok c5
      rw [c5, bnd_ok] at e
      cases c6 : decide (n ≤ 1000)
      · rw [c6] at e; cases e
      rw [c6, must_t (by decide)] at e
      cases c7 : spansF 1 536870911 (joinL [pack, nm]) [] res with
      | some x => rw [c7] at e; cases e
      | none =>
        rw [c7, opt_none] at e
        cases c8 : namesF (joinL [pack, nm]) [] names with
        | some x => rw [c8] at e; cases e
        | none =>
          rw [c8, opt_none] at e
          refine ⟨e, fun n2 Z2 hn => ?_⟩
          rw [must_t rfl, must_t rfl, must_t rfl, opt_none, bnd_ok, must_t (by rw [decide_eq_true hn]; decide), opt_none, opt_none]
          rfl
/-! ### CheckRoom -/
theorem good_nil : goodL [] = -1 := rfl
/-- A field of an int32. -/
structure NewF (x : FieldT) : Prop where
  card : x.card = 1
  kind : x.kind = 5
  ty : x.ty = []
  key : x.key = 0
  oneof : x.oneof = 0
  packed : x.packed = 0
  js : x.js = []
theorem new_field {names : List Txt} {res : List SpanT} {no : Nat} {full : Txt} {ah : List FieldT} {x : FieldT} {g : List Txt} (hx : NewF x) (h1 : identB x.nm = true) (h2 : (joinL [full, x.nm]).length ≤ 255) (h3 : joinL [full, x.nm] ∉ g)
    (h4 : x.nm ∉ names) (h5 : ∀ o ∈ ah, jsonL o ≠ jsonL x ∧ jsonL o ≠ x.nm ∧ o.nm ≠ jsonL x) :
    (good res (ah.map FieldT.num) x.num = true → fieldR names res no full ah x g = .ok (g ++ [joinL [full, x.nm]])) ∧ (good res (ah.map FieldT.num) x.num = false → ∃ e, fieldR names res no full ah x g = .error (e, joinL [full, x.nm])) := by
  have hg : good res (ah.map FieldT.num) x.num = (mayB x.num && decide (∀ o ∈ ah, o.num ≠ x.num) && !anyS res x.num) := by
    unfold good anyS
    have e : (!decide (x.num ∈ ah.map FieldT.num)) = decide (∀ o ∈ ah, o.num ≠ x.num) := by
      rw [← decide_not]
      refine decide_eq_decide.2 ⟨fun h o ho e => h (List.mem_map.2 ⟨o, ho, e⟩), fun h hm => ?_⟩
      obtain ⟨o, ho, e⟩ := List.mem_map.1 hm
      exact h o ho e
    rw [e]
    cases mayB x.num <;> cases (res.any fun s => inS s x.num) <;> cases decide (∀ o ∈ ah, o.num ≠ x.num) <;> rfl
  unfold fieldR
  rw [give_to h1 h2 h3, bnd_ok, must_t (decide_eq_true h4)]
  rw [hg]
  constructor
  · intro h
    rw [Bool.and_eq_true] at h
    rw [must_t h.1, must_t h.2]
    unfold fieldR7 fieldR8 fieldR11 fieldR14 fieldR15 fieldR16 fieldR17
    have k1 : namedB x.kind = false := by rw [hx.kind]; rfl
    rw [must_t (by rw [hx.card, hx.kind]; rfl), must_t (by rw [k1, if_neg (by decide), hx.ty]; rfl), must_t (by rw [hx.card, if_neg (by decide), hx.key]; rfl), must_t (by rw [hx.oneof]; simp), must_t (by rw [hx.packed]; rfl),
      must_t (by rw [hx.js, good_nil]; rfl), must_t (decide_eq_true h5)]
  · intro h
    cases c1 : (mayB x.num && decide (∀ o ∈ ah, o.num ≠ x.num))
    · exact ⟨62, must_f rfl⟩
    · rw [c1, Bool.true_and] at h
      exact ⟨63, by rw [must_t rfl, must_f h]⟩
theorem room {path pack nm : Txt} {imps : Rw ImpT} {fields fields2 : Rw FieldT} {oneofs : Rw Txt} {ma ma2 ma3 : Option Addr} {mc mc2 mc3 : Nat} {msgs rest : List MsgT} {en enums : Rw EnumT} {res : Rw SpanT} {names : Rw Txt} {x : FieldT} {t : Txt}
    (h : (checkL ⟨path, pack, imps, ma, mc, .mk nm fields oneofs ma2 mc2 msgs en res names :: rest, enums⟩).1 = 0) (hf : fields2.l = fields.l ++ [x]) (hn : fields.l.length < 1000) (hx : NewF x) (ht : t = joinL [pack, joinL [nm, x.nm]])
    (h1 : identB x.nm = true) (h2 : t.length ≤ 255) (h3 : ∀ s ∈ symF ⟨path, pack, imps, ma, mc, .mk nm fields oneofs ma2 mc2 msgs en res names :: rest, enums⟩, s.full ≠ t)
    (h4 : x.nm ∉ names.l) (h5 : ∀ o ∈ fields.l, jsonL o ≠ jsonL x ∧ jsonL o ≠ x.nm ∧ o.nm ≠ jsonL x) :
    (good res.l (fields.l.map FieldT.num) x.num = true → (checkL ⟨path, pack, imps, ma3, mc3, .mk nm fields2 oneofs ma2 mc2 msgs en res names :: rest, enums⟩).1 = 0) ∧
    (good res.l (fields.l.map FieldT.num) x.num = false → (checkL ⟨path, pack, imps, ma3, mc3, .mk nm fields2 oneofs ma2 mc2 msgs en res names :: rest, enums⟩).1 ≠ 0 ∧ (checkL ⟨path, pack, imps, ma3, mc3, .mk nm fields2 oneofs ma2 mc2 msgs en res names :: rest, enums⟩).2 = t) := by
  rw [← J_assoc] at ht
  unfold checkL at h ⊢
  cases hr : fileR ⟨path, pack, imps, ma, mc, .mk nm fields oneofs ma2 mc2 msgs en res names :: rest, enums⟩ with
  | error y =>
    rw [hr] at h
    obtain ⟨e, t⟩ := y
    exact absurd h (nz_file e t hr)
  | ok hh =>
    have hr0 := hr
    rw [file_eq] at hr
    obtain ⟨a1, a2⟩ := pre_ok hr
    have hs : ∀ s ∈ symM path (.mk nm fields oneofs ma2 mc2 msgs en res names) pack, s.full ≠ t := fun s hs => h3 s (by
      unfold symF symMs
      exact List.mem_append_left _ (List.mem_append_left _ hs))
    have hs2 : ∀ s ∈ symMs path rest pack, s.full ≠ t := fun s hs => h3 s (by
      unfold symF symMs
      exact List.mem_append_left _ (List.mem_append_right _ hs))
    have hs3 : ∀ s ∈ enums.l.flatMap (symE path pack), s.full ≠ t := fun s hs => h3 s (by
      unfold symF
      exact List.mem_append_right _ hs)
    unfold symM at hs
    have egF : EG t (fun y => y ≠ t) (fieldsR names.l res.l oneofs.l.length (joinL [pack, nm]) [] fields.l) := eg_fields fun f hf => hs _ (List.mem_cons_of_mem _ (List.mem_append_left _ (List.mem_map.2 ⟨f, hf, rfl⟩)))
    have egK : EG t (fun y => y ≠ t) (postK (joinL [pack, nm]) pack fields.l oneofs.l msgs rest en.l enums.l) := by
      unfold postK
      refine EG.bnd (eg_oneofs fun o ho => ?_) (EG.bnd (eg_msgs (fl := path) fun s hs' => ?_) (EG.bnd (eg_enums (fl := path) fun s hs' => ?_) (EG.bnd (eg_msgs (fl := path) hs2) (eg_enums (fl := path) hs3))))
      · exact hs _ (List.mem_cons_of_mem _ (List.mem_append_right _ (List.mem_append_left _ (List.mem_map.2 ⟨o, ho, rfl⟩))))
      · exact hs _ (List.mem_cons_of_mem _ (List.mem_append_right _ (List.mem_append_right _ (List.mem_append_left _ hs'))))
      · exact hs _ (List.mem_cons_of_mem _ (List.mem_append_right _ (List.mem_append_right _ (List.mem_append_right _ hs'))))
    cases hg2 : fieldsR names.l res.l oneofs.l.length (joinL [pack, nm]) [] fields.l [joinL [pack, nm]] with
    | error y => rw [hg2] at a1; cases a1
    | ok g2 =>
      rw [hg2, bnd_ok] at a1
      obtain ⟨_, b2, _⟩ := egF _ _ hg2
      obtain ⟨_, c2, c3⟩ := egK _ _ a1
      have hfull : joinL [pack, nm] ≠ t := hs _ List.mem_cons_self
      have tg2 : t ∉ g2 := fun hm => (b2 t hm).elim (fun hm => hfull (List.mem_singleton.1 hm).symm) (fun hm => hm rfl)
      have thh : t ∉ hh := fun hm => (c2 t hm).elim tg2 (fun hm => hm rfl)
      have key : fileR ⟨path, pack, imps, ma3, mc3, .mk nm fields2 oneofs ma2 mc2 msgs en res names :: rest, enums⟩ = bnd (fieldR names.l res.l oneofs.l.length (joinL [pack, nm]) fields.l x g2) (postK (joinL [pack, nm]) pack fields.l oneofs.l msgs rest en.l enums.l) := by
        rw [file_eq, a2 _ _ (by rw [hf, List.length_append, List.length_singleton]; omega)]
        have hK : postK (joinL [pack, nm]) pack fields2.l oneofs.l msgs rest en.l enums.l = postK (joinL [pack, nm]) pack fields.l oneofs.l msgs rest en.l enums.l := by
          unfold postK
          funext g
          rw [hf, oneofs_more hx.oneof]
        rw [hK, hf, fields_app, hg2, bnd_ok, List.nil_append]
        rw [fieldsR]
        congr 1
        cases fieldR names.l res.l oneofs.l.length (joinL [pack, nm]) fields.l x g2 with
        | error y => rfl
        | ok g => rw [bnd_ok]; rfl
      rw [key]
      obtain ⟨n1, n2⟩ := new_field (names := names.l) (res := res.l) (no := oneofs.l.length) (full := joinL [pack, nm]) (ah := fields.l) (g := g2) hx h1 (by rw [← ht]; exact h2) (by rw [← ht]; exact tg2) h4 h5
      constructor
      · intro hgd
        rw [n1 hgd, bnd_ok, ← ht]
        obtain ⟨h2', e2, _⟩ := c3 thh (g2 ++ [t]) (fun y => by simp)
        rw [e2]
      · intro hgd
        obtain ⟨e, he⟩ := n2 hgd
        have hne : e ≠ 0 := nz_field e _ he
        rw [he, bnd_err, ← ht]
        exact ⟨hne, rfl⟩
/-! ### which numbers are told -/
theorem goods_sorted {res : List SpanT} {nums : List Int} {k : Nat} : (goods res nums k).Pairwise (· < ·) := by
  unfold goods
  refine List.Pairwise.filter _ ?_
  rw [List.pairwise_map]
  exact List.pairwise_lt_range.imp fun h => by simpa using h
theorem free_good {res : List SpanT} {nums : List Int} {n x : Int} (h : x ∈ freeL res nums n) : good res nums x = true := by
  unfold freeL goods at h
  exact (List.mem_filter.1 (List.mem_of_mem_take h)).2
theorem free_bad {res : List SpanT} {nums : List Int} {n x y : Int} (hy : y ∈ freeL res nums n) (hxy : x ≤ y) (h : x ∉ freeL res nums n) : good res nums x = false := by
  cases hg : good res nums x with
  | false => rfl
  | true =>
    exfalso
    have hm : mayB x = true := by
      unfold good at hg
      rw [Bool.and_eq_true, Bool.and_eq_true] at hg
      exact hg.1.1
    unfold mayB at hm
    have hm' := of_decide_eq_true hm
    have hx : x ∈ goods res nums 536870912 := by
      unfold goods
      exact List.mem_filter.2 ⟨List.mem_map.2 ⟨x.toNat, List.mem_range.2 (by omega), by show ((x.toNat : Nat) : Int) = x; omega⟩, hg⟩
    have hs : (goods res nums 536870912).Pairwise (· < ·) := goods_sorted
    unfold freeL at h hy
    rw [← List.take_append_drop (many n) (goods res nums 536870912)] at hs hx
    rcases List.mem_append.1 hx with hx | hx
    · exact h hx
    · have := (List.pairwise_append.1 hs).2.2 y hy x hx
      omega
end Go.Proofs.YtdemnhdoadjhhaaGreatDoor
end
section
namespace Go.Proofs.YtdemnhdoadjhhaaGreatDoor
open Go.Sk
set_option maxRecDepth 100000
attribute [local irreducible] Cs Own Ex Pu Yld RT LJ QJ AtQ CT Rd QSp Sp FinQ Then LoopQ CutQ DT TakeQ EffQ
attribute [local irreducible] Bd
variable {B : World} {R : List HP}
set_option maxHeartbeats 1000000 in
theorem rident_fn {l : List Int} (hb : Byt l) (hl : l.length ≤ 140737488355328) : Sp B Tryz.prog 27 [.string (str l)] R [] (fun v H' => v = .bool (identB l) ∧ H' = []) := by
  refine Sp.body Tryz.func27 rfl Tryz.ntmps27 (by simp) ?_
  simp only [argE, List.cons_append, List.nil_append, Nat.zero_add, Nat.reduceAdd]
  repeat' (first|(refine gv ?_;first|refine RT.id ?_|(refine⟨fun hc=>?_,fun hc=>?_⟩<;>first|(exfalso;omega)|skip)|refine gk ?_|refine num_m fun r hr=>?_|intro r hr)|refine gs ?_|(refine gb ?_;intro b)|refine gn ?_|(refine RT.isPush ?_;refine gp ?_;intro a' c' b' c1' hac)|refine gc ?_|fail)
  · exact AtQ.f1 Tryz.results27 rfl (by rw [identB_f (by rintro ⟨h0, _⟩; omega)]) (fun w h => h)
  · exact AtQ.f1 Tryz.results27 rfl (by rw [identB_f (by rintro ⟨_, h0, _⟩; omega)]) (fun w h => h)
  · refine CT.loop (α := Nat) (fun i => [(0, .string (str l)), (3, .int .i64 i)]) (fun i => Pu (i ≤ l.length ∧ (∀ j, j < i → okC (l.getD j 0)) ∧ (0 < i → ¬ isDig (l.getD 0 0))) :: R) (fun i => l.length - i) 0 ⟨rfl, rfl, trivial⟩
      (fun w h => Sat.pu_in ⟨Nat.zero_le _, fun j hj => absurd hj (by omega), fun h => absurd h (by omega)⟩ h) (fun i => CT.pu fun ⟨hi, ho, hz⟩ => ?_)
    have next : okC (l.getD i 0) → ∀ j, j < i + 1 → okC (l.getD j 0) := fun h j hj => by
      by_cases hji : j = i
      · rw [hji]; exact h
      · exact ho j (by omega)
    repeat' (first|(refine gv ?_;first|refine RT.id ?_|(refine⟨fun hc=>?_,fun hc=>?_⟩<;>first|(exfalso;omega)|skip)|refine gk ?_|refine num_m fun r hr=>?_|intro r hr)|refine gs ?_|(refine gb ?_;intro b)|refine gn ?_|(refine RT.isPush ?_;refine gp ?_;intro a' c' b' c1' hac)|refine gc ?_|fail)
    · (refine RT.ixs T (j := i) rfl rfl (by omega) (by omega) (by assumption) rfl rfl rfl ?_)
      obtain ⟨c0, c1⟩ := hb.get (i := i) (by omega)
      have bad : ¬ okC (l.getD i 0) → identB l = false := fun h => identB_f (by rintro ⟨_, _, _, h0⟩; exact h (h0 i (by omega)))
      have bad0 : i = 0 → isDig (l.getD i 0) → identB l = false := fun h hd => identB_f (by rintro ⟨_, _, h0, _⟩; rw [h] at hd; exact h0 hd)
      have hz0 : ¬ isDig (l.getD i 0) → 0 < i + 1 → ¬ isDig (l.getD 0 0) := fun h _ => by
        by_cases h0 : i = 0
        · rw [h0] at h; exact h
        · exact hz (by omega)
      have hz1 : ¬ i = 0 → 0 < i + 1 → ¬ isDig (l.getD 0 0) := fun h _ => hz (by omega)
      (refine RT.call T rfl fR_ (rletter_fn) rfl rfl rfl ?_; rintro _ _ ⟨rfl, rfl⟩; try simp only [List.cons_append, List.nil_append])
      repeat' (first|(refine gv ?_;first|refine RT.id ?_|(refine⟨fun hc=>?_,fun hc=>?_⟩<;>first|(exfalso;omega)|skip)|refine gk ?_|refine num_m fun r hr=>?_|intro r hr)|refine gs ?_|(refine gb ?_;intro b)|refine gn ?_|(refine RT.isPush ?_;refine gp ?_;intro a' c' b' c1' hac)|refine gc ?_|fail)
      (refine RT.ixs T (j := i) rfl rfl (by omega) (by omega) (by assumption) rfl rfl rfl ?_)
      (refine RT.call T rfl fR_ (rdigit_fn) rfl rfl rfl ?_; rintro _ _ ⟨rfl, rfl⟩; try simp only [List.cons_append, List.nil_append])
      generalize hcc : l.getD i 0 = c at *
      by_cases ha : isLet c
      · have hnd : ¬ isDig c := by
          rintro ⟨d0, d1⟩
          rcases ha with h | h | h <;> omega
        rw [decide_eq_true ha]
        repeat' (first|(refine gv ?_;first|refine RT.id ?_|(refine⟨fun hc=>?_,fun hc=>?_⟩<;>first|(exfalso;omega)|skip)|refine gk ?_|refine num_m fun r hr=>?_|intro r hr)|refine gs ?_|(refine gb ?_;intro b)|refine gn ?_|(refine RT.isPush ?_;refine gp ?_;intro a' c' b' c1' hac)|refine gc ?_|fail)
        exact AtQ.loop (i + 1) ⟨rfl, rfl, trivial⟩ (fun w h => Sat.pu_in ⟨by omega, next (.inl ha), hz0 hnd⟩ h) (by omega)
      · rw [decide_eq_false ha]
        by_cases hd : 48 ≤ c ∧ c ≤ 57
        · rw [decide_eq_true hd]
          repeat' (first|(refine gv ?_;first|refine RT.id ?_|(refine⟨fun hc=>?_,fun hc=>?_⟩<;>first|(exfalso;omega)|skip)|refine gk ?_|refine num_m fun r hr=>?_|intro r hr)|refine gs ?_|(refine gb ?_;intro b)|refine gn ?_|(refine RT.isPush ?_;refine gp ?_;intro a' c' b' c1' hac)|refine gc ?_|fail)
          · have hi0 : i = 0 := by omega
            exact AtQ.f1 Tryz.results27 rfl (by rw [bad0 hi0 hd]) (fun w h => h)
          · exact AtQ.loop (i + 1) ⟨rfl, rfl, trivial⟩ (fun w h => Sat.pu_in ⟨by omega, next (.inr hd), hz1 (by omega)⟩ h) (by omega)
        · rw [decide_eq_false hd]
          repeat' (first|(refine gv ?_;first|refine RT.id ?_|(refine⟨fun hc=>?_,fun hc=>?_⟩<;>first|(exfalso;omega)|skip)|refine gk ?_|refine num_m fun r hr=>?_|intro r hr)|refine gs ?_|(refine gb ?_;intro b)|refine gn ?_|(refine RT.isPush ?_;refine gp ?_;intro a' c' b' c1' hac)|refine gc ?_|fail)
          exact AtQ.f1 Tryz.results27 rfl (by rw [bad (by rintro (h | h); exact ha h; exact hd h)]) (fun w h => h)
    · have hie : i = l.length := by omega
      subst hie
      exact AtQ.f1 Tryz.results27 rfl (by rw [identB_t ⟨by omega, by omega, hz (by omega), ho⟩]) (fun w h => h)
end Go.Proofs.YtdemnhdoadjhhaaGreatDoor
end
section
namespace Go.Proofs.YtdemnhdoadjhhaaGreatDoor
open Go.Sk
set_option maxRecDepth 100000
theorem J3 (a b c : Txt) : joinL [a, b, c] = joinL [a, joinL [b, c]] := by
  cases a <;> cases b <;> cases c <;> simp [joinL, filt, joinS, dotted]
theorem J3_len (a b c : Txt) : c.length ≤ (joinL [a, b, c]).length := by
  cases a <;> cases b <;> cases c <;> simp [joinL, filt, joinS, dotted] <;> omega
theorem b3 {x y z : Txt} (hx : Byt x) (hy : Byt y) (hz : Byt z) : ∀ l ∈ [x, y, z], Byt l := fun l hl => by
  rcases List.mem_cons.1 hl with rfl | hl
  · exact hx
  · exact b2 hy hz l hl
theorem zz_ident : identB [122, 122] = true := identB_t ⟨by decide, by decide, by unfold isDig; decide, fun j hj => by
  have h2 : j = 0 ∨ j = 1 := by simp only [List.length_cons, List.length_nil] at hj; omega
  rcases h2 with rfl | rfl
  · unfold okC isDig; decide
  · unfold okC isDig; decide⟩
theorem newF_ok {xn : Txt} {y : Int} (hb : Byt xn) (hl : xn.length ≤ 255) (hy : I32 y) : FieldT.Ok ⟨xn, y, 1, 5, [], 0, 0, 0, []⟩ := by
  refine ⟨⟨hb, ?_⟩, hy, ⟨?_, ?_⟩, ⟨?_, ?_⟩, ⟨Byt.nil, ?_⟩, ⟨?_, ?_⟩, ⟨?_, ?_⟩, ⟨?_, ?_⟩, ⟨Byt.nil, ?_⟩⟩
  · dsimp only; omega
  all_goals (dsimp only; decide)
theorem newF_nm {xn : Txt} {y : Int} (hl : xn.length ≤ 255) : FNm ⟨xn, y, 1, 5, [], 0, 0, 0, []⟩ := by
  refine ⟨?_, ?_, ?_⟩
  · dsimp only; omega
  all_goals (dsimp only; decide)
attribute [local irreducible] Cs Own Ex Pu Yld RT LJ QJ AtQ CT Rd QSp Sp FinQ Then LoopQ CutQ DT TakeQ EffQ
variable {B : World} {R : List HP}
set_option maxHeartbeats 8000000 in
theorem room_fn {mM : Int} (haw : ∀ R, Sp B Tryz.prog 8 [] R [] (fun v H' => v = .bool true ∧ H' = [])) (hU : Lib.Utf8Tabs 1 2 B) (hM : B.cell? ⟨0, 0, none⟩ = some (.int .i64 mM))
    {f : FileT} {n : Int} {name : Txt} {number : Int} (hin : f.In (Rd B R)) (hok : f.Ok) (hn1 : -9223372036854775808 ≤ n) (hn2 : n ≤ 9223372036854775807) (hnb : OkT name) (hnu : I32 number) :
    Sp B Tryz.prog 7 [.agg f.cells.toArray, .int .i64 n, vS name, .int .i32 number] R [] (fun v H' => v = .bool true ∧ H' = []) := by
  obtain ⟨path, pack, imps, ma, mc, ms, enums⟩ := f
  refine Sp.body Tryz.func7 rfl Tryz.ntmps7 (by simp) ?_
  simp only [argE, List.cons_append, List.nil_append, Nat.zero_add, Nat.reduceAdd]
  repeat' (first|(refine gv ?_;first|refine RT.id ?_|(refine⟨fun hc=>?_,fun hc=>?_⟩<;>first|(exfalso;omega)|skip)|refine gk ?_|refine num_m fun r hr=>?_|intro r hr)|refine gs ?_|(refine gb ?_;intro b)|refine gn ?_|(refine RT.isPush ?_;refine gp ?_;intro a' c' b' c1' hac)|refine gc ?_|fail)
  revert b
  intro fb
  refine RT.call T rfl (by (repeat (first|exact Fr.nil|(apply Fr.cons;focus ((repeat constructor);done))))) (haw _) rfl rfl rfl ?_
  rintro _ _ ⟨rfl, rfl⟩
  try simp only [List.cons_append, List.nil_append]
  repeat' (first|(refine gv ?_;first|refine RT.id ?_|(refine⟨fun hc=>?_,fun hc=>?_⟩<;>first|(exfalso;omega)|skip)|refine gk ?_|refine num_m fun r hr=>?_|intro r hr)|refine gs ?_|(refine gb ?_;intro b)|refine gn ?_|(refine RT.isPush ?_;refine gp ?_;intro a' c' b' c1' hac)|refine gt ?_|refine gc ?_|fail)
  refine RT.call T rfl (by (repeat (first|exact Fr.nil|(apply Fr.cons;focus ((repeat constructor);done))))) (weight_fn (f := ⟨path, pack, imps, ma, mc, ms, enums⟩) (FileT.In.mono (fun _ _ _ _ _ h => (by repeat (first | exact (h) | apply Rd.cons))) hin) hok) rfl rfl rfl ?_
  rintro _ _ ⟨⟨w1, rfl, hw10, hw1⟩, rfl⟩
  try simp only [List.cons_append, List.nil_append]
  cases ms with
  | nil =>
    have h0 : ([] : List MsgT).length = 0 := rfl
    dsimp only [FileT.cells, Rw.v]
    repeat' (first|(refine gv ?_;first|refine RT.id ?_|(refine⟨fun hc=>?_,fun hc=>?_⟩<;>first|(exfalso;omega)|skip)|refine gk ?_|refine num_m fun r hr=>?_|intro r hr)|refine gs ?_|(refine gb ?_;intro b)|refine gn ?_|(refine RT.isPush ?_;refine gp ?_;intro a' c' b' c1' hac)|refine gt ?_|refine gc ?_|fail)
    all_goals exact AtQ.f1 (HH := []) Tryz.results7 rfl rfl dR_
  | cons m rest =>
  obtain ⟨nm, ⟨fa, fc, fs⟩, ⟨oa, oc, os⟩, ma2, mc2, msgs, ⟨ea, ec, es⟩, ⟨ra, rc, rs⟩, ⟨na, nc, ns⟩⟩ := m
  have hll : (MsgT.mk nm ⟨fa, fc, fs⟩ ⟨oa, oc, os⟩ ma2 mc2 msgs ⟨ea, ec, es⟩ ⟨ra, rc, rs⟩ ⟨na, nc, ns⟩ :: rest).length = rest.length + 1 := rfl
  have hrm : Rd B R ma (MsgT.mk nm ⟨fa, fc, fs⟩ ⟨oa, oc, os⟩ ma2 mc2 msgs ⟨ea, ec, es⟩ ⟨ra, rc, rs⟩ ⟨na, nc, ns⟩ :: rest).length mc 7 ((MsgT.mk nm ⟨fa, fc, fs⟩ ⟨oa, oc, os⟩ ma2 mc2 msgs ⟨ea, ec, es⟩ ⟨ra, rc, rs⟩ ⟨na, nc, ns⟩ :: rest).flatMap MsgT.cells) := hin.msgs
  dsimp only [FileT.cells, Rw.v]
  repeat' (first|(refine gv ?_;first|refine RT.id ?_|(refine⟨fun hc=>?_,fun hc=>?_⟩<;>first|(exfalso;omega)|skip)|refine gk ?_|refine num_m fun r hr=>?_|intro r hr)|refine gs ?_|(refine gb ?_;intro b)|refine gn ?_|(refine RT.isPush ?_;refine gp ?_;intro a' c' b' c1' hac)|refine gt ?_|refine gc ?_|fail)
  · exact AtQ.f1 (HH := []) Tryz.results7 rfl rfl dR_
  have hf := hw1 (by omega)
  refine RT.ix T (j := 0 * 7) rfl rfl rfl (by repeat (first | exact (hrm) | apply Rd.cons)) (by omega) (by omega) (by omega) rfl rfl ?_
  refine RT.faA T rfl rfl rfl rfl ?_
  refine RT.ldr (u := .slice fa fs.length fc) T rfl (by repeat (first | exact (hrm) | apply Rd.cons)) rfl rfl rfl rfl ?_
  repeat' (first|(refine gv ?_;first|refine RT.id ?_|(refine⟨fun hc=>?_,fun hc=>?_⟩<;>first|(exfalso;omega)|skip)|refine gk ?_|refine num_m fun r hr=>?_|intro r hr)|refine gs ?_|(refine gb ?_;intro b)|refine gn ?_|(refine RT.isPush ?_;refine gp ?_;intro a' c' b' c1' hac)|refine gt ?_|refine gc ?_|fail)
  · exact AtQ.f1 (HH := []) Tryz.results7 rfl rfl dR_
  refine RT.ix T (j := 0 * 7) rfl rfl rfl (by repeat (first | exact (hrm) | apply Rd.cons)) (by omega) (by omega) (by omega) rfl rfl ?_
  refine RT.faA T rfl rfl rfl rfl ?_
  refine RT.ldr (u := .slice ra rs.length rc) T rfl (by repeat (first | exact (hrm) | apply Rd.cons)) rfl rfl rfl rfl ?_
  repeat' (first|(refine gv ?_;first|refine RT.id ?_|(refine⟨fun hc=>?_,fun hc=>?_⟩<;>first|(exfalso;omega)|skip)|refine gk ?_|refine num_m fun r hr=>?_|intro r hr)|refine gs ?_|(refine gb ?_;intro b)|refine gn ?_|(refine RT.isPush ?_;refine gp ?_;intro a' c' b' c1' hac)|refine gt ?_|refine gc ?_|fail)
  · exact AtQ.f1 (HH := []) Tryz.results7 rfl rfl dR_
  refine RT.call T rfl (by (repeat (first|exact Fr.nil|(apply Fr.cons;focus ((repeat constructor);done))))) (checkC_fn (f := ⟨path, pack, imps, ma, mc, _, enums⟩) hU hM (FileT.In.mono (fun _ _ _ _ _ h => (by repeat (first | exact (h) | apply Rd.cons))) hin) hok hf.ns) rfl rfl rfl ?_
  rintro _ _ ⟨rfl, rfl⟩
  simp only [List.nil_append]
  generalize hq : checkL _ = q1
  obtain ⟨q1, q2⟩ := q1
  dsimp only
  repeat' (first|(refine gv ?_;first|refine RT.id ?_|(refine⟨fun hc=>?_,fun hc=>?_⟩<;>first|(exfalso;omega)|skip)|refine gk ?_|refine num_m fun r hr=>?_|intro r hr)|refine gs ?_|(refine gb ?_;intro b)|refine gn ?_|(refine RT.isPush ?_;refine gp ?_;intro a' c' b' c1' hac)|refine gt ?_|refine gc ?_|fail)
  rotate_left
  · exact AtQ.f1 (HH := []) Tryz.results7 rfl rfl dR_
  have hq0 : q1 = 0 := hc
  have hfs : fs.length < 1000 := by omega
  have hck : (checkL ⟨path, pack, imps, ma, mc, .mk nm ⟨fa, fc, fs⟩ ⟨oa, oc, os⟩ ma2 mc2 msgs ⟨ea, ec, es⟩ ⟨ra, rc, rs⟩ ⟨na, nc, ns⟩ :: rest, enums⟩).1 = 0 := by rw [hq]; exact hq0
  clear hq
  refine RT.ix T (j := 0 * 7) rfl rfl rfl (by repeat (first | exact (hrm) | apply Rd.cons)) (by omega) (by omega) (by omega) rfl rfl ?_
  refine RT.ldra T rfl (by repeat (first | exact (hrm) | apply Rd.cons)) (l := [vS nm, .slice fa fs.length fc, .slice oa os.length oc, .slice ma2 msgs.length mc2, .slice ea es.length ec, .slice ra rs.length rc, .slice na ns.length nc]) rfl rfl rfl rfl rfl ?_
  repeat' (first|(refine gv ?_;first|refine RT.id ?_|(refine⟨fun hc=>?_,fun hc=>?_⟩<;>first|(exfalso;omega)|skip)|refine gk ?_|refine num_m fun r hr=>?_|intro r hr)|refine gs ?_|(refine gb ?_;intro b)|refine gn ?_|(refine RT.isPush ?_;refine gp ?_;intro a' c' b' c1' hac)|refine gt ?_|(refine CT.id_ ?_;first|refine CT.seqN 9 rfl ?_|refine CT.blockN 9 rfl ?_|refine CT.region ?_|refine CT.quiet mixed (by kernel_rfl) ?_|refine CT.cond_t rfl ?_|refine CT.cond_f rfl ?_|refine CT.skip ?_|refine CT.ret ?_|refine CT.exit ?_))
  revert b
  intro mb
  have hm0 := hok.msgs.2 _ List.mem_cons_self
  have hi0 := hin.sub _ List.mem_cons_self
  have hn0 := MsgT.nmL_mem hf.nms (List.mem_cons_self (a := MsgT.mk nm ⟨fa, fc, fs⟩ ⟨oa, oc, os⟩ ma2 mc2 msgs ⟨ea, ec, es⟩ ⟨ra, rc, rs⟩ ⟨na, nc, ns⟩) (l := rest))
  unfold MsgT.Ok at hm0
  unfold MsgT.In at hi0
  unfold MsgT.Nm at hn0
  obtain ⟨⟨k1, _⟩, ⟨_, kf⟩, _, _, _, ⟨⟨krl, _⟩, kr⟩, ⟨⟨knl, _⟩, kn⟩, _⟩ := hm0
  obtain ⟨rf, _, _, _, _, rr, rn, _⟩ := hi0
  obtain ⟨n1, nf, _, nn, _, _⟩ := hn0
  have hpk := hf.pk
  have hpb := hok.pack.1
  dsimp only at rf rr rn kf kr kn krl knl nf nn hpk hpb
  refine CT.seq ?_
  refine CT.cut (α := Int) (fun k => [(2, vS name), (3, .int .i32 number), (4, ptr fb), (9, .bool true), (11, ptr mb), (12, .int .i64 k)])
    (fun k => Pu (0 ≤ k ∧ k ≤ 9223372036854775807) :: Cs mb 72 [vS nm, .slice fa fs.length fc, .slice oa os.length oc, .slice ma2 msgs.length mc2, .slice ea es.length ec, .slice ra rs.length rc, .slice na ns.length nc] ::
      Cs fb 26 [vS path, vS pack, .slice imps.a imps.l.length imps.c, .slice ma (MsgT.mk nm ⟨fa, fc, fs⟩ ⟨oa, oc, os⟩ ma2 mc2 msgs ⟨ea, ec, es⟩ ⟨ra, rc, rs⟩ ⟨na, nc, ns⟩ :: rest).length mc, .slice enums.a enums.l.length enums.c] :: R) ?_ (fun k => ?_)
  · repeat' (first|(refine gv ?_;first|refine RT.id ?_|(refine⟨fun hc=>?_,fun hc=>?_⟩<;>first|(exfalso;omega)|skip)|refine gk ?_|refine num_m fun r hr=>?_|intro r hr)|refine gs ?_|(refine gb ?_;intro b)|refine gn ?_|(refine RT.isPush ?_;refine gp ?_;intro a' c' b' c1' hac)|refine gc ?_|fail)
    · refine RT.neg rfl (r := -(n + 1)) (by rw [show (0 : Int) - (n + 1) = -(n + 1) by omega]; exact wr_i64 (by omega) (by omega)) rfl rfl ?_
      repeat' (first|(refine gv ?_;first|refine RT.id ?_|(refine⟨fun hc=>?_,fun hc=>?_⟩<;>first|(exfalso;omega)|skip)|refine gk ?_|refine num_m fun r hr=>?_|intro r hr)|refine gs ?_|(refine gb ?_;intro b)|refine gn ?_|(refine RT.isPush ?_;refine gp ?_;intro a' c' b' c1' hac)|refine gc ?_|fail)
      exact AtQ.cut _ ⟨rfl, rfl, rfl, rfl, rfl, rfl, trivial⟩ (fun w h => Sat.pu_in ⟨by omega, by omega⟩ (h.frd (Ps := [Cs mb 72 _, Cs fb 26 _]) (Qs := [_]) (by (repeat (first|exact Fr.nil|(apply Fr.cons;focus ((repeat constructor);done)))))))
    · exact AtQ.cut _ ⟨rfl, rfl, rfl, rfl, rfl, rfl, trivial⟩ (fun w h => Sat.pu_in ⟨by omega, by omega⟩ (h.frd (Ps := [Cs mb 72 _, Cs fb 26 _]) (Qs := [_]) (by (repeat (first|exact Fr.nil|(apply Fr.cons;focus ((repeat constructor);done)))))))
  refine A0 ?_
  refine CT.pu fun ⟨hk1, hk2⟩ => ?_
  repeat' (first|(refine gv ?_;first|refine RT.id ?_|(refine⟨fun hc=>?_,fun hc=>?_⟩<;>first|(exfalso;omega)|skip)|refine gk ?_|refine num_m fun r hr=>?_|intro r hr)|refine gs ?_|(refine gb ?_;intro b)|refine gn ?_|(refine RT.isPush ?_;refine gp ?_;intro a' c' b' c1' hac)|refine gt ?_|refine gc ?_|fail)
  have hrem := Int.tmod_lt_of_pos k (b := 40) (by omega)
  have hrem2 := Int.tmod_nonneg 40 hk1
  refine RT.rem rfl rfl (by omega) (r := k.tmod 40) rfl rfl rfl ?_
  repeat' (first|(refine gv ?_;first|refine RT.id ?_|(refine⟨fun hc=>?_,fun hc=>?_⟩<;>first|(exfalso;omega)|skip)|refine gk ?_|refine num_m fun r hr=>?_|intro r hr)|refine gs ?_|(refine gb ?_;intro b)|refine gn ?_|(refine RT.isPush ?_;refine gp ?_;intro a' c' b' c1' hac)|refine gt ?_|refine gc ?_|fail)
  refine RT.call T rfl (by (repeat (first|exact Fr.nil|(apply Fr.cons;focus ((repeat constructor);done))))) (free_fn (m := .mk nm ⟨fa, fc, fs⟩ ⟨oa, oc, os⟩ ma2 mc2 msgs ⟨ea, ec, es⟩ ⟨ra, rc, rs⟩ ⟨na, nc, ns⟩) (fun H => Rd.app (by repeat (first | exact (rf) | apply Rd.cons))) (fun H => Rd.app (by repeat (first | exact (rr) | apply Rd.cons))) (by dsimp only [MsgT.fields]; omega) krl kr (by omega) (by omega)) rfl rfl rfl ?_
  rintro _ _ ⟨la, lc, rfl, rfl⟩
  simp only [List.cons_append, List.nil_append]
  dsimp only [MsgT.res, MsgT.fields]
  obtain ⟨L, hL⟩ : ∃ L, L = freeL rs (fs.map FieldT.num) (1 + k.tmod 40) := ⟨_, rfl⟩
  rw [← hL]
  have hLg : ∀ x ∈ L, good rs (fs.map FieldT.num) x = true := by rw [hL]; exact fun x hx => free_good hx
  have hLb : ∀ x y, y ∈ L → x ≤ y → x ∉ L → good rs (fs.map FieldT.num) x = false := by rw [hL]; exact fun x y h1 h2 h3 => free_bad h1 h2 h3
  have hLl : L.length ≤ 1000 := by rw [hL]; unfold freeL many; rw [List.length_take]; omega
  clear hL
  refine RT.fact (p := L.length ≤ lc) (fun w h => (Own.facts h (by ((repeat constructor);done))).2.1) (fun hlc => ?_)
  repeat' (first|(refine gv ?_;first|refine RT.id ?_|(refine⟨fun hc=>?_,fun hc=>?_⟩<;>first|(exfalso;omega)|skip)|refine gk ?_|refine num_m fun r hr=>?_|intro r hr)|refine gs ?_|(refine gb ?_;intro b)|refine gn ?_|(refine RT.isPush ?_;refine gp ?_;intro a' c' b' c1' hac)|refine gt ?_|refine gc ?_|fail)
  · exact AtQ.f1 (HH := []) Tryz.results7 rfl rfl dR_
  have hL0 : L.length - 1 < L.length := by omega
  refine RT.ix T (j := L.length - 1) rfl rfl rfl (Own.rdI (by ((repeat constructor);done)) rfl hlc) (by omega) (by omega) (by omega) rfl rfl ?_
  refine RT.ldi T (l := L) rfl (Own.rdI (by ((repeat constructor);done)) rfl hlc) (by omega) rfl rfl rfl ?_
  have hyL : L.getD (L.length - 1) 0 ∈ L := by
    rw [List.getD_eq_getElem?_getD, List.getElem?_eq_getElem hL0]
    exact List.getElem_mem hL0
  generalize hyd : L.getD (L.length - 1) 0 = y at *
  have hyg := hLg y hyL
  have hyr : 1 ≤ y ∧ y ≤ 536870911 := by
    unfold good mayB at hyg
    rw [Bool.and_eq_true, Bool.and_eq_true] at hyg
    have := of_decide_eq_true hyg.1.1
    omega
  repeat' (first|(refine gv ?_;first|refine RT.id ?_|(refine⟨fun hc=>?_,fun hc=>?_⟩<;>first|(exfalso;omega)|skip)|refine gk ?_|refine num_m fun r hr=>?_|intro r hr)|refine gs ?_|(refine gb ?_;intro b)|refine gn ?_|(refine RT.isPush ?_;refine gp ?_;intro a' c' b' c1' hac)|refine gt ?_|refine gc ?_|fail)
  revert b
  intro yb
  refine RT.bs T (l := strs [pack, nm, name]) rfl rfl rfl rfl rfl rfl rfl (fun a9 c9 h9 => ?_)
  have hnl := hnb.2
  refine RT.call T rfl (by (repeat (first|exact Fr.nil|(apply Fr.cons;focus ((repeat constructor);done))))) (rjoin_big (ls := [pack, nm, name]) (Own.rd (by ((repeat constructor);done)) rfl h9) rfl (b3 hpb k1 hnb.1) (by simp [sumL]; omega) (fun i hi => by
    have hi3 : i = 0 ∨ i = 1 ∨ i = 2 := by simp only [List.length_cons, List.length_nil] at hi; omega
    rcases hi3 with rfl | rfl | rfl <;> simp [sumL] <;> omega)) rfl rfl rfl ?_
  rintro _ _ ⟨rfl, rfl⟩
  simp only [List.cons_append, List.nil_append]
  refine RT.weak (fun w h => h.tail) ?_
  repeat' (first|(refine gv ?_;first|refine RT.id ?_|(refine⟨fun hc=>?_,fun hc=>?_⟩<;>first|(exfalso;omega)|skip)|refine gk ?_|refine num_m fun r hr=>?_|intro r hr)|refine gs ?_|(refine gb ?_;intro b)|refine gn ?_|(refine RT.isPush ?_;refine gp ?_;intro a' c' b' c1' hac)|refine gt ?_|refine gc ?_|fail)
  (refine RT.call T rfl fR_ (rident_fn hnb.1 (by omega)) rfl rfl rfl ?_; rintro _ _ ⟨rfl, rfl⟩; try simp only [List.cons_append, List.nil_append])
  repeat' (first|(refine gv ?_;first|refine RT.id ?_|(refine⟨fun hc=>?_,fun hc=>?_⟩<;>first|(exfalso;omega)|skip)|refine gk ?_|refine num_m fun r hr=>?_|intro r hr)|refine gs ?_|(refine gb ?_;intro b)|refine gn ?_|(refine RT.isPush ?_;refine gp ?_;intro a' c' b' c1' hac)|refine gt ?_|(refine CT.id_ ?_;first|refine CT.seqN 17 rfl ?_|refine CT.blockN 17 rfl ?_|refine CT.region ?_|refine CT.quiet mixed (by kernel_rfl) ?_|refine CT.cond_t rfl ?_|refine CT.cond_f rfl ?_|refine CT.skip ?_|refine CT.ret ?_|refine CT.exit ?_))
  refine CT.seq ?_
  refine CT.cut (α := Txt) (fun xn => [(3, .int .i32 number), (4, ptr fb), (9, .bool true), (11, ptr mb), (13, .slice la L.length lc), (14, ptr yb), (15, vS (joinL [pack, nm, xn]))])
    (fun xn => Pu (Byt xn ∧ xn.length ≤ 255 ∧ identB xn = true) :: Cs yb 87 (FieldT.cells ⟨xn, y, 1, 5, [], 0, 0, 0, []⟩) :: own32 la lc L :: Cs mb 72 [vS nm, .slice fa fs.length fc, .slice oa os.length oc, .slice ma2 msgs.length mc2, .slice ea es.length ec, .slice ra rs.length rc, .slice na ns.length nc] ::
      Cs fb 26 [vS path, vS pack, .slice imps.a imps.l.length imps.c, .slice ma (MsgT.mk nm ⟨fa, fc, fs⟩ ⟨oa, oc, os⟩ ma2 mc2 msgs ⟨ea, ec, es⟩ ⟨ra, rc, rs⟩ ⟨na, nc, ns⟩ :: rest).length mc, .slice enums.a enums.l.length enums.c] :: R) ?_ (fun xn => ?_)
  · cases hid : identB name
    all_goals repeat' (first|(refine gv ?_;first|refine RT.id ?_|(refine⟨fun hc=>?_,fun hc=>?_⟩<;>first|(exfalso;omega)|skip)|refine gk ?_|refine num_m fun r hr=>?_|intro r hr)|refine gs ?_|(refine gb ?_;intro b)|refine gn ?_|(refine RT.isPush ?_;refine gp ?_;intro a' c' b' c1' hac)|refine gt ?_|refine gc ?_|fail)
    rotate_left 2
    · exact AtQ.cut name ⟨rfl, rfl, rfl, rfl, rfl, rfl, rfl, trivial⟩ (fun w h => Sat.pu_in ⟨hnb.1, by have := J3_len pack nm name; omega, hid⟩ h)
    all_goals
      refine RT.bs T (l := strs [pack, nm, [122, 122]]) rfl rfl rfl rfl rfl rfl rfl (fun a9 c9 h9 => ?_)
      (refine RT.call T rfl fR_ (rjoin_fn (ls := [pack, nm, [122, 122]]) (Own.rd (by ((repeat constructor);done)) rfl h9) rfl (b3 hpb k1 (by decide)) (by simp [sumL]; omega)) rfl rfl rfl ?_; rintro _ _ ⟨rfl, rfl⟩; try simp only [List.cons_append, List.nil_append])
      refine RT.weak (fun w h => h.tail) ?_
      repeat' (first|(refine gv ?_;first|refine RT.id ?_|(refine⟨fun hc=>?_,fun hc=>?_⟩<;>first|(exfalso;omega)|skip)|refine gk ?_|refine num_m fun r hr=>?_|intro r hr)|refine gs ?_|(refine gb ?_;intro b)|refine gn ?_|(refine RT.isPush ?_;refine gp ?_;intro a' c' b' c1' hac)|refine gt ?_|refine gc ?_|fail)
      exact AtQ.cut [122, 122] ⟨rfl, rfl, rfl, rfl, rfl, rfl, rfl, trivial⟩ (fun w h => Sat.pu_in ⟨by decide, by decide, zz_ident⟩ h)
  refine A0 ?_
  refine CT.pu fun ⟨hxb, hxl, hxi⟩ => ?_
  have hj3 := J3 pack nm xn
  have hfb : Byt (joinL [pack, nm, xn]) := joinS_byt (filt_mem (b3 hpb k1 hxb))
  generalize joinL [pack, nm, xn] = full at *
  obtain ⟨x, hx⟩ : ∃ x : FieldT, x = ⟨xn, y, 1, 5, [], 0, 0, 0, []⟩ := ⟨_, rfl⟩
  have hxj : jsonL x = camelL xn := by rw [hx]; rfl
  dsimp only [FieldT.cells]
  repeat' (first|(refine gv ?_;first|refine RT.id ?_|(refine⟨fun hc=>?_,fun hc=>?_⟩<;>first|(exfalso;omega)|skip)|refine gk ?_|refine num_m fun r hr=>?_|intro r hr)|refine gs ?_|(refine gb ?_;intro b)|refine gn ?_|(refine RT.isPush ?_;refine gp ?_;intro a' c' b' c1' hac)|refine gt ?_|refine gc ?_|fail)
  refine RT.call T rfl (by (repeat (first|exact Fr.nil|(apply Fr.cons;focus ((repeat constructor);done))))) (rjson_fn (x := ⟨xn, y, 1, 5, [], 0, 0, 0, []⟩) hxb (by dsimp only; omega) Byt.nil) rfl rfl rfl ?_
  rintro _ _ ⟨rfl, rfl⟩
  rw [← hx, hxj]
  have hjb : Byt (camelL xn) := camelF_byt hxb
  simp only [List.nil_append]
  generalize camelL xn = jx at *
  repeat' (first|(refine gv ?_;first|refine RT.id ?_|(refine⟨fun hc=>?_,fun hc=>?_⟩<;>first|(exfalso;omega)|skip)|refine gk ?_|refine num_m fun r hr=>?_|intro r hr)|refine gs ?_|(refine gb ?_;intro b)|refine gn ?_|(refine RT.isPush ?_;refine gp ?_;intro a' c' b' c1' hac)|refine gt ?_|(refine CT.id_ ?_;first|refine CT.seqN 21 rfl ?_|refine CT.blockN 21 rfl ?_|refine CT.region ?_|refine CT.quiet mixed (by kernel_rfl) ?_|refine CT.cond_t rfl ?_|refine CT.cond_f rfl ?_|refine CT.skip ?_|refine CT.ret ?_|refine CT.exit ?_))
  refine CT.seq ?_
  refine CT.cut (α := Bool) (fun nw => [(3, .int .i32 number), (4, ptr fb), (11, ptr mb), (13, .slice la L.length lc), (14, ptr yb), (15, vS full), (17, vS jx), (18, .bool nw)])
    (fun nw => Pu (nw = true → full.length ≤ 255) :: Cs yb 87 [vS xn, .int .i32 y, .int .u8 1, .int .u8 5, vS [], .int .u8 0, .int .i64 0, .int .u8 0, vS []] :: own32 la lc L :: Cs mb 72 [vS nm, .slice fa fs.length fc, .slice oa os.length oc, .slice ma2 msgs.length mc2, .slice ea es.length ec, .slice ra rs.length rc, .slice na ns.length nc] ::
      Cs fb 26 [vS path, vS pack, .slice imps.a imps.l.length imps.c, .slice ma (MsgT.mk nm ⟨fa, fc, fs⟩ ⟨oa, oc, os⟩ ma2 mc2 msgs ⟨ea, ec, es⟩ ⟨ra, rc, rs⟩ ⟨na, nc, ns⟩ :: rest).length mc, .slice enums.a enums.l.length enums.c] :: R) ?_ (fun nw => ?_)
  · repeat' (first|(refine gv ?_;first|refine RT.id ?_|(refine⟨fun hc=>?_,fun hc=>?_⟩<;>first|(exfalso;omega)|skip)|refine gk ?_|refine num_m fun r hr=>?_|intro r hr)|refine gs ?_|(refine gb ?_;intro b)|refine gn ?_|(refine RT.isPush ?_;refine gp ?_;intro a' c' b' c1' hac)|refine gc ?_|fail)
    · exact AtQ.cut true ⟨rfl, rfl, rfl, rfl, rfl, rfl, rfl, rfl, trivial⟩ (fun w h => Sat.pu_in (fun _ => by omega) h)
    · exact AtQ.cut false ⟨rfl, rfl, rfl, rfl, rfl, rfl, rfl, rfl, trivial⟩ (fun w h => Sat.pu_in (fun h => by cases h) h)
  refine A0 ?_
  refine CT.pu fun hnw => ?_
  repeat' (first|(refine gv ?_;first|refine RT.id ?_|(refine⟨fun hc=>?_,fun hc=>?_⟩<;>first|(exfalso;omega)|skip)|refine gk ?_|refine num_m fun r hr=>?_|intro r hr)|refine gs ?_|(refine gb ?_;intro b)|refine gn ?_|(refine RT.isPush ?_;refine gp ?_;intro a' c' b' c1' hac)|refine gt ?_|refine gc ?_|fail)
  refine RT.call T rfl (by (repeat (first|exact Fr.nil|(apply Fr.cons;focus ((repeat constructor);done))))) (rsymbols_fn (f := ⟨path, pack, imps, ma, mc, _, enums⟩) (FileT.In.mono (fun _ _ _ _ _ h => (by repeat (first | exact (h) | apply Rd.cons))) hin) hok hf) rfl rfl rfl ?_
  rintro _ _ ⟨sa, sc, sl, rfl, hslc, hper, rfl⟩
  simp only [List.cons_append, List.nil_append]
  have hsok : ∀ s ∈ sl, Byt s.full := fun s hs => (symF_ok hok s (hper.mem_iff.1 hs)).1
  have hsll : sl.length ≤ 16777216 := by rw [hper.length_eq, symF_len]; exact hf.cnt
  repeat' (first|(refine gv ?_;first|refine RT.id ?_|(refine⟨fun hc=>?_,fun hc=>?_⟩<;>first|(exfalso;omega)|skip)|refine gk ?_|refine num_m fun r hr=>?_|intro r hr)|refine gs ?_|(refine gb ?_;intro b)|refine gn ?_|(refine RT.isPush ?_;refine gp ?_;intro a' c' b' c1' hac)|refine gt ?_|refine gc ?_|fail)
  refine CT.loop (α := Nat × Bool) (fun s => [(3, .int .i32 number), (4, ptr fb), (11, ptr mb), (13, .slice la L.length lc), (14, ptr yb), (15, vS full), (17, vS jx), (18, .bool s.2), (19, .slice sa sl.length sc), (20, .int .i64 s.1)])
    (fun s => Pu (s.1 ≤ sl.length ∧ (s.2 = true → full.length ≤ 255 ∧ ∀ z ∈ sl.take s.1, z.full ≠ full)) :: Own sa sc 79 3 sl.length (sl.flatMap SymT.cells) :: Cs yb 87 [vS xn, .int .i32 y, .int .u8 1, .int .u8 5, vS [], .int .u8 0, .int .i64 0, .int .u8 0, vS []] :: own32 la lc L :: Cs mb 72 [vS nm, .slice fa fs.length fc, .slice oa os.length oc, .slice ma2 msgs.length mc2, .slice ea es.length ec, .slice ra rs.length rc, .slice na ns.length nc] ::
      Cs fb 26 [vS path, vS pack, .slice imps.a imps.l.length imps.c, .slice ma (MsgT.mk nm ⟨fa, fc, fs⟩ ⟨oa, oc, os⟩ ma2 mc2 msgs ⟨ea, ec, es⟩ ⟨ra, rc, rs⟩ ⟨na, nc, ns⟩ :: rest).length mc, .slice enums.a enums.l.length enums.c] :: R) (fun s => sl.length - s.1) (0, nw)
    ⟨rfl, rfl, rfl, rfl, rfl, rfl, rfl, rfl, rfl, rfl, trivial⟩ (fun w h => Sat.pu_in ⟨Nat.zero_le _, fun e => ⟨hnw e, fun z hz => by simp at hz⟩⟩ h) (fun ⟨i, nw1⟩ => CT.pu fun ⟨hi, hnw1⟩ => ?_)
  dsimp only at hi hnw1 ⊢
  clear hnw
  repeat' (first|(refine gv ?_;first|refine RT.id ?_|(refine⟨fun hc=>?_,fun hc=>?_⟩<;>first|(exfalso;omega)|skip)|refine gk ?_|refine num_m fun r hr=>?_|intro r hr)|refine gs ?_|(refine gb ?_;intro b)|refine gn ?_|(refine RT.isPush ?_;refine gp ?_;intro a' c' b' c1' hac)|refine gt ?_|(refine CT.id_ ?_;first|refine CT.seqN 26 rfl ?_|refine CT.blockN 26 rfl ?_|refine CT.region ?_|refine CT.quiet mixed (by kernel_rfl) ?_|refine CT.cond_t rfl ?_|refine CT.cond_f rfl ?_|refine CT.skip ?_|refine CT.ret ?_|refine CT.exit ?_))
  · have hi' : i < sl.length := by omega
    have hgi := List.getElem?_eq_getElem hi'
    revert hgi
    generalize sl[i] = z
    intro hgi
    have hzb := hsok z (List.mem_of_getElem? hgi)
    cases nw1 with
    | false =>
      repeat' (first|(refine gv ?_;first|refine RT.id ?_|(refine⟨fun hc=>?_,fun hc=>?_⟩<;>first|(exfalso;omega)|skip)|refine gk ?_|refine num_m fun r hr=>?_|intro r hr)|refine gs ?_|(refine gb ?_;intro b)|refine gn ?_|(refine RT.isPush ?_;refine gp ?_;intro a' c' b' c1' hac)|refine gc ?_|fail)
      exact AtQ.loop (i + 1, false) ⟨rfl, rfl, rfl, rfl, rfl, rfl, rfl, rfl, rfl, rfl, trivial⟩ (fun w h => Sat.pu_in ⟨by dsimp only; omega, fun e => by cases e⟩ h) (by dsimp only; omega)
    | true =>
      obtain ⟨q1', q2'⟩ := hnw1 rfl
      repeat' (first|(refine gv ?_;first|refine RT.id ?_|(refine⟨fun hc=>?_,fun hc=>?_⟩<;>first|(exfalso;omega)|skip)|refine gk ?_|refine num_m fun r hr=>?_|intro r hr)|refine gs ?_|(refine gb ?_;intro b)|refine gn ?_|(refine RT.isPush ?_;refine gp ?_;intro a' c' b' c1' hac)|refine gc ?_|fail)
      refine RT.ix T (j := i * 3) rfl rfl rfl (own_rd (by ((repeat constructor);done)) hslc) (by omega) (by omega) (by omega) rfl rfl ?_
      refine RT.faA T rfl rfl rfl rfl ?_
      refine RT.ldr (u := vS z.full) T rfl (own_rd (by ((repeat constructor);done)) hslc) (by rw [flat_get (f := SymT.cells) (z := 3) (fun _ => rfl) hgi (by decide)]; rfl) rfl rfl rfl ?_
      repeat' (first|(refine gv ?_;first|refine RT.id ?_|(refine⟨fun hc=>?_,fun hc=>?_⟩<;>first|(exfalso;omega)|skip)|refine gk ?_|refine num_m fun r hr=>?_|intro r hr)|refine gs ?_|(refine gb ?_;intro b)|refine gn ?_|(refine RT.isPush ?_;refine gp ?_;intro a' c' b' c1' hac)|refine gc ?_|fail)
      refine RT.nes (l := z.full) (l' := full) rfl rfl hzb hfb rfl rfl (fun he => ?_) (fun he => ?_)
      · repeat' (first|(refine gv ?_;first|refine RT.id ?_|(refine⟨fun hc=>?_,fun hc=>?_⟩<;>first|(exfalso;omega)|skip)|refine gk ?_|refine num_m fun r hr=>?_|intro r hr)|refine gs ?_|(refine gb ?_;intro b)|refine gn ?_|(refine RT.isPush ?_;refine gp ?_;intro a' c' b' c1' hac)|refine gc ?_|fail)
        exact AtQ.loop (i + 1, false) ⟨rfl, rfl, rfl, rfl, rfl, rfl, rfl, rfl, rfl, rfl, trivial⟩ (fun w h => Sat.pu_in ⟨by dsimp only; omega, fun e => by cases e⟩ h) (by dsimp only; omega)
      · repeat' (first|(refine gv ?_;first|refine RT.id ?_|(refine⟨fun hc=>?_,fun hc=>?_⟩<;>first|(exfalso;omega)|skip)|refine gk ?_|refine num_m fun r hr=>?_|intro r hr)|refine gs ?_|(refine gb ?_;intro b)|refine gn ?_|(refine RT.isPush ?_;refine gp ?_;intro a' c' b' c1' hac)|refine gc ?_|fail)
        refine AtQ.loop (i + 1, true) ⟨rfl, rfl, rfl, rfl, rfl, rfl, rfl, rfl, rfl, rfl, trivial⟩ (fun w h => Sat.pu_in ⟨by dsimp only; omega, fun _ => ⟨q1', sm_take hgi q2' he⟩⟩ h) (by dsimp only; omega)
  rw [List.take_of_length_le (by omega)] at hnw1
  clear hi
  refine CT.weak (fun w h => h.tail) ?_
  refine CT.loop (α := Nat × Bool) (fun s => [(3, .int .i32 number), (4, ptr fb), (11, ptr mb), (13, .slice la L.length lc), (14, ptr yb), (15, vS full), (17, vS jx), (18, .bool s.2), (21, .int .i64 s.1)])
    (fun s => Pu (s.1 ≤ fs.length ∧ (s.2 = true → (full.length ≤ 255 ∧ ∀ z ∈ sl, z.full ≠ full) ∧ ∀ o ∈ fs.take s.1, jsonL o ≠ jx ∧ jsonL o ≠ xn ∧ o.nm ≠ jx)) :: Cs yb 87 [vS xn, .int .i32 y, .int .u8 1, .int .u8 5, vS [], .int .u8 0, .int .i64 0, .int .u8 0, vS []] :: own32 la lc L :: Cs mb 72 [vS nm, .slice fa fs.length fc, .slice oa os.length oc, .slice ma2 msgs.length mc2, .slice ea es.length ec, .slice ra rs.length rc, .slice na ns.length nc] ::
      Cs fb 26 [vS path, vS pack, .slice imps.a imps.l.length imps.c, .slice ma (MsgT.mk nm ⟨fa, fc, fs⟩ ⟨oa, oc, os⟩ ma2 mc2 msgs ⟨ea, ec, es⟩ ⟨ra, rc, rs⟩ ⟨na, nc, ns⟩ :: rest).length mc, .slice enums.a enums.l.length enums.c] :: R) (fun s => fs.length - s.1) (0, nw1)
    ⟨rfl, rfl, rfl, rfl, rfl, rfl, rfl, rfl, rfl, trivial⟩ (fun w h => Sat.pu_in ⟨Nat.zero_le _, fun e => ⟨hnw1 e, fun z hz => by simp at hz⟩⟩ h) (fun ⟨i, nw2⟩ => CT.pu fun ⟨hi, hnw2⟩ => ?_)
  dsimp only at hi hnw2 ⊢
  clear hnw1
  repeat' (first|(refine gv ?_;first|refine RT.id ?_|(refine⟨fun hc=>?_,fun hc=>?_⟩<;>first|(exfalso;omega)|skip)|refine gk ?_|refine num_m fun r hr=>?_|intro r hr)|refine gs ?_|(refine gb ?_;intro b)|refine gn ?_|(refine RT.isPush ?_;refine gp ?_;intro a' c' b' c1' hac)|refine gt ?_|(refine CT.id_ ?_;first|refine CT.seqN 30 rfl ?_|refine CT.blockN 30 rfl ?_|refine CT.region ?_|refine CT.quiet mixed (by kernel_rfl) ?_|refine CT.cond_t rfl ?_|refine CT.cond_f rfl ?_|refine CT.skip ?_|refine CT.ret ?_|refine CT.exit ?_))
  · have hi' : i < fs.length := by omega
    have hgi := List.getElem?_eq_getElem hi'
    revert hgi
    generalize fs[i] = o
    intro hgi
    have hmo := List.mem_of_getElem? hgi
    obtain ⟨⟨o1, _⟩, _, _, _, _, _, _, _, ⟨o2, _⟩⟩ := kf o hmo
    have o3 := (nf o hmo).1
    have hob : Byt (jsonL o) := by
      unfold jsonL
      split
      · exact camelF_byt o1
      · exact o2
    repeat' (first|(refine gv ?_;first|refine RT.id ?_|(refine⟨fun hc=>?_,fun hc=>?_⟩<;>first|(exfalso;omega)|skip)|refine gk ?_|refine num_m fun r hr=>?_|intro r hr)|refine gs ?_|(refine gb ?_;intro b)|refine gn ?_|(refine RT.isPush ?_;refine gp ?_;intro a' c' b' c1' hac)|refine gt ?_|refine gc ?_|fail)
    refine RT.ix T (j := i * 9) rfl rfl rfl (by repeat (first | exact (rf) | apply Rd.cons)) (by omega) (by omega) (by omega) rfl rfl ?_
    refine RT.ldra T rfl (by repeat (first | exact (rf) | apply Rd.cons)) (l := o.cells) (flat_sub (f := FieldT.cells) (z := 9) (fun _ => rfl) fs i _ hgi) rfl rfl rfl rfl ?_
    repeat' (first|(refine gv ?_;first|refine RT.id ?_|(refine⟨fun hc=>?_,fun hc=>?_⟩<;>first|(exfalso;omega)|skip)|refine gk ?_|refine num_m fun r hr=>?_|intro r hr)|refine gs ?_|(refine gb ?_;intro b)|refine gn ?_|(refine RT.isPush ?_;refine gp ?_;intro a' c' b' c1' hac)|refine gt ?_|refine gc ?_|fail)
    (refine RT.call T rfl fR_ (rjson_fn (x := o) o1 (by omega) o2) rfl rfl rfl ?_; rintro _ _ ⟨rfl, rfl⟩; try simp only [List.cons_append, List.nil_append])
    cases nw2 with
    | false =>
      repeat' (first|(refine gv ?_;first|refine RT.id ?_|(refine⟨fun hc=>?_,fun hc=>?_⟩<;>first|(exfalso;omega)|skip)|refine gk ?_|refine num_m fun r hr=>?_|intro r hr)|refine gs ?_|(refine gb ?_;intro b)|refine gn ?_|(refine RT.isPush ?_;refine gp ?_;intro a' c' b' c1' hac)|refine gc ?_|fail)
      exact AtQ.loop (i + 1, false) ⟨rfl, rfl, rfl, rfl, rfl, rfl, rfl, rfl, rfl, trivial⟩ (fun w h => Sat.pu_in ⟨by dsimp only; omega, fun e => by cases e⟩ h) (by dsimp only; omega)
    | true =>
      obtain ⟨q1', q2'⟩ := hnw2 rfl
      repeat' (first|(refine gv ?_;first|refine RT.id ?_|(refine⟨fun hc=>?_,fun hc=>?_⟩<;>first|(exfalso;omega)|skip)|refine gk ?_|refine num_m fun r hr=>?_|intro r hr)|refine gs ?_|(refine gb ?_;intro b)|refine gn ?_|(refine RT.isPush ?_;refine gp ?_;intro a' c' b' c1' hac)|refine gc ?_|fail)
      refine RT.nes (l := jsonL o) (l' := jx) rfl rfl hob hjb rfl rfl (fun he => ?_) (fun he => ?_)
      · repeat' (first|(refine gv ?_;first|refine RT.id ?_|(refine⟨fun hc=>?_,fun hc=>?_⟩<;>first|(exfalso;omega)|skip)|refine gk ?_|refine num_m fun r hr=>?_|intro r hr)|refine gs ?_|(refine gb ?_;intro b)|refine gn ?_|(refine RT.isPush ?_;refine gp ?_;intro a' c' b' c1' hac)|refine gc ?_|fail)
        exact AtQ.loop (i + 1, false) ⟨rfl, rfl, rfl, rfl, rfl, rfl, rfl, rfl, rfl, trivial⟩ (fun w h => Sat.pu_in ⟨by dsimp only; omega, fun e => by cases e⟩ h) (by dsimp only; omega)
      repeat' (first|(refine gv ?_;first|refine RT.id ?_|(refine⟨fun hc=>?_,fun hc=>?_⟩<;>first|(exfalso;omega)|skip)|refine gk ?_|refine num_m fun r hr=>?_|intro r hr)|refine gs ?_|(refine gb ?_;intro b)|refine gn ?_|(refine RT.isPush ?_;refine gp ?_;intro a' c' b' c1' hac)|refine gc ?_|fail)
      refine RT.nes (l := jsonL o) (l' := xn) rfl rfl hob hxb rfl rfl (fun he2 => ?_) (fun he2 => ?_)
      · repeat' (first|(refine gv ?_;first|refine RT.id ?_|(refine⟨fun hc=>?_,fun hc=>?_⟩<;>first|(exfalso;omega)|skip)|refine gk ?_|refine num_m fun r hr=>?_|intro r hr)|refine gs ?_|(refine gb ?_;intro b)|refine gn ?_|(refine RT.isPush ?_;refine gp ?_;intro a' c' b' c1' hac)|refine gc ?_|fail)
        exact AtQ.loop (i + 1, false) ⟨rfl, rfl, rfl, rfl, rfl, rfl, rfl, rfl, rfl, trivial⟩ (fun w h => Sat.pu_in ⟨by dsimp only; omega, fun e => by cases e⟩ h) (by dsimp only; omega)
      repeat' (first|(refine gv ?_;first|refine RT.id ?_|(refine⟨fun hc=>?_,fun hc=>?_⟩<;>first|(exfalso;omega)|skip)|refine gk ?_|refine num_m fun r hr=>?_|intro r hr)|refine gs ?_|(refine gb ?_;intro b)|refine gn ?_|(refine RT.isPush ?_;refine gp ?_;intro a' c' b' c1' hac)|refine gc ?_|fail)
      refine RT.ix T (j := i * 9) rfl rfl rfl (by repeat (first | exact (rf) | apply Rd.cons)) (by omega) (by omega) (by omega) rfl rfl ?_
      refine RT.faA T rfl rfl rfl rfl ?_
      refine RT.ldr (u := vS o.nm) T rfl (by repeat (first | exact (rf) | apply Rd.cons)) (by rw [flat_get (f := FieldT.cells) (z := 9) (fun _ => rfl) hgi (by decide)]; rfl) rfl rfl rfl ?_
      repeat' (first|(refine gv ?_;first|refine RT.id ?_|(refine⟨fun hc=>?_,fun hc=>?_⟩<;>first|(exfalso;omega)|skip)|refine gk ?_|refine num_m fun r hr=>?_|intro r hr)|refine gs ?_|(refine gb ?_;intro b)|refine gn ?_|(refine RT.isPush ?_;refine gp ?_;intro a' c' b' c1' hac)|refine gc ?_|fail)
      refine RT.nes (l := o.nm) (l' := jx) rfl rfl o1 hjb rfl rfl (fun he3 => ?_) (fun he3 => ?_)
      · repeat' (first|(refine gv ?_;first|refine RT.id ?_|(refine⟨fun hc=>?_,fun hc=>?_⟩<;>first|(exfalso;omega)|skip)|refine gk ?_|refine num_m fun r hr=>?_|intro r hr)|refine gs ?_|(refine gb ?_;intro b)|refine gn ?_|(refine RT.isPush ?_;refine gp ?_;intro a' c' b' c1' hac)|refine gc ?_|fail)
        exact AtQ.loop (i + 1, false) ⟨rfl, rfl, rfl, rfl, rfl, rfl, rfl, rfl, rfl, trivial⟩ (fun w h => Sat.pu_in ⟨by dsimp only; omega, fun e => by cases e⟩ h) (by dsimp only; omega)
      repeat' (first|(refine gv ?_;first|refine RT.id ?_|(refine⟨fun hc=>?_,fun hc=>?_⟩<;>first|(exfalso;omega)|skip)|refine gk ?_|refine num_m fun r hr=>?_|intro r hr)|refine gs ?_|(refine gb ?_;intro b)|refine gn ?_|(refine RT.isPush ?_;refine gp ?_;intro a' c' b' c1' hac)|refine gc ?_|fail)
      exact AtQ.loop (i + 1, true) ⟨rfl, rfl, rfl, rfl, rfl, rfl, rfl, rfl, rfl, trivial⟩ (fun w h => Sat.pu_in ⟨by dsimp only; omega, fun _ => ⟨q1', sm_take hgi q2' ⟨he, he2, he3⟩⟩⟩ h) (by dsimp only; omega)
  rw [List.take_of_length_le (by omega)] at hnw2
  clear hi
  refine CT.loop (α := Nat × Bool) (fun s => [(3, .int .i32 number), (4, ptr fb), (11, ptr mb), (13, .slice la L.length lc), (14, ptr yb), (15, vS full), (18, .bool s.2), (23, .int .i64 s.1)])
    (fun s => Pu (s.1 ≤ ns.length ∧ (s.2 = true → ((full.length ≤ 255 ∧ ∀ z ∈ sl, z.full ≠ full) ∧ ∀ o ∈ fs, jsonL o ≠ jx ∧ jsonL o ≠ xn ∧ o.nm ≠ jx) ∧ ∀ t ∈ ns.take s.1, t ≠ xn)) :: Cs yb 87 [vS xn, .int .i32 y, .int .u8 1, .int .u8 5, vS [], .int .u8 0, .int .i64 0, .int .u8 0, vS []] :: own32 la lc L :: Cs mb 72 [vS nm, .slice fa fs.length fc, .slice oa os.length oc, .slice ma2 msgs.length mc2, .slice ea es.length ec, .slice ra rs.length rc, .slice na ns.length nc] ::
      Cs fb 26 [vS path, vS pack, .slice imps.a imps.l.length imps.c, .slice ma (MsgT.mk nm ⟨fa, fc, fs⟩ ⟨oa, oc, os⟩ ma2 mc2 msgs ⟨ea, ec, es⟩ ⟨ra, rc, rs⟩ ⟨na, nc, ns⟩ :: rest).length mc, .slice enums.a enums.l.length enums.c] :: R) (fun s => ns.length - s.1) (0, nw2)
    ⟨rfl, rfl, rfl, rfl, rfl, rfl, rfl, rfl, trivial⟩ (fun w h => Sat.pu_in ⟨Nat.zero_le _, fun e => ⟨hnw2 e, fun z hz => by simp at hz⟩⟩ h) (fun ⟨i, nw3⟩ => CT.pu fun ⟨hi, hnw3⟩ => ?_)
  dsimp only at hi hnw3 ⊢
  clear hnw2
  repeat' (first|(refine gv ?_;first|refine RT.id ?_|(refine⟨fun hc=>?_,fun hc=>?_⟩<;>first|(exfalso;omega)|skip)|refine gk ?_|refine num_m fun r hr=>?_|intro r hr)|refine gs ?_|(refine gb ?_;intro b)|refine gn ?_|(refine RT.isPush ?_;refine gp ?_;intro a' c' b' c1' hac)|(refine CT.id_ ?_;first|refine nx ?_|refine CT.region ?_|refine CT.cond_t rfl ?_|refine CT.cond_f rfl ?_))
  · have hi' : i < ns.length := by omega
    have hgi := List.getElem?_eq_getElem hi'
    revert hgi
    generalize ns[i] = z
    intro hgi
    have hzb := (kn z (List.mem_of_getElem? hgi)).1
    cases nw3 with
    | false =>
      repeat' (first|(refine gv ?_;first|refine RT.id ?_|(refine⟨fun hc=>?_,fun hc=>?_⟩<;>first|(exfalso;omega)|skip)|refine gk ?_|refine num_m fun r hr=>?_|intro r hr)|refine gs ?_|(refine gb ?_;intro b)|refine gn ?_|(refine RT.isPush ?_;refine gp ?_;intro a' c' b' c1' hac)|refine gc ?_|fail)
      exact AtQ.loop (i + 1, false) ⟨rfl, rfl, rfl, rfl, rfl, rfl, rfl, rfl, trivial⟩ (fun w h => Sat.pu_in ⟨by dsimp only; omega, fun e => by cases e⟩ h) (by dsimp only; omega)
    | true =>
      obtain ⟨q1', q2'⟩ := hnw3 rfl
      repeat' (first|(refine gv ?_;first|refine RT.id ?_|(refine⟨fun hc=>?_,fun hc=>?_⟩<;>first|(exfalso;omega)|skip)|refine gk ?_|refine num_m fun r hr=>?_|intro r hr)|refine gs ?_|(refine gb ?_;intro b)|refine gn ?_|(refine RT.isPush ?_;refine gp ?_;intro a' c' b' c1' hac)|refine gc ?_|fail)
      refine RT.ix T (j := i) rfl rfl rfl (by repeat (first | exact (rn) | apply Rd.cons)) (by omega) (by omega) (by omega) rfl rfl ?_
      refine RT.ldr T rfl (by repeat (first | exact (rn) | apply Rd.cons)) (show (ns.map vS)[i]? = some (vS z) by rw [List.getElem?_map, hgi]; rfl) rfl rfl rfl ?_
      repeat' (first|(refine gv ?_;first|refine RT.id ?_|(refine⟨fun hc=>?_,fun hc=>?_⟩<;>first|(exfalso;omega)|skip)|refine gk ?_|refine num_m fun r hr=>?_|intro r hr)|refine gs ?_|(refine gb ?_;intro b)|refine gn ?_|(refine RT.isPush ?_;refine gp ?_;intro a' c' b' c1' hac)|refine gc ?_|fail)
      refine RT.nes (l := z) (l' := xn) rfl rfl hzb hxb rfl rfl (fun he => ?_) (fun he => ?_)
      · repeat' (first|(refine gv ?_;first|refine RT.id ?_|(refine⟨fun hc=>?_,fun hc=>?_⟩<;>first|(exfalso;omega)|skip)|refine gk ?_|refine num_m fun r hr=>?_|intro r hr)|refine gs ?_|(refine gb ?_;intro b)|refine gn ?_|(refine RT.isPush ?_;refine gp ?_;intro a' c' b' c1' hac)|refine gc ?_|fail)
        exact AtQ.loop (i + 1, false) ⟨rfl, rfl, rfl, rfl, rfl, rfl, rfl, rfl, trivial⟩ (fun w h => Sat.pu_in ⟨by dsimp only; omega, fun e => by cases e⟩ h) (by dsimp only; omega)
      · repeat' (first|(refine gv ?_;first|refine RT.id ?_|(refine⟨fun hc=>?_,fun hc=>?_⟩<;>first|(exfalso;omega)|skip)|refine gk ?_|refine num_m fun r hr=>?_|intro r hr)|refine gs ?_|(refine gb ?_;intro b)|refine gn ?_|(refine RT.isPush ?_;refine gp ?_;intro a' c' b' c1' hac)|refine gc ?_|fail)
        exact AtQ.loop (i + 1, true) ⟨rfl, rfl, rfl, rfl, rfl, rfl, rfl, rfl, trivial⟩ (fun w h => Sat.pu_in ⟨by dsimp only; omega, fun _ => ⟨q1', sm_take hgi q2' he⟩⟩ h) (by dsimp only; omega)
  rw [List.take_of_length_le (by omega)] at hnw3
  clear hi
  cases nw3 with
  | false =>
    repeat' (first|(refine gv ?_;first|refine RT.id ?_|(refine⟨fun hc=>?_,fun hc=>?_⟩<;>first|(exfalso;omega)|skip)|refine gk ?_|refine num_m fun r hr=>?_|intro r hr)|refine gs ?_|(refine gb ?_;intro b)|refine gn ?_|(refine RT.isPush ?_;refine gp ?_;intro a' c' b' c1' hac)|refine gc ?_|fail)
    exact AtQ.f1 (HH := []) Tryz.results7 rfl rfl dR_
  | true =>
  obtain ⟨⟨⟨e1, e2⟩, e3⟩, e4⟩ := hnw3 rfl
  clear hnw3
  repeat' (first|(refine gv ?_;first|refine RT.id ?_|(refine⟨fun hc=>?_,fun hc=>?_⟩<;>first|(exfalso;omega)|skip)|refine gk ?_|refine num_m fun r hr=>?_|intro r hr)|refine gs ?_|(refine gb ?_;intro b)|refine gn ?_|(refine RT.isPush ?_;refine gp ?_;intro a' c' b' c1' hac)|refine gc ?_|fail)
  refine CT.weak (H' := own32 la lc L :: Cs yb 87 [vS xn, .int .i32 y, .int .u8 1, .int .u8 5, vS [], .int .u8 0, .int .i64 0, .int .u8 0, vS []] :: Cs fb 26 [vS path, vS pack, .slice imps.a imps.l.length imps.c, .slice ma (MsgT.mk nm ⟨fa, fc, fs⟩ ⟨oa, oc, os⟩ ma2 mc2 msgs ⟨ea, ec, es⟩ ⟨ra, rc, rs⟩ ⟨na, nc, ns⟩ :: rest).length mc, .slice enums.a enums.l.length enums.c] :: R) (fun w h => h.frd (Ps := [own32 la lc L, Cs yb 87 _, Cs fb 26 _]) (Qs := [_]) (by (repeat (first|exact Fr.nil|(apply Fr.cons;focus ((repeat constructor);done)))))) ?_
  refine CT.loop (α := Nat × Bool) (fun s => [(3, .int .i32 number), (4, ptr fb), (13, .slice la L.length lc), (14, ptr yb), (15, vS full), (24, .bool s.2), (25, .int .i64 s.1)])
    (fun s => Pu (s.1 ≤ L.length ∧ s.2 = decide (number ∈ L.take s.1)) :: own32 la lc L :: Cs yb 87 [vS xn, .int .i32 y, .int .u8 1, .int .u8 5, vS [], .int .u8 0, .int .i64 0, .int .u8 0, vS []] :: Cs fb 26 [vS path, vS pack, .slice imps.a imps.l.length imps.c, .slice ma (MsgT.mk nm ⟨fa, fc, fs⟩ ⟨oa, oc, os⟩ ma2 mc2 msgs ⟨ea, ec, es⟩ ⟨ra, rc, rs⟩ ⟨na, nc, ns⟩ :: rest).length mc, .slice enums.a enums.l.length enums.c] :: R) (fun s => L.length - s.1) (0, false)
    ⟨rfl, rfl, rfl, rfl, rfl, rfl, rfl, trivial⟩ (fun w h => Sat.pu_in ⟨Nat.zero_le _, by simp⟩ h) (fun ⟨i, td⟩ => CT.pu fun ⟨hi, htd⟩ => ?_)
  dsimp only at hi htd ⊢
  repeat' (first|(refine gv ?_;first|refine RT.id ?_|(refine⟨fun hc=>?_,fun hc=>?_⟩<;>first|(exfalso;omega)|skip)|refine gk ?_|refine num_m fun r hr=>?_|intro r hr)|refine gs ?_|(refine gb ?_;intro b)|refine gn ?_|(refine RT.isPush ?_;refine gp ?_;intro a' c' b' c1' hac)|refine gt ?_|(refine CT.id_ ?_;first|refine CT.seqN 42 rfl ?_|refine CT.blockN 42 rfl ?_|refine CT.region ?_|refine CT.quiet mixed (by kernel_rfl) ?_|refine CT.cond_t rfl ?_|refine CT.cond_f rfl ?_|refine CT.skip ?_|refine CT.ret ?_|refine CT.exit ?_))
  · have hi' : i < L.length := by omega
    have hgi := List.getElem?_eq_getElem hi'
    have hgd : L.getD i 0 = L[i] := by rw [List.getD_eq_getElem?_getD, hgi]; rfl
    cases td with
    | true =>
      repeat' (first|(refine gv ?_;first|refine RT.id ?_|(refine⟨fun hc=>?_,fun hc=>?_⟩<;>first|(exfalso;omega)|skip)|refine gk ?_|refine num_m fun r hr=>?_|intro r hr)|refine gs ?_|(refine gb ?_;intro b)|refine gn ?_|(refine RT.isPush ?_;refine gp ?_;intro a' c' b' c1' hac)|refine gc ?_|fail)
      exact AtQ.loop (i + 1, true) ⟨rfl, rfl, rfl, rfl, rfl, rfl, rfl, trivial⟩ (fun w h => Sat.pu_in ⟨by dsimp only; omega, by
        dsimp only
        rw [← len_snoc hgi]
        exact (decide_eq_true (List.mem_append_left _ (of_decide_eq_true htd.symm))).symm⟩ h) (by dsimp only; omega)
    | false =>
      have hno : number ∉ L.take i := of_decide_eq_false htd.symm
      repeat' (first|(refine gv ?_;first|refine RT.id ?_|(refine⟨fun hc=>?_,fun hc=>?_⟩<;>first|(exfalso;omega)|skip)|refine gk ?_|refine num_m fun r hr=>?_|intro r hr)|refine gs ?_|(refine gb ?_;intro b)|refine gn ?_|(refine RT.isPush ?_;refine gp ?_;intro a' c' b' c1' hac)|refine gc ?_|fail)
      refine RT.ix T (j := i) rfl rfl rfl (Own.rdI (by ((repeat constructor);done)) rfl hlc) (by omega) (by omega) (by omega) rfl rfl ?_
      refine RT.ldi T (l := L) rfl (Own.rdI (by ((repeat constructor);done)) rfl hlc) (by omega) rfl rfl rfl ?_
      rw [hgd]
      generalize L[i] = z at *
      repeat' (first|(refine gv ?_;first|refine RT.id ?_|(refine⟨fun hc=>?_,fun hc=>?_⟩<;>first|(exfalso;omega)|skip)|refine gk ?_|refine num_m fun r hr=>?_|intro r hr)|refine gs ?_|(refine gb ?_;intro b)|refine gn ?_|(refine RT.isPush ?_;refine gp ?_;intro a' c' b' c1' hac)|refine gc ?_|fail)
      · exact AtQ.loop (i + 1, true) ⟨rfl, rfl, rfl, rfl, rfl, rfl, rfl, trivial⟩ (fun w h => Sat.pu_in ⟨by dsimp only; omega, by
          dsimp only
          rw [← len_snoc hgi]
          exact (decide_eq_true (List.mem_append_right _ (List.mem_singleton.2 (by omega)))).symm⟩ h) (by dsimp only; omega)
      · exact AtQ.loop (i + 1, false) ⟨rfl, rfl, rfl, rfl, rfl, rfl, rfl, trivial⟩ (fun w h => Sat.pu_in ⟨by dsimp only; omega, by
          dsimp only
          rw [← len_snoc hgi]
          refine (decide_eq_false fun hm => ?_).symm
          rcases List.mem_append.1 hm with hm | hm
          · exact hno hm
          · have := List.mem_singleton.1 hm
            omega⟩ h) (by dsimp only; omega)
  rw [List.take_of_length_le (by omega)] at htd
  clear hi
  have hroom := fun (yy : Int) (ma3 : Option Addr) (mc3 : Nat) (fa3 : Option Addr) (fc3 : Nat) => room (fields := ⟨fa, fc, fs⟩) (fields2 := ⟨fa3, fc3, fs ++ [⟨xn, yy, 1, 5, [], 0, 0, 0, []⟩]⟩) (x := ⟨xn, yy, 1, 5, [], 0, 0, 0, []⟩) (t := full) (ma3 := ma3) (mc3 := mc3) hck rfl hfs ⟨rfl, rfl, rfl, rfl, rfl, rfl, rfl⟩ hj3 hxi e1 (fun s hs => e2 s (hper.mem_iff.2 hs)) (fun hm => e4 _ hm rfl)
    (fun o ho => by
      have hjx : jsonL (⟨xn, yy, 1, 5, [], 0, 0, 0, []⟩ : FieldT) = jx := by rw [← hxj, hx]; rfl
      rw [hjx]
      exact e3 o ho)
  repeat' (first|(refine gv ?_;first|refine RT.id ?_|(refine⟨fun hc=>?_,fun hc=>?_⟩<;>first|(exfalso;omega)|skip)|refine gk ?_|refine num_m fun r hr=>?_|intro r hr)|refine gs ?_|(refine gb ?_;intro b)|refine gn ?_|(refine RT.isPush ?_;refine gp ?_;intro a' c' b' c1' hac)|refine gt ?_|refine gc ?_|fail)
  refine RT.call T rfl (by (repeat (first|exact Fr.nil|(apply Fr.cons;focus ((repeat constructor);done))))) (with_fn (x := ⟨xn, y, 1, 5, [], 0, 0, 0, []⟩) hU hM (FileT.In.mono (fun _ _ _ _ _ h => (by repeat (first | exact (h) | apply Rd.cons))) hin) hok hf hfs (newF_ok hxb hxl ⟨by omega, by omega⟩) (newF_nm hxl)) rfl rfl rfl ?_
  rintro _ _ ⟨ma3, mc3, fa3, fc3, rfl, rfl⟩
  simp only [List.nil_append]
  have hb1 := (hroom y ma3 mc3 fa3 fc3).1 hyg
  clear hck
  generalize checkL _ = r1 at hb1 ⊢
  obtain ⟨r1, r1'⟩ := r1
  try dsimp only at hb1 ⊢
  subst hb1
  repeat' (first|(refine gv ?_;first|refine RT.id ?_|(refine⟨fun hc=>?_,fun hc=>?_⟩<;>first|(exfalso;omega)|skip)|refine gk ?_|refine num_m fun r hr=>?_|intro r hr)|refine gs ?_|(refine gb ?_;intro b)|refine gn ?_|(refine RT.isPush ?_;refine gp ?_;intro a' c' b' c1' hac)|refine gt ?_|refine gc ?_|fail)
  refine RT.call T rfl (by (repeat (first|exact Fr.nil|(apply Fr.cons;focus ((repeat constructor);done))))) (with_fn (x := ⟨xn, number, 1, 5, [], 0, 0, 0, []⟩) hU hM (FileT.In.mono (fun _ _ _ _ _ h => (by repeat (first | exact (h) | apply Rd.cons))) hin) hok hf hfs (newF_ok hxb hxl hnu) (newF_nm hxl)) rfl rfl rfl ?_
  rintro _ _ ⟨ma4, mc4, fa4, fc4, rfl, rfl⟩
  simp only [List.nil_append]
  have hb2 : number ≤ y → number ∉ L → _ := fun h1 h2 => (hroom number ma4 mc4 fa4 fc4).2 (hLb number y hyL h1 h2)
  generalize checkL _ = r2 at hb2 ⊢
  obtain ⟨r2, r2'⟩ := r2
  try dsimp only at hb2 ⊢
  repeat' (first|(refine gv ?_;first|refine RT.id ?_|(refine⟨fun hc=>?_,fun hc=>?_⟩<;>first|(exfalso;omega)|skip)|refine gk ?_|refine num_m fun r hr=>?_|intro r hr)|refine gs ?_|(refine gb ?_;intro b)|refine gn ?_|(refine RT.isPush ?_;refine gp ?_;intro a' c' b' c1' hac)|refine gt ?_|refine gc ?_|fail)
  refine RT.ix T (j := L.length - 1) rfl rfl rfl (Own.rdI (by ((repeat constructor);done)) rfl hlc) (by omega) (by omega) (by omega) rfl rfl ?_
  refine RT.ldi T (l := L) rfl (Own.rdI (by ((repeat constructor);done)) rfl hlc) (by omega) rfl rfl rfl ?_
  rw [hyd]
  cases td with
  | true =>
    repeat' (first|(refine gv ?_;first|refine RT.id ?_|(refine⟨fun hc=>?_,fun hc=>?_⟩<;>first|(exfalso;omega)|skip)|refine gk ?_|refine num_m fun r hr=>?_|intro r hr)|refine gs ?_|(refine gb ?_;intro b)|refine gn ?_|(refine RT.isPush ?_;refine gp ?_;intro a' c' b' c1' hac)|refine gt ?_|refine gc ?_|fail)
    all_goals exact AtQ.f1 (HH := []) Tryz.results7 rfl rfl dR_
  | false =>
    have hno : number ∉ L := of_decide_eq_false htd.symm
    by_cases hle : number ≤ y
    · obtain ⟨hr2, rfl⟩ := hb2 hle hno
      clear hb2 hroom
      repeat' (first|(refine gv ?_;first|refine RT.id ?_|(refine⟨fun hc=>?_,fun hc=>?_⟩<;>first|(exfalso;omega)|skip)|refine gk ?_|refine num_m fun r hr=>?_|intro r hr)|refine gs ?_|(refine gb ?_;intro b)|refine gn ?_|(refine RT.isPush ?_;refine gp ?_;intro a' c' b' c1' hac)|refine gt ?_|refine gc ?_|fail)
      refine RT.eqs (l := r2') (l' := r2') rfl rfl hfb hfb rfl rfl (fun he => ?_) (fun he => absurd rfl he)
      repeat' (first|(refine gv ?_;first|refine RT.id ?_|(refine⟨fun hc=>?_,fun hc=>?_⟩<;>first|(exfalso;omega)|skip)|refine gk ?_|refine num_m fun r hr=>?_|intro r hr)|refine gs ?_|(refine gb ?_;intro b)|refine gn ?_|(refine RT.isPush ?_;refine gp ?_;intro a' c' b' c1' hac)|refine gt ?_|refine gc ?_|fail)
      exact AtQ.f1 (HH := []) Tryz.results7 rfl rfl dR_
    · repeat' (first|(refine gv ?_;first|refine RT.id ?_|(refine⟨fun hc=>?_,fun hc=>?_⟩<;>first|(exfalso;omega)|skip)|refine gk ?_|refine num_m fun r hr=>?_|intro r hr)|refine gs ?_|(refine gb ?_;intro b)|refine gn ?_|(refine RT.isPush ?_;refine gp ?_;intro a' c' b' c1' hac)|refine gt ?_|refine gc ?_|fail)
      exact AtQ.f1 (HH := []) Tryz.results7 rfl rfl dR_
end Go.Proofs.YtdemnhdoadjhhaaGreatDoor
end
