/-
  Equality of plain structs; maps whose keys are numbers, strings or plain structs of these.
-/
import Derived.Test.YtffgaoehhmgbjaaDoorVd
import Derived.Laws.StructEq
set_option linter.unusedVariables false
set_option linter.unusedSimpArgs false
namespace Go.Vc
open Go

/-! ## cells that are compared -/
def eqV : Value → Value → Option Bool
  | .int k a, .int k' b => if k = k' then some (decide (a = b)) else none
  | .bool a, .bool b => some (a == b)
  | .string ⟨⟨a⟩⟩, .string ⟨⟨b⟩⟩ => some (decide (a = b))
  | _, _ => none
def eqVs : List Value → List Value → Option Bool
  | [], [] => some true
  | x :: xs, y :: ys => match eqV x y, eqVs xs ys with
    | some a, some b => some (a && b)
    | _, _ => none
  | _, _ => none
def eqL : List AV → List AV → Option Bool
  | [], [] => some true
  | .lit x :: xs, .lit y :: ys => match eqV x y, eqL xs ys with
    | some a, some b => some (a && b)
    | _, _ => none
  | _, _ => none

/-- a struct of so many plain fields, one cell each, none blank -/
def basicT (P : Program) (t : TypeId) : Bool :=
  match P.underlying t with
  | some .bool | some (.int _) | some .string => true
  | _ => false
def plainFields (P : Program) : Nat → List Field → Bool
  | _, [] => true
  | n, f :: fs => (f.offset == n) && (f.name != "_") && basicT P f.type && plainFields P (n + 1) fs
def plainStruct (P : Program) (t : TypeId) : Bool :=
  match P.underlying t with
  | some (.struct fs) => plainFields P 0 fs.toList && !P.stoodInHeld t
  | _ => false
def fieldCount (P : Program) (t : TypeId) : Nat := (P.fieldsOf t).size

section
variable {P : Program} {w : World} {D : Nat → Prop}

/-- a value fits a plain type -/
def fitsV (P : Program) (t : TypeId) : Value → Bool
  | .int k _ => match P.underlying t with | some (.int _) => true | _ => false
  | .bool _ => match P.underlying t with | some .bool => true | _ => false
  | .string _ => match P.underlying t with | some .string => true | _ => false
  | _ => false
def fitsVs (P : Program) : List Field → List Value → Bool
  | [], [] => true
  | f :: fs, v :: vs => fitsV P f.type v && fitsVs P fs vs
  | _, _ => false

theorem eqV_run {t : TypeId} {x y : Value} {b : Bool} (h : eqV x y = some b) (hf : fitsV P t x = true) (d : Nat) : (Op.equalIn (d + 1) t x y).run P w = .ok b w := by
  unfold eqV at h
  split at h
  · split at h
    · rename_i k a k' c hk
      injection h with h; subst h; subst hk
      simp only [fitsV] at hf
      cases hu : P.underlying t with
      | none => rw [hu] at hf; cases hf
      | some q =>
        rw [hu] at hf
        cases q <;> simp only [Bool.false_eq_true] at hf
        rw [run_equalIn_int w d t k _ a c hu]; rfl
    · cases h
  · rename_i a c
    injection h with h; subst h
    simp only [fitsV] at hf
    cases hu : P.underlying t with
    | none => rw [hu] at hf; cases hf
    | some q =>
      rw [hu] at hf
      cases q <;> simp only [Bool.false_eq_true] at hf
      exact run_equalIn_bool' w d t a c hu
  · rename_i a c
    injection h with h; subst h
    simp only [fitsV] at hf
    cases hu : P.underlying t with
    | none => rw [hu] at hf; cases hf
    | some q =>
      rw [hu] at hf
      cases q <;> simp only [Bool.false_eq_true] at hf
      rw [run_equalIn_string w d t _ _ hu, ByteArray.toList_eq, ByteArray.toList_eq]
      have : (a == c) = decide (a = c) := by rw [Bool.eq_iff_iff]; simp
      simp [this]
  · cases h

theorem eqGuard_agg {op : BinOp} {t : TypeId} {x y : Operand} {a b : Array Value} (hg : P.eqGuardType P.depth t = false) : (eqGuard op t x y (.agg a) (.agg b)).run P w = .ok () w := by
  unfold eqGuard
  cases op <;> simp [hg]

theorem isAgg_basic {t : TypeId} (h : basicT P t = true) : (isAgg t).run P w = .ok false w := by
  unfold basicT at h
  unfold isAgg
  rw [Sem.run_bind]
  split at h
  · rename_i hu; rw [run_underlying hu]; rfl
  · rename_i hu; rw [run_underlying hu]; rfl
  · rename_i hu; rw [run_underlying hu]; rfl
  · cases h

theorem part_basic {t : TypeId} (h : basicT P t = true) {cs : Array Value} {n : Nat} {v : Value} (hv : cs[n]? = some v) : (part t cs n).run P w = .ok v w := by
  simp [part, isAgg_basic h, hv]

theorem eqFields_run (d : Nat) : ∀ (fs : List Field) (n : Nat) (px py xs ys : List Value) (b : Bool), px.length = n → py.length = n → plainFields P n fs = true → fitsVs P fs xs = true → xs.length = ys.length → eqVs xs ys = some b →
    (Op.eqFields (d + 1) (px ++ xs).toArray (py ++ ys).toArray fs).run P w = .ok b w
  | [], n, px, py, xs, ys, b, h1, h2, hp, hf, hl, he => by
    cases xs with
    | nil =>
      cases ys with
      | nil => simp [eqVs] at he; subst he; rfl
      | cons y ys => simp at hl
    | cons x xs => simp [fitsVs] at hf
  | f :: fs, n, px, py, xs, ys, b, h1, h2, hp, hf, hl, he => by
    cases xs with
    | nil => simp [fitsVs] at hf
    | cons x xs =>
      cases ys with
      | nil => simp at hl
      | cons y ys =>
        simp only [plainFields, Bool.and_eq_true, beq_iff_eq, bne_iff_ne, ne_eq] at hp
        obtain ⟨⟨⟨p1, p2⟩, p3⟩, p4⟩ := hp
        simp only [fitsVs, Bool.and_eq_true] at hf
        unfold eqVs at he
        cases e1 : eqV x y with
        | none => rw [e1] at he; simp at he
        | some c =>
          cases e2 : eqVs xs ys with
          | none => rw [e1, e2] at he; simp at he
          | some c2 =>
            rw [e1, e2] at he
            simp only [Option.some.injEq] at he
            subst he
            have q1 : (px ++ x :: xs).toArray[n]? = some x := by simp [← h1]
            have q2 : (py ++ y :: ys).toArray[n]? = some y := by simp [← h2]
            simp only [Op.eqFields]
            rw [if_pos p2]
            simp only [Sem.run_bind, p1, part_basic p3 q1, part_basic p3 q2, Result.andThen_ok, eqV_run e1 hf.1 d]
            cases c with
            | false => simp
            | true =>
              simp only [Bool.not_true, Bool.false_eq_true, if_false, Bool.true_and]
              have := eqFields_run d fs (n + 1) (px ++ [x]) (py ++ [y]) xs ys c2 (by simp [h1]) (by simp [h2]) p4 hf.2 (by simpa using hl) e2
              simpa using this

theorem eqStruct_run {t : TypeId} (hp : plainStruct P t = true) {xs ys : List Value} {b : Bool} (hf : fitsVs P (P.fieldsOf t).toList xs = true) (hl : xs.length = ys.length) (he : eqVs xs ys = some b) (d : Nat) : (Op.equalIn (d + 1 + 1) t (.agg xs.toArray) (.agg ys.toArray)).run P w = .ok b w := by
  unfold plainStruct at hp
  split at hp
  · rename_i fs hu
    simp only [Bool.and_eq_true, Bool.not_eq_true'] at hp
    have hfo : P.fieldsOf t = fs := by simp [Program.fieldsOf, hu]
    rw [run_equalIn_struct w (d + 1) t _ _ (by rw [hfo]; exact hu) hp.2]
    have := eqFields_run (w := w) d (P.fieldsOf t).toList 0 [] [] xs ys b rfl rfl (by rw [hfo]; exact hp.1) hf hl he
    simpa using this
  · cases hp

theorem eqL_eqVs : ∀ (xs ys : List AV) (b : Bool), eqL xs ys = some b → ∃ us vs, xs = us.map .lit ∧ ys = vs.map .lit ∧ eqVs us vs = some b
  | [], [], b, h => ⟨[], [], rfl, rfl, h⟩
  | [], _ :: _, b, h => by simp [eqL] at h
  | x :: xs, [], b, h => by simp [eqL] at h
  | x :: xs, y :: ys, b, h => by
    unfold eqL at h
    split at h
    · rename_i e; cases e
    · rename_i x' xs' y' ys' e1 e2
      injection e1 with e1 e1'; injection e2 with e2 e2'
      subst e1 e1' e2 e2'
      cases h1 : eqV x' y' with
      | none => rw [h1] at h; simp at h
      | some c =>
        cases h2 : eqL xs ys with
        | none => rw [h1, h2] at h; simp at h
        | some c2 =>
          rw [h1, h2] at h
          obtain ⟨us, vs, rfl, rfl, h3⟩ := eqL_eqVs xs ys c2 h2
          exact ⟨x' :: us, y' :: vs, rfl, rfl, by unfold eqVs; rw [h1, h3]; exact h⟩
    · cases h

theorem VRs.lits {us vs : List Value} (h : VRs w D (us.map .lit) vs) : vs = us := by
  apply List.ext_getElem?
  intro k
  cases hu : us[k]? with
  | none => rw [List.getElem?_eq_none_iff] at hu ⊢; rw [h.1]; simpa using hu
  | some u =>
    obtain ⟨v, h1, h2⟩ := h.at_ (k := k) (x := .lit u) (by rw [List.getElem?_map, hu]; rfl)
    rw [h1, h2.lit_inv]
theorem eqVs_length : ∀ (xs ys : List Value) (b : Bool), eqVs xs ys = some b → xs.length = ys.length
  | [], [], b, h => rfl
  | [], _ :: _, b, h => by simp [eqVs] at h
  | _ :: _, [], b, h => by simp [eqVs] at h
  | x :: xs, y :: ys, b, h => by
    unfold eqVs at h
    cases h1 : eqV x y with
    | none => rw [h1] at h; simp at h
    | some c =>
      cases h2 : eqVs xs ys with
      | none => rw [h1, h2] at h; simp at h
      | some c2 => simp [eqVs_length xs ys c2 h2]
def litsFit (P : Program) (t : TypeId) (xs : List AV) : Bool :=
  go (P.fieldsOf t).toList xs
where go : List Field → List AV → Bool
  | [], [] => true
  | f :: fs, .lit v :: vs => fitsV P f.type v && go fs vs
  | _, _ => false
theorem litsFit_go : ∀ (fs : List Field) (us : List Value), litsFit.go P fs (us.map .lit) = true → fitsVs P fs us = true
  | [], [], _ => rfl
  | [], _ :: _, h => by simp [litsFit.go] at h
  | _ :: _, [], h => by simp [litsFit.go] at h
  | f :: fs, u :: us, h => by
    simp only [List.map_cons, litsFit.go, Bool.and_eq_true] at h
    simp only [fitsVs, Bool.and_eq_true]
    exact ⟨h.1, litsFit_go fs us h.2⟩

theorem Exact.eqStruct {o : Oper} {env : Env} {H : Heap} {t ty : TypeId} {x y : Operand} {xs ys : List AV} {b : Bool} (ho : o.op = .binOp .eql t x y ty) (hx : env.ev x = .agg xs) (hy : env.ev y = .agg ys) (he : eqL xs ys = some b) (hp : plainStruct P t = true) (hf : litsFit P t xs = true) (hg : P.eqGuardType P.depth t = false) : Exact P o env H (.lit (.bool b)) := by
  apply Exact.of_run (by simp [noDefer, ho])
  intro a w ⟨hr, hh⟩
  rw [ho] at hr
  have e0 := hr x (by simp [Op.operands])
  have e1 := hr y (by simp [Op.operands])
  rw [hx] at e0; rw [hy] at e1
  obtain ⟨us, vs, rfl, rfl, h3⟩ := eqL_eqVs xs ys b he
  obtain ⟨us', e2, g1⟩ := e0.agg_inv
  obtain ⟨vs', e3, g2⟩ := e1.agg_inv
  obtain rfl := g1.lits
  obtain rfl := g2.lits
  refine ⟨.bool b, ?_, .lit _⟩
  have hq : (Op.equal t (.agg us'.toArray) (.agg vs'.toArray)).run P w = .ok b w := eqStruct_run (w := w) hp (litsFit_go _ _ hf) (eqVs_length _ _ _ h3) h3 9998
  unfold execOp
  rw [ho]
  simp only [e2, e3, Sem.run_bind, eqGuard_agg hg, Result.andThen_ok]
  simp [binOp, hq]

theorem Exact.neqStruct {o : Oper} {env : Env} {H : Heap} {t ty : TypeId} {x y : Operand} {xs ys : List AV} {b : Bool} (ho : o.op = .binOp .neq t x y ty) (hx : env.ev x = .agg xs) (hy : env.ev y = .agg ys) (he : eqL xs ys = some b) (hp : plainStruct P t = true) (hf : litsFit P t xs = true) (hg : P.eqGuardType P.depth t = false) : Exact P o env H (.lit (.bool (!b))) := by
  apply Exact.of_run (by simp [noDefer, ho])
  intro a w ⟨hr, hh⟩
  rw [ho] at hr
  have e0 := hr x (by simp [Op.operands])
  have e1 := hr y (by simp [Op.operands])
  rw [hx] at e0; rw [hy] at e1
  obtain ⟨us, vs, rfl, rfl, h3⟩ := eqL_eqVs xs ys b he
  obtain ⟨us', e2, g1⟩ := e0.agg_inv
  obtain ⟨vs', e3, g2⟩ := e1.agg_inv
  obtain rfl := g1.lits
  obtain rfl := g2.lits
  refine ⟨.bool (!b), ?_, .lit _⟩
  have hq : (Op.equal t (.agg us'.toArray) (.agg vs'.toArray)).run P w = .ok b w := eqStruct_run (w := w) hp (litsFit_go _ _ hf) (eqVs_length _ _ _ h3) h3 9998
  unfold execOp
  rw [ho]
  simp only [e2, e3, Sem.run_bind, eqGuard_agg hg, Result.andThen_ok]
  simp [binOp, hq]
end

/-! ## maps -/
/-- are two keys one? -/
def keyEq : Value → Value → Bool
  | .int _ a, .int _ b => decide (a = b)
  | .string ⟨⟨a⟩⟩, .string ⟨⟨b⟩⟩ => decide (a = b)
  | .agg ⟨xs⟩, .agg ⟨ys⟩ => (eqVs xs ys).getD false
  | _, _ => false
/-- a key of the type -/
def isKey (P : Program) (k : TypeId) (v : Value) : Bool :=
  match P.underlying k, v with
  | some (.int q), .int q' _ => q == q'
  | some .string, .string _ => true
  | some (.struct fs), .agg cs => plainStruct P k && fitsK P fs.toList cs.toList
  | _, _ => false
where fitsK (P : Program) : List Field → List Value → Bool
  | [], [] => true
  | f :: fs, .int q _ :: vs => (match P.underlying f.type with | some (.int q') => q == q' | _ => false) && fitsK P fs vs
  | f :: fs, .string _ :: vs => (match P.underlying f.type with | some .string => true | _ => false) && fitsK P fs vs
  | _, _ => false

section maps
variable {P : Program} {w : World} {D : Nat → Prop}

theorem fitsK_fits : ∀ (fs : List Field) (vs : List Value), isKey.fitsK P fs vs = true → fitsVs P fs vs = true
  | [], [], _ => rfl
  | [], _ :: _, h => by simp [isKey.fitsK] at h
  | f :: fs, [], h => by simp [isKey.fitsK] at h
  | f :: fs, v :: vs, h => by
    cases v <;> simp only [isKey.fitsK, Bool.and_eq_true, Bool.false_eq_true] at h
    · simp only [fitsVs, fitsV, Bool.and_eq_true]
      refine ⟨?_, fitsK_fits fs vs h.2⟩
      have := h.1
      split at this <;> simp_all
    · simp only [fitsVs, fitsV, Bool.and_eq_true]
      refine ⟨?_, fitsK_fits fs vs h.2⟩
      have := h.1
      split at this <;> simp_all
theorem fitsK_eq : ∀ (fs : List Field) (xs ys : List Value), isKey.fitsK P fs xs = true → isKey.fitsK P fs ys = true → ∃ b, eqVs xs ys = some b
  | [], [], [], _, _ => ⟨true, rfl⟩
  | [], _ :: _, _, h, _ => by simp [isKey.fitsK] at h
  | [], [], _ :: _, _, h => by simp [isKey.fitsK] at h
  | f :: fs, [], _, h, _ => by simp [isKey.fitsK] at h
  | f :: fs, _ :: _, [], _, h => by simp [isKey.fitsK] at h
  | f :: fs, x :: xs, y :: ys, h1, h2 => by
    cases x <;> simp only [isKey.fitsK, Bool.and_eq_true, Bool.false_eq_true] at h1 <;> cases y <;> simp only [isKey.fitsK, Bool.and_eq_true, Bool.false_eq_true] at h2
    · obtain ⟨b, hb⟩ := fitsK_eq fs xs ys h1.2 h2.2
      have e1 := h1.1; have e2 := h2.1
      cases hu : P.underlying f.type with
      | none => rw [hu] at e1; simp at e1
      | some d =>
        rw [hu] at e1 e2
        cases d <;> simp only [beq_iff_eq, Bool.false_eq_true] at e1 e2
        subst e1; subst e2
        exact ⟨_, by unfold eqVs; simp only [eqV, if_true, hb]; rfl⟩
    · have e1 := h1.1; have e2 := h2.1
      cases hu : P.underlying f.type with
      | none => rw [hu] at e1; simp at e1
      | some d => rw [hu] at e1 e2; cases d <;> simp_all
    · have e1 := h1.1; have e2 := h2.1
      cases hu : P.underlying f.type with
      | none => rw [hu] at e1; simp at e1
      | some d => rw [hu] at e1 e2; cases d <;> simp_all
    · obtain ⟨b, hb⟩ := fitsK_eq fs xs ys h1.2 h2.2
      rename_i s1 s2
      obtain ⟨⟨s1⟩⟩ := s1
      obtain ⟨⟨s2⟩⟩ := s2
      exact ⟨_, by unfold eqVs; simp only [eqV, hb]; rfl⟩

/-- the first entry of a key -/
def mfind (k : Value) : List (Value × AV) → Option (Nat × AV)
  | [] => none
  | e :: es => if keyEq k e.1 then some (0, e.2) else (mfind k es).map fun p => (p.1 + 1, p.2)
def mget (es : List (Value × AV)) (k : Value) : Option AV := (mfind k es).map (·.2)
def mput (es : List (Value × AV)) (k : Value) (v : AV) : List (Value × AV) :=
  match mfind k es with
  | some (i, _) => es.set i (k, v)
  | none => es ++ [(k, v)]

def efind (k : Value) : List MapEntry → Nat → Option (Nat × Value)
  | [], _ => none
  | e :: es, i => if keyEq k e.key then some (i, e.val) else efind k es (i + 1)

theorem findNow_int {q : IntKind} {n : Int} : ∀ (ents : List MapEntry) (i : Nat), (∀ e ∈ ents, ∃ m, e.key = .int q m) → Instr.findNow (.int q) (.int q n) ents i = some (efind (.int q n) ents i)
  | [], i, _ => rfl
  | e :: es, i, h => by
    obtain ⟨m, hm⟩ := h e (by simp)
    unfold Instr.findNow efind
    rw [hm]
    simp only [Instr.sameNow, if_true, keyEq]
    by_cases hnm : n = m
    · subst hnm; simp
    · have : (n == m) = false := by simpa using hnm
      simp only [this, hnm, decide_false, Bool.false_eq_true, if_false]
      exact findNow_int es (i + 1) (fun e he => h e (by simp [he]))
theorem findNow_string {n : List UInt8} : ∀ (ents : List MapEntry) (i : Nat), (∀ e ∈ ents, ∃ m, e.key = .string ⟨⟨m⟩⟩) → Instr.findNow .string (.string ⟨⟨n⟩⟩) ents i = some (efind (.string ⟨⟨n⟩⟩) ents i)
  | [], i, _ => rfl
  | e :: es, i, h => by
    obtain ⟨m, hm⟩ := h e (by simp)
    unfold Instr.findNow efind
    rw [hm]
    simp only [Instr.sameNow, keyEq]
    have hbe : ((⟨⟨n⟩⟩ : ByteArray) == ⟨⟨m⟩⟩) = decide (n = m) := by
      rw [beq_toListBytes, ByteArray.toList_eq, ByteArray.toList_eq, Bool.eq_iff_iff]; simp
    rw [hbe]
    by_cases hnm : n = m
    · subst hnm; simp
    · simp only [hnm, decide_false, Bool.false_eq_true, if_false]
      exact findNow_string es (i + 1) (fun e he => h e (by simp [he]))
theorem findAsking_struct {kt : TypeId} (hp : plainStruct P kt = true) {xs : List Value} (hx : isKey.fitsK P (P.fieldsOf kt).toList xs = true) : ∀ (ents : List MapEntry) (i : Nat), (∀ e ∈ ents, ∃ ys, e.key = .agg ⟨ys⟩ ∧ isKey.fitsK P (P.fieldsOf kt).toList ys = true) →
    (Instr.findAsking kt (.agg ⟨xs⟩) ents i).run P w = .ok (efind (.agg ⟨xs⟩) ents i) w
  | [], i, _ => rfl
  | e :: es, i, h => by
    obtain ⟨ys, hm, hy⟩ := h e (by simp)
    obtain ⟨b, hb⟩ := fitsK_eq _ xs ys hx hy
    unfold Instr.findAsking efind
    rw [hm]
    have hq : (Op.equal kt (.agg ⟨xs⟩) (.agg ⟨ys⟩)).run P w = .ok b w := eqStruct_run (w := w) hp (fitsK_fits _ _ hx) (eqVs_length _ _ _ hb) hb 9998
    simp only [keyEq, hb, Option.getD_some, Sem.run_bind, hq, Result.andThen_ok]
    cases b with
    | true => simp
    | false =>
      simp only [Bool.false_eq_true, if_false]
      exact findAsking_struct hp hx es (i + 1) (fun e he => h e (by simp [he]))

theorem findKey_run {kt : TypeId} {k : Value} (hk : isKey P kt k = true) (ents : List MapEntry) (he : ∀ e ∈ ents, isKey P kt e.key = true) : (Instr.findKey kt k ents).run P w = .ok (efind k ents 0) w := by
  unfold isKey at hk
  split at hk
  · rename_i q q' n hu
    have : q = q' := by simpa using hk
    subst this
    have := findNow_int (n := n) ents 0 (fun e h => by
      have := he e h
      unfold isKey at this
      rw [hu] at this
      cases hkk : e.key <;> rw [hkk] at this <;> simp at this
      rename_i q2 m
      subst this
      exact ⟨m, rfl⟩)
    simp [Instr.findKey, run_underlying hu, this]
  · rename_i s hu
    obtain ⟨⟨n⟩⟩ := s
    have := findNow_string (n := n) ents 0 (fun e h => by
      have := he e h
      unfold isKey at this
      rw [hu] at this
      cases hkk : e.key <;> rw [hkk] at this <;> simp at this
      rename_i s2
      obtain ⟨⟨m⟩⟩ := s2
      exact ⟨m, rfl⟩)
    simp [Instr.findKey, run_underlying hu, this]
  · rename_i fs cs hu
    obtain ⟨xs⟩ := cs
    simp only [Bool.and_eq_true] at hk
    have hfo : P.fieldsOf kt = fs := by simp [Program.fieldsOf, hu]
    have hx : isKey.fitsK P (P.fieldsOf kt).toList xs = true := by rw [hfo]; exact hk.2
    have hents : ∀ e ∈ ents, ∃ ys, e.key = .agg ⟨ys⟩ ∧ isKey.fitsK P (P.fieldsOf kt).toList ys = true := fun e h => by
      have := he e h
      unfold isKey at this
      rw [hu] at this
      cases hkk : e.key <;> rw [hkk] at this <;> simp at this
      rename_i ys
      obtain ⟨ys⟩ := ys
      exact ⟨ys, rfl, by rw [hfo]; exact this.2⟩
    have := findAsking_struct (w := w) hk.1 hx ents 0 hents
    unfold Instr.findKey
    simp only [Sem.run_bind, run_underlying hu, Result.andThen_ok]
    cases ents with
    | nil => simp [Instr.findNow, efind]
    | cons e es =>
      obtain ⟨ys, hm, _⟩ := hents e (by simp)
      have hn : Instr.findNow (.struct fs) (.agg ⟨xs⟩) (e :: es) 0 = none := by unfold Instr.findNow; rw [hm]; rfl
      rw [hn]
      exact this
  · cases hk

theorem efind_mfind {D : Nat → Prop} {k : Value} : ∀ (es : List (Value × AV)) (ents : List MapEntry) (i : Nat), ents.map (·.key) = es.map (·.1) → VRs w D (es.map (·.2)) (ents.map (·.val)) →
    (mfind k es = none ∧ efind k ents i = none) ∨ ∃ j v u, mfind k es = some (j, v) ∧ efind k ents i = some (i + j, u) ∧ VR w D v u ∧ j < es.length ∧ ∃ e, ents[j]? = some e ∧ keyEq k e.key = true
  | [], [], i, h1, h2 => .inl ⟨rfl, rfl⟩
  | [], _ :: _, i, h1, h2 => by simp at h1
  | _ :: _, [], i, h1, h2 => by simp at h1
  | x :: es, e :: ents, i, h1, h2 => by
    simp only [List.map_cons, List.cons.injEq] at h1
    obtain ⟨u, us, hu, h3, h4⟩ := h2.cons_inv
    simp only [List.map_cons, List.cons.injEq] at hu
    obtain ⟨rfl, rfl⟩ := hu
    unfold mfind efind
    rw [h1.1]
    by_cases hk : keyEq k x.1 = true
    · rw [if_pos hk, if_pos hk]
      exact .inr ⟨0, x.2, e.val, rfl, rfl, h3, by simp, e, rfl, by rw [h1.1]; exact hk⟩
    · rw [if_neg hk, if_neg hk]
      rcases efind_mfind es ents (i + 1) h1.2 h4 with ⟨a1, a2⟩ | ⟨j, v, u, a1, a2, a3, a4, e', a5, a6⟩
      · exact .inl ⟨by rw [a1]; rfl, a2⟩
      · exact .inr ⟨j + 1, v, u, by rw [a1]; rfl, by rw [a2]; congr 2; omega, a3, by simp; omega, e', by simpa using a5, a6⟩

theorem checkKey_run' (b : Bool) {kt : TypeId} {k : Value} (hk : isKey P kt k = true) (N : Nat) : (Instr.checkKey b (N + 1 + 1) kt k).run P w = .ok () w := by
  unfold isKey at hk
  split at hk
  · rename_i q q' n hu
    simp [Instr.checkKey, run_underlying hu]
  · rename_i s hu
    simp [Instr.checkKey, run_underlying hu]
  · rename_i fs cs hu
    simp only [Bool.and_eq_true] at hk
    have hpf : plainFields P 0 fs.toList = true := by
      have := hk.1; unfold plainStruct at this; rw [hu] at this; simp only [Bool.and_eq_true] at this; exact this.1
    rw [Instr.checkKey]
    simp only [Sem.run_bind, run_underlying hu, Result.andThen_ok]
    rw [← Array.forIn_toList]
    have key : ∀ (l : List Field) (n : Nat), plainFields P n l = true → (∀ (i : Nat) (f : Field), l[i]? = some f → ∃ v, cs[n + i]? = some v ∧ fitsV P f.type v = true) → (forIn l PUnit.unit (fun (f : Field) (r : PUnit) => (do
        if f.name ≠ "_" then
          let __do_lift ← part f.type cs f.offset
          Instr.checkKey b (N + 1) f.type __do_lift
          pure (ForInStep.yield PUnit.unit)
        else pure (ForInStep.yield PUnit.unit) : Sem (ForInStep PUnit)))).run P w = .ok PUnit.unit w := by
      intro l
      induction l with
      | nil => intro n _ _; rfl
      | cons f fs ih =>
        intro n hp hv
        simp only [plainFields, Bool.and_eq_true, beq_iff_eq, bne_iff_ne, ne_eq] at hp
        obtain ⟨⟨⟨p1, p2⟩, p3⟩, p4⟩ := hp
        obtain ⟨v, h1, h2⟩ := hv 0 f rfl
        simp only [Nat.add_zero] at h1
        have hck : (Instr.checkKey b (N + 1) f.type v).run P w = .ok () w := by
          unfold basicT at p3
          cases hd : P.underlying f.type with
          | none => rw [hd] at p3; simp at p3
          | some d =>
            rw [hd] at p3
            cases d <;> simp at p3 <;> simp [Instr.checkKey, run_underlying hd]
        rw [List.forIn_cons]
        simp only [Sem.run_bind]
        rw [if_pos (show f.name ≠ "_" from p2)]
        simp only [Sem.run_bind, p1, part_basic p3 h1, Result.andThen_ok, hck, Sem.run_pure]
        exact ih (n + 1) p4 (fun i g hg => by
          obtain ⟨v', h3, h4⟩ := hv (i + 1) g (by simpa using hg)
          exact ⟨v', by rw [← h3]; congr 1; omega, h4⟩)
    have hfit := fitsK_fits _ _ hk.2
    have hfv : ∀ (l : List Field) (vs : List Value), fitsVs P l vs = true → ∀ (i : Nat) (f : Field), l[i]? = some f → ∃ v, vs[i]? = some v ∧ fitsV P f.type v = true := by
      intro l
      induction l with
      | nil => intro vs _ i f h; simp at h
      | cons g l ih =>
        intro vs h i f hf
        cases vs with
        | nil => simp [fitsVs] at h
        | cons v vs =>
          simp only [fitsVs, Bool.and_eq_true] at h
          cases i with
          | zero => simp at hf; subst hf; exact ⟨v, rfl, h.1⟩
          | succ i => exact ih vs h.2 i f (by simpa using hf)
    have := key fs.toList 0 hpf (fun i f hf => by
      obtain ⟨v, h1, h2⟩ := hfv _ _ hfit i f hf
      exact ⟨v, by rw [Nat.zero_add]; simpa using h1, h2⟩)
    rw [this]
    rfl
  · exact absurd hk (by simp)
theorem checkKey_run (b : Bool) {kt : TypeId} {k : Value} (hk : isKey P kt k = true) : (Instr.checkKey b 10000 kt k).run P w = .ok () w := checkKey_run' b hk 9998

theorem eqV_eq {x y : Value} {b : Bool} (h : eqV x y = some b) : b = true → x = y := by
  unfold eqV at h
  split at h
  · split at h
    · rename_i hk; injection h with h; subst h; subst hk; intro e; rw [of_decide_eq_true e]
    · cases h
  · injection h with h; subst h; intro e; rw [eq_of_beq e]
  · injection h with h; subst h; intro e; rw [of_decide_eq_true e]
  · cases h
theorem eqVs_eq : ∀ (xs ys : List Value), eqVs xs ys = some true → xs = ys
  | [], [], _ => rfl
  | [], _ :: _, h => by simp [eqVs] at h
  | _ :: _, [], h => by simp [eqVs] at h
  | x :: xs, y :: ys, h => by
    unfold eqVs at h
    cases h1 : eqV x y with
    | none => rw [h1] at h; simp at h
    | some c =>
      cases h2 : eqVs xs ys with
      | none => rw [h1, h2] at h; simp at h
      | some c2 =>
        rw [h1, h2] at h
        simp only [Option.some.injEq, Bool.and_eq_true] at h
        rw [eqV_eq h1 h.1, eqVs_eq xs ys (by rw [h2, h.2])]
theorem eqVs_refl : ∀ (fs : List Field) (xs : List Value), isKey.fitsK P fs xs = true → eqVs xs xs = some true
  | [], [], _ => rfl
  | [], _ :: _, h => by simp [isKey.fitsK] at h
  | f :: fs, [], h => by simp [isKey.fitsK] at h
  | f :: fs, x :: xs, h => by
    cases x <;> simp only [isKey.fitsK, Bool.and_eq_true, Bool.false_eq_true] at h
    · unfold eqVs; simp [eqV, eqVs_refl fs xs h.2]
    · rename_i s; obtain ⟨⟨s⟩⟩ := s; unfold eqVs; simp [eqV, eqVs_refl fs xs h.2]
theorem keyEq_eq {kt : TypeId} {k k' : Value} (h1 : isKey P kt k = true) (h2 : isKey P kt k' = true) : keyEq k k' = true ↔ k = k' := by
  unfold isKey at h1 h2
  split at h1
  · rename_i q q' n hu
    rw [hu] at h2
    cases k' <;> simp at h2
    simp only [beq_iff_eq] at h1
    subst h1; subst h2
    simp [keyEq]
  · rename_i s hu
    rw [hu] at h2
    cases k' <;> simp at h2
    rename_i s2
    obtain ⟨⟨s⟩⟩ := s; obtain ⟨⟨s2⟩⟩ := s2
    simp [keyEq]
  · rename_i fs cs hu
    rw [hu] at h2
    cases k' <;> simp at h2
    rename_i cs2
    obtain ⟨cs⟩ := cs; obtain ⟨cs2⟩ := cs2
    simp only [Bool.and_eq_true] at h1
    obtain ⟨b, hb⟩ := fitsK_eq fs.toList cs cs2 h1.2 h2.2
    simp only [keyEq, hb, Option.getD_some]
    constructor
    · intro e; subst e; rw [eqVs_eq cs cs2 hb]
    · intro e
      injection e with e
      injection e with e
      subst e
      have := eqVs_refl fs.toList cs h1.2
      rw [this] at hb; injection hb with hb; exact hb.symm
  · cases h1
theorem beq_bytes (s : ByteArray) : (s == s) = true := by rw [beq_toListBytes]; simp
theorem sameBits_refl {kt : TypeId} {k : Value} (h1 : isKey P kt k = true) (N : Nat) : Instr.sameBits (N + 1) k k = true := by
  unfold isKey at h1
  split at h1
  · simp [Instr.sameBits]
  · simp [Instr.sameBits, beq_bytes]
  · rename_i fs cs hu
    simp only [Bool.and_eq_true] at h1
    have key : ∀ (l : List Field) (vs : List Value), isKey.fitsK P l vs = true → ∀ v ∈ vs, Instr.sameBits N v v = true := by
      intro l
      induction l with
      | nil => intro vs h v hv; cases vs <;> simp [isKey.fitsK] at h hv
      | cons f l ih =>
        intro vs h v hv
        cases vs with
        | nil => cases hv
        | cons x vs =>
          cases x <;> simp only [isKey.fitsK, Bool.and_eq_true, Bool.false_eq_true] at h
          all_goals
            rcases List.mem_cons.1 hv with rfl | hv
            · cases N <;> simp [Instr.sameBits, beq_bytes]
            · exact ih vs h.2 v hv
    have := key fs.toList cs.toList h1.2
    simp only [Instr.sameBits, Bool.and_eq_true, beq_self_eq_true, true_and, List.all_eq_true]
    intro p hp
    obtain ⟨i, hi⟩ := List.mem_iff_getElem?.1 hp
    rw [List.getElem?_zip_eq_some] at hi
    have e : p.1 = p.2 := by
      have h3 := hi.1; have h4 := hi.2
      rw [h3] at h4; injection h4
    obtain ⟨p1, p2⟩ := p
    simp only at e ⊢
    subst e
    exact this p1 (List.mem_of_getElem? hi.1)
  · cases h1

/-- an abstract value that is a plain one -/
def litV : AV → Option Value
  | .lit v => some v
  | .agg cs => (litVs cs).map fun us => .agg ⟨us⟩
  | _ => none
where litVs : List AV → Option (List Value)
  | [] => some []
  | .lit v :: r => (litVs r).map (v :: ·)
  | _ :: _ => none
theorem litVs_map : ∀ (cs : List AV) (us : List Value), litV.litVs cs = some us → cs = us.map .lit
  | [], us, h => by simp [litV.litVs] at h; subst h; rfl
  | x :: r, us, h => by
    cases x <;> simp only [litV.litVs, reduceCtorEq] at h
    cases hr : litV.litVs r with
    | none => rw [hr] at h; cases h
    | some vs =>
      rw [hr] at h
      simp only [Option.map_some, Option.some.injEq] at h
      subst h
      rw [litVs_map r vs hr]; rfl
theorem VR.litV {x : AV} {v u : Value} (h : VR w D x u) (hx : Go.Vc.litV x = some v) : u = v := by
  cases x <;> simp only [Go.Vc.litV, Option.some.injEq, reduceCtorEq] at hx
  · subst hx; exact h.lit_inv
  · rename_i cs
    cases hc : Go.Vc.litV.litVs cs with
    | none => rw [hc] at hx; cases hx
    | some us =>
      rw [hc] at hx
      simp only [Option.map_some, Option.some.injEq] at hx
      subst hx
      have := litVs_map cs us hc
      subst this
      obtain ⟨us', rfl, g⟩ := h.agg_inv
      rw [g.lits]

def keysOk (P : Program) (kt : TypeId) (es : List (Value × AV)) : Prop := ∀ e ∈ es, isKey P kt e.1 = true

section mapops
variable {o : Oper} {env : Env} {H : Heap} {K : AV → Heap → Prop} {E : List PanicEntry → Heap → Prop}

theorem Exact.lookup {mt kt et : TypeId} {m k : Operand} {g : Nat} {es : List (Value × AV)} {kv : Value} {v : AV} {ok : Bool} (ho : o.op = .lookup mt m k ok) (hu : P.underlying mt = some (.map kt et)) (hm : env.ev m = .lit (.map (some g))) (hg : H g = some (.map es)) (hkv : litV (env.ev k) = some kv)
    (hik : isKey P kt kv = true) (hes : keysOk P kt es) (hf : mget es kv = some v) : Exact P o env H (match ok with | true => .tup [v, .lit (.bool true)] | false => v) := by
  apply Exact.of_run (by simp [noDefer, ho])
  intro a w ⟨hr, hh⟩
  rw [ho] at hr
  have e0 := hr m (by simp [Op.operands])
  have e1 := hr k (by simp [Op.operands])
  rw [hm] at e0
  have e0 := e0.lit_inv
  have e1 := e1.litV hkv
  obtain ⟨ents, clock, h1, h2, h3, h4, h5⟩ := hh g _ hg
  have hents : ∀ e ∈ ents, isKey P kt e.key = true := fun e he => by
    have : e.key ∈ es.map (·.1) := by rw [← h2]; exact List.mem_map.2 ⟨e, he, rfl⟩
    obtain ⟨x, hx, hxe⟩ := List.mem_map.1 this
    rw [← hxe]; exact hes x hx
  have hfk := findKey_run (w := w) hik ents hents
  rcases efind_mfind es ents 0 h2 h3 with ⟨q1, q2⟩ | ⟨j, v', u, q1, q2, q3, q4, q5⟩
  · unfold mget at hf; rw [q1] at hf; cases hf
  · unfold mget at hf
    rw [q1] at hf
    simp only [Option.map_some, Option.some.injEq] at hf
    subst hf
    rw [q2] at hfk
    have hobj : (getObj g).run P w = .ok (.map ents.toArray clock) w := by simp [getObj, Sem.run, h1]
    have hrun : (Instr.lookup mt (.map (some g)) kv ok).run P w = .ok (if ok then .tuple #[u, .bool true] else u) w := by
      simp only [Instr.lookup, Sem.run_bind, run_underlying hu, Result.andThen_ok, hobj, Sem.run_pure, checkKey_run _ hik, hfk]
    refine ⟨if ok then .tuple #[u, .bool true] else u, by unfold execOp; rw [ho]; simp only [e0, e1, Sem.run_bind, hrun, Result.andThen_ok, Sem.run_pure], ?_⟩
    cases ok with
    | true =>
      have := VRs.cons q3 (VRs.cons (VR.lit (.bool true)) VRs.nil)
      exact VR.tup _ this.1 this.2
    | false => exact q3

def zeroV (P : Program) (t : TypeId) : Option Value := (P.info? t).bind (·.zero)
theorem Exact.lookup_none {mt kt et : TypeId} {m k : Operand} {g : Nat} {es : List (Value × AV)} {kv z : Value} {ok : Bool} (ho : o.op = .lookup mt m k ok) (hu : P.underlying mt = some (.map kt et)) (hz : zeroV P et = some z) (hm : env.ev m = .lit (.map (some g))) (hg : H g = some (.map es)) (hkv : litV (env.ev k) = some kv)
    (hik : isKey P kt kv = true) (hes : keysOk P kt es) (hf : mget es kv = none) : Exact P o env H (match ok with | true => .tup [ofConst z, .lit (.bool false)] | false => ofConst z) := by
  apply Exact.of_run (by simp [noDefer, ho])
  intro a w ⟨hr, hh⟩
  rw [ho] at hr
  have e0 := hr m (by simp [Op.operands])
  have e1 := hr k (by simp [Op.operands])
  rw [hm] at e0
  have e0 := e0.lit_inv
  have e1 := e1.litV hkv
  obtain ⟨ents, clock, h1, h2, h3, h4, h5⟩ := hh g _ hg
  have hents : ∀ e ∈ ents, isKey P kt e.key = true := fun e he => by
    have : e.key ∈ es.map (·.1) := by rw [← h2]; exact List.mem_map.2 ⟨e, he, rfl⟩
    obtain ⟨x, hx, hxe⟩ := List.mem_map.1 this
    rw [← hxe]; exact hes x hx
  have hfk := findKey_run (w := w) hik ents hents
  have hzv : (zeroValue et).run P w = .ok z w := by
    unfold zeroV at hz
    cases hi : P.info? et with
    | none => rw [hi] at hz; cases hz
    | some i => rw [hi] at hz; simp only [Option.bind_some] at hz; simp [zeroValue, typeInfo, hi, hz]
  rcases efind_mfind es ents 0 h2 h3 with ⟨q1, q2⟩ | ⟨j, v', u, q1, q2, q3, q4, q5⟩
  · rw [q2] at hfk
    have hobj : (getObj g).run P w = .ok (.map ents.toArray clock) w := by simp [getObj, Sem.run, h1]
    have hrun : (Instr.lookup mt (.map (some g)) kv ok).run P w = .ok (if ok then .tuple #[z, .bool false] else z) w := by
      simp only [Instr.lookup, Sem.run_bind, run_underlying hu, Result.andThen_ok, hobj, Sem.run_pure, checkKey_run _ hik, hfk, hzv]
    refine ⟨if ok then .tuple #[z, .bool false] else z, by unfold execOp; rw [ho]; simp only [e0, e1, Sem.run_bind, hrun, Result.andThen_ok, Sem.run_pure], ?_⟩
    cases ok with
    | true =>
      have := VRs.cons (VR.ofConst (w := w) (D := H.dom) z) (VRs.cons (VR.lit (.bool false)) VRs.nil)
      exact VR.tup _ this.1 this.2
    | false => exact VR.ofConst z
  · unfold mget at hf; rw [q1] at hf; cases hf

theorem WpO.mapUpdate {mt kt et : TypeId} {m k x : Operand} {g : Nat} {es : List (Value × AV)} {kv : Value} {v : AV} (ho : o.op = .mapUpdate mt m k x) (hu : P.underlying mt = some (.map kt et)) (hm : env.ev m = .lit (.map (some g))) (hg : H g = some (.map es)) (hkv : litV (env.ev k) = some kv) (hx : env.ev x = v)
    (hik : isKey P kt kv = true) (hes : keysOk P kt es) (hk : K (.lit undef) (H.set g (.map (mput es kv v)))) : WpO P o env H K E := by
  apply WpO.of_skip (by simp [noDefer, ho])
  intro a w ⟨hr, hh⟩
  rw [ho] at hr
  have e0 := hr m (by simp [Op.operands])
  have e1 := hr k (by simp [Op.operands])
  have e2 := hr x (by simp [Op.operands])
  rw [hm] at e0; rw [hx] at e2
  have e0 := e0.lit_inv
  have e1 := e1.litV hkv
  obtain ⟨ents, clock, h1, h2, h3, h4, h5⟩ := hh g _ hg
  have hents : ∀ e ∈ ents, isKey P kt e.key = true := fun e he => by
    have : e.key ∈ es.map (·.1) := by rw [← h2]; exact List.mem_map.2 ⟨e, he, rfl⟩
    obtain ⟨x, hx, hxe⟩ := List.mem_map.1 this
    rw [← hxe]; exact hes x hx
  have hfk := findKey_run (w := w) hik ents hents
  have hobj : (getObj g).run P w = .ok (.map ents.toArray clock) w := by simp [getObj, Sem.run, h1]
  have hgd : H.dom g := ⟨_, hg, rfl⟩
  have hlt := (Array.getElem?_eq_some_iff.1 h1).1
  have hset : ∀ ob : Obj, (setObj g ob).run P w = .ok () { w with heap := w.heap.setIfInBounds g ob } := fun ob => by simp [setObj, Sem.run, h1]
  have hnew : ∀ ob : Obj, ({ w with heap := w.heap.setIfInBounds g ob } : World).heap[g]? = some ob := fun ob => by simp [hlt]
  have hold : ∀ (ob : Obj) (j : Nat), j ≠ g → ({ w with heap := w.heap.setIfInBounds g ob } : World).heap[j]? = w.heap[j]? := fun ob j hj => by
    show (w.heap.setIfInBounds g ob)[j]? = _
    rw [Array.getElem?_setIfInBounds_ne (Ne.symm hj)]
  have hev : ∀ (ob : Obj), Evol H w (H.set g (.map (mput es kv v))) { w with heap := w.heap.setIfInBounds g ob } := fun ob =>
    Evol.write _ hgd rfl rfl rfl (by simp) (fun j hj => hold ob j hj)
  rcases efind_mfind es ents 0 h2 h3 with ⟨q1, q2⟩ | ⟨j, v', u, q1, q2, q3, q4, e', q5, q6⟩
  · rw [q2] at hfk
    refine ⟨_, _, ?_, hev (.map (ents ++ [({ key := kv, val := a.eval x, born := clock } : MapEntry)]).toArray (clock + 1)), ?_, hk⟩
    · unfold execOp; rw [ho]
      have : (ents.toArray.push ({ key := kv, val := a.eval x, born := clock } : MapEntry)) = (ents ++ [({ key := kv, val := a.eval x, born := clock } : MapEntry)]).toArray := by apply Array.ext'; simp
      simp only [e0, e1, Instr.mapUpdate, Sem.run_bind, run_underlying hu, Result.andThen_ok, hobj, checkKey_run _ hik, hfk, hset, Sem.run_pure, this]
    · refine HeapR.write _ hh (hev _) (fun j hj => hold _ j hj) ⟨_, _, hnew _, ?_, ?_, ?_, ?_⟩
      · simp [mput, q1, h2]
      · have hq : mput es kv v = es ++ [(kv, v)] := by unfold mput; rw [q1]
        rw [hq, List.map_append, List.map_append]
        exact ((h3.append (VRs.cons e2 .nil))).evol (hq ▸ hev _)
      · intro e he
        rcases List.mem_append.1 he with h | h
        · have := h4 e h; omega
        · simp at h; subst h; simp
      · rw [List.map_append, List.nodup_append]
        refine ⟨h5, by simp, fun b hb c hc => ?_⟩
        simp at hc; subst hc
        obtain ⟨e, he, rfl⟩ := List.mem_map.1 hb
        have := h4 e he; omega
  · rw [Nat.zero_add] at q2
    rw [q2] at hfk
    have hjl : j < ents.length := (List.getElem?_eq_some_iff.1 q5).1
    have hke : e'.key = kv := ((keyEq_eq hik (hents e' (List.mem_of_getElem? q5))).1 q6).symm
    have hst : (Instr.keyThatStays (((ents.toArray[j]?).map (·.key)).getD kv) kv).run P w = .ok kv w := by
      have : ents.toArray[j]? = some e' := by simpa using q5
      rw [this]
      simp only [Option.map_some, Option.getD_some, hke, Instr.keyThatStays, sameBits_refl hik 9999, if_true]
      rfl
    refine ⟨_, _, ?_, hev (.map (ents.set j { e' with key := kv, val := a.eval x }).toArray clock), ?_, hk⟩
    · unfold execOp; rw [ho]
      have : (ents.toArray.modify j fun e => { e with key := kv, val := a.eval x }) = (ents.set j { e' with key := kv, val := a.eval x }).toArray := by
        apply Array.ext'
        apply List.ext_getElem?
        intro i
        simp only [Array.toList_modify, List.getElem?_modify, List.getElem?_set]
        by_cases hij : j = i
        · subst hij; simp [hjl, (List.getElem?_eq_some_iff.1 q5).2]
        · simp [hij]
      simp only [e0, e1, Instr.mapUpdate, Sem.run_bind, run_underlying hu, Result.andThen_ok, hobj, checkKey_run _ hik, hfk, hst, hset, Sem.run_pure, this]
    · have hq : mput es kv v = es.set j (kv, v) := by unfold mput; rw [q1]
      refine HeapR.write _ hh (hev _) (fun j hj => hold _ j hj) ⟨_, _, hnew _, ?_, ?_, ?_, ?_⟩
      · rw [hq, List.map_set, List.map_set, h2]
      · rw [hq, List.map_set, List.map_set]
        exact (h3.set j e2).evol (hq ▸ hev _)
      · intro e he
        rcases List.mem_or_eq_of_mem_set he with h | h
        · exact h4 e h
        · subst h; exact h4 e' (List.mem_of_getElem? q5)
      · have : (ents.set j { e' with key := kv, val := a.eval x }).map (·.born) = ents.map (·.born) := by
          rw [List.map_set]
          apply List.ext_getElem?
          intro i
          rw [List.getElem?_set]
          by_cases hij : j = i
          · subst hij; simp [hjl, (List.getElem?_eq_some_iff.1 q5).2]
          · simp [hij]
        rw [this]; exact h5
end mapops
end maps
end Go.Vc
