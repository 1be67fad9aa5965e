/-
  Definitions of macros: what the code makes of tokens, in plain words. No program in sight.
-/
import Derived.Test.YtghnfeflknfclaaDoorA8
set_option linter.unusedVariables false
set_option linter.unusedSimpArgs false
namespace Go.Sh
open Go
def vaN : List UInt8 := [95, 95, 86, 65, 95, 65, 82, 71, 83, 95, 95]
def dfN : List UInt8 := [100, 101, 102, 105, 110, 101, 100]
def isP (s : List UInt8) (t : GTok) : Bool := decide (t.kind = 5) && decide (t.text = s)
def headP (s : List UInt8) : List GTok → Bool
  | [] => false
  | t :: _ => isP s t
def zeroM : GMacro := ⟨[], false, [], false, []⟩
theorem ix0 {α : Type} (t : α) (r : List α) : ix (t :: r) 0 = some t := rfl
theorem ix1 {α : Type} (t u : α) (r : List α) : ix (t :: u :: r) 1 = some u := rfl
theorem len_pos {α : Type} (t : α) (r : List α) : decide ((0 : Int) < ((t :: r).length : Int)) = true := decide_eq_true (by simp only [List.length_cons]; omega)
theorem len_pos2 {α : Type} (t u : α) (r : List α) : decide ((1 : Int) < ((t :: u :: r).length : Int)) = true := decide_eq_true (by simp only [List.length_cons]; omega)

theorem oR {ε α β : Type} {x : α} {a : ε → β} {b : α → β} : orP (.inr x) a b = b x := rfl
theorem oL {ε α β : Type} {e : ε} {a : ε → β} {b : α → β} : orP (.inl e) a b = a e := rfl
theorem msign_eq (l : List GTok) (s : List UInt8) : macro_reader_sign ⟨l⟩ s = some (headP s l) := by
  unfold macro_reader_sign
  cases l with
  | nil => rfl
  | cons t r => simp only [len_pos, ix0, Option.bind_some, andO_some, headP, isP, Bool.true_and]
theorem mtakes_eq (l : List GTok) (s : List UInt8) : macro_reader_takes ⟨l⟩ s = some (headP s l, ⟨if headP s l = true then l.drop 1 else l⟩) := by
  unfold macro_reader_takes
  rw [msign_eq, Option.bind_some]
  cases h : headP s l with
  | false => rw [if_pos (by rfl), if_neg (by simp)]
  | true =>
    rw [if_neg (by simp), if_pos rfl]
    cases l with
    | nil => cases h
    | cons t r => rw [chkT (by simp only [List.length_cons]; omega)]; rfl
def wordF (e : Int) : List GTok → Sum Int (List UInt8 × GMacro_reader)
  | [] => .inl e
  | t :: r => if t.kind = 1 then .inr (t.text, ⟨r⟩) else .inl e
theorem need_eq (b : Bool) (e : Int) : macro_need b e = some (if b = true then .inr () else .inl e) := by cases b <;> rfl
theorem mword_eq (l : List GTok) (e : Int) : macro_reader_word ⟨l⟩ e = some (wordF e l) := by
  unfold macro_reader_word
  cases l with
  | nil => rfl
  | cons t r =>
    simp only [len_pos, ix0, Option.bind_some, andO_some, Bool.true_and, need_eq]
    by_cases h : t.kind = 1
    · rw [if_pos (decide_eq_true h)]
      rw [oR, chkT (by simp only [List.length_cons]; omega)]
      simp only [wordF]
      rw [if_pos h]; rfl
    · rw [if_neg (by simpa using h)]
      rw [oL]
      simp only [wordF]
      rw [if_neg h]

/-! ### a text among others -/
def idxL (n : List UInt8) : List (List UInt8) → Int → Int
  | [], _ => -1
  | y :: r, i => if n = y then i else idxL n r (i + 1)
theorem idxL_ge (n : List UInt8) : ∀ (l : List (List UInt8)) (i : Int), 0 ≤ i → (0 ≤ idxL n l i ↔ n ∈ l)
  | [], i, h => by simp [idxL]
  | y :: r, i, h => by
    unfold idxL
    split
    · rename_i e; simp [e, h]
    · rename_i e; rw [idxL_ge n r (i + 1) (by omega)]; simp [e]
theorem idxL_step {n : List UInt8} {l : List (List UInt8)} {k : Nat} (h : k < l.length) : idxL n (l.drop k) k = if n = l[k] then (k : Int) else idxL n (l.drop (k + 1)) ((k + 1 : Nat) : Int) := by
  rw [List.drop_eq_getElem_cons h]; rfl
def idxR (r : Sum Unit Int) (v : Int) : Prop := match r with | .inl _ => v = -1 | .inr w => v = w
theorem index_eq (l : List (List UInt8)) (n : List UInt8) (h : l.length ≤ 9223372036854775806) : slices_Index_Lstring_string l n = some (idxL n l 0) := by
  unfold slices_Index_Lstring_string
  obtain ⟨r, g1, g2⟩ := loopS_ix (f := slices_Index_Lstring_string_b2 l n) l.length (by omega) (fun k x => x = (k : Int) ∧ idxL n l 0 = idxL n (l.drop k) k) (fun r => idxR r (idxL n l 0)) (s0 := (0 : Int)) ⟨rfl, rfl⟩ (by
    rintro k x hk ⟨rfl, hn⟩
    rw [idxL_step hk] at hn
    unfold slices_Index_Lstring_string_b2
    rw [if_pos (decide_eq_true (by omega)), ix_at hk, Option.bind_some]
    by_cases e : n = l[k]
    · right
      rw [if_pos e] at hn
      rw [if_pos (decide_eq_true e)]
      exact ⟨_, rfl, hn⟩
    · left
      rw [if_neg e] at hn
      rw [if_neg (by simpa using e), chkT (by omega)]
      exact ⟨_, rfl, by push_cast; rfl, hn⟩) (by
    rintro x ⟨rfl, hn⟩
    rw [List.drop_length] at hn
    refine ⟨.inl (), ?_, hn⟩
    unfold slices_Index_Lstring_string_b2
    exact if_neg (by simp))
  rw [g1, Option.bind_some]
  cases r with
  | inl u => show some (-1 : Int) = _; rw [show idxL n l 0 = -1 from g2]
  | inr v => show some v = _; rw [show idxL n l 0 = v from g2]
theorem contains_eq' (l : List (List UInt8)) (n : List UInt8) (h : l.length ≤ 9223372036854775806) : slices_Contains_Lstring_string l n = some (decide (n ∈ l)) := by
  unfold slices_Contains_Lstring_string
  rw [index_eq l n h, Option.bind_some]
  simp only [idxL_ge n l 0 (by omega)]
def paramF (m : GMacro) (n : List UInt8) : Int := if (m.variadic && decide (n = vaN)) = true then (m.params.length : Int) else idxL n m.params 0
theorem mparam_eq (m : GMacro) (n : List UInt8) (h : m.params.length ≤ 9223372036854775806) : macro_Param m n = some (paramF m n) := by
  unfold macro_Param paramF
  rw [andO_some, Option.bind_some, index_eq _ _ h, Option.bind_some]
  show (if (m.variadic && decide (n = vaN)) = true then _ else _) = _
  split <;> rfl
theorem rparam_eq (m : GMacro) (n : List UInt8) (h : m.params.length ≤ 9223372036854775806) : emendref06_Param m n = some (paramF m n) := by
  unfold emendref06_Param paramF
  rw [andO_some, Option.bind_some]
  show (if (m.variadic && decide (n = vaN)) = true then _ else _) = _
  split
  · rfl
  obtain ⟨r, g1, g2⟩ := loopS_ix (f := emendref06_Param_b2 m n) m.params.length (by omega) (fun k x => x = (k : Int) ∧ idxL n m.params 0 = idxL n (m.params.drop k) k) (fun r => idxR r (idxL n m.params 0)) (s0 := (0 : Int)) ⟨rfl, rfl⟩ (by
    rintro k x hk ⟨rfl, hn⟩
    rw [idxL_step hk] at hn
    unfold emendref06_Param_b2
    rw [if_pos (decide_eq_true (by omega)), ix_at hk, Option.bind_some]
    by_cases e : n = m.params[k]
    · right
      rw [if_pos e] at hn
      rw [if_pos (decide_eq_true e.symm)]
      exact ⟨_, rfl, hn⟩
    · left
      rw [if_neg e] at hn
      rw [if_neg (by simpa using fun q => e q.symm), chkT (by omega)]
      exact ⟨_, rfl, by push_cast; rfl, hn⟩) (by
    rintro x ⟨rfl, hn⟩
    rw [List.drop_length] at hn
    refine ⟨.inl (), ?_, hn⟩
    unfold emendref06_Param_b2
    exact if_neg (by simp))
  rw [g1, Option.bind_some]
  cases r with
  | inl u => show some (-1 : Int) = _; rw [show idxL n m.params 0 = -1 from g2]
  | inr v => show some v = _; rw [show idxL n m.params 0 = v from g2]

/-! ### parameters -/
def dots : List UInt8 := [46, 46, 46]
def paramsL : List GTok → List (List UInt8) → Option (List (List UInt8) × Bool × List GTok)
  | [], _ => none
  | t :: r, ps =>
    if isP dots t = true then (if headP [41] r = true then some (ps, true, r.drop 1) else none)
    else if t.kind ≠ 1 ∨ t.text = vaN ∨ t.text ∈ ps then none
    else match r with
      | [] => none
      | u :: r' => if isP [44] u = true then paramsL r' (ps ++ [t.text]) else if isP [41] u = true then some (ps ++ [t.text], false, r') else none
abbrev PB := Sum (GMacro_reader × GMacro) (Sum Int (Unit × GMacro_reader × GMacro))
def paramsB : List GTok → GMacro → PB
  | [], _ => .inr (.inl 61)
  | t :: r, m =>
    if isP dots t = true then .inl (⟨r⟩, ⟨m.name, m.func, m.params, true, m.body⟩)
    else if t.kind ≠ 1 ∨ t.text = vaN ∨ t.text ∈ m.params then .inr (.inl 61)
    else match r with
      | [] => .inl (⟨[]⟩, ⟨m.name, m.func, m.params ++ [t.text], m.variadic, m.body⟩)
      | u :: r' => if isP [44] u = true then paramsB r' ⟨m.name, m.func, m.params ++ [t.text], m.variadic, m.body⟩ else .inl (⟨u :: r'⟩, ⟨m.name, m.func, m.params ++ [t.text], m.variadic, m.body⟩)
theorem paramsB_cons (t : GTok) (r : List GTok) (m : GMacro) : paramsB (t :: r) m = if isP dots t = true then .inl (⟨r⟩, ⟨m.name, m.func, m.params, true, m.body⟩)
    else if t.kind ≠ 1 ∨ t.text = vaN ∨ t.text ∈ m.params then .inr (.inl 61)
    else match r with
      | [] => .inl (⟨[]⟩, ⟨m.name, m.func, m.params ++ [t.text], m.variadic, m.body⟩)
      | u :: r' => if isP [44] u = true then paramsB r' ⟨m.name, m.func, m.params ++ [t.text], m.variadic, m.body⟩ else .inl (⟨u :: r'⟩, ⟨m.name, m.func, m.params ++ [t.text], m.variadic, m.body⟩) := by
  rw [paramsB.eq_def]
theorem paramsL_cons (t : GTok) (r : List GTok) (ps : List (List UInt8)) : paramsL (t :: r) ps = if isP dots t = true then (if headP [41] r = true then some (ps, true, r.drop 1) else none)
    else if t.kind ≠ 1 ∨ t.text = vaN ∨ t.text ∈ ps then none
    else match r with
      | [] => none
      | u :: r' => if isP [44] u = true then paramsL r' (ps ++ [t.text]) else if isP [41] u = true then some (ps ++ [t.text], false, r') else none := by
  rw [paramsL.eq_def]
theorem mparams_loop (l : List GTok) (m : GMacro) (h : m.params.length + l.length ≤ 2800000000000) : loopS macro_reader_params_b2 (⟨l⟩, m) = some (paramsB l m) := by
  refine loopS_of (f := macro_reader_params_b2) (fun x => x.2.params.length + x.1.l.length ≤ 2800000000000) (fun x => x.1.l.length) (fun x => paramsB x.1.l x.2) (s := (⟨l⟩, m)) h (by simp only; omega) ?_
  rintro ⟨⟨l⟩, m⟩ hi
  simp only at hi
  unfold macro_reader_params_b2
  simp only [mtakes_eq, Option.bind_some]
  cases l with
  | nil => right; rfl
  | cons t r =>
    simp only [List.length_cons] at hi
    rw [show headP ([46, 46, 46] : List UInt8) (t :: r) = isP dots t from rfl]
    rw [paramsB_cons]
    by_cases hd : isP dots t = true
    · right; rw [if_pos hd, if_pos hd, if_pos hd]; rfl
    rw [if_neg hd, if_neg hd, if_neg hd]
    simp only [mword_eq, Option.bind_some, wordF]
    by_cases hk : t.kind = 1
    · rw [if_pos hk]
      simp only [oR, contains_eq' m.params _ (by omega), Option.bind_some, andO_some, need_eq]
      by_cases hv : t.text = vaN ∨ t.text ∈ m.params
      · right
        have e1 : (!decide (t.text = ([95, 95, 86, 65, 95, 65, 82, 71, 83, 95, 95] : List UInt8)) && !decide (t.text ∈ m.params)) = false := by
          rcases hv with hv | hv
          · rw [show decide (t.text = ([95, 95, 86, 65, 95, 65, 82, 71, 83, 95, 95] : List UInt8)) = true from decide_eq_true hv]; rfl
          · rw [decide_eq_true hv]; simp
        rw [e1, if_neg (by simp), oL, if_pos (.inr hv)]
      · have e1 : (!decide (t.text = ([95, 95, 86, 65, 95, 65, 82, 71, 83, 95, 95] : List UInt8)) && !decide (t.text ∈ m.params)) = true := by
          rw [show decide (t.text = ([95, 95, 86, 65, 95, 65, 82, 71, 83, 95, 95] : List UInt8)) = false from decide_eq_false fun e => hv (.inl e), decide_eq_false fun e => hv (.inr e)]; rfl
        have e2 : ¬ (t.kind ≠ 1 ∨ t.text = vaN ∨ t.text ∈ m.params) := fun h => h.elim (fun h => h hk) hv
        rw [e1, if_pos rfl, oR, chkT (by omega), if_neg e2]
        cases r with
        | nil => right; rfl
        | cons u r' =>
          rw [mtakes_eq, Option.bind_some, show headP ([44] : List UInt8) (u :: r') = isP [44] u from rfl]
          by_cases hc : isP [44] u = true
          · left
            rw [hc, if_neg (by simp), if_pos rfl]
            refine ⟨(⟨r'⟩, ⟨m.name, m.func, m.params ++ [t.text], m.variadic, m.body⟩), rfl, ?_, ?_, ?_⟩
            · simp only [List.length_append, List.length_cons, List.length_nil] at hi ⊢; omega
            · simp only [List.length_cons]; omega
            · simp only [hc, if_true]
          · right
            rw [Bool.eq_false_iff.2 hc, if_pos (by rfl)]
            simp only [hc, if_false, Bool.false_eq_true]
    · right
      rw [if_neg hk, if_pos (.inl hk)]; rfl
def paramsE (m : GMacro) : Option (List (List UInt8) × Bool × List GTok) → Sum Int (Unit × GMacro_reader × GMacro)
  | none => .inl 61
  | some (ps, v, r) => .inr ((), ⟨r⟩, ⟨m.name, m.func, ps, v, m.body⟩)
def paramsJ : PB → Sum Int (Unit × GMacro_reader × GMacro)
  | .inl (⟨r⟩, m) => if headP [41] r = true then .inr ((), ⟨r.drop 1⟩, m) else .inl 61
  | .inr x => x
theorem paramsJ_eq (n : Nat) : ∀ (l : List GTok) (m : GMacro), l.length ≤ n → m.variadic = false → paramsJ (paramsB l m) = paramsE m (paramsL l m.params) := by
  induction n with
  | zero => intro l m hl hv; cases l with | nil => rfl | cons t r => simp at hl
  | succ n ih =>
    intro l m hl hv
    cases l with
    | nil => rfl
    | cons t r =>
      rw [paramsB_cons, paramsL_cons]
      by_cases hd : isP dots t = true
      · rw [if_pos hd, if_pos hd]
        unfold paramsJ
        simp only []
        split <;> rfl
      rw [if_neg hd, if_neg hd]
      by_cases hk : t.kind ≠ 1 ∨ t.text = vaN ∨ t.text ∈ m.params
      · rw [if_pos hk, if_pos hk]; rfl
      rw [if_neg hk, if_neg hk]
      cases r with
      | nil => rfl
      | cons u r' =>
        simp only []
        by_cases hc : isP [44] u = true
        · rw [if_pos hc, if_pos hc]
          rw [ih r' ⟨m.name, m.func, m.params ++ [t.text], m.variadic, m.body⟩ (by simp only [List.length_cons] at hl; omega) hv]
          cases paramsL r' (m.params ++ [t.text]) <;> rfl
        · rw [if_neg hc, if_neg hc]
          unfold paramsJ
          simp only [headP]
          by_cases h4 : isP [41] u = true
          · simp only [h4, if_true]
            show _ = Sum.inr ((), _, _)
            rw [← hv]; rfl
          · simp only [h4, if_false, Bool.false_eq_true]; rfl
def paramsA (l : List GTok) : Option (List (List UInt8) × Bool × List GTok) := if headP [41] l = true then some ([], false, l.drop 1) else paramsL l []
theorem mparams_eq (l : List GTok) (m : GMacro) (h : l.length ≤ 2800000000000) (hv : m.variadic = false) (hp : m.params = []) : macro_reader_params ⟨l⟩ m = some (paramsE m (paramsA l)) := by
  unfold macro_reader_params paramsA
  rw [mtakes_eq, Option.bind_some]
  by_cases h4 : headP [41] l = true
  · simp only [h4, if_true]
    obtain ⟨a, b, c, d, e⟩ := m
    simp only at hp hv
    subst hp; subst hv; rfl
  · simp only [h4, if_false, Bool.false_eq_true]
    rw [mparams_loop l m (by rw [hp]; simpa using h), Option.bind_some]
    have hj := paramsJ_eq l.length l m (Nat.le_refl _) hv
    rw [hp] at hj
    rw [← hj]
    cases paramsB l m with
    | inr x => rfl
    | inl x =>
      obtain ⟨⟨r⟩, m'⟩ := x
      show macro_reader_params_j1 (⟨r⟩, m') = _
      unfold macro_reader_params_j1
      simp only [mtakes_eq, Option.bind_some, need_eq, paramsJ]
      by_cases h5 : headP [41] r = true
      · simp only [h5, if_true]; rfl
      · simp only [h5, if_false, Bool.false_eq_true]; rfl
end Go.Sh
