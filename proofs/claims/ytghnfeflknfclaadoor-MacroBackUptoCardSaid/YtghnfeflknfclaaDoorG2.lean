/-
  Definitions of macros: bodies, and the whole, by the code. No program in sight.
-/
import Derived.Test.YtghnfeflknfclaaDoorG1
set_option linter.unusedVariables false
set_option linter.unusedSimpArgs false
namespace Go.Sh
open Go
def argBad (m : GMacro) : List GTok → Bool
  | [] => true
  | u :: _ => !(decide (u.kind = 1) && decide (0 ≤ paramF m u.text))
def hashBad (m : GMacro) : List GTok → Bool
  | [] => false
  | t :: r => (isP [35] t && argBad m r) || hashBad m r
def isVa (t : GTok) : Bool := decide (t.kind = 1) && decide (t.text = vaN)
def lastP (s : List UInt8) (l : List GTok) : Bool := headP s (l.drop (l.length - 1))
def bodyE (m : GMacro) : Sum Int Unit :=
  if (headP [35, 35] m.body || lastP [35, 35] m.body) = true then .inl 63 else if (m.func && hashBad m m.body) = true then .inl 64 else if (!m.variadic && m.body.any isVa) = true then .inl 65 else .inr ()
theorem cf_eq (l : List GTok) (h : l.length ≤ 9223372036854775806) : slices_ContainsFunc_Lapi_Tok_api_Tok__macro_body_c1 l = some (l.any isVa) := by
  unfold slices_ContainsFunc_Lapi_Tok_api_Tok__macro_body_c1 slices_IndexFunc_Lapi_Tok_api_Tok__macro_body_c1
  obtain ⟨r, g1, g2⟩ := loopS_ix (f := slices_IndexFunc_Lapi_Tok_api_Tok__macro_body_c1_b2 l) l.length (by omega) (fun k x => x = (k : Int) ∧ (l.take k).any isVa = false) (fun r => (r = .inl () ∧ l.any isVa = false) ∨ ∃ k : Nat, r = .inr (k : Int) ∧ l.any isVa = true) (s0 := (0 : Int)) ⟨rfl, rfl⟩ (by
    rintro k x hk ⟨rfl, hn⟩
    unfold slices_IndexFunc_Lapi_Tok_api_Tok__macro_body_c1_b2 macro_body_c1
    rw [if_pos (decide_eq_true (by omega)), ix_at hk, Option.bind_some, andO_some, Option.bind_some, Option.bind_some]
    by_cases e : isVa l[k] = true
    · right
      exact ⟨_, if_pos e, .inr ⟨k, rfl, List.any_eq_true.2 ⟨l[k], List.getElem_mem hk, e⟩⟩⟩
    · left
      refine ⟨_, (if_neg e).trans (chkT (by omega)), by push_cast; rfl, ?_⟩
      rw [List.take_add_one, List.getElem?_eq_getElem hk, List.any_append, hn]
      simp [e]) (by
    rintro x ⟨rfl, hn⟩
    rw [List.take_length] at hn
    refine ⟨.inl (), ?_, .inl ⟨rfl, hn⟩⟩
    unfold slices_IndexFunc_Lapi_Tok_api_Tok__macro_body_c1_b2
    exact if_neg (by simp))
  rw [g1, Option.bind_some]
  rcases g2 with ⟨rfl, hn⟩ | ⟨k, rfl, hn⟩
  · rw [hn]; rfl
  · rw [hn]
    show some (decide ((0 : Int) ≤ (k : Int))) = some true
    rw [decide_eq_true (by omega)]
theorem hash_loop (m : GMacro) (l : List GTok) (h : l.length ≤ 2800000000000) (hp : m.params.length ≤ 9223372036854775806) : loopS (macro_body_b3 m) ⟨l⟩ = some (if (m.func && hashBad m l) = true then .inr (.inl 64) else .inl ()) := by
  refine loopS_of (f := macro_body_b3 m) (fun x => x.l.length ≤ 2800000000000) (fun x => x.l.length) (fun x => if (m.func && hashBad m x.l) = true then .inr (.inl 64) else .inl ()) (s := ⟨l⟩) h (by simp only; omega) ?_
  rintro ⟨l⟩ hi
  simp only at hi
  unfold macro_body_b3
  cases hf : m.func with
  | false => right; rfl
  | true =>
    simp only [andO_some, Option.bind_some, Bool.true_and]
    cases l with
    | nil => right; rfl
    | cons t r =>
      rw [if_pos (len_pos t r)]
      simp only [msign_eq, Option.bind_some, headP, hashBad]
      have hj : macro_body_j4 ⟨t :: r⟩ () = some (.next ⟨r⟩) := by
        unfold macro_body_j4
        rw [chkT (by simp only [List.length_cons]; omega)]; rfl
      by_cases hs : isP [35] t = true
      rotate_left
      · rw [Bool.not_eq_true] at hs
        left
        refine ⟨⟨r⟩, (if_neg (by simp [hs])).trans hj, by simp only [List.length_cons] at hi; show r.length ≤ _; omega, by show r.length < (t :: r).length; simp only [List.length_cons]; omega, ?_⟩
        simp only [hs, Bool.false_and, Bool.false_or]
      · have hs1 := hs
        have hb : (andO (decide ((1 : Int) < ((t :: r).length : Int))) ((ix (t :: r) 1).bind fun y_3 => some (decide (y_3.kind = 1)))).bind (fun b_2 => andO b_2 ((ix (t :: r) 1).bind fun y_4 => (macro_Param m y_4.text).bind fun r_8 => some (decide ((0 : Int) ≤ r_8)))) = some (!argBad m r) := by
          cases r with
          | nil => rfl
          | cons u r' =>
            simp only [len_pos2, ix1, Option.bind_some, andO_some, mparam_eq m _ hp, Bool.true_and, argBad, Bool.not_not]
        by_cases ha : argBad m r = true
        rotate_left
        · rw [Bool.not_eq_true] at ha
          left
          refine ⟨⟨r⟩, ?_, by simp only [List.length_cons] at hi; show r.length ≤ _; omega, by show r.length < (t :: r).length; simp only [List.length_cons]; omega, ?_⟩
          · refine (if_pos hs).trans ?_
            rw [← Option.bind_assoc, hb, ha, Option.bind_some, need_eq, Option.bind_some]
            exact hj
          · simp only [ha, Bool.and_false, Bool.false_or]
        · right
          refine (if_pos hs).trans ?_
          have hb2 := hb
          rw [ha] at hb2
          rw [← Option.bind_assoc, hb2, Option.bind_some, need_eq, Option.bind_some]
          have hfin : (isP [35] t && argBad m r || hashBad m r) = true := by rw [hs, ha]; rfl
          exact (congrArg (fun x => some (Step.done x)) (if_pos hfin)).symm
theorem mbody_eq (m : GMacro) (h : m.body.length ≤ 2800000000000) (hp : m.params.length ≤ 9223372036854775806) : macro_body m = some (bodyE m) := by
  have hj2 : macro_body_j2 m () = some (if (!m.variadic && m.body.any isVa) = true then .inl 65 else .inr ()) := by
    unfold macro_body_j2
    rw [cf_eq _ (by omega), Option.bind_some, orO_some, Option.bind_some, need_eq, Option.bind_some]
    cases m.variadic <;> cases m.body.any isVa <;> rfl
  have hj1 : ∀ r, r = (⟨m.body⟩ : GMacro_reader) ∨ True → macro_body_j1 m r = some (if (m.func && hashBad m m.body) = true then .inl 64 else if (!m.variadic && m.body.any isVa) = true then .inl 65 else .inr ()) := by
    intro r _
    unfold macro_body_j1
    rw [hash_loop m m.body h hp, Option.bind_some]
    by_cases hh : (m.func && hashBad m m.body) = true
    · rw [if_pos hh, if_pos hh]
    · rw [if_neg hh, if_neg hh]; exact hj2
  unfold macro_body bodyE lastP
  rw [msign_eq, Option.bind_some, need_eq, Option.bind_some]
  cases h1 : headP [35, 35] m.body with
  | true => rfl
  | false =>
    rw [if_pos (by rfl), oR]
    cases hb : m.body with
    | nil =>
      rw [if_neg (by simp)]
      rw [hj1 _ (.inr trivial), hb]; rfl
    | cons t r =>
      rw [if_pos (len_pos t r)]
      have e1 : ((((t :: r).length : Int) - 1).toNat) = (t :: r).length - 1 := by simp only [List.length_cons]; omega
      rw [hb] at h
      rw [chkT (by simp only [List.length_cons] at h ⊢; omega), chkT (by simp only [List.length_cons]; omega), msign_eq, Option.bind_some, need_eq, Option.bind_some, e1]
      cases h2 : headP [35, 35] ((t :: r).drop ((t :: r).length - 1)) with
      | true => rfl
      | false =>
        rw [if_pos (by rfl), oR, hj1 _ (.inr trivial), hb]; rfl
def clear : List GTok → List GTok
  | [] => []
  | t :: r => ⟨t.kind, t.text, t.file_, t.from_, t.to, false⟩ :: r
def headBlank : List GTok → Bool
  | [] => false
  | t :: _ => t.blank
def withBody (m : GMacro) : Sum Int GMacro := match bodyE m with | .inl e => .inl e | .inr _ => .inr m
def defineS : List GTok → Sum Int GMacro
  | [] => .inl 60
  | t :: rest => if t.kind ≠ 1 ∨ t.text = dfN ∨ t.text = vaN then .inl 60
    else if (headP [40] rest && !headBlank rest) = true then (match paramsA (rest.drop 1) with
      | none => .inl 61
      | some (ps, v, r) => withBody ⟨t.text, true, ps, v, clear r⟩)
    else if rest = [] ∨ headBlank rest = true then withBody ⟨t.text, false, [], false, clear rest⟩
    else .inl 62
def defineF (l : List GTok) : GMacro × Int := match defineS l with | .inl e => (zeroM, e) | .inr m => (m, 0)
theorem paramsL_len (n : Nat) : ∀ (l : List GTok) (ps ps' : List (List UInt8)) (v : Bool) (r : List GTok), l.length ≤ n → paramsL l ps = some (ps', v, r) → ps'.length + r.length ≤ ps.length + l.length := by
  induction n with
  | zero => intro l ps ps' v r hl h; cases l with | nil => cases h | cons t r => simp at hl
  | succ n ih =>
    intro l ps ps' v r0 hl h
    cases l with
    | nil => cases h
    | cons t r =>
      rw [paramsL_cons] at h
      split at h
      · split at h
        · injection h with h; injection h with h1 h; injection h with h2 h3
          subst h1; subst h3
          simp only [List.length_drop, List.length_cons]; omega
        · cases h
      split at h
      · cases h
      cases r with
      | nil => cases h
      | cons u r' =>
        simp only [] at h
        split at h
        · have := ih r' _ _ _ _ (by simp only [List.length_cons] at hl; omega) h
          simp only [List.length_append, List.length_cons, List.length_nil] at this ⊢; omega
        split at h
        · injection h with h; injection h with h1 h; injection h with h2 h3
          subst h1; subst h3
          simp only [List.length_append, List.length_cons, List.length_nil]; omega
        · cases h
theorem paramsA_len {l : List GTok} {ps : List (List UInt8)} {v : Bool} {r : List GTok} (h : paramsA l = some (ps, v, r)) : ps.length + r.length ≤ l.length := by
  unfold paramsA at h
  split at h
  · injection h with h; injection h with h1 h; injection h with h2 h3
    subst h1; subst h3
    simp only [List.length_drop, List.length_nil]; omega
  · have := paramsL_len l.length l [] ps v r (Nat.le_refl _) h
    simpa using this
theorem clear_len (l : List GTok) : (clear l).length = l.length := by cases l <;> rfl
theorem define_j2 (m : GMacro) (h : m.body.length ≤ 2800000000000) (hp : m.params.length ≤ 9223372036854775806) : macro_Define_in_j2 m = some (match withBody m with | .inl e => .inl e | .inr m => .inr ((), m, 0)) := by
  unfold macro_Define_in_j2 withBody
  rw [mbody_eq m h hp, Option.bind_some]
  cases bodyE m <;> rfl
theorem define_j1 (l r : List GTok) (m : GMacro) (h : r.length ≤ 2513169434916) (hp : m.params.length ≤ 9223372036854775806) : macro_Define_in_j1 l (⟨r⟩, m) = some (match withBody ⟨m.name, m.func, m.params, m.variadic, clear r⟩ with | .inl e => .inl e | .inr m => .inr ((), m, 0)) := by
  unfold macro_Define_in_j1
  simp only []
  rw [chkT (by omega)]
  cases r with
  | nil => rw [if_neg (by simp), define_j2 ⟨m.name, m.func, m.params, m.variadic, []⟩ (by simp) hp]; rfl
  | cons t r =>
    rw [if_pos (len_pos t r), ix0, Option.bind_some]
    exact define_j2 ⟨m.name, m.func, m.params, m.variadic, clear (t :: r)⟩ (by simp only [clear_len]; omega) hp
theorem mdefine_eq (l : List GTok) (h : l.length ≤ 2513169434916) : macro_Define l = some (defineF l) := by
  unfold macro_Define
  have key : macro_Define_in l = some (match defineS l with | .inl e => .inl e | .inr m => .inr ((), m, 0)) := by
    unfold macro_Define_in
    rw [mword_eq, Option.bind_some]
    cases l with
    | nil => rfl
    | cons t rest =>
      simp only [List.length_cons] at h
      simp only [wordF, defineS]
      by_cases hk : t.kind = 1
      rotate_left
      · rw [if_neg hk, if_pos (.inl hk)]; rfl
      rw [if_pos hk, oR]
      simp only [andO_some, Option.bind_some, need_eq]
      by_cases hn : t.text = dfN ∨ t.text = vaN
      · have e1 : (!decide (t.text = ([100, 101, 102, 105, 110, 101, 100] : List UInt8)) && !decide (t.text = ([95, 95, 86, 65, 95, 65, 82, 71, 83, 95, 95] : List UInt8))) = false := by
          rcases hn with hn | hn
          · rw [show decide (t.text = ([100, 101, 102, 105, 110, 101, 100] : List UInt8)) = true from decide_eq_true hn]; rfl
          · rw [show decide (t.text = ([95, 95, 86, 65, 95, 65, 82, 71, 83, 95, 95] : List UInt8)) = true from decide_eq_true hn]; simp
        rw [e1, if_neg (by simp), oL, if_pos (.inr hn)]
      have e1 : (!decide (t.text = ([100, 101, 102, 105, 110, 101, 100] : List UInt8)) && !decide (t.text = ([95, 95, 86, 65, 95, 65, 82, 71, 83, 95, 95] : List UInt8))) = true := by
        rw [show decide (t.text = ([100, 101, 102, 105, 110, 101, 100] : List UInt8)) = false from decide_eq_false fun e => hn (.inl e), show decide (t.text = ([95, 95, 86, 65, 95, 65, 82, 71, 83, 95, 95] : List UInt8)) = false from decide_eq_false fun e => hn (.inr e)]; rfl
      have e2 : ¬ (t.kind ≠ 1 ∨ t.text = dfN ∨ t.text = vaN) := fun q => q.elim (fun q => q hk) hn
      rw [e1, if_pos rfl, oR, if_neg e2, msign_eq, Option.bind_some]
      have e3 : andO (headP [40] rest) ((ix rest 0).bind fun y_3 => some (!y_3.blank)) = some (headP [40] rest && !headBlank rest) := by
        cases rest with
        | nil => rfl
        | cons u r => rw [ix0, Option.bind_some, andO_some]; rfl
      rw [e3, Option.bind_some]
      by_cases h4 : (headP [40] rest && !headBlank rest) = true
      · rw [if_pos h4, if_pos h4, mtakes_eq, Option.bind_some]
        have h5 : headP [40] rest = true := by simp only [Bool.and_eq_true] at h4; exact h4.1
        simp only [h5, if_true]
        rw [mparams_eq _ _ (by simp only [List.length_drop]; omega) rfl rfl, Option.bind_some]
        cases hA : paramsA (rest.drop 1) with
        | none => rfl
        | some x =>
          obtain ⟨ps, v, r⟩ := x
          have := paramsA_len hA
          simp only [List.length_drop] at this
          show macro_Define_in_j1 (t :: rest) (⟨r⟩, _) = _
          rw [define_j1 _ r _ (by omega) (by simp only; omega)]
      · rw [if_neg h4, if_neg h4]
        have e4 : orO (decide ((rest.length : Int) = 0)) ((ix rest 0).bind fun y_5 => some y_5.blank) = some (decide (rest = [] ∨ headBlank rest = true)) := by
          cases rest with
          | nil => rfl
          | cons u r =>
            rw [ix0, Option.bind_some, orO_some, decide_eq_false (by simp only [List.length_cons]; omega)]
            simp [headBlank]
        rw [e4, Option.bind_some]
        by_cases h6 : rest = [] ∨ headBlank rest = true
        · rw [if_pos (decide_eq_true h6), if_pos h6, oR]
          rw [define_j1 _ rest _ (by omega) (by simp)]
        · rw [if_neg (by simpa using h6), if_neg h6]; rfl
  rw [key, Option.bind_some]
  unfold defineF
  cases defineS l <;> rfl
end Go.Sh
