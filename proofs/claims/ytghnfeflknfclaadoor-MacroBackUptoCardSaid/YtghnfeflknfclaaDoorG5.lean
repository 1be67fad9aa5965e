/-
  Macros that are the same; the laws of definitions. No program in sight.
-/
import Derived.Test.YtghnfeflknfclaaDoorG4
import Derived.Test.YtghnfeflknfclaaDoorA8
set_option linter.unusedVariables false
set_option linter.unusedSimpArgs false
namespace Go.Sh
open Go
theorem equal_eq (a b : List (List UInt8)) (h : a.length ≤ 9223372036854775806) : slices_Equal_Lstring_string a b = some (decide (a = b)) := by
  unfold slices_Equal_Lstring_string
  by_cases hl : a.length = b.length
  · rw [if_neg (by rw [decide_eq_true (by omega)]; simp)]
    rw [loopS_same (f := slices_Equal_Lstring_string_b2 a b) a b id false h hl (fun k hk hk2 => by
      unfold slices_Equal_Lstring_string_b2
      rw [if_pos (decide_eq_true (by omega)), ix_at hk, Option.bind_some, ix_at hk2, Option.bind_some, chkT (by omega)]
      by_cases e : a[k] = b[k]
      · rw [if_neg (by rw [decide_eq_true e]; simp), if_pos (by exact e)]; push_cast; rfl
      · rw [if_pos (by rw [decide_eq_false e]; rfl), if_neg (by exact e)]) (by
      unfold slices_Equal_Lstring_string_b2
      exact if_neg (by simp)), Option.bind_some, List.map_id, List.map_id]
    by_cases e : a = b
    · rw [if_pos e, decide_eq_true e]; rfl
    · rw [if_neg e, decide_eq_false e]
  · rw [if_pos (by rw [decide_eq_false (by omega)]; rfl), decide_eq_false (fun e => hl (by rw [e]))]
theorem bare_eq (l : List GTok) (h : l.length ≤ 2513169434916) : emendref06_bare l = some (clear l) := by
  unfold emendref06_bare
  rw [chkT (by simp only [List.length_nil]; omega), List.nil_append]
  cases l with
  | nil => rw [if_neg (by simp)]; rfl
  | cons t r => rw [if_pos (len_pos t r), ix0, Option.bind_some]; rfl
def sameF (a b : GMacro) : Bool := decide (a.name = b.name) && (a.func == b.func) && (a.variadic == b.variadic) && decide (a.params = b.params) && decide ((clear a.body).map tk = (clear b.body).map tk)
theorem sameF_self (a : GMacro) : sameF a a = true := by simp [sameF]
theorem clear_tk (l : List GTok) (k : Nat) (h : k < (clear l).length) (h2 : k < l.length) : tk (clear l)[k] = (l[k].kind, l[k].text, decide (0 < k) && l[k].blank) := by
  cases l with
  | nil => simp at h2
  | cons t r =>
    cases k with
    | zero => rfl
    | succ k => simp [clear, tk]
theorem msame_eq (a b : GMacro) (h : a.params.length ≤ 9223372036854775806) (hb : a.body.length ≤ 9223372036854775806) : macro_Same a b = some (sameF a b) := by
  unfold macro_Same sameF
  rw [orO_some, Option.bind_some, orO_some, Option.bind_some, equal_eq _ _ h, Option.bind_some, orO_some, Option.bind_some, orO_some, Option.bind_some]
  by_cases hc : a.name = b.name ∧ a.func = b.func ∧ a.variadic = b.variadic ∧ a.params = b.params ∧ a.body.length = b.body.length
  · obtain ⟨h1, h2, h3, h4, h5⟩ := hc
    rw [if_neg (by rw [decide_eq_true h1, h2, h3, decide_eq_true h4, decide_eq_true (show ((a.body.length : Int) = (b.body.length : Int)) by omega)]; simp)]
    rw [loopS_same (f := macro_Same_b2 a b) (clear a.body) (clear b.body) tk false (by rw [clear_len]; exact hb) (by rw [clear_len, clear_len, h5]) (fun k hk hk2 => by
      have hk' : k < a.body.length := by rw [clear_len] at hk; exact hk
      have hk2' : k < b.body.length := by rw [clear_len] at hk2; exact hk2
      unfold macro_Same_b2
      rw [if_pos (decide_eq_true (by omega)), ix_at hk', Option.bind_some, ix_at hk2', Option.bind_some, orO_some, Option.bind_some, andO_some, Option.bind_some, orO_some, Option.bind_some, chkT (by omega), clear_tk _ _ hk hk', clear_tk _ _ hk2 hk2']
      simp only [Prod.mk.injEq]
      by_cases e : (a.body[k].kind = b.body[k].kind ∧ a.body[k].text = b.body[k].text ∧ (decide (0 < k) && a.body[k].blank) = (decide (0 < k) && b.body[k].blank))
      · rw [if_pos e]
        obtain ⟨e1, e2, e3⟩ := e
        have e4 : (decide ((0 : Int) < (k : Int)) && !(a.body[k].blank == b.body[k].blank)) = false := by
          rw [show decide ((0 : Int) < (k : Int)) = decide (0 < k) by simp]
          cases hd : decide (0 < k) with
          | false => rfl
          | true =>
            rw [hd] at e3
            simp only [Bool.true_and] at e3 ⊢
            rw [e3]; simp
        rw [if_neg (by rw [decide_eq_true e1, decide_eq_true e2, e4]; simp)]
        push_cast; rfl
      · rw [if_neg e]
        have e4 : ((!decide (a.body[k].kind = b.body[k].kind)) || (!decide (a.body[k].text = b.body[k].text)) || (decide ((0 : Int) < (k : Int)) && !(a.body[k].blank == b.body[k].blank))) = true := by
          rw [show decide ((0 : Int) < (k : Int)) = decide (0 < k) by simp]
          by_cases e1 : a.body[k].kind = b.body[k].kind
          · by_cases e2 : a.body[k].text = b.body[k].text
            · rw [decide_eq_true e1, decide_eq_true e2]
              have e3 : (decide (0 < k) && a.body[k].blank) ≠ (decide (0 < k) && b.body[k].blank) := fun q => e ⟨e1, e2, q⟩
              revert e3
              cases decide (0 < k) <;> cases a.body[k].blank <;> cases b.body[k].blank <;> simp
            · rw [decide_eq_false e2]; simp
          · rw [decide_eq_false e1]; simp
        rw [if_pos e4]) (by
      unfold macro_Same_b2
      rw [clear_len]
      exact if_neg (by simp)), Option.bind_some]
    rw [decide_eq_true h1, h2, h3, decide_eq_true h4]
    by_cases e : (clear a.body).map tk = (clear b.body).map tk
    · rw [if_pos e, decide_eq_true e]; simp [macro_Same_j1]
    · rw [if_neg e, decide_eq_false e]; simp
  · have e0 : (!decide (a.name = b.name) || !(a.func == b.func) || !(a.variadic == b.variadic) || !decide (a.params = b.params) || !decide ((a.body.length : Int) = (b.body.length : Int))) = true := by
      by_cases h1 : a.name = b.name
      · by_cases h2 : a.func = b.func
        · by_cases h3 : a.variadic = b.variadic
          · by_cases h4 : a.params = b.params
            · rw [decide_eq_false (show ¬ ((a.body.length : Int) = (b.body.length : Int)) from fun q => hc ⟨h1, h2, h3, h4, by omega⟩)]; simp
            · rw [decide_eq_false h4]; simp
          · have : (a.variadic == b.variadic) = false := by simpa using h3
            rw [this]; simp
        · have : (a.func == b.func) = false := by simpa using h2
          rw [this]; simp
      · rw [decide_eq_false h1]; simp
    rw [if_pos e0]
    have e1 : ¬ (decide (a.name = b.name) && (a.func == b.func) && (a.variadic == b.variadic) && decide (a.params = b.params) && decide ((clear a.body).map tk = (clear b.body).map tk)) = true := by
      intro q
      simp only [Bool.and_eq_true, decide_eq_true_eq, beq_iff_eq] at q
      obtain ⟨⟨⟨⟨q1, q2⟩, q3⟩, q4⟩, q5⟩ := q
      have := congrArg List.length q5
      rw [List.length_map, List.length_map, clear_len, clear_len] at this
      exact hc ⟨q1, q2, q3, q4, this⟩
    rw [Bool.not_eq_true] at e1
    rw [e1]
theorem rsameM_eq (a b : GMacro) (h : a.params.length ≤ 9223372036854775806) (hb : a.body.length ≤ 2513169434916) (hb2 : b.body.length ≤ 2513169434916) : emendref06_Same a b = some (sameF a b) := by
  unfold emendref06_Same sameF
  rw [orO_some, Option.bind_some, orO_some, Option.bind_some, orO_some, Option.bind_some]
  have hj : emendref06_Same_j1 a b () = some (decide ((clear a.body).map tk = (clear b.body).map tk)) := by
    unfold emendref06_Same_j1
    rw [bare_eq _ hb, Option.bind_some, bare_eq _ hb2, Option.bind_some, ralike_eq _ _ (by rw [clear_len]; omega), Option.bind_some]
  by_cases hc : a.name = b.name ∧ a.func = b.func ∧ a.variadic = b.variadic ∧ a.params.length = b.params.length
  · obtain ⟨h1, h2, h3, h4⟩ := hc
    rw [if_neg (by rw [decide_eq_true h1, h2, h3, decide_eq_true (show ((a.params.length : Int) = (b.params.length : Int)) by omega)]; simp)]
    rw [loopS_same (f := emendref06_Same_b2 a b) a.params b.params id false h h4 (fun k hk hk2 => by
      unfold emendref06_Same_b2
      rw [if_pos (decide_eq_true (by omega)), ix_at hk, Option.bind_some, ix_at hk2, Option.bind_some, chkT (by omega)]
      by_cases e : a.params[k] = b.params[k]
      · rw [if_neg (by rw [decide_eq_true e]; simp), if_pos (by exact e)]; push_cast; rfl
      · rw [if_pos (by rw [decide_eq_false e]; rfl), if_neg (by exact e)]) (by
      unfold emendref06_Same_b2
      exact if_neg (by simp)), Option.bind_some, List.map_id, List.map_id, decide_eq_true h1, h2, h3]
    by_cases e : a.params = b.params
    · rw [if_pos e, decide_eq_true e]
      show emendref06_Same_j1 a b () = _
      rw [hj]; simp
    · rw [if_neg e, decide_eq_false e]; simp
  · have e0 : (!decide (a.name = b.name) || !(a.func == b.func) || !(a.variadic == b.variadic) || !decide ((a.params.length : Int) = (b.params.length : Int))) = true := by
      by_cases h1 : a.name = b.name
      · by_cases h2 : a.func = b.func
        · by_cases h3 : a.variadic = b.variadic
          · rw [decide_eq_false (show ¬ ((a.params.length : Int) = (b.params.length : Int)) from fun q => hc ⟨h1, h2, h3, by omega⟩)]; simp
          · have : (a.variadic == b.variadic) = false := by simpa using h3
            rw [this]; simp
        · have : (a.func == b.func) = false := by simpa using h2
          rw [this]; simp
      · rw [decide_eq_false h1]; simp
    rw [if_pos e0]
    have e1 : ¬ (decide (a.name = b.name) && (a.func == b.func) && (a.variadic == b.variadic) && decide (a.params = b.params) && decide ((clear a.body).map tk = (clear b.body).map tk)) = true := by
      intro q
      simp only [Bool.and_eq_true, decide_eq_true_eq, beq_iff_eq] at q
      obtain ⟨⟨⟨⟨q1, q2⟩, q3⟩, q4⟩, q5⟩ := q
      exact hc ⟨q1, q2, q3, by rw [q4]⟩
    rw [Bool.not_eq_true] at e1
    rw [e1]
/-! ### sizes -/
theorem withBody_inr {m m' : GMacro} (h : withBody m = .inr m') : m' = m := by
  unfold withBody at h
  split at h
  · cases h
  · injection h with h; exact h.symm
theorem defineS_cons (t : GTok) (rest : List GTok) : defineS (t :: rest) = if t.kind ≠ 1 ∨ t.text = dfN ∨ t.text = vaN then .inl 60
    else if (headP [40] rest && !headBlank rest) = true then (match paramsA (rest.drop 1) with
      | none => .inl 61
      | some (ps, v, r) => withBody ⟨t.text, true, ps, v, clear r⟩)
    else if rest = [] ∨ headBlank rest = true then withBody ⟨t.text, false, [], false, clear rest⟩
    else .inl 62 := rfl
theorem defineF_len (l : List GTok) : (defineF l).1.params.length ≤ l.length ∧ (defineF l).1.body.length ≤ l.length := by
  unfold defineF
  cases hS : defineS l with
  | inl e => exact ⟨Nat.zero_le _, Nat.zero_le _⟩
  | inr m =>
    simp only []
    cases l with
    | nil => cases hS
    | cons t rest =>
      rw [defineS_cons] at hS
      split at hS
      · cases hS
      split at hS
      · split at hS
        · cases hS
        · rename_i ps v r hA
          have := withBody_inr hS
          subst this
          have := paramsA_len hA
          simp only [List.length_drop, List.length_cons, clear_len] at this ⊢
          omega
      split at hS
      · have := withBody_inr hS
        subst this
        simp only [List.length_nil, List.length_cons, clear_len]; omega
      · cases hS
theorem awake6 : emendlaw06_awake = some true := by kernel_rfl
theorem define_eq (s : List UInt8) (h : s.length ≤ 2000000) : emendlaw06_define s = some (defineF (tokens 0 s)) := by
  have := tokens_len 0 s
  unfold emendlaw06_define
  rw [tokens_eq 0 s h, Option.bind_some, mdefine_eq _ (by omega), Option.bind_some]
theorem full_self (m : GMacro) (h : m.params.length ≤ 2513169434916) (hb : m.body.length ≤ 2513169434916) : emendlaw06_full m m = some true := by
  unfold emendlaw06_full
  rw [rsameM_eq m m (by omega) hb hb, sameF_self, Option.bind_some, rsame_eq _ _ (by omega)]
  simp [andO]
theorem macroRaw_law (l : List GTok) (h : l.length ≤ 2513169434916) : emendlaw06_MacroRaw l = some true := by
  have hl := defineF_len l
  unfold emendlaw06_MacroRaw
  rw [awake6, Option.bind_some, mdefine_eq l h, Option.bind_some, rdefine_eq l h, Option.bind_some, full_self _ (by omega) (by omega)]
  simp [andO]
theorem macroDefines_law (s : List UInt8) : emendlaw06_MacroDefines s = some true := by
  unfold emendlaw06_MacroDefines
  rw [awake6, Option.bind_some]
  by_cases hs : 500 < s.length
  · rw [if_pos (decide_eq_true (by omega))]
  have ht := tokens_len 0 s
  have hl := defineF_len (tokens 0 s)
  rw [if_neg (by rw [decide_eq_false (by omega)]; simp), define_eq s (by omega), Option.bind_some, rtokens_eq 0 s (by omega), Option.bind_some, rdefine_eq _ (by omega), Option.bind_some, full_self _ (by omega) (by omega)]
  simp [andO]
end Go.Sh
