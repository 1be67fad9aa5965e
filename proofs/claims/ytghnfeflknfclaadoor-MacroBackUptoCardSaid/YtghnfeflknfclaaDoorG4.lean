/-
  Definitions of macros: the document's whole answer is the code's. No program in sight.
-/
import Derived.Test.YtghnfeflknfclaaDoorG3
set_option linter.unusedVariables false
set_option linter.unusedSimpArgs false
namespace Go.Sh
open Go
theorem headP_clear (s : List UInt8) (l : List GTok) : headP s (clear l) = headP s l := by cases l <;> rfl
theorem lastP_clear (s : List UInt8) (l : List GTok) : lastP s (clear l) = lastP s l := by
  unfold lastP
  rw [clear_len]
  cases l with
  | nil => rfl
  | cons t r =>
    cases r with
    | nil => rfl
    | cons u r' => rfl
theorem hashBad_clear (m : GMacro) (l : List GTok) : hashBad m (clear l) = hashBad m l := by cases l <;> rfl
theorem any_clear (l : List GTok) : (clear l).any isVa = l.any isVa := by cases l <;> rfl
theorem clear_take (l : List GTok) (k : Nat) (h : k < l.length) : (clear l).take (k + 1) = (clear l).take k ++ [if k = 0 then (⟨l[k].kind, l[k].text, l[k].file_, l[k].from_, l[k].to, false⟩ : GTok) else l[k]] := by
  rw [List.take_add_one]
  congr 1
  cases l with
  | nil => simp at h
  | cons t r =>
    cases k with
    | zero => rfl
    | succ k =>
      show ((r : List GTok)[k]?).toList = _
      have : k < r.length := by simpa using h
      rw [List.getElem?_eq_getElem this]; rfl
theorem rbuild (rest : List GTok) (m : GMacro) (h : rest.length ≤ 2513169434916) (hb : m.body = []) : loopS (emendref06_Define_b3 rest) (0, m) = some ⟨m.name, m.func, m.params, m.variadic, clear rest⟩ := by
  obtain ⟨r, g1, g2⟩ := loopS_ix (f := emendref06_Define_b3 rest) rest.length (by omega) (fun k x => x = ((k : Int), (⟨m.name, m.func, m.params, m.variadic, (clear rest).take k⟩ : GMacro))) (fun r => r = (⟨m.name, m.func, m.params, m.variadic, clear rest⟩ : GMacro)) (s0 := ((0 : Int), m)) (by
    rw [List.take_zero, ← hb]; rfl) (by
    rintro k x hk rfl
    left
    unfold emendref06_Define_b3
    simp only []
    rw [if_pos (decide_eq_true (by omega)), ix_at hk, Option.bind_some]
    have hl : ((clear rest).take k).length + 1 ≤ 2513169434916 := by rw [List.length_take]; omega
    refine ⟨_, ?_, rfl⟩
    rw [clear_take rest k hk]
    by_cases h0 : k = 0
    · subst h0
      rw [if_pos (by rfl)]
      unfold emendref06_Define_j4
      simp only []
      rw [chkT (by omega), chkT (by omega)]; rfl
    · rw [if_neg (by rw [decide_eq_false (by omega)]; simp)]
      unfold emendref06_Define_j4
      simp only []
      rw [chkT (by omega), chkT (by omega), if_neg h0]
      push_cast; rfl) (by
    rintro x rfl
    refine ⟨⟨m.name, m.func, m.params, m.variadic, (clear rest).take rest.length⟩, ?_, by rw [List.take_of_length_le (by rw [clear_len]; omega)]⟩
    unfold emendref06_Define_b3
    exact if_neg (by simp))
  rw [g1, g2]
theorem rhash (rest : List GTok) (m l0 : GMacro) (h : rest.length ≤ 2513169434916) (hp : m.params.length ≤ 9223372036854775806) : ∃ r, loopS (emendref06_Define_b7 rest m) (0, l0) = some r ∧ (if (m.func && hashBad m rest) = true then r = .inr (zeroM, 64) else ∃ y, r = .inl y) := by
  refine loopS_rel (f := emendref06_Define_b7 rest m) (fun x => ∃ k : Nat, x.1 = (k : Int) ∧ k ≤ rest.length ∧ hashBad m (rest.drop k) = hashBad m rest) (fun x => rest.length - x.1.toNat) (fun r => if (m.func && hashBad m rest) = true then r = .inr (zeroM, 64) else ∃ y, r = .inl y) (s := ((0 : Int), l0)) ⟨0, rfl, Nat.zero_le _, rfl⟩ (by simp only; omega) ?_
  rintro ⟨i, y⟩ ⟨k, rfl, hk, hh⟩
  unfold emendref06_Define_b7
  simp only [andO_some, Option.bind_some]
  cases hf : m.func with
  | false => right; exact ⟨.inl y, rfl, by rw [if_neg (by simp)]; exact ⟨y, rfl⟩⟩
  | true =>
    rw [← hh]
    simp only [Bool.true_and]
    rcases drop_cases rest k with ⟨h1, h2⟩ | ⟨t, h1, h2, h3⟩
    · right
      exact ⟨.inl y, if_neg (by rw [decide_eq_false (by omega)]; simp), by rw [h1, if_neg (by simp [hashBad])]; exact ⟨y, rfl⟩⟩
    have hc : (emendref06_sign rest k [35]).bind (fun r_5 => andO r_5 (chk (I64 ((k : Int) + 1)) ((orO (decide ((k : Int) + 1 = (rest.length : Int))) (chk (I64 ((k : Int) + 1)) ((ix rest ((k : Int) + 1)).bind fun y_8 => some (!decide (y_8.kind = 1))))).bind fun b_9 => (orO b_9 (chk (I64 ((k : Int) + 1)) ((ix rest ((k : Int) + 1)).bind fun y_9 => (emendref06_Param m y_9.text).bind fun r_6 => some (decide (r_6 < 0))))).bind fun b_10 => some b_10))) = some (isP [35] t && argBad m (rest.drop (k + 1))) := by
      rw [rsgn_eq rest k _ rfl, Option.bind_some, h2, chkT (by omega), chkT (by omega)]
      show andO (isP [35] t) _ = _
      rcases drop_cases rest (k + 1) with ⟨h4, h5⟩ | ⟨u, h4, h5, h6⟩
      · rw [h4, decide_eq_true (by omega)]
        cases isP [35] t <;> rfl
      · rw [h5, decide_eq_false (by omega), ix_of h6 (by push_cast; rfl)]
        simp only [Option.bind_some, orO_some, andO_some, chkB, rparam_eq m _ hp, argBad]
        rw [pk (by omega)]
        simp only [Option.bind_some, orO_some, andO_some, Bool.false_or]
        congr 2
        rw [Bool.not_and]
        congr 1
        by_cases hq : 0 ≤ paramF m u.text
        · rw [decide_eq_true hq, decide_eq_false (by omega)]; rfl
        · rw [decide_eq_false hq, decide_eq_true (by omega)]; rfl
    have hb : hashBad m (rest.drop k) = ((isP [35] t && argBad m (rest.drop (k + 1))) || hashBad m (rest.drop (k + 1))) := by rw [h2]; rfl
    rw [hb]
    by_cases hq : (isP [35] t && argBad m (rest.drop (k + 1))) = true
    · right
      refine ⟨.inr (zeroM, 64), (if_pos (decide_eq_true (by omega))).trans ?_, by rw [hq]; rfl⟩
      rw [← Option.bind_assoc, hc, hq]; rfl
    · rw [Bool.not_eq_true] at hq
      left
      refine ⟨(((k + 1 : Nat) : Int), y), (if_pos (decide_eq_true (by omega))).trans ?_, ⟨k + 1, rfl, by omega, ?_⟩, by simp only; omega⟩
      · rw [← Option.bind_assoc, hc, hq, Option.bind_some, if_neg (by simp), chkT (by omega)]
        push_cast; rfl
      · rw [hq, Bool.false_or]
theorem rva (rest : List GTok) (m l0 : GMacro) (h : rest.length ≤ 2513169434916) : ∃ r, loopS (emendref06_Define_b9 rest m) (0, l0) = some r ∧ (if (!m.variadic && rest.any isVa) = true then r = .inr (zeroM, 65) else ∃ y, r = .inl y) := by
  obtain ⟨r, g1, g2⟩ := loopS_ix (f := emendref06_Define_b9 rest m) rest.length (by omega) (fun k x => x = ((k : Int), l0) ∧ (!m.variadic && (rest.take k).any isVa) = false) (fun r => if (!m.variadic && rest.any isVa) = true then r = .inr (zeroM, 65) else ∃ y, r = .inl y) (s0 := ((0 : Int), l0)) ⟨rfl, by simp⟩ (by
    rintro k x hk ⟨rfl, hn⟩
    unfold emendref06_Define_b9
    simp only []
    rw [if_pos (decide_eq_true (by omega)), ix_at hk, Option.bind_some, Option.bind_some, andO_some, Option.bind_some, andO_some, Option.bind_some]
    by_cases e : (isVa rest[k] && !m.variadic) = true
    · right
      refine ⟨_, if_pos e, ?_⟩
      simp only [Bool.and_eq_true] at e
      rw [if_pos (by rw [e.2, List.any_eq_true.2 ⟨rest[k], List.getElem_mem hk, e.1⟩]; rfl)]
      rfl
    · left
      refine ⟨_, (if_neg e).trans (chkT (by omega)), by push_cast; rfl, ?_⟩
      rw [List.take_add_one, List.getElem?_eq_getElem hk, List.any_append]
      cases hv : m.variadic with
      | true => rfl
      | false =>
        rw [hv] at hn e
        simp only [Bool.not_false, Bool.true_and, Bool.and_true] at hn e
        rw [hn]
        simp [e]) (by
    rintro x ⟨rfl, hn⟩
    rw [List.take_length] at hn
    refine ⟨.inl l0, ?_, by rw [hn, if_neg (by simp)]; exact ⟨l0, rfl⟩⟩
    unfold emendref06_Define_b9
    exact if_neg (by simp))
  exact ⟨r, g1, g2⟩
theorem rdefine_j2 (rest : List GTok) (l0 m : GMacro) (hm : m.body = clear rest) (h : rest.length ≤ 2513169434916) (hp : m.params.length ≤ 9223372036854775806) : emendref06_Define_j2 rest l0 m = some (match withBody m with | .inl e => (zeroM, e) | .inr m => (m, 0)) := by
  have h5 : emendref06_Define_j5 rest m l0 = some (if (m.func && hashBad m rest) = true then (zeroM, 64) else if (!m.variadic && rest.any isVa) = true then (zeroM, 65) else (m, 0)) := by
    unfold emendref06_Define_j5
    obtain ⟨r, g1, g2⟩ := rhash rest m l0 h hp
    rw [g1, Option.bind_some]
    by_cases hh : (m.func && hashBad m rest) = true
    · rw [if_pos hh] at g2 ⊢
      rw [g2]
    · rw [if_neg hh] at g2 ⊢
      obtain ⟨y, rfl⟩ := g2
      show emendref06_Define_j6 rest m y = _
      unfold emendref06_Define_j6
      obtain ⟨r, g3, g4⟩ := rva rest m y h
      rw [g3, Option.bind_some]
      by_cases hv : (!m.variadic && rest.any isVa) = true
      · rw [if_pos hv] at g4 ⊢
        rw [g4]
      · rw [if_neg hv] at g4 ⊢
        obtain ⟨z, rfl⟩ := g4
        rfl
  have hw : (match withBody m with | .inl e => (zeroM, e) | .inr m => (m, 0)) = if (headP [35, 35] rest || lastP [35, 35] rest) = true then (zeroM, (63 : Int)) else if (m.func && hashBad m rest) = true then (zeroM, 64) else if (!m.variadic && rest.any isVa) = true then (zeroM, 65) else (m, 0) := by
    unfold withBody bodyE
    rw [hm, headP_clear, lastP_clear, hashBad_clear, any_clear]
    by_cases c1 : (headP [35, 35] rest || lastP [35, 35] rest) = true
    · rw [if_pos c1, if_pos c1]
    rw [if_neg c1, if_neg c1]
    by_cases c2 : (m.func && hashBad m rest) = true
    · rw [if_pos c2, if_pos c2]
    rw [if_neg c2, if_neg c2]
    by_cases c3 : (!m.variadic && rest.any isVa) = true
    · rw [if_pos c3, if_pos c3]
    rw [if_neg c3, if_neg c3]
  rw [hw]
  unfold emendref06_Define_j2
  cases hr : rest with
  | nil => rw [if_neg (by simp), ← hr, h5, hr]; rfl
  | cons t r =>
    rw [if_pos (len_pos t r), rsgn_eq _ 0 _ (i := 0) rfl, Option.bind_some, chkT (by rw [hr] at h; simp only [List.length_cons] at h ⊢; omega), rsgn_eq _ ((t :: r).length - 1) _ (by simp only [List.length_cons]; omega), Option.bind_some, orO_some, Option.bind_some, List.drop_zero]
    show (if (headP [35, 35] (t :: r) || lastP [35, 35] (t :: r)) = true then _ else _) = _
    by_cases hh : (headP [35, 35] (t :: r) || lastP [35, 35] (t :: r)) = true
    · rw [if_pos hh, if_pos hh]; rfl
    · rw [if_neg hh, if_neg hh, ← hr, h5]
theorem rdefine_j1 (rest : List GTok) (m l0 : GMacro) (hb : m.body = []) (h : rest.length ≤ 2513169434916) (hp : m.params.length ≤ 9223372036854775806) : emendref06_Define_j1 (rest, m, l0) = some (match withBody ⟨m.name, m.func, m.params, m.variadic, clear rest⟩ with | .inl e => (zeroM, e) | .inr m => (m, 0)) := by
  unfold emendref06_Define_j1
  simp only []
  rw [rbuild rest m h hb, Option.bind_some]
  exact rdefine_j2 rest l0 ⟨m.name, m.func, m.params, m.variadic, clear rest⟩ rfl h hp
theorem paramsL_drop (n : Nat) : ∀ (l : List GTok) (ps ps' : List (List UInt8)) (v : Bool) (r : List GTok), l.length ≤ n → paramsL l ps = some (ps', v, r) → r.length ≤ l.length ∧ l.drop (l.length - r.length) = r := by
  have key : ∀ (l r : List GTok) (a : List GTok), l = a ++ r → r.length ≤ l.length ∧ l.drop (l.length - r.length) = r := by
    rintro l r a rfl
    refine ⟨by simp, ?_⟩
    rw [List.length_append, Nat.add_sub_cancel, List.drop_left]
  have key2 : ∀ (l r : List GTok), r.length ≤ l.length → l.drop (l.length - r.length) = r → ∃ a, l = a ++ r := fun l r _ h => ⟨l.take (l.length - r.length), by conv => lhs; rw [← List.take_append_drop (l.length - r.length) l, h]⟩
  induction n with
  | zero => intro l ps ps' v r hl h; cases l with | nil => cases h | cons t r => simp at hl
  | succ n ih =>
    intro l ps ps' v r0 hl h
    cases l with
    | nil => cases h
    | cons t r =>
      rw [paramsL_cons] at h
      split at h
      · split at h
        · rename_i h5
          injection h with h; injection h with h1 h; injection h with h2 h3
          subst h3
          cases r with
          | nil => cases h5
          | cons u r' => exact key _ _ [t, u] rfl
        · cases h
      split at h
      · cases h
      cases r with
      | nil => cases h
      | cons u r' =>
        simp only [] at h
        split at h
        · obtain ⟨h1, h2⟩ := ih r' _ _ _ _ (by simp only [List.length_cons] at hl; omega) h
          obtain ⟨a, ha⟩ := key2 _ _ h1 h2
          exact key _ _ (t :: u :: a) (by rw [ha]; rfl)
        split at h
        · injection h with h; injection h with h1 h; injection h with h2 h3
          subst h3
          exact key _ _ [t, u] rfl
        · cases h
theorem paramsA_drop {l : List GTok} {ps : List (List UInt8)} {v : Bool} {r : List GTok} (h : paramsA l = some (ps, v, r)) : l.drop (l.length - r.length) = r := by
  unfold paramsA at h
  split at h
  · rename_i h5
    injection h with h; injection h with h1 h; injection h with h2 h3
    subst h3
    cases l with
    | nil => cases h5
    | cons t r => simp
  · exact (paramsL_drop l.length l [] ps v r (Nat.le_refl _) h).2
theorem rdefine_eq (l : List GTok) (h : l.length ≤ 2513169434916) : emendref06_Define l = some (defineF l) := by
  unfold emendref06_Define defineF
  cases l with
  | nil => rfl
  | cons t rest =>
    have h' : rest.length + 1 ≤ 2513169434916 := by simpa using h
    simp only [ix0, Option.bind_some, orO_some, defineS]
    rw [decide_eq_false (by simp only [List.length_cons]; omega : ¬ (((t :: rest).length : Int) = 0)), Bool.false_or]
    by_cases hb : t.kind ≠ 1 ∨ t.text = dfN ∨ t.text = vaN
    · rw [if_pos hb]
      have e1 : (!decide (t.kind = (1 : Int)) || decide (t.text = ([100, 101, 102, 105, 110, 101, 100] : List UInt8)) || decide (t.text = ([95, 95, 86, 65, 95, 65, 82, 71, 83, 95, 95] : List UInt8))) = true := by
        rcases hb with hb | hb | hb
        · rw [decide_eq_false hb]; rfl
        · rw [show decide (t.text = ([100, 101, 102, 105, 110, 101, 100] : List UInt8)) = true from decide_eq_true hb]; simp
        · rw [show decide (t.text = ([95, 95, 86, 65, 95, 65, 82, 71, 83, 95, 95] : List UInt8)) = true from decide_eq_true hb]; simp
      rw [if_pos e1]; rfl
    rw [if_neg hb]
    have e1 : (!decide (t.kind = (1 : Int)) || decide (t.text = ([100, 101, 102, 105, 110, 101, 100] : List UInt8)) || decide (t.text = ([95, 95, 86, 65, 95, 65, 82, 71, 83, 95, 95] : List UInt8))) = false := by
      rw [decide_eq_true (Classical.not_not.1 fun q => hb (.inl q)), show decide (t.text = ([100, 101, 102, 105, 110, 101, 100] : List UInt8)) = false from decide_eq_false fun q => hb (.inr (.inl q)), show decide (t.text = ([95, 95, 86, 65, 95, 65, 82, 71, 83, 95, 95] : List UInt8)) = false from decide_eq_false fun q => hb (.inr (.inr q))]; rfl
    rw [if_neg (by rw [e1]; simp), chkT (by simp only [List.length_cons]; omega)]
    have e2 : (t :: rest).drop ((1 : Int)).toNat = rest := rfl
    rw [e2, rsgn_eq rest 0 _ (i := 0) rfl, Option.bind_some, List.drop_zero]
    have e3 : andO (headP [40] rest) ((ix rest 0).bind fun y_5 => some (!y_5.blank)) = some (headP [40] rest && !headBlank rest) := by
      cases rest with
      | nil => rfl
      | cons u r => rw [ix0, Option.bind_some, andO_some]; rfl
    rw [e3, Option.bind_some]
    by_cases h4 : (headP [40] rest && !headBlank rest) = true
    · rw [if_pos h4, if_pos h4]
      have h5 : headP [40] rest = true := by simp only [Bool.and_eq_true] at h4; exact h4.1
      have h6 : 1 ≤ rest.length := by cases rest with | nil => cases h5 | cons u r => simp only [List.length_cons]; omega
      rw [chkT (by omega)]
      have e4 : rest.drop ((1 : Int)).toNat = rest.drop 1 := rfl
      rw [e4, rparams_eq _ (by simp only [List.length_drop]; omega), Option.bind_some]
      cases hA : paramsA (rest.drop 1) with
      | none => rfl
      | some x =>
        obtain ⟨ps, v, r⟩ := x
        have hl := paramsA_len hA
        have hd := paramsA_drop hA
        simp only [List.length_drop] at hl
        simp only [paramsR, List.length_drop]
        have e5 : ((((rest.length - 1 : Nat) : Int)) - (r.length : Int)) = ((rest.length - 1 - r.length : Nat) : Int) := by omega
        rw [e5, if_neg (by rw [decide_eq_false (by omega)]; simp), chkT (by omega), chkT (by omega)]
        have e6 : rest.drop (((1 : Int) + ((rest.length - 1 - r.length : Nat) : Int)).toNat) = r := by
          have e7 : (((1 : Int) + ((rest.length - 1 - r.length : Nat) : Int)).toNat) = 1 + (rest.length - 1 - r.length) := by omega
          rw [e7, ← List.drop_drop]
          have := hd
          rw [List.length_drop] at this
          exact this
        rw [e6]
        exact rdefine_j1 r ⟨t.text, true, ps, v, []⟩ _ rfl (by omega) (by simp only; omega)
    · rw [if_neg h4, if_neg h4]
      have e4 : andO (decide ((0 : Int) < (rest.length : Int))) ((ix rest 0).bind fun y_6 => some (!y_6.blank)) = some (!decide (rest = [] ∨ headBlank rest = true)) := by
        cases rest with
        | nil => rfl
        | cons u r =>
          rw [len_pos, ix0, Option.bind_some, andO_some]
          cases hu : u.blank <;> simp [headBlank, hu]
      rw [e4, Option.bind_some]
      by_cases h6 : rest = [] ∨ headBlank rest = true
      · rw [if_pos h6, if_neg (by rw [decide_eq_true h6]; simp)]
        exact rdefine_j1 rest ⟨t.text, false, [], false, []⟩ _ rfl (by omega) (by simp)
      · rw [if_neg h6, if_pos (by rw [decide_eq_false h6]; rfl)]; rfl
end Go.Sh
