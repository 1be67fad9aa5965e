/-
  Parameters as they are written, told again. No program in sight.
-/
import Derived.Test.YtghnfeflknfclaaDoorG8
set_option linter.unusedVariables false
set_option linter.unusedSimpArgs false
namespace Go.Sh
open Go
def nmT (b : Bool) (x : List UInt8) : GTok := ⟨1, x, 0, 0, 0, b⟩
def opT (b : Bool) (s : List UInt8) : GTok := ⟨5, s, 0, 0, 0, b⟩
def tailT (bl : Bool) : List (List UInt8) → Bool → List GTok
  | [], false => [opT false [41]]
  | [], true => [opT false [44], opT bl dots, opT false [41]]
  | y :: r, v => opT false [44] :: nmT bl y :: tailT bl r v
def listT (bl : Bool) : List (List UInt8) → Bool → List GTok
  | [], false => [opT false [41]]
  | [], true => [opT false dots, opT false [41]]
  | x :: r, v => nmT false x :: tailT bl r v
def okL : List (List UInt8) → List (List UInt8) → Bool
  | [], _ => true
  | x :: r, ps => !decide (x = vaN ∨ x ∈ ps) && okL r (ps ++ [x])
theorem okL_iff : ∀ (l ps : List (List UInt8)), okL l ps = true ↔ (∀ x ∈ l, x ≠ vaN ∧ x ∉ ps) ∧ l.Nodup
  | [], ps => by simp [okL]
  | x :: r, ps => by
    unfold okL
    rw [Bool.and_eq_true, okL_iff r (ps ++ [x])]
    simp only [Bool.not_eq_true', decide_eq_false_iff_not, not_or, List.mem_cons, List.nodup_cons, List.mem_append, List.mem_singleton, List.not_mem_nil, or_false, forall_eq_or_imp]
    constructor
    · rintro ⟨h1, h2, h3⟩
      exact ⟨⟨h1, fun y hy => ⟨(h2 y hy).1, (h2 y hy).2.1⟩⟩, fun hx => (h2 x hx).2.2 rfl, h3⟩
    · rintro ⟨⟨h1, h2⟩, h3, h4⟩
      exact ⟨h1, fun y hy => ⟨(h2 y hy).1, (h2 y hy).2, fun e => h3 (e ▸ hy)⟩, h4⟩
theorem dots_nm (b : Bool) (x : List UInt8) : isP dots (nmT b x) = false := rfl
theorem params_tail (bl v : Bool) (X : List GTok) : ∀ (r : List (List UInt8)) (b : Bool) (x : List UInt8) (ps : List (List UInt8)), paramsL (nmT b x :: (tailT bl r v ++ X)) ps = if okL (x :: r) ps = true then some (ps ++ x :: r, v, X) else none := by
  intro r
  induction r with
  | nil =>
    intro b x ps
    rw [paramsL_cons, dots_nm, if_neg (by simp)]
    by_cases h : x = vaN ∨ x ∈ ps
    · rw [if_pos (.inr h), if_neg (by simp [okL, h])]
    · rw [if_neg (by rintro (q | q); exact q rfl; exact h q), if_pos (by simp [okL, h])]
      cases v with
      | false => rfl
      | true => rfl
  | cons y r ih =>
    intro b x ps
    rw [paramsL_cons, dots_nm, if_neg (by simp)]
    by_cases h : x = vaN ∨ x ∈ ps
    · rw [if_pos (.inr h), if_neg (by simp [okL, h])]
    · rw [if_neg (by rintro (q | q); exact q rfl; exact h q)]
      show (if isP [44] (opT false [44]) = true then paramsL (nmT bl y :: (tailT bl r v ++ X)) (ps ++ [x]) else _) = _
      rw [if_pos (show isP [44] (opT false [44]) = true by decide), ih]
      have e : okL (x :: y :: r) ps = okL (y :: r) (ps ++ [x]) := by
        show (!decide (x = vaN ∨ x ∈ ps) && okL (y :: r) (ps ++ [x])) = _
        rw [decide_eq_false h]; rfl
      rw [e, List.append_assoc]; rfl
theorem params_list (bl v : Bool) (X : List GTok) (names : List (List UInt8)) : paramsA (listT bl names v ++ X) = if okL names [] = true then some (names, v, X) else none := by
  unfold paramsA
  cases names with
  | nil => cases v <;> rfl
  | cons x r =>
    show (if headP [41] (nmT false x :: (tailT bl r v ++ X)) = true then _ else paramsL (nmT false x :: (tailT bl r v ++ X)) []) = _
    rw [if_neg (by show ¬ isP [41] (nmT false x) = true; exact fun h => by cases h), params_tail]; rfl
/-! ### as text -/
def tailS (sp : List UInt8) : List (List UInt8) → Bool → List UInt8 → List UInt8
  | [], false, X => 41 :: X
  | [], true, X => sp ++ (46 :: 46 :: 46 :: 41 :: X)
  | y :: r, v, X => sp ++ (y ++ tailS sp r v X)
def listS (sp : List UInt8) : List (List UInt8) → Bool → List UInt8 → List UInt8
  | [], false, X => 41 :: X
  | [], true, X => 46 :: 46 :: 46 :: 41 :: X
  | x :: r, v, X => x ++ tailS sp r v X
def SpB (sp : List UInt8) (bl : Bool) : Prop := (sp = [44] ∧ bl = false) ∨ (sp = [44, 32] ∧ bl = true)
theorem lex_sp {sp : List UInt8} {bl : Bool} (h : SpB sp bl) (R : List UInt8) (i : Nat) : ∃ j, (toks i false (sp ++ R)).map ptk = (5, [44], false) :: (toks j bl R).map ptk := by
  rcases h with ⟨rfl, rfl⟩ | ⟨rfl, rfl⟩
  · exact ⟨i + 1, by show (toks i false (44 :: R)).map ptk = _; rw [toks_comma]; rfl⟩
  · exact ⟨i + 1 + 1, by show (toks i false (44 :: 32 :: R)).map ptk = _; rw [toks_comma, toks_space]; rfl⟩
theorem sp_stops {sp : List UInt8} {bl : Bool} (h : SpB sp bl) (R : List UInt8) : Stops (sp ++ R) := by
  rcases h with ⟨rfl, rfl⟩ | ⟨rfl, rfl⟩ <;>
  · intro c X e
    injection e with e _
    subst e; decide
theorem tailS_stops {sp : List UInt8} {bl : Bool} (h : SpB sp bl) (r : List (List UInt8)) (v : Bool) (X : List UInt8) : Stops (tailS sp r v X) := by
  cases r with
  | nil =>
    cases v with
    | false => intro c Y e; injection e with e _; subst e; decide
    | true => exact sp_stops h _
  | cons y r => exact sp_stops h _
theorem lex_tail {sp : List UInt8} {bl : Bool} (h : SpB sp bl) (v : Bool) (X : List UInt8) : ∀ (r : List (List UInt8)) (i : Nat), (∀ y ∈ r, Word y) → ∃ j, (toks i false (tailS sp r v X)).map ptk = (tailT bl r v).map tk ++ (toks j false X).map ptk
  | [], i, _ => by
    cases v with
    | false => exact ⟨i + 1, by show (toks i false (41 :: X)).map ptk = _; rw [toks_close]; rfl⟩
    | true =>
      obtain ⟨j, hj⟩ := lex_sp h (46 :: 46 :: 46 :: 41 :: X) i
      refine ⟨j + 3 + 1, ?_⟩
      show (toks i false (sp ++ (46 :: 46 :: 46 :: 41 :: X))).map ptk = _
      rw [hj, toks_dots, toks_close]; rfl
  | y :: r, i, hw => by
    obtain ⟨j, hj⟩ := lex_sp h (y ++ tailS sp r v X) i
    obtain ⟨k, hk⟩ := lex_tail h v X r (j + y.length) (fun z hz => hw z (by simp [hz]))
    refine ⟨k, ?_⟩
    show (toks i false (sp ++ (y ++ tailS sp r v X))).map ptk = _
    rw [hj, toks_word (hw y (by simp)) (tailS_stops h r v X), List.map_cons, hk]; rfl
theorem lex_list {sp : List UInt8} {bl : Bool} (h : SpB sp bl) (v : Bool) (X : List UInt8) (names : List (List UInt8)) (i : Nat) (hw : ∀ y ∈ names, Word y) : ∃ j, (toks i false (listS sp names v X)).map ptk = (listT bl names v).map tk ++ (toks j false X).map ptk := by
  cases names with
  | nil =>
    cases v with
    | false => exact ⟨i + 1, by show (toks i false (41 :: X)).map ptk = _; rw [toks_close]; rfl⟩
    | true => exact ⟨i + 3 + 1, by show (toks i false (46 :: 46 :: 46 :: 41 :: X)).map ptk = _; rw [toks_dots, toks_close]; rfl⟩
  | cons x r =>
    obtain ⟨k, hk⟩ := lex_tail h v X r (i + x.length) (fun z hz => hw z (by simp [hz]))
    refine ⟨k, ?_⟩
    show (toks i false (x ++ tailS sp r v X)).map ptk = _
    rw [toks_word (hw x (by simp)) (tailS_stops h r v X), List.map_cons, hk]; rfl
theorem tailS_eq (sp : List UInt8) (v : Bool) (X : List UInt8) : ∀ r : List (List UInt8), tailS sp r v X = Lib.joinTail sp r ++ ((if v = true then sp ++ dots else []) ++ 41 :: X)
  | [] => by cases v <;> simp [tailS, Lib.joinTail, dots]
  | y :: r => by
    have := tailS_eq sp v X r
    unfold Lib.joinTail at this ⊢
    show sp ++ (y ++ tailS sp r v X) = _
    rw [this]; simp
theorem listS_eq (sp : List UInt8) (v : Bool) (X : List UInt8) (names : List (List UInt8)) : listS sp names v X = Lib.join names sp ++ ((if v = true then (if names = [] then [] else sp) ++ dots else []) ++ 41 :: X) := by
  cases names with
  | nil => cases v <;> rfl
  | cons x r =>
    show x ++ tailS sp r v X = _
    rw [tailS_eq, Lib.join_cons, List.append_assoc]
    cases v <;> simp
theorem word_no92 {w : List UInt8} (h : Word w) : ∀ c ∈ w, c ≠ 92 := by
  obtain ⟨c, r, rfl, hc, hr⟩ := h
  intro x hx
  rcases List.mem_cons.1 hx with rfl | hx
  · rintro rfl; revert hc; decide
  · have := hr x hx
    rintro rfl; revert this; decide
/-- a definition with parameters, told: its tokens -/
theorem define_tokens {sp : List UInt8} {bl : Bool} (h : SpB sp bl) (nm : List UInt8) (hn : Word nm) (names : List (List UInt8)) (hw : ∀ y ∈ names, Word y) (v : Bool) (X : List UInt8) : ∃ j, (toks 0 false (nm ++ 40 :: listS sp names v X)).map ptk = (nmT false nm :: opT false [40] :: listT bl names v).map tk ++ (toks j false X).map ptk := by
  obtain ⟨j, hj⟩ := lex_list h v X names (0 + nm.length + 1) hw
  refine ⟨j, ?_⟩
  rw [toks_word hn (fun c Y e => by injection e with e _; subst e; decide), toks_open, List.map_cons, List.map_cons, hj]; rfl
/-- .. and what they define -/
theorem define_listed (nm : List UInt8) (h1 : nm ≠ dfN) (h2 : nm ≠ vaN) (bl : Bool) (names : List (List UInt8)) (v : Bool) (X : List GTok) : defineS (nmT false nm :: opT false [40] :: (listT bl names v ++ X)) = if okL names [] = true then withBody ⟨nm, true, names, v, clear X⟩ else .inl 61 := by
  rw [defineS_cons, if_neg (by rintro (q | q | q); exact q rfl; exact h1 q; exact h2 q), if_pos (show (headP [40] (opT false [40] :: (listT bl names v ++ X)) && !headBlank (opT false [40] :: (listT bl names v ++ X))) = true by rfl)]
  show (match paramsA (listT bl names v ++ X) with | none => _ | some (ps, v, r) => _) = _
  rw [params_list]
  by_cases h : okL names [] = true
  · rw [if_pos h, if_pos h]; rfl
  · rw [if_neg h, if_neg h]
end Go.Sh
