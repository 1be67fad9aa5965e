/-
  Where tokens stand does not count for macros: the law MacroSame. No program in sight.
-/
import Derived.Test.YtghnfeflknfclaaDoorG6
import Derived.Test.YtghnfeflknfclaaDoorBX
set_option linter.unusedVariables false
set_option linter.unusedSimpArgs false
namespace Go.Sh
open Go
def norm (t : GTok) : GTok := ⟨t.kind, t.text, 0, 0, 0, t.blank⟩
def normM (m : GMacro) : GMacro := ⟨m.name, m.func, m.params, m.variadic, m.body.map norm⟩
def ofTk (x : Int × List UInt8 × Bool) : GTok := ⟨x.1, x.2.1, 0, 0, 0, x.2.2⟩
theorem norm_tk (l : List GTok) : l.map norm = (l.map tk).map ofTk := by rw [List.map_map]; rfl
theorem tk_norm (l : List GTok) : (l.map norm).map tk = l.map tk := by rw [List.map_map]; rfl
theorem headP_norm (s : List UInt8) (l : List GTok) : headP s (l.map norm) = headP s l := by cases l <;> rfl
theorem headBlank_norm (l : List GTok) : headBlank (l.map norm) = headBlank l := by cases l <;> rfl
theorem clear_norm (l : List GTok) : clear (l.map norm) = (clear l).map norm := by cases l <;> rfl
def normX (x : List (List UInt8) × Bool × List GTok) : List (List UInt8) × Bool × List GTok := (x.1, x.2.1, x.2.2.map norm)
theorem paramsL_norm (n : Nat) : ∀ (l : List GTok) (ps : List (List UInt8)), l.length ≤ n → paramsL (l.map norm) ps = (paramsL l ps).map normX := by
  induction n with
  | zero => intro l ps hl; cases l with | nil => rfl | cons t r => simp at hl
  | succ n ih =>
    intro l ps hl
    cases l with
    | nil => rfl
    | cons t r =>
      rw [List.map_cons, paramsL_cons, paramsL_cons]
      rw [show isP dots (norm t) = isP dots t from rfl, show (norm t).kind = t.kind from rfl, show (norm t).text = t.text from rfl, headP_norm]
      by_cases hd : isP dots t = true
      · rw [if_pos hd, if_pos hd]
        by_cases h4 : headP [41] r = true
        · rw [if_pos h4, if_pos h4]
          show some _ = some (ps, true, (r.drop 1).map norm)
          rw [List.map_drop]
        · rw [if_neg h4, if_neg h4]; rfl
      rw [if_neg hd, if_neg hd]
      by_cases hk : t.kind ≠ 1 ∨ t.text = vaN ∨ t.text ∈ ps
      · rw [if_pos hk, if_pos hk]; rfl
      rw [if_neg hk, if_neg hk]
      cases r with
      | nil => rfl
      | cons u r' =>
        simp only [List.map_cons]
        rw [show isP [44] (norm u) = isP [44] u from rfl, show isP [41] (norm u) = isP [41] u from rfl]
        by_cases hc : isP [44] u = true
        · rw [if_pos hc, if_pos hc]
          exact ih r' _ (by simp only [List.length_cons] at hl; omega)
        · rw [if_neg hc, if_neg hc]
          by_cases h4 : isP [41] u = true
          · rw [if_pos h4, if_pos h4]; rfl
          · rw [if_neg h4, if_neg h4]; rfl
theorem paramsA_norm (l : List GTok) : paramsA (l.map norm) = (paramsA l).map normX := by
  unfold paramsA
  rw [headP_norm]
  by_cases h4 : headP [41] l = true
  · rw [if_pos h4, if_pos h4]
    show some _ = some (_, _, (l.drop 1).map norm)
    rw [List.map_drop]
  · rw [if_neg h4, if_neg h4]
    exact paramsL_norm l.length l [] (Nat.le_refl _)
theorem hashBad_norm (m : GMacro) : ∀ l : List GTok, hashBad (normM m) (l.map norm) = hashBad m l
  | [] => rfl
  | t :: r => by
    rw [List.map_cons]
    unfold hashBad
    rw [hashBad_norm m r]
    cases r <;> rfl
theorem any_norm (l : List GTok) : (l.map norm).any isVa = l.any isVa := by rw [List.any_map]; rfl
theorem withBody_norm (m : GMacro) : withBody (normM m) = (withBody m).map id normM := by
  have h : bodyE (normM m) = bodyE m := by
    unfold bodyE
    rw [show (normM m).body = m.body.map norm from rfl, headP_norm, hashBad_norm, any_norm]
    have : lastP [35, 35] (m.body.map norm) = lastP [35, 35] m.body := by
      unfold lastP
      rw [List.length_map, ← List.map_drop, headP_norm]
    rw [this]; rfl
  unfold withBody
  rw [h]
  cases bodyE m <;> rfl
theorem defineS_norm (l : List GTok) : defineS (l.map norm) = (defineS l).map id normM := by
  cases l with
  | nil => rfl
  | cons t rest =>
    rw [List.map_cons, defineS_cons, defineS_cons]
    rw [show (norm t).kind = t.kind from rfl, show (norm t).text = t.text from rfl, headP_norm, headBlank_norm]
    by_cases hb : t.kind ≠ 1 ∨ t.text = dfN ∨ t.text = vaN
    · rw [if_pos hb, if_pos hb]; rfl
    rw [if_neg hb, if_neg hb]
    by_cases h4 : (headP [40] rest && !headBlank rest) = true
    · rw [if_pos h4, if_pos h4, ← List.map_drop, paramsA_norm]
      cases paramsA (rest.drop 1) with
      | none => rfl
      | some x =>
        obtain ⟨ps, v, r⟩ := x
        show withBody ⟨t.text, true, ps, v, clear (r.map norm)⟩ = _
        rw [clear_norm]
        exact withBody_norm ⟨t.text, true, ps, v, clear r⟩
    rw [if_neg h4, if_neg h4]
    by_cases h6 : rest = [] ∨ headBlank rest = true
    · rw [if_pos h6, if_pos (by simpa using h6), clear_norm]
      exact withBody_norm ⟨t.text, false, [], false, clear rest⟩
    · rw [if_neg h6, if_neg (by simpa using h6)]; rfl
/-- the head's blank does not count -/
theorem defineS_head (t : GTok) (b : Bool) (rest : List GTok) : defineS (⟨t.kind, t.text, t.file_, t.from_, t.to, b⟩ :: rest) = defineS (t :: rest) := rfl
def relS : Sum Int GMacro → Sum Int GMacro → Prop
  | .inl e, .inl f => e = f
  | .inr a, .inr b => normM a = normM b
  | _, _ => False
theorem relS_of {a b : Sum Int GMacro} (h : a.map id normM = b.map id normM) : relS a b := by
  cases a <;> cases b <;> simp [Sum.map, relS] at h ⊢ <;> exact h
theorem sameF_norm {a b : GMacro} (h : normM a = normM b) : sameF a b = true := by
  obtain ⟨a1, a2, a3, a4, a5⟩ := a
  obtain ⟨b1, b2, b3, b4, b5⟩ := b
  simp only [normM, GMacro.mk.injEq] at h
  obtain ⟨rfl, rfl, rfl, rfl, h⟩ := h
  have : (clear a5).map tk = (clear b5).map tk := by
    rw [← tk_norm (clear a5), ← tk_norm (clear b5), ← clear_norm, ← clear_norm, h]
  simp [sameF, this]
theorem defineF_rel {l1 l2 : List GTok} (h : relS (defineS l1) (defineS l2)) : (defineF l1).2 = (defineF l2).2 ∧ sameF (defineF l1).1 (defineF l2).1 = true := by
  unfold defineF
  cases h1 : defineS l1 with
  | inl e =>
    cases h2 : defineS l2 with
    | inl f => rw [h1, h2] at h; exact ⟨h, sameF_self _⟩
    | inr b => rw [h1, h2] at h; exact h.elim
  | inr a =>
    cases h2 : defineS l2 with
    | inl f => rw [h1, h2] at h; exact h.elim
    | inr b => rw [h1, h2] at h; exact ⟨rfl, sameF_norm h⟩
/-- tokens that are alike but for the first one's blank -/
def headRel : List (Int × List UInt8 × Bool) → List (Int × List UInt8 × Bool) → Prop
  | [], [] => True
  | x :: a, y :: b => x.1 = y.1 ∧ x.2.1 = y.2.1 ∧ a = b
  | _, _ => False
theorem rel_of_head {l1 l2 : List GTok} (h : headRel (l1.map tk) (l2.map tk)) : relS (defineS l1) (defineS l2) := by
  cases l1 with
  | nil => cases l2 with
    | nil => rfl
    | cons t r => exact h.elim
  | cons t r => cases l2 with
    | nil => exact h.elim
    | cons u r2 =>
      obtain ⟨h1, h2, h3⟩ := h
      refine relS_of ?_
      have e : r.map norm = r2.map norm := by rw [norm_tk, norm_tk]; exact congrArg _ h3
      rw [← defineS_norm, ← defineS_norm, List.map_cons, List.map_cons, e]
      have e1 : norm t = ⟨(norm u).kind, (norm u).text, (norm u).file_, (norm u).from_, (norm u).to, t.blank⟩ := by
        unfold norm
        rw [show t.kind = u.kind from h1, show t.text = u.text from h2]
      rw [e1, defineS_head]
theorem headRel_refl : ∀ l, headRel l l
  | [] => trivial
  | x :: a => ⟨rfl, rfl, rfl⟩
theorem toks_flag (n : Nat) : ∀ (i j : Nat) (b c : Bool) (u : List UInt8), u.length ≤ n → headRel ((toks i b u).map ptk) ((toks j c u).map ptk) := by
  intro i j b c u hn
  by_cases hu : u = []
  · subst hu; rw [toks_nil, toks_nil]; trivial
  by_cases hb : 0 < blankLen u
  · rw [toks_blank hb, toks_blank hb, toks_shift u.length _ (j + blankLen u) true _ (by rw [List.length_drop]; omega)]
    exact headRel_refl _
  · rw [toks_tok hu (by omega), toks_tok hu (by omega), List.map_cons, List.map_cons]
    refine ⟨rfl, rfl, ?_⟩
    exact toks_shift u.length _ _ _ _ (by rw [List.length_drop]; omega)
theorem spaced (s : List UInt8) : headRel ((tokens 0 s).map tk) ((tokens 0 ([32, 32] ++ s)).map tk) := by
  rw [tokens_tk, tokens_tk]
  have e1 : (charsAt 0 ([32, 32] ++ s)).map GChar.b = 32 :: 32 :: (charsAt 2 s).map GChar.b := by
    show (charsAt 0 (32 :: 32 :: s)).map GChar.b = _
    rw [charsAt_cons (by decide), charsAt_cons (by decide)]; rfl
  rw [e1, charsAt_shift s 2 0]
  generalize (charsAt 0 s).map GChar.b = u
  have b1 : ∀ v : List UInt8, blankLen (32 :: v) = 1 := fun v => rfl
  rw [toks_blank (u := 32 :: 32 :: u) (by rw [b1]; omega), b1]
  show headRel _ ((toks (0 + 1) true (32 :: u)).map ptk)
  rw [toks_blank (u := 32 :: u) (by rw [b1]; omega), b1]
  exact toks_flag u.length _ _ _ _ _ (Nat.le_refl _)
theorem sameF_iff (a b : GMacro) : sameF a b = true ↔ a.name = b.name ∧ a.func = b.func ∧ a.variadic = b.variadic ∧ a.params = b.params ∧ (clear a.body).map tk = (clear b.body).map tk := by
  unfold sameF
  simp only [Bool.and_eq_true, decide_eq_true_eq, beq_iff_eq]
  constructor
  · rintro ⟨⟨⟨⟨h1, h2⟩, h3⟩, h4⟩, h5⟩; exact ⟨h1, h2, h3, h4, h5⟩
  · rintro ⟨h1, h2, h3, h4, h5⟩; exact ⟨⟨⟨⟨h1, h2⟩, h3⟩, h4⟩, h5⟩
theorem sameF_symm (a b : GMacro) : sameF a b = sameF b a := by
  rw [Bool.eq_iff_iff, sameF_iff, sameF_iff]
  constructor <;> rintro ⟨h1, h2, h3, h4, h5⟩ <;> exact ⟨h1.symm, h2.symm, h3.symm, h4.symm, h5.symm⟩
theorem sameF_trans {a b c : GMacro} (h : sameF a b = true) (k : sameF b c = true) : sameF a c = true := by
  rw [sameF_iff] at h k ⊢
  obtain ⟨h1, h2, h3, h4, h5⟩ := h
  obtain ⟨k1, k2, k3, k4, k5⟩ := k
  exact ⟨h1.trans k1, h2.trans k2, h3.trans k3, h4.trans k4, h5.trans k5⟩
theorem macroSame_law (s t u : List UInt8) : emendlaw06_MacroSame s t u = some true := by
  unfold emendlaw06_MacroSame
  rw [awake6, Option.bind_some, orO_some, Option.bind_some, orO_some, Option.bind_some]
  by_cases hs : 300 < s.length ∨ 300 < t.length ∨ 300 < u.length
  · rw [if_pos (by simp only [Bool.or_eq_true, decide_eq_true_eq]; omega)]
  rw [if_neg (by simp only [Bool.or_eq_true, decide_eq_true_eq]; omega)]
  have h1 := small_of s (by omega)
  have h2 := small_of t (by omega)
  have h3 := small_of u (by omega)
  have h4 := small_of ([32, 32] ++ s) (by simp only [List.length_append, List.length_cons, List.length_nil]; omega)
  have a1 := h1.params
  have a2 := h1.body
  have b1 := h2.params
  have b2 := h2.body
  have c2 := h3.body
  have d2 := h4.body
  obtain ⟨r1, r2⟩ := defineF_rel (rel_of_head (spaced s))
  rw [define_eq s (by omega), Option.bind_some, define_eq t (by omega), Option.bind_some, define_eq u (by omega), Option.bind_some, chkT (by simp only [List.length_cons, List.length_nil]; omega), define_eq _ (by simp only [List.length_append, List.length_cons, List.length_nil]; omega), Option.bind_some]
  rw [msame_eq _ _ (by omega) (by omega), Option.bind_some, msame_eq _ _ (by omega) (by omega), Option.bind_some, msame_eq _ _ (by omega) (by omega), Option.bind_some, msame_eq _ _ (by omega) (by omega), Option.bind_some, msame_eq _ _ (by omega) (by omega), Option.bind_some, msame_eq _ _ (by omega) (by omega), Option.bind_some, Option.bind_some]
  rw [sameF_self, r2, sameF_symm (defineF (tokens 0 t)).1 (defineF (tokens 0 s)).1]
  have e1 : ((!sameF (defineF (tokens 0 s)).1 (defineF (tokens 0 t)).1 || !sameF (defineF (tokens 0 t)).1 (defineF (tokens 0 u)).1) || sameF (defineF (tokens 0 s)).1 (defineF (tokens 0 u)).1) = true := by
    cases q1 : sameF (defineF (tokens 0 s)).1 (defineF (tokens 0 t)).1 with
    | false => rfl
    | true =>
      cases q2 : sameF (defineF (tokens 0 t)).1 (defineF (tokens 0 u)).1 with
      | false => rfl
      | true => rw [sameF_trans q1 q2]; rfl
  simp only [orO_some, andO_some, Option.bind_some, e1, r1, decide_true, Bool.true_and, beq_self_eq_true, Bool.and_self]
end Go.Sh
