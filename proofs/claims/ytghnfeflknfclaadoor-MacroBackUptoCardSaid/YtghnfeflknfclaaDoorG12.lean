/-
  The law MacroBack. No program in sight.
-/
import Derived.Test.YtghnfeflknfclaaDoorG11
set_option linter.unusedVariables false
set_option linter.unusedSimpArgs false
namespace Go.Sh
open Go
theorem clear_clear (l : List GTok) : clear (clear l) = clear l := by cases l <;> rfl
theorem toks_true (n : Nat) : ∀ (i : Nat) (u : List UInt8) (p : PT) (r : List PT), u.length ≤ n → toks i true u = p :: r → p.blank = true := by
  induction n with
  | zero =>
    intro i u p r h e
    have : u = [] := List.length_eq_zero_iff.1 (by omega)
    subst this; rw [toks_nil] at e; cases e
  | succ n ih =>
    intro i u p r h e
    by_cases hu : u = []
    · subst hu; rw [toks_nil] at e; cases e
    by_cases hb : 0 < blankLen u
    · rw [toks_blank hb] at e
      exact ih _ _ _ _ (by rw [List.length_drop]; omega) e
    · rw [toks_tok hu (by omega)] at e
      injection e with e _
      rw [← e]
def bodyX (m : GMacro) : List UInt8 := if m.body = [] then [] else 32 :: printT m.body
theorem printM_eq {s : List UInt8} {m : GMacro} (h : Made s m) : printM m = if m.func = true then m.name ++ 40 :: listS [44, 32] m.params m.variadic (bodyX m) else m.name ++ bodyX m := by
  obtain ⟨k, hk⟩ := h.from_
  have hc : clear m.body = m.body := by rw [hk, clear_clear]
  unfold printM headM bodyX
  rw [hc]
  by_cases hf : m.func = true
  · rw [if_pos hf, if_pos hf, listS_eq]
    have e : Lib.join (plist m) [44, 32] = Lib.join m.params [44, 32] ++ (if m.variadic = true then (if m.params = [] then [] else [44, 32]) ++ dots else []) := by
      unfold plist
      by_cases hv : m.variadic = true
      · rw [if_pos hv, if_pos hv, join_snoc]
        by_cases hp : m.params = []
        · rw [if_pos hp, if_pos hp, hp, Lib.join_nil]; rfl
        · rw [if_neg hp, if_neg hp]
      · rw [if_neg hv, if_neg hv, List.append_nil, List.append_nil]
    rw [e]
    by_cases hb : m.body = []
    · rw [if_pos hb, if_pos hb]; simp
    · rw [if_neg hb, if_neg hb]; simp
  · rw [if_neg hf, if_neg hf]
    by_cases hb : m.body = []
    · rw [if_pos hb, if_pos hb]; simp
    · rw [if_neg hb, if_neg hb]; simp
theorem has2_32 (Y : List UInt8) (h : has2 92 10 Y = false) : has2 92 10 (32 :: Y) = false := by
  cases Y with
  | nil => rfl
  | cons d r => show ((32 == 92 && d == 10) || has2 92 10 (d :: r)) = false; rw [h]; rfl
theorem has2_ahead (A X : List UInt8) (hA : ∀ c ∈ A, c ≠ 92) (hX : has2 92 10 X = false) : has2 92 10 (A ++ X) = false := by
  obtain ⟨h1, h2⟩ := has2_none (a := 92) (b := 10) A hA
  rw [has2_append, h1, hX]
  have : (A.getLast? == some 92) = false := by simpa using h2
  rw [this]; rfl
theorem join_no92 (sp : List UInt8) (hs : ∀ c ∈ sp, c ≠ 92) (l : List (List UInt8)) (hl : ∀ x ∈ l, Word x) : ∀ c ∈ Lib.join l sp, c ≠ 92 := by
  intro c hc
  cases l with
  | nil => cases hc
  | cons x r =>
    rw [Lib.join_cons] at hc
    rcases List.mem_append.1 hc with hc | hc
    · exact word_no92 (hl x (by simp)) c hc
    · unfold Lib.joinTail at hc
      obtain ⟨y, hy, hcy⟩ := List.mem_flatten.1 hc
      obtain ⟨z, hz, rfl⟩ := List.mem_map.1 hy
      rcases List.mem_append.1 hcy with hq | hq
      · exact hs c hq
      · exact word_no92 (hl z (by simp [hz])) c hq
theorem print_has2 {s : List UInt8} {m : GMacro} (h : Made s m) (h6 : ∀ t ∈ m.body, t.kind ≠ 6) : has2 92 10 (printM m) = false := by
  obtain ⟨hb, _, _⟩ := h.again h6
  have hX : has2 92 10 (bodyX m) = false := by
    unfold bodyX
    split
    · rfl
    · exact has2_32 _ hb
  rw [printM_eq h]
  split
  · rw [listS_eq]
    have e : m.name ++ 40 :: (Lib.join m.params [44, 32] ++ ((if m.variadic = true then (if m.params = [] then [] else [44, 32]) ++ dots else []) ++ 41 :: bodyX m)) = (m.name ++ 40 :: (Lib.join m.params [44, 32] ++ ((if m.variadic = true then (if m.params = [] then [] else [44, 32]) ++ dots else []) ++ [41]))) ++ bodyX m := by simp
    rw [e]
    refine has2_ahead _ _ ?_ hX
    intro c hc
    rcases List.mem_append.1 hc with hc | hc
    · exact word_no92 h.name c hc
    rcases List.mem_cons.1 hc with rfl | hc
    · decide
    rcases List.mem_append.1 hc with hc | hc
    · exact join_no92 [44, 32] (by decide) _ h.words c hc
    rcases List.mem_append.1 hc with hc | hc
    · have : c ∈ ([44, 32] ++ dots : List UInt8) := by
        split at hc
        · rcases List.mem_append.1 hc with hc | hc
          · split at hc
            · cases hc
            · exact List.mem_append_left _ hc
          · exact List.mem_append_right _ hc
        · cases hc
      exact (by decide : ∀ c ∈ ([44, 32] ++ dots : List UInt8), c ≠ 92) c this
    · obtain rfl : c = 41 := by simpa using hc
      decide
  · exact has2_ahead _ _ (word_no92 h.name) hX
theorem ofTk_tk (Z : List (Int × List UInt8 × Bool)) : (Z.map ofTk).map tk = Z := by
  rw [List.map_map]
  conv => rhs; rw [← List.map_id Z]
  rfl
/-- what stands behind the head, told again -/
theorem body_again {s : List UInt8} {m : GMacro} (h : Made s m) (h6 : ∀ t ∈ m.body, t.kind ≠ 6) (j : Nat) : headRel ((toks j false (bodyX m)).map ptk) (m.body.map tk) ∧ (m.body ≠ [] → ∀ x r, (toks j false (bodyX m)).map ptk = x :: r → x.2.2 = true) := by
  obtain ⟨_, ht, _⟩ := h.again h6
  unfold bodyX
  by_cases hb : m.body = []
  · rw [if_pos hb, hb, toks_nil]
    exact ⟨trivial, fun q => (q rfl).elim⟩
  · rw [if_neg hb, toks_space, ← ht (j + 1)]
    refine ⟨toks_flag _ _ _ _ _ _ (Nat.le_refl _), fun _ x r e => ?_⟩
    cases hq : toks (j + 1) true (printT m.body) with
    | nil => rw [hq] at e; cases e
    | cons p q =>
      rw [hq] at e
      injection e with e _
      rw [← e]
      exact toks_true _ _ _ _ _ (Nat.le_refl _) hq
theorem clear_rel {Z : List (Int × List UInt8 × Bool)} {l : List GTok} (h : headRel Z (l.map tk)) : (clear (Z.map ofTk)).map norm = (clear l).map norm := by
  cases Z with
  | nil => cases l with
    | nil => rfl
    | cons t r => exact h.elim
  | cons x a => cases l with
    | nil => exact h.elim
    | cons t r =>
      obtain ⟨h1, h2, h3⟩ := h
      show norm ⟨x.1, x.2.1, 0, 0, 0, false⟩ :: (a.map ofTk).map norm = norm ⟨t.kind, t.text, t.file_, t.from_, t.to, false⟩ :: r.map norm
      have e : (a.map ofTk).map norm = r.map norm := by
        rw [norm_tk, ofTk_tk, norm_tk r, h3]
      rw [e]
      unfold norm
      rw [show x.1 = t.kind from h1, show x.2.1 = t.text from h2]
theorem made_again {s : List UInt8} {m : GMacro} (h : Made s m) (h6 : ∀ t ∈ m.body, t.kind ≠ 6) : relS (.inr m) (defineS (tokens 0 (printM m))) := by
  obtain ⟨k, hk⟩ := h.from_
  have hc : clear m.body = m.body := by rw [hk, clear_clear]
  have hwm : withBody m = .inr m := by unfold withBody; rw [h.body]
  refine relS_of ?_
  -- what the new body gives
  have hfin : ∀ (Z : List (Int × List UInt8 × Bool)), headRel Z (m.body.map tk) → ∀ x : GMacro, x = ⟨m.name, m.func, m.params, m.variadic, clear (Z.map ofTk)⟩ → (withBody x).map id normM = Sum.inr (normM m) := by
    rintro Z hz x rfl
    rw [← withBody_norm]
    have e : normM ⟨m.name, m.func, m.params, m.variadic, clear (Z.map ofTk)⟩ = normM m := by
      unfold normM
      simp only [GMacro.mk.injEq, true_and]
      rw [clear_rel hz, hc]
    rw [e, withBody_norm, hwm]; rfl
  show Sum.inr (normM m) = _
  have htk : ∀ E : List GTok, (tokens 0 (printM m)).map tk = E.map tk → (defineS (tokens 0 (printM m))).map id normM = (defineS E).map id normM := by
    intro E hE
    rw [← defineS_norm, norm_tk, hE, ← norm_tk, defineS_norm]
  have hch : (charsAt 0 (printM m)).map GChar.b = printM m := charsAt_has2 _ _ (print_has2 h h6)
  by_cases hf : m.func = true
  · have sp : SpB [44, 32] true := .inr ⟨rfl, rfl⟩
    obtain ⟨j, hj⟩ := define_tokens sp m.name h.name m.params h.words m.variadic (bodyX m)
    obtain ⟨hz, _⟩ := body_again h h6 j
    rw [htk (nmT false m.name :: opT false [40] :: (listT true m.params m.variadic ++ ((toks j false (bodyX m)).map ptk).map ofTk)) (by
      rw [tokens_tk, hch, printM_eq h, if_pos hf, hj, List.map_cons, List.map_cons, List.map_cons, List.map_cons, List.map_append, ofTk_tk]; rfl)]
    rw [define_listed m.name h.n1 h.n2, if_pos h.ok]
    exact (hfin _ hz _ (by rw [hf])).symm
  · have hstop : Stops (bodyX m) := by
      unfold bodyX
      split
      · intro c X e; cases e
      · intro c X e; injection e with e _; subst e; decide
    obtain ⟨hz, hbl⟩ := body_again h h6 (0 + m.name.length)
    rw [htk (nmT false m.name :: ((toks (0 + m.name.length) false (bodyX m)).map ptk).map ofTk) (by
      rw [tokens_tk, hch, printM_eq h, if_neg hf, toks_word h.name hstop, List.map_cons, List.map_cons, ofTk_tk]; rfl)]
    obtain ⟨p1, p2⟩ := h.plain (by simpa using hf)
    rw [defineS_cons, if_neg (by rintro (q | q | q); exact q rfl; exact h.n1 q; exact h.n2 q)]
    have hfl : ∀ (Z : List (Int × List UInt8 × Bool)), headRel Z (m.body.map tk) → (m.body ≠ [] → ∀ x r, Z = x :: r → x.2.2 = true) → (Z.map ofTk = [] ∨ headBlank (Z.map ofTk) = true) ∧ (headP [40] (Z.map ofTk) && !headBlank (Z.map ofTk)) = false := by
      intro Z hz hb
      cases Z with
      | nil => exact ⟨.inl rfl, rfl⟩
      | cons x r =>
        have hne : m.body ≠ [] := by intro e; rw [e] at hz; exact hz.elim
        have hx := hb hne x r rfl
        refine ⟨.inr hx, ?_⟩
        show (_ && !x.2.2) = false
        rw [hx]; simp
    obtain ⟨q1, q2⟩ := hfl _ hz hbl
    rw [if_neg (by rw [q2]; simp), if_pos q1]
    have hf2 : m.func = false := by simpa using hf
    exact (hfin _ hz _ (by rw [hf2, p1, p2]; rfl)).symm
end Go.Sh
