/-
  What a token hangs on behind its end: little. No program in sight.
-/
import Derived.Test.YtghnfeflknfclaaDoorAm
set_option linter.unusedVariables false
set_option linter.unusedSimpArgs false
namespace Go.Sh
open Go
/-! ### two bytes side by side -/
/-- these two stand side by side somewhere -/
def has2 (a b : UInt8) : List UInt8 → Bool
  | [] => false
  | [_] => false
  | c :: d :: r => (c == a && d == b) || has2 a b (d :: r)
theorem has2_append (a b : UInt8) : ∀ (t X : List UInt8), has2 a b (t ++ X) = (has2 a b t || has2 a b X || (t.getLast? == some a && X.head? == some b))
  | [], X => by simp [has2]
  | [c], X => by
    cases X with
    | nil => simp [has2]
    | cons d X =>
      simp only [List.cons_append, List.nil_append, has2, List.getLast?_singleton, List.head?_cons, Bool.false_or]
      rw [Bool.or_comm]
      congr 1
  | c :: d :: r, X => by
    have ih := has2_append a b (d :: r) X
    simp only [List.cons_append] at ih ⊢
    simp only [has2, ih]
    have e : (c :: d :: r).getLast? = (d :: r).getLast? := by simp [List.getLast?_cons_cons]
    rw [e]
    simp only [Bool.or_assoc]
/-- what begins X, but for a blank, begins r -/
def Begins (X r : List UInt8) : Prop := ∀ q : List UInt8, (∀ c ∈ q, c ≠ 32) → q <+: X → q <+: r
theorem Begins.nil (r : List UInt8) : Begins [] r := fun q _ h => by rw [List.prefix_nil.1 h]; exact List.nil_prefix
theorem Begins.head {X r : List UInt8} (h : Begins X r) {c : UInt8} {X' : List UInt8} (hX : X = c :: X') (hc : c ≠ 32) : ∃ r', r = c :: r' := by
  obtain ⟨s, hs⟩ := h [c] (by simpa using hc) ⟨X', by rw [hX]; rfl⟩
  exact ⟨s, hs.symm⟩
theorem wordTail_cut {X r : List UInt8} (h : Begins X r) : ∀ t : List UInt8, wordTail (t ++ r) = t.length → wordTail (t ++ X) = t.length
  | [], e => by
    simp only [List.nil_append, List.length_nil] at *
    cases X with
    | nil => rfl
    | cons c X' =>
      by_cases hc : c = 32
      · subst hc; simp only [wordTail]; rw [if_neg (by decide)]
      · obtain ⟨r', rfl⟩ := h.head rfl hc
        simp only [wordTail] at e ⊢
        by_cases hw : (isLetter c || isDigit c) = true
        · rw [if_pos hw] at e; omega
        · rw [if_neg hw]
  | c :: t, e => by
    simp only [List.cons_append, wordTail, List.length_cons] at e ⊢
    by_cases hw : (isLetter c || isDigit c) = true
    · rw [if_pos hw] at e ⊢
      rw [wordTail_cut h t (by omega)]; omega
    · rw [if_neg hw] at e; omega
theorem isPM32 : isPM 32 = false := by decide
theorem isPM0 : isPM 0 = false := by decide
theorem numTail_cut {X r : List UInt8} (h : Begins X r) (n : Nat) : ∀ t : List UInt8, t.length ≤ n → numTail (t ++ r) = t.length → numTail (t ++ X) = t.length := by
  have base : numTail r = 0 → numTail X = 0 := by
    intro e
    cases X with
    | nil => rfl
    | cons c X' =>
      by_cases hc : c = 32
      · subst hc; rw [numTail_cons, if_neg (by rw [show isExp 32 = false by decide]; simp), if_neg (by decide)]
      · obtain ⟨r', rfl⟩ := h.head rfl hc
        rw [numTail_cons] at e ⊢
        by_cases hn : numCh c = true
        · by_cases hx : (isExp c && isPM (r'.headD 0)) = true
          · rw [if_pos hx] at e; omega
          · rw [if_neg hx, if_pos hn] at e; omega
        · have hx : isExp c = false := by
            cases hE : isExp c with
            | false => rfl
            | true =>
              exfalso; apply hn
              simp only [isExp, Bool.or_eq_true, beq_iff_eq] at hE
              rcases hE with ((rfl | rfl) | rfl) | rfl <;> decide
          rw [hx, if_neg (by simp), if_neg hn]
  induction n with
  | zero =>
    intro t hl e
    have : t = [] := List.length_eq_zero_iff.1 (by omega)
    subst this; exact base e
  | succ n ih =>
    intro t hl e
    cases t with
    | nil => exact base e
    | cons c t =>
      rw [List.length_cons] at hl e
      rw [List.cons_append, numTail_cons] at e ⊢
      rw [List.length_cons]
      cases t with
      | nil =>
        simp only [List.nil_append, List.length_nil] at e ⊢
        by_cases hx : (isExp c && isPM (r.headD 0)) = true
        · rw [if_pos hx] at e; omega
        rw [if_neg hx] at e
        by_cases hn : numCh c = true
        · rw [if_pos hn] at e
          have hb := base (by omega)
          rw [if_neg, if_pos hn, hb]
          intro hx2
          apply hx
          cases X with
          | nil => simp [isPM0] at hx2
          | cons d X' =>
            rw [List.headD_cons] at hx2
            by_cases hd : d = 32
            · subst hd; rw [isPM32, Bool.and_false] at hx2; cases hx2
            · obtain ⟨r', rfl⟩ := h.head rfl hd
              exact hx2
        · rw [if_neg hn] at e; omega
      | cons d t =>
        rw [List.cons_append, List.headD_cons, List.drop_succ_cons, List.drop_zero] at e ⊢
        rw [List.length_cons] at hl e ⊢
        by_cases hx : (isExp c && isPM d) = true
        · rw [if_pos hx] at e ⊢
          rw [ih t (by omega) (by omega)]; omega
        · rw [if_neg hx] at e ⊢
          by_cases hn : numCh c = true
          · rw [if_pos hn] at e ⊢
            have := ih (d :: t) (by rw [List.length_cons]; omega) (by rw [List.cons_append, List.length_cons]; omega)
            rw [List.cons_append, List.length_cons] at this
            rw [this]; omega
          · rw [if_neg hn] at e; omega
theorem quoTail_cut (q : UInt8) (X r : List UInt8) (n : Nat) : ∀ t : List UInt8, t.length ≤ n → quoTail q (t ++ r) = some t.length → quoTail q (t ++ X) = some t.length := by
  induction n with
  | zero =>
    intro t hl e
    have : t = [] := List.length_eq_zero_iff.1 (by omega)
    subst this
    have := quoTail_le q _ _ e
    simp at this
  | succ n ih =>
    intro t hl e
    cases t with
    | nil => have := quoTail_le q _ _ e; simp at this
    | cons c t =>
      rw [List.length_cons] at hl e ⊢
      rw [List.cons_append, quoTail_cons] at e ⊢
      by_cases hq : c = q
      · rw [if_pos hq] at e ⊢; exact e
      rw [if_neg hq] at e ⊢
      by_cases h10 : c = 10
      · rw [if_pos h10] at e; cases e
      rw [if_neg h10] at e ⊢
      by_cases h92 : c = 92
      · rw [if_pos h92] at e ⊢
        cases t with
        | nil =>
          exfalso
          split at e
          · cases e
          · obtain ⟨m, h1, h2⟩ := Option.map_eq_some_iff.1 e
            simp only [List.length_nil] at h2; omega
        | cons d t =>
          rw [List.cons_append, List.drop_succ_cons, List.drop_zero, List.head?_cons] at e ⊢
          by_cases hd : (d :: (t ++ r) : List UInt8) = [] ∨ some d = some 10
          · rw [if_pos hd] at e; cases e
          · rw [if_neg hd] at e
            rw [if_neg (by rintro (h | h); exact absurd h (by simp); exact hd (.inr h))]
            obtain ⟨m, h1, h2⟩ := Option.map_eq_some_iff.1 e
            rw [List.length_cons] at h2 hl ⊢
            rw [ih t (by omega) (by rw [h1]; congr 1; omega)]; rfl
      · rw [if_neg h92] at e ⊢
        obtain ⟨m, h1, h2⟩ := Option.map_eq_some_iff.1 e
        rw [ih t (by omega) (by rw [h1]; congr 1; omega)]; rfl
theorem sign_no32 : (∀ p ∈ three, ∀ c ∈ p, c ≠ 32) ∧ (∀ p ∈ two, ∀ c ∈ p, c ≠ 32) := by decide
theorem prefix_cut {X r : List UInt8} (h : Begins X r) : ∀ (p t : List UInt8), (∀ c ∈ p, c ≠ 32) → p.isPrefixOf (t ++ X) = true → p.isPrefixOf (t ++ r) = true
  | [], t, _, _ => by simp
  | x :: p, [], hp, e => by
    rw [List.nil_append] at e ⊢
    exact List.isPrefixOf_iff_prefix.2 (h _ hp (List.isPrefixOf_iff_prefix.1 e))
  | x :: p, c :: t, hp, e => by
    simp only [List.cons_append, List.isPrefixOf, Bool.and_eq_true] at e ⊢
    exact ⟨e.1, prefix_cut h p t (fun c hc => hp c (by simp [hc])) e.2⟩
theorem prefix_in : ∀ (p t X : List UInt8), p.length ≤ t.length → p.isPrefixOf (t ++ X) = p.isPrefixOf t
  | [], t, X, _ => by simp
  | x :: p, [], X, h => by simp at h
  | x :: p, c :: t, X, h => by simp only [List.cons_append, List.isPrefixOf, prefix_in p t X (by simpa using h)]
theorem signLen_cut {X r : List UInt8} (h : Begins X r) (t : List UInt8) (ht : t ≠ []) (e : signLen (t ++ r) = t.length) : signLen (t ++ X) = t.length := by
  have hd : (t ++ X).head? = (t ++ r).head? := by cases t with | nil => exact absurd rfl ht | cons c t => rfl
  have up3 : three.any (fun p => p.isPrefixOf (t ++ X)) = true → three.any (fun p => p.isPrefixOf (t ++ r)) = true := fun e => by
    obtain ⟨p, hp, e⟩ := List.any_eq_true.1 e
    exact List.any_eq_true.2 ⟨p, hp, prefix_cut h p t (sign_no32.1 p hp) e⟩
  have up2 : two.any (fun p => p.isPrefixOf (t ++ X)) = true → two.any (fun p => p.isPrefixOf (t ++ r)) = true := fun e => by
    obtain ⟨p, hp, e⟩ := List.any_eq_true.1 e
    exact List.any_eq_true.2 ⟨p, hp, prefix_cut h p t (sign_no32.2 p hp) e⟩
  have l3 : ∀ p ∈ three, p.length = 3 := by decide
  have l2 : ∀ p ∈ two, p.length = 2 := by decide
  unfold signLen at e ⊢
  rw [hd]
  by_cases h3 : three.any (fun p => p.isPrefixOf (t ++ r)) = true
  · rw [if_pos h3] at e
    obtain ⟨p, hp, e3⟩ := List.any_eq_true.1 h3
    rw [if_pos]
    · exact e
    · refine List.any_eq_true.2 ⟨p, hp, ?_⟩
      rw [prefix_in p t r (by rw [l3 p hp]; omega)] at e3
      rw [prefix_in p t X (by rw [l3 p hp]; omega)]; exact e3
  rw [if_neg h3] at e
  rw [if_neg (fun h => h3 (up3 h))]
  by_cases h2 : two.any (fun p => p.isPrefixOf (t ++ r)) = true
  · rw [if_pos h2] at e
    obtain ⟨p, hp, e3⟩ := List.any_eq_true.1 h2
    rw [if_pos]
    · exact e
    · refine List.any_eq_true.2 ⟨p, hp, ?_⟩
      rw [prefix_in p t r (by rw [l2 p hp]; omega)] at e3
      rw [prefix_in p t X (by rw [l2 p hp]; omega)]; exact e3
  rw [if_neg h2] at e
  rw [if_neg (fun h => h2 (up2 h))]
  exact e
/-- a token is told as before, whatever stands behind it, if that begins as before or with a blank -/
theorem nextTok_cut {X r : List UInt8} (h : Begins X r) (t : List UInt8) (ht : t ≠ []) (k : Int) (ho : k ≠ 6 ∨ X = []) (e : nextTok (t ++ r) = (k, t.length)) : nextTok (t ++ X) = (k, t.length) := by
  cases t with
  | nil => exact absurd rfl ht
  | cons c t =>
    rw [List.cons_append] at e ⊢
    unfold nextTok at e ⊢
    rw [List.head?_cons] at e ⊢
    by_cases h10 : some c = some 10
    · rw [if_pos h10] at e ⊢; exact e
    rw [if_neg h10] at e ⊢
    -- a word
    by_cases hL : isLetter c = true
    · have w1 : ∀ Y, wordLen (c :: Y) = 1 + wordTail Y := fun Y => by simp only [wordLen, if_pos hL]
      rw [w1, if_pos (by omega)] at e
      rw [w1, if_pos (by omega)]
      simp only [Prod.mk.injEq, List.length_cons] at e ⊢
      exact ⟨e.1, by rw [wordTail_cut h t (by omega)]; omega⟩
    have w0 : ∀ Y, wordLen (c :: Y) = 0 := fun Y => by simp only [wordLen, if_neg hL]
    rw [w0, if_neg (by omega)] at e ⊢
    -- what numbers begin with
    have hnum : ∀ Y, numLen (c :: Y) = if (isDigit c || (c == 46 && isDigit (Y.headD 0))) = true then 1 + numTail Y else 0 := fun Y => rfl
    have hdig : isDigit (X.headD 0) = true → t = [] → isDigit (r.headD 0) = true := by
      intro hx _
      cases X with
      | nil => exact absurd hx (by decide)
      | cons d X' =>
        rw [List.headD_cons] at hx
        by_cases hd : d = 32
        · subst hd; exact absurd hx (by decide)
        · obtain ⟨r', rfl⟩ := h.head rfl hd; exact hx
    by_cases hN : (isDigit c || (c == 46 && isDigit ((t ++ r).headD 0))) = true
    · have n1 : numLen (c :: (t ++ r)) = 1 + numTail (t ++ r) := by rw [hnum, if_pos hN]
      rw [n1, if_pos (by omega)] at e
      simp only [Prod.mk.injEq, List.length_cons] at e
      have hcut := numTail_cut h t.length t (Nat.le_refl _) (by omega)
      have hN2 : (isDigit c || (c == 46 && isDigit ((t ++ X).headD 0))) = true := by
        cases t with
        | cons d t => exact hN
        | nil =>
          simp only [List.nil_append, List.length_nil] at e hN
          cases hD : isDigit c with
          | true => rfl
          | false =>
            rw [hD, Bool.false_or, Bool.and_eq_true] at hN
            exfalso
            cases r with
            | nil => exact absurd hN.2 (by decide)
            | cons d r' =>
              rw [List.headD_cons] at hN
              have : 1 ≤ numTail (d :: r') := by
                rw [numTail_cons]
                split
                · omega
                · rw [if_pos (by unfold numCh; rw [hN.2]; simp)]; omega
              omega
      have n2 : numLen (c :: (t ++ X)) = 1 + numTail (t ++ X) := by rw [hnum, if_pos hN2]
      rw [n2, if_pos (by omega), hcut]
      simp only [Prod.mk.injEq, List.length_cons]
      exact ⟨e.1, by omega⟩
    have hN2 : ¬ (isDigit c || (c == 46 && isDigit ((t ++ X).headD 0))) = true := by
      intro hx
      apply hN
      cases t with
      | cons d t => exact hx
      | nil =>
        simp only [List.nil_append] at hx ⊢
        cases hD : isDigit c with
        | true => rfl
        | false =>
          rw [hD] at hx
          rw [Bool.false_or, Bool.and_eq_true] at hx ⊢
          exact ⟨hx.1, hdig hx.2 rfl⟩
    rw [hnum, if_neg hN, if_neg (by omega)] at e
    rw [hnum, if_neg hN2, if_neg (by omega)]
    -- quotes
    have hquo : ∀ q : UInt8, 0 < quoLen q (c :: (t ++ r)) → (c :: t).length = quoLen q (c :: (t ++ r)) → quoLen q (c :: (t ++ X)) = quoLen q (c :: (t ++ r)) := by
      intro q h0 hl
      have hc : c = q := by
        by_cases hc : c = q
        · exact hc
        · simp only [quoLen, if_neg hc] at h0; exact absurd h0 (Nat.lt_irrefl _)
      have hh : ¬ (q = 39 ∧ (t ++ r).head? = some q) := fun hh => by
        simp only [quoLen, if_pos hc, if_pos hh] at h0; exact absurd h0 (Nat.lt_irrefl _)
      cases hqt : quoTail q (t ++ r) with
      | none => simp only [quoLen, if_pos hc, if_neg hh, hqt] at h0; exact absurd h0 (Nat.lt_irrefl _)
      | some m =>
        have eR : quoLen q (c :: (t ++ r)) = m + 1 := by simp only [quoLen, if_pos hc, if_neg hh, hqt]
        rw [eR, List.length_cons] at hl
        have hm : m = t.length := by omega
        subst hm
        have hle := quoTail_le q _ _ hqt
        have hh2 : ¬ (q = 39 ∧ (t ++ X).head? = some q) := by
          cases t with
          | nil => simp at hle
          | cons d t => exact hh
        have eX : quoLen q (c :: (t ++ X)) = t.length + 1 := by simp only [quoLen, if_pos hc, if_neg hh2, quoTail_cut q X r _ t (Nat.le_refl _) hqt]
        rw [eR, eX]
    by_cases h34 : 0 < quoLen 34 (c :: (t ++ r))
    · rw [if_pos h34] at e
      simp only [Prod.mk.injEq] at e
      rw [hquo 34 h34 e.2.symm, if_pos h34]
      exact Prod.ext e.1 e.2
    rw [if_neg h34] at e
    by_cases h39 : 0 < quoLen 39 (c :: (t ++ r))
    · rw [if_pos h39] at e
      simp only [Prod.mk.injEq] at e
      have hc : c = 39 := by
        simp only [quoLen] at h39
        by_cases hc : c = 39
        · exact hc
        · rw [if_neg hc] at h39; exact absurd h39 (Nat.lt_irrefl _)
      have z34 : quoLen 34 (c :: (t ++ X)) = 0 := by rw [hc]; simp only [quoLen]; rw [if_neg (by decide)]
      rw [z34, if_neg (by omega), hquo 39 h39 e.2.symm, if_pos h39]
      exact Prod.ext e.1 e.2
    rw [if_neg h39] at e
    by_cases hs : 0 < signLen (c :: (t ++ r))
    · rw [if_pos hs] at e
      simp only [Prod.mk.injEq] at e
      have hcut := signLen_cut h (c :: t) (by simp) (by rw [List.cons_append]; exact e.2)
      rw [List.cons_append] at hcut
      have hc : c ≠ 34 ∧ c ≠ 39 := by
        have key : ∀ p : List UInt8, p.isPrefixOf (c :: (t ++ r)) = true → p ≠ [] → p.head? = some c := by
          intro p hp hne
          cases p with
          | nil => exact absurd rfl hne
          | cons x p =>
            simp only [List.isPrefixOf, Bool.and_eq_true, beq_iff_eq] at hp
            rw [hp.1]; rfl
        have k3 : ∀ p ∈ three, p ≠ [] ∧ p.head? ≠ some 34 ∧ p.head? ≠ some 39 := by decide
        have k2 : ∀ p ∈ two, p ≠ [] ∧ p.head? ≠ some 34 ∧ p.head? ≠ some 39 := by decide
        have k1 : ∀ x ∈ ones, x ≠ 34 ∧ x ≠ 39 := by decide
        unfold signLen at hs
        by_cases h3 : three.any (fun p => p.isPrefixOf (c :: (t ++ r))) = true
        · obtain ⟨p, hp, e3⟩ := List.any_eq_true.1 h3
          have := key p e3 (k3 p hp).1
          exact ⟨fun hc => (k3 p hp).2.1 (by rw [this, hc]), fun hc => (k3 p hp).2.2 (by rw [this, hc])⟩
        rw [if_neg h3] at hs
        by_cases h2 : two.any (fun p => p.isPrefixOf (c :: (t ++ r))) = true
        · obtain ⟨p, hp, e3⟩ := List.any_eq_true.1 h2
          have := key p e3 (k2 p hp).1
          exact ⟨fun hc => (k2 p hp).2.1 (by rw [this, hc]), fun hc => (k2 p hp).2.2 (by rw [this, hc])⟩
        rw [if_neg h2] at hs
        by_cases h1 : ones.any (fun x => (c :: (t ++ r)).head? == some x) = true
        · obtain ⟨x, hx, e3⟩ := List.any_eq_true.1 h1
          simp only [List.head?_cons, beq_iff_eq, Option.some.injEq] at e3
          subst e3; exact k1 c hx
        · rw [if_neg h1] at hs; exact absurd hs (Nat.lt_irrefl _)
      have z34 : quoLen 34 (c :: (t ++ X)) = 0 := by simp only [quoLen]; rw [if_neg hc.1]
      have z39 : quoLen 39 (c :: (t ++ X)) = 0 := by simp only [quoLen]; rw [if_neg hc.2]
      rw [z34, if_neg (by omega), z39, if_neg (by omega), hcut, if_pos (by simp)]
      exact Prod.ext e.1 rfl
    · -- an Other: one byte
      rw [if_neg hs] at e
      simp only [Prod.mk.injEq, List.length_cons] at e
      have ht0 : t = [] := List.length_eq_zero_iff.1 (by omega)
      subst ht0
      rcases ho with ho | rfl
      · exact absurd e.1.symm ho
      rw [List.nil_append] at hs ⊢
      have zq : ∀ q, quoLen q [c] = 0 := fun q => by
        simp only [quoLen]
        by_cases hc : c = q
        · rw [if_pos hc, if_neg (by simp)]; rfl
        · rw [if_neg hc]
      have zs : signLen [c] = 0 := by
        have up : ∀ p : List UInt8, p.isPrefixOf [c] = true → (∀ x ∈ p, x ≠ 32) → p.isPrefixOf (c :: r) = true := fun p hp h32 => by
          have := prefix_cut (Begins.nil r) p [c] h32 (by simpa using hp)
          simpa using this
        unfold signLen at hs ⊢
        rw [List.head?_cons] at hs ⊢
        by_cases h3 : three.any (fun p => p.isPrefixOf [c]) = true
        · obtain ⟨p, hp, e3⟩ := List.any_eq_true.1 h3
          rw [if_pos (List.any_eq_true.2 ⟨p, hp, up p e3 (sign_no32.1 p hp)⟩)] at hs; exact absurd (by decide) hs
        rw [if_neg h3]
        by_cases h2 : two.any (fun p => p.isPrefixOf [c]) = true
        · obtain ⟨p, hp, e3⟩ := List.any_eq_true.1 h2
          exfalso; apply hs
          split
          · decide
          · rw [if_pos (List.any_eq_true.2 ⟨p, hp, up p e3 (sign_no32.2 p hp)⟩)]; decide
        rw [if_neg h2]
        by_cases h1 : ones.any (fun x => some c == some x) = true
        · exfalso; apply hs
          split
          · decide
          · split
            · decide
            · first | decide | (rw [if_pos h1]; decide)
        · rw [if_neg h1]
      rw [zq, zq, zs, if_neg (by omega), if_neg (by omega), if_neg (by omega)]
      exact Prod.ext e.1 rfl
end Go.Sh

set_option linter.unusedVariables false
set_option linter.unusedSimpArgs false
namespace Go.Sh
open Go
theorem charsAt_cd (i : Nat) (c d : UInt8) (r : List UInt8) : charsAt i (c :: d :: r) = if c = 92 ∧ d = 10 then charsAt (i + 2) r else ⟨c, i⟩ :: charsAt (i + 1) (d :: r) := by rw [charsAt]
theorem charsAt_mem : ∀ (t : List UInt8) (i : Nat), ∀ c ∈ (charsAt i t).map GChar.b, c ∈ t
  | [], i, c, h => by simp [charsAt] at h
  | [x], i, c, h => by simpa [charsAt] using h
  | x :: y :: r, i, c, h => by
    unfold charsAt at h
    split at h
    · have := charsAt_mem r _ c h; simp [this]
    · rw [List.map_cons] at h
      rcases List.mem_cons.1 h with rfl | h
      · simp
      · have := charsAt_mem (y :: r) _ c h
        exact List.mem_cons_of_mem _ this
theorem has2_none {a b : UInt8} : ∀ t : List UInt8, (∀ c ∈ t, c ≠ a) → has2 a b t = false ∧ t.getLast? ≠ some a
  | [], _ => ⟨rfl, by simp⟩
  | [c], h => ⟨rfl, by simpa using h c (by simp)⟩
  | c :: d :: r, h => by
    obtain ⟨h1, h2⟩ := has2_none (a := a) (b := b) (d :: r) (fun x hx => h x (by simp at hx ⊢; exact .inr hx))
    refine ⟨?_, by rw [List.getLast?_cons_cons]; exact h2⟩
    simp only [has2, h1, Bool.or_false, Bool.and_eq_false_iff, beq_eq_false_iff_ne]
    exact .inl (h c (by simp))
theorem wordTail_no (x : UInt8) (hx : (isLetter x || isDigit x) = false) : ∀ (t r : List UInt8), wordTail (t ++ r) = t.length → ∀ c ∈ t, c ≠ x
  | [], _, _ => fun c hc => by cases hc
  | c :: t, r, e => by
    simp only [List.cons_append, wordTail, List.length_cons] at e
    by_cases hw : (isLetter c || isDigit c) = true
    · rw [if_pos hw] at e
      intro d hd
      rcases List.mem_cons.1 hd with rfl | hd
      · rintro rfl; rw [hx] at hw; cases hw
      · exact wordTail_no x hx t r (by omega) d hd
    · rw [if_neg hw] at e; omega
theorem numTail_no (x : UInt8) (hx : numCh x = false) (hx2 : isPM x = false) (n : Nat) : ∀ (t r : List UInt8), t.length ≤ n → numTail (t ++ r) = t.length → ∀ c ∈ t, c ≠ x := by
  have hexp : ∀ c, isExp c = true → numCh c = true := by
    intro c hE
    simp only [isExp, Bool.or_eq_true, beq_iff_eq] at hE
    rcases hE with ((rfl | rfl) | rfl) | rfl <;> decide
  induction n with
  | zero =>
    intro t r h _
    have : t = [] := List.length_eq_zero_iff.1 (by omega)
    subst this; intro c hc; cases hc
  | succ n ih =>
    intro t r h e
    cases t with
    | nil => intro c hc; cases hc
    | cons c t =>
      rw [List.length_cons] at h e
      rw [List.cons_append, numTail_cons] at e
      by_cases hE : (isExp c && isPM ((t ++ r).headD 0)) = true
      · rw [if_pos hE] at e
        rw [Bool.and_eq_true] at hE
        cases t with
        | nil => simp only [List.nil_append, List.length_nil] at e; omega
        | cons d t =>
          simp only [List.cons_append, List.drop_succ_cons, List.drop_zero, List.length_cons, List.headD_cons] at e h hE
          intro y hy
          rcases List.mem_cons.1 hy with rfl | hy
          · rintro rfl; rw [hexp y hE.1] at hx; cases hx
          rcases List.mem_cons.1 hy with rfl | hy
          · rintro rfl; rw [hE.2] at hx2; cases hx2
          · exact ih t r (by omega) (by omega) y hy
      · rw [if_neg hE] at e
        by_cases hn : numCh c = true
        · rw [if_pos hn] at e
          intro y hy
          rcases List.mem_cons.1 hy with rfl | hy
          · rintro rfl; rw [hn] at hx; cases hx
          · exact ih t r (by omega) (by omega) y hy
        · rw [if_neg hn] at e; omega
theorem quo_safe (q : UInt8) (h10 : q ≠ 10) (n : Nat) : ∀ (t r : List UInt8), t.length ≤ n → quoTail q (t ++ r) = some t.length → has2 92 10 t = false ∧ t.getLast? = some q ∧ t.head? ≠ some 10 := by
  induction n with
  | zero =>
    intro t r h e
    have : t = [] := List.length_eq_zero_iff.1 (by omega)
    subst this
    have := quoTail_le q _ _ e; simp at this
  | succ n ih =>
    intro t r h e
    cases t with
    | nil => have := quoTail_le q _ _ e; simp at this
    | cons c t =>
      rw [List.length_cons] at h e
      rw [List.cons_append, quoTail_cons] at e
      by_cases hq : c = q
      · rw [if_pos hq] at e
        injection e with e
        have : t = [] := List.length_eq_zero_iff.1 (by omega)
        subst this
        exact ⟨rfl, by simp [hq], by simp [hq, h10]⟩
      rw [if_neg hq] at e
      by_cases hc10 : c = 10
      · rw [if_pos hc10] at e; cases e
      rw [if_neg hc10] at e
      by_cases h92 : c = 92
      · rw [if_pos h92] at e
        cases t with
        | nil =>
          exfalso
          split at e
          · cases e
          · obtain ⟨m, h1, h2⟩ := Option.map_eq_some_iff.1 e
            simp only [List.length_nil] at h2; omega
        | cons d t =>
          rw [List.cons_append, List.drop_succ_cons, List.drop_zero, List.head?_cons] at e
          by_cases hd : (d :: (t ++ r) : List UInt8) = [] ∨ some d = some 10
          · rw [if_pos hd] at e; cases e
          rw [if_neg hd] at e
          obtain ⟨m, h1, h2⟩ := Option.map_eq_some_iff.1 e
          rw [List.length_cons] at h2 h
          obtain ⟨g1, g2, g3⟩ := ih t r (by omega) (by rw [h1]; congr 1; omega)
          have hd10 : d ≠ 10 := fun h => hd (.inr (by rw [h]))
          refine ⟨?_, ?_, by simp [hc10]⟩
          · cases t with
            | nil => simp [has2, hd10]
            | cons y t =>
              have hy : y ≠ 10 := by simpa using g3
              simp only [has2, g1, Bool.or_false]
              simp [hd10, hy]
          · cases t with
            | nil => simp at g2
            | cons y t => rw [List.getLast?_cons_cons, List.getLast?_cons_cons]; exact g2
      · rw [if_neg h92] at e
        obtain ⟨m, h1, h2⟩ := Option.map_eq_some_iff.1 e
        obtain ⟨g1, g2, g3⟩ := ih t r (by omega) (by rw [h1]; congr 1; omega)
        refine ⟨?_, ?_, by simp [hc10]⟩
        · cases t with
          | nil => rfl
          | cons y t => simp only [has2, g1, Bool.or_false]; simp [h92]
        · cases t with
          | nil => simp at g2
          | cons y t => rw [List.getLast?_cons_cons]; exact g2
theorem prefix_eq_take {p u : List UInt8} (h : p.isPrefixOf u = true) : u.take p.length = p := (List.prefix_iff_eq_take.1 (List.isPrefixOf_iff_prefix.1 h)).symm
/-- a token's text: no pair in it, none begins at its end -/
theorem tok_safe (u : List UInt8) (hu : u ≠ []) (h6 : (nextTok u).1 ≠ 6) : has2 92 10 (u.take (nextTok u).2) = false ∧ (u.take (nextTok u).2).getLast? ≠ some 92 := by
  cases u with
  | nil => exact absurd rfl hu
  | cons c u =>
    have hta : ∀ m, u.take m ++ u.drop m = u := fun m => List.take_append_drop _ _
    unfold nextTok at h6 ⊢
    by_cases h10 : (c :: u).head? = some 10
    · rw [if_pos h10]
      have : c = 10 := by simpa using h10
      rw [this]; exact ⟨rfl, by simp⟩
    rw [if_neg h10] at h6 ⊢
    by_cases hw : 0 < wordLen (c :: u)
    · rw [if_pos hw]
      have hle := wordLen_le (c :: u)
      simp only [wordLen] at hw hle ⊢
      by_cases hL : isLetter c = true
      · rw [if_pos hL] at hle ⊢
        rw [List.length_cons] at hle
        have hl2 := wordTail_le u
        rw [show 1 + wordTail u = wordTail u + 1 by omega, List.take_succ_cons]
        refine has2_none _ ?_
        intro d hd
        rcases List.mem_cons.1 hd with rfl | hd
        · rintro rfl; exact absurd hL (by decide)
        · exact wordTail_no 92 (by decide) (u.take (wordTail u)) (u.drop (wordTail u)) (by rw [hta, List.length_take]; omega) d hd
      · rw [if_neg hL] at hw; exact absurd hw (Nat.lt_irrefl _)
    rw [if_neg hw] at h6 ⊢
    by_cases hn : 0 < numLen (c :: u)
    · rw [if_pos hn]
      simp only [numLen] at hn ⊢
      by_cases hN : (isDigit c || (c == 46 && isDigit (u.headD 0))) = true
      · rw [if_pos hN]
        have hl2 := numTail_le u
        rw [show 1 + numTail u = numTail u + 1 by omega, List.take_succ_cons]
        refine has2_none _ ?_
        intro d hd
        rcases List.mem_cons.1 hd with rfl | hd
        · rintro rfl
          rw [show isDigit 92 = false by decide, show ((92 : UInt8) == 46) = false by decide] at hN
          simp at hN
        · exact numTail_no 92 (by decide) (by decide) _ (u.take (numTail u)) (u.drop (numTail u)) (Nat.le_refl _) (by rw [hta, List.length_take]; omega) d hd
      · rw [if_neg hN] at hn; exact absurd hn (Nat.lt_irrefl _)
    rw [if_neg hn] at h6 ⊢
    have quo : ∀ q : UInt8, q ≠ 10 → q ≠ 92 → 0 < quoLen q (c :: u) → has2 92 10 ((c :: u).take (quoLen q (c :: u))) = false ∧ ((c :: u).take (quoLen q (c :: u))).getLast? ≠ some 92 := by
      intro q hq10 hq92 h0
      simp only [quoLen] at h0 ⊢
      by_cases hc : c = q
      · rw [if_pos hc] at h0 ⊢
        by_cases hh : q = 39 ∧ u.head? = some q
        · rw [if_pos hh] at h0; exact absurd h0 (Nat.lt_irrefl _)
        rw [if_neg hh] at h0 ⊢
        cases hqt : quoTail q u with
        | none => rw [hqt] at h0; exact absurd h0 (Nat.lt_irrefl _)
        | some m =>
          simp only
          have hle := quoTail_le q _ _ hqt
          rw [List.take_succ_cons]
          obtain ⟨g1, g2, g3⟩ := quo_safe q hq10 _ (u.take m) (u.drop m) (Nat.le_refl _) (by rw [hta, hqt, List.length_take]; congr 1; omega)
          generalize u.take m = w at *
          cases w with
          | nil => simp at g2
          | cons y w =>
            rw [List.getLast?_cons_cons, g2]
            refine ⟨?_, by simpa using hq92⟩
            simp only [has2, g1, Bool.or_false]
            simp [hc, hq92]
      · rw [if_neg hc] at h0; exact absurd h0 (Nat.lt_irrefl _)
    by_cases h34 : 0 < quoLen 34 (c :: u)
    · rw [if_pos h34]; exact quo 34 (by decide) (by decide) h34
    rw [if_neg h34] at h6 ⊢
    by_cases h39 : 0 < quoLen 39 (c :: u)
    · rw [if_pos h39]; exact quo 39 (by decide) (by decide) h39
    rw [if_neg h39] at h6 ⊢
    by_cases hs : 0 < signLen (c :: u)
    · rw [if_pos hs]
      have l3 : ∀ p ∈ three, p.length = 3 ∧ ∀ x ∈ p, x ≠ 92 := by decide
      have l2 : ∀ p ∈ two, p.length = 2 ∧ ∀ x ∈ p, x ≠ 92 := by decide
      have l1 : ∀ x ∈ ones, x ≠ 92 := by decide
      unfold signLen at hs ⊢
      by_cases h3 : three.any (fun p => p.isPrefixOf (c :: u)) = true
      · rw [if_pos h3]
        obtain ⟨p, hp, e3⟩ := List.any_eq_true.1 h3
        have := prefix_eq_take e3
        rw [(l3 p hp).1] at this
        simp only
        rw [this]; exact has2_none _ (l3 p hp).2
      rw [if_neg h3] at hs ⊢
      by_cases h2 : two.any (fun p => p.isPrefixOf (c :: u)) = true
      · rw [if_pos h2]
        obtain ⟨p, hp, e3⟩ := List.any_eq_true.1 h2
        have := prefix_eq_take e3
        rw [(l2 p hp).1] at this
        simp only
        rw [this]; exact has2_none _ (l2 p hp).2
      rw [if_neg h2] at hs ⊢
      by_cases h1 : ones.any (fun x => (c :: u).head? == some x) = true
      · rw [if_pos h1]
        obtain ⟨x, hx, e3⟩ := List.any_eq_true.1 h1
        simp only [List.head?_cons, beq_iff_eq, Option.some.injEq] at e3
        subst e3
        refine has2_none _ ?_
        intro d hd
        have : d = c := by simpa using hd
        rw [this]; exact l1 c hx
      · rw [if_neg h1] at hs; exact absurd hs (Nat.lt_irrefl _)
    · rw [if_neg hs] at h6; exact absurd rfl h6
theorem charsAt_has2 : ∀ (s : List UInt8) (j : Nat), has2 92 10 s = false → (charsAt j s).map GChar.b = s
  | [], j, _ => rfl
  | [c], j, _ => rfl
  | c :: d :: r, j, h => by
    simp only [has2, Bool.or_eq_false_iff] at h
    rw [charsAt_cd, if_neg (by rintro ⟨h1, h2⟩; rw [h1, h2] at h; simp at h), List.map_cons, charsAt_has2 (d :: r) _ h.2]

theorem quo_no10 (q : UInt8) (h10 : q ≠ 10) (n : Nat) : ∀ (t r : List UInt8), t.length ≤ n → quoTail q (t ++ r) = some t.length → ∀ c ∈ t, c ≠ 10 := by
  induction n with
  | zero =>
    intro t r h e
    have : t = [] := List.length_eq_zero_iff.1 (by omega)
    subst this; intro c hc; cases hc
  | succ n ih =>
    intro t r h e
    cases t with
    | nil => intro c hc; cases hc
    | cons c t =>
      rw [List.length_cons] at h e
      rw [List.cons_append, quoTail_cons] at e
      by_cases hq : c = q
      · rw [if_pos hq] at e
        injection e with e
        have : t = [] := List.length_eq_zero_iff.1 (by omega)
        subst this
        intro d hd
        rw [List.mem_singleton.1 hd, hq]; exact h10
      rw [if_neg hq] at e
      by_cases hc10 : c = 10
      · rw [if_pos hc10] at e; cases e
      rw [if_neg hc10] at e
      by_cases h92 : c = 92
      · rw [if_pos h92] at e
        cases t with
        | nil => intro d hd; rw [List.mem_singleton.1 hd]; exact hc10
        | cons d t =>
          rw [List.cons_append, List.drop_succ_cons, List.drop_zero, List.head?_cons] at e
          by_cases hd : (d :: (t ++ r) : List UInt8) = [] ∨ some d = some 10
          · rw [if_pos hd] at e; cases e
          rw [if_neg hd] at e
          obtain ⟨m, h1, h2⟩ := Option.map_eq_some_iff.1 e
          rw [List.length_cons] at h2 h
          have g := ih t r (by omega) (by rw [h1]; congr 1; omega)
          intro x hx
          rcases List.mem_cons.1 hx with rfl | hx
          · exact hc10
          rcases List.mem_cons.1 hx with rfl | hx
          · exact fun h => hd (.inr (by rw [h]))
          · exact g x hx
      · rw [if_neg h92] at e
        obtain ⟨m, h1, h2⟩ := Option.map_eq_some_iff.1 e
        have g := ih t r (by omega) (by rw [h1]; congr 1; omega)
        intro x hx
        rcases List.mem_cons.1 hx with rfl | hx
        · exact hc10
        · exact g x hx
/-- a token's text: no line end; and no quote nor backslash, but in what stands between quotes -/
def PlainTok (k : Int) (w : List UInt8) : Prop := k ≠ 6 → k ≠ 7 → (∀ c ∈ w, c ≠ 10) ∧ (k ≠ 3 → k ≠ 4 → ∀ c ∈ w, c ≠ 34 ∧ c ≠ 92)
theorem tok_plain (u : List UInt8) (hu : u ≠ []) : PlainTok (nextTok u).1 (u.take (nextTok u).2) := by
  cases u with
  | nil => exact absurd rfl hu
  | cons c u =>
    have hta : ∀ m, u.take m ++ u.drop m = u := fun m => List.take_append_drop _ _
    have fin : ∀ (k : Int) (w : List UInt8), (∀ d ∈ w, d ≠ 10 ∧ d ≠ 34 ∧ d ≠ 92) → PlainTok k w := fun k w h _ _ => ⟨fun d hd => (h d hd).1, fun _ _ d hd => (h d hd).2⟩
    unfold nextTok
    by_cases h10 : (c :: u).head? = some 10
    · rw [if_pos h10]; intro _ h7; exact absurd rfl h7
    rw [if_neg h10]
    by_cases hw : 0 < wordLen (c :: u)
    · rw [if_pos hw]
      have hle := wordLen_le (c :: u)
      simp only [wordLen] at hw hle ⊢
      by_cases hL : isLetter c = true
      · rw [if_pos hL] at hle ⊢
        rw [List.length_cons] at hle
        have hl2 := wordTail_le u
        rw [show 1 + wordTail u = wordTail u + 1 by omega, List.take_succ_cons]
        have key : ∀ x, (isLetter x || isDigit x) = false → isLetter x = false → ∀ d ∈ c :: u.take (wordTail u), d ≠ x := by
          intro x hx hx2 d hd
          rcases List.mem_cons.1 hd with rfl | hd
          · rintro rfl; rw [hx2] at hL; cases hL
          · exact wordTail_no x hx (u.take (wordTail u)) (u.drop (wordTail u)) (by rw [hta, List.length_take]; omega) d hd
        exact fin _ _ fun d hd => ⟨key 10 (by decide) (by decide) d hd, key 34 (by decide) (by decide) d hd, key 92 (by decide) (by decide) d hd⟩
      · rw [if_neg hL] at hw; exact absurd hw (Nat.lt_irrefl _)
    rw [if_neg hw]
    by_cases hn : 0 < numLen (c :: u)
    · rw [if_pos hn]
      simp only [numLen] at hn ⊢
      by_cases hN : (isDigit c || (c == 46 && isDigit (u.headD 0))) = true
      · rw [if_pos hN]
        have hl2 := numTail_le u
        rw [show 1 + numTail u = numTail u + 1 by omega, List.take_succ_cons]
        have key : ∀ x, numCh x = false → isPM x = false → isDigit x = false → x ≠ 46 → ∀ d ∈ c :: u.take (numTail u), d ≠ x := by
          intro x hx hx2 hx3 hx4 d hd
          rcases List.mem_cons.1 hd with rfl | hd
          · rintro rfl
            rw [hx3, show (d == 46) = false from by simpa using hx4] at hN
            simp at hN
          · exact numTail_no x hx hx2 _ (u.take (numTail u)) (u.drop (numTail u)) (Nat.le_refl _) (by rw [hta, List.length_take]; omega) d hd
        exact fin _ _ fun d hd => ⟨key 10 (by decide) (by decide) (by decide) (by decide) d hd, key 34 (by decide) (by decide) (by decide) (by decide) d hd, key 92 (by decide) (by decide) (by decide) (by decide) d hd⟩
      · rw [if_neg hN] at hn; exact absurd hn (Nat.lt_irrefl _)
    rw [if_neg hn]
    have quo : ∀ q : UInt8, q ≠ 10 → 0 < quoLen q (c :: u) → ∀ d ∈ (c :: u).take (quoLen q (c :: u)), d ≠ 10 := by
      intro q hq10 h0
      simp only [quoLen] at h0 ⊢
      by_cases hc : c = q
      · rw [if_pos hc] at h0 ⊢
        by_cases hh : q = 39 ∧ u.head? = some q
        · rw [if_pos hh] at h0; exact absurd h0 (Nat.lt_irrefl _)
        rw [if_neg hh] at h0 ⊢
        cases hqt : quoTail q u with
        | none => rw [hqt] at h0; exact absurd h0 (Nat.lt_irrefl _)
        | some m =>
          simp only
          have hle := quoTail_le q _ _ hqt
          rw [List.take_succ_cons]
          intro d hd
          rcases List.mem_cons.1 hd with rfl | hd
          · rw [hc]; exact hq10
          · exact quo_no10 q hq10 _ (u.take m) (u.drop m) (Nat.le_refl _) (by rw [hta, hqt, List.length_take]; congr 1; omega) d hd
      · rw [if_neg hc] at h0; exact absurd h0 (Nat.lt_irrefl _)
    by_cases h34 : 0 < quoLen 34 (c :: u)
    · rw [if_pos h34]; intro _ _; exact ⟨quo 34 (by decide) h34, fun _ h => absurd rfl h⟩
    rw [if_neg h34]
    by_cases h39 : 0 < quoLen 39 (c :: u)
    · rw [if_pos h39]; intro _ _; exact ⟨quo 39 (by decide) h39, fun h => absurd rfl h⟩
    rw [if_neg h39]
    by_cases hs : 0 < signLen (c :: u)
    · rw [if_pos hs]
      have l3 : ∀ p ∈ three, p.length = 3 ∧ ∀ x ∈ p, x ≠ 10 ∧ x ≠ 34 ∧ x ≠ 92 := by decide
      have l2 : ∀ p ∈ two, p.length = 2 ∧ ∀ x ∈ p, x ≠ 10 ∧ x ≠ 34 ∧ x ≠ 92 := by decide
      have l1 : ∀ x ∈ ones, x ≠ 10 ∧ x ≠ 34 ∧ x ≠ 92 := by decide
      refine fin _ _ ?_
      unfold signLen at hs ⊢
      by_cases h3 : three.any (fun p => p.isPrefixOf (c :: u)) = true
      · rw [if_pos h3]
        obtain ⟨p, hp, e3⟩ := List.any_eq_true.1 h3
        have := prefix_eq_take e3
        rw [(l3 p hp).1] at this
        simp only
        rw [this]; exact (l3 p hp).2
      rw [if_neg h3] at hs ⊢
      by_cases h2 : two.any (fun p => p.isPrefixOf (c :: u)) = true
      · rw [if_pos h2]
        obtain ⟨p, hp, e3⟩ := List.any_eq_true.1 h2
        have := prefix_eq_take e3
        rw [(l2 p hp).1] at this
        simp only
        rw [this]; exact (l2 p hp).2
      rw [if_neg h2] at hs ⊢
      by_cases h1 : ones.any (fun x => (c :: u).head? == some x) = true
      · rw [if_pos h1]
        obtain ⟨x, hx, e3⟩ := List.any_eq_true.1 h1
        simp only [List.head?_cons, beq_iff_eq, Option.some.injEq] at e3
        subst e3
        intro d hd
        have : d = c := by simpa using hd
        rw [this]; exact l1 c hx
      · rw [if_neg h1] at hs; exact absurd hs (Nat.lt_irrefl _)
    · rw [if_neg hs]; intro h6; exact absurd rfl h6
theorem toks_plain (n : Nat) : ∀ (i : Nat) (b : Bool) (u : List UInt8), u.length ≤ n → ∀ p ∈ toks i b u, PlainTok p.kind p.text := by
  induction n with
  | zero =>
    intro i b u h
    have : u = [] := List.length_eq_zero_iff.1 (by omega)
    subst this; rw [toks_nil]; intro p hp; cases hp
  | succ n ih =>
    intro i b u h
    by_cases hu : u = []
    · subst hu; rw [toks_nil]; intro p hp; cases hp
    by_cases hb : 0 < blankLen u
    · rw [toks_blank hb]
      exact ih _ _ _ (by rw [List.length_drop]; omega)
    have hp := nextTok_pos u
    rw [toks_tok hu (by omega)]
    intro p hp2
    rcases List.mem_cons.1 hp2 with rfl | hp2
    · exact tok_plain u hu
    · exact ih _ _ _ (by rw [List.length_drop]; omega) p hp2
theorem tokens_plain (file : Int) (t : List UInt8) : ∀ x ∈ tokens file t, PlainTok x.kind x.text := by
  intro x hx
  unfold tokens at hx
  obtain ⟨p, hp, rfl⟩ := List.mem_map.1 hx
  exact toks_plain _ _ _ _ (Nat.le_refl _) p hp
end Go.Sh
