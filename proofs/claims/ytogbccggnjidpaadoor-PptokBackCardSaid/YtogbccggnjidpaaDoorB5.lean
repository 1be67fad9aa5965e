/-
  PptokBack in plain words: what is printed is told again. No program in sight.
-/
import Derived.Test.YtogbccggnjidpaaDoorB2
import Derived.Test.YtogbccggnjidpaaDoorA11
set_option linter.unusedVariables false
set_option linter.unusedSimpArgs false
namespace Go.Sh
open Go
def printP (l : List PT) : List UInt8 := l.flatMap fun p => (if p.blank = true then [32] else []) ++ p.text
theorem printP_cons (p : PT) (l : List PT) : printP (p :: l) = (if p.blank = true then [32] else []) ++ p.text ++ printP l := by unfold printP; rw [List.flatMap_cons]
theorem printT_toks (file : Int) (l : List GChar) (ps : List PT) : printT (ps.map (tokOf file l)) = printP ps := by
  unfold printT printP; rw [List.flatMap_map]; rfl
/-- printed behind a blank: nothing, or a blank first -/
theorem printP_blank (n : Nat) : ∀ (i : Nat) (u : List UInt8), u.length ≤ n → printP (toks i true u) = [] ∨ ∃ X, printP (toks i true u) = 32 :: X := by
  induction n with
  | zero =>
    intro i u h
    have : u = [] := List.length_eq_zero_iff.1 (by omega)
    subst this; rw [toks_nil]; exact .inl rfl
  | succ n ih =>
    intro i u h
    by_cases hu : u = []
    · subst hu; rw [toks_nil]; exact .inl rfl
    by_cases hb : 0 < blankLen u
    · rw [toks_blank hb]; exact ih _ _ (by rw [List.length_drop]; omega)
    · rw [toks_tok hu (by omega), printP_cons]; exact .inr ⟨_, rfl⟩
theorem begins_print (n : Nat) : ∀ (i : Nat) (u : List UInt8), u.length ≤ n → Begins (printP (toks i false u)) u := by
  induction n with
  | zero =>
    intro i u h
    have : u = [] := List.length_eq_zero_iff.1 (by omega)
    subst this; rw [toks_nil]; exact Begins.nil _
  | succ n ih =>
    intro i u h
    by_cases hu : u = []
    · subst hu; rw [toks_nil]; exact Begins.nil _
    by_cases hb : 0 < blankLen u
    · rw [toks_blank hb]
      rcases printP_blank _ (i + blankLen u) (u.drop (blankLen u)) (Nat.le_refl _) with h1 | ⟨X, h1⟩
      · rw [h1]; exact Begins.nil _
      · rw [h1]
        intro q hq hp
        cases q with
        | nil => exact List.nil_prefix
        | cons c q =>
          obtain ⟨s, hs⟩ := hp
          injection hs with hs _
          exact absurd hs (hq c (by simp))
    · have hp := nextTok_pos u
      rw [toks_tok hu (by omega), printP_cons]
      simp only [Bool.false_eq_true, if_false, List.nil_append]
      intro q hq hpre
      have hI := ih (i + (nextTok u).2) (u.drop (nextTok u).2) (by rw [List.length_drop]; omega)
      generalize hX : printP (toks (i + (nextTok u).2) false (u.drop (nextTok u).2)) = X at *
      have := prefix_cut hI q (u.take (nextTok u).2) hq (List.isPrefixOf_iff_prefix.2 hpre)
      rw [List.take_append_drop] at this
      exact List.isPrefixOf_iff_prefix.1 this

/-! ### two bytes side by side -/
/-- these two stand side by side somewhere -/
def has2 (a b : UInt8) : List UInt8 → Bool
  | [] => false
  | [_] => false
  | c :: d :: r => (c == a && d == b) || has2 a b (d :: r)
theorem has2_append (a b : UInt8) : ∀ (t X : List UInt8), has2 a b (t ++ X) = (has2 a b t || has2 a b X || (t.getLast? == some a && X.head? == some b))
  | [], X => by simp [has2]
  | [c], X => by
    cases X with
    | nil => simp [has2]
    | cons d X =>
      simp only [List.cons_append, List.nil_append, has2, List.getLast?_singleton, List.head?_cons, Bool.false_or]
      rw [Bool.or_comm]
      congr 1
  | c :: d :: r, X => by
    have ih := has2_append a b (d :: r) X
    simp only [List.cons_append] at ih ⊢
    simp only [has2, ih]
    have e : (c :: d :: r).getLast? = (d :: r).getLast? := by simp [List.getLast?_cons_cons]
    rw [e]
    simp only [Bool.or_assoc]
theorem blockLen_has2 : ∀ u : List UInt8, blockLen u = none ↔ has2 42 47 u = false
  | [] => by simp [blockLen, has2]
  | [c] => by simp [blockLen, has2]
  | c :: d :: r => by
    have ih := blockLen_has2 (d :: r)
    simp only [blockLen, has2]
    by_cases hp : c = 42 ∧ d = 47
    · rw [if_pos hp]; simp [hp.1, hp.2]
    · rw [if_neg hp]
      have : (c == 42 && d == 47) = false := by
        rcases Decidable.not_and_iff_or_not.1 hp with h | h
        · simp [h]
        · simp [h]
      rw [this, Bool.false_or, ← ih]
      cases blockLen (d :: r) <;> simp
/-- what stands side by side in what is printed (blanks aside) stood so -/
theorem has2_print (a b : UInt8) (ha : a ≠ 32) (hb32 : b ≠ 32) (n : Nat) : ∀ (i : Nat) (bl : Bool) (u : List UInt8), u.length ≤ n → has2 a b u = false → has2 a b (printP (toks i bl u)) = false := by
  induction n with
  | zero =>
    intro i bl u h _
    have : u = [] := List.length_eq_zero_iff.1 (by omega)
    subst this; rw [toks_nil]; rfl
  | succ n ih =>
    intro i bl u h e
    by_cases hu : u = []
    · subst hu; rw [toks_nil]; rfl
    have hdrop : ∀ m, has2 a b (u.drop m) = false := fun m => by
      have := has2_append a b (u.take m) (u.drop m)
      rw [List.take_append_drop, e] at this
      have := this.symm
      simp only [Bool.or_eq_false_iff] at this
      exact this.1.2
    by_cases hb : 0 < blankLen u
    · rw [toks_blank hb]; exact ih _ _ _ (by rw [List.length_drop]; omega) (hdrop _)
    · have hp := nextTok_pos u
      rw [toks_tok hu (by omega), printP_cons]
      have hX := ih (i + (nextTok u).2) false (u.drop (nextTok u).2) (by rw [List.length_drop]; omega) (hdrop _)
      have hB := begins_print _ (i + (nextTok u).2) (u.drop (nextTok u).2) (Nat.le_refl _)
      have hu2 := has2_append a b (u.take (nextTok u).2) (u.drop (nextTok u).2)
      rw [List.take_append_drop, e] at hu2
      have hu2 := hu2.symm
      simp only [Bool.or_eq_false_iff] at hu2
      generalize printP (toks (i + (nextTok u).2) false (u.drop (nextTok u).2)) = X at *
      simp only
      have h1 : has2 a b (u.take (nextTok u).2 ++ X) = false := by
        rw [has2_append, hu2.1.1, hX, Bool.false_or, Bool.false_or]
        cases X with
        | nil => simp
        | cons d X' =>
          by_cases hd : d = b
          · subst hd
            obtain ⟨r', hr⟩ := hB.head rfl hb32
            have := hu2.2
            rw [hr] at this
            exact this
          · simp [hd]
      rw [List.append_assoc, has2_append, h1]
      cases bl with
      | false => simp [has2]
      | true => simp [has2, Ne.symm ha]
theorem has2_join {a b : UInt8} (hb : b ≠ 32) {t r X : List UInt8} (hB : Begins X r) (hX : has2 a b r = false → has2 a b X = false) (e : has2 a b (t ++ r) = false) : has2 a b (t ++ X) = false := by
  rw [has2_append] at e ⊢
  simp only [Bool.or_eq_false_iff] at e ⊢
  refine ⟨⟨e.1.1, hX e.1.2⟩, ?_⟩
  cases X with
  | nil => simp
  | cons d X' =>
    by_cases hd : d = b
    · subst hd
      obtain ⟨r', rfl⟩ := hB.head rfl hb
      exact e.2
    · simp [hd]
theorem blankLen_cut (t r X : List UInt8) (ht : t ≠ []) (e : blankLen (t ++ r) = 0) (hB : Begins X r) (h2 : ∀ w : List UInt8, has2 42 47 (w ++ r) = false → has2 42 47 (w ++ X) = false) (h3 : ∀ X' r', X = 42 :: X' → r = 42 :: r' → has2 42 47 r' = false → has2 42 47 X' = false) : blankLen (t ++ X) = 0 := by
  cases t with
  | nil => exact absurd rfl ht
  | cons c t =>
    rw [List.cons_append] at e ⊢
    simp only [blankLen] at e ⊢
    by_cases hw : isWS c = true
    · rw [if_pos hw] at e; cases e
    rw [if_neg hw] at e ⊢
    have hhead : ∀ d, d ≠ 32 → (t ++ X).head? = some d → (t ++ r).head? = some d := by
      intro d hd hx
      cases t with
      | cons x t => exact hx
      | nil =>
        simp only [List.nil_append] at hx ⊢
        cases X with
        | nil => cases hx
        | cons y X' =>
          injection hx with hx; subst hx
          obtain ⟨r', rfl⟩ := hB.head rfl hd; rfl
    by_cases hl : c = 47 ∧ (t ++ r).head? = some 47
    · rw [if_pos hl] at e; omega
    rw [if_neg hl] at e
    rw [if_neg (fun h => hl ⟨h.1, hhead 47 (by decide) h.2⟩)]
    by_cases hb : c = 47 ∧ (t ++ X).head? = some 42
    · rw [if_pos hb]
      have hb2 : c = 47 ∧ (t ++ r).head? = some 42 := ⟨hb.1, hhead 42 (by decide) hb.2⟩
      rw [if_pos hb2] at e
      have hnone : blockLen ((t ++ r).drop 1) = none := by
        cases hbl : blockLen ((t ++ r).drop 1) with
        | none => rfl
        | some n => rw [hbl] at e; simp at e
      have key : blockLen ((t ++ X).drop 1) = none := by
        rw [blockLen_has2] at hnone ⊢
        cases t with
        | cons x t => exact h2 t hnone
        | nil =>
          simp only [List.nil_append] at hnone hb hb2 ⊢
          cases X with
          | nil => rfl
          | cons y X' =>
            have hy : y = 42 := by simpa using hb.2
            obtain ⟨r', rfl⟩ := hB.head rfl (by rw [hy]; decide)
            simp only [List.drop_succ_cons, List.drop_zero] at hnone ⊢
            exact h3 X' r' (by rw [hy]) (by rw [hy]) hnone
      rw [key]
    · rw [if_neg hb]
theorem has2_tail (i : Nat) (r X' r' : List UInt8) (hX : printP (toks i false r) = 42 :: X') (hr : r = 42 :: r') (e : has2 42 47 r' = false) : has2 42 47 X' = false := by
  by_cases hb : 0 < blankLen r
  · rw [hr] at hb
    simp [blankLen, isWS] at hb
  have hne : r ≠ [] := by rw [hr]; simp
  have hp := nextTok_pos r
  have hle := nextTok_le r hne
  rw [toks_tok hne (by omega), printP_cons] at hX
  simp only [Bool.false_eq_true, if_false, List.nil_append] at hX
  obtain ⟨m, hm⟩ : ∃ m, (nextTok r).2 = m + 1 := ⟨(nextTok r).2 - 1, by omega⟩
  rw [hm] at hX
  rw [hr, List.take_succ_cons, List.cons_append] at hX
  injection hX with _ hX
  rw [← hX, ← hr]
  have hd : r.drop (m + 1) = r'.drop m := by rw [hr]; rfl
  have e2 : has2 42 47 (r'.take m ++ r'.drop m) = false := by rw [List.take_append_drop]; exact e
  rw [hd]
  exact has2_join (by decide) (begins_print _ _ _ (Nat.le_refl _)) (fun h => has2_print 42 47 (by decide) (by decide) _ _ _ _ (Nat.le_refl _) h) e2
/-- a token told of what is printed behind it -/
theorem tok_print (u : List UInt8) (i : Nat) (hu : u ≠ []) (hb : blankLen u = 0) (h6 : (nextTok u).1 ≠ 6) :
    nextTok (u.take (nextTok u).2 ++ printP (toks i false (u.drop (nextTok u).2))) = nextTok u ∧ blankLen (u.take (nextTok u).2 ++ printP (toks i false (u.drop (nextTok u).2))) = 0 := by
  have hp := nextTok_pos u
  have hle := nextTok_le u hu
  have hlen : (u.take (nextTok u).2).length = (nextTok u).2 := by rw [List.length_take]; omega
  have hne : u.take (nextTok u).2 ≠ [] := fun e => by rw [e] at hlen; simp at hlen; omega
  have hB := begins_print _ i (u.drop (nextTok u).2) (Nat.le_refl _)
  have hta : u.take (nextTok u).2 ++ u.drop (nextTok u).2 = u := List.take_append_drop _ _
  refine ⟨?_, ?_⟩
  · have := nextTok_cut hB (u.take (nextTok u).2) hne (nextTok u).1 (.inl h6) (by rw [hta, hlen])
    rw [this, hlen]
  · exact blankLen_cut _ _ _ hne (by rw [hta]; exact hb) hB (fun w e => has2_join (by decide) hB (fun h => has2_print 42 47 (by decide) (by decide) _ _ _ _ (Nat.le_refl _) h) e) (fun X' r' h1 h2 h3 => has2_tail i _ X' r' h1 h2 h3)
theorem retell (n : Nat) : ∀ (i j : Nat) (b : Bool) (u : List UInt8), u.length ≤ n → (∀ p ∈ toks i b u, p.kind ≠ 6) → (toks j false (printP (toks i b u))).map ptk = (toks i b u).map ptk := by
  induction n with
  | zero =>
    intro i j b u h _
    have : u = [] := List.length_eq_zero_iff.1 (by omega)
    subst this; rw [toks_nil]; show (toks j false []).map ptk = _; rw [toks_nil]
  | succ n ih =>
    intro i j b u h h6
    by_cases hu : u = []
    · subst hu; rw [toks_nil]; show (toks j false []).map ptk = _; rw [toks_nil]
    by_cases hb : 0 < blankLen u
    · rw [toks_blank hb] at h6 ⊢
      exact ih _ _ _ _ (by rw [List.length_drop]; omega) h6
    have hb0 : blankLen u = 0 := by omega
    have hp := nextTok_pos u
    have hle := nextTok_le u hu
    have hlen : (u.take (nextTok u).2).length = (nextTok u).2 := by rw [List.length_take]; omega
    rw [toks_tok hu hb0] at h6 ⊢
    have hk := h6 _ (List.mem_cons_self ..)
    simp only at hk
    obtain ⟨g1, g2⟩ := tok_print u (i + (nextTok u).2) hu hb0 hk
    have hI := fun j => ih (i + (nextTok u).2) j false (u.drop (nextTok u).2) (by rw [List.length_drop]; omega) (fun p hp => h6 p (List.mem_cons_of_mem _ hp))
    rw [printP_cons, List.map_cons]
    generalize hX : printP (toks (i + (nextTok u).2) false (u.drop (nextTok u).2)) = X at *
    simp only
    have hne : u.take (nextTok u).2 ++ X ≠ [] := fun e => by
      have := congrArg List.length e
      rw [List.length_append, hlen] at this; simp at this; omega
    have main : ∀ j, (toks j b (u.take (nextTok u).2 ++ X)).map ptk = ptk ⟨(nextTok u).1, u.take (nextTok u).2, i, i + (nextTok u).2, b⟩ :: (toks (i + (nextTok u).2) false (u.drop (nextTok u).2)).map ptk := by
      intro j
      rw [toks_tok hne g2, g1, List.map_cons, List.take_left' hlen, List.drop_left' hlen, hI]; rfl
    cases b with
    | false =>
      simp only [Bool.false_eq_true, if_false, List.nil_append]
      exact main j
    | true =>
      simp only [if_true, List.cons_append, List.nil_append]
      have h32 : blankLen (32 :: (u.take (nextTok u).2 ++ X)) = 1 := by simp [blankLen, isWS]
      rw [toks_blank (by rw [h32]; decide), h32, List.drop_succ_cons, List.drop_zero]
      exact main _

/-! ### no pair comes of printing -/
theorem has2_none {a b : UInt8} : ∀ t : List UInt8, (∀ c ∈ t, c ≠ a) → has2 a b t = false ∧ t.getLast? ≠ some a
  | [], _ => ⟨rfl, by simp⟩
  | [c], h => ⟨rfl, by simpa using h c (by simp)⟩
  | c :: d :: r, h => by
    obtain ⟨h1, h2⟩ := has2_none (a := a) (b := b) (d :: r) (fun x hx => h x (by simp at hx ⊢; exact .inr hx))
    refine ⟨?_, by rw [List.getLast?_cons_cons]; exact h2⟩
    simp only [has2, h1, Bool.or_false, Bool.and_eq_false_iff, beq_eq_false_iff_ne]
    exact .inl (h c (by simp))
theorem wordTail_no (x : UInt8) (hx : (isLetter x || isDigit x) = false) : ∀ (t r : List UInt8), wordTail (t ++ r) = t.length → ∀ c ∈ t, c ≠ x
  | [], _, _ => fun c hc => by cases hc
  | c :: t, r, e => by
    simp only [List.cons_append, wordTail, List.length_cons] at e
    by_cases hw : (isLetter c || isDigit c) = true
    · rw [if_pos hw] at e
      intro d hd
      rcases List.mem_cons.1 hd with rfl | hd
      · rintro rfl; rw [hx] at hw; cases hw
      · exact wordTail_no x hx t r (by omega) d hd
    · rw [if_neg hw] at e; omega
theorem numTail_no (x : UInt8) (hx : numCh x = false) (hx2 : isPM x = false) (n : Nat) : ∀ (t r : List UInt8), t.length ≤ n → numTail (t ++ r) = t.length → ∀ c ∈ t, c ≠ x := by
  have hexp : ∀ c, isExp c = true → numCh c = true := by
    intro c hE
    simp only [isExp, Bool.or_eq_true, beq_iff_eq] at hE
    rcases hE with ((rfl | rfl) | rfl) | rfl <;> decide
  induction n with
  | zero =>
    intro t r h _
    have : t = [] := List.length_eq_zero_iff.1 (by omega)
    subst this; intro c hc; cases hc
  | succ n ih =>
    intro t r h e
    cases t with
    | nil => intro c hc; cases hc
    | cons c t =>
      rw [List.length_cons] at h e
      rw [List.cons_append, numTail_cons] at e
      by_cases hE : (isExp c && isPM ((t ++ r).headD 0)) = true
      · rw [if_pos hE] at e
        rw [Bool.and_eq_true] at hE
        cases t with
        | nil => simp only [List.nil_append, List.length_nil] at e; omega
        | cons d t =>
          simp only [List.cons_append, List.drop_succ_cons, List.drop_zero, List.length_cons, List.headD_cons] at e h hE
          intro y hy
          rcases List.mem_cons.1 hy with rfl | hy
          · rintro rfl; rw [hexp y hE.1] at hx; cases hx
          rcases List.mem_cons.1 hy with rfl | hy
          · rintro rfl; rw [hE.2] at hx2; cases hx2
          · exact ih t r (by omega) (by omega) y hy
      · rw [if_neg hE] at e
        by_cases hn : numCh c = true
        · rw [if_pos hn] at e
          intro y hy
          rcases List.mem_cons.1 hy with rfl | hy
          · rintro rfl; rw [hn] at hx; cases hx
          · exact ih t r (by omega) (by omega) y hy
        · rw [if_neg hn] at e; omega
theorem quo_safe (q : UInt8) (h10 : q ≠ 10) (n : Nat) : ∀ (t r : List UInt8), t.length ≤ n → quoTail q (t ++ r) = some t.length → has2 92 10 t = false ∧ t.getLast? = some q ∧ t.head? ≠ some 10 := by
  induction n with
  | zero =>
    intro t r h e
    have : t = [] := List.length_eq_zero_iff.1 (by omega)
    subst this
    have := quoTail_le q _ _ e; simp at this
  | succ n ih =>
    intro t r h e
    cases t with
    | nil => have := quoTail_le q _ _ e; simp at this
    | cons c t =>
      rw [List.length_cons] at h e
      rw [List.cons_append, quoTail_cons] at e
      by_cases hq : c = q
      · rw [if_pos hq] at e
        injection e with e
        have : t = [] := List.length_eq_zero_iff.1 (by omega)
        subst this
        exact ⟨rfl, by simp [hq], by simp [hq, h10]⟩
      rw [if_neg hq] at e
      by_cases hc10 : c = 10
      · rw [if_pos hc10] at e; cases e
      rw [if_neg hc10] at e
      by_cases h92 : c = 92
      · rw [if_pos h92] at e
        cases t with
        | nil =>
          exfalso
          split at e
          · cases e
          · obtain ⟨m, h1, h2⟩ := Option.map_eq_some_iff.1 e
            simp only [List.length_nil] at h2; omega
        | cons d t =>
          rw [List.cons_append, List.drop_succ_cons, List.drop_zero, List.head?_cons] at e
          by_cases hd : (d :: (t ++ r) : List UInt8) = [] ∨ some d = some 10
          · rw [if_pos hd] at e; cases e
          rw [if_neg hd] at e
          obtain ⟨m, h1, h2⟩ := Option.map_eq_some_iff.1 e
          rw [List.length_cons] at h2 h
          obtain ⟨g1, g2, g3⟩ := ih t r (by omega) (by rw [h1]; congr 1; omega)
          have hd10 : d ≠ 10 := fun h => hd (.inr (by rw [h]))
          refine ⟨?_, ?_, by simp [hc10]⟩
          · cases t with
            | nil => simp [has2, hd10]
            | cons y t =>
              have hy : y ≠ 10 := by simpa using g3
              simp only [has2, g1, Bool.or_false]
              simp [hd10, hy]
          · cases t with
            | nil => simp at g2
            | cons y t => rw [List.getLast?_cons_cons, List.getLast?_cons_cons]; exact g2
      · rw [if_neg h92] at e
        obtain ⟨m, h1, h2⟩ := Option.map_eq_some_iff.1 e
        obtain ⟨g1, g2, g3⟩ := ih t r (by omega) (by rw [h1]; congr 1; omega)
        refine ⟨?_, ?_, by simp [hc10]⟩
        · cases t with
          | nil => rfl
          | cons y t => simp only [has2, g1, Bool.or_false]; simp [h92]
        · cases t with
          | nil => simp at g2
          | cons y t => rw [List.getLast?_cons_cons]; exact g2
theorem prefix_eq_take {p u : List UInt8} (h : p.isPrefixOf u = true) : u.take p.length = p := (List.prefix_iff_eq_take.1 (List.isPrefixOf_iff_prefix.1 h)).symm
/-- a token's text: no pair in it, none begins at its end -/
theorem tok_safe (u : List UInt8) (hu : u ≠ []) (h6 : (nextTok u).1 ≠ 6) : has2 92 10 (u.take (nextTok u).2) = false ∧ (u.take (nextTok u).2).getLast? ≠ some 92 := by
  cases u with
  | nil => exact absurd rfl hu
  | cons c u =>
    have hta : ∀ m, u.take m ++ u.drop m = u := fun m => List.take_append_drop _ _
    unfold nextTok at h6 ⊢
    by_cases h10 : (c :: u).head? = some 10
    · rw [if_pos h10]
      have : c = 10 := by simpa using h10
      rw [this]; exact ⟨rfl, by simp⟩
    rw [if_neg h10] at h6 ⊢
    by_cases hw : 0 < wordLen (c :: u)
    · rw [if_pos hw]
      have hle := wordLen_le (c :: u)
      simp only [wordLen] at hw hle ⊢
      by_cases hL : isLetter c = true
      · rw [if_pos hL] at hle ⊢
        rw [List.length_cons] at hle
        have hl2 := wordTail_le u
        rw [show 1 + wordTail u = wordTail u + 1 by omega, List.take_succ_cons]
        refine has2_none _ ?_
        intro d hd
        rcases List.mem_cons.1 hd with rfl | hd
        · rintro rfl; exact absurd hL (by decide)
        · exact wordTail_no 92 (by decide) (u.take (wordTail u)) (u.drop (wordTail u)) (by rw [hta, List.length_take]; omega) d hd
      · rw [if_neg hL] at hw; exact absurd hw (Nat.lt_irrefl _)
    rw [if_neg hw] at h6 ⊢
    by_cases hn : 0 < numLen (c :: u)
    · rw [if_pos hn]
      simp only [numLen] at hn ⊢
      by_cases hN : (isDigit c || (c == 46 && isDigit (u.headD 0))) = true
      · rw [if_pos hN]
        have hl2 := numTail_le u
        rw [show 1 + numTail u = numTail u + 1 by omega, List.take_succ_cons]
        refine has2_none _ ?_
        intro d hd
        rcases List.mem_cons.1 hd with rfl | hd
        · rintro rfl
          rw [show isDigit 92 = false by decide, show ((92 : UInt8) == 46) = false by decide] at hN
          simp at hN
        · exact numTail_no 92 (by decide) (by decide) _ (u.take (numTail u)) (u.drop (numTail u)) (Nat.le_refl _) (by rw [hta, List.length_take]; omega) d hd
      · rw [if_neg hN] at hn; exact absurd hn (Nat.lt_irrefl _)
    rw [if_neg hn] at h6 ⊢
    have quo : ∀ q : UInt8, q ≠ 10 → q ≠ 92 → 0 < quoLen q (c :: u) → has2 92 10 ((c :: u).take (quoLen q (c :: u))) = false ∧ ((c :: u).take (quoLen q (c :: u))).getLast? ≠ some 92 := by
      intro q hq10 hq92 h0
      simp only [quoLen] at h0 ⊢
      by_cases hc : c = q
      · rw [if_pos hc] at h0 ⊢
        by_cases hh : q = 39 ∧ u.head? = some q
        · rw [if_pos hh] at h0; exact absurd h0 (Nat.lt_irrefl _)
        rw [if_neg hh] at h0 ⊢
        cases hqt : quoTail q u with
        | none => rw [hqt] at h0; exact absurd h0 (Nat.lt_irrefl _)
        | some m =>
          simp only
          have hle := quoTail_le q _ _ hqt
          rw [List.take_succ_cons]
          obtain ⟨g1, g2, g3⟩ := quo_safe q hq10 _ (u.take m) (u.drop m) (Nat.le_refl _) (by rw [hta, hqt, List.length_take]; congr 1; omega)
          generalize u.take m = w at *
          cases w with
          | nil => simp at g2
          | cons y w =>
            rw [List.getLast?_cons_cons, g2]
            refine ⟨?_, by simpa using hq92⟩
            simp only [has2, g1, Bool.or_false]
            simp [hc, hq92]
      · rw [if_neg hc] at h0; exact absurd h0 (Nat.lt_irrefl _)
    by_cases h34 : 0 < quoLen 34 (c :: u)
    · rw [if_pos h34]; exact quo 34 (by decide) (by decide) h34
    rw [if_neg h34] at h6 ⊢
    by_cases h39 : 0 < quoLen 39 (c :: u)
    · rw [if_pos h39]; exact quo 39 (by decide) (by decide) h39
    rw [if_neg h39] at h6 ⊢
    by_cases hs : 0 < signLen (c :: u)
    · rw [if_pos hs]
      have l3 : ∀ p ∈ three, p.length = 3 ∧ ∀ x ∈ p, x ≠ 92 := by decide
      have l2 : ∀ p ∈ two, p.length = 2 ∧ ∀ x ∈ p, x ≠ 92 := by decide
      have l1 : ∀ x ∈ ones, x ≠ 92 := by decide
      unfold signLen at hs ⊢
      by_cases h3 : three.any (fun p => p.isPrefixOf (c :: u)) = true
      · rw [if_pos h3]
        obtain ⟨p, hp, e3⟩ := List.any_eq_true.1 h3
        have := prefix_eq_take e3
        rw [(l3 p hp).1] at this
        simp only
        rw [this]; exact has2_none _ (l3 p hp).2
      rw [if_neg h3] at hs ⊢
      by_cases h2 : two.any (fun p => p.isPrefixOf (c :: u)) = true
      · rw [if_pos h2]
        obtain ⟨p, hp, e3⟩ := List.any_eq_true.1 h2
        have := prefix_eq_take e3
        rw [(l2 p hp).1] at this
        simp only
        rw [this]; exact has2_none _ (l2 p hp).2
      rw [if_neg h2] at hs ⊢
      by_cases h1 : ones.any (fun x => (c :: u).head? == some x) = true
      · rw [if_pos h1]
        obtain ⟨x, hx, e3⟩ := List.any_eq_true.1 h1
        simp only [List.head?_cons, beq_iff_eq, Option.some.injEq] at e3
        subst e3
        refine has2_none _ ?_
        intro d hd
        have : d = c := by simpa using hd
        rw [this]; exact l1 c hx
      · rw [if_neg h1] at hs; exact absurd hs (Nat.lt_irrefl _)
    · rw [if_neg hs] at h6; exact absurd rfl h6
theorem printP_safe (n : Nat) : ∀ (i : Nat) (b : Bool) (u : List UInt8), u.length ≤ n → (∀ p ∈ toks i b u, p.kind ≠ 6) → has2 92 10 (printP (toks i b u)) = false := by
  induction n with
  | zero =>
    intro i b u h _
    have : u = [] := List.length_eq_zero_iff.1 (by omega)
    subst this; rw [toks_nil]; rfl
  | succ n ih =>
    intro i b u h h6
    by_cases hu : u = []
    · subst hu; rw [toks_nil]; rfl
    by_cases hb : 0 < blankLen u
    · rw [toks_blank hb] at h6 ⊢
      exact ih _ _ _ (by rw [List.length_drop]; omega) h6
    have hp := nextTok_pos u
    rw [toks_tok hu (by omega)] at h6 ⊢
    have hk := h6 _ (List.mem_cons_self ..)
    simp only at hk
    obtain ⟨g1, g2⟩ := tok_safe u hu hk
    have hI := ih (i + (nextTok u).2) false (u.drop (nextTok u).2) (by rw [List.length_drop]; omega) (fun p hp => h6 p (List.mem_cons_of_mem _ hp))
    rw [printP_cons, List.append_assoc, has2_append, has2_append, g1, hI]
    have hg : ((u.take (nextTok u).2).getLast? == some 92) = false := by simpa using g2
    simp only [hg]
    cases b with
    | false => simp [has2]
    | true => simp [has2]
theorem charsAt_has2 : ∀ (s : List UInt8) (j : Nat), has2 92 10 s = false → (charsAt j s).map GChar.b = s
  | [], j, _ => rfl
  | [c], j, _ => rfl
  | c :: d :: r, j, h => by
    simp only [has2, Bool.or_eq_false_iff] at h
    rw [charsAt_cd, if_neg (by rintro ⟨h1, h2⟩; rw [h1, h2] at h; simp at h), List.map_cons, charsAt_has2 (d :: r) _ h.2]
theorem pptokBack_law (t : List UInt8) : emendlaw03_PptokBack t = some true := by
  unfold emendlaw03_PptokBack
  rw [awake3, Option.bind_some]
  by_cases hl : 1000 < t.length
  · rw [if_pos (decide_eq_true (by omega))]
  have h1 := tokens_len 0 t
  have h2 := tokens_room 0 t
  rw [if_neg (by rw [decide_eq_false (by omega)]; simp), tokens_eq 0 t (by omega), Option.bind_some]
  have hloop := loopS_find (f := emendlaw03_PptokBack_b2 true (tokens 0 t)) (tokens 0 t) (fun x => x.kind == 6) true (by omega) (fun k hk => by
      unfold emendlaw03_PptokBack_b2
      simp only [ix_at hk, chkB, andB, orB, condAnd, condOr, iteB, neqB, nltB, nleB, m8_9, m8_10, m8_11, m8_12, m8_13, m8_32, m8_34, m8_35, m8_39, m8_40, m8_41, m8_42, m8_43, m8_44, m8_45, m8_46, m8_47, m8_48, m8_60, m8_62, m8_64, m8_65, m8_67, m8_69, m8_80, m8_90, m8_92, m8_95, m8_97, m8_101, m8_112, m8_122, m8, orO_some, andO_some, Option.bind_some, getD_drop]
      rw [iteT (ltT (by omega))]
      by_cases h : (tokens 0 t)[k].kind = 6
      · rw [iteT (eqT h), iteT (eqT h)]
      · rw [iteF (eqF h), iteF (eqF h), pk (by omega)]; rfl) (by
      unfold emendlaw03_PptokBack_b2
      rw [if_neg (by simp)])
  rw [hloop, Option.bind_some]
  by_cases hany : (tokens 0 t).any (fun x => x.kind == 6) = true
  · rw [if_pos hany]
  rw [if_neg hany]
  show emendlaw03_PptokBack_j1 true (tokens 0 t) () = some true
  unfold emendlaw03_PptokBack_j1
  rw [print_eq _ (by omega) (by omega), Option.bind_some, tokens_eq 0 _ (by omega), Option.bind_some, ralike_eq _ _ (by omega)]
  have hno : ∀ p ∈ toks 0 false ((charsAt 0 t).map GChar.b), p.kind ≠ 6 := by
    intro p hp h
    apply hany
    unfold tokens
    exact List.any_eq_true.2 ⟨tokOf 0 (charsAt 0 t) p, List.mem_map.2 ⟨p, hp, rfl⟩, by simp [tokOf, h]⟩
  have hpt : printT (tokens 0 t) = printP (toks 0 false ((charsAt 0 t).map GChar.b)) := by unfold tokens; rw [printT_toks]
  rw [tokens_tk, tokens_tk, hpt, charsAt_has2 _ _ (printP_safe _ _ _ _ (Nat.le_refl _) hno), retell _ _ _ _ _ (Nat.le_refl _) hno]
  simp [andO]
end Go.Sh
