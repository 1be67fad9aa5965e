/-
  What is printed is told again; where tokens stand does not matter. No program in sight.
-/
import Derived.Test.YtghnfeflknfclaaDoorA8
import Derived.Test.YtghnfeflknfclaaDoorAz
set_option linter.unusedVariables false
set_option linter.unusedSimpArgs false
namespace Go.Sh
open Go
def ptk (p : PT) : Int × List UInt8 × Bool := (p.kind, p.text, p.blank)
theorem tk_tokOf (file : Int) (l : List GChar) (p : PT) : tk (tokOf file l p) = ptk p := rfl
theorem tokens_tk (file : Int) (t : List UInt8) : (tokens file t).map tk = (toks 0 false ((charsAt 0 t).map GChar.b)).map ptk := by
  unfold tokens; rw [List.map_map]; rfl
theorem toks_shift (n : Nat) : ∀ (i j : Nat) (b : Bool) (u : List UInt8), u.length ≤ n → (toks i b u).map ptk = (toks j b u).map ptk := by
  induction n with
  | zero =>
    intro i j b u h
    have : u = [] := List.length_eq_zero_iff.1 (by omega)
    subst this; rw [toks_nil, toks_nil]
  | succ n ih =>
    intro i j b u h
    by_cases hu : u = []
    · subst hu; rw [toks_nil, toks_nil]
    by_cases hb : 0 < blankLen u
    · rw [toks_blank hb, toks_blank hb]
      exact ih _ _ _ _ (by rw [List.length_drop]; omega)
    · have := nextTok_pos u
      rw [toks_tok hu (by omega), toks_tok hu (by omega), List.map_cons, List.map_cons, ih _ (j + (nextTok u).2) _ _ (by rw [List.length_drop]; omega)]; rfl
theorem charsAt_cons {c : UInt8} (hc : c ≠ 92) (t : List UInt8) (i : Nat) : charsAt i (c :: t) = ⟨c, i⟩ :: charsAt (i + 1) t := by
  cases t with
  | nil => rfl
  | cons d r => simp only [charsAt, if_neg (fun h : c = 92 ∧ d = 10 => hc h.1)]
theorem charsAt_no92 : ∀ (s : List UInt8) (j : Nat), (∀ c ∈ s, c ≠ 92) → (charsAt j s).map GChar.b = s
  | [], j, _ => rfl
  | c :: r, j, h => by rw [charsAt_cons (h c (by simp)), List.map_cons, charsAt_no92 r (j + 1) (fun c hc => h c (by simp [hc]))]
theorem charsAt_shift : ∀ (s : List UInt8) (i j : Nat), (charsAt i s).map GChar.b = (charsAt j s).map GChar.b
  | [], i, j => rfl
  | [c], i, j => rfl
  | c :: d :: r, i, j => by
    unfold charsAt; split
    · exact charsAt_shift r _ _
    · rw [List.map_cons, List.map_cons, charsAt_shift (d :: r) _ (j + 1)]
def printP (l : List PT) : List UInt8 := l.flatMap fun p => (if p.blank = true then [32] else []) ++ p.text
theorem printP_cons (p : PT) (l : List PT) : printP (p :: l) = (if p.blank = true then [32] else []) ++ p.text ++ printP l := by unfold printP; rw [List.flatMap_cons]
theorem printT_toks (file : Int) (l : List GChar) (ps : List PT) : printT (ps.map (tokOf file l)) = printP ps := by
  unfold printT printP; rw [List.flatMap_map]; rfl
/-- printed behind a blank: nothing, or a blank first -/
theorem printP_blank (n : Nat) : ∀ (i : Nat) (u : List UInt8), u.length ≤ n → printP (toks i true u) = [] ∨ ∃ X, printP (toks i true u) = 32 :: X := by
  induction n with
  | zero =>
    intro i u h
    have : u = [] := List.length_eq_zero_iff.1 (by omega)
    subst this; rw [toks_nil]; exact .inl rfl
  | succ n ih =>
    intro i u h
    by_cases hu : u = []
    · subst hu; rw [toks_nil]; exact .inl rfl
    by_cases hb : 0 < blankLen u
    · rw [toks_blank hb]; exact ih _ _ (by rw [List.length_drop]; omega)
    · rw [toks_tok hu (by omega), printP_cons]; exact .inr ⟨_, rfl⟩
theorem begins_print (n : Nat) : ∀ (i : Nat) (u : List UInt8), u.length ≤ n → Begins (printP (toks i false u)) u := by
  induction n with
  | zero =>
    intro i u h
    have : u = [] := List.length_eq_zero_iff.1 (by omega)
    subst this; rw [toks_nil]; exact Begins.nil _
  | succ n ih =>
    intro i u h
    by_cases hu : u = []
    · subst hu; rw [toks_nil]; exact Begins.nil _
    by_cases hb : 0 < blankLen u
    · rw [toks_blank hb]
      rcases printP_blank _ (i + blankLen u) (u.drop (blankLen u)) (Nat.le_refl _) with h1 | ⟨X, h1⟩
      · rw [h1]; exact Begins.nil _
      · rw [h1]
        intro q hq hp
        cases q with
        | nil => exact List.nil_prefix
        | cons c q =>
          obtain ⟨s, hs⟩ := hp
          injection hs with hs _
          exact absurd hs (hq c (by simp))
    · have hp := nextTok_pos u
      rw [toks_tok hu (by omega), printP_cons]
      simp only [Bool.false_eq_true, if_false, List.nil_append]
      intro q hq hpre
      have hI := ih (i + (nextTok u).2) (u.drop (nextTok u).2) (by rw [List.length_drop]; omega)
      generalize hX : printP (toks (i + (nextTok u).2) false (u.drop (nextTok u).2)) = X at *
      have := prefix_cut hI q (u.take (nextTok u).2) hq (List.isPrefixOf_iff_prefix.2 hpre)
      rw [List.take_append_drop] at this
      exact List.isPrefixOf_iff_prefix.1 this

theorem blockLen_has2 : ∀ u : List UInt8, blockLen u = none ↔ has2 42 47 u = false
  | [] => by simp [blockLen, has2]
  | [c] => by simp [blockLen, has2]
  | c :: d :: r => by
    have ih := blockLen_has2 (d :: r)
    simp only [blockLen, has2]
    by_cases hp : c = 42 ∧ d = 47
    · rw [if_pos hp]; simp [hp.1, hp.2]
    · rw [if_neg hp]
      have : (c == 42 && d == 47) = false := by
        rcases Decidable.not_and_iff_or_not.1 hp with h | h
        · simp [h]
        · simp [h]
      rw [this, Bool.false_or, ← ih]
      cases blockLen (d :: r) <;> simp
/-- what stands side by side in what is printed (blanks aside) stood so -/
theorem has2_print (a b : UInt8) (ha : a ≠ 32) (hb32 : b ≠ 32) (n : Nat) : ∀ (i : Nat) (bl : Bool) (u : List UInt8), u.length ≤ n → has2 a b u = false → has2 a b (printP (toks i bl u)) = false := by
  induction n with
  | zero =>
    intro i bl u h _
    have : u = [] := List.length_eq_zero_iff.1 (by omega)
    subst this; rw [toks_nil]; rfl
  | succ n ih =>
    intro i bl u h e
    by_cases hu : u = []
    · subst hu; rw [toks_nil]; rfl
    have hdrop : ∀ m, has2 a b (u.drop m) = false := fun m => by
      have := has2_append a b (u.take m) (u.drop m)
      rw [List.take_append_drop, e] at this
      have := this.symm
      simp only [Bool.or_eq_false_iff] at this
      exact this.1.2
    by_cases hb : 0 < blankLen u
    · rw [toks_blank hb]; exact ih _ _ _ (by rw [List.length_drop]; omega) (hdrop _)
    · have hp := nextTok_pos u
      rw [toks_tok hu (by omega), printP_cons]
      have hX := ih (i + (nextTok u).2) false (u.drop (nextTok u).2) (by rw [List.length_drop]; omega) (hdrop _)
      have hB := begins_print _ (i + (nextTok u).2) (u.drop (nextTok u).2) (Nat.le_refl _)
      have hu2 := has2_append a b (u.take (nextTok u).2) (u.drop (nextTok u).2)
      rw [List.take_append_drop, e] at hu2
      have hu2 := hu2.symm
      simp only [Bool.or_eq_false_iff] at hu2
      generalize printP (toks (i + (nextTok u).2) false (u.drop (nextTok u).2)) = X at *
      simp only
      have h1 : has2 a b (u.take (nextTok u).2 ++ X) = false := by
        rw [has2_append, hu2.1.1, hX, Bool.false_or, Bool.false_or]
        cases X with
        | nil => simp
        | cons d X' =>
          by_cases hd : d = b
          · subst hd
            obtain ⟨r', hr⟩ := hB.head rfl hb32
            have := hu2.2
            rw [hr] at this
            exact this
          · simp [hd]
      rw [List.append_assoc, has2_append, h1]
      cases bl with
      | false => simp [has2]
      | true => simp [has2, Ne.symm ha]
theorem has2_join {a b : UInt8} (hb : b ≠ 32) {t r X : List UInt8} (hB : Begins X r) (hX : has2 a b r = false → has2 a b X = false) (e : has2 a b (t ++ r) = false) : has2 a b (t ++ X) = false := by
  rw [has2_append] at e ⊢
  simp only [Bool.or_eq_false_iff] at e ⊢
  refine ⟨⟨e.1.1, hX e.1.2⟩, ?_⟩
  cases X with
  | nil => simp
  | cons d X' =>
    by_cases hd : d = b
    · subst hd
      obtain ⟨r', rfl⟩ := hB.head rfl hb
      exact e.2
    · simp [hd]
theorem blankLen_cut (t r X : List UInt8) (ht : t ≠ []) (e : blankLen (t ++ r) = 0) (hB : Begins X r) (h2 : ∀ w : List UInt8, has2 42 47 (w ++ r) = false → has2 42 47 (w ++ X) = false) (h3 : ∀ X' r', X = 42 :: X' → r = 42 :: r' → has2 42 47 r' = false → has2 42 47 X' = false) : blankLen (t ++ X) = 0 := by
  cases t with
  | nil => exact absurd rfl ht
  | cons c t =>
    rw [List.cons_append] at e ⊢
    simp only [blankLen] at e ⊢
    by_cases hw : isWS c = true
    · rw [if_pos hw] at e; cases e
    rw [if_neg hw] at e ⊢
    have hhead : ∀ d, d ≠ 32 → (t ++ X).head? = some d → (t ++ r).head? = some d := by
      intro d hd hx
      cases t with
      | cons x t => exact hx
      | nil =>
        simp only [List.nil_append] at hx ⊢
        cases X with
        | nil => cases hx
        | cons y X' =>
          injection hx with hx; subst hx
          obtain ⟨r', rfl⟩ := hB.head rfl hd; rfl
    by_cases hl : c = 47 ∧ (t ++ r).head? = some 47
    · rw [if_pos hl] at e; omega
    rw [if_neg hl] at e
    rw [if_neg (fun h => hl ⟨h.1, hhead 47 (by decide) h.2⟩)]
    by_cases hb : c = 47 ∧ (t ++ X).head? = some 42
    · rw [if_pos hb]
      have hb2 : c = 47 ∧ (t ++ r).head? = some 42 := ⟨hb.1, hhead 42 (by decide) hb.2⟩
      rw [if_pos hb2] at e
      have hnone : blockLen ((t ++ r).drop 1) = none := by
        cases hbl : blockLen ((t ++ r).drop 1) with
        | none => rfl
        | some n => rw [hbl] at e; simp at e
      have key : blockLen ((t ++ X).drop 1) = none := by
        rw [blockLen_has2] at hnone ⊢
        cases t with
        | cons x t => exact h2 t hnone
        | nil =>
          simp only [List.nil_append] at hnone hb hb2 ⊢
          cases X with
          | nil => rfl
          | cons y X' =>
            have hy : y = 42 := by simpa using hb.2
            obtain ⟨r', rfl⟩ := hB.head rfl (by rw [hy]; decide)
            simp only [List.drop_succ_cons, List.drop_zero] at hnone ⊢
            exact h3 X' r' (by rw [hy]) (by rw [hy]) hnone
      rw [key]
    · rw [if_neg hb]
theorem has2_tail (i : Nat) (r X' r' : List UInt8) (hX : printP (toks i false r) = 42 :: X') (hr : r = 42 :: r') (e : has2 42 47 r' = false) : has2 42 47 X' = false := by
  by_cases hb : 0 < blankLen r
  · rw [hr] at hb
    simp [blankLen, isWS] at hb
  have hne : r ≠ [] := by rw [hr]; simp
  have hp := nextTok_pos r
  have hle := nextTok_le r hne
  rw [toks_tok hne (by omega), printP_cons] at hX
  simp only [Bool.false_eq_true, if_false, List.nil_append] at hX
  obtain ⟨m, hm⟩ : ∃ m, (nextTok r).2 = m + 1 := ⟨(nextTok r).2 - 1, by omega⟩
  rw [hm] at hX
  rw [hr, List.take_succ_cons, List.cons_append] at hX
  injection hX with _ hX
  rw [← hX, ← hr]
  have hd : r.drop (m + 1) = r'.drop m := by rw [hr]; rfl
  have e2 : has2 42 47 (r'.take m ++ r'.drop m) = false := by rw [List.take_append_drop]; exact e
  rw [hd]
  exact has2_join (by decide) (begins_print _ _ _ (Nat.le_refl _)) (fun h => has2_print 42 47 (by decide) (by decide) _ _ _ _ (Nat.le_refl _) h) e2
/-- a token told of what is printed behind it -/
theorem tok_print (u : List UInt8) (i : Nat) (hu : u ≠ []) (hb : blankLen u = 0) (h6 : (nextTok u).1 ≠ 6) :
    nextTok (u.take (nextTok u).2 ++ printP (toks i false (u.drop (nextTok u).2))) = nextTok u ∧ blankLen (u.take (nextTok u).2 ++ printP (toks i false (u.drop (nextTok u).2))) = 0 := by
  have hp := nextTok_pos u
  have hle := nextTok_le u hu
  have hlen : (u.take (nextTok u).2).length = (nextTok u).2 := by rw [List.length_take]; omega
  have hne : u.take (nextTok u).2 ≠ [] := fun e => by rw [e] at hlen; simp at hlen; omega
  have hB := begins_print _ i (u.drop (nextTok u).2) (Nat.le_refl _)
  have hta : u.take (nextTok u).2 ++ u.drop (nextTok u).2 = u := List.take_append_drop _ _
  refine ⟨?_, ?_⟩
  · have := nextTok_cut hB (u.take (nextTok u).2) hne (nextTok u).1 (.inl h6) (by rw [hta, hlen])
    rw [this, hlen]
  · exact blankLen_cut _ _ _ hne (by rw [hta]; exact hb) hB (fun w e => has2_join (by decide) hB (fun h => has2_print 42 47 (by decide) (by decide) _ _ _ _ (Nat.le_refl _) h) e) (fun X' r' h1 h2 h3 => has2_tail i _ X' r' h1 h2 h3)
theorem retell (n : Nat) : ∀ (i j : Nat) (b : Bool) (u : List UInt8), u.length ≤ n → (∀ p ∈ toks i b u, p.kind ≠ 6) → (toks j false (printP (toks i b u))).map ptk = (toks i b u).map ptk := by
  induction n with
  | zero =>
    intro i j b u h _
    have : u = [] := List.length_eq_zero_iff.1 (by omega)
    subst this; rw [toks_nil]; show (toks j false []).map ptk = _; rw [toks_nil]
  | succ n ih =>
    intro i j b u h h6
    by_cases hu : u = []
    · subst hu; rw [toks_nil]; show (toks j false []).map ptk = _; rw [toks_nil]
    by_cases hb : 0 < blankLen u
    · rw [toks_blank hb] at h6 ⊢
      exact ih _ _ _ _ (by rw [List.length_drop]; omega) h6
    have hb0 : blankLen u = 0 := by omega
    have hp := nextTok_pos u
    have hle := nextTok_le u hu
    have hlen : (u.take (nextTok u).2).length = (nextTok u).2 := by rw [List.length_take]; omega
    rw [toks_tok hu hb0] at h6 ⊢
    have hk := h6 _ (List.mem_cons_self ..)
    simp only at hk
    obtain ⟨g1, g2⟩ := tok_print u (i + (nextTok u).2) hu hb0 hk
    have hI := fun j => ih (i + (nextTok u).2) j false (u.drop (nextTok u).2) (by rw [List.length_drop]; omega) (fun p hp => h6 p (List.mem_cons_of_mem _ hp))
    rw [printP_cons, List.map_cons]
    generalize hX : printP (toks (i + (nextTok u).2) false (u.drop (nextTok u).2)) = X at *
    simp only
    have hne : u.take (nextTok u).2 ++ X ≠ [] := fun e => by
      have := congrArg List.length e
      rw [List.length_append, hlen] at this; simp at this; omega
    have main : ∀ j, (toks j b (u.take (nextTok u).2 ++ X)).map ptk = ptk ⟨(nextTok u).1, u.take (nextTok u).2, i, i + (nextTok u).2, b⟩ :: (toks (i + (nextTok u).2) false (u.drop (nextTok u).2)).map ptk := by
      intro j
      rw [toks_tok hne g2, g1, List.map_cons, List.take_left' hlen, List.drop_left' hlen, hI]; rfl
    cases b with
    | false =>
      simp only [Bool.false_eq_true, if_false, List.nil_append]
      exact main j
    | true =>
      simp only [if_true, List.cons_append, List.nil_append]
      have h32 : blankLen (32 :: (u.take (nextTok u).2 ++ X)) = 1 := by simp [blankLen, isWS]
      rw [toks_blank (by rw [h32]; decide), h32, List.drop_succ_cons, List.drop_zero]
      exact main _

/-! ### no pair comes of printing -/
theorem printP_safe (n : Nat) : ∀ (i : Nat) (b : Bool) (u : List UInt8), u.length ≤ n → (∀ p ∈ toks i b u, p.kind ≠ 6) → has2 92 10 (printP (toks i b u)) = false := by
  induction n with
  | zero =>
    intro i b u h _
    have : u = [] := List.length_eq_zero_iff.1 (by omega)
    subst this; rw [toks_nil]; rfl
  | succ n ih =>
    intro i b u h h6
    by_cases hu : u = []
    · subst hu; rw [toks_nil]; rfl
    by_cases hb : 0 < blankLen u
    · rw [toks_blank hb] at h6 ⊢
      exact ih _ _ _ (by rw [List.length_drop]; omega) h6
    have hp := nextTok_pos u
    rw [toks_tok hu (by omega)] at h6 ⊢
    have hk := h6 _ (List.mem_cons_self ..)
    simp only at hk
    obtain ⟨g1, g2⟩ := tok_safe u hu hk
    have hI := ih (i + (nextTok u).2) false (u.drop (nextTok u).2) (by rw [List.length_drop]; omega) (fun p hp => h6 p (List.mem_cons_of_mem _ hp))
    rw [printP_cons, List.append_assoc, has2_append, has2_append, g1, hI]
    have hg : ((u.take (nextTok u).2).getLast? == some 92) = false := by simpa using g2
    simp only [hg]
    cases b with
    | false => simp [has2]
    | true => simp [has2]
end Go.Sh
