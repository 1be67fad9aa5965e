/-
  Words, brackets, commas: how they are told in a text. No program in sight.
-/
import Derived.Test.YtghnfeflknfclaaDoorG7
import Derived.Test.YtghnfeflknfclaaDoorAX
set_option linter.unusedVariables false
set_option linter.unusedSimpArgs false
namespace Go.Sh
open Go
def wordCh (c : UInt8) : Bool := isLetter c || isDigit c
def Word (w : List UInt8) : Prop := ∃ c r, w = c :: r ∧ isLetter c = true ∧ ∀ x ∈ r, wordCh x = true
def Stops (R : List UInt8) : Prop := ∀ c X, R = c :: X → wordCh c = false
theorem wordTail_stop2 {R : List UInt8} (hR : Stops R) : ∀ r : List UInt8, (∀ x ∈ r, wordCh x = true) → wordTail (r ++ R) = r.length
  | [], _ => by
    cases R with
    | nil => rfl
    | cons c X => show (if (isLetter c || isDigit c) = true then _ else 0) = 0; rw [if_neg (by have := hR c X rfl; unfold wordCh at this; rw [this]; simp)]
  | x :: r, h => by
    rw [List.cons_append]
    show (if (isLetter x || isDigit x) = true then 1 + wordTail (r ++ R) else 0) = _
    rw [if_pos (show (isLetter x || isDigit x) = true from h x (by simp)), wordTail_stop2 hR r (fun y hy => h y (by simp [hy])), List.length_cons]; omega
theorem letter_ne {c : UInt8} (h : isLetter c = true) : c ≠ 10 ∧ isWS c = false ∧ c ≠ 47 := by
  refine ⟨?_, ?_, ?_⟩
  · rintro rfl; revert h; decide
  · unfold isWS
    simp only [Bool.or_eq_false_iff, beq_eq_false_iff_ne]
    refine ⟨⟨⟨⟨?_, ?_⟩, ?_⟩, ?_⟩, ?_⟩ <;> (rintro rfl; revert h; decide)
  · rintro rfl; revert h; decide
theorem toks_word {w R : List UInt8} (hw : Word w) (hR : Stops R) (i : Nat) (b : Bool) : toks i b (w ++ R) = ⟨1, w, i, i + w.length, b⟩ :: toks (i + w.length) false R := by
  obtain ⟨c, r, rfl, hc, hr⟩ := hw
  obtain ⟨n1, n2, n3⟩ := letter_ne hc
  have hl : wordLen ((c :: r) ++ R) = (c :: r).length := by
    show (if isLetter c = true then 1 + wordTail (r ++ R) else 0) = _
    rw [if_pos hc, wordTail_stop2 hR r hr, List.length_cons]; omega
  have hb : blankLen ((c :: r) ++ R) = 0 := by
    show (if isWS c = true then 1 else if c = 47 ∧ (r ++ R).head? = some 47 then _ else if c = 47 ∧ (r ++ R).head? = some 42 then _ else 0) = 0
    rw [if_neg (by rw [n2]; simp), if_neg (fun h => n3 h.1), if_neg (fun h => n3 h.1)]
  have hn : nextTok ((c :: r) ++ R) = (1, (c :: r).length) := by
    unfold nextTok
    rw [if_neg (by rw [List.cons_append, List.head?_cons]; intro e; injection e with e; exact n1 e), hl, if_pos (by simp)]
  rw [toks_tok (by simp) hb, hn]
  simp only [List.take_left', List.drop_left']
theorem toks_open (R : List UInt8) (i : Nat) (b : Bool) : toks i b (40 :: R) = ⟨5, [40], i, i + 1, b⟩ :: toks (i + 1) false R := by
  have hn : nextTok (40 :: R) = (5, 1) := rfl
  rw [toks_tok (by simp) rfl, hn]; rfl
theorem toks_close (R : List UInt8) (i : Nat) (b : Bool) : toks i b (41 :: R) = ⟨5, [41], i, i + 1, b⟩ :: toks (i + 1) false R := by
  have hn : nextTok (41 :: R) = (5, 1) := rfl
  rw [toks_tok (by simp) rfl, hn]; rfl
theorem toks_comma (R : List UInt8) (i : Nat) (b : Bool) : toks i b (44 :: R) = ⟨5, [44], i, i + 1, b⟩ :: toks (i + 1) false R := by
  have hn : nextTok (44 :: R) = (5, 1) := rfl
  rw [toks_tok (by simp) rfl, hn]; rfl
theorem toks_dots (R : List UInt8) (i : Nat) (b : Bool) : toks i b (46 :: 46 :: 46 :: R) = ⟨5, dots, i, i + 3, b⟩ :: toks (i + 3) false R := by
  have hn : nextTok (46 :: 46 :: 46 :: R) = (5, 3) := rfl
  rw [toks_tok (by simp) rfl, hn]; rfl
theorem toks_space (R : List UInt8) (i : Nat) (b : Bool) : toks i b (32 :: R) = toks (i + 1) true R := by
  have hb : blankLen (32 :: R) = 1 := rfl
  rw [toks_blank (by rw [hb]; omega), hb]; rfl
theorem wordTail_take : ∀ (r : List UInt8), ∀ x ∈ r.take (wordTail r), wordCh x = true
  | [], x, h => by simp at h
  | c :: r, x, h => by
    unfold wordTail at h
    split at h
    · rename_i hc
      rw [Nat.add_comm, List.take_succ_cons] at h
      rcases List.mem_cons.1 h with rfl | h
      · exact hc
      · exact wordTail_take r x h
    · simp at h
theorem nextTok_word (u : List UInt8) (h : (nextTok u).1 = 1) : Word (u.take (nextTok u).2) := by
  unfold nextTok at h ⊢
  split at h
  · simp at h
  split at h
  · rename_i h0 h1
    rw [if_neg h0, if_pos h1]
    cases u with
    | nil => simp [wordLen] at h1
    | cons c r =>
      by_cases hc : isLetter c = true
      · have e : wordLen (c :: r) = wordTail r + 1 := by
          show (if isLetter c = true then 1 + wordTail r else 0) = _
          rw [if_pos hc]; omega
        rw [e]
        exact ⟨c, r.take (wordTail r), by simp only [List.take_succ_cons], hc, wordTail_take r⟩
      · have e : wordLen (c :: r) = 0 := by
          show (if isLetter c = true then 1 + wordTail r else 0) = _
          rw [if_neg hc]
        rw [e] at h1; omega
  repeat' split at h
  all_goals simp at h
theorem toks_kind1 (n : Nat) : ∀ (i : Nat) (b : Bool) (u : List UInt8), u.length ≤ n → ∀ p ∈ toks i b u, p.kind = 1 → Word p.text := by
  induction n with
  | zero =>
    intro i b u h p hp
    have : u = [] := List.length_eq_zero_iff.1 (by omega)
    subst this; rw [toks_nil] at hp; cases hp
  | succ n ih =>
    intro i b u h p hp hk
    by_cases hu : u = []
    · subst hu; rw [toks_nil] at hp; cases hp
    by_cases hb : 0 < blankLen u
    · rw [toks_blank hb] at hp
      exact ih _ _ _ (by rw [List.length_drop]; omega) p hp hk
    · have := nextTok_pos u
      rw [toks_tok hu (by omega)] at hp
      rcases List.mem_cons.1 hp with rfl | hp
      · exact nextTok_word u hk
      · exact ih _ _ _ (by rw [List.length_drop]; omega) p hp hk
theorem tokens_word (f : Int) (s : List UInt8) : ∀ t ∈ tokens f s, t.kind = 1 → Word t.text := by
  intro t ht hk
  unfold tokens at ht
  obtain ⟨p, hp, rfl⟩ := List.mem_map.1 ht
  exact toks_kind1 _ _ _ _ (Nat.le_refl _) p hp hk
theorem one_word {s : List UInt8} (h : (oneOf s).2 = true) (hk : (oneOf s).1.kind = 1) : Word s := by
  unfold oneOf at h hk
  split at h
  · rename_i t ht
    rw [ht] at hk
    simp only at h hk
    split at h
    · cases h
    · rename_i hq
      rw [if_neg hq] at hk
      have h2 : t.text = s := by
        by_cases e : t.text = s
        · exact e
        · exact (hq (.inr e)).elim
      rw [← h2]
      exact tokens_word 0 s t (by rw [ht]; simp) hk
  · cases h
end Go.Sh
