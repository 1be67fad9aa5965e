/-
  What pptok's functions compute, in plain words: tokens told from the left. No program in sight.
-/
import Derived.Test.YtfocleohejljpaaDoorA2
import Derived.Test.YtfocleohejljpaaDoorA1
set_option linter.unusedVariables false
set_option linter.unusedSimpArgs false
namespace Go.Sh
open Go

/-! ### the plain words -/
def isLetter (c : UInt8) : Bool := decide ((c.toNat : Int) = 95) || (decide ((97 : Int) ≤ c.toNat) && decide ((c.toNat : Int) ≤ 122)) || (decide ((65 : Int) ≤ c.toNat) && decide ((c.toNat : Int) ≤ 90))
def isDigit (c : UInt8) : Bool := decide ((48 : Int) ≤ c.toNat) && decide ((c.toNat : Int) ≤ 57)
def isExp (c : UInt8) : Bool := c == 101 || c == 69 || c == 112 || c == 80
def isPM (c : UInt8) : Bool := c == 43 || c == 45
def isWS (c : UInt8) : Bool := c == 32 || c == 9 || c == 11 || c == 12 || c == 13
def wordTail : List UInt8 → Nat
  | [] => 0
  | c :: r => if (isLetter c || isDigit c) = true then 1 + wordTail r else 0
def wordLen : List UInt8 → Nat
  | [] => 0
  | c :: r => if isLetter c = true then 1 + wordTail r else 0
def numCh (c : UInt8) : Bool := isLetter c || isDigit c || c == 46
def numTail : List UInt8 → Nat
  | [] => 0
  | [c] => if numCh c = true then 1 else 0
  | c :: d :: r => if (isExp c && isPM d) = true then 2 + numTail r else if numCh c = true then 1 + numTail (d :: r) else 0
def numLen : List UInt8 → Nat
  | [] => 0
  | c :: r => if (isDigit c || (c == 46 && isDigit (r.headD 0))) = true then 1 + numTail r else 0
def quoTail (q : UInt8) : List UInt8 → Option Nat
  | [] => none
  | [c] => if c = q then some 1 else none
  | c :: d :: r => if c = q then some 1 else if c = 10 then none else if c = 92 then (if d = 10 then none else (quoTail q r).map (· + 2)) else (quoTail q (d :: r)).map (· + 1)
def quoLen (q : UInt8) : List UInt8 → Nat
  | [] => 0
  | c :: r => if c = q then (if q = 39 ∧ r.head? = some q then 0 else match quoTail q r with | none => 0 | some n => n + 1) else 0
def three : List (List UInt8) := [[46, 46, 46], [60, 60, 61], [62, 62, 61]]
def two : List (List UInt8) := [[45, 62], [43, 43], [45, 45], [60, 60], [62, 62], [60, 61], [62, 61], [61, 61], [33, 61], [38, 38], [124, 124], [42, 61], [47, 61], [37, 61], [43, 61], [45, 61], [38, 61], [94, 61], [124, 61], [35, 35]]
def ones : List UInt8 := [91, 93, 40, 41, 123, 125, 46, 38, 42, 43, 45, 126, 33, 47, 37, 60, 62, 94, 124, 63, 58, 59, 61, 44, 35]
def signLen (u : List UInt8) : Nat := if three.any (fun p => p.isPrefixOf u) = true then 3 else if two.any (fun p => p.isPrefixOf u) = true then 2 else if ones.any (fun c => u.head? == some c) = true then 1 else 0
def nextTok (u : List UInt8) : Int × Nat :=
  if u.head? = some 10 then (7, 1) else if 0 < wordLen u then (1, wordLen u) else if 0 < numLen u then (2, numLen u) else if 0 < quoLen 34 u then (4, quoLen 34 u) else if 0 < quoLen 39 u then (3, quoLen 39 u) else if 0 < signLen u then (5, signLen u) else (6, 1)
def lineLen : List UInt8 → Nat
  | [] => 0
  | c :: r => if c = 10 then 0 else 1 + lineLen r
/-- where a block comment ends, behind its end -/
def blockLen : List UInt8 → Option Nat
  | [] => none
  | [_] => none
  | c :: d :: r => if c = 42 ∧ d = 47 then some 2 else (blockLen (d :: r)).map (· + 1)
def blankLen : List UInt8 → Nat
  | [] => 0
  | c :: r => if isWS c = true then 1 else if c = 47 ∧ r.head? = some 47 then 1 + lineLen r else if c = 47 ∧ r.head? = some 42 then (match blockLen (r.drop 1) with | none => 0 | some n => n + 2) else 0

/-! ### how long -/
theorem wordTail_le : ∀ u : List UInt8, wordTail u ≤ u.length
  | [] => Nat.le_refl _
  | c :: r => by have := wordTail_le r; simp only [wordTail]; split <;> simp only [List.length_cons] <;> omega
theorem wordLen_le (u : List UInt8) : wordLen u ≤ u.length := by
  cases u with
  | nil => exact Nat.le_refl _
  | cons c r => have := wordTail_le r; simp only [wordLen]; split <;> simp only [List.length_cons] <;> omega
theorem numTail_le : ∀ u : List UInt8, numTail u ≤ u.length
  | [] => Nat.le_refl _
  | [c] => by simp only [numTail]; split <;> simp
  | c :: d :: r => by
    have h1 := numTail_le r
    have h2 := numTail_le (d :: r)
    simp only [List.length_cons] at h2
    simp only [numTail]; split
    · simp only [List.length_cons]; omega
    · split <;> simp only [List.length_cons] <;> omega
theorem numLen_le (u : List UInt8) : numLen u ≤ u.length := by
  cases u with
  | nil => exact Nat.le_refl _
  | cons c r => have := numTail_le r; simp only [numLen]; split <;> simp only [List.length_cons] <;> omega
theorem quoTail_le (q : UInt8) : ∀ (u : List UInt8) (n : Nat), quoTail q u = some n → 1 ≤ n ∧ n ≤ u.length
  | [], n, h => by simp [quoTail] at h
  | [c], n, h => by
    simp only [quoTail] at h; split at h
    · injection h with h; subst h; simp
    · cases h
  | c :: d :: r, n, h => by
    simp only [quoTail] at h
    split at h
    · injection h with h; subst h; simp
    split at h
    · cases h
    split at h
    · split at h
      · cases h
      · obtain ⟨m, h1, rfl⟩ := Option.map_eq_some_iff.1 h
        have := quoTail_le q r m h1
        simp only [List.length_cons]; omega
    · obtain ⟨m, h1, rfl⟩ := Option.map_eq_some_iff.1 h
      have := quoTail_le q (d :: r) m h1
      simp only [List.length_cons] at *; omega
theorem quoLen_le (q : UInt8) (u : List UInt8) : quoLen q u ≤ u.length := by
  cases u with
  | nil => exact Nat.le_refl _
  | cons c r =>
    simp only [quoLen]; split
    · split
      · exact Nat.zero_le _
      · cases h : quoTail q r with
        | none => exact Nat.zero_le _
        | some n => have := quoTail_le q r n h; simp only [List.length_cons]; omega
    · exact Nat.zero_le _
theorem isPrefix_len {p u : List UInt8} (h : p.isPrefixOf u = true) : p.length ≤ u.length := (List.isPrefixOf_iff_prefix.1 h).length_le
theorem signLen_le (u : List UInt8) : signLen u ≤ u.length := by
  unfold signLen
  split
  · rename_i h
    obtain ⟨p, hp, h⟩ := List.any_eq_true.1 h
    have := isPrefix_len h
    simp only [three, List.mem_cons, List.not_mem_nil, or_false] at hp
    rcases hp with rfl | rfl | rfl <;> exact this
  split
  · rename_i h
    obtain ⟨p, hp, h⟩ := List.any_eq_true.1 h
    have := isPrefix_len h
    have h2 : ∀ p ∈ two, p.length = 2 := by decide
    rw [h2 p hp] at this; exact this
  split
  · rename_i h
    obtain ⟨p, hp, h⟩ := List.any_eq_true.1 h
    cases u with
    | nil => simp at h
    | cons c r => simp
  · exact Nat.zero_le _
theorem nextTok_pos (u : List UInt8) : 1 ≤ (nextTok u).2 := by
  unfold nextTok
  split
  · exact Nat.le_refl _
  repeat (split; assumption)
  exact Nat.le_refl _
theorem nextTok_le (u : List UInt8) (h : u ≠ []) : (nextTok u).2 ≤ u.length := by
  have hl : 1 ≤ u.length := List.length_pos_iff.2 h
  unfold nextTok
  split
  · exact hl
  split
  · exact wordLen_le u
  split
  · exact numLen_le u
  split
  · exact quoLen_le 34 u
  split
  · exact quoLen_le 39 u
  split
  · exact signLen_le u
  · exact hl
theorem lineLen_le : ∀ u : List UInt8, lineLen u ≤ u.length
  | [] => Nat.le_refl _
  | c :: r => by have := lineLen_le r; simp only [lineLen]; split <;> simp only [List.length_cons] <;> omega
theorem blockLen_le : ∀ (u : List UInt8) (n : Nat), blockLen u = some n → 2 ≤ n ∧ n ≤ u.length
  | [], n, h => by simp [blockLen] at h
  | [c], n, h => by simp [blockLen] at h
  | c :: d :: r, n, h => by
    simp only [blockLen] at h
    split at h
    · injection h with h; subst h; simp
    · obtain ⟨m, h1, rfl⟩ := Option.map_eq_some_iff.1 h
      have := blockLen_le (d :: r) m h1
      simp only [List.length_cons] at *; omega
theorem blankLen_le (u : List UInt8) : blankLen u ≤ u.length := by
  cases u with
  | nil => exact Nat.le_refl _
  | cons c r =>
    simp only [blankLen]; split
    · simp
    split
    · have := lineLen_le r; simp only [List.length_cons]; omega
    split
    · rename_i h
      cases hb : blockLen (r.drop 1) with
      | none => exact Nat.zero_le _
      | some n =>
        have := blockLen_le _ n hb
        have h2 : 1 ≤ r.length := by
          cases r with
          | nil => simp at h
          | cons _ _ => simp
        simp only [List.length_drop] at this
        simp only [List.length_cons]; omega
    · exact Nat.zero_le _

/-! ### tokens, told from the left -/
structure PT where
  kind : Int
  text : List UInt8
  i : Nat
  j : Nat
  blank : Bool
def toks (i : Nat) (b : Bool) (u : List UInt8) : List PT :=
  if h : u = [] then [] else
  if hb : 0 < blankLen u then toks (i + blankLen u) true (u.drop (blankLen u))
  else ⟨(nextTok u).1, u.take (nextTok u).2, i, i + (nextTok u).2, b⟩ :: toks (i + (nextTok u).2) false (u.drop (nextTok u).2)
termination_by u.length
decreasing_by
  · have := List.length_pos_iff.2 h; simp only [List.length_drop]; omega
  · have := List.length_pos_iff.2 h; have := nextTok_pos u; simp only [List.length_drop]; omega
theorem toks_nil (i : Nat) (b : Bool) : toks i b [] = [] := by rw [toks]; simp
theorem toks_blank {i : Nat} {b : Bool} {u : List UInt8} (h : 0 < blankLen u) : toks i b u = toks (i + blankLen u) true (u.drop (blankLen u)) := by
  have : u ≠ [] := fun e => by subst e; simp [blankLen] at h
  rw [toks, dif_neg this, dif_pos h]
theorem toks_tok {i : Nat} {b : Bool} {u : List UInt8} (hu : u ≠ []) (h : blankLen u = 0) : toks i b u = ⟨(nextTok u).1, u.take (nextTok u).2, i, i + (nextTok u).2, b⟩ :: toks (i + (nextTok u).2) false (u.drop (nextTok u).2) := by
  rw [toks, dif_neg hu, dif_neg (by omega)]

/-! ### the code's functions -/
theorem letter_eq (c : UInt8) : pptok_letter c = some (isLetter c) := by
  unfold pptok_letter isLetter; simp only [orO_some, andO_some, Option.bind_some]
theorem digit_eq (c : UInt8) : pptok_digit c = some (isDigit c) := by
  unfold pptok_digit isDigit; simp only [orO_some, andO_some, Option.bind_some]
theorem byte_eq (s : List UInt8) (i n : Nat) (h : i + n ≤ 4000000) : pptok_reader_byte ⟨s, i⟩ n = some ((s.drop (i + n)).headD 0) := by
  unfold pptok_reader_byte
  simp only [iteB, neqB, nltB, nleB, m8_9, m8_10, m8_11, m8_12, m8_13, m8_32, m8_34, m8_35, m8_39, m8_40, m8_41, m8_42, m8_43, m8_44, m8_45, m8_46, m8_47, m8_48, m8_60, m8_62, m8_64, m8_65, m8_67, m8_69, m8_80, m8_90, m8_92, m8_95, m8_97, m8_101, m8_112, m8_122, m8, orO_some, andO_some, Option.bind_some, getD_drop]
  rw [chkT (by omega)]
  rcases drop_cases s (i + n) with ⟨h1, h2⟩ | ⟨c, h1, h2, h3⟩
  · rw [iteT (leT (by omega)), h1]; rfl
  · rw [iteF (leF (by omega)), chkT (by omega), ix_of h3 (by omega), h2]; rfl
theorem has_eq (s p : List UInt8) (i : Nat) (h : i ≤ s.length) : pptok_reader_has ⟨s, i⟩ p = some (p.isPrefixOf (s.drop i)) := by
  unfold pptok_reader_has
  simp only
  rw [chkT (by omega)]; rfl
theorem letter0 : isLetter 0 = false := by decide
theorem digit0 : isDigit 0 = false := by decide
theorem word_eq (s : List UInt8) (i : Nat) (hi : i ≤ s.length) (hs : s.length ≤ 2000000) : pptok_reader_word ⟨s, i⟩ = some (wordLen (s.drop i) : Int) := by
  unfold pptok_reader_word
  have key := loopS_of (f := pptok_reader_word_b2 ⟨s, i⟩) (fun n => ∃ k : Nat, n = k ∧ i + k ≤ s.length) (fun n => s.length - n.toNat) (fun n => n + ((if n = 0 then wordLen (s.drop i) else wordTail (s.drop (i + n.toNat)) : Nat) : Int)) (s := (0 : Int)) ⟨0, rfl, by omega⟩ (by omega) (by
    rintro n ⟨k, rfl, hk⟩
    unfold pptok_reader_word_b2
    rw [byte_eq s i k (by omega)]
    simp only [iteB, neqB, nltB, nleB, m8_9, m8_10, m8_11, m8_12, m8_13, m8_32, m8_34, m8_35, m8_39, m8_40, m8_41, m8_42, m8_43, m8_44, m8_45, m8_46, m8_47, m8_48, m8_60, m8_62, m8_64, m8_65, m8_67, m8_69, m8_80, m8_90, m8_92, m8_95, m8_97, m8_101, m8_112, m8_122, m8, orO_some, andO_some, Option.bind_some, getD_drop, letter_eq, digit_eq, Int.toNat_natCast]
    rcases drop_cases s (i + k) with ⟨h1, h2⟩ | ⟨c, h1, h2, h3⟩
    · right
      simp only [h1, List.headD_nil, letter0, digit0, Bool.and_false, Bool.or_false, cond_false]
      congr 2
      by_cases hk0 : k = 0
      · subst hk0
        rw [Nat.add_zero] at h1
        simp [h1, wordLen]
      · rw [if_neg (by omega)]; simp [wordTail]
    · rw [h2]
      simp only [List.headD_cons]
      by_cases hk0 : k = 0
      · subst hk0
        rw [Nat.add_zero] at h2
        simp only [h2, wordLen, show ((0 : Nat) : Int) = 0 from rfl, if_true, show ilt 0 0 = false from rfl, Bool.false_and, Bool.or_false]
        by_cases hc : isLetter c = true
        · left
          refine ⟨1, ?_, ⟨1, rfl, by omega⟩, by omega, ?_⟩
          · rw [iteT hc, chkT (by omega)]; rfl
          · rw [if_pos hc, if_neg (by omega)]
            show (1 : Int) + _ = _
            simp only [Nat.add_zero, Int.toNat_one]; push_cast; omega
        · right
          rw [iteF (by simpa using hc), if_neg hc]; rfl
      · have e0 : ilt 0 (k : Int) = true := ltT (by omega)
        have e2 : ¬ ((k : Int) = 0) := by omega
        simp only [e0, Bool.true_and, if_neg e2]
        by_cases hc : (isLetter c || isDigit c) = true
        · left
          refine ⟨(k : Int) + 1, ?_, ⟨k + 1, rfl, by omega⟩, by omega, ?_⟩
          · rw [iteT hc, chkT (by omega)]
          · rw [if_neg (by omega), show ((k : Int) + 1).toNat = k + 1 by omega]
            simp only [wordTail, hc, if_true, Nat.add_assoc]
            push_cast; omega
        · right
          rw [iteF (by simpa using hc)]
          simp [wordTail, hc])
  simp only [key, Option.bind_some, pptok_reader_word_j1]
  simp
theorem indexExp (c : UInt8) : ile 0 (Lib.indexByte [101, 69, 112, 80] c) = isExp c := by
  unfold isExp ile
  by_cases h1 : c = 101
  · subst h1; decide
  by_cases h2 : c = 69
  · subst h2; decide
  by_cases h3 : c = 112
  · subst h3; decide
  by_cases h4 : c = 80
  · subst h4; decide
  have e : Lib.indexByte [101, 69, 112, 80] c = -1 := by
    simp only [Lib.indexByte, beq_iff_eq, Ne.symm h1, Ne.symm h2, Ne.symm h3, Ne.symm h4, if_false]
    simp
  rw [e]; simp [h1, h2, h3, h4]
theorem numTail_cons (c : UInt8) (r : List UInt8) : numTail (c :: r) = if (isExp c && isPM (r.headD 0)) = true then 2 + numTail (r.drop 1) else if numCh c = true then 1 + numTail r else 0 := by
  cases r with
  | nil =>
    have : isPM 0 = false := by decide
    simp [numTail, this]
  | cons d r => simp [numTail]
theorem number_eq (s : List UInt8) (i : Nat) (hi : i ≤ s.length) (hs : s.length ≤ 2000000) : pptok_reader_number ⟨s, i⟩ = some (numLen (s.drop i) : Int) := by
  unfold pptok_reader_number
  have b0 := byte_eq s i 0 (by omega)
  have b1 := byte_eq s i 1 (by omega)
  simp only [Nat.add_zero, show ((0 : Nat) : Int) = 0 from rfl, show ((1 : Nat) : Int) = 1 from rfl] at b0 b1
  simp only [b0, b1, digit_eq, iteB, neqB, nltB, nleB, m8_9, m8_10, m8_11, m8_12, m8_13, m8_32, m8_34, m8_35, m8_39, m8_40, m8_41, m8_42, m8_43, m8_44, m8_45, m8_46, m8_47, m8_48, m8_60, m8_62, m8_64, m8_65, m8_67, m8_69, m8_80, m8_90, m8_92, m8_95, m8_97, m8_101, m8_112, m8_122, m8, orO_some, andO_some, Option.bind_some, getD_drop]
  rcases drop_cases s i with ⟨h1, h2⟩ | ⟨c, h1, h2, h3⟩
  · have h4 : s.drop (i + 1) = [] := List.drop_eq_nil_of_le (by omega)
    simp only [h1, h4, List.headD_nil, digit0]; rfl
  rw [h2]
  simp only [List.headD_cons, numLen]
  by_cases hc : (isDigit c || (c == 46 && isDigit ((s.drop (i + 1)).headD 0))) = true
  · have hb : (!isDigit c && (!(c == 46) || !isDigit ((s.drop (i + 1)).headD 0))) = false := by
      rw [← Bool.not_and, ← Bool.not_or, hc]; rfl
    rw [iteF hb, if_pos hc]
    have key := loopS_of (f := pptok_reader_number_b1 ⟨s, i⟩) (fun n => ∃ k : Nat, n = k ∧ i + k ≤ s.length) (fun n => s.length - n.toNat) (fun n => n + ((numTail (s.drop (i + n.toNat)) : Nat) : Int)) (s := (1 : Int)) ⟨1, rfl, by omega⟩ (by omega) (by
      rintro n ⟨k, rfl, hk⟩
      unfold pptok_reader_number_b1
      have e1 : ((k : Int) + 1) = ((k + 1 : Nat) : Int) := rfl
      have e2 : ((k : Int) + 2) = ((k + 2 : Nat) : Int) := rfl
      rw [byte_eq s i k (by omega), Option.bind_some, chkT (by omega), e1, byte_eq s i (k + 1) (by omega), e2]
      simp only [iteB, neqB, nltB, nleB, m8_9, m8_10, m8_11, m8_12, m8_13, m8_32, m8_34, m8_35, m8_39, m8_40, m8_41, m8_42, m8_43, m8_44, m8_45, m8_46, m8_47, m8_48, m8_60, m8_62, m8_64, m8_65, m8_67, m8_69, m8_80, m8_90, m8_92, m8_95, m8_97, m8_101, m8_112, m8_122, m8, orO_some, andO_some, Option.bind_some, getD_drop, letter_eq, digit_eq, indexExp, Int.toNat_natCast]
      rw [← Nat.add_assoc]
      rcases drop_cases s (i + k) with ⟨h1, h2⟩ | ⟨d, h1, h2, h3⟩
      · right
        simp only [h1, List.headD_nil, letter0, digit0, show isExp 0 = false by decide, Bool.false_and, Bool.or_false, Bool.false_or, cond_false, show ((0 : UInt8) == 46) = false by decide, numTail]
        simp
      · simp only [h2, List.headD_cons, numTail_cons]
        have e3 : ((s.drop (i + k + 1)).headD 0 == 43 || (s.drop (i + k + 1)).headD 0 == 45) = isPM ((s.drop (i + k + 1)).headD 0) := rfl
        have e4 : (isLetter d || isDigit d || d == 46) = numCh d := rfl
        rw [e3, e4]
        by_cases h4 : (isExp d && isPM ((s.drop (i + k + 1)).headD 0)) = true
        · left
          have h5 : i + k + 1 < s.length := by
            rcases drop_cases s (i + k + 1) with ⟨g1, g2⟩ | ⟨d, g1, g2, g3⟩
            · rw [g1, show List.headD ([] : List UInt8) 0 = 0 from rfl, show isPM 0 = false by decide, Bool.and_false] at h4; cases h4
            · exact g1
          refine ⟨((k + 2 : Nat) : Int), ?_, ⟨k + 2, rfl, by omega⟩, ?_, ?_⟩
          · rw [iteT h4, chkT (by omega)]
          · omega
          · rw [if_pos h4, List.drop_drop, Int.toNat_natCast, show i + (k + 2) = i + k + 1 + 1 by omega]
            push_cast; omega
        · rw [if_neg h4, iteF (by simpa using h4)]
          by_cases h6 : numCh d = true
          · left
            refine ⟨((k + 1 : Nat) : Int), ?_, ⟨k + 1, rfl, by omega⟩, ?_, ?_⟩
            · rw [iteT h6, chkT (by omega)]
            · omega
            · rw [if_pos h6, Int.toNat_natCast, show i + (k + 1) = i + k + 1 by omega]
              push_cast; omega
          · right
            rw [if_neg h6, iteF (by simpa using h6)]
            simp)
    simp only [key, Option.bind_some, Int.toNat_one]
    push_cast; rfl
  · rw [iteT (by
      rw [← Bool.not_and, ← Bool.not_or, Bool.eq_false_iff.2 hc]; rfl), if_neg hc]; rfl
theorem quoTail_cons (q c : UInt8) (r : List UInt8) : quoTail q (c :: r) = if c = q then some 1 else if c = 10 then none else if c = 92 then (if r = [] ∨ r.head? = some 10 then none else (quoTail q (r.drop 1)).map (· + 2)) else (quoTail q r).map (· + 1) := by
  cases r with
  | nil =>
    simp only [quoTail]
    split
    · rfl
    · split
      · rfl
      · split <;> simp [quoTail]
  | cons d r => simp [quoTail]
theorem quoted_eq (s : List UInt8) (i : Nat) (q : UInt8) (hi : i ≤ s.length) (hs : s.length ≤ 2000000) : pptok_reader_quoted ⟨s, i⟩ q = some (quoLen q (s.drop i) : Int) := by
  unfold pptok_reader_quoted
  have b0 := byte_eq s i 0 (by omega)
  simp only [Nat.add_zero, show ((0 : Nat) : Int) = 0 from rfl] at b0
  simp only [b0, iteB, neqB, nltB, nleB, m8_9, m8_10, m8_11, m8_12, m8_13, m8_32, m8_34, m8_35, m8_39, m8_40, m8_41, m8_42, m8_43, m8_44, m8_45, m8_46, m8_47, m8_48, m8_60, m8_62, m8_64, m8_65, m8_67, m8_69, m8_80, m8_90, m8_92, m8_95, m8_97, m8_101, m8_112, m8_122, m8, orO_some, andO_some, Option.bind_some, getD_drop]
  rcases drop_cases s i with ⟨h1, h2⟩ | ⟨c, h1, h2, h3⟩
  · rw [iteT (by rw [eqT (by omega)]; rfl), h1]; rfl
  rw [h2]
  simp only [List.headD_cons]
  by_cases hc : c = q
  · rw [iteF (by rw [eqF (by omega), eqT hc]; rfl)]
    obtain ⟨T, hT2⟩ : ∃ T : Nat, T = (if q = 39 ∧ (s.drop (i + 1)).head? = some q then 0 else match quoTail q (s.drop (i + 1)) with | none => 0 | some n => n + 1) := ⟨_, rfl⟩
    have hT : quoLen q (c :: s.drop (i + 1)) = T := by rw [hT2]; simp only [quoLen, if_pos hc]
    rw [hT]
    obtain ⟨r, g1, g2⟩ := loopS_rel (f := pptok_reader_quoted_b2 ⟨s, i⟩ q) (fun n => ∃ k : Nat, n = k ∧ 1 ≤ k ∧ i + k ≤ s.length + 1 ∧ T = (if k = 1 ∧ q = 39 ∧ (s.drop (i + 1)).head? = some q then 0 else match quoTail q (s.drop (i + k)) with | none => 0 | some n => n + k)) (fun n => s.length + 2 - n.toNat) (fun r => (match r with | .inl _ => 0 | .inr n => n) = (T : Int)) (s := (1 : Int)) ⟨1, rfl, Nat.le_refl _, by omega, by rw [hT2]; simp⟩ (by omega) (by
      rintro n ⟨k, rfl, hk, hk2, hv⟩
      unfold pptok_reader_quoted_b2
      have e0 : ((i : Int) + (k : Int)) = ((i + k : Nat) : Int) := rfl
      have e1 : ((k : Int) + 1) = ((k + 1 : Nat) : Int) := rfl
      simp only [e0, e1]
      rw [chkT (by omega), byte_eq s i k (by omega), byte_eq s i (k + 1) (by omega)]
      simp only [iteB, neqB, nltB, nleB, m8_9, m8_10, m8_11, m8_12, m8_13, m8_32, m8_34, m8_35, m8_39, m8_40, m8_41, m8_42, m8_43, m8_44, m8_45, m8_46, m8_47, m8_48, m8_60, m8_62, m8_64, m8_65, m8_67, m8_69, m8_80, m8_90, m8_92, m8_95, m8_97, m8_101, m8_112, m8_122, m8, orO_some, andO_some, Option.bind_some, getD_drop]
      rcases drop_cases s (i + k) with ⟨h1, h2⟩ | ⟨d, h1, h2, h3⟩
      · right
        refine ⟨_, iteF (ltF (by omega)), ?_⟩
        rw [hv, h1, if_neg]
        · simp [quoTail]
        · rintro ⟨rfl, _, h4⟩; rw [h1] at h4; cases h4
      rw [iteT (ltT (by omega)), h2]
      simp only [List.headD_cons]
      rw [h2, quoTail_cons q d] at hv
      by_cases hd : d = q
      · right
        rw [iteT (eqT hd)]
        by_cases h4 : q = 39 ∧ k = 1
        · refine ⟨_, iteT (by rw [eqT h4.1, eqT (by omega)]; rfl), ?_⟩
          obtain ⟨h4, rfl⟩ := h4
          rw [hv, if_pos ⟨rfl, h4, by rw [h2, hd]; rfl⟩]; rfl
        · refine ⟨.inr ((k + 1 : Nat) : Int), ?_, ?_⟩
          · rw [iteF (by
              rcases Decidable.not_and_iff_or_not.1 h4 with h4 | h4
              · rw [eqF h4]; rfl
              · rw [eqF (a := (k : Int)) (by omega), Bool.and_false]), chkT (by omega)]
          · rw [hv, if_neg (fun h5 => h4 ⟨h5.2.1, h5.1⟩), if_pos hd]
            simp only; omega
      rw [iteF (eqF hd)]
      have hne : ¬ (k = 1 ∧ q = 39 ∧ (s.drop (i + 1)).head? = some q) := by
        rintro ⟨rfl, _, h5⟩
        rw [h2] at h5
        injection h5 with h5; exact hd h5
      rw [if_neg hne, if_neg hd] at hv
      by_cases hd10 : d = 10
      · right
        refine ⟨_, iteT (eqT hd10), ?_⟩
        rw [hv, if_pos hd10]; rfl
      rw [iteF (eqF hd10)]
      rw [if_neg hd10] at hv
      by_cases hd92 : d = 92
      · rw [iteT (eqT hd92), chkT (by omega)]
        rw [if_pos hd92] at hv
        have e3 : ((i : Int) + ((k + 1 : Nat) : Int)) = ((i + k + 1 : Nat) : Int) := by push_cast; omega
        have e4 : ((k + 1 : Nat) : Int) + 1 = ((k + 2 : Nat) : Int) := rfl
        simp only [e3, e4, ← Nat.add_assoc]
        rw [chkT (by omega)]
        simp only [iteB, neqB, nltB, nleB, m8_9, m8_10, m8_11, m8_12, m8_13, m8_32, m8_34, m8_35, m8_39, m8_40, m8_41, m8_42, m8_43, m8_44, m8_45, m8_46, m8_47, m8_48, m8_60, m8_62, m8_64, m8_65, m8_67, m8_69, m8_80, m8_90, m8_92, m8_95, m8_97, m8_101, m8_112, m8_122, m8, orO_some, andO_some, Option.bind_some, getD_drop]
        rcases drop_cases s (i + k + 1) with ⟨f1, f2⟩ | ⟨x, f1, f2, f3⟩
        · left
          refine ⟨((k + 2 : Nat) : Int), ?_, ⟨k + 2, by omega, by omega, by omega, ?_⟩, by omega⟩
          · rw [iteF (by rw [ltF (by omega), Bool.and_false]), chkT (by omega)]
          · rw [hv, f1, if_pos (.inl rfl), if_neg (by omega), List.drop_eq_nil_of_le (by omega)]; simp [quoTail]
        · rw [f2]
          simp only [List.headD_cons]
          rw [f2] at hv
          by_cases hx : x = 10
          · right
            refine ⟨_, iteT (by rw [eqT hx, ltT (by omega)]; rfl), ?_⟩
            rw [hv, if_pos (.inr (by rw [hx]; rfl))]; rfl
          · left
            refine ⟨((k + 2 : Nat) : Int), ?_, ⟨k + 2, by omega, by omega, by omega, ?_⟩, by omega⟩
            · rw [iteF (by rw [eqF hx, Bool.false_and]), chkT (by omega)]
            · rw [hv, if_neg (by simp [hx]), if_neg (by omega), show i + (k + 2) = i + k + 1 + 1 by omega]
              simp only [List.drop_succ_cons, List.drop_zero]
              cases quoTail q (s.drop (i + k + 1 + 1)) with
              | none => rfl
              | some m => show m + 2 + k = m + (k + 2); omega
      · left
        rw [if_neg hd92] at hv
        refine ⟨((k + 1 : Nat) : Int), ?_, ⟨k + 1, rfl, by omega, by omega, ?_⟩, by omega⟩
        · rw [iteF (eqF hd92), chkT (by omega)]
        · rw [hv, if_neg (by omega), ← Nat.add_assoc]
          cases quoTail q (s.drop (i + k + 1)) with
          | none => rfl
          | some m => show m + 1 + k = m + (k + 1); omega)
    rw [g1, Option.bind_some]
    cases r with
    | inl u => simp only at g2; rw [← g2]; rfl
    | inr n => simp only at g2; rw [← g2]
  · rw [iteT (by rw [eqF hc]; simp)]
    simp only [quoLen, if_neg hc]; rfl
end Go.Sh
