/-
  What pptok's functions compute, in plain words: signs, blanks, a text's tokens. No program in sight.
-/
import Derived.Test.YtfocleohejljpaaDoorA3
import Derived.Test.YtfocleohejljpaaDoorSg
set_option linter.unusedVariables false
set_option linter.unusedSimpArgs false
namespace Go.Sh
open Go

/-! ### signs -/
def signF (u : List UInt8) (n : Nat) (y : List UInt8) : Nat := if y.length ≤ n ∨ y.isPrefixOf u = false then n else y.length
theorem signs_parts : signs = three ++ (two ++ ones.map fun c => [c]) := rfl
theorem signF_none (u : List UInt8) (m : Nat) : ∀ (L : List (List UInt8)), (∀ y ∈ L, y.length ≤ m) → L.foldl (signF u) m = m
  | [], _ => rfl
  | y :: L, h => by rw [List.foldl_cons, show signF u m y = m from if_pos (.inl (h y (by simp)))]; exact signF_none u m L fun y hy => h y (by simp [hy])
theorem signF_all (u : List UInt8) (m n : Nat) (hn : n < m) : ∀ (L : List (List UInt8)), (∀ y ∈ L, y.length = m) → L.foldl (signF u) n = if L.any (fun p => p.isPrefixOf u) = true then m else n
  | [], _ => rfl
  | y :: L, h => by
    rw [List.foldl_cons, List.any_cons]
    have hy := h y (by simp)
    by_cases hp : y.isPrefixOf u = true
    · rw [show signF u n y = m by unfold signF; rw [if_neg (by rw [hp, hy]; simp; omega), hy], signF_none u m L fun y hy => by rw [h y (by simp [hy])]; exact Nat.le_refl _, hp]; rfl
    · have hp : y.isPrefixOf u = false := Bool.eq_false_iff.2 hp
      rw [show signF u n y = n from if_pos (.inr hp), signF_all u m n hn L fun y hy => h y (by simp [hy]), hp]; rfl
theorem single_prefix (u : List UInt8) (c : UInt8) : [c].isPrefixOf u = (u.head? == some c) := by
  cases u with
  | nil => rfl
  | cons d r =>
    simp only [List.isPrefixOf, List.head?_cons, Bool.and_true]
    by_cases h : c = d
    · subst h; simp
    · rw [beq_eq_false_iff_ne.2 h, beq_eq_false_iff_ne.2 (fun e => h (by injection e with e; exact e.symm))]
theorem any_ones (u : List UInt8) : (ones.map fun c => [c]).any (fun p => p.isPrefixOf u) = ones.any (fun c => u.head? == some c) := by
  rw [List.any_map]; congr 1; funext c; exact single_prefix u c
theorem signLen_fold (u : List UInt8) : signs.foldl (signF u) 0 = signLen u := by
  rw [signs_parts, List.foldl_append, List.foldl_append, signF_all u 3 0 (by decide) three (by decide)]
  unfold signLen
  split
  · rw [signF_none u 3 two (by decide), signF_none u 3 _ (by decide)]
  · rw [signF_all u 2 0 (by decide) two (by decide)]
    split
    · rw [signF_none u 2 _ (by decide)]
    · rw [signF_all u 1 0 (by decide) _ (by decide), any_ones]
theorem signs_len : signs.length = 48 := rfl
theorem sign_eq (s : List UInt8) (i : Nat) (hi : i ≤ s.length) (hs : s.length ≤ 2000000) : pptok_reader_sign ⟨s, i⟩ = some (signLen (s.drop i) : Int) := by
  unfold pptok_reader_sign
  obtain ⟨r, h1, rfl⟩ := loopS_ix (f := pptok_reader_sign_b2 ⟨s, i⟩) 48 (by omega) (fun k x => x.2 = k ∧ x.1 = (((signs.take k).foldl (signF (s.drop i)) 0 : Nat) : Int)) (fun r => r = (signLen (s.drop i) : Int)) (s0 := ((0 : Int), (0 : Int))) ⟨rfl, rfl⟩ (by
    rintro k ⟨n, j⟩ hk ⟨h1, h2⟩
    simp only at h1 h2; subst h1; subst h2
    left
    have hk' : k < signs.length := by rw [signs_len]; exact hk
    have ht : signs.take (k + 1) = signs.take k ++ [signs[k]] := by rw [List.take_add_one, List.getElem?_eq_getElem hk']; rfl
    unfold pptok_reader_sign_b2
    simp only [has_eq s _ i hi, chkB, andB, orB, condAnd, condOr, iteB, neqB, nltB, nleB, m8_9, m8_10, m8_11, m8_12, m8_13, m8_32, m8_34, m8_35, m8_39, m8_40, m8_41, m8_42, m8_43, m8_44, m8_45, m8_46, m8_47, m8_48, m8_60, m8_62, m8_64, m8_65, m8_67, m8_69, m8_80, m8_90, m8_92, m8_95, m8_97, m8_101, m8_112, m8_122, m8, orO_some, andO_some, Option.bind_some, getD_drop]
    rw [iteT (ltT (by omega)), ix_at hk', Option.bind_some]
    by_cases hc : signs[k].length ≤ (signs.take k).foldl (signF (s.drop i)) 0 ∨ signs[k].isPrefixOf (s.drop i) = false
    · refine ⟨((((signs.take k).foldl (signF (s.drop i)) 0 : Nat) : Int), (k : Int) + 1), ?_, rfl, ?_⟩
      · rw [iteT, pk (by omega)]
        rcases hc with hc | hc
        · rw [leT (by omega)]; rfl
        · rw [hc]; simp
      · simp only
        rw [ht, List.foldl_append, List.foldl_cons, List.foldl_nil, show signF (s.drop i) _ signs[k] = _ from if_pos hc]
    · refine ⟨((signs[k].length : Int), (k : Int) + 1), ?_, rfl, ?_⟩
      · rw [iteF, pk (by omega)]
        have hc := not_or.1 hc
        rw [leF (by omega), eq_true_of_ne_false hc.2]; rfl
      · simp only
        rw [ht, List.foldl_append, List.foldl_cons, List.foldl_nil, show signF (s.drop i) _ signs[k] = _ from if_neg hc]) (by
    rintro ⟨n, j⟩ ⟨h1, h2⟩
    simp only at h1 h2; subst h1; subst h2
    refine ⟨_, ?_, rfl⟩
    unfold pptok_reader_sign_b2
    simp only [chkB, andB, orB, condAnd, condOr, iteB, neqB, nltB, nleB, m8_9, m8_10, m8_11, m8_12, m8_13, m8_32, m8_34, m8_35, m8_39, m8_40, m8_41, m8_42, m8_43, m8_44, m8_45, m8_46, m8_47, m8_48, m8_60, m8_62, m8_64, m8_65, m8_67, m8_69, m8_80, m8_90, m8_92, m8_95, m8_97, m8_101, m8_112, m8_122, m8, orO_some, andO_some, Option.bind_some, getD_drop]
    rw [iteF (ltF (by omega)), List.take_of_length_le (by rw [signs_len]; exact Nat.le_refl _), signLen_fold])
  rw [h1, Option.bind_some]; rfl

/-! ### what stands next -/
theorem next_eq (s : List UInt8) (i : Nat) (hi : i ≤ s.length) (hs : s.length ≤ 2000000) : pptok_reader_next ⟨s, i⟩ = some ((nextTok (s.drop i)).1, ((nextTok (s.drop i)).2 : Int)) := by
  unfold pptok_reader_next nextTok
  simp only [has_eq s _ i hi, word_eq s i hi hs, number_eq s i hi hs, quoted_eq s i _ hi hs, sign_eq s i hi hs, chkB, andB, orB, condAnd, condOr, iteB, neqB, nltB, nleB, m8_9, m8_10, m8_11, m8_12, m8_13, m8_32, m8_34, m8_35, m8_39, m8_40, m8_41, m8_42, m8_43, m8_44, m8_45, m8_46, m8_47, m8_48, m8_60, m8_62, m8_64, m8_65, m8_67, m8_69, m8_80, m8_90, m8_92, m8_95, m8_97, m8_101, m8_112, m8_122, m8, orO_some, andO_some, Option.bind_some, getD_drop, single_prefix]
  by_cases h0 : (s.drop i).head? = some 10
  · rw [iteT (by rw [h0]; rfl), if_pos h0]; rfl
  rw [iteF (by simpa using h0), if_neg h0]
  by_cases h1 : 0 < wordLen (s.drop i)
  · rw [iteT (ltT (by omega)), if_pos h1]
  rw [iteF (ltF (by omega)), if_neg h1]
  by_cases h1 : 0 < numLen (s.drop i)
  · rw [iteT (ltT (by omega)), if_pos h1]
  rw [iteF (ltF (by omega)), if_neg h1]
  by_cases h1 : 0 < quoLen 34 (s.drop i)
  · rw [iteT (ltT (by omega)), if_pos h1]
  rw [iteF (ltF (by omega)), if_neg h1]
  by_cases h1 : 0 < quoLen 39 (s.drop i)
  · rw [iteT (ltT (by omega)), if_pos h1]
  rw [iteF (ltF (by omega)), if_neg h1]
  by_cases h1 : 0 < signLen (s.drop i)
  · rw [iteT (ltT (by omega)), if_pos h1]
  rw [iteF (ltF (by omega)), if_neg h1]; rfl

/-! ### blanks -/
theorem index_line : ∀ u : List UInt8, Lib.indexByte u 10 = if lineLen u = u.length then -1 else (lineLen u : Int)
  | [] => rfl
  | c :: r => by
    have ih := index_line r
    have hl := lineLen_le r
    rw [Lib.indexByte]
    by_cases hc : c = 10
    · subst hc; simp [lineLen]
    · have he : lineLen (c :: r) = 1 + lineLen r := if_neg hc
      rw [if_neg (by simpa using hc), ih]
      by_cases h : lineLen r = r.length
      · rw [if_pos h, if_pos (show ((-1 : Int) == -1) = true from rfl), if_pos (by rw [he, List.length_cons]; omega)]
      · rw [if_neg h, if_neg (by simp <;> omega), if_neg (by rw [he, List.length_cons]; omega), he]; push_cast; omega
theorem index_block : ∀ u : List UInt8, Lib.index u [42, 47] = match blockLen u with | none => -1 | some n => (n : Int) - 2
  | [] => rfl
  | [c] => by simp [Lib.index, List.isPrefixOf, blockLen]
  | c :: d :: r => by
    have ih := index_block (d :: r)
    rw [Lib.index]
    simp only [blockLen]
    by_cases hc : c = 42 ∧ d = 47
    · rw [if_pos (by simp [List.isPrefixOf, hc.1, hc.2]), if_pos hc]; rfl
    · rw [if_neg (by simp only [List.isPrefixOf]; intro h; simp only [Bool.and_eq_true, beq_iff_eq] at h; exact hc ⟨h.1.symm, h.2.1.symm⟩), if_neg hc, ih]
      cases hb : blockLen (d :: r) with
      | none => rfl
      | some n =>
        have := blockLen_le _ n hb
        simp only [Option.map_some]
        rw [if_neg (by simp; omega)]
        show (n : Int) - 2 + 1 = ((n + 1 : Nat) : Int) - 2
        push_cast; omega
theorem prefix2 (a b : UInt8) (u : List UInt8) : ([a, b] : List UInt8).isPrefixOf u = true ↔ ∃ r, u = a :: b :: r := by
  match u with
  | [] => simp
  | [c] => simp [List.isPrefixOf]
  | c :: d :: r =>
    simp only [List.isPrefixOf, Bool.and_eq_true, beq_iff_eq]
    constructor
    · rintro ⟨rfl, rfl, _⟩; exact ⟨r, rfl⟩
    · rintro ⟨r', h⟩; injection h with h1 h; injection h with h2 h; subst h1; subst h2; simp
theorem blank_j1_eq (s : List UInt8) (i : Nat) (hi : i ≤ s.length) (hs : s.length ≤ 2000000) : isWS ((s.drop i).headD 0) = false → pptok_reader_blank_j1 ⟨s, i⟩ = some (decide (0 < blankLen (s.drop i)), ⟨s, ((i + blankLen (s.drop i) : Nat) : Int)⟩) := by
  intro hw
  unfold pptok_reader_blank_j1 pptok_reader_blank_j3
  simp only [has_eq s _ i hi, chkB, andB, orB, condAnd, condOr, iteB, neqB, nltB, nleB, m8_9, m8_10, m8_11, m8_12, m8_13, m8_32, m8_34, m8_35, m8_39, m8_40, m8_41, m8_42, m8_43, m8_44, m8_45, m8_46, m8_47, m8_48, m8_60, m8_62, m8_64, m8_65, m8_67, m8_69, m8_80, m8_90, m8_92, m8_95, m8_97, m8_101, m8_112, m8_122, m8, orO_some, andO_some, Option.bind_some, getD_drop, Int.toNat_natCast]
  rcases drop_cases s i with ⟨h1, h2⟩ | ⟨c, h1, h2, h3⟩
  · rw [h1]
    simp [List.isPrefixOf, blankLen]
  rw [h2] at hw ⊢
  simp only [List.headD_cons] at hw
  have hle := blankLen_le (c :: s.drop (i + 1))
  simp only [List.length_cons, List.length_drop] at hle
  by_cases hl : ([47, 47] : List UInt8).isPrefixOf (c :: s.drop (i + 1)) = true
  · obtain ⟨r, hr⟩ := (prefix2 _ _ _).1 hl
    have e : blankLen (c :: s.drop (i + 1)) = lineLen (c :: s.drop (i + 1)) := by
      rw [hr]; simp [blankLen, lineLen, isWS]
    have hp : 0 < lineLen (c :: s.drop (i + 1)) := by rw [hr]; simp [lineLen]; omega
    rw [iteT hl, pk (by omega), index_line, e]
    rw [e] at hle
    by_cases hn : lineLen (c :: s.drop (i + 1)) = (c :: s.drop (i + 1)).length
    · rw [if_pos hn, iteT (by rfl), pk (by omega), pk (by omega), decide_eq_true hp]
      simp only [List.length_cons, List.length_drop] at hn
      simp only [Option.some.injEq, Prod.mk.injEq, true_and, GPptok_reader.mk.injEq]
      omega
    · rw [if_neg hn, iteF (ltF (by omega)), pk (by omega), decide_eq_true hp]; rfl
  rw [iteF (Bool.eq_false_iff.2 hl)]
  have hl' : ¬ (c = 47 ∧ (s.drop (i + 1)).head? = some 47) := by
    rintro ⟨rfl, h⟩
    apply hl
    cases hd : s.drop (i + 1) with
    | nil => rw [hd] at h; cases h
    | cons d r => rw [hd] at h; injection h with h; subst h; rfl
  by_cases hb : ([47, 42] : List UInt8).isPrefixOf (c :: s.drop (i + 1)) = true
  · obtain ⟨r, hr⟩ := (prefix2 _ _ _).1 hb
    injection hr with hr1 hr2
    have h5 : i + 2 ≤ s.length := by
      have := congrArg List.length hr2
      simp only [List.length_drop, List.length_cons] at this; omega
    have e2 : ((i : Int) + 2) = ((i + 2 : Nat) : Int) := rfl
    have h6 : s.drop (i + 2) = r := by
      have := congrArg (List.drop 1) hr2
      rw [List.drop_drop] at this; simpa using this
    simp only [e2, Int.toNat_natCast]
    rw [iteF (by rw [hb]; rfl), pk (by omega), pk (by omega), pk (by rw [List.length_drop]; omega), index_block, h6]
    cases hbl : blockLen r with
    | none =>
      have e : blankLen (c :: s.drop (i + 1)) = 0 := by
        rw [hr2, hr1]; simp [blankLen, isWS, hbl]
      rw [e]
      simp [ilt]
    | some n =>
      have e : blankLen (c :: s.drop (i + 1)) = n + 2 := by
        rw [hr2, hr1]; simp [blankLen, isWS, hbl]
      rw [e] at hle ⊢
      have := blockLen_le _ n hbl
      simp only at hle ⊢
      rw [iteF (ltF (by omega)), pk (by omega), pk (by omega), decide_eq_true (by omega)]
      simp only [Option.some.injEq, Prod.mk.injEq, true_and, GPptok_reader.mk.injEq]
      push_cast; omega
  · have hb' : ¬ (c = 47 ∧ (s.drop (i + 1)).head? = some 42) := by
      rintro ⟨rfl, h⟩
      apply hb
      cases hd : s.drop (i + 1) with
      | nil => rw [hd] at h; cases h
      | cons d r => rw [hd] at h; injection h with h; subst h; rfl
    rw [iteT (by rw [Bool.eq_false_iff.2 hb]; rfl)]
    have e : blankLen (c :: s.drop (i + 1)) = 0 := by
      simp only [blankLen, hw]
      rw [if_neg (by simp), if_neg hl', if_neg hb']
    rw [e]; rfl
theorem blank_eq (s : List UInt8) (i : Nat) (hi : i ≤ s.length) (hs : s.length ≤ 2000000) : pptok_reader_blank ⟨s, i⟩ = some (decide (0 < blankLen (s.drop i)), ⟨s, ((i + blankLen (s.drop i) : Nat) : Int)⟩) := by
  unfold pptok_reader_blank
  have b0 := byte_eq s i 0 (by omega)
  simp only [Nat.add_zero, show ((0 : Nat) : Int) = 0 from rfl] at b0
  simp only [b0, chkB, andB, orB, condAnd, condOr, iteB, neqB, nltB, nleB, m8_9, m8_10, m8_11, m8_12, m8_13, m8_32, m8_34, m8_35, m8_39, m8_40, m8_41, m8_42, m8_43, m8_44, m8_45, m8_46, m8_47, m8_48, m8_60, m8_62, m8_64, m8_65, m8_67, m8_69, m8_80, m8_90, m8_92, m8_95, m8_97, m8_101, m8_112, m8_122, m8, orO_some, andO_some, Option.bind_some, getD_drop]
  by_cases hw : isWS ((s.drop i).headD 0) = true
  · rcases drop_cases s i with ⟨h1, h2⟩ | ⟨c, h1, h2, h3⟩
    · rw [h1] at hw; exact absurd hw (by decide)
    rw [h2] at hw ⊢
    simp only [List.headD_cons] at hw ⊢
    have e : blankLen (c :: s.drop (i + 1)) = 1 := by simp only [blankLen, hw, if_true]
    rw [e]
    have hw2 := hw
    simp only [isWS, Bool.or_eq_true, beq_iff_eq] at hw2
    have fin : pptok_reader_blank_j2 ⟨s, i⟩ true = some (decide (0 < 1), ⟨s, ((i + 1 : Nat) : Int)⟩) := by
      unfold pptok_reader_blank_j2
      rw [if_pos rfl]
      simp only
      rw [chkT (by omega), decide_eq_true Nat.zero_lt_one]; rfl
    by_cases q1 : c = 32
    · rw [eqT q1, iteT rfl]; exact fin
    rw [eqF q1, iteF rfl]
    by_cases q2 : c = 9
    · rw [eqT q2, iteT rfl]; exact fin
    rw [eqF q2, iteF rfl]
    by_cases q3 : c = 11
    · rw [eqT q3, iteT rfl]; exact fin
    rw [eqF q3, iteF rfl]
    by_cases q4 : c = 12
    · rw [eqT q4, iteT rfl]; exact fin
    rw [eqF q4, iteF rfl]
    have q5 : c = 13 := by
      rcases hw2 with (((h | h) | h) | h) | h
      · exact absurd h q1
      · exact absurd h q2
      · exact absurd h q3
      · exact absurd h q4
      · exact h
    rw [eqT q5]; exact fin
  · have hw' : isWS ((s.drop i).headD 0) = false := by simpa using hw
    have hw2 := hw'
    simp only [isWS, Bool.or_eq_false_iff] at hw2
    obtain ⟨⟨⟨⟨g1, g2⟩, g3⟩, g4⟩, g5⟩ := hw2
    rw [iteF g1, iteF g2, iteF g3, iteF g4, g5]
    unfold pptok_reader_blank_j2
    simp only [iteB, cond_false]
    exact blank_j1_eq s i hi hs hw'
end Go.Sh
