/-
  The document's words for tokens compute the same. No program in sight.
-/
import Derived.Test.YtfocleohejljpaaDoorA4
set_option linter.unusedVariables false
set_option linter.unusedSimpArgs false
namespace Go.Sh
open Go
theorem rletter_eq (c : UInt8) : emendref03_letter c = some (isLetter c) := by
  unfold emendref03_letter isLetter; simp only [orO_some, andO_some, Option.bind_some]
theorem rdigit_eq (c : UInt8) : emendref03_digit c = some (isDigit c) := by
  unfold emendref03_digit isDigit; simp only [orO_some, andO_some, Option.bind_some]
theorem take_eq_prefix (t u : List UInt8) : (@BEq.beq _ instBEqOfDecidableEq (u.take t.length) t) = t.isPrefixOf u := by
  by_cases h : u.take t.length = t
  · rw [eqT h]; exact (List.isPrefixOf_iff_prefix.2 (List.prefix_iff_eq_take.2 h.symm)).symm
  · rw [eqF h]; exact (Bool.eq_false_iff.2 fun hp => h (List.prefix_iff_eq_take.1 (List.isPrefixOf_iff_prefix.1 hp)).symm).symm
theorem is_eq (s t : List UInt8) (i : Nat) (hi : i ≤ s.length) (hs : s.length ≤ 2000000) (ht : t.length ≤ 2000000) : emendref03_is s i t = some (t.isPrefixOf (s.drop i)) := by
  unfold emendref03_is
  simp only [chkB, andB, orB, condAnd, condOr, iteB, neqB, nltB, nleB, m8_9, m8_10, m8_11, m8_12, m8_13, m8_32, m8_34, m8_35, m8_39, m8_40, m8_41, m8_42, m8_43, m8_44, m8_45, m8_46, m8_47, m8_48, m8_60, m8_62, m8_64, m8_65, m8_67, m8_69, m8_80, m8_90, m8_92, m8_95, m8_97, m8_101, m8_112, m8_122, m8, orO_some, andO_some, Option.bind_some, getD_drop]
  have e : ((i : Int) + (t.length : Int)) = ((i + t.length : Nat) : Int) := rfl
  simp only [e, Int.toNat_natCast]
  rw [pk (by omega)]
  by_cases h : i + t.length ≤ s.length
  · rw [iteT (leT (by omega)), pk (by omega), pk (by omega), show i + t.length - i = t.length by omega]
    simp only [chkB, andB, orB, condAnd, condOr, iteB, neqB, nltB, nleB, m8_9, m8_10, m8_11, m8_12, m8_13, m8_32, m8_34, m8_35, m8_39, m8_40, m8_41, m8_42, m8_43, m8_44, m8_45, m8_46, m8_47, m8_48, m8_60, m8_62, m8_64, m8_65, m8_67, m8_69, m8_80, m8_90, m8_92, m8_95, m8_97, m8_101, m8_112, m8_122, m8, orO_some, andO_some, Option.bind_some, getD_drop, take_eq_prefix]
  · have hf : t.isPrefixOf (s.drop i) = false := Bool.eq_false_iff.2 (fun hp => by have := isPrefix_len hp; rw [List.length_drop] at this; omega)
    rw [iteF (leF (by omega)), hf]; rfl
theorem rword_eq (s : List UInt8) (i : Nat) (hi : i ≤ s.length) (hs : s.length ≤ 2000000) : emendref03_word s i = some (wordLen (s.drop i) : Int) := by
  unfold emendref03_word
  have key := loopS_of (f := emendref03_word_b2 s i) (fun n => ∃ k : Nat, n = k ∧ i + k ≤ s.length) (fun n => s.length - n.toNat) (fun n => n + ((if n = 0 then wordLen (s.drop i) else wordTail (s.drop (i + n.toNat)) : Nat) : Int)) (s := (0 : Int)) ⟨0, rfl, by omega⟩ (by omega) (by
    rintro n ⟨k, rfl, hk⟩
    unfold emendref03_word_b2
    have e : ((i : Int) + (k : Int)) = ((i + k : Nat) : Int) := rfl
    simp only [chkB, andB, orB, condAnd, condOr, iteB, neqB, nltB, nleB, m8_9, m8_10, m8_11, m8_12, m8_13, m8_32, m8_34, m8_35, m8_39, m8_40, m8_41, m8_42, m8_43, m8_44, m8_45, m8_46, m8_47, m8_48, m8_60, m8_62, m8_64, m8_65, m8_67, m8_69, m8_80, m8_90, m8_92, m8_95, m8_97, m8_101, m8_112, m8_122, m8, orO_some, andO_some, Option.bind_some, getD_drop, rletter_eq, rdigit_eq, Int.toNat_natCast, e]
    rw [pk (by omega)]
    rcases drop_cases s (i + k) with ⟨h1, h2⟩ | ⟨c, h1, h2, h3⟩
    · right
      rw [iteF (ltF (by omega)), Option.bind_some, cond_false]
      congr 2
      by_cases hk0 : k = 0
      · subst hk0
        rw [Nat.add_zero] at h1
        simp [h1, wordLen]
      · rw [if_neg (by omega), h1]; simp [wordTail]
    · rw [iteT (ltT (by omega)), pk (by omega), pk (by omega), ix_of h3 rfl]
      simp only [Option.bind_some, chkB, andB, orB, condAnd, condOr, iteB, neqB, nltB, nleB, m8_9, m8_10, m8_11, m8_12, m8_13, m8_32, m8_34, m8_35, m8_39, m8_40, m8_41, m8_42, m8_43, m8_44, m8_45, m8_46, m8_47, m8_48, m8_60, m8_62, m8_64, m8_65, m8_67, m8_69, m8_80, m8_90, m8_92, m8_95, m8_97, m8_101, m8_112, m8_122, m8, orO_some, andO_some, Option.bind_some, getD_drop]
      by_cases hk0 : k = 0
      · subst hk0
        rw [Nat.add_zero] at h2
        simp only [h2, wordLen, show ((0 : Nat) : Int) = 0 from rfl, if_true, show ilt 0 0 = false from rfl, Bool.false_and, Bool.or_false]
        by_cases hc : isLetter c = true
        · left
          refine ⟨1, ?_, ⟨1, rfl, by omega⟩, by omega, ?_⟩
          · rw [iteT hc, pk (by omega)]; rfl
          · rw [if_pos hc, if_neg (by omega)]
            show (1 : Int) + _ = _
            simp only [Nat.add_zero, Int.toNat_one]; push_cast; omega
        · right
          rw [iteF (by simpa using hc), if_neg hc]; rfl
      · have e0 : ilt 0 (k : Int) = true := ltT (by omega)
        have e2 : ¬ ((k : Int) = 0) := by omega
        simp only [e0, Bool.true_and, if_neg e2, h2]
        by_cases hc : (isLetter c || isDigit c) = true
        · left
          refine ⟨(k : Int) + 1, ?_, ⟨k + 1, rfl, by omega⟩, by omega, ?_⟩
          · rw [iteT hc, pk (by omega)]
          · rw [if_neg (by omega), show ((k : Int) + 1).toNat = k + 1 by omega]
            simp only [wordTail, hc, if_true, Nat.add_assoc]
            push_cast; omega
        · right
          rw [iteF (by simpa using hc)]
          simp [wordTail, hc])
  simp only [key, Option.bind_some, emendref03_word_j1]
  simp
theorem rnumber_eq (s : List UInt8) (i : Nat) (hi : i < s.length) (hs : s.length ≤ 2000000) : emendref03_number s i = some (numLen (s.drop i) : Int) := by
  unfold emendref03_number
  rcases drop_cases s i with ⟨h1, h2⟩ | ⟨c, h1, h2, h3⟩
  · omega
  have e1 : ((i : Int) + 1) = ((i + 1 : Nat) : Int) := rfl
  simp only [ix_of h3 rfl, rdigit_eq, chkB, andB, orB, condAnd, condOr, iteB, neqB, nltB, nleB, m8_9, m8_10, m8_11, m8_12, m8_13, m8_32, m8_34, m8_35, m8_39, m8_40, m8_41, m8_42, m8_43, m8_44, m8_45, m8_46, m8_47, m8_48, m8_60, m8_62, m8_64, m8_65, m8_67, m8_69, m8_80, m8_90, m8_92, m8_95, m8_97, m8_101, m8_112, m8_122, m8, orO_some, andO_some, Option.bind_some, getD_drop, e1]
  rw [pk (by omega), h2]
  simp only [numLen]
  have hb : (cond (!isDigit c) ((cond (c == 46 && ilt ((i + 1 : Nat) : Int) (s.length : Int)) (pchk (I64 ((i + 1 : Nat) : Int)) ((ix s ((i + 1 : Nat) : Int)).bind fun ch_3 => some (isDigit ch_3))) (some false)).bind fun b_3 => some (!b_3)) (some false)) = some (!(isDigit c || (c == 46 && isDigit ((s.drop (i + 1)).headD 0)))) := by
    by_cases hd : isDigit c = true
    · rw [hd]; rfl
    have hd : isDigit c = false := by simpa using hd
    rw [hd]
    by_cases hc : c = 46
    · rw [eqT hc]
      rcases drop_cases s (i + 1) with ⟨f1, f2⟩ | ⟨d, f1, f2, f3⟩
      · rw [ltF (by omega), f1]; rfl
      · rw [ltT (by omega), pk (by omega), ix_of f3 rfl, f2]; rfl
    · rw [eqF hc]; rfl
  simp only [chkB, andB, orB, condAnd, condOr, iteB, neqB, nltB, nleB, m8_9, m8_10, m8_11, m8_12, m8_13, m8_32, m8_34, m8_35, m8_39, m8_40, m8_41, m8_42, m8_43, m8_44, m8_45, m8_46, m8_47, m8_48, m8_60, m8_62, m8_64, m8_65, m8_67, m8_69, m8_80, m8_90, m8_92, m8_95, m8_97, m8_101, m8_112, m8_122, m8, orO_some, andO_some, Option.bind_some, getD_drop] at hb ⊢
  rw [hb, Option.bind_some]
  by_cases hc : (isDigit c || (c == 46 && isDigit ((s.drop (i + 1)).headD 0))) = true
  · rw [iteF (by rw [hc]; rfl), iteT hc]
    have key := loopS_of (f := emendref03_number_b2 s i) (fun n => ∃ k : Nat, n = k ∧ i + k ≤ s.length) (fun n => s.length - n.toNat) (fun n => n + ((numTail (s.drop (i + n.toNat)) : Nat) : Int)) (s := (1 : Int)) ⟨1, rfl, by omega⟩ (by omega) (by
      rintro n ⟨k, rfl, hk⟩
      unfold emendref03_number_b2
      have e0 : ((i : Int) + (k : Int)) = ((i + k : Nat) : Int) := rfl
      have e1 : (((i + k : Nat) : Int) + 1) = ((i + k + 1 : Nat) : Int) := rfl
      simp only [e0, e1, chkB, andB, orB, condAnd, condOr, iteB, neqB, nltB, nleB, m8_9, m8_10, m8_11, m8_12, m8_13, m8_32, m8_34, m8_35, m8_39, m8_40, m8_41, m8_42, m8_43, m8_44, m8_45, m8_46, m8_47, m8_48, m8_60, m8_62, m8_64, m8_65, m8_67, m8_69, m8_80, m8_90, m8_92, m8_95, m8_97, m8_101, m8_112, m8_122, m8, orO_some, andO_some, Option.bind_some, getD_drop, rletter_eq, rdigit_eq, Int.toNat_natCast]
      rw [pk (by omega)]
      rcases drop_cases s (i + k) with ⟨h1, h2⟩ | ⟨d, h1, h2, h3⟩
      · right
        rw [iteF (ltF (by omega)), h1]; simp [numTail]
      · rw [iteT (ltT (by omega)), pk (by omega), ix_of h3 rfl, Option.bind_some, pk (by omega), pk (by omega)]
        have hsg : (cond (ilt ((i + k + 1 : Nat) : Int) (s.length : Int)) (pchk (I64 ((i + k : Nat) : Int)) (pchk (I64 ((i + k + 1 : Nat) : Int)) ((ix s ((i + k + 1 : Nat) : Int)).bind fun ch_5 => (cond (ch_5 == 43) (some true) (pchk (I64 ((i + k : Nat) : Int)) (pchk (I64 ((i + k + 1 : Nat) : Int)) ((ix s ((i + k + 1 : Nat) : Int)).bind fun ch_6 => some (ch_6 == 45))))).bind fun b_5 => some b_5))) (some false)) = some (isPM ((s.drop (i + k + 1)).headD 0)) := by
          rcases drop_cases s (i + k + 1) with ⟨f1, f2⟩ | ⟨x, f1, f2, f3⟩
          · rw [iteF (ltF (by omega)), f1]; rfl
          · rw [iteT (ltT (by omega)), pk (by omega), pk (by omega), ix_of f3 rfl, Option.bind_some, pk (by omega), pk (by omega), f2]
            simp only [chkB, andB, orB, condAnd, condOr, iteB, neqB, nltB, nleB, m8_9, m8_10, m8_11, m8_12, m8_13, m8_32, m8_34, m8_35, m8_39, m8_40, m8_41, m8_42, m8_43, m8_44, m8_45, m8_46, m8_47, m8_48, m8_60, m8_62, m8_64, m8_65, m8_67, m8_69, m8_80, m8_90, m8_92, m8_95, m8_97, m8_101, m8_112, m8_122, m8, orO_some, andO_some, Option.bind_some, getD_drop]; rfl
        try simp only [chkB, andB, orB, condAnd, condOr, iteB, neqB, nltB, nleB, m8_9, m8_10, m8_11, m8_12, m8_13, m8_32, m8_34, m8_35, m8_39, m8_40, m8_41, m8_42, m8_43, m8_44, m8_45, m8_46, m8_47, m8_48, m8_60, m8_62, m8_64, m8_65, m8_67, m8_69, m8_80, m8_90, m8_92, m8_95, m8_97, m8_101, m8_112, m8_122, m8, orO_some, andO_some, Option.bind_some, getD_drop] at hsg
        try simp only [chkB, andB, orB, condAnd, condOr, iteB, neqB, nltB, nleB, m8_9, m8_10, m8_11, m8_12, m8_13, m8_32, m8_34, m8_35, m8_39, m8_40, m8_41, m8_42, m8_43, m8_44, m8_45, m8_46, m8_47, m8_48, m8_60, m8_62, m8_64, m8_65, m8_67, m8_69, m8_80, m8_90, m8_92, m8_95, m8_97, m8_101, m8_112, m8_122, m8, orO_some, andO_some, Option.bind_some, getD_drop]
        rw [hsg, Option.bind_some, h2, numTail_cons]
        have e4 : (d == 101 || d == 69 || d == 112 || d == 80) = isExp d := rfl
        rw [e4]
        by_cases h4 : (isExp d && isPM ((s.drop (i + k + 1)).headD 0)) = true
        · left
          have h5 : i + k + 1 < s.length := by
            rcases drop_cases s (i + k + 1) with ⟨g1, g2⟩ | ⟨d, g1, g2, g3⟩
            · rw [g1, show List.headD ([] : List UInt8) 0 = 0 from rfl, show isPM 0 = false by decide, Bool.and_false] at h4; cases h4
            · exact g1
          refine ⟨((k + 2 : Nat) : Int), ?_, ⟨k + 2, rfl, by omega⟩, ?_, ?_⟩
          · rw [iteT h4, pk (by omega)]; rfl
          · omega
          · rw [if_pos h4, List.drop_drop, Int.toNat_natCast, show i + (k + 2) = i + k + 1 + 1 by omega]
            push_cast; omega
        · rw [if_neg h4, iteF (by simpa using h4)]
          have e5 : (!isLetter d && !isDigit d && !(d == 46)) = !numCh d := by unfold numCh; rw [Bool.not_or, Bool.not_or]
          rw [e5]
          by_cases h6 : numCh d = true
          · left
            refine ⟨((k + 1 : Nat) : Int), ?_, ⟨k + 1, rfl, by omega⟩, ?_, ?_⟩
            · rw [iteF (by rw [h6]; rfl), pk (by omega)]; rfl
            · omega
            · rw [if_pos h6, Int.toNat_natCast, show i + (k + 1) = i + k + 1 by omega]
              push_cast; omega
          · right
            rw [if_neg h6, iteT (by rw [Bool.eq_false_iff.2 h6]; rfl)]
            simp)
    simp only [key, Option.bind_some, Int.toNat_one, emendref03_number_j1]
    push_cast; rfl
  · rw [iteT (by rw [Bool.eq_false_iff.2 hc]; rfl), iteF (Bool.eq_false_iff.2 hc)]; rfl
theorem rquoted_eq (s : List UInt8) (i : Nat) (q : UInt8) (hi : i < s.length) (hs : s.length ≤ 2000000) (hq : q ≠ 10) (hq2 : q ≠ 92) : emendref03_quoted s i q = some (quoLen q (s.drop i) : Int) := by
  unfold emendref03_quoted
  rcases drop_cases s i with ⟨h1, h2⟩ | ⟨c, h1, h2, h3⟩
  · omega
  simp only [ix_of h3 rfl, chkB, andB, orB, condAnd, condOr, iteB, neqB, nltB, nleB, m8_9, m8_10, m8_11, m8_12, m8_13, m8_32, m8_34, m8_35, m8_39, m8_40, m8_41, m8_42, m8_43, m8_44, m8_45, m8_46, m8_47, m8_48, m8_60, m8_62, m8_64, m8_65, m8_67, m8_69, m8_80, m8_90, m8_92, m8_95, m8_97, m8_101, m8_112, m8_122, m8, orO_some, andO_some, Option.bind_some, getD_drop]
  rw [h2]
  by_cases hc : c = q
  · rw [iteF (by rw [eqT hc]; rfl)]
    obtain ⟨T, hT2⟩ : ∃ T : Nat, T = (if q = 39 ∧ (s.drop (i + 1)).head? = some q then 0 else match quoTail q (s.drop (i + 1)) with | none => 0 | some n => n + 1) := ⟨_, rfl⟩
    have hT : quoLen q (c :: s.drop (i + 1)) = T := by rw [hT2]; simp only [quoLen, if_pos hc]; rfl
    rw [hT]
    obtain ⟨r, g1, g2⟩ := loopS_rel (f := emendref03_quoted_b2 s i q) (fun n => ∃ k : Nat, n = k ∧ 1 ≤ k ∧ i + k ≤ s.length + 1 ∧ T = (if k = 1 ∧ q = 39 ∧ (s.drop (i + 1)).head? = some q then 0 else match quoTail q (s.drop (i + k)) with | none => 0 | some n => n + k)) (fun n => s.length + 2 - n.toNat) (fun r => (match r with | .inl _ => 0 | .inr n => n) = (T : Int)) (s := (1 : Int)) ⟨1, rfl, Nat.le_refl _, by omega, by rw [hT2]; simp⟩ (by omega) (by
      rintro n ⟨k, rfl, hk, hk2, hv⟩
      unfold emendref03_quoted_b2
      have e0 : ((i : Int) + (k : Int)) = ((i + k : Nat) : Int) := rfl
      have e1 : ((k : Int) + 1) = ((k + 1 : Nat) : Int) := rfl
      have e3 : ((i : Int) + ((k + 1 : Nat) : Int)) = ((i + k + 1 : Nat) : Int) := by push_cast; omega
      have e4 : ((k + 1 : Nat) : Int) + 1 = ((k + 2 : Nat) : Int) := rfl
      simp only [e0, e1, e3, e4, chkB, andB, orB, condAnd, condOr, iteB, neqB, nltB, nleB, m8_9, m8_10, m8_11, m8_12, m8_13, m8_32, m8_34, m8_35, m8_39, m8_40, m8_41, m8_42, m8_43, m8_44, m8_45, m8_46, m8_47, m8_48, m8_60, m8_62, m8_64, m8_65, m8_67, m8_69, m8_80, m8_90, m8_92, m8_95, m8_97, m8_101, m8_112, m8_122, m8, orO_some, andO_some, Option.bind_some, getD_drop]
      rw [pk (by omega)]
      rcases drop_cases s (i + k) with ⟨h1, h2⟩ | ⟨d, h1, h2, h3⟩
      · right
        rw [iteF (ltF (by omega)), Option.bind_some, cond_false]
        refine ⟨_, rfl, ?_⟩
        rw [hv, h1, if_neg]
        · simp [quoTail]
        · rintro ⟨rfl, _, h4⟩; rw [h1] at h4; cases h4
      rw [iteT (ltT (by omega)), pk (by omega), ix_of h3 rfl, Option.bind_some, Option.bind_some]
      rw [h2, quoTail_cons q d] at hv
      by_cases hd10 : d = 10
      · right
        rw [iteF (by rw [eqT hd10]; rfl)]
        refine ⟨_, rfl, ?_⟩
        have hne : ¬ (k = 1 ∧ q = 39 ∧ (s.drop (i + 1)).head? = some q) := by
          rintro ⟨rfl, _, h5⟩
          rw [h2] at h5
          injection h5 with h5; rw [hd10] at h5; exact hq h5.symm
        rw [hv, if_neg hne, if_neg (fun h => hq (by rw [← h, hd10])), if_pos hd10]; rfl
      rw [iteT (by rw [eqF hd10]; rfl), pk (by omega), Option.bind_some]
      by_cases hd : d = q
      · right
        rw [iteT (eqT hd)]
        by_cases h4 : q = 39 ∧ k = 1
        · refine ⟨_, iteT (by rw [eqT h4.1, eqT (by omega)]; rfl), ?_⟩
          obtain ⟨h4, rfl⟩ := h4
          rw [hv, if_pos ⟨rfl, h4, by rw [h2, hd]; rfl⟩]; rfl
        · refine ⟨.inr ((k + 1 : Nat) : Int), ?_, ?_⟩
          · rw [iteF (by
              rcases Decidable.not_and_iff_or_not.1 h4 with h4 | h4
              · rw [eqF h4, Bool.and_false]
              · rw [eqF (a := (k : Int)) (by omega)]; rfl), pk (by omega)]
          · rw [hv, if_neg (fun h5 => h4 ⟨h5.2.1, h5.1⟩), if_pos hd]
            simp only; omega
      rw [iteF (eqF hd), pk (by omega), Option.bind_some]
      have hne : ¬ (k = 1 ∧ q = 39 ∧ (s.drop (i + 1)).head? = some q) := by
        rintro ⟨rfl, _, h5⟩
        rw [h2] at h5
        injection h5 with h5; exact hd h5
      rw [if_neg hne, if_neg hd, if_neg hd10] at hv
      by_cases hd92 : d = 92
      · rw [iteT (eqT hd92), pk (by omega), pk (by omega)]
        rw [if_pos hd92] at hv
        rcases drop_cases s (i + k + 1) with ⟨f1, f2⟩ | ⟨x, f1, f2, f3⟩
        · right
          rw [iteT (leT (by omega)), Option.bind_some, cond_true]
          refine ⟨_, rfl, ?_⟩
          rw [hv, f1, if_pos (.inl rfl)]; rfl
        · rw [iteF (leF (by omega)), pk (by omega), ix_of f3 rfl, Option.bind_some, Option.bind_some]
          rw [f2] at hv
          by_cases hx : x = 10
          · right
            refine ⟨_, iteT (eqT hx), ?_⟩
            rw [hv, if_pos (.inr (by rw [hx]; rfl))]; rfl
          · left
            refine ⟨((k + 2 : Nat) : Int), ?_, ⟨k + 2, by omega, by omega, by omega, ?_⟩, by omega⟩
            · rw [iteF (eqF hx), pk (by omega)]
            · rw [hv, if_neg (by simp [hx]), if_neg (by omega), show i + (k + 2) = i + k + 1 + 1 by omega]
              simp only [List.drop_succ_cons, List.drop_zero]
              cases quoTail q (s.drop (i + k + 1 + 1)) with
              | none => rfl
              | some m => show m + 2 + k = m + (k + 2); omega
      · left
        rw [if_neg hd92] at hv
        refine ⟨((k + 1 : Nat) : Int), ?_, ⟨k + 1, rfl, by omega, by omega, ?_⟩, by omega⟩
        · rw [iteF (eqF hd92), pk (by omega)]
        · rw [hv, if_neg (by omega), ← Nat.add_assoc]
          cases quoTail q (s.drop (i + k + 1)) with
          | none => rfl
          | some m => show m + 1 + k = m + (k + 1); omega)
    rw [g1, Option.bind_some]
    cases r with
    | inl u => simp only at g2; rw [← g2]; rfl
    | inr n => simp only at g2; rw [← g2]
  · rw [iteT (by rw [eqF hc]; rfl)]
    simp only [quoLen, if_neg hc]; rfl
end Go.Sh
