/-
  PptokPlays, PptokOne in plain words. No program in sight.
-/
import Derived.Test.YtogbccggnjidpaaDoorA8
import Derived.Test.YtogbccggnjidpaaDoorA10
set_option linter.unusedVariables false
set_option linter.unusedSimpArgs false
namespace Go.Sh
open Go
theorem awake3 : emendlaw03_awake = some true := by kernel_rfl
theorem pptokPlays_law (file : Int) (t : List UInt8) : emendlaw03_PptokPlays file t = some true := by
  unfold emendlaw03_PptokPlays
  rw [awake3, Option.bind_some]
  by_cases hl : 2000 < t.length
  · rw [if_pos (decide_eq_true (by omega))]
  have h1 := tokens_len file t
  have h2 := tokens_room file t
  rw [if_neg (by rw [decide_eq_false (by omega)]; simp), tokens_eq file t (by omega), Option.bind_some, rtokens_eq file t (by omega), Option.bind_some, print_eq _ (by omega) (by omega), Option.bind_some, rsame_eq _ _ (by omega), rprint_eq _ (by omega) (by omega)]
  simp [andO]
theorem pptokOne_law (s : List UInt8) : emendlaw03_PptokOne s = some true := by
  unfold emendlaw03_PptokOne
  rw [awake3, Option.bind_some]
  by_cases hl : 500 < s.length
  · rw [if_pos (decide_eq_true (by omega))]
  rw [if_neg (by rw [decide_eq_false (by omega)]; simp)]
  unfold pptok_One emendref03_One
  rw [tokens_eq 0 s (by omega), rtokens_eq 0 s (by omega)]
  simp only [chkB, andB, orB, condAnd, condOr, iteB, neqB, nltB, nleB, m8_9, m8_10, m8_11, m8_12, m8_13, m8_32, m8_34, m8_35, m8_39, m8_40, m8_41, m8_42, m8_43, m8_44, m8_45, m8_46, m8_47, m8_48, m8_60, m8_62, m8_64, m8_65, m8_67, m8_69, m8_80, m8_90, m8_92, m8_95, m8_97, m8_101, m8_112, m8_122, m8, orO_some, andO_some, Option.bind_some, getD_drop]
  by_cases h1 : (tokens 0 s).length = 1
  · obtain ⟨t, ht⟩ := List.length_eq_one_iff.1 h1
    have hx : ix (tokens 0 s) 0 = some t := by rw [ht]; rfl
    have ha := one_alike s t ht
    simp only [hx, chkB, andB, orB, condAnd, condOr, iteB, neqB, nltB, nleB, m8_9, m8_10, m8_11, m8_12, m8_13, m8_32, m8_34, m8_35, m8_39, m8_40, m8_41, m8_42, m8_43, m8_44, m8_45, m8_46, m8_47, m8_48, m8_60, m8_62, m8_64, m8_65, m8_67, m8_69, m8_80, m8_90, m8_92, m8_95, m8_97, m8_101, m8_112, m8_122, m8, orO_some, andO_some, Option.bind_some, getD_drop]
    have e0 : (((tokens 0 s).length : Int) == 1) = true := eqT (by omega)
    simp only [e0, Bool.not_true, cond_false, Bool.false_or, Option.bind_some, condOr]
    by_cases h7 : t.kind = 7
    · simp [h7]
    by_cases hs : t.text = s
    · obtain ⟨g1, g2, g3, g4⟩ := ha.1 hs
      have k7 : (t.kind == 7) = false := eqF h7
      have ks := eqT hs
      simp [k7, ks, g1, g2, g3, g4]
    · have hng : ¬ (t.blank = false ∧ t.from_ = 0 ∧ t.to = s.length ∧ t.text.length = s.length) := fun h => hs (ha.2 h)
      have e1 : (((t.blank || !(t.from_ == 0)) || !(t.to == (s.length : Int))) || !((t.text.length : Int) == (s.length : Int))) = true := by
        apply eq_true_of_ne_false
        intro e
        simp only [Bool.or_eq_false_iff, Bool.not_eq_false', beq_iff_eq] at e
        exact hng ⟨e.1.1.1, e.1.1.2, e.1.2, by omega⟩
      have k7 : (t.kind == 7) = false := eqF h7
      have ks := eqF hs
      simp only [k7, ks, e1, Bool.false_or, Bool.not_false, Bool.or_true, cond_true, Option.bind_some]
      simp
  · have e0 : (((tokens 0 s).length : Int) == 1) = false := eqF (by omega)
    simp [e0]
end Go.Sh
