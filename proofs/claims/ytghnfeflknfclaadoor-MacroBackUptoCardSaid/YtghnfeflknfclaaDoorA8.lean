/-
  Lists of tokens that are alike; how they are printed: by the code. No program in sight.
-/
import Derived.Test.YtghnfeflknfclaaDoorA7s
set_option linter.unusedVariables false
set_option linter.unusedSimpArgs false
namespace Go.Sh
open Go
theorem ralike_eq (a b : List GTok) (h : a.length ≤ 9223372036854775806) : emendref03_Alike a b = some (decide (a.map tk = b.map tk)) := by
  unfold emendref03_Alike
  by_cases hl : a.length = b.length
  · rw [if_neg (by simp [hl])]
    rw [loopS_same (f := emendref03_Alike_b2 a b) a b tk false h hl (fun k hk hk2 => by
      unfold emendref03_Alike_b2
      simp only [chkB, andB, orB, condAnd, condOr, iteB, neqB, nltB, nleB, m8_9, m8_10, m8_11, m8_12, m8_13, m8_32, m8_34, m8_35, m8_39, m8_40, m8_41, m8_42, m8_43, m8_44, m8_45, m8_46, m8_47, m8_48, m8_60, m8_62, m8_64, m8_65, m8_67, m8_69, m8_80, m8_90, m8_92, m8_95, m8_97, m8_101, m8_112, m8_122, m8, orO_some, andO_some, Option.bind_some, getD_drop, ix_at hk, ix_at hk2]
      rw [iteT (ltT (by omega))]
      by_cases hp : tk a[k] = tk b[k]
      · have hp2 := hp
        simp only [tk, Prod.mk.injEq] at hp2
        rw [iteF (by rw [eqT hp2.1, eqT hp2.2.1, hp2.2.2]; simp), pk (by omega), if_pos hp]; rfl
      · rw [if_neg hp]
        apply iteT
        apply eq_true_of_ne_false
        intro e
        simp only [Bool.or_eq_false_iff, Bool.not_eq_false', beq_iff_eq] at e
        exact hp (by simp only [tk, e.1.1, e.1.2, e.2])) (by
      unfold emendref03_Alike_b2
      rw [if_neg (by simp)]), Option.bind_some]
    by_cases e : a.map tk = b.map tk
    · rw [if_pos e, decide_eq_true e]; rfl
    · rw [if_neg e, decide_eq_false e]
  · rw [if_pos (by simp; omega), decide_eq_false (fun e => hl (by simpa using congrArg List.length e))]

theorem printT_take (l : List GTok) (k : Nat) (h : k < l.length) : printT (l.take (k + 1)) = printT (l.take k) ++ printOne l[k] := by
  unfold printT
  rw [List.take_add_one, List.getElem?_eq_getElem h, List.flatMap_append]; simp
theorem printT_le (l : List GTok) (k : Nat) : (printT (l.take k)).length ≤ (printT l).length := by
  have : printT l = printT (l.take k) ++ printT (l.drop k) := by unfold printT; rw [← List.flatMap_append, List.take_append_drop]
  rw [this, List.length_append]; omega
theorem print_eq (l : List GTok) (h : l.length ≤ 2000000) (h2 : (printT l).length ≤ 2000000) : pptok_Print l = some (printT l) := by
  unfold pptok_Print
  obtain ⟨r, h1, rfl⟩ := loopS_ix (f := pptok_Print_b2 l) l.length (by omega) (fun k x => x.1 = k ∧ x.2 = printT (l.take k)) (fun r => r = printT l) (s0 := ((0 : Int), ([] : List UInt8))) ⟨rfl, rfl⟩ (by
    rintro k ⟨i, out⟩ hk ⟨e1, e2⟩
    simp only at e1 e2; subst e1; subst e2
    left
    have h3 := printT_le l (k + 1)
    rw [printT_take l k hk, List.length_append] at h3
    refine ⟨((k : Int) + 1, printT (l.take (k + 1))), ?_, rfl, rfl⟩
    unfold pptok_Print_b2
    simp only [chkB, andB, orB, condAnd, condOr, iteB, neqB, nltB, nleB, m8_9, m8_10, m8_11, m8_12, m8_13, m8_32, m8_34, m8_35, m8_39, m8_40, m8_41, m8_42, m8_43, m8_44, m8_45, m8_46, m8_47, m8_48, m8_60, m8_62, m8_64, m8_65, m8_67, m8_69, m8_80, m8_90, m8_92, m8_95, m8_97, m8_101, m8_112, m8_122, m8, orO_some, andO_some, Option.bind_some, getD_drop, ix_at hk]
    rw [iteT (ltT (by omega)), printT_take l k hk]
    by_cases hb : l[k].blank = true
    · rw [show printOne l[k] = [32] ++ l[k].text by unfold printOne; rw [if_pos hb]] at *
      simp only [List.length_append, List.length_cons, List.length_nil] at h3
      rw [iteT hb, pk (by omega), pk (by simp only [List.length_append, List.length_cons, List.length_nil]; omega), pk (by omega), List.append_assoc]
    · rw [show printOne l[k] = l[k].text by unfold printOne; rw [if_neg hb]; rfl] at *
      rw [iteF (Bool.eq_false_iff.2 hb), pk (by omega), pk (by omega)]) (by
    rintro ⟨i, out⟩ ⟨e1, e2⟩
    simp only at e1 e2; subst e1; subst e2
    refine ⟨printT l, ?_, rfl⟩
    unfold pptok_Print_b2
    simp only
    rw [if_neg (by simp), List.take_length])
  rw [h1]; rfl
theorem rprint_eq (l : List GTok) (h : l.length ≤ 2000000) (h2 : (printT l).length ≤ 2000000) : emendref03_Print l = some (printT l) := by
  unfold emendref03_Print
  obtain ⟨r, h1, rfl⟩ := loopS_ix (f := emendref03_Print_b2 l) l.length (by omega) (fun k x => x.2 = k ∧ x.1 = printT (l.take k)) (fun r => r = printT l) (s0 := (([] : List UInt8), (0 : Int))) ⟨rfl, rfl⟩ (by
    rintro k ⟨out, i⟩ hk ⟨e1, e2⟩
    simp only at e1 e2; subst e1; subst e2
    left
    have h3 := printT_le l (k + 1)
    rw [printT_take l k hk, List.length_append] at h3
    refine ⟨(printT (l.take (k + 1)), (k : Int) + 1), ?_, rfl, rfl⟩
    unfold emendref03_Print_b2 emendref03_Print_j3
    simp only [chkB, andB, orB, condAnd, condOr, iteB, neqB, nltB, nleB, m8_9, m8_10, m8_11, m8_12, m8_13, m8_32, m8_34, m8_35, m8_39, m8_40, m8_41, m8_42, m8_43, m8_44, m8_45, m8_46, m8_47, m8_48, m8_60, m8_62, m8_64, m8_65, m8_67, m8_69, m8_80, m8_90, m8_92, m8_95, m8_97, m8_101, m8_112, m8_122, m8, orO_some, andO_some, Option.bind_some, getD_drop, ix_at hk]
    rw [iteT (ltT (by omega)), printT_take l k hk]
    by_cases hb : l[k].blank = true
    · rw [show printOne l[k] = [32] ++ l[k].text by unfold printOne; rw [if_pos hb]] at *
      simp only [List.length_append, List.length_cons, List.length_nil] at h3
      rw [iteT hb, pk (by simp only [List.length_cons, List.length_nil]; omega), pk (by simp only [List.length_append, List.length_cons, List.length_nil]; omega), pk (by omega), List.append_assoc]
    · rw [show printOne l[k] = l[k].text by unfold printOne; rw [if_neg hb]; rfl] at *
      rw [iteF (Bool.eq_false_iff.2 hb), pk (by omega), pk (by omega)]) (by
    rintro ⟨out, i⟩ ⟨e1, e2⟩
    simp only at e1 e2; subst e1; subst e2
    refine ⟨printT l, ?_, rfl⟩
    unfold emendref03_Print_b2
    simp only
    rw [if_neg (by simp), List.take_length])
  rw [h1]; rfl

end Go.Sh
