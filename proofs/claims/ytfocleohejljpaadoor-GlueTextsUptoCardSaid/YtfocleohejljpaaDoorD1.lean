/-
  GluePastes, GlueQuotes in plain words. No program in sight.
-/
import Derived.Test.YtfocleohejljpaaDoorA10
set_option linter.unusedVariables false
set_option linter.unusedSimpArgs false
namespace Go.Sh
open Go
theorem awake7 : emendlaw07_awake = some true := by kernel_rfl
theorem paste_eq (a b : GTok) (h : a.text.length + b.text.length ≤ 2000000) : glue_Paste a b = emendref07_Paste a b := by
  unfold glue_Paste emendref07_Paste
  rw [pone_eq _ (by rw [List.length_append]; exact h), rone_eq _ (by rw [List.length_append]; exact h)]
def pasteOf (a b : GTok) : GTok × Int := if (oneOf (a.text ++ b.text)).2 = true then (⟨(oneOf (a.text ++ b.text)).1.kind, (oneOf (a.text ++ b.text)).1.text, a.file_, a.from_, a.to, a.blank⟩, 0) else (zeroTok, 70)
theorem gpaste_eq (a b : GTok) (h : a.text.length + b.text.length ≤ 2000000) : glue_Paste a b = some (pasteOf a b) := by
  unfold glue_Paste pasteOf
  rw [chkT (by omega), pone_eq _ (by rw [List.length_append]; exact h), Option.bind_some]
  cases (oneOf (a.text ++ b.text)).2 <;> rfl
theorem gluePastes_law (a b : GTok) : emendlaw07_GluePastes a b = some true := by
  unfold emendlaw07_GluePastes
  simp only [awake7, chkB, andB, orB, condAnd, condOr, iteB, neqB, nltB, nleB, m8_9, m8_10, m8_11, m8_12, m8_13, m8_32, m8_34, m8_35, m8_39, m8_40, m8_41, m8_42, m8_43, m8_44, m8_45, m8_46, m8_47, m8_48, m8_60, m8_62, m8_64, m8_65, m8_67, m8_69, m8_80, m8_90, m8_92, m8_95, m8_97, m8_101, m8_112, m8_122, m8, orO_some, andO_some, Option.bind_some, getD_drop]
  by_cases hl : 300 < a.text.length ∨ 300 < b.text.length
  · rw [iteT]
    rcases hl with h | h
    · rw [ltT (by omega)]; rfl
    · rw [ltT (b := (b.text.length : Int)) (by omega), Bool.or_true]
  rw [iteF (by rw [ltF (by omega), ltF (by omega)]; rfl), ← paste_eq a b (by omega), gpaste_eq a b (by omega)]
  simp
/-! ### what a string's text says -/
/-- of what stands between the quotes -/
def unq : List UInt8 → Option (List UInt8)
  | [] => some []
  | [c] => if c = 34 ∨ c = 92 then none else some [c]
  | c :: d :: r => if c = 34 then none else if c = 92 then (unq r).map (d :: ·) else (unq (d :: r)).map (c :: ·)
theorem unq_cons (c : UInt8) (r : List UInt8) : unq (c :: r) = if c = 34 then none else if c = 92 then (match r with | [] => none | d :: r2 => (unq r2).map (d :: ·)) else (unq r).map (c :: ·) := by
  cases r with
  | nil =>
    simp only [unq]
    by_cases h1 : c = 34
    · rw [if_pos (.inl h1), if_pos h1]
    · by_cases h2 : c = 92
      · rw [if_pos (.inr h2), if_neg h1, if_pos h2]
      · rw [if_neg (by simp [h1, h2]), if_neg h1, if_neg h2]; rfl
  | cons d r => simp only [unq]
def unquote (s : List UInt8) : List UInt8 × Bool :=
  if 2 ≤ s.length ∧ s[0]? = some 34 ∧ s[s.length - 1]? = some 34 then (match unq ((s.drop 1).take (s.length - 2)) with | none => ([], false) | some l => (l, true)) else ([], false)
def unqR (out : List UInt8) (o : Option (List UInt8)) : Sum (List UInt8) (List UInt8 × Bool) := match o with | none => .inr ([], false) | some l => .inl (out ++ l)
theorem unqloop (m : List UInt8) (hm : m.length ≤ 2000000) : loopS glue_Unquote_b2 (m, []) = some (unqR [] (unq m)) := by
  refine loopS_of (f := glue_Unquote_b2) (fun x => x.1.length ≤ 2000000 ∧ x.2.length + x.1.length ≤ 2000000) (fun x => x.1.length) (fun x => unqR x.2 (unq x.1)) (s := (m, ([] : List UInt8))) ⟨hm, by simpa using hm⟩ (by simp only; omega) ?_
  rintro ⟨s, out⟩ ⟨h1, h2⟩
  simp only at h1 h2
  unfold glue_Unquote_b2
  simp only [chkB, andB, orB, condAnd, condOr, iteB, neqB, nltB, nleB, m8_9, m8_10, m8_11, m8_12, m8_13, m8_32, m8_34, m8_35, m8_39, m8_40, m8_41, m8_42, m8_43, m8_44, m8_45, m8_46, m8_47, m8_48, m8_60, m8_62, m8_64, m8_65, m8_67, m8_69, m8_80, m8_90, m8_92, m8_95, m8_97, m8_101, m8_112, m8_122, m8, orO_some, andO_some, Option.bind_some, getD_drop]
  cases s with
  | nil => right; rw [iteF (by rw [eqT rfl]; rfl)]; simp [unqR, unq]
  | cons c r =>
    have x0 : ix (c :: r) 0 = some c := rfl
    have hne : (!((c :: r) == ([] : List UInt8))) = true := rfl
    simp only [List.length_cons] at h1 h2
    rw [iteT (by rw [eqF (by simp)]; rfl), x0]
    simp only [Option.bind_some, unq_cons]
    by_cases hq : c = 34
    · right; rw [iteT (eqT hq), if_pos hq]; rfl
    rw [iteF (eqF hq), if_neg hq]
    by_cases hb : c = 92
    · rw [iteT (eqT hb), if_pos hb, pk (by simp only [List.length_cons]; omega)]
      cases r with
      | nil => right; rw [iteT (eqT (show List.drop (Int.toNat 1) [c] = [] from rfl))]; rfl
      | cons d r2 =>
        left
        refine ⟨(r2, out ++ [d]), ?_, ⟨by simp only [List.length_cons] at h1 ⊢; omega, by simp only [List.length_append, List.length_cons, List.length_nil] at h2 ⊢; omega⟩, by simp only [List.length_cons]; omega, ?_⟩
        · rw [iteF (eqF (by simp))]
          unfold glue_Unquote_j3
          show (ix (d :: r2) 0).bind _ = _
          rw [show ix (d :: r2) 0 = some d from rfl, Option.bind_some, chkT (by omega), chkT (by simp only [Int.toNat_one, List.drop_succ_cons, List.drop_zero, List.length_cons]; omega)]; rfl
        · simp only
          cases unq r2 with
          | none => rfl
          | some l => show Sum.inl (out ++ [d] ++ l) = Sum.inl (out ++ d :: l); simp
    · left
      refine ⟨(r, out ++ [c]), ?_, ⟨by simp only; omega, by simp only [List.length_append, List.length_cons, List.length_nil]; omega⟩, by simp only [List.length_cons]; omega, ?_⟩
      · rw [iteF (eqF hb)]
        unfold glue_Unquote_j3
        rw [x0, Option.bind_some, chkT (by omega), chkT (by simp only [List.length_cons]; omega)]; rfl
      · simp only
        rw [if_neg hb]
        cases unq r with
        | none => rfl
        | some l => show Sum.inl (out ++ [c] ++ l) = Sum.inl (out ++ c :: l); simp
theorem unquote_eq (s : List UInt8) (h : s.length ≤ 2000000) : glue_Unquote s = some (unquote s) := by
  unfold glue_Unquote unquote
  simp only [chkB, andB, orB, condAnd, condOr, iteB, neqB, nltB, nleB, m8_9, m8_10, m8_11, m8_12, m8_13, m8_32, m8_34, m8_35, m8_39, m8_40, m8_41, m8_42, m8_43, m8_44, m8_45, m8_46, m8_47, m8_48, m8_60, m8_62, m8_64, m8_65, m8_67, m8_69, m8_80, m8_90, m8_92, m8_95, m8_97, m8_101, m8_112, m8_122, m8, orO_some, andO_some, Option.bind_some, getD_drop]
  by_cases h2 : 2 ≤ s.length
  · have g0 : s[0]? = some s[0] := List.getElem?_eq_getElem (by omega)
    have g1 : s[s.length - 1]? = some s[s.length - 1] := List.getElem?_eq_getElem (by omega)
    rw [ltF (by omega), ix_of g0 (by omega), Option.bind_some, pk (by omega), ix_of g1 (by omega)]
    simp only [Option.bind_some, chkB, andB, orB, condAnd, condOr, iteB, neqB, nltB, nleB, m8_9, m8_10, m8_11, m8_12, m8_13, m8_32, m8_34, m8_35, m8_39, m8_40, m8_41, m8_42, m8_43, m8_44, m8_45, m8_46, m8_47, m8_48, m8_60, m8_62, m8_64, m8_65, m8_67, m8_69, m8_80, m8_90, m8_92, m8_95, m8_97, m8_101, m8_112, m8_122, m8, orO_some, andO_some, Option.bind_some, getD_drop, cond_false, Bool.false_or, g0, g1]
    by_cases hq : s[0] = 34 ∧ s[s.length - 1] = 34
    · rw [iteF (by rw [eqT hq.1, eqT hq.2]; rfl), pk (by omega), pk (by omega), if_pos ⟨h2, by rw [hq.1], by rw [hq.2]⟩]
      rw [show ((s.length : Int) - 1).toNat - (1 : Int).toNat = s.length - 2 by omega, Int.toNat_one, unqloop _ (by rw [List.length_take, List.length_drop]; omega), Option.bind_some]
      cases unq ((s.drop 1).take (s.length - 2)) <;> rfl
    · rw [if_neg (by rintro ⟨_, h3, h4⟩; injection h3 with h3; injection h4 with h4; exact hq ⟨h3, h4⟩), iteT]
      rcases Decidable.not_and_iff_or_not.1 hq with h | h
      · rw [eqF h]; rfl
      · rw [eqF h]; simp
  · rw [if_neg (fun h => h2 h.1), ltT (by omega)]
    simp only [cond_true, Option.bind_some, chkB, andB, orB, condAnd, condOr, iteB, neqB, nltB, nleB, m8_9, m8_10, m8_11, m8_12, m8_13, m8_32, m8_34, m8_35, m8_39, m8_40, m8_41, m8_42, m8_43, m8_44, m8_45, m8_46, m8_47, m8_48, m8_60, m8_62, m8_64, m8_65, m8_67, m8_69, m8_80, m8_90, m8_92, m8_95, m8_97, m8_101, m8_112, m8_122, m8, orO_some, andO_some, Option.bind_some, getD_drop]
theorem rj3 (s out : List UInt8) (k : Nat) (hk : k < s.length) (h : out.length ≤ s.length) (hm : s.length ≤ 2000000) : emendref07_Unquote_j3 s out (k : Int) = some (.next (out ++ [s[k]], ((k + 1 : Nat) : Int))) := by
  have ht1 : (s.drop k).take 1 = [s[k]] := by rw [List.drop_eq_getElem_cons hk]; rfl
  have e1 : ((k : Int) + 1) = ((k + 1 : Nat) : Int) := rfl
  unfold emendref07_Unquote_j3
  rw [e1, Int.toNat_natCast, Int.toNat_natCast, Nat.add_sub_cancel_left, ht1, chkT (by omega), chkT (by omega), chkT (by rw [List.length_singleton]; omega), chkT (by omega)]
theorem runqloop (s : List UInt8) (h2 : 2 ≤ s.length) (hm : s.length ≤ 2000000) : loopS (emendref07_Unquote_b2 s) ([], 1) = some (unqR [] (unq ((s.drop 1).take (s.length - 2)))) := by
  have key := loopS_of (f := emendref07_Unquote_b2 s) (fun x => ∃ k : Nat, x.2 = (k : Int) ∧ 1 ≤ k ∧ k ≤ s.length - 1 ∧ x.1.length ≤ k) (fun x => s.length - x.2.toNat) (fun x => unqR x.1 (unq ((s.drop x.2.toNat).take (s.length - 1 - x.2.toNat)))) (s := (([] : List UInt8), (1 : Int))) ⟨1, rfl, Nat.le_refl _, by omega, by simp⟩ (by simp only; omega) (by
    rintro ⟨out, i⟩ ⟨k, h1, hk1, hk2, ho⟩
    simp only at h1 ho; subst h1
    unfold emendref07_Unquote_b2
    have e1 : ((k : Int) + 1) = ((k + 1 : Nat) : Int) := rfl
    have e3 : ((s.length : Int) - 1) = ((s.length - 1 : Nat) : Int) := by omega
    simp only [chkB, andB, orB, condAnd, condOr, iteB, neqB, nltB, nleB, m8_9, m8_10, m8_11, m8_12, m8_13, m8_32, m8_34, m8_35, m8_39, m8_40, m8_41, m8_42, m8_43, m8_44, m8_45, m8_46, m8_47, m8_48, m8_60, m8_62, m8_64, m8_65, m8_67, m8_69, m8_80, m8_90, m8_92, m8_95, m8_97, m8_101, m8_112, m8_122, m8, orO_some, andO_some, Option.bind_some, getD_drop]
    simp only [e1, e3, Int.toNat_natCast]
    rw [pk (by omega)]
    by_cases hlt : k < s.length - 1
    · have g0 : s[k]? = some s[k] := List.getElem?_eq_getElem (by omega)
      have hd : (s.drop k).take (s.length - 1 - k) = s[k] :: (s.drop (k + 1)).take (s.length - 1 - (k + 1)) := by
        rw [List.drop_eq_getElem_cons (by omega), show s.length - 1 - k = (s.length - 1 - (k + 1)) + 1 by omega, List.take_succ_cons]
      rw [iteT (ltT (by omega)), ix_of g0 rfl]
      simp only [Option.bind_some, chkB, andB, orB, condAnd, condOr, iteB, neqB, nltB, nleB, m8_9, m8_10, m8_11, m8_12, m8_13, m8_32, m8_34, m8_35, m8_39, m8_40, m8_41, m8_42, m8_43, m8_44, m8_45, m8_46, m8_47, m8_48, m8_60, m8_62, m8_64, m8_65, m8_67, m8_69, m8_80, m8_90, m8_92, m8_95, m8_97, m8_101, m8_112, m8_122, m8, orO_some, andO_some, Option.bind_some, getD_drop, hd, unq_cons]
      rw [pk (by omega), pk (by omega)]
      simp only [Option.bind_some, chkB, andB, orB, condAnd, condOr, iteB, neqB, nltB, nleB, m8_9, m8_10, m8_11, m8_12, m8_13, m8_32, m8_34, m8_35, m8_39, m8_40, m8_41, m8_42, m8_43, m8_44, m8_45, m8_46, m8_47, m8_48, m8_60, m8_62, m8_64, m8_65, m8_67, m8_69, m8_80, m8_90, m8_92, m8_95, m8_97, m8_101, m8_112, m8_122, m8, orO_some, andO_some, Option.bind_some, getD_drop]
      by_cases hq : s[k] = 34
      · right
        rw [eqT hq, if_pos hq]
        simp only [Bool.true_or, cond_true, Option.bind_some, unqR]
      rw [eqF hq, if_neg hq]
      simp only [cond_false, Bool.false_or, Option.bind_some]
      by_cases hb : s[k] = 92
      · rw [eqT hb, if_pos hb]
        simp only [Bool.true_and, cond_true]
        by_cases he : k + 1 = s.length - 1
        · right
          rw [iteT (eqT (by omega)), show s.length - 1 - (k + 1) = 0 by omega, List.take_zero]
          simp only [Option.bind_some, cond_true, unqR]
        · left
          have g1 : s[k + 1]? = some s[k + 1] := List.getElem?_eq_getElem (by omega)
          have hd2 : (s.drop (k + 1)).take (s.length - 1 - (k + 1)) = s[k + 1] :: (s.drop (k + 2)).take (s.length - 1 - (k + 2)) := by
            rw [List.drop_eq_getElem_cons (by omega), show s.length - 1 - (k + 1) = (s.length - 1 - (k + 2)) + 1 by omega, List.take_succ_cons]
          have ht1 : (s.drop (k + 1)).take 1 = [s[k + 1]] := by rw [List.drop_eq_getElem_cons (by omega)]; rfl
          refine ⟨(out ++ [s[k + 1]], ((k + 2 : Nat) : Int)), ?_, ⟨k + 2, rfl, by omega, by omega, by simp only [List.length_append, List.length_cons, List.length_nil]; omega⟩, by simp only; omega, ?_⟩
          · rw [iteF (eqF (by omega)), pk (by omega)]
            exact rj3 s out (k + 1) (by omega) (by omega) hm
          · simp only [Int.toNat_natCast, hd2]
            cases unq ((s.drop (k + 2)).take (s.length - 1 - (k + 2))) with
            | none => rfl
            | some l => show Sum.inl (out ++ [s[k + 1]] ++ l) = Sum.inl (out ++ s[k + 1] :: l); simp
      · left
        have ht1 : (s.drop k).take 1 = [s[k]] := by rw [List.drop_eq_getElem_cons (by omega)]; rfl
        rw [eqF hb, if_neg hb]
        refine ⟨(out ++ [s[k]], ((k + 1 : Nat) : Int)), ?_, ⟨k + 1, rfl, by omega, by omega, by simp only [List.length_append, List.length_cons, List.length_nil]; omega⟩, by simp only; omega, ?_⟩
        · rw [iteF (by rfl), iteF rfl]
          exact rj3 s out k (by omega) (by omega) hm
        · simp only [Int.toNat_natCast]
          cases unq ((s.drop (k + 1)).take (s.length - 1 - (k + 1))) with
          | none => rfl
          | some l => show Sum.inl (out ++ [s[k]] ++ l) = Sum.inl (out ++ s[k] :: l); simp
    · right
      rw [iteF (ltF (by omega)), show s.length - 1 - k = 0 by omega]
      simp [unq, unqR])
  rw [key]
  simp only [Int.toNat_one]
  rw [show s.length - 1 - 1 = s.length - 2 by omega]
theorem runquote_eq (s : List UInt8) (h : s.length ≤ 2000000) : emendref07_Unquote s = some (unquote s) := by
  unfold emendref07_Unquote unquote
  simp only [chkB, andB, orB, condAnd, condOr, iteB, neqB, nltB, nleB, m8_9, m8_10, m8_11, m8_12, m8_13, m8_32, m8_34, m8_35, m8_39, m8_40, m8_41, m8_42, m8_43, m8_44, m8_45, m8_46, m8_47, m8_48, m8_60, m8_62, m8_64, m8_65, m8_67, m8_69, m8_80, m8_90, m8_92, m8_95, m8_97, m8_101, m8_112, m8_122, m8, orO_some, andO_some, Option.bind_some, getD_drop]
  by_cases h2 : 2 ≤ s.length
  · have g0 : s[0]? = some s[0] := List.getElem?_eq_getElem (by omega)
    have g1 : s[s.length - 1]? = some s[s.length - 1] := List.getElem?_eq_getElem (by omega)
    rw [ltF (by omega), ix_of g0 (by omega), Option.bind_some, pk (by omega), ix_of g1 (by omega)]
    simp only [Option.bind_some, chkB, andB, orB, condAnd, condOr, iteB, neqB, nltB, nleB, m8_9, m8_10, m8_11, m8_12, m8_13, m8_32, m8_34, m8_35, m8_39, m8_40, m8_41, m8_42, m8_43, m8_44, m8_45, m8_46, m8_47, m8_48, m8_60, m8_62, m8_64, m8_65, m8_67, m8_69, m8_80, m8_90, m8_92, m8_95, m8_97, m8_101, m8_112, m8_122, m8, orO_some, andO_some, Option.bind_some, getD_drop, cond_false, Bool.false_or, g0, g1]
    by_cases hq : s[0] = 34 ∧ s[s.length - 1] = 34
    · rw [iteF (by rw [eqT hq.1, eqT hq.2]; rfl), if_pos ⟨h2, by rw [hq.1], by rw [hq.2]⟩]
      rw [runqloop s h2 h, Option.bind_some]
      cases unq ((s.drop 1).take (s.length - 2)) <;> rfl
    · rw [if_neg (by rintro ⟨_, h3, h4⟩; injection h3 with h3; injection h4 with h4; exact hq ⟨h3, h4⟩), iteT]
      rcases Decidable.not_and_iff_or_not.1 hq with h | h
      · rw [eqF h]; rfl
      · rw [eqF h]; simp
  · rw [if_neg (fun h => h2 h.1), ltT (by omega)]
    simp only [cond_true, Option.bind_some, chkB, andB, orB, condAnd, condOr, iteB, neqB, nltB, nleB, m8_9, m8_10, m8_11, m8_12, m8_13, m8_32, m8_34, m8_35, m8_39, m8_40, m8_41, m8_42, m8_43, m8_44, m8_45, m8_46, m8_47, m8_48, m8_60, m8_62, m8_64, m8_65, m8_67, m8_69, m8_80, m8_90, m8_92, m8_95, m8_97, m8_101, m8_112, m8_122, m8, orO_some, andO_some, Option.bind_some, getD_drop]
theorem glueQuotes_law (s : List UInt8) : emendlaw07_GlueQuotes s = some true := by
  unfold emendlaw07_GlueQuotes
  rw [awake7, Option.bind_some]
  by_cases hl : 1000 < s.length
  · rw [if_pos (decide_eq_true (by omega))]
  rw [if_neg (by rw [decide_eq_false (by omega)]; simp), unquote_eq s (by omega), Option.bind_some, runquote_eq s (by omega)]
  simp [andO]
end Go.Sh
