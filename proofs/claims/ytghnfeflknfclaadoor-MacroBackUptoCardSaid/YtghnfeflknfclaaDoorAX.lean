/-
  The one token that a text is: by the program and by the document. No program in sight.
-/
import Derived.Test.YtghnfeflknfclaaDoorAm
set_option linter.unusedVariables false
set_option linter.unusedSimpArgs false
namespace Go.Sh
open Go
theorem one_alike (s : List UInt8) (t : GTok) (h : tokens 0 s = [t]) : (t.text = s) ↔ (t.blank = false ∧ t.from_ = 0 ∧ t.to = s.length ∧ t.text.length = s.length) := by
  unfold tokens at h
  obtain ⟨u, hu⟩ : ∃ u, u = (charsAt 0 s).map GChar.b := ⟨_, rfl⟩
  have hul : u.length = (charsAt 0 s).length := by rw [hu, List.length_map]
  have hcl := charsAt_len s 0
  rw [← hu] at h
  obtain ⟨p, hp, rfl⟩ := List.map_eq_singleton_iff.1 h
  obtain ⟨k, m, h1, h2, h3, h4, h5, h6, h7, h8, h9, h10⟩ := toks_head _ 0 false u p [] (Nat.le_refl _) hp
  have hlen : (tokOf 0 (charsAt 0 s) p).text.length = m := by
    simp only [tokOf]; rw [h5, List.length_take, List.length_drop]; omega
  have key : (tokOf 0 (charsAt 0 s) p).text.length = s.length → (tokOf 0 (charsAt 0 s) p).text = s ∧ (tokOf 0 (charsAt 0 s) p).blank = false ∧ (tokOf 0 (charsAt 0 s) p).from_ = 0 ∧ (tokOf 0 (charsAt 0 s) p).to = s.length := by
    intro hl
    rw [hlen] at hl
    have hk : k = 0 := by omega
    subst hk
    obtain ⟨f1, f2⟩ := charsAt_full s 0 (by omega)
    simp only [tokOf]
    refine ⟨?_, h8 rfl, ?_, ?_⟩
    · rw [h5, List.drop_zero, List.take_of_length_le (by omega), hu, f1]
    · rw [h1, f2 _ (by omega)]; rfl
    · rw [h2, f2 _ (by omega)]; omega
  constructor
  · intro e
    have := key (by rw [e])
    exact ⟨this.2.1, this.2.2.1, this.2.2.2, by rw [e]⟩
  · rintro ⟨_, _, _, h⟩
    exact (key h).1
def zeroTok : GTok := ⟨0, [], 0, 0, 0, false⟩
def oneOf (s : List UInt8) : GTok × Bool :=
  match tokens 0 s with
  | [t] => if t.kind = 7 ∨ t.text ≠ s then (zeroTok, false) else (t, true)
  | _ => (zeroTok, false)
theorem oneOf_one {s : List UInt8} {t : GTok} (h : tokens 0 s = [t]) : oneOf s = if t.kind = 7 ∨ t.text ≠ s then (zeroTok, false) else (t, true) := by unfold oneOf; rw [h]
theorem oneOf_other {s : List UInt8} (h : (tokens 0 s).length ≠ 1) : oneOf s = (zeroTok, false) := by
  unfold oneOf
  match hm : tokens 0 s with
  | [] => rfl
  | [t] => rw [hm] at h; exact absurd rfl h
  | t :: u :: r => rfl
theorem pone_eq (s : List UInt8) (h : s.length ≤ 2000000) : pptok_One s = some (oneOf s) := by
  unfold pptok_One
  simp only [tokens_eq 0 s h, chkB, andB, orB, condAnd, condOr, iteB, neqB, nltB, nleB, m8_9, m8_10, m8_11, m8_12, m8_13, m8_32, m8_34, m8_35, m8_39, m8_40, m8_41, m8_42, m8_43, m8_44, m8_45, m8_46, m8_47, m8_48, m8_60, m8_62, m8_64, m8_65, m8_67, m8_69, m8_80, m8_90, m8_92, m8_95, m8_97, m8_101, m8_112, m8_122, m8, orO_some, andO_some, Option.bind_some, getD_drop]
  by_cases h1 : (tokens 0 s).length = 1
  · obtain ⟨t, ht⟩ := List.length_eq_one_iff.1 h1
    have hx : ix (tokens 0 s) 0 = some t := by rw [ht]; rfl
    simp only [hx, chkB, andB, orB, condAnd, condOr, iteB, neqB, nltB, nleB, m8_9, m8_10, m8_11, m8_12, m8_13, m8_32, m8_34, m8_35, m8_39, m8_40, m8_41, m8_42, m8_43, m8_44, m8_45, m8_46, m8_47, m8_48, m8_60, m8_62, m8_64, m8_65, m8_67, m8_69, m8_80, m8_90, m8_92, m8_95, m8_97, m8_101, m8_112, m8_122, m8, orO_some, andO_some, Option.bind_some, getD_drop]
    have e0 : (((tokens 0 s).length : Int) == 1) = true := eqT (by omega)
    simp only [e0, Bool.not_true, cond_false, Bool.false_or, Option.bind_some, condOr]
    rw [oneOf_one ht]
    by_cases h7 : t.kind = 7 ∨ t.text ≠ s
    · rw [if_pos h7, iteT]
      · rfl
      · rcases h7 with h | h
        · rw [eqT h]; rfl
        · rw [eqF h]; simp
    · have h8 := not_or.1 h7
      rw [if_neg h7, iteF (by rw [eqF h8.1, eqT (Decidable.not_not.1 h8.2)]; rfl)]
  · have e0 : (((tokens 0 s).length : Int) == 1) = false := eqF (by omega)
    rw [oneOf_other h1]
    simp only [e0, Bool.not_false, cond_true, Option.bind_some, chkB, andB, orB, condAnd, condOr, iteB, neqB, nltB, nleB, m8_9, m8_10, m8_11, m8_12, m8_13, m8_32, m8_34, m8_35, m8_39, m8_40, m8_41, m8_42, m8_43, m8_44, m8_45, m8_46, m8_47, m8_48, m8_60, m8_62, m8_64, m8_65, m8_67, m8_69, m8_80, m8_90, m8_92, m8_95, m8_97, m8_101, m8_112, m8_122, m8, orO_some, andO_some, Option.bind_some, getD_drop, Bool.true_or]; rfl
end Go.Sh
