/-
  Is a text among others: as the library says. No program in sight.
-/
import Derived.Test.YtdbcklichbiihaaDoorAm
set_option linter.unusedVariables false
set_option linter.unusedSimpArgs false
namespace Go.Sh
open Go
theorem contains_eq (l : List (List UInt8)) (n : List UInt8) (h : l.length ≤ 2000000) : slices_Contains_Lstring_string l n = some (decide (n ∈ l)) := by
  unfold slices_Contains_Lstring_string slices_Index_Lstring_string
  obtain ⟨r, g1, g2⟩ := loopS_ix (f := slices_Index_Lstring_string_b2 l n) l.length (by omega) (fun k x => x = (k : Int) ∧ n ∉ l.take k) (fun r => (r = .inl () ∧ n ∉ l) ∨ ∃ k : Nat, r = .inr (k : Int) ∧ n ∈ l) (s0 := (0 : Int)) ⟨rfl, by simp⟩ (by
    rintro k x hk ⟨rfl, hn⟩
    unfold slices_Index_Lstring_string_b2
    rw [if_pos (decide_eq_true (by omega)), ix_at hk, Option.bind_some]
    by_cases e : n = l[k]
    · right
      rw [if_pos (decide_eq_true e)]
      exact ⟨_, rfl, .inr ⟨k, rfl, by rw [e]; exact List.getElem_mem hk⟩⟩
    · left
      rw [if_neg (by simpa using e), chkT (by omega)]
      refine ⟨_, rfl, by push_cast; rfl, fun hm => ?_⟩
      rw [List.take_add_one, List.getElem?_eq_getElem hk] at hm
      rcases List.mem_append.1 hm with hm | hm
      · exact hn hm
      · exact e (List.mem_singleton.1 hm)) (by
    rintro x ⟨rfl, hn⟩
    rw [List.take_length] at hn
    refine ⟨.inl (), ?_, .inl ⟨rfl, hn⟩⟩
    unfold slices_Index_Lstring_string_b2
    exact if_neg (by simp))
  rw [g1, Option.bind_some]
  rcases g2 with ⟨rfl, hn⟩ | ⟨k, rfl, hn⟩
  · rw [decide_eq_false hn]; rfl
  · rw [decide_eq_true hn]
    show some (decide ((0 : Int) ≤ (k : Int))) = some true
    rw [decide_eq_true (by omega)]
end Go.Sh
