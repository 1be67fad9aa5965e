/-
  What is left of a text without pairs, told from the left. No program in sight.
-/
import Derived.Test.YtfocleohejljpaaDoorPt
import Derived.Lib.Strings
set_option linter.unusedVariables false
namespace Go.Sh
open Go
def charsAt : Nat → List UInt8 → List GChar
  | _, [] => []
  | i, [c] => [⟨c, i⟩]
  | i, c :: d :: r => if c = 92 ∧ d = 10 then charsAt (i + 2) r else ⟨c, i⟩ :: charsAt (i + 1) (d :: r)
theorem hasPrefix_pair (l : List UInt8) : Lib.hasPrefix l [92, 10] = true ↔ ∃ r, l = 92 :: 10 :: r := by
  unfold Lib.hasPrefix
  match l with
  | [] => simp
  | [c] => simp [List.isPrefixOf]
  | c :: d :: r =>
    constructor
    · intro h
      simp only [List.isPrefixOf, Bool.and_eq_true, beq_iff_eq] at h
      obtain ⟨rfl, rfl, _⟩ := h
      exact ⟨r, rfl⟩
    · rintro ⟨r', h⟩
      injection h with h1 h
      injection h with h2 h
      subst h1; subst h2
      rfl
theorem charsAt_pair {i : Nat} {text : List UInt8} (h : Lib.hasPrefix (text.drop i) [92, 10] = true) : i + 2 ≤ text.length ∧ charsAt i (text.drop i) = charsAt (i + 2) (text.drop (i + 2)) := by
  obtain ⟨r, hr⟩ := (hasPrefix_pair _).1 h
  have h1 : (text.drop i).length = r.length + 2 := by rw [hr]; rfl
  rw [List.length_drop] at h1
  have h2 : text.drop (i + 2) = r := by rw [← List.drop_drop, hr]; rfl
  exact ⟨by omega, by rw [h2, hr]; simp [charsAt]⟩
theorem charsAt_one {i : Nat} {text : List UInt8} (hlt : i < text.length) (h : Lib.hasPrefix (text.drop i) [92, 10] = false) : ∃ c, text[i]? = some c ∧ charsAt i (text.drop i) = ⟨c, i⟩ :: charsAt (i + 1) (text.drop (i + 1)) := by
  have hd : text.drop i = text[i] :: text.drop (i + 1) := List.drop_eq_getElem_cons hlt
  refine ⟨text[i], List.getElem?_eq_getElem hlt, ?_⟩
  rw [hd] at h ⊢
  generalize text[i] = c at *
  cases hr : text.drop (i + 1) with
  | nil => rfl
  | cons d r =>
    rw [hr] at h
    have : ¬ (c = 92 ∧ d = 10) := fun ⟨e1, e2⟩ => by
      subst e1; subst e2
      rw [(hasPrefix_pair _).2 ⟨r, rfl⟩] at h; cases h
    simp only [charsAt, if_neg this]
def chars (text : List UInt8) : Option (List GChar) := if text.length ≤ 9223372036854775807 then some (charsAt 0 text) else none
theorem chars_some {text : List UInt8} {l : List GChar} (h : chars text = some l) : text.length ≤ 9223372036854775807 ∧ l = charsAt 0 text := by
  unfold chars at h; split at h
  · rename_i hl; injection h with h; exact ⟨hl, h.symm⟩
  · cases h
end Go.Sh
