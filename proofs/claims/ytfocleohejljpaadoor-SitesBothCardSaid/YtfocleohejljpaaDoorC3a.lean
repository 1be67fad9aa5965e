/-
  DirectCovers in plain words. No program in sight.
-/
import Derived.Test.YtfocleohejljpaaDoorC1a
set_option linter.unusedVariables false
set_option linter.unusedSimpArgs false
namespace Go.Sh
open Go
/-- the first piece: up to the first Newline, or to the end -/
theorem pieces_head : ∀ (u : List GTok) (f i : Nat), f ≤ i → (u = [] ∧ piecesF f i u = if f < i then [((f : Int), (i : Int))] else []) ∨ (u ≠ [] ∧ ∃ m : Nat, m ≤ u.length ∧ (∀ j, j < m → ∃ t, u[j]? = some t ∧ t.kind ≠ 7) ∧ ((m = u.length ∧ piecesF f i u = [((f : Int), ((i + m : Nat) : Int))]) ∨ (∃ t, u[m]? = some t ∧ t.kind = 7 ∧ piecesF f i u = ((f : Int), ((i + m : Nat) : Int)) :: piecesF (i + m + 1) (i + m + 1) (u.drop (m + 1)))))
  | [], f, i, h => .inl ⟨rfl, rfl⟩
  | t :: r, f, i, h => by
    right
    refine ⟨by simp, ?_⟩
    by_cases h7 : t.kind = 7
    · refine ⟨0, Nat.zero_le _, fun j hj => absurd hj (Nat.not_lt_zero _), .inr ⟨t, rfl, h7, ?_⟩⟩
      simp only [piecesF, if_pos h7]; rfl
    · have e : piecesF f i (t :: r) = piecesF f (i + 1) r := if_neg h7
      rcases pieces_head r f (i + 1) (by omega) with ⟨h1, h2⟩ | ⟨h1, m, h2, h3, h4⟩
      · subst h1
        refine ⟨1, by simp, fun j hj => ⟨t, by rw [show j = 0 by omega]; rfl, h7⟩, .inl ⟨rfl, ?_⟩⟩
        rw [e, h2, if_pos (by omega)]
      · refine ⟨m + 1, by simp only [List.length_cons]; omega, fun j hj => ?_, ?_⟩
        · cases j with
          | zero => exact ⟨t, rfl, h7⟩
          | succ j =>
            obtain ⟨x, hx, hx2⟩ := h3 j (by omega)
            exact ⟨x, by rw [List.getElem?_cons_succ]; exact hx, hx2⟩
        · rcases h4 with ⟨h5, h6⟩ | ⟨x, h5, h6, h7'⟩
          · left; exact ⟨by rw [List.length_cons, h5], by rw [e, h6, show i + 1 + m = i + (m + 1) by omega]⟩
          · right; exact ⟨x, by rw [List.getElem?_cons_succ]; exact h5, h6, by rw [e, h7', show i + 1 + m = i + (m + 1) by omega]; rfl⟩
theorem lineOf_n (l : List GTok) (a : Int) : (lineOf l a).n = (l.length : Int) ∧ (lineOf l a).first = a ∧ ∃ k, k ≤ l.length ∧ (lineOf l a).toks = l.drop k := by
  unfold lineOf
  match l with
  | [] => exact ⟨rfl, rfl, 0, Nat.le_refl _, rfl⟩
  | [t] =>
    simp only; split
    · exact ⟨rfl, rfl, 1, Nat.le_refl _, rfl⟩
    · exact ⟨rfl, rfl, 0, Nat.zero_le _, rfl⟩
  | t :: u :: r =>
    simp only; split
    · split
      · exact ⟨rfl, rfl, 2, by simp, rfl⟩
      · exact ⟨rfl, rfl, 1, by simp, rfl⟩
    · exact ⟨rfl, rfl, 0, Nat.zero_le _, rfl⟩
end Go.Sh
