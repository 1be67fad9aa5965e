/-
  The signs of three, two and one byte.
-/
import Derived.Test.YtffgaoehhmgbjaaDoorSh
import Derived.Lib.Strings
import Derived.Lib.IndexMore
import Derived.Lib.Repeat
import Derived.Lib.Replace
import Derived.Test.YtffgaoehhmgbjaaDoorPt
import Derived.Lib.Join
namespace Go.Sh
def signs : List (List UInt8) := [[46, 46, 46], [60, 60, 61], [62, 62, 61], [45, 62], [43, 43], [45, 45], [60, 60], [62, 62], [60, 61], [62, 61], [61, 61], [33, 61], [38, 38], [124, 124], [42, 61], [47, 61], [37, 61], [43, 61], [45, 61], [38, 61], [94, 61], [124, 61], [35, 35], [91], [93], [40], [41], [123], [125], [46], [38], [42], [43], [45], [126], [33], [47], [37], [60], [62], [94], [124], [63], [58], [59], [61], [44], [35]]
/-- the directives' words, from if on -/
def words : List (List UInt8) := [[105, 102], [105, 102, 100, 101, 102], [105, 102, 110, 100, 101, 102], [101, 108, 105, 102], [101, 108, 115, 101], [101, 110, 100, 105, 102], [100, 101, 102, 105, 110, 101], [117, 110, 100, 101, 102], [105, 110, 99, 108, 117, 100, 101], [101, 114, 114, 111, 114], [112, 114, 97, 103, 109, 97], [108, 105, 110, 101]]
/-- the keywords -/
def keywords : List (List UInt8) := [[97, 117, 116, 111], [98, 114, 101, 97, 107], [99, 97, 115, 101], [99, 104, 97, 114], [99, 111, 110, 115, 116], [99, 111, 110, 116, 105, 110, 117, 101], [100, 101, 102, 97, 117, 108, 116], [100, 111], [100, 111, 117, 98, 108, 101], [101, 108, 115, 101], [101, 110, 117, 109], [101, 120, 116, 101, 114, 110], [102, 108, 111, 97, 116], [102, 111, 114], [103, 111, 116, 111], [105, 102], [105, 110, 108, 105, 110, 101], [105, 110, 116], [108, 111, 110, 103], [114, 101, 103, 105, 115, 116, 101, 114], [114, 101, 116, 117, 114, 110], [115, 104, 111, 114, 116], [115, 105, 103, 110, 101, 100], [115, 105, 122, 101, 111, 102], [115, 116, 97, 116, 105, 99], [115, 116, 114, 117, 99, 116], [115, 119, 105, 116, 99, 104], [116, 121, 112, 101, 100, 101, 102], [117, 110, 105, 111, 110], [117, 110, 115, 105, 103, 110, 101, 100], [118, 111, 105, 100], [118, 111, 108, 97, 116, 105, 108, 101], [119, 104, 105, 108, 101]]
end Go.Sh


set_option linter.unusedVariables false
namespace Go.Sh
open Go
def charsAt : Nat → List UInt8 → List GChar
  | _, [] => []
  | i, [c] => [⟨c, i⟩]
  | i, c :: d :: r => if c = 92 ∧ d = 10 then charsAt (i + 2) r else ⟨c, i⟩ :: charsAt (i + 1) (d :: r)
theorem hasPrefix_pair (l : List UInt8) : Lib.hasPrefix l [92, 10] = true ↔ ∃ r, l = 92 :: 10 :: r := by
  unfold Lib.hasPrefix
  match l with
  | [] => simp
  | [c] => simp [List.isPrefixOf]
  | c :: d :: r =>
    constructor
    · intro h
      simp only [List.isPrefixOf, Bool.and_eq_true, beq_iff_eq] at h
      obtain ⟨rfl, rfl, _⟩ := h
      exact ⟨r, rfl⟩
    · rintro ⟨r', h⟩
      injection h with h1 h
      injection h with h2 h
      subst h1; subst h2
      rfl
theorem charsAt_pair {i : Nat} {text : List UInt8} (h : Lib.hasPrefix (text.drop i) [92, 10] = true) : i + 2 ≤ text.length ∧ charsAt i (text.drop i) = charsAt (i + 2) (text.drop (i + 2)) := by
  obtain ⟨r, hr⟩ := (hasPrefix_pair _).1 h
  have h1 : (text.drop i).length = r.length + 2 := by rw [hr]; rfl
  rw [List.length_drop] at h1
  have h2 : text.drop (i + 2) = r := by rw [← List.drop_drop, hr]; rfl
  exact ⟨by omega, by rw [h2, hr]; simp [charsAt]⟩
theorem charsAt_one {i : Nat} {text : List UInt8} (hlt : i < text.length) (h : Lib.hasPrefix (text.drop i) [92, 10] = false) : ∃ c, text[i]? = some c ∧ charsAt i (text.drop i) = ⟨c, i⟩ :: charsAt (i + 1) (text.drop (i + 1)) := by
  have hd : text.drop i = text[i] :: text.drop (i + 1) := List.drop_eq_getElem_cons hlt
  refine ⟨text[i], List.getElem?_eq_getElem hlt, ?_⟩
  rw [hd] at h ⊢
  generalize text[i] = c at *
  cases hr : text.drop (i + 1) with
  | nil => rfl
  | cons d r =>
    rw [hr] at h
    have : ¬ (c = 92 ∧ d = 10) := fun ⟨e1, e2⟩ => by
      subst e1; subst e2
      rw [(hasPrefix_pair _).2 ⟨r, rfl⟩] at h; cases h
    simp only [charsAt, if_neg this]
def chars (text : List UInt8) : Option (List GChar) := if text.length ≤ 9223372036854775807 then some (charsAt 0 text) else none
theorem chars_some {text : List UInt8} {l : List GChar} (h : chars text = some l) : text.length ≤ 9223372036854775807 ∧ l = charsAt 0 text := by
  unfold chars at h; split at h
  · rename_i hl; injection h with h; exact ⟨hl, h.symm⟩
  · cases h
end Go.Sh

set_option linter.unusedVariables false
namespace Go.Sh
/-- f: where the piece begins; i: the place of the first token of l -/
def piecesF : Nat → Nat → List GTok → List (Int × Int)
  | f, i, [] => if f < i then [((f : Int), (i : Int))] else []
  | f, i, t :: r => if t.kind = 7 then ((f : Int), (i : Int)) :: piecesF (i + 1) (i + 1) r else piecesF f (i + 1) r
def pieces (l : List GTok) : Option (List (Int × Int)) := if l.length ≤ 9223372036854775806 then some (piecesF 0 0 l) else none
theorem pieces_some {l : List GTok} {ps : List (Int × Int)} (h : pieces l = some ps) : l.length ≤ 9223372036854775806 ∧ ps = piecesF 0 0 l := by
  unfold pieces at h; split at h
  · rename_i hl; injection h with h; exact ⟨hl, h.symm⟩
  · cases h
end Go.Sh

namespace Go.Sh
/-- what may be a panic -/
def orP {ε α β : Type} : Sum ε α → (ε → β) → (α → β) → β
  | .inl e, a, _ => a e
  | .inr x, _, b => b x
theorem orP_inl {ε α β : Type} {e : ε} {a : ε → Option β} {b : α → Option β} {r : β} (h : orP (.inl e) a b = some r) : a e = some r := h
theorem orP_inr {ε α β : Type} {x : α} {a : ε → Option β} {b : α → Option β} {r : β} (h : orP (.inr x) a b = some r) : b x = some r := h
end Go.Sh
