/-
  The places of tokens up to each Newline, told from the left. No program in sight.
-/
import Derived.Test.YtfocleohejljpaaDoorPt
set_option linter.unusedVariables false
namespace Go.Sh
/-- f: where the piece begins; i: the place of the first token of l -/
def piecesF : Nat → Nat → List GTok → List (Int × Int)
  | f, i, [] => if f < i then [((f : Int), (i : Int))] else []
  | f, i, t :: r => if t.kind = 7 then ((f : Int), (i : Int)) :: piecesF (i + 1) (i + 1) r else piecesF f (i + 1) r
def pieces (l : List GTok) : Option (List (Int × Int)) := if l.length ≤ 9223372036854775806 then some (piecesF 0 0 l) else none
theorem pieces_some {l : List GTok} {ps : List (Int × Int)} (h : pieces l = some ps) : l.length ≤ 9223372036854775806 ∧ ps = piecesF 0 0 l := by
  unfold pieces at h; split at h
  · rename_i hl; injection h with h; exact ⟨hl, h.symm⟩
  · cases h
end Go.Sh
