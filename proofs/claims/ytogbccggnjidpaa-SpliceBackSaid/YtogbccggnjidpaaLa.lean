/-
  What the laws of this seat share: the program's shape; the library's variable.
-/
import Derived.Test.YtogbccggnjidpaaRows
import Derived.Test.YtogbccggnjidpaaVo
import Derived.Test.YtogbccggnjidpaaTy
import Derived.Test.YtogbccggnjidpaaShelf
import Derived.ProofKit
import Derived.HandedShaped
set_option linter.unusedVariables false
set_option linter.unusedSimpArgs false
namespace Go.Proofs.Ytogbccggnjidpaa
open Go Go.ChangeShapes Go.WideShapes Go.ChangeAt Go.RowKit Go.Vc
theorem Try.own : ownKnob Try.prog.godebug = none := by kernel_rfl
theorem Try.laidOut : laidOutB Try.prog = true := by kernel_rfl
/-- internal/bytealg.MaxLen holds some int -/
theorem Try.maxLen {W : World} (h : W.ShapedOpen Try.prog) : ∃ m, W.cell? ⟨0, 0, none⟩ = some (.int .i64 m) := Try.laysM138.s1_3 W h
theorem ints_typed {e : TypeId} {n : Nat} (hu : Try.prog.underlying e = some (.int .i64)) (es : List (List AV)) (h : ∀ x ∈ es, TypedC Try.prog (n + 1) e x) : ∃ l : List Int, es = l.map cI ∧ ∀ i ∈ l, inR .i64 i :=
  typed_list cI (fun i => inR .i64 i) (fun x h => by obtain ⟨i, hi, rfl⟩ := h.int hu; exact ⟨i, hi, rfl⟩) es h
end Go.Proofs.Ytogbccggnjidpaa
