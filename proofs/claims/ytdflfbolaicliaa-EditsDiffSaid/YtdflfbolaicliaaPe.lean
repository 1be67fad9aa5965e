/-
  How the plain structures stand in the calculus.
-/
import Derived.Test.YtdflfbolaicliaaPt
import Derived.Test.YtdflfbolaicliaaTyz
set_option linter.unusedSimpArgs false
namespace Go.Vc
open Go Go.Sh
theorem eqbool (a b : Bool) : (a == b) = decide (a = b) := by cases a <;> cases b <;> rfl
def cGEdit (x : GEdit) : List AV := [(iA x.file_), (iA x.from_), (iA x.to), (sA x.text)]
theorem one_cGEdit (x : GEdit) : (cGEdit x).all AV.one = true := rfl
theorem eqL_GEdit (x y : GEdit) : eqL (cGEdit x) (cGEdit y) = some (decide (x = y)) := by
  cases x; cases y
  simp only [cGEdit, eqL, eqV, if_true, Option.some.injEq, GEdit.mk.injEq, Int.natCast_inj, UInt8.toNat_inj, Bool.and_true, Bool.decide_and, eqbool]
def cGFile (x : GFile) : List AV := [(sA x.path), (sA x.text)]
theorem one_cGFile (x : GFile) : (cGFile x).all AV.one = true := rfl
theorem eqL_GFile (x y : GFile) : eqL (cGFile x) (cGFile y) = some (decide (x = y)) := by
  cases x; cases y
  simp only [cGFile, eqL, eqV, if_true, Option.some.injEq, GFile.mk.injEq, Int.natCast_inj, UInt8.toNat_inj, Bool.and_true, Bool.decide_and, eqbool]
end Go.Vc
