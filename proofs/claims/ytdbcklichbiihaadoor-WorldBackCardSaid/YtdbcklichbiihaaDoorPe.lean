/-
  How the plain structures stand in the calculus.
-/
import Derived.Test.YtdbcklichbiihaaDoorPt
import Derived.Test.YtdbcklichbiihaaDoorTyz
set_option linter.unusedSimpArgs false
namespace Go.Vc
open Go Go.Sh
theorem eqbool (a b : Bool) : (a == b) = decide (a = b) := by cases a <;> cases b <;> rfl
def cGFile (x : GFile) : List AV := [(sA x.path), (sA x.text)]
theorem one_cGFile (x : GFile) : (cGFile x).all AV.one = true := rfl
theorem eqL_GFile (x y : GFile) : eqL (cGFile x) (cGFile y) = some (decide (x = y)) := by
  cases x; cases y
  simp only [cGFile, eqL, eqV, if_true, Option.some.injEq, GFile.mk.injEq, Int.natCast_inj, UInt8.toNat_inj, Bool.and_true, Bool.decide_and, eqbool]
def cGTok (x : GTok) : List AV := [(iA x.kind), (sA x.text), (iA x.file_), (iA x.from_), (iA x.to), (bA x.blank)]
theorem one_cGTok (x : GTok) : (cGTok x).all AV.one = true := rfl
theorem eqL_GTok (x y : GTok) : eqL (cGTok x) (cGTok y) = some (decide (x = y)) := by
  cases x; cases y
  simp only [cGTok, eqL, eqV, if_true, Option.some.injEq, GTok.mk.injEq, Int.natCast_inj, UInt8.toNat_inj, Bool.and_true, Bool.decide_and, eqbool]
def cGLine (x : GLine) : List AV := [(iA x.kind), (iA x.first), (iA x.n), (AV.rows 6 (List.map cGTok x.toks))]
theorem one_cGLine (x : GLine) : (cGLine x).all AV.one = true := rfl
def cGPptok_reader (x : GPptok_reader) : List AV := [(sA x.s), (iA x.at_)]
theorem one_cGPptok_reader (x : GPptok_reader) : (cGPptok_reader x).all AV.one = true := rfl
theorem eqL_GPptok_reader (x y : GPptok_reader) : eqL (cGPptok_reader x) (cGPptok_reader y) = some (decide (x = y)) := by
  cases x; cases y
  simp only [cGPptok_reader, eqL, eqV, if_true, Option.some.injEq, GPptok_reader.mk.injEq, Int.natCast_inj, UInt8.toNat_inj, Bool.and_true, Bool.decide_and, eqbool]
def cGChar (x : GChar) : List AV := [(u8A x.b), (iA x.at_)]
theorem one_cGChar (x : GChar) : (cGChar x).all AV.one = true := rfl
theorem eqL_GChar (x y : GChar) : eqL (cGChar x) (cGChar y) = some (decide (x = y)) := by
  cases x; cases y
  simp only [cGChar, eqL, eqV, if_true, Option.some.injEq, GChar.mk.injEq, Int.natCast_inj, UInt8.toNat_inj, Bool.and_true, Bool.decide_and, eqbool]
end Go.Vc
