/-
  How the plain structures stand in the calculus.
-/
import Derived.Test.YtghnfeflknfclaaDoorPt
import Derived.Test.YtghnfeflknfclaaDoorTyz
set_option linter.unusedSimpArgs false
namespace Go.Vc
open Go Go.Sh
theorem eqbool (a b : Bool) : (a == b) = decide (a = b) := by cases a <;> cases b <;> rfl
def cGTok (x : GTok) : List AV := [(iA x.kind), (sA x.text), (iA x.file_), (iA x.from_), (iA x.to), (bA x.blank)]
theorem one_cGTok (x : GTok) : (cGTok x).all AV.one = true := rfl
theorem eqL_GTok (x y : GTok) : eqL (cGTok x) (cGTok y) = some (decide (x = y)) := by
  cases x; cases y
  simp only [cGTok, eqL, eqV, if_true, Option.some.injEq, GTok.mk.injEq, Int.natCast_inj, UInt8.toNat_inj, Bool.and_true, Bool.decide_and, eqbool]
def cGLine (x : GLine) : List AV := [(iA x.kind), (iA x.first), (iA x.n), (AV.rows 6 (List.map cGTok x.toks))]
theorem one_cGLine (x : GLine) : (cGLine x).all AV.one = true := rfl
def cGMacro (x : GMacro) : List AV := [(sA x.name), (bA x.func), (AV.rows 1 (List.map cS x.params)), (bA x.variadic), (AV.rows 6 (List.map cGTok x.body))]
theorem one_cGMacro (x : GMacro) : (cGMacro x).all AV.one = true := rfl
def cGPptok_reader (x : GPptok_reader) : List AV := [(sA x.s), (iA x.at_)]
theorem one_cGPptok_reader (x : GPptok_reader) : (cGPptok_reader x).all AV.one = true := rfl
theorem eqL_GPptok_reader (x y : GPptok_reader) : eqL (cGPptok_reader x) (cGPptok_reader y) = some (decide (x = y)) := by
  cases x; cases y
  simp only [cGPptok_reader, eqL, eqV, if_true, Option.some.injEq, GPptok_reader.mk.injEq, Int.natCast_inj, UInt8.toNat_inj, Bool.and_true, Bool.decide_and, eqbool]
def cGChar (x : GChar) : List AV := [(u8A x.b), (iA x.at_)]
theorem one_cGChar (x : GChar) : (cGChar x).all AV.one = true := rfl
theorem eqL_GChar (x y : GChar) : eqL (cGChar x) (cGChar y) = some (decide (x = y)) := by
  cases x; cases y
  simp only [cGChar, eqL, eqV, if_true, Option.some.injEq, GChar.mk.injEq, Int.natCast_inj, UInt8.toNat_inj, Bool.and_true, Bool.decide_and, eqbool]
def cGMacro_wrong (x : GMacro_wrong) : List AV := [(iA x.e)]
theorem one_cGMacro_wrong (x : GMacro_wrong) : (cGMacro_wrong x).all AV.one = true := rfl
theorem eqL_GMacro_wrong (x y : GMacro_wrong) : eqL (cGMacro_wrong x) (cGMacro_wrong y) = some (decide (x = y)) := by
  cases x; cases y
  simp only [cGMacro_wrong, eqL, eqV, if_true, Option.some.injEq, GMacro_wrong.mk.injEq, Int.natCast_inj, UInt8.toNat_inj, Bool.and_true, Bool.decide_and, eqbool]
def cGMacro_reader (x : GMacro_reader) : List AV := [(AV.rows 6 (List.map cGTok x.l))]
theorem one_cGMacro_reader (x : GMacro_reader) : (cGMacro_reader x).all AV.one = true := rfl
end Go.Vc
