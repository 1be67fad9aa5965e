/-
  How the plain structures stand in the calculus.
-/
import Derived.Test.YtffgaoehhmgbjaaDoorPt
import Derived.Test.YtffgaoehhmgbjaaDoorTyz
set_option linter.unusedSimpArgs false
namespace Go.Vc
open Go Go.Sh
theorem eqbool (a b : Bool) : (a == b) = decide (a = b) := by cases a <;> cases b <;> rfl
def cGTok (x : GTok) : List AV := [(iA x.kind), (sA x.text), (iA x.file_), (iA x.from_), (iA x.to), (bA x.blank)]
theorem one_cGTok (x : GTok) : (cGTok x).all AV.one = true := rfl
theorem eqL_GTok (x y : GTok) : eqL (cGTok x) (cGTok y) = some (decide (x = y)) := by
  cases x; cases y
  simp only [cGTok, eqL, eqV, if_true, Option.some.injEq, GTok.mk.injEq, Int.natCast_inj, UInt8.toNat_inj, Bool.and_true, Bool.decide_and, eqbool]
def cGChoice_CTok (x : GChoice_CTok) : List AV := cGTok x.t ++ [(iA x.cond)]
theorem one_cGChoice_CTok (x : GChoice_CTok) : (cGChoice_CTok x).all AV.one = true := rfl
def cGBdd_decision (x : GBdd_decision) : List AV := [(iA x.name), (iA x.off), (iA x.on)]
theorem one_cGBdd_decision (x : GBdd_decision) : (cGBdd_decision x).all AV.one = true := rfl
theorem eqL_GBdd_decision (x y : GBdd_decision) : eqL (cGBdd_decision x) (cGBdd_decision y) = some (decide (x = y)) := by
  cases x; cases y
  simp only [cGBdd_decision, eqL, eqV, if_true, Option.some.injEq, GBdd_decision.mk.injEq, Int.natCast_inj, UInt8.toNat_inj, Bool.and_true, Bool.decide_and, eqbool]
def cGPptok_reader (x : GPptok_reader) : List AV := [(sA x.s), (iA x.at_)]
theorem one_cGPptok_reader (x : GPptok_reader) : (cGPptok_reader x).all AV.one = true := rfl
theorem eqL_GPptok_reader (x y : GPptok_reader) : eqL (cGPptok_reader x) (cGPptok_reader y) = some (decide (x = y)) := by
  cases x; cases y
  simp only [cGPptok_reader, eqL, eqV, if_true, Option.some.injEq, GPptok_reader.mk.injEq, Int.natCast_inj, UInt8.toNat_inj, Bool.and_true, Bool.decide_and, eqbool]
def cGChar (x : GChar) : List AV := [(u8A x.b), (iA x.at_)]
theorem one_cGChar (x : GChar) : (cGChar x).all AV.one = true := rfl
theorem eqL_GChar (x y : GChar) : eqL (cGChar x) (cGChar y) = some (decide (x = y)) := by
  cases x; cases y
  simp only [cGChar, eqL, eqV, if_true, Option.some.injEq, GChar.mk.injEq, Int.natCast_inj, UInt8.toNat_inj, Bool.and_true, Bool.decide_and, eqbool]
def cGBdd_pair (x : GBdd_pair) : List AV := [(iA x.n), (iA x.m)]
theorem one_cGBdd_pair (x : GBdd_pair) : (cGBdd_pair x).all AV.one = true := rfl
theorem eqL_GBdd_pair (x y : GBdd_pair) : eqL (cGBdd_pair x) (cGBdd_pair y) = some (decide (x = y)) := by
  cases x; cases y
  simp only [cGBdd_pair, eqL, eqV, if_true, Option.some.injEq, GBdd_pair.mk.injEq, Int.natCast_inj, UInt8.toNat_inj, Bool.and_true, Bool.decide_and, eqbool]
end Go.Vc
