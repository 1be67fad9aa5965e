/-
  NARROWER THAN 'FOR EVERY INPUT', by the rows' own cells (each row's printed sentence says how): ChoiceMerges: laid · ChoiceSame: laid · ChoiceKeeps: laid · ChoiceWhere: laid · ChoiceTwice: laid.
  DERIVED. THE GIVEN ROWS OF THIS SEAT. 5 by the template 'for every input the law returns true; each argument reads behind the call as it read before'; 0 by the template 'total and deterministic' (their statements: YtffgaoehhmgbjaaDoorTotals.lean).
  GIVEN WITH THE SEED: the statements are not yours to turn. If you find one false, say at which input.
  Laid BY PROGRAM, IN A SANDBOX (cutbox-rows.mjs): the forced cells as the released guide's own fill.sh prints them over the translation 5acacb556ee42554… (all of the seat's roots in one cut). By AI agents, Wed Nov 11 2026. No macro, syntax, notation, axiom, sorry.
-/
import Derived.Test.YtffgaoehhmgbjaaDoorChecked
import GoSem.Claim
import GoSem.ClaimJoined
import GoSem.ClaimMapViews
import Derived.JoinedTies
import Derived.KernelRfl
namespace Go.Proofs.YtffgaoehhmgbjaaDoor
/- THE CELL 'sum', in the pinned program and in every row, IS THE sha256 OF THE DUMP (.gsa) THAT YtffgaoehhmgbjaaDoorProg.lean LOADS. Nothing in Lean hashes anything: it is a label: what it is worth is what the hold of that sum in a sandbox is worth. -/
noncomputable def Tryd.pinned : Pinned := { name := "ytffgaoehhmgbjaadoor", sum := "5acacb556ee42554d380283625d1a1f3413d4e6b5b9feeeb5084bd4ef27d35a8", checked := Tryd.checked }
namespace Rows
def none {H : Type} : Left H := { results := [], args := [] }

/- WHAT THE LISTED PACKAGE-LEVEL VARIABLES READ AS WHEN THE CALL BEGINS. Each datum BY PROGRAM (the guide's laid-datum.mjs) off the statement by which the dump's own 'gosem.cut.vars' lays the variable. In a bare row this is a premise. The card (YtffgaoehhmgbjaaDoorCards.lean) ties it to the program's text. -/
def laid_emend_pptok_signs {H : Type} : DataW H := .agg [.lit (.string [46, 46, 46]), .lit (.string [60, 60, 61]), .lit (.string [62, 62, 61]), .lit (.string [45, 62]), .lit (.string [43, 43]), .lit (.string [45, 45]), .lit (.string [60, 60]), .lit (.string [62, 62]), .lit (.string [60, 61]), .lit (.string [62, 61]), .lit (.string [61, 61]), .lit (.string [33, 61]), .lit (.string [38, 38]), .lit (.string [124, 124]), .lit (.string [42, 61]), .lit (.string [47, 61]), .lit (.string [37, 61]), .lit (.string [43, 61]), .lit (.string [45, 61]), .lit (.string [38, 61]), .lit (.string [94, 61]), .lit (.string [124, 61]), .lit (.string [35, 35]), .lit (.string [91]), .lit (.string [93]), .lit (.string [40]), .lit (.string [41]), .lit (.string [123]), .lit (.string [125]), .lit (.string [46]), .lit (.string [38]), .lit (.string [42]), .lit (.string [43]), .lit (.string [45]), .lit (.string [126]), .lit (.string [33]), .lit (.string [47]), .lit (.string [37]), .lit (.string [60]), .lit (.string [62]), .lit (.string [94]), .lit (.string [124]), .lit (.string [63]), .lit (.string [58]), .lit (.string [59]), .lit (.string [61]), .lit (.string [44]), .lit (.string [35])]

/-- 'emendlaw13.ChoiceMerges': WHATEVER THE INPUT: true; the input reads as it did. -/
def choiceMergesSpec : ChangeSpec := { name := "choiceMerges", fn := fun _ => fun
  | [d1, d2] => { results := [.lit (.bool true)], args := [d1, d2] }
  | _ => none }
def choiceMergesRow : OpenClaim := { program := "ytffgaoehhmgbjaadoor", sum := "5acacb556ee42554d380283625d1a1f3413d4e6b5b9feeeb5084bd4ef27d35a8", func := "emend/emendlaw13.ChoiceMerges", spec := "choiceMerges", inPlace := ["internal/bytealg.IndexByteString", "internal/bytealg.IndexString"], unfollowed := true, recurses := true, named := ["internal/bytealg.MaxLen", "emend/pptok.signs"], plainKeys := false, apart := false, laid := [("emend/pptok.signs", laid_emend_pptok_signs)] }
def ChoiceMergesSaid : Prop := choiceMergesRow.holds Tryd.pinned (OpenSpec.ofChange choiceMergesSpec)

/-- ITS FALSE NEIGHBOUR: 'it returns false'. Refute it at one input. -/
def choiceMergesWrong : ChangeSpec := { name := "choiceMerges", fn := fun _ => fun
  | [d1, d2] => { results := [.lit (.bool false)], args := [d1, d2] }
  | _ => none }
def ChoiceMergesWrongFalsely : Prop := choiceMergesRow.holds Tryd.pinned (OpenSpec.ofChange choiceMergesWrong)

/-- 'emendlaw13.ChoiceSame': WHATEVER THE INPUT: true; the input reads as it did. -/
def choiceSameSpec : ChangeSpec := { name := "choiceSame", fn := fun _ => fun
  | [d1, d2, d3] => { results := [.lit (.bool true)], args := [d1, d2, d3] }
  | _ => none }
def choiceSameRow : OpenClaim := { program := "ytffgaoehhmgbjaadoor", sum := "5acacb556ee42554d380283625d1a1f3413d4e6b5b9feeeb5084bd4ef27d35a8", func := "emend/emendlaw13.ChoiceSame", spec := "choiceSame", inPlace := ["internal/bytealg.IndexByteString", "internal/bytealg.IndexString"], unfollowed := true, recurses := true, named := ["internal/bytealg.MaxLen", "emend/pptok.signs"], plainKeys := false, apart := false, laid := [("emend/pptok.signs", laid_emend_pptok_signs)] }
def ChoiceSameSaid : Prop := choiceSameRow.holds Tryd.pinned (OpenSpec.ofChange choiceSameSpec)

/-- ITS FALSE NEIGHBOUR: 'it returns false'. Refute it at one input. -/
def choiceSameWrong : ChangeSpec := { name := "choiceSame", fn := fun _ => fun
  | [d1, d2, d3] => { results := [.lit (.bool false)], args := [d1, d2, d3] }
  | _ => none }
def ChoiceSameWrongFalsely : Prop := choiceSameRow.holds Tryd.pinned (OpenSpec.ofChange choiceSameWrong)

/-- 'emendlaw13.ChoiceKeeps': WHATEVER THE INPUT: true; the input reads as it did. -/
def choiceKeepsSpec : ChangeSpec := { name := "choiceKeeps", fn := fun _ => fun
  | [d1, d2, d3, d4, d5] => { results := [.lit (.bool true)], args := [d1, d2, d3, d4, d5] }
  | _ => none }
def choiceKeepsRow : OpenClaim := { program := "ytffgaoehhmgbjaadoor", sum := "5acacb556ee42554d380283625d1a1f3413d4e6b5b9feeeb5084bd4ef27d35a8", func := "emend/emendlaw13.ChoiceKeeps", spec := "choiceKeeps", inPlace := ["internal/bytealg.IndexByteString", "internal/bytealg.IndexString"], unfollowed := true, recurses := true, named := ["internal/bytealg.MaxLen", "emend/pptok.signs"], plainKeys := false, apart := false, laid := [("emend/pptok.signs", laid_emend_pptok_signs)] }
def ChoiceKeepsSaid : Prop := choiceKeepsRow.holds Tryd.pinned (OpenSpec.ofChange choiceKeepsSpec)

/-- ITS FALSE NEIGHBOUR: 'it returns false'. Refute it at one input. -/
def choiceKeepsWrong : ChangeSpec := { name := "choiceKeeps", fn := fun _ => fun
  | [d1, d2, d3, d4, d5] => { results := [.lit (.bool false)], args := [d1, d2, d3, d4, d5] }
  | _ => none }
def ChoiceKeepsWrongFalsely : Prop := choiceKeepsRow.holds Tryd.pinned (OpenSpec.ofChange choiceKeepsWrong)

/-- 'emendlaw13.ChoiceWhere': WHATEVER THE INPUT: true; the input reads as it did. -/
def choiceWhereSpec : ChangeSpec := { name := "choiceWhere", fn := fun _ => fun
  | [d1, d2, d3, d4, d5] => { results := [.lit (.bool true)], args := [d1, d2, d3, d4, d5] }
  | _ => none }
def choiceWhereRow : OpenClaim := { program := "ytffgaoehhmgbjaadoor", sum := "5acacb556ee42554d380283625d1a1f3413d4e6b5b9feeeb5084bd4ef27d35a8", func := "emend/emendlaw13.ChoiceWhere", spec := "choiceWhere", inPlace := ["internal/bytealg.IndexByteString", "internal/bytealg.IndexString"], unfollowed := true, recurses := true, named := ["internal/bytealg.MaxLen", "emend/pptok.signs"], plainKeys := false, apart := false, laid := [("emend/pptok.signs", laid_emend_pptok_signs)] }
def ChoiceWhereSaid : Prop := choiceWhereRow.holds Tryd.pinned (OpenSpec.ofChange choiceWhereSpec)

/-- ITS FALSE NEIGHBOUR: 'it returns false'. Refute it at one input. -/
def choiceWhereWrong : ChangeSpec := { name := "choiceWhere", fn := fun _ => fun
  | [d1, d2, d3, d4, d5] => { results := [.lit (.bool false)], args := [d1, d2, d3, d4, d5] }
  | _ => none }
def ChoiceWhereWrongFalsely : Prop := choiceWhereRow.holds Tryd.pinned (OpenSpec.ofChange choiceWhereWrong)

/-- 'emendlaw13.ChoiceTwice': WHATEVER THE INPUT: true; the input reads as it did. -/
def choiceTwiceSpec : ChangeSpec := { name := "choiceTwice", fn := fun _ => fun
  | [d1, d2, d3, d4] => { results := [.lit (.bool true)], args := [d1, d2, d3, d4] }
  | _ => none }
def choiceTwiceRow : OpenClaim := { program := "ytffgaoehhmgbjaadoor", sum := "5acacb556ee42554d380283625d1a1f3413d4e6b5b9feeeb5084bd4ef27d35a8", func := "emend/emendlaw13.ChoiceTwice", spec := "choiceTwice", inPlace := ["internal/bytealg.IndexByteString", "internal/bytealg.IndexString"], unfollowed := true, recurses := true, named := ["internal/bytealg.MaxLen", "emend/pptok.signs"], plainKeys := false, apart := false, laid := [("emend/pptok.signs", laid_emend_pptok_signs)] }
def ChoiceTwiceSaid : Prop := choiceTwiceRow.holds Tryd.pinned (OpenSpec.ofChange choiceTwiceSpec)

/-- ITS FALSE NEIGHBOUR: 'it returns false'. Refute it at one input. -/
def choiceTwiceWrong : ChangeSpec := { name := "choiceTwice", fn := fun _ => fun
  | [d1, d2, d3, d4] => { results := [.lit (.bool false)], args := [d1, d2, d3, d4] }
  | _ => none }
def ChoiceTwiceWrongFalsely : Prop := choiceTwiceRow.holds Tryd.pinned (OpenSpec.ofChange choiceTwiceWrong)

/- THE SECOND FORM. 'bulk': how many values and letters a reading holds, each counted each time it is reached (what is shared counts as often as it is met; a slice's spare places count too). A statement '..UptoSaid' is the law's where the arguments, and the package variables that the reading takes, are together of bulk at most 1048576: NARROWER than '..Said'. Prove '..Said' where nothing that the law and all that it calls make is longer than what came in: it says more and counts as full. Else prove '..UptoSaid'. A law counts once. -/
mutual
def uptoBulk {H : Type} : DataW H → Nat
  | .lit (.string bytes) => bytes.length + 1
  | .lit _ => 1
  | .nil => 1
  | .ptr d => uptoBulk d + 1
  | .slice elems spare => uptoBulkAll elems + uptoBulkAll spare + 1
  | .agg parts => uptoBulkAll parts + 1
  | .iface _ d => uptoBulk d + 1
  | .map entries => uptoBulkEntries entries + 1
  | .held _ => 1
def uptoBulkAll {H : Type} : List (DataW H) → Nat
  | [] => 0
  | d :: r => uptoBulk d + uptoBulkAll r
def uptoBulkEntries {H : Type} : List (Lit × DataW H) → Nat
  | [] => 0
  | x :: r => uptoBulkEntry x + uptoBulkEntries r
def uptoBulkEntry {H : Type} : Lit × DataW H → Nat
  | (.string bytes, d) => bytes.length + uptoBulk d + 1
  | (_, d) => uptoBulk d + 1
 end
def uptoSmall : (H : Type) → List (DataW H) → Bool := fun _ ds => decide (uptoBulkAll ds ≤ 1048576)
def OpenSpec.upto (s : _root_.Go.ChangeSpec) : _root_.Go.OpenSpec := { _root_.Go.OpenSpec.ofChange s with cond := some uptoSmall }

/-- 'emendlaw13.ChoiceMerges', WHERE WHAT IT READS IS OF BULK AT MOST 1048576: true; the input reads as it did. -/
def choiceMergesUptoRow : OpenClaim := { program := "ytffgaoehhmgbjaadoor", sum := "5acacb556ee42554d380283625d1a1f3413d4e6b5b9feeeb5084bd4ef27d35a8", func := "emend/emendlaw13.ChoiceMerges", spec := "choiceMerges", inPlace := ["internal/bytealg.IndexByteString", "internal/bytealg.IndexString"], unfollowed := true, recurses := true, named := ["internal/bytealg.MaxLen", "emend/pptok.signs"], plainKeys := false, apart := false, laid := [("emend/pptok.signs", laid_emend_pptok_signs)], narrowed := true }
def ChoiceMergesUptoSaid : Prop := choiceMergesUptoRow.holds Tryd.pinned (OpenSpec.upto choiceMergesSpec)

/-- 'emendlaw13.ChoiceSame', WHERE WHAT IT READS IS OF BULK AT MOST 1048576: true; the input reads as it did. -/
def choiceSameUptoRow : OpenClaim := { program := "ytffgaoehhmgbjaadoor", sum := "5acacb556ee42554d380283625d1a1f3413d4e6b5b9feeeb5084bd4ef27d35a8", func := "emend/emendlaw13.ChoiceSame", spec := "choiceSame", inPlace := ["internal/bytealg.IndexByteString", "internal/bytealg.IndexString"], unfollowed := true, recurses := true, named := ["internal/bytealg.MaxLen", "emend/pptok.signs"], plainKeys := false, apart := false, laid := [("emend/pptok.signs", laid_emend_pptok_signs)], narrowed := true }
def ChoiceSameUptoSaid : Prop := choiceSameUptoRow.holds Tryd.pinned (OpenSpec.upto choiceSameSpec)

/-- 'emendlaw13.ChoiceKeeps', WHERE WHAT IT READS IS OF BULK AT MOST 1048576: true; the input reads as it did. -/
def choiceKeepsUptoRow : OpenClaim := { program := "ytffgaoehhmgbjaadoor", sum := "5acacb556ee42554d380283625d1a1f3413d4e6b5b9feeeb5084bd4ef27d35a8", func := "emend/emendlaw13.ChoiceKeeps", spec := "choiceKeeps", inPlace := ["internal/bytealg.IndexByteString", "internal/bytealg.IndexString"], unfollowed := true, recurses := true, named := ["internal/bytealg.MaxLen", "emend/pptok.signs"], plainKeys := false, apart := false, laid := [("emend/pptok.signs", laid_emend_pptok_signs)], narrowed := true }
def ChoiceKeepsUptoSaid : Prop := choiceKeepsUptoRow.holds Tryd.pinned (OpenSpec.upto choiceKeepsSpec)

/-- 'emendlaw13.ChoiceWhere', WHERE WHAT IT READS IS OF BULK AT MOST 1048576: true; the input reads as it did. -/
def choiceWhereUptoRow : OpenClaim := { program := "ytffgaoehhmgbjaadoor", sum := "5acacb556ee42554d380283625d1a1f3413d4e6b5b9feeeb5084bd4ef27d35a8", func := "emend/emendlaw13.ChoiceWhere", spec := "choiceWhere", inPlace := ["internal/bytealg.IndexByteString", "internal/bytealg.IndexString"], unfollowed := true, recurses := true, named := ["internal/bytealg.MaxLen", "emend/pptok.signs"], plainKeys := false, apart := false, laid := [("emend/pptok.signs", laid_emend_pptok_signs)], narrowed := true }
def ChoiceWhereUptoSaid : Prop := choiceWhereUptoRow.holds Tryd.pinned (OpenSpec.upto choiceWhereSpec)

/-- 'emendlaw13.ChoiceTwice', WHERE WHAT IT READS IS OF BULK AT MOST 1048576: true; the input reads as it did. -/
def choiceTwiceUptoRow : OpenClaim := { program := "ytffgaoehhmgbjaadoor", sum := "5acacb556ee42554d380283625d1a1f3413d4e6b5b9feeeb5084bd4ef27d35a8", func := "emend/emendlaw13.ChoiceTwice", spec := "choiceTwice", inPlace := ["internal/bytealg.IndexByteString", "internal/bytealg.IndexString"], unfollowed := true, recurses := true, named := ["internal/bytealg.MaxLen", "emend/pptok.signs"], plainKeys := false, apart := false, laid := [("emend/pptok.signs", laid_emend_pptok_signs)], narrowed := true }
def ChoiceTwiceUptoSaid : Prop := choiceTwiceUptoRow.holds Tryd.pinned (OpenSpec.upto choiceTwiceSpec)

end Rows
end Go.Proofs.YtffgaoehhmgbjaaDoor
