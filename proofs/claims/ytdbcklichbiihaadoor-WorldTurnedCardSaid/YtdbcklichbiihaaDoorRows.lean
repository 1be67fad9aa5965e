/-
  NARROWER THAN 'FOR EVERY INPUT', by the rows' own cells (each row's printed sentence says how): WorldSets: laid · WorldBack: laid · WorldNames: laid · WorldAsked: laid · WorldTurned: laid.
  DERIVED. THE GIVEN ROWS OF THIS SEAT. 5 by the template 'for every input the law returns true; each argument reads behind the call as it read before'; 0 by the template 'total and deterministic' (their statements: YtdbcklichbiihaaDoorTotals.lean).
  GIVEN WITH THE SEED: the statements are not yours to turn. If you find one false, say at which input.
  Laid BY PROGRAM, IN A SANDBOX (cutbox-rows.mjs): the forced cells as the released guide's own fill.sh prints them over the translation ea7fd1447046959c… (all of the seat's roots in one cut). By AI agents, Wed Nov 11 2026. No macro, syntax, notation, axiom, sorry.
-/
import Derived.Test.YtdbcklichbiihaaDoorChecked
import GoSem.Claim
import GoSem.ClaimJoined
import GoSem.ClaimMapViews
import Derived.JoinedTies
import Derived.KernelRfl
namespace Go.Proofs.YtdbcklichbiihaaDoor
/- THE CELL 'sum', in the pinned program and in every row, IS THE sha256 OF THE DUMP (.gsa) THAT YtdbcklichbiihaaDoorProg.lean LOADS. Nothing in Lean hashes anything: it is a label: what it is worth is what the hold of that sum in a sandbox is worth. -/
noncomputable def Tryd.pinned : Pinned := { name := "ytdbcklichbiihaadoor", sum := "ea7fd1447046959ced0ed2a126e70310436897d890a171ea5df142f812caa36b", checked := Tryd.checked }
namespace Rows
def none {H : Type} : Left H := { results := [], args := [] }

/- WHAT THE LISTED PACKAGE-LEVEL VARIABLES READ AS WHEN THE CALL BEGINS. Each datum BY PROGRAM (the guide's laid-datum.mjs) off the statement by which the dump's own 'gosem.cut.vars' lays the variable. In a bare row this is a premise. The card (YtdbcklichbiihaaDoorCards.lean) ties it to the program's text. -/
def laid_emend_direct_words {H : Type} : DataW H := .agg [.lit (.string [105, 102]), .lit (.string [105, 102, 100, 101, 102]), .lit (.string [105, 102, 110, 100, 101, 102]), .lit (.string [101, 108, 105, 102]), .lit (.string [101, 108, 115, 101]), .lit (.string [101, 110, 100, 105, 102]), .lit (.string [100, 101, 102, 105, 110, 101]), .lit (.string [117, 110, 100, 101, 102]), .lit (.string [105, 110, 99, 108, 117, 100, 101]), .lit (.string [101, 114, 114, 111, 114]), .lit (.string [112, 114, 97, 103, 109, 97]), .lit (.string [108, 105, 110, 101])]
def laid_emend_pptok_signs {H : Type} : DataW H := .agg [.lit (.string [46, 46, 46]), .lit (.string [60, 60, 61]), .lit (.string [62, 62, 61]), .lit (.string [45, 62]), .lit (.string [43, 43]), .lit (.string [45, 45]), .lit (.string [60, 60]), .lit (.string [62, 62]), .lit (.string [60, 61]), .lit (.string [62, 61]), .lit (.string [61, 61]), .lit (.string [33, 61]), .lit (.string [38, 38]), .lit (.string [124, 124]), .lit (.string [42, 61]), .lit (.string [47, 61]), .lit (.string [37, 61]), .lit (.string [43, 61]), .lit (.string [45, 61]), .lit (.string [38, 61]), .lit (.string [94, 61]), .lit (.string [124, 61]), .lit (.string [35, 35]), .lit (.string [91]), .lit (.string [93]), .lit (.string [40]), .lit (.string [41]), .lit (.string [123]), .lit (.string [125]), .lit (.string [46]), .lit (.string [38]), .lit (.string [42]), .lit (.string [43]), .lit (.string [45]), .lit (.string [126]), .lit (.string [33]), .lit (.string [47]), .lit (.string [37]), .lit (.string [60]), .lit (.string [62]), .lit (.string [94]), .lit (.string [124]), .lit (.string [63]), .lit (.string [58]), .lit (.string [59]), .lit (.string [61]), .lit (.string [44]), .lit (.string [35])]

/-- 'emendlaw11.WorldSets': WHATEVER THE INPUT: true; the input reads as it did. -/
def worldSetsSpec : ChangeSpec := { name := "worldSets", fn := fun _ => fun
  | [d1, d2, d3] => { results := [.lit (.bool true)], args := [d1, d2, d3] }
  | _ => none }
def worldSetsRow : OpenClaim := { program := "ytdbcklichbiihaadoor", sum := "ea7fd1447046959ced0ed2a126e70310436897d890a171ea5df142f812caa36b", func := "emend/emendlaw11.WorldSets", spec := "worldSets", inPlace := ["internal/bytealg.IndexByteString", "internal/bytealg.IndexString"], unfollowed := true, recurses := true, named := ["internal/bytealg.MaxLen", "emend/pptok.signs", "emend/direct.words"], apart := false, laid := [("emend/direct.words", laid_emend_direct_words), ("emend/pptok.signs", laid_emend_pptok_signs)] }
def WorldSetsSaid : Prop := worldSetsRow.holds Tryd.pinned (OpenSpec.ofChange worldSetsSpec)

/-- ITS FALSE NEIGHBOUR: 'it returns false'. Refute it at one input. -/
def worldSetsWrong : ChangeSpec := { name := "worldSets", fn := fun _ => fun
  | [d1, d2, d3] => { results := [.lit (.bool false)], args := [d1, d2, d3] }
  | _ => none }
def WorldSetsWrongFalsely : Prop := worldSetsRow.holds Tryd.pinned (OpenSpec.ofChange worldSetsWrong)

/-- 'emendlaw11.WorldBack': WHATEVER THE INPUT: true; the input reads as it did. -/
def worldBackSpec : ChangeSpec := { name := "worldBack", fn := fun _ => fun
  | [d1, d2, d3] => { results := [.lit (.bool true)], args := [d1, d2, d3] }
  | _ => none }
def worldBackRow : OpenClaim := { program := "ytdbcklichbiihaadoor", sum := "ea7fd1447046959ced0ed2a126e70310436897d890a171ea5df142f812caa36b", func := "emend/emendlaw11.WorldBack", spec := "worldBack", inPlace := ["internal/bytealg.IndexByteString", "internal/bytealg.IndexString"], unfollowed := true, recurses := true, named := ["internal/bytealg.MaxLen", "emend/pptok.signs", "emend/direct.words"], apart := false, laid := [("emend/direct.words", laid_emend_direct_words), ("emend/pptok.signs", laid_emend_pptok_signs)] }
def WorldBackSaid : Prop := worldBackRow.holds Tryd.pinned (OpenSpec.ofChange worldBackSpec)

/-- ITS FALSE NEIGHBOUR: 'it returns false'. Refute it at one input. -/
def worldBackWrong : ChangeSpec := { name := "worldBack", fn := fun _ => fun
  | [d1, d2, d3] => { results := [.lit (.bool false)], args := [d1, d2, d3] }
  | _ => none }
def WorldBackWrongFalsely : Prop := worldBackRow.holds Tryd.pinned (OpenSpec.ofChange worldBackWrong)

/-- 'emendlaw11.WorldNames': WHATEVER THE INPUT: true; the input reads as it did. -/
def worldNamesSpec : ChangeSpec := { name := "worldNames", fn := fun _ => fun
  | [d] => { results := [.lit (.bool true)], args := [d] }
  | _ => none }
def worldNamesRow : OpenClaim := { program := "ytdbcklichbiihaadoor", sum := "ea7fd1447046959ced0ed2a126e70310436897d890a171ea5df142f812caa36b", func := "emend/emendlaw11.WorldNames", spec := "worldNames", inPlace := ["internal/bytealg.IndexByteString", "internal/bytealg.IndexString"], unfollowed := true, recurses := true, named := ["internal/bytealg.MaxLen", "emend/pptok.signs", "emend/direct.words"], apart := false, laid := [("emend/direct.words", laid_emend_direct_words), ("emend/pptok.signs", laid_emend_pptok_signs)] }
def WorldNamesSaid : Prop := worldNamesRow.holds Tryd.pinned (OpenSpec.ofChange worldNamesSpec)

/-- ITS FALSE NEIGHBOUR: 'it returns false'. Refute it at one input. -/
def worldNamesWrong : ChangeSpec := { name := "worldNames", fn := fun _ => fun
  | [d] => { results := [.lit (.bool false)], args := [d] }
  | _ => none }
def WorldNamesWrongFalsely : Prop := worldNamesRow.holds Tryd.pinned (OpenSpec.ofChange worldNamesWrong)

/-- 'emendlaw11.WorldAsked': WHATEVER THE INPUT: true; the input reads as it did. -/
def worldAskedSpec : ChangeSpec := { name := "worldAsked", fn := fun _ => fun
  | [d1, d2] => { results := [.lit (.bool true)], args := [d1, d2] }
  | _ => none }
def worldAskedRow : OpenClaim := { program := "ytdbcklichbiihaadoor", sum := "ea7fd1447046959ced0ed2a126e70310436897d890a171ea5df142f812caa36b", func := "emend/emendlaw11.WorldAsked", spec := "worldAsked", inPlace := ["internal/bytealg.IndexByteString", "internal/bytealg.IndexString"], unfollowed := true, recurses := true, named := ["internal/bytealg.MaxLen", "emend/pptok.signs", "emend/direct.words"], apart := false, laid := [("emend/direct.words", laid_emend_direct_words), ("emend/pptok.signs", laid_emend_pptok_signs)] }
def WorldAskedSaid : Prop := worldAskedRow.holds Tryd.pinned (OpenSpec.ofChange worldAskedSpec)

/-- ITS FALSE NEIGHBOUR: 'it returns false'. Refute it at one input. -/
def worldAskedWrong : ChangeSpec := { name := "worldAsked", fn := fun _ => fun
  | [d1, d2] => { results := [.lit (.bool false)], args := [d1, d2] }
  | _ => none }
def WorldAskedWrongFalsely : Prop := worldAskedRow.holds Tryd.pinned (OpenSpec.ofChange worldAskedWrong)

/-- 'emendlaw11.WorldTurned': WHATEVER THE INPUT: true; the input reads as it did. -/
def worldTurnedSpec : ChangeSpec := { name := "worldTurned", fn := fun _ => fun
  | [d] => { results := [.lit (.bool true)], args := [d] }
  | _ => none }
def worldTurnedRow : OpenClaim := { program := "ytdbcklichbiihaadoor", sum := "ea7fd1447046959ced0ed2a126e70310436897d890a171ea5df142f812caa36b", func := "emend/emendlaw11.WorldTurned", spec := "worldTurned", inPlace := ["internal/bytealg.IndexByteString", "internal/bytealg.IndexString"], unfollowed := true, recurses := true, named := ["internal/bytealg.MaxLen", "emend/pptok.signs", "emend/direct.words"], apart := false, laid := [("emend/direct.words", laid_emend_direct_words), ("emend/pptok.signs", laid_emend_pptok_signs)] }
def WorldTurnedSaid : Prop := worldTurnedRow.holds Tryd.pinned (OpenSpec.ofChange worldTurnedSpec)

/-- ITS FALSE NEIGHBOUR: 'it returns false'. Refute it at one input. -/
def worldTurnedWrong : ChangeSpec := { name := "worldTurned", fn := fun _ => fun
  | [d] => { results := [.lit (.bool false)], args := [d] }
  | _ => none }
def WorldTurnedWrongFalsely : Prop := worldTurnedRow.holds Tryd.pinned (OpenSpec.ofChange worldTurnedWrong)

/- THE SECOND FORM. 'bulk': how many values and letters a reading holds, each counted each time it is reached (what is shared counts as often as it is met; a slice's spare places count too). A statement '..UptoSaid' is the law's where the arguments, and the package variables that the reading takes, are together of bulk at most 1048576: NARROWER than '..Said'. Prove '..Said' where nothing that the law and all that it calls make is longer than what came in: it says more and counts as full. Else prove '..UptoSaid'. A law counts once. -/
mutual
def uptoBulk {H : Type} : DataW H → Nat
  | .lit (.string bytes) => bytes.length + 1
  | .lit _ => 1
  | .nil => 1
  | .ptr d => uptoBulk d + 1
  | .slice elems spare => uptoBulkAll elems + uptoBulkAll spare + 1
  | .agg parts => uptoBulkAll parts + 1
  | .iface _ d => uptoBulk d + 1
  | .map entries => uptoBulkEntries entries + 1
  | .held _ => 1
def uptoBulkAll {H : Type} : List (DataW H) → Nat
  | [] => 0
  | d :: r => uptoBulk d + uptoBulkAll r
def uptoBulkEntries {H : Type} : List (Lit × DataW H) → Nat
  | [] => 0
  | x :: r => uptoBulkEntry x + uptoBulkEntries r
def uptoBulkEntry {H : Type} : Lit × DataW H → Nat
  | (.string bytes, d) => bytes.length + uptoBulk d + 1
  | (_, d) => uptoBulk d + 1
 end
def uptoSmall : (H : Type) → List (DataW H) → Bool := fun _ ds => decide (uptoBulkAll ds ≤ 1048576)
def OpenSpec.upto (s : _root_.Go.ChangeSpec) : _root_.Go.OpenSpec := { _root_.Go.OpenSpec.ofChange s with cond := some uptoSmall }

/-- 'emendlaw11.WorldSets', WHERE WHAT IT READS IS OF BULK AT MOST 1048576: true; the input reads as it did. -/
def worldSetsUptoRow : OpenClaim := { program := "ytdbcklichbiihaadoor", sum := "ea7fd1447046959ced0ed2a126e70310436897d890a171ea5df142f812caa36b", func := "emend/emendlaw11.WorldSets", spec := "worldSets", inPlace := ["internal/bytealg.IndexByteString", "internal/bytealg.IndexString"], unfollowed := true, recurses := true, named := ["internal/bytealg.MaxLen", "emend/pptok.signs", "emend/direct.words"], apart := false, laid := [("emend/direct.words", laid_emend_direct_words), ("emend/pptok.signs", laid_emend_pptok_signs)], narrowed := true }
def WorldSetsUptoSaid : Prop := worldSetsUptoRow.holds Tryd.pinned (OpenSpec.upto worldSetsSpec)

/-- 'emendlaw11.WorldBack', WHERE WHAT IT READS IS OF BULK AT MOST 1048576: true; the input reads as it did. -/
def worldBackUptoRow : OpenClaim := { program := "ytdbcklichbiihaadoor", sum := "ea7fd1447046959ced0ed2a126e70310436897d890a171ea5df142f812caa36b", func := "emend/emendlaw11.WorldBack", spec := "worldBack", inPlace := ["internal/bytealg.IndexByteString", "internal/bytealg.IndexString"], unfollowed := true, recurses := true, named := ["internal/bytealg.MaxLen", "emend/pptok.signs", "emend/direct.words"], apart := false, laid := [("emend/direct.words", laid_emend_direct_words), ("emend/pptok.signs", laid_emend_pptok_signs)], narrowed := true }
def WorldBackUptoSaid : Prop := worldBackUptoRow.holds Tryd.pinned (OpenSpec.upto worldBackSpec)

/-- 'emendlaw11.WorldNames', WHERE WHAT IT READS IS OF BULK AT MOST 1048576: true; the input reads as it did. -/
def worldNamesUptoRow : OpenClaim := { program := "ytdbcklichbiihaadoor", sum := "ea7fd1447046959ced0ed2a126e70310436897d890a171ea5df142f812caa36b", func := "emend/emendlaw11.WorldNames", spec := "worldNames", inPlace := ["internal/bytealg.IndexByteString", "internal/bytealg.IndexString"], unfollowed := true, recurses := true, named := ["internal/bytealg.MaxLen", "emend/pptok.signs", "emend/direct.words"], apart := false, laid := [("emend/direct.words", laid_emend_direct_words), ("emend/pptok.signs", laid_emend_pptok_signs)], narrowed := true }
def WorldNamesUptoSaid : Prop := worldNamesUptoRow.holds Tryd.pinned (OpenSpec.upto worldNamesSpec)

/-- 'emendlaw11.WorldAsked', WHERE WHAT IT READS IS OF BULK AT MOST 1048576: true; the input reads as it did. -/
def worldAskedUptoRow : OpenClaim := { program := "ytdbcklichbiihaadoor", sum := "ea7fd1447046959ced0ed2a126e70310436897d890a171ea5df142f812caa36b", func := "emend/emendlaw11.WorldAsked", spec := "worldAsked", inPlace := ["internal/bytealg.IndexByteString", "internal/bytealg.IndexString"], unfollowed := true, recurses := true, named := ["internal/bytealg.MaxLen", "emend/pptok.signs", "emend/direct.words"], apart := false, laid := [("emend/direct.words", laid_emend_direct_words), ("emend/pptok.signs", laid_emend_pptok_signs)], narrowed := true }
def WorldAskedUptoSaid : Prop := worldAskedUptoRow.holds Tryd.pinned (OpenSpec.upto worldAskedSpec)

/-- 'emendlaw11.WorldTurned', WHERE WHAT IT READS IS OF BULK AT MOST 1048576: true; the input reads as it did. -/
def worldTurnedUptoRow : OpenClaim := { program := "ytdbcklichbiihaadoor", sum := "ea7fd1447046959ced0ed2a126e70310436897d890a171ea5df142f812caa36b", func := "emend/emendlaw11.WorldTurned", spec := "worldTurned", inPlace := ["internal/bytealg.IndexByteString", "internal/bytealg.IndexString"], unfollowed := true, recurses := true, named := ["internal/bytealg.MaxLen", "emend/pptok.signs", "emend/direct.words"], apart := false, laid := [("emend/direct.words", laid_emend_direct_words), ("emend/pptok.signs", laid_emend_pptok_signs)], narrowed := true }
def WorldTurnedUptoSaid : Prop := worldTurnedUptoRow.holds Tryd.pinned (OpenSpec.upto worldTurnedSpec)

end Rows
end Go.Proofs.YtdbcklichbiihaaDoor
