/-
  No cell of these rows narrows 'for every input' (looked for: loops, veiled, ifaces, maps, wideKeys, modest, calm, conditions, laid).
  DERIVED. THE GIVEN ROWS OF THIS SEAT. 7 by the template 'for every input the law returns true; each argument reads behind the call as it read before'; 0 by the template 'total and deterministic' (their statements: YtdflfbolaicliaaTotals.lean).
  GIVEN WITH THE SEED: the statements are not yours to turn. If you find one false, say at which input.
  Laid BY PROGRAM, IN A SANDBOX (cutbox-rows.mjs): the forced cells as the released guide's own fill.sh prints them over the translation 4df9e2732d2a9f73… (all of the seat's roots in one cut). By AI agents, Wed Nov 11 2026. No macro, syntax, notation, axiom, sorry.
-/
import Derived.Test.YtdflfbolaicliaaChecked
import GoSem.Claim
import GoSem.ClaimJoined
import GoSem.ClaimMapViews
import Derived.JoinedTies
import Derived.KernelRfl
namespace Go.Proofs.Ytdflfbolaicliaa
/- THE CELL 'sum', in the pinned program and in every row, IS THE sha256 OF THE DUMP (.gsa) THAT YtdflfbolaicliaaProg.lean LOADS. Nothing in Lean hashes anything: it is a label: what it is worth is what the hold of that sum in a sandbox is worth. -/
noncomputable def Try.pinned : Pinned := { name := "ytdflfbolaicliaa", sum := "4df9e2732d2a9f735f66264df94a92120930baf4fd385c46667c310262d307a5", checked := Try.checked }
namespace Rows
def none {H : Type} : Left H := { results := [], args := [] }

/-- 'emendlaw20.EditsPlay': WHATEVER THE INPUT: true; the input reads as it did. -/
def editsPlaySpec : ChangeSpec := { name := "editsPlay", fn := fun _ => fun
  | [d1, d2] => { results := [.lit (.bool true)], args := [d1, d2] }
  | _ => none }
def editsPlayRow : OpenClaim := { program := "ytdflfbolaicliaa", sum := "4df9e2732d2a9f735f66264df94a92120930baf4fd385c46667c310262d307a5", func := "emend/emendlaw20.EditsPlay", spec := "editsPlay", inPlace := ["internal/abi.NoEscape"], unfollowed := true, recurses := true, apart := false }
def EditsPlaySaid : Prop := editsPlayRow.holds Try.pinned (OpenSpec.ofChange editsPlaySpec)

/-- ITS FALSE NEIGHBOUR: 'it returns false'. Refute it at one input. -/
def editsPlayWrong : ChangeSpec := { name := "editsPlay", fn := fun _ => fun
  | [d1, d2] => { results := [.lit (.bool false)], args := [d1, d2] }
  | _ => none }
def EditsPlayWrongFalsely : Prop := editsPlayRow.holds Try.pinned (OpenSpec.ofChange editsPlayWrong)

/-- 'emendlaw20.EditsOrder': WHATEVER THE INPUT: true; the input reads as it did. -/
def editsOrderSpec : ChangeSpec := { name := "editsOrder", fn := fun _ => fun
  | [d1, d2] => { results := [.lit (.bool true)], args := [d1, d2] }
  | _ => none }
def editsOrderRow : OpenClaim := { program := "ytdflfbolaicliaa", sum := "4df9e2732d2a9f735f66264df94a92120930baf4fd385c46667c310262d307a5", func := "emend/emendlaw20.EditsOrder", spec := "editsOrder", inPlace := ["internal/abi.NoEscape"], unfollowed := true, recurses := true, apart := false }
def EditsOrderSaid : Prop := editsOrderRow.holds Try.pinned (OpenSpec.ofChange editsOrderSpec)

/-- ITS FALSE NEIGHBOUR: 'it returns false'. Refute it at one input. -/
def editsOrderWrong : ChangeSpec := { name := "editsOrder", fn := fun _ => fun
  | [d1, d2] => { results := [.lit (.bool false)], args := [d1, d2] }
  | _ => none }
def EditsOrderWrongFalsely : Prop := editsOrderRow.holds Try.pinned (OpenSpec.ofChange editsOrderWrong)

/-- 'emendlaw20.EditsAgain': WHATEVER THE INPUT: true; the input reads as it did. -/
def editsAgainSpec : ChangeSpec := { name := "editsAgain", fn := fun _ => fun
  | [d1, d2] => { results := [.lit (.bool true)], args := [d1, d2] }
  | _ => none }
def editsAgainRow : OpenClaim := { program := "ytdflfbolaicliaa", sum := "4df9e2732d2a9f735f66264df94a92120930baf4fd385c46667c310262d307a5", func := "emend/emendlaw20.EditsAgain", spec := "editsAgain", inPlace := ["internal/abi.NoEscape"], unfollowed := true, recurses := true, apart := false }
def EditsAgainSaid : Prop := editsAgainRow.holds Try.pinned (OpenSpec.ofChange editsAgainSpec)

/-- ITS FALSE NEIGHBOUR: 'it returns false'. Refute it at one input. -/
def editsAgainWrong : ChangeSpec := { name := "editsAgain", fn := fun _ => fun
  | [d1, d2] => { results := [.lit (.bool false)], args := [d1, d2] }
  | _ => none }
def EditsAgainWrongFalsely : Prop := editsAgainRow.holds Try.pinned (OpenSpec.ofChange editsAgainWrong)

/-- 'emendlaw20.EditsUndone': WHATEVER THE INPUT: true; the input reads as it did. -/
def editsUndoneSpec : ChangeSpec := { name := "editsUndone", fn := fun _ => fun
  | [d1, d2] => { results := [.lit (.bool true)], args := [d1, d2] }
  | _ => none }
def editsUndoneRow : OpenClaim := { program := "ytdflfbolaicliaa", sum := "4df9e2732d2a9f735f66264df94a92120930baf4fd385c46667c310262d307a5", func := "emend/emendlaw20.EditsUndone", spec := "editsUndone", inPlace := ["internal/abi.NoEscape"], unfollowed := true, recurses := true, apart := false }
def EditsUndoneSaid : Prop := editsUndoneRow.holds Try.pinned (OpenSpec.ofChange editsUndoneSpec)

/-- ITS FALSE NEIGHBOUR: 'it returns false'. Refute it at one input. -/
def editsUndoneWrong : ChangeSpec := { name := "editsUndone", fn := fun _ => fun
  | [d1, d2] => { results := [.lit (.bool false)], args := [d1, d2] }
  | _ => none }
def EditsUndoneWrongFalsely : Prop := editsUndoneRow.holds Try.pinned (OpenSpec.ofChange editsUndoneWrong)

/-- 'emendlaw20.EditsUntouched': WHATEVER THE INPUT: true; the input reads as it did. -/
def editsUntouchedSpec : ChangeSpec := { name := "editsUntouched", fn := fun _ => fun
  | [d1, d2] => { results := [.lit (.bool true)], args := [d1, d2] }
  | _ => none }
def editsUntouchedRow : OpenClaim := { program := "ytdflfbolaicliaa", sum := "4df9e2732d2a9f735f66264df94a92120930baf4fd385c46667c310262d307a5", func := "emend/emendlaw20.EditsUntouched", spec := "editsUntouched", inPlace := ["internal/abi.NoEscape"], unfollowed := true, recurses := true, apart := false }
def EditsUntouchedSaid : Prop := editsUntouchedRow.holds Try.pinned (OpenSpec.ofChange editsUntouchedSpec)

/-- ITS FALSE NEIGHBOUR: 'it returns false'. Refute it at one input. -/
def editsUntouchedWrong : ChangeSpec := { name := "editsUntouched", fn := fun _ => fun
  | [d1, d2] => { results := [.lit (.bool false)], args := [d1, d2] }
  | _ => none }
def EditsUntouchedWrongFalsely : Prop := editsUntouchedRow.holds Try.pinned (OpenSpec.ofChange editsUntouchedWrong)

/-- 'emendlaw20.EditsTouched': WHATEVER THE INPUT: true; the input reads as it did. -/
def editsTouchedSpec : ChangeSpec := { name := "editsTouched", fn := fun _ => fun
  | [d] => { results := [.lit (.bool true)], args := [d] }
  | _ => none }
def editsTouchedRow : OpenClaim := { program := "ytdflfbolaicliaa", sum := "4df9e2732d2a9f735f66264df94a92120930baf4fd385c46667c310262d307a5", func := "emend/emendlaw20.EditsTouched", spec := "editsTouched", inPlace := ["internal/abi.NoEscape"], unfollowed := true, recurses := true, apart := false }
def EditsTouchedSaid : Prop := editsTouchedRow.holds Try.pinned (OpenSpec.ofChange editsTouchedSpec)

/-- ITS FALSE NEIGHBOUR: 'it returns false'. Refute it at one input. -/
def editsTouchedWrong : ChangeSpec := { name := "editsTouched", fn := fun _ => fun
  | [d] => { results := [.lit (.bool false)], args := [d] }
  | _ => none }
def EditsTouchedWrongFalsely : Prop := editsTouchedRow.holds Try.pinned (OpenSpec.ofChange editsTouchedWrong)

/-- 'emendlaw20.EditsDiff': WHATEVER THE INPUT: true; the input reads as it did. -/
def editsDiffSpec : ChangeSpec := { name := "editsDiff", fn := fun _ => fun
  | [d1, d2] => { results := [.lit (.bool true)], args := [d1, d2] }
  | _ => none }
def editsDiffRow : OpenClaim := { program := "ytdflfbolaicliaa", sum := "4df9e2732d2a9f735f66264df94a92120930baf4fd385c46667c310262d307a5", func := "emend/emendlaw20.EditsDiff", spec := "editsDiff", inPlace := ["internal/abi.NoEscape"], unfollowed := true, recurses := true, apart := false }
def EditsDiffSaid : Prop := editsDiffRow.holds Try.pinned (OpenSpec.ofChange editsDiffSpec)

/-- ITS FALSE NEIGHBOUR: 'it returns false'. Refute it at one input. -/
def editsDiffWrong : ChangeSpec := { name := "editsDiff", fn := fun _ => fun
  | [d1, d2] => { results := [.lit (.bool false)], args := [d1, d2] }
  | _ => none }
def EditsDiffWrongFalsely : Prop := editsDiffRow.holds Try.pinned (OpenSpec.ofChange editsDiffWrong)

/- THE SECOND FORM. 'bulk': how many values and letters a reading holds, each counted each time it is reached (what is shared counts as often as it is met; a slice's spare places count too). A statement '..UptoSaid' is the law's where the arguments, and the package variables that the reading takes, are together of bulk at most 1048576: NARROWER than '..Said'. Prove '..Said' where nothing that the law and all that it calls make is longer than what came in: it says more and counts as full. Else prove '..UptoSaid'. A law counts once. -/
mutual
def uptoBulk {H : Type} : DataW H → Nat
  | .lit (.string bytes) => bytes.length + 1
  | .lit _ => 1
  | .nil => 1
  | .ptr d => uptoBulk d + 1
  | .slice elems spare => uptoBulkAll elems + uptoBulkAll spare + 1
  | .agg parts => uptoBulkAll parts + 1
  | .iface _ d => uptoBulk d + 1
  | .map entries => uptoBulkEntries entries + 1
  | .held _ => 1
def uptoBulkAll {H : Type} : List (DataW H) → Nat
  | [] => 0
  | d :: r => uptoBulk d + uptoBulkAll r
def uptoBulkEntries {H : Type} : List (Lit × DataW H) → Nat
  | [] => 0
  | x :: r => uptoBulkEntry x + uptoBulkEntries r
def uptoBulkEntry {H : Type} : Lit × DataW H → Nat
  | (.string bytes, d) => bytes.length + uptoBulk d + 1
  | (_, d) => uptoBulk d + 1
 end
def uptoSmall : (H : Type) → List (DataW H) → Bool := fun _ ds => decide (uptoBulkAll ds ≤ 1048576)
def OpenSpec.upto (s : _root_.Go.ChangeSpec) : _root_.Go.OpenSpec := { _root_.Go.OpenSpec.ofChange s with cond := some uptoSmall }

/-- 'emendlaw20.EditsPlay', WHERE WHAT IT READS IS OF BULK AT MOST 1048576: true; the input reads as it did. -/
def editsPlayUptoRow : OpenClaim := { program := "ytdflfbolaicliaa", sum := "4df9e2732d2a9f735f66264df94a92120930baf4fd385c46667c310262d307a5", func := "emend/emendlaw20.EditsPlay", spec := "editsPlay", inPlace := ["internal/abi.NoEscape"], unfollowed := true, recurses := true, apart := false, narrowed := true }
def EditsPlayUptoSaid : Prop := editsPlayUptoRow.holds Try.pinned (OpenSpec.upto editsPlaySpec)

/-- 'emendlaw20.EditsOrder', WHERE WHAT IT READS IS OF BULK AT MOST 1048576: true; the input reads as it did. -/
def editsOrderUptoRow : OpenClaim := { program := "ytdflfbolaicliaa", sum := "4df9e2732d2a9f735f66264df94a92120930baf4fd385c46667c310262d307a5", func := "emend/emendlaw20.EditsOrder", spec := "editsOrder", inPlace := ["internal/abi.NoEscape"], unfollowed := true, recurses := true, apart := false, narrowed := true }
def EditsOrderUptoSaid : Prop := editsOrderUptoRow.holds Try.pinned (OpenSpec.upto editsOrderSpec)

/-- 'emendlaw20.EditsAgain', WHERE WHAT IT READS IS OF BULK AT MOST 1048576: true; the input reads as it did. -/
def editsAgainUptoRow : OpenClaim := { program := "ytdflfbolaicliaa", sum := "4df9e2732d2a9f735f66264df94a92120930baf4fd385c46667c310262d307a5", func := "emend/emendlaw20.EditsAgain", spec := "editsAgain", inPlace := ["internal/abi.NoEscape"], unfollowed := true, recurses := true, apart := false, narrowed := true }
def EditsAgainUptoSaid : Prop := editsAgainUptoRow.holds Try.pinned (OpenSpec.upto editsAgainSpec)

/-- 'emendlaw20.EditsUndone', WHERE WHAT IT READS IS OF BULK AT MOST 1048576: true; the input reads as it did. -/
def editsUndoneUptoRow : OpenClaim := { program := "ytdflfbolaicliaa", sum := "4df9e2732d2a9f735f66264df94a92120930baf4fd385c46667c310262d307a5", func := "emend/emendlaw20.EditsUndone", spec := "editsUndone", inPlace := ["internal/abi.NoEscape"], unfollowed := true, recurses := true, apart := false, narrowed := true }
def EditsUndoneUptoSaid : Prop := editsUndoneUptoRow.holds Try.pinned (OpenSpec.upto editsUndoneSpec)

/-- 'emendlaw20.EditsUntouched', WHERE WHAT IT READS IS OF BULK AT MOST 1048576: true; the input reads as it did. -/
def editsUntouchedUptoRow : OpenClaim := { program := "ytdflfbolaicliaa", sum := "4df9e2732d2a9f735f66264df94a92120930baf4fd385c46667c310262d307a5", func := "emend/emendlaw20.EditsUntouched", spec := "editsUntouched", inPlace := ["internal/abi.NoEscape"], unfollowed := true, recurses := true, apart := false, narrowed := true }
def EditsUntouchedUptoSaid : Prop := editsUntouchedUptoRow.holds Try.pinned (OpenSpec.upto editsUntouchedSpec)

/-- 'emendlaw20.EditsTouched', WHERE WHAT IT READS IS OF BULK AT MOST 1048576: true; the input reads as it did. -/
def editsTouchedUptoRow : OpenClaim := { program := "ytdflfbolaicliaa", sum := "4df9e2732d2a9f735f66264df94a92120930baf4fd385c46667c310262d307a5", func := "emend/emendlaw20.EditsTouched", spec := "editsTouched", inPlace := ["internal/abi.NoEscape"], unfollowed := true, recurses := true, apart := false, narrowed := true }
def EditsTouchedUptoSaid : Prop := editsTouchedUptoRow.holds Try.pinned (OpenSpec.upto editsTouchedSpec)

/-- 'emendlaw20.EditsDiff', WHERE WHAT IT READS IS OF BULK AT MOST 1048576: true; the input reads as it did. -/
def editsDiffUptoRow : OpenClaim := { program := "ytdflfbolaicliaa", sum := "4df9e2732d2a9f735f66264df94a92120930baf4fd385c46667c310262d307a5", func := "emend/emendlaw20.EditsDiff", spec := "editsDiff", inPlace := ["internal/abi.NoEscape"], unfollowed := true, recurses := true, apart := false, narrowed := true }
def EditsDiffUptoSaid : Prop := editsDiffUptoRow.holds Try.pinned (OpenSpec.upto editsDiffSpec)

end Rows
end Go.Proofs.Ytdflfbolaicliaa
