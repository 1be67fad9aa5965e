/-
  No cell of these rows narrows 'for every input' (looked for: loops, veiled, ifaces, maps, wideKeys, modest, calm, conditions, laid).
  DERIVED. THE GIVEN ROWS OF THIS SEAT. 5 by the template 'for every input the law returns true; each argument reads behind the call as it read before'; 0 by the template 'total and deterministic' (their statements: YtogbccggnjidpaaTotals.lean).
  GIVEN WITH THE SEED: the statements are not yours to turn. If you find one false, say at which input.
  Laid BY PROGRAM, IN A SANDBOX (cutbox-rows.mjs): the forced cells as the released guide's own fill.sh prints them over the translation 3a8e28aba628f069… (all of the seat's roots in one cut). By AI agents, Wed Nov 11 2026. No macro, syntax, notation, axiom, sorry.
-/
import Derived.Test.YtogbccggnjidpaaChecked
import GoSem.Claim
import GoSem.ClaimJoined
import GoSem.ClaimMapViews
import Derived.JoinedTies
import Derived.KernelRfl
namespace Go.Proofs.Ytogbccggnjidpaa
/- THE CELL 'sum', in the pinned program and in every row, IS THE sha256 OF THE DUMP (.gsa) THAT YtogbccggnjidpaaProg.lean LOADS. Nothing in Lean hashes anything: it is a label: what it is worth is what the hold of that sum in a sandbox is worth. -/
noncomputable def Try.pinned : Pinned := { name := "ytogbccggnjidpaa", sum := "3a8e28aba628f069d4d950994a108e7601e5fcd7df999d5cb2d60c2809edbbe7", checked := Try.checked }
namespace Rows
def none {H : Type} : Left H := { results := [], args := [] }

/-- 'emendlaw02.SpliceJoins': WHATEVER THE INPUT: true; the input reads as it did. -/
def spliceJoinsSpec : ChangeSpec := { name := "spliceJoins", fn := fun _ => fun
  | [d] => { results := [.lit (.bool true)], args := [d] }
  | _ => none }
def spliceJoinsRow : OpenClaim := { program := "ytogbccggnjidpaa", sum := "3a8e28aba628f069d4d950994a108e7601e5fcd7df999d5cb2d60c2809edbbe7", func := "emend/emendlaw02.SpliceJoins", spec := "spliceJoins", inPlace := ["internal/abi.NoEscape", "internal/bytealg.MakeNoZero", "internal/bytealg.CountString", "internal/bytealg.IndexByteString", "internal/bytealg.IndexString"], unfollowed := true, recurses := true, named := ["internal/bytealg.MaxLen"], apart := false }
def SpliceJoinsSaid : Prop := spliceJoinsRow.holds Try.pinned (OpenSpec.ofChange spliceJoinsSpec)

/-- ITS FALSE NEIGHBOUR: 'it returns false'. Refute it at one input. -/
def spliceJoinsWrong : ChangeSpec := { name := "spliceJoins", fn := fun _ => fun
  | [d] => { results := [.lit (.bool false)], args := [d] }
  | _ => none }
def SpliceJoinsWrongFalsely : Prop := spliceJoinsRow.holds Try.pinned (OpenSpec.ofChange spliceJoinsWrong)

/-- 'emendlaw02.SpliceSpans': WHATEVER THE INPUT: true; the input reads as it did. -/
def spliceSpansSpec : ChangeSpec := { name := "spliceSpans", fn := fun _ => fun
  | [d1, d2, d3] => { results := [.lit (.bool true)], args := [d1, d2, d3] }
  | _ => none }
def spliceSpansRow : OpenClaim := { program := "ytogbccggnjidpaa", sum := "3a8e28aba628f069d4d950994a108e7601e5fcd7df999d5cb2d60c2809edbbe7", func := "emend/emendlaw02.SpliceSpans", spec := "spliceSpans", inPlace := ["internal/abi.NoEscape", "internal/bytealg.MakeNoZero", "internal/bytealg.CountString", "internal/bytealg.IndexByteString", "internal/bytealg.IndexString"], unfollowed := true, recurses := true, named := ["internal/bytealg.MaxLen"], apart := false }
def SpliceSpansSaid : Prop := spliceSpansRow.holds Try.pinned (OpenSpec.ofChange spliceSpansSpec)

/-- ITS FALSE NEIGHBOUR: 'it returns false'. Refute it at one input. -/
def spliceSpansWrong : ChangeSpec := { name := "spliceSpans", fn := fun _ => fun
  | [d1, d2, d3] => { results := [.lit (.bool false)], args := [d1, d2, d3] }
  | _ => none }
def SpliceSpansWrongFalsely : Prop := spliceSpansRow.holds Try.pinned (OpenSpec.ofChange spliceSpansWrong)

/-- 'emendlaw02.SpliceSpreads': WHATEVER THE INPUT: true; the input reads as it did. -/
def spliceSpreadsSpec : ChangeSpec := { name := "spliceSpreads", fn := fun _ => fun
  | [d1, d2] => { results := [.lit (.bool true)], args := [d1, d2] }
  | _ => none }
def spliceSpreadsRow : OpenClaim := { program := "ytogbccggnjidpaa", sum := "3a8e28aba628f069d4d950994a108e7601e5fcd7df999d5cb2d60c2809edbbe7", func := "emend/emendlaw02.SpliceSpreads", spec := "spliceSpreads", inPlace := ["internal/abi.NoEscape", "internal/bytealg.MakeNoZero", "internal/bytealg.CountString", "internal/bytealg.IndexByteString", "internal/bytealg.IndexString"], unfollowed := true, recurses := true, named := ["internal/bytealg.MaxLen"], apart := false }
def SpliceSpreadsSaid : Prop := spliceSpreadsRow.holds Try.pinned (OpenSpec.ofChange spliceSpreadsSpec)

/-- ITS FALSE NEIGHBOUR: 'it returns false'. Refute it at one input. -/
def spliceSpreadsWrong : ChangeSpec := { name := "spliceSpreads", fn := fun _ => fun
  | [d1, d2] => { results := [.lit (.bool false)], args := [d1, d2] }
  | _ => none }
def SpliceSpreadsWrongFalsely : Prop := spliceSpreadsRow.holds Try.pinned (OpenSpec.ofChange spliceSpreadsWrong)

/-- 'emendlaw02.SpliceBack': WHATEVER THE INPUT: true; the input reads as it did. -/
def spliceBackSpec : ChangeSpec := { name := "spliceBack", fn := fun _ => fun
  | [d1, d2] => { results := [.lit (.bool true)], args := [d1, d2] }
  | _ => none }
def spliceBackRow : OpenClaim := { program := "ytogbccggnjidpaa", sum := "3a8e28aba628f069d4d950994a108e7601e5fcd7df999d5cb2d60c2809edbbe7", func := "emend/emendlaw02.SpliceBack", spec := "spliceBack", inPlace := ["internal/abi.NoEscape", "internal/bytealg.MakeNoZero", "internal/bytealg.CountString", "internal/bytealg.IndexByteString", "internal/bytealg.IndexString"], unfollowed := true, recurses := true, named := ["internal/bytealg.MaxLen"], apart := false }
def SpliceBackSaid : Prop := spliceBackRow.holds Try.pinned (OpenSpec.ofChange spliceBackSpec)

/-- ITS FALSE NEIGHBOUR: 'it returns false'. Refute it at one input. -/
def spliceBackWrong : ChangeSpec := { name := "spliceBack", fn := fun _ => fun
  | [d1, d2] => { results := [.lit (.bool false)], args := [d1, d2] }
  | _ => none }
def SpliceBackWrongFalsely : Prop := spliceBackRow.holds Try.pinned (OpenSpec.ofChange spliceBackWrong)

/-- 'emendlaw02.SpliceWhere': WHATEVER THE INPUT: true; the input reads as it did. -/
def spliceWhereSpec : ChangeSpec := { name := "spliceWhere", fn := fun _ => fun
  | [d1, d2, d3] => { results := [.lit (.bool true)], args := [d1, d2, d3] }
  | _ => none }
def spliceWhereRow : OpenClaim := { program := "ytogbccggnjidpaa", sum := "3a8e28aba628f069d4d950994a108e7601e5fcd7df999d5cb2d60c2809edbbe7", func := "emend/emendlaw02.SpliceWhere", spec := "spliceWhere", inPlace := ["internal/abi.NoEscape", "internal/bytealg.MakeNoZero", "internal/bytealg.CountString", "internal/bytealg.IndexByteString", "internal/bytealg.IndexString"], unfollowed := true, recurses := true, named := ["internal/bytealg.MaxLen"], apart := false }
def SpliceWhereSaid : Prop := spliceWhereRow.holds Try.pinned (OpenSpec.ofChange spliceWhereSpec)

/-- ITS FALSE NEIGHBOUR: 'it returns false'. Refute it at one input. -/
def spliceWhereWrong : ChangeSpec := { name := "spliceWhere", fn := fun _ => fun
  | [d1, d2, d3] => { results := [.lit (.bool false)], args := [d1, d2, d3] }
  | _ => none }
def SpliceWhereWrongFalsely : Prop := spliceWhereRow.holds Try.pinned (OpenSpec.ofChange spliceWhereWrong)

/- THE SECOND FORM. 'bulk': how many values and letters a reading holds, each counted each time it is reached (what is shared counts as often as it is met; a slice's spare places count too). A statement '..UptoSaid' is the law's where the arguments, and the package variables that the reading takes, are together of bulk at most 1048576: NARROWER than '..Said'. Prove '..Said' where nothing that the law and all that it calls make is longer than what came in: it says more and counts as full. Else prove '..UptoSaid'. A law counts once. -/
mutual
def uptoBulk {H : Type} : DataW H → Nat
  | .lit (.string bytes) => bytes.length + 1
  | .lit _ => 1
  | .nil => 1
  | .ptr d => uptoBulk d + 1
  | .slice elems spare => uptoBulkAll elems + uptoBulkAll spare + 1
  | .agg parts => uptoBulkAll parts + 1
  | .iface _ d => uptoBulk d + 1
  | .map entries => uptoBulkEntries entries + 1
  | .held _ => 1
def uptoBulkAll {H : Type} : List (DataW H) → Nat
  | [] => 0
  | d :: r => uptoBulk d + uptoBulkAll r
def uptoBulkEntries {H : Type} : List (Lit × DataW H) → Nat
  | [] => 0
  | x :: r => uptoBulkEntry x + uptoBulkEntries r
def uptoBulkEntry {H : Type} : Lit × DataW H → Nat
  | (.string bytes, d) => bytes.length + uptoBulk d + 1
  | (_, d) => uptoBulk d + 1
 end
def uptoSmall : (H : Type) → List (DataW H) → Bool := fun _ ds => decide (uptoBulkAll ds ≤ 1048576)
def OpenSpec.upto (s : _root_.Go.ChangeSpec) : _root_.Go.OpenSpec := { _root_.Go.OpenSpec.ofChange s with cond := some uptoSmall }

/-- 'emendlaw02.SpliceJoins', WHERE WHAT IT READS IS OF BULK AT MOST 1048576: true; the input reads as it did. -/
def spliceJoinsUptoRow : OpenClaim := { program := "ytogbccggnjidpaa", sum := "3a8e28aba628f069d4d950994a108e7601e5fcd7df999d5cb2d60c2809edbbe7", func := "emend/emendlaw02.SpliceJoins", spec := "spliceJoins", inPlace := ["internal/abi.NoEscape", "internal/bytealg.MakeNoZero", "internal/bytealg.CountString", "internal/bytealg.IndexByteString", "internal/bytealg.IndexString"], unfollowed := true, recurses := true, named := ["internal/bytealg.MaxLen"], apart := false, narrowed := true }
def SpliceJoinsUptoSaid : Prop := spliceJoinsUptoRow.holds Try.pinned (OpenSpec.upto spliceJoinsSpec)

/-- 'emendlaw02.SpliceSpans', WHERE WHAT IT READS IS OF BULK AT MOST 1048576: true; the input reads as it did. -/
def spliceSpansUptoRow : OpenClaim := { program := "ytogbccggnjidpaa", sum := "3a8e28aba628f069d4d950994a108e7601e5fcd7df999d5cb2d60c2809edbbe7", func := "emend/emendlaw02.SpliceSpans", spec := "spliceSpans", inPlace := ["internal/abi.NoEscape", "internal/bytealg.MakeNoZero", "internal/bytealg.CountString", "internal/bytealg.IndexByteString", "internal/bytealg.IndexString"], unfollowed := true, recurses := true, named := ["internal/bytealg.MaxLen"], apart := false, narrowed := true }
def SpliceSpansUptoSaid : Prop := spliceSpansUptoRow.holds Try.pinned (OpenSpec.upto spliceSpansSpec)

/-- 'emendlaw02.SpliceSpreads', WHERE WHAT IT READS IS OF BULK AT MOST 1048576: true; the input reads as it did. -/
def spliceSpreadsUptoRow : OpenClaim := { program := "ytogbccggnjidpaa", sum := "3a8e28aba628f069d4d950994a108e7601e5fcd7df999d5cb2d60c2809edbbe7", func := "emend/emendlaw02.SpliceSpreads", spec := "spliceSpreads", inPlace := ["internal/abi.NoEscape", "internal/bytealg.MakeNoZero", "internal/bytealg.CountString", "internal/bytealg.IndexByteString", "internal/bytealg.IndexString"], unfollowed := true, recurses := true, named := ["internal/bytealg.MaxLen"], apart := false, narrowed := true }
def SpliceSpreadsUptoSaid : Prop := spliceSpreadsUptoRow.holds Try.pinned (OpenSpec.upto spliceSpreadsSpec)

/-- 'emendlaw02.SpliceBack', WHERE WHAT IT READS IS OF BULK AT MOST 1048576: true; the input reads as it did. -/
def spliceBackUptoRow : OpenClaim := { program := "ytogbccggnjidpaa", sum := "3a8e28aba628f069d4d950994a108e7601e5fcd7df999d5cb2d60c2809edbbe7", func := "emend/emendlaw02.SpliceBack", spec := "spliceBack", inPlace := ["internal/abi.NoEscape", "internal/bytealg.MakeNoZero", "internal/bytealg.CountString", "internal/bytealg.IndexByteString", "internal/bytealg.IndexString"], unfollowed := true, recurses := true, named := ["internal/bytealg.MaxLen"], apart := false, narrowed := true }
def SpliceBackUptoSaid : Prop := spliceBackUptoRow.holds Try.pinned (OpenSpec.upto spliceBackSpec)

/-- 'emendlaw02.SpliceWhere', WHERE WHAT IT READS IS OF BULK AT MOST 1048576: true; the input reads as it did. -/
def spliceWhereUptoRow : OpenClaim := { program := "ytogbccggnjidpaa", sum := "3a8e28aba628f069d4d950994a108e7601e5fcd7df999d5cb2d60c2809edbbe7", func := "emend/emendlaw02.SpliceWhere", spec := "spliceWhere", inPlace := ["internal/abi.NoEscape", "internal/bytealg.MakeNoZero", "internal/bytealg.CountString", "internal/bytealg.IndexByteString", "internal/bytealg.IndexString"], unfollowed := true, recurses := true, named := ["internal/bytealg.MaxLen"], apart := false, narrowed := true }
def SpliceWhereUptoSaid : Prop := spliceWhereUptoRow.holds Try.pinned (OpenSpec.upto spliceWhereSpec)

end Rows
end Go.Proofs.Ytogbccggnjidpaa
