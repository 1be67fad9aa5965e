/-
  No cell of these rows narrows 'for every input' (looked for: loops, veiled, ifaces, maps, wideKeys, modest, calm, conditions, laid).
  DERIVED. THE GIVEN ROWS OF THIS SEAT. 7 by the template 'for every input the law returns true; each argument reads behind the call as it read before'; 0 by the template 'total and deterministic' (their statements: YtkhgiieglpdejaaTotals.lean).
  GIVEN WITH THE SEED: the statements are not yours to turn. If you find one false, say at which input.
  Laid BY PROGRAM, IN A SANDBOX (cutbox-rows.mjs): the forced cells as the released guide's own fill.sh prints them over the translation 94f842e55ce510fa… (all of the seat's roots in one cut). By AI agents, Wed Nov 11 2026. No macro, syntax, notation, axiom, sorry.
-/
import Derived.Test.YtkhgiieglpdejaaChecked
import GoSem.Claim
import GoSem.ClaimJoined
import GoSem.ClaimMapViews
import Derived.JoinedTies
import Derived.KernelRfl
namespace Go.Proofs.Ytkhgiieglpdejaa
/- THE CELL 'sum', in the pinned program and in every row, IS THE sha256 OF THE DUMP (.gsa) THAT YtkhgiieglpdejaaProg.lean LOADS. Nothing in Lean hashes anything: it is a label: what it is worth is what the hold of that sum in a sandbox is worth. -/
noncomputable def Try.pinned : Pinned := { name := "ytkhgiieglpdejaa", sum := "94f842e55ce510fab18116f9590ae8b42f31c1748638f9059595a7f53458c8bd", checked := Try.checked }
namespace Rows
def none {H : Type} : Left H := { results := [], args := [] }

/-- 'emendlaw01.BddTells': WHATEVER THE INPUT: true; the input reads as it did. -/
def bddTellsSpec : ChangeSpec := { name := "bddTells", fn := fun _ => fun
  | [d1, d2] => { results := [.lit (.bool true)], args := [d1, d2] }
  | _ => none }
def bddTellsRow : OpenClaim := { program := "ytkhgiieglpdejaa", sum := "94f842e55ce510fab18116f9590ae8b42f31c1748638f9059595a7f53458c8bd", func := "emend/emendlaw01.BddTells", spec := "bddTells", unfollowed := true, recurses := true, plainKeys := false, apart := false }
def BddTellsSaid : Prop := bddTellsRow.holds Try.pinned (OpenSpec.ofChange bddTellsSpec)

/-- ITS FALSE NEIGHBOUR: 'it returns false'. Refute it at one input. -/
def bddTellsWrong : ChangeSpec := { name := "bddTells", fn := fun _ => fun
  | [d1, d2] => { results := [.lit (.bool false)], args := [d1, d2] }
  | _ => none }
def BddTellsWrongFalsely : Prop := bddTellsRow.holds Try.pinned (OpenSpec.ofChange bddTellsWrong)

/-- 'emendlaw01.BddThought': WHATEVER THE INPUT: true; the input reads as it did. -/
def bddThoughtSpec : ChangeSpec := { name := "bddThought", fn := fun _ => fun
  | [d1, d2, d3, d4, d5] => { results := [.lit (.bool true)], args := [d1, d2, d3, d4, d5] }
  | _ => none }
def bddThoughtRow : OpenClaim := { program := "ytkhgiieglpdejaa", sum := "94f842e55ce510fab18116f9590ae8b42f31c1748638f9059595a7f53458c8bd", func := "emend/emendlaw01.BddThought", spec := "bddThought", unfollowed := true, recurses := true, plainKeys := false, apart := false }
def BddThoughtSaid : Prop := bddThoughtRow.holds Try.pinned (OpenSpec.ofChange bddThoughtSpec)

/-- ITS FALSE NEIGHBOUR: 'it returns false'. Refute it at one input. -/
def bddThoughtWrong : ChangeSpec := { name := "bddThought", fn := fun _ => fun
  | [d1, d2, d3, d4, d5] => { results := [.lit (.bool false)], args := [d1, d2, d3, d4, d5] }
  | _ => none }
def BddThoughtWrongFalsely : Prop := bddThoughtRow.holds Try.pinned (OpenSpec.ofChange bddThoughtWrong)

/-- 'emendlaw01.BddSides': WHATEVER THE INPUT: true; the input reads as it did. -/
def bddSidesSpec : ChangeSpec := { name := "bddSides", fn := fun _ => fun
  | [d1, d2, d3, d4] => { results := [.lit (.bool true)], args := [d1, d2, d3, d4] }
  | _ => none }
def bddSidesRow : OpenClaim := { program := "ytkhgiieglpdejaa", sum := "94f842e55ce510fab18116f9590ae8b42f31c1748638f9059595a7f53458c8bd", func := "emend/emendlaw01.BddSides", spec := "bddSides", unfollowed := true, recurses := true, plainKeys := false, apart := false }
def BddSidesSaid : Prop := bddSidesRow.holds Try.pinned (OpenSpec.ofChange bddSidesSpec)

/-- ITS FALSE NEIGHBOUR: 'it returns false'. Refute it at one input. -/
def bddSidesWrong : ChangeSpec := { name := "bddSides", fn := fun _ => fun
  | [d1, d2, d3, d4] => { results := [.lit (.bool false)], args := [d1, d2, d3, d4] }
  | _ => none }
def BddSidesWrongFalsely : Prop := bddSidesRow.holds Try.pinned (OpenSpec.ofChange bddSidesWrong)

/-- 'emendlaw01.BddApart': WHATEVER THE INPUT: true; the input reads as it did. -/
def bddApartSpec : ChangeSpec := { name := "bddApart", fn := fun _ => fun
  | [d1, d2, d3] => { results := [.lit (.bool true)], args := [d1, d2, d3] }
  | _ => none }
def bddApartRow : OpenClaim := { program := "ytkhgiieglpdejaa", sum := "94f842e55ce510fab18116f9590ae8b42f31c1748638f9059595a7f53458c8bd", func := "emend/emendlaw01.BddApart", spec := "bddApart", unfollowed := true, recurses := true, plainKeys := false, apart := false }
def BddApartSaid : Prop := bddApartRow.holds Try.pinned (OpenSpec.ofChange bddApartSpec)

/-- ITS FALSE NEIGHBOUR: 'it returns false'. Refute it at one input. -/
def bddApartWrong : ChangeSpec := { name := "bddApart", fn := fun _ => fun
  | [d1, d2, d3] => { results := [.lit (.bool false)], args := [d1, d2, d3] }
  | _ => none }
def BddApartWrongFalsely : Prop := bddApartRow.holds Try.pinned (OpenSpec.ofChange bddApartWrong)

/-- 'emendlaw01.BddPlays': WHATEVER THE INPUT: true; the input reads as it did. -/
def bddPlaysSpec : ChangeSpec := { name := "bddPlays", fn := fun _ => fun
  | [d1, d2] => { results := [.lit (.bool true)], args := [d1, d2] }
  | _ => none }
def bddPlaysRow : OpenClaim := { program := "ytkhgiieglpdejaa", sum := "94f842e55ce510fab18116f9590ae8b42f31c1748638f9059595a7f53458c8bd", func := "emend/emendlaw01.BddPlays", spec := "bddPlays", unfollowed := true, recurses := true, plainKeys := false, apart := false }
def BddPlaysSaid : Prop := bddPlaysRow.holds Try.pinned (OpenSpec.ofChange bddPlaysSpec)

/-- ITS FALSE NEIGHBOUR: 'it returns false'. Refute it at one input. -/
def bddPlaysWrong : ChangeSpec := { name := "bddPlays", fn := fun _ => fun
  | [d1, d2] => { results := [.lit (.bool false)], args := [d1, d2] }
  | _ => none }
def BddPlaysWrongFalsely : Prop := bddPlaysRow.holds Try.pinned (OpenSpec.ofChange bddPlaysWrong)

/-- 'emendlaw01.BddWrong': WHATEVER THE INPUT: true; the input reads as it did. -/
def bddWrongSpec : ChangeSpec := { name := "bddWrong", fn := fun _ => fun
  | [d1, d2, d3, d4, d5] => { results := [.lit (.bool true)], args := [d1, d2, d3, d4, d5] }
  | _ => none }
def bddWrongRow : OpenClaim := { program := "ytkhgiieglpdejaa", sum := "94f842e55ce510fab18116f9590ae8b42f31c1748638f9059595a7f53458c8bd", func := "emend/emendlaw01.BddWrong", spec := "bddWrong", unfollowed := true, recurses := true, plainKeys := false, apart := false }
def BddWrongSaid : Prop := bddWrongRow.holds Try.pinned (OpenSpec.ofChange bddWrongSpec)

/-- ITS FALSE NEIGHBOUR: 'it returns false'. Refute it at one input. -/
def bddWrongWrong : ChangeSpec := { name := "bddWrong", fn := fun _ => fun
  | [d1, d2, d3, d4, d5] => { results := [.lit (.bool false)], args := [d1, d2, d3, d4, d5] }
  | _ => none }
def BddWrongWrongFalsely : Prop := bddWrongRow.holds Try.pinned (OpenSpec.ofChange bddWrongWrong)

/-- 'emendtop.Names': WHATEVER THE INPUT: true; the input reads as it did. -/
def namesSpec : ChangeSpec := { name := "names", fn := fun _ => fun
  | [] => { results := [.lit (.bool true)], args := [] }
  | _ => none }
def namesRow : OpenClaim := { program := "ytkhgiieglpdejaa", sum := "94f842e55ce510fab18116f9590ae8b42f31c1748638f9059595a7f53458c8bd", func := "emend/emendtop.Names", spec := "names", plainKeys := false, apart := false }
def NamesSaid : Prop := namesRow.holds Try.pinned (OpenSpec.ofChange namesSpec)

/-- ITS FALSE NEIGHBOUR: 'it returns false'. Refute it at one input. -/
def namesWrong : ChangeSpec := { name := "names", fn := fun _ => fun
  | [] => { results := [.lit (.bool false)], args := [] }
  | _ => none }
def NamesWrongFalsely : Prop := namesRow.holds Try.pinned (OpenSpec.ofChange namesWrong)

/- THE SECOND FORM. 'bulk': how many values and letters a reading holds, each counted each time it is reached (what is shared counts as often as it is met; a slice's spare places count too). A statement '..UptoSaid' is the law's where the arguments, and the package variables that the reading takes, are together of bulk at most 1048576: NARROWER than '..Said'. Prove '..Said' where nothing that the law and all that it calls make is longer than what came in: it says more and counts as full. Else prove '..UptoSaid'. A law counts once. -/
mutual
def uptoBulk {H : Type} : DataW H → Nat
  | .lit (.string bytes) => bytes.length + 1
  | .lit _ => 1
  | .nil => 1
  | .ptr d => uptoBulk d + 1
  | .slice elems spare => uptoBulkAll elems + uptoBulkAll spare + 1
  | .agg parts => uptoBulkAll parts + 1
  | .iface _ d => uptoBulk d + 1
  | .map entries => uptoBulkEntries entries + 1
  | .held _ => 1
def uptoBulkAll {H : Type} : List (DataW H) → Nat
  | [] => 0
  | d :: r => uptoBulk d + uptoBulkAll r
def uptoBulkEntries {H : Type} : List (Lit × DataW H) → Nat
  | [] => 0
  | x :: r => uptoBulkEntry x + uptoBulkEntries r
def uptoBulkEntry {H : Type} : Lit × DataW H → Nat
  | (.string bytes, d) => bytes.length + uptoBulk d + 1
  | (_, d) => uptoBulk d + 1
 end
def uptoSmall : (H : Type) → List (DataW H) → Bool := fun _ ds => decide (uptoBulkAll ds ≤ 1048576)
def OpenSpec.upto (s : _root_.Go.ChangeSpec) : _root_.Go.OpenSpec := { _root_.Go.OpenSpec.ofChange s with cond := some uptoSmall }

/-- 'emendlaw01.BddTells', WHERE WHAT IT READS IS OF BULK AT MOST 1048576: true; the input reads as it did. -/
def bddTellsUptoRow : OpenClaim := { program := "ytkhgiieglpdejaa", sum := "94f842e55ce510fab18116f9590ae8b42f31c1748638f9059595a7f53458c8bd", func := "emend/emendlaw01.BddTells", spec := "bddTells", unfollowed := true, recurses := true, plainKeys := false, apart := false, narrowed := true }
def BddTellsUptoSaid : Prop := bddTellsUptoRow.holds Try.pinned (OpenSpec.upto bddTellsSpec)

/-- 'emendlaw01.BddThought', WHERE WHAT IT READS IS OF BULK AT MOST 1048576: true; the input reads as it did. -/
def bddThoughtUptoRow : OpenClaim := { program := "ytkhgiieglpdejaa", sum := "94f842e55ce510fab18116f9590ae8b42f31c1748638f9059595a7f53458c8bd", func := "emend/emendlaw01.BddThought", spec := "bddThought", unfollowed := true, recurses := true, plainKeys := false, apart := false, narrowed := true }
def BddThoughtUptoSaid : Prop := bddThoughtUptoRow.holds Try.pinned (OpenSpec.upto bddThoughtSpec)

/-- 'emendlaw01.BddSides', WHERE WHAT IT READS IS OF BULK AT MOST 1048576: true; the input reads as it did. -/
def bddSidesUptoRow : OpenClaim := { program := "ytkhgiieglpdejaa", sum := "94f842e55ce510fab18116f9590ae8b42f31c1748638f9059595a7f53458c8bd", func := "emend/emendlaw01.BddSides", spec := "bddSides", unfollowed := true, recurses := true, plainKeys := false, apart := false, narrowed := true }
def BddSidesUptoSaid : Prop := bddSidesUptoRow.holds Try.pinned (OpenSpec.upto bddSidesSpec)

/-- 'emendlaw01.BddApart', WHERE WHAT IT READS IS OF BULK AT MOST 1048576: true; the input reads as it did. -/
def bddApartUptoRow : OpenClaim := { program := "ytkhgiieglpdejaa", sum := "94f842e55ce510fab18116f9590ae8b42f31c1748638f9059595a7f53458c8bd", func := "emend/emendlaw01.BddApart", spec := "bddApart", unfollowed := true, recurses := true, plainKeys := false, apart := false, narrowed := true }
def BddApartUptoSaid : Prop := bddApartUptoRow.holds Try.pinned (OpenSpec.upto bddApartSpec)

/-- 'emendlaw01.BddPlays', WHERE WHAT IT READS IS OF BULK AT MOST 1048576: true; the input reads as it did. -/
def bddPlaysUptoRow : OpenClaim := { program := "ytkhgiieglpdejaa", sum := "94f842e55ce510fab18116f9590ae8b42f31c1748638f9059595a7f53458c8bd", func := "emend/emendlaw01.BddPlays", spec := "bddPlays", unfollowed := true, recurses := true, plainKeys := false, apart := false, narrowed := true }
def BddPlaysUptoSaid : Prop := bddPlaysUptoRow.holds Try.pinned (OpenSpec.upto bddPlaysSpec)

/-- 'emendlaw01.BddWrong', WHERE WHAT IT READS IS OF BULK AT MOST 1048576: true; the input reads as it did. -/
def bddWrongUptoRow : OpenClaim := { program := "ytkhgiieglpdejaa", sum := "94f842e55ce510fab18116f9590ae8b42f31c1748638f9059595a7f53458c8bd", func := "emend/emendlaw01.BddWrong", spec := "bddWrong", unfollowed := true, recurses := true, plainKeys := false, apart := false, narrowed := true }
def BddWrongUptoSaid : Prop := bddWrongUptoRow.holds Try.pinned (OpenSpec.upto bddWrongSpec)

/-- 'emendtop.Names', WHERE WHAT IT READS IS OF BULK AT MOST 1048576: true; the input reads as it did. -/
def namesUptoRow : OpenClaim := { program := "ytkhgiieglpdejaa", sum := "94f842e55ce510fab18116f9590ae8b42f31c1748638f9059595a7f53458c8bd", func := "emend/emendtop.Names", spec := "names", plainKeys := false, apart := false, narrowed := true }
def NamesUptoSaid : Prop := namesUptoRow.holds Try.pinned (OpenSpec.upto namesSpec)

end Rows
end Go.Proofs.Ytkhgiieglpdejaa
