/-
  NARROWER THAN 'FOR EVERY INPUT', by the rows' own cells (each row's printed sentence says how): PptokOne: laid · PptokCovers: laid · PptokPairs: laid · PptokLines: laid · PptokPlays: laid · PptokBack: laid.
  DERIVED. THE GIVEN ROWS OF THIS SEAT. 6 by the template 'for every input the law returns true; each argument reads behind the call as it read before'; 0 by the template 'total and deterministic' (their statements: YtogbccggnjidpaaDoorTotals.lean).
  GIVEN WITH THE SEED: the statements are not yours to turn. If you find one false, say at which input.
  Laid BY PROGRAM, IN A SANDBOX (cutbox-rows.mjs): the forced cells as the released guide's own fill.sh prints them over the translation a773ef59bb715fbc… (all of the seat's roots in one cut). By AI agents, Wed Nov 11 2026. No macro, syntax, notation, axiom, sorry.
-/
import Derived.Test.YtogbccggnjidpaaDoorChecked
import GoSem.Claim
import GoSem.ClaimJoined
import GoSem.ClaimMapViews
import Derived.JoinedTies
import Derived.KernelRfl
namespace Go.Proofs.YtogbccggnjidpaaDoor
/- THE CELL 'sum', in the pinned program and in every row, IS THE sha256 OF THE DUMP (.gsa) THAT YtogbccggnjidpaaDoorProg.lean LOADS. Nothing in Lean hashes anything: it is a label: what it is worth is what the hold of that sum in a sandbox is worth. -/
noncomputable def Tryd.pinned : Pinned := { name := "ytogbccggnjidpaadoor", sum := "a773ef59bb715fbcc9d04f1c7a0a6faa66f2dca5cd19c7fb02cb8b2f2cd4ac67", checked := Tryd.checked }
namespace Rows
def none {H : Type} : Left H := { results := [], args := [] }

/- WHAT THE LISTED PACKAGE-LEVEL VARIABLES READ AS WHEN THE CALL BEGINS. Each datum BY PROGRAM (the guide's laid-datum.mjs) off the statement by which the dump's own 'gosem.cut.vars' lays the variable. In a bare row this is a premise. The card (YtogbccggnjidpaaDoorCards.lean) ties it to the program's text. -/
def laid_emend_pptok_signs {H : Type} : DataW H := .agg [.lit (.string [46, 46, 46]), .lit (.string [60, 60, 61]), .lit (.string [62, 62, 61]), .lit (.string [45, 62]), .lit (.string [43, 43]), .lit (.string [45, 45]), .lit (.string [60, 60]), .lit (.string [62, 62]), .lit (.string [60, 61]), .lit (.string [62, 61]), .lit (.string [61, 61]), .lit (.string [33, 61]), .lit (.string [38, 38]), .lit (.string [124, 124]), .lit (.string [42, 61]), .lit (.string [47, 61]), .lit (.string [37, 61]), .lit (.string [43, 61]), .lit (.string [45, 61]), .lit (.string [38, 61]), .lit (.string [94, 61]), .lit (.string [124, 61]), .lit (.string [35, 35]), .lit (.string [91]), .lit (.string [93]), .lit (.string [40]), .lit (.string [41]), .lit (.string [123]), .lit (.string [125]), .lit (.string [46]), .lit (.string [38]), .lit (.string [42]), .lit (.string [43]), .lit (.string [45]), .lit (.string [126]), .lit (.string [33]), .lit (.string [47]), .lit (.string [37]), .lit (.string [60]), .lit (.string [62]), .lit (.string [94]), .lit (.string [124]), .lit (.string [63]), .lit (.string [58]), .lit (.string [59]), .lit (.string [61]), .lit (.string [44]), .lit (.string [35])]

/-- 'emendlaw03.PptokOne': WHATEVER THE INPUT: true; the input reads as it did. -/
def pptokOneSpec : ChangeSpec := { name := "pptokOne", fn := fun _ => fun
  | [d] => { results := [.lit (.bool true)], args := [d] }
  | _ => none }
def pptokOneRow : OpenClaim := { program := "ytogbccggnjidpaadoor", sum := "a773ef59bb715fbcc9d04f1c7a0a6faa66f2dca5cd19c7fb02cb8b2f2cd4ac67", func := "emend/emendlaw03.PptokOne", spec := "pptokOne", inPlace := ["internal/bytealg.IndexByteString", "internal/bytealg.IndexString"], unfollowed := true, recurses := true, named := ["internal/bytealg.MaxLen", "emend/pptok.signs"], apart := false, laid := [("emend/pptok.signs", laid_emend_pptok_signs)] }
def PptokOneSaid : Prop := pptokOneRow.holds Tryd.pinned (OpenSpec.ofChange pptokOneSpec)

/-- ITS FALSE NEIGHBOUR: 'it returns false'. Refute it at one input. -/
def pptokOneWrong : ChangeSpec := { name := "pptokOne", fn := fun _ => fun
  | [d] => { results := [.lit (.bool false)], args := [d] }
  | _ => none }
def PptokOneWrongFalsely : Prop := pptokOneRow.holds Tryd.pinned (OpenSpec.ofChange pptokOneWrong)

/-- 'emendlaw03.PptokCovers': WHATEVER THE INPUT: true; the input reads as it did. -/
def pptokCoversSpec : ChangeSpec := { name := "pptokCovers", fn := fun _ => fun
  | [d] => { results := [.lit (.bool true)], args := [d] }
  | _ => none }
def pptokCoversRow : OpenClaim := { program := "ytogbccggnjidpaadoor", sum := "a773ef59bb715fbcc9d04f1c7a0a6faa66f2dca5cd19c7fb02cb8b2f2cd4ac67", func := "emend/emendlaw03.PptokCovers", spec := "pptokCovers", inPlace := ["internal/bytealg.IndexByteString", "internal/bytealg.IndexString"], unfollowed := true, recurses := true, named := ["internal/bytealg.MaxLen", "emend/pptok.signs"], apart := false, laid := [("emend/pptok.signs", laid_emend_pptok_signs)] }
def PptokCoversSaid : Prop := pptokCoversRow.holds Tryd.pinned (OpenSpec.ofChange pptokCoversSpec)

/-- ITS FALSE NEIGHBOUR: 'it returns false'. Refute it at one input. -/
def pptokCoversWrong : ChangeSpec := { name := "pptokCovers", fn := fun _ => fun
  | [d] => { results := [.lit (.bool false)], args := [d] }
  | _ => none }
def PptokCoversWrongFalsely : Prop := pptokCoversRow.holds Tryd.pinned (OpenSpec.ofChange pptokCoversWrong)

/-- 'emendlaw03.PptokPairs': WHATEVER THE INPUT: true; the input reads as it did. -/
def pptokPairsSpec : ChangeSpec := { name := "pptokPairs", fn := fun _ => fun
  | [d1, d2] => { results := [.lit (.bool true)], args := [d1, d2] }
  | _ => none }
def pptokPairsRow : OpenClaim := { program := "ytogbccggnjidpaadoor", sum := "a773ef59bb715fbcc9d04f1c7a0a6faa66f2dca5cd19c7fb02cb8b2f2cd4ac67", func := "emend/emendlaw03.PptokPairs", spec := "pptokPairs", inPlace := ["internal/bytealg.IndexByteString", "internal/bytealg.IndexString"], unfollowed := true, recurses := true, named := ["internal/bytealg.MaxLen", "emend/pptok.signs"], apart := false, laid := [("emend/pptok.signs", laid_emend_pptok_signs)] }
def PptokPairsSaid : Prop := pptokPairsRow.holds Tryd.pinned (OpenSpec.ofChange pptokPairsSpec)

/-- ITS FALSE NEIGHBOUR: 'it returns false'. Refute it at one input. -/
def pptokPairsWrong : ChangeSpec := { name := "pptokPairs", fn := fun _ => fun
  | [d1, d2] => { results := [.lit (.bool false)], args := [d1, d2] }
  | _ => none }
def PptokPairsWrongFalsely : Prop := pptokPairsRow.holds Tryd.pinned (OpenSpec.ofChange pptokPairsWrong)

/-- 'emendlaw03.PptokLines': WHATEVER THE INPUT: true; the input reads as it did. -/
def pptokLinesSpec : ChangeSpec := { name := "pptokLines", fn := fun _ => fun
  | [d1, d2] => { results := [.lit (.bool true)], args := [d1, d2] }
  | _ => none }
def pptokLinesRow : OpenClaim := { program := "ytogbccggnjidpaadoor", sum := "a773ef59bb715fbcc9d04f1c7a0a6faa66f2dca5cd19c7fb02cb8b2f2cd4ac67", func := "emend/emendlaw03.PptokLines", spec := "pptokLines", inPlace := ["internal/bytealg.IndexByteString", "internal/bytealg.IndexString"], unfollowed := true, recurses := true, named := ["internal/bytealg.MaxLen", "emend/pptok.signs"], apart := false, laid := [("emend/pptok.signs", laid_emend_pptok_signs)] }
def PptokLinesSaid : Prop := pptokLinesRow.holds Tryd.pinned (OpenSpec.ofChange pptokLinesSpec)

/-- ITS FALSE NEIGHBOUR: 'it returns false'. Refute it at one input. -/
def pptokLinesWrong : ChangeSpec := { name := "pptokLines", fn := fun _ => fun
  | [d1, d2] => { results := [.lit (.bool false)], args := [d1, d2] }
  | _ => none }
def PptokLinesWrongFalsely : Prop := pptokLinesRow.holds Tryd.pinned (OpenSpec.ofChange pptokLinesWrong)

/-- 'emendlaw03.PptokPlays': WHATEVER THE INPUT: true; the input reads as it did. -/
def pptokPlaysSpec : ChangeSpec := { name := "pptokPlays", fn := fun _ => fun
  | [d1, d2] => { results := [.lit (.bool true)], args := [d1, d2] }
  | _ => none }
def pptokPlaysRow : OpenClaim := { program := "ytogbccggnjidpaadoor", sum := "a773ef59bb715fbcc9d04f1c7a0a6faa66f2dca5cd19c7fb02cb8b2f2cd4ac67", func := "emend/emendlaw03.PptokPlays", spec := "pptokPlays", inPlace := ["internal/bytealg.IndexByteString", "internal/bytealg.IndexString", "internal/abi.NoEscape"], unfollowed := true, recurses := true, named := ["internal/bytealg.MaxLen", "emend/pptok.signs"], apart := false, laid := [("emend/pptok.signs", laid_emend_pptok_signs)] }
def PptokPlaysSaid : Prop := pptokPlaysRow.holds Tryd.pinned (OpenSpec.ofChange pptokPlaysSpec)

/-- ITS FALSE NEIGHBOUR: 'it returns false'. Refute it at one input. -/
def pptokPlaysWrong : ChangeSpec := { name := "pptokPlays", fn := fun _ => fun
  | [d1, d2] => { results := [.lit (.bool false)], args := [d1, d2] }
  | _ => none }
def PptokPlaysWrongFalsely : Prop := pptokPlaysRow.holds Tryd.pinned (OpenSpec.ofChange pptokPlaysWrong)

/-- 'emendlaw03.PptokBack': WHATEVER THE INPUT: true; the input reads as it did. -/
def pptokBackSpec : ChangeSpec := { name := "pptokBack", fn := fun _ => fun
  | [d] => { results := [.lit (.bool true)], args := [d] }
  | _ => none }
def pptokBackRow : OpenClaim := { program := "ytogbccggnjidpaadoor", sum := "a773ef59bb715fbcc9d04f1c7a0a6faa66f2dca5cd19c7fb02cb8b2f2cd4ac67", func := "emend/emendlaw03.PptokBack", spec := "pptokBack", inPlace := ["internal/bytealg.IndexByteString", "internal/bytealg.IndexString", "internal/abi.NoEscape"], unfollowed := true, recurses := true, named := ["internal/bytealg.MaxLen", "emend/pptok.signs"], apart := false, laid := [("emend/pptok.signs", laid_emend_pptok_signs)] }
def PptokBackSaid : Prop := pptokBackRow.holds Tryd.pinned (OpenSpec.ofChange pptokBackSpec)

/-- ITS FALSE NEIGHBOUR: 'it returns false'. Refute it at one input. -/
def pptokBackWrong : ChangeSpec := { name := "pptokBack", fn := fun _ => fun
  | [d] => { results := [.lit (.bool false)], args := [d] }
  | _ => none }
def PptokBackWrongFalsely : Prop := pptokBackRow.holds Tryd.pinned (OpenSpec.ofChange pptokBackWrong)

/- THE SECOND FORM. 'bulk': how many values and letters a reading holds, each counted each time it is reached (what is shared counts as often as it is met; a slice's spare places count too). A statement '..UptoSaid' is the law's where the arguments, and the package variables that the reading takes, are together of bulk at most 1048576: NARROWER than '..Said'. Prove '..Said' where nothing that the law and all that it calls make is longer than what came in: it says more and counts as full. Else prove '..UptoSaid'. A law counts once. -/
mutual
def uptoBulk {H : Type} : DataW H → Nat
  | .lit (.string bytes) => bytes.length + 1
  | .lit _ => 1
  | .nil => 1
  | .ptr d => uptoBulk d + 1
  | .slice elems spare => uptoBulkAll elems + uptoBulkAll spare + 1
  | .agg parts => uptoBulkAll parts + 1
  | .iface _ d => uptoBulk d + 1
  | .map entries => uptoBulkEntries entries + 1
  | .held _ => 1
def uptoBulkAll {H : Type} : List (DataW H) → Nat
  | [] => 0
  | d :: r => uptoBulk d + uptoBulkAll r
def uptoBulkEntries {H : Type} : List (Lit × DataW H) → Nat
  | [] => 0
  | x :: r => uptoBulkEntry x + uptoBulkEntries r
def uptoBulkEntry {H : Type} : Lit × DataW H → Nat
  | (.string bytes, d) => bytes.length + uptoBulk d + 1
  | (_, d) => uptoBulk d + 1
 end
def uptoSmall : (H : Type) → List (DataW H) → Bool := fun _ ds => decide (uptoBulkAll ds ≤ 1048576)
def OpenSpec.upto (s : _root_.Go.ChangeSpec) : _root_.Go.OpenSpec := { _root_.Go.OpenSpec.ofChange s with cond := some uptoSmall }

/-- 'emendlaw03.PptokOne', WHERE WHAT IT READS IS OF BULK AT MOST 1048576: true; the input reads as it did. -/
def pptokOneUptoRow : OpenClaim := { program := "ytogbccggnjidpaadoor", sum := "a773ef59bb715fbcc9d04f1c7a0a6faa66f2dca5cd19c7fb02cb8b2f2cd4ac67", func := "emend/emendlaw03.PptokOne", spec := "pptokOne", inPlace := ["internal/bytealg.IndexByteString", "internal/bytealg.IndexString"], unfollowed := true, recurses := true, named := ["internal/bytealg.MaxLen", "emend/pptok.signs"], apart := false, laid := [("emend/pptok.signs", laid_emend_pptok_signs)], narrowed := true }
def PptokOneUptoSaid : Prop := pptokOneUptoRow.holds Tryd.pinned (OpenSpec.upto pptokOneSpec)

/-- 'emendlaw03.PptokCovers', WHERE WHAT IT READS IS OF BULK AT MOST 1048576: true; the input reads as it did. -/
def pptokCoversUptoRow : OpenClaim := { program := "ytogbccggnjidpaadoor", sum := "a773ef59bb715fbcc9d04f1c7a0a6faa66f2dca5cd19c7fb02cb8b2f2cd4ac67", func := "emend/emendlaw03.PptokCovers", spec := "pptokCovers", inPlace := ["internal/bytealg.IndexByteString", "internal/bytealg.IndexString"], unfollowed := true, recurses := true, named := ["internal/bytealg.MaxLen", "emend/pptok.signs"], apart := false, laid := [("emend/pptok.signs", laid_emend_pptok_signs)], narrowed := true }
def PptokCoversUptoSaid : Prop := pptokCoversUptoRow.holds Tryd.pinned (OpenSpec.upto pptokCoversSpec)

/-- 'emendlaw03.PptokPairs', WHERE WHAT IT READS IS OF BULK AT MOST 1048576: true; the input reads as it did. -/
def pptokPairsUptoRow : OpenClaim := { program := "ytogbccggnjidpaadoor", sum := "a773ef59bb715fbcc9d04f1c7a0a6faa66f2dca5cd19c7fb02cb8b2f2cd4ac67", func := "emend/emendlaw03.PptokPairs", spec := "pptokPairs", inPlace := ["internal/bytealg.IndexByteString", "internal/bytealg.IndexString"], unfollowed := true, recurses := true, named := ["internal/bytealg.MaxLen", "emend/pptok.signs"], apart := false, laid := [("emend/pptok.signs", laid_emend_pptok_signs)], narrowed := true }
def PptokPairsUptoSaid : Prop := pptokPairsUptoRow.holds Tryd.pinned (OpenSpec.upto pptokPairsSpec)

/-- 'emendlaw03.PptokLines', WHERE WHAT IT READS IS OF BULK AT MOST 1048576: true; the input reads as it did. -/
def pptokLinesUptoRow : OpenClaim := { program := "ytogbccggnjidpaadoor", sum := "a773ef59bb715fbcc9d04f1c7a0a6faa66f2dca5cd19c7fb02cb8b2f2cd4ac67", func := "emend/emendlaw03.PptokLines", spec := "pptokLines", inPlace := ["internal/bytealg.IndexByteString", "internal/bytealg.IndexString"], unfollowed := true, recurses := true, named := ["internal/bytealg.MaxLen", "emend/pptok.signs"], apart := false, laid := [("emend/pptok.signs", laid_emend_pptok_signs)], narrowed := true }
def PptokLinesUptoSaid : Prop := pptokLinesUptoRow.holds Tryd.pinned (OpenSpec.upto pptokLinesSpec)

/-- 'emendlaw03.PptokPlays', WHERE WHAT IT READS IS OF BULK AT MOST 1048576: true; the input reads as it did. -/
def pptokPlaysUptoRow : OpenClaim := { program := "ytogbccggnjidpaadoor", sum := "a773ef59bb715fbcc9d04f1c7a0a6faa66f2dca5cd19c7fb02cb8b2f2cd4ac67", func := "emend/emendlaw03.PptokPlays", spec := "pptokPlays", inPlace := ["internal/bytealg.IndexByteString", "internal/bytealg.IndexString", "internal/abi.NoEscape"], unfollowed := true, recurses := true, named := ["internal/bytealg.MaxLen", "emend/pptok.signs"], apart := false, laid := [("emend/pptok.signs", laid_emend_pptok_signs)], narrowed := true }
def PptokPlaysUptoSaid : Prop := pptokPlaysUptoRow.holds Tryd.pinned (OpenSpec.upto pptokPlaysSpec)

/-- 'emendlaw03.PptokBack', WHERE WHAT IT READS IS OF BULK AT MOST 1048576: true; the input reads as it did. -/
def pptokBackUptoRow : OpenClaim := { program := "ytogbccggnjidpaadoor", sum := "a773ef59bb715fbcc9d04f1c7a0a6faa66f2dca5cd19c7fb02cb8b2f2cd4ac67", func := "emend/emendlaw03.PptokBack", spec := "pptokBack", inPlace := ["internal/bytealg.IndexByteString", "internal/bytealg.IndexString", "internal/abi.NoEscape"], unfollowed := true, recurses := true, named := ["internal/bytealg.MaxLen", "emend/pptok.signs"], apart := false, laid := [("emend/pptok.signs", laid_emend_pptok_signs)], narrowed := true }
def PptokBackUptoSaid : Prop := pptokBackUptoRow.holds Tryd.pinned (OpenSpec.upto pptokBackSpec)

end Rows
end Go.Proofs.YtogbccggnjidpaaDoor
