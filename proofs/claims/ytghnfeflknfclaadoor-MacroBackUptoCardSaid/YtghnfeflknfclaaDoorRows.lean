/-
  NARROWER THAN 'FOR EVERY INPUT', by the rows' own cells (each row's printed sentence says how): DirectPlays: laid · DirectRaw: laid · DirectTargets: laid · DirectCovers: laid · DirectNames: laid · DirectWords: laid · MacroDefines: laid · MacroRaw: laid · MacroParams: laid · MacroSame: laid · MacroTells: laid · MacroBack: laid.
  DERIVED. THE GIVEN ROWS OF THIS SEAT. 12 by the template 'for every input the law returns true; each argument reads behind the call as it read before'; 0 by the template 'total and deterministic' (their statements: YtghnfeflknfclaaDoorTotals.lean).
  GIVEN WITH THE SEED: the statements are not yours to turn. If you find one false, say at which input.
  Laid BY PROGRAM, IN A SANDBOX (cutbox-rows.mjs): the forced cells as the released guide's own fill.sh prints them over the translation e98bc7f002ec5e1a… (all of the seat's roots in one cut). By AI agents, Wed Nov 11 2026. No macro, syntax, notation, axiom, sorry.
-/
import Derived.Test.YtghnfeflknfclaaDoorChecked
import GoSem.Claim
import GoSem.ClaimJoined
import GoSem.ClaimMapViews
import Derived.JoinedTies
import Derived.KernelRfl
namespace Go.Proofs.YtghnfeflknfclaaDoor
/- THE CELL 'sum', in the pinned program and in every row, IS THE sha256 OF THE DUMP (.gsa) THAT YtghnfeflknfclaaDoorProg.lean LOADS. Nothing in Lean hashes anything: it is a label: what it is worth is what the hold of that sum in a sandbox is worth. -/
noncomputable def Tryd.pinned : Pinned := { name := "ytghnfeflknfclaadoor", sum := "e98bc7f002ec5e1a512bd88f18590fe99de12c59d63a0292e4a8c5dec7c20651", checked := Tryd.checked }
namespace Rows
def none {H : Type} : Left H := { results := [], args := [] }

/- WHAT THE LISTED PACKAGE-LEVEL VARIABLES READ AS WHEN THE CALL BEGINS. Each datum BY PROGRAM (the guide's laid-datum.mjs) off the statement by which the dump's own 'gosem.cut.vars' lays the variable. In a bare row this is a premise. The card (YtghnfeflknfclaaDoorCards.lean) ties it to the program's text. -/
def laid_emend_direct_words {H : Type} : DataW H := .agg [.lit (.string [105, 102]), .lit (.string [105, 102, 100, 101, 102]), .lit (.string [105, 102, 110, 100, 101, 102]), .lit (.string [101, 108, 105, 102]), .lit (.string [101, 108, 115, 101]), .lit (.string [101, 110, 100, 105, 102]), .lit (.string [100, 101, 102, 105, 110, 101]), .lit (.string [117, 110, 100, 101, 102]), .lit (.string [105, 110, 99, 108, 117, 100, 101]), .lit (.string [101, 114, 114, 111, 114]), .lit (.string [112, 114, 97, 103, 109, 97]), .lit (.string [108, 105, 110, 101])]
def laid_emend_pptok_signs {H : Type} : DataW H := .agg [.lit (.string [46, 46, 46]), .lit (.string [60, 60, 61]), .lit (.string [62, 62, 61]), .lit (.string [45, 62]), .lit (.string [43, 43]), .lit (.string [45, 45]), .lit (.string [60, 60]), .lit (.string [62, 62]), .lit (.string [60, 61]), .lit (.string [62, 61]), .lit (.string [61, 61]), .lit (.string [33, 61]), .lit (.string [38, 38]), .lit (.string [124, 124]), .lit (.string [42, 61]), .lit (.string [47, 61]), .lit (.string [37, 61]), .lit (.string [43, 61]), .lit (.string [45, 61]), .lit (.string [38, 61]), .lit (.string [94, 61]), .lit (.string [124, 61]), .lit (.string [35, 35]), .lit (.string [91]), .lit (.string [93]), .lit (.string [40]), .lit (.string [41]), .lit (.string [123]), .lit (.string [125]), .lit (.string [46]), .lit (.string [38]), .lit (.string [42]), .lit (.string [43]), .lit (.string [45]), .lit (.string [126]), .lit (.string [33]), .lit (.string [47]), .lit (.string [37]), .lit (.string [60]), .lit (.string [62]), .lit (.string [94]), .lit (.string [124]), .lit (.string [63]), .lit (.string [58]), .lit (.string [59]), .lit (.string [61]), .lit (.string [44]), .lit (.string [35])]

/-- 'emendlaw04.DirectPlays': WHATEVER THE INPUT: true; the input reads as it did. -/
def directPlaysSpec : ChangeSpec := { name := "directPlays", fn := fun _ => fun
  | [d] => { results := [.lit (.bool true)], args := [d] }
  | _ => none }
def directPlaysRow : OpenClaim := { program := "ytghnfeflknfclaadoor", sum := "e98bc7f002ec5e1a512bd88f18590fe99de12c59d63a0292e4a8c5dec7c20651", func := "emend/emendlaw04.DirectPlays", spec := "directPlays", inPlace := ["internal/bytealg.IndexByteString", "internal/bytealg.IndexString"], unfollowed := true, recurses := true, named := ["internal/bytealg.MaxLen", "emend/pptok.signs", "emend/direct.words"], apart := false, laid := [("emend/direct.words", laid_emend_direct_words), ("emend/pptok.signs", laid_emend_pptok_signs)] }
def DirectPlaysSaid : Prop := directPlaysRow.holds Tryd.pinned (OpenSpec.ofChange directPlaysSpec)

/-- ITS FALSE NEIGHBOUR: 'it returns false'. Refute it at one input. -/
def directPlaysWrong : ChangeSpec := { name := "directPlays", fn := fun _ => fun
  | [d] => { results := [.lit (.bool false)], args := [d] }
  | _ => none }
def DirectPlaysWrongFalsely : Prop := directPlaysRow.holds Tryd.pinned (OpenSpec.ofChange directPlaysWrong)

/-- 'emendlaw04.DirectRaw': WHATEVER THE INPUT: true; the input reads as it did. -/
def directRawSpec : ChangeSpec := { name := "directRaw", fn := fun _ => fun
  | [d] => { results := [.lit (.bool true)], args := [d] }
  | _ => none }
def directRawRow : OpenClaim := { program := "ytghnfeflknfclaadoor", sum := "e98bc7f002ec5e1a512bd88f18590fe99de12c59d63a0292e4a8c5dec7c20651", func := "emend/emendlaw04.DirectRaw", spec := "directRaw", inPlace := ["internal/bytealg.IndexByteString", "internal/bytealg.IndexString"], unfollowed := true, recurses := true, named := ["internal/bytealg.MaxLen", "emend/pptok.signs", "emend/direct.words"], apart := false, laid := [("emend/direct.words", laid_emend_direct_words), ("emend/pptok.signs", laid_emend_pptok_signs)] }
def DirectRawSaid : Prop := directRawRow.holds Tryd.pinned (OpenSpec.ofChange directRawSpec)

/-- ITS FALSE NEIGHBOUR: 'it returns false'. Refute it at one input. -/
def directRawWrong : ChangeSpec := { name := "directRaw", fn := fun _ => fun
  | [d] => { results := [.lit (.bool false)], args := [d] }
  | _ => none }
def DirectRawWrongFalsely : Prop := directRawRow.holds Tryd.pinned (OpenSpec.ofChange directRawWrong)

/-- 'emendlaw04.DirectTargets': WHATEVER THE INPUT: true; the input reads as it did. -/
def directTargetsSpec : ChangeSpec := { name := "directTargets", fn := fun _ => fun
  | [d1, d2] => { results := [.lit (.bool true)], args := [d1, d2] }
  | _ => none }
def directTargetsRow : OpenClaim := { program := "ytghnfeflknfclaadoor", sum := "e98bc7f002ec5e1a512bd88f18590fe99de12c59d63a0292e4a8c5dec7c20651", func := "emend/emendlaw04.DirectTargets", spec := "directTargets", inPlace := ["internal/bytealg.IndexByteString", "internal/bytealg.IndexString"], unfollowed := true, recurses := true, named := ["internal/bytealg.MaxLen", "emend/pptok.signs", "emend/direct.words"], apart := false, laid := [("emend/direct.words", laid_emend_direct_words), ("emend/pptok.signs", laid_emend_pptok_signs)] }
def DirectTargetsSaid : Prop := directTargetsRow.holds Tryd.pinned (OpenSpec.ofChange directTargetsSpec)

/-- ITS FALSE NEIGHBOUR: 'it returns false'. Refute it at one input. -/
def directTargetsWrong : ChangeSpec := { name := "directTargets", fn := fun _ => fun
  | [d1, d2] => { results := [.lit (.bool false)], args := [d1, d2] }
  | _ => none }
def DirectTargetsWrongFalsely : Prop := directTargetsRow.holds Tryd.pinned (OpenSpec.ofChange directTargetsWrong)

/-- 'emendlaw04.DirectCovers': WHATEVER THE INPUT: true; the input reads as it did. -/
def directCoversSpec : ChangeSpec := { name := "directCovers", fn := fun _ => fun
  | [d] => { results := [.lit (.bool true)], args := [d] }
  | _ => none }
def directCoversRow : OpenClaim := { program := "ytghnfeflknfclaadoor", sum := "e98bc7f002ec5e1a512bd88f18590fe99de12c59d63a0292e4a8c5dec7c20651", func := "emend/emendlaw04.DirectCovers", spec := "directCovers", inPlace := ["internal/bytealg.IndexByteString", "internal/bytealg.IndexString"], unfollowed := true, recurses := true, named := ["internal/bytealg.MaxLen", "emend/pptok.signs", "emend/direct.words"], apart := false, laid := [("emend/direct.words", laid_emend_direct_words), ("emend/pptok.signs", laid_emend_pptok_signs)] }
def DirectCoversSaid : Prop := directCoversRow.holds Tryd.pinned (OpenSpec.ofChange directCoversSpec)

/-- ITS FALSE NEIGHBOUR: 'it returns false'. Refute it at one input. -/
def directCoversWrong : ChangeSpec := { name := "directCovers", fn := fun _ => fun
  | [d] => { results := [.lit (.bool false)], args := [d] }
  | _ => none }
def DirectCoversWrongFalsely : Prop := directCoversRow.holds Tryd.pinned (OpenSpec.ofChange directCoversWrong)

/-- 'emendlaw04.DirectNames': WHATEVER THE INPUT: true; the input reads as it did. -/
def directNamesSpec : ChangeSpec := { name := "directNames", fn := fun _ => fun
  | [d] => { results := [.lit (.bool true)], args := [d] }
  | _ => none }
def directNamesRow : OpenClaim := { program := "ytghnfeflknfclaadoor", sum := "e98bc7f002ec5e1a512bd88f18590fe99de12c59d63a0292e4a8c5dec7c20651", func := "emend/emendlaw04.DirectNames", spec := "directNames", inPlace := ["internal/bytealg.IndexByteString", "internal/bytealg.IndexString"], unfollowed := true, recurses := true, named := ["internal/bytealg.MaxLen", "emend/pptok.signs", "emend/direct.words"], apart := false, laid := [("emend/direct.words", laid_emend_direct_words), ("emend/pptok.signs", laid_emend_pptok_signs)] }
def DirectNamesSaid : Prop := directNamesRow.holds Tryd.pinned (OpenSpec.ofChange directNamesSpec)

/-- ITS FALSE NEIGHBOUR: 'it returns false'. Refute it at one input. -/
def directNamesWrong : ChangeSpec := { name := "directNames", fn := fun _ => fun
  | [d] => { results := [.lit (.bool false)], args := [d] }
  | _ => none }
def DirectNamesWrongFalsely : Prop := directNamesRow.holds Tryd.pinned (OpenSpec.ofChange directNamesWrong)

/-- 'emendlaw04.DirectWords': WHATEVER THE INPUT: true; the input reads as it did. -/
def directWordsSpec : ChangeSpec := { name := "directWords", fn := fun _ => fun
  | [d1, d2] => { results := [.lit (.bool true)], args := [d1, d2] }
  | _ => none }
def directWordsRow : OpenClaim := { program := "ytghnfeflknfclaadoor", sum := "e98bc7f002ec5e1a512bd88f18590fe99de12c59d63a0292e4a8c5dec7c20651", func := "emend/emendlaw04.DirectWords", spec := "directWords", inPlace := ["internal/bytealg.IndexByteString", "internal/bytealg.IndexString"], unfollowed := true, recurses := true, named := ["internal/bytealg.MaxLen", "emend/pptok.signs", "emend/direct.words"], apart := false, laid := [("emend/direct.words", laid_emend_direct_words), ("emend/pptok.signs", laid_emend_pptok_signs)] }
def DirectWordsSaid : Prop := directWordsRow.holds Tryd.pinned (OpenSpec.ofChange directWordsSpec)

/-- ITS FALSE NEIGHBOUR: 'it returns false'. Refute it at one input. -/
def directWordsWrong : ChangeSpec := { name := "directWords", fn := fun _ => fun
  | [d1, d2] => { results := [.lit (.bool false)], args := [d1, d2] }
  | _ => none }
def DirectWordsWrongFalsely : Prop := directWordsRow.holds Tryd.pinned (OpenSpec.ofChange directWordsWrong)

/-- 'emendlaw06.MacroDefines': WHATEVER THE INPUT: true; the input reads as it did. -/
def macroDefinesSpec : ChangeSpec := { name := "macroDefines", fn := fun _ => fun
  | [d] => { results := [.lit (.bool true)], args := [d] }
  | _ => none }
def macroDefinesRow : OpenClaim := { program := "ytghnfeflknfclaadoor", sum := "e98bc7f002ec5e1a512bd88f18590fe99de12c59d63a0292e4a8c5dec7c20651", func := "emend/emendlaw06.MacroDefines", spec := "macroDefines", inPlace := ["internal/bytealg.IndexByteString", "internal/bytealg.IndexString"], unfollowed := true, recurses := true, named := ["internal/bytealg.MaxLen", "emend/pptok.signs"], apart := false, laid := [("emend/pptok.signs", laid_emend_pptok_signs)] }
def MacroDefinesSaid : Prop := macroDefinesRow.holds Tryd.pinned (OpenSpec.ofChange macroDefinesSpec)

/-- ITS FALSE NEIGHBOUR: 'it returns false'. Refute it at one input. -/
def macroDefinesWrong : ChangeSpec := { name := "macroDefines", fn := fun _ => fun
  | [d] => { results := [.lit (.bool false)], args := [d] }
  | _ => none }
def MacroDefinesWrongFalsely : Prop := macroDefinesRow.holds Tryd.pinned (OpenSpec.ofChange macroDefinesWrong)

/-- 'emendlaw06.MacroRaw': WHATEVER THE INPUT: true; the input reads as it did. -/
def macroRawSpec : ChangeSpec := { name := "macroRaw", fn := fun _ => fun
  | [d] => { results := [.lit (.bool true)], args := [d] }
  | _ => none }
def macroRawRow : OpenClaim := { program := "ytghnfeflknfclaadoor", sum := "e98bc7f002ec5e1a512bd88f18590fe99de12c59d63a0292e4a8c5dec7c20651", func := "emend/emendlaw06.MacroRaw", spec := "macroRaw", inPlace := ["internal/bytealg.IndexByteString", "internal/bytealg.IndexString"], unfollowed := true, recurses := true, named := ["internal/bytealg.MaxLen", "emend/pptok.signs"], apart := false, laid := [("emend/pptok.signs", laid_emend_pptok_signs)] }
def MacroRawSaid : Prop := macroRawRow.holds Tryd.pinned (OpenSpec.ofChange macroRawSpec)

/-- ITS FALSE NEIGHBOUR: 'it returns false'. Refute it at one input. -/
def macroRawWrong : ChangeSpec := { name := "macroRaw", fn := fun _ => fun
  | [d] => { results := [.lit (.bool false)], args := [d] }
  | _ => none }
def MacroRawWrongFalsely : Prop := macroRawRow.holds Tryd.pinned (OpenSpec.ofChange macroRawWrong)

/-- 'emendlaw06.MacroParams': WHATEVER THE INPUT: true; the input reads as it did. -/
def macroParamsSpec : ChangeSpec := { name := "macroParams", fn := fun _ => fun
  | [d1, d2] => { results := [.lit (.bool true)], args := [d1, d2] }
  | _ => none }
def macroParamsRow : OpenClaim := { program := "ytghnfeflknfclaadoor", sum := "e98bc7f002ec5e1a512bd88f18590fe99de12c59d63a0292e4a8c5dec7c20651", func := "emend/emendlaw06.MacroParams", spec := "macroParams", inPlace := ["internal/bytealg.IndexByteString", "internal/bytealg.IndexString"], unfollowed := true, recurses := true, named := ["internal/bytealg.MaxLen", "emend/pptok.signs"], apart := false, laid := [("emend/pptok.signs", laid_emend_pptok_signs)] }
def MacroParamsSaid : Prop := macroParamsRow.holds Tryd.pinned (OpenSpec.ofChange macroParamsSpec)

/-- ITS FALSE NEIGHBOUR: 'it returns false'. Refute it at one input. -/
def macroParamsWrong : ChangeSpec := { name := "macroParams", fn := fun _ => fun
  | [d1, d2] => { results := [.lit (.bool false)], args := [d1, d2] }
  | _ => none }
def MacroParamsWrongFalsely : Prop := macroParamsRow.holds Tryd.pinned (OpenSpec.ofChange macroParamsWrong)

/-- 'emendlaw06.MacroSame': WHATEVER THE INPUT: true; the input reads as it did. -/
def macroSameSpec : ChangeSpec := { name := "macroSame", fn := fun _ => fun
  | [d1, d2, d3] => { results := [.lit (.bool true)], args := [d1, d2, d3] }
  | _ => none }
def macroSameRow : OpenClaim := { program := "ytghnfeflknfclaadoor", sum := "e98bc7f002ec5e1a512bd88f18590fe99de12c59d63a0292e4a8c5dec7c20651", func := "emend/emendlaw06.MacroSame", spec := "macroSame", inPlace := ["internal/bytealg.IndexByteString", "internal/bytealg.IndexString"], unfollowed := true, recurses := true, named := ["internal/bytealg.MaxLen", "emend/pptok.signs"], apart := false, laid := [("emend/pptok.signs", laid_emend_pptok_signs)] }
def MacroSameSaid : Prop := macroSameRow.holds Tryd.pinned (OpenSpec.ofChange macroSameSpec)

/-- ITS FALSE NEIGHBOUR: 'it returns false'. Refute it at one input. -/
def macroSameWrong : ChangeSpec := { name := "macroSame", fn := fun _ => fun
  | [d1, d2, d3] => { results := [.lit (.bool false)], args := [d1, d2, d3] }
  | _ => none }
def MacroSameWrongFalsely : Prop := macroSameRow.holds Tryd.pinned (OpenSpec.ofChange macroSameWrong)

/-- 'emendlaw06.MacroTells': WHATEVER THE INPUT: true; the input reads as it did. -/
def macroTellsSpec : ChangeSpec := { name := "macroTells", fn := fun _ => fun
  | [d1, d2, d3] => { results := [.lit (.bool true)], args := [d1, d2, d3] }
  | _ => none }
def macroTellsRow : OpenClaim := { program := "ytghnfeflknfclaadoor", sum := "e98bc7f002ec5e1a512bd88f18590fe99de12c59d63a0292e4a8c5dec7c20651", func := "emend/emendlaw06.MacroTells", spec := "macroTells", inPlace := ["internal/bytealg.IndexByteString", "internal/bytealg.IndexString", "internal/abi.NoEscape", "internal/bytealg.MakeNoZero"], unfollowed := true, recurses := true, named := ["internal/bytealg.MaxLen", "emend/pptok.signs"], apart := false, laid := [("emend/pptok.signs", laid_emend_pptok_signs)] }
def MacroTellsSaid : Prop := macroTellsRow.holds Tryd.pinned (OpenSpec.ofChange macroTellsSpec)

/-- ITS FALSE NEIGHBOUR: 'it returns false'. Refute it at one input. -/
def macroTellsWrong : ChangeSpec := { name := "macroTells", fn := fun _ => fun
  | [d1, d2, d3] => { results := [.lit (.bool false)], args := [d1, d2, d3] }
  | _ => none }
def MacroTellsWrongFalsely : Prop := macroTellsRow.holds Tryd.pinned (OpenSpec.ofChange macroTellsWrong)

/-- 'emendlaw06.MacroBack': WHATEVER THE INPUT: true; the input reads as it did. -/
def macroBackSpec : ChangeSpec := { name := "macroBack", fn := fun _ => fun
  | [d] => { results := [.lit (.bool true)], args := [d] }
  | _ => none }
def macroBackRow : OpenClaim := { program := "ytghnfeflknfclaadoor", sum := "e98bc7f002ec5e1a512bd88f18590fe99de12c59d63a0292e4a8c5dec7c20651", func := "emend/emendlaw06.MacroBack", spec := "macroBack", inPlace := ["internal/bytealg.IndexByteString", "internal/bytealg.IndexString", "internal/abi.NoEscape", "internal/bytealg.MakeNoZero"], unfollowed := true, recurses := true, named := ["internal/bytealg.MaxLen", "emend/pptok.signs"], apart := false, laid := [("emend/pptok.signs", laid_emend_pptok_signs)] }
def MacroBackSaid : Prop := macroBackRow.holds Tryd.pinned (OpenSpec.ofChange macroBackSpec)

/-- ITS FALSE NEIGHBOUR: 'it returns false'. Refute it at one input. -/
def macroBackWrong : ChangeSpec := { name := "macroBack", fn := fun _ => fun
  | [d] => { results := [.lit (.bool false)], args := [d] }
  | _ => none }
def MacroBackWrongFalsely : Prop := macroBackRow.holds Tryd.pinned (OpenSpec.ofChange macroBackWrong)

/- THE SECOND FORM. 'bulk': how many values and letters a reading holds, each counted each time it is reached (what is shared counts as often as it is met; a slice's spare places count too). A statement '..UptoSaid' is the law's where the arguments, and the package variables that the reading takes, are together of bulk at most 1048576: NARROWER than '..Said'. Prove '..Said' where nothing that the law and all that it calls make is longer than what came in: it says more and counts as full. Else prove '..UptoSaid'. A law counts once. -/
mutual
def uptoBulk {H : Type} : DataW H → Nat
  | .lit (.string bytes) => bytes.length + 1
  | .lit _ => 1
  | .nil => 1
  | .ptr d => uptoBulk d + 1
  | .slice elems spare => uptoBulkAll elems + uptoBulkAll spare + 1
  | .agg parts => uptoBulkAll parts + 1
  | .iface _ d => uptoBulk d + 1
  | .map entries => uptoBulkEntries entries + 1
  | .held _ => 1
def uptoBulkAll {H : Type} : List (DataW H) → Nat
  | [] => 0
  | d :: r => uptoBulk d + uptoBulkAll r
def uptoBulkEntries {H : Type} : List (Lit × DataW H) → Nat
  | [] => 0
  | x :: r => uptoBulkEntry x + uptoBulkEntries r
def uptoBulkEntry {H : Type} : Lit × DataW H → Nat
  | (.string bytes, d) => bytes.length + uptoBulk d + 1
  | (_, d) => uptoBulk d + 1
 end
def uptoSmall : (H : Type) → List (DataW H) → Bool := fun _ ds => decide (uptoBulkAll ds ≤ 1048576)
def OpenSpec.upto (s : _root_.Go.ChangeSpec) : _root_.Go.OpenSpec := { _root_.Go.OpenSpec.ofChange s with cond := some uptoSmall }

/-- 'emendlaw04.DirectPlays', WHERE WHAT IT READS IS OF BULK AT MOST 1048576: true; the input reads as it did. -/
def directPlaysUptoRow : OpenClaim := { program := "ytghnfeflknfclaadoor", sum := "e98bc7f002ec5e1a512bd88f18590fe99de12c59d63a0292e4a8c5dec7c20651", func := "emend/emendlaw04.DirectPlays", spec := "directPlays", inPlace := ["internal/bytealg.IndexByteString", "internal/bytealg.IndexString"], unfollowed := true, recurses := true, named := ["internal/bytealg.MaxLen", "emend/pptok.signs", "emend/direct.words"], apart := false, laid := [("emend/direct.words", laid_emend_direct_words), ("emend/pptok.signs", laid_emend_pptok_signs)], narrowed := true }
def DirectPlaysUptoSaid : Prop := directPlaysUptoRow.holds Tryd.pinned (OpenSpec.upto directPlaysSpec)

/-- 'emendlaw04.DirectRaw', WHERE WHAT IT READS IS OF BULK AT MOST 1048576: true; the input reads as it did. -/
def directRawUptoRow : OpenClaim := { program := "ytghnfeflknfclaadoor", sum := "e98bc7f002ec5e1a512bd88f18590fe99de12c59d63a0292e4a8c5dec7c20651", func := "emend/emendlaw04.DirectRaw", spec := "directRaw", inPlace := ["internal/bytealg.IndexByteString", "internal/bytealg.IndexString"], unfollowed := true, recurses := true, named := ["internal/bytealg.MaxLen", "emend/pptok.signs", "emend/direct.words"], apart := false, laid := [("emend/direct.words", laid_emend_direct_words), ("emend/pptok.signs", laid_emend_pptok_signs)], narrowed := true }
def DirectRawUptoSaid : Prop := directRawUptoRow.holds Tryd.pinned (OpenSpec.upto directRawSpec)

/-- 'emendlaw04.DirectTargets', WHERE WHAT IT READS IS OF BULK AT MOST 1048576: true; the input reads as it did. -/
def directTargetsUptoRow : OpenClaim := { program := "ytghnfeflknfclaadoor", sum := "e98bc7f002ec5e1a512bd88f18590fe99de12c59d63a0292e4a8c5dec7c20651", func := "emend/emendlaw04.DirectTargets", spec := "directTargets", inPlace := ["internal/bytealg.IndexByteString", "internal/bytealg.IndexString"], unfollowed := true, recurses := true, named := ["internal/bytealg.MaxLen", "emend/pptok.signs", "emend/direct.words"], apart := false, laid := [("emend/direct.words", laid_emend_direct_words), ("emend/pptok.signs", laid_emend_pptok_signs)], narrowed := true }
def DirectTargetsUptoSaid : Prop := directTargetsUptoRow.holds Tryd.pinned (OpenSpec.upto directTargetsSpec)

/-- 'emendlaw04.DirectCovers', WHERE WHAT IT READS IS OF BULK AT MOST 1048576: true; the input reads as it did. -/
def directCoversUptoRow : OpenClaim := { program := "ytghnfeflknfclaadoor", sum := "e98bc7f002ec5e1a512bd88f18590fe99de12c59d63a0292e4a8c5dec7c20651", func := "emend/emendlaw04.DirectCovers", spec := "directCovers", inPlace := ["internal/bytealg.IndexByteString", "internal/bytealg.IndexString"], unfollowed := true, recurses := true, named := ["internal/bytealg.MaxLen", "emend/pptok.signs", "emend/direct.words"], apart := false, laid := [("emend/direct.words", laid_emend_direct_words), ("emend/pptok.signs", laid_emend_pptok_signs)], narrowed := true }
def DirectCoversUptoSaid : Prop := directCoversUptoRow.holds Tryd.pinned (OpenSpec.upto directCoversSpec)

/-- 'emendlaw04.DirectNames', WHERE WHAT IT READS IS OF BULK AT MOST 1048576: true; the input reads as it did. -/
def directNamesUptoRow : OpenClaim := { program := "ytghnfeflknfclaadoor", sum := "e98bc7f002ec5e1a512bd88f18590fe99de12c59d63a0292e4a8c5dec7c20651", func := "emend/emendlaw04.DirectNames", spec := "directNames", inPlace := ["internal/bytealg.IndexByteString", "internal/bytealg.IndexString"], unfollowed := true, recurses := true, named := ["internal/bytealg.MaxLen", "emend/pptok.signs", "emend/direct.words"], apart := false, laid := [("emend/direct.words", laid_emend_direct_words), ("emend/pptok.signs", laid_emend_pptok_signs)], narrowed := true }
def DirectNamesUptoSaid : Prop := directNamesUptoRow.holds Tryd.pinned (OpenSpec.upto directNamesSpec)

/-- 'emendlaw04.DirectWords', WHERE WHAT IT READS IS OF BULK AT MOST 1048576: true; the input reads as it did. -/
def directWordsUptoRow : OpenClaim := { program := "ytghnfeflknfclaadoor", sum := "e98bc7f002ec5e1a512bd88f18590fe99de12c59d63a0292e4a8c5dec7c20651", func := "emend/emendlaw04.DirectWords", spec := "directWords", inPlace := ["internal/bytealg.IndexByteString", "internal/bytealg.IndexString"], unfollowed := true, recurses := true, named := ["internal/bytealg.MaxLen", "emend/pptok.signs", "emend/direct.words"], apart := false, laid := [("emend/direct.words", laid_emend_direct_words), ("emend/pptok.signs", laid_emend_pptok_signs)], narrowed := true }
def DirectWordsUptoSaid : Prop := directWordsUptoRow.holds Tryd.pinned (OpenSpec.upto directWordsSpec)

/-- 'emendlaw06.MacroDefines', WHERE WHAT IT READS IS OF BULK AT MOST 1048576: true; the input reads as it did. -/
def macroDefinesUptoRow : OpenClaim := { program := "ytghnfeflknfclaadoor", sum := "e98bc7f002ec5e1a512bd88f18590fe99de12c59d63a0292e4a8c5dec7c20651", func := "emend/emendlaw06.MacroDefines", spec := "macroDefines", inPlace := ["internal/bytealg.IndexByteString", "internal/bytealg.IndexString"], unfollowed := true, recurses := true, named := ["internal/bytealg.MaxLen", "emend/pptok.signs"], apart := false, laid := [("emend/pptok.signs", laid_emend_pptok_signs)], narrowed := true }
def MacroDefinesUptoSaid : Prop := macroDefinesUptoRow.holds Tryd.pinned (OpenSpec.upto macroDefinesSpec)

/-- 'emendlaw06.MacroRaw', WHERE WHAT IT READS IS OF BULK AT MOST 1048576: true; the input reads as it did. -/
def macroRawUptoRow : OpenClaim := { program := "ytghnfeflknfclaadoor", sum := "e98bc7f002ec5e1a512bd88f18590fe99de12c59d63a0292e4a8c5dec7c20651", func := "emend/emendlaw06.MacroRaw", spec := "macroRaw", inPlace := ["internal/bytealg.IndexByteString", "internal/bytealg.IndexString"], unfollowed := true, recurses := true, named := ["internal/bytealg.MaxLen", "emend/pptok.signs"], apart := false, laid := [("emend/pptok.signs", laid_emend_pptok_signs)], narrowed := true }
def MacroRawUptoSaid : Prop := macroRawUptoRow.holds Tryd.pinned (OpenSpec.upto macroRawSpec)

/-- 'emendlaw06.MacroParams', WHERE WHAT IT READS IS OF BULK AT MOST 1048576: true; the input reads as it did. -/
def macroParamsUptoRow : OpenClaim := { program := "ytghnfeflknfclaadoor", sum := "e98bc7f002ec5e1a512bd88f18590fe99de12c59d63a0292e4a8c5dec7c20651", func := "emend/emendlaw06.MacroParams", spec := "macroParams", inPlace := ["internal/bytealg.IndexByteString", "internal/bytealg.IndexString"], unfollowed := true, recurses := true, named := ["internal/bytealg.MaxLen", "emend/pptok.signs"], apart := false, laid := [("emend/pptok.signs", laid_emend_pptok_signs)], narrowed := true }
def MacroParamsUptoSaid : Prop := macroParamsUptoRow.holds Tryd.pinned (OpenSpec.upto macroParamsSpec)

/-- 'emendlaw06.MacroSame', WHERE WHAT IT READS IS OF BULK AT MOST 1048576: true; the input reads as it did. -/
def macroSameUptoRow : OpenClaim := { program := "ytghnfeflknfclaadoor", sum := "e98bc7f002ec5e1a512bd88f18590fe99de12c59d63a0292e4a8c5dec7c20651", func := "emend/emendlaw06.MacroSame", spec := "macroSame", inPlace := ["internal/bytealg.IndexByteString", "internal/bytealg.IndexString"], unfollowed := true, recurses := true, named := ["internal/bytealg.MaxLen", "emend/pptok.signs"], apart := false, laid := [("emend/pptok.signs", laid_emend_pptok_signs)], narrowed := true }
def MacroSameUptoSaid : Prop := macroSameUptoRow.holds Tryd.pinned (OpenSpec.upto macroSameSpec)

/-- 'emendlaw06.MacroTells', WHERE WHAT IT READS IS OF BULK AT MOST 1048576: true; the input reads as it did. -/
def macroTellsUptoRow : OpenClaim := { program := "ytghnfeflknfclaadoor", sum := "e98bc7f002ec5e1a512bd88f18590fe99de12c59d63a0292e4a8c5dec7c20651", func := "emend/emendlaw06.MacroTells", spec := "macroTells", inPlace := ["internal/bytealg.IndexByteString", "internal/bytealg.IndexString", "internal/abi.NoEscape", "internal/bytealg.MakeNoZero"], unfollowed := true, recurses := true, named := ["internal/bytealg.MaxLen", "emend/pptok.signs"], apart := false, laid := [("emend/pptok.signs", laid_emend_pptok_signs)], narrowed := true }
def MacroTellsUptoSaid : Prop := macroTellsUptoRow.holds Tryd.pinned (OpenSpec.upto macroTellsSpec)

/-- 'emendlaw06.MacroBack', WHERE WHAT IT READS IS OF BULK AT MOST 1048576: true; the input reads as it did. -/
def macroBackUptoRow : OpenClaim := { program := "ytghnfeflknfclaadoor", sum := "e98bc7f002ec5e1a512bd88f18590fe99de12c59d63a0292e4a8c5dec7c20651", func := "emend/emendlaw06.MacroBack", spec := "macroBack", inPlace := ["internal/bytealg.IndexByteString", "internal/bytealg.IndexString", "internal/abi.NoEscape", "internal/bytealg.MakeNoZero"], unfollowed := true, recurses := true, named := ["internal/bytealg.MaxLen", "emend/pptok.signs"], apart := false, laid := [("emend/pptok.signs", laid_emend_pptok_signs)], narrowed := true }
def MacroBackUptoSaid : Prop := macroBackUptoRow.holds Tryd.pinned (OpenSpec.upto macroBackSpec)

end Rows
end Go.Proofs.YtghnfeflknfclaaDoor
