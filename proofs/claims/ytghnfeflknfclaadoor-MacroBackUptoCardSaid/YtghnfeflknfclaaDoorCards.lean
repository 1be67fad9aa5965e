/-
  DERIVED. GIVEN WITH THE SEED: THE CARDS: each row of YtghnfeflknfclaaDoorRows.lean that lists a variable, with what it lists TIED to the program's text (the seventh form; the later family's looks); each row that meets fmt, with fmt's text TOLD by the authors' own Lean function (tested against real Go, not proved from fmt's source: count such statements apart). THE CARD IS WHAT COUNTS. Prove the row's statement (the work); the ties are given (YtghnfeflknfclaaDoorTie.lean); close each card by the builder's one call (the guide's Derived/Test/ToyasCard.lean, 'card_holds'). Laid BY PROGRAM, IN A SANDBOX (cutbox-door.mjs). By AI agents, Wed Nov 11 2026. No macro, syntax, notation, axiom, sorry.
-/
import Derived.Test.YtghnfeflknfclaaDoorRows
import GoSem.ClaimSeven
namespace Go.Proofs.YtghnfeflknfclaaDoor
namespace Rows

/-- THE TIED CARD OF 'emendlaw04.DirectPlays'. -/
def directPlaysCard : Claim7 := { stood := { row := directPlaysRow, standIns := [], harness := (true, "a030b7566726221417de1cc47647dc86e5f476fbce164227139cc316c6966e54"), looks := true }, kinds := [], alts := [], laidByText := true, laidKinds := [.data, .data], laidTests := true, laidLooks := .later }
def DirectPlaysCardSaid : Prop := Claim7.holds Tryd.pinned (.plain (OpenSpec.ofChange directPlaysSpec)) directPlaysCard

/-- THE TIED CARD OF 'emendlaw04.DirectRaw'. -/
def directRawCard : Claim7 := { stood := { row := directRawRow, standIns := [], harness := (true, "a030b7566726221417de1cc47647dc86e5f476fbce164227139cc316c6966e54"), looks := true }, kinds := [], alts := [], laidByText := true, laidKinds := [.data, .data], laidTests := true, laidLooks := .later }
def DirectRawCardSaid : Prop := Claim7.holds Tryd.pinned (.plain (OpenSpec.ofChange directRawSpec)) directRawCard

/-- THE TIED CARD OF 'emendlaw04.DirectTargets'. -/
def directTargetsCard : Claim7 := { stood := { row := directTargetsRow, standIns := [], harness := (true, "a030b7566726221417de1cc47647dc86e5f476fbce164227139cc316c6966e54"), looks := true }, kinds := [], alts := [], laidByText := true, laidKinds := [.data, .data], laidTests := true, laidLooks := .later }
def DirectTargetsCardSaid : Prop := Claim7.holds Tryd.pinned (.plain (OpenSpec.ofChange directTargetsSpec)) directTargetsCard

/-- THE TIED CARD OF 'emendlaw04.DirectCovers'. -/
def directCoversCard : Claim7 := { stood := { row := directCoversRow, standIns := [], harness := (true, "a030b7566726221417de1cc47647dc86e5f476fbce164227139cc316c6966e54"), looks := true }, kinds := [], alts := [], laidByText := true, laidKinds := [.data, .data], laidTests := true, laidLooks := .later }
def DirectCoversCardSaid : Prop := Claim7.holds Tryd.pinned (.plain (OpenSpec.ofChange directCoversSpec)) directCoversCard

/-- THE TIED CARD OF 'emendlaw04.DirectNames'. -/
def directNamesCard : Claim7 := { stood := { row := directNamesRow, standIns := [], harness := (true, "a030b7566726221417de1cc47647dc86e5f476fbce164227139cc316c6966e54"), looks := true }, kinds := [], alts := [], laidByText := true, laidKinds := [.data, .data], laidTests := true, laidLooks := .later }
def DirectNamesCardSaid : Prop := Claim7.holds Tryd.pinned (.plain (OpenSpec.ofChange directNamesSpec)) directNamesCard

/-- THE TIED CARD OF 'emendlaw04.DirectWords'. -/
def directWordsCard : Claim7 := { stood := { row := directWordsRow, standIns := [], harness := (true, "a030b7566726221417de1cc47647dc86e5f476fbce164227139cc316c6966e54"), looks := true }, kinds := [], alts := [], laidByText := true, laidKinds := [.data, .data], laidTests := true, laidLooks := .later }
def DirectWordsCardSaid : Prop := Claim7.holds Tryd.pinned (.plain (OpenSpec.ofChange directWordsSpec)) directWordsCard

/-- THE TIED CARD OF 'emendlaw06.MacroDefines'. -/
def macroDefinesCard : Claim7 := { stood := { row := macroDefinesRow, standIns := [], harness := (true, "a030b7566726221417de1cc47647dc86e5f476fbce164227139cc316c6966e54"), looks := true }, kinds := [], alts := [], laidByText := true, laidKinds := [.data], laidTests := true, laidLooks := .later }
def MacroDefinesCardSaid : Prop := Claim7.holds Tryd.pinned (.plain (OpenSpec.ofChange macroDefinesSpec)) macroDefinesCard

/-- THE TIED CARD OF 'emendlaw06.MacroRaw'. -/
def macroRawCard : Claim7 := { stood := { row := macroRawRow, standIns := [], harness := (true, "a030b7566726221417de1cc47647dc86e5f476fbce164227139cc316c6966e54"), looks := true }, kinds := [], alts := [], laidByText := true, laidKinds := [.data], laidTests := true, laidLooks := .later }
def MacroRawCardSaid : Prop := Claim7.holds Tryd.pinned (.plain (OpenSpec.ofChange macroRawSpec)) macroRawCard

/-- THE TIED CARD OF 'emendlaw06.MacroParams'. -/
def macroParamsCard : Claim7 := { stood := { row := macroParamsRow, standIns := [], harness := (true, "a030b7566726221417de1cc47647dc86e5f476fbce164227139cc316c6966e54"), looks := true }, kinds := [], alts := [], laidByText := true, laidKinds := [.data], laidTests := true, laidLooks := .later }
def MacroParamsCardSaid : Prop := Claim7.holds Tryd.pinned (.plain (OpenSpec.ofChange macroParamsSpec)) macroParamsCard

/-- THE TIED CARD OF 'emendlaw06.MacroSame'. -/
def macroSameCard : Claim7 := { stood := { row := macroSameRow, standIns := [], harness := (true, "a030b7566726221417de1cc47647dc86e5f476fbce164227139cc316c6966e54"), looks := true }, kinds := [], alts := [], laidByText := true, laidKinds := [.data], laidTests := true, laidLooks := .later }
def MacroSameCardSaid : Prop := Claim7.holds Tryd.pinned (.plain (OpenSpec.ofChange macroSameSpec)) macroSameCard

/-- THE TIED CARD OF 'emendlaw06.MacroTells'. -/
def macroTellsCard : Claim7 := { stood := { row := macroTellsRow, standIns := [], harness := (true, "a030b7566726221417de1cc47647dc86e5f476fbce164227139cc316c6966e54"), looks := true }, kinds := [], alts := [], laidByText := true, laidKinds := [.data], laidTests := true, laidLooks := .later }
def MacroTellsCardSaid : Prop := Claim7.holds Tryd.pinned (.plain (OpenSpec.ofChange macroTellsSpec)) macroTellsCard

/-- THE TIED CARD OF 'emendlaw06.MacroBack'. -/
def macroBackCard : Claim7 := { stood := { row := macroBackRow, standIns := [], harness := (true, "a030b7566726221417de1cc47647dc86e5f476fbce164227139cc316c6966e54"), looks := true }, kinds := [], alts := [], laidByText := true, laidKinds := [.data], laidTests := true, laidLooks := .later }
def MacroBackCardSaid : Prop := Claim7.holds Tryd.pinned (.plain (OpenSpec.ofChange macroBackSpec)) macroBackCard

/-- THE SECOND FORM's CARD OF 'emendlaw04.DirectPlays'. -/
def directPlaysUptoCard : Claim7 := { stood := { row := directPlaysUptoRow, standIns := [], harness := (true, "a030b7566726221417de1cc47647dc86e5f476fbce164227139cc316c6966e54"), looks := true }, kinds := [], alts := [], laidByText := true, laidKinds := [.data, .data], laidTests := true, laidLooks := .later }
def DirectPlaysUptoCardSaid : Prop := Claim7.holds Tryd.pinned (.plain (OpenSpec.upto directPlaysSpec)) directPlaysUptoCard

/-- THE SECOND FORM's CARD OF 'emendlaw04.DirectRaw'. -/
def directRawUptoCard : Claim7 := { stood := { row := directRawUptoRow, standIns := [], harness := (true, "a030b7566726221417de1cc47647dc86e5f476fbce164227139cc316c6966e54"), looks := true }, kinds := [], alts := [], laidByText := true, laidKinds := [.data, .data], laidTests := true, laidLooks := .later }
def DirectRawUptoCardSaid : Prop := Claim7.holds Tryd.pinned (.plain (OpenSpec.upto directRawSpec)) directRawUptoCard

/-- THE SECOND FORM's CARD OF 'emendlaw04.DirectTargets'. -/
def directTargetsUptoCard : Claim7 := { stood := { row := directTargetsUptoRow, standIns := [], harness := (true, "a030b7566726221417de1cc47647dc86e5f476fbce164227139cc316c6966e54"), looks := true }, kinds := [], alts := [], laidByText := true, laidKinds := [.data, .data], laidTests := true, laidLooks := .later }
def DirectTargetsUptoCardSaid : Prop := Claim7.holds Tryd.pinned (.plain (OpenSpec.upto directTargetsSpec)) directTargetsUptoCard

/-- THE SECOND FORM's CARD OF 'emendlaw04.DirectCovers'. -/
def directCoversUptoCard : Claim7 := { stood := { row := directCoversUptoRow, standIns := [], harness := (true, "a030b7566726221417de1cc47647dc86e5f476fbce164227139cc316c6966e54"), looks := true }, kinds := [], alts := [], laidByText := true, laidKinds := [.data, .data], laidTests := true, laidLooks := .later }
def DirectCoversUptoCardSaid : Prop := Claim7.holds Tryd.pinned (.plain (OpenSpec.upto directCoversSpec)) directCoversUptoCard

/-- THE SECOND FORM's CARD OF 'emendlaw04.DirectNames'. -/
def directNamesUptoCard : Claim7 := { stood := { row := directNamesUptoRow, standIns := [], harness := (true, "a030b7566726221417de1cc47647dc86e5f476fbce164227139cc316c6966e54"), looks := true }, kinds := [], alts := [], laidByText := true, laidKinds := [.data, .data], laidTests := true, laidLooks := .later }
def DirectNamesUptoCardSaid : Prop := Claim7.holds Tryd.pinned (.plain (OpenSpec.upto directNamesSpec)) directNamesUptoCard

/-- THE SECOND FORM's CARD OF 'emendlaw04.DirectWords'. -/
def directWordsUptoCard : Claim7 := { stood := { row := directWordsUptoRow, standIns := [], harness := (true, "a030b7566726221417de1cc47647dc86e5f476fbce164227139cc316c6966e54"), looks := true }, kinds := [], alts := [], laidByText := true, laidKinds := [.data, .data], laidTests := true, laidLooks := .later }
def DirectWordsUptoCardSaid : Prop := Claim7.holds Tryd.pinned (.plain (OpenSpec.upto directWordsSpec)) directWordsUptoCard

/-- THE SECOND FORM's CARD OF 'emendlaw06.MacroDefines'. -/
def macroDefinesUptoCard : Claim7 := { stood := { row := macroDefinesUptoRow, standIns := [], harness := (true, "a030b7566726221417de1cc47647dc86e5f476fbce164227139cc316c6966e54"), looks := true }, kinds := [], alts := [], laidByText := true, laidKinds := [.data], laidTests := true, laidLooks := .later }
def MacroDefinesUptoCardSaid : Prop := Claim7.holds Tryd.pinned (.plain (OpenSpec.upto macroDefinesSpec)) macroDefinesUptoCard

/-- THE SECOND FORM's CARD OF 'emendlaw06.MacroRaw'. -/
def macroRawUptoCard : Claim7 := { stood := { row := macroRawUptoRow, standIns := [], harness := (true, "a030b7566726221417de1cc47647dc86e5f476fbce164227139cc316c6966e54"), looks := true }, kinds := [], alts := [], laidByText := true, laidKinds := [.data], laidTests := true, laidLooks := .later }
def MacroRawUptoCardSaid : Prop := Claim7.holds Tryd.pinned (.plain (OpenSpec.upto macroRawSpec)) macroRawUptoCard

/-- THE SECOND FORM's CARD OF 'emendlaw06.MacroParams'. -/
def macroParamsUptoCard : Claim7 := { stood := { row := macroParamsUptoRow, standIns := [], harness := (true, "a030b7566726221417de1cc47647dc86e5f476fbce164227139cc316c6966e54"), looks := true }, kinds := [], alts := [], laidByText := true, laidKinds := [.data], laidTests := true, laidLooks := .later }
def MacroParamsUptoCardSaid : Prop := Claim7.holds Tryd.pinned (.plain (OpenSpec.upto macroParamsSpec)) macroParamsUptoCard

/-- THE SECOND FORM's CARD OF 'emendlaw06.MacroSame'. -/
def macroSameUptoCard : Claim7 := { stood := { row := macroSameUptoRow, standIns := [], harness := (true, "a030b7566726221417de1cc47647dc86e5f476fbce164227139cc316c6966e54"), looks := true }, kinds := [], alts := [], laidByText := true, laidKinds := [.data], laidTests := true, laidLooks := .later }
def MacroSameUptoCardSaid : Prop := Claim7.holds Tryd.pinned (.plain (OpenSpec.upto macroSameSpec)) macroSameUptoCard

/-- THE SECOND FORM's CARD OF 'emendlaw06.MacroTells'. -/
def macroTellsUptoCard : Claim7 := { stood := { row := macroTellsUptoRow, standIns := [], harness := (true, "a030b7566726221417de1cc47647dc86e5f476fbce164227139cc316c6966e54"), looks := true }, kinds := [], alts := [], laidByText := true, laidKinds := [.data], laidTests := true, laidLooks := .later }
def MacroTellsUptoCardSaid : Prop := Claim7.holds Tryd.pinned (.plain (OpenSpec.upto macroTellsSpec)) macroTellsUptoCard

/-- THE SECOND FORM's CARD OF 'emendlaw06.MacroBack'. -/
def macroBackUptoCard : Claim7 := { stood := { row := macroBackUptoRow, standIns := [], harness := (true, "a030b7566726221417de1cc47647dc86e5f476fbce164227139cc316c6966e54"), looks := true }, kinds := [], alts := [], laidByText := true, laidKinds := [.data], laidTests := true, laidLooks := .later }
def MacroBackUptoCardSaid : Prop := Claim7.holds Tryd.pinned (.plain (OpenSpec.upto macroBackSpec)) macroBackUptoCard
end Rows
end Go.Proofs.YtghnfeflknfclaaDoor
