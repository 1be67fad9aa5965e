/-
  DERIVED. GIVEN WITH THE SEED: THE CARDS: each row of YtogbccggnjidpaaDoorRows.lean that lists a variable, with what it lists TIED to the program's text (the seventh form; the later family's looks); each row that meets fmt, with fmt's text TOLD by the authors' own Lean function (tested against real Go, not proved from fmt's source: count such statements apart). THE CARD IS WHAT COUNTS. Prove the row's statement (the work); the ties are given (YtogbccggnjidpaaDoorTie.lean); close each card by the builder's one call (the guide's Derived/Test/ToyasCard.lean, 'card_holds'). Laid BY PROGRAM, IN A SANDBOX (cutbox-door.mjs). By AI agents, Wed Nov 11 2026. No macro, syntax, notation, axiom, sorry.
-/
import Derived.Test.YtogbccggnjidpaaDoorRows
import GoSem.ClaimSeven
namespace Go.Proofs.YtogbccggnjidpaaDoor
namespace Rows

/-- THE TIED CARD OF 'emendlaw03.PptokOne'. -/
def pptokOneCard : Claim7 := { stood := { row := pptokOneRow, standIns := [], harness := (true, "cd91ae68f28feb0efad1173d543a6b45c601f2b9be7bed4aee2ec79fc9b964c2"), looks := false }, kinds := [], alts := [], laidByText := true, laidKinds := [.data], laidTests := true, laidLooks := .later }
def PptokOneCardSaid : Prop := Claim7.holds Tryd.pinned (.plain (OpenSpec.ofChange pptokOneSpec)) pptokOneCard

/-- THE TIED CARD OF 'emendlaw03.PptokCovers'. -/
def pptokCoversCard : Claim7 := { stood := { row := pptokCoversRow, standIns := [], harness := (true, "cd91ae68f28feb0efad1173d543a6b45c601f2b9be7bed4aee2ec79fc9b964c2"), looks := false }, kinds := [], alts := [], laidByText := true, laidKinds := [.data], laidTests := true, laidLooks := .later }
def PptokCoversCardSaid : Prop := Claim7.holds Tryd.pinned (.plain (OpenSpec.ofChange pptokCoversSpec)) pptokCoversCard

/-- THE TIED CARD OF 'emendlaw03.PptokPairs'. -/
def pptokPairsCard : Claim7 := { stood := { row := pptokPairsRow, standIns := [], harness := (true, "cd91ae68f28feb0efad1173d543a6b45c601f2b9be7bed4aee2ec79fc9b964c2"), looks := false }, kinds := [], alts := [], laidByText := true, laidKinds := [.data], laidTests := true, laidLooks := .later }
def PptokPairsCardSaid : Prop := Claim7.holds Tryd.pinned (.plain (OpenSpec.ofChange pptokPairsSpec)) pptokPairsCard

/-- THE TIED CARD OF 'emendlaw03.PptokLines'. -/
def pptokLinesCard : Claim7 := { stood := { row := pptokLinesRow, standIns := [], harness := (true, "cd91ae68f28feb0efad1173d543a6b45c601f2b9be7bed4aee2ec79fc9b964c2"), looks := false }, kinds := [], alts := [], laidByText := true, laidKinds := [.data], laidTests := true, laidLooks := .later }
def PptokLinesCardSaid : Prop := Claim7.holds Tryd.pinned (.plain (OpenSpec.ofChange pptokLinesSpec)) pptokLinesCard

/-- THE TIED CARD OF 'emendlaw03.PptokPlays'. -/
def pptokPlaysCard : Claim7 := { stood := { row := pptokPlaysRow, standIns := [], harness := (true, "cd91ae68f28feb0efad1173d543a6b45c601f2b9be7bed4aee2ec79fc9b964c2"), looks := false }, kinds := [], alts := [], laidByText := true, laidKinds := [.data], laidTests := true, laidLooks := .later }
def PptokPlaysCardSaid : Prop := Claim7.holds Tryd.pinned (.plain (OpenSpec.ofChange pptokPlaysSpec)) pptokPlaysCard

/-- THE TIED CARD OF 'emendlaw03.PptokBack'. -/
def pptokBackCard : Claim7 := { stood := { row := pptokBackRow, standIns := [], harness := (true, "cd91ae68f28feb0efad1173d543a6b45c601f2b9be7bed4aee2ec79fc9b964c2"), looks := false }, kinds := [], alts := [], laidByText := true, laidKinds := [.data], laidTests := true, laidLooks := .later }
def PptokBackCardSaid : Prop := Claim7.holds Tryd.pinned (.plain (OpenSpec.ofChange pptokBackSpec)) pptokBackCard

/-- THE SECOND FORM's CARD OF 'emendlaw03.PptokOne'. -/
def pptokOneUptoCard : Claim7 := { stood := { row := pptokOneUptoRow, standIns := [], harness := (true, "cd91ae68f28feb0efad1173d543a6b45c601f2b9be7bed4aee2ec79fc9b964c2"), looks := false }, kinds := [], alts := [], laidByText := true, laidKinds := [.data], laidTests := true, laidLooks := .later }
def PptokOneUptoCardSaid : Prop := Claim7.holds Tryd.pinned (.plain (OpenSpec.upto pptokOneSpec)) pptokOneUptoCard

/-- THE SECOND FORM's CARD OF 'emendlaw03.PptokCovers'. -/
def pptokCoversUptoCard : Claim7 := { stood := { row := pptokCoversUptoRow, standIns := [], harness := (true, "cd91ae68f28feb0efad1173d543a6b45c601f2b9be7bed4aee2ec79fc9b964c2"), looks := false }, kinds := [], alts := [], laidByText := true, laidKinds := [.data], laidTests := true, laidLooks := .later }
def PptokCoversUptoCardSaid : Prop := Claim7.holds Tryd.pinned (.plain (OpenSpec.upto pptokCoversSpec)) pptokCoversUptoCard

/-- THE SECOND FORM's CARD OF 'emendlaw03.PptokPairs'. -/
def pptokPairsUptoCard : Claim7 := { stood := { row := pptokPairsUptoRow, standIns := [], harness := (true, "cd91ae68f28feb0efad1173d543a6b45c601f2b9be7bed4aee2ec79fc9b964c2"), looks := false }, kinds := [], alts := [], laidByText := true, laidKinds := [.data], laidTests := true, laidLooks := .later }
def PptokPairsUptoCardSaid : Prop := Claim7.holds Tryd.pinned (.plain (OpenSpec.upto pptokPairsSpec)) pptokPairsUptoCard

/-- THE SECOND FORM's CARD OF 'emendlaw03.PptokLines'. -/
def pptokLinesUptoCard : Claim7 := { stood := { row := pptokLinesUptoRow, standIns := [], harness := (true, "cd91ae68f28feb0efad1173d543a6b45c601f2b9be7bed4aee2ec79fc9b964c2"), looks := false }, kinds := [], alts := [], laidByText := true, laidKinds := [.data], laidTests := true, laidLooks := .later }
def PptokLinesUptoCardSaid : Prop := Claim7.holds Tryd.pinned (.plain (OpenSpec.upto pptokLinesSpec)) pptokLinesUptoCard

/-- THE SECOND FORM's CARD OF 'emendlaw03.PptokPlays'. -/
def pptokPlaysUptoCard : Claim7 := { stood := { row := pptokPlaysUptoRow, standIns := [], harness := (true, "cd91ae68f28feb0efad1173d543a6b45c601f2b9be7bed4aee2ec79fc9b964c2"), looks := false }, kinds := [], alts := [], laidByText := true, laidKinds := [.data], laidTests := true, laidLooks := .later }
def PptokPlaysUptoCardSaid : Prop := Claim7.holds Tryd.pinned (.plain (OpenSpec.upto pptokPlaysSpec)) pptokPlaysUptoCard

/-- THE SECOND FORM's CARD OF 'emendlaw03.PptokBack'. -/
def pptokBackUptoCard : Claim7 := { stood := { row := pptokBackUptoRow, standIns := [], harness := (true, "cd91ae68f28feb0efad1173d543a6b45c601f2b9be7bed4aee2ec79fc9b964c2"), looks := false }, kinds := [], alts := [], laidByText := true, laidKinds := [.data], laidTests := true, laidLooks := .later }
def PptokBackUptoCardSaid : Prop := Claim7.holds Tryd.pinned (.plain (OpenSpec.upto pptokBackSpec)) pptokBackUptoCard
end Rows
end Go.Proofs.YtogbccggnjidpaaDoor
