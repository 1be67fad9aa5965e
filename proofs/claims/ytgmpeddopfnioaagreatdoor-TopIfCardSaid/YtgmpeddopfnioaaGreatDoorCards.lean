/-
  DERIVED. GIVEN WITH THE SEED: THE CARDS: each row of YtgmpeddopfnioaaGreatDoorRows.lean that lists a variable, with what it lists TIED to the program's text (the seventh form; the later family's looks); each row that meets fmt, with fmt's text TOLD by the authors' own Lean function (tested against real Go, not proved from fmt's source: count such statements apart). THE CARD IS WHAT COUNTS. Prove the row's statement (the work); the ties are given (YtgmpeddopfnioaaGreatDoorTie.lean); close each card by the builder's one call (the guide's Derived/Test/ToyasCard.lean, 'card_holds'). Laid BY PROGRAM, IN A SANDBOX (cutbox-door.mjs). By AI agents, Wed Nov 11 2026. No macro, syntax, notation, axiom, sorry.
-/
import Derived.Test.YtgmpeddopfnioaaGreatDoorRows
import GoSem.ClaimSeven
namespace Go.Proofs.YtgmpeddopfnioaaGreatDoor
namespace Rows

/-- THE TIED CARD OF 'emendtop.TopPairs'. -/
def topPairsCard : Claim7 := { stood := { row := topPairsRow, standIns := [], harness := (true, "e9eaff4a6458831f96b97c6565caab6060adea228c6ba3436a3926073b450ed4"), looks := true }, kinds := [], alts := [], laidByText := true, laidKinds := [.data, .data, .handle, .listed, .data, .data, .pinned], laidTests := true, laidLooks := .later }
def TopPairsCardSaid : Prop := Claim7.holds Tryz.pinned (.plain (OpenSpec.ofChange topPairsSpec)) topPairsCard

/-- THE TIED CARD OF 'emendtop.TopComments'. -/
def topCommentsCard : Claim7 := { stood := { row := topCommentsRow, standIns := [], harness := (true, "e9eaff4a6458831f96b97c6565caab6060adea228c6ba3436a3926073b450ed4"), looks := true }, kinds := [], alts := [], laidByText := true, laidKinds := [.data, .data, .handle, .listed, .data, .data, .pinned], laidTests := true, laidLooks := .later }
def TopCommentsCardSaid : Prop := Claim7.holds Tryz.pinned (.plain (OpenSpec.ofChange topCommentsSpec)) topCommentsCard

/-- THE TIED CARD OF 'emendtop.TopGuard'. -/
def topGuardCard : Claim7 := { stood := { row := topGuardRow, standIns := [], harness := (true, "e9eaff4a6458831f96b97c6565caab6060adea228c6ba3436a3926073b450ed4"), looks := true }, kinds := [], alts := [], laidByText := true, laidKinds := [.data, .data, .handle, .listed, .data, .data, .pinned], laidTests := true, laidLooks := .later }
def TopGuardCardSaid : Prop := Claim7.holds Tryz.pinned (.plain (OpenSpec.ofChange topGuardSpec)) topGuardCard

/-- THE TIED CARD OF 'emendtop.TopIf'. -/
def topIfCard : Claim7 := { stood := { row := topIfRow, standIns := [], harness := (true, "e9eaff4a6458831f96b97c6565caab6060adea228c6ba3436a3926073b450ed4"), looks := true }, kinds := [], alts := [], laidByText := true, laidKinds := [.data, .data, .handle, .listed, .data, .data, .pinned], laidTests := true, laidLooks := .later }
def TopIfCardSaid : Prop := Claim7.holds Tryz.pinned (.plain (OpenSpec.ofChange topIfSpec)) topIfCard

/-- THE TIED CARD OF 'emendtop.TopStrings'. -/
def topStringsCard : Claim7 := { stood := { row := topStringsRow, standIns := [], harness := (true, "e9eaff4a6458831f96b97c6565caab6060adea228c6ba3436a3926073b450ed4"), looks := true }, kinds := [], alts := [], laidByText := true, laidKinds := [.data, .data, .handle, .listed, .data, .data, .pinned], laidTests := true, laidLooks := .later }
def TopStringsCardSaid : Prop := Claim7.holds Tryz.pinned (.plain (OpenSpec.ofChange topStringsSpec)) topStringsCard

/-- THE SECOND FORM's CARD OF 'emendtop.TopPairs'. -/
def topPairsUptoCard : Claim7 := { stood := { row := topPairsUptoRow, standIns := [], harness := (true, "e9eaff4a6458831f96b97c6565caab6060adea228c6ba3436a3926073b450ed4"), looks := true }, kinds := [], alts := [], laidByText := true, laidKinds := [.data, .data, .handle, .listed, .data, .data, .pinned], laidTests := true, laidLooks := .later }
def TopPairsUptoCardSaid : Prop := Claim7.holds Tryz.pinned (.plain (OpenSpec.upto topPairsSpec)) topPairsUptoCard

/-- THE SECOND FORM's CARD OF 'emendtop.TopComments'. -/
def topCommentsUptoCard : Claim7 := { stood := { row := topCommentsUptoRow, standIns := [], harness := (true, "e9eaff4a6458831f96b97c6565caab6060adea228c6ba3436a3926073b450ed4"), looks := true }, kinds := [], alts := [], laidByText := true, laidKinds := [.data, .data, .handle, .listed, .data, .data, .pinned], laidTests := true, laidLooks := .later }
def TopCommentsUptoCardSaid : Prop := Claim7.holds Tryz.pinned (.plain (OpenSpec.upto topCommentsSpec)) topCommentsUptoCard

/-- THE SECOND FORM's CARD OF 'emendtop.TopGuard'. -/
def topGuardUptoCard : Claim7 := { stood := { row := topGuardUptoRow, standIns := [], harness := (true, "e9eaff4a6458831f96b97c6565caab6060adea228c6ba3436a3926073b450ed4"), looks := true }, kinds := [], alts := [], laidByText := true, laidKinds := [.data, .data, .handle, .listed, .data, .data, .pinned], laidTests := true, laidLooks := .later }
def TopGuardUptoCardSaid : Prop := Claim7.holds Tryz.pinned (.plain (OpenSpec.upto topGuardSpec)) topGuardUptoCard

/-- THE SECOND FORM's CARD OF 'emendtop.TopIf'. -/
def topIfUptoCard : Claim7 := { stood := { row := topIfUptoRow, standIns := [], harness := (true, "e9eaff4a6458831f96b97c6565caab6060adea228c6ba3436a3926073b450ed4"), looks := true }, kinds := [], alts := [], laidByText := true, laidKinds := [.data, .data, .handle, .listed, .data, .data, .pinned], laidTests := true, laidLooks := .later }
def TopIfUptoCardSaid : Prop := Claim7.holds Tryz.pinned (.plain (OpenSpec.upto topIfSpec)) topIfUptoCard

/-- THE SECOND FORM's CARD OF 'emendtop.TopStrings'. -/
def topStringsUptoCard : Claim7 := { stood := { row := topStringsUptoRow, standIns := [], harness := (true, "e9eaff4a6458831f96b97c6565caab6060adea228c6ba3436a3926073b450ed4"), looks := true }, kinds := [], alts := [], laidByText := true, laidKinds := [.data, .data, .handle, .listed, .data, .data, .pinned], laidTests := true, laidLooks := .later }
def TopStringsUptoCardSaid : Prop := Claim7.holds Tryz.pinned (.plain (OpenSpec.upto topStringsSpec)) topStringsUptoCard
end Rows
end Go.Proofs.YtgmpeddopfnioaaGreatDoor
