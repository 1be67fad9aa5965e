/-
  DERIVED. GIVEN WITH THE SEED: THE CARDS: each row of YtdbcklichbiihaaDoorRows.lean that lists a variable, with what it lists TIED to the program's text (the seventh form; the later family's looks); each row that meets fmt, with fmt's text TOLD by the authors' own Lean function (tested against real Go, not proved from fmt's source: count such statements apart). THE CARD IS WHAT COUNTS. Prove the row's statement (the work); the ties are given (YtdbcklichbiihaaDoorTie.lean); close each card by the builder's one call (the guide's Derived/Test/ToyasCard.lean, 'card_holds'). Laid BY PROGRAM, IN A SANDBOX (cutbox-door.mjs). By AI agents, Wed Nov 11 2026. No macro, syntax, notation, axiom, sorry.
-/
import Derived.Test.YtdbcklichbiihaaDoorRows
import GoSem.ClaimSeven
namespace Go.Proofs.YtdbcklichbiihaaDoor
namespace Rows

/-- THE TIED CARD OF 'emendlaw11.WorldSets'. -/
def worldSetsCard : Claim7 := { stood := { row := worldSetsRow, standIns := [], harness := (true, "8c8f5152e2a098f91877fe9b520d9db6f7f619d90ae2814dafb86e6def8619ad"), looks := false }, kinds := [], alts := [], laidByText := true, laidKinds := [.data, .data], laidTests := true, laidLooks := .later }
def WorldSetsCardSaid : Prop := Claim7.holds Tryd.pinned (.plain (OpenSpec.ofChange worldSetsSpec)) worldSetsCard

/-- THE TIED CARD OF 'emendlaw11.WorldBack'. -/
def worldBackCard : Claim7 := { stood := { row := worldBackRow, standIns := [], harness := (true, "8c8f5152e2a098f91877fe9b520d9db6f7f619d90ae2814dafb86e6def8619ad"), looks := false }, kinds := [], alts := [], laidByText := true, laidKinds := [.data, .data], laidTests := true, laidLooks := .later }
def WorldBackCardSaid : Prop := Claim7.holds Tryd.pinned (.plain (OpenSpec.ofChange worldBackSpec)) worldBackCard

/-- THE TIED CARD OF 'emendlaw11.WorldNames'. -/
def worldNamesCard : Claim7 := { stood := { row := worldNamesRow, standIns := [], harness := (true, "8c8f5152e2a098f91877fe9b520d9db6f7f619d90ae2814dafb86e6def8619ad"), looks := false }, kinds := [], alts := [], laidByText := true, laidKinds := [.data, .data], laidTests := true, laidLooks := .later }
def WorldNamesCardSaid : Prop := Claim7.holds Tryd.pinned (.plain (OpenSpec.ofChange worldNamesSpec)) worldNamesCard

/-- THE TIED CARD OF 'emendlaw11.WorldAsked'. -/
def worldAskedCard : Claim7 := { stood := { row := worldAskedRow, standIns := [], harness := (true, "8c8f5152e2a098f91877fe9b520d9db6f7f619d90ae2814dafb86e6def8619ad"), looks := false }, kinds := [], alts := [], laidByText := true, laidKinds := [.data, .data], laidTests := true, laidLooks := .later }
def WorldAskedCardSaid : Prop := Claim7.holds Tryd.pinned (.plain (OpenSpec.ofChange worldAskedSpec)) worldAskedCard

/-- THE TIED CARD OF 'emendlaw11.WorldTurned'. -/
def worldTurnedCard : Claim7 := { stood := { row := worldTurnedRow, standIns := [], harness := (true, "8c8f5152e2a098f91877fe9b520d9db6f7f619d90ae2814dafb86e6def8619ad"), looks := false }, kinds := [], alts := [], laidByText := true, laidKinds := [.data, .data], laidTests := true, laidLooks := .later }
def WorldTurnedCardSaid : Prop := Claim7.holds Tryd.pinned (.plain (OpenSpec.ofChange worldTurnedSpec)) worldTurnedCard

/-- THE SECOND FORM's CARD OF 'emendlaw11.WorldSets'. -/
def worldSetsUptoCard : Claim7 := { stood := { row := worldSetsUptoRow, standIns := [], harness := (true, "8c8f5152e2a098f91877fe9b520d9db6f7f619d90ae2814dafb86e6def8619ad"), looks := false }, kinds := [], alts := [], laidByText := true, laidKinds := [.data, .data], laidTests := true, laidLooks := .later }
def WorldSetsUptoCardSaid : Prop := Claim7.holds Tryd.pinned (.plain (OpenSpec.upto worldSetsSpec)) worldSetsUptoCard

/-- THE SECOND FORM's CARD OF 'emendlaw11.WorldBack'. -/
def worldBackUptoCard : Claim7 := { stood := { row := worldBackUptoRow, standIns := [], harness := (true, "8c8f5152e2a098f91877fe9b520d9db6f7f619d90ae2814dafb86e6def8619ad"), looks := false }, kinds := [], alts := [], laidByText := true, laidKinds := [.data, .data], laidTests := true, laidLooks := .later }
def WorldBackUptoCardSaid : Prop := Claim7.holds Tryd.pinned (.plain (OpenSpec.upto worldBackSpec)) worldBackUptoCard

/-- THE SECOND FORM's CARD OF 'emendlaw11.WorldNames'. -/
def worldNamesUptoCard : Claim7 := { stood := { row := worldNamesUptoRow, standIns := [], harness := (true, "8c8f5152e2a098f91877fe9b520d9db6f7f619d90ae2814dafb86e6def8619ad"), looks := false }, kinds := [], alts := [], laidByText := true, laidKinds := [.data, .data], laidTests := true, laidLooks := .later }
def WorldNamesUptoCardSaid : Prop := Claim7.holds Tryd.pinned (.plain (OpenSpec.upto worldNamesSpec)) worldNamesUptoCard

/-- THE SECOND FORM's CARD OF 'emendlaw11.WorldAsked'. -/
def worldAskedUptoCard : Claim7 := { stood := { row := worldAskedUptoRow, standIns := [], harness := (true, "8c8f5152e2a098f91877fe9b520d9db6f7f619d90ae2814dafb86e6def8619ad"), looks := false }, kinds := [], alts := [], laidByText := true, laidKinds := [.data, .data], laidTests := true, laidLooks := .later }
def WorldAskedUptoCardSaid : Prop := Claim7.holds Tryd.pinned (.plain (OpenSpec.upto worldAskedSpec)) worldAskedUptoCard

/-- THE SECOND FORM's CARD OF 'emendlaw11.WorldTurned'. -/
def worldTurnedUptoCard : Claim7 := { stood := { row := worldTurnedUptoRow, standIns := [], harness := (true, "8c8f5152e2a098f91877fe9b520d9db6f7f619d90ae2814dafb86e6def8619ad"), looks := false }, kinds := [], alts := [], laidByText := true, laidKinds := [.data, .data], laidTests := true, laidLooks := .later }
def WorldTurnedUptoCardSaid : Prop := Claim7.holds Tryd.pinned (.plain (OpenSpec.upto worldTurnedSpec)) worldTurnedUptoCard
end Rows
end Go.Proofs.YtdbcklichbiihaaDoor
