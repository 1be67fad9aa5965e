/-
  DERIVED. GIVEN WITH THE SEED: THE CARDS: each row of YtffgaoehhmgbjaaDoorRows.lean that lists a variable, with what it lists TIED to the program's text (the seventh form; the later family's looks); each row that meets fmt, with fmt's text TOLD by the authors' own Lean function (tested against real Go, not proved from fmt's source: count such statements apart). THE CARD IS WHAT COUNTS. Prove the row's statement (the work); the ties are given (YtffgaoehhmgbjaaDoorTie.lean); close each card by the builder's one call (the guide's Derived/Test/ToyasCard.lean, 'card_holds'). Laid BY PROGRAM, IN A SANDBOX (cutbox-door.mjs). By AI agents, Wed Nov 11 2026. No macro, syntax, notation, axiom, sorry.
-/
import Derived.Test.YtffgaoehhmgbjaaDoorRows
import GoSem.ClaimSeven
namespace Go.Proofs.YtffgaoehhmgbjaaDoor
namespace Rows

/-- THE TIED CARD OF 'emendlaw13.ChoiceMerges'. -/
def choiceMergesCard : Claim7 := { stood := { row := choiceMergesRow, standIns := [], harness := (true, "b752f41b9950de355a8165172d30df2278bc9fd79928c1dfb50d31f2fed28eea"), looks := false }, kinds := [], alts := [], laidByText := true, laidKinds := [.data], laidTests := true, laidLooks := .later }
def ChoiceMergesCardSaid : Prop := Claim7.holds Tryd.pinned (.plain (OpenSpec.ofChange choiceMergesSpec)) choiceMergesCard

/-- THE TIED CARD OF 'emendlaw13.ChoiceSame'. -/
def choiceSameCard : Claim7 := { stood := { row := choiceSameRow, standIns := [], harness := (true, "b752f41b9950de355a8165172d30df2278bc9fd79928c1dfb50d31f2fed28eea"), looks := false }, kinds := [], alts := [], laidByText := true, laidKinds := [.data], laidTests := true, laidLooks := .later }
def ChoiceSameCardSaid : Prop := Claim7.holds Tryd.pinned (.plain (OpenSpec.ofChange choiceSameSpec)) choiceSameCard

/-- THE TIED CARD OF 'emendlaw13.ChoiceKeeps'. -/
def choiceKeepsCard : Claim7 := { stood := { row := choiceKeepsRow, standIns := [], harness := (true, "b752f41b9950de355a8165172d30df2278bc9fd79928c1dfb50d31f2fed28eea"), looks := false }, kinds := [], alts := [], laidByText := true, laidKinds := [.data], laidTests := true, laidLooks := .later }
def ChoiceKeepsCardSaid : Prop := Claim7.holds Tryd.pinned (.plain (OpenSpec.ofChange choiceKeepsSpec)) choiceKeepsCard

/-- THE TIED CARD OF 'emendlaw13.ChoiceWhere'. -/
def choiceWhereCard : Claim7 := { stood := { row := choiceWhereRow, standIns := [], harness := (true, "b752f41b9950de355a8165172d30df2278bc9fd79928c1dfb50d31f2fed28eea"), looks := false }, kinds := [], alts := [], laidByText := true, laidKinds := [.data], laidTests := true, laidLooks := .later }
def ChoiceWhereCardSaid : Prop := Claim7.holds Tryd.pinned (.plain (OpenSpec.ofChange choiceWhereSpec)) choiceWhereCard

/-- THE TIED CARD OF 'emendlaw13.ChoiceTwice'. -/
def choiceTwiceCard : Claim7 := { stood := { row := choiceTwiceRow, standIns := [], harness := (true, "b752f41b9950de355a8165172d30df2278bc9fd79928c1dfb50d31f2fed28eea"), looks := false }, kinds := [], alts := [], laidByText := true, laidKinds := [.data], laidTests := true, laidLooks := .later }
def ChoiceTwiceCardSaid : Prop := Claim7.holds Tryd.pinned (.plain (OpenSpec.ofChange choiceTwiceSpec)) choiceTwiceCard

/-- THE SECOND FORM's CARD OF 'emendlaw13.ChoiceMerges'. -/
def choiceMergesUptoCard : Claim7 := { stood := { row := choiceMergesUptoRow, standIns := [], harness := (true, "b752f41b9950de355a8165172d30df2278bc9fd79928c1dfb50d31f2fed28eea"), looks := false }, kinds := [], alts := [], laidByText := true, laidKinds := [.data], laidTests := true, laidLooks := .later }
def ChoiceMergesUptoCardSaid : Prop := Claim7.holds Tryd.pinned (.plain (OpenSpec.upto choiceMergesSpec)) choiceMergesUptoCard

/-- THE SECOND FORM's CARD OF 'emendlaw13.ChoiceSame'. -/
def choiceSameUptoCard : Claim7 := { stood := { row := choiceSameUptoRow, standIns := [], harness := (true, "b752f41b9950de355a8165172d30df2278bc9fd79928c1dfb50d31f2fed28eea"), looks := false }, kinds := [], alts := [], laidByText := true, laidKinds := [.data], laidTests := true, laidLooks := .later }
def ChoiceSameUptoCardSaid : Prop := Claim7.holds Tryd.pinned (.plain (OpenSpec.upto choiceSameSpec)) choiceSameUptoCard

/-- THE SECOND FORM's CARD OF 'emendlaw13.ChoiceKeeps'. -/
def choiceKeepsUptoCard : Claim7 := { stood := { row := choiceKeepsUptoRow, standIns := [], harness := (true, "b752f41b9950de355a8165172d30df2278bc9fd79928c1dfb50d31f2fed28eea"), looks := false }, kinds := [], alts := [], laidByText := true, laidKinds := [.data], laidTests := true, laidLooks := .later }
def ChoiceKeepsUptoCardSaid : Prop := Claim7.holds Tryd.pinned (.plain (OpenSpec.upto choiceKeepsSpec)) choiceKeepsUptoCard

/-- THE SECOND FORM's CARD OF 'emendlaw13.ChoiceWhere'. -/
def choiceWhereUptoCard : Claim7 := { stood := { row := choiceWhereUptoRow, standIns := [], harness := (true, "b752f41b9950de355a8165172d30df2278bc9fd79928c1dfb50d31f2fed28eea"), looks := false }, kinds := [], alts := [], laidByText := true, laidKinds := [.data], laidTests := true, laidLooks := .later }
def ChoiceWhereUptoCardSaid : Prop := Claim7.holds Tryd.pinned (.plain (OpenSpec.upto choiceWhereSpec)) choiceWhereUptoCard

/-- THE SECOND FORM's CARD OF 'emendlaw13.ChoiceTwice'. -/
def choiceTwiceUptoCard : Claim7 := { stood := { row := choiceTwiceUptoRow, standIns := [], harness := (true, "b752f41b9950de355a8165172d30df2278bc9fd79928c1dfb50d31f2fed28eea"), looks := false }, kinds := [], alts := [], laidByText := true, laidKinds := [.data], laidTests := true, laidLooks := .later }
def ChoiceTwiceUptoCardSaid : Prop := Claim7.holds Tryd.pinned (.plain (OpenSpec.upto choiceTwiceSpec)) choiceTwiceUptoCard
end Rows
end Go.Proofs.YtffgaoehhmgbjaaDoor
