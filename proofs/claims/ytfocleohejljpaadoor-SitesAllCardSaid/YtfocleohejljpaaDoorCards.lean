/-
  DERIVED. GIVEN WITH THE SEED: THE CARDS: each row of YtfocleohejljpaaDoorRows.lean that lists a variable, with what it lists TIED to the program's text (the seventh form; the later family's looks); each row that meets fmt, with fmt's text TOLD by the authors' own Lean function (tested against real Go, not proved from fmt's source: count such statements apart). THE CARD IS WHAT COUNTS. Prove the row's statement (the work); the ties are given (YtfocleohejljpaaDoorTie.lean); close each card by the builder's one call (the guide's Derived/Test/ToyasCard.lean, 'card_holds'). Laid BY PROGRAM, IN A SANDBOX (cutbox-door.mjs). By AI agents, Wed Nov 11 2026. No macro, syntax, notation, axiom, sorry.
-/
import Derived.Test.YtfocleohejljpaaDoorRows
import GoSem.ClaimSeven
namespace Go.Proofs.YtfocleohejljpaaDoor
namespace Rows

/-- THE TIED CARD OF 'emendlaw19.SitesFind'. -/
def sitesFindCard : Claim7 := { stood := { row := sitesFindRow, standIns := [], harness := (true, "52c9e022c560b3b8f29ebb5e15713ed777e0736339fee803ff1c4d5dd6da613f"), looks := false }, kinds := [], alts := [], laidByText := true, laidKinds := [.data, .data, .widerDeep], laidTests := true, laidLooks := .later }
def SitesFindCardSaid : Prop := Claim7.holds Tryd.pinned (.plain (OpenSpec.ofChange sitesFindSpec)) sitesFindCard

/-- THE TIED CARD OF 'emendlaw19.SitesRight'. -/
def sitesRightCard : Claim7 := { stood := { row := sitesRightRow, standIns := [], harness := (true, "52c9e022c560b3b8f29ebb5e15713ed777e0736339fee803ff1c4d5dd6da613f"), looks := false }, kinds := [], alts := [], laidByText := true, laidKinds := [.data, .data, .widerDeep], laidTests := true, laidLooks := .later }
def SitesRightCardSaid : Prop := Claim7.holds Tryd.pinned (.plain (OpenSpec.ofChange sitesRightSpec)) sitesRightCard

/-- THE TIED CARD OF 'emendlaw19.SitesSpelling'. -/
def sitesSpellingCard : Claim7 := { stood := { row := sitesSpellingRow, standIns := [], harness := (true, "52c9e022c560b3b8f29ebb5e15713ed777e0736339fee803ff1c4d5dd6da613f"), looks := false }, kinds := [], alts := [], laidByText := true, laidKinds := [.data, .data, .widerDeep], laidTests := true, laidLooks := .later }
def SitesSpellingCardSaid : Prop := Claim7.holds Tryd.pinned (.plain (OpenSpec.ofChange sitesSpellingSpec)) sitesSpellingCard

/-- THE TIED CARD OF 'emendlaw19.SitesBoth'. -/
def sitesBothCard : Claim7 := { stood := { row := sitesBothRow, standIns := [], harness := (true, "52c9e022c560b3b8f29ebb5e15713ed777e0736339fee803ff1c4d5dd6da613f"), looks := false }, kinds := [], alts := [], laidByText := true, laidKinds := [.data, .data, .widerDeep], laidTests := true, laidLooks := .later }
def SitesBothCardSaid : Prop := Claim7.holds Tryd.pinned (.plain (OpenSpec.ofChange sitesBothSpec)) sitesBothCard

/-- THE TIED CARD OF 'emendlaw07.GlueTexts'. -/
def glueTextsCard : Claim7 := { stood := { row := glueTextsRow, standIns := [], harness := (true, "52c9e022c560b3b8f29ebb5e15713ed777e0736339fee803ff1c4d5dd6da613f"), looks := false }, kinds := [], alts := [], laidByText := true, laidKinds := [.data, .data, .pinned], laidTests := true, laidLooks := .later }
def GlueTextsCardSaid : Prop := Claim7.holds Tryd.pinned (.plain (OpenSpec.ofChange glueTextsSpec)) glueTextsCard

/-- THE TIED CARD OF 'emendlaw07.GluePastes'. -/
def gluePastesCard : Claim7 := { stood := { row := gluePastesRow, standIns := [], harness := (true, "52c9e022c560b3b8f29ebb5e15713ed777e0736339fee803ff1c4d5dd6da613f"), looks := false }, kinds := [], alts := [], laidByText := true, laidKinds := [.data, .data, .pinned], laidTests := true, laidLooks := .later }
def GluePastesCardSaid : Prop := Claim7.holds Tryd.pinned (.plain (OpenSpec.ofChange gluePastesSpec)) gluePastesCard

/-- THE TIED CARD OF 'emendlaw07.GlueQuotes'. -/
def glueQuotesCard : Claim7 := { stood := { row := glueQuotesRow, standIns := [], harness := (true, "52c9e022c560b3b8f29ebb5e15713ed777e0736339fee803ff1c4d5dd6da613f"), looks := false }, kinds := [], alts := [], laidByText := true, laidKinds := [.data, .data, .pinned], laidTests := true, laidLooks := .later }
def GlueQuotesCardSaid : Prop := Claim7.holds Tryd.pinned (.plain (OpenSpec.ofChange glueQuotesSpec)) glueQuotesCard

/-- THE TIED CARD OF 'emendlaw07.GlueBack'. -/
def glueBackCard : Claim7 := { stood := { row := glueBackRow, standIns := [], harness := (true, "52c9e022c560b3b8f29ebb5e15713ed777e0736339fee803ff1c4d5dd6da613f"), looks := false }, kinds := [], alts := [], laidByText := true, laidKinds := [.data, .data, .pinned], laidTests := true, laidLooks := .later }
def GlueBackCardSaid : Prop := Claim7.holds Tryd.pinned (.plain (OpenSpec.ofChange glueBackSpec)) glueBackCard

/-- THE TIED CARD OF 'emendlaw07.GlueAlone'. -/
def glueAloneCard : Claim7 := { stood := { row := glueAloneRow, standIns := [], harness := (true, "52c9e022c560b3b8f29ebb5e15713ed777e0736339fee803ff1c4d5dd6da613f"), looks := false }, kinds := [], alts := [], laidByText := true, laidKinds := [.data, .data, .pinned], laidTests := true, laidLooks := .later }
def GlueAloneCardSaid : Prop := Claim7.holds Tryd.pinned (.plain (OpenSpec.ofChange glueAloneSpec)) glueAloneCard

/-- THE TIED CARD OF 'emendlaw19.SitesSpelled'. -/
def sitesSpelledCard : Claim7 := { stood := { row := sitesSpelledRow, standIns := [], harness := (true, "52c9e022c560b3b8f29ebb5e15713ed777e0736339fee803ff1c4d5dd6da613f"), looks := false }, kinds := [], alts := [], laidByText := true, laidKinds := [.data, .data, .widerDeep], laidTests := true, laidLooks := .later }
def SitesSpelledCardSaid : Prop := Claim7.holds Tryd.pinned (.plain (OpenSpec.ofChange sitesSpelledSpec)) sitesSpelledCard

/-- THE TIED CARD OF 'emendlaw19.SitesAll'. -/
def sitesAllCard : Claim7 := { stood := { row := sitesAllRow, standIns := [], harness := (true, "52c9e022c560b3b8f29ebb5e15713ed777e0736339fee803ff1c4d5dd6da613f"), looks := false }, kinds := [], alts := [], laidByText := true, laidKinds := [.data, .data, .widerDeep], laidTests := true, laidLooks := .later }
def SitesAllCardSaid : Prop := Claim7.holds Tryd.pinned (.plain (OpenSpec.ofChange sitesAllSpec)) sitesAllCard

/-- THE SECOND FORM's CARD OF 'emendlaw19.SitesFind'. -/
def sitesFindUptoCard : Claim7 := { stood := { row := sitesFindUptoRow, standIns := [], harness := (true, "52c9e022c560b3b8f29ebb5e15713ed777e0736339fee803ff1c4d5dd6da613f"), looks := false }, kinds := [], alts := [], laidByText := true, laidKinds := [.data, .data, .widerDeep], laidTests := true, laidLooks := .later }
def SitesFindUptoCardSaid : Prop := Claim7.holds Tryd.pinned (.plain (OpenSpec.upto sitesFindSpec)) sitesFindUptoCard

/-- THE SECOND FORM's CARD OF 'emendlaw19.SitesRight'. -/
def sitesRightUptoCard : Claim7 := { stood := { row := sitesRightUptoRow, standIns := [], harness := (true, "52c9e022c560b3b8f29ebb5e15713ed777e0736339fee803ff1c4d5dd6da613f"), looks := false }, kinds := [], alts := [], laidByText := true, laidKinds := [.data, .data, .widerDeep], laidTests := true, laidLooks := .later }
def SitesRightUptoCardSaid : Prop := Claim7.holds Tryd.pinned (.plain (OpenSpec.upto sitesRightSpec)) sitesRightUptoCard

/-- THE SECOND FORM's CARD OF 'emendlaw19.SitesSpelling'. -/
def sitesSpellingUptoCard : Claim7 := { stood := { row := sitesSpellingUptoRow, standIns := [], harness := (true, "52c9e022c560b3b8f29ebb5e15713ed777e0736339fee803ff1c4d5dd6da613f"), looks := false }, kinds := [], alts := [], laidByText := true, laidKinds := [.data, .data, .widerDeep], laidTests := true, laidLooks := .later }
def SitesSpellingUptoCardSaid : Prop := Claim7.holds Tryd.pinned (.plain (OpenSpec.upto sitesSpellingSpec)) sitesSpellingUptoCard

/-- THE SECOND FORM's CARD OF 'emendlaw19.SitesBoth'. -/
def sitesBothUptoCard : Claim7 := { stood := { row := sitesBothUptoRow, standIns := [], harness := (true, "52c9e022c560b3b8f29ebb5e15713ed777e0736339fee803ff1c4d5dd6da613f"), looks := false }, kinds := [], alts := [], laidByText := true, laidKinds := [.data, .data, .widerDeep], laidTests := true, laidLooks := .later }
def SitesBothUptoCardSaid : Prop := Claim7.holds Tryd.pinned (.plain (OpenSpec.upto sitesBothSpec)) sitesBothUptoCard

/-- THE SECOND FORM's CARD OF 'emendlaw07.GlueTexts'. -/
def glueTextsUptoCard : Claim7 := { stood := { row := glueTextsUptoRow, standIns := [], harness := (true, "52c9e022c560b3b8f29ebb5e15713ed777e0736339fee803ff1c4d5dd6da613f"), looks := false }, kinds := [], alts := [], laidByText := true, laidKinds := [.data, .data, .pinned], laidTests := true, laidLooks := .later }
def GlueTextsUptoCardSaid : Prop := Claim7.holds Tryd.pinned (.plain (OpenSpec.upto glueTextsSpec)) glueTextsUptoCard

/-- THE SECOND FORM's CARD OF 'emendlaw07.GluePastes'. -/
def gluePastesUptoCard : Claim7 := { stood := { row := gluePastesUptoRow, standIns := [], harness := (true, "52c9e022c560b3b8f29ebb5e15713ed777e0736339fee803ff1c4d5dd6da613f"), looks := false }, kinds := [], alts := [], laidByText := true, laidKinds := [.data, .data, .pinned], laidTests := true, laidLooks := .later }
def GluePastesUptoCardSaid : Prop := Claim7.holds Tryd.pinned (.plain (OpenSpec.upto gluePastesSpec)) gluePastesUptoCard

/-- THE SECOND FORM's CARD OF 'emendlaw07.GlueQuotes'. -/
def glueQuotesUptoCard : Claim7 := { stood := { row := glueQuotesUptoRow, standIns := [], harness := (true, "52c9e022c560b3b8f29ebb5e15713ed777e0736339fee803ff1c4d5dd6da613f"), looks := false }, kinds := [], alts := [], laidByText := true, laidKinds := [.data, .data, .pinned], laidTests := true, laidLooks := .later }
def GlueQuotesUptoCardSaid : Prop := Claim7.holds Tryd.pinned (.plain (OpenSpec.upto glueQuotesSpec)) glueQuotesUptoCard

/-- THE SECOND FORM's CARD OF 'emendlaw07.GlueBack'. -/
def glueBackUptoCard : Claim7 := { stood := { row := glueBackUptoRow, standIns := [], harness := (true, "52c9e022c560b3b8f29ebb5e15713ed777e0736339fee803ff1c4d5dd6da613f"), looks := false }, kinds := [], alts := [], laidByText := true, laidKinds := [.data, .data, .pinned], laidTests := true, laidLooks := .later }
def GlueBackUptoCardSaid : Prop := Claim7.holds Tryd.pinned (.plain (OpenSpec.upto glueBackSpec)) glueBackUptoCard

/-- THE SECOND FORM's CARD OF 'emendlaw07.GlueAlone'. -/
def glueAloneUptoCard : Claim7 := { stood := { row := glueAloneUptoRow, standIns := [], harness := (true, "52c9e022c560b3b8f29ebb5e15713ed777e0736339fee803ff1c4d5dd6da613f"), looks := false }, kinds := [], alts := [], laidByText := true, laidKinds := [.data, .data, .pinned], laidTests := true, laidLooks := .later }
def GlueAloneUptoCardSaid : Prop := Claim7.holds Tryd.pinned (.plain (OpenSpec.upto glueAloneSpec)) glueAloneUptoCard

/-- THE SECOND FORM's CARD OF 'emendlaw19.SitesSpelled'. -/
def sitesSpelledUptoCard : Claim7 := { stood := { row := sitesSpelledUptoRow, standIns := [], harness := (true, "52c9e022c560b3b8f29ebb5e15713ed777e0736339fee803ff1c4d5dd6da613f"), looks := false }, kinds := [], alts := [], laidByText := true, laidKinds := [.data, .data, .widerDeep], laidTests := true, laidLooks := .later }
def SitesSpelledUptoCardSaid : Prop := Claim7.holds Tryd.pinned (.plain (OpenSpec.upto sitesSpelledSpec)) sitesSpelledUptoCard

/-- THE SECOND FORM's CARD OF 'emendlaw19.SitesAll'. -/
def sitesAllUptoCard : Claim7 := { stood := { row := sitesAllUptoRow, standIns := [], harness := (true, "52c9e022c560b3b8f29ebb5e15713ed777e0736339fee803ff1c4d5dd6da613f"), looks := false }, kinds := [], alts := [], laidByText := true, laidKinds := [.data, .data, .widerDeep], laidTests := true, laidLooks := .later }
def SitesAllUptoCardSaid : Prop := Claim7.holds Tryd.pinned (.plain (OpenSpec.upto sitesAllSpec)) sitesAllUptoCard
end Rows
end Go.Proofs.YtfocleohejljpaaDoor
