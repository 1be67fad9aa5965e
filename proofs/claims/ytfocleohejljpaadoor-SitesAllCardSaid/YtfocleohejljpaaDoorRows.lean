/-
  NARROWER THAN 'FOR EVERY INPUT', by the rows' own cells (each row's printed sentence says how): SitesFind: laid · SitesRight: laid · SitesSpelling: laid · SitesBoth: laid · GlueTexts: laid · GluePastes: laid · GlueQuotes: laid · GlueBack: laid · GlueAlone: laid · SitesSpelled: laid · SitesAll: laid.
  DERIVED. THE GIVEN ROWS OF THIS SEAT. 11 by the template 'for every input the law returns true; each argument reads behind the call as it read before'; 0 by the template 'total and deterministic' (their statements: YtfocleohejljpaaDoorTotals.lean).
  GIVEN WITH THE SEED: the statements are not yours to turn. If you find one false, say at which input.
  Laid BY PROGRAM, IN A SANDBOX (cutbox-rows.mjs): the forced cells as the released guide's own fill.sh prints them over the translation 871b4e4c47d7a3b2… (all of the seat's roots in one cut). By AI agents, Wed Nov 11 2026. No macro, syntax, notation, axiom, sorry.
-/
import Derived.Test.YtfocleohejljpaaDoorChecked
import GoSem.PinnedTables
import GoSem.Claim
import GoSem.ClaimJoined
import GoSem.ClaimMapViews
import Derived.JoinedTies
import Derived.KernelRfl
namespace Go.Proofs.YtfocleohejljpaaDoor
/- THE CELL 'sum', in the pinned program and in every row, IS THE sha256 OF THE DUMP (.gsa) THAT YtfocleohejljpaaDoorProg.lean LOADS. Nothing in Lean hashes anything: it is a label: what it is worth is what the hold of that sum in a sandbox is worth. -/
noncomputable def Tryd.pinned : Pinned := { name := "ytfocleohejljpaadoor", sum := "871b4e4c47d7a3b296b0cd470ecece1b2a2f8fe372480654f6bde2997f2ceef4", checked := Tryd.checked }
namespace Rows
def none {H : Type} : Left H := { results := [], args := [] }

/- WHAT THE LISTED PACKAGE-LEVEL VARIABLES READ AS WHEN THE CALL BEGINS. Each datum BY PROGRAM (the guide's laid-datum.mjs) off the statement by which the dump's own 'gosem.cut.vars' lays the variable. In a bare row this is a premise. The card (YtfocleohejljpaaDoorCards.lean) ties it to the program's text. -/
def laid_emend_direct_words {H : Type} : DataW H := .agg [.lit (.string [105, 102]), .lit (.string [105, 102, 100, 101, 102]), .lit (.string [105, 102, 110, 100, 101, 102]), .lit (.string [101, 108, 105, 102]), .lit (.string [101, 108, 115, 101]), .lit (.string [101, 110, 100, 105, 102]), .lit (.string [100, 101, 102, 105, 110, 101]), .lit (.string [117, 110, 100, 101, 102]), .lit (.string [105, 110, 99, 108, 117, 100, 101]), .lit (.string [101, 114, 114, 111, 114]), .lit (.string [112, 114, 97, 103, 109, 97]), .lit (.string [108, 105, 110, 101])]
def laid_emend_pptok_signs {H : Type} : DataW H := .agg [.lit (.string [46, 46, 46]), .lit (.string [60, 60, 61]), .lit (.string [62, 62, 61]), .lit (.string [45, 62]), .lit (.string [43, 43]), .lit (.string [45, 45]), .lit (.string [60, 60]), .lit (.string [62, 62]), .lit (.string [60, 61]), .lit (.string [62, 61]), .lit (.string [61, 61]), .lit (.string [33, 61]), .lit (.string [38, 38]), .lit (.string [124, 124]), .lit (.string [42, 61]), .lit (.string [47, 61]), .lit (.string [37, 61]), .lit (.string [43, 61]), .lit (.string [45, 61]), .lit (.string [38, 61]), .lit (.string [94, 61]), .lit (.string [124, 61]), .lit (.string [35, 35]), .lit (.string [91]), .lit (.string [93]), .lit (.string [40]), .lit (.string [41]), .lit (.string [123]), .lit (.string [125]), .lit (.string [46]), .lit (.string [38]), .lit (.string [42]), .lit (.string [43]), .lit (.string [45]), .lit (.string [126]), .lit (.string [33]), .lit (.string [47]), .lit (.string [37]), .lit (.string [60]), .lit (.string [62]), .lit (.string [94]), .lit (.string [124]), .lit (.string [63]), .lit (.string [58]), .lit (.string [59]), .lit (.string [61]), .lit (.string [44]), .lit (.string [35])]
def laid_emend_parse_keywords {H : Type} : DataW H := .agg [.lit (.string [97, 117, 116, 111]), .lit (.string [98, 114, 101, 97, 107]), .lit (.string [99, 97, 115, 101]), .lit (.string [99, 104, 97, 114]), .lit (.string [99, 111, 110, 115, 116]), .lit (.string [99, 111, 110, 116, 105, 110, 117, 101]), .lit (.string [100, 101, 102, 97, 117, 108, 116]), .lit (.string [100, 111]), .lit (.string [100, 111, 117, 98, 108, 101]), .lit (.string [101, 108, 115, 101]), .lit (.string [101, 110, 117, 109]), .lit (.string [101, 120, 116, 101, 114, 110]), .lit (.string [102, 108, 111, 97, 116]), .lit (.string [102, 111, 114]), .lit (.string [103, 111, 116, 111]), .lit (.string [105, 102]), .lit (.string [105, 110, 108, 105, 110, 101]), .lit (.string [105, 110, 116]), .lit (.string [108, 111, 110, 103]), .lit (.string [114, 101, 103, 105, 115, 116, 101, 114]), .lit (.string [114, 101, 116, 117, 114, 110]), .lit (.string [115, 104, 111, 114, 116]), .lit (.string [115, 105, 103, 110, 101, 100]), .lit (.string [115, 105, 122, 101, 111, 102]), .lit (.string [115, 116, 97, 116, 105, 99]), .lit (.string [115, 116, 114, 117, 99, 116]), .lit (.string [115, 119, 105, 116, 99, 104]), .lit (.string [116, 121, 112, 101, 100, 101, 102]), .lit (.string [117, 110, 105, 111, 110]), .lit (.string [117, 110, 115, 105, 103, 110, 101, 100]), .lit (.string [118, 111, 105, 100]), .lit (.string [118, 111, 108, 97, 116, 105, 108, 101]), .lit (.string [119, 104, 105, 108, 101])]
def laid_unicode_utf8_acceptRanges {H : Type} : DataW H := .agg [.agg [.lit (.int .u8 128), .lit (.int .u8 191)], .agg [.lit (.int .u8 160), .lit (.int .u8 191)], .agg [.lit (.int .u8 128), .lit (.int .u8 159)], .agg [.lit (.int .u8 144), .lit (.int .u8 191)], .agg [.lit (.int .u8 128), .lit (.int .u8 143)], .agg [.lit (.int .u8 0), .lit (.int .u8 0)], .agg [.lit (.int .u8 0), .lit (.int .u8 0)], .agg [.lit (.int .u8 0), .lit (.int .u8 0)], .agg [.lit (.int .u8 0), .lit (.int .u8 0)], .agg [.lit (.int .u8 0), .lit (.int .u8 0)], .agg [.lit (.int .u8 0), .lit (.int .u8 0)], .agg [.lit (.int .u8 0), .lit (.int .u8 0)], .agg [.lit (.int .u8 0), .lit (.int .u8 0)], .agg [.lit (.int .u8 0), .lit (.int .u8 0)], .agg [.lit (.int .u8 0), .lit (.int .u8 0)], .agg [.lit (.int .u8 0), .lit (.int .u8 0)]]
/-- One of Go's own tables, pinned by name: the form's constant. -/
def laid_unicode_utf8_first : DataW Unit := Go.Pinned.utf8First

/-- 'emendlaw19.SitesFind': WHATEVER THE INPUT: true; the input reads as it did. -/
def sitesFindSpec : ChangeSpec := { name := "sitesFind", fn := fun _ => fun
  | [d1, d2] => { results := [.lit (.bool true)], args := [d1, d2] }
  | _ => none }
def sitesFindRow : OpenClaim := { program := "ytfocleohejljpaadoor", sum := "871b4e4c47d7a3b296b0cd470ecece1b2a2f8fe372480654f6bde2997f2ceef4", func := "emend/emendlaw19.SitesFind", spec := "sitesFind", inPlace := ["internal/bytealg.IndexByteString", "internal/bytealg.IndexString"], unfollowed := true, recurses := true, named := ["internal/bytealg.MaxLen", "emend/pptok.signs", "emend/direct.words", "emend/parse.keywords"], apart := false, laid := [("emend/direct.words", laid_emend_direct_words), ("emend/pptok.signs", laid_emend_pptok_signs), ("emend/parse.keywords", laid_emend_parse_keywords)] }
def SitesFindSaid : Prop := sitesFindRow.holds Tryd.pinned (OpenSpec.ofChange sitesFindSpec)

/-- ITS FALSE NEIGHBOUR: 'it returns false'. Refute it at one input. -/
def sitesFindWrong : ChangeSpec := { name := "sitesFind", fn := fun _ => fun
  | [d1, d2] => { results := [.lit (.bool false)], args := [d1, d2] }
  | _ => none }
def SitesFindWrongFalsely : Prop := sitesFindRow.holds Tryd.pinned (OpenSpec.ofChange sitesFindWrong)

/-- 'emendlaw19.SitesRight': WHATEVER THE INPUT: true; the input reads as it did. -/
def sitesRightSpec : ChangeSpec := { name := "sitesRight", fn := fun _ => fun
  | [d1, d2] => { results := [.lit (.bool true)], args := [d1, d2] }
  | _ => none }
def sitesRightRow : OpenClaim := { program := "ytfocleohejljpaadoor", sum := "871b4e4c47d7a3b296b0cd470ecece1b2a2f8fe372480654f6bde2997f2ceef4", func := "emend/emendlaw19.SitesRight", spec := "sitesRight", inPlace := ["internal/bytealg.IndexByteString", "internal/bytealg.IndexString"], unfollowed := true, recurses := true, named := ["internal/bytealg.MaxLen", "emend/pptok.signs", "emend/direct.words", "emend/parse.keywords"], apart := false, laid := [("emend/direct.words", laid_emend_direct_words), ("emend/pptok.signs", laid_emend_pptok_signs), ("emend/parse.keywords", laid_emend_parse_keywords)] }
def SitesRightSaid : Prop := sitesRightRow.holds Tryd.pinned (OpenSpec.ofChange sitesRightSpec)

/-- ITS FALSE NEIGHBOUR: 'it returns false'. Refute it at one input. -/
def sitesRightWrong : ChangeSpec := { name := "sitesRight", fn := fun _ => fun
  | [d1, d2] => { results := [.lit (.bool false)], args := [d1, d2] }
  | _ => none }
def SitesRightWrongFalsely : Prop := sitesRightRow.holds Tryd.pinned (OpenSpec.ofChange sitesRightWrong)

/-- 'emendlaw19.SitesSpelling': WHATEVER THE INPUT: true; the input reads as it did. -/
def sitesSpellingSpec : ChangeSpec := { name := "sitesSpelling", fn := fun _ => fun
  | [d1, d2] => { results := [.lit (.bool true)], args := [d1, d2] }
  | _ => none }
def sitesSpellingRow : OpenClaim := { program := "ytfocleohejljpaadoor", sum := "871b4e4c47d7a3b296b0cd470ecece1b2a2f8fe372480654f6bde2997f2ceef4", func := "emend/emendlaw19.SitesSpelling", spec := "sitesSpelling", inPlace := ["internal/bytealg.IndexByteString", "internal/bytealg.IndexString"], unfollowed := true, recurses := true, named := ["internal/bytealg.MaxLen", "emend/pptok.signs", "emend/direct.words", "emend/parse.keywords"], apart := false, laid := [("emend/direct.words", laid_emend_direct_words), ("emend/pptok.signs", laid_emend_pptok_signs), ("emend/parse.keywords", laid_emend_parse_keywords)] }
def SitesSpellingSaid : Prop := sitesSpellingRow.holds Tryd.pinned (OpenSpec.ofChange sitesSpellingSpec)

/-- ITS FALSE NEIGHBOUR: 'it returns false'. Refute it at one input. -/
def sitesSpellingWrong : ChangeSpec := { name := "sitesSpelling", fn := fun _ => fun
  | [d1, d2] => { results := [.lit (.bool false)], args := [d1, d2] }
  | _ => none }
def SitesSpellingWrongFalsely : Prop := sitesSpellingRow.holds Tryd.pinned (OpenSpec.ofChange sitesSpellingWrong)

/-- 'emendlaw19.SitesBoth': WHATEVER THE INPUT: true; the input reads as it did. -/
def sitesBothSpec : ChangeSpec := { name := "sitesBoth", fn := fun _ => fun
  | [d1, d2, d3] => { results := [.lit (.bool true)], args := [d1, d2, d3] }
  | _ => none }
def sitesBothRow : OpenClaim := { program := "ytfocleohejljpaadoor", sum := "871b4e4c47d7a3b296b0cd470ecece1b2a2f8fe372480654f6bde2997f2ceef4", func := "emend/emendlaw19.SitesBoth", spec := "sitesBoth", inPlace := ["internal/bytealg.IndexByteString", "internal/bytealg.IndexString"], unfollowed := true, recurses := true, named := ["internal/bytealg.MaxLen", "emend/pptok.signs", "emend/direct.words", "emend/parse.keywords"], apart := false, laid := [("emend/direct.words", laid_emend_direct_words), ("emend/pptok.signs", laid_emend_pptok_signs), ("emend/parse.keywords", laid_emend_parse_keywords)] }
def SitesBothSaid : Prop := sitesBothRow.holds Tryd.pinned (OpenSpec.ofChange sitesBothSpec)

/-- ITS FALSE NEIGHBOUR: 'it returns false'. Refute it at one input. -/
def sitesBothWrong : ChangeSpec := { name := "sitesBoth", fn := fun _ => fun
  | [d1, d2, d3] => { results := [.lit (.bool false)], args := [d1, d2, d3] }
  | _ => none }
def SitesBothWrongFalsely : Prop := sitesBothRow.holds Tryd.pinned (OpenSpec.ofChange sitesBothWrong)

/-- 'emendlaw07.GlueTexts': WHATEVER THE INPUT: true; the input reads as it did. -/
def glueTextsSpec : ChangeSpec := { name := "glueTexts", fn := fun _ => fun
  | [d] => { results := [.lit (.bool true)], args := [d] }
  | _ => none }
def glueTextsRow : OpenClaim := { program := "ytfocleohejljpaadoor", sum := "871b4e4c47d7a3b296b0cd470ecece1b2a2f8fe372480654f6bde2997f2ceef4", func := "emend/emendlaw07.GlueTexts", spec := "glueTexts", inPlace := ["internal/bytealg.IndexByteString", "internal/bytealg.IndexString", "internal/abi.NoEscape", "internal/bytealg.CountString", "internal/bytealg.MakeNoZero"], unfollowed := true, recurses := true, named := ["internal/bytealg.MaxLen", "emend/pptok.signs", "unicode/utf8.first", "unicode/utf8.acceptRanges"], apart := false, laid := [("unicode/utf8.acceptRanges", laid_unicode_utf8_acceptRanges), ("emend/pptok.signs", laid_emend_pptok_signs), ("unicode/utf8.first", laid_unicode_utf8_first)] }
def GlueTextsSaid : Prop := glueTextsRow.holds Tryd.pinned (OpenSpec.ofChange glueTextsSpec)

/-- ITS FALSE NEIGHBOUR: 'it returns false'. Refute it at one input. -/
def glueTextsWrong : ChangeSpec := { name := "glueTexts", fn := fun _ => fun
  | [d] => { results := [.lit (.bool false)], args := [d] }
  | _ => none }
def GlueTextsWrongFalsely : Prop := glueTextsRow.holds Tryd.pinned (OpenSpec.ofChange glueTextsWrong)

/-- 'emendlaw07.GluePastes': WHATEVER THE INPUT: true; the input reads as it did. -/
def gluePastesSpec : ChangeSpec := { name := "gluePastes", fn := fun _ => fun
  | [d1, d2] => { results := [.lit (.bool true)], args := [d1, d2] }
  | _ => none }
def gluePastesRow : OpenClaim := { program := "ytfocleohejljpaadoor", sum := "871b4e4c47d7a3b296b0cd470ecece1b2a2f8fe372480654f6bde2997f2ceef4", func := "emend/emendlaw07.GluePastes", spec := "gluePastes", inPlace := ["internal/bytealg.IndexByteString", "internal/bytealg.IndexString", "internal/abi.NoEscape", "internal/bytealg.CountString", "internal/bytealg.MakeNoZero"], unfollowed := true, recurses := true, named := ["internal/bytealg.MaxLen", "emend/pptok.signs", "unicode/utf8.first", "unicode/utf8.acceptRanges"], apart := false, laid := [("unicode/utf8.acceptRanges", laid_unicode_utf8_acceptRanges), ("emend/pptok.signs", laid_emend_pptok_signs), ("unicode/utf8.first", laid_unicode_utf8_first)] }
def GluePastesSaid : Prop := gluePastesRow.holds Tryd.pinned (OpenSpec.ofChange gluePastesSpec)

/-- ITS FALSE NEIGHBOUR: 'it returns false'. Refute it at one input. -/
def gluePastesWrong : ChangeSpec := { name := "gluePastes", fn := fun _ => fun
  | [d1, d2] => { results := [.lit (.bool false)], args := [d1, d2] }
  | _ => none }
def GluePastesWrongFalsely : Prop := gluePastesRow.holds Tryd.pinned (OpenSpec.ofChange gluePastesWrong)

/-- 'emendlaw07.GlueQuotes': WHATEVER THE INPUT: true; the input reads as it did. -/
def glueQuotesSpec : ChangeSpec := { name := "glueQuotes", fn := fun _ => fun
  | [d] => { results := [.lit (.bool true)], args := [d] }
  | _ => none }
def glueQuotesRow : OpenClaim := { program := "ytfocleohejljpaadoor", sum := "871b4e4c47d7a3b296b0cd470ecece1b2a2f8fe372480654f6bde2997f2ceef4", func := "emend/emendlaw07.GlueQuotes", spec := "glueQuotes", inPlace := ["internal/bytealg.IndexByteString", "internal/bytealg.IndexString", "internal/abi.NoEscape", "internal/bytealg.CountString", "internal/bytealg.MakeNoZero"], unfollowed := true, recurses := true, named := ["internal/bytealg.MaxLen", "emend/pptok.signs", "unicode/utf8.first", "unicode/utf8.acceptRanges"], apart := false, laid := [("unicode/utf8.acceptRanges", laid_unicode_utf8_acceptRanges), ("emend/pptok.signs", laid_emend_pptok_signs), ("unicode/utf8.first", laid_unicode_utf8_first)] }
def GlueQuotesSaid : Prop := glueQuotesRow.holds Tryd.pinned (OpenSpec.ofChange glueQuotesSpec)

/-- ITS FALSE NEIGHBOUR: 'it returns false'. Refute it at one input. -/
def glueQuotesWrong : ChangeSpec := { name := "glueQuotes", fn := fun _ => fun
  | [d] => { results := [.lit (.bool false)], args := [d] }
  | _ => none }
def GlueQuotesWrongFalsely : Prop := glueQuotesRow.holds Tryd.pinned (OpenSpec.ofChange glueQuotesWrong)

/-- 'emendlaw07.GlueBack': WHATEVER THE INPUT: true; the input reads as it did. -/
def glueBackSpec : ChangeSpec := { name := "glueBack", fn := fun _ => fun
  | [d] => { results := [.lit (.bool true)], args := [d] }
  | _ => none }
def glueBackRow : OpenClaim := { program := "ytfocleohejljpaadoor", sum := "871b4e4c47d7a3b296b0cd470ecece1b2a2f8fe372480654f6bde2997f2ceef4", func := "emend/emendlaw07.GlueBack", spec := "glueBack", inPlace := ["internal/bytealg.IndexByteString", "internal/bytealg.IndexString", "internal/abi.NoEscape", "internal/bytealg.CountString", "internal/bytealg.MakeNoZero"], unfollowed := true, recurses := true, named := ["internal/bytealg.MaxLen", "emend/pptok.signs", "unicode/utf8.first", "unicode/utf8.acceptRanges"], apart := false, laid := [("unicode/utf8.acceptRanges", laid_unicode_utf8_acceptRanges), ("emend/pptok.signs", laid_emend_pptok_signs), ("unicode/utf8.first", laid_unicode_utf8_first)] }
def GlueBackSaid : Prop := glueBackRow.holds Tryd.pinned (OpenSpec.ofChange glueBackSpec)

/-- ITS FALSE NEIGHBOUR: 'it returns false'. Refute it at one input. -/
def glueBackWrong : ChangeSpec := { name := "glueBack", fn := fun _ => fun
  | [d] => { results := [.lit (.bool false)], args := [d] }
  | _ => none }
def GlueBackWrongFalsely : Prop := glueBackRow.holds Tryd.pinned (OpenSpec.ofChange glueBackWrong)

/-- 'emendlaw07.GlueAlone': WHATEVER THE INPUT: true; the input reads as it did. -/
def glueAloneSpec : ChangeSpec := { name := "glueAlone", fn := fun _ => fun
  | [d1, d2, d3] => { results := [.lit (.bool true)], args := [d1, d2, d3] }
  | _ => none }
def glueAloneRow : OpenClaim := { program := "ytfocleohejljpaadoor", sum := "871b4e4c47d7a3b296b0cd470ecece1b2a2f8fe372480654f6bde2997f2ceef4", func := "emend/emendlaw07.GlueAlone", spec := "glueAlone", inPlace := ["internal/bytealg.IndexByteString", "internal/bytealg.IndexString", "internal/abi.NoEscape", "internal/bytealg.CountString", "internal/bytealg.MakeNoZero"], unfollowed := true, recurses := true, named := ["internal/bytealg.MaxLen", "emend/pptok.signs", "unicode/utf8.first", "unicode/utf8.acceptRanges"], apart := false, laid := [("unicode/utf8.acceptRanges", laid_unicode_utf8_acceptRanges), ("emend/pptok.signs", laid_emend_pptok_signs), ("unicode/utf8.first", laid_unicode_utf8_first)] }
def GlueAloneSaid : Prop := glueAloneRow.holds Tryd.pinned (OpenSpec.ofChange glueAloneSpec)

/-- ITS FALSE NEIGHBOUR: 'it returns false'. Refute it at one input. -/
def glueAloneWrong : ChangeSpec := { name := "glueAlone", fn := fun _ => fun
  | [d1, d2, d3] => { results := [.lit (.bool false)], args := [d1, d2, d3] }
  | _ => none }
def GlueAloneWrongFalsely : Prop := glueAloneRow.holds Tryd.pinned (OpenSpec.ofChange glueAloneWrong)

/-- 'emendlaw19.SitesSpelled': WHATEVER THE INPUT: true; the input reads as it did. -/
def sitesSpelledSpec : ChangeSpec := { name := "sitesSpelled", fn := fun _ => fun
  | [d1, d2] => { results := [.lit (.bool true)], args := [d1, d2] }
  | _ => none }
def sitesSpelledRow : OpenClaim := { program := "ytfocleohejljpaadoor", sum := "871b4e4c47d7a3b296b0cd470ecece1b2a2f8fe372480654f6bde2997f2ceef4", func := "emend/emendlaw19.SitesSpelled", spec := "sitesSpelled", inPlace := ["internal/bytealg.IndexByteString", "internal/bytealg.IndexString"], unfollowed := true, recurses := true, named := ["internal/bytealg.MaxLen", "emend/pptok.signs", "emend/direct.words", "emend/parse.keywords"], apart := false, laid := [("emend/direct.words", laid_emend_direct_words), ("emend/pptok.signs", laid_emend_pptok_signs), ("emend/parse.keywords", laid_emend_parse_keywords)] }
def SitesSpelledSaid : Prop := sitesSpelledRow.holds Tryd.pinned (OpenSpec.ofChange sitesSpelledSpec)

/-- ITS FALSE NEIGHBOUR: 'it returns false'. Refute it at one input. -/
def sitesSpelledWrong : ChangeSpec := { name := "sitesSpelled", fn := fun _ => fun
  | [d1, d2] => { results := [.lit (.bool false)], args := [d1, d2] }
  | _ => none }
def SitesSpelledWrongFalsely : Prop := sitesSpelledRow.holds Tryd.pinned (OpenSpec.ofChange sitesSpelledWrong)

/-- 'emendlaw19.SitesAll': WHATEVER THE INPUT: true; the input reads as it did. -/
def sitesAllSpec : ChangeSpec := { name := "sitesAll", fn := fun _ => fun
  | [d] => { results := [.lit (.bool true)], args := [d] }
  | _ => none }
def sitesAllRow : OpenClaim := { program := "ytfocleohejljpaadoor", sum := "871b4e4c47d7a3b296b0cd470ecece1b2a2f8fe372480654f6bde2997f2ceef4", func := "emend/emendlaw19.SitesAll", spec := "sitesAll", inPlace := ["internal/bytealg.IndexByteString", "internal/bytealg.IndexString"], unfollowed := true, recurses := true, named := ["internal/bytealg.MaxLen", "emend/pptok.signs", "emend/direct.words", "emend/parse.keywords"], apart := false, laid := [("emend/direct.words", laid_emend_direct_words), ("emend/pptok.signs", laid_emend_pptok_signs), ("emend/parse.keywords", laid_emend_parse_keywords)] }
def SitesAllSaid : Prop := sitesAllRow.holds Tryd.pinned (OpenSpec.ofChange sitesAllSpec)

/-- ITS FALSE NEIGHBOUR: 'it returns false'. Refute it at one input. -/
def sitesAllWrong : ChangeSpec := { name := "sitesAll", fn := fun _ => fun
  | [d] => { results := [.lit (.bool false)], args := [d] }
  | _ => none }
def SitesAllWrongFalsely : Prop := sitesAllRow.holds Tryd.pinned (OpenSpec.ofChange sitesAllWrong)

/- THE SECOND FORM. 'bulk': how many values and letters a reading holds, each counted each time it is reached (what is shared counts as often as it is met; a slice's spare places count too). A statement '..UptoSaid' is the law's where the arguments, and the package variables that the reading takes, are together of bulk at most 1048576: NARROWER than '..Said'. Prove '..Said' where nothing that the law and all that it calls make is longer than what came in: it says more and counts as full. Else prove '..UptoSaid'. A law counts once. -/
mutual
def uptoBulk {H : Type} : DataW H → Nat
  | .lit (.string bytes) => bytes.length + 1
  | .lit _ => 1
  | .nil => 1
  | .ptr d => uptoBulk d + 1
  | .slice elems spare => uptoBulkAll elems + uptoBulkAll spare + 1
  | .agg parts => uptoBulkAll parts + 1
  | .iface _ d => uptoBulk d + 1
  | .map entries => uptoBulkEntries entries + 1
  | .held _ => 1
def uptoBulkAll {H : Type} : List (DataW H) → Nat
  | [] => 0
  | d :: r => uptoBulk d + uptoBulkAll r
def uptoBulkEntries {H : Type} : List (Lit × DataW H) → Nat
  | [] => 0
  | x :: r => uptoBulkEntry x + uptoBulkEntries r
def uptoBulkEntry {H : Type} : Lit × DataW H → Nat
  | (.string bytes, d) => bytes.length + uptoBulk d + 1
  | (_, d) => uptoBulk d + 1
 end
def uptoSmall : (H : Type) → List (DataW H) → Bool := fun _ ds => decide (uptoBulkAll ds ≤ 1048576)
def OpenSpec.upto (s : _root_.Go.ChangeSpec) : _root_.Go.OpenSpec := { _root_.Go.OpenSpec.ofChange s with cond := some uptoSmall }

/-- 'emendlaw19.SitesFind', WHERE WHAT IT READS IS OF BULK AT MOST 1048576: true; the input reads as it did. -/
def sitesFindUptoRow : OpenClaim := { program := "ytfocleohejljpaadoor", sum := "871b4e4c47d7a3b296b0cd470ecece1b2a2f8fe372480654f6bde2997f2ceef4", func := "emend/emendlaw19.SitesFind", spec := "sitesFind", inPlace := ["internal/bytealg.IndexByteString", "internal/bytealg.IndexString"], unfollowed := true, recurses := true, named := ["internal/bytealg.MaxLen", "emend/pptok.signs", "emend/direct.words", "emend/parse.keywords"], apart := false, laid := [("emend/direct.words", laid_emend_direct_words), ("emend/pptok.signs", laid_emend_pptok_signs), ("emend/parse.keywords", laid_emend_parse_keywords)], narrowed := true }
def SitesFindUptoSaid : Prop := sitesFindUptoRow.holds Tryd.pinned (OpenSpec.upto sitesFindSpec)

/-- 'emendlaw19.SitesRight', WHERE WHAT IT READS IS OF BULK AT MOST 1048576: true; the input reads as it did. -/
def sitesRightUptoRow : OpenClaim := { program := "ytfocleohejljpaadoor", sum := "871b4e4c47d7a3b296b0cd470ecece1b2a2f8fe372480654f6bde2997f2ceef4", func := "emend/emendlaw19.SitesRight", spec := "sitesRight", inPlace := ["internal/bytealg.IndexByteString", "internal/bytealg.IndexString"], unfollowed := true, recurses := true, named := ["internal/bytealg.MaxLen", "emend/pptok.signs", "emend/direct.words", "emend/parse.keywords"], apart := false, laid := [("emend/direct.words", laid_emend_direct_words), ("emend/pptok.signs", laid_emend_pptok_signs), ("emend/parse.keywords", laid_emend_parse_keywords)], narrowed := true }
def SitesRightUptoSaid : Prop := sitesRightUptoRow.holds Tryd.pinned (OpenSpec.upto sitesRightSpec)

/-- 'emendlaw19.SitesSpelling', WHERE WHAT IT READS IS OF BULK AT MOST 1048576: true; the input reads as it did. -/
def sitesSpellingUptoRow : OpenClaim := { program := "ytfocleohejljpaadoor", sum := "871b4e4c47d7a3b296b0cd470ecece1b2a2f8fe372480654f6bde2997f2ceef4", func := "emend/emendlaw19.SitesSpelling", spec := "sitesSpelling", inPlace := ["internal/bytealg.IndexByteString", "internal/bytealg.IndexString"], unfollowed := true, recurses := true, named := ["internal/bytealg.MaxLen", "emend/pptok.signs", "emend/direct.words", "emend/parse.keywords"], apart := false, laid := [("emend/direct.words", laid_emend_direct_words), ("emend/pptok.signs", laid_emend_pptok_signs), ("emend/parse.keywords", laid_emend_parse_keywords)], narrowed := true }
def SitesSpellingUptoSaid : Prop := sitesSpellingUptoRow.holds Tryd.pinned (OpenSpec.upto sitesSpellingSpec)

/-- 'emendlaw19.SitesBoth', WHERE WHAT IT READS IS OF BULK AT MOST 1048576: true; the input reads as it did. -/
def sitesBothUptoRow : OpenClaim := { program := "ytfocleohejljpaadoor", sum := "871b4e4c47d7a3b296b0cd470ecece1b2a2f8fe372480654f6bde2997f2ceef4", func := "emend/emendlaw19.SitesBoth", spec := "sitesBoth", inPlace := ["internal/bytealg.IndexByteString", "internal/bytealg.IndexString"], unfollowed := true, recurses := true, named := ["internal/bytealg.MaxLen", "emend/pptok.signs", "emend/direct.words", "emend/parse.keywords"], apart := false, laid := [("emend/direct.words", laid_emend_direct_words), ("emend/pptok.signs", laid_emend_pptok_signs), ("emend/parse.keywords", laid_emend_parse_keywords)], narrowed := true }
def SitesBothUptoSaid : Prop := sitesBothUptoRow.holds Tryd.pinned (OpenSpec.upto sitesBothSpec)

/-- 'emendlaw07.GlueTexts', WHERE WHAT IT READS IS OF BULK AT MOST 1048576: true; the input reads as it did. -/
def glueTextsUptoRow : OpenClaim := { program := "ytfocleohejljpaadoor", sum := "871b4e4c47d7a3b296b0cd470ecece1b2a2f8fe372480654f6bde2997f2ceef4", func := "emend/emendlaw07.GlueTexts", spec := "glueTexts", inPlace := ["internal/bytealg.IndexByteString", "internal/bytealg.IndexString", "internal/abi.NoEscape", "internal/bytealg.CountString", "internal/bytealg.MakeNoZero"], unfollowed := true, recurses := true, named := ["internal/bytealg.MaxLen", "emend/pptok.signs", "unicode/utf8.first", "unicode/utf8.acceptRanges"], apart := false, laid := [("unicode/utf8.acceptRanges", laid_unicode_utf8_acceptRanges), ("emend/pptok.signs", laid_emend_pptok_signs), ("unicode/utf8.first", laid_unicode_utf8_first)], narrowed := true }
def GlueTextsUptoSaid : Prop := glueTextsUptoRow.holds Tryd.pinned (OpenSpec.upto glueTextsSpec)

/-- 'emendlaw07.GluePastes', WHERE WHAT IT READS IS OF BULK AT MOST 1048576: true; the input reads as it did. -/
def gluePastesUptoRow : OpenClaim := { program := "ytfocleohejljpaadoor", sum := "871b4e4c47d7a3b296b0cd470ecece1b2a2f8fe372480654f6bde2997f2ceef4", func := "emend/emendlaw07.GluePastes", spec := "gluePastes", inPlace := ["internal/bytealg.IndexByteString", "internal/bytealg.IndexString", "internal/abi.NoEscape", "internal/bytealg.CountString", "internal/bytealg.MakeNoZero"], unfollowed := true, recurses := true, named := ["internal/bytealg.MaxLen", "emend/pptok.signs", "unicode/utf8.first", "unicode/utf8.acceptRanges"], apart := false, laid := [("unicode/utf8.acceptRanges", laid_unicode_utf8_acceptRanges), ("emend/pptok.signs", laid_emend_pptok_signs), ("unicode/utf8.first", laid_unicode_utf8_first)], narrowed := true }
def GluePastesUptoSaid : Prop := gluePastesUptoRow.holds Tryd.pinned (OpenSpec.upto gluePastesSpec)

/-- 'emendlaw07.GlueQuotes', WHERE WHAT IT READS IS OF BULK AT MOST 1048576: true; the input reads as it did. -/
def glueQuotesUptoRow : OpenClaim := { program := "ytfocleohejljpaadoor", sum := "871b4e4c47d7a3b296b0cd470ecece1b2a2f8fe372480654f6bde2997f2ceef4", func := "emend/emendlaw07.GlueQuotes", spec := "glueQuotes", inPlace := ["internal/bytealg.IndexByteString", "internal/bytealg.IndexString", "internal/abi.NoEscape", "internal/bytealg.CountString", "internal/bytealg.MakeNoZero"], unfollowed := true, recurses := true, named := ["internal/bytealg.MaxLen", "emend/pptok.signs", "unicode/utf8.first", "unicode/utf8.acceptRanges"], apart := false, laid := [("unicode/utf8.acceptRanges", laid_unicode_utf8_acceptRanges), ("emend/pptok.signs", laid_emend_pptok_signs), ("unicode/utf8.first", laid_unicode_utf8_first)], narrowed := true }
def GlueQuotesUptoSaid : Prop := glueQuotesUptoRow.holds Tryd.pinned (OpenSpec.upto glueQuotesSpec)

/-- 'emendlaw07.GlueBack', WHERE WHAT IT READS IS OF BULK AT MOST 1048576: true; the input reads as it did. -/
def glueBackUptoRow : OpenClaim := { program := "ytfocleohejljpaadoor", sum := "871b4e4c47d7a3b296b0cd470ecece1b2a2f8fe372480654f6bde2997f2ceef4", func := "emend/emendlaw07.GlueBack", spec := "glueBack", inPlace := ["internal/bytealg.IndexByteString", "internal/bytealg.IndexString", "internal/abi.NoEscape", "internal/bytealg.CountString", "internal/bytealg.MakeNoZero"], unfollowed := true, recurses := true, named := ["internal/bytealg.MaxLen", "emend/pptok.signs", "unicode/utf8.first", "unicode/utf8.acceptRanges"], apart := false, laid := [("unicode/utf8.acceptRanges", laid_unicode_utf8_acceptRanges), ("emend/pptok.signs", laid_emend_pptok_signs), ("unicode/utf8.first", laid_unicode_utf8_first)], narrowed := true }
def GlueBackUptoSaid : Prop := glueBackUptoRow.holds Tryd.pinned (OpenSpec.upto glueBackSpec)

/-- 'emendlaw07.GlueAlone', WHERE WHAT IT READS IS OF BULK AT MOST 1048576: true; the input reads as it did. -/
def glueAloneUptoRow : OpenClaim := { program := "ytfocleohejljpaadoor", sum := "871b4e4c47d7a3b296b0cd470ecece1b2a2f8fe372480654f6bde2997f2ceef4", func := "emend/emendlaw07.GlueAlone", spec := "glueAlone", inPlace := ["internal/bytealg.IndexByteString", "internal/bytealg.IndexString", "internal/abi.NoEscape", "internal/bytealg.CountString", "internal/bytealg.MakeNoZero"], unfollowed := true, recurses := true, named := ["internal/bytealg.MaxLen", "emend/pptok.signs", "unicode/utf8.first", "unicode/utf8.acceptRanges"], apart := false, laid := [("unicode/utf8.acceptRanges", laid_unicode_utf8_acceptRanges), ("emend/pptok.signs", laid_emend_pptok_signs), ("unicode/utf8.first", laid_unicode_utf8_first)], narrowed := true }
def GlueAloneUptoSaid : Prop := glueAloneUptoRow.holds Tryd.pinned (OpenSpec.upto glueAloneSpec)

/-- 'emendlaw19.SitesSpelled', WHERE WHAT IT READS IS OF BULK AT MOST 1048576: true; the input reads as it did. -/
def sitesSpelledUptoRow : OpenClaim := { program := "ytfocleohejljpaadoor", sum := "871b4e4c47d7a3b296b0cd470ecece1b2a2f8fe372480654f6bde2997f2ceef4", func := "emend/emendlaw19.SitesSpelled", spec := "sitesSpelled", inPlace := ["internal/bytealg.IndexByteString", "internal/bytealg.IndexString"], unfollowed := true, recurses := true, named := ["internal/bytealg.MaxLen", "emend/pptok.signs", "emend/direct.words", "emend/parse.keywords"], apart := false, laid := [("emend/direct.words", laid_emend_direct_words), ("emend/pptok.signs", laid_emend_pptok_signs), ("emend/parse.keywords", laid_emend_parse_keywords)], narrowed := true }
def SitesSpelledUptoSaid : Prop := sitesSpelledUptoRow.holds Tryd.pinned (OpenSpec.upto sitesSpelledSpec)

/-- 'emendlaw19.SitesAll', WHERE WHAT IT READS IS OF BULK AT MOST 1048576: true; the input reads as it did. -/
def sitesAllUptoRow : OpenClaim := { program := "ytfocleohejljpaadoor", sum := "871b4e4c47d7a3b296b0cd470ecece1b2a2f8fe372480654f6bde2997f2ceef4", func := "emend/emendlaw19.SitesAll", spec := "sitesAll", inPlace := ["internal/bytealg.IndexByteString", "internal/bytealg.IndexString"], unfollowed := true, recurses := true, named := ["internal/bytealg.MaxLen", "emend/pptok.signs", "emend/direct.words", "emend/parse.keywords"], apart := false, laid := [("emend/direct.words", laid_emend_direct_words), ("emend/pptok.signs", laid_emend_pptok_signs), ("emend/parse.keywords", laid_emend_parse_keywords)], narrowed := true }
def SitesAllUptoSaid : Prop := sitesAllUptoRow.holds Tryd.pinned (OpenSpec.upto sitesAllSpec)

end Rows
end Go.Proofs.YtfocleohejljpaaDoor
