/-
  DERIVED. GIVEN WITH THE SEED: THE CARDS: each row of YtmaklbdlijcopaaDoorRows.lean that lists a variable, with what it lists TIED to the program's text (the seventh form; the later family's looks); each row that meets fmt, with fmt's text TOLD by the authors' own Lean function (tested against real Go, not proved from fmt's source: count such statements apart). THE CARD IS WHAT COUNTS. Prove the row's statement (the work); the ties are given (YtmaklbdlijcopaaDoorTie.lean); close each card by the builder's one call (the guide's Derived/Test/ToyasCard.lean, 'card_holds'). Laid BY PROGRAM, IN A SANDBOX (cutbox-door.mjs). By AI agents, Wed Nov 11 2026. No macro, syntax, notation, axiom, sorry.
-/
import Derived.Test.YtmaklbdlijcopaaDoorRows
import GoSem.ClaimSeven
namespace Go.Proofs.YtmaklbdlijcopaaDoor
namespace Rows

/-- THE TIED CARD OF 'laws.FnNum'. -/
def fnNumCard : Claim7 := { stood := { row := fnNumRow, standIns := [], harness := (true, "4fded6c161e72548b993b6adc263f18b73eaaf96eb278c7944f9886c28758024"), looks := true }, kinds := [], alts := [], laidByText := true, laidKinds := [.data, .data, .data, .sentinel, .sentinel], laidTests := true, laidLooks := .later }
def FnNumCardSaid : Prop := Claim7.holds Tryd.pinned (.plain (OpenSpec.ofChange fnNumSpec)) fnNumCard

/-- THE TIED CARD OF 'laws.FnExactFormatInt'. -/
def fnExactFormatIntCard : Claim7 := { stood := { row := fnExactFormatIntRow, standIns := [], harness := (true, "4fded6c161e72548b993b6adc263f18b73eaaf96eb278c7944f9886c28758024"), looks := true }, kinds := [], alts := [], laidByText := true, laidKinds := [.data, .data, .data], laidTests := true, laidLooks := .later }
def FnExactFormatIntCardSaid : Prop := Claim7.holds Tryd.pinned (.plain (OpenSpec.ofChange fnExactFormatIntSpec)) fnExactFormatIntCard

/-- THE TIED CARD OF 'laws.FnExactSplitByte'. -/
def fnExactSplitByteCard : Claim7 := { stood := { row := fnExactSplitByteRow, standIns := [], harness := (true, "4fded6c161e72548b993b6adc263f18b73eaaf96eb278c7944f9886c28758024"), looks := true }, kinds := [], alts := [], laidByText := true, laidKinds := [.data, .pinned], laidTests := true, laidLooks := .later }
def FnExactSplitByteCardSaid : Prop := Claim7.holds Tryd.pinned (.plain (OpenSpec.ofChange fnExactSplitByteSpec)) fnExactSplitByteCard

/-- THE TIED CARD OF 'laws.FnParts'. -/
def fnPartsCard : Claim7 := { stood := { row := fnPartsRow, standIns := [], harness := (true, "4fded6c161e72548b993b6adc263f18b73eaaf96eb278c7944f9886c28758024"), looks := true }, kinds := [], alts := [], laidByText := true, laidKinds := [.data, .pinned], laidTests := true, laidLooks := .later }
def FnPartsCardSaid : Prop := Claim7.holds Tryd.pinned (.plain (OpenSpec.ofChange fnPartsSpec)) fnPartsCard

/-- THE TIED CARD OF 'laws.FnExactParseInt'. -/
def fnExactParseIntCard : Claim7 := { stood := { row := fnExactParseIntRow, standIns := [], harness := (true, "4fded6c161e72548b993b6adc263f18b73eaaf96eb278c7944f9886c28758024"), looks := true }, kinds := [], alts := [], laidByText := true, laidKinds := [.data, .data, .data, .sentinel, .sentinel], laidTests := true, laidLooks := .later }
def FnExactParseIntCardSaid : Prop := Claim7.holds Tryd.pinned (.plain (OpenSpec.ofChange fnExactParseIntSpec)) fnExactParseIntCard

/-- THE TIED CARD OF 'laws.FnExactParseNumber'. -/
def fnExactParseNumberCard : Claim7 := { stood := { row := fnExactParseNumberRow, standIns := [], harness := (true, "4fded6c161e72548b993b6adc263f18b73eaaf96eb278c7944f9886c28758024"), looks := true }, kinds := [], alts := [], laidByText := true, laidKinds := [.data, .data, .data, .sentinel, .sentinel], laidTests := true, laidLooks := .later }
def FnExactParseNumberCardSaid : Prop := Claim7.holds Tryd.pinned (.plain (OpenSpec.ofChange fnExactParseNumberSpec)) fnExactParseNumberCard

/-- THE SECOND FORM's CARD OF 'laws.FnNum'. -/
def fnNumUptoCard : Claim7 := { stood := { row := fnNumUptoRow, standIns := [], harness := (true, "4fded6c161e72548b993b6adc263f18b73eaaf96eb278c7944f9886c28758024"), looks := true }, kinds := [], alts := [], laidByText := true, laidKinds := [.data, .data, .data, .sentinel, .sentinel], laidTests := true, laidLooks := .later }
def FnNumUptoCardSaid : Prop := Claim7.holds Tryd.pinned (.plain (OpenSpec.upto fnNumSpec)) fnNumUptoCard

/-- THE SECOND FORM's CARD OF 'laws.FnExactFormatInt'. -/
def fnExactFormatIntUptoCard : Claim7 := { stood := { row := fnExactFormatIntUptoRow, standIns := [], harness := (true, "4fded6c161e72548b993b6adc263f18b73eaaf96eb278c7944f9886c28758024"), looks := true }, kinds := [], alts := [], laidByText := true, laidKinds := [.data, .data, .data], laidTests := true, laidLooks := .later }
def FnExactFormatIntUptoCardSaid : Prop := Claim7.holds Tryd.pinned (.plain (OpenSpec.upto fnExactFormatIntSpec)) fnExactFormatIntUptoCard

/-- THE SECOND FORM's CARD OF 'laws.FnExactSplitByte'. -/
def fnExactSplitByteUptoCard : Claim7 := { stood := { row := fnExactSplitByteUptoRow, standIns := [], harness := (true, "4fded6c161e72548b993b6adc263f18b73eaaf96eb278c7944f9886c28758024"), looks := true }, kinds := [], alts := [], laidByText := true, laidKinds := [.data, .pinned], laidTests := true, laidLooks := .later }
def FnExactSplitByteUptoCardSaid : Prop := Claim7.holds Tryd.pinned (.plain (OpenSpec.upto fnExactSplitByteSpec)) fnExactSplitByteUptoCard

/-- THE SECOND FORM's CARD OF 'laws.FnParts'. -/
def fnPartsUptoCard : Claim7 := { stood := { row := fnPartsUptoRow, standIns := [], harness := (true, "4fded6c161e72548b993b6adc263f18b73eaaf96eb278c7944f9886c28758024"), looks := true }, kinds := [], alts := [], laidByText := true, laidKinds := [.data, .pinned], laidTests := true, laidLooks := .later }
def FnPartsUptoCardSaid : Prop := Claim7.holds Tryd.pinned (.plain (OpenSpec.upto fnPartsSpec)) fnPartsUptoCard

/-- THE SECOND FORM's CARD OF 'laws.FnExactParseInt'. -/
def fnExactParseIntUptoCard : Claim7 := { stood := { row := fnExactParseIntUptoRow, standIns := [], harness := (true, "4fded6c161e72548b993b6adc263f18b73eaaf96eb278c7944f9886c28758024"), looks := true }, kinds := [], alts := [], laidByText := true, laidKinds := [.data, .data, .data, .sentinel, .sentinel], laidTests := true, laidLooks := .later }
def FnExactParseIntUptoCardSaid : Prop := Claim7.holds Tryd.pinned (.plain (OpenSpec.upto fnExactParseIntSpec)) fnExactParseIntUptoCard

/-- THE SECOND FORM's CARD OF 'laws.FnExactParseNumber'. -/
def fnExactParseNumberUptoCard : Claim7 := { stood := { row := fnExactParseNumberUptoRow, standIns := [], harness := (true, "4fded6c161e72548b993b6adc263f18b73eaaf96eb278c7944f9886c28758024"), looks := true }, kinds := [], alts := [], laidByText := true, laidKinds := [.data, .data, .data, .sentinel, .sentinel], laidTests := true, laidLooks := .later }
def FnExactParseNumberUptoCardSaid : Prop := Claim7.holds Tryd.pinned (.plain (OpenSpec.upto fnExactParseNumberSpec)) fnExactParseNumberUptoCard
end Rows
end Go.Proofs.YtmaklbdlijcopaaDoor
