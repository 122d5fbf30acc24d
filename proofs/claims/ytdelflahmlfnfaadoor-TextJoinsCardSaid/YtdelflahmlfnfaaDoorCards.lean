/-
  DERIVED. GIVEN WITH THE SEED: THE CARDS: each row of YtdelflahmlfnfaaDoorRows.lean that lists a variable, with what it lists TIED to the program's text (the seventh form; the later family's looks); each row that meets fmt, with fmt's text TOLD by the authors' own Lean function (tested against real Go, not proved from fmt's source: count such statements apart). THE CARD IS WHAT COUNTS. Prove the row's statement (the work); the ties are given (YtdelflahmlfnfaaDoorTie.lean); close each card by the builder's one call (the guide's Derived/Test/ToyasCard.lean, 'card_holds'). Laid BY PROGRAM, IN A SANDBOX (cutbox-door.mjs). By AI agents, Wed Nov 11 2026. No macro, syntax, notation, axiom, sorry.
-/
import Derived.Test.YtdelflahmlfnfaaDoorRows
import GoSem.ClaimSeven
namespace Go.Proofs.YtdelflahmlfnfaaDoor
namespace Rows

/-- THE TIED CARD OF 'dormouselaw26.TraceParts'. -/
def tracePartsCard : Claim7 := { stood := { row := tracePartsRow, standIns := [], harness := (true, "bba7ee14c7b71367084670d553be5959f1c7e5292658cc950d182cfbad12019c"), looks := true }, kinds := [], alts := [], laidByText := true, laidKinds := [.data, .data, .data], laidTests := true, laidLooks := .later }
def TracePartsCardSaid : Prop := Claim7.holds Tryd.pinned (.plain (OpenSpec.ofChange tracePartsSpec)) tracePartsCard

/-- THE TIED CARD OF 'dormouselaw26.TraceKinds'. -/
def traceKindsCard : Claim7 := { stood := { row := traceKindsRow, standIns := [], harness := (true, "bba7ee14c7b71367084670d553be5959f1c7e5292658cc950d182cfbad12019c"), looks := true }, kinds := [], alts := [], laidByText := true, laidKinds := [.data, .data, .data], laidTests := true, laidLooks := .later }
def TraceKindsCardSaid : Prop := Claim7.holds Tryd.pinned (.plain (OpenSpec.ofChange traceKindsSpec)) traceKindsCard

/-- THE TIED CARD OF 'dormouselaw01.TextTells'. -/
def textTellsCard : Claim7 := { stood := { row := textTellsRow, standIns := [], harness := (true, "bba7ee14c7b71367084670d553be5959f1c7e5292658cc950d182cfbad12019c"), looks := true }, kinds := [], alts := [], laidByText := true, laidKinds := [.data, .pinned], laidTests := true, laidLooks := .later }
def TextTellsCardSaid : Prop := Claim7.holds Tryd.pinned (.plain (OpenSpec.ofChange textTellsSpec)) textTellsCard

/-- THE TIED CARD OF 'dormouselaw01.TextJoins'. -/
def textJoinsCard : Claim7 := { stood := { row := textJoinsRow, standIns := [], harness := (true, "bba7ee14c7b71367084670d553be5959f1c7e5292658cc950d182cfbad12019c"), looks := true }, kinds := [], alts := [], laidByText := true, laidKinds := [.data, .pinned], laidTests := true, laidLooks := .later }
def TextJoinsCardSaid : Prop := Claim7.holds Tryd.pinned (.plain (OpenSpec.ofChange textJoinsSpec)) textJoinsCard

/-- THE TIED CARD OF 'dormouselaw01.TextSigns'. -/
def textSignsCard : Claim7 := { stood := { row := textSignsRow, standIns := [], harness := (true, "bba7ee14c7b71367084670d553be5959f1c7e5292658cc950d182cfbad12019c"), looks := true }, kinds := [], alts := [], laidByText := true, laidKinds := [.data, .pinned], laidTests := true, laidLooks := .later }
def TextSignsCardSaid : Prop := Claim7.holds Tryd.pinned (.plain (OpenSpec.ofChange textSignsSpec)) textSignsCard

/-- THE TIED CARD OF 'dormouselaw01.TextNames'. -/
def textNamesCard : Claim7 := { stood := { row := textNamesRow, standIns := [], harness := (true, "bba7ee14c7b71367084670d553be5959f1c7e5292658cc950d182cfbad12019c"), looks := true }, kinds := [], alts := [], laidByText := true, laidKinds := [.data, .pinned], laidTests := true, laidLooks := .later }
def TextNamesCardSaid : Prop := Claim7.holds Tryd.pinned (.plain (OpenSpec.ofChange textNamesSpec)) textNamesCard

/-- THE SECOND FORM's CARD OF 'dormouselaw26.TraceParts'. -/
def tracePartsUptoCard : Claim7 := { stood := { row := tracePartsUptoRow, standIns := [], harness := (true, "bba7ee14c7b71367084670d553be5959f1c7e5292658cc950d182cfbad12019c"), looks := true }, kinds := [], alts := [], laidByText := true, laidKinds := [.data, .data, .data], laidTests := true, laidLooks := .later }
def TracePartsUptoCardSaid : Prop := Claim7.holds Tryd.pinned (.plain (OpenSpec.upto tracePartsSpec)) tracePartsUptoCard

/-- THE SECOND FORM's CARD OF 'dormouselaw26.TraceKinds'. -/
def traceKindsUptoCard : Claim7 := { stood := { row := traceKindsUptoRow, standIns := [], harness := (true, "bba7ee14c7b71367084670d553be5959f1c7e5292658cc950d182cfbad12019c"), looks := true }, kinds := [], alts := [], laidByText := true, laidKinds := [.data, .data, .data], laidTests := true, laidLooks := .later }
def TraceKindsUptoCardSaid : Prop := Claim7.holds Tryd.pinned (.plain (OpenSpec.upto traceKindsSpec)) traceKindsUptoCard

/-- THE SECOND FORM's CARD OF 'dormouselaw01.TextTells'. -/
def textTellsUptoCard : Claim7 := { stood := { row := textTellsUptoRow, standIns := [], harness := (true, "bba7ee14c7b71367084670d553be5959f1c7e5292658cc950d182cfbad12019c"), looks := true }, kinds := [], alts := [], laidByText := true, laidKinds := [.data, .pinned], laidTests := true, laidLooks := .later }
def TextTellsUptoCardSaid : Prop := Claim7.holds Tryd.pinned (.plain (OpenSpec.upto textTellsSpec)) textTellsUptoCard

/-- THE SECOND FORM's CARD OF 'dormouselaw01.TextJoins'. -/
def textJoinsUptoCard : Claim7 := { stood := { row := textJoinsUptoRow, standIns := [], harness := (true, "bba7ee14c7b71367084670d553be5959f1c7e5292658cc950d182cfbad12019c"), looks := true }, kinds := [], alts := [], laidByText := true, laidKinds := [.data, .pinned], laidTests := true, laidLooks := .later }
def TextJoinsUptoCardSaid : Prop := Claim7.holds Tryd.pinned (.plain (OpenSpec.upto textJoinsSpec)) textJoinsUptoCard

/-- THE SECOND FORM's CARD OF 'dormouselaw01.TextSigns'. -/
def textSignsUptoCard : Claim7 := { stood := { row := textSignsUptoRow, standIns := [], harness := (true, "bba7ee14c7b71367084670d553be5959f1c7e5292658cc950d182cfbad12019c"), looks := true }, kinds := [], alts := [], laidByText := true, laidKinds := [.data, .pinned], laidTests := true, laidLooks := .later }
def TextSignsUptoCardSaid : Prop := Claim7.holds Tryd.pinned (.plain (OpenSpec.upto textSignsSpec)) textSignsUptoCard

/-- THE SECOND FORM's CARD OF 'dormouselaw01.TextNames'. -/
def textNamesUptoCard : Claim7 := { stood := { row := textNamesUptoRow, standIns := [], harness := (true, "bba7ee14c7b71367084670d553be5959f1c7e5292658cc950d182cfbad12019c"), looks := true }, kinds := [], alts := [], laidByText := true, laidKinds := [.data, .pinned], laidTests := true, laidLooks := .later }
def TextNamesUptoCardSaid : Prop := Claim7.holds Tryd.pinned (.plain (OpenSpec.upto textNamesSpec)) textNamesUptoCard
end Rows
end Go.Proofs.YtdelflahmlfnfaaDoor
