/-
  DERIVED. GIVEN WITH THE SEED: THE CARDS: each row of YtoflhfiegfhkoaaDoorRows.lean that lists a variable, with what it lists TIED to the program's text (the seventh form; the later family's looks); each row that meets fmt, with fmt's text TOLD by the authors' own Lean function (tested against real Go, not proved from fmt's source: count such statements apart). THE CARD IS WHAT COUNTS. Prove the row's statement (the work); the ties are given (YtoflhfiegfhkoaaDoorTie.lean); close each card by the builder's one call (the guide's Derived/Test/ToyasCard.lean, 'card_holds'). Laid BY PROGRAM, IN A SANDBOX (cutbox-door.mjs). By AI agents, Wed Nov 11 2026. No macro, syntax, notation, axiom, sorry.
-/
import Derived.Test.YtoflhfiegfhkoaaDoorRows
import GoSem.ClaimSeven
namespace Go.Proofs.YtoflhfiegfhkoaaDoor
namespace Rows

/-- THE TIED CARD OF 'dormouselaw03.CheckTells'. -/
def checkTellsCard : Claim7 := { stood := { row := checkTellsRow, standIns := [], harness := (true, "00a823e9f6429ae49d5ad3c40cb43b1e685d09989c9da833d42e6a9d1d3f7fe9"), looks := true }, kinds := [], alts := [], laidByText := true, laidKinds := [.data, .listed, .data, .pinned], laidTests := true, laidLooks := .later }
def CheckTellsCardSaid : Prop := Claim7.holds Tryd.pinned (.plain (OpenSpec.ofChange checkTellsSpec)) checkTellsCard

/-- THE TIED CARD OF 'dormouselaw03.CheckBack'. -/
def checkBackCard : Claim7 := { stood := { row := checkBackRow, standIns := [], harness := (true, "00a823e9f6429ae49d5ad3c40cb43b1e685d09989c9da833d42e6a9d1d3f7fe9"), looks := true }, kinds := [], alts := [], laidByText := true, laidKinds := [.data, .listed, .data, .pinned], laidTests := true, laidLooks := .later }
def CheckBackCardSaid : Prop := Claim7.holds Tryd.pinned (.plain (OpenSpec.ofChange checkBackSpec)) checkBackCard

/-- THE TIED CARD OF 'dormouselaw03.CheckWrong'. -/
def checkWrongCard : Claim7 := { stood := { row := checkWrongRow, standIns := [], harness := (true, "00a823e9f6429ae49d5ad3c40cb43b1e685d09989c9da833d42e6a9d1d3f7fe9"), looks := true }, kinds := [], alts := [], laidByText := true, laidKinds := [.data, .listed, .data, .pinned], laidTests := true, laidLooks := .later }
def CheckWrongCardSaid : Prop := Claim7.holds Tryd.pinned (.plain (OpenSpec.ofChange checkWrongSpec)) checkWrongCard

/-- THE TIED CARD OF 'dormouselaw03.CheckBounds'. -/
def checkBoundsCard : Claim7 := { stood := { row := checkBoundsRow, standIns := [], harness := (true, "00a823e9f6429ae49d5ad3c40cb43b1e685d09989c9da833d42e6a9d1d3f7fe9"), looks := true }, kinds := [], alts := [], laidByText := true, laidKinds := [.data, .listed, .data, .pinned], laidTests := true, laidLooks := .later }
def CheckBoundsCardSaid : Prop := Claim7.holds Tryd.pinned (.plain (OpenSpec.ofChange checkBoundsSpec)) checkBoundsCard

/-- THE TIED CARD OF 'dormouselaw03.CheckRegs'. -/
def checkRegsCard : Claim7 := { stood := { row := checkRegsRow, standIns := [], harness := (true, "00a823e9f6429ae49d5ad3c40cb43b1e685d09989c9da833d42e6a9d1d3f7fe9"), looks := true }, kinds := [], alts := [], laidByText := true, laidKinds := [.data, .listed, .data, .pinned], laidTests := true, laidLooks := .later }
def CheckRegsCardSaid : Prop := Claim7.holds Tryd.pinned (.plain (OpenSpec.ofChange checkRegsSpec)) checkRegsCard

/-- THE TIED CARD OF 'dormouselaw02.CodeTells'. -/
def codeTellsCard : Claim7 := { stood := { row := codeTellsRow, standIns := [], harness := (true, "00a823e9f6429ae49d5ad3c40cb43b1e685d09989c9da833d42e6a9d1d3f7fe9"), looks := true }, kinds := [], alts := [], laidByText := true, laidKinds := [.data, .data, .data, .data, .listed, .data, .pinned], laidTests := true, laidLooks := .later }
def CodeTellsCardSaid : Prop := Claim7.holds Tryd.pinned (.plain (OpenSpec.ofChange codeTellsSpec)) codeTellsCard

/-- THE TIED CARD OF 'dormouselaw02.CodeBack'. -/
def codeBackCard : Claim7 := { stood := { row := codeBackRow, standIns := [], harness := (true, "00a823e9f6429ae49d5ad3c40cb43b1e685d09989c9da833d42e6a9d1d3f7fe9"), looks := true }, kinds := [], alts := [], laidByText := true, laidKinds := [.data, .data, .data, .data, .listed, .data, .pinned], laidTests := true, laidLooks := .later }
def CodeBackCardSaid : Prop := Claim7.holds Tryd.pinned (.plain (OpenSpec.ofChange codeBackSpec)) codeBackCard

/-- THE TIED CARD OF 'dormouselaw02.CodeEach'. -/
def codeEachCard : Claim7 := { stood := { row := codeEachRow, standIns := [], harness := (true, "00a823e9f6429ae49d5ad3c40cb43b1e685d09989c9da833d42e6a9d1d3f7fe9"), looks := true }, kinds := [], alts := [], laidByText := true, laidKinds := [.data, .data, .data, .data, .listed, .data, .pinned], laidTests := true, laidLooks := .later }
def CodeEachCardSaid : Prop := Claim7.holds Tryd.pinned (.plain (OpenSpec.ofChange codeEachSpec)) codeEachCard

/-- THE TIED CARD OF 'dormouselaw02.CodeCases'. -/
def codeCasesCard : Claim7 := { stood := { row := codeCasesRow, standIns := [], harness := (true, "00a823e9f6429ae49d5ad3c40cb43b1e685d09989c9da833d42e6a9d1d3f7fe9"), looks := true }, kinds := [], alts := [], laidByText := true, laidKinds := [.data, .data, .data, .data, .listed, .data, .pinned], laidTests := true, laidLooks := .later }
def CodeCasesCardSaid : Prop := Claim7.holds Tryd.pinned (.plain (OpenSpec.ofChange codeCasesSpec)) codeCasesCard

/-- THE TIED CARD OF 'dormouselaw02.CodePlaces'. -/
def codePlacesCard : Claim7 := { stood := { row := codePlacesRow, standIns := [], harness := (true, "00a823e9f6429ae49d5ad3c40cb43b1e685d09989c9da833d42e6a9d1d3f7fe9"), looks := true }, kinds := [], alts := [], laidByText := true, laidKinds := [.data, .data, .data, .data, .listed, .data, .pinned], laidTests := true, laidLooks := .later }
def CodePlacesCardSaid : Prop := Claim7.holds Tryd.pinned (.plain (OpenSpec.ofChange codePlacesSpec)) codePlacesCard

/-- THE TIED CARD OF 'dormouselaw02.CodeNumbers'. -/
def codeNumbersCard : Claim7 := { stood := { row := codeNumbersRow, standIns := [], harness := (true, "00a823e9f6429ae49d5ad3c40cb43b1e685d09989c9da833d42e6a9d1d3f7fe9"), looks := true }, kinds := [], alts := [], laidByText := true, laidKinds := [.data, .data, .data, .data, .listed, .data, .pinned], laidTests := true, laidLooks := .later }
def CodeNumbersCardSaid : Prop := Claim7.holds Tryd.pinned (.plain (OpenSpec.ofChange codeNumbersSpec)) codeNumbersCard

/-- THE SECOND FORM's CARD OF 'dormouselaw03.CheckTells'. -/
def checkTellsUptoCard : Claim7 := { stood := { row := checkTellsUptoRow, standIns := [], harness := (true, "00a823e9f6429ae49d5ad3c40cb43b1e685d09989c9da833d42e6a9d1d3f7fe9"), looks := true }, kinds := [], alts := [], laidByText := true, laidKinds := [.data, .listed, .data, .pinned], laidTests := true, laidLooks := .later }
def CheckTellsUptoCardSaid : Prop := Claim7.holds Tryd.pinned (.plain (OpenSpec.upto checkTellsSpec)) checkTellsUptoCard

/-- THE SECOND FORM's CARD OF 'dormouselaw03.CheckBack'. -/
def checkBackUptoCard : Claim7 := { stood := { row := checkBackUptoRow, standIns := [], harness := (true, "00a823e9f6429ae49d5ad3c40cb43b1e685d09989c9da833d42e6a9d1d3f7fe9"), looks := true }, kinds := [], alts := [], laidByText := true, laidKinds := [.data, .listed, .data, .pinned], laidTests := true, laidLooks := .later }
def CheckBackUptoCardSaid : Prop := Claim7.holds Tryd.pinned (.plain (OpenSpec.upto checkBackSpec)) checkBackUptoCard

/-- THE SECOND FORM's CARD OF 'dormouselaw03.CheckWrong'. -/
def checkWrongUptoCard : Claim7 := { stood := { row := checkWrongUptoRow, standIns := [], harness := (true, "00a823e9f6429ae49d5ad3c40cb43b1e685d09989c9da833d42e6a9d1d3f7fe9"), looks := true }, kinds := [], alts := [], laidByText := true, laidKinds := [.data, .listed, .data, .pinned], laidTests := true, laidLooks := .later }
def CheckWrongUptoCardSaid : Prop := Claim7.holds Tryd.pinned (.plain (OpenSpec.upto checkWrongSpec)) checkWrongUptoCard

/-- THE SECOND FORM's CARD OF 'dormouselaw03.CheckBounds'. -/
def checkBoundsUptoCard : Claim7 := { stood := { row := checkBoundsUptoRow, standIns := [], harness := (true, "00a823e9f6429ae49d5ad3c40cb43b1e685d09989c9da833d42e6a9d1d3f7fe9"), looks := true }, kinds := [], alts := [], laidByText := true, laidKinds := [.data, .listed, .data, .pinned], laidTests := true, laidLooks := .later }
def CheckBoundsUptoCardSaid : Prop := Claim7.holds Tryd.pinned (.plain (OpenSpec.upto checkBoundsSpec)) checkBoundsUptoCard

/-- THE SECOND FORM's CARD OF 'dormouselaw03.CheckRegs'. -/
def checkRegsUptoCard : Claim7 := { stood := { row := checkRegsUptoRow, standIns := [], harness := (true, "00a823e9f6429ae49d5ad3c40cb43b1e685d09989c9da833d42e6a9d1d3f7fe9"), looks := true }, kinds := [], alts := [], laidByText := true, laidKinds := [.data, .listed, .data, .pinned], laidTests := true, laidLooks := .later }
def CheckRegsUptoCardSaid : Prop := Claim7.holds Tryd.pinned (.plain (OpenSpec.upto checkRegsSpec)) checkRegsUptoCard

/-- THE SECOND FORM's CARD OF 'dormouselaw02.CodeTells'. -/
def codeTellsUptoCard : Claim7 := { stood := { row := codeTellsUptoRow, standIns := [], harness := (true, "00a823e9f6429ae49d5ad3c40cb43b1e685d09989c9da833d42e6a9d1d3f7fe9"), looks := true }, kinds := [], alts := [], laidByText := true, laidKinds := [.data, .data, .data, .data, .listed, .data, .pinned], laidTests := true, laidLooks := .later }
def CodeTellsUptoCardSaid : Prop := Claim7.holds Tryd.pinned (.plain (OpenSpec.upto codeTellsSpec)) codeTellsUptoCard

/-- THE SECOND FORM's CARD OF 'dormouselaw02.CodeBack'. -/
def codeBackUptoCard : Claim7 := { stood := { row := codeBackUptoRow, standIns := [], harness := (true, "00a823e9f6429ae49d5ad3c40cb43b1e685d09989c9da833d42e6a9d1d3f7fe9"), looks := true }, kinds := [], alts := [], laidByText := true, laidKinds := [.data, .data, .data, .data, .listed, .data, .pinned], laidTests := true, laidLooks := .later }
def CodeBackUptoCardSaid : Prop := Claim7.holds Tryd.pinned (.plain (OpenSpec.upto codeBackSpec)) codeBackUptoCard

/-- THE SECOND FORM's CARD OF 'dormouselaw02.CodeEach'. -/
def codeEachUptoCard : Claim7 := { stood := { row := codeEachUptoRow, standIns := [], harness := (true, "00a823e9f6429ae49d5ad3c40cb43b1e685d09989c9da833d42e6a9d1d3f7fe9"), looks := true }, kinds := [], alts := [], laidByText := true, laidKinds := [.data, .data, .data, .data, .listed, .data, .pinned], laidTests := true, laidLooks := .later }
def CodeEachUptoCardSaid : Prop := Claim7.holds Tryd.pinned (.plain (OpenSpec.upto codeEachSpec)) codeEachUptoCard

/-- THE SECOND FORM's CARD OF 'dormouselaw02.CodeCases'. -/
def codeCasesUptoCard : Claim7 := { stood := { row := codeCasesUptoRow, standIns := [], harness := (true, "00a823e9f6429ae49d5ad3c40cb43b1e685d09989c9da833d42e6a9d1d3f7fe9"), looks := true }, kinds := [], alts := [], laidByText := true, laidKinds := [.data, .data, .data, .data, .listed, .data, .pinned], laidTests := true, laidLooks := .later }
def CodeCasesUptoCardSaid : Prop := Claim7.holds Tryd.pinned (.plain (OpenSpec.upto codeCasesSpec)) codeCasesUptoCard

/-- THE SECOND FORM's CARD OF 'dormouselaw02.CodePlaces'. -/
def codePlacesUptoCard : Claim7 := { stood := { row := codePlacesUptoRow, standIns := [], harness := (true, "00a823e9f6429ae49d5ad3c40cb43b1e685d09989c9da833d42e6a9d1d3f7fe9"), looks := true }, kinds := [], alts := [], laidByText := true, laidKinds := [.data, .data, .data, .data, .listed, .data, .pinned], laidTests := true, laidLooks := .later }
def CodePlacesUptoCardSaid : Prop := Claim7.holds Tryd.pinned (.plain (OpenSpec.upto codePlacesSpec)) codePlacesUptoCard

/-- THE SECOND FORM's CARD OF 'dormouselaw02.CodeNumbers'. -/
def codeNumbersUptoCard : Claim7 := { stood := { row := codeNumbersUptoRow, standIns := [], harness := (true, "00a823e9f6429ae49d5ad3c40cb43b1e685d09989c9da833d42e6a9d1d3f7fe9"), looks := true }, kinds := [], alts := [], laidByText := true, laidKinds := [.data, .data, .data, .data, .listed, .data, .pinned], laidTests := true, laidLooks := .later }
def CodeNumbersUptoCardSaid : Prop := Claim7.holds Tryd.pinned (.plain (OpenSpec.upto codeNumbersSpec)) codeNumbersUptoCard
end Rows
end Go.Proofs.YtoflhfiegfhkoaaDoor
