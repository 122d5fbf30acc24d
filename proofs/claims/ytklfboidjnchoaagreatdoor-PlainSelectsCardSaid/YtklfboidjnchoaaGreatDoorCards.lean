/-
  DERIVED. GIVEN WITH THE SEED: THE CARDS: each row of YtklfboidjnchoaaGreatDoorRows.lean that lists a variable, with what it lists TIED to the program's text (the seventh form; the later family's looks); each row that meets fmt, with fmt's text TOLD by the authors' own Lean function (tested against real Go, not proved from fmt's source: count such statements apart). THE CARD IS WHAT COUNTS. Prove the row's statement (the work); the ties are given (YtklfboidjnchoaaGreatDoorTie.lean); close each card by the builder's one call (the guide's Derived/Test/ToyasCard.lean, 'card_holds'). Laid BY PROGRAM, IN A SANDBOX (cutbox-door.mjs). By AI agents, Wed Nov 11 2026. No macro, syntax, notation, axiom, sorry.
-/
import Derived.Test.YtklfboidjnchoaaGreatDoorRows
import GoSem.ClaimSeven
namespace Go.Proofs.YtklfboidjnchoaaGreatDoor
namespace Rows

/-- THE TIED CARD OF 'dormouselaw23.PlainTells'. -/
def plainTellsCard : Claim7 := { stood := { row := plainTellsRow, standIns := [], harness := (true, "2b60af22c4ac17cc86b584cdc9b193ba0dcf3d9a42433069faf38d2bbbbd590b"), looks := true }, kinds := [], alts := [], laidByText := true, laidKinds := [.listed, .data], laidTests := true, laidLooks := .later }
def PlainTellsCardSaid : Prop := Claim7.holds Tryz.pinned (.plain (OpenSpec.ofChange plainTellsSpec)) plainTellsCard

/-- THE TIED CARD OF 'dormouselaw23.PlainPasses'. -/
def plainPassesCard : Claim7 := { stood := { row := plainPassesRow, standIns := [], harness := (true, "2b60af22c4ac17cc86b584cdc9b193ba0dcf3d9a42433069faf38d2bbbbd590b"), looks := true }, kinds := [], alts := [], laidByText := true, laidKinds := [.listed, .data], laidTests := true, laidLooks := .later }
def PlainPassesCardSaid : Prop := Claim7.holds Tryz.pinned (.plain (OpenSpec.ofChange plainPassesSpec)) plainPassesCard

/-- THE TIED CARD OF 'dormouselaw23.PlainErrors'. -/
def plainErrorsCard : Claim7 := { stood := { row := plainErrorsRow, standIns := [], harness := (true, "2b60af22c4ac17cc86b584cdc9b193ba0dcf3d9a42433069faf38d2bbbbd590b"), looks := true }, kinds := [], alts := [], laidByText := true, laidKinds := [.listed, .data], laidTests := true, laidLooks := .later }
def PlainErrorsCardSaid : Prop := Claim7.holds Tryz.pinned (.plain (OpenSpec.ofChange plainErrorsSpec)) plainErrorsCard

/-- THE TIED CARD OF 'dormouselaw23.PlainTimers'. -/
def plainTimersCard : Claim7 := { stood := { row := plainTimersRow, standIns := [], harness := (true, "2b60af22c4ac17cc86b584cdc9b193ba0dcf3d9a42433069faf38d2bbbbd590b"), looks := true }, kinds := [], alts := [], laidByText := true, laidKinds := [.listed, .data], laidTests := true, laidLooks := .later }
def PlainTimersCardSaid : Prop := Claim7.holds Tryz.pinned (.plain (OpenSpec.ofChange plainTimersSpec)) plainTimersCard

/-- THE TIED CARD OF 'dormouselaw23.PlainSelects'. -/
def plainSelectsCard : Claim7 := { stood := { row := plainSelectsRow, standIns := [], harness := (true, "2b60af22c4ac17cc86b584cdc9b193ba0dcf3d9a42433069faf38d2bbbbd590b"), looks := true }, kinds := [], alts := [], laidByText := true, laidKinds := [.listed, .data], laidTests := true, laidLooks := .later }
def PlainSelectsCardSaid : Prop := Claim7.holds Tryz.pinned (.plain (OpenSpec.ofChange plainSelectsSpec)) plainSelectsCard

/-- THE TIED CARD OF 'dormouselaw23.PlainCloses'. -/
def plainClosesCard : Claim7 := { stood := { row := plainClosesRow, standIns := [], harness := (true, "2b60af22c4ac17cc86b584cdc9b193ba0dcf3d9a42433069faf38d2bbbbd590b"), looks := true }, kinds := [], alts := [], laidByText := true, laidKinds := [.listed, .data], laidTests := true, laidLooks := .later }
def PlainClosesCardSaid : Prop := Claim7.holds Tryz.pinned (.plain (OpenSpec.ofChange plainClosesSpec)) plainClosesCard

/-- THE TIED CARD OF 'dormouselaw23.PlainBoxes'. -/
def plainBoxesCard : Claim7 := { stood := { row := plainBoxesRow, standIns := [], harness := (true, "2b60af22c4ac17cc86b584cdc9b193ba0dcf3d9a42433069faf38d2bbbbd590b"), looks := true }, kinds := [], alts := [], laidByText := true, laidKinds := [.listed, .data], laidTests := true, laidLooks := .later }
def PlainBoxesCardSaid : Prop := Claim7.holds Tryz.pinned (.plain (OpenSpec.ofChange plainBoxesSpec)) plainBoxesCard

/-- THE TIED CARD OF 'dormouselaw23.PlainBig'. -/
def plainBigCard : Claim7 := { stood := { row := plainBigRow, standIns := [], harness := (true, "2b60af22c4ac17cc86b584cdc9b193ba0dcf3d9a42433069faf38d2bbbbd590b"), looks := true }, kinds := [], alts := [], laidByText := true, laidKinds := [.listed, .data], laidTests := true, laidLooks := .later }
def PlainBigCardSaid : Prop := Claim7.holds Tryz.pinned (.plain (OpenSpec.ofChange plainBigSpec)) plainBigCard

/-- THE TIED CARD OF 'dormouselaw23.PlainHolds'. -/
def plainHoldsCard : Claim7 := { stood := { row := plainHoldsRow, standIns := [], harness := (true, "2b60af22c4ac17cc86b584cdc9b193ba0dcf3d9a42433069faf38d2bbbbd590b"), looks := true }, kinds := [], alts := [], laidByText := true, laidKinds := [.listed, .data], laidTests := true, laidLooks := .later }
def PlainHoldsCardSaid : Prop := Claim7.holds Tryz.pinned (.plain (OpenSpec.ofChange plainHoldsSpec)) plainHoldsCard

/-- THE TIED CARD OF 'dormouselaw23.PlainSpawns'. -/
def plainSpawnsCard : Claim7 := { stood := { row := plainSpawnsRow, standIns := [], harness := (true, "2b60af22c4ac17cc86b584cdc9b193ba0dcf3d9a42433069faf38d2bbbbd590b"), looks := true }, kinds := [], alts := [], laidByText := true, laidKinds := [.listed, .data], laidTests := true, laidLooks := .later }
def PlainSpawnsCardSaid : Prop := Claim7.holds Tryz.pinned (.plain (OpenSpec.ofChange plainSpawnsSpec)) plainSpawnsCard

/-- THE SECOND FORM's CARD OF 'dormouselaw23.PlainTells'. -/
def plainTellsUptoCard : Claim7 := { stood := { row := plainTellsUptoRow, standIns := [], harness := (true, "2b60af22c4ac17cc86b584cdc9b193ba0dcf3d9a42433069faf38d2bbbbd590b"), looks := true }, kinds := [], alts := [], laidByText := true, laidKinds := [.listed, .data], laidTests := true, laidLooks := .later }
def PlainTellsUptoCardSaid : Prop := Claim7.holds Tryz.pinned (.plain (OpenSpec.upto plainTellsSpec)) plainTellsUptoCard

/-- THE SECOND FORM's CARD OF 'dormouselaw23.PlainPasses'. -/
def plainPassesUptoCard : Claim7 := { stood := { row := plainPassesUptoRow, standIns := [], harness := (true, "2b60af22c4ac17cc86b584cdc9b193ba0dcf3d9a42433069faf38d2bbbbd590b"), looks := true }, kinds := [], alts := [], laidByText := true, laidKinds := [.listed, .data], laidTests := true, laidLooks := .later }
def PlainPassesUptoCardSaid : Prop := Claim7.holds Tryz.pinned (.plain (OpenSpec.upto plainPassesSpec)) plainPassesUptoCard

/-- THE SECOND FORM's CARD OF 'dormouselaw23.PlainErrors'. -/
def plainErrorsUptoCard : Claim7 := { stood := { row := plainErrorsUptoRow, standIns := [], harness := (true, "2b60af22c4ac17cc86b584cdc9b193ba0dcf3d9a42433069faf38d2bbbbd590b"), looks := true }, kinds := [], alts := [], laidByText := true, laidKinds := [.listed, .data], laidTests := true, laidLooks := .later }
def PlainErrorsUptoCardSaid : Prop := Claim7.holds Tryz.pinned (.plain (OpenSpec.upto plainErrorsSpec)) plainErrorsUptoCard

/-- THE SECOND FORM's CARD OF 'dormouselaw23.PlainTimers'. -/
def plainTimersUptoCard : Claim7 := { stood := { row := plainTimersUptoRow, standIns := [], harness := (true, "2b60af22c4ac17cc86b584cdc9b193ba0dcf3d9a42433069faf38d2bbbbd590b"), looks := true }, kinds := [], alts := [], laidByText := true, laidKinds := [.listed, .data], laidTests := true, laidLooks := .later }
def PlainTimersUptoCardSaid : Prop := Claim7.holds Tryz.pinned (.plain (OpenSpec.upto plainTimersSpec)) plainTimersUptoCard

/-- THE SECOND FORM's CARD OF 'dormouselaw23.PlainSelects'. -/
def plainSelectsUptoCard : Claim7 := { stood := { row := plainSelectsUptoRow, standIns := [], harness := (true, "2b60af22c4ac17cc86b584cdc9b193ba0dcf3d9a42433069faf38d2bbbbd590b"), looks := true }, kinds := [], alts := [], laidByText := true, laidKinds := [.listed, .data], laidTests := true, laidLooks := .later }
def PlainSelectsUptoCardSaid : Prop := Claim7.holds Tryz.pinned (.plain (OpenSpec.upto plainSelectsSpec)) plainSelectsUptoCard

/-- THE SECOND FORM's CARD OF 'dormouselaw23.PlainCloses'. -/
def plainClosesUptoCard : Claim7 := { stood := { row := plainClosesUptoRow, standIns := [], harness := (true, "2b60af22c4ac17cc86b584cdc9b193ba0dcf3d9a42433069faf38d2bbbbd590b"), looks := true }, kinds := [], alts := [], laidByText := true, laidKinds := [.listed, .data], laidTests := true, laidLooks := .later }
def PlainClosesUptoCardSaid : Prop := Claim7.holds Tryz.pinned (.plain (OpenSpec.upto plainClosesSpec)) plainClosesUptoCard

/-- THE SECOND FORM's CARD OF 'dormouselaw23.PlainBoxes'. -/
def plainBoxesUptoCard : Claim7 := { stood := { row := plainBoxesUptoRow, standIns := [], harness := (true, "2b60af22c4ac17cc86b584cdc9b193ba0dcf3d9a42433069faf38d2bbbbd590b"), looks := true }, kinds := [], alts := [], laidByText := true, laidKinds := [.listed, .data], laidTests := true, laidLooks := .later }
def PlainBoxesUptoCardSaid : Prop := Claim7.holds Tryz.pinned (.plain (OpenSpec.upto plainBoxesSpec)) plainBoxesUptoCard

/-- THE SECOND FORM's CARD OF 'dormouselaw23.PlainBig'. -/
def plainBigUptoCard : Claim7 := { stood := { row := plainBigUptoRow, standIns := [], harness := (true, "2b60af22c4ac17cc86b584cdc9b193ba0dcf3d9a42433069faf38d2bbbbd590b"), looks := true }, kinds := [], alts := [], laidByText := true, laidKinds := [.listed, .data], laidTests := true, laidLooks := .later }
def PlainBigUptoCardSaid : Prop := Claim7.holds Tryz.pinned (.plain (OpenSpec.upto plainBigSpec)) plainBigUptoCard

/-- THE SECOND FORM's CARD OF 'dormouselaw23.PlainHolds'. -/
def plainHoldsUptoCard : Claim7 := { stood := { row := plainHoldsUptoRow, standIns := [], harness := (true, "2b60af22c4ac17cc86b584cdc9b193ba0dcf3d9a42433069faf38d2bbbbd590b"), looks := true }, kinds := [], alts := [], laidByText := true, laidKinds := [.listed, .data], laidTests := true, laidLooks := .later }
def PlainHoldsUptoCardSaid : Prop := Claim7.holds Tryz.pinned (.plain (OpenSpec.upto plainHoldsSpec)) plainHoldsUptoCard

/-- THE SECOND FORM's CARD OF 'dormouselaw23.PlainSpawns'. -/
def plainSpawnsUptoCard : Claim7 := { stood := { row := plainSpawnsUptoRow, standIns := [], harness := (true, "2b60af22c4ac17cc86b584cdc9b193ba0dcf3d9a42433069faf38d2bbbbd590b"), looks := true }, kinds := [], alts := [], laidByText := true, laidKinds := [.listed, .data], laidTests := true, laidLooks := .later }
def PlainSpawnsUptoCardSaid : Prop := Claim7.holds Tryz.pinned (.plain (OpenSpec.upto plainSpawnsSpec)) plainSpawnsUptoCard
end Rows
end Go.Proofs.YtklfboidjnchoaaGreatDoor
