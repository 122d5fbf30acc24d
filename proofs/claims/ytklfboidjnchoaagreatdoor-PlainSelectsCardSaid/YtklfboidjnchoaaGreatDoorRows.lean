/-
  NARROWER THAN 'FOR EVERY INPUT', by the rows' own cells (each row's printed sentence says how): PlainTells: laid · PlainPasses: laid · PlainErrors: laid · PlainTimers: laid · PlainSelects: laid · PlainCloses: laid · PlainBoxes: laid · PlainBig: laid · PlainHolds: laid · PlainSpawns: laid.
  DERIVED. THE GIVEN ROWS OF THIS SEAT. 10 by the template 'for every input the law returns true; each argument reads behind the call as it read before'; 0 by the template 'total and deterministic' (their statements: YtklfboidjnchoaaGreatDoorTotals.lean).
  GIVEN WITH THE SEED: the statements are not yours to turn. If you find one false, say at which input.
  Laid BY PROGRAM, IN A SANDBOX (cutbox-rows.mjs): the forced cells as the released guide's own fill.sh prints them over the translation 39fa85b8557c73a6… (all of the seat's roots in one cut). By AI agents, Wed Nov 11 2026. No macro, syntax, notation, axiom, sorry.
-/
import Derived.Test.YtklfboidjnchoaaGreatDoorChecked
import GoSem.Claim
import GoSem.ClaimJoined
import GoSem.ClaimMapViews
import Derived.JoinedTies
import Derived.KernelRfl
namespace Go.Proofs.YtklfboidjnchoaaGreatDoor
/- THE CELL 'sum', in the pinned program and in every row, IS THE sha256 OF THE DUMP (.gsa) THAT YtklfboidjnchoaaGreatDoorProg.lean LOADS. Nothing in Lean hashes anything: it is a label: what it is worth is what the hold of that sum in a sandbox is worth. -/
noncomputable def Tryz.pinned : Pinned := { name := "ytklfboidjnchoaagreatdoor", sum := "39fa85b8557c73a6aa77d05702600461845d6dd04550c6a7f4ad3edef713e384", checked := Tryz.checked }
namespace Rows
def none {H : Type} : Left H := { results := [], args := [] }

/- WHAT THE LISTED PACKAGE-LEVEL VARIABLES READ AS WHEN THE CALL BEGINS. Each datum BY PROGRAM (the guide's laid-datum.mjs) off the statement by which the dump's own 'gosem.cut.vars' lays the variable. In a bare row this is a premise. The card (YtklfboidjnchoaaGreatDoorCards.lean) ties it to the program's text. -/
def laid_unicode_White_Space {H : Type} : DataW H := .ptr (.agg [.slice [.agg [.lit (.int .u16 9), .lit (.int .u16 13), .lit (.int .u16 1)], .agg [.lit (.int .u16 32), .lit (.int .u16 133), .lit (.int .u16 101)], .agg [.lit (.int .u16 160), .lit (.int .u16 5760), .lit (.int .u16 5600)], .agg [.lit (.int .u16 8192), .lit (.int .u16 8202), .lit (.int .u16 1)], .agg [.lit (.int .u16 8232), .lit (.int .u16 8233), .lit (.int .u16 1)], .agg [.lit (.int .u16 8239), .lit (.int .u16 8287), .lit (.int .u16 48)], .agg [.lit (.int .u16 12288), .lit (.int .u16 12288), .lit (.int .u16 1)]] [], .nil, .lit (.int .i64 2)])
def laid_strings_asciiSpace {H : Type} : DataW H := .agg [.lit (.int .u8 0), .lit (.int .u8 0), .lit (.int .u8 0), .lit (.int .u8 0), .lit (.int .u8 0), .lit (.int .u8 0), .lit (.int .u8 0), .lit (.int .u8 0), .lit (.int .u8 0), .lit (.int .u8 1), .lit (.int .u8 1), .lit (.int .u8 1), .lit (.int .u8 1), .lit (.int .u8 1), .lit (.int .u8 0), .lit (.int .u8 0), .lit (.int .u8 0), .lit (.int .u8 0), .lit (.int .u8 0), .lit (.int .u8 0), .lit (.int .u8 0), .lit (.int .u8 0), .lit (.int .u8 0), .lit (.int .u8 0), .lit (.int .u8 0), .lit (.int .u8 0), .lit (.int .u8 0), .lit (.int .u8 0), .lit (.int .u8 0), .lit (.int .u8 0), .lit (.int .u8 0), .lit (.int .u8 0), .lit (.int .u8 1), .lit (.int .u8 0), .lit (.int .u8 0), .lit (.int .u8 0), .lit (.int .u8 0), .lit (.int .u8 0), .lit (.int .u8 0), .lit (.int .u8 0), .lit (.int .u8 0), .lit (.int .u8 0), .lit (.int .u8 0), .lit (.int .u8 0), .lit (.int .u8 0), .lit (.int .u8 0), .lit (.int .u8 0), .lit (.int .u8 0), .lit (.int .u8 0), .lit (.int .u8 0), .lit (.int .u8 0), .lit (.int .u8 0), .lit (.int .u8 0), .lit (.int .u8 0), .lit (.int .u8 0), .lit (.int .u8 0), .lit (.int .u8 0), .lit (.int .u8 0), .lit (.int .u8 0), .lit (.int .u8 0), .lit (.int .u8 0), .lit (.int .u8 0), .lit (.int .u8 0), .lit (.int .u8 0), .lit (.int .u8 0), .lit (.int .u8 0), .lit (.int .u8 0), .lit (.int .u8 0), .lit (.int .u8 0), .lit (.int .u8 0), .lit (.int .u8 0), .lit (.int .u8 0), .lit (.int .u8 0), .lit (.int .u8 0), .lit (.int .u8 0), .lit (.int .u8 0), .lit (.int .u8 0), .lit (.int .u8 0), .lit (.int .u8 0), .lit (.int .u8 0), .lit (.int .u8 0), .lit (.int .u8 0), .lit (.int .u8 0), .lit (.int .u8 0), .lit (.int .u8 0), .lit (.int .u8 0), .lit (.int .u8 0), .lit (.int .u8 0), .lit (.int .u8 0), .lit (.int .u8 0), .lit (.int .u8 0), .lit (.int .u8 0), .lit (.int .u8 0), .lit (.int .u8 0), .lit (.int .u8 0), .lit (.int .u8 0), .lit (.int .u8 0), .lit (.int .u8 0), .lit (.int .u8 0), .lit (.int .u8 0), .lit (.int .u8 0), .lit (.int .u8 0), .lit (.int .u8 0), .lit (.int .u8 0), .lit (.int .u8 0), .lit (.int .u8 0), .lit (.int .u8 0), .lit (.int .u8 0), .lit (.int .u8 0), .lit (.int .u8 0), .lit (.int .u8 0), .lit (.int .u8 0), .lit (.int .u8 0), .lit (.int .u8 0), .lit (.int .u8 0), .lit (.int .u8 0), .lit (.int .u8 0), .lit (.int .u8 0), .lit (.int .u8 0), .lit (.int .u8 0), .lit (.int .u8 0), .lit (.int .u8 0), .lit (.int .u8 0), .lit (.int .u8 0), .lit (.int .u8 0), .lit (.int .u8 0), .lit (.int .u8 0), .lit (.int .u8 0), .lit (.int .u8 0), .lit (.int .u8 0), .lit (.int .u8 0), .lit (.int .u8 0), .lit (.int .u8 0), .lit (.int .u8 0), .lit (.int .u8 0), .lit (.int .u8 0), .lit (.int .u8 0), .lit (.int .u8 0), .lit (.int .u8 0), .lit (.int .u8 0), .lit (.int .u8 0), .lit (.int .u8 0), .lit (.int .u8 0), .lit (.int .u8 0), .lit (.int .u8 0), .lit (.int .u8 0), .lit (.int .u8 0), .lit (.int .u8 0), .lit (.int .u8 0), .lit (.int .u8 0), .lit (.int .u8 0), .lit (.int .u8 0), .lit (.int .u8 0), .lit (.int .u8 0), .lit (.int .u8 0), .lit (.int .u8 0), .lit (.int .u8 0), .lit (.int .u8 0), .lit (.int .u8 0), .lit (.int .u8 0), .lit (.int .u8 0), .lit (.int .u8 0), .lit (.int .u8 0), .lit (.int .u8 0), .lit (.int .u8 0), .lit (.int .u8 0), .lit (.int .u8 0), .lit (.int .u8 0), .lit (.int .u8 0), .lit (.int .u8 0), .lit (.int .u8 0), .lit (.int .u8 0), .lit (.int .u8 0), .lit (.int .u8 0), .lit (.int .u8 0), .lit (.int .u8 0), .lit (.int .u8 0), .lit (.int .u8 0), .lit (.int .u8 0), .lit (.int .u8 0), .lit (.int .u8 0), .lit (.int .u8 0), .lit (.int .u8 0), .lit (.int .u8 0), .lit (.int .u8 0), .lit (.int .u8 0), .lit (.int .u8 0), .lit (.int .u8 0), .lit (.int .u8 0), .lit (.int .u8 0), .lit (.int .u8 0), .lit (.int .u8 0), .lit (.int .u8 0), .lit (.int .u8 0), .lit (.int .u8 0), .lit (.int .u8 0), .lit (.int .u8 0), .lit (.int .u8 0), .lit (.int .u8 0), .lit (.int .u8 0), .lit (.int .u8 0), .lit (.int .u8 0), .lit (.int .u8 0), .lit (.int .u8 0), .lit (.int .u8 0), .lit (.int .u8 0), .lit (.int .u8 0), .lit (.int .u8 0), .lit (.int .u8 0), .lit (.int .u8 0), .lit (.int .u8 0), .lit (.int .u8 0), .lit (.int .u8 0), .lit (.int .u8 0), .lit (.int .u8 0), .lit (.int .u8 0), .lit (.int .u8 0), .lit (.int .u8 0), .lit (.int .u8 0), .lit (.int .u8 0), .lit (.int .u8 0), .lit (.int .u8 0), .lit (.int .u8 0), .lit (.int .u8 0), .lit (.int .u8 0), .lit (.int .u8 0), .lit (.int .u8 0), .lit (.int .u8 0), .lit (.int .u8 0), .lit (.int .u8 0), .lit (.int .u8 0), .lit (.int .u8 0), .lit (.int .u8 0), .lit (.int .u8 0), .lit (.int .u8 0), .lit (.int .u8 0), .lit (.int .u8 0), .lit (.int .u8 0), .lit (.int .u8 0), .lit (.int .u8 0), .lit (.int .u8 0), .lit (.int .u8 0), .lit (.int .u8 0), .lit (.int .u8 0), .lit (.int .u8 0), .lit (.int .u8 0), .lit (.int .u8 0), .lit (.int .u8 0), .lit (.int .u8 0), .lit (.int .u8 0), .lit (.int .u8 0), .lit (.int .u8 0), .lit (.int .u8 0), .lit (.int .u8 0), .lit (.int .u8 0), .lit (.int .u8 0)]

/-- 'dormouselaw23.PlainTells': WHATEVER THE INPUT: true; the input reads as it did. -/
def plainTellsSpec : ChangeSpec := { name := "plainTells", fn := fun _ => fun
  | [d1, d2, d3] => { results := [.lit (.bool true)], args := [d1, d2, d3] }
  | _ => none }
def plainTellsRow : OpenClaim := { program := "ytklfboidjnchoaagreatdoor", sum := "39fa85b8557c73a6aa77d05702600461845d6dd04550c6a7f4ad3edef713e384", func := "dormouse/dormouselaw23.PlainTells", spec := "plainTells", inPlace := ["internal/bytealg.IndexByteString", "internal/bytealg.IndexString", "slices.overlaps[dormouse/plain.timer]"], unfollowed := true, recurses := true, named := ["strings.asciiSpace", "unicode.White_Space", "internal/bytealg.MaxLen"], apart := false, laid := [("unicode.White_Space", laid_unicode_White_Space), ("strings.asciiSpace", laid_strings_asciiSpace)] }
def PlainTellsSaid : Prop := plainTellsRow.holds Tryz.pinned (OpenSpec.ofChange plainTellsSpec)

/-- ITS FALSE NEIGHBOUR: 'it returns false'. Refute it at one input. -/
def plainTellsWrong : ChangeSpec := { name := "plainTells", fn := fun _ => fun
  | [d1, d2, d3] => { results := [.lit (.bool false)], args := [d1, d2, d3] }
  | _ => none }
def PlainTellsWrongFalsely : Prop := plainTellsRow.holds Tryz.pinned (OpenSpec.ofChange plainTellsWrong)

/-- 'dormouselaw23.PlainPasses': WHATEVER THE INPUT: true; the input reads as it did. -/
def plainPassesSpec : ChangeSpec := { name := "plainPasses", fn := fun _ => fun
  | [d1, d2, d3] => { results := [.lit (.bool true)], args := [d1, d2, d3] }
  | _ => none }
def plainPassesRow : OpenClaim := { program := "ytklfboidjnchoaagreatdoor", sum := "39fa85b8557c73a6aa77d05702600461845d6dd04550c6a7f4ad3edef713e384", func := "dormouse/dormouselaw23.PlainPasses", spec := "plainPasses", inPlace := ["internal/bytealg.IndexByteString", "internal/bytealg.IndexString", "slices.overlaps[dormouse/plain.timer]"], unfollowed := true, recurses := true, named := ["strings.asciiSpace", "unicode.White_Space", "internal/bytealg.MaxLen"], apart := false, laid := [("unicode.White_Space", laid_unicode_White_Space), ("strings.asciiSpace", laid_strings_asciiSpace)] }
def PlainPassesSaid : Prop := plainPassesRow.holds Tryz.pinned (OpenSpec.ofChange plainPassesSpec)

/-- ITS FALSE NEIGHBOUR: 'it returns false'. Refute it at one input. -/
def plainPassesWrong : ChangeSpec := { name := "plainPasses", fn := fun _ => fun
  | [d1, d2, d3] => { results := [.lit (.bool false)], args := [d1, d2, d3] }
  | _ => none }
def PlainPassesWrongFalsely : Prop := plainPassesRow.holds Tryz.pinned (OpenSpec.ofChange plainPassesWrong)

/-- 'dormouselaw23.PlainErrors': WHATEVER THE INPUT: true; the input reads as it did. -/
def plainErrorsSpec : ChangeSpec := { name := "plainErrors", fn := fun _ => fun
  | [d] => { results := [.lit (.bool true)], args := [d] }
  | _ => none }
def plainErrorsRow : OpenClaim := { program := "ytklfboidjnchoaagreatdoor", sum := "39fa85b8557c73a6aa77d05702600461845d6dd04550c6a7f4ad3edef713e384", func := "dormouse/dormouselaw23.PlainErrors", spec := "plainErrors", inPlace := ["internal/bytealg.IndexByteString", "internal/bytealg.IndexString", "slices.overlaps[dormouse/plain.timer]"], unfollowed := true, recurses := true, named := ["strings.asciiSpace", "unicode.White_Space", "internal/bytealg.MaxLen"], apart := false, laid := [("unicode.White_Space", laid_unicode_White_Space), ("strings.asciiSpace", laid_strings_asciiSpace)] }
def PlainErrorsSaid : Prop := plainErrorsRow.holds Tryz.pinned (OpenSpec.ofChange plainErrorsSpec)

/-- ITS FALSE NEIGHBOUR: 'it returns false'. Refute it at one input. -/
def plainErrorsWrong : ChangeSpec := { name := "plainErrors", fn := fun _ => fun
  | [d] => { results := [.lit (.bool false)], args := [d] }
  | _ => none }
def PlainErrorsWrongFalsely : Prop := plainErrorsRow.holds Tryz.pinned (OpenSpec.ofChange plainErrorsWrong)

/-- 'dormouselaw23.PlainTimers': WHATEVER THE INPUT: true; the input reads as it did. -/
def plainTimersSpec : ChangeSpec := { name := "plainTimers", fn := fun _ => fun
  | [d1, d2, d3] => { results := [.lit (.bool true)], args := [d1, d2, d3] }
  | _ => none }
def plainTimersRow : OpenClaim := { program := "ytklfboidjnchoaagreatdoor", sum := "39fa85b8557c73a6aa77d05702600461845d6dd04550c6a7f4ad3edef713e384", func := "dormouse/dormouselaw23.PlainTimers", spec := "plainTimers", inPlace := ["internal/bytealg.IndexByteString", "internal/bytealg.IndexString", "slices.overlaps[dormouse/plain.timer]"], unfollowed := true, recurses := true, named := ["strings.asciiSpace", "unicode.White_Space", "internal/bytealg.MaxLen"], apart := false, laid := [("unicode.White_Space", laid_unicode_White_Space), ("strings.asciiSpace", laid_strings_asciiSpace)] }
def PlainTimersSaid : Prop := plainTimersRow.holds Tryz.pinned (OpenSpec.ofChange plainTimersSpec)

/-- ITS FALSE NEIGHBOUR: 'it returns false'. Refute it at one input. -/
def plainTimersWrong : ChangeSpec := { name := "plainTimers", fn := fun _ => fun
  | [d1, d2, d3] => { results := [.lit (.bool false)], args := [d1, d2, d3] }
  | _ => none }
def PlainTimersWrongFalsely : Prop := plainTimersRow.holds Tryz.pinned (OpenSpec.ofChange plainTimersWrong)

/-- 'dormouselaw23.PlainSelects': WHATEVER THE INPUT: true; the input reads as it did. -/
def plainSelectsSpec : ChangeSpec := { name := "plainSelects", fn := fun _ => fun
  | [d1, d2, d3, d4] => { results := [.lit (.bool true)], args := [d1, d2, d3, d4] }
  | _ => none }
def plainSelectsRow : OpenClaim := { program := "ytklfboidjnchoaagreatdoor", sum := "39fa85b8557c73a6aa77d05702600461845d6dd04550c6a7f4ad3edef713e384", func := "dormouse/dormouselaw23.PlainSelects", spec := "plainSelects", inPlace := ["internal/bytealg.IndexByteString", "internal/bytealg.IndexString", "slices.overlaps[dormouse/plain.timer]"], unfollowed := true, recurses := true, named := ["strings.asciiSpace", "unicode.White_Space", "internal/bytealg.MaxLen"], apart := false, laid := [("unicode.White_Space", laid_unicode_White_Space), ("strings.asciiSpace", laid_strings_asciiSpace)] }
def PlainSelectsSaid : Prop := plainSelectsRow.holds Tryz.pinned (OpenSpec.ofChange plainSelectsSpec)

/-- ITS FALSE NEIGHBOUR: 'it returns false'. Refute it at one input. -/
def plainSelectsWrong : ChangeSpec := { name := "plainSelects", fn := fun _ => fun
  | [d1, d2, d3, d4] => { results := [.lit (.bool false)], args := [d1, d2, d3, d4] }
  | _ => none }
def PlainSelectsWrongFalsely : Prop := plainSelectsRow.holds Tryz.pinned (OpenSpec.ofChange plainSelectsWrong)

/-- 'dormouselaw23.PlainCloses': WHATEVER THE INPUT: true; the input reads as it did. -/
def plainClosesSpec : ChangeSpec := { name := "plainCloses", fn := fun _ => fun
  | [d] => { results := [.lit (.bool true)], args := [d] }
  | _ => none }
def plainClosesRow : OpenClaim := { program := "ytklfboidjnchoaagreatdoor", sum := "39fa85b8557c73a6aa77d05702600461845d6dd04550c6a7f4ad3edef713e384", func := "dormouse/dormouselaw23.PlainCloses", spec := "plainCloses", inPlace := ["internal/bytealg.IndexByteString", "internal/bytealg.IndexString", "slices.overlaps[dormouse/plain.timer]"], unfollowed := true, recurses := true, named := ["strings.asciiSpace", "unicode.White_Space", "internal/bytealg.MaxLen"], apart := false, laid := [("unicode.White_Space", laid_unicode_White_Space), ("strings.asciiSpace", laid_strings_asciiSpace)] }
def PlainClosesSaid : Prop := plainClosesRow.holds Tryz.pinned (OpenSpec.ofChange plainClosesSpec)

/-- ITS FALSE NEIGHBOUR: 'it returns false'. Refute it at one input. -/
def plainClosesWrong : ChangeSpec := { name := "plainCloses", fn := fun _ => fun
  | [d] => { results := [.lit (.bool false)], args := [d] }
  | _ => none }
def PlainClosesWrongFalsely : Prop := plainClosesRow.holds Tryz.pinned (OpenSpec.ofChange plainClosesWrong)

/-- 'dormouselaw23.PlainBoxes': WHATEVER THE INPUT: true; the input reads as it did. -/
def plainBoxesSpec : ChangeSpec := { name := "plainBoxes", fn := fun _ => fun
  | [d1, d2] => { results := [.lit (.bool true)], args := [d1, d2] }
  | _ => none }
def plainBoxesRow : OpenClaim := { program := "ytklfboidjnchoaagreatdoor", sum := "39fa85b8557c73a6aa77d05702600461845d6dd04550c6a7f4ad3edef713e384", func := "dormouse/dormouselaw23.PlainBoxes", spec := "plainBoxes", inPlace := ["internal/bytealg.IndexByteString", "internal/bytealg.IndexString", "slices.overlaps[dormouse/plain.timer]"], unfollowed := true, recurses := true, named := ["strings.asciiSpace", "unicode.White_Space", "internal/bytealg.MaxLen"], apart := false, laid := [("unicode.White_Space", laid_unicode_White_Space), ("strings.asciiSpace", laid_strings_asciiSpace)] }
def PlainBoxesSaid : Prop := plainBoxesRow.holds Tryz.pinned (OpenSpec.ofChange plainBoxesSpec)

/-- ITS FALSE NEIGHBOUR: 'it returns false'. Refute it at one input. -/
def plainBoxesWrong : ChangeSpec := { name := "plainBoxes", fn := fun _ => fun
  | [d1, d2] => { results := [.lit (.bool false)], args := [d1, d2] }
  | _ => none }
def PlainBoxesWrongFalsely : Prop := plainBoxesRow.holds Tryz.pinned (OpenSpec.ofChange plainBoxesWrong)

/-- 'dormouselaw23.PlainBig': WHATEVER THE INPUT: true; the input reads as it did. -/
def plainBigSpec : ChangeSpec := { name := "plainBig", fn := fun _ => fun
  | [d] => { results := [.lit (.bool true)], args := [d] }
  | _ => none }
def plainBigRow : OpenClaim := { program := "ytklfboidjnchoaagreatdoor", sum := "39fa85b8557c73a6aa77d05702600461845d6dd04550c6a7f4ad3edef713e384", func := "dormouse/dormouselaw23.PlainBig", spec := "plainBig", inPlace := ["internal/bytealg.IndexByteString", "internal/bytealg.IndexString", "slices.overlaps[dormouse/plain.timer]"], unfollowed := true, recurses := true, named := ["strings.asciiSpace", "unicode.White_Space", "internal/bytealg.MaxLen"], apart := false, laid := [("unicode.White_Space", laid_unicode_White_Space), ("strings.asciiSpace", laid_strings_asciiSpace)] }
def PlainBigSaid : Prop := plainBigRow.holds Tryz.pinned (OpenSpec.ofChange plainBigSpec)

/-- ITS FALSE NEIGHBOUR: 'it returns false'. Refute it at one input. -/
def plainBigWrong : ChangeSpec := { name := "plainBig", fn := fun _ => fun
  | [d] => { results := [.lit (.bool false)], args := [d] }
  | _ => none }
def PlainBigWrongFalsely : Prop := plainBigRow.holds Tryz.pinned (OpenSpec.ofChange plainBigWrong)

/-- 'dormouselaw23.PlainHolds': WHATEVER THE INPUT: true; the input reads as it did. -/
def plainHoldsSpec : ChangeSpec := { name := "plainHolds", fn := fun _ => fun
  | [d1, d2] => { results := [.lit (.bool true)], args := [d1, d2] }
  | _ => none }
def plainHoldsRow : OpenClaim := { program := "ytklfboidjnchoaagreatdoor", sum := "39fa85b8557c73a6aa77d05702600461845d6dd04550c6a7f4ad3edef713e384", func := "dormouse/dormouselaw23.PlainHolds", spec := "plainHolds", inPlace := ["internal/bytealg.IndexByteString", "internal/bytealg.IndexString", "slices.overlaps[dormouse/plain.timer]"], unfollowed := true, recurses := true, named := ["strings.asciiSpace", "unicode.White_Space", "internal/bytealg.MaxLen"], apart := false, laid := [("unicode.White_Space", laid_unicode_White_Space), ("strings.asciiSpace", laid_strings_asciiSpace)] }
def PlainHoldsSaid : Prop := plainHoldsRow.holds Tryz.pinned (OpenSpec.ofChange plainHoldsSpec)

/-- ITS FALSE NEIGHBOUR: 'it returns false'. Refute it at one input. -/
def plainHoldsWrong : ChangeSpec := { name := "plainHolds", fn := fun _ => fun
  | [d1, d2] => { results := [.lit (.bool false)], args := [d1, d2] }
  | _ => none }
def PlainHoldsWrongFalsely : Prop := plainHoldsRow.holds Tryz.pinned (OpenSpec.ofChange plainHoldsWrong)

/-- 'dormouselaw23.PlainSpawns': WHATEVER THE INPUT: true; the input reads as it did. -/
def plainSpawnsSpec : ChangeSpec := { name := "plainSpawns", fn := fun _ => fun
  | [d] => { results := [.lit (.bool true)], args := [d] }
  | _ => none }
def plainSpawnsRow : OpenClaim := { program := "ytklfboidjnchoaagreatdoor", sum := "39fa85b8557c73a6aa77d05702600461845d6dd04550c6a7f4ad3edef713e384", func := "dormouse/dormouselaw23.PlainSpawns", spec := "plainSpawns", inPlace := ["internal/bytealg.IndexByteString", "internal/bytealg.IndexString", "slices.overlaps[dormouse/plain.timer]"], unfollowed := true, recurses := true, named := ["strings.asciiSpace", "unicode.White_Space", "internal/bytealg.MaxLen"], apart := false, laid := [("unicode.White_Space", laid_unicode_White_Space), ("strings.asciiSpace", laid_strings_asciiSpace)] }
def PlainSpawnsSaid : Prop := plainSpawnsRow.holds Tryz.pinned (OpenSpec.ofChange plainSpawnsSpec)

/-- ITS FALSE NEIGHBOUR: 'it returns false'. Refute it at one input. -/
def plainSpawnsWrong : ChangeSpec := { name := "plainSpawns", fn := fun _ => fun
  | [d] => { results := [.lit (.bool false)], args := [d] }
  | _ => none }
def PlainSpawnsWrongFalsely : Prop := plainSpawnsRow.holds Tryz.pinned (OpenSpec.ofChange plainSpawnsWrong)

/- THE SECOND FORM. 'bulk': how many values and letters a reading holds, each counted each time it is reached (what is shared counts as often as it is met; a slice's spare places count too). A statement '..UptoSaid' is the law's where the arguments, and the package variables that the reading takes, are together of bulk at most 1048576: NARROWER than '..Said'. Prove '..Said' where nothing that the law and all that it calls make is longer than what came in: it says more and counts as full. Else prove '..UptoSaid'. A law counts once. -/
mutual
def uptoBulk {H : Type} : DataW H → Nat
  | .lit (.string bytes) => bytes.length + 1
  | .lit _ => 1
  | .nil => 1
  | .ptr d => uptoBulk d + 1
  | .slice elems spare => uptoBulkAll elems + uptoBulkAll spare + 1
  | .agg parts => uptoBulkAll parts + 1
  | .iface _ d => uptoBulk d + 1
  | .map entries => uptoBulkEntries entries + 1
  | .held _ => 1
def uptoBulkAll {H : Type} : List (DataW H) → Nat
  | [] => 0
  | d :: r => uptoBulk d + uptoBulkAll r
def uptoBulkEntries {H : Type} : List (Lit × DataW H) → Nat
  | [] => 0
  | x :: r => uptoBulkEntry x + uptoBulkEntries r
def uptoBulkEntry {H : Type} : Lit × DataW H → Nat
  | (.string bytes, d) => bytes.length + uptoBulk d + 1
  | (_, d) => uptoBulk d + 1
 end
def uptoSmall : (H : Type) → List (DataW H) → Bool := fun _ ds => decide (uptoBulkAll ds ≤ 1048576)
def OpenSpec.upto (s : _root_.Go.ChangeSpec) : _root_.Go.OpenSpec := { _root_.Go.OpenSpec.ofChange s with cond := some uptoSmall }

/-- 'dormouselaw23.PlainTells', WHERE WHAT IT READS IS OF BULK AT MOST 1048576: true; the input reads as it did. -/
def plainTellsUptoRow : OpenClaim := { program := "ytklfboidjnchoaagreatdoor", sum := "39fa85b8557c73a6aa77d05702600461845d6dd04550c6a7f4ad3edef713e384", func := "dormouse/dormouselaw23.PlainTells", spec := "plainTells", inPlace := ["internal/bytealg.IndexByteString", "internal/bytealg.IndexString", "slices.overlaps[dormouse/plain.timer]"], unfollowed := true, recurses := true, named := ["strings.asciiSpace", "unicode.White_Space", "internal/bytealg.MaxLen"], apart := false, laid := [("unicode.White_Space", laid_unicode_White_Space), ("strings.asciiSpace", laid_strings_asciiSpace)], narrowed := true }
def PlainTellsUptoSaid : Prop := plainTellsUptoRow.holds Tryz.pinned (OpenSpec.upto plainTellsSpec)

/-- 'dormouselaw23.PlainPasses', WHERE WHAT IT READS IS OF BULK AT MOST 1048576: true; the input reads as it did. -/
def plainPassesUptoRow : OpenClaim := { program := "ytklfboidjnchoaagreatdoor", sum := "39fa85b8557c73a6aa77d05702600461845d6dd04550c6a7f4ad3edef713e384", func := "dormouse/dormouselaw23.PlainPasses", spec := "plainPasses", inPlace := ["internal/bytealg.IndexByteString", "internal/bytealg.IndexString", "slices.overlaps[dormouse/plain.timer]"], unfollowed := true, recurses := true, named := ["strings.asciiSpace", "unicode.White_Space", "internal/bytealg.MaxLen"], apart := false, laid := [("unicode.White_Space", laid_unicode_White_Space), ("strings.asciiSpace", laid_strings_asciiSpace)], narrowed := true }
def PlainPassesUptoSaid : Prop := plainPassesUptoRow.holds Tryz.pinned (OpenSpec.upto plainPassesSpec)

/-- 'dormouselaw23.PlainErrors', WHERE WHAT IT READS IS OF BULK AT MOST 1048576: true; the input reads as it did. -/
def plainErrorsUptoRow : OpenClaim := { program := "ytklfboidjnchoaagreatdoor", sum := "39fa85b8557c73a6aa77d05702600461845d6dd04550c6a7f4ad3edef713e384", func := "dormouse/dormouselaw23.PlainErrors", spec := "plainErrors", inPlace := ["internal/bytealg.IndexByteString", "internal/bytealg.IndexString", "slices.overlaps[dormouse/plain.timer]"], unfollowed := true, recurses := true, named := ["strings.asciiSpace", "unicode.White_Space", "internal/bytealg.MaxLen"], apart := false, laid := [("unicode.White_Space", laid_unicode_White_Space), ("strings.asciiSpace", laid_strings_asciiSpace)], narrowed := true }
def PlainErrorsUptoSaid : Prop := plainErrorsUptoRow.holds Tryz.pinned (OpenSpec.upto plainErrorsSpec)

/-- 'dormouselaw23.PlainTimers', WHERE WHAT IT READS IS OF BULK AT MOST 1048576: true; the input reads as it did. -/
def plainTimersUptoRow : OpenClaim := { program := "ytklfboidjnchoaagreatdoor", sum := "39fa85b8557c73a6aa77d05702600461845d6dd04550c6a7f4ad3edef713e384", func := "dormouse/dormouselaw23.PlainTimers", spec := "plainTimers", inPlace := ["internal/bytealg.IndexByteString", "internal/bytealg.IndexString", "slices.overlaps[dormouse/plain.timer]"], unfollowed := true, recurses := true, named := ["strings.asciiSpace", "unicode.White_Space", "internal/bytealg.MaxLen"], apart := false, laid := [("unicode.White_Space", laid_unicode_White_Space), ("strings.asciiSpace", laid_strings_asciiSpace)], narrowed := true }
def PlainTimersUptoSaid : Prop := plainTimersUptoRow.holds Tryz.pinned (OpenSpec.upto plainTimersSpec)

/-- 'dormouselaw23.PlainSelects', WHERE WHAT IT READS IS OF BULK AT MOST 1048576: true; the input reads as it did. -/
def plainSelectsUptoRow : OpenClaim := { program := "ytklfboidjnchoaagreatdoor", sum := "39fa85b8557c73a6aa77d05702600461845d6dd04550c6a7f4ad3edef713e384", func := "dormouse/dormouselaw23.PlainSelects", spec := "plainSelects", inPlace := ["internal/bytealg.IndexByteString", "internal/bytealg.IndexString", "slices.overlaps[dormouse/plain.timer]"], unfollowed := true, recurses := true, named := ["strings.asciiSpace", "unicode.White_Space", "internal/bytealg.MaxLen"], apart := false, laid := [("unicode.White_Space", laid_unicode_White_Space), ("strings.asciiSpace", laid_strings_asciiSpace)], narrowed := true }
def PlainSelectsUptoSaid : Prop := plainSelectsUptoRow.holds Tryz.pinned (OpenSpec.upto plainSelectsSpec)

/-- 'dormouselaw23.PlainCloses', WHERE WHAT IT READS IS OF BULK AT MOST 1048576: true; the input reads as it did. -/
def plainClosesUptoRow : OpenClaim := { program := "ytklfboidjnchoaagreatdoor", sum := "39fa85b8557c73a6aa77d05702600461845d6dd04550c6a7f4ad3edef713e384", func := "dormouse/dormouselaw23.PlainCloses", spec := "plainCloses", inPlace := ["internal/bytealg.IndexByteString", "internal/bytealg.IndexString", "slices.overlaps[dormouse/plain.timer]"], unfollowed := true, recurses := true, named := ["strings.asciiSpace", "unicode.White_Space", "internal/bytealg.MaxLen"], apart := false, laid := [("unicode.White_Space", laid_unicode_White_Space), ("strings.asciiSpace", laid_strings_asciiSpace)], narrowed := true }
def PlainClosesUptoSaid : Prop := plainClosesUptoRow.holds Tryz.pinned (OpenSpec.upto plainClosesSpec)

/-- 'dormouselaw23.PlainBoxes', WHERE WHAT IT READS IS OF BULK AT MOST 1048576: true; the input reads as it did. -/
def plainBoxesUptoRow : OpenClaim := { program := "ytklfboidjnchoaagreatdoor", sum := "39fa85b8557c73a6aa77d05702600461845d6dd04550c6a7f4ad3edef713e384", func := "dormouse/dormouselaw23.PlainBoxes", spec := "plainBoxes", inPlace := ["internal/bytealg.IndexByteString", "internal/bytealg.IndexString", "slices.overlaps[dormouse/plain.timer]"], unfollowed := true, recurses := true, named := ["strings.asciiSpace", "unicode.White_Space", "internal/bytealg.MaxLen"], apart := false, laid := [("unicode.White_Space", laid_unicode_White_Space), ("strings.asciiSpace", laid_strings_asciiSpace)], narrowed := true }
def PlainBoxesUptoSaid : Prop := plainBoxesUptoRow.holds Tryz.pinned (OpenSpec.upto plainBoxesSpec)

/-- 'dormouselaw23.PlainBig', WHERE WHAT IT READS IS OF BULK AT MOST 1048576: true; the input reads as it did. -/
def plainBigUptoRow : OpenClaim := { program := "ytklfboidjnchoaagreatdoor", sum := "39fa85b8557c73a6aa77d05702600461845d6dd04550c6a7f4ad3edef713e384", func := "dormouse/dormouselaw23.PlainBig", spec := "plainBig", inPlace := ["internal/bytealg.IndexByteString", "internal/bytealg.IndexString", "slices.overlaps[dormouse/plain.timer]"], unfollowed := true, recurses := true, named := ["strings.asciiSpace", "unicode.White_Space", "internal/bytealg.MaxLen"], apart := false, laid := [("unicode.White_Space", laid_unicode_White_Space), ("strings.asciiSpace", laid_strings_asciiSpace)], narrowed := true }
def PlainBigUptoSaid : Prop := plainBigUptoRow.holds Tryz.pinned (OpenSpec.upto plainBigSpec)

/-- 'dormouselaw23.PlainHolds', WHERE WHAT IT READS IS OF BULK AT MOST 1048576: true; the input reads as it did. -/
def plainHoldsUptoRow : OpenClaim := { program := "ytklfboidjnchoaagreatdoor", sum := "39fa85b8557c73a6aa77d05702600461845d6dd04550c6a7f4ad3edef713e384", func := "dormouse/dormouselaw23.PlainHolds", spec := "plainHolds", inPlace := ["internal/bytealg.IndexByteString", "internal/bytealg.IndexString", "slices.overlaps[dormouse/plain.timer]"], unfollowed := true, recurses := true, named := ["strings.asciiSpace", "unicode.White_Space", "internal/bytealg.MaxLen"], apart := false, laid := [("unicode.White_Space", laid_unicode_White_Space), ("strings.asciiSpace", laid_strings_asciiSpace)], narrowed := true }
def PlainHoldsUptoSaid : Prop := plainHoldsUptoRow.holds Tryz.pinned (OpenSpec.upto plainHoldsSpec)

/-- 'dormouselaw23.PlainSpawns', WHERE WHAT IT READS IS OF BULK AT MOST 1048576: true; the input reads as it did. -/
def plainSpawnsUptoRow : OpenClaim := { program := "ytklfboidjnchoaagreatdoor", sum := "39fa85b8557c73a6aa77d05702600461845d6dd04550c6a7f4ad3edef713e384", func := "dormouse/dormouselaw23.PlainSpawns", spec := "plainSpawns", inPlace := ["internal/bytealg.IndexByteString", "internal/bytealg.IndexString", "slices.overlaps[dormouse/plain.timer]"], unfollowed := true, recurses := true, named := ["strings.asciiSpace", "unicode.White_Space", "internal/bytealg.MaxLen"], apart := false, laid := [("unicode.White_Space", laid_unicode_White_Space), ("strings.asciiSpace", laid_strings_asciiSpace)], narrowed := true }
def PlainSpawnsUptoSaid : Prop := plainSpawnsUptoRow.holds Tryz.pinned (OpenSpec.upto plainSpawnsSpec)

end Rows
end Go.Proofs.YtklfboidjnchoaaGreatDoor
