/-
  No cell of these rows narrows 'for every input' (looked for: loops, veiled, ifaces, maps, wideKeys, modest, calm, conditions, laid).
  DERIVED. THE GIVEN ROWS OF THIS SEAT. 11 by the template 'for every input the law returns true; each argument reads behind the call as it read before'; 0 by the template 'total and deterministic' (their statements: YtjjfemhpdhkolaaTotals.lean).
  GIVEN WITH THE SEED: the statements are not yours to turn. If you find one false, say at which input.
  Laid BY PROGRAM, IN A SANDBOX (cutbox-rows.mjs): the forced cells as the released guide's own fill.sh prints them over the translation abcf1603cdb755e1… (all of the seat's roots in one cut). By AI agents, Wed Nov 11 2026. No macro, syntax, notation, axiom, sorry.
-/
import Derived.Test.YtjjfemhpdhkolaaChecked
import GoSem.Claim
import GoSem.ClaimJoined
import GoSem.ClaimMapViews
import Derived.JoinedTies
import Derived.KernelRfl
namespace Go.Proofs.Ytjjfemhpdhkolaa
/- THE CELL 'sum', in the pinned program and in every row, IS THE sha256 OF THE DUMP (.gsa) THAT YtjjfemhpdhkolaaProg.lean LOADS. Nothing in Lean hashes anything: it is a label: what it is worth is what the hold of that sum in a sandbox is worth. -/
noncomputable def Try.pinned : Pinned := { name := "ytjjfemhpdhkolaa", sum := "abcf1603cdb755e136b86ba4ed84de6cfc328c47ebd74b776921a2d01776e082", checked := Try.checked }
namespace Rows
def none {H : Type} : Left H := { results := [], args := [] }

/-- 'dormouselaw27.ScriptEach': WHATEVER THE INPUT: true; the input reads as it did. -/
def scriptEachSpec : ChangeSpec := { name := "scriptEach", fn := fun _ => fun
  | [d1, d2] => { results := [.lit (.bool true)], args := [d1, d2] }
  | _ => none }
def scriptEachRow : OpenClaim := { program := "ytjjfemhpdhkolaa", sum := "abcf1603cdb755e136b86ba4ed84de6cfc328c47ebd74b776921a2d01776e082", func := "dormouse/dormouselaw27.ScriptEach", spec := "scriptEach", unfollowed := true, recurses := true, apart := false }
def ScriptEachSaid : Prop := scriptEachRow.holds Try.pinned (OpenSpec.ofChange scriptEachSpec)

/-- ITS FALSE NEIGHBOUR: 'it returns false'. Refute it at one input. -/
def scriptEachWrong : ChangeSpec := { name := "scriptEach", fn := fun _ => fun
  | [d1, d2] => { results := [.lit (.bool false)], args := [d1, d2] }
  | _ => none }
def ScriptEachWrongFalsely : Prop := scriptEachRow.holds Try.pinned (OpenSpec.ofChange scriptEachWrong)

/-- 'dormouselaw27.ScriptJoins': WHATEVER THE INPUT: true; the input reads as it did. -/
def scriptJoinsSpec : ChangeSpec := { name := "scriptJoins", fn := fun _ => fun
  | [d1, d2] => { results := [.lit (.bool true)], args := [d1, d2] }
  | _ => none }
def scriptJoinsRow : OpenClaim := { program := "ytjjfemhpdhkolaa", sum := "abcf1603cdb755e136b86ba4ed84de6cfc328c47ebd74b776921a2d01776e082", func := "dormouse/dormouselaw27.ScriptJoins", spec := "scriptJoins", unfollowed := true, recurses := true, apart := false }
def ScriptJoinsSaid : Prop := scriptJoinsRow.holds Try.pinned (OpenSpec.ofChange scriptJoinsSpec)

/-- ITS FALSE NEIGHBOUR: 'it returns false'. Refute it at one input. -/
def scriptJoinsWrong : ChangeSpec := { name := "scriptJoins", fn := fun _ => fun
  | [d1, d2] => { results := [.lit (.bool false)], args := [d1, d2] }
  | _ => none }
def ScriptJoinsWrongFalsely : Prop := scriptJoinsRow.holds Try.pinned (OpenSpec.ofChange scriptJoinsWrong)

/-- 'dormouselaw20.QueueRound': WHATEVER THE INPUT: true; the input reads as it did. -/
def queueRoundSpec : ChangeSpec := { name := "queueRound", fn := fun _ => fun
  | [d1, d2] => { results := [.lit (.bool true)], args := [d1, d2] }
  | _ => none }
def queueRoundRow : OpenClaim := { program := "ytjjfemhpdhkolaa", sum := "abcf1603cdb755e136b86ba4ed84de6cfc328c47ebd74b776921a2d01776e082", func := "dormouse/dormouselaw20.QueueRound", spec := "queueRound", apart := false }
def QueueRoundSaid : Prop := queueRoundRow.holds Try.pinned (OpenSpec.ofChange queueRoundSpec)

/-- ITS FALSE NEIGHBOUR: 'it returns false'. Refute it at one input. -/
def queueRoundWrong : ChangeSpec := { name := "queueRound", fn := fun _ => fun
  | [d1, d2] => { results := [.lit (.bool false)], args := [d1, d2] }
  | _ => none }
def QueueRoundWrongFalsely : Prop := queueRoundRow.holds Try.pinned (OpenSpec.ofChange queueRoundWrong)

/-- 'dormouselaw20.QueuePlays': WHATEVER THE INPUT: true; the input reads as it did. -/
def queuePlaysSpec : ChangeSpec := { name := "queuePlays", fn := fun _ => fun
  | [d] => { results := [.lit (.bool true)], args := [d] }
  | _ => none }
def queuePlaysRow : OpenClaim := { program := "ytjjfemhpdhkolaa", sum := "abcf1603cdb755e136b86ba4ed84de6cfc328c47ebd74b776921a2d01776e082", func := "dormouse/dormouselaw20.QueuePlays", spec := "queuePlays", unfollowed := true, recurses := true, apart := false }
def QueuePlaysSaid : Prop := queuePlaysRow.holds Try.pinned (OpenSpec.ofChange queuePlaysSpec)

/-- ITS FALSE NEIGHBOUR: 'it returns false'. Refute it at one input. -/
def queuePlaysWrong : ChangeSpec := { name := "queuePlays", fn := fun _ => fun
  | [d] => { results := [.lit (.bool false)], args := [d] }
  | _ => none }
def QueuePlaysWrongFalsely : Prop := queuePlaysRow.holds Try.pinned (OpenSpec.ofChange queuePlaysWrong)

/-- 'dormouselaw20.QueueOnce': WHATEVER THE INPUT: true; the input reads as it did. -/
def queueOnceSpec : ChangeSpec := { name := "queueOnce", fn := fun _ => fun
  | [d1, d2] => { results := [.lit (.bool true)], args := [d1, d2] }
  | _ => none }
def queueOnceRow : OpenClaim := { program := "ytjjfemhpdhkolaa", sum := "abcf1603cdb755e136b86ba4ed84de6cfc328c47ebd74b776921a2d01776e082", func := "dormouse/dormouselaw20.QueueOnce", spec := "queueOnce", unfollowed := true, recurses := true, apart := false }
def QueueOnceSaid : Prop := queueOnceRow.holds Try.pinned (OpenSpec.ofChange queueOnceSpec)

/-- ITS FALSE NEIGHBOUR: 'it returns false'. Refute it at one input. -/
def queueOnceWrong : ChangeSpec := { name := "queueOnce", fn := fun _ => fun
  | [d1, d2] => { results := [.lit (.bool false)], args := [d1, d2] }
  | _ => none }
def QueueOnceWrongFalsely : Prop := queueOnceRow.holds Try.pinned (OpenSpec.ofChange queueOnceWrong)

/-- 'dormouselaw27.ScriptTells': WHATEVER THE INPUT: true; the input reads as it did. -/
def scriptTellsSpec : ChangeSpec := { name := "scriptTells", fn := fun _ => fun
  | [d1, d2] => { results := [.lit (.bool true)], args := [d1, d2] }
  | _ => none }
def scriptTellsRow : OpenClaim := { program := "ytjjfemhpdhkolaa", sum := "abcf1603cdb755e136b86ba4ed84de6cfc328c47ebd74b776921a2d01776e082", func := "dormouse/dormouselaw27.ScriptTells", spec := "scriptTells", unfollowed := true, recurses := true, apart := false }
def ScriptTellsSaid : Prop := scriptTellsRow.holds Try.pinned (OpenSpec.ofChange scriptTellsSpec)

/-- ITS FALSE NEIGHBOUR: 'it returns false'. Refute it at one input. -/
def scriptTellsWrong : ChangeSpec := { name := "scriptTells", fn := fun _ => fun
  | [d1, d2] => { results := [.lit (.bool false)], args := [d1, d2] }
  | _ => none }
def ScriptTellsWrongFalsely : Prop := scriptTellsRow.holds Try.pinned (OpenSpec.ofChange scriptTellsWrong)

/-- 'dormouselaw27.ScriptBack': WHATEVER THE INPUT: true; the input reads as it did. -/
def scriptBackSpec : ChangeSpec := { name := "scriptBack", fn := fun _ => fun
  | [d1, d2] => { results := [.lit (.bool true)], args := [d1, d2] }
  | _ => none }
def scriptBackRow : OpenClaim := { program := "ytjjfemhpdhkolaa", sum := "abcf1603cdb755e136b86ba4ed84de6cfc328c47ebd74b776921a2d01776e082", func := "dormouse/dormouselaw27.ScriptBack", spec := "scriptBack", unfollowed := true, recurses := true, apart := false }
def ScriptBackSaid : Prop := scriptBackRow.holds Try.pinned (OpenSpec.ofChange scriptBackSpec)

/-- ITS FALSE NEIGHBOUR: 'it returns false'. Refute it at one input. -/
def scriptBackWrong : ChangeSpec := { name := "scriptBack", fn := fun _ => fun
  | [d1, d2] => { results := [.lit (.bool false)], args := [d1, d2] }
  | _ => none }
def ScriptBackWrongFalsely : Prop := scriptBackRow.holds Try.pinned (OpenSpec.ofChange scriptBackWrong)

/-- 'dormouselaw27.ScriptBounds': WHATEVER THE INPUT: true; the input reads as it did. -/
def scriptBoundsSpec : ChangeSpec := { name := "scriptBounds", fn := fun _ => fun
  | [d1, d2] => { results := [.lit (.bool true)], args := [d1, d2] }
  | _ => none }
def scriptBoundsRow : OpenClaim := { program := "ytjjfemhpdhkolaa", sum := "abcf1603cdb755e136b86ba4ed84de6cfc328c47ebd74b776921a2d01776e082", func := "dormouse/dormouselaw27.ScriptBounds", spec := "scriptBounds", unfollowed := true, recurses := true, apart := false }
def ScriptBoundsSaid : Prop := scriptBoundsRow.holds Try.pinned (OpenSpec.ofChange scriptBoundsSpec)

/-- ITS FALSE NEIGHBOUR: 'it returns false'. Refute it at one input. -/
def scriptBoundsWrong : ChangeSpec := { name := "scriptBounds", fn := fun _ => fun
  | [d1, d2] => { results := [.lit (.bool false)], args := [d1, d2] }
  | _ => none }
def ScriptBoundsWrongFalsely : Prop := scriptBoundsRow.holds Try.pinned (OpenSpec.ofChange scriptBoundsWrong)

/-- 'dormouselaw19.ClockPlays': WHATEVER THE INPUT: true; the input reads as it did. -/
def clockPlaysSpec : ChangeSpec := { name := "clockPlays", fn := fun _ => fun
  | [d] => { results := [.lit (.bool true)], args := [d] }
  | _ => none }
def clockPlaysRow : OpenClaim := { program := "ytjjfemhpdhkolaa", sum := "abcf1603cdb755e136b86ba4ed84de6cfc328c47ebd74b776921a2d01776e082", func := "dormouse/dormouselaw19.ClockPlays", spec := "clockPlays", inPlace := ["slices.overlaps[any]"], unfollowed := true, recurses := true, apart := false }
def ClockPlaysSaid : Prop := clockPlaysRow.holds Try.pinned (OpenSpec.ofChange clockPlaysSpec)

/-- ITS FALSE NEIGHBOUR: 'it returns false'. Refute it at one input. -/
def clockPlaysWrong : ChangeSpec := { name := "clockPlays", fn := fun _ => fun
  | [d] => { results := [.lit (.bool false)], args := [d] }
  | _ => none }
def ClockPlaysWrongFalsely : Prop := clockPlaysRow.holds Try.pinned (OpenSpec.ofChange clockPlaysWrong)

/-- 'dormouselaw19.ClockOnce': WHATEVER THE INPUT: true; the input reads as it did. -/
def clockOnceSpec : ChangeSpec := { name := "clockOnce", fn := fun _ => fun
  | [d1, d2] => { results := [.lit (.bool true)], args := [d1, d2] }
  | _ => none }
def clockOnceRow : OpenClaim := { program := "ytjjfemhpdhkolaa", sum := "abcf1603cdb755e136b86ba4ed84de6cfc328c47ebd74b776921a2d01776e082", func := "dormouse/dormouselaw19.ClockOnce", spec := "clockOnce", inPlace := ["slices.overlaps[any]"], unfollowed := true, recurses := true, apart := false }
def ClockOnceSaid : Prop := clockOnceRow.holds Try.pinned (OpenSpec.ofChange clockOnceSpec)

/-- ITS FALSE NEIGHBOUR: 'it returns false'. Refute it at one input. -/
def clockOnceWrong : ChangeSpec := { name := "clockOnce", fn := fun _ => fun
  | [d1, d2] => { results := [.lit (.bool false)], args := [d1, d2] }
  | _ => none }
def ClockOnceWrongFalsely : Prop := clockOnceRow.holds Try.pinned (OpenSpec.ofChange clockOnceWrong)

/-- 'dormouselaw19.ClockAll': WHATEVER THE INPUT: true; the input reads as it did. -/
def clockAllSpec : ChangeSpec := { name := "clockAll", fn := fun _ => fun
  | [d] => { results := [.lit (.bool true)], args := [d] }
  | _ => none }
def clockAllRow : OpenClaim := { program := "ytjjfemhpdhkolaa", sum := "abcf1603cdb755e136b86ba4ed84de6cfc328c47ebd74b776921a2d01776e082", func := "dormouse/dormouselaw19.ClockAll", spec := "clockAll", inPlace := ["slices.overlaps[any]"], unfollowed := true, recurses := true, apart := false }
def ClockAllSaid : Prop := clockAllRow.holds Try.pinned (OpenSpec.ofChange clockAllSpec)

/-- ITS FALSE NEIGHBOUR: 'it returns false'. Refute it at one input. -/
def clockAllWrong : ChangeSpec := { name := "clockAll", fn := fun _ => fun
  | [d] => { results := [.lit (.bool false)], args := [d] }
  | _ => none }
def ClockAllWrongFalsely : Prop := clockAllRow.holds Try.pinned (OpenSpec.ofChange clockAllWrong)

/- THE SECOND FORM. 'bulk': how many values and letters a reading holds, each counted each time it is reached (what is shared counts as often as it is met; a slice's spare places count too). A statement '..UptoSaid' is the law's where the arguments, and the package variables that the reading takes, are together of bulk at most 1048576: NARROWER than '..Said'. Prove '..Said' where nothing that the law and all that it calls make is longer than what came in: it says more and counts as full. Else prove '..UptoSaid'. A law counts once. -/
mutual
def uptoBulk {H : Type} : DataW H → Nat
  | .lit (.string bytes) => bytes.length + 1
  | .lit _ => 1
  | .nil => 1
  | .ptr d => uptoBulk d + 1
  | .slice elems spare => uptoBulkAll elems + uptoBulkAll spare + 1
  | .agg parts => uptoBulkAll parts + 1
  | .iface _ d => uptoBulk d + 1
  | .map entries => uptoBulkEntries entries + 1
  | .held _ => 1
def uptoBulkAll {H : Type} : List (DataW H) → Nat
  | [] => 0
  | d :: r => uptoBulk d + uptoBulkAll r
def uptoBulkEntries {H : Type} : List (Lit × DataW H) → Nat
  | [] => 0
  | x :: r => uptoBulkEntry x + uptoBulkEntries r
def uptoBulkEntry {H : Type} : Lit × DataW H → Nat
  | (.string bytes, d) => bytes.length + uptoBulk d + 1
  | (_, d) => uptoBulk d + 1
 end
def uptoSmall : (H : Type) → List (DataW H) → Bool := fun _ ds => decide (uptoBulkAll ds ≤ 1048576)
def OpenSpec.upto (s : _root_.Go.ChangeSpec) : _root_.Go.OpenSpec := { _root_.Go.OpenSpec.ofChange s with cond := some uptoSmall }

/-- 'dormouselaw27.ScriptEach', WHERE WHAT IT READS IS OF BULK AT MOST 1048576: true; the input reads as it did. -/
def scriptEachUptoRow : OpenClaim := { program := "ytjjfemhpdhkolaa", sum := "abcf1603cdb755e136b86ba4ed84de6cfc328c47ebd74b776921a2d01776e082", func := "dormouse/dormouselaw27.ScriptEach", spec := "scriptEach", unfollowed := true, recurses := true, apart := false, narrowed := true }
def ScriptEachUptoSaid : Prop := scriptEachUptoRow.holds Try.pinned (OpenSpec.upto scriptEachSpec)

/-- 'dormouselaw27.ScriptJoins', WHERE WHAT IT READS IS OF BULK AT MOST 1048576: true; the input reads as it did. -/
def scriptJoinsUptoRow : OpenClaim := { program := "ytjjfemhpdhkolaa", sum := "abcf1603cdb755e136b86ba4ed84de6cfc328c47ebd74b776921a2d01776e082", func := "dormouse/dormouselaw27.ScriptJoins", spec := "scriptJoins", unfollowed := true, recurses := true, apart := false, narrowed := true }
def ScriptJoinsUptoSaid : Prop := scriptJoinsUptoRow.holds Try.pinned (OpenSpec.upto scriptJoinsSpec)

/-- 'dormouselaw20.QueueRound', WHERE WHAT IT READS IS OF BULK AT MOST 1048576: true; the input reads as it did. -/
def queueRoundUptoRow : OpenClaim := { program := "ytjjfemhpdhkolaa", sum := "abcf1603cdb755e136b86ba4ed84de6cfc328c47ebd74b776921a2d01776e082", func := "dormouse/dormouselaw20.QueueRound", spec := "queueRound", apart := false, narrowed := true }
def QueueRoundUptoSaid : Prop := queueRoundUptoRow.holds Try.pinned (OpenSpec.upto queueRoundSpec)

/-- 'dormouselaw20.QueuePlays', WHERE WHAT IT READS IS OF BULK AT MOST 1048576: true; the input reads as it did. -/
def queuePlaysUptoRow : OpenClaim := { program := "ytjjfemhpdhkolaa", sum := "abcf1603cdb755e136b86ba4ed84de6cfc328c47ebd74b776921a2d01776e082", func := "dormouse/dormouselaw20.QueuePlays", spec := "queuePlays", unfollowed := true, recurses := true, apart := false, narrowed := true }
def QueuePlaysUptoSaid : Prop := queuePlaysUptoRow.holds Try.pinned (OpenSpec.upto queuePlaysSpec)

/-- 'dormouselaw20.QueueOnce', WHERE WHAT IT READS IS OF BULK AT MOST 1048576: true; the input reads as it did. -/
def queueOnceUptoRow : OpenClaim := { program := "ytjjfemhpdhkolaa", sum := "abcf1603cdb755e136b86ba4ed84de6cfc328c47ebd74b776921a2d01776e082", func := "dormouse/dormouselaw20.QueueOnce", spec := "queueOnce", unfollowed := true, recurses := true, apart := false, narrowed := true }
def QueueOnceUptoSaid : Prop := queueOnceUptoRow.holds Try.pinned (OpenSpec.upto queueOnceSpec)

/-- 'dormouselaw27.ScriptTells', WHERE WHAT IT READS IS OF BULK AT MOST 1048576: true; the input reads as it did. -/
def scriptTellsUptoRow : OpenClaim := { program := "ytjjfemhpdhkolaa", sum := "abcf1603cdb755e136b86ba4ed84de6cfc328c47ebd74b776921a2d01776e082", func := "dormouse/dormouselaw27.ScriptTells", spec := "scriptTells", unfollowed := true, recurses := true, apart := false, narrowed := true }
def ScriptTellsUptoSaid : Prop := scriptTellsUptoRow.holds Try.pinned (OpenSpec.upto scriptTellsSpec)

/-- 'dormouselaw27.ScriptBack', WHERE WHAT IT READS IS OF BULK AT MOST 1048576: true; the input reads as it did. -/
def scriptBackUptoRow : OpenClaim := { program := "ytjjfemhpdhkolaa", sum := "abcf1603cdb755e136b86ba4ed84de6cfc328c47ebd74b776921a2d01776e082", func := "dormouse/dormouselaw27.ScriptBack", spec := "scriptBack", unfollowed := true, recurses := true, apart := false, narrowed := true }
def ScriptBackUptoSaid : Prop := scriptBackUptoRow.holds Try.pinned (OpenSpec.upto scriptBackSpec)

/-- 'dormouselaw27.ScriptBounds', WHERE WHAT IT READS IS OF BULK AT MOST 1048576: true; the input reads as it did. -/
def scriptBoundsUptoRow : OpenClaim := { program := "ytjjfemhpdhkolaa", sum := "abcf1603cdb755e136b86ba4ed84de6cfc328c47ebd74b776921a2d01776e082", func := "dormouse/dormouselaw27.ScriptBounds", spec := "scriptBounds", unfollowed := true, recurses := true, apart := false, narrowed := true }
def ScriptBoundsUptoSaid : Prop := scriptBoundsUptoRow.holds Try.pinned (OpenSpec.upto scriptBoundsSpec)

/-- 'dormouselaw19.ClockPlays', WHERE WHAT IT READS IS OF BULK AT MOST 1048576: true; the input reads as it did. -/
def clockPlaysUptoRow : OpenClaim := { program := "ytjjfemhpdhkolaa", sum := "abcf1603cdb755e136b86ba4ed84de6cfc328c47ebd74b776921a2d01776e082", func := "dormouse/dormouselaw19.ClockPlays", spec := "clockPlays", inPlace := ["slices.overlaps[any]"], unfollowed := true, recurses := true, apart := false, narrowed := true }
def ClockPlaysUptoSaid : Prop := clockPlaysUptoRow.holds Try.pinned (OpenSpec.upto clockPlaysSpec)

/-- 'dormouselaw19.ClockOnce', WHERE WHAT IT READS IS OF BULK AT MOST 1048576: true; the input reads as it did. -/
def clockOnceUptoRow : OpenClaim := { program := "ytjjfemhpdhkolaa", sum := "abcf1603cdb755e136b86ba4ed84de6cfc328c47ebd74b776921a2d01776e082", func := "dormouse/dormouselaw19.ClockOnce", spec := "clockOnce", inPlace := ["slices.overlaps[any]"], unfollowed := true, recurses := true, apart := false, narrowed := true }
def ClockOnceUptoSaid : Prop := clockOnceUptoRow.holds Try.pinned (OpenSpec.upto clockOnceSpec)

/-- 'dormouselaw19.ClockAll', WHERE WHAT IT READS IS OF BULK AT MOST 1048576: true; the input reads as it did. -/
def clockAllUptoRow : OpenClaim := { program := "ytjjfemhpdhkolaa", sum := "abcf1603cdb755e136b86ba4ed84de6cfc328c47ebd74b776921a2d01776e082", func := "dormouse/dormouselaw19.ClockAll", spec := "clockAll", inPlace := ["slices.overlaps[any]"], unfollowed := true, recurses := true, apart := false, narrowed := true }
def ClockAllUptoSaid : Prop := clockAllUptoRow.holds Try.pinned (OpenSpec.upto clockAllSpec)

end Rows
end Go.Proofs.Ytjjfemhpdhkolaa
