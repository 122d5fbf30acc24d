/-
  The test that the program with the texts is awake.
-/
import Derived.Test.YtdelflahmlfnfaaDoorXLines
namespace Go.Proofs.YtdelflahmlfnfaaDoor
open Go.RowKit
set_option linter.unusedVariables false

theorem plainStr_yes (ao bo : Option Addr) (n m c d : Nat) (es fs : List ByteArray) (w : World) (hae : RowAt w ao (es.map Value.string)) (hbf : RowAt w bo (fs.map Value.string)) (hn : es.length = n) (hm : fs.length = m) (hmax : n ≤ 140737488355328) (he : es = fs) :
    Calls Tryd.prog 19 #[.slice ao n c, .slice bo m d] w fun e w' => e = .returned (.bool true) ∧ Below w.heap.size w w' := by
  have h : decide (es = fs) = true := by simp [he]
  rw [← h]
  exact plainStr_any ao bo n m c d es fs w hae hbf hn hm hmax

theorem awk_lines : linesR ⟨#[120, 10, 32, 106, 32, 48]⟩ = ([⟨#[120]⟩, ⟨#[106, 48]⟩], 0) := by decide +kernel
theorem awk_num : numR ⟨#[49, 50]⟩ = (12, true) := by decide +kernel

set_option maxRecDepth 100000 in
set_option maxHeartbeats 1000000 in
theorem awake01_any (mx : Int) (w : World) (hm : w.cell? ⟨0, 0, none⟩ = some (.int .i64 mx)) : Calls Tryd.prog 14 #[] w fun e w' => e = .returned (.bool true) ∧ Below w.heap.size w w' := by
  have hl := lines_any ⟨#[120, 10, 32, 106, 32, 48]⟩ mx w hm (by decide)
  rw [awk_lines] at hl
  have hn := fun w => number_any ⟨#[49, 50]⟩ w (by decide)
  rw [awk_num] at hn
  have HN := hidP hn
  clear hn hm
  go_enter Tryd.func14, Tryd.ntmps14
  go_wp2_with fail
  refine hl.mono ?_
  rintro e w1 ⟨a1, c1, rfl, ho1, hb1⟩
  go_wp2_with fail
  refine (HN.out w1).mono ?_
  rintro e w2 ⟨rfl, hb2⟩
  have r2 := (owns_row ho1).below hb2
  have hB2 := bstep hb1 hb2
  go_wp2_with fail
  refine (plainStr_yes a1 (some ⟨w2.heap.size, 0, none⟩) 2 2 c1 2 [⟨#[120]⟩, ⟨#[106, 48]⟩] [⟨#[120]⟩, ⟨#[106, 48]⟩] _ (r2.alloc _) (RowAt.new w2 [.string ⟨#[120]⟩, .string ⟨#[106, 48]⟩] _) rfl rfl (by omega) rfl).mono ?_
  rintro e w3 ⟨rfl, hb3⟩
  go_wp2
  go_ret
  exact ⟨rfl, bstep (bnew hB2 _) hb3⟩
end Go.Proofs.YtdelflahmlfnfaaDoor
