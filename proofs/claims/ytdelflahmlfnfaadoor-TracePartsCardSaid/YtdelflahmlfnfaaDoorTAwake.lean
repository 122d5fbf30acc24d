/-
  The test that the program with the traces is awake.
-/
import Derived.Test.YtdelflahmlfnfaaDoorTText2
namespace Go.Proofs.YtdelflahmlfnfaaDoor
open Go.RowKit
set_option linter.unusedVariables false

theorem plainInt_yes (ao bo : Option Addr) (n m c d : Nat) (es fs : List Int) (w : World) (hae : RowAt w ao (es.map (Value.int .i64))) (hbf : RowAt w bo (fs.map (Value.int .i64))) (hn : es.length = n) (hm : fs.length = m) (hmax : n ≤ 140737488355328) (he : es = fs) :
    Calls Tryd.prog 23 #[.slice ao n c, .slice bo m d] w fun e w' => e = .returned (.bool true) ∧ Below w.heap.size w w' := by
  have h : decide (es = fs) = true := by simp [he]
  rw [← h]
  exact plainInt_any ao bo n m c d es fs w hae hbf hn hm hmax
theorem plainEv_yes (ao bo : Option Addr) (n m c d : Nat) (es fs : List Ev) (w : World) (hae : RowAt w ao (evsCells es)) (hbf : RowAt w bo (evsCells fs)) (hn : es.length = n) (hm : fs.length = m) (hmax : n ≤ 140737488355328) (he : es = fs) :
    Calls Tryd.prog 12 #[.slice ao n c, .slice bo m d] w fun e w' => e = .returned (.bool true) ∧ Below w.heap.size w w' := by
  have h : decide (es = fs) = true := by simp [he]
  rw [← h]
  exact plainEv_any ao bo n m c d es fs w hae hbf hn hm hmax

def awk : List Ev := [⟨1, 1, -5, false⟩, ⟨3, 2, 0, false⟩]
theorem awk_text : (⟨(textL awk).toArray⟩ : ByteArray) = ⟨#[111, 117, 116, 32, 49, 32, 45, 53, 10, 114, 101, 99, 108, 97, 105, 109, 32, 50, 10]⟩ := by decide +kernel
theorem awk_ok : ∀ x ∈ awk, evOk x := by
  intro x hx
  simp [awk] at hx
  rcases hx with rfl | rfl <;> (unfold evOk; dsimp only; omega)
theorem awk_row (w : World) : RowAt (w.alloc (.cells #[.int .i64 1, .int .i64 1, .int .i64 (-5), .bool false, .int .i64 3, .int .i64 2, .int .i64 0, .bool false] 28)) (some ⟨w.heap.size, 0, none⟩) (evsCells awk) := RowAt.new w (evsCells awk) _

set_option maxRecDepth 100000 in
set_option maxHeartbeats 1000000 in
theorem awake26_any (w : World) (ht : Pow w) : Calls Tryd.prog 9 #[] w fun e w' => e = .returned (.bool true) ∧ Below w.heap.size w w' := by
  have hr := awk_row w
  have hb0 := bnew (brefl w) (.cells #[.int .i64 1, .int .i64 1, .int .i64 (-5), .bool false, .int .i64 3, .int .i64 2, .int .i64 0, .bool false] 28)
  have htx := text_any _ 2 2 awk _ hr rfl (by omega) awk_ok (pow_below ht hb0)
  rw [awk_text] at htx
  have HTX := hidP htx
  have HR := hidP hr
  clear htx hr ht
  go_enter Tryd.func9, Tryd.ntmps9
  go_wp2_with fail
  refine HTX.out.mono ?_
  rintro e w1 ⟨rfl, hb1⟩
  have hB1 := bstep hb0 hb1
  have r1 := HR.out.below hb1
  go_wp2_with fail
  refine (visible_any _ 2 2 awk w1 r1 rfl (by omega)).mono ?_
  rintro e w2 ⟨a2, c2, rfl, ho2, hb2⟩
  have hv : (vis awk).length = 1 := by decide
  rw [hv]
  have hB2 := bstep hB1 hb2
  have r2 := r1.below hb2
  go_wp2_with fail
  refine (recl_any _ 2 2 awk w2 r2 rfl (by omega)).mono ?_
  rintro e w3 ⟨a3, c3, rfl, ho3, hb3⟩
  have hl : recl awk = [2] := by decide
  rw [hl] at ho3 ⊢
  have hB3 := bstep hB2 hb3
  have r3 := owns_row ho3
  go_wp2_with fail
  refine (plainInt_yes a3 (some ⟨w3.heap.size, 0, none⟩) 1 1 c3 1 [2] [2] _ (r3.alloc _) (RowAt.new w3 [.int .i64 2] _) rfl rfl (by omega) rfl).mono ?_
  rintro e w4 ⟨rfl, hb4⟩
  go_wp2
  go_ret
  exact ⟨rfl, bstep (bnew hB3 _) hb4⟩
end Go.Proofs.YtdelflahmlfnfaaDoor
