/-
  The walk of the law TextTells.
-/
import Derived.Test.YtdelflahmlfnfaaDoorXRefL
namespace Go.Proofs.YtdelflahmlfnfaaDoor
open Go.RowKit
set_option linter.unusedVariables false

set_option maxRecDepth 100000 in
set_option maxHeartbeats 1600000 in
theorem textTells_any (s : ByteArray) (mx : Int) (w : World) (hm : w.cell? ⟨0, 0, none⟩ = some (.int .i64 mx)) :
    Calls Tryd.prog 5 #[.string s] w fun e w' => e = .returned (.bool true) ∧ Below w.heap.size w w' := by
  have hml := World.block_lt_of_cell? w _ hm
  by_cases h5 : 5000 < s.size
  · have g : (5000 : Int) < (s.size : Int) := by omega
    have ha := awake01_any mx w hm
    clear hm
    go_enter Tryd.func5, Tryd.ntmps5
    go_wp2_with fail
    refine ha.mono ?_
    rintro e w1 ⟨rfl, hb1⟩
    go_wp2
    go_ret
    exact ⟨rfl, hb1⟩
  · have g : ¬ (5000 : Int) < (s.size : Int) := by omega
    have HM := hidP hm
    have hl := lines_any s mx w hm (by omega)
    have HR := hidP fun w => refLines_any s w (by omega)
    have HN := hidP fun w => number_any s w (by omega)
    have HK := hidP fun w => refNumber_any s w (by omega)
    obtain ⟨L, hL⟩ : ∃ L, (linesR s).1 = L := ⟨_, rfl⟩
    obtain ⟨E, hE⟩ : ∃ E, (linesR s).2 = E := ⟨_, rfl⟩
    obtain ⟨V, hV⟩ : ∃ V, (numR s).1 = V := ⟨_, rfl⟩
    obtain ⟨B, hB⟩ : ∃ B, (numR s).2 = B := ⟨_, rfl⟩
    rw [hL, hE] at hl HR
    rw [hV, hB] at HN HK
    have hLm : L.length ≤ 140737488355328 := by
      rw [← hL]
      unfold linesR
      split
      · simp
      · split
        · simp
        · split
          · simp
          · split
            · simp
            · simp only; omega
    have HLM := hidP hLm
    clear hm hL hE hV hB hLm
    go_enter Tryd.func5, Tryd.ntmps5
    go_wp2_with fail
    refine hl.mono ?_
    rintro e w1 ⟨a1, c1, rfl, ho1, hb1⟩
    have r1 := owns_row ho1
    go_wp2_with fail
    refine (HR.out w1).mono ?_
    rintro e w2 ⟨a2, c2, rfl, ho2, hb2⟩
    have r12 := r1.below hb2
    have r2 := owns_row ho2
    have hB2 := bstep hb1 hb2
    go_wp2_with fail
    refine (HN.out w2).mono ?_
    rintro e w3 ⟨rfl, hb3⟩
    have r13 := r12.below hb3
    have r23 := r2.below hb3
    have hB3 := bstep hB2 hb3
    go_wp2_with fail
    refine (HK.out w3).mono ?_
    rintro e w4 ⟨rfl, hb4⟩
    have r14 := r13.below hb4
    have r24 := r23.below hb4
    have hB4 := bstep hB3 hb4
    go_wp2_with fail
    refine (awake01_any mx w4 ((hB4.cell (p := ⟨0, 0, none⟩) hml).trans HM.out)).mono ?_
    rintro e w5 ⟨rfl, hb5⟩
    have r15 := r14.below hb5
    have r25 := r24.below hb5
    have hB5 := bstep hB4 hb5
    go_wp2_with fail
    refine (plainStr_yes a1 a2 L.length L.length c1 c2 L L _ r15 r25 rfl rfl HLM.out rfl).mono ?_
    rintro e w6 ⟨rfl, hb6⟩
    go_wp2
    go_ret
    exact ⟨rfl, bstep hB5 hb6⟩

theorem textTellsW (w : World) (s : ByteArray) (hs : s.size ≤ maxLen) (hm : ∃ mx, w.cell? ⟨0, 0, none⟩ = some (.int .i64 mx)) :
    Calls Tryd.prog 5 #[.string s] w fun e w' => e = .returned (.bool true) ∧ Below w.heap.size w w' := by
  obtain ⟨mx, hm⟩ := hm
  exact textTells_any s mx w hm
end Go.Proofs.YtdelflahmlfnfaaDoor
