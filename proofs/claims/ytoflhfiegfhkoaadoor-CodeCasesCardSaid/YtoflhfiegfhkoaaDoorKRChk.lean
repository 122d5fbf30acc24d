/-
  The walks over the reference's within and bounded.
-/
import Derived.Test.YtoflhfiegfhkoaaDoorKInstr
namespace Go.Proofs.YtoflhfiegfhkoaaDoor
open Go.RowKit Go.Proofs.YtoflhfiegfhkoaaDoorW.PrintWords
set_option linter.unusedVariables false

def rwith (v n : Int) : Bool := decide (0 ≤ v) && decide (v < n)
set_option maxRecDepth 100000 in
set_option maxHeartbeats 800000 in
theorem rwithin_any (v n : Int) (w : World) : Calls Tryd.prog 48 #[.int .i64 v, .int .i64 n] w fun e w' => e = .returned (.bool (rwith v n)) ∧ w' = w := by
  by_cases h0 : 0 ≤ v
  · have hr : rwith v n = decide (v < n) := by simp [rwith, h0]
    rw [hr]
    clear hr
    go_enter Tryd.func48, Tryd.ntmps48
    go_wp2
    go_ret
    exact ⟨rfl, rfl⟩
  · have hr : rwith v n = false := by simp [rwith, h0]
    rw [hr]
    clear hr
    go_enter Tryd.func48, Tryd.ntmps48
    go_wp2
    go_ret
    exact ⟨rfl, rfl⟩

/-- The reference's bounds of N, and of how many cases there are. -/
def rbounded (x : InstrD) : Bool :=
  if x.op = 4 then decide (x.n ≤ 3) else if x.op = 14 then decide (x.n ≤ 1000) else if x.op = 20 then decide (x.n ≤ 9) else if x.op = 18 then decide (x.n < 4) else if x.op = 19 then decide (x.n < 4) else decide ((x.cases.length : Int) ≤ 3)
set_option maxRecDepth 100000 in
set_option maxHeartbeats 3200000 in
theorem rbounded_any (x : InstrD) (A : Option Addr) (d : Nat) (w : World) : Calls Tryd.prog 31 #[instrV x (.slice A x.cases.length d)] w fun e w' => e = .returned (.bool (rbounded x)) ∧ Below w.heap.size w w' := by
  obtain ⟨op, xa, xb, xn, cs⟩ := x
  simp only [instrV]
  unfold rbounded
  dsimp only
  have hb := bnew (brefl w) (.cells #[.int .i64 op, .int .i64 xa, .int .i64 xb, .int .i64 xn, .slice A cs.length d] 37)
  by_cases h4 : op = 4
  · rw [if_pos h4]
    have t4 : (op == 4) = true := by simp [h4]
    clear h4
    go_enter Tryd.func31, Tryd.ntmps31
    go_wp2
    go_ret
    exact ⟨rfl, hb⟩
  rw [if_neg h4]
  have t4 : (op == 4) = false := by simp [h4]
  by_cases h14 : op = 14
  · rw [if_pos h14]
    have t14 : (op == 14) = true := by simp [h14]
    clear h4 h14
    go_enter Tryd.func31, Tryd.ntmps31
    go_wp2
    go_ret
    exact ⟨rfl, hb⟩
  rw [if_neg h14]
  have t14 : (op == 14) = false := by simp [h14]
  by_cases h20 : op = 20
  · rw [if_pos h20]
    have t20 : (op == 20) = true := by simp [h20]
    clear h4 h14 h20
    go_enter Tryd.func31, Tryd.ntmps31
    go_wp2
    go_ret
    exact ⟨rfl, hb⟩
  rw [if_neg h20]
  have t20 : (op == 20) = false := by simp [h20]
  by_cases h18 : op = 18
  · rw [if_pos h18]
    have t18 : (op == 18) = true := by simp [h18]
    clear h4 h14 h20 h18
    go_enter Tryd.func31, Tryd.ntmps31
    go_wp2
    go_ret
    exact ⟨rfl, hb⟩
  rw [if_neg h18]
  have t18 : (op == 18) = false := by simp [h18]
  by_cases h19 : op = 19
  · rw [if_pos h19]
    have t19 : (op == 19) = true := by simp [h19]
    clear h4 h14 h20 h18 h19
    go_enter Tryd.func31, Tryd.ntmps31
    go_wp2
    go_ret
    exact ⟨rfl, hb⟩
  rw [if_neg h19]
  have t19 : (op == 19) = false := by simp [h19]
  clear h4 h14 h20 h18 h19
  go_enter Tryd.func31, Tryd.ntmps31
  go_wp2
  go_ret
  exact ⟨rfl, hb⟩
end Go.Proofs.YtoflhfiegfhkoaaDoor
