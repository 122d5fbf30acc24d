/-
  What the rows of package check list of the library's variables.
-/
import Derived.Test.YtoflhfiegfhkoaaDoorKEnv
import Derived.Test.YtoflhfiegfhkoaaDoorXFrame
import Derived.Lib.LaidTab
namespace Go.Proofs.YtoflhfiegfhkoaaDoor
open Go.RowKit
set_option linter.unusedVariables false

theorem gBlanksT : (Tryd.prog.globals[0]?).map (·.type) = some 121 := by kernel_rfl
theorem cellsU8 : Tryd.prog.cellsOf 5 = 1 := by kernel_rfl
theorem cellsBlanks : Tryd.prog.cellsOf 121 = 256 := by kernel_rfl

set_option maxRecDepth 100000 in
set_option maxHeartbeats 1600000 in
theorem env_check {W : World} (h : laidMet Tryd.prog Rows.checkBoundsRow.laid W) (hsh : W.ShapedOpen Tryd.prog) : Env W := by
  refine ⟨?_, maxLen_of h hsh⟩
  obtain ⟨ps, h, _⟩ := h
  obtain ⟨g0, t0, cs0, f0, p0, q0, hg0, ht0, hv0, hd0, h, _⟩ := h
  obtain ⟨g1, t1, cs1, f1, p1, q1, hg1, ht1, hv1, hd1, h, _⟩ := h
  obtain ⟨g2, t2, cs2, f2, p2, q2, hg2, ht2, hv2, hd2, h, _⟩ := h
  obtain rfl := Option.some.inj (gBlanks.symm.trans hg2)
  obtain rfl := Option.some.inj (gBlanksT.symm.trans ht2)
  unfold Blanks Lib.TabIs
  rw [hv2, ← Lib.cells_of_tab (zs := Lib.asciiSpaceTab) Tryd.underlying121 Tryd.underlying5 cellsU8 cellsBlanks hd2]
end Go.Proofs.YtoflhfiegfhkoaaDoor
