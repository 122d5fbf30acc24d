/-
  The table that the row lists, as the walks want it.
-/
import Derived.Test.YtdelflahmlfnfaaDoorRows
import Derived.Test.YtdelflahmlfnfaaDoorLib
import Derived.Test.YtdelflahmlfnfaaDoorShelf
import Derived.Lib.LaidTab
namespace Go.Proofs.YtdelflahmlfnfaaDoor
open Go.RowKit
set_option linter.unusedVariables false

theorem gPow : Tryd.prog.globalNamed "internal/strconv.uint64pow10" = some 3 := by kernel_rfl
theorem gPowT : (Tryd.prog.globals[3]?).map (·.type) = some 101 := by kernel_rfl
theorem cellsU64 : Tryd.prog.cellsOf 89 = 1 := by kernel_rfl
theorem cellsPow : Tryd.prog.cellsOf 101 = 20 := by kernel_rfl

theorem tab_pow {W : World} (h : laidMet Tryd.prog Rows.traceKindsRow.laid W) : Lib.TabIs Tryd.prog W "internal/strconv.uint64pow10" .u64 Lib.pow10Tab := by
  obtain ⟨ps, h, _⟩ := h
  obtain ⟨g0, t0, cs0, f0, p0, q0, hg0, ht0, hv0, hd0, h, _⟩ := h
  obtain ⟨g1, t1, cs1, f1, p1, q1, hg1, ht1, hv1, hd1, h, _⟩ := h
  obtain ⟨g2, t2, cs2, f2, p2, q2, hg2, ht2, hv2, hd2, h, _⟩ := h
  obtain rfl := Option.some.inj (gPow.symm.trans hg2)
  obtain rfl := Option.some.inj (gPowT.symm.trans ht2)
  unfold Lib.TabIs
  rw [hv2, ← Lib.cells_of_tab (zs := Lib.pow10Tab) Tryd.underlying101 Tryd.underlying89 cellsU64 cellsPow hd2]
theorem pow_below {w w' : World} (h : Lib.TabIs Tryd.prog w "internal/strconv.uint64pow10" .u64 Lib.pow10Tab) (hb : Below w.heap.size w w') : Lib.TabIs Tryd.prog w' "internal/strconv.uint64pow10" .u64 Lib.pow10Tab := by
  unfold Lib.TabIs World.var? at h ⊢
  rw [gPow] at h ⊢
  simp only [Option.bind_some] at h ⊢
  have hlt : 3 < w.heap.size := by
    rcases Nat.lt_or_ge 3 w.heap.size with h' | h'
    · exact h'
    · rw [Array.getElem?_eq_none h'] at h; cases h
  rw [hb.block 3 hlt]
  exact h
end Go.Proofs.YtdelflahmlfnfaaDoor
