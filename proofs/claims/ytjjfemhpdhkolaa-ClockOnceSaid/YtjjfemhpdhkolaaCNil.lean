/-
  The walks over a nil clock.
-/
import Derived.Test.YtjjfemhpdhkolaaClock2
namespace Go.Proofs.Ytjjfemhpdhkolaa
open Go.RowKit
set_option linter.unusedVariables false

set_option maxRecDepth 100000 in
theorem caddNil_any (t a : Int) (w : World) : Calls Try.prog 40 #[.pointer none, .int .i64 t, .int .i64 a] w fun e w' => e = .returned (.tuple #[]) ∧ Below w.heap.size w w' := by
  go_enter Try.func40, Try.ntmps40
  go_wp2
  first | go_end0 | ((try simp only [Exit.inBlock, Exit.then]); refine bodyPost_ret (results_none rfl _ _ _) rfl ?_)
  exact ⟨rfl, bnew (brefl w) _⟩
set_option maxRecDepth 100000 in
theorem cdueNil_any (t : Int) (w : World) : Calls Try.prog 38 #[.pointer none, .int .i64 t] w fun e w' => e = .returned (.slice none 0 0) ∧ Below w.heap.size w w' := by
  go_enter Try.func38, Try.ntmps38
  go_wp2
  go_ret
  exact ⟨rfl, bnew (brefl w) _⟩
set_option maxRecDepth 100000 in
theorem callNil_any (w : World) : Calls Try.prog 42 #[.pointer none] w fun e w' => e = .returned (.slice none 0 0) ∧ w' = w := by
  go_enter Try.func42, Try.ntmps42
  go_wp2
  go_ret
  exact ⟨rfl, rfl⟩
set_option maxRecDepth 100000 in
theorem clenNil_any (w : World) : Calls Try.prog 43 #[.pointer none] w fun e w' => e = .returned (.int .i64 0) ∧ w' = w := by
  go_enter Try.func43, Try.ntmps43
  go_wp2_with (go_at_call 42; refine (callNil_any w).mono ?_; rintro e w1 ⟨rfl, rfl⟩)
  go_ret
  exact ⟨rfl, rfl⟩
end Go.Proofs.Ytjjfemhpdhkolaa
