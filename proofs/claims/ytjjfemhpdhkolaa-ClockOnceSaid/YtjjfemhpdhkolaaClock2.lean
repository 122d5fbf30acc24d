/-
  A clock in memory: the functions that make it and read it; a value put into a row of interface values.
-/
import Derived.Test.YtjjfemhpdhkolaaClock
import Derived.Test.YtjjfemhpdhkolaaFits
import Derived.Lib.Overlaps
import Derived.Lib.JoinLaws
import Derived.Lib.AppendZeros
import Derived.Lib.SliceRun
import Derived.Laws.Externs
import Derived.Laws.IdiomCopy
namespace Go.Proofs.Ytjjfemhpdhkolaa
open Go.RowKit
set_option linter.unusedVariables false

/-- At block q lies a clock that holds l; its row lies in block g. -/
def CAt (w : World) (q : Nat) (g : Option Nat) (l : List CE) : Prop :=
  ∃ ao cap, w.heap[q]? = some (.cells #[.slice ao l.length cap] 85 (0, 0)) ∧ w.ownsRow 0 20 1 (.slice ao l.length cap) l.length (l.map ceV) ∧
    g = (Value.slice ao l.length cap).ownBlock ∧ g ≠ some q

theorem CAt.lt {w : World} {q : Nat} {g : Option Nat} {l : List CE} (h : CAt w q g l) : q < w.heap.size := by
  obtain ⟨ao, cap, hq, _⟩ := h
  exact block_lt hq
theorem CAt.glt {w : World} {q : Nat} {g : Option Nat} {l : List CE} (h : CAt w q g l) : ∀ k, g = some k → k < w.heap.size := by
  obtain ⟨ao, cap, hq, ho, rfl, _⟩ := h
  exact fun k hk => (ho.lt k hk).2
theorem CAt.keep {S : Nat → Prop} {w w' : World} {q : Nat} {g : Option Nat} {l : List CE} (h : CAt w q g l) (hk : Keep S w w') (hq : ¬ S q) (hg : ∀ k, g = some k → ¬ S k) : CAt w' q g l := by
  obtain ⟨ao, cap, h1, h4, rfl, h6⟩ := h
  exact ⟨ao, cap, (hk.block q (block_lt h1) hq).trans h1, owns_keep h4 hk hg, rfl, h6⟩
theorem CAt.below {w w' : World} {q : Nat} {g : Option Nat} {l : List CE} (h : CAt w q g l) (hb : Below w.heap.size w w') : CAt w' q g l :=
  h.keep (S := fun _ => False) (.of_below hb) (fun h => h) (fun _ _ h => h)

set_option maxRecDepth 100000 in
set_option maxHeartbeats 400000 in
theorem cnew_any (w : World) :
    Calls Try.prog 36 #[] w fun e w' => e = .returned (.pointer (some ⟨w.heap.size, 0, none⟩)) ∧ w' = w.alloc (.cells #[.slice none 0 0] 85) := by
  go_enter Try.func36, Try.ntmps36
  go_wp2
  go_ret
  exact ⟨rfl, rfl⟩

theorem cnew_at (w : World) : CAt (w.alloc (.cells #[.slice none 0 0] 85)) w.heap.size none [] :=
  ⟨none, 0, heap_alloc_new w _, World.ownsRow_nil _ _ _ _, rfl, by simp⟩

set_option maxRecDepth 100000 in
set_option maxHeartbeats 400000 in
theorem call_any (q : Nat) (g : Option Nat) (l : List CE) (w : World) (h : CAt w q g l) (hl : l.length ≤ 1000000) :
    Calls Try.prog 42 #[.pointer (some ⟨q, 0, none⟩)] w (RetRow w 3 1 l.length ((l.map (·.2)).map (Value.int .i64))) := by
  obtain ⟨ao, cap, hq, ho, hg, hne⟩ := h
  have c0 := block_cell hq 0
  simp at c0
  have hr := owns_row ho
  clear hg hne hq ho
  go_enter Try.func42, Try.ntmps42
  go_wp2_with fail
  refine (places_any ao l.length cap l _ hr rfl hl).mono ?_
  rintro e w1 ⟨a1, c1, rfl, h1, hb1⟩
  go_wp2
  go_ret
  exact ⟨a1, c1, rfl, h1, hb1⟩

set_option maxRecDepth 100000 in
set_option maxHeartbeats 400000 in
theorem clen_any (q : Nat) (g : Option Nat) (l : List CE) (w : World) (h : CAt w q g l) (hl : l.length ≤ 1000000) :
    Calls Try.prog 43 #[.pointer (some ⟨q, 0, none⟩)] w fun e w' => e = .returned (.int .i64 l.length) ∧ Below w.heap.size w w' := by
  have hc := call_any q g l w h hl
  go_enter Try.func43, Try.ntmps43
  go_wp2_with (go_at_call 42; refine hc.mono ?_; rintro e w1 ⟨a1, c1, rfl, h1, hb1⟩)
  go_ret
  exact ⟨rfl, hb1⟩

theorem Try.slAny : SlT Try.prog 83 20 .nilIface 1 16 := ⟨Try.underlying83, by kernel_rfl, rfl, by decide⟩

theorem owns_made0 (w : World) : (w.alloc (.cells #[] 20)).ownsRow w.heap.size 20 1 (.slice (some ⟨w.heap.size, 0, none⟩) 0 0) 0 [] :=
  ⟨rfl, .inr ⟨w.heap.size, 0, #[], rfl, Nat.le_refl _, heap_alloc_new w _, Nat.le_refl _, Nat.zero_le _, rfl, rfl⟩⟩

set_option maxRecDepth 100000 in
set_option maxHeartbeats 400000 in
theorem cloneAny_any (ao : Option Addr) (n c : Nat) (cs : List Value) (w : World) (hr : RowAt w ao cs) (hn : cs.length = n) (h1 : ∀ u ∈ cs, u.oneCell' = true) (hmax : n ≤ 1000000) :
    Calls Try.prog 61 #[.slice ao n c] w (RetRow w 20 1 n cs) := by
  have Hn := hidP hn
  clear hn
  cases ao with
  | none =>
    have hcs : cs = [] := by
      rcases hr with h | ⟨b, o, h, _⟩
      · exact h
      · cases h
    subst hcs
    have hn0 : n = 0 := by have := Hn.out; simpa using this.symm
    subst hn0
    have heq := fun w => Lib.run_eql_slice_nil (P := Try.prog) w _ _ none 0 c 0 0 Try.underlying83
    go_enter Try.func61, Try.ntmps61
    go_wp2
    go_ret
    exact retRow_mk (World.ownsRow_nil _ _ _ _) (brefl _)
  | some a =>
    have heq := fun w => Lib.run_eql_slice_nil (P := Try.prog) w _ _ (some a) n c 0 0 Try.underlying83
    go_enter Try.func61, Try.ntmps61
    go_wp2_with (at_builtin; go_loud (refine (wpList_app _ rfl (.tmp 5) (.tmp 6) rfl Try.slAny w.heap.size (.slice (some ⟨w.heap.size, 0, none⟩) 0 0) 0 [] rfl (owns_made0 w) (some a) n c cs rfl n (by omega) (hr.alloc _) (by rw [Hn.out]; omega) h1 (by omega) (by unfold maxLen; omega) (by simp) ?_)); intro a2 c2 w2 ho2 hg2 _)
    go_ret
    exact ⟨a2, c2, rfl, ho2, (bnew (brefl w) _).grown hg2 (by simp) (fun j hj => by simp [Value.ownBlock] at hj; omega)⟩
end Go.Proofs.Ytjjfemhpdhkolaa
