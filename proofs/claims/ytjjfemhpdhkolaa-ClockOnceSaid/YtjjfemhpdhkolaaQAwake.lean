/-
  A queue of the call's own, and the test that the program is awake.
-/
import Derived.Test.YtjjfemhpdhkolaaRefQ
namespace Go.Proofs.Ytjjfemhpdhkolaa
open Go.RowKit
set_option linter.unusedVariables false

/-- A queue whose blocks are all new since B. -/
def QIn (B : Nat) (w : World) (q : Nat) (l : List Int) : Prop := ∃ g, QAt w q g l ∧ B ≤ q ∧ (∀ k, g = some k → B ≤ k) ∧ l.length ≤ 100000 ∧ B ≤ w.heap.size

theorem keep_below {B : Nat} {S : Nat → Prop} {w a b : World} (h : Below B w a) (k : Keep S a b) (hs : ∀ i, S i → B ≤ i) (hB : B ≤ a.heap.size) : Below B w b := h.trans (k.below hB hs)

set_option maxRecDepth 100000 in
set_option maxHeartbeats 400000 in
theorem newQ_any (w : World) : Calls Try.prog 17 #[] w fun e w' => e = .returned (.pointer (some ⟨w.heap.size, 0, none⟩)) ∧ w.alloc (.cells #[.slice none 0 0, .string ⟨#[]⟩] 74) = w' := by
  go_enter Try.func17, Try.ntmps17
  go_wp2
  go_ret
  exact ⟨rfl, rfl⟩

theorem newQ_at (w : World) : QAt (w.alloc (.cells #[.slice none 0 0, .string ⟨#[]⟩] 74)) w.heap.size none [] :=
  ⟨none, 0, ⟨#[]⟩, heap_alloc_new w _, rfl, fun k h => absurd h (by show ¬ k < 0; omega), World.ownsRow_nil _ _ _ _, rfl, by simp⟩

theorem newQ_in {B : Nat} (w : World) (hB : B ≤ w.heap.size) : QIn B (w.alloc (.cells #[.slice none 0 0, .string ⟨#[]⟩] 74)) w.heap.size [] :=
  ⟨none, newQ_at w, hB, by simp, by simp, by simp; omega⟩

theorem QIn.lt {B : Nat} {w : World} {q : Nat} {l : List Int} (h : QIn B w q l) : q < w.heap.size := by
  obtain ⟨g, h, _⟩ := h
  exact h.lt
theorem QIn.below {B : Nat} {w w' : World} {q : Nat} {l : List Int} (h : QIn B w q l) (hb : Below w.heap.size w w') : QIn B w' q l := by
  obtain ⟨g, h1, h2, h3, h4, h5⟩ := h
  exact ⟨g, h1.below hb, h2, h3, h4, Nat.le_trans h5 hb.size⟩

theorem qpost_in {B : Nat} {w w' : World} {q : Nat} {g : Option Nat} {v : Value} {l' : List Int} {e : Ending} (h : QPost w q g v l' e w') (hq : B ≤ q) (hg : ∀ k, g = some k → B ≤ k) (hB : B ≤ w.heap.size) (hl : l'.length ≤ 100000) :
    e = .returned v ∧ QIn B w' q l' ∧ Below B w w' := by
  obtain ⟨he, g', h1, h2, h3⟩ := h
  refine ⟨he, ⟨g', h1, hq, fun k hk => ?_, hl, Nat.le_trans hB h2.size⟩, h2.below hB (fun k hk => ?_)⟩
  · rcases h3 k hk with h | h
    · exact hg k h
    · omega
  · rcases hk with h | h
    · omega
    · exact hg k h

theorem addIn {B : Nat} (w : World) (q : Nat) (l : List Int) (a : Int) (b : Bool) (l' : List Int) (h : QIn B w q l) (hb : decide (a ∉ l) = b) (hl : qAdd l a = l') (hn : l'.length ≤ 100000) :
    Calls Try.prog 19 #[.pointer (some ⟨q, 0, none⟩), .int .i64 a] w fun e w' => e = .returned (.bool b) ∧ QIn B w' q l' ∧ Below B w w' := by
  obtain ⟨g, h1, h2, h3, h4, h5⟩ := h
  subst hb hl
  exact (add_any q g l a w h1 (by omega)).mono fun e w' h => qpost_in h h2 h3 h5 hn
theorem removeIn {B : Nat} (w : World) (q : Nat) (l : List Int) (a : Int) (b : Bool) (l' : List Int) (h : QIn B w q l) (hb : decide (a ∈ l) = b) (hl : l.erase a = l') :
    Calls Try.prog 22 #[.pointer (some ⟨q, 0, none⟩), .int .i64 a] w fun e w' => e = .returned (.bool b) ∧ QIn B w' q l' ∧ Below B w w' := by
  obtain ⟨g, h1, h2, h3, h4, h5⟩ := h
  subst hb hl
  refine (remove_any q g l a w h1 (by omega)).mono fun e w' h => qpost_in h h2 h3 h5 ?_
  have := List.length_erase_le (a := a) (l := l)
  omega
theorem atIn {B : Nat} (w : World) (q : Nat) (l : List Int) (i x : Int) (b : Bool) (h : QIn B w q l) (hx : qAt l i = x) (hb : decide (l ≠ []) = b) (hi : -9223372036854775808 ≤ i ∧ i ≤ 9223372036854775807) :
    Calls Try.prog 20 #[.pointer (some ⟨q, 0, none⟩), .int .i64 i] w fun e w' => e = .returned (.tuple #[.int .i64 x, .bool b]) ∧ QIn B w' q l ∧ Below B w w' := by
  have h' := h
  obtain ⟨g, h1, h2, h3, h4, h5⟩ := h
  subst hb hx
  exact (at_any q g l i w h1 (by omega) hi.1 hi.2).mono fun e w' ⟨he, hw⟩ => ⟨he, h'.below hw, hw.mono h5⟩
theorem lenIn {B : Nat} (w : World) (q : Nat) (l : List Int) (n : Nat) (h : QIn B w q l) (hn : l.length = n) :
    Calls Try.prog 21 #[.pointer (some ⟨q, 0, none⟩)] w fun e w' => e = .returned (.int .i64 n) ∧ QIn B w' q l ∧ Below B w w' := by
  have h' := h
  obtain ⟨g, h1, h2, h3, h4, h5⟩ := h
  subst hn
  exact (len_any q g l w h1 (by omega)).mono fun e w' ⟨he, hw⟩ => ⟨he, h'.below hw, hw.mono h5⟩

set_option maxRecDepth 100000 in
set_option maxHeartbeats 400000 in
theorem awake20_any (w : World) : Calls Try.prog 18 #[] w fun e w' => e = .returned (.bool true) ∧ Below w.heap.size w w' := by
  go_enter Try.func18, Try.ntmps18
  go_wp2_with fail
  refine (newQ_any _).mono ?_
  rintro e w1 ⟨rfl, rfl⟩
  have h1 := newQ_in w (Nat.le_refl _)
  have hb1 := bnew (brefl w) (.cells #[.slice none 0 0, .string ⟨#[]⟩] 74)
  go_wp2_with fail
  refine (addIn _ _ [] 5 true [5] h1 rfl rfl (by simp)).mono ?_
  rintro e w2 ⟨rfl, h2, hb2⟩
  have hB2 := hb1.trans hb2
  clear h1 hb1 hb2
  go_wp2_with fail
  refine (addIn _ _ [5] 5 false [5] h2 rfl rfl (by simp)).mono ?_
  rintro e w3 ⟨rfl, h3, hb3⟩
  have hB3 := hB2.trans hb3
  go_wp2_with fail
  refine (addIn _ _ [5] 6 true [5, 6] h3 rfl rfl (by simp)).mono ?_
  rintro e w4 ⟨rfl, h4, hb4⟩
  have hB4 := hB3.trans hb4
  go_wp2_with fail
  refine (atIn _ _ [5, 6] 3 6 true h4 rfl rfl (by omega)).mono ?_
  rintro e w5 ⟨rfl, h5, hb5⟩
  have hB5 := hB4.trans hb5
  go_wp2_with fail
  refine (lenIn _ _ [5, 6] 2 h5 rfl).mono ?_
  rintro e w6 ⟨rfl, h6, hb6⟩
  have hB6 := hB5.trans hb6
  go_wp2_with fail
  refine (removeIn _ _ [5, 6] 5 true [6] h6 rfl rfl).mono ?_
  rintro e w7 ⟨rfl, h7, hb7⟩
  have hB7 := hB6.trans hb7
  go_wp2_with fail
  refine (removeIn _ _ [6] 5 false [6] h7 rfl rfl).mono ?_
  rintro e w8 ⟨rfl, h8, hb8⟩
  go_wp2
  go_ret
  exact ⟨rfl, hB7.trans hb8⟩
end Go.Proofs.Ytjjfemhpdhkolaa
