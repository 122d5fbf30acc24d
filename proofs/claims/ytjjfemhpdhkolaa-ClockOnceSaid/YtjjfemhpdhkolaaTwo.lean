/-
  A queue and the reference's queue, side by side.
-/
import Derived.Test.YtjjfemhpdhkolaaQAwake
import Derived.Test.YtjjfemhpdhkolaaCmp
import Derived.Test.YtjjfemhpdhkolaaOpenS
namespace Go.Proofs.Ytjjfemhpdhkolaa
open Go.RowKit
set_option linter.unusedVariables false

def Two (w : World) (q r : Nat) (own : Nat → Prop) (lq lr : List Int) : Prop :=
  ∃ gq gr, (∀ k, own k ↔ (k = q ∨ k = r ∨ gq = some k ∨ gr = some k)) ∧ QAt w q gq lq ∧ RAt w r gr lr ∧ q ≠ r ∧ gq ≠ some r ∧ gr ≠ some q ∧ (∀ k, gq = some k → gr ≠ some k)

theorem Two.lt {w : World} {q r : Nat} {own : Nat → Prop} {lq lr : List Int} (h : Two w q r own lq lr) : ∀ k, own k → k < w.heap.size := by
  obtain ⟨gq, gr, ho, h1, h2, _⟩ := h
  intro k hk
  rcases (ho k).1 hk with rfl | rfl | h | h
  · exact h1.lt
  · exact h2.lt
  · exact h1.glt k h
  · exact h2.glt k h

theorem Two.keep {S : Nat → Prop} {w w' : World} {q r : Nat} {own : Nat → Prop} {lq lr : List Int} (h : Two w q r own lq lr) (hk : Keep S w w') (hs : ∀ k, own k → ¬ S k) : Two w' q r own lq lr := by
  obtain ⟨gq, gr, ho, h1, h2, h3⟩ := h
  exact ⟨gq, gr, ho, h1.keep hk (hs _ ((ho _).2 (.inl rfl))) (fun k e => hs _ ((ho _).2 (.inr (.inr (.inl e))))), h2.keep hk (hs _ ((ho _).2 (.inr (.inl rfl)))) (fun k e => hs _ ((ho _).2 (.inr (.inr (.inr e))))), h3⟩

theorem Two.below {w w' : World} {q r : Nat} {own : Nat → Prop} {lq lr : List Int} (h : Two w q r own lq lr) (hb : Below w.heap.size w w') : Two w' q r own lq lr :=
  h.keep (S := fun _ => False) (.of_below hb) (fun _ _ h => h)

/-- What an operation on one of the two leaves. -/
def TPost (w : World) (q r : Nat) (own : Nat → Prop) (v : Value) (lq lr : List Int) (e : Ending) (w' : World) : Prop :=
  e = .returned v ∧ ∃ own', Two w' q r own' lq lr ∧ Keep own w w' ∧ (∀ k, own' k → own k ∨ w.heap.size ≤ k)

theorem two_q {w w' : World} {q r : Nat} {own : Nat → Prop} {lq lr l' : List Int} {gq gr : Option Nat} {v : Value} {e : Ending} (ho : ∀ k, own k ↔ (k = q ∨ k = r ∨ gq = some k ∨ gr = some k)) (h2 : RAt w r gr lr)
    (h3 : q ≠ r) (h4 : gq ≠ some r) (h5 : gr ≠ some q) (h6 : ∀ k, gq = some k → gr ≠ some k) (h1 : QAt w q gq lq) (h : QPost w q gq v l' e w') : TPost w q r own v l' lr e w' := by
  obtain ⟨he, g', a1, a2, a3⟩ := h
  have hr := h2.lt
  refine ⟨he, fun k => k = q ∨ k = r ∨ g' = some k ∨ gr = some k, ⟨g', gr, fun k => Iff.rfl, a1, h2.keep a2 ?_ ?_, h3, ?_, h5, ?_⟩, a2.mono ?_, ?_⟩
  · rintro (h | h)
    · exact h3 h.symm
    · exact h4 h
  · rintro k hk (h | h)
    · exact h5 (h ▸ hk)
    · exact h6 k h hk
  · intro h
    rcases a3 r h with h | h
    · exact h4 h
    · omega
  · intro k hk hk2
    have := h2.glt k hk2
    rcases a3 k hk with h | h
    · exact h6 k h hk2
    · omega
  · rintro k _ (h | h)
    · exact (ho k).2 (.inl h)
    · exact (ho k).2 (.inr (.inr (.inl h)))
  · rintro k (h | h | h | h)
    · exact .inl ((ho k).2 (.inl h))
    · exact .inl ((ho k).2 (.inr (.inl h)))
    · rcases a3 k h with h | h
      · exact .inl ((ho k).2 (.inr (.inr (.inl h))))
      · exact .inr h
    · exact .inl ((ho k).2 (.inr (.inr (.inr h))))

theorem two_r {w w' : World} {q r : Nat} {own : Nat → Prop} {lq lr l' : List Int} {gq gr : Option Nat} {v : Value} {e : Ending} (ho : ∀ k, own k ↔ (k = q ∨ k = r ∨ gq = some k ∨ gr = some k)) (h2 : RAt w r gr lr)
    (h3 : q ≠ r) (h4 : gq ≠ some r) (h5 : gr ≠ some q) (h6 : ∀ k, gq = some k → gr ≠ some k) (h1 : QAt w q gq lq) (h : RPost w r gr v l' e w') : TPost w q r own v lq l' e w' := by
  obtain ⟨he, g', a1, a2, a3⟩ := h
  have hq := h1.lt
  refine ⟨he, fun k => k = q ∨ k = r ∨ gq = some k ∨ g' = some k, ⟨gq, g', fun k => Iff.rfl, h1.keep a2 h3 ?_, a1, h3, h4, ?_, ?_⟩, a2.mono ?_, ?_⟩
  · rintro k hk rfl
    exact h4 hk
  · intro h
    rcases a3 q h with h | h
    · exact h5 h
    · omega
  · intro k hk hk2
    have := h1.glt k hk
    rcases a3 k hk2 with h | h
    · exact h6 k hk h
    · omega
  · rintro k _ rfl
    exact (ho k).2 (.inr (.inl rfl))
  · rintro k (h | h | h | h)
    · exact .inl ((ho k).2 (.inl h))
    · exact .inl ((ho k).2 (.inr (.inl h)))
    · exact .inl ((ho k).2 (.inr (.inr (.inl h))))
    · rcases a3 k h with h | h
      · exact .inl ((ho k).2 (.inr (.inr (.inr h))))
      · exact .inr h

theorem twoAdd (w : World) (q r : Nat) (own : Nat → Prop) (lq lr : List Int) (a : Int) (h : Two w q r own lq lr) (hl : lq.length ≤ 900000) :
    Calls Try.prog 19 #[.pointer (some ⟨q, 0, none⟩), .int .i64 a] w (TPost w q r own (.bool (decide (a ∉ lq))) (qAdd lq a) lr) := by
  obtain ⟨gq, gr, ho, h1, h2, h3, h4, h5, h6⟩ := h
  exact (add_any q gq lq a w h1 hl).mono fun e w' h => two_q ho h2 h3 h4 h5 h6 h1 h
theorem twoRem (w : World) (q r : Nat) (own : Nat → Prop) (lq lr : List Int) (a : Int) (h : Two w q r own lq lr) (hl : lq.length ≤ 900000) :
    Calls Try.prog 22 #[.pointer (some ⟨q, 0, none⟩), .int .i64 a] w (TPost w q r own (.bool (decide (a ∈ lq))) (lq.erase a) lr) := by
  obtain ⟨gq, gr, ho, h1, h2, h3, h4, h5, h6⟩ := h
  exact (remove_any q gq lq a w h1 hl).mono fun e w' h => two_q ho h2 h3 h4 h5 h6 h1 h
theorem twoAddR (w : World) (q r : Nat) (own : Nat → Prop) (lq lr : List Int) (a : Int) (h : Two w q r own lq lr) (hl : lr.length ≤ 900000) :
    Calls Try.prog 25 #[.pointer (some ⟨r, 0, none⟩), .int .i64 a] w (TPost w q r own (.bool (decide (a ∉ lr))) lq (qAdd lr a)) := by
  obtain ⟨gq, gr, ho, h1, h2, h3, h4, h5, h6⟩ := h
  exact (refAdd_any r gr lr a w h2 hl).mono fun e w' h => two_r ho h2 h3 h4 h5 h6 h1 h
theorem twoRemR (w : World) (q r : Nat) (own : Nat → Prop) (lq lr : List Int) (a : Int) (h : Two w q r own lq lr) (hl : lr.length ≤ 900000) :
    Calls Try.prog 23 #[.pointer (some ⟨r, 0, none⟩), .int .i64 a] w (TPost w q r own (.bool (decide (a ∈ lr))) lq (lr.erase a)) := by
  obtain ⟨gq, gr, ho, h1, h2, h3, h4, h5, h6⟩ := h
  exact (refRemove_any r gr lr a w h2 hl).mono fun e w' h => two_r ho h2 h3 h4 h5 h6 h1 h
theorem twoAt (w : World) (q r : Nat) (own : Nat → Prop) (lq lr : List Int) (i : Int) (h : Two w q r own lq lr) (hl : lq.length ≤ 900000) (hi0 : -9223372036854775808 ≤ i) (hi1 : i ≤ 9223372036854775807) :
    Calls Try.prog 20 #[.pointer (some ⟨q, 0, none⟩), .int .i64 i] w fun e w' => e = .returned (.tuple #[.int .i64 (qAt lq i), .bool (decide (lq ≠ []))]) ∧ Below w.heap.size w w' := by
  obtain ⟨gq, gr, ho, h1, h2, h3, h4, h5, h6⟩ := h
  exact at_any q gq lq i w h1 (by omega) hi0 hi1
theorem twoAtR (w : World) (q r : Nat) (own : Nat → Prop) (lq lr : List Int) (i : Int) (h : Two w q r own lq lr) (hl : lr.length ≤ 900000) (hi0 : -9223372036854775808 ≤ i) (hi1 : i ≤ 9223372036854775807) :
    Calls Try.prog 24 #[.pointer (some ⟨r, 0, none⟩), .int .i64 i] w fun e w' => e = .returned (.tuple #[.int .i64 (qAt lr i), .bool (decide (lr ≠ []))]) ∧ Below w.heap.size w w' := by
  obtain ⟨gq, gr, ho, h1, h2, h3, h4, h5, h6⟩ := h
  exact refAt_any r gr lr i w h2 (by omega) hi0 hi1
theorem twoAll (w : World) (q r : Nat) (own : Nat → Prop) (lq lr : List Int) (h : Two w q r own lq lr) (hl : lq.length ≤ 900000) :
    Calls Try.prog 27 #[.pointer (some ⟨q, 0, none⟩)] w (RetRow w 3 1 lq.length (lq.map (Value.int .i64))) := by
  obtain ⟨gq, gr, ho, h1, h2, h3, h4, h5, h6⟩ := h
  exact all_any q gq lq w h1 (by omega)
theorem twoLen (w : World) (q r : Nat) (own : Nat → Prop) (lq lr : List Int) (h : Two w q r own lq lr) (hl : lq.length ≤ 900000) :
    Calls Try.prog 21 #[.pointer (some ⟨q, 0, none⟩)] w fun e w' => e = .returned (.int .i64 lq.length) ∧ Below w.heap.size w w' := by
  obtain ⟨gq, gr, ho, h1, h2, h3, h4, h5, h6⟩ := h
  exact len_any q gq lq w h1 (by omega)
theorem Two.row {w : World} {q r : Nat} {own : Nat → Prop} {lq lr : List Int} (h : Two w q r own lq lr) : ∃ ao cap, w.cell? ⟨r, 0, none⟩ = some (.slice ao lr.length cap) ∧ RowAt w ao (lr.map (Value.int .i64)) ∧ r < w.heap.size := by
  obtain ⟨gq, gr, ho, h1, ⟨ao, cap, hr, ho2, _⟩, h3, h4, h5, h6⟩ := h
  exact ⟨ao, cap, by have := block_cell hr 0; simpa using this, owns_row ho2, block_lt hr⟩
theorem two_new (w : World) : Two ((w.alloc (.cells #[.slice none 0 0, .string ⟨#[]⟩] 74)).alloc (.cells #[.slice none 0 0] 43)) w.heap.size (w.heap.size + 1) (fun k => k = w.heap.size ∨ k = w.heap.size + 1 ∨ none = some k ∨ none = some k) [] [] := by
  refine ⟨none, none, fun k => Iff.rfl, (newQ_at w).below (bnew (brefl _) _), ⟨none, 0, ?_, World.ownsRow_nil _ _ _ _, rfl, by simp⟩, by omega, by simp, by simp, by simp⟩
  have h := heap_alloc_new (w.alloc (.cells #[.slice none 0 0, .string ⟨#[]⟩] 74)) (.cells #[.slice none 0 0] 43)
  simpa using h
end Go.Proofs.Ytjjfemhpdhkolaa
