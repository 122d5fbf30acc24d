/-
  The walk of the law QueueOnce.
-/
import Derived.Test.YtjjfemhpdhkolaaPlays
import Derived.Test.YtjjfemhpdhkolaaRound
namespace Go.Proofs.Ytjjfemhpdhkolaa
open Go.RowKit
set_option linter.unusedVariables false

/-! ### a nil queue -/
set_option maxRecDepth 100000 in
set_option maxHeartbeats 400000 in
theorem findNil (a : Int) (w : World) : Calls Try.prog 47 #[.pointer none, .int .i64 a] w fun e w' => e = .returned (.int .i64 (-1)) ∧ w = w' := by
  go_enter Try.func47, Try.ntmps47
  go_wp2
  go_ret
  exact ⟨rfl, rfl⟩
set_option maxRecDepth 100000 in
set_option maxHeartbeats 400000 in
theorem addNil (a : Int) (w : World) : Calls Try.prog 19 #[.pointer none, .int .i64 a] w fun e w' => e = .returned (.bool false) ∧ w = w' := by
  go_enter Try.func19, Try.ntmps19
  go_wp2
  go_ret
  exact ⟨rfl, rfl⟩
set_option maxRecDepth 100000 in
set_option maxHeartbeats 400000 in
theorem lenNil (w : World) : Calls Try.prog 21 #[.pointer none] w fun e w' => e = .returned (.int .i64 0) ∧ w = w' := by
  go_enter Try.func21, Try.ntmps21
  go_wp2
  go_ret
  exact ⟨rfl, rfl⟩
set_option maxRecDepth 100000 in
set_option maxHeartbeats 400000 in
theorem allNil (w : World) : Calls Try.prog 27 #[.pointer none] w fun e w' => e = .returned (.slice none 0 0) ∧ w = w' := by
  go_enter Try.func27, Try.ntmps27
  go_wp2
  go_ret
  exact ⟨rfl, rfl⟩
set_option maxRecDepth 100000 in
set_option maxHeartbeats 400000 in
theorem atNil (i : Int) (w : World) : Calls Try.prog 20 #[.pointer none, .int .i64 i] w fun e w' => e = .returned (.tuple #[.int .i64 0, .bool false]) ∧ w = w' := by
  go_enter Try.func20, Try.ntmps20
  go_wp2_with (go_at_call 21; refine (lenNil _).mono ?_; rintro e w1 ⟨rfl, rfl⟩)
  go_ret2
  exact ⟨rfl, rfl⟩
set_option maxRecDepth 100000 in
set_option maxHeartbeats 400000 in
theorem removeNil (i : Int) (w : World) : Calls Try.prog 22 #[.pointer none, .int .i64 i] w fun e w' => e = .returned (.bool false) ∧ w = w' := by
  go_enter Try.func22, Try.ntmps22
  go_wp2_with (go_at_call 47; refine (findNil _ _).mono ?_; rintro e w1 ⟨rfl, rfl⟩)
  go_ret
  exact ⟨rfl, rfl⟩

/-! ### a queue beside a slice of the call's own -/
def Wt (w : World) (q : Nat) (own : Nat → Prop) (l : List Int) (ao : Option Addr) (cap : Nat) (lw : List Int) : Prop :=
  ∃ g, (∀ k, own k ↔ (k = q ∨ g = some k ∨ (Value.slice ao lw.length cap).ownBlock = some k)) ∧ QAt w q g l ∧ w.ownsRow 0 3 1 (.slice ao lw.length cap) lw.length (lw.map (Value.int .i64)) ∧
    (Value.slice ao lw.length cap).ownBlock ≠ some q ∧ (∀ k, (Value.slice ao lw.length cap).ownBlock = some k → g ≠ some k)

theorem Wt.lt {w : World} {q : Nat} {own : Nat → Prop} {l lw : List Int} {ao : Option Addr} {cap : Nat} (h : Wt w q own l ao cap lw) : ∀ k, own k → k < w.heap.size := by
  obtain ⟨g, ho, h1, h2, h3, h4⟩ := h
  intro k hk
  rcases (ho k).1 hk with rfl | h | h
  · exact h1.lt
  · exact h1.glt k h
  · exact (h2.lt k h).2

theorem Wt.keep {S : Nat → Prop} {w w' : World} {q : Nat} {own : Nat → Prop} {l lw : List Int} {ao : Option Addr} {cap : Nat} (h : Wt w q own l ao cap lw) (hk : Keep S w w') (hs : ∀ k, own k → ¬ S k) : Wt w' q own l ao cap lw := by
  obtain ⟨g, ho, h1, h2, h3⟩ := h
  exact ⟨g, ho, h1.keep hk (hs _ ((ho _).2 (.inl rfl))) (fun k e => hs _ ((ho _).2 (.inr (.inl e)))), owns_keep h2 hk (fun k e => hs _ ((ho _).2 (.inr (.inr e)))), h3⟩
theorem Wt.below {w w' : World} {q : Nat} {own : Nat → Prop} {l lw : List Int} {ao : Option Addr} {cap : Nat} (h : Wt w q own l ao cap lw) (hb : Below w.heap.size w w') : Wt w' q own l ao cap lw :=
  h.keep (S := fun _ => False) (.of_below hb) (fun _ _ h => h)
theorem Wt.row {w : World} {q : Nat} {own : Nat → Prop} {l lw : List Int} {ao : Option Addr} {cap : Nat} (h : Wt w q own l ao cap lw) : RowAt w ao (lw.map (Value.int .i64)) ∧ lw.length ≤ cap := by
  obtain ⟨g, ho, h1, h2, h3⟩ := h
  obtain ⟨_, _, hv, hr, hc, _⟩ := owns_open h2
  cases hv
  exact ⟨hr, hc⟩

theorem Wt.owns {w : World} {q : Nat} {own : Nat → Prop} {l lw : List Int} {ao : Option Addr} {cap : Nat} (h : Wt w q own l ao cap lw) : w.ownsRow 0 3 1 (.slice ao lw.length cap) lw.length (lw.map (Value.int .i64)) := by
  obtain ⟨g, ho, h1, h2, h3⟩ := h
  exact h2

/-- What an operation on the queue leaves. -/
def WPost (w : World) (q : Nat) (own : Nat → Prop) (v : Value) (l : List Int) (ao : Option Addr) (cap : Nat) (lw : List Int) (e : Ending) (w' : World) : Prop :=
  e = .returned v ∧ ∃ own', Wt w' q own' l ao cap lw ∧ Keep own w w' ∧ (∀ k, own' k → own k ∨ w.heap.size ≤ k)

theorem wt_q {w w' : World} {q : Nat} {own : Nat → Prop} {l' lw : List Int} {ao : Option Addr} {cap : Nat} {g : Option Nat} {v : Value} {e : Ending} (ho : ∀ k, own k ↔ (k = q ∨ g = some k ∨ (Value.slice ao lw.length cap).ownBlock = some k)) (h2 : w.ownsRow 0 3 1 (.slice ao lw.length cap) lw.length (lw.map (Value.int .i64)))
    (h3 : (Value.slice ao lw.length cap).ownBlock ≠ some q) (h4 : ∀ k, (Value.slice ao lw.length cap).ownBlock = some k → g ≠ some k) (h : QPost w q g v l' e w') : WPost w q own v l' ao cap lw e w' := by
  obtain ⟨he, g', a1, a2, a3⟩ := h
  refine ⟨he, fun k => k = q ∨ g' = some k ∨ (Value.slice ao lw.length cap).ownBlock = some k, ⟨g', fun k => Iff.rfl, a1, owns_keep h2 a2 ?_, h3, ?_⟩, a2.mono ?_, ?_⟩
  · rintro k hk (rfl | h)
    · exact h3 hk
    · exact h4 k hk h
  · intro k hk hk2
    have := (h2.lt k hk).2
    rcases a3 k hk2 with h | h
    · exact h4 k hk h
    · omega
  · rintro k _ (h | h)
    · exact (ho k).2 (.inl h)
    · exact (ho k).2 (.inr (.inl h))
  · rintro k (h | h | h)
    · exact .inl ((ho k).2 (.inl h))
    · rcases a3 k h with h | h
      · exact .inl ((ho k).2 (.inr (.inl h)))
      · exact .inr h
    · exact .inl ((ho k).2 (.inr (.inr h)))

theorem wtAdd (w : World) (q : Nat) (own : Nat → Prop) (l lw : List Int) (ao : Option Addr) (cap : Nat) (a : Int) (h : Wt w q own l ao cap lw) (hl : l.length ≤ 900000) :
    Calls Try.prog 19 #[.pointer (some ⟨q, 0, none⟩), .int .i64 a] w (WPost w q own (.bool (decide (a ∉ l))) (qAdd l a) ao cap lw) := by
  obtain ⟨g, ho, h1, h2, h3, h4⟩ := h
  exact (add_any q g l a w h1 hl).mono fun e w' h => wt_q ho h2 h3 h4 h
theorem wtRem (w : World) (q : Nat) (own : Nat → Prop) (l lw : List Int) (ao : Option Addr) (cap : Nat) (a : Int) (h : Wt w q own l ao cap lw) (hl : l.length ≤ 900000) :
    Calls Try.prog 22 #[.pointer (some ⟨q, 0, none⟩), .int .i64 a] w (WPost w q own (.bool (decide (a ∈ l))) (l.erase a) ao cap lw) := by
  obtain ⟨g, ho, h1, h2, h3, h4⟩ := h
  exact (remove_any q g l a w h1 hl).mono fun e w' h => wt_q ho h2 h3 h4 h
theorem wtAt (w : World) (q : Nat) (own : Nat → Prop) (l lw : List Int) (ao : Option Addr) (cap : Nat) (i : Int) (h : Wt w q own l ao cap lw) (hl : l.length ≤ 900000) (hi0 : -9223372036854775808 ≤ i) (hi1 : i ≤ 9223372036854775807) :
    Calls Try.prog 20 #[.pointer (some ⟨q, 0, none⟩), .int .i64 i] w fun e w' => e = .returned (.tuple #[.int .i64 (qAt l i), .bool (decide (l ≠ []))]) ∧ Below w.heap.size w w' := by
  obtain ⟨g, ho, h1, h2, h3, h4⟩ := h
  exact at_any q g l i w h1 (by omega) hi0 hi1
theorem wtAll (w : World) (q : Nat) (own : Nat → Prop) (l lw : List Int) (ao : Option Addr) (cap : Nat) (h : Wt w q own l ao cap lw) (hl : l.length ≤ 900000) :
    Calls Try.prog 27 #[.pointer (some ⟨q, 0, none⟩)] w (RetRow w 3 1 l.length (l.map (Value.int .i64))) := by
  obtain ⟨g, ho, h1, h2, h3, h4⟩ := h
  exact all_any q g l w h1 (by omega)

/-- The slice is another one: appended to, or new. -/
theorem Wt.other {w w' : World} {q : Nat} {own : Nat → Prop} {l lw lw' : List Int} {ao ao' : Option Addr} {cap cap' : Nat} (h : Wt w q own l ao cap lw) (ho : w'.ownsRow 0 3 1 (.slice ao' lw'.length cap') lw'.length (lw'.map (Value.int .i64)))
    (hk : Keep (fun k => (Value.slice ao lw.length cap).ownBlock = some k) w w') (hb : ∀ k, (Value.slice ao' lw'.length cap').ownBlock = some k → (Value.slice ao lw.length cap).ownBlock = some k ∨ w.heap.size ≤ k) :
    ∃ own', Wt w' q own' l ao' cap' lw' ∧ Keep own w w' ∧ (∀ k, own' k → own k ∨ w.heap.size ≤ k) := by
  obtain ⟨g, h0, h1, h2, h3, h4⟩ := h
  refine ⟨fun k => k = q ∨ g = some k ∨ (Value.slice ao' lw'.length cap').ownBlock = some k, ⟨g, fun k => Iff.rfl, h1.keep hk (fun h => h3 h) (fun k hk h => h4 k h hk), ho, ?_, ?_⟩, hk.mono (fun k _ h => (h0 k).2 (.inr (.inr h))), ?_⟩
  · intro e
    rcases hb q e with h | h
    · exact h3 h
    · have := h1.lt; omega
  · intro k e hg
    rcases hb k e with h | h
    · exact h4 k h hg
    · have := h1.glt k hg; omega
  · rintro k (h | h | h)
    · exact .inl ((h0 k).2 (.inl h))
    · exact .inl ((h0 k).2 (.inr (.inl h)))
    · rcases hb k h with h | h
      · exact .inl ((h0 k).2 (.inr (.inr h)))
      · exact .inr h

theorem wt_new (w : World) : Wt (w.alloc (.cells #[.slice none 0 0, .string ⟨#[]⟩] 74)) w.heap.size (fun k => k = w.heap.size ∨ none = some k ∨ none = some k) [] none 0 [] :=
  ⟨none, fun k => Iff.rfl, newQ_at w, World.ownsRow_nil _ _ _ _, by simp [Value.ownBlock], by simp [Value.ownBlock]⟩

/-! ### plain facts -/
theorem nodup_qAdd {l : List Int} (h : l.Nodup) (a : Int) : (qAdd l a).Nodup := by
  unfold qAdd
  split
  · exact h
  · rename_i hn
    rw [List.nodup_append]
    exact ⟨h, by simp, by rintro x hx y hy e; simp at hy; subst hy; subst e; exact hn hx⟩
theorem erase_nodup {l : List Int} (h : l.Nodup) {k : Nat} {x : Int} (hx : l[k]? = some x) : l.erase x = l.take k ++ l.drop (k + 1) ∧ x ∉ l.take k ++ l.drop (k + 1) := by
  have hk : k < l.length := (List.getElem?_eq_some_iff.1 hx).1
  have hxe : l[k] = x := (List.getElem?_eq_some_iff.1 hx).2
  have hsplit : l = l.take k ++ x :: l.drop (k + 1) := by rw [← hxe, ← List.drop_eq_getElem_cons hk, List.take_append_drop]
  have hn := h
  rw [hsplit] at hn
  rw [List.nodup_append] at hn
  obtain ⟨h1, h2, h3⟩ := hn
  have hnt : x ∉ l.take k := fun hm => h3 x hm x (by simp) rfl
  have hnd : x ∉ l.drop (k + 1) := (List.nodup_cons.1 h2).1
  refine ⟨?_, ?_⟩
  · have hm : x ∈ l := List.mem_of_getElem? hx
    rw [erase_at hm, (idx_found hnt hx).2]
  · simp only [List.mem_append, not_or]
    exact ⟨hnt, hnd⟩
end Go.Proofs.Ytjjfemhpdhkolaa
