/-
  A clock, the reference's clock, and the blocks that are theirs.
-/
import Derived.Test.YtjjfemhpdhkolaaCSpec
namespace Go.Proofs.Ytjjfemhpdhkolaa
open Go.RowKit
set_option linter.unusedVariables false

/-- A clock at q that holds l, in blocks of P alone. -/
def CIn (w : World) (q : Nat) (P : Nat → Prop) (l : List CE) : Prop :=
  ∃ g, CAt w q g l ∧ (∀ k, (k = q ∨ g = some k) → P k) ∧ ∀ k, P k → k < w.heap.size
/-- The reference's, at r. -/
def KIn (w : World) (r : Nat) (P : Nat → Prop) (l : List CE) : Prop :=
  ∃ ao c bo d, w.heap[r]? = some (.cells #[.slice ao l.length c, .slice bo l.length d] 63 (0, 0)) ∧ w.ownsRow 0 3 1 (.slice ao l.length c) l.length ((l.map (·.1)).map (Value.int .i64)) ∧
    w.ownsRow 0 3 1 (.slice bo l.length d) l.length ((l.map (·.2)).map (Value.int .i64)) ∧
    (∀ k, (k = r ∨ (Value.slice ao l.length c).ownBlock = some k ∨ (Value.slice bo l.length d).ownBlock = some k) → P k) ∧ (∀ k, P k → k < w.heap.size) ∧ (Value.slice ao l.length c).ownBlock ≠ some r ∧ (Value.slice bo l.length d).ownBlock ≠ some r

theorem CIn.keep {S P : Nat → Prop} {w w' : World} {q : Nat} {l : List CE} (h : CIn w q P l) (hk : Keep S w w') (hs : ∀ k, P k → ¬ S k) : CIn w' q P l := by
  obtain ⟨g, h1, h2, h3⟩ := h
  exact ⟨g, h1.keep hk (hs _ (h2 _ (.inl rfl))) (fun k e => hs _ (h2 _ (.inr e))), h2, fun k hp => Nat.lt_of_lt_of_le (h3 k hp) hk.size⟩
theorem KIn.keep {S P : Nat → Prop} {w w' : World} {r : Nat} {l : List CE} (h : KIn w r P l) (hk : Keep S w w') (hs : ∀ k, P k → ¬ S k) : KIn w' r P l := by
  obtain ⟨ao, c, bo, d, h1, h2, h3, h4, h5, h6, h7⟩ := h
  have hr := h4 r (.inl rfl)
  exact ⟨ao, c, bo, d, (hk.block r (h5 r hr) (hs r hr)).trans h1, owns_keep h2 hk (fun k e => hs _ (h4 _ (.inr (.inl e)))), owns_keep h3 hk (fun k e => hs _ (h4 _ (.inr (.inr e)))), h4, fun k hp => Nat.lt_of_lt_of_le (h5 k hp) hk.size, h6, h7⟩
theorem CIn.below {P : Nat → Prop} {w w' : World} {q : Nat} {l : List CE} (h : CIn w q P l) (hb : Below w.heap.size w w') : CIn w' q P l := h.keep (S := fun _ => False) (.of_below hb) (fun _ _ h => h)
theorem KIn.below {P : Nat → Prop} {w w' : World} {q : Nat} {l : List CE} (h : KIn w q P l) (hb : Below w.heap.size w w') : KIn w' q P l := h.keep (S := fun _ => False) (.of_below hb) (fun _ _ h => h)

/-- What an operation leaves that answers v: a thing's blocks may be others, all else is kept. -/
def OPost (T : World → (Nat → Prop) → Prop) (w : World) (P : Nat → Prop) (R : World → Value → Prop) (e : Ending) (w' : World) : Prop :=
  ∃ v, e = .returned v ∧ R w' v ∧ ∃ P', T w' P' ∧ Keep P w w' ∧ ∀ k, P' k → P k ∨ w.heap.size ≤ k

/-- Both, side by side. -/
def CK (w : World) (q r : Nat) (P : Nat → Prop) (l m : List CE) : Prop :=
  ∃ Q R, CIn w q Q l ∧ KIn w r R m ∧ (∀ k, Q k → ¬ R k) ∧ ∀ k, P k ↔ (Q k ∨ R k)

theorem CK.lt {w : World} {q r : Nat} {P : Nat → Prop} {l m : List CE} (h : CK w q r P l m) : ∀ k, P k → k < w.heap.size := by
  obtain ⟨Q, R, ⟨g, _, _, h1⟩, ⟨_, _, _, _, _, _, _, _, h2, _⟩, _, h3⟩ := h
  intro k hk
  rcases (h3 k).1 hk with h | h
  · exact h1 k h
  · exact h2 k h
theorem CK.keep {S P : Nat → Prop} {w w' : World} {q r : Nat} {l m : List CE} (h : CK w q r P l m) (hk : Keep S w w') (hs : ∀ k, P k → ¬ S k) : CK w' q r P l m := by
  obtain ⟨Q, R, h1, h2, h3, h4⟩ := h
  exact ⟨Q, R, h1.keep hk (fun k hq => hs k ((h4 k).2 (.inl hq))), h2.keep hk (fun k hq => hs k ((h4 k).2 (.inr hq))), h3, h4⟩
theorem CK.below {P : Nat → Prop} {w w' : World} {q r : Nat} {l m : List CE} (h : CK w q r P l m) (hb : Below w.heap.size w w') : CK w' q r P l m := h.keep (S := fun _ => False) (.of_below hb) (fun _ _ h => h)

theorem ck_q {w w' : World} {q r : Nat} {Q R P : Nat → Prop} {l l' m : List CE} {A : World → Value → Prop} {e : Ending} (h2 : KIn w r R m) (h3 : ∀ k, Q k → ¬ R k) (h4 : ∀ k, P k ↔ (Q k ∨ R k))
    (h : OPost (fun w P => CIn w q P l') w Q A e w') : OPost (fun w P => CK w q r P l' m) w P A e w' := by
  obtain ⟨v, he, ha, Q', h5, hk, hn⟩ := h
  refine ⟨v, he, ha, fun k => Q' k ∨ R k, ⟨Q', R, h5, h2.keep hk (fun k hr hq => h3 k hq hr), fun k hq hr => ?_, fun k => Iff.rfl⟩, hk.mono (fun k _ hq => (h4 k).2 (.inl hq)), fun k hp => ?_⟩
  · rcases hn k hq with h | h
    · exact h3 k h hr
    · obtain ⟨_, _, _, _, _, _, _, _, hlt, _⟩ := h2
      have := hlt k hr
      omega
  · rcases hp with h | h
    · rcases hn k h with h | h
      · exact .inl ((h4 k).2 (.inl h))
      · exact .inr h
    · exact .inl ((h4 k).2 (.inr h))
theorem ck_r {w w' : World} {q r : Nat} {Q R P : Nat → Prop} {l m m' : List CE} {A : World → Value → Prop} {e : Ending} (h1 : CIn w q Q l) (h3 : ∀ k, Q k → ¬ R k) (h4 : ∀ k, P k ↔ (Q k ∨ R k))
    (h : OPost (fun w P => KIn w r P m') w R A e w') : OPost (fun w P => CK w q r P l m') w P A e w' := by
  obtain ⟨v, he, ha, R', h5, hk, hn⟩ := h
  refine ⟨v, he, ha, fun k => Q k ∨ R' k, ⟨Q, R', h1.keep hk (fun k hq hr => h3 k hq hr), h5, fun k hq hr => ?_, fun k => Iff.rfl⟩, hk.mono (fun k _ hq => (h4 k).2 (.inr hq)), fun k hp => ?_⟩
  · rcases hn k hr with h | h
    · exact h3 k hq h
    · obtain ⟨_, _, _, hlt⟩ := h1
      have := hlt k hq
      omega
  · rcases hp with h | h
    · exact .inl ((h4 k).2 (.inl h))
    · rcases hn k h with h | h
      · exact .inl ((h4 k).2 (.inr h))
      · exact .inr h

/-- The answer is a new row of numbers. -/
def RowAns (w : World) (xs : List Int) (w' : World) (v : Value) : Prop := ∃ ao c, v = .slice ao xs.length c ∧ w'.ownsRow w.heap.size 3 1 (.slice ao xs.length c) xs.length (xs.map (Value.int .i64))
end Go.Proofs.Ytjjfemhpdhkolaa
