/-
  Small facts on worlds, blocks and slices, used by all walks of this seat. No program is named here.
-/
import Derived.WalkKit
import Derived.WalkSpells
import Derived.WalkLawsBesides
import Derived.StillTailTactics
import Derived.Deep.QuietTactic
import Derived.BigQuiet
import Derived.BigRegion
import Derived.Deep.RegionHeld3
import Derived.Deep.RegionWith
import Derived.Deep.RegionLaw
import Derived.Deep.RegionLawGrows
import Derived.Deep.AppendLies
import Derived.Deep.DeepFit
namespace Go.Proofs.Ytjjfemhpdhkolaa
open Go.RowKit

theorem bcell {W w1 : World} (hb : Below W.heap.size W w1) : (∀ b o, b < W.heap.size → w1.cell? ⟨b, o, none⟩ = W.cell? ⟨b, o, none⟩) ∧ (∀ b o, b < W.heap.size → w1.frozen? ⟨b, o, none⟩ = W.frozen? ⟨b, o, none⟩) :=
  ⟨fun b o h => hb.cell (p := ⟨b, o, none⟩) h, fun b o h => hb.frozen (p := ⟨b, o, none⟩) h⟩

theorem hidP {p : Prop} (h : p) : Hid p := h

/-- What lies at a slice's address, cell by cell. -/
def RowAt (w : World) (ao : Option Addr) (xs : List Value) : Prop :=
  xs = [] ∨ ∃ b o, ao = some ⟨b, o, none⟩ ∧ ∀ j u, xs[j]? = some u → w.cell? ⟨b, o + j, none⟩ = some u

theorem RowAt.nil (w : World) (ao : Option Addr) : RowAt w ao [] := .inl rfl

theorem RowAt.some {w : World} {b o : Nat} {xs : List Value} (h : RowAt w (some ⟨b, o, none⟩) xs) : ∀ j u, xs[j]? = some u → w.cell? ⟨b, o + j, none⟩ = some u := by
  rcases h with h | ⟨b', o', h, hc⟩
  · intro j u hj; simp [h] at hj
  · cases h; exact hc

/-- Where there is an element there is an address. -/
theorem RowAt.addr {w : World} {ao : Option Addr} {xs : List Value} (h : RowAt w ao xs) (hl : 0 < xs.length) : ∃ b o, ao = Option.some ⟨b, o, none⟩ ∧ ∀ j u, xs[j]? = Option.some u → w.cell? ⟨b, o + j, none⟩ = Option.some u := by
  rcases h with h | h
  · simp [h] at hl
  · exact h

theorem RowAt.lt {w : World} {b o : Nat} {xs : List Value} (h : RowAt w (Option.some ⟨b, o, none⟩) xs) (hl : 0 < xs.length) : b < w.heap.size := by
  have := h.some 0 (xs[0]) (by simp [List.getElem?_eq_getElem hl])
  exact World.block_lt_of_cell? w ⟨b, o + 0, none⟩ this

/-- What was readable below is readable in a later world. -/
theorem RowAt.below {w w' : World} {ao : Option Addr} {xs : List Value} (h : RowAt w ao xs) (hb : Below w.heap.size w w') : RowAt w' ao xs := by
  rcases h with h | ⟨b, o, h, hc⟩
  · exact .inl h
  · refine .inr ⟨b, o, h, fun j u hj => ?_⟩
    have := hc j u hj
    rw [hb.cell (p := ⟨b, o + j, none⟩) (World.block_lt_of_cell? w _ this)]
    exact this

theorem RowAt.belowB {w0 w w' : World} {ao : Option Addr} {xs : List Value} (h : RowAt w0 ao xs) (hb : Below w0.heap.size w0 w) (hb' : Below w.heap.size w w') : RowAt w' ao xs := (h.below hb).below hb'

theorem RowAt.alloc {w : World} {ao : Option Addr} {xs : List Value} (h : RowAt w ao xs) (o : Obj) : RowAt (w.alloc o) ao xs :=
  h.below ((Below.refl _ _).alloc (Nat.le_refl _) o)

theorem RowAt.drew {w : World} {ao : Option Addr} {xs : List Value} (h : RowAt w ao xs) : RowAt w.drew ao xs := h

/-- The same with whatever is kept but one block. -/
theorem RowAt.keep {w w' : World} {ao : Option Addr} {xs : List Value} (h : RowAt w ao xs) (hb : ∀ b o, ao = Option.some ⟨b, o, none⟩ → w'.heap[b]? = w.heap[b]?) : RowAt w' ao xs := by
  rcases h with h | ⟨b, o, h, hc⟩
  · exact .inl h
  · exact .inr ⟨b, o, h, fun j u hj => by rw [World.cell?_of_block (w := w) (hb b o h)]; exact hc j u hj⟩

/-- A prefix reads as a prefix. -/
theorem RowAt.take {w : World} {ao : Option Addr} {xs : List Value} (h : RowAt w ao xs) (k : Nat) : RowAt w ao (xs.take k) := by
  rcases h with h | ⟨b, o, h, hc⟩
  · exact .inl (by simp [h])
  · refine .inr ⟨b, o, h, fun j u hj => ?_⟩
    rw [List.getElem?_take] at hj
    split at hj
    · exact hc j u hj
    · cases hj

/-- A block that was just laid reads as its cells. -/
theorem RowAt.new (w : World) (cs : List Value) (t : TypeId) : RowAt (w.alloc (.cells cs.toArray t)) (Option.some ⟨w.heap.size, 0, none⟩) cs := by
  refine .inr ⟨w.heap.size, 0, rfl, fun j u hj => ?_⟩
  rw [Nat.zero_add, cell_of_row _ _ j cs.toArray t (0, 0) (heap_alloc_new w _)]
  simpa using hj

/-- What an owned slice is, and reads as. -/
theorem owns_open {w : World} {base : Nat} {e : TypeId} {size : Nat} {v : Value} {n : Nat} {xs : List Value} (h : w.ownsRow base e size v n xs) :
    ∃ ao cap, v = .slice ao n cap ∧ RowAt w ao xs ∧ n ≤ cap ∧ cap ≤ maxLen ∧ (ao = none → n = 0 ∧ cap = 0) ∧ xs.length = n * size := by
  rcases h with ⟨hl, ⟨hv, hn⟩ | ⟨g, cap, cur, hv, hb, hg, h1, h2, h3, h4⟩⟩
  · subst hn
    exact ⟨none, 0, hv, .inl (List.eq_nil_of_length_eq_zero (by simpa using hl)), Nat.le_refl _, Nat.zero_le _, fun _ => ⟨rfl, rfl⟩, hl⟩
  · refine ⟨Option.some ⟨g, 0, none⟩, cap, hv, .inr ⟨g, 0, rfl, fun j u hj => ?_⟩, h1, h2, (fun h => by cases h), hl⟩
    rw [Nat.zero_add, cell_of_row w g j cur e (0, 0) hg]
    rw [← h4, List.getElem?_take] at hj
    split at hj
    · simpa using hj
    · cases hj

theorem owns_row {w : World} {base : Nat} {e : TypeId} {size : Nat} {ao : Option Addr} {m cap : Nat} {n : Nat} {xs : List Value} (h : w.ownsRow base e size (.slice ao m cap) n xs) : RowAt w ao xs := by
  obtain ⟨ao', cap', hv, hr, _⟩ := owns_open h
  cases hv
  exact hr

theorem owns_below {w w' : World} {base : Nat} {e : TypeId} {size : Nat} {v : Value} {n : Nat} {xs : List Value} (h : w.ownsRow base e size v n xs) (hb : Below w.heap.size w w') : w'.ownsRow base e size v n xs :=
  h.kept (row := none) ⟨hb.os, hb.tape, hb.output, hb.size, fun k hk _ => hb.block k hk⟩ (by cases v.ownBlock <;> simp)

theorem owns_mono {w : World} {base base' : Nat} {e : TypeId} {size : Nat} {v : Value} {n : Nat} {xs : List Value} (h : w.ownsRow base e size v n xs) (hb : base' ≤ base) : w.ownsRow base' e size v n xs := by
  refine ⟨h.1, ?_⟩
  rcases h.2 with h | ⟨g, cap, cur, h1, h2, h3⟩
  · exact .inl h
  · exact .inr ⟨g, cap, cur, h1, Nat.le_trans hb h2, h3⟩

theorem below_grown {w w' : World} {B : Nat} {row : Option Nat} (hg : w.grownBy w' row) (hB : B ≤ w.heap.size) (hr : ∀ k, row = some k → B ≤ k) : Below B w w' := (Below.refl B w).grown hg hB hr

theorem bstep {w a b : World} (h : Below w.heap.size w a) (h2 : Below a.heap.size a b) : Below w.heap.size w b := h.trans (h2.mono h.size)
theorem bnew {w a : World} (h : Below w.heap.size w a) (o : Obj) : Below w.heap.size w (a.alloc o) := h.alloc h.size o
theorem brefl (w : World) : Below w.heap.size w w := Below.refl _ _

theorem below_iter (w : World) (s : ByteArray) (k : Nat) : Below w.heap.size w (w.iter s k) := (Below.refl _ _).alloc (Nat.le_refl _) _

/-- The cells of a block that was just laid. -/
theorem cells_new (w : World) (cs : List Value) (t : TypeId) : ∀ j u, cs[j]? = some u → (w.alloc (.cells cs.toArray t)).cell? ((⟨w.heap.size, 0, none⟩ : Addr).add j) = some u := by
  intro j u hj
  have hadd : (⟨w.heap.size, 0, none⟩ : Addr).add j = ⟨w.heap.size, j, none⟩ := by unfold Addr.add; split <;> simp_all
  rw [hadd, cell_of_row _ _ j cs.toArray t (0, 0) (heap_alloc_new w _)]
  simpa using hj

/-- What a call that hands back a new slice leaves. -/
def RetRow (w : World) (e : TypeId) (size : Nat) (n : Nat) (xs : List Value) (en : Ending) (w' : World) : Prop :=
  ∃ ao cap, en = .returned (.slice ao n cap) ∧ w'.ownsRow w.heap.size e size (.slice ao n cap) n xs ∧ Below w.heap.size w w'

theorem retRow_mk {w w' : World} {e : TypeId} {size : Nat} {v : Value} {n : Nat} {xs : List Value} (h : w'.ownsRow w.heap.size e size v n xs) (hb : Below w.heap.size w w') : RetRow w e size n xs (.returned v) w' := by
  obtain ⟨ao, cap, rfl, _⟩ := owns_open h
  exact ⟨ao, cap, rfl, h, hb⟩

end Go.Proofs.Ytjjfemhpdhkolaa
