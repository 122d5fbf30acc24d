/-
  How the law's arguments are opened: a slice of integers as a row of its elements.
-/
import Derived.Test.YtoflhfiegfhkoaaDoorLib
import Derived.ProofKit
import Derived.OpenShut
namespace Go.Proofs.YtoflhfiegfhkoaaDoor
open Go.ChangeShapes Go.WideShapes Go.ChangeAt Go.RowKit

theorem opened_ints {H : Type} {enc : TypeId × Value → H} {P : Program} {w : World} {base : Nat} {spare : Nat → Bool} {held : Bool} {t e : TypeId} {k : IntKind} {a : Option Addr} {n cap : Nat} {d : DataW H} {p : List MemPlace}
    (ht : P.underlying t = some (.slice e)) (he : P.underlying e = some (.int k)) (hc : P.cellsOf e = 1) (h : DataW.Trod enc P w base spare held t (.slice a n cap) d p) :
    ∃ zs : List Int, RowAt w a (zs.map (Value.int k)) ∧ zs.length = n ∧ (∀ z ∈ zs, (Lit.int k z).wf = true) ∧ n ≤ cap ∧ cap ≤ maxLen := by
  obtain ⟨fuel, hf⟩ := h
  rcases open_ints ht he hc hf with ⟨hcs, _⟩ | ⟨x, l, c, zs, hcs, _, hl, hm, hz, _, hcell, hwz⟩
  · simp [Value.cells] at hcs
    obtain ⟨rfl, rfl, rfl⟩ := hcs
    exact ⟨[], .inl rfl, rfl, by simp, Nat.le_refl _, Nat.zero_le _⟩
  · simp [Value.cells] at hcs
    obtain ⟨rfl, rfl, rfl⟩ := hcs
    have hl' : n ≤ zs.length := by rw [hz]; split <;> omega
    refine ⟨zs.take n, ?_, by simp [hl'], fun z hzm => hwz z (List.mem_of_mem_take hzm), hl, hm⟩
    by_cases h0 : n = 0
    · subst h0
      exact .inl (by simp)
    · have h00 := hcell 0 (by omega)
      obtain ⟨b, o, sp⟩ := x
      have hsp : sp = none := by
        have hx : (⟨b, o, sp⟩ : Addr).add 0 = ⟨b, o, sp⟩ := by simp [Addr.add]
        rw [hx] at h00
        unfold World.cell? at h00
        cases sp with
        | none => rfl
        | some s => split at h00 <;> simp at h00
      subst hsp
      refine .inr ⟨b, o, rfl, fun j u hj => ?_⟩
      simp only [List.getElem?_map, List.getElem?_take] at hj
      split at hj
      · rename_i hjn
        have := hcell j (by omega)
        rw [Addr.add_lit] at this
        rw [this]
        rw [List.getElem?_eq_getElem (by omega)] at hj
        simp at hj
        subst hj
        rw [List.getD_eq_getElem?_getD, List.getElem?_eq_getElem (by omega)]
        rfl
      · simp at hj
end Go.Proofs.YtoflhfiegfhkoaaDoor
