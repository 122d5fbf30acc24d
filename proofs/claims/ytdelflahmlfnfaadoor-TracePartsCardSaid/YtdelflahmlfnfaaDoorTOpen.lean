/-
  How the law's arguments are opened: a slice of events.
-/
import Derived.Test.YtdelflahmlfnfaaDoorTText2
import Derived.Deep.Slices
import Derived.Deep.Fields
import Derived.ChangeSame
namespace Go.Proofs.YtdelflahmlfnfaaDoor
open Go.ChangeShapes Go.WideShapes Go.Deep Go.RowKit
set_option linter.unusedVariables false

theorem spot_none {w : World} {b o : Nat} {sp : Option Nat} {v : Value} (h : w.cell? ⟨b, o, sp⟩ = some v) : sp = none := by
  unfold World.cell? at h
  cases sp with
  | none => rfl
  | some s => split at h <;> simp at h

theorem evsCells_inv : ∀ (l : List Ev) (p : Nat) (u : Value), (evsCells l)[p]? = some u → ∃ i t x, l[i]? = some x ∧ t < 4 ∧ p = i * 4 + t ∧ (evCells x)[t]? = some u := by
  intro l
  induction l with
  | nil => intro p u h; simp [evsCells] at h
  | cons a l ih =>
    intro p u h
    have e : evsCells (a :: l) = evCells a ++ evsCells l := by simp [evsCells]
    rw [e] at h
    have hl : (evCells a).length = 4 := rfl
    by_cases hp : p < 4
    · rw [List.getElem?_append_left (by omega)] at h
      exact ⟨0, p, a, rfl, hp, by omega, h⟩
    · rw [List.getElem?_append_right (by omega), hl] at h
      obtain ⟨i, t, x, h1, h2, h3, h4⟩ := ih _ _ h
      exact ⟨i + 1, t, x, by simpa using h1, h2, by omega, h4⟩

theorem list4 (l : List Value) (h : l.length = 4) : ∃ a b c d, l = [a, b, c, d] := by
  match l, h with
  | [a, b, c, d], _ => exact ⟨a, b, c, d, rfl⟩

set_option maxRecDepth 100000 in
theorem opened_t28 {H : Type} {enc : TypeId × Value → H} {w : World} {base : Nat} {spare : Nat → Bool} {held : Bool} {a : Option Addr} {n cap : Nat} {d : DataW H} {p : List MemPlace}
    (h : DataW.Trod enc Tryd.prog w base spare held 22 (.slice a n cap) d p) :
    ∃ l : List Ev, RowAt w a (evsCells l) ∧ l.length = n ∧ (∀ x ∈ l, evOk x) ∧ n ≤ cap ∧ cap ≤ maxLen := by
  obtain ⟨fuel, hf⟩ := h
  rcases open_slice Tryd.underlying22 hf with ⟨hcs, _⟩ | ⟨x, l, c, m, k, D, Pl, hcs, _, hl, hm, hmm, _, hi⟩
  · simp [Value.cells] at hcs
    obtain ⟨rfl, rfl, rfl⟩ := hcs
    exact ⟨[], .inl rfl, rfl, by simp, Nat.le_refl _, Nat.zero_le _⟩
  · simp [Value.cells] at hcs
    obtain ⟨rfl, rfl, rfl⟩ := hcs
    have hmn : n ≤ m := by rw [hmm]; split <;> omega
    have hC : Tryd.prog.cellsOf 28 = 4 := by kernel_rfl
    have key : ∀ i, i < n → ∃ v : Ev, evOk v ∧ ∀ t u, (evCells v)[t]? = some u → w.cell? (x.add (i * 4 + t)) = some u := by
      intro i hin
      obtain ⟨cs', hc, ht'⟩ := hi i (by omega)
      rw [hC] at hc
      obtain ⟨ys, n', hn', hy, hlen, hyl, hfld⟩ := DataW.trod_struct Tryd.underlying28 ht'
      obtain ⟨_, hcl, hat⟩ := World.cells?_some hc
      have one : ∀ j (hj : j < 4), w.cell? (x.add (i * 4 + j)) = some (cs'[j]'(by omega)) := fun j hj => by
        have hcell := hat j hj
        rw [← Go.Deep.add_add, hcell]
        exact List.getElem?_eq_getElem (by omega)
      have hi1 : Tryd.prog.cellsOf 3 = 1 := by kernel_rfl
      have hb1 : Tryd.prog.cellsOf 4 = 1 := by kernel_rfl
      obtain ⟨v0, v1, v2, v3, rfl⟩ : ∃ v0 v1 v2 v3, cs' = [v0, v1, v2, v3] := list4 cs' hcl
      obtain ⟨y0, hy0⟩ : ∃ y, ys[0]? = some y := ⟨_, List.getElem?_eq_getElem (by rw [hyl]; decide)⟩
      obtain ⟨y1, hy1⟩ : ∃ y, ys[1]? = some y := ⟨_, List.getElem?_eq_getElem (by rw [hyl]; decide)⟩
      obtain ⟨y2, hy2⟩ : ∃ y, ys[2]? = some y := ⟨_, List.getElem?_eq_getElem (by rw [hyl]; decide)⟩
      obtain ⟨y3, hy3⟩ : ∃ y, ys[3]? = some y := ⟨_, List.getElem?_eq_getElem (by rw [hyl]; decide)⟩
      have h0 := hfld 0 _ rfl
      have h1 := hfld 1 _ rfl
      have h2 := hfld 2 _ rfl
      have h3 := hfld 3 _ rfl
      rw [hy0] at h0
      rw [hy1] at h1
      rw [hy2] at h2
      rw [hy3] at h3
      simp [hi1] at h0 h1 h2
      simp [hb1] at h3
      obtain ⟨z0, e0, _, f0⟩ := DataW.trod_int Tryd.underlying3 h0
      obtain ⟨z1, e1, _, f1⟩ := DataW.trod_int Tryd.underlying3 h1
      obtain ⟨z2, e2, _, f2⟩ := DataW.trod_int Tryd.underlying3 h2
      obtain ⟨z3, e3, _⟩ := DataW.trod_bool Tryd.underlying4 h3
      simp at e0 e1 e2 e3
      subst e0 e1 e2 e3
      refine ⟨⟨z0, z1, z2, z3⟩, ⟨bounds_i64 f1, bounds_i64 f2⟩, fun t u hu => ?_⟩
      have ht4 : t < 4 := by have := (List.getElem?_eq_some_iff.1 hu).1; simpa [evCells] using this
      rw [one t ht4]
      match t, ht4 with
      | 0, _ => simpa [evCells] using hu
      | 1, _ => simpa [evCells] using hu
      | 2, _ => simpa [evCells] using hu
      | 3, _ => simpa [evCells] using hu
    obtain ⟨F, hF⟩ : ∃ F : Nat → Ev, ∀ i, i < n → evOk (F i) ∧ ∀ t u, (evCells (F i))[t]? = some u → w.cell? (x.add (i * 4 + t)) = some u :=
      ⟨fun i => if h : i < n then Classical.choose (key i h) else ⟨0, 0, 0, false⟩, fun i h => by dsimp only; rw [dif_pos h]; exact Classical.choose_spec (key i h)⟩
    have hlen : ((List.range n).map F).length = n := by simp
    have hgt : ∀ i v, ((List.range n).map F)[i]? = some v → i < n ∧ v = F i := by
      intro i v hv
      have hin : i < n := by have := (List.getElem?_eq_some_iff.1 hv).1; simpa using this
      rw [List.getElem?_map, List.getElem?_range hin] at hv
      simp at hv
      exact ⟨hin, hv.symm⟩
    refine ⟨(List.range n).map F, ?_, hlen, ?_, hl, hm⟩
    · by_cases h0 : n = 0
      · subst h0
        exact .inl rfl
      · obtain ⟨b, o, sp⟩ := x
        have hz0 := (hF 0 (by omega)).2 0 _ rfl
        have hx0 : (⟨b, o, sp⟩ : Addr).add (0 * 4 + 0) = ⟨b, o, sp⟩ := by simp [Addr.add]
        rw [hx0] at hz0
        obtain rfl := spot_none hz0
        refine .inr ⟨b, o, rfl, fun p u hp => ?_⟩
        obtain ⟨i, t, v, h1, h2, rfl, h4⟩ := evsCells_inv _ _ _ hp
        obtain ⟨hin, rfl⟩ := hgt i v h1
        have := (hF i hin).2 t u h4
        rw [Addr.add_lit] at this
        exact this
    · intro v hv
      obtain ⟨i, hi2⟩ := List.getElem?_of_mem hv
      obtain ⟨hin, rfl⟩ := hgt i v hi2
      exact (hF i hin).1
end Go.Proofs.YtdelflahmlfnfaaDoor
