/-
  How the law's arguments are opened: a slice of structs of whole numbers as a row of its cells.
-/
import Derived.Test.YtjjfemhpdhkolaaOpen
import Derived.Deep.Slices
import Derived.Deep.Fields
import Derived.ChangeSame
namespace Go.Proofs.Ytjjfemhpdhkolaa
open Go.ChangeShapes Go.WideShapes Go.Deep Go.RowKit
set_option linter.unusedVariables false

theorem spot_none {w : World} {b o : Nat} {sp : Option Nat} {v : Value} (h : w.cell? ⟨b, o, sp⟩ = some v) : sp = none := by
  unfold World.cell? at h
  cases sp with
  | none => rfl
  | some s => split at h <;> simp at h

/-- The cells of a table of numbers, row by row. -/
def tabCells (F : Nat → Nat → Int) (n k : Nat) : List Value := (List.range n).flatMap fun i => (List.range k).map fun j => Value.int .i64 (F i j)

theorem length_tab (F : Nat → Nat → Int) (n k : Nat) : (tabCells F n k).length = n * k := by
  induction n with
  | zero => simp [tabCells]
  | succ n ih =>
    have e : tabCells F (n + 1) k = tabCells F n k ++ (List.range k).map fun j => Value.int .i64 (F n j) := by simp [tabCells, List.range_succ]
    rw [e, List.length_append, ih, List.length_map, List.length_range, Nat.add_mul, Nat.one_mul]

theorem tabCells_get (F : Nat → Nat → Int) (k : Nat) : ∀ (n : Nat) (p : Nat) (u : Value), (tabCells F n k)[p]? = some u → ∃ i j, i < n ∧ j < k ∧ p = i * k + j ∧ u = .int .i64 (F i j) := by
  intro n
  induction n with
  | zero => intro p u h; simp [tabCells] at h
  | succ n ih =>
    intro p u h
    have e : tabCells F (n + 1) k = tabCells F n k ++ (List.range k).map fun j => Value.int .i64 (F n j) := by simp [tabCells, List.range_succ]
    have hl := length_tab F n k
    rw [e] at h
    by_cases hp : p < n * k
    · rw [List.getElem?_append_left (by omega)] at h
      obtain ⟨i, j, h1, h2⟩ := ih p u h
      exact ⟨i, j, by omega, h2⟩
    · rw [List.getElem?_append_right (by omega), hl, List.getElem?_map] at h
      by_cases hj : p - n * k < k
      · rw [List.getElem?_range hj] at h
        simp at h
        exact ⟨n, p - n * k, by omega, hj, by omega, h.symm⟩
      · rw [List.getElem?_eq_none (by simp; omega)] at h
        simp at h

theorem opened_recs {H : Type} {enc : TypeId × Value → H} {P : Program} {w : World} {base : Nat} {spare : Nat → Bool} {held : Bool} {t e : TypeId} {fs : Array Field} {a : Option Addr} {n cap : Nat} {d : DataW H} {p : List MemPlace}
    (ht : P.underlying t = some (.slice e)) (he : P.underlying e = some (.struct fs)) (hone : oneCellFields P fs = true) (hC : P.cellsOf e = fs.size) (hpos : 0 < fs.size)
    (hint : ∀ (j : Nat) (f : Field), fs[j]? = some f → P.underlying f.type = some (.int .i64)) (h : DataW.Trod enc P w base spare held t (.slice a n cap) d p) :
    ∃ F : Nat → Nat → Int, RowAt w a (tabCells F n fs.size) ∧ (∀ i j, i < n → j < fs.size → (Lit.int .i64 (F i j)).wf = true) ∧ n ≤ cap ∧ cap ≤ maxLen := by
  obtain ⟨fuel, hf⟩ := h
  rcases open_slice ht hf with ⟨hcs, _⟩ | ⟨x, l, c, m, k, D, Pl, hcs, _, hl, hm, hmm, _, hi⟩
  · simp [Value.cells] at hcs
    obtain ⟨rfl, rfl, rfl⟩ := hcs
    exact ⟨fun _ _ => 0, .inl (by simp [tabCells]), fun i j h => absurd h (by omega), Nat.le_refl _, Nat.zero_le _⟩
  · simp [Value.cells] at hcs
    obtain ⟨rfl, rfl, rfl⟩ := hcs
    have hmn : n ≤ m := by rw [hmm]; split <;> omega
    have key : ∀ i j, i < n → j < fs.size → ∃ z, w.cell? (x.add (i * fs.size + j)) = some (.int .i64 z) ∧ (Lit.int .i64 z).wf = true := by
      intro i j hin hj
      obtain ⟨cs', hc, ht'⟩ := hi i (by omega)
      rw [hC] at hc
      obtain ⟨ys, n', hn', hy, hlen, hyl⟩ := DataW.trod_struct he ht'
      obtain ⟨hyl, hfld⟩ := hyl
      obtain ⟨_, hcl, hat⟩ := World.cells?_some hc
      have hfj : fs[j]? = some (fs[j]) := Array.getElem?_eq_getElem hj
      obtain ⟨ho, hk⟩ := hone_of hone j _ hfj
      have h1 := hfld j _ hfj
      rw [ho, hk] at h1
      have hv : cs'[j]? = some (cs'[j]'(by omega)) := List.getElem?_eq_getElem (by omega)
      have hone' : (cs'.drop j).take 1 = [cs'[j]'(by omega)] := by
        rw [List.drop_eq_getElem_cons (by omega)]
        rfl
      rw [hone', List.getElem?_eq_getElem (by omega)] at h1
      obtain ⟨z, hz, _, hwf⟩ := DataW.trod_int (hint j _ hfj) h1
      refine ⟨z, ?_, hwf⟩
      have hcell := hat j hj
      rw [← Go.Deep.add_add, hcell, hv]
      simpa using hz
    obtain ⟨F, hF⟩ : ∃ F : Nat → Nat → Int, ∀ i j, i < n → j < fs.size → w.cell? (x.add (i * fs.size + j)) = some (.int .i64 (F i j)) ∧ (Lit.int .i64 (F i j)).wf = true :=
      ⟨fun i j => if h : i < n ∧ j < fs.size then Classical.choose (key i j h.1 h.2) else 0, fun i j h1 h2 => by dsimp only; rw [dif_pos ⟨h1, h2⟩]; exact Classical.choose_spec (key i j h1 h2)⟩
    refine ⟨F, ?_, fun i j h1 h2 => (hF i j h1 h2).2, hl, hm⟩
    by_cases h0 : n = 0
    · subst h0
      exact .inl (by simp [tabCells])
    · obtain ⟨b, o, sp⟩ := x
      have hz0 := (hF 0 0 (by omega) hpos).1
      have hx0 : (⟨b, o, sp⟩ : Addr).add (0 * fs.size + 0) = ⟨b, o, sp⟩ := by simp [Addr.add]
      rw [hx0] at hz0
      obtain rfl := spot_none hz0
      refine .inr ⟨b, o, rfl, fun q u hq => ?_⟩
      obtain ⟨i, j, hin, hj, rfl, rfl⟩ := tabCells_get _ _ _ _ _ hq
      have := (hF i j hin hj).1
      rw [Addr.add_lit] at this
      exact this
end Go.Proofs.Ytjjfemhpdhkolaa
