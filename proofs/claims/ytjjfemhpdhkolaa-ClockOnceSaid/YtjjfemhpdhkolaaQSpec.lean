/-
  The plain functions of a queue: no program, no memory.
-/
namespace Go.Proofs.Ytjjfemhpdhkolaa
set_option linter.unusedVariables false

/-- Which one a place is; -1: it is not there. -/
def idxI (l : List Int) (a : Int) : Int := if a ∈ l then (l.idxOf a : Int) else -1
def qAdd (l : List Int) (a : Int) : List Int := if a ∈ l then l else l ++ [a]
def qRem (l : List Int) (a : Int) : List Int := l.erase a
def qAt (l : List Int) (i : Int) : Int := if l = [] then 0 else l.getD ((if i < 0 then 0 else i).toNat % l.length) 0

theorem not_mem_take_succ {l : List Int} {a x : Int} {k : Nat} (h : a ∉ l.take k) (hx : l[k]? = some x) (hne : x ≠ a) : a ∉ l.take (k + 1) := by
  rw [List.take_add_one, hx]
  simp
  exact ⟨h, fun e => hne e.symm⟩
theorem not_mem_all {l : List Int} {a : Int} {k : Nat} (h : a ∉ l.take k) (hk : l.length ≤ k) : a ∉ l := by
  rwa [List.take_of_length_le hk] at h
theorem idx_found {l : List Int} {a : Int} {k : Nat} (h : a ∉ l.take k) (hx : l[k]? = some a) : a ∈ l ∧ l.idxOf a = k := by
  have hk : k < l.length := by
    have := (List.getElem?_eq_some_iff.1 hx).1
    exact this
  refine ⟨List.mem_of_getElem? hx, ?_⟩
  induction l generalizing k with
  | nil => simp at hk
  | cons b l ih =>
    cases k with
    | zero => simp at hx; subst hx; simp
    | succ k =>
      simp only [List.take_succ_cons, List.mem_cons, not_or] at h
      simp only [List.getElem?_cons_succ] at hx
      simp only [List.length_cons] at hk
      have := ih h.2 hx (by omega)
      have hb : (b == a) = false := by simpa using fun e : b = a => h.1 e.symm
      rw [List.idxOf_cons, hb, this]
      rfl
theorem idxI_found {l : List Int} {a : Int} {k : Nat} (h : a ∉ l.take k) (hx : l[k]? = some a) : idxI l a = k := by
  obtain ⟨h1, h2⟩ := idx_found h hx
  unfold idxI
  rw [if_pos h1, h2]
theorem idxI_none {l : List Int} {a : Int} (h : a ∉ l) : idxI l a = -1 := by unfold idxI; rw [if_neg h]
theorem erase_at {l : List Int} {a : Int} (h : a ∈ l) : l.erase a = l.take (l.idxOf a) ++ l.drop (l.idxOf a + 1) := by
  rw [List.erase_eq_eraseIdx_of_idxOf rfl, List.eraseIdx_eq_take_drop_succ]
end Go.Proofs.Ytjjfemhpdhkolaa
