/-
  What a clock answers, in plain words: no program is named here.
-/
import Derived.Test.YtjjfemhpdhkolaaClock2
namespace Go.Proofs.Ytjjfemhpdhkolaa
set_option linter.unusedVariables false

/-- How many stand ahead of the first that is due behind a time. -/
def cutN (l : List CE) (t : Int) : Nat := l.findIdx fun x => decide (t < x.1)
def cAdd (l : List CE) (t a : Int) : List CE := l.take (cutN l t) ++ [(t, a)] ++ l.drop (cutN l t)

theorem cutN_le (l : List CE) (t : Int) : cutN l t ≤ l.length := List.findIdx_le_length
theorem length_cAdd (l : List CE) (t a : Int) : (cAdd l t a).length = l.length + 1 := by
  have := cutN_le l t
  simp [cAdd]
  omega
theorem idxC_pos {l : List CE} {t : Int} (h : cutN l t < l.length) : idxC l t = (cutN l t : Int) := by
  unfold idxC
  rw [if_pos]
  · rfl
  · rw [List.any_eq_true]
    exact ⟨l[cutN l t]'h, List.getElem_mem h, List.findIdx_getElem (p := fun x : CE => decide (t < x.1)) (w := h)⟩
theorem idxC_neg {l : List CE} {t : Int} (h : ¬ cutN l t < l.length) : idxC l t = -1 := by
  refine idxC_none fun y hy => ?_
  have he : l.findIdx (fun x => decide (t < x.1)) = l.length := by have := cutN_le l t; unfold cutN at *; omega
  have := List.findIdx_eq_length.1 he y hy
  simpa using this
theorem cutN_before {l : List CE} {t : Int} : ∀ x ∈ l.take (cutN l t), x.1 ≤ t := by
  intro x hx
  obtain ⟨j, hj, rfl⟩ := List.mem_take_iff_getElem.1 hx
  have := List.not_of_lt_findIdx (p := fun x : CE => decide (t < x.1)) (xs := l) (i := j) (by unfold cutN at hj; omega)
  simpa using this
theorem cutN_at {l : List CE} {t : Int} (h : cutN l t < l.length) : t < (l[cutN l t]'h).1 := by
  have := List.findIdx_getElem (p := fun x : CE => decide (t < x.1)) (w := h)
  exact of_decide_eq_true this
theorem cutN_eq {l : List CE} {t : Int} {k : Nat} (hk : k ≤ l.length) (h1 : ∀ x ∈ l.take k, x.1 ≤ t) (h2 : ∀ x, l[k]? = some x → t < x.1) : cutN l t = k := by
  by_cases hlt : k < l.length
  · unfold cutN
    rw [List.findIdx_eq hlt]
    refine ⟨by simpa using h2 _ (List.getElem?_eq_getElem hlt), fun j hj => ?_⟩
    have := h1 (l[j]'(by omega)) (List.mem_take_iff_getElem.2 ⟨j, by omega, rfl⟩)
    simpa using this
  · obtain rfl : k = l.length := by omega
    unfold cutN
    rw [List.findIdx_eq_length]
    intro x hx
    have := h1 x (by rwa [List.take_length])
    simpa using this

/-- A clock's entries stand by when they are due. -/
def Byw (l : List CE) : Prop := l.Pairwise fun x y => x.1 ≤ y.1

theorem byw_behind {l : List CE} (h : Byw l) {t : Int} : ∀ x ∈ l.drop (cutN l t), t < x.1 := by
  intro x hx
  by_cases hlt : cutN l t < l.length
  · have ha := cutN_at hlt
    rw [List.drop_eq_getElem_cons hlt] at hx
    rcases List.mem_cons.1 hx with rfl | hx
    · exact ha
    · have hd : (l.drop (cutN l t)).Pairwise fun x y => x.1 ≤ y.1 := h.sublist (List.drop_sublist _ _)
      rw [List.drop_eq_getElem_cons hlt] at hd
      have := (List.pairwise_cons.1 hd).1 x hx
      omega
  · rw [List.drop_eq_nil_of_le (by omega)] at hx
    simp at hx
theorem byw_add {l : List CE} (h : Byw l) (t a : Int) : Byw (cAdd l t a) := by
  unfold cAdd Byw
  rw [List.append_assoc, List.pairwise_append]
  refine ⟨h.sublist (List.take_sublist _ _), ?_, ?_⟩
  · rw [List.singleton_append, List.pairwise_cons]
    exact ⟨fun x hx => Int.le_of_lt (byw_behind h x hx), h.sublist (List.drop_sublist _ _)⟩
  · intro x hx y hy
    have h1 := cutN_before x hx
    rcases List.mem_append.1 hy with hy | hy
    · simp at hy
      subst hy
      exact h1
    · have := byw_behind h y hy
      omega
theorem byw_drop {l : List CE} (h : Byw l) (k : Nat) : Byw (l.drop k) := h.sublist (List.drop_sublist _ _)
/-- From behind: the first place ahead of which nothing is due later. -/
theorem cutN_back {l : List CE} (h : Byw l) {t : Int} {k : Nat} (hk : k ≤ l.length) (h1 : k = 0 ∨ ∃ x, l[k - 1]? = some x ∧ x.1 ≤ t) (h2 : ∀ x ∈ l.drop k, t < x.1) : cutN l t = k := by
  refine cutN_eq hk ?_ ?_
  · rcases h1 with rfl | ⟨x, hx, hle⟩
    · simp
    · intro y hy
      obtain ⟨j, hj, rfl⟩ := List.mem_take_iff_getElem.1 hy
      have hkl : k - 1 < l.length := (List.getElem?_eq_some_iff.1 hx).1
      have hxe := (List.getElem?_eq_some_iff.1 hx).2
      by_cases e : j = k - 1
      · subst e; rw [hxe]; exact hle
      · have := List.pairwise_iff_getElem.1 h j (k - 1) (by omega) hkl (by omega)
        rw [hxe] at this
        omega
  · intro x hx
    have hlt := (List.getElem?_eq_some_iff.1 hx).1
    have hxe := (List.getElem?_eq_some_iff.1 hx).2
    exact h2 _ (by rw [List.drop_eq_getElem_cons hlt, hxe]; exact List.mem_cons_self)
end Go.Proofs.Ytjjfemhpdhkolaa
