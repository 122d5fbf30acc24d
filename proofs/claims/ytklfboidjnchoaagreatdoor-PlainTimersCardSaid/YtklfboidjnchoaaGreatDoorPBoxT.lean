/-
  Parts of the proof: PBoxT.
-/
import Derived.Test.YtklfboidjnchoaaGreatDoorZ18
import Derived.Test.YtklfboidjnchoaaGreatDoorPBoxL
namespace Go.Proofs.YtklfboidjnchoaaGreatDoor
open Go
set_option linter.unusedVariables false
set_option linter.unusedSimpArgs false
theorem decN_four {n : Nat} (h : n < 10000) : (decN n).length ≤ 4 := by
  unfold decN
  rw [List.length_map]
  exact (digs_len n).2 3 (by omega)
theorem decN_d : decN 0 = [48] ∧ decN 1 = [49] ∧ decN 2 = [50] ∧ decN 3 = [51] ∧ decN 4 = [52] ∧ decN 5 = [53] ∧ decN 6 = [54] ∧ decN 7 = [55] ∧ decN 8 = [56] ∧ decN 9 = [57] := by
  refine ⟨?_, ?_, ?_, ?_, ?_, ?_, ?_, ?_, ?_, ?_⟩
  all_goals (rw [digs_two (by omega)]; rfl)
def boxA : List Nat := [10, 98, 98, 97, 10, 60, 99, 98, 10, 61, 100]
def boxB : List Nat := [10, 119, 99, 100, 10, 117, 98, 101, 10, 111, 101, 10, 112, 51, 98, 10, 113, 102, 51, 10, 117, 102, 97, 10, 111, 97, 10, 61, 97, 49, 10, 43, 101, 97, 10, 111, 101, 10, 120]
def boxT (a b : Nat) : ByteArray := strA [61, 97] ++ decB a ++ strA boxA ++ decB b ++ strA boxB
theorem boxT_eq (a b : Nat) : boxT a b = strA ([61, 97] ++ decN a ++ boxA ++ decN b ++ boxB) := by
  unfold boxT
  rw [← strA_decN, ← strA_decN, strA_app, strA_app, strA_app, strA_app]
theorem validR_of {l : List InstrD} (h0 : 0 < l.length) (h60 : l.length ≤ 60) (h : ∀ x ∈ l, lookR x l.length = 0) : (validR l).2 = 0 := by
  unfold validR
  rw [if_neg (by omega), if_neg (by omega)]
  have : ∀ (l : List InstrD) (n k : Nat), (∀ x ∈ l, lookR x n = 0) → (valF n k l).2 = 0 := by
    intro l n
    induction l with
    | nil => intro k _; rfl
    | cons x l ih =>
      intro k h
      unfold valF
      rw [if_pos (h x (List.mem_cons_self ..))]
      exact ih (k + 1) (fun y hy => h y (List.mem_cons_of_mem _ hy))
  exact this l _ 0 h
theorem boxL_len (a b : Int) : (boxL a b).length = 15 := rfl
theorem box_valid (a b : Nat) (ha : a < 9999) (hb : b < 9999) : (validR (boxL a b)).2 = 0 := by
  have hs : ∀ x ∈ boxL 0 0, lookR x 15 = 0 := by decide +kernel
  refine validR_of (by rw [boxL_len]; omega) (by rw [boxL_len]; omega) ?_
  rw [boxL_len]
  intro x hx
  have h1 := look_num (op := 1) (r := 0) (v := a) 15 (.inl ⟨rfl, by omega⟩) (by omega) (by omega)
  have h2 := look_num (op := 1) (r := 3) (v := b) 15 (.inl ⟨rfl, by omega⟩) (by omega) (by omega)
  unfold boxL at hx hs
  simp only [List.mem_cons, List.not_mem_nil, or_false] at hx
  rcases hx with rfl | rfl | rfl | rfl | hx
  · exact h1
  · exact hs _ (by simp)
  · exact hs _ (by simp)
  · exact h2
  · exact hs x (by simp only [List.mem_cons, List.not_mem_nil, or_false]; exact .inr (.inr (.inr (.inr hx))))
theorem box_load (a b : Nat) (ha : a < 9999) (hb : b < 9999) : loadR (boxT a b) = (boxL a b, 0, 0) := by
  rw [boxT_eq]
  refine load_text (box_valid a b ha hb) (.inr ⟨(boxL a b).take 14, ⟨22, 0, 0, 0, []⟩, rfl, ?_⟩) ?_
  · simp [boxL, textW, joinW, rW, formW, rforms, argW, letterN, boxA, boxB, decN_d]
  · have := decN_four (n := a) (by omega)
    have := decN_four (n := b) (by omega)
    simp only [List.length_append, boxA, boxB, List.length_cons, List.length_nil]
    omega
def timB : List Nat := [10, 83, 114, 97, 99, 51, 114, 98, 100, 53, 10, 111, 99, 10, 106, 54, 10, 111, 100, 10, 120]
def timT (a b : Nat) : ByteArray := strA [116, 97] ++ decB a ++ strA [10, 116, 98] ++ decB b ++ strA timB
theorem timT_eq (a b : Nat) : timT a b = strA ([116, 97] ++ decN a ++ [10, 116, 98] ++ decN b ++ timB) := by
  unfold timT
  rw [← strA_decN, ← strA_decN, strA_app, strA_app, strA_app, strA_app]
theorem timL_len (a b : Int) : (timL a b).length = 7 := rfl
theorem tim_valid (a b : Nat) (ha : a < 30) (hb : b < 30) : (validR (timL a b)).2 = 0 := by
  have hs : ∀ x ∈ timL 0 0, lookR x 7 = 0 := by decide +kernel
  refine validR_of (by rw [timL_len]; omega) (by rw [timL_len]; omega) ?_
  rw [timL_len]
  intro x hx
  have h1 := look_num (op := 14) (r := 0) (v := a) 7 (.inr (.inl ⟨rfl, by omega⟩)) (by omega) (by omega)
  have h2 := look_num (op := 14) (r := 1) (v := b) 7 (.inr (.inl ⟨rfl, by omega⟩)) (by omega) (by omega)
  unfold timL at hx hs
  simp only [List.mem_cons, List.not_mem_nil, or_false] at hx
  rcases hx with rfl | rfl | hx
  · exact h1
  · exact h2
  · exact hs x (by simp only [List.mem_cons, List.not_mem_nil, or_false]; exact .inr (.inr hx))
theorem tim_load (a b : Nat) (ha : a < 30) (hb : b < 30) : loadR (timT a b) = (timL a b, 0, 0) := by
  rw [timT_eq]
  refine load_text (tim_valid a b ha hb) (.inr ⟨(timL a b).take 6, ⟨22, 0, 0, 0, []⟩, rfl, ?_⟩) ?_
  · simp [timL, textW, joinW, rW, formW, rforms, argW, letterN, timB, decN_d, caseW, caseH]
  · have := decN_four (n := a) (by omega)
    have := decN_four (n := b) (by omega)
    simp only [List.length_append, timB, List.length_cons, List.length_nil]
    omega
def pasT (c f : Nat) : ByteArray := strA [109, 97] ++ decB c ++ strA [10, 61, 98] ++ decB f ++ strA [10, 61, 99, 49, 10, 103, 55, 10] ++ strA [114, 97, 100, 10, 111, 100, 10, 106, 52, 10] ++ strA [115, 97, 98, 10, 43, 98, 99, 10, 106, 55, 10]
theorem pasT_eq (c f : Nat) : pasT c f = strA ([109, 97] ++ decN c ++ [10, 61, 98] ++ decN f ++ [10, 61, 99, 49, 10, 103, 55, 10] ++ [114, 97, 100, 10, 111, 100, 10, 106, 52, 10] ++ [115, 97, 98, 10, 43, 98, 99, 10, 106, 55, 10]) := by
  unfold pasT
  rw [← strA_decN, ← strA_decN, strA_app, strA_app, strA_app, strA_app, strA_app, strA_app]
theorem passL_len (c : Nat) (f : Int) : (passL c f).length = 10 := rfl
theorem pas_valid (c f : Nat) (hc : c < 4) (hf : f < 900) : (validR (passL c f)).2 = 0 := by
  have hs : ∀ x ∈ passL 0 0, lookR x 10 = 0 := by decide +kernel
  refine validR_of (by rw [passL_len]; omega) (by rw [passL_len]; omega) ?_
  rw [passL_len]
  intro x hx
  have h1 := look_num (op := 4) (r := 0) (v := c) 10 (.inr (.inr ⟨rfl, by omega⟩)) (by omega) (by omega)
  have h2 := look_num (op := 1) (r := 1) (v := f) 10 (.inl ⟨rfl, by omega⟩) (by omega) (by omega)
  unfold passL at hx hs
  simp only [List.mem_cons, List.not_mem_nil, or_false] at hx
  rcases hx with rfl | rfl | hx
  · exact h1
  · exact h2
  · exact hs x (by simp only [List.mem_cons, List.not_mem_nil, or_false]; exact .inr (.inr hx))
theorem pas_load (c f : Nat) (hc : c < 4) (hf : f < 900) : loadR (pasT c f) = (passL c f, 0, 0) := by
  rw [pasT_eq]
  refine load_text (pas_valid c f hc hf) (.inl ?_) ?_
  · simp [passL, textW, joinW, rW, formW, rforms, argW, letterN, decN_d]
  · have := decN_four (n := c) (by omega)
    have := decN_four (n := f) (by omega)
    simp only [List.length_append, List.length_cons, List.length_nil]
    omega
end Go.Proofs.YtklfboidjnchoaaGreatDoor
