/-
  A program's text with a line that is none put in somewhere: that line is told; in plain words.
-/
import Derived.Test.YtoflhfiegfhkoaaDoorKCLn
import Derived.Test.YtoflhfiegfhkoaaDoorKBack
namespace Go.Proofs.YtoflhfiegfhkoaaDoor
open Go
set_option linter.unusedVariables false
set_option linter.unusedSimpArgs false

theorem textW_one (x : InstrD) (r : List InstrD) : textW (x :: r) = rW x ++ 10 :: textW r := by
  unfold textW joinW
  rw [List.map_cons, List.flatMap_cons, List.append_assoc]
  rfl
theorem linesN_text : ∀ (l : List InstrD) (rest : List Nat), linesN (textW l ++ rest) [] = l.map rW ++ linesN rest []
  | [], rest => rfl
  | x :: r, rest => by
    obtain ⟨hs, hne⟩ := signs_rW x
    rw [textW_one, List.append_assoc, List.cons_append, linesN_line1 _ hs hne, linesN_text r rest]
    rfl
theorem decO_text : ∀ (l : List InstrD) (i : Nat) (acc : List InstrD) (R : List (List Nat)), (∀ x ∈ l, rshaped x = true) → decO i acc (l.map rW ++ R) = decO (i + l.length) (acc ++ l) R
  | [], i, acc, R, _ => by simp
  | x :: r, i, acc, R, h => by
    have hx := back_one (h x (List.mem_cons_self ..))
    simp only [List.map_cons, List.cons_append, decO, hx]
    rw [decO_text r (i + 1) (acc ++ [x]) R (fun y hy => h y (List.mem_cons_of_mem _ hy)), List.append_assoc, List.length_cons]
    congr 1
    omega
/-- The text of so many rounds. -/
def plS (M : List InstrD) (wh : Nat) : Nat → List Nat
  | 0 => []
  | k + 1 => plS M wh k ++ ((if k = wh then [10, 32, 63, 10] else []) ++ textW (M[k]?.toList))
theorem plS_eq (M : List InstrD) (wh : Nat) : ∀ k, plS M wh k = if k ≤ wh then textW (M.take k) else textW (M.take wh) ++ ([10, 32, 63, 10] ++ textW ((M.take k).drop wh))
  | 0 => by rw [if_pos (Nat.zero_le _)]; rfl
  | k + 1 => by
    have ih := plS_eq M wh k
    have ht : M.take (k + 1) = M.take k ++ M[k]?.toList := List.take_add_one
    unfold plS
    rw [ih]
    by_cases h1 : k + 1 ≤ wh
    · rw [if_pos (show k ≤ wh by omega), if_neg (show ¬ k = wh by omega), if_pos h1, ht, textW_app, List.nil_append]
    · rw [if_neg h1]
      by_cases h2 : k = wh
      · subst h2
        rw [if_pos (Nat.le_refl _), if_pos rfl, ht]
        have hd : (M.take k ++ M[k]?.toList).drop k = M[k]?.toList := by
          rcases Nat.lt_or_ge k M.length with h | h
          · rw [List.drop_append_of_le_length (by rw [List.length_take]; omega), List.drop_eq_nil_of_le (by rw [List.length_take]; omega), List.nil_append]
          · rw [List.getElem?_eq_none h]
            simp
        rw [hd]
      · rw [if_neg (show ¬ k ≤ wh by omega), if_neg h2, ht, List.nil_append]
        have hd : (M.take k ++ M[k]?.toList).drop wh = (M.take k).drop wh ++ M[k]?.toList := by
          rcases Nat.lt_or_ge k M.length with h | h
          · rw [List.drop_append_of_le_length (by rw [List.length_take]; omega)]
          · rw [List.getElem?_eq_none h]
            simp
        rw [hd, textW_app]
        simp
theorem one_bad : oneR [63] = none := by decide +kernel
theorem signsT_text : ∀ l : List InstrD, signsT (textW l)
  | [] => fun c hc => by simp [textW, joinW] at hc
  | x :: r => by
    rw [textW_one]
    exact signsT_app (signs_T (signs_rW x).1) (fun c hc => by
      rcases List.mem_cons.1 hc with rfl | hc
      · exact .inl rfl
      · exact signsT_text r c hc)
theorem places_decode (l : List InstrD) (wh : Nat) (hw : wh ≤ (pcodeR l).length) :
    decodeR (strA (plS (pcodeR l) wh ((pcodeR l).length + 1))) = ([], (wh : Int) + 1, 5) := by
  have hlen := pcode_len l
  have hsh := pcode_shaped l
  have htx := textW_len (pcodeR l) (fun x hx => (pcode_ok l x hx).1)
  obtain ⟨M, hM⟩ : ∃ M, pcodeR l = M := ⟨_, rfl⟩
  rw [hM] at hw hlen hsh htx ⊢
  have hT := plS_eq M wh (M.length + 1)
  rw [if_neg (by omega), List.take_of_length_le (show M.length ≤ M.length + 1 by omega)] at hT
  have hL : linesN (plS M wh (M.length + 1)) [] = (M.take wh).map rW ++ ([63] :: (M.drop wh).map rW) := by
    rw [hT, linesN_text]
    congr 1
    have h2 : linesN ([10, 32, 63, 10] ++ textW (M.drop wh)) [] = [63] :: linesN (textW (M.drop wh)) [] := by
      simp [linesN]
    rw [h2]
    have h3 := linesN_text (M.drop wh) []
    rw [List.append_nil] at h3
    rw [h3]
    simp [linesN]
  have hs : signsT (plS M wh (M.length + 1)) := by
    rw [hT]
    exact signsT_app (signsT_text _) (signsT_app (fun c hc => by simp at hc; omega) (signsT_text _))
  have hl : (plS M wh (M.length + 1)).length ≤ 2000 := by
    have h0 : (textW M).length = (textW (M.take wh)).length + (textW (M.drop wh)).length := by
      rw [← List.length_append, ← textW_app, List.take_append_drop]
    rw [hT, List.length_append, List.length_append]
    simp
    omega
  rw [decode_lines hs hl (by rw [hL]; simp; omega) (by rw [hL]; simp; omega), hL, decO_text _ _ _ _ (fun x hx => hsh x (List.mem_of_mem_take hx))]
  simp only [decO, one_bad]
  rw [List.length_take]
  congr 2
  omega
theorem plS_len (l : List InstrD) (wh : Nat) : ∀ k, (plS (pcodeR l) wh k).length ≤ 27 * k
  | 0 => by simp [plS]
  | k + 1 => by
    have ih := plS_len l wh k
    have h1 : (textW ((pcodeR l)[k]?.toList)).length ≤ 23 := by
      cases hx : (pcodeR l)[k]? with
      | none => simp [textW, joinW]
      | some x =>
        have := textW_len [x] (fun y hy => by rw [List.mem_singleton] at hy; subst hy; exact (pcode_ok l _ (List.mem_of_getElem? hx)).1)
        simpa using this
    unfold plS
    rw [List.length_append, List.length_append]
    split
    · simp; omega
    · simp; omega
theorem one_write {l : List InstrD} {x : InstrD} (hx : x ∈ pcodeR l) : writeR [x] = (textW [x], 0) := by
  have h1 := textW_len [x] (fun y hy => by rw [List.mem_singleton] at hy; subst hy; exact (pcode_ok l _ hx).1)
  have h2 := pcode_shaped l x hx
  unfold writeR okW
  rw [if_neg (by simp), List.all_eq_true.2 (fun y hy => by rw [List.mem_singleton] at hy; subst hy; exact h2), decide_eq_true (show ([x] : List InstrD).length ≤ 60 by simp), decide_eq_true (show (textW [x]).length ≤ 2000 by simp at h1; omega)]
  rfl
end Go.Proofs.YtoflhfiegfhkoaaDoor
