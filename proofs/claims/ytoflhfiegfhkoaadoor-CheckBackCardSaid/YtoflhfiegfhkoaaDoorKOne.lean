/-
  The program's line and the reference's one tell the same, in plain words.
-/
import Derived.Test.YtoflhfiegfhkoaaDoorKRefD
namespace Go.Proofs.YtoflhfiegfhkoaaDoor
open Go
set_option linter.unusedVariables false

theorem chr_drop (l : List Nat) (q j : Nat) : chr (l.drop q) j = chr l (q + j) := by
  unfold chr
  rw [List.getD_eq_getElem?_getD, List.getD_eq_getElem?_getD, List.getElem?_drop]
theorem chr_end {l : List Nat} {q : Nat} (h : l.length ≤ q) : chr l q = 0 := by
  unfold chr
  rw [List.getD_eq_getElem?_getD, List.getElem?_eq_none h]
  rfl
theorem reg_zero : regR ((0 : Nat) : Int) = (0, false) := by unfold regR; rw [if_neg (by omega)]
theorem reg_end {l : List Nat} {q : Nat} (h : l.length ≤ q) : (regR (chr l q)).2 = false := by rw [chr_end h, reg_zero]
theorem adv_lt {l : List Nat} {q : Nat} (h : q < l.length) : adv l q = q + 1 := by unfold adv; rw [if_pos h]
theorem adv_end {l : List Nat} {q : Nat} (h : l.length ≤ q) : adv l q = q := by unfold adv; rw [if_neg (by omega)]
theorem run_rest : ∀ (M : List Nat) (m : Nat), runL M m = min (restN M) m
  | _, 0 => by unfold runL; omega
  | [], m + 1 => by simp [runL, restN]
  | c :: M, m + 1 => by
    have ih := run_rest M m
    simp only [runL]
    unfold restN at ih ⊢
    rw [List.takeWhile_cons]
    by_cases h : isDig c = true
    · rw [if_pos h, if_pos h, ih, List.length_cons]; omega
    · rw [if_neg h, if_neg h]; simp
theorem rest_dig : ∀ (M : List Nat) (j : Nat), j < restN M → isDig (chr M j) = true
  | [], j, h => by simp [restN] at h
  | c :: M, j, h => by
    unfold restN at h
    rw [List.takeWhile_cons] at h
    by_cases hc : isDig c = true
    · rw [if_pos hc, List.length_cons] at h
      cases j with
      | zero => exact hc
      | succ j =>
        have := rest_dig M j (by unfold restN; omega)
        show isDig (chr (c :: M) (j + 1)) = true
        have e : chr (c :: M) (j + 1) = chr M j := by unfold chr; simp
        rw [e]; exact this
    · rw [if_neg hc] at h; simp at h
theorem take_long {M : List Nat} (h : 4 < restN M) : numR (strA (M.take (restN M))) = (0, false) := by
  apply numR_long
  rw [strA_size, List.length_take]
  have := restN_le M
  omega

theorem cases_dig {c : Nat} (h : isDig c = true) : (findF (c : Int) 0 casesL).2.2 = false := by
  simp [isDig] at h
  have e1 : ¬ ((115 : Nat) : Int) = (c : Int) := by omega
  have e2 : ¬ ((114 : Nat) : Int) = (c : Int) := by omega
  have e3 : ¬ ((101 : Nat) : Int) = (c : Int) := by omega
  simp only [casesL, findF]
  show (if ((115 : Nat) : Int) = (c : Int) then (1, [115, 97, 98, 78], true) else if ((114 : Nat) : Int) = (c : Int) then (2, [114, 97, 98, 78], true) else if ((101 : Nat) : Int) = (c : Int) then (3, [101, 78], true) else (0, [], false) : Nat × List Nat × Bool).2.2 = false
  rw [if_neg e1, if_neg e2, if_neg e3]
theorem cases_else {c : Nat} (h1 : c ≠ 115) (h2 : c ≠ 114) (h3 : c ≠ 101) : (findF (c : Int) 0 casesL).2.2 = false := by
  have e1 : ¬ ((115 : Nat) : Int) = (c : Int) := by omega
  have e2 : ¬ ((114 : Nat) : Int) = (c : Int) := by omega
  have e3 : ¬ ((101 : Nat) : Int) = (c : Int) := by omega
  simp only [casesL, findF]
  show (if ((115 : Nat) : Int) = (c : Int) then (1, [115, 97, 98, 78], true) else if ((114 : Nat) : Int) = (c : Int) then (2, [114, 97, 98, 78], true) else if ((101 : Nat) : Int) = (c : Int) then (3, [101, 78], true) else (0, [], false) : Nat × List Nat × Bool).2.2 = false
  rw [if_neg e1, if_neg e2, if_neg e3]
theorem cases_s : findF ((115 : Nat) : Int) 0 casesL = (1, [115, 97, 98, 78], true) := rfl
theorem cases_r : findF ((114 : Nat) : Int) 0 casesL = (2, [114, 97, 98, 78], true) := rfl
theorem cases_e : findF ((101 : Nat) : Int) 0 casesL = (3, [101, 78], true) := rfl
theorem fields_abN (l : List Nat) (c q : Nat) : fieldsR l [c, 97, 98, 78] q =
    ⟨(regR (chr l q)).1, (regR (chr l (adv l q))).1, (numR (numL l (adv l (adv l q)) 4)).1, (regR (chr l q)).2 && (regR (chr l (adv l q))).2 && (numR (numL l (adv l (adv l q)) 4)).2, adv l (adv l q) + runL (l.drop (adv l (adv l q))) 4⟩ := by
  simp [fieldsR, ffold, fstep]
theorem fields_N (l : List Nat) (c q : Nat) : fieldsR l [c, 78] q = ⟨0, 0, (numR (numL l q 4)).1, (numR (numL l q 4)).2, q + runL (l.drop q) 4⟩ := by
  simp [fieldsR, ffold, fstep]
theorem fields_aN (l : List Nat) (c q : Nat) : fieldsR l [c, 97, 78] q = ⟨(regR (chr l q)).1, 0, (numR (numL l (adv l q) 4)).1, (regR (chr l q)).2 && (numR (numL l (adv l q) 4)).2, adv l q + runL (l.drop (adv l q)) 4⟩ := by
  simp [fieldsR, ffold, fstep]
theorem fields_ab (l : List Nat) (c q : Nat) : fieldsR l [c, 97, 98] q = ⟨(regR (chr l q)).1, (regR (chr l (adv l q))).1, 0, (regR (chr l q)).2 && (regR (chr l (adv l q))).2, adv l (adv l q)⟩ := by
  simp [fieldsR, ffold, fstep]
theorem fields_a (l : List Nat) (c q : Nat) : fieldsR l [c, 97] q = ⟨(regR (chr l q)).1, 0, 0, (regR (chr l q)).2, adv l q⟩ := by
  simp [fieldsR, ffold, fstep]
theorem fields_Da (l : List Nat) (c q : Nat) : fieldsR l [c, 68, 97] q = ⟨(regR (chr l (q + runL (l.drop q) 1))).1, 0, (numR (numL l q 1)).1, (numR (numL l q 1)).2 && (regR (chr l (q + runL (l.drop q) 1))).2, adv l (q + runL (l.drop q) 1)⟩ := by
  simp [fieldsR, ffold, fstep]
theorem fields_none (l : List Nat) (c q : Nat) : fieldsR l [c] q = ⟨0, 0, 0, true, q⟩ := by
  simp [fieldsR, ffold, fstep]

theorem choice_dig (l : List Nat) : ∀ (k q : Nat) (acc : List CaseD), q < l.length → isDig (chr l q) = true → choiceF l k q acc = none
  | 0, _, _, _, _ => rfl
  | k + 1, q, acc, h, hd => by
    unfold choiceF
    rw [if_pos h, if_pos (cases_dig hd)]
/-- The number of a case, and what is behind it. -/
theorem case_num (l : List Nat) (k q kd : Nat) (ch rg : Int) (acc : List CaseD) (hq : q ≤ l.length) (hk : l.length < q + k)
    (ih : ∀ q' acc', q ≤ q' → q' ≤ l.length → choiceF l k q' acc' = rchF k (l.drop q') acc') :
    (if (numR (numL l q 4)).2 = false then none else if kd = 3 ∧ q + runL (l.drop q) 4 < l.length then none else choiceF l k (q + runL (l.drop q) 4) (acc ++ [⟨(kd : Int), ch, rg, (numR (numL l q 4)).1⟩])) =
    (match rtail (kd : Int) ch rg (l.drop q) with | none => none | some (c, M') => rchF k M' (acc ++ [c])) := by
  have hM := restN_le (l.drop q)
  have hl : (l.drop q).length = l.length - q := List.length_drop
  have hrun := run_rest (l.drop q) 4
  obtain ⟨M, hMM⟩ : ∃ M, l.drop q = M := ⟨_, rfl⟩
  obtain ⟨r, hr⟩ : ∃ r, restN M = r := ⟨_, rfl⟩
  have hnum : numL l q 4 = strA (M.take (runL M 4)) := by unfold numL; rw [hMM]
  rw [hMM] at hM hl hrun ⊢
  rw [hr] at hM hrun
  by_cases h4 : r ≤ 4
  · have e4 : runL M 4 = r := by rw [hrun]; omega
    rw [hnum, e4]
    obtain ⟨⟨nv, nk⟩, hN⟩ : ∃ R, numR (strA (M.take r)) = R := ⟨_, rfl⟩
    rw [hN]
    cases nk
    · rw [if_pos rfl, rtail_no hr hN]
    · rw [if_neg (by simp)]
      by_cases he : kd = 3 ∧ q + r < l.length
      · rw [if_pos he, rtail_end hr hN ⟨by have := he.1; omega, by have := he.2; rw [List.length_drop]; omega⟩]
      · rw [if_neg he, rtail_yes hr hN (fun h => he ⟨by have := h.1; omega, by have := h.2; rw [List.length_drop] at this; omega⟩)]
        dsimp only
        rw [ih (q + r) _ (by omega) (by omega), ← hMM, List.drop_drop]
  · have e4 : runL M 4 = 4 := by rw [hrun]; omega
    have hlong := take_long (M := M) (by rw [hr]; omega)
    rw [hr] at hlong
    rw [rtail_no hr hlong, hnum, e4]
    by_cases hn : (numR (strA (M.take 4))).2 = false
    · rw [if_pos hn]
    · rw [if_neg hn]
      have hd := rest_dig M 4 (by rw [hr]; omega)
      rw [← hMM, chr_drop] at hd
      rw [choice_dig l k (q + 4) _ (by omega) hd]
      split <;> rfl

theorem choice_eq (l : List Nat) : ∀ (k q : Nat) (acc : List CaseD), q ≤ l.length → l.length < q + k → choiceF l k q acc = rchF k (l.drop q) acc
  | 0, q, acc, h, hk => by omega
  | k + 1, q, acc, h, hk => by
    have hlen : (l.drop q).length = l.length - q := List.length_drop
    have hc0 := chr_drop l q 0
    have hc1 := chr_drop l q 1
    have hc2 := chr_drop l q 2
    rw [Nat.add_zero] at hc0
    unfold choiceF rchF
    by_cases hlt : q < l.length
    · rw [if_pos hlt, if_neg (show ¬ (l.drop q).length = 0 by omega)]
      obtain ⟨c, hc⟩ : ∃ c, chr l q = c := ⟨_, rfl⟩
      have ih := fun q' acc' (h1 : q + 1 ≤ q') (h2 : q' ≤ l.length) => choice_eq l k q' acc' h2 (by omega)
      rw [hc] at hc0 ⊢
      unfold rhead
      rw [hc0, hc1, hc2]
      have two : ∀ kd : Nat, kd < 3 →
          (if (fieldsR l [c, 97, 98, 78] (q + 1)).ok = false then none else if kd = 3 ∧ (fieldsR l [c, 97, 98, 78] (q + 1)).q < l.length then none else choiceF l k (fieldsR l [c, 97, 98, 78] (q + 1)).q (acc ++ [⟨(kd : Int), (fieldsR l [c, 97, 98, 78] (q + 1)).a, (fieldsR l [c, 97, 98, 78] (q + 1)).b, (fieldsR l [c, 97, 98, 78] (q + 1)).n⟩])) =
          (match (if (l.drop q).length < 3 then none else if (regR (chr l (q + 1))).2 = false ∨ (regR (chr l (q + 2))).2 = false then none else some ((kd : Int), (regR (chr l (q + 1))).1, (regR (chr l (q + 2))).1, (l.drop q).drop 3) : Option (Int × Int × Int × List Nat)) with
            | none => none
            | some (kd, ch, rg, M) => match rtail kd ch rg M with
              | none => none
              | some (c, M') => rchF k M' (acc ++ [c])) := by
        intro kd hkd
        rw [fields_abN]
        dsimp only
        by_cases h1 : q + 1 < l.length
        · rw [adv_lt h1]
          by_cases h2 : q + 1 + 1 < l.length
          · rw [adv_lt h2, if_neg (show ¬ (l.drop q).length < 3 by omega)]
            by_cases hr : (regR (chr l (q + 1))).2 = false ∨ (regR (chr l (q + 2))).2 = false
            · rw [if_pos hr, if_pos]
              rcases hr with hr | hr
              · rw [hr]; rfl
              · rw [show q + 1 + 1 = q + 2 by omega, hr]; simp
            · rw [if_neg hr]
              have hr1 : (regR (chr l (q + 1))).2 = true := by
                cases hb : (regR (chr l (q + 1))).2
                · exact absurd (.inl hb) hr
                · rfl
              have hr2 : (regR (chr l (q + 1 + 1))).2 = true := by
                cases hb : (regR (chr l (q + 1 + 1))).2
                · exact absurd (.inr hb) hr
                · rfl
              rw [hr1, hr2, Bool.true_and, Bool.true_and]
              dsimp only
              rw [List.drop_drop, ← case_num l k (q + 3) kd _ _ acc (by omega) (by omega) (fun q' acc' h1 h2 => ih q' acc' (by omega) h2)]
          · rw [if_pos (show (l.drop q).length < 3 by omega), if_pos]
            rw [reg_end (show l.length ≤ q + 1 + 1 by omega)]
            simp
        · rw [if_pos (show (l.drop q).length < 3 by omega), if_pos]
          rw [reg_end (show l.length ≤ q + 1 by omega)]
          rfl
      by_cases h115 : c = 115
      · subst h115
        rw [cases_s]
        have := two 1 (by omega)
        rw [if_neg (show ¬ (true = false) by simp), if_pos (show (115 : Nat) = 115 ∨ (115 : Nat) = 114 from .inl rfl), if_neg (show ¬ (115 : Nat) = 114 by omega)]
        exact this
      · by_cases h114 : c = 114
        · subst h114
          rw [cases_r]
          have := two 2 (by omega)
          rw [if_neg (show ¬ (true = false) by simp), if_pos (show (114 : Nat) = 115 ∨ (114 : Nat) = 114 from .inr rfl), if_pos (show (114 : Nat) = 114 from rfl)]
          exact this
        · rw [if_neg (show ¬ (c = 115 ∨ c = 114) by omega)]
          by_cases h101 : c = 101
          · subst h101
            rw [cases_e, if_neg (show ¬ (true = false) by simp), if_pos (show (101 : Nat) = 101 from rfl)]
            dsimp only
            rw [fields_N]
            dsimp only
            rw [List.drop_drop]
            exact case_num l k (q + 1) 3 0 0 acc (by omega) (by omega) (fun q' acc' h1 h2 => ih q' acc' (by omega) h2)
          · rw [if_neg h101, if_pos (cases_else h115 h114 h101)]
    · rw [if_neg hlt, if_pos (show (l.drop q).length = 0 by omega)]
end Go.Proofs.YtoflhfiegfhkoaaDoor
