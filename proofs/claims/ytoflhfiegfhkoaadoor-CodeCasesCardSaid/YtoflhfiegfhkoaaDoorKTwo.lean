/-
  A line is the same instruction to the program and to the reference, in plain words.
-/
import Derived.Test.YtoflhfiegfhkoaaDoorKRefD
namespace Go.Proofs.YtoflhfiegfhkoaaDoor
open Go
set_option linter.unusedVariables false

theorem chr_drop (l : List Nat) (q j : Nat) : chr (l.drop q) j = chr l (q + j) := by
  unfold chr
  rw [List.getD_eq_getElem?_getD, List.getD_eq_getElem?_getD, List.getElem?_drop]
theorem chr_end {l : List Nat} {q : Nat} (h : l.length ≤ q) : chr l q = 0 := by
  unfold chr
  rw [List.getD_eq_getElem?_getD, List.getElem?_eq_none h]
  rfl
theorem reg_zero : regR ((0 : Nat) : Int) = (0, false) := by unfold regR; rw [if_neg (by omega)]
theorem reg_end {l : List Nat} {q : Nat} (h : l.length ≤ q) : (regR (chr l q)).2 = false := by rw [chr_end h, reg_zero]
theorem adv_lt {l : List Nat} {q : Nat} (h : q < l.length) : adv l q = q + 1 := by unfold adv; rw [if_pos h]
theorem adv_end {l : List Nat} {q : Nat} (h : l.length ≤ q) : adv l q = q := by unfold adv; rw [if_neg (by omega)]
theorem run_rest : ∀ (M : List Nat) (m : Nat), runL M m = min (restN M) m
  | _, 0 => by unfold runL; omega
  | [], m + 1 => by simp [runL, restN]
  | c :: M, m + 1 => by
    have ih := run_rest M m
    simp only [runL]
    unfold restN at ih ⊢
    rw [List.takeWhile_cons]
    by_cases h : isDig c = true
    · rw [if_pos h, if_pos h, ih, List.length_cons]; omega
    · rw [if_neg h, if_neg h]; simp
theorem rest_dig : ∀ (M : List Nat) (j : Nat), j < restN M → isDig (chr M j) = true
  | [], j, h => by simp [restN] at h
  | c :: M, j, h => by
    unfold restN at h
    rw [List.takeWhile_cons] at h
    by_cases hc : isDig c = true
    · rw [if_pos hc, List.length_cons] at h
      cases j with
      | zero => exact hc
      | succ j =>
        have := rest_dig M j (by unfold restN; omega)
        show isDig (chr (c :: M) (j + 1)) = true
        have e : chr (c :: M) (j + 1) = chr M j := by unfold chr; simp
        rw [e]; exact this
    · rw [if_neg hc] at h; simp at h
theorem take_long {M : List Nat} (h : 4 < restN M) : numR (strA (M.take (restN M))) = (0, false) := by
  apply numR_long
  rw [strA_size, List.length_take]
  have := restN_le M
  omega

theorem cases_dig {c : Nat} (h : isDig c = true) : (findF (c : Int) 0 casesL).2.2 = false := by
  simp [isDig] at h
  have e1 : ¬ ((115 : Nat) : Int) = (c : Int) := by omega
  have e2 : ¬ ((114 : Nat) : Int) = (c : Int) := by omega
  have e3 : ¬ ((101 : Nat) : Int) = (c : Int) := by omega
  simp only [casesL, findF]
  show (if ((115 : Nat) : Int) = (c : Int) then (1, [115, 97, 98, 78], true) else if ((114 : Nat) : Int) = (c : Int) then (2, [114, 97, 98, 78], true) else if ((101 : Nat) : Int) = (c : Int) then (3, [101, 78], true) else (0, [], false) : Nat × List Nat × Bool).2.2 = false
  rw [if_neg e1, if_neg e2, if_neg e3]
theorem cases_else {c : Nat} (h1 : c ≠ 115) (h2 : c ≠ 114) (h3 : c ≠ 101) : (findF (c : Int) 0 casesL).2.2 = false := by
  have e1 : ¬ ((115 : Nat) : Int) = (c : Int) := by omega
  have e2 : ¬ ((114 : Nat) : Int) = (c : Int) := by omega
  have e3 : ¬ ((101 : Nat) : Int) = (c : Int) := by omega
  simp only [casesL, findF]
  show (if ((115 : Nat) : Int) = (c : Int) then (1, [115, 97, 98, 78], true) else if ((114 : Nat) : Int) = (c : Int) then (2, [114, 97, 98, 78], true) else if ((101 : Nat) : Int) = (c : Int) then (3, [101, 78], true) else (0, [], false) : Nat × List Nat × Bool).2.2 = false
  rw [if_neg e1, if_neg e2, if_neg e3]
theorem cases_s : findF ((115 : Nat) : Int) 0 casesL = (1, [115, 97, 98, 78], true) := rfl
theorem cases_r : findF ((114 : Nat) : Int) 0 casesL = (2, [114, 97, 98, 78], true) := rfl
theorem cases_e : findF ((101 : Nat) : Int) 0 casesL = (3, [101, 78], true) := rfl
theorem fields_abN (l : List Nat) (c q : Nat) : fieldsR l [c, 97, 98, 78] q =
    ⟨(regR (chr l q)).1, (regR (chr l (adv l q))).1, (numR (numL l (adv l (adv l q)) 4)).1, (regR (chr l q)).2 && (regR (chr l (adv l q))).2 && (numR (numL l (adv l (adv l q)) 4)).2, adv l (adv l q) + runL (l.drop (adv l (adv l q))) 4⟩ := by
  simp [fieldsR, ffold, fstep]
theorem fields_N (l : List Nat) (c q : Nat) : fieldsR l [c, 78] q = ⟨0, 0, (numR (numL l q 4)).1, (numR (numL l q 4)).2, q + runL (l.drop q) 4⟩ := by
  simp [fieldsR, ffold, fstep]
theorem fields_aN (l : List Nat) (c q : Nat) : fieldsR l [c, 97, 78] q = ⟨(regR (chr l q)).1, 0, (numR (numL l (adv l q) 4)).1, (regR (chr l q)).2 && (numR (numL l (adv l q) 4)).2, adv l q + runL (l.drop (adv l q)) 4⟩ := by
  simp [fieldsR, ffold, fstep]
theorem fields_ab (l : List Nat) (c q : Nat) : fieldsR l [c, 97, 98] q = ⟨(regR (chr l q)).1, (regR (chr l (adv l q))).1, 0, (regR (chr l q)).2 && (regR (chr l (adv l q))).2, adv l (adv l q)⟩ := by
  simp [fieldsR, ffold, fstep]
theorem fields_a (l : List Nat) (c q : Nat) : fieldsR l [c, 97] q = ⟨(regR (chr l q)).1, 0, 0, (regR (chr l q)).2, adv l q⟩ := by
  simp [fieldsR, ffold, fstep]
theorem fields_Da (l : List Nat) (c q : Nat) : fieldsR l [c, 68, 97] q = ⟨(regR (chr l (q + runL (l.drop q) 1))).1, 0, (numR (numL l q 1)).1, (numR (numL l q 1)).2 && (regR (chr l (q + runL (l.drop q) 1))).2, adv l (q + runL (l.drop q) 1)⟩ := by
  simp [fieldsR, ffold, fstep]
theorem fields_none (l : List Nat) (c q : Nat) : fieldsR l [c] q = ⟨0, 0, 0, true, q⟩ := by
  simp [fieldsR, ffold, fstep]

theorem choice_dig (l : List Nat) : ∀ (k q : Nat) (acc : List CaseD), q < l.length → isDig (chr l q) = true → choiceF l k q acc = none
  | 0, _, _, _, _ => rfl
  | k + 1, q, acc, h, hd => by
    unfold choiceF
    rw [if_pos h, if_pos (cases_dig hd)]
/-- The number of a case, and what is behind it. -/
theorem case_num (l : List Nat) (k q kd : Nat) (ch rg : Int) (acc : List CaseD) (hq : q ≤ l.length) (hk : l.length < q + k)
    (ih : ∀ q' acc', q ≤ q' → q' ≤ l.length → choiceF l k q' acc' = rchF k (l.drop q') acc') :
    (if (numR (numL l q 4)).2 = false then none else if kd = 3 ∧ q + runL (l.drop q) 4 < l.length then none else choiceF l k (q + runL (l.drop q) 4) (acc ++ [⟨(kd : Int), ch, rg, (numR (numL l q 4)).1⟩])) =
    (match rtail (kd : Int) ch rg (l.drop q) with | none => none | some (c, M') => rchF k M' (acc ++ [c])) := by
  have hM := restN_le (l.drop q)
  have hl : (l.drop q).length = l.length - q := List.length_drop
  have hrun := run_rest (l.drop q) 4
  obtain ⟨M, hMM⟩ : ∃ M, l.drop q = M := ⟨_, rfl⟩
  obtain ⟨r, hr⟩ : ∃ r, restN M = r := ⟨_, rfl⟩
  have hnum : numL l q 4 = strA (M.take (runL M 4)) := by unfold numL; rw [hMM]
  rw [hMM] at hM hl hrun ⊢
  rw [hr] at hM hrun
  by_cases h4 : r ≤ 4
  · have e4 : runL M 4 = r := by rw [hrun]; omega
    rw [hnum, e4]
    obtain ⟨⟨nv, nk⟩, hN⟩ : ∃ R, numR (strA (M.take r)) = R := ⟨_, rfl⟩
    rw [hN]
    cases nk
    · rw [if_pos rfl, rtail_no hr hN]
    · rw [if_neg (by simp)]
      by_cases he : kd = 3 ∧ q + r < l.length
      · rw [if_pos he, rtail_end hr hN ⟨by have := he.1; omega, by have := he.2; rw [List.length_drop]; omega⟩]
      · rw [if_neg he, rtail_yes hr hN (fun h => he ⟨by have := h.1; omega, by have := h.2; rw [List.length_drop] at this; omega⟩)]
        dsimp only
        rw [ih (q + r) _ (by omega) (by omega), ← hMM, List.drop_drop]
  · have e4 : runL M 4 = 4 := by rw [hrun]; omega
    have hlong := take_long (M := M) (by rw [hr]; omega)
    rw [hr] at hlong
    rw [rtail_no hr hlong, hnum, e4]
    by_cases hn : (numR (strA (M.take 4))).2 = false
    · rw [if_pos hn]
    · rw [if_neg hn]
      have hd := rest_dig M 4 (by rw [hr]; omega)
      rw [← hMM, chr_drop] at hd
      rw [choice_dig l k (q + 4) _ (by omega) hd]
      split <;> rfl

theorem choice_eq (l : List Nat) : ∀ (k q : Nat) (acc : List CaseD), q ≤ l.length → l.length < q + k → choiceF l k q acc = rchF k (l.drop q) acc
  | 0, q, acc, h, hk => by omega
  | k + 1, q, acc, h, hk => by
    have hlen : (l.drop q).length = l.length - q := List.length_drop
    have hc0 := chr_drop l q 0
    have hc1 := chr_drop l q 1
    have hc2 := chr_drop l q 2
    rw [Nat.add_zero] at hc0
    unfold choiceF rchF
    by_cases hlt : q < l.length
    · rw [if_pos hlt, if_neg (show ¬ (l.drop q).length = 0 by omega)]
      obtain ⟨c, hc⟩ : ∃ c, chr l q = c := ⟨_, rfl⟩
      have ih := fun q' acc' (h1 : q + 1 ≤ q') (h2 : q' ≤ l.length) => choice_eq l k q' acc' h2 (by omega)
      rw [hc] at hc0 ⊢
      unfold rhead
      rw [hc0, hc1, hc2]
      have two : ∀ kd : Nat, kd < 3 →
          (if (fieldsR l [c, 97, 98, 78] (q + 1)).ok = false then none else if kd = 3 ∧ (fieldsR l [c, 97, 98, 78] (q + 1)).q < l.length then none else choiceF l k (fieldsR l [c, 97, 98, 78] (q + 1)).q (acc ++ [⟨(kd : Int), (fieldsR l [c, 97, 98, 78] (q + 1)).a, (fieldsR l [c, 97, 98, 78] (q + 1)).b, (fieldsR l [c, 97, 98, 78] (q + 1)).n⟩])) =
          (match (if (l.drop q).length < 3 then none else if (regR (chr l (q + 1))).2 = false ∨ (regR (chr l (q + 2))).2 = false then none else some ((kd : Int), (regR (chr l (q + 1))).1, (regR (chr l (q + 2))).1, (l.drop q).drop 3) : Option (Int × Int × Int × List Nat)) with
            | none => none
            | some (kd, ch, rg, M) => match rtail kd ch rg M with
              | none => none
              | some (c, M') => rchF k M' (acc ++ [c])) := by
        intro kd hkd
        rw [fields_abN]
        dsimp only
        by_cases h1 : q + 1 < l.length
        · rw [adv_lt h1]
          by_cases h2 : q + 1 + 1 < l.length
          · rw [adv_lt h2, if_neg (show ¬ (l.drop q).length < 3 by omega)]
            by_cases hr : (regR (chr l (q + 1))).2 = false ∨ (regR (chr l (q + 2))).2 = false
            · rw [if_pos hr, if_pos]
              rcases hr with hr | hr
              · rw [hr]; rfl
              · rw [show q + 1 + 1 = q + 2 by omega, hr]; simp
            · rw [if_neg hr]
              have hr1 : (regR (chr l (q + 1))).2 = true := by
                cases hb : (regR (chr l (q + 1))).2
                · exact absurd (.inl hb) hr
                · rfl
              have hr2 : (regR (chr l (q + 1 + 1))).2 = true := by
                cases hb : (regR (chr l (q + 1 + 1))).2
                · exact absurd (.inr hb) hr
                · rfl
              rw [hr1, hr2, Bool.true_and, Bool.true_and]
              dsimp only
              rw [List.drop_drop, ← case_num l k (q + 3) kd _ _ acc (by omega) (by omega) (fun q' acc' h1 h2 => ih q' acc' (by omega) h2)]
          · rw [if_pos (show (l.drop q).length < 3 by omega), if_pos]
            rw [reg_end (show l.length ≤ q + 1 + 1 by omega)]
            simp
        · rw [if_pos (show (l.drop q).length < 3 by omega), if_pos]
          rw [reg_end (show l.length ≤ q + 1 by omega)]
          rfl
      by_cases h115 : c = 115
      · subst h115
        rw [cases_s]
        have := two 1 (by omega)
        rw [if_neg (show ¬ (true = false) by simp), if_pos (show (115 : Nat) = 115 ∨ (115 : Nat) = 114 from .inl rfl), if_neg (show ¬ (115 : Nat) = 114 by omega)]
        exact this
      · by_cases h114 : c = 114
        · subst h114
          rw [cases_r]
          have := two 2 (by omega)
          rw [if_neg (show ¬ (true = false) by simp), if_pos (show (114 : Nat) = 115 ∨ (114 : Nat) = 114 from .inr rfl), if_pos (show (114 : Nat) = 114 from rfl)]
          exact this
        · rw [if_neg (show ¬ (c = 115 ∨ c = 114) by omega)]
          by_cases h101 : c = 101
          · subst h101
            rw [cases_e, if_neg (show ¬ (true = false) by simp), if_pos (show (101 : Nat) = 101 from rfl)]
            dsimp only
            rw [fields_N]
            dsimp only
            rw [List.drop_drop]
            exact case_num l k (q + 1) 3 0 0 acc (by omega) (by omega) (fun q' acc' h1 h2 => ih q' acc' (by omega) h2)
          · rw [if_neg h101, if_pos (cases_else h115 h114 h101)]
    · rw [if_neg hlt, if_pos (show (l.drop q).length = 0 by omega)]
end Go.Proofs.YtoflhfiegfhkoaaDoor
namespace Go.Proofs.YtoflhfiegfhkoaaDoor
open Go
set_option linter.unusedVariables false

def lineV (L : List Nat) : Option InstrD := if (lineR L).2 = true then some (lineR L).1 else none
def simpV (op : Int) (F L : List Nat) : Option InstrD := if (simpR op F L).2 = true then some (simpR op F L).1 else none
theorem simpV_none {op : Int} {F L : List Nat} (h : simpF F L 0 0 0 = none) : simpV op F L = none := by unfold simpV simpR; rw [h]; rfl
theorem simpV_some {op : Int} {F L : List Nat} {a b n : Int} {M : List Nat} (h : simpF F L 0 0 0 = some (a, b, n, M)) : simpV op F L = if M.isEmpty = true then some ⟨op, a, b, n, []⟩ else none := by unfold simpV simpR; rw [h]
theorem line_of {L F : List Nat} {op : Nat} (hf : findF (chr L 0 : Int) 0 formsL = (op, F, true)) (h83 : chr L 0 ≠ 83) (h0 : 0 < L.length) :
    lineV L = if ((fieldsR L F 1).ok && decide ((fieldsR L F 1).q = L.length)) = true then some ⟨op, (fieldsR L F 1).a, (fieldsR L F 1).b, (fieldsR L F 1).n, []⟩ else none := by
  unfold lineV lineR
  rw [hf]
  dsimp only
  rw [if_neg (show ¬ (true = false) by simp), if_neg h83, adv_lt h0]
theorem one_of {L : List Nat} {f : RForm} (hf : ∀ M, formF (chr L 0) M rforms = (if (simpR f.op f.args M).2 = true then some (simpR f.op f.args M).1 else none)) (h83 : chr L 0 ≠ 83) : oneR L = simpV f.op f.args (L.drop 1) := by
  unfold oneR simpV
  rw [if_neg h83, hf]

/-- The last number of a line. -/
theorem num_last (L : List Nat) (p : Nat) (hp : p ≤ L.length) (f : Int → InstrD) :
    (if ((numR (numL L p 4)).2 && decide (p + runL (L.drop p) 4 = L.length)) = true then some (f (numR (numL L p 4)).1) else none) =
    (if (numR (strA ((L.drop p).take (restN (L.drop p))))).2 = true then (if ((L.drop p).drop (restN (L.drop p))).isEmpty = true then some (f (numR (strA ((L.drop p).take (restN (L.drop p))))).1) else none) else none) := by
  have hM := restN_le (L.drop p)
  have hl : (L.drop p).length = L.length - p := List.length_drop
  have hrun := run_rest (L.drop p) 4
  unfold numL
  obtain ⟨M, hMM⟩ : ∃ M, L.drop p = M := ⟨_, rfl⟩
  rw [hMM] at hM hl hrun ⊢
  obtain ⟨r, hr⟩ : ∃ r, restN M = r := ⟨_, rfl⟩
  have hlong := take_long (M := M)
  rw [hr] at hM hrun hlong ⊢
  have hemp : (M.drop r).isEmpty = decide (p + r = L.length) := by
    rw [Bool.eq_iff_iff, List.isEmpty_iff, List.drop_eq_nil_iff, decide_eq_true_iff]
    omega
  rw [hemp]
  by_cases h4 : r ≤ 4
  · have e4 : runL M 4 = r := by rw [hrun]; omega
    rw [e4]
    cases (numR (strA (M.take r))).2
    · rfl
    · rw [Bool.true_and, if_pos rfl]
  · have e4 : runL M 4 = 4 := by rw [hrun]; omega
    rw [e4, hlong (by omega)]
    have : decide (p + 4 = L.length) = false := by rw [decide_eq_false_iff_not]; omega
    rw [this, Bool.and_false]
    rfl

theorem shape_none (c0 : Nat) (R : List Nat) (op : Nat) :
    (if ((fieldsR (c0 :: R) [c0] 1).ok && decide ((fieldsR (c0 :: R) [c0] 1).q = (c0 :: R).length)) = true then some (⟨op, (fieldsR (c0 :: R) [c0] 1).a, (fieldsR (c0 :: R) [c0] 1).b, (fieldsR (c0 :: R) [c0] 1).n, []⟩ : InstrD) else none) = simpV op [] R := by
  rw [fields_none, simpV_some (a := 0) (b := 0) (n := 0) (M := R) rfl]
  cases R <;> simp
theorem reg_fail (c0 : Nat) : (regR (chr [c0] 1)).2 = false := reg_end (by simp)
theorem simp_a (x : Nat) (R F : List Nat) (a b n : Int) : simpF (97 :: F) (x :: R) a b n = if (regR (x : Int)).2 = true then simpF F R (regR (x : Int)).1 b n else none := by
  conv => lhs; unfold simpF
  rw [if_neg (by decide), if_neg (by simp), if_neg (by decide), if_pos rfl]
  rfl
theorem simp_b (x : Nat) (R F : List Nat) (a b n : Int) : simpF (98 :: F) (x :: R) a b n = if (regR (x : Int)).2 = true then simpF F R a (regR (x : Int)).1 n else none := by
  conv => lhs; unfold simpF
  rw [if_neg (by decide), if_neg (by simp), if_neg (by decide), if_neg (by decide)]
  rfl
theorem simp_n (x : Nat) (R F : List Nat) (a b n : Int) : simpF (110 :: F) (x :: R) a b n = if (numR (strA [x])).2 = true then simpF F R a b (numR (strA [x])).1 else none := by
  conv => lhs; unfold simpF
  rw [if_neg (by decide), if_neg (by simp), if_pos rfl]
  rfl
theorem simp_nil (c : Nat) (h : c ≠ 78) (F : List Nat) (a b n : Int) : simpF (c :: F) [] a b n = none := by
  conv => lhs; unfold simpF
  rw [if_neg h, if_pos (show ([] : List Nat).length = 0 from rfl)]
theorem simp_N (R F : List Nat) (a b n : Int) : simpF (78 :: F) R a b n = if (numR (strA (R.take (restN R)))).2 = true then simpF F (R.drop (restN R)) a b (numR (strA (R.take (restN R)))).1 else none := by
  conv => lhs; unfold simpF
  rw [if_pos rfl]
theorem shape_N (c0 : Nat) (R : List Nat) (op : Nat) :
    (if ((fieldsR (c0 :: R) [c0, 78] 1).ok && decide ((fieldsR (c0 :: R) [c0, 78] 1).q = (c0 :: R).length)) = true then some (⟨op, (fieldsR (c0 :: R) [c0, 78] 1).a, (fieldsR (c0 :: R) [c0, 78] 1).b, (fieldsR (c0 :: R) [c0, 78] 1).n, []⟩ : InstrD) else none) = simpV op [78] R := by
  rw [fields_N]
  dsimp only
  rw [num_last (c0 :: R) 1 (by simp) (fun n => ⟨op, 0, 0, n, []⟩)]
  show (if (numR (strA (R.take (restN R)))).2 = true then (if (R.drop (restN R)).isEmpty = true then some (⟨op, 0, 0, (numR (strA (R.take (restN R)))).1, []⟩ : InstrD) else none) else none) = _
  by_cases h : (numR (strA (R.take (restN R)))).2 = true
  · rw [if_pos h, simpV_some (a := 0) (b := 0) (n := (numR (strA (R.take (restN R)))).1) (M := R.drop (restN R))]
    rw [simp_N, if_pos h]
    rfl
  · rw [if_neg h, simpV_none]
    rw [simp_N, if_neg h]
theorem shape_a (c0 : Nat) (R : List Nat) (op : Nat) :
    (if ((fieldsR (c0 :: R) [c0, 97] 1).ok && decide ((fieldsR (c0 :: R) [c0, 97] 1).q = (c0 :: R).length)) = true then some (⟨op, (fieldsR (c0 :: R) [c0, 97] 1).a, (fieldsR (c0 :: R) [c0, 97] 1).b, (fieldsR (c0 :: R) [c0, 97] 1).n, []⟩ : InstrD) else none) = simpV op [97] R := by
  rw [fields_a]
  dsimp only
  cases R with
  | nil => rw [reg_fail, simpV_none (simp_nil 97 (by decide) _ _ _ _)]; rfl
  | cons x R =>
    have e : chr (c0 :: x :: R) 1 = x := rfl
    rw [e, adv_lt (by simp)]
    by_cases h : (regR (x : Int)).2 = true
    · rw [h, simpV_some (a := (regR (x : Int)).1) (b := 0) (n := 0) (M := R) (by rw [simp_a, if_pos h]; rfl)]
      cases R <;> simp
    · rw [simpV_none (by rw [simp_a, if_neg h]), if_neg (by simp [h])]
theorem shape_ab (c0 : Nat) (R : List Nat) (op : Nat) :
    (if ((fieldsR (c0 :: R) [c0, 97, 98] 1).ok && decide ((fieldsR (c0 :: R) [c0, 97, 98] 1).q = (c0 :: R).length)) = true then some (⟨op, (fieldsR (c0 :: R) [c0, 97, 98] 1).a, (fieldsR (c0 :: R) [c0, 97, 98] 1).b, (fieldsR (c0 :: R) [c0, 97, 98] 1).n, []⟩ : InstrD) else none) = simpV op [97, 98] R := by
  rw [fields_ab]
  dsimp only
  cases R with
  | nil => rw [reg_fail, simpV_none (simp_nil 97 (by decide) _ _ _ _)]; rfl
  | cons x R =>
    have e : chr (c0 :: x :: R) 1 = x := rfl
    rw [e, adv_lt (by simp)]
    by_cases h : (regR (x : Int)).2 = true
    · cases R with
      | nil =>
        have h2 : (regR (chr [c0, x] (1 + 1))).2 = false := reg_end (by simp)
        rw [h2, simpV_none (by rw [simp_a, if_pos h, simp_nil 98 (by decide)])]
        simp
      | cons y R =>
        have e2 : chr (c0 :: x :: y :: R) (1 + 1) = y := rfl
        rw [e2, adv_lt (by simp)]
        by_cases h2 : (regR (y : Int)).2 = true
        · rw [h, h2, simpV_some (a := (regR (x : Int)).1) (b := (regR (y : Int)).1) (n := 0) (M := R) (by rw [simp_a, if_pos h, simp_b, if_pos h2]; rfl)]
          cases R <;> simp
        · rw [simpV_none (by rw [simp_a, if_pos h, simp_b, if_neg h2]), if_neg (by simp [h2])]
    · rw [simpV_none (by rw [simp_a, if_neg h]), if_neg (by simp [h])]
theorem shape_aN (c0 : Nat) (R : List Nat) (op : Nat) :
    (if ((fieldsR (c0 :: R) [c0, 97, 78] 1).ok && decide ((fieldsR (c0 :: R) [c0, 97, 78] 1).q = (c0 :: R).length)) = true then some (⟨op, (fieldsR (c0 :: R) [c0, 97, 78] 1).a, (fieldsR (c0 :: R) [c0, 97, 78] 1).b, (fieldsR (c0 :: R) [c0, 97, 78] 1).n, []⟩ : InstrD) else none) = simpV op [97, 78] R := by
  rw [fields_aN]
  dsimp only
  cases R with
  | nil => rw [reg_fail, simpV_none (simp_nil 97 (by decide) _ _ _ _)]; rfl
  | cons x R =>
    have e : chr (c0 :: x :: R) 1 = x := rfl
    rw [e, adv_lt (by simp)]
    by_cases h : (regR (x : Int)).2 = true
    · rw [h, Bool.true_and, num_last (c0 :: x :: R) (1 + 1) (by simp) (fun n => ⟨op, (regR (x : Int)).1, 0, n, []⟩)]
      show (if (numR (strA (R.take (restN R)))).2 = true then (if (R.drop (restN R)).isEmpty = true then some (⟨op, (regR (x : Int)).1, 0, (numR (strA (R.take (restN R)))).1, []⟩ : InstrD) else none) else none) = _
      by_cases h2 : (numR (strA (R.take (restN R)))).2 = true
      · rw [if_pos h2, simpV_some (a := (regR (x : Int)).1) (b := 0) (n := (numR (strA (R.take (restN R)))).1) (M := R.drop (restN R)) (by rw [simp_a, if_pos h, simp_N, if_pos h2]; rfl)]
      · rw [if_neg h2, simpV_none (by rw [simp_a, if_pos h, simp_N, if_neg h2])]
    · rw [simpV_none (by rw [simp_a, if_neg h]), if_neg (by simp [h])]
theorem num_one (x : Nat) (h : isDig x = false) : (numR (strA [x])).2 = false ∨ 128 ≤ x := by
  by_cases hx : 128 ≤ x
  · exact .inr hx
  · have ha : ∀ y ∈ [x], y < 128 := by simp; omega
    have hr : runesF (strA [x]) 0 = [x] := by
      have hs : 0 < (strA [x]).size := by rw [strA_size]; simp
      have hb := strA_get [x] 0 hs ha
      have e : chr [x] 0 = x := rfl
      rw [e] at hb
      rw [runesF_step _ 0 hs, decode_ascii _ 0 hs (by rw [hb]; omega), hb]
      rw [runesF_end _ _ (by rw [strA_size]; simp)]
    left
    unfold numR
    rw [hr]
    simp [h]
theorem shape_Da (c0 : Nat) (R : List Nat) (op : Nat) (ha : ∀ x ∈ R, x < 128) :
    (if ((fieldsR (c0 :: R) [c0, 68, 97] 1).ok && decide ((fieldsR (c0 :: R) [c0, 68, 97] 1).q = (c0 :: R).length)) = true then some (⟨op, (fieldsR (c0 :: R) [c0, 68, 97] 1).a, (fieldsR (c0 :: R) [c0, 68, 97] 1).b, (fieldsR (c0 :: R) [c0, 68, 97] 1).n, []⟩ : InstrD) else none) = simpV op [110, 97] R := by
  rw [fields_Da]
  dsimp only
  cases R with
  | nil =>
    rw [simpV_none (simp_nil 110 (by decide) _ _ _ _), if_neg]
    have e : numL [c0] 1 1 = numL [0] 1 1 := rfl
    rw [e]
    have : (numR (numL [0] 1 1)).2 = false := by decide +kernel
    rw [this]
    simp
  | cons x R =>
    have hx := ha x (by simp)
    by_cases hd : isDig x = true
    · have hrun : runL ((c0 :: x :: R).drop 1) 1 = 1 := by
        show runL (x :: R) (0 + 1) = 1
        simp only [runL]
        rw [if_pos hd]
      have hnum : numL (c0 :: x :: R) 1 1 = strA [x] := by
        unfold numL
        rw [hrun]
        rfl
      rw [hrun, hnum]
      by_cases h : (numR (strA [x])).2 = true
      · rw [h, Bool.true_and]
        cases R with
        | nil =>
          have h2 : (regR (chr [c0, x] (1 + 1))).2 = false := reg_end (by simp)
          rw [h2, simpV_none (by rw [simp_n, if_pos h, simp_nil 97 (by decide)])]
          simp
        | cons y R =>
          have e2 : chr (c0 :: x :: y :: R) (1 + 1) = y := rfl
          rw [e2, adv_lt (by simp)]
          by_cases h2 : (regR (y : Int)).2 = true
          · rw [h2, simpV_some (a := (regR (y : Int)).1) (b := 0) (n := (numR (strA [x])).1) (M := R) (by rw [simp_n, if_pos h, simp_a, if_pos h2]; rfl)]
            cases R <;> simp
          · rw [simpV_none (by rw [simp_n, if_pos h, simp_a, if_neg h2]), if_neg (by simp [h2])]
      · rw [simpV_none (by rw [simp_n, if_neg h]), if_neg (by simp [h])]
    · have hd0 : isDig x = false := by simpa using hd
      have hrun : runL ((c0 :: x :: R).drop 1) 1 = 0 := by
        show runL (x :: R) (0 + 1) = 0
        simp only [runL]
        rw [if_neg hd]
      have hnum : numL (c0 :: x :: R) 1 1 = strA [] := by
        unfold numL
        rw [hrun]
        rfl
      have h0 : (numR (strA [])).2 = false := by decide +kernel
      have h1 : (numR (strA [x])).2 = false := by
        rcases num_one x hd0 with h | h
        · exact h
        · omega
      rw [hrun, hnum, h0, simpV_none (by rw [simp_n, if_neg (by rw [h1]; simp)])]
      simp

theorem findF_none (c : Nat) (h : ∀ P ∈ formsL, chr P 0 ≠ c) : ∀ (Ps : List (List Nat)) (i : Nat), (∀ P ∈ Ps, P ∈ formsL) → (findF (c : Int) i Ps).2.2 = false
  | [], _, _ => rfl
  | P :: r, i, hP => by
    unfold findF
    rw [if_neg (by have := h P (hP P (by simp)); omega)]
    exact findF_none c h r (i + 1) (fun Q hQ => hP Q (by simp [hQ]))
theorem formF_none (c : Nat) (M : List Nat) (h : ∀ f ∈ rforms, f.letter ≠ c) : ∀ (l : List RForm), (∀ f ∈ l, f ∈ rforms) → formF c M l = none
  | [], _ => rfl
  | f :: r, hf => by
    unfold formF
    rw [if_neg (h f (hf f (by simp)))]
    exact formF_none c M h r (fun g hg => hf g (by simp [hg]))
theorem forms_letters : ∀ f ∈ rforms, ∃ P ∈ formsL, chr P 0 = f.letter := by decide

/-- A line is the same to both. -/
theorem line_one (L : List Nat) (hL : LineOK L) : lineV L = oneR L := by
  obtain ⟨h0, _, hr⟩ := hL
  cases L with
  | nil => simp at h0
  | cons c R =>
    have hR : ∀ x ∈ R, x < 128 := fun x hx => by have := hr x (by simp [hx]); omega
    have e0 : chr (c :: R) 0 = c := rfl
    by_cases h83 : c = 83
    · subst h83
      have hf : findF ((83 : Nat) : Int) 0 formsL = (21, [83], true) := rfl
      unfold lineV lineR oneR
      rw [e0, hf]
      dsimp only
      rw [if_neg (show ¬ (true = false) by simp), if_pos (show (83 : Nat) = 83 from rfl), if_pos (show (83 : Nat) = 83 from rfl)]
      unfold rchoiceR choiceR
      have hch := choice_eq (83 :: R) ((83 :: R).length + 1) 1 [] (by simp) (by omega)
      rw [adv_lt (by simp), Nat.zero_add, hch]
      have e1 : (83 :: R).drop 1 = R := rfl
      rw [e1]
      have hfu : ∀ (k m : Nat) (M : List Nat) (acc : List CaseD), M.length < k → M.length < m → rchF k M acc = rchF m M acc := by
        intro k
        induction k with
        | zero => intro m M acc h; omega
        | succ k ih =>
          intro m M acc hk hm
          cases m with
          | zero => omega
          | succ m =>
            unfold rchF
            split
            · rfl
            · rename_i hne
              split
              · rfl
              · rename_i kd ch rg T hh
                split
                · rfl
                · rename_i cc M' ht
                  have hT : T.length < M.length := by
                    unfold rhead at hh
                    split at hh
                    · split at hh
                      · cases hh
                      · split at hh
                        · cases hh
                        · rename_i h3 _
                          simp at hh
                          rw [← hh.2.2.2, List.length_drop]
                          omega
                    · split at hh
                      · simp at hh
                        rw [← hh.2.2.2, List.length_tail]
                        omega
                      · cases hh
                  have hM' : M'.length ≤ T.length := by
                    unfold rtail at ht
                    split at ht
                    · cases ht
                    · split at ht
                      · cases ht
                      · simp at ht
                        rw [← ht.2, List.length_drop]
                        omega
                  exact ih m M' _ (by omega) (by omega)
      rw [hfu ((83 :: R).length + 1) (R.length + 1) R [] (by simp; omega) (by omega)]
      cases rchF (R.length + 1) R [] <;> rfl
    · have e1 : (c :: R).drop 1 = R := rfl
      have hn : chr (c :: R) 0 ≠ 83 := h83
      have go : ∀ (op : Nat) (f : RForm) (F : List Nat), findF ((c : Nat) : Int) 0 formsL = (op, F, true) → (∀ M, formF c M rforms = (if (simpR f.op f.args M).2 = true then some (simpR f.op f.args M).1 else none)) →
          (if ((fieldsR (c :: R) F 1).ok && decide ((fieldsR (c :: R) F 1).q = (c :: R).length)) = true then some (⟨op, (fieldsR (c :: R) F 1).a, (fieldsR (c :: R) F 1).b, (fieldsR (c :: R) F 1).n, []⟩ : InstrD) else none) = simpV f.op f.args R → lineV (c :: R) = oneR (c :: R) := by
        intro op f F hf hg hs
        rw [line_of (by rw [e0]; exact hf) hn (by simp), one_of (f := f) (by rw [e0]; exact hg) hn, e1, hs]
      by_cases c1 : c = 61
      · subst c1; exact go 1 ⟨1, 61, [97, 78]⟩ _ rfl (fun _ => rfl) (shape_aN _ _ _)
      by_cases c2 : c = 60
      · subst c2; exact go 2 ⟨2, 60, [97, 98]⟩ _ rfl (fun _ => rfl) (shape_ab _ _ _)
      by_cases c3 : c = 43
      · subst c3; exact go 3 ⟨3, 43, [97, 98]⟩ _ rfl (fun _ => rfl) (shape_ab _ _ _)
      by_cases c4 : c = 109
      · subst c4; exact go 4 ⟨4, 109, [97, 78]⟩ _ rfl (fun _ => rfl) (shape_aN _ _ _)
      by_cases c5 : c = 115
      · subst c5; exact go 5 ⟨5, 115, [97, 98]⟩ _ rfl (fun _ => rfl) (shape_ab _ _ _)
      by_cases c6 : c = 114
      · subst c6; exact go 6 ⟨6, 114, [97, 98]⟩ _ rfl (fun _ => rfl) (shape_ab _ _ _)
      by_cases c7 : c = 99
      · subst c7; exact go 7 ⟨7, 99, [97]⟩ _ rfl (fun _ => rfl) (shape_a _ _ _)
      by_cases c8 : c = 108
      · subst c8; exact go 8 ⟨8, 108, [97, 98]⟩ _ rfl (fun _ => rfl) (shape_ab _ _ _)
      by_cases c9 : c = 107
      · subst c9; exact go 9 ⟨9, 107, [97, 98]⟩ _ rfl (fun _ => rfl) (shape_ab _ _ _)
      by_cases c10 : c = 103
      · subst c10; exact go 10 ⟨10, 103, [78]⟩ _ rfl (fun _ => rfl) (shape_N _ _ _)
      by_cases c11 : c = 106
      · subst c11; exact go 11 ⟨11, 106, [78]⟩ _ rfl (fun _ => rfl) (shape_N _ _ _)
      by_cases c12 : c = 122
      · subst c12; exact go 12 ⟨12, 122, [97, 78]⟩ _ rfl (fun _ => rfl) (shape_aN _ _ _)
      by_cases c13 : c = 111
      · subst c13; exact go 13 ⟨13, 111, [97]⟩ _ rfl (fun _ => rfl) (shape_a _ _ _)
      by_cases c14 : c = 116
      · subst c14; exact go 14 ⟨14, 116, [97, 78]⟩ _ rfl (fun _ => rfl) (shape_aN _ _ _)
      by_cases c15 : c = 98
      · subst c15; exact go 15 ⟨15, 98, [97, 98]⟩ _ rfl (fun _ => rfl) (shape_ab _ _ _)
      by_cases c16 : c = 117
      · subst c16; exact go 16 ⟨16, 117, [97, 98]⟩ _ rfl (fun _ => rfl) (shape_ab _ _ _)
      by_cases c17 : c = 119
      · subst c17; exact go 17 ⟨17, 119, [97, 98]⟩ _ rfl (fun _ => rfl) (shape_ab _ _ _)
      by_cases c18 : c = 112
      · subst c18; exact go 18 ⟨18, 112, [110, 97]⟩ _ rfl (fun _ => rfl) (shape_Da _ _ _ hR)
      by_cases c19 : c = 113
      · subst c19; exact go 19 ⟨19, 113, [97, 78]⟩ _ rfl (fun _ => rfl) (shape_aN _ _ _)
      by_cases c20 : c = 102
      · subst c20; exact go 20 ⟨20, 102, [97, 78]⟩ _ rfl (fun _ => rfl) (shape_aN _ _ _)
      by_cases c22 : c = 120
      · subst c22; exact go 22 ⟨22, 120, []⟩ _ rfl (fun _ => rfl) (shape_none _ _ _)
      have hne : ∀ P ∈ formsL, chr P 0 ≠ c := by
        intro P hP e
        have H : ∀ P ∈ formsL, chr P 0 ∈ [61, 60, 43, 109, 115, 114, 99, 108, 107, 103, 106, 122, 111, 116, 98, 117, 119, 112, 113, 102, 83, 120] := by decide
        have := H P hP
        rw [e] at this
        simp at this
        omega
      have hnf : ∀ f ∈ rforms, f.letter ≠ c := fun f hf e => by
        obtain ⟨P, hP, hc⟩ := forms_letters f hf
        exact hne P hP (hc.trans e)
      unfold lineV lineR oneR
      rw [e0, if_pos (findF_none c hne formsL 0 (fun _ h => h)), if_neg h83, formF_none c _ hnf rforms (fun _ h => h)]
      rfl
end Go.Proofs.YtoflhfiegfhkoaaDoor
