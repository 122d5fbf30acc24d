/-
  Parts of the proof: KTwo, KWri3, KOpen, KRWr2, KRShpA.
-/
import Derived.Deep.Slices
import Derived.Deep.Fields
import Derived.ChangeSame
import Derived.ProofKit
import Derived.OpenShut
import Derived.Test.YtklfboidjnchoaaGreatDoorZ1
import Derived.Test.YtklfboidjnchoaaGreatDoorZ4
import Derived.Test.YtklfboidjnchoaaGreatDoorZ5
namespace Go.Proofs.YtklfboidjnchoaaGreatDoor
open Go
set_option linter.unusedVariables false
theorem chr_drop (l : List Nat) (q j : Nat) : chr (l.drop q) j = chr l (q + j) := by
  unfold chr
  rw [List.getD_eq_getElem?_getD, List.getD_eq_getElem?_getD, List.getElem?_drop]
theorem chr_end {l : List Nat} {q : Nat} (h : l.length ≤ q) : chr l q = 0 := by
  unfold chr
  rw [List.getD_eq_getElem?_getD, List.getElem?_eq_none h]
  rfl
theorem reg_zero : regR ((0 : Nat) : Int) = (0, false) := by unfold regR; rw [if_neg (by omega)]
theorem reg_end {l : List Nat} {q : Nat} (h : l.length ≤ q) : (regR (chr l q)).2 = false := by rw [chr_end h, reg_zero]
theorem adv_lt {l : List Nat} {q : Nat} (h : q < l.length) : adv l q = q + 1 := by unfold adv; rw [if_pos h]
theorem run_rest : ∀ (M : List Nat) (m : Nat), runL M m = min (restN M) m
  | _, 0 => by unfold runL; omega
  | [], m + 1 => by simp [runL, restN]
  | c :: M, m + 1 => by
    have ih := run_rest M m
    simp only [runL]
    unfold restN at ih ⊢
    rw [List.takeWhile_cons]
    by_cases h : isDig c = true
    · rw [if_pos h, if_pos h, ih, List.length_cons]; omega
    · rw [if_neg h, if_neg h]; simp
theorem rest_dig : ∀ (M : List Nat) (j : Nat), j < restN M → isDig (chr M j) = true
  | [], j, h => by simp [restN] at h
  | c :: M, j, h => by
    unfold restN at h
    rw [List.takeWhile_cons] at h
    by_cases hc : isDig c = true
    · rw [if_pos hc, List.length_cons] at h
      cases j with
      | zero => exact hc
      | succ j =>
        have := rest_dig M j (by unfold restN; omega)
        show isDig (chr (c :: M) (j + 1)) = true
        have e : chr (c :: M) (j + 1) = chr M j := by unfold chr; simp
        rw [e]; exact this
    · rw [if_neg hc] at h; simp at h
theorem take_long {M : List Nat} (h : 4 < restN M) : numR (strA (M.take (restN M))) = (0, false) := by
  apply numR_long
  rw [strA_size, List.length_take]
  have := restN_le M
  omega
theorem cases_dig {c : Nat} (h : isDig c = true) : (findF (c : Int) 0 casesL).2.2 = false := by
  simp [isDig] at h
  have e1 : ¬ ((115 : Nat) : Int) = (c : Int) := by omega
  have e2 : ¬ ((114 : Nat) : Int) = (c : Int) := by omega
  have e3 : ¬ ((101 : Nat) : Int) = (c : Int) := by omega
  simp only [casesL, findF]
  show (if ((115 : Nat) : Int) = (c : Int) then (1, [115, 97, 98, 78], true) else if ((114 : Nat) : Int) = (c : Int) then (2, [114, 97, 98, 78], true) else if ((101 : Nat) : Int) = (c : Int) then (3, [101, 78], true) else (0, [], false) : Nat × List Nat × Bool).2.2 = false
  rw [if_neg e1, if_neg e2, if_neg e3]
theorem cases_else {c : Nat} (h1 : c ≠ 115) (h2 : c ≠ 114) (h3 : c ≠ 101) : (findF (c : Int) 0 casesL).2.2 = false := by
  have e1 : ¬ ((115 : Nat) : Int) = (c : Int) := by omega
  have e2 : ¬ ((114 : Nat) : Int) = (c : Int) := by omega
  have e3 : ¬ ((101 : Nat) : Int) = (c : Int) := by omega
  simp only [casesL, findF]
  show (if ((115 : Nat) : Int) = (c : Int) then (1, [115, 97, 98, 78], true) else if ((114 : Nat) : Int) = (c : Int) then (2, [114, 97, 98, 78], true) else if ((101 : Nat) : Int) = (c : Int) then (3, [101, 78], true) else (0, [], false) : Nat × List Nat × Bool).2.2 = false
  rw [if_neg e1, if_neg e2, if_neg e3]
theorem cases_s : findF ((115 : Nat) : Int) 0 casesL = (1, [115, 97, 98, 78], true) := rfl
theorem cases_r : findF ((114 : Nat) : Int) 0 casesL = (2, [114, 97, 98, 78], true) := rfl
theorem cases_e : findF ((101 : Nat) : Int) 0 casesL = (3, [101, 78], true) := rfl
theorem fields_abN (l : List Nat) (c q : Nat) : fieldsR l [c, 97, 98, 78] q =
    ⟨(regR (chr l q)).1, (regR (chr l (adv l q))).1, (numR (numL l (adv l (adv l q)) 4)).1, (regR (chr l q)).2 && (regR (chr l (adv l q))).2 && (numR (numL l (adv l (adv l q)) 4)).2, adv l (adv l q) + runL (l.drop (adv l (adv l q))) 4⟩ := by
  simp [fieldsR, ffold, fstep]
theorem fields_N (l : List Nat) (c q : Nat) : fieldsR l [c, 78] q = ⟨0, 0, (numR (numL l q 4)).1, (numR (numL l q 4)).2, q + runL (l.drop q) 4⟩ := by
  simp [fieldsR, ffold, fstep]
theorem fields_aN (l : List Nat) (c q : Nat) : fieldsR l [c, 97, 78] q = ⟨(regR (chr l q)).1, 0, (numR (numL l (adv l q) 4)).1, (regR (chr l q)).2 && (numR (numL l (adv l q) 4)).2, adv l q + runL (l.drop (adv l q)) 4⟩ := by
  simp [fieldsR, ffold, fstep]
theorem fields_ab (l : List Nat) (c q : Nat) : fieldsR l [c, 97, 98] q = ⟨(regR (chr l q)).1, (regR (chr l (adv l q))).1, 0, (regR (chr l q)).2 && (regR (chr l (adv l q))).2, adv l (adv l q)⟩ := by
  simp [fieldsR, ffold, fstep]
theorem fields_a (l : List Nat) (c q : Nat) : fieldsR l [c, 97] q = ⟨(regR (chr l q)).1, 0, 0, (regR (chr l q)).2, adv l q⟩ := by
  simp [fieldsR, ffold, fstep]
theorem fields_Da (l : List Nat) (c q : Nat) : fieldsR l [c, 68, 97] q = ⟨(regR (chr l (q + runL (l.drop q) 1))).1, 0, (numR (numL l q 1)).1, (numR (numL l q 1)).2 && (regR (chr l (q + runL (l.drop q) 1))).2, adv l (q + runL (l.drop q) 1)⟩ := by
  simp [fieldsR, ffold, fstep]
theorem fields_none (l : List Nat) (c q : Nat) : fieldsR l [c] q = ⟨0, 0, 0, true, q⟩ := by
  simp [fieldsR, ffold, fstep]
theorem choice_dig (l : List Nat) : ∀ (k q : Nat) (acc : List CaseD), q < l.length → isDig (chr l q) = true → choiceF l k q acc = none
  | 0, _, _, _, _ => rfl
  | k + 1, q, acc, h, hd => by
    unfold choiceF
    rw [if_pos h, if_pos (cases_dig hd)]
theorem case_num (l : List Nat) (k q kd : Nat) (ch rg : Int) (acc : List CaseD) (hq : q ≤ l.length) (hk : l.length < q + k)
    (ih : ∀ q' acc', q ≤ q' → q' ≤ l.length → choiceF l k q' acc' = rchF k (l.drop q') acc') :
    (if (numR (numL l q 4)).2 = false then none else if kd = 3 ∧ q + runL (l.drop q) 4 < l.length then none else choiceF l k (q + runL (l.drop q) 4) (acc ++ [⟨(kd : Int), ch, rg, (numR (numL l q 4)).1⟩])) =
    (match rtail (kd : Int) ch rg (l.drop q) with | none => none | some (c, M') => rchF k M' (acc ++ [c])) := by
  have hM := restN_le (l.drop q)
  have hl : (l.drop q).length = l.length - q := List.length_drop
  have hrun := run_rest (l.drop q) 4
  obtain ⟨M, hMM⟩ : ∃ M, l.drop q = M := ⟨_, rfl⟩
  obtain ⟨r, hr⟩ : ∃ r, restN M = r := ⟨_, rfl⟩
  have hnum : numL l q 4 = strA (M.take (runL M 4)) := by unfold numL; rw [hMM]
  rw [hMM] at hM hl hrun ⊢
  rw [hr] at hM hrun
  by_cases h4 : r ≤ 4
  · have e4 : runL M 4 = r := by rw [hrun]; omega
    rw [hnum, e4]
    obtain ⟨⟨nv, nk⟩, hN⟩ : ∃ R, numR (strA (M.take r)) = R := ⟨_, rfl⟩
    rw [hN]
    cases nk
    · rw [if_pos rfl, rtail_no hr hN]
    · rw [if_neg (by simp)]
      by_cases he : kd = 3 ∧ q + r < l.length
      · rw [if_pos he, rtail_end hr hN ⟨by have := he.1; omega, by have := he.2; rw [List.length_drop]; omega⟩]
      · rw [if_neg he, rtail_yes hr hN (fun h => he ⟨by have := h.1; omega, by have := h.2; rw [List.length_drop] at this; omega⟩)]
        dsimp only
        rw [ih (q + r) _ (by omega) (by omega), ← hMM, List.drop_drop]
  · have e4 : runL M 4 = 4 := by rw [hrun]; omega
    have hlong := take_long (M := M) (by rw [hr]; omega)
    rw [hr] at hlong
    rw [rtail_no hr hlong, hnum, e4]
    by_cases hn : (numR (strA (M.take 4))).2 = false
    · rw [if_pos hn]
    · rw [if_neg hn]
      have hd := rest_dig M 4 (by rw [hr]; omega)
      rw [← hMM, chr_drop] at hd
      rw [choice_dig l k (q + 4) _ (by omega) hd]
      split <;> rfl
theorem choice_eq (l : List Nat) : ∀ (k q : Nat) (acc : List CaseD), q ≤ l.length → l.length < q + k → choiceF l k q acc = rchF k (l.drop q) acc
  | 0, q, acc, h, hk => by omega
  | k + 1, q, acc, h, hk => by
    have hlen : (l.drop q).length = l.length - q := List.length_drop
    have hc0 := chr_drop l q 0
    have hc1 := chr_drop l q 1
    have hc2 := chr_drop l q 2
    rw [Nat.add_zero] at hc0
    unfold choiceF rchF
    by_cases hlt : q < l.length
    · rw [if_pos hlt, if_neg (show ¬ (l.drop q).length = 0 by omega)]
      obtain ⟨c, hc⟩ : ∃ c, chr l q = c := ⟨_, rfl⟩
      have ih := fun q' acc' (h1 : q + 1 ≤ q') (h2 : q' ≤ l.length) => choice_eq l k q' acc' h2 (by omega)
      rw [hc] at hc0 ⊢
      unfold rhead
      rw [hc0, hc1, hc2]
      have two : ∀ kd : Nat, kd < 3 →
          (if (fieldsR l [c, 97, 98, 78] (q + 1)).ok = false then none else if kd = 3 ∧ (fieldsR l [c, 97, 98, 78] (q + 1)).q < l.length then none else choiceF l k (fieldsR l [c, 97, 98, 78] (q + 1)).q (acc ++ [⟨(kd : Int), (fieldsR l [c, 97, 98, 78] (q + 1)).a, (fieldsR l [c, 97, 98, 78] (q + 1)).b, (fieldsR l [c, 97, 98, 78] (q + 1)).n⟩])) =
          (match (if (l.drop q).length < 3 then none else if (regR (chr l (q + 1))).2 = false ∨ (regR (chr l (q + 2))).2 = false then none else some ((kd : Int), (regR (chr l (q + 1))).1, (regR (chr l (q + 2))).1, (l.drop q).drop 3) : Option (Int × Int × Int × List Nat)) with
            | none => none
            | some (kd, ch, rg, M) => match rtail kd ch rg M with
              | none => none
              | some (c, M') => rchF k M' (acc ++ [c])) := by
        intro kd hkd
        rw [fields_abN]
        dsimp only
        by_cases h1 : q + 1 < l.length
        · rw [adv_lt h1]
          by_cases h2 : q + 1 + 1 < l.length
          · rw [adv_lt h2, if_neg (show ¬ (l.drop q).length < 3 by omega)]
            by_cases hr : (regR (chr l (q + 1))).2 = false ∨ (regR (chr l (q + 2))).2 = false
            · rw [if_pos hr, if_pos]
              rcases hr with hr | hr
              · rw [hr]; rfl
              · rw [show q + 1 + 1 = q + 2 by omega, hr]; simp
            · rw [if_neg hr]
              have hr1 : (regR (chr l (q + 1))).2 = true := by
                cases hb : (regR (chr l (q + 1))).2
                · exact absurd (.inl hb) hr
                · rfl
              have hr2 : (regR (chr l (q + 1 + 1))).2 = true := by
                cases hb : (regR (chr l (q + 1 + 1))).2
                · exact absurd (.inr hb) hr
                · rfl
              rw [hr1, hr2, Bool.true_and, Bool.true_and]
              dsimp only
              rw [List.drop_drop, ← case_num l k (q + 3) kd _ _ acc (by omega) (by omega) (fun q' acc' h1 h2 => ih q' acc' (by omega) h2)]
          · rw [if_pos (show (l.drop q).length < 3 by omega), if_pos]
            rw [reg_end (show l.length ≤ q + 1 + 1 by omega)]
            simp
        · rw [if_pos (show (l.drop q).length < 3 by omega), if_pos]
          rw [reg_end (show l.length ≤ q + 1 by omega)]
          rfl
      by_cases h115 : c = 115
      · subst h115
        rw [cases_s]
        have := two 1 (by omega)
        rw [if_neg (show ¬ (true = false) by simp), if_pos (show (115 : Nat) = 115 ∨ (115 : Nat) = 114 from .inl rfl), if_neg (show ¬ (115 : Nat) = 114 by omega)]
        exact this
      · by_cases h114 : c = 114
        · subst h114
          rw [cases_r]
          have := two 2 (by omega)
          rw [if_neg (show ¬ (true = false) by simp), if_pos (show (114 : Nat) = 115 ∨ (114 : Nat) = 114 from .inr rfl), if_pos (show (114 : Nat) = 114 from rfl)]
          exact this
        · rw [if_neg (show ¬ (c = 115 ∨ c = 114) by omega)]
          by_cases h101 : c = 101
          · subst h101
            rw [cases_e, if_neg (show ¬ (true = false) by simp), if_pos (show (101 : Nat) = 101 from rfl)]
            dsimp only
            rw [fields_N]
            dsimp only
            rw [List.drop_drop]
            exact case_num l k (q + 1) 3 0 0 acc (by omega) (by omega) (fun q' acc' h1 h2 => ih q' acc' (by omega) h2)
          · rw [if_neg h101, if_pos (cases_else h115 h114 h101)]
    · rw [if_neg hlt, if_pos (show (l.drop q).length = 0 by omega)]
end Go.Proofs.YtklfboidjnchoaaGreatDoor
namespace Go.Proofs.YtklfboidjnchoaaGreatDoor
open Go
set_option linter.unusedVariables false
def lineV (L : List Nat) : Option InstrD := if (lineR L).2 = true then some (lineR L).1 else none
def simpV (op : Int) (F L : List Nat) : Option InstrD := if (simpR op F L).2 = true then some (simpR op F L).1 else none
theorem simpV_none {op : Int} {F L : List Nat} (h : simpF F L 0 0 0 = none) : simpV op F L = none := by unfold simpV simpR; rw [h]; rfl
theorem simpV_some {op : Int} {F L : List Nat} {a b n : Int} {M : List Nat} (h : simpF F L 0 0 0 = some (a, b, n, M)) : simpV op F L = if M.isEmpty = true then some ⟨op, a, b, n, []⟩ else none := by unfold simpV simpR; rw [h]
theorem line_of {L F : List Nat} {op : Nat} (hf : findF (chr L 0 : Int) 0 formsL = (op, F, true)) (h83 : chr L 0 ≠ 83) (h0 : 0 < L.length) :
    lineV L = if ((fieldsR L F 1).ok && decide ((fieldsR L F 1).q = L.length)) = true then some ⟨op, (fieldsR L F 1).a, (fieldsR L F 1).b, (fieldsR L F 1).n, []⟩ else none := by
  unfold lineV lineR
  rw [hf]
  dsimp only
  rw [if_neg (show ¬ (true = false) by simp), if_neg h83, adv_lt h0]
theorem one_of {L : List Nat} {f : RForm} (hf : ∀ M, formF (chr L 0) M rforms = (if (simpR f.op f.args M).2 = true then some (simpR f.op f.args M).1 else none)) (h83 : chr L 0 ≠ 83) : oneR L = simpV f.op f.args (L.drop 1) := by
  unfold oneR simpV
  rw [if_neg h83, hf]
theorem num_last (L : List Nat) (p : Nat) (hp : p ≤ L.length) (f : Int → InstrD) :
    (if ((numR (numL L p 4)).2 && decide (p + runL (L.drop p) 4 = L.length)) = true then some (f (numR (numL L p 4)).1) else none) =
    (if (numR (strA ((L.drop p).take (restN (L.drop p))))).2 = true then (if ((L.drop p).drop (restN (L.drop p))).isEmpty = true then some (f (numR (strA ((L.drop p).take (restN (L.drop p))))).1) else none) else none) := by
  have hM := restN_le (L.drop p)
  have hl : (L.drop p).length = L.length - p := List.length_drop
  have hrun := run_rest (L.drop p) 4
  unfold numL
  obtain ⟨M, hMM⟩ : ∃ M, L.drop p = M := ⟨_, rfl⟩
  rw [hMM] at hM hl hrun ⊢
  obtain ⟨r, hr⟩ : ∃ r, restN M = r := ⟨_, rfl⟩
  have hlong := take_long (M := M)
  rw [hr] at hM hrun hlong ⊢
  have hemp : (M.drop r).isEmpty = decide (p + r = L.length) := by
    rw [Bool.eq_iff_iff, List.isEmpty_iff, List.drop_eq_nil_iff, decide_eq_true_iff]
    omega
  rw [hemp]
  by_cases h4 : r ≤ 4
  · have e4 : runL M 4 = r := by rw [hrun]; omega
    rw [e4]
    cases (numR (strA (M.take r))).2
    · rfl
    · rw [Bool.true_and, if_pos rfl]
  · have e4 : runL M 4 = 4 := by rw [hrun]; omega
    rw [e4, hlong (by omega)]
    have : decide (p + 4 = L.length) = false := by rw [decide_eq_false_iff_not]; omega
    rw [this, Bool.and_false]
    rfl
theorem shape_none (c0 : Nat) (R : List Nat) (op : Nat) :
    (if ((fieldsR (c0 :: R) [c0] 1).ok && decide ((fieldsR (c0 :: R) [c0] 1).q = (c0 :: R).length)) = true then some (⟨op, (fieldsR (c0 :: R) [c0] 1).a, (fieldsR (c0 :: R) [c0] 1).b, (fieldsR (c0 :: R) [c0] 1).n, []⟩ : InstrD) else none) = simpV op [] R := by
  rw [fields_none, simpV_some (a := 0) (b := 0) (n := 0) (M := R) rfl]
  cases R <;> simp
theorem reg_fail (c0 : Nat) : (regR (chr [c0] 1)).2 = false := reg_end (by simp)
theorem simp_a (x : Nat) (R F : List Nat) (a b n : Int) : simpF (97 :: F) (x :: R) a b n = if (regR (x : Int)).2 = true then simpF F R (regR (x : Int)).1 b n else none := by
  conv => lhs; unfold simpF
  rw [if_neg (by decide), if_neg (by simp), if_neg (by decide), if_pos rfl]
  rfl
theorem simp_b (x : Nat) (R F : List Nat) (a b n : Int) : simpF (98 :: F) (x :: R) a b n = if (regR (x : Int)).2 = true then simpF F R a (regR (x : Int)).1 n else none := by
  conv => lhs; unfold simpF
  rw [if_neg (by decide), if_neg (by simp), if_neg (by decide), if_neg (by decide)]
  rfl
theorem simp_n (x : Nat) (R F : List Nat) (a b n : Int) : simpF (110 :: F) (x :: R) a b n = if (numR (strA [x])).2 = true then simpF F R a b (numR (strA [x])).1 else none := by
  conv => lhs; unfold simpF
  rw [if_neg (by decide), if_neg (by simp), if_pos rfl]
  rfl
theorem simp_nil (c : Nat) (h : c ≠ 78) (F : List Nat) (a b n : Int) : simpF (c :: F) [] a b n = none := by
  conv => lhs; unfold simpF
  rw [if_neg h, if_pos (show ([] : List Nat).length = 0 from rfl)]
theorem simp_N (R F : List Nat) (a b n : Int) : simpF (78 :: F) R a b n = if (numR (strA (R.take (restN R)))).2 = true then simpF F (R.drop (restN R)) a b (numR (strA (R.take (restN R)))).1 else none := by
  conv => lhs; unfold simpF
  rw [if_pos rfl]
theorem shape_N (c0 : Nat) (R : List Nat) (op : Nat) :
    (if ((fieldsR (c0 :: R) [c0, 78] 1).ok && decide ((fieldsR (c0 :: R) [c0, 78] 1).q = (c0 :: R).length)) = true then some (⟨op, (fieldsR (c0 :: R) [c0, 78] 1).a, (fieldsR (c0 :: R) [c0, 78] 1).b, (fieldsR (c0 :: R) [c0, 78] 1).n, []⟩ : InstrD) else none) = simpV op [78] R := by
  rw [fields_N]
  dsimp only
  rw [num_last (c0 :: R) 1 (by simp) (fun n => ⟨op, 0, 0, n, []⟩)]
  show (if (numR (strA (R.take (restN R)))).2 = true then (if (R.drop (restN R)).isEmpty = true then some (⟨op, 0, 0, (numR (strA (R.take (restN R)))).1, []⟩ : InstrD) else none) else none) = _
  by_cases h : (numR (strA (R.take (restN R)))).2 = true
  · rw [if_pos h, simpV_some (a := 0) (b := 0) (n := (numR (strA (R.take (restN R)))).1) (M := R.drop (restN R))]
    rw [simp_N, if_pos h]
    rfl
  · rw [if_neg h, simpV_none]
    rw [simp_N, if_neg h]
theorem shape_a (c0 : Nat) (R : List Nat) (op : Nat) :
    (if ((fieldsR (c0 :: R) [c0, 97] 1).ok && decide ((fieldsR (c0 :: R) [c0, 97] 1).q = (c0 :: R).length)) = true then some (⟨op, (fieldsR (c0 :: R) [c0, 97] 1).a, (fieldsR (c0 :: R) [c0, 97] 1).b, (fieldsR (c0 :: R) [c0, 97] 1).n, []⟩ : InstrD) else none) = simpV op [97] R := by
  rw [fields_a]
  dsimp only
  cases R with
  | nil => rw [reg_fail, simpV_none (simp_nil 97 (by decide) _ _ _ _)]; rfl
  | cons x R =>
    have e : chr (c0 :: x :: R) 1 = x := rfl
    rw [e, adv_lt (by simp)]
    by_cases h : (regR (x : Int)).2 = true
    · rw [h, simpV_some (a := (regR (x : Int)).1) (b := 0) (n := 0) (M := R) (by rw [simp_a, if_pos h]; rfl)]
      cases R <;> simp
    · rw [simpV_none (by rw [simp_a, if_neg h]), if_neg (by simp [h])]
theorem shape_ab (c0 : Nat) (R : List Nat) (op : Nat) :
    (if ((fieldsR (c0 :: R) [c0, 97, 98] 1).ok && decide ((fieldsR (c0 :: R) [c0, 97, 98] 1).q = (c0 :: R).length)) = true then some (⟨op, (fieldsR (c0 :: R) [c0, 97, 98] 1).a, (fieldsR (c0 :: R) [c0, 97, 98] 1).b, (fieldsR (c0 :: R) [c0, 97, 98] 1).n, []⟩ : InstrD) else none) = simpV op [97, 98] R := by
  rw [fields_ab]
  dsimp only
  cases R with
  | nil => rw [reg_fail, simpV_none (simp_nil 97 (by decide) _ _ _ _)]; rfl
  | cons x R =>
    have e : chr (c0 :: x :: R) 1 = x := rfl
    rw [e, adv_lt (by simp)]
    by_cases h : (regR (x : Int)).2 = true
    · cases R with
      | nil =>
        have h2 : (regR (chr [c0, x] (1 + 1))).2 = false := reg_end (by simp)
        rw [h2, simpV_none (by rw [simp_a, if_pos h, simp_nil 98 (by decide)])]
        simp
      | cons y R =>
        have e2 : chr (c0 :: x :: y :: R) (1 + 1) = y := rfl
        rw [e2, adv_lt (by simp)]
        by_cases h2 : (regR (y : Int)).2 = true
        · rw [h, h2, simpV_some (a := (regR (x : Int)).1) (b := (regR (y : Int)).1) (n := 0) (M := R) (by rw [simp_a, if_pos h, simp_b, if_pos h2]; rfl)]
          cases R <;> simp
        · rw [simpV_none (by rw [simp_a, if_pos h, simp_b, if_neg h2]), if_neg (by simp [h2])]
    · rw [simpV_none (by rw [simp_a, if_neg h]), if_neg (by simp [h])]
theorem shape_aN (c0 : Nat) (R : List Nat) (op : Nat) :
    (if ((fieldsR (c0 :: R) [c0, 97, 78] 1).ok && decide ((fieldsR (c0 :: R) [c0, 97, 78] 1).q = (c0 :: R).length)) = true then some (⟨op, (fieldsR (c0 :: R) [c0, 97, 78] 1).a, (fieldsR (c0 :: R) [c0, 97, 78] 1).b, (fieldsR (c0 :: R) [c0, 97, 78] 1).n, []⟩ : InstrD) else none) = simpV op [97, 78] R := by
  rw [fields_aN]
  dsimp only
  cases R with
  | nil => rw [reg_fail, simpV_none (simp_nil 97 (by decide) _ _ _ _)]; rfl
  | cons x R =>
    have e : chr (c0 :: x :: R) 1 = x := rfl
    rw [e, adv_lt (by simp)]
    by_cases h : (regR (x : Int)).2 = true
    · rw [h, Bool.true_and, num_last (c0 :: x :: R) (1 + 1) (by simp) (fun n => ⟨op, (regR (x : Int)).1, 0, n, []⟩)]
      show (if (numR (strA (R.take (restN R)))).2 = true then (if (R.drop (restN R)).isEmpty = true then some (⟨op, (regR (x : Int)).1, 0, (numR (strA (R.take (restN R)))).1, []⟩ : InstrD) else none) else none) = _
      by_cases h2 : (numR (strA (R.take (restN R)))).2 = true
      · rw [if_pos h2, simpV_some (a := (regR (x : Int)).1) (b := 0) (n := (numR (strA (R.take (restN R)))).1) (M := R.drop (restN R)) (by rw [simp_a, if_pos h, simp_N, if_pos h2]; rfl)]
      · rw [if_neg h2, simpV_none (by rw [simp_a, if_pos h, simp_N, if_neg h2])]
    · rw [simpV_none (by rw [simp_a, if_neg h]), if_neg (by simp [h])]
theorem num_one (x : Nat) (h : isDig x = false) : (numR (strA [x])).2 = false ∨ 128 ≤ x := by
  by_cases hx : 128 ≤ x
  · exact .inr hx
  · have ha : ∀ y ∈ [x], y < 128 := by simp; omega
    have hr : runesF (strA [x]) 0 = [x] := by
      have hs : 0 < (strA [x]).size := by rw [strA_size]; simp
      have hb := strA_get [x] 0 hs ha
      have e : chr [x] 0 = x := rfl
      rw [e] at hb
      rw [runesF_step _ 0 hs, decode_ascii _ 0 hs (by rw [hb]; omega), hb]
      rw [runesF_end _ _ (by rw [strA_size]; simp)]
    left
    unfold numR
    rw [hr]
    simp [h]
theorem shape_Da (c0 : Nat) (R : List Nat) (op : Nat) (ha : ∀ x ∈ R, x < 128) :
    (if ((fieldsR (c0 :: R) [c0, 68, 97] 1).ok && decide ((fieldsR (c0 :: R) [c0, 68, 97] 1).q = (c0 :: R).length)) = true then some (⟨op, (fieldsR (c0 :: R) [c0, 68, 97] 1).a, (fieldsR (c0 :: R) [c0, 68, 97] 1).b, (fieldsR (c0 :: R) [c0, 68, 97] 1).n, []⟩ : InstrD) else none) = simpV op [110, 97] R := by
  rw [fields_Da]
  dsimp only
  cases R with
  | nil =>
    rw [simpV_none (simp_nil 110 (by decide) _ _ _ _), if_neg]
    have e : numL [c0] 1 1 = numL [0] 1 1 := rfl
    rw [e]
    have : (numR (numL [0] 1 1)).2 = false := by decide +kernel
    rw [this]
    simp
  | cons x R =>
    have hx := ha x (by simp)
    by_cases hd : isDig x = true
    · have hrun : runL ((c0 :: x :: R).drop 1) 1 = 1 := by
        show runL (x :: R) (0 + 1) = 1
        simp only [runL]
        rw [if_pos hd]
      have hnum : numL (c0 :: x :: R) 1 1 = strA [x] := by
        unfold numL
        rw [hrun]
        rfl
      rw [hrun, hnum]
      by_cases h : (numR (strA [x])).2 = true
      · rw [h, Bool.true_and]
        cases R with
        | nil =>
          have h2 : (regR (chr [c0, x] (1 + 1))).2 = false := reg_end (by simp)
          rw [h2, simpV_none (by rw [simp_n, if_pos h, simp_nil 97 (by decide)])]
          simp
        | cons y R =>
          have e2 : chr (c0 :: x :: y :: R) (1 + 1) = y := rfl
          rw [e2, adv_lt (by simp)]
          by_cases h2 : (regR (y : Int)).2 = true
          · rw [h2, simpV_some (a := (regR (y : Int)).1) (b := 0) (n := (numR (strA [x])).1) (M := R) (by rw [simp_n, if_pos h, simp_a, if_pos h2]; rfl)]
            cases R <;> simp
          · rw [simpV_none (by rw [simp_n, if_pos h, simp_a, if_neg h2]), if_neg (by simp [h2])]
      · rw [simpV_none (by rw [simp_n, if_neg h]), if_neg (by simp [h])]
    · have hd0 : isDig x = false := by simpa using hd
      have hrun : runL ((c0 :: x :: R).drop 1) 1 = 0 := by
        show runL (x :: R) (0 + 1) = 0
        simp only [runL]
        rw [if_neg hd]
      have hnum : numL (c0 :: x :: R) 1 1 = strA [] := by
        unfold numL
        rw [hrun]
        rfl
      have h0 : (numR (strA [])).2 = false := by decide +kernel
      have h1 : (numR (strA [x])).2 = false := by
        rcases num_one x hd0 with h | h
        · exact h
        · omega
      rw [hrun, hnum, h0, simpV_none (by rw [simp_n, if_neg (by rw [h1]; simp)])]
      simp
theorem findF_none (c : Nat) (h : ∀ P ∈ formsL, chr P 0 ≠ c) : ∀ (Ps : List (List Nat)) (i : Nat), (∀ P ∈ Ps, P ∈ formsL) → (findF (c : Int) i Ps).2.2 = false
  | [], _, _ => rfl
  | P :: r, i, hP => by
    unfold findF
    rw [if_neg (by have := h P (hP P (by simp)); omega)]
    exact findF_none c h r (i + 1) (fun Q hQ => hP Q (by simp [hQ]))
theorem formF_none (c : Nat) (M : List Nat) (h : ∀ f ∈ rforms, f.letter ≠ c) : ∀ (l : List RForm), (∀ f ∈ l, f ∈ rforms) → formF c M l = none
  | [], _ => rfl
  | f :: r, hf => by
    unfold formF
    rw [if_neg (h f (hf f (by simp)))]
    exact formF_none c M h r (fun g hg => hf g (by simp [hg]))
theorem forms_letters : ∀ f ∈ rforms, ∃ P ∈ formsL, chr P 0 = f.letter := by decide
theorem line_one (L : List Nat) (hL : LineOK L) : lineV L = oneR L := by
  obtain ⟨h0, _, hr⟩ := hL
  cases L with
  | nil => simp at h0
  | cons c R =>
    have hR : ∀ x ∈ R, x < 128 := fun x hx => by have := hr x (by simp [hx]); omega
    have e0 : chr (c :: R) 0 = c := rfl
    by_cases h83 : c = 83
    · subst h83
      have hf : findF ((83 : Nat) : Int) 0 formsL = (21, [83], true) := rfl
      unfold lineV lineR oneR
      rw [e0, hf]
      dsimp only
      rw [if_neg (show ¬ (true = false) by simp), if_pos (show (83 : Nat) = 83 from rfl), if_pos (show (83 : Nat) = 83 from rfl)]
      unfold rchoiceR choiceR
      have hch := choice_eq (83 :: R) ((83 :: R).length + 1) 1 [] (by simp) (by omega)
      rw [adv_lt (by simp), Nat.zero_add, hch]
      have e1 : (83 :: R).drop 1 = R := rfl
      rw [e1]
      have hfu : ∀ (k m : Nat) (M : List Nat) (acc : List CaseD), M.length < k → M.length < m → rchF k M acc = rchF m M acc := by
        intro k
        induction k with
        | zero => intro m M acc h; omega
        | succ k ih =>
          intro m M acc hk hm
          cases m with
          | zero => omega
          | succ m =>
            unfold rchF
            split
            · rfl
            · rename_i hne
              split
              · rfl
              · rename_i kd ch rg T hh
                split
                · rfl
                · rename_i cc M' ht
                  have hT : T.length < M.length := by
                    unfold rhead at hh
                    split at hh
                    · split at hh
                      · cases hh
                      · split at hh
                        · cases hh
                        · rename_i h3 _
                          simp at hh
                          rw [← hh.2.2.2, List.length_drop]
                          omega
                    · split at hh
                      · simp at hh
                        rw [← hh.2.2.2, List.length_tail]
                        omega
                      · cases hh
                  have hM' : M'.length ≤ T.length := by
                    unfold rtail at ht
                    split at ht
                    · cases ht
                    · split at ht
                      · cases ht
                      · simp at ht
                        rw [← ht.2, List.length_drop]
                        omega
                  exact ih m M' _ (by omega) (by omega)
      rw [hfu ((83 :: R).length + 1) (R.length + 1) R [] (by simp; omega) (by omega)]
      cases rchF (R.length + 1) R [] <;> rfl
    · have e1 : (c :: R).drop 1 = R := rfl
      have hn : chr (c :: R) 0 ≠ 83 := h83
      have go : ∀ (op : Nat) (f : RForm) (F : List Nat), findF ((c : Nat) : Int) 0 formsL = (op, F, true) → (∀ M, formF c M rforms = (if (simpR f.op f.args M).2 = true then some (simpR f.op f.args M).1 else none)) →
          (if ((fieldsR (c :: R) F 1).ok && decide ((fieldsR (c :: R) F 1).q = (c :: R).length)) = true then some (⟨op, (fieldsR (c :: R) F 1).a, (fieldsR (c :: R) F 1).b, (fieldsR (c :: R) F 1).n, []⟩ : InstrD) else none) = simpV f.op f.args R → lineV (c :: R) = oneR (c :: R) := by
        intro op f F hf hg hs
        rw [line_of (by rw [e0]; exact hf) hn (by simp), one_of (f := f) (by rw [e0]; exact hg) hn, e1, hs]
      by_cases c1 : c = 61
      · subst c1; exact go 1 ⟨1, 61, [97, 78]⟩ _ rfl (fun _ => rfl) (shape_aN _ _ _)
      by_cases c2 : c = 60
      · subst c2; exact go 2 ⟨2, 60, [97, 98]⟩ _ rfl (fun _ => rfl) (shape_ab _ _ _)
      by_cases c3 : c = 43
      · subst c3; exact go 3 ⟨3, 43, [97, 98]⟩ _ rfl (fun _ => rfl) (shape_ab _ _ _)
      by_cases c4 : c = 109
      · subst c4; exact go 4 ⟨4, 109, [97, 78]⟩ _ rfl (fun _ => rfl) (shape_aN _ _ _)
      by_cases c5 : c = 115
      · subst c5; exact go 5 ⟨5, 115, [97, 98]⟩ _ rfl (fun _ => rfl) (shape_ab _ _ _)
      by_cases c6 : c = 114
      · subst c6; exact go 6 ⟨6, 114, [97, 98]⟩ _ rfl (fun _ => rfl) (shape_ab _ _ _)
      by_cases c7 : c = 99
      · subst c7; exact go 7 ⟨7, 99, [97]⟩ _ rfl (fun _ => rfl) (shape_a _ _ _)
      by_cases c8 : c = 108
      · subst c8; exact go 8 ⟨8, 108, [97, 98]⟩ _ rfl (fun _ => rfl) (shape_ab _ _ _)
      by_cases c9 : c = 107
      · subst c9; exact go 9 ⟨9, 107, [97, 98]⟩ _ rfl (fun _ => rfl) (shape_ab _ _ _)
      by_cases c10 : c = 103
      · subst c10; exact go 10 ⟨10, 103, [78]⟩ _ rfl (fun _ => rfl) (shape_N _ _ _)
      by_cases c11 : c = 106
      · subst c11; exact go 11 ⟨11, 106, [78]⟩ _ rfl (fun _ => rfl) (shape_N _ _ _)
      by_cases c12 : c = 122
      · subst c12; exact go 12 ⟨12, 122, [97, 78]⟩ _ rfl (fun _ => rfl) (shape_aN _ _ _)
      by_cases c13 : c = 111
      · subst c13; exact go 13 ⟨13, 111, [97]⟩ _ rfl (fun _ => rfl) (shape_a _ _ _)
      by_cases c14 : c = 116
      · subst c14; exact go 14 ⟨14, 116, [97, 78]⟩ _ rfl (fun _ => rfl) (shape_aN _ _ _)
      by_cases c15 : c = 98
      · subst c15; exact go 15 ⟨15, 98, [97, 98]⟩ _ rfl (fun _ => rfl) (shape_ab _ _ _)
      by_cases c16 : c = 117
      · subst c16; exact go 16 ⟨16, 117, [97, 98]⟩ _ rfl (fun _ => rfl) (shape_ab _ _ _)
      by_cases c17 : c = 119
      · subst c17; exact go 17 ⟨17, 119, [97, 98]⟩ _ rfl (fun _ => rfl) (shape_ab _ _ _)
      by_cases c18 : c = 112
      · subst c18; exact go 18 ⟨18, 112, [110, 97]⟩ _ rfl (fun _ => rfl) (shape_Da _ _ _ hR)
      by_cases c19 : c = 113
      · subst c19; exact go 19 ⟨19, 113, [97, 78]⟩ _ rfl (fun _ => rfl) (shape_aN _ _ _)
      by_cases c20 : c = 102
      · subst c20; exact go 20 ⟨20, 102, [97, 78]⟩ _ rfl (fun _ => rfl) (shape_aN _ _ _)
      by_cases c22 : c = 120
      · subst c22; exact go 22 ⟨22, 120, []⟩ _ rfl (fun _ => rfl) (shape_none _ _ _)
      have hne : ∀ P ∈ formsL, chr P 0 ≠ c := by
        intro P hP e
        have H : ∀ P ∈ formsL, chr P 0 ∈ [61, 60, 43, 109, 115, 114, 99, 108, 107, 103, 106, 122, 111, 116, 98, 117, 119, 112, 113, 102, 83, 120] := by decide
        have := H P hP
        rw [e] at this
        simp at this
        omega
      have hnf : ∀ f ∈ rforms, f.letter ≠ c := fun f hf e => by
        obtain ⟨P, hP, hc⟩ := forms_letters f hf
        exact hne P hP (hc.trans e)
      unfold lineV lineR oneR
      rw [e0, if_pos (findF_none c hne formsL 0 (fun _ h => h)), if_neg h83, formF_none c _ hnf rforms (fun _ h => h)]
      rfl
end Go.Proofs.YtklfboidjnchoaaGreatDoor
namespace Go.Proofs.YtklfboidjnchoaaGreatDoor
open Go
set_option linter.unusedVariables false
set_option linter.unusedSimpArgs false
def letterN (r : Int) : Nat := if r < 0 ∨ 6 ≤ r then 63 else 97 + r.toNat
def decN (n : Nat) : List Nat := (digs n).map (48 + ·)
def argW (x : InstrD) (c : Nat) : List Nat := if c = 97 then [letterN x.a] else if c = 98 then [letterN x.b] else decN x.n.toNat
def caseH (c : CaseD) : List Nat := if c.kind = 1 then [115, letterN c.ch, letterN c.reg] else if c.kind = 2 then [114, letterN c.ch, letterN c.reg] else [101]
def caseW (c : CaseD) : List Nat := caseH c ++ decN c.dest.toNat
def formW (x : InstrD) : List RForm → List Nat
  | [] => [63]
  | f :: r => if (f.op : Int) = x.op then f.letter :: f.args.flatMap (argW x) else formW x r
def rW (x : InstrD) : List Nat := if x.op = 21 then 83 :: x.cases.flatMap caseW else formW x rforms
theorem strA_decN (n : Nat) : strA (decN n) = decB n := by
  rw [decB_digs]
  unfold strA strD decN
  rw [List.map_map]
  rfl
theorem decN_dig (n : Nat) : ∀ c ∈ decN n, isDig c = true ∧ 48 ≤ c ∧ c ≤ 57 := by
  intro c hc
  unfold decN at hc
  obtain ⟨d, hd, rfl⟩ := List.mem_map.1 hc
  have := digs_lt n d hd
  refine ⟨by unfold isDig; simp; omega, by omega, by omega⟩
theorem decN_len (n : Nat) : 1 ≤ (decN n).length := by unfold decN; rw [List.length_map]; exact (digs_len n).1
theorem letter_reg {r : Int} (h : 0 ≤ r ∧ r < 6) : regR (letterN r : Int) = (r, true) := by
  have e : (letterN r : Int) = 97 + r := by unfold letterN; rw [if_neg (by omega)]; omega
  unfold regR
  rw [e, if_pos (by omega)]
  congr 1
  omega
theorem letterN_sign (r : Int) : 63 ≤ letterN r ∧ letterN r ≤ 102 := by unfold letterN; split <;> omega
theorem num_dec {n : Nat} (h : n < 10000) : numR (strA (decN n)) = ((n : Int), true) := by
  rw [strA_decN, decB_digs, numR_digs (digs n) (digs_lt n) (digs_len n).1 ((digs_len n).2 3 (by simpa using h)), fold10_digs]
theorem takeWhile_all {p : Nat → Bool} : ∀ (D T : List Nat), (∀ c ∈ D, p c = true) → (D ++ T).takeWhile p = D ++ T.takeWhile p
  | [], T, _ => rfl
  | c :: D, T, h => by
    rw [List.cons_append, List.takeWhile_cons, if_pos (h c (List.mem_cons_self ..)), takeWhile_all D T (fun x hx => h x (List.mem_cons_of_mem _ hx))]
    rfl
theorem rest_dec (n : Nat) (T : List Nat) (hT : restN T = 0) : restN (decN n ++ T) = (decN n).length := by
  unfold restN at hT ⊢
  rw [takeWhile_all _ _ (fun c hc => (decN_dig n c hc).1), List.length_append, hT]
  rfl
theorem rest_nil : restN [] = 0 := rfl
theorem take_dec (n : Nat) (T : List Nat) : (decN n ++ T).take (decN n).length = decN n := by simp
theorem drop_dec (n : Nat) (T : List Nat) : (decN n ++ T).drop (decN n).length = T := by simp
theorem rest_sign {c : Nat} (T : List Nat) (h : isDig c = false) : restN (c :: T) = 0 := by unfold restN; rw [List.takeWhile_cons, if_neg (by rw [h]; simp)]; rfl
theorem go_a {r : Int} (h : 0 ≤ r ∧ r < 6) (F R : List Nat) (a b n : Int) : simpF (97 :: F) (letterN r :: R) a b n = simpF F R r b n := by rw [simp_a, letter_reg h, if_pos rfl]
theorem go_b {r : Int} (h : 0 ≤ r ∧ r < 6) (F R : List Nat) (a b n : Int) : simpF (98 :: F) (letterN r :: R) a b n = simpF F R a r n := by rw [simp_b, letter_reg h, if_pos rfl]
theorem go_N {m : Nat} (h : m < 10000) (F : List Nat) (a b n : Int) : simpF (78 :: F) (decN m) a b n = simpF F [] a b m := by
  have hr := rest_dec m [] rest_nil
  have ht := take_dec m []
  have hd := drop_dec m []
  rw [List.append_nil] at hr ht hd
  rw [simp_N, hr, ht, num_dec h, if_pos rfl, hd]
theorem dec_one {m : Nat} (h : m < 10) : decN m = [48 + m] := by unfold decN; rw [digs_small h]; rfl
theorem go_n {m : Nat} (h : m < 10) (F R : List Nat) (a b n : Int) : simpF (110 :: F) (decN m ++ R) a b n = simpF F R a b m := by
  have hn := num_dec (n := m) (by omega)
  rw [dec_one h] at hn ⊢
  rw [List.singleton_append, simp_n, hn, if_pos rfl]
theorem rforms_letters : (rforms.map (·.letter)).Nodup := by decide
theorem rforms_83 : ∀ f ∈ rforms, f.letter ≠ 83 := by decide
theorem rforms_args : ∀ f ∈ rforms, f.args = [97, 78] ∨ f.args = [97, 98] ∨ f.args = [97] ∨ f.args = [78] ∨ f.args = [110, 97] ∨ f.args = [] := by decide
theorem formF_mem (M : List Nat) : ∀ (l : List RForm), (l.map (·.letter)).Nodup → ∀ f ∈ l, formF f.letter M l = if (simpR f.op f.args M).2 = true then some (simpR f.op f.args M).1 else none
  | [], _, f, hf => by simp at hf
  | g :: r, hn, f, hf => by
    rw [List.map_cons, List.nodup_cons] at hn
    unfold formF
    rcases List.mem_cons.1 hf with rfl | hr
    · rw [if_pos rfl]
    · have : ¬ g.letter = f.letter := by
        intro e
        apply hn.1
        rw [e]
        exact List.mem_map_of_mem hr
      rw [if_neg this]
      exact formF_mem M r hn.2 f hr
theorem one_letter (f : RForm) (hf : f ∈ rforms) (T : List Nat) : oneR (f.letter :: T) = simpV f.op f.args T := by
  have h := one_of (L := f.letter :: T) (f := f) (fun M => formF_mem M rforms rforms_letters f hf) (rforms_83 f hf)
  exact h
theorem rshF_some (x : InstrD) : ∀ (l : List RForm), rshF x l = true → ∃ f ∈ l, (f.op : Int) = x.op ∧ rsh f x = true ∧ formW x l = f.letter :: f.args.flatMap (argW x)
  | [], h => by cases h
  | f :: r, h => by
    unfold rshF at h
    unfold formW
    split at h
    · rename_i e
      rw [if_pos e]
      exact ⟨f, List.mem_cons_self .., e, h, rfl⟩
    · rename_i e
      rw [if_neg e]
      obtain ⟨g, hg, h1, h2, h3⟩ := rshF_some x r h
      exact ⟨g, List.mem_cons_of_mem _ hg, h1, h2, h3⟩
theorem rwith_iff {v n : Int} : rwith v n = true ↔ 0 ≤ v ∧ v < n := by unfold rwith; simp
theorem rsh_iff {f : RForm} {x : InstrD} : rsh f x = true ↔ ((0 ≤ x.a ∧ x.a < 6) ∧ (0 ≤ x.b ∧ x.b < 6) ∧ (0 ≤ x.n ∧ x.n < 10000) ∧ x.cases = []) ∧ (f.args.contains 97 = true ∨ x.a = 0) ∧ (f.args.contains 98 = true ∨ x.b = 0) ∧ ((f.args.contains 78 = true ∨ f.args.contains 110 = true) ∨ x.n = 0) ∧ (f.args.contains 110 = true → x.n < 10) := by
  unfold rsh
  simp only [Bool.and_eq_true, rwith_iff, Bool.or_eq_true, beq_iff_eq, Bool.not_eq_true', decide_eq_true_eq, List.length_eq_zero_iff]
  constructor
  · rintro ⟨⟨⟨⟨⟨⟨⟨h1, h2⟩, h3⟩, h4⟩, h5⟩, h6⟩, h7⟩, h8⟩
    exact ⟨⟨h1, h2, h3, h4⟩, h5, h6, h7, fun hd => h8.resolve_left (by rw [hd]; simp)⟩
  · rintro ⟨⟨h1, h2, h3, h4⟩, h5, h6, h7, h8⟩
    refine ⟨⟨⟨⟨⟨⟨⟨h1, h2⟩, h3⟩, h4⟩, h5⟩, h6⟩, h7⟩, ?_⟩
    by_cases hd : f.args.contains 110 = true
    · exact .inr (h8 hd)
    · exact .inl (by simpa using hd)
theorem back_form {x : InstrD} (h21 : x.op ≠ 21) (h : rshaped x = true) : oneR (rW x) = some x := by
  unfold rshaped at h
  rw [if_neg h21] at h
  obtain ⟨f, hf, hop, hs, hW⟩ := rshF_some x rforms h
  unfold rW
  rw [if_neg h21, hW, one_letter f hf]
  rw [rsh_iff] at hs
  obtain ⟨⟨ha, hb, hn, hc⟩, g1, g2, g3, g4⟩ := hs
  obtain ⟨m, hm⟩ : ∃ m : Nat, x.n = (m : Int) := ⟨x.n.toNat, by omega⟩
  have hmt : x.n.toNat = m := by omega
  have hm4 : m < 10000 := by omega
  obtain ⟨xo, xa, xb, xn, xc⟩ := x
  dsimp only at ha hb hn hc hop g1 g2 g3 g4 hm hmt
  subst hm hc
  rcases rforms_args f hf with e | e | e | e | e | e <;> rw [e] at g1 g2 g3 g4 ⊢ <;> simp at g1 g2 g3 g4
  · have hb0 : xb = 0 := g2
    subst hb0
    have : [97, 78].flatMap (argW ⟨xo, xa, 0, (m : Int), []⟩) = letterN xa :: decN m := by simp [argW]
    rw [this, simpV_some (a := xa) (b := 0) (n := m) (M := []) (by rw [go_a ha, go_N hm4]; rfl), hop]
    rfl
  · obtain rfl : m = 0 := by omega
    have : [97, 98].flatMap (argW ⟨xo, xa, xb, ((0 : Nat) : Int), []⟩) = [letterN xa, letterN xb] := by simp [argW]
    rw [this, simpV_some (a := xa) (b := xb) (n := 0) (M := []) (by rw [go_a ha, go_b hb]; rfl), hop]
    rfl
  · obtain rfl : m = 0 := by omega
    obtain rfl : xb = 0 := g2
    have : [97].flatMap (argW ⟨xo, xa, 0, ((0 : Nat) : Int), []⟩) = [letterN xa] := by simp [argW]
    rw [this, simpV_some (a := xa) (b := 0) (n := 0) (M := []) (by rw [go_a ha]; rfl), hop]
    rfl
  · obtain rfl : xa = 0 := g1
    obtain rfl : xb = 0 := g2
    have : [78].flatMap (argW ⟨xo, 0, 0, (m : Int), []⟩) = decN m := by simp [argW]
    rw [this, simpV_some (a := 0) (b := 0) (n := m) (M := []) (by rw [go_N hm4]; rfl), hop]
    rfl
  · obtain rfl : xb = 0 := g2
    have hm10 : m < 10 := by omega
    have : [110, 97].flatMap (argW ⟨xo, xa, 0, (m : Int), []⟩) = decN m ++ [letterN xa] := by simp [argW]
    rw [this, simpV_some (a := xa) (b := 0) (n := m) (M := []) (by rw [go_n hm10, go_a ha]; rfl), hop]
    rfl
  · obtain rfl : m = 0 := by omega
    obtain rfl : xa = 0 := g1
    obtain rfl : xb = 0 := g2
    have : ([] : List Nat).flatMap (argW ⟨xo, 0, 0, ((0 : Nat) : Int), []⟩) = [] := rfl
    rw [this, simpV_some (a := 0) (b := 0) (n := 0) (M := []) rfl, hop]
    rfl
end Go.Proofs.YtklfboidjnchoaaGreatDoor
namespace Go.Proofs.YtklfboidjnchoaaGreatDoor
open Go
set_option linter.unusedVariables false
set_option linter.unusedSimpArgs false
def caseSt (c : CaseD) : Prop := (0 ≤ c.dest ∧ c.dest < 10000) ∧ ((c.kind = 1 ∨ c.kind = 2) ∧ (0 ≤ c.ch ∧ c.ch < 6) ∧ (0 ≤ c.reg ∧ c.reg < 6) ∨ c.kind = 3 ∧ c.ch = 0 ∧ c.reg = 0)
theorem rcaseOk_iff {n i : Nat} {c : CaseD} : rcaseOk n i c = true ↔ caseSt c ∧ (c.kind = 3 → (i : Int) = (n : Int) - 1) := by
  unfold rcaseOk caseSt
  simp only [Bool.and_eq_true, rwith_iff, decide_eq_true_eq, Bool.or_eq_true, Bool.not_eq_true', beq_eq_false_iff_ne, beq_iff_eq]
  constructor
  · rintro ⟨⟨⟨⟨⟨h1, h2⟩, h3⟩, h4⟩, h5⟩, h6⟩
    rcases h6 with h6 | ⟨⟨h6, h7⟩, h8⟩
    · exact ⟨⟨h5, .inl ⟨by omega, h3, h4⟩⟩, fun h => absurd h h6⟩
    · by_cases h9 : c.kind = 3
      · exact ⟨⟨h5, .inr ⟨h9, h6, h7⟩⟩, fun _ => h8⟩
      · exact ⟨⟨h5, .inl ⟨by omega, h3, h4⟩⟩, fun _ => h8⟩
  · rintro ⟨⟨h5, h⟩, h8⟩
    rcases h with ⟨h1, h3, h4⟩ | ⟨h1, h3, h4⟩
    · exact ⟨⟨⟨⟨⟨by omega, by omega⟩, h3⟩, h4⟩, h5⟩, .inl (by omega)⟩
    · exact ⟨⟨⟨⟨⟨by omega, by omega⟩, by omega⟩, by omega⟩, h5⟩, .inr ⟨⟨h3, h4⟩, h8 h1⟩⟩
theorem rcasF_iff (n : Nat) : ∀ (cs : List CaseD) (i : Nat) (ok : Bool), rcasF n i ok cs = true ↔ ok = true ∧ ∀ j c, cs[j]? = some c → rcaseOk n (i + j) c = true
  | [], i, ok => by simp [rcasF]
  | c :: r, i, ok => by
    simp only [rcasF]
    rw [rcasF_iff n r (i + 1) _, Bool.and_eq_true]
    constructor
    · rintro ⟨⟨h1, h2⟩, h3⟩
      refine ⟨h1, fun j x hj => ?_⟩
      cases j with
      | zero => simp at hj; subst hj; exact h2
      | succ j => rw [show i + (j + 1) = i + 1 + j by omega]; exact h3 j x (by simpa using hj)
    · rintro ⟨h1, h2⟩
      refine ⟨⟨h1, h2 0 c rfl⟩, fun j x hj => ?_⟩
      rw [show i + 1 + j = i + (j + 1) by omega]
      exact h2 (j + 1) x (by simpa using hj)
theorem rshaped_21 {x : InstrD} (h21 : x.op = 21) : rshaped x = true ↔ (x.a = 0 ∧ x.b = 0 ∧ x.n = 0 ∧ 0 < x.cases.length) ∧ ∀ (j : Nat) c, x.cases[j]? = some c → caseSt c ∧ (c.kind = 3 → (j : Int) = (x.cases.length : Int) - 1) := by
  unfold rshaped
  rw [if_pos h21, rcasF_iff]
  simp only [Bool.and_eq_true, beq_iff_eq, decide_eq_true_eq, Nat.zero_add, rcaseOk_iff]
  constructor
  · rintro ⟨⟨⟨⟨h1, h2⟩, h3⟩, h4⟩, h5⟩; exact ⟨⟨h1, h2, h3, h4⟩, h5⟩
  · rintro ⟨⟨h1, h2, h3, h4⟩, h5⟩; exact ⟨⟨⟨⟨h1, h2⟩, h3⟩, h4⟩, h5⟩
theorem caseW_sign (c : CaseD) (T : List Nat) : restN (caseW c ++ T) = 0 := by
  unfold caseW caseH
  split
  · exact rest_sign _ rfl
  · split
    · exact rest_sign _ rfl
    · exact rest_sign _ rfl
theorem tail_sign : ∀ cs : List CaseD, restN (cs.flatMap caseW) = 0
  | [] => rfl
  | c :: r => by rw [List.flatMap_cons]; exact caseW_sign c _
theorem rhead_case {c : CaseD} (h : caseSt c) (T : List Nat) : rhead (caseW c ++ T) = some (c.kind, c.ch, c.reg, decN c.dest.toNat ++ T) := by
  obtain ⟨_, h⟩ := h
  unfold caseW caseH rhead
  rcases h with ⟨h1, h3, h4⟩ | ⟨h1, h3, h4⟩
  · rcases h1 with h1 | h1
    · rw [if_pos h1]
      have e0 : chr ([115, letterN c.ch, letterN c.reg] ++ decN c.dest.toNat ++ T) 0 = 115 := rfl
      have e1 : chr ([115, letterN c.ch, letterN c.reg] ++ decN c.dest.toNat ++ T) 1 = letterN c.ch := rfl
      have e2 : chr ([115, letterN c.ch, letterN c.reg] ++ decN c.dest.toNat ++ T) 2 = letterN c.reg := rfl
      rw [e0, e1, e2, letter_reg h3, letter_reg h4, h1]
      simp
    · rw [if_neg (show ¬ c.kind = 1 by omega), if_pos h1]
      have e0 : chr ([114, letterN c.ch, letterN c.reg] ++ decN c.dest.toNat ++ T) 0 = 114 := rfl
      have e1 : chr ([114, letterN c.ch, letterN c.reg] ++ decN c.dest.toNat ++ T) 1 = letterN c.ch := rfl
      have e2 : chr ([114, letterN c.ch, letterN c.reg] ++ decN c.dest.toNat ++ T) 2 = letterN c.reg := rfl
      rw [e0, e1, e2, letter_reg h3, letter_reg h4, h1]
      simp
  · rw [if_neg (show ¬ c.kind = 1 by omega), if_neg (show ¬ c.kind = 2 by omega)]
    have e0 : chr ([101] ++ decN c.dest.toNat ++ T) 0 = 101 := rfl
    rw [e0, h1, h3, h4]
    simp
theorem rtail_case {kd ch rg : Int} {m : Nat} {T : List Nat} (hm : m < 10000) (hT : restN T = 0) (h3 : kd = 3 → T = []) : rtail kd ch rg (decN m ++ T) = some (⟨kd, ch, rg, m⟩, T) := by
  have hr := rest_dec m T hT
  have := rtail_yes (kd := kd) (ch := ch) (rg := rg) (T := decN m ++ T) (r := (decN m).length) (nv := (m : Int)) hr (by rw [take_dec, num_dec hm]) (fun he => he.2 (by rw [drop_dec, h3 he.1]; rfl))
  rw [this, drop_dec]
theorem rchF_back : ∀ (cs acc : List CaseD) (k : Nat), cs.length < k → (∀ c ∈ cs, caseSt c) → (∀ j c, cs[j]? = some c → c.kind = 3 → j + 1 = cs.length) → acc ++ cs ≠ [] → rchF k (cs.flatMap caseW) acc = some (acc ++ cs)
  | [], acc, 0, hk, _, _, _ => by simp at hk
  | [], acc, k + 1, _, _, _, hne => by
    simp at hne
    unfold rchF
    rw [if_pos (show (([] : List CaseD).flatMap caseW).length = 0 from rfl), if_neg (by simpa using hne), List.append_nil]
  | c :: r, acc, 0, hk, _, _, _ => by simp at hk
  | c :: r, acc, k + 1, hk, hs, h3, _ => by
    have hc := hs c (List.mem_cons_self ..)
    have hl : ¬ ((c :: r).flatMap caseW).length = 0 := by
      rw [List.flatMap_cons, List.length_append]
      unfold caseW
      rw [List.length_append]
      have := decN_len c.dest.toNat
      omega
    have hd : (c.dest.toNat : Int) = c.dest := by have := hc.1; omega
    unfold rchF
    rw [if_neg hl, List.flatMap_cons, rhead_case hc]
    dsimp only
    rw [rtail_case (by have := hc.1; omega) (tail_sign r) (fun hk3 => by
      have := h3 0 c rfl hk3
      rw [List.length_cons] at this
      rw [List.eq_nil_of_length_eq_zero (show r.length = 0 by omega)]
      rfl)]
    dsimp only
    rw [hd]
    have e : (⟨c.kind, c.ch, c.reg, c.dest⟩ : CaseD) = c := rfl
    rw [e, rchF_back r (acc ++ [c]) k (by simp at hk; omega) (fun x hx => hs x (List.mem_cons_of_mem _ hx)) (fun j x hj hk3 => by
      have := h3 (j + 1) x (by simpa using hj) hk3
      rw [List.length_cons] at this
      omega) (by simp), List.append_assoc]
    rfl
theorem back_choose {x : InstrD} (h21 : x.op = 21) (h : rshaped x = true) : oneR (rW x) = some x := by
  rw [rshaped_21 h21] at h
  obtain ⟨⟨ha, hb, hn, hl⟩, hs⟩ := h
  obtain ⟨xo, xa, xb, xn, xc⟩ := x
  dsimp only at h21 ha hb hn hl hs
  subst h21 ha hb hn
  unfold rW oneR
  rw [if_pos rfl]
  have e0 : chr (83 :: xc.flatMap caseW) 0 = 83 := rfl
  have e1 : (83 :: xc.flatMap caseW).drop 1 = xc.flatMap caseW := rfl
  rw [e0, if_pos rfl, e1]
  have hlen : xc.length < (xc.flatMap caseW).length + 1 := by
    have : ∀ l : List CaseD, l.length ≤ (l.flatMap caseW).length := by
      intro l
      induction l with
      | nil => simp
      | cons c r ih =>
        have h1 : 1 ≤ (caseW c).length := by
          unfold caseW
          rw [List.length_append]
          have := decN_len c.dest.toNat
          omega
        rw [List.flatMap_cons, List.length_append, List.length_cons]
        omega
    have := this xc
    omega
  unfold rchoiceR
  rw [rchF_back xc [] _ hlen (fun c hc => by obtain ⟨j, hj⟩ := List.getElem?_of_mem hc; exact (hs j c hj).1) (fun j c hj h3 => by have := (hs j c hj).2 h3; omega) (by intro h; simp at h; rw [h] at hl; simp at hl)]
  rfl
theorem back_one {x : InstrD} (h : rshaped x = true) : oneR (rW x) = some x := by
  by_cases h21 : x.op = 21
  · exact back_choose h21 h
  · exact back_form h21 h
end Go.Proofs.YtklfboidjnchoaaGreatDoor
namespace Go.Proofs.YtklfboidjnchoaaGreatDoor
open Go
set_option linter.unusedVariables false
set_option linter.unusedSimpArgs false
def signs (L : List Nat) : Prop := ∀ c ∈ L, 33 ≤ c ∧ c ≤ 126
theorem signs_app {A B : List Nat} (h : signs A) (k : signs B) : signs (A ++ B) := fun c hc => by
  rcases List.mem_append.1 hc with hc | hc
  · exact h c hc
  · exact k c hc
theorem signs_dec (n : Nat) : signs (decN n) := fun c hc => by have := (decN_dig n c hc).2; omega
theorem signs_letter (r : Int) : signs [letterN r] := fun c hc => by rw [List.mem_singleton] at hc; subst hc; have := letterN_sign r; omega
theorem signs_case (c : CaseD) : signs (caseW c) := by
  unfold caseW caseH
  refine signs_app ?_ (signs_dec _)
  split
  · intro x hx
    simp at hx
    have h1 := letterN_sign c.ch
    have h2 := letterN_sign c.reg
    omega
  · split
    · intro x hx
      simp at hx
      have h1 := letterN_sign c.ch
      have h2 := letterN_sign c.reg
      omega
    · intro x hx
      simp at hx
      omega
theorem signs_arg (x : InstrD) (c : Nat) : signs (argW x c) := by
  unfold argW
  split
  · exact signs_letter _
  · split
    · exact signs_letter _
    · exact signs_dec _
theorem signs_flat {α : Type} {f : α → List Nat} (h : ∀ a, signs (f a)) : ∀ l : List α, signs (l.flatMap f)
  | [] => fun c hc => by simp at hc
  | a :: l => by rw [List.flatMap_cons]; exact signs_app (h a) (signs_flat h l)
theorem rforms_sign : ∀ f ∈ rforms, 33 ≤ f.letter ∧ f.letter ≤ 126 := by decide
theorem signs_form (x : InstrD) : ∀ l : List RForm, (∀ f ∈ l, 33 ≤ f.letter ∧ f.letter ≤ 126) → signs (formW x l) ∧ formW x l ≠ []
  | [], _ => ⟨fun c hc => by unfold formW at hc; simp at hc; omega, by unfold formW; simp⟩
  | f :: r, h => by
    unfold formW
    split
    · refine ⟨fun c hc => ?_, by simp⟩
      rcases List.mem_cons.1 hc with rfl | hc
      · exact h f (List.mem_cons_self ..)
      · exact signs_flat (signs_arg x) f.args c hc
    · exact signs_form x r (fun g hg => h g (List.mem_cons_of_mem _ hg))
theorem signs_rW (x : InstrD) : signs (rW x) ∧ rW x ≠ [] := by
  unfold rW
  split
  · refine ⟨fun c hc => ?_, by simp⟩
    rcases List.mem_cons.1 hc with rfl | hc
    · omega
    · exact signs_flat signs_case _ c hc
  · exact signs_form x rforms rforms_sign
def joinW (Ls : List (List Nat)) : List Nat := Ls.flatMap fun L => L ++ [10]
theorem data_strA (L : List Nat) : (strA L).data.toList = L.map UInt8.ofNat := rfl
theorem bytesN_strA {L : List Nat} (h : signs L) : bytesN (strA L) = L := by
  unfold bytesN
  rw [data_strA, List.map_map]
  conv => rhs; rw [← List.map_id L]
  refine List.map_congr_left fun c hc => ?_
  have := h c hc
  simp
  omega
theorem data_inj : ∀ {A B : List ByteArray}, A.map (·.data.toList) = B.map (·.data.toList) → A = B
  | [], [], _ => rfl
  | [], b :: B, h => by simp at h
  | a :: A, [], h => by simp at h
  | a :: A, b :: B, h => by
    simp only [List.map_cons, List.cons.injEq] at h
    rw [data_inj h.2]
    congr 1
    exact ByteArray.ext (Array.ext' h.1)
def textW (l : List InstrD) : List Nat := joinW (l.map rW)
end Go.Proofs.YtklfboidjnchoaaGreatDoor
namespace Go.Proofs.YtklfboidjnchoaaGreatDoor
open Go.ChangeShapes Go.WideShapes Go.ChangeAt Go.Deep Go.RowKit Go.Proofs.YtklfboidjnchoaaGreatDoorW.PrintWords
set_option linter.unusedVariables false
set_option linter.unusedSimpArgs false
set_option linter.unusedVariables false
end Go.Proofs.YtklfboidjnchoaaGreatDoor
namespace Go.Proofs.YtklfboidjnchoaaGreatDoor
open Go.RowKit Go.Proofs.YtklfboidjnchoaaGreatDoorW.PrintWords
set_option linter.unusedVariables false
set_option linter.unusedSimpArgs false
theorem strA_app (a b : List Nat) : strA a ++ strA b = strA (a ++ b) := by
  apply ByteArray.ext
  unfold strA
  simp
end Go.Proofs.YtklfboidjnchoaaGreatDoor
namespace Go.Proofs.YtklfboidjnchoaaGreatDoor
open Go.RowKit Go.Proofs.YtklfboidjnchoaaGreatDoorW.PrintWords
set_option linter.unusedVariables false
set_option linter.unusedSimpArgs false
end Go.Proofs.YtklfboidjnchoaaGreatDoor
namespace Go.Proofs.YtklfboidjnchoaaGreatDoor
open Go.RowKit Go.Proofs.YtklfboidjnchoaaGreatDoorW.PrintWords
set_option linter.unusedVariables false
set_option linter.unusedSimpArgs false
theorem rcasF_at {n k : Nat} {cs : List CaseD} {c : CaseD} (h : cs[k]? = some c) (ok : Bool) : rcasF n k ok (cs.drop k) = rcasF n (k + 1) (ok && rcaseOk n k c) (cs.drop (k + 1)) := by
  obtain ⟨hk, hc⟩ := List.getElem?_eq_some_iff.1 h
  rw [List.drop_eq_getElem_cons hk, hc]
  rfl
theorem rshF_at {k : Nat} {f : RForm} (h : rforms[k]? = some f) (x : InstrD) : rshF x (rforms.drop k) = if (f.op : Int) = x.op then rsh f x else rshF x (rforms.drop (k + 1)) := by
  obtain ⟨hk, hc⟩ := List.getElem?_eq_some_iff.1 h
  rw [List.drop_eq_getElem_cons hk, hc]
  rfl
theorem rforms_ok2 : ∀ f ∈ rforms, (∀ x ∈ f.args, x < 128) ∧ f.args.length ≤ 10 := by decide
set_option maxRecDepth 100000 in
set_option maxHeartbeats 6400000 in
theorem rshaped_choose (xa xb xn : Int) (cs : List CaseD) (A : Option Addr) (d : Nat) (w : World) (hc : kC.C w A cs.length cs) (hcl : cs.length ≤ 9223372036854775807) :
    Calls Tryz.prog 47 #[instrV ⟨21, xa, xb, xn, cs⟩ (.slice A cs.length d)] w fun e w' => e = .returned (.bool (rcasF cs.length 0 (xa == 0 && xb == 0 && xn == 0 && decide (0 < cs.length)) cs)) ∧ Below w.heap.size w w' := by
  simp only [instrV]
  have HC := hidP hc
  obtain ⟨n, hn⟩ : ∃ n, cs.length = n := ⟨_, rfl⟩
  rw [hn] at hcl ⊢
  obtain ⟨O, hO⟩ : ∃ O, (xa == 0 && xb == 0 && xn == 0 && decide (0 < n)) = O := ⟨_, rfl⟩
  rw [hO]
  obtain ⟨Z, hZ⟩ : ∃ Z, rcasF n 0 O cs = Z := ⟨_, rfl⟩
  rw [hZ]
  have HZ := hidP hZ
  have HN := hidP hn
  have hb1 := bnew (brefl w) (.cells #[.int .i64 21, .int .i64 xa, .int .i64 xb, .int .i64 xn, .slice A n d] 56)
  have hn1 := blk_new w (.cells #[.int .i64 21, .int .i64 xa, .int .i64 xb, .int .i64 xn, .slice A n d] 56)
  clear hc hn hZ
  have HO := hidP hO
  clear hO
  go_enter Tryz.func47, Tryz.ntmps47
  go_upto_region 2 with fail
  generalize hw1 : w.alloc (.cells #[.int .i64 21, .int .i64 xa, .int .i64 xb, .int .i64 xn, .slice A n d] 56) = w1 at *
  clear hw1
  obtain ⟨x0, x1, x2, x3, x4⟩ := five_cells hn1
  have hl1 : w.heap.size < w1.heap.size := blk_lt hn1
  go_cut [3] from 18 to 36 (fun v3 wx => v3 = .bool O ∧ w1 = wx)
  case first =>
    by_cases ha : xa = 0
    · have ta : (xa == 0) = true := by simp [ha]
      clear ha
      by_cases hbb : xb = 0
      · have tb : (xb == 0) = true := by simp [hbb]
        clear hbb
        by_cases hnn : xn = 0
        · have tn : (xn == 0) = true := by simp [hnn]
          clear hnn
          by_cases hl : 0 < n
          · obtain rfl : O = true := by rw [← HO.out, ta, tb, tn]; simp [hl]
            have tl : (0 : Int) < (n : Int) := by omega
            go_wp2_with fail
            go_meet
            exact ⟨rfl, rfl⟩
          · obtain rfl : O = false := by rw [← HO.out, ta, tb, tn]; simp; omega
            have tl : decide ((0 : Int) < (n : Int)) = false := decide_eq_false (by omega)
            have tl' : ¬ (0 : Int) < (n : Int) := by omega
            go_wp2_with fail
            go_meet
            exact ⟨rfl, rfl⟩
        · have tn : (xn == 0) = false := by simp [hnn]
          obtain rfl : O = false := by rw [← HO.out, ta, tb, tn]; simp
          clear hnn
          go_wp2_with fail
          go_meet
          exact ⟨rfl, rfl⟩
      · have tb : (xb == 0) = false := by simp [hbb]
        obtain rfl : O = false := by rw [← HO.out, ta, tb]; simp
        clear hbb
        go_wp2_with fail
        go_meet
        exact ⟨rfl, rfl⟩
    · have ta : (xa == 0) = false := by simp [ha]
      obtain rfl : O = false := by rw [← HO.out, ta]; simp
      clear ha
      go_wp2_with fail
      go_meet
      exact ⟨rfl, rfl⟩
  case rest =>
  obtain ⟨rfl, rfl⟩ := hcut
  go_wp2_with fail
  go_loopw [3, 4] (fun v3 v4 wr => ∃ (k : Nat) (ok : Bool), v3 = .bool ok ∧ v4 = .int .i64 k ∧ k ≤ n ∧ Hid (rcasF n k ok (cs.drop k) = Z) ∧ Below w1.heap.size w1 wr) (fun _ v4 _ => n - (intOf v4).toNat)
  case atStart => exact ⟨0, _, rfl, rfl, by omega, HZ.out, brefl _⟩
  case round =>
    clear x0 x1 x2 x3 x4
    obtain ⟨k, ok, rfl, rfl, hk, HF, hb⟩ := hrel
    obtain ⟨w2, e2⟩ : ∃ w2, w2 = wr := ⟨_, rfl⟩
    subst e2
    obtain ⟨x0, x1, x2, x3, x4⟩ := five_cells (blk_below hn1 hb)
    have hl2 : w.heap.size < w2.heap.size := blk_lt (blk_below hn1 hb)
    by_cases hlt : k < n
    · obtain ⟨⟨ck, cc, cr, ct⟩, hx⟩ : ∃ x, cs[k]? = some x := ⟨_, List.getElem?_eq_getElem (by rw [HN.out]; exact hlt)⟩
      obtain ⟨b, o, rfl, q0, q1, q2, q3⟩ := case_at (Kd.C_below HC.out (bstep hb1 hb)) k _ hx
      have hst : Z = rcasF n (k + 1) (ok && rcaseOk n k ⟨ck, cc, cr, ct⟩) (cs.drop (k + 1)) := by rw [← rcasF_at hx]; exact HF.out.symm
      dsimp only at q0 q1 q2 q3
      have hb3 := bnew hb (.cells #[.int .i64 ck, .int .i64 cc, .int .i64 cr, .int .i64 ct] 109)
      have lt1 : (k : Int) < (n : Int) := by omega
      have g1 := fun w => rwithin_any ck 4 w
      have g2 := fun w => rwithin_any cc 6 w
      have g3 := fun w => rwithin_any cr 6 w
      have g4 := fun w => rwithin_any ct 10000 w
      obtain ⟨B1, hB1⟩ : ∃ B, rwith ck 4 = B := ⟨_, rfl⟩
      obtain ⟨B2, hB2⟩ : ∃ B, rwith cc 6 = B := ⟨_, rfl⟩
      obtain ⟨B3, hB3⟩ : ∃ B, rwith cr 6 = B := ⟨_, rfl⟩
      obtain ⟨B4, hB4⟩ : ∃ B, rwith ct 10000 = B := ⟨_, rfl⟩
      rw [hB1] at g1
      rw [hB2] at g2
      rw [hB3] at g3
      rw [hB4] at g4
      have hco : rcaseOk n k ⟨ck, cc, cr, ct⟩ = (B1 && decide (0 < ck) && B2 && B3 && B4 && (!(ck == 3) || (cc == 0 && cr == 0 && decide ((k : Int) = (n : Int) - 1)))) := by
        unfold rcaseOk
        dsimp only
        rw [hB1, hB2, hB3, hB4]
      rw [hco] at hst
      have HST := hidP hst
      have G1 := hidP g1
      have G2 := hidP g2
      have G3 := hidP g3
      have G4 := hidP g4
      clear hx hst hco hB1 hB2 hB3 hB4 g1 g2 g3 g4 HF
      cases ok
      ·
        have HT : Hid (rcasF n (k + 1) false (cs.drop (k + 1)) = Z) := by
          have := HST.out
          first
            | (simp only [Bool.and_true, Bool.true_and, Bool.and_false, Bool.false_and, Bool.or_true, Bool.or_false, Bool.not_true, Bool.not_false, Bool.true_or, Bool.false_or, Bool.and_false] at this; exact this.symm)
            | (simp only [Bool.and_true, Bool.true_and, Bool.and_false, Bool.false_and, Bool.or_true, Bool.or_false, Bool.not_true, Bool.not_false, Bool.true_or, Bool.false_or] at this; exact this.symm)
        clear HST
        go_wp2_with (first | (go_at_call 71; first | (with_reducible refine (G1.out _).mono ?_; rintro e w' ⟨rfl, rfl⟩) | (with_reducible refine (G2.out _).mono ?_; rintro e w' ⟨rfl, rfl⟩) | (with_reducible refine (G3.out _).mono ?_; rintro e w' ⟨rfl, rfl⟩) | (with_reducible refine (G4.out _).mono ?_; rintro e w' ⟨rfl, rfl⟩) | fail) | fail)
        go_roundw
        case rel => exact ⟨k + 1, false, rfl, by go_num, by omega, HT.out, hb3⟩
        case measure => simp [intOf]; omega
      cases B1
      ·
        have HT : Hid (rcasF n (k + 1) false (cs.drop (k + 1)) = Z) := by
          have := HST.out
          first
            | (simp only [Bool.and_true, Bool.true_and, Bool.and_false, Bool.false_and, Bool.or_true, Bool.or_false, Bool.not_true, Bool.not_false, Bool.true_or, Bool.false_or, Bool.and_false] at this; exact this.symm)
            | (simp only [Bool.and_true, Bool.true_and, Bool.and_false, Bool.false_and, Bool.or_true, Bool.or_false, Bool.not_true, Bool.not_false, Bool.true_or, Bool.false_or] at this; exact this.symm)
        clear HST
        go_wp2_with (first | (go_at_call 71; first | (with_reducible refine (G1.out _).mono ?_; rintro e w' ⟨rfl, rfl⟩) | (with_reducible refine (G2.out _).mono ?_; rintro e w' ⟨rfl, rfl⟩) | (with_reducible refine (G3.out _).mono ?_; rintro e w' ⟨rfl, rfl⟩) | (with_reducible refine (G4.out _).mono ?_; rintro e w' ⟨rfl, rfl⟩) | fail) | fail)
        go_roundw
        case rel => exact ⟨k + 1, false, rfl, by go_num, by omega, HT.out, hb3⟩
        case measure => simp [intOf]; omega
      by_cases hk0 : 0 < ck
      rotate_left
      · have t0 : decide (0 < ck) = false := decide_eq_false hk0
        have HT : Hid (rcasF n (k + 1) false (cs.drop (k + 1)) = Z) := by
          have := HST.out
          first
            | (simp only [Bool.and_true, Bool.true_and, Bool.and_false, Bool.false_and, Bool.or_true, Bool.or_false, Bool.not_true, Bool.not_false, Bool.true_or, Bool.false_or, t0] at this; exact this.symm)
            | (simp only [Bool.and_true, Bool.true_and, Bool.and_false, Bool.false_and, Bool.or_true, Bool.or_false, Bool.not_true, Bool.not_false, Bool.true_or, Bool.false_or] at this; exact this.symm)
        clear HST
        go_wp2_with (first | (go_at_call 71; first | (with_reducible refine (G1.out _).mono ?_; rintro e w' ⟨rfl, rfl⟩) | (with_reducible refine (G2.out _).mono ?_; rintro e w' ⟨rfl, rfl⟩) | (with_reducible refine (G3.out _).mono ?_; rintro e w' ⟨rfl, rfl⟩) | (with_reducible refine (G4.out _).mono ?_; rintro e w' ⟨rfl, rfl⟩) | fail) | fail)
        go_roundw
        case rel => exact ⟨k + 1, false, rfl, by go_num, by omega, HT.out, hb3⟩
        case measure => simp [intOf]; omega
      have t0 : decide (0 < ck) = true := decide_eq_true hk0
      cases B2
      ·
        have HT : Hid (rcasF n (k + 1) false (cs.drop (k + 1)) = Z) := by
          have := HST.out
          first
            | (simp only [Bool.and_true, Bool.true_and, Bool.and_false, Bool.false_and, Bool.or_true, Bool.or_false, Bool.not_true, Bool.not_false, Bool.true_or, Bool.false_or, t0] at this; exact this.symm)
            | (simp only [Bool.and_true, Bool.true_and, Bool.and_false, Bool.false_and, Bool.or_true, Bool.or_false, Bool.not_true, Bool.not_false, Bool.true_or, Bool.false_or] at this; exact this.symm)
        clear HST
        go_wp2_with (first | (go_at_call 71; first | (with_reducible refine (G1.out _).mono ?_; rintro e w' ⟨rfl, rfl⟩) | (with_reducible refine (G2.out _).mono ?_; rintro e w' ⟨rfl, rfl⟩) | (with_reducible refine (G3.out _).mono ?_; rintro e w' ⟨rfl, rfl⟩) | (with_reducible refine (G4.out _).mono ?_; rintro e w' ⟨rfl, rfl⟩) | fail) | fail)
        go_roundw
        case rel => exact ⟨k + 1, false, rfl, by go_num, by omega, HT.out, hb3⟩
        case measure => simp [intOf]; omega
      cases B3
      ·
        have HT : Hid (rcasF n (k + 1) false (cs.drop (k + 1)) = Z) := by
          have := HST.out
          first
            | (simp only [Bool.and_true, Bool.true_and, Bool.and_false, Bool.false_and, Bool.or_true, Bool.or_false, Bool.not_true, Bool.not_false, Bool.true_or, Bool.false_or, t0] at this; exact this.symm)
            | (simp only [Bool.and_true, Bool.true_and, Bool.and_false, Bool.false_and, Bool.or_true, Bool.or_false, Bool.not_true, Bool.not_false, Bool.true_or, Bool.false_or] at this; exact this.symm)
        clear HST
        go_wp2_with (first | (go_at_call 71; first | (with_reducible refine (G1.out _).mono ?_; rintro e w' ⟨rfl, rfl⟩) | (with_reducible refine (G2.out _).mono ?_; rintro e w' ⟨rfl, rfl⟩) | (with_reducible refine (G3.out _).mono ?_; rintro e w' ⟨rfl, rfl⟩) | (with_reducible refine (G4.out _).mono ?_; rintro e w' ⟨rfl, rfl⟩) | fail) | fail)
        go_roundw
        case rel => exact ⟨k + 1, false, rfl, by go_num, by omega, HT.out, hb3⟩
        case measure => simp [intOf]; omega
      cases B4
      ·
        have HT : Hid (rcasF n (k + 1) false (cs.drop (k + 1)) = Z) := by
          have := HST.out
          first
            | (simp only [Bool.and_true, Bool.true_and, Bool.and_false, Bool.false_and, Bool.or_true, Bool.or_false, Bool.not_true, Bool.not_false, Bool.true_or, Bool.false_or, t0] at this; exact this.symm)
            | (simp only [Bool.and_true, Bool.true_and, Bool.and_false, Bool.false_and, Bool.or_true, Bool.or_false, Bool.not_true, Bool.not_false, Bool.true_or, Bool.false_or] at this; exact this.symm)
        clear HST
        go_wp2_with (first | (go_at_call 71; first | (with_reducible refine (G1.out _).mono ?_; rintro e w' ⟨rfl, rfl⟩) | (with_reducible refine (G2.out _).mono ?_; rintro e w' ⟨rfl, rfl⟩) | (with_reducible refine (G3.out _).mono ?_; rintro e w' ⟨rfl, rfl⟩) | (with_reducible refine (G4.out _).mono ?_; rintro e w' ⟨rfl, rfl⟩) | fail) | fail)
        go_roundw
        case rel => exact ⟨k + 1, false, rfl, by go_num, by omega, HT.out, hb3⟩
        case measure => simp [intOf]; omega
      by_cases h3 : ck = 3
      · have t3 : (ck == 3) = true := by simp [h3]
        have t3' : (ck != 3) = false := by simp [h3]
        clear h3
        by_cases hc0 : cc = 0
        · have tc : (cc == 0) = true := by simp [hc0]
          clear hc0
          by_cases hr0 : cr = 0
          · have tr : (cr == 0) = true := by simp [hr0]
            clear hr0
            obtain ⟨KE, hKE⟩ : ∃ KE, decide ((k : Int) = (n : Int) - 1) = KE := ⟨_, rfl⟩
            have te : ((k : Int) == (n : Int) - 1) = KE := hKE
            have HT0 := HST.out
            rw [hKE] at HT0
            have HST : Hid (Z = rcasF n (k + 1) (true && (true && true && true && true && true && (!true || (true && true && KE)))) (cs.drop (k + 1))) := by
              rw [t0, t3, tc, tr] at HT0
              exact HT0
            clear HT0 hKE
            have HT : Hid (rcasF n (k + 1) KE (cs.drop (k + 1)) = Z) := by
              have := HST.out
              first
                | (simp only [Bool.and_true, Bool.true_and, Bool.and_false, Bool.false_and, Bool.or_true, Bool.or_false, Bool.not_true, Bool.not_false, Bool.true_or, Bool.false_or, t0] at this; exact this.symm)
                | (simp only [Bool.and_true, Bool.true_and, Bool.and_false, Bool.false_and, Bool.or_true, Bool.or_false, Bool.not_true, Bool.not_false, Bool.true_or, Bool.false_or] at this; exact this.symm)
            clear HST
            go_wp2_with (first | (go_at_call 71; first | (with_reducible refine (G1.out _).mono ?_; rintro e w' ⟨rfl, rfl⟩) | (with_reducible refine (G2.out _).mono ?_; rintro e w' ⟨rfl, rfl⟩) | (with_reducible refine (G3.out _).mono ?_; rintro e w' ⟨rfl, rfl⟩) | (with_reducible refine (G4.out _).mono ?_; rintro e w' ⟨rfl, rfl⟩) | fail) | fail)
            go_roundw
            case rel => exact ⟨k + 1, KE, rfl, by go_num, by omega, HT.out, hb3⟩
            case measure => simp [intOf]; omega
          · have tr : (cr == 0) = false := by simp [hr0]
            clear hr0
            have HT : Hid (rcasF n (k + 1) false (cs.drop (k + 1)) = Z) := by
              have := HST.out
              first
                | (simp only [Bool.and_true, Bool.true_and, Bool.and_false, Bool.false_and, Bool.or_true, Bool.or_false, Bool.not_true, Bool.not_false, Bool.true_or, Bool.false_or, t0, t3, tc, tr] at this; exact this.symm)
                | (simp only [Bool.and_true, Bool.true_and, Bool.and_false, Bool.false_and, Bool.or_true, Bool.or_false, Bool.not_true, Bool.not_false, Bool.true_or, Bool.false_or] at this; exact this.symm)
            clear HST
            go_wp2_with (first | (go_at_call 71; first | (with_reducible refine (G1.out _).mono ?_; rintro e w' ⟨rfl, rfl⟩) | (with_reducible refine (G2.out _).mono ?_; rintro e w' ⟨rfl, rfl⟩) | (with_reducible refine (G3.out _).mono ?_; rintro e w' ⟨rfl, rfl⟩) | (with_reducible refine (G4.out _).mono ?_; rintro e w' ⟨rfl, rfl⟩) | fail) | fail)
            go_roundw
            case rel => exact ⟨k + 1, false, rfl, by go_num, by omega, HT.out, hb3⟩
            case measure => simp [intOf]; omega
        · have tc : (cc == 0) = false := by simp [hc0]
          clear hc0
          have HT : Hid (rcasF n (k + 1) false (cs.drop (k + 1)) = Z) := by
            have := HST.out
            first
              | (simp only [Bool.and_true, Bool.true_and, Bool.and_false, Bool.false_and, Bool.or_true, Bool.or_false, Bool.not_true, Bool.not_false, Bool.true_or, Bool.false_or, t0, t3, tc] at this; exact this.symm)
              | (simp only [Bool.and_true, Bool.true_and, Bool.and_false, Bool.false_and, Bool.or_true, Bool.or_false, Bool.not_true, Bool.not_false, Bool.true_or, Bool.false_or] at this; exact this.symm)
          clear HST
          go_wp2_with (first | (go_at_call 71; first | (with_reducible refine (G1.out _).mono ?_; rintro e w' ⟨rfl, rfl⟩) | (with_reducible refine (G2.out _).mono ?_; rintro e w' ⟨rfl, rfl⟩) | (with_reducible refine (G3.out _).mono ?_; rintro e w' ⟨rfl, rfl⟩) | (with_reducible refine (G4.out _).mono ?_; rintro e w' ⟨rfl, rfl⟩) | fail) | fail)
          go_roundw
          case rel => exact ⟨k + 1, false, rfl, by go_num, by omega, HT.out, hb3⟩
          case measure => simp [intOf]; omega
      · have t3 : (ck == 3) = false := by simp [h3]
        have t3' : (ck != 3) = true := by simp [h3]
        clear h3
        have HT : Hid (rcasF n (k + 1) true (cs.drop (k + 1)) = Z) := by
          have := HST.out
          first
            | (simp only [Bool.and_true, Bool.true_and, Bool.and_false, Bool.false_and, Bool.or_true, Bool.or_false, Bool.not_true, Bool.not_false, Bool.true_or, Bool.false_or, t0, t3] at this; exact this.symm)
            | (simp only [Bool.and_true, Bool.true_and, Bool.and_false, Bool.false_and, Bool.or_true, Bool.or_false, Bool.not_true, Bool.not_false, Bool.true_or, Bool.false_or] at this; exact this.symm)
        clear HST
        go_wp2_with (first | (go_at_call 71; first | (with_reducible refine (G1.out _).mono ?_; rintro e w' ⟨rfl, rfl⟩) | (with_reducible refine (G2.out _).mono ?_; rintro e w' ⟨rfl, rfl⟩) | (with_reducible refine (G3.out _).mono ?_; rintro e w' ⟨rfl, rfl⟩) | (with_reducible refine (G4.out _).mono ?_; rintro e w' ⟨rfl, rfl⟩) | fail) | fail)
        go_roundw
        case rel => exact ⟨k + 1, true, rfl, by go_num, by omega, HT.out, hb3⟩
        case measure => simp [intOf]; omega
    · have hE : Z = ok := by
        rw [← HF.out, List.drop_eq_nil_of_le (by rw [HN.out]; omega)]
        rfl
      have lt1 : ¬ (k : Int) < (n : Int) := by omega
      subst hE
      go_wp2
      go_ret
      exact ⟨rfl, bstep hb1 hb⟩
end Go.Proofs.YtklfboidjnchoaaGreatDoor
