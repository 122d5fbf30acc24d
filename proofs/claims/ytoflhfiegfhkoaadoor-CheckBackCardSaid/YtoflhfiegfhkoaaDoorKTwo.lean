/-
  A line is the same instruction to the program and to the reference, in plain words.
-/
import Derived.Test.YtoflhfiegfhkoaaDoorKOne
namespace Go.Proofs.YtoflhfiegfhkoaaDoor
open Go
set_option linter.unusedVariables false

def lineV (L : List Nat) : Option InstrD := if (lineR L).2 = true then some (lineR L).1 else none
def simpV (op : Int) (F L : List Nat) : Option InstrD := if (simpR op F L).2 = true then some (simpR op F L).1 else none
theorem simpV_none {op : Int} {F L : List Nat} (h : simpF F L 0 0 0 = none) : simpV op F L = none := by unfold simpV simpR; rw [h]; rfl
theorem simpV_some {op : Int} {F L : List Nat} {a b n : Int} {M : List Nat} (h : simpF F L 0 0 0 = some (a, b, n, M)) : simpV op F L = if M.isEmpty = true then some ⟨op, a, b, n, []⟩ else none := by unfold simpV simpR; rw [h]
theorem line_of {L F : List Nat} {op : Nat} (hf : findF (chr L 0 : Int) 0 formsL = (op, F, true)) (h83 : chr L 0 ≠ 83) (h0 : 0 < L.length) :
    lineV L = if ((fieldsR L F 1).ok && decide ((fieldsR L F 1).q = L.length)) = true then some ⟨op, (fieldsR L F 1).a, (fieldsR L F 1).b, (fieldsR L F 1).n, []⟩ else none := by
  unfold lineV lineR
  rw [hf]
  dsimp only
  rw [if_neg (show ¬ (true = false) by simp), if_neg h83, adv_lt h0]
theorem one_of {L : List Nat} {f : RForm} (hf : ∀ M, formF (chr L 0) M rforms = (if (simpR f.op f.args M).2 = true then some (simpR f.op f.args M).1 else none)) (h83 : chr L 0 ≠ 83) : oneR L = simpV f.op f.args (L.drop 1) := by
  unfold oneR simpV
  rw [if_neg h83, hf]

/-- The last number of a line. -/
theorem num_last (L : List Nat) (p : Nat) (hp : p ≤ L.length) (f : Int → InstrD) :
    (if ((numR (numL L p 4)).2 && decide (p + runL (L.drop p) 4 = L.length)) = true then some (f (numR (numL L p 4)).1) else none) =
    (if (numR (strA ((L.drop p).take (restN (L.drop p))))).2 = true then (if ((L.drop p).drop (restN (L.drop p))).isEmpty = true then some (f (numR (strA ((L.drop p).take (restN (L.drop p))))).1) else none) else none) := by
  have hM := restN_le (L.drop p)
  have hl : (L.drop p).length = L.length - p := List.length_drop
  have hrun := run_rest (L.drop p) 4
  unfold numL
  obtain ⟨M, hMM⟩ : ∃ M, L.drop p = M := ⟨_, rfl⟩
  rw [hMM] at hM hl hrun ⊢
  obtain ⟨r, hr⟩ : ∃ r, restN M = r := ⟨_, rfl⟩
  have hlong := take_long (M := M)
  rw [hr] at hM hrun hlong ⊢
  have hemp : (M.drop r).isEmpty = decide (p + r = L.length) := by
    rw [Bool.eq_iff_iff, List.isEmpty_iff, List.drop_eq_nil_iff, decide_eq_true_iff]
    omega
  rw [hemp]
  by_cases h4 : r ≤ 4
  · have e4 : runL M 4 = r := by rw [hrun]; omega
    rw [e4]
    cases (numR (strA (M.take r))).2
    · rfl
    · rw [Bool.true_and, if_pos rfl]
  · have e4 : runL M 4 = 4 := by rw [hrun]; omega
    rw [e4, hlong (by omega)]
    have : decide (p + 4 = L.length) = false := by rw [decide_eq_false_iff_not]; omega
    rw [this, Bool.and_false]
    rfl

theorem shape_none (c0 : Nat) (R : List Nat) (op : Nat) :
    (if ((fieldsR (c0 :: R) [c0] 1).ok && decide ((fieldsR (c0 :: R) [c0] 1).q = (c0 :: R).length)) = true then some (⟨op, (fieldsR (c0 :: R) [c0] 1).a, (fieldsR (c0 :: R) [c0] 1).b, (fieldsR (c0 :: R) [c0] 1).n, []⟩ : InstrD) else none) = simpV op [] R := by
  rw [fields_none, simpV_some (a := 0) (b := 0) (n := 0) (M := R) rfl]
  cases R <;> simp
theorem reg_fail (c0 : Nat) : (regR (chr [c0] 1)).2 = false := reg_end (by simp)
theorem simp_a (x : Nat) (R F : List Nat) (a b n : Int) : simpF (97 :: F) (x :: R) a b n = if (regR (x : Int)).2 = true then simpF F R (regR (x : Int)).1 b n else none := by
  conv => lhs; unfold simpF
  rw [if_neg (by decide), if_neg (by simp), if_neg (by decide), if_pos rfl]
  rfl
theorem simp_b (x : Nat) (R F : List Nat) (a b n : Int) : simpF (98 :: F) (x :: R) a b n = if (regR (x : Int)).2 = true then simpF F R a (regR (x : Int)).1 n else none := by
  conv => lhs; unfold simpF
  rw [if_neg (by decide), if_neg (by simp), if_neg (by decide), if_neg (by decide)]
  rfl
theorem simp_n (x : Nat) (R F : List Nat) (a b n : Int) : simpF (110 :: F) (x :: R) a b n = if (numR (strA [x])).2 = true then simpF F R a b (numR (strA [x])).1 else none := by
  conv => lhs; unfold simpF
  rw [if_neg (by decide), if_neg (by simp), if_pos rfl]
  rfl
theorem simp_nil (c : Nat) (h : c ≠ 78) (F : List Nat) (a b n : Int) : simpF (c :: F) [] a b n = none := by
  conv => lhs; unfold simpF
  rw [if_neg h, if_pos (show ([] : List Nat).length = 0 from rfl)]
theorem simp_N (R F : List Nat) (a b n : Int) : simpF (78 :: F) R a b n = if (numR (strA (R.take (restN R)))).2 = true then simpF F (R.drop (restN R)) a b (numR (strA (R.take (restN R)))).1 else none := by
  conv => lhs; unfold simpF
  rw [if_pos rfl]
theorem shape_N (c0 : Nat) (R : List Nat) (op : Nat) :
    (if ((fieldsR (c0 :: R) [c0, 78] 1).ok && decide ((fieldsR (c0 :: R) [c0, 78] 1).q = (c0 :: R).length)) = true then some (⟨op, (fieldsR (c0 :: R) [c0, 78] 1).a, (fieldsR (c0 :: R) [c0, 78] 1).b, (fieldsR (c0 :: R) [c0, 78] 1).n, []⟩ : InstrD) else none) = simpV op [78] R := by
  rw [fields_N]
  dsimp only
  rw [num_last (c0 :: R) 1 (by simp) (fun n => ⟨op, 0, 0, n, []⟩)]
  show (if (numR (strA (R.take (restN R)))).2 = true then (if (R.drop (restN R)).isEmpty = true then some (⟨op, 0, 0, (numR (strA (R.take (restN R)))).1, []⟩ : InstrD) else none) else none) = _
  by_cases h : (numR (strA (R.take (restN R)))).2 = true
  · rw [if_pos h, simpV_some (a := 0) (b := 0) (n := (numR (strA (R.take (restN R)))).1) (M := R.drop (restN R))]
    rw [simp_N, if_pos h]
    rfl
  · rw [if_neg h, simpV_none]
    rw [simp_N, if_neg h]
theorem shape_a (c0 : Nat) (R : List Nat) (op : Nat) :
    (if ((fieldsR (c0 :: R) [c0, 97] 1).ok && decide ((fieldsR (c0 :: R) [c0, 97] 1).q = (c0 :: R).length)) = true then some (⟨op, (fieldsR (c0 :: R) [c0, 97] 1).a, (fieldsR (c0 :: R) [c0, 97] 1).b, (fieldsR (c0 :: R) [c0, 97] 1).n, []⟩ : InstrD) else none) = simpV op [97] R := by
  rw [fields_a]
  dsimp only
  cases R with
  | nil => rw [reg_fail, simpV_none (simp_nil 97 (by decide) _ _ _ _)]; rfl
  | cons x R =>
    have e : chr (c0 :: x :: R) 1 = x := rfl
    rw [e, adv_lt (by simp)]
    by_cases h : (regR (x : Int)).2 = true
    · rw [h, simpV_some (a := (regR (x : Int)).1) (b := 0) (n := 0) (M := R) (by rw [simp_a, if_pos h]; rfl)]
      cases R <;> simp
    · rw [simpV_none (by rw [simp_a, if_neg h]), if_neg (by simp [h])]
theorem shape_ab (c0 : Nat) (R : List Nat) (op : Nat) :
    (if ((fieldsR (c0 :: R) [c0, 97, 98] 1).ok && decide ((fieldsR (c0 :: R) [c0, 97, 98] 1).q = (c0 :: R).length)) = true then some (⟨op, (fieldsR (c0 :: R) [c0, 97, 98] 1).a, (fieldsR (c0 :: R) [c0, 97, 98] 1).b, (fieldsR (c0 :: R) [c0, 97, 98] 1).n, []⟩ : InstrD) else none) = simpV op [97, 98] R := by
  rw [fields_ab]
  dsimp only
  cases R with
  | nil => rw [reg_fail, simpV_none (simp_nil 97 (by decide) _ _ _ _)]; rfl
  | cons x R =>
    have e : chr (c0 :: x :: R) 1 = x := rfl
    rw [e, adv_lt (by simp)]
    by_cases h : (regR (x : Int)).2 = true
    · cases R with
      | nil =>
        have h2 : (regR (chr [c0, x] (1 + 1))).2 = false := reg_end (by simp)
        rw [h2, simpV_none (by rw [simp_a, if_pos h, simp_nil 98 (by decide)])]
        simp
      | cons y R =>
        have e2 : chr (c0 :: x :: y :: R) (1 + 1) = y := rfl
        rw [e2, adv_lt (by simp)]
        by_cases h2 : (regR (y : Int)).2 = true
        · rw [h, h2, simpV_some (a := (regR (x : Int)).1) (b := (regR (y : Int)).1) (n := 0) (M := R) (by rw [simp_a, if_pos h, simp_b, if_pos h2]; rfl)]
          cases R <;> simp
        · rw [simpV_none (by rw [simp_a, if_pos h, simp_b, if_neg h2]), if_neg (by simp [h2])]
    · rw [simpV_none (by rw [simp_a, if_neg h]), if_neg (by simp [h])]
theorem shape_aN (c0 : Nat) (R : List Nat) (op : Nat) :
    (if ((fieldsR (c0 :: R) [c0, 97, 78] 1).ok && decide ((fieldsR (c0 :: R) [c0, 97, 78] 1).q = (c0 :: R).length)) = true then some (⟨op, (fieldsR (c0 :: R) [c0, 97, 78] 1).a, (fieldsR (c0 :: R) [c0, 97, 78] 1).b, (fieldsR (c0 :: R) [c0, 97, 78] 1).n, []⟩ : InstrD) else none) = simpV op [97, 78] R := by
  rw [fields_aN]
  dsimp only
  cases R with
  | nil => rw [reg_fail, simpV_none (simp_nil 97 (by decide) _ _ _ _)]; rfl
  | cons x R =>
    have e : chr (c0 :: x :: R) 1 = x := rfl
    rw [e, adv_lt (by simp)]
    by_cases h : (regR (x : Int)).2 = true
    · rw [h, Bool.true_and, num_last (c0 :: x :: R) (1 + 1) (by simp) (fun n => ⟨op, (regR (x : Int)).1, 0, n, []⟩)]
      show (if (numR (strA (R.take (restN R)))).2 = true then (if (R.drop (restN R)).isEmpty = true then some (⟨op, (regR (x : Int)).1, 0, (numR (strA (R.take (restN R)))).1, []⟩ : InstrD) else none) else none) = _
      by_cases h2 : (numR (strA (R.take (restN R)))).2 = true
      · rw [if_pos h2, simpV_some (a := (regR (x : Int)).1) (b := 0) (n := (numR (strA (R.take (restN R)))).1) (M := R.drop (restN R)) (by rw [simp_a, if_pos h, simp_N, if_pos h2]; rfl)]
      · rw [if_neg h2, simpV_none (by rw [simp_a, if_pos h, simp_N, if_neg h2])]
    · rw [simpV_none (by rw [simp_a, if_neg h]), if_neg (by simp [h])]
theorem num_one (x : Nat) (h : isDig x = false) : (numR (strA [x])).2 = false ∨ 128 ≤ x := by
  by_cases hx : 128 ≤ x
  · exact .inr hx
  · have ha : ∀ y ∈ [x], y < 128 := by simp; omega
    have hr : runesF (strA [x]) 0 = [x] := by
      have hs : 0 < (strA [x]).size := by rw [strA_size]; simp
      have hb := strA_get [x] 0 hs ha
      have e : chr [x] 0 = x := rfl
      rw [e] at hb
      rw [runesF_step _ 0 hs, decode_ascii _ 0 hs (by rw [hb]; omega), hb]
      rw [runesF_end _ _ (by rw [strA_size]; simp)]
    left
    unfold numR
    rw [hr]
    simp [h]
theorem shape_Da (c0 : Nat) (R : List Nat) (op : Nat) (ha : ∀ x ∈ R, x < 128) :
    (if ((fieldsR (c0 :: R) [c0, 68, 97] 1).ok && decide ((fieldsR (c0 :: R) [c0, 68, 97] 1).q = (c0 :: R).length)) = true then some (⟨op, (fieldsR (c0 :: R) [c0, 68, 97] 1).a, (fieldsR (c0 :: R) [c0, 68, 97] 1).b, (fieldsR (c0 :: R) [c0, 68, 97] 1).n, []⟩ : InstrD) else none) = simpV op [110, 97] R := by
  rw [fields_Da]
  dsimp only
  cases R with
  | nil =>
    rw [simpV_none (simp_nil 110 (by decide) _ _ _ _), if_neg]
    have e : numL [c0] 1 1 = numL [0] 1 1 := rfl
    rw [e]
    have : (numR (numL [0] 1 1)).2 = false := by decide +kernel
    rw [this]
    simp
  | cons x R =>
    have hx := ha x (by simp)
    by_cases hd : isDig x = true
    · have hrun : runL ((c0 :: x :: R).drop 1) 1 = 1 := by
        show runL (x :: R) (0 + 1) = 1
        simp only [runL]
        rw [if_pos hd]
      have hnum : numL (c0 :: x :: R) 1 1 = strA [x] := by
        unfold numL
        rw [hrun]
        rfl
      rw [hrun, hnum]
      by_cases h : (numR (strA [x])).2 = true
      · rw [h, Bool.true_and]
        cases R with
        | nil =>
          have h2 : (regR (chr [c0, x] (1 + 1))).2 = false := reg_end (by simp)
          rw [h2, simpV_none (by rw [simp_n, if_pos h, simp_nil 97 (by decide)])]
          simp
        | cons y R =>
          have e2 : chr (c0 :: x :: y :: R) (1 + 1) = y := rfl
          rw [e2, adv_lt (by simp)]
          by_cases h2 : (regR (y : Int)).2 = true
          · rw [h2, simpV_some (a := (regR (y : Int)).1) (b := 0) (n := (numR (strA [x])).1) (M := R) (by rw [simp_n, if_pos h, simp_a, if_pos h2]; rfl)]
            cases R <;> simp
          · rw [simpV_none (by rw [simp_n, if_pos h, simp_a, if_neg h2]), if_neg (by simp [h2])]
      · rw [simpV_none (by rw [simp_n, if_neg h]), if_neg (by simp [h])]
    · have hd0 : isDig x = false := by simpa using hd
      have hrun : runL ((c0 :: x :: R).drop 1) 1 = 0 := by
        show runL (x :: R) (0 + 1) = 0
        simp only [runL]
        rw [if_neg hd]
      have hnum : numL (c0 :: x :: R) 1 1 = strA [] := by
        unfold numL
        rw [hrun]
        rfl
      have h0 : (numR (strA [])).2 = false := by decide +kernel
      have h1 : (numR (strA [x])).2 = false := by
        rcases num_one x hd0 with h | h
        · exact h
        · omega
      rw [hrun, hnum, h0, simpV_none (by rw [simp_n, if_neg (by rw [h1]; simp)])]
      simp

theorem findF_none (c : Nat) (h : ∀ P ∈ formsL, chr P 0 ≠ c) : ∀ (Ps : List (List Nat)) (i : Nat), (∀ P ∈ Ps, P ∈ formsL) → (findF (c : Int) i Ps).2.2 = false
  | [], _, _ => rfl
  | P :: r, i, hP => by
    unfold findF
    rw [if_neg (by have := h P (hP P (by simp)); omega)]
    exact findF_none c h r (i + 1) (fun Q hQ => hP Q (by simp [hQ]))
theorem formF_none (c : Nat) (M : List Nat) (h : ∀ f ∈ rforms, f.letter ≠ c) : ∀ (l : List RForm), (∀ f ∈ l, f ∈ rforms) → formF c M l = none
  | [], _ => rfl
  | f :: r, hf => by
    unfold formF
    rw [if_neg (h f (hf f (by simp)))]
    exact formF_none c M h r (fun g hg => hf g (by simp [hg]))
theorem forms_letters : ∀ f ∈ rforms, ∃ P ∈ formsL, chr P 0 = f.letter := by decide

/-- A line is the same to both. -/
theorem line_one (L : List Nat) (hL : LineOK L) : lineV L = oneR L := by
  obtain ⟨h0, _, hr⟩ := hL
  cases L with
  | nil => simp at h0
  | cons c R =>
    have hR : ∀ x ∈ R, x < 128 := fun x hx => by have := hr x (by simp [hx]); omega
    have e0 : chr (c :: R) 0 = c := rfl
    by_cases h83 : c = 83
    · subst h83
      have hf : findF ((83 : Nat) : Int) 0 formsL = (21, [83], true) := rfl
      unfold lineV lineR oneR
      rw [e0, hf]
      dsimp only
      rw [if_neg (show ¬ (true = false) by simp), if_pos (show (83 : Nat) = 83 from rfl), if_pos (show (83 : Nat) = 83 from rfl)]
      unfold rchoiceR choiceR
      have hch := choice_eq (83 :: R) ((83 :: R).length + 1) 1 [] (by simp) (by omega)
      rw [adv_lt (by simp), Nat.zero_add, hch]
      have e1 : (83 :: R).drop 1 = R := rfl
      rw [e1]
      have hfu : ∀ (k m : Nat) (M : List Nat) (acc : List CaseD), M.length < k → M.length < m → rchF k M acc = rchF m M acc := by
        intro k
        induction k with
        | zero => intro m M acc h; omega
        | succ k ih =>
          intro m M acc hk hm
          cases m with
          | zero => omega
          | succ m =>
            unfold rchF
            split
            · rfl
            · rename_i hne
              split
              · rfl
              · rename_i kd ch rg T hh
                split
                · rfl
                · rename_i cc M' ht
                  have hT : T.length < M.length := by
                    unfold rhead at hh
                    split at hh
                    · split at hh
                      · cases hh
                      · split at hh
                        · cases hh
                        · rename_i h3 _
                          simp at hh
                          rw [← hh.2.2.2, List.length_drop]
                          omega
                    · split at hh
                      · simp at hh
                        rw [← hh.2.2.2, List.length_tail]
                        omega
                      · cases hh
                  have hM' : M'.length ≤ T.length := by
                    unfold rtail at ht
                    split at ht
                    · cases ht
                    · split at ht
                      · cases ht
                      · simp at ht
                        rw [← ht.2, List.length_drop]
                        omega
                  exact ih m M' _ (by omega) (by omega)
      rw [hfu ((83 :: R).length + 1) (R.length + 1) R [] (by simp; omega) (by omega)]
      cases rchF (R.length + 1) R [] <;> rfl
    · have e1 : (c :: R).drop 1 = R := rfl
      have hn : chr (c :: R) 0 ≠ 83 := h83
      have go : ∀ (op : Nat) (f : RForm) (F : List Nat), findF ((c : Nat) : Int) 0 formsL = (op, F, true) → (∀ M, formF c M rforms = (if (simpR f.op f.args M).2 = true then some (simpR f.op f.args M).1 else none)) →
          (if ((fieldsR (c :: R) F 1).ok && decide ((fieldsR (c :: R) F 1).q = (c :: R).length)) = true then some (⟨op, (fieldsR (c :: R) F 1).a, (fieldsR (c :: R) F 1).b, (fieldsR (c :: R) F 1).n, []⟩ : InstrD) else none) = simpV f.op f.args R → lineV (c :: R) = oneR (c :: R) := by
        intro op f F hf hg hs
        rw [line_of (by rw [e0]; exact hf) hn (by simp), one_of (f := f) (by rw [e0]; exact hg) hn, e1, hs]
      by_cases c1 : c = 61
      · subst c1; exact go 1 ⟨1, 61, [97, 78]⟩ _ rfl (fun _ => rfl) (shape_aN _ _ _)
      by_cases c2 : c = 60
      · subst c2; exact go 2 ⟨2, 60, [97, 98]⟩ _ rfl (fun _ => rfl) (shape_ab _ _ _)
      by_cases c3 : c = 43
      · subst c3; exact go 3 ⟨3, 43, [97, 98]⟩ _ rfl (fun _ => rfl) (shape_ab _ _ _)
      by_cases c4 : c = 109
      · subst c4; exact go 4 ⟨4, 109, [97, 78]⟩ _ rfl (fun _ => rfl) (shape_aN _ _ _)
      by_cases c5 : c = 115
      · subst c5; exact go 5 ⟨5, 115, [97, 98]⟩ _ rfl (fun _ => rfl) (shape_ab _ _ _)
      by_cases c6 : c = 114
      · subst c6; exact go 6 ⟨6, 114, [97, 98]⟩ _ rfl (fun _ => rfl) (shape_ab _ _ _)
      by_cases c7 : c = 99
      · subst c7; exact go 7 ⟨7, 99, [97]⟩ _ rfl (fun _ => rfl) (shape_a _ _ _)
      by_cases c8 : c = 108
      · subst c8; exact go 8 ⟨8, 108, [97, 98]⟩ _ rfl (fun _ => rfl) (shape_ab _ _ _)
      by_cases c9 : c = 107
      · subst c9; exact go 9 ⟨9, 107, [97, 98]⟩ _ rfl (fun _ => rfl) (shape_ab _ _ _)
      by_cases c10 : c = 103
      · subst c10; exact go 10 ⟨10, 103, [78]⟩ _ rfl (fun _ => rfl) (shape_N _ _ _)
      by_cases c11 : c = 106
      · subst c11; exact go 11 ⟨11, 106, [78]⟩ _ rfl (fun _ => rfl) (shape_N _ _ _)
      by_cases c12 : c = 122
      · subst c12; exact go 12 ⟨12, 122, [97, 78]⟩ _ rfl (fun _ => rfl) (shape_aN _ _ _)
      by_cases c13 : c = 111
      · subst c13; exact go 13 ⟨13, 111, [97]⟩ _ rfl (fun _ => rfl) (shape_a _ _ _)
      by_cases c14 : c = 116
      · subst c14; exact go 14 ⟨14, 116, [97, 78]⟩ _ rfl (fun _ => rfl) (shape_aN _ _ _)
      by_cases c15 : c = 98
      · subst c15; exact go 15 ⟨15, 98, [97, 98]⟩ _ rfl (fun _ => rfl) (shape_ab _ _ _)
      by_cases c16 : c = 117
      · subst c16; exact go 16 ⟨16, 117, [97, 98]⟩ _ rfl (fun _ => rfl) (shape_ab _ _ _)
      by_cases c17 : c = 119
      · subst c17; exact go 17 ⟨17, 119, [97, 98]⟩ _ rfl (fun _ => rfl) (shape_ab _ _ _)
      by_cases c18 : c = 112
      · subst c18; exact go 18 ⟨18, 112, [110, 97]⟩ _ rfl (fun _ => rfl) (shape_Da _ _ _ hR)
      by_cases c19 : c = 113
      · subst c19; exact go 19 ⟨19, 113, [97, 78]⟩ _ rfl (fun _ => rfl) (shape_aN _ _ _)
      by_cases c20 : c = 102
      · subst c20; exact go 20 ⟨20, 102, [97, 78]⟩ _ rfl (fun _ => rfl) (shape_aN _ _ _)
      by_cases c22 : c = 120
      · subst c22; exact go 22 ⟨22, 120, []⟩ _ rfl (fun _ => rfl) (shape_none _ _ _)
      have hne : ∀ P ∈ formsL, chr P 0 ≠ c := by
        intro P hP e
        have H : ∀ P ∈ formsL, chr P 0 ∈ [61, 60, 43, 109, 115, 114, 99, 108, 107, 103, 106, 122, 111, 116, 98, 117, 119, 112, 113, 102, 83, 120] := by decide
        have := H P hP
        rw [e] at this
        simp at this
        omega
      have hnf : ∀ f ∈ rforms, f.letter ≠ c := fun f hf e => by
        obtain ⟨P, hP, hc⟩ := forms_letters f hf
        exact hne P hP (hc.trans e)
      unfold lineV lineR oneR
      rw [e0, if_pos (findF_none c hne formsL 0 (fun _ h => h)), if_neg h83, formF_none c _ hnf rforms (fun _ h => h)]
      rfl
end Go.Proofs.YtoflhfiegfhkoaaDoor
