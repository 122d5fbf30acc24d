/-
  Choices of cases: what each text is decoded as; in plain words.
-/
import Derived.Test.YtoflhfiegfhkoaaDoorKCLn
namespace Go.Proofs.YtoflhfiegfhkoaaDoor
open Go
set_option linter.unusedVariables false
set_option linter.unusedSimpArgs false

theorem line1_decode {L : List Nat} (hs : signs L) (hne : L ≠ []) (hl : L.length ≤ 2000) : decodeR (strA L) = match oneR L with | some x => ([x], 0, 0) | none => ([], 1, 5) := by
  have hL : linesN L [] = [L] := by rw [linesN_last hs (by simpa using hne), List.nil_append]
  rw [decode_lines (signs_T hs) hl (by rw [hL]; simp) (by rw [hL]; simp), hL]
  simp only [decO]
  cases oneR L <;> rfl
/-- A case that sends or takes. -/
def okC (c : CaseD) : Prop := caseSt c ∧ (c.kind = 1 ∨ c.kind = 2)
theorem flat_sign (cs : List CaseD) (T : List Nat) (hT : restN T = 0) : restN (cs.flatMap caseW ++ T) = 0 := by
  cases cs with
  | nil => exact hT
  | cons c r => rw [List.flatMap_cons, List.append_assoc]; exact caseW_sign c _
theorem caseW_pos (c : CaseD) : 2 ≤ (caseW c).length := by
  have h := decN_len c.dest.toNat
  unfold caseW caseH
  rw [List.length_append]
  split
  · simp; omega
  · split
    · simp; omega
    · simp; omega
theorem caseW_len {c : CaseD} (h : caseSt c) : (caseW c).length ≤ 7 := by
  have h1 := decN_len4 c.dest.toNat (by have := h.1; omega)
  unfold caseW caseH
  rw [List.length_append]
  split
  · simp; omega
  · split
    · simp; omega
    · simp; omega
theorem flat_len : ∀ cs : List CaseD, (∀ c ∈ cs, caseSt c) → 2 * cs.length ≤ (cs.flatMap caseW).length ∧ (cs.flatMap caseW).length ≤ 7 * cs.length
  | [], _ => by simp
  | c :: r, h => by
    have h1 := caseW_pos c
    have h2 := caseW_len (h c (List.mem_cons_self ..))
    have ih := flat_len r fun d hd => h d (List.mem_cons_of_mem _ hd)
    rw [List.flatMap_cons, List.length_append, List.length_cons]
    omega
theorem rchF_skip : ∀ (cs acc : List CaseD) (k : Nat) (T : List Nat), (∀ c ∈ cs, okC c) → restN T = 0 → rchF (k + cs.length) (cs.flatMap caseW ++ T) acc = rchF k T (acc ++ cs)
  | [], acc, k, T, _, _ => by simp
  | c :: r, acc, k, T, h, hT => by
    have hc := h c (List.mem_cons_self ..)
    have hr := fun d hd => h d (List.mem_cons_of_mem c hd)
    have hp := caseW_pos c
    have hs := flat_sign r T hT
    rw [List.length_cons, ← Nat.add_assoc, List.flatMap_cons, List.append_assoc]
    conv => lhs; unfold rchF
    rw [if_neg (by rw [List.length_append]; omega), rhead_case hc.1]
    dsimp only
    rw [rtail_case (by have := hc.1.1; omega) hs (fun h3 => by have := hc.2; omega)]
    dsimp only
    have e : (⟨c.kind, c.ch, c.reg, ((c.dest.toNat : Nat) : Int)⟩ : CaseD) = c := by
      have h0 := hc.1.1
      have h1 : ((c.dest.toNat : Nat) : Int) = c.dest := by omega
      rw [h1]
    rw [e, rchF_skip r (acc ++ [c]) k T hr hT, List.append_assoc]
    rfl
theorem choice_skip {cs : List CaseD} (h : ∀ c ∈ cs, okC c) {T : List Nat} (hT : restN T = 0) : ∃ k, oneR (83 :: (cs.flatMap caseW ++ T)) = (rchF (k + 1) T cs).map fun l => ⟨21, 0, 0, 0, l⟩ := by
  have hl := (flat_len cs fun c hc => (h c hc).1).1
  refine ⟨(cs.flatMap caseW ++ T).length - cs.length, ?_⟩
  unfold oneR
  rw [if_pos (show chr (83 :: (cs.flatMap caseW ++ T)) 0 = 83 from rfl)]
  show rchoiceR (cs.flatMap caseW ++ T) = _
  unfold rchoiceR
  have e : (cs.flatMap caseW ++ T).length + 1 = ((cs.flatMap caseW ++ T).length - cs.length + 1) + cs.length := by rw [List.length_append]; omega
  rw [e, rchF_skip cs [] _ T h hT, List.nil_append]
def tailA : List Nat := [101, 49, 115, 97, 98, 49]
def tailB : List Nat := [115, 97, 49]
def tailC : List Nat := [101]
theorem tail_none : ∀ T ∈ [tailA, tailB, tailC], ∀ (k : Nat) (acc : List CaseD), rchF (k + 1) T acc = none := by
  intro T hT k acc
  simp only [List.mem_cons, List.not_mem_nil, or_false] at hT
  rcases hT with rfl | rfl | rfl
  · have h1 : rhead tailA = some (3, 0, 0, [49, 115, 97, 98, 49]) := by decide
    have h2 : rtail 3 0 0 [49, 115, 97, 98, 49] = none := by decide +kernel
    unfold rchF
    rw [if_neg (by simp [tailA]), h1]
    dsimp only
    rw [h2]
  · have h1 : rhead tailB = none := by decide
    unfold rchF
    rw [if_neg (by simp [tailB]), h1]
  · have h1 : rhead tailC = some (3, 0, 0, []) := by decide
    have h2 : rtail 3 0 0 [] = none := by decide +kernel
    unfold rchF
    rw [if_neg (by simp [tailC]), h1]
    dsimp only
    rw [h2]
theorem signs_cs (cs : List CaseD) : signs (83 :: cs.flatMap caseW) := fun c hc => by
  rcases List.mem_cons.1 hc with rfl | hc
  · omega
  · exact signs_flat signs_case _ c hc
theorem tails_signs : ∀ T ∈ [tailA, tailB, tailC], ∀ c ∈ T, 33 ≤ c ∧ c ≤ 126 := by decide
theorem tails_rest : ∀ T ∈ [tailA, tailB, tailC], restN T = 0 := by decide
theorem tails_len : ∀ T ∈ [tailA, tailB, tailC], T.length ≤ 6 := by decide
/-- What is no case, or stands behind an else, is none. -/
theorem cases_bad {cs : List CaseD} (h : ∀ c ∈ cs, okC c) (hl : cs.length ≤ 6) {T : List Nat} (hT : T ∈ [tailA, tailB, tailC]) : decodeR (strA (83 :: cs.flatMap caseW ++ T)) = ([], 1, 5) := by
  have hf := flat_len cs fun c hc => (h c hc).1
  have hs : signs (83 :: cs.flatMap caseW ++ T) := signs_app (signs_cs cs) (tails_signs T hT)
  have ht := tails_len T hT
  obtain ⟨k, hk⟩ := choice_skip h (tails_rest T hT)
  rw [line1_decode hs (by simp) (by rw [List.length_append, List.length_cons]; omega)]
  rw [List.cons_append, hk, tail_none T hT]
  rfl
/-- The cases alone. -/
theorem cases_some {cs : List CaseD} (h : ∀ c ∈ cs, okC c) (hl : cs.length ≤ 6) (h0 : 0 < cs.length) : decodeR (strA (83 :: cs.flatMap caseW)) = ([⟨21, 0, 0, 0, cs⟩], 0, 0) := by
  have hf := flat_len cs fun c hc => (h c hc).1
  have hsh : rshaped ⟨21, 0, 0, 0, cs⟩ = true := by
    rw [rshaped_21 rfl]
    exact ⟨⟨rfl, rfl, rfl, h0⟩, fun j c hj => ⟨(h c (List.mem_of_getElem? hj)).1, fun h3 => by have := (h c (List.mem_of_getElem? hj)).2; omega⟩⟩
  have hb : oneR (83 :: cs.flatMap caseW) = some ⟨21, 0, 0, 0, cs⟩ := by
    have := back_one hsh
    unfold rW at this
    rw [if_pos rfl] at this
    exact this
  rw [line1_decode (signs_cs cs) (by simp) (by rw [List.length_cons]; omega), hb]
theorem cases_none : decodeR (strA (83 :: ([] : List CaseD).flatMap caseW)) = ([], 1, 5) := by
  rw [line1_decode (signs_cs []) (by simp) (by simp)]
  have : oneR (83 :: ([] : List CaseD).flatMap caseW) = none := by decide +kernel
  rw [this]
/-- The cases, and an else. -/
theorem cases_else2 {cs : List CaseD} (h : ∀ c ∈ cs, okC c) (hl : cs.length ≤ 6) {tt : Nat} (ht : tt < 100) :
    decodeR (strA (83 :: cs.flatMap caseW ++ [101] ++ decN tt)) = ([⟨21, 0, 0, 0, cs ++ [⟨3, 0, 0, tt⟩]⟩], 0, 0) := by
  have hf := flat_len cs fun c hc => (h c hc).1
  have hd := decN_len4 tt (by omega)
  have hsh : rshaped ⟨21, 0, 0, 0, cs ++ [⟨3, 0, 0, (tt : Int)⟩]⟩ = true := by
    rw [rshaped_21 rfl]
    refine ⟨⟨rfl, rfl, rfl, by simp⟩, fun j c hj => ?_⟩
    dsimp only at hj ⊢
    rcases Nat.lt_or_ge j cs.length with hlt | hge
    · rw [List.getElem?_append_left hlt] at hj
      exact ⟨(h c (List.mem_of_getElem? hj)).1, fun h3 => by have := (h c (List.mem_of_getElem? hj)).2; omega⟩
    · have hjl : j < (cs ++ [(⟨3, 0, 0, (tt : Int)⟩ : CaseD)]).length := (List.getElem?_eq_some_iff.1 hj).1
      rw [List.length_append, List.length_singleton] at hjl ⊢
      obtain rfl : j = cs.length := by omega
      rw [List.getElem?_append_right (Nat.le_refl _)] at hj
      simp at hj
      subst hj
      exact ⟨⟨⟨Int.natCast_nonneg tt, by show (tt : Int) < 10000; omega⟩, .inr ⟨rfl, rfl, rfl⟩⟩, fun _ => by omega⟩
  have hb := back_one hsh
  have hW : rW ⟨21, 0, 0, 0, cs ++ [⟨3, 0, 0, (tt : Int)⟩]⟩ = 83 :: cs.flatMap caseW ++ [101] ++ decN tt := by
    unfold rW
    rw [if_pos rfl, List.flatMap_append]
    simp [caseW, caseH]
  rw [← hW, line1_decode (signs_rW _).1 (signs_rW _).2 (by rw [hW, List.length_append, List.length_append, List.length_cons, List.length_singleton]; omega), hb]
end Go.Proofs.YtoflhfiegfhkoaaDoor
