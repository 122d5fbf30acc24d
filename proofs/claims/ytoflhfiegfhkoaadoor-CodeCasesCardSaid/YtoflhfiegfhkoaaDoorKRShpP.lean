/-
  What the reference finds of an instruction's shape is what package check finds.
-/
import Derived.Test.YtoflhfiegfhkoaaDoorKRChk
import Derived.Test.YtoflhfiegfhkoaaDoorKShp
import Derived.Test.YtoflhfiegfhkoaaDoorKRefB
namespace Go.Proofs.YtoflhfiegfhkoaaDoor
open Go.RowKit Go.Proofs.YtoflhfiegfhkoaaDoorW.PrintWords
set_option linter.unusedVariables false

def rcaseOk (n i : Nat) (c : CaseD) : Bool := rwith c.kind 4 && decide (0 < c.kind) && rwith c.ch 6 && rwith c.reg 6 && rwith c.dest 10000 && (!(c.kind == 3) || (c.ch == 0 && c.reg == 0 && decide ((i : Int) = (n : Int) - 1)))
def rcasF (n : Nat) : Nat → Bool → List CaseD → Bool
  | _, ok, [] => ok
  | i, ok, c :: r => rcasF n (i + 1) (ok && rcaseOk n i c) r
def rsh (f : RForm) (x : InstrD) : Bool :=
  (rwith x.a 6 && rwith x.b 6 && rwith x.n 10000 && x.cases.length == 0) && (f.args.contains 97 || x.a == 0) && (f.args.contains 98 || x.b == 0) && ((f.args.contains 78 || f.args.contains 110) || x.n == 0) && (!f.args.contains 110 || decide (x.n < 10))
def rshF (x : InstrD) : List RForm → Bool
  | [] => false
  | f :: r => if (f.op : Int) = x.op then rsh f x else rshF x r
/-- May an instruction be, as the reference says? -/
def rshaped (x : InstrD) : Bool :=
  if x.op = 21 then rcasF x.cases.length 0 (x.a == 0 && x.b == 0 && x.n == 0 && decide (0 < x.cases.length)) x.cases else rshF x rforms

theorem rcaseOk_eq (n i : Nat) (c : CaseD) (hi : i < n) : rcaseOk n i c = caseOk n i c := by
  obtain ⟨k, h, r, t⟩ := c
  unfold rcaseOk caseOk rwith regOk withinOk
  dsimp only
  rw [Bool.eq_iff_iff]
  by_cases h3 : k = 3
  · subst h3
    simp
    omega
  · have : (k == 3) = false := by simp [h3]
    rw [this]
    simp
    omega
theorem rcasF_eq (n : Nat) : ∀ (cs : List CaseD) (i : Nat) (ok : Bool), i + cs.length = n → rcasF n i ok cs = (ok && casF n i cs)
  | [], i, ok, h => by simp [rcasF, casF]
  | c :: r, i, ok, h => by
    simp only [List.length_cons] at h
    simp only [rcasF, casF]
    rw [rcasF_eq n r (i + 1) _ (by omega), rcaseOk_eq n i c (by omega), Bool.and_assoc]
theorem has_words : ∀ k < 22, k ≠ 20 → ∀ f ∈ rforms, f.op = k + 1 → ctn (hasF ((k : Int) + 1)) 97 = f.args.contains 97 ∧ ctn (hasF ((k : Int) + 1)) 98 = f.args.contains 98 ∧ Lib.containsAny (hasF ((k : Int) + 1)) [110, 108] = (f.args.contains 78 || f.args.contains 110) := by decide +kernel
theorem has_21 : ctn (hasF 21) 97 = false ∧ ctn (hasF 21) 98 = false ∧ Lib.containsAny (hasF 21) [110, 108] = false := by decide +kernel
theorem rshF_mem (x : InstrD) : ∀ (l : List RForm), (l.map (·.op)).Nodup → ∀ f ∈ l, (f.op : Int) = x.op → rshF x l = rsh f x
  | [], _, f, hf, _ => by simp at hf
  | g :: r, hn, f, hf, h => by
    rw [List.map_cons, List.nodup_cons] at hn
    unfold rshF
    rcases List.mem_cons.1 hf with rfl | hr
    · rw [if_pos h]
    · have : ¬ (g.op : Int) = x.op := by
        intro e
        apply hn.1
        have e2 : g.op = f.op := by omega
        rw [e2]
        exact List.mem_map_of_mem hr
      rw [if_neg this]
      exact rshF_mem x r hn.2 f hr h
theorem rforms_nodup : (rforms.map (·.op)).Nodup := by decide
theorem rforms_op : ∀ k < 22, k ≠ 20 → ∃ f ∈ rforms, f.op = k + 1 ∧ (f.args.contains 110 = true → k = 17) := by decide
theorem shaped_eq (x : InstrD) : (rshaped x && rbounded x) = shapedP x := by
  unfold rshaped shapedP
  by_cases h21 : x.op = 21
  · rw [if_pos h21, if_neg (by omega), h21]
    obtain ⟨e1, e2, e3⟩ := has_21
    rw [e1, e2, e3, rcasF_eq _ _ _ _ (by simp)]
    have hb : rbounded x = decide ((x.cases.length : Int) ≤ 3) := by unfold rbounded; rw [if_neg (by omega), if_neg (by omega), if_neg (by omega), if_neg (by omega), if_neg (by omega)]
    rw [hb]
    have hbo : boundOf 21 = 9999 := by decide
    rw [hbo]
    unfold casesOk regOk withinOk
    rw [Bool.eq_iff_iff]
    cases casF x.cases.length 0 x.cases <;> simp <;> omega
  · rw [if_neg h21]
    by_cases hop : x.op < 1 ∨ 22 < x.op
    · rw [if_pos hop]
      have : rshF x rforms = false := by
        have hno : ∀ l : List RForm, (∀ f ∈ l, 1 ≤ f.op ∧ f.op ≤ 22) → rshF x l = false := by
          intro l
          induction l with
          | nil => intro _; rfl
          | cons f r ih =>
            intro h
            have := h f (List.mem_cons_self ..)
            unfold rshF
            rw [if_neg (by omega)]
            exact ih (fun g hg => h g (List.mem_cons_of_mem _ hg))
        exact hno rforms (by decide)
      rw [this]
      rfl
    · rw [if_neg hop]
      obtain ⟨k, hk⟩ : ∃ k : Nat, x.op = (k : Int) + 1 := ⟨(x.op - 1).toNat, by omega⟩
      obtain ⟨f, hf, hfo, hd⟩ := rforms_op k (by omega) (by omega)
      obtain ⟨e1, e2, e3⟩ := has_words k (by omega) (by omega) f hf hfo
      rw [rshF_mem x rforms rforms_nodup f hf (by omega), hk, e1, e2, e3, if_neg (by omega)]
      have hbd : (rbounded x && (withinOk x.n 9999 && x.cases.length == 0)) = (withinOk x.n (boundOf ((k : Int) + 1)) && x.cases.length == 0) := by
        unfold rbounded boundOf withinOk
        generalize x.cases.length = L
        rw [hk, Bool.eq_iff_iff]
        repeat' split
        all_goals (simp; omega)
      have hb18 : k = 17 → boundOf ((k : Int) + 1) = 3 := by rintro rfl; decide
      have hbm : boundOf ((k : Int) + 1) ≤ 9999 := by unfold boundOf; repeat' split; all_goals omega
      have hrb : rbounded x = true ∨ rbounded x = false := by cases rbounded x <;> simp
      unfold rsh regOk rwith
      generalize f.args.contains 97 = A at *
      generalize f.args.contains 98 = B at *
      generalize f.args.contains 78 = N at *
      generalize f.args.contains 110 = D at *
      generalize boundOf ((k : Int) + 1) = M at *
      generalize rbounded x = W at *
      unfold withinOk at *
      by_cases hl : x.cases.length = 0
      · rw [hl] at hbd ⊢
        rw [Bool.eq_iff_iff] at hbd ⊢
        cases D
        · cases A <;> cases B <;> cases N <;> cases W <;> simp at hbd ⊢ <;> omega
        · have h18 := hb18 (hd rfl)
          subst h18
          cases A <;> cases B <;> cases N <;> cases W <;> simp at hbd ⊢ <;> omega
      · have : (x.cases.length == 0) = false := by simp [hl]
        rw [this]
        simp
end Go.Proofs.YtoflhfiegfhkoaaDoor
