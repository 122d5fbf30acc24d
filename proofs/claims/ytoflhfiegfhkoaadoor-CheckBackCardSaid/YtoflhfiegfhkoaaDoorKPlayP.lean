/-
  What dormouseplay makes may be, in plain words.
-/
import Derived.Test.YtoflhfiegfhkoaaDoorKPlayC
import Derived.Test.YtoflhfiegfhkoaaDoorKVal
namespace Go.Proofs.YtoflhfiegfhkoaaDoor
open Go.RowKit Go.Proofs.YtoflhfiegfhkoaaDoorW.PrintWords
set_option linter.unusedVariables false
set_option linter.unusedSimpArgs false

def caseGood (n : Int) (c : CaseD) : Prop := (c.kind = 1 ∨ c.kind = 2) ∧ (0 ≤ c.ch ∧ c.ch < 6) ∧ (0 ≤ c.reg ∧ c.reg < 6) ∧ (0 ≤ c.dest ∧ c.dest < n)
theorem regOk_in {v : Int} (h : 0 ≤ v ∧ v < 6) : regOk v true = true := by
  unfold regOk
  by_cases h0 : v = 0
  · simp [h0]
  · simp; omega
theorem withinOk_in {v m : Int} (h : 0 ≤ v ∧ v ≤ m) : withinOk v m = true := by unfold withinOk; simp; omega
theorem caseOk_good {n : Int} {c : CaseD} (h : caseGood n c) (hn : n ≤ 1000) (N i : Nat) : caseOk N i c = true := by
  obtain ⟨h1, h2, h3, h4⟩ := h
  have hk : (c.kind == 3) = false := by rcases h1 with h | h <;> simp [h]
  have e1 : decide (c.kind < 1) = false := decide_eq_false (by omega)
  have e2 : decide (3 < c.kind) = false := decide_eq_false (by omega)
  unfold caseOk
  rw [hk, e1, e2, Bool.not_false, regOk_in h2, regOk_in h3, withinOk_in (show 0 ≤ c.dest ∧ c.dest ≤ 9999 by omega)]
  rfl
theorem caseOk_else {t : Int} (h : 0 ≤ t ∧ t ≤ 9999) {N i : Nat} (hi : ¬ i + 1 < N) : caseOk N i ⟨3, 0, 0, t⟩ = true := by
  unfold caseOk
  dsimp only
  rw [withinOk_in h, decide_eq_false hi]
  rfl
theorem casF_good {n : Int} (hn : n ≤ 1000) (N : Nat) : ∀ (l : List CaseD) (i : Nat), (∀ c ∈ l, caseGood n c) → casF N i l = true
  | [], _, _ => rfl
  | c :: r, i, h => by
    unfold casF
    rw [caseOk_good (h c (List.mem_cons_self ..)) hn, casF_good hn N r (i + 1) (fun x hx => h x (List.mem_cons_of_mem _ hx))]
    rfl
theorem casF_append (N : Nat) : ∀ (l r : List CaseD) (i : Nat), casF N i (l ++ r) = (casF N i l && casF N (i + l.length) r)
  | [], r, i => by simp [casF]
  | c :: l, r, i => by
    simp only [List.cons_append, casF]
    rw [casF_append N l r (i + 1), Bool.and_assoc, List.length_cons, show i + 1 + l.length = i + (l.length + 1) by omega]
theorem casesOk_good {n : Int} (hn : n ≤ 1000) (l : List CaseD) (h : ∀ c ∈ l, caseGood n c) (h1 : 1 ≤ l.length) (h3 : l.length ≤ 3) : casesOk l = true := by
  unfold casesOk
  rw [casF_good hn _ _ _ h, decide_eq_true h1, decide_eq_true h3]
  rfl
theorem casesOk_else {n t : Int} (hn : n ≤ 1000) (l : List CaseD) (h : ∀ c ∈ l, caseGood n c) (h3 : l.length ≤ 2) (ht : 0 ≤ t ∧ t ≤ 9999) : casesOk (l ++ [⟨3, 0, 0, t⟩]) = true := by
  unfold casesOk
  rw [casF_append, casF_good hn _ _ _ h]
  have hl : (l ++ [(⟨3, 0, 0, t⟩ : CaseD)]).length = l.length + 1 := by simp
  rw [hl]
  have : casF (l.length + 1) (0 + l.length) [⟨3, 0, 0, t⟩] = true := by
    unfold casF
    rw [caseOk_else ht (by omega)]
    rfl
  rw [this, decide_eq_true (show 1 ≤ l.length + 1 by omega), decide_eq_true (show l.length + 1 ≤ 3 by omega)]
  rfl
theorem pcase_kind (c : CaseD) (n : Int) : 1 ≤ (pcase c n).kind ∧ (pcase c n).kind ≤ 3 := by
  have := pmod_bounds (c.kind - 1) 3 (by omega)
  unfold pcase
  dsimp only
  omega
theorem pcase_good {c : CaseD} {n : Int} (hn : 1 ≤ n) (h3 : (pcase c n).kind ≠ 3) : caseGood n (pcase c n) := by
  have hk := pcase_kind c n
  refine ⟨by omega, pmod_bounds c.ch 6 (by omega), pmod_bounds c.reg 6 (by omega), pmod_bounds c.dest n hn⟩
theorem pcF_ok {n : Int} (hn : 1 ≤ n) (hm : n ≤ 1000) : ∀ (k : Nat) (l acc : List CaseD), (∀ c ∈ acc, caseGood n c) → acc.length + k ≤ 3 → casesOk (pcF n k l acc) = true ∧ ∀ c ∈ pcF n k l acc, 0 ≤ c.dest ∧ c.dest < n := by
  have hend : ∀ acc : List CaseD, (∀ c ∈ acc, caseGood n c) → acc.length ≤ 3 → casesOk (pcEnd acc) = true ∧ ∀ c ∈ pcEnd acc, 0 ≤ c.dest ∧ c.dest < n := by
    intro acc ha hl
    unfold pcEnd
    split
    · refine ⟨by decide, fun c hc => ?_⟩
      rw [List.mem_singleton] at hc
      subst hc
      exact ⟨Int.le_refl _, by show (0 : Int) < n; omega⟩
    · exact ⟨casesOk_good hm acc ha (by omega) hl, fun c hc => (ha c hc).2.2.2⟩
  intro k
  induction k with
  | zero => intro l acc ha hl; exact hend acc ha (by omega)
  | succ k ih =>
    intro l acc ha hl
    cases l with
    | nil => exact hend acc ha (by omega)
    | cons c r =>
      unfold pcF
      have hd := pmod_bounds c.dest n hn
      split
      · refine ⟨casesOk_else hm acc ha (by omega) ⟨hd.1, by show pmod c.dest n ≤ 9999; omega⟩, fun x hx => ?_⟩
        rcases List.mem_append.1 hx with hx | hx
        · exact (ha x hx).2.2.2
        · rw [List.mem_singleton] at hx
          subst hx
          exact hd
      · rename_i h3
        refine ih r _ (fun x hx => ?_) (by rw [List.length_append, List.length_singleton]; omega)
        rcases List.mem_append.1 hx with hx | hx
        · exact ha x hx
        · rw [List.mem_singleton] at hx
          subst hx
          exact pcase_good hn h3

theorem shp_of {K a b n : Int} {cs : List CaseD} {A B N : Bool} (hK : 1 ≤ K ∧ K ≤ 22) (hA : ctn (hasF K) 97 = A) (hB : ctn (hasF K) 98 = B) (hN : Lib.containsAny (hasF K) [110, 108] = N)
    (ra : regOk a A = true) (rb : regOk b B = true) (rn : n = 0 ∨ N = true) (rw_ : 0 ≤ n ∧ n ≤ boundOf K) (rc : (if K = 21 then casesOk cs else cs.length == 0) = true) : shapedP ⟨K, a, b, n, cs⟩ = true := by
  unfold shapedP
  rw [if_neg (by show ¬ (K < 1 ∨ 22 < K); omega)]
  dsimp only
  rw [hA, hB, hN, ra, rb, withinOk_in rw_, rc]
  have : (!(!(n == 0) && !N)) = true := by
    rcases rn with rfl | rfl
    · rfl
    · cases n == 0 <;> rfl
  rw [this]
  rfl
theorem regOk_zero (b : Bool) : regOk 0 b = true := by unfold regOk; rfl

/-- What an instruction that may be leads to. -/
theorem pinstrO_ok {n : Int} (hn : 1 ≤ n) (hm : n ≤ 1000) (K : Int) (hK : 1 ≤ K ∧ K ≤ 22) (x : InstrD) : shapedP (pinstrO K x n) = true ∧ ∀ t ∈ tosP (pinstrO K x n), 0 ≤ t ∧ t < n := by
  have ha := pmod_bounds x.a 6 (by omega)
  have hb := pmod_bounds x.b 6 (by omega)
  have hnn := pmod_bounds x.n n hn
  have h1 := pmod_bounds x.n 10000 (by omega)
  have h2 := pmod_bounds x.n 4 (by omega)
  have h3 := pmod_bounds x.n 20 (by omega)
  have h4 := pmod_bounds x.n 10 (by omega)
  have hc := pcF_ok hn hm 3 x.cases [] (by simp) (by simp)
  have no : ∀ (K a b n : Int), jumps K = false → ∀ t ∈ tosP ⟨K, a, b, n, []⟩, 0 ≤ t ∧ t < 0 := by
    intro K a b n hj t ht
    unfold tosP at ht
    rw [hj] at ht
    simp at ht
  have hk : K = 1 ∨ K = 2 ∨ K = 3 ∨ K = 4 ∨ K = 5 ∨ K = 6 ∨ K = 7 ∨ K = 8 ∨ K = 9 ∨ K = 10 ∨ K = 11 ∨ K = 12 ∨ K = 13 ∨ K = 14 ∨ K = 15 ∨ K = 16 ∨ K = 17 ∨ K = 18 ∨ K = 19 ∨ K = 20 ∨ K = 21 ∨ K = 22 := by omega
  clear hK
  rcases hk with rfl | rfl | rfl | rfl | rfl | rfl | rfl | rfl | rfl | rfl | rfl | rfl | rfl | rfl | rfl | rfl | rfl | rfl | rfl | rfl | rfl | rfl
  · have e : pinstrO 1 x n = ⟨1, pmod x.a 6, 0, pmod x.n 10000, []⟩ := rfl
    rw [e]
    exact ⟨shp_of (by omega) (show ctn (hasF 1) 97 = true by decide +kernel) rfl (show Lib.containsAny (hasF 1) [110, 108] = true by decide +kernel) (regOk_in ha) (regOk_zero _) (.inr rfl) (by rw [show boundOf 1 = 9999 from rfl]; omega) rfl, fun t ht => by have := no _ _ _ _ rfl t ht; omega⟩
  · have e : pinstrO 2 x n = ⟨2, pmod x.a 6, pmod x.b 6, 0, []⟩ := rfl
    rw [e]
    exact ⟨shp_of (by omega) (show ctn (hasF 2) 97 = true by decide +kernel) (show ctn (hasF 2) 98 = true by decide +kernel) rfl (regOk_in ha) (regOk_in hb) (.inl rfl) (by rw [show boundOf 2 = 9999 from rfl]; omega) rfl, fun t ht => by have := no _ _ _ _ rfl t ht; omega⟩
  · have e : pinstrO 3 x n = ⟨3, pmod x.a 6, pmod x.b 6, 0, []⟩ := rfl
    rw [e]
    exact ⟨shp_of (by omega) (show ctn (hasF 3) 97 = true by decide +kernel) (show ctn (hasF 3) 98 = true by decide +kernel) rfl (regOk_in ha) (regOk_in hb) (.inl rfl) (by rw [show boundOf 3 = 9999 from rfl]; omega) rfl, fun t ht => by have := no _ _ _ _ rfl t ht; omega⟩
  · have e : pinstrO 4 x n = ⟨4, pmod x.a 6, 0, pmod x.n 4, []⟩ := rfl
    rw [e]
    exact ⟨shp_of (by omega) (show ctn (hasF 4) 97 = true by decide +kernel) rfl (show Lib.containsAny (hasF 4) [110, 108] = true by decide +kernel) (regOk_in ha) (regOk_zero _) (.inr rfl) (by rw [show boundOf 4 = 3 from rfl]; omega) rfl, fun t ht => by have := no _ _ _ _ rfl t ht; omega⟩
  · have e : pinstrO 5 x n = ⟨5, pmod x.a 6, pmod x.b 6, 0, []⟩ := rfl
    rw [e]
    exact ⟨shp_of (by omega) (show ctn (hasF 5) 97 = true by decide +kernel) (show ctn (hasF 5) 98 = true by decide +kernel) rfl (regOk_in ha) (regOk_in hb) (.inl rfl) (by rw [show boundOf 5 = 9999 from rfl]; omega) rfl, fun t ht => by have := no _ _ _ _ rfl t ht; omega⟩
  · have e : pinstrO 6 x n = ⟨6, pmod x.a 6, pmod x.b 6, 0, []⟩ := rfl
    rw [e]
    exact ⟨shp_of (by omega) (show ctn (hasF 6) 97 = true by decide +kernel) (show ctn (hasF 6) 98 = true by decide +kernel) rfl (regOk_in ha) (regOk_in hb) (.inl rfl) (by rw [show boundOf 6 = 9999 from rfl]; omega) rfl, fun t ht => by have := no _ _ _ _ rfl t ht; omega⟩
  · have e : pinstrO 7 x n = ⟨7, pmod x.a 6, 0, 0, []⟩ := rfl
    rw [e]
    exact ⟨shp_of (by omega) (show ctn (hasF 7) 97 = true by decide +kernel) rfl rfl (regOk_in ha) (regOk_zero _) (.inl rfl) (by rw [show boundOf 7 = 9999 from rfl]; omega) rfl, fun t ht => by have := no _ _ _ _ rfl t ht; omega⟩
  · have e : pinstrO 8 x n = ⟨8, pmod x.a 6, pmod x.b 6, 0, []⟩ := rfl
    rw [e]
    exact ⟨shp_of (by omega) (show ctn (hasF 8) 97 = true by decide +kernel) (show ctn (hasF 8) 98 = true by decide +kernel) rfl (regOk_in ha) (regOk_in hb) (.inl rfl) (by rw [show boundOf 8 = 9999 from rfl]; omega) rfl, fun t ht => by have := no _ _ _ _ rfl t ht; omega⟩
  · have e : pinstrO 9 x n = ⟨9, pmod x.a 6, pmod x.b 6, 0, []⟩ := rfl
    rw [e]
    exact ⟨shp_of (by omega) (show ctn (hasF 9) 97 = true by decide +kernel) (show ctn (hasF 9) 98 = true by decide +kernel) rfl (regOk_in ha) (regOk_in hb) (.inl rfl) (by rw [show boundOf 9 = 9999 from rfl]; omega) rfl, fun t ht => by have := no _ _ _ _ rfl t ht; omega⟩
  · have e : pinstrO 10 x n = ⟨10, 0, 0, pmod x.n n, []⟩ := rfl
    rw [e]
    refine ⟨shp_of (by omega) rfl rfl (show Lib.containsAny (hasF 10) [110, 108] = true by decide +kernel) (regOk_zero _) (regOk_zero _) (.inr rfl) (by rw [show boundOf 10 = 9999 from rfl]; omega) rfl, fun t ht => ?_⟩
    have ht2 : t ∈ [pmod x.n n] := ht
    rw [List.mem_singleton] at ht2
    subst ht2
    exact hnn
  · have e : pinstrO 11 x n = ⟨11, 0, 0, pmod x.n n, []⟩ := rfl
    rw [e]
    refine ⟨shp_of (by omega) rfl rfl (show Lib.containsAny (hasF 11) [110, 108] = true by decide +kernel) (regOk_zero _) (regOk_zero _) (.inr rfl) (by rw [show boundOf 11 = 9999 from rfl]; omega) rfl, fun t ht => ?_⟩
    have ht2 : t ∈ [pmod x.n n] := ht
    rw [List.mem_singleton] at ht2
    subst ht2
    exact hnn
  · have e : pinstrO 12 x n = ⟨12, pmod x.a 6, 0, pmod x.n n, []⟩ := rfl
    rw [e]
    refine ⟨shp_of (by omega) (show ctn (hasF 12) 97 = true by decide +kernel) rfl (show Lib.containsAny (hasF 12) [110, 108] = true by decide +kernel) (regOk_in ha) (regOk_zero _) (.inr rfl) (by rw [show boundOf 12 = 9999 from rfl]; omega) rfl, fun t ht => ?_⟩
    have ht2 : t ∈ [pmod x.n n] := ht
    rw [List.mem_singleton] at ht2
    subst ht2
    exact hnn
  · have e : pinstrO 13 x n = ⟨13, pmod x.a 6, 0, 0, []⟩ := rfl
    rw [e]
    exact ⟨shp_of (by omega) (show ctn (hasF 13) 97 = true by decide +kernel) rfl rfl (regOk_in ha) (regOk_zero _) (.inl rfl) (by rw [show boundOf 13 = 9999 from rfl]; omega) rfl, fun t ht => by have := no _ _ _ _ rfl t ht; omega⟩
  · have e : pinstrO 14 x n = ⟨14, pmod x.a 6, 0, pmod x.n 20, []⟩ := rfl
    rw [e]
    exact ⟨shp_of (by omega) (show ctn (hasF 14) 97 = true by decide +kernel) rfl (show Lib.containsAny (hasF 14) [110, 108] = true by decide +kernel) (regOk_in ha) (regOk_zero _) (.inr rfl) (by rw [show boundOf 14 = 1000 from rfl]; omega) rfl, fun t ht => by have := no _ _ _ _ rfl t ht; omega⟩
  · have e : pinstrO 15 x n = ⟨15, pmod x.a 6, pmod x.b 6, 0, []⟩ := rfl
    rw [e]
    exact ⟨shp_of (by omega) (show ctn (hasF 15) 97 = true by decide +kernel) (show ctn (hasF 15) 98 = true by decide +kernel) rfl (regOk_in ha) (regOk_in hb) (.inl rfl) (by rw [show boundOf 15 = 9999 from rfl]; omega) rfl, fun t ht => by have := no _ _ _ _ rfl t ht; omega⟩
  · have e : pinstrO 16 x n = ⟨16, pmod x.a 6, pmod x.b 6, 0, []⟩ := rfl
    rw [e]
    exact ⟨shp_of (by omega) (show ctn (hasF 16) 97 = true by decide +kernel) (show ctn (hasF 16) 98 = true by decide +kernel) rfl (regOk_in ha) (regOk_in hb) (.inl rfl) (by rw [show boundOf 16 = 9999 from rfl]; omega) rfl, fun t ht => by have := no _ _ _ _ rfl t ht; omega⟩
  · have e : pinstrO 17 x n = ⟨17, pmod x.a 6, pmod x.b 6, 0, []⟩ := rfl
    rw [e]
    exact ⟨shp_of (by omega) (show ctn (hasF 17) 97 = true by decide +kernel) (show ctn (hasF 17) 98 = true by decide +kernel) rfl (regOk_in ha) (regOk_in hb) (.inl rfl) (by rw [show boundOf 17 = 9999 from rfl]; omega) rfl, fun t ht => by have := no _ _ _ _ rfl t ht; omega⟩
  · have e : pinstrO 18 x n = ⟨18, pmod x.a 6, 0, pmod x.n 4, []⟩ := rfl
    rw [e]
    exact ⟨shp_of (by omega) (show ctn (hasF 18) 97 = true by decide +kernel) rfl (show Lib.containsAny (hasF 18) [110, 108] = true by decide +kernel) (regOk_in ha) (regOk_zero _) (.inr rfl) (by rw [show boundOf 18 = 3 from rfl]; omega) rfl, fun t ht => by have := no _ _ _ _ rfl t ht; omega⟩
  · have e : pinstrO 19 x n = ⟨19, pmod x.a 6, 0, pmod x.n 4, []⟩ := rfl
    rw [e]
    exact ⟨shp_of (by omega) (show ctn (hasF 19) 97 = true by decide +kernel) rfl (show Lib.containsAny (hasF 19) [110, 108] = true by decide +kernel) (regOk_in ha) (regOk_zero _) (.inr rfl) (by rw [show boundOf 19 = 3 from rfl]; omega) rfl, fun t ht => by have := no _ _ _ _ rfl t ht; omega⟩
  · have e : pinstrO 20 x n = ⟨20, pmod x.a 6, 0, pmod x.n 10, []⟩ := rfl
    rw [e]
    exact ⟨shp_of (by omega) (show ctn (hasF 20) 97 = true by decide +kernel) rfl (show Lib.containsAny (hasF 20) [110, 108] = true by decide +kernel) (regOk_in ha) (regOk_zero _) (.inr rfl) (by rw [show boundOf 20 = 9 from rfl]; omega) rfl, fun t ht => by have := no _ _ _ _ rfl t ht; omega⟩
  · have e : pinstrO 21 x n = ⟨21, 0, 0, 0, pcF n 3 x.cases []⟩ := rfl
    rw [e]
    refine ⟨shp_of (by omega) rfl rfl rfl (regOk_zero _) (regOk_zero _) (.inl rfl) (by rw [show boundOf 21 = 9999 from rfl]; omega) (by rw [if_pos rfl]; exact hc.1), fun t ht => ?_⟩
    have ht2 : t ∈ (pcF n 3 x.cases []).map (·.dest) := ht
    obtain ⟨c, hcm, rfl⟩ := List.mem_map.1 ht2
    exact hc.2 c hcm
  · have e : pinstrO 22 x n = ⟨22, 0, 0, 0, []⟩ := rfl
    rw [e]
    exact ⟨shp_of (by omega) rfl rfl rfl (regOk_zero _) (regOk_zero _) (.inl rfl) (by rw [show boundOf 22 = 9999 from rfl]; omega) rfl, fun t ht => by have := no _ _ _ _ rfl t ht; omega⟩

theorem look_ok {x : InstrD} {n : Int} {N : Nat} (hs : shapedP x = true) (ht : ∀ t ∈ tosP x, 0 ≤ t ∧ t < n) (hN : n ≤ (N : Int)) : lookR x N = 0 := by
  unfold lookR
  rw [hs, if_neg (by simp), if_neg]
  intro h
  rw [List.any_eq_true] at h
  obtain ⟨t, h1, h2⟩ := h
  have := ht t h1
  simp at h2
  omega
theorem valF_append (N : Nat) : ∀ (l r : List InstrD) (i : Nat), (∀ x ∈ l, lookR x N = 0) → valF N i (l ++ r) = valF N (i + l.length) r
  | [], r, i, _ => by simp
  | x :: l, r, i, h => by
    simp only [List.cons_append, valF]
    rw [if_pos (h x (List.mem_cons_self ..)), valF_append N l r (i + 1) (fun y hy => h y (List.mem_cons_of_mem _ hy)), List.length_cons, show i + 1 + l.length = i + (l.length + 1) by omega]
/-- Each instruction of what play.Code makes may be, in a program of at least so many. -/
theorem pcode_ok (l : List InstrD) : ∀ x ∈ pcodeR l, shapedP x = true ∧ (∀ t ∈ tosP x, 0 ≤ t ∧ t < ((pcodeR l).length : Int)) := by
  intro x hx
  have hl := pcodeO_length l
  rw [pcodeR_length]
  unfold pcodeR at hx
  obtain ⟨y, _, rfl⟩ := List.mem_map.1 hx
  have := pmod_bounds (y.op - 1) 22 (by omega)
  exact pinstrO_ok (by omega) (by omega) _ (by omega) y
theorem pcode_look (l : List InstrD) (N : Nat) (hN : (pcodeR l).length ≤ N) : ∀ x ∈ pcodeR l, lookR x N = 0 := fun x hx =>
  look_ok (pcode_ok l x hx).1 (pcode_ok l x hx).2 (by omega)
theorem pcode_len (l : List InstrD) : 1 ≤ (pcodeR l).length ∧ (pcodeR l).length ≤ 40 := by rw [pcodeR_length]; exact pcodeO_length l
theorem pcode_valid (l : List InstrD) : validR (pcodeR l) = (0, 0) := by
  have h := pcode_len l
  unfold validR
  rw [if_neg (by omega), if_neg (by omega)]
  have := valF_append (pcodeR l).length (pcodeR l) [] 0 (pcode_look l _ (Nat.le_refl _))
  rw [List.append_nil] at this
  rw [this]
  rfl
end Go.Proofs.YtoflhfiegfhkoaaDoor
