/-
  A choice is read as it was written; what is read of a line may be; in plain words.
-/
import Derived.Test.YtoflhfiegfhkoaaDoorKWri
namespace Go.Proofs.YtoflhfiegfhkoaaDoor
open Go
set_option linter.unusedVariables false
set_option linter.unusedSimpArgs false

/-- A case as it may be told. -/
def caseSt (c : CaseD) : Prop := (0 ≤ c.dest ∧ c.dest < 10000) ∧ ((c.kind = 1 ∨ c.kind = 2) ∧ (0 ≤ c.ch ∧ c.ch < 6) ∧ (0 ≤ c.reg ∧ c.reg < 6) ∨ c.kind = 3 ∧ c.ch = 0 ∧ c.reg = 0)
theorem rcaseOk_iff {n i : Nat} {c : CaseD} : rcaseOk n i c = true ↔ caseSt c ∧ (c.kind = 3 → (i : Int) = (n : Int) - 1) := by
  unfold rcaseOk caseSt
  simp only [Bool.and_eq_true, rwith_iff, decide_eq_true_eq, Bool.or_eq_true, Bool.not_eq_true', beq_eq_false_iff_ne, beq_iff_eq]
  constructor
  · rintro ⟨⟨⟨⟨⟨h1, h2⟩, h3⟩, h4⟩, h5⟩, h6⟩
    rcases h6 with h6 | ⟨⟨h6, h7⟩, h8⟩
    · exact ⟨⟨h5, .inl ⟨by omega, h3, h4⟩⟩, fun h => absurd h h6⟩
    · by_cases h9 : c.kind = 3
      · exact ⟨⟨h5, .inr ⟨h9, h6, h7⟩⟩, fun _ => h8⟩
      · exact ⟨⟨h5, .inl ⟨by omega, h3, h4⟩⟩, fun _ => h8⟩
  · rintro ⟨⟨h5, h⟩, h8⟩
    rcases h with ⟨h1, h3, h4⟩ | ⟨h1, h3, h4⟩
    · exact ⟨⟨⟨⟨⟨by omega, by omega⟩, h3⟩, h4⟩, h5⟩, .inl (by omega)⟩
    · exact ⟨⟨⟨⟨⟨by omega, by omega⟩, by omega⟩, by omega⟩, h5⟩, .inr ⟨⟨h3, h4⟩, h8 h1⟩⟩
theorem rcasF_iff (n : Nat) : ∀ (cs : List CaseD) (i : Nat) (ok : Bool), rcasF n i ok cs = true ↔ ok = true ∧ ∀ j c, cs[j]? = some c → rcaseOk n (i + j) c = true
  | [], i, ok => by simp [rcasF]
  | c :: r, i, ok => by
    simp only [rcasF]
    rw [rcasF_iff n r (i + 1) _, Bool.and_eq_true]
    constructor
    · rintro ⟨⟨h1, h2⟩, h3⟩
      refine ⟨h1, fun j x hj => ?_⟩
      cases j with
      | zero => simp at hj; subst hj; exact h2
      | succ j => rw [show i + (j + 1) = i + 1 + j by omega]; exact h3 j x (by simpa using hj)
    · rintro ⟨h1, h2⟩
      refine ⟨⟨h1, h2 0 c rfl⟩, fun j x hj => ?_⟩
      rw [show i + 1 + j = i + (j + 1) by omega]
      exact h2 (j + 1) x (by simpa using hj)
theorem rshaped_21 {x : InstrD} (h21 : x.op = 21) : rshaped x = true ↔ (x.a = 0 ∧ x.b = 0 ∧ x.n = 0 ∧ 0 < x.cases.length) ∧ ∀ (j : Nat) c, x.cases[j]? = some c → caseSt c ∧ (c.kind = 3 → (j : Int) = (x.cases.length : Int) - 1) := by
  unfold rshaped
  rw [if_pos h21, rcasF_iff]
  simp only [Bool.and_eq_true, beq_iff_eq, decide_eq_true_eq, Nat.zero_add, rcaseOk_iff]
  constructor
  · rintro ⟨⟨⟨⟨h1, h2⟩, h3⟩, h4⟩, h5⟩; exact ⟨⟨h1, h2, h3, h4⟩, h5⟩
  · rintro ⟨⟨h1, h2, h3, h4⟩, h5⟩; exact ⟨⟨⟨⟨h1, h2⟩, h3⟩, h4⟩, h5⟩

theorem caseW_sign (c : CaseD) (T : List Nat) : restN (caseW c ++ T) = 0 := by
  unfold caseW caseH
  split
  · exact rest_sign _ rfl
  · split
    · exact rest_sign _ rfl
    · exact rest_sign _ rfl
theorem tail_sign : ∀ cs : List CaseD, restN (cs.flatMap caseW) = 0
  | [] => rfl
  | c :: r => by rw [List.flatMap_cons]; exact caseW_sign c _
theorem rhead_case {c : CaseD} (h : caseSt c) (T : List Nat) : rhead (caseW c ++ T) = some (c.kind, c.ch, c.reg, decN c.dest.toNat ++ T) := by
  obtain ⟨_, h⟩ := h
  unfold caseW caseH rhead
  rcases h with ⟨h1, h3, h4⟩ | ⟨h1, h3, h4⟩
  · rcases h1 with h1 | h1
    · rw [if_pos h1]
      have e0 : chr ([115, letterN c.ch, letterN c.reg] ++ decN c.dest.toNat ++ T) 0 = 115 := rfl
      have e1 : chr ([115, letterN c.ch, letterN c.reg] ++ decN c.dest.toNat ++ T) 1 = letterN c.ch := rfl
      have e2 : chr ([115, letterN c.ch, letterN c.reg] ++ decN c.dest.toNat ++ T) 2 = letterN c.reg := rfl
      rw [e0, e1, e2, letter_reg h3, letter_reg h4, h1]
      simp
    · rw [if_neg (show ¬ c.kind = 1 by omega), if_pos h1]
      have e0 : chr ([114, letterN c.ch, letterN c.reg] ++ decN c.dest.toNat ++ T) 0 = 114 := rfl
      have e1 : chr ([114, letterN c.ch, letterN c.reg] ++ decN c.dest.toNat ++ T) 1 = letterN c.ch := rfl
      have e2 : chr ([114, letterN c.ch, letterN c.reg] ++ decN c.dest.toNat ++ T) 2 = letterN c.reg := rfl
      rw [e0, e1, e2, letter_reg h3, letter_reg h4, h1]
      simp
  · rw [if_neg (show ¬ c.kind = 1 by omega), if_neg (show ¬ c.kind = 2 by omega)]
    have e0 : chr ([101] ++ decN c.dest.toNat ++ T) 0 = 101 := rfl
    rw [e0, h1, h3, h4]
    simp
theorem rtail_case {kd ch rg : Int} {m : Nat} {T : List Nat} (hm : m < 10000) (hT : restN T = 0) (h3 : kd = 3 → T = []) : rtail kd ch rg (decN m ++ T) = some (⟨kd, ch, rg, m⟩, T) := by
  have hr := rest_dec m T hT
  have := rtail_yes (kd := kd) (ch := ch) (rg := rg) (T := decN m ++ T) (r := (decN m).length) (nv := (m : Int)) hr (by rw [take_dec, num_dec hm]) (fun he => he.2 (by rw [drop_dec, h3 he.1]; rfl))
  rw [this, drop_dec]
theorem rchF_back : ∀ (cs acc : List CaseD) (k : Nat), cs.length < k → (∀ c ∈ cs, caseSt c) → (∀ j c, cs[j]? = some c → c.kind = 3 → j + 1 = cs.length) → acc ++ cs ≠ [] → rchF k (cs.flatMap caseW) acc = some (acc ++ cs)
  | [], acc, 0, hk, _, _, _ => by simp at hk
  | [], acc, k + 1, _, _, _, hne => by
    simp at hne
    unfold rchF
    rw [if_pos (show (([] : List CaseD).flatMap caseW).length = 0 from rfl), if_neg (by simpa using hne), List.append_nil]
  | c :: r, acc, 0, hk, _, _, _ => by simp at hk
  | c :: r, acc, k + 1, hk, hs, h3, _ => by
    have hc := hs c (List.mem_cons_self ..)
    have hl : ¬ ((c :: r).flatMap caseW).length = 0 := by
      rw [List.flatMap_cons, List.length_append]
      unfold caseW
      rw [List.length_append]
      have := decN_len c.dest.toNat
      omega
    have hd : (c.dest.toNat : Int) = c.dest := by have := hc.1; omega
    unfold rchF
    rw [if_neg hl, List.flatMap_cons, rhead_case hc]
    dsimp only
    rw [rtail_case (by have := hc.1; omega) (tail_sign r) (fun hk3 => by
      have := h3 0 c rfl hk3
      rw [List.length_cons] at this
      rw [List.eq_nil_of_length_eq_zero (show r.length = 0 by omega)]
      rfl)]
    dsimp only
    rw [hd]
    have e : (⟨c.kind, c.ch, c.reg, c.dest⟩ : CaseD) = c := rfl
    rw [e, rchF_back r (acc ++ [c]) k (by simp at hk; omega) (fun x hx => hs x (List.mem_cons_of_mem _ hx)) (fun j x hj hk3 => by
      have := h3 (j + 1) x (by simpa using hj) hk3
      rw [List.length_cons] at this
      omega) (by simp), List.append_assoc]
    rfl
/-- A choice is read as it was written. -/
theorem back_choose {x : InstrD} (h21 : x.op = 21) (h : rshaped x = true) : oneR (rW x) = some x := by
  rw [rshaped_21 h21] at h
  obtain ⟨⟨ha, hb, hn, hl⟩, hs⟩ := h
  obtain ⟨xo, xa, xb, xn, xc⟩ := x
  dsimp only at h21 ha hb hn hl hs
  subst h21 ha hb hn
  unfold rW oneR
  rw [if_pos rfl]
  have e0 : chr (83 :: xc.flatMap caseW) 0 = 83 := rfl
  have e1 : (83 :: xc.flatMap caseW).drop 1 = xc.flatMap caseW := rfl
  rw [e0, if_pos rfl, e1]
  have hlen : xc.length < (xc.flatMap caseW).length + 1 := by
    have : ∀ l : List CaseD, l.length ≤ (l.flatMap caseW).length := by
      intro l
      induction l with
      | nil => simp
      | cons c r ih =>
        have h1 : 1 ≤ (caseW c).length := by
          unfold caseW
          rw [List.length_append]
          have := decN_len c.dest.toNat
          omega
        rw [List.flatMap_cons, List.length_append, List.length_cons]
        omega
    have := this xc
    omega
  unfold rchoiceR
  rw [rchF_back xc [] _ hlen (fun c hc => by obtain ⟨j, hj⟩ := List.getElem?_of_mem hc; exact (hs j c hj).1) (fun j c hj h3 => by have := (hs j c hj).2 h3; omega) (by intro h; simp at h; rw [h] at hl; simp at hl)]
  rfl
theorem back_one {x : InstrD} (h : rshaped x = true) : oneR (rW x) = some x := by
  by_cases h21 : x.op = 21
  · exact back_choose h21 h
  · exact back_form h21 h

/-! ### what is read may be -/
theorem dval_le : ∀ l : List Nat, l.all isDig = true → l.length ≤ 4 → 0 ≤ dval l ∧ dval l < 10000 ∧ (l.length ≤ 1 → dval l < 10) := by
  intro l h hl
  have hd : ∀ c ∈ l, 48 ≤ c ∧ c ≤ 57 := fun c hc => by
    have := List.all_eq_true.1 h c hc
    unfold isDig at this
    simpa using this
  match l, hl with
  | [], _ => exact ⟨by decide, by decide, fun _ => by decide⟩
  | [a], _ =>
    have ha := hd a (by simp)
    simp [dval, dstep]
    omega
  | [a, b], _ =>
    have ha := hd a (by simp)
    have hb := hd b (by simp)
    simp [dval, dstep]
    repeat' split
    all_goals (try simp) <;> omega
  | [a, b, c], _ =>
    have ha := hd a (by simp)
    have hb := hd b (by simp)
    have hc := hd c (by simp)
    simp [dval, dstep]
    repeat' split
    all_goals (try simp) <;> omega
  | [a, b, c, d], _ =>
    have ha := hd a (by simp)
    have hb := hd b (by simp)
    have hc := hd c (by simp)
    have hd := hd d (by simp)
    simp [dval, dstep]
    repeat' split
    all_goals (try simp) <;> omega
theorem num_range {s : ByteArray} (h : (numR s).2 = true) : 0 ≤ (numR s).1 ∧ (numR s).1 < 10000 ∧ (s.size ≤ 1 → (numR s).1 < 10) := by
  unfold numR at h ⊢
  split at h
  · rename_i hc
    rw [if_pos hc]
    simp only [Bool.and_eq_true, decide_eq_true_eq] at hc
    have hl := runesF_len s 0
    obtain ⟨h1, h2, h3⟩ := dval_le _ hc.1.1 (by omega)
    exact ⟨h1, h2, fun hs => h3 (by omega)⟩
  · cases h
theorem reg_range {c : Int} (h : (regR c).2 = true) : 0 ≤ (regR c).1 ∧ (regR c).1 < 6 := by
  unfold regR at h ⊢
  split at h
  · rename_i hc
    rw [if_pos hc]
    dsimp only
    omega
  · cases h
theorem inv_a {F R : List Nat} {a b n : Int} {r : Int × Int × Int × List Nat} (h : simpF (97 :: F) R a b n = some r) : ∃ v R', (0 ≤ v ∧ v < 6) ∧ simpF F R' v b n = some r := by
  cases R with
  | nil => rw [simp_nil 97 (by decide)] at h; cases h
  | cons x R =>
    rw [simp_a] at h
    split at h
    · rename_i hr; exact ⟨_, R, reg_range hr, h⟩
    · cases h
theorem inv_b {F R : List Nat} {a b n : Int} {r : Int × Int × Int × List Nat} (h : simpF (98 :: F) R a b n = some r) : ∃ v R', (0 ≤ v ∧ v < 6) ∧ simpF F R' a v n = some r := by
  cases R with
  | nil => rw [simp_nil 98 (by decide)] at h; cases h
  | cons x R =>
    rw [simp_b] at h
    split at h
    · rename_i hr; exact ⟨_, R, reg_range hr, h⟩
    · cases h
theorem inv_N {F R : List Nat} {a b n : Int} {r : Int × Int × Int × List Nat} (h : simpF (78 :: F) R a b n = some r) : ∃ v R', (0 ≤ v ∧ v < 10000) ∧ simpF F R' a b v = some r := by
  rw [simp_N] at h
  split at h
  · rename_i hr; have := num_range hr; exact ⟨_, _, ⟨this.1, this.2.1⟩, h⟩
  · cases h
theorem inv_n {F R : List Nat} {a b n : Int} {r : Int × Int × Int × List Nat} (h : simpF (110 :: F) R a b n = some r) : ∃ v R', (0 ≤ v ∧ v < 10) ∧ simpF F R' a b v = some r := by
  cases R with
  | nil => rw [simp_nil 110 (by decide)] at h; cases h
  | cons x R =>
    rw [simp_n] at h
    split at h
    · rename_i hr; have := num_range hr; exact ⟨_, R, ⟨this.1, this.2.2 (by rw [strA_size]; simp)⟩, h⟩
    · cases h
theorem inv_end {R : List Nat} {a b n : Int} {r : Int × Int × Int × List Nat} (h : simpF [] R a b n = some r) : r = (a, b, n, R) := by
  unfold simpF at h
  exact (Option.some.inj h).symm
theorem formF_some (c : Nat) (T : List Nat) (x : InstrD) : ∀ l : List RForm, formF c T l = some x → ∃ f ∈ l, simpV f.op f.args T = some x
  | [], h => by cases h
  | f :: r, h => by
    unfold formF at h
    split at h
    · exact ⟨f, List.mem_cons_self .., h⟩
    · obtain ⟨g, hg, h2⟩ := formF_some c T x r h
      exact ⟨g, List.mem_cons_of_mem _ hg, h2⟩
theorem rshF_of (x : InstrD) (h21 : x.op ≠ 21) (f : RForm) (hf : f ∈ rforms) (hop : (f.op : Int) = x.op) (h : rsh f x = true) : rshaped x = true := by
  unfold rshaped
  rw [if_neg h21, rshF_mem x rforms rforms_nodup f hf hop]
  exact h
theorem rforms_21 : ∀ f ∈ rforms, f.op ≠ 21 := by decide
theorem good12 {c : CaseD} (h : caseSt c) (h3 : c.kind ≠ 3) : True := trivial
theorem rhead_some {L M : List Nat} {kd ch rg : Int} (h : rhead L = some (kd, ch, rg, M)) : (kd = 1 ∨ kd = 2) ∧ (0 ≤ ch ∧ ch < 6) ∧ (0 ≤ rg ∧ rg < 6) ∨ kd = 3 ∧ ch = 0 ∧ rg = 0 := by
  unfold rhead at h
  split at h
  · split at h
    · cases h
    · split at h
      · cases h
      · rename_i hr
        simp only [Option.some.injEq, Prod.mk.injEq] at h
        obtain ⟨rfl, rfl, rfl, _⟩ := h
        refine .inl ⟨by split <;> simp, reg_range ?_, reg_range ?_⟩
        · cases hb : (regR (chr L 1)).2
          · exact absurd (.inl hb) hr
          · rfl
        · cases hb : (regR (chr L 2)).2
          · exact absurd (.inr hb) hr
          · rfl
  · split at h
    · simp only [Option.some.injEq, Prod.mk.injEq] at h
      obtain ⟨rfl, rfl, rfl, _⟩ := h
      exact .inr ⟨rfl, rfl, rfl⟩
    · cases h
theorem rtail_some {M M' : List Nat} {kd ch rg : Int} {c : CaseD} (h : rtail kd ch rg M = some (c, M')) : c.kind = kd ∧ c.ch = ch ∧ c.reg = rg ∧ (0 ≤ c.dest ∧ c.dest < 10000) ∧ (kd = 3 → M' = []) := by
  unfold rtail at h
  split at h
  · cases h
  · rename_i hn
    split at h
    · cases h
    · rename_i he
      simp only [Option.some.injEq, Prod.mk.injEq] at h
      obtain ⟨rfl, rfl⟩ := h
      have hr := num_range (s := strA (M.take (restN M))) (by simpa using hn)
      refine ⟨rfl, rfl, rfl, ⟨hr.1, hr.2.1⟩, fun h3 => ?_⟩
      refine List.eq_nil_of_length_eq_zero ?_
      by_cases h0 : (M.drop (restN M)).length = 0
      · exact h0
      · exact absurd ⟨h3, h0⟩ he
theorem rchF_some : ∀ (k : Nat) (L : List Nat) (acc cs : List CaseD), rchF k L acc = some cs → (∀ c ∈ acc, caseSt c) → (∀ j c, acc[j]? = some c → c.kind = 3 → j + 1 = acc.length ∧ L = []) → cs ≠ [] ∧ (∀ c ∈ cs, caseSt c) ∧ ∀ j c, cs[j]? = some c → c.kind = 3 → j + 1 = cs.length
  | 0, L, acc, cs, h, _, _ => by cases h
  | k + 1, L, acc, cs, h, ha, h3 => by
    unfold rchF at h
    split at h
    · split at h
      · cases h
      · rename_i hl
        obtain rfl := Option.some.inj h
        exact ⟨fun e => hl (by rw [e]; rfl), ha, fun j c hj hk => (h3 j c hj hk).1⟩
    · rename_i hL
      split at h
      · cases h
      · rename_i kd ch rg M hM
        split at h
        · cases h
        · rename_i c M' hc
          have hh := rhead_some hM
          obtain ⟨e1, e2, e3, e4, e5⟩ := rtail_some hc
          refine rchF_some k M' (acc ++ [c]) cs h (fun x hx => ?_) (fun j x hj hk => ?_)
          · rcases List.mem_append.1 hx with hx | hx
            · exact ha x hx
            · rw [List.mem_singleton] at hx
              subst hx
              exact ⟨e4, by rw [e1, e2, e3]; exact hh⟩
          · rw [List.length_append, List.length_singleton]
            rcases Nat.lt_or_ge j acc.length with hlt | hge
            · rw [List.getElem?_append_left hlt] at hj
              exact absurd (by rw [(h3 j x hj hk).2]; rfl) hL
            · have hjl : j < (acc ++ [c]).length := (List.getElem?_eq_some_iff.1 hj).1
              rw [List.length_append, List.length_singleton] at hjl
              have hje : j = acc.length := by omega
              subst hje
              rw [List.getElem?_append_right (Nat.le_refl _)] at hj
              simp at hj
              subst hj
              exact ⟨rfl, e5 (e1 ▸ hk)⟩
/-- What is read of a line may be. -/
theorem one_shaped {L : List Nat} {x : InstrD} (h : oneR L = some x) : rshaped x = true := by
  unfold oneR at h
  split at h
  · unfold rchoiceR at h
    obtain ⟨cs, hcs, rfl⟩ := Option.map_eq_some_iff.1 h
    obtain ⟨h1, h2, h3⟩ := rchF_some _ _ [] cs hcs (by simp) (by simp)
    rw [rshaped_21 rfl]
    exact ⟨⟨rfl, rfl, rfl, List.length_pos_iff.2 h1⟩, fun j c hj => ⟨h2 c (List.mem_of_getElem? hj), fun hk => by have := h3 j c hj hk; show (j : Int) = (cs.length : Int) - 1; omega⟩⟩
  · obtain ⟨f, hf, hv⟩ := formF_some _ _ x rforms h
    unfold simpV simpR at hv
    cases hs : simpF f.args (L.drop 1) 0 0 0 with
    | none => rw [hs] at hv; simp at hv
    | some r =>
      rw [hs] at hv
      dsimp only at hv
      split at hv
      · obtain rfl := Option.some.inj hv
        have h21 : ((f.op : Nat) : Int) ≠ 21 := by have := rforms_21 f hf; omega
        refine rshF_of _ h21 f hf rfl ?_
        rw [rsh_iff]
        rcases rforms_args f hf with e | e | e | e | e | e <;> rw [e] at hs ⊢
        · obtain ⟨v, R1, hv1, hs⟩ := inv_a hs
          obtain ⟨u, R2, hu, hs⟩ := inv_N hs
          obtain rfl := inv_end hs
          simp
          omega
        · obtain ⟨v, R1, hv1, hs⟩ := inv_a hs
          obtain ⟨u, R2, hu, hs⟩ := inv_b hs
          obtain rfl := inv_end hs
          simp
          omega
        · obtain ⟨v, R1, hv1, hs⟩ := inv_a hs
          obtain rfl := inv_end hs
          simp
          omega
        · obtain ⟨u, R2, hu, hs⟩ := inv_N hs
          obtain rfl := inv_end hs
          simp
          omega
        · obtain ⟨u, R2, hu, hs⟩ := inv_n hs
          obtain ⟨v, R1, hv1, hs⟩ := inv_a hs
          obtain rfl := inv_end hs
          simp
          omega
        · obtain rfl := inv_end hs
          simp
      · cases hv
end Go.Proofs.YtoflhfiegfhkoaaDoor
