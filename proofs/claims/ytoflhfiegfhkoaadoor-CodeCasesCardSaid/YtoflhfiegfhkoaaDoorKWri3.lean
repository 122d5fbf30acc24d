/-
  A written program's text is decoded as it was; what is decoded may be; in plain words.
-/
import Derived.Test.YtoflhfiegfhkoaaDoorKRShpP
import Derived.Test.YtoflhfiegfhkoaaDoorKTwo
namespace Go.Proofs.YtoflhfiegfhkoaaDoor
open Go
set_option linter.unusedVariables false
set_option linter.unusedSimpArgs false

def letterN (r : Int) : Nat := if r < 0 ∨ 6 ≤ r then 63 else 97 + r.toNat
def decN (n : Nat) : List Nat := (digs n).map (48 + ·)
def argW (x : InstrD) (c : Nat) : List Nat := if c = 97 then [letterN x.a] else if c = 98 then [letterN x.b] else decN x.n.toNat
def caseH (c : CaseD) : List Nat := if c.kind = 1 then [115, letterN c.ch, letterN c.reg] else if c.kind = 2 then [114, letterN c.ch, letterN c.reg] else [101]
def caseW (c : CaseD) : List Nat := caseH c ++ decN c.dest.toNat
def formW (x : InstrD) : List RForm → List Nat
  | [] => [63]
  | f :: r => if (f.op : Int) = x.op then f.letter :: f.args.flatMap (argW x) else formW x r
/-- The line of an instruction. -/
def rW (x : InstrD) : List Nat := if x.op = 21 then 83 :: x.cases.flatMap caseW else formW x rforms

theorem strA_decN (n : Nat) : strA (decN n) = decB n := by
  rw [decB_digs]
  unfold strA strD decN
  rw [List.map_map]
  rfl
theorem decN_dig (n : Nat) : ∀ c ∈ decN n, isDig c = true ∧ 48 ≤ c ∧ c ≤ 57 := by
  intro c hc
  unfold decN at hc
  obtain ⟨d, hd, rfl⟩ := List.mem_map.1 hc
  have := digs_lt n d hd
  refine ⟨by unfold isDig; simp; omega, by omega, by omega⟩
theorem decN_len (n : Nat) : 1 ≤ (decN n).length := by unfold decN; rw [List.length_map]; exact (digs_len n).1
theorem decN_len4 (n : Nat) (h : n < 10000) : (decN n).length ≤ 4 := by unfold decN; rw [List.length_map]; exact (digs_len n).2 3 (by simpa using h)
theorem letter_reg {r : Int} (h : 0 ≤ r ∧ r < 6) : regR (letterN r : Int) = (r, true) := by
  have e : (letterN r : Int) = 97 + r := by unfold letterN; rw [if_neg (by omega)]; omega
  unfold regR
  rw [e, if_pos (by omega)]
  congr 1
  omega
theorem letterN_sign (r : Int) : 63 ≤ letterN r ∧ letterN r ≤ 102 := by unfold letterN; split <;> omega
theorem num_dec {n : Nat} (h : n < 10000) : numR (strA (decN n)) = ((n : Int), true) := by
  rw [strA_decN, decB_digs, numR_digs (digs n) (digs_lt n) (digs_len n).1 ((digs_len n).2 3 (by simpa using h)), fold10_digs]
theorem takeWhile_all {p : Nat → Bool} : ∀ (D T : List Nat), (∀ c ∈ D, p c = true) → (D ++ T).takeWhile p = D ++ T.takeWhile p
  | [], T, _ => rfl
  | c :: D, T, h => by
    rw [List.cons_append, List.takeWhile_cons, if_pos (h c (List.mem_cons_self ..)), takeWhile_all D T (fun x hx => h x (List.mem_cons_of_mem _ hx))]
    rfl
theorem rest_dec (n : Nat) (T : List Nat) (hT : restN T = 0) : restN (decN n ++ T) = (decN n).length := by
  unfold restN at hT ⊢
  rw [takeWhile_all _ _ (fun c hc => (decN_dig n c hc).1), List.length_append, hT]
  rfl
theorem rest_nil : restN [] = 0 := rfl
theorem take_dec (n : Nat) (T : List Nat) : (decN n ++ T).take (decN n).length = decN n := by simp
theorem drop_dec (n : Nat) (T : List Nat) : (decN n ++ T).drop (decN n).length = T := by simp
theorem rest_sign {c : Nat} (T : List Nat) (h : isDig c = false) : restN (c :: T) = 0 := by unfold restN; rw [List.takeWhile_cons, if_neg (by rw [h]; simp)]; rfl
theorem letter_nodig (r : Int) : isDig (letterN r) = false := by have := letterN_sign r; unfold isDig; simp; omega

theorem go_a {r : Int} (h : 0 ≤ r ∧ r < 6) (F R : List Nat) (a b n : Int) : simpF (97 :: F) (letterN r :: R) a b n = simpF F R r b n := by rw [simp_a, letter_reg h, if_pos rfl]
theorem go_b {r : Int} (h : 0 ≤ r ∧ r < 6) (F R : List Nat) (a b n : Int) : simpF (98 :: F) (letterN r :: R) a b n = simpF F R a r n := by rw [simp_b, letter_reg h, if_pos rfl]
theorem go_N {m : Nat} (h : m < 10000) (F : List Nat) (a b n : Int) : simpF (78 :: F) (decN m) a b n = simpF F [] a b m := by
  have hr := rest_dec m [] rest_nil
  have ht := take_dec m []
  have hd := drop_dec m []
  rw [List.append_nil] at hr ht hd
  rw [simp_N, hr, ht, num_dec h, if_pos rfl, hd]
theorem dec_one {m : Nat} (h : m < 10) : decN m = [48 + m] := by unfold decN; rw [digs_small h]; rfl
theorem go_n {m : Nat} (h : m < 10) (F R : List Nat) (a b n : Int) : simpF (110 :: F) (decN m ++ R) a b n = simpF F R a b m := by
  have hn := num_dec (n := m) (by omega)
  rw [dec_one h] at hn ⊢
  rw [List.singleton_append, simp_n, hn, if_pos rfl]

theorem rforms_letters : (rforms.map (·.letter)).Nodup := by decide
theorem rforms_83 : ∀ f ∈ rforms, f.letter ≠ 83 := by decide
theorem rforms_args : ∀ f ∈ rforms, f.args = [97, 78] ∨ f.args = [97, 98] ∨ f.args = [97] ∨ f.args = [78] ∨ f.args = [110, 97] ∨ f.args = [] := by decide
theorem formF_mem (M : List Nat) : ∀ (l : List RForm), (l.map (·.letter)).Nodup → ∀ f ∈ l, formF f.letter M l = if (simpR f.op f.args M).2 = true then some (simpR f.op f.args M).1 else none
  | [], _, f, hf => by simp at hf
  | g :: r, hn, f, hf => by
    rw [List.map_cons, List.nodup_cons] at hn
    unfold formF
    rcases List.mem_cons.1 hf with rfl | hr
    · rw [if_pos rfl]
    · have : ¬ g.letter = f.letter := by
        intro e
        apply hn.1
        rw [e]
        exact List.mem_map_of_mem hr
      rw [if_neg this]
      exact formF_mem M r hn.2 f hr
theorem one_letter (f : RForm) (hf : f ∈ rforms) (T : List Nat) : oneR (f.letter :: T) = simpV f.op f.args T := by
  have h := one_of (L := f.letter :: T) (f := f) (fun M => formF_mem M rforms rforms_letters f hf) (rforms_83 f hf)
  exact h
theorem rshF_some (x : InstrD) : ∀ (l : List RForm), rshF x l = true → ∃ f ∈ l, (f.op : Int) = x.op ∧ rsh f x = true ∧ formW x l = f.letter :: f.args.flatMap (argW x)
  | [], h => by cases h
  | f :: r, h => by
    unfold rshF at h
    unfold formW
    split at h
    · rename_i e
      rw [if_pos e]
      exact ⟨f, List.mem_cons_self .., e, h, rfl⟩
    · rename_i e
      rw [if_neg e]
      obtain ⟨g, hg, h1, h2, h3⟩ := rshF_some x r h
      exact ⟨g, List.mem_cons_of_mem _ hg, h1, h2, h3⟩
theorem rwith_iff {v n : Int} : rwith v n = true ↔ 0 ≤ v ∧ v < n := by unfold rwith; simp
theorem rsh_iff {f : RForm} {x : InstrD} : rsh f x = true ↔ ((0 ≤ x.a ∧ x.a < 6) ∧ (0 ≤ x.b ∧ x.b < 6) ∧ (0 ≤ x.n ∧ x.n < 10000) ∧ x.cases = []) ∧ (f.args.contains 97 = true ∨ x.a = 0) ∧ (f.args.contains 98 = true ∨ x.b = 0) ∧ ((f.args.contains 78 = true ∨ f.args.contains 110 = true) ∨ x.n = 0) ∧ (f.args.contains 110 = true → x.n < 10) := by
  unfold rsh
  simp only [Bool.and_eq_true, rwith_iff, Bool.or_eq_true, beq_iff_eq, Bool.not_eq_true', decide_eq_true_eq, List.length_eq_zero_iff]
  constructor
  · rintro ⟨⟨⟨⟨⟨⟨⟨h1, h2⟩, h3⟩, h4⟩, h5⟩, h6⟩, h7⟩, h8⟩
    exact ⟨⟨h1, h2, h3, h4⟩, h5, h6, h7, fun hd => h8.resolve_left (by rw [hd]; simp)⟩
  · rintro ⟨⟨h1, h2, h3, h4⟩, h5, h6, h7, h8⟩
    refine ⟨⟨⟨⟨⟨⟨⟨h1, h2⟩, h3⟩, h4⟩, h5⟩, h6⟩, h7⟩, ?_⟩
    by_cases hd : f.args.contains 110 = true
    · exact .inr (h8 hd)
    · exact .inl (by simpa using hd)

/-- An instruction but a choice is read as it was written. -/
theorem back_form {x : InstrD} (h21 : x.op ≠ 21) (h : rshaped x = true) : oneR (rW x) = some x := by
  unfold rshaped at h
  rw [if_neg h21] at h
  obtain ⟨f, hf, hop, hs, hW⟩ := rshF_some x rforms h
  unfold rW
  rw [if_neg h21, hW, one_letter f hf]
  rw [rsh_iff] at hs
  obtain ⟨⟨ha, hb, hn, hc⟩, g1, g2, g3, g4⟩ := hs
  obtain ⟨m, hm⟩ : ∃ m : Nat, x.n = (m : Int) := ⟨x.n.toNat, by omega⟩
  have hmt : x.n.toNat = m := by omega
  have hm4 : m < 10000 := by omega
  obtain ⟨xo, xa, xb, xn, xc⟩ := x
  dsimp only at ha hb hn hc hop g1 g2 g3 g4 hm hmt
  subst hm hc
  rcases rforms_args f hf with e | e | e | e | e | e <;> rw [e] at g1 g2 g3 g4 ⊢ <;> simp at g1 g2 g3 g4
  · have hb0 : xb = 0 := g2
    subst hb0
    have : [97, 78].flatMap (argW ⟨xo, xa, 0, (m : Int), []⟩) = letterN xa :: decN m := by simp [argW]
    rw [this, simpV_some (a := xa) (b := 0) (n := m) (M := []) (by rw [go_a ha, go_N hm4]; rfl), hop]
    rfl
  · obtain rfl : m = 0 := by omega
    have : [97, 98].flatMap (argW ⟨xo, xa, xb, ((0 : Nat) : Int), []⟩) = [letterN xa, letterN xb] := by simp [argW]
    rw [this, simpV_some (a := xa) (b := xb) (n := 0) (M := []) (by rw [go_a ha, go_b hb]; rfl), hop]
    rfl
  · obtain rfl : m = 0 := by omega
    obtain rfl : xb = 0 := g2
    have : [97].flatMap (argW ⟨xo, xa, 0, ((0 : Nat) : Int), []⟩) = [letterN xa] := by simp [argW]
    rw [this, simpV_some (a := xa) (b := 0) (n := 0) (M := []) (by rw [go_a ha]; rfl), hop]
    rfl
  · obtain rfl : xa = 0 := g1
    obtain rfl : xb = 0 := g2
    have : [78].flatMap (argW ⟨xo, 0, 0, (m : Int), []⟩) = decN m := by simp [argW]
    rw [this, simpV_some (a := 0) (b := 0) (n := m) (M := []) (by rw [go_N hm4]; rfl), hop]
    rfl
  · obtain rfl : xb = 0 := g2
    have hm10 : m < 10 := by omega
    have : [110, 97].flatMap (argW ⟨xo, xa, 0, (m : Int), []⟩) = decN m ++ [letterN xa] := by simp [argW]
    rw [this, simpV_some (a := xa) (b := 0) (n := m) (M := []) (by rw [go_n hm10, go_a ha]; rfl), hop]
    rfl
  · obtain rfl : m = 0 := by omega
    obtain rfl : xa = 0 := g1
    obtain rfl : xb = 0 := g2
    have : ([] : List Nat).flatMap (argW ⟨xo, 0, 0, ((0 : Nat) : Int), []⟩) = [] := rfl
    rw [this, simpV_some (a := 0) (b := 0) (n := 0) (M := []) rfl, hop]
    rfl
end Go.Proofs.YtoflhfiegfhkoaaDoor
namespace Go.Proofs.YtoflhfiegfhkoaaDoor
open Go
set_option linter.unusedVariables false
set_option linter.unusedSimpArgs false

/-- A case as it may be told. -/
def caseSt (c : CaseD) : Prop := (0 ≤ c.dest ∧ c.dest < 10000) ∧ ((c.kind = 1 ∨ c.kind = 2) ∧ (0 ≤ c.ch ∧ c.ch < 6) ∧ (0 ≤ c.reg ∧ c.reg < 6) ∨ c.kind = 3 ∧ c.ch = 0 ∧ c.reg = 0)
theorem rcaseOk_iff {n i : Nat} {c : CaseD} : rcaseOk n i c = true ↔ caseSt c ∧ (c.kind = 3 → (i : Int) = (n : Int) - 1) := by
  unfold rcaseOk caseSt
  simp only [Bool.and_eq_true, rwith_iff, decide_eq_true_eq, Bool.or_eq_true, Bool.not_eq_true', beq_eq_false_iff_ne, beq_iff_eq]
  constructor
  · rintro ⟨⟨⟨⟨⟨h1, h2⟩, h3⟩, h4⟩, h5⟩, h6⟩
    rcases h6 with h6 | ⟨⟨h6, h7⟩, h8⟩
    · exact ⟨⟨h5, .inl ⟨by omega, h3, h4⟩⟩, fun h => absurd h h6⟩
    · by_cases h9 : c.kind = 3
      · exact ⟨⟨h5, .inr ⟨h9, h6, h7⟩⟩, fun _ => h8⟩
      · exact ⟨⟨h5, .inl ⟨by omega, h3, h4⟩⟩, fun _ => h8⟩
  · rintro ⟨⟨h5, h⟩, h8⟩
    rcases h with ⟨h1, h3, h4⟩ | ⟨h1, h3, h4⟩
    · exact ⟨⟨⟨⟨⟨by omega, by omega⟩, h3⟩, h4⟩, h5⟩, .inl (by omega)⟩
    · exact ⟨⟨⟨⟨⟨by omega, by omega⟩, by omega⟩, by omega⟩, h5⟩, .inr ⟨⟨h3, h4⟩, h8 h1⟩⟩
theorem rcasF_iff (n : Nat) : ∀ (cs : List CaseD) (i : Nat) (ok : Bool), rcasF n i ok cs = true ↔ ok = true ∧ ∀ j c, cs[j]? = some c → rcaseOk n (i + j) c = true
  | [], i, ok => by simp [rcasF]
  | c :: r, i, ok => by
    simp only [rcasF]
    rw [rcasF_iff n r (i + 1) _, Bool.and_eq_true]
    constructor
    · rintro ⟨⟨h1, h2⟩, h3⟩
      refine ⟨h1, fun j x hj => ?_⟩
      cases j with
      | zero => simp at hj; subst hj; exact h2
      | succ j => rw [show i + (j + 1) = i + 1 + j by omega]; exact h3 j x (by simpa using hj)
    · rintro ⟨h1, h2⟩
      refine ⟨⟨h1, h2 0 c rfl⟩, fun j x hj => ?_⟩
      rw [show i + 1 + j = i + (j + 1) by omega]
      exact h2 (j + 1) x (by simpa using hj)
theorem rshaped_21 {x : InstrD} (h21 : x.op = 21) : rshaped x = true ↔ (x.a = 0 ∧ x.b = 0 ∧ x.n = 0 ∧ 0 < x.cases.length) ∧ ∀ (j : Nat) c, x.cases[j]? = some c → caseSt c ∧ (c.kind = 3 → (j : Int) = (x.cases.length : Int) - 1) := by
  unfold rshaped
  rw [if_pos h21, rcasF_iff]
  simp only [Bool.and_eq_true, beq_iff_eq, decide_eq_true_eq, Nat.zero_add, rcaseOk_iff]
  constructor
  · rintro ⟨⟨⟨⟨h1, h2⟩, h3⟩, h4⟩, h5⟩; exact ⟨⟨h1, h2, h3, h4⟩, h5⟩
  · rintro ⟨⟨h1, h2, h3, h4⟩, h5⟩; exact ⟨⟨⟨⟨h1, h2⟩, h3⟩, h4⟩, h5⟩

theorem caseW_sign (c : CaseD) (T : List Nat) : restN (caseW c ++ T) = 0 := by
  unfold caseW caseH
  split
  · exact rest_sign _ rfl
  · split
    · exact rest_sign _ rfl
    · exact rest_sign _ rfl
theorem tail_sign : ∀ cs : List CaseD, restN (cs.flatMap caseW) = 0
  | [] => rfl
  | c :: r => by rw [List.flatMap_cons]; exact caseW_sign c _
theorem rhead_case {c : CaseD} (h : caseSt c) (T : List Nat) : rhead (caseW c ++ T) = some (c.kind, c.ch, c.reg, decN c.dest.toNat ++ T) := by
  obtain ⟨_, h⟩ := h
  unfold caseW caseH rhead
  rcases h with ⟨h1, h3, h4⟩ | ⟨h1, h3, h4⟩
  · rcases h1 with h1 | h1
    · rw [if_pos h1]
      have e0 : chr ([115, letterN c.ch, letterN c.reg] ++ decN c.dest.toNat ++ T) 0 = 115 := rfl
      have e1 : chr ([115, letterN c.ch, letterN c.reg] ++ decN c.dest.toNat ++ T) 1 = letterN c.ch := rfl
      have e2 : chr ([115, letterN c.ch, letterN c.reg] ++ decN c.dest.toNat ++ T) 2 = letterN c.reg := rfl
      rw [e0, e1, e2, letter_reg h3, letter_reg h4, h1]
      simp
    · rw [if_neg (show ¬ c.kind = 1 by omega), if_pos h1]
      have e0 : chr ([114, letterN c.ch, letterN c.reg] ++ decN c.dest.toNat ++ T) 0 = 114 := rfl
      have e1 : chr ([114, letterN c.ch, letterN c.reg] ++ decN c.dest.toNat ++ T) 1 = letterN c.ch := rfl
      have e2 : chr ([114, letterN c.ch, letterN c.reg] ++ decN c.dest.toNat ++ T) 2 = letterN c.reg := rfl
      rw [e0, e1, e2, letter_reg h3, letter_reg h4, h1]
      simp
  · rw [if_neg (show ¬ c.kind = 1 by omega), if_neg (show ¬ c.kind = 2 by omega)]
    have e0 : chr ([101] ++ decN c.dest.toNat ++ T) 0 = 101 := rfl
    rw [e0, h1, h3, h4]
    simp
theorem rtail_case {kd ch rg : Int} {m : Nat} {T : List Nat} (hm : m < 10000) (hT : restN T = 0) (h3 : kd = 3 → T = []) : rtail kd ch rg (decN m ++ T) = some (⟨kd, ch, rg, m⟩, T) := by
  have hr := rest_dec m T hT
  have := rtail_yes (kd := kd) (ch := ch) (rg := rg) (T := decN m ++ T) (r := (decN m).length) (nv := (m : Int)) hr (by rw [take_dec, num_dec hm]) (fun he => he.2 (by rw [drop_dec, h3 he.1]; rfl))
  rw [this, drop_dec]
theorem rchF_back : ∀ (cs acc : List CaseD) (k : Nat), cs.length < k → (∀ c ∈ cs, caseSt c) → (∀ j c, cs[j]? = some c → c.kind = 3 → j + 1 = cs.length) → acc ++ cs ≠ [] → rchF k (cs.flatMap caseW) acc = some (acc ++ cs)
  | [], acc, 0, hk, _, _, _ => by simp at hk
  | [], acc, k + 1, _, _, _, hne => by
    simp at hne
    unfold rchF
    rw [if_pos (show (([] : List CaseD).flatMap caseW).length = 0 from rfl), if_neg (by simpa using hne), List.append_nil]
  | c :: r, acc, 0, hk, _, _, _ => by simp at hk
  | c :: r, acc, k + 1, hk, hs, h3, _ => by
    have hc := hs c (List.mem_cons_self ..)
    have hl : ¬ ((c :: r).flatMap caseW).length = 0 := by
      rw [List.flatMap_cons, List.length_append]
      unfold caseW
      rw [List.length_append]
      have := decN_len c.dest.toNat
      omega
    have hd : (c.dest.toNat : Int) = c.dest := by have := hc.1; omega
    unfold rchF
    rw [if_neg hl, List.flatMap_cons, rhead_case hc]
    dsimp only
    rw [rtail_case (by have := hc.1; omega) (tail_sign r) (fun hk3 => by
      have := h3 0 c rfl hk3
      rw [List.length_cons] at this
      rw [List.eq_nil_of_length_eq_zero (show r.length = 0 by omega)]
      rfl)]
    dsimp only
    rw [hd]
    have e : (⟨c.kind, c.ch, c.reg, c.dest⟩ : CaseD) = c := rfl
    rw [e, rchF_back r (acc ++ [c]) k (by simp at hk; omega) (fun x hx => hs x (List.mem_cons_of_mem _ hx)) (fun j x hj hk3 => by
      have := h3 (j + 1) x (by simpa using hj) hk3
      rw [List.length_cons] at this
      omega) (by simp), List.append_assoc]
    rfl
/-- A choice is read as it was written. -/
theorem back_choose {x : InstrD} (h21 : x.op = 21) (h : rshaped x = true) : oneR (rW x) = some x := by
  rw [rshaped_21 h21] at h
  obtain ⟨⟨ha, hb, hn, hl⟩, hs⟩ := h
  obtain ⟨xo, xa, xb, xn, xc⟩ := x
  dsimp only at h21 ha hb hn hl hs
  subst h21 ha hb hn
  unfold rW oneR
  rw [if_pos rfl]
  have e0 : chr (83 :: xc.flatMap caseW) 0 = 83 := rfl
  have e1 : (83 :: xc.flatMap caseW).drop 1 = xc.flatMap caseW := rfl
  rw [e0, if_pos rfl, e1]
  have hlen : xc.length < (xc.flatMap caseW).length + 1 := by
    have : ∀ l : List CaseD, l.length ≤ (l.flatMap caseW).length := by
      intro l
      induction l with
      | nil => simp
      | cons c r ih =>
        have h1 : 1 ≤ (caseW c).length := by
          unfold caseW
          rw [List.length_append]
          have := decN_len c.dest.toNat
          omega
        rw [List.flatMap_cons, List.length_append, List.length_cons]
        omega
    have := this xc
    omega
  unfold rchoiceR
  rw [rchF_back xc [] _ hlen (fun c hc => by obtain ⟨j, hj⟩ := List.getElem?_of_mem hc; exact (hs j c hj).1) (fun j c hj h3 => by have := (hs j c hj).2 h3; omega) (by intro h; simp at h; rw [h] at hl; simp at hl)]
  rfl
theorem back_one {x : InstrD} (h : rshaped x = true) : oneR (rW x) = some x := by
  by_cases h21 : x.op = 21
  · exact back_choose h21 h
  · exact back_form h21 h

/-! ### what is read may be -/
theorem dval_le : ∀ l : List Nat, l.all isDig = true → l.length ≤ 4 → 0 ≤ dval l ∧ dval l < 10000 ∧ (l.length ≤ 1 → dval l < 10) := by
  intro l h hl
  have hd : ∀ c ∈ l, 48 ≤ c ∧ c ≤ 57 := fun c hc => by
    have := List.all_eq_true.1 h c hc
    unfold isDig at this
    simpa using this
  match l, hl with
  | [], _ => exact ⟨by decide, by decide, fun _ => by decide⟩
  | [a], _ =>
    have ha := hd a (by simp)
    simp [dval, dstep]
    omega
  | [a, b], _ =>
    have ha := hd a (by simp)
    have hb := hd b (by simp)
    simp [dval, dstep]
    repeat' split
    all_goals (try simp) <;> omega
  | [a, b, c], _ =>
    have ha := hd a (by simp)
    have hb := hd b (by simp)
    have hc := hd c (by simp)
    simp [dval, dstep]
    repeat' split
    all_goals (try simp) <;> omega
  | [a, b, c, d], _ =>
    have ha := hd a (by simp)
    have hb := hd b (by simp)
    have hc := hd c (by simp)
    have hd := hd d (by simp)
    simp [dval, dstep]
    repeat' split
    all_goals (try simp) <;> omega
theorem num_range {s : ByteArray} (h : (numR s).2 = true) : 0 ≤ (numR s).1 ∧ (numR s).1 < 10000 ∧ (s.size ≤ 1 → (numR s).1 < 10) := by
  unfold numR at h ⊢
  split at h
  · rename_i hc
    rw [if_pos hc]
    simp only [Bool.and_eq_true, decide_eq_true_eq] at hc
    have hl := runesF_len s 0
    obtain ⟨h1, h2, h3⟩ := dval_le _ hc.1.1 (by omega)
    exact ⟨h1, h2, fun hs => h3 (by omega)⟩
  · cases h
theorem reg_range {c : Int} (h : (regR c).2 = true) : 0 ≤ (regR c).1 ∧ (regR c).1 < 6 := by
  unfold regR at h ⊢
  split at h
  · rename_i hc
    rw [if_pos hc]
    dsimp only
    omega
  · cases h
theorem inv_a {F R : List Nat} {a b n : Int} {r : Int × Int × Int × List Nat} (h : simpF (97 :: F) R a b n = some r) : ∃ v R', (0 ≤ v ∧ v < 6) ∧ simpF F R' v b n = some r := by
  cases R with
  | nil => rw [simp_nil 97 (by decide)] at h; cases h
  | cons x R =>
    rw [simp_a] at h
    split at h
    · rename_i hr; exact ⟨_, R, reg_range hr, h⟩
    · cases h
theorem inv_b {F R : List Nat} {a b n : Int} {r : Int × Int × Int × List Nat} (h : simpF (98 :: F) R a b n = some r) : ∃ v R', (0 ≤ v ∧ v < 6) ∧ simpF F R' a v n = some r := by
  cases R with
  | nil => rw [simp_nil 98 (by decide)] at h; cases h
  | cons x R =>
    rw [simp_b] at h
    split at h
    · rename_i hr; exact ⟨_, R, reg_range hr, h⟩
    · cases h
theorem inv_N {F R : List Nat} {a b n : Int} {r : Int × Int × Int × List Nat} (h : simpF (78 :: F) R a b n = some r) : ∃ v R', (0 ≤ v ∧ v < 10000) ∧ simpF F R' a b v = some r := by
  rw [simp_N] at h
  split at h
  · rename_i hr; have := num_range hr; exact ⟨_, _, ⟨this.1, this.2.1⟩, h⟩
  · cases h
theorem inv_n {F R : List Nat} {a b n : Int} {r : Int × Int × Int × List Nat} (h : simpF (110 :: F) R a b n = some r) : ∃ v R', (0 ≤ v ∧ v < 10) ∧ simpF F R' a b v = some r := by
  cases R with
  | nil => rw [simp_nil 110 (by decide)] at h; cases h
  | cons x R =>
    rw [simp_n] at h
    split at h
    · rename_i hr; have := num_range hr; exact ⟨_, R, ⟨this.1, this.2.2 (by rw [strA_size]; simp)⟩, h⟩
    · cases h
theorem inv_end {R : List Nat} {a b n : Int} {r : Int × Int × Int × List Nat} (h : simpF [] R a b n = some r) : r = (a, b, n, R) := by
  unfold simpF at h
  exact (Option.some.inj h).symm
theorem formF_some (c : Nat) (T : List Nat) (x : InstrD) : ∀ l : List RForm, formF c T l = some x → ∃ f ∈ l, simpV f.op f.args T = some x
  | [], h => by cases h
  | f :: r, h => by
    unfold formF at h
    split at h
    · exact ⟨f, List.mem_cons_self .., h⟩
    · obtain ⟨g, hg, h2⟩ := formF_some c T x r h
      exact ⟨g, List.mem_cons_of_mem _ hg, h2⟩
theorem rshF_of (x : InstrD) (h21 : x.op ≠ 21) (f : RForm) (hf : f ∈ rforms) (hop : (f.op : Int) = x.op) (h : rsh f x = true) : rshaped x = true := by
  unfold rshaped
  rw [if_neg h21, rshF_mem x rforms rforms_nodup f hf hop]
  exact h
theorem rforms_21 : ∀ f ∈ rforms, f.op ≠ 21 := by decide
theorem good12 {c : CaseD} (h : caseSt c) (h3 : c.kind ≠ 3) : True := trivial
theorem rhead_some {L M : List Nat} {kd ch rg : Int} (h : rhead L = some (kd, ch, rg, M)) : (kd = 1 ∨ kd = 2) ∧ (0 ≤ ch ∧ ch < 6) ∧ (0 ≤ rg ∧ rg < 6) ∨ kd = 3 ∧ ch = 0 ∧ rg = 0 := by
  unfold rhead at h
  split at h
  · split at h
    · cases h
    · split at h
      · cases h
      · rename_i hr
        simp only [Option.some.injEq, Prod.mk.injEq] at h
        obtain ⟨rfl, rfl, rfl, _⟩ := h
        refine .inl ⟨by split <;> simp, reg_range ?_, reg_range ?_⟩
        · cases hb : (regR (chr L 1)).2
          · exact absurd (.inl hb) hr
          · rfl
        · cases hb : (regR (chr L 2)).2
          · exact absurd (.inr hb) hr
          · rfl
  · split at h
    · simp only [Option.some.injEq, Prod.mk.injEq] at h
      obtain ⟨rfl, rfl, rfl, _⟩ := h
      exact .inr ⟨rfl, rfl, rfl⟩
    · cases h
theorem rtail_some {M M' : List Nat} {kd ch rg : Int} {c : CaseD} (h : rtail kd ch rg M = some (c, M')) : c.kind = kd ∧ c.ch = ch ∧ c.reg = rg ∧ (0 ≤ c.dest ∧ c.dest < 10000) ∧ (kd = 3 → M' = []) := by
  unfold rtail at h
  split at h
  · cases h
  · rename_i hn
    split at h
    · cases h
    · rename_i he
      simp only [Option.some.injEq, Prod.mk.injEq] at h
      obtain ⟨rfl, rfl⟩ := h
      have hr := num_range (s := strA (M.take (restN M))) (by simpa using hn)
      refine ⟨rfl, rfl, rfl, ⟨hr.1, hr.2.1⟩, fun h3 => ?_⟩
      refine List.eq_nil_of_length_eq_zero ?_
      by_cases h0 : (M.drop (restN M)).length = 0
      · exact h0
      · exact absurd ⟨h3, h0⟩ he
theorem rchF_some : ∀ (k : Nat) (L : List Nat) (acc cs : List CaseD), rchF k L acc = some cs → (∀ c ∈ acc, caseSt c) → (∀ j c, acc[j]? = some c → c.kind = 3 → j + 1 = acc.length ∧ L = []) → cs ≠ [] ∧ (∀ c ∈ cs, caseSt c) ∧ ∀ j c, cs[j]? = some c → c.kind = 3 → j + 1 = cs.length
  | 0, L, acc, cs, h, _, _ => by cases h
  | k + 1, L, acc, cs, h, ha, h3 => by
    unfold rchF at h
    split at h
    · split at h
      · cases h
      · rename_i hl
        obtain rfl := Option.some.inj h
        exact ⟨fun e => hl (by rw [e]; rfl), ha, fun j c hj hk => (h3 j c hj hk).1⟩
    · rename_i hL
      split at h
      · cases h
      · rename_i kd ch rg M hM
        split at h
        · cases h
        · rename_i c M' hc
          have hh := rhead_some hM
          obtain ⟨e1, e2, e3, e4, e5⟩ := rtail_some hc
          refine rchF_some k M' (acc ++ [c]) cs h (fun x hx => ?_) (fun j x hj hk => ?_)
          · rcases List.mem_append.1 hx with hx | hx
            · exact ha x hx
            · rw [List.mem_singleton] at hx
              subst hx
              exact ⟨e4, by rw [e1, e2, e3]; exact hh⟩
          · rw [List.length_append, List.length_singleton]
            rcases Nat.lt_or_ge j acc.length with hlt | hge
            · rw [List.getElem?_append_left hlt] at hj
              exact absurd (by rw [(h3 j x hj hk).2]; rfl) hL
            · have hjl : j < (acc ++ [c]).length := (List.getElem?_eq_some_iff.1 hj).1
              rw [List.length_append, List.length_singleton] at hjl
              have hje : j = acc.length := by omega
              subst hje
              rw [List.getElem?_append_right (Nat.le_refl _)] at hj
              simp at hj
              subst hj
              exact ⟨rfl, e5 (e1 ▸ hk)⟩
/-- What is read of a line may be. -/
theorem one_shaped {L : List Nat} {x : InstrD} (h : oneR L = some x) : rshaped x = true := by
  unfold oneR at h
  split at h
  · unfold rchoiceR at h
    obtain ⟨cs, hcs, rfl⟩ := Option.map_eq_some_iff.1 h
    obtain ⟨h1, h2, h3⟩ := rchF_some _ _ [] cs hcs (by simp) (by simp)
    rw [rshaped_21 rfl]
    exact ⟨⟨rfl, rfl, rfl, List.length_pos_iff.2 h1⟩, fun j c hj => ⟨h2 c (List.mem_of_getElem? hj), fun hk => by have := h3 j c hj hk; show (j : Int) = (cs.length : Int) - 1; omega⟩⟩
  · obtain ⟨f, hf, hv⟩ := formF_some _ _ x rforms h
    unfold simpV simpR at hv
    cases hs : simpF f.args (L.drop 1) 0 0 0 with
    | none => rw [hs] at hv; simp at hv
    | some r =>
      rw [hs] at hv
      dsimp only at hv
      split at hv
      · obtain rfl := Option.some.inj hv
        have h21 : ((f.op : Nat) : Int) ≠ 21 := by have := rforms_21 f hf; omega
        refine rshF_of _ h21 f hf rfl ?_
        rw [rsh_iff]
        rcases rforms_args f hf with e | e | e | e | e | e <;> rw [e] at hs ⊢
        · obtain ⟨v, R1, hv1, hs⟩ := inv_a hs
          obtain ⟨u, R2, hu, hs⟩ := inv_N hs
          obtain rfl := inv_end hs
          simp
          omega
        · obtain ⟨v, R1, hv1, hs⟩ := inv_a hs
          obtain ⟨u, R2, hu, hs⟩ := inv_b hs
          obtain rfl := inv_end hs
          simp
          omega
        · obtain ⟨v, R1, hv1, hs⟩ := inv_a hs
          obtain rfl := inv_end hs
          simp
          omega
        · obtain ⟨u, R2, hu, hs⟩ := inv_N hs
          obtain rfl := inv_end hs
          simp
          omega
        · obtain ⟨u, R2, hu, hs⟩ := inv_n hs
          obtain ⟨v, R1, hv1, hs⟩ := inv_a hs
          obtain rfl := inv_end hs
          simp
          omega
        · obtain rfl := inv_end hs
          simp
      · cases hv
end Go.Proofs.YtoflhfiegfhkoaaDoor
namespace Go.Proofs.YtoflhfiegfhkoaaDoor
open Go
set_option linter.unusedVariables false
set_option linter.unusedSimpArgs false

def signs (L : List Nat) : Prop := ∀ c ∈ L, 33 ≤ c ∧ c ≤ 126
theorem signs_app {A B : List Nat} (h : signs A) (k : signs B) : signs (A ++ B) := fun c hc => by
  rcases List.mem_append.1 hc with hc | hc
  · exact h c hc
  · exact k c hc
theorem signs_dec (n : Nat) : signs (decN n) := fun c hc => by have := (decN_dig n c hc).2; omega
theorem signs_letter (r : Int) : signs [letterN r] := fun c hc => by rw [List.mem_singleton] at hc; subst hc; have := letterN_sign r; omega
theorem signs_case (c : CaseD) : signs (caseW c) := by
  unfold caseW caseH
  refine signs_app ?_ (signs_dec _)
  split
  · intro x hx
    simp at hx
    have h1 := letterN_sign c.ch
    have h2 := letterN_sign c.reg
    omega
  · split
    · intro x hx
      simp at hx
      have h1 := letterN_sign c.ch
      have h2 := letterN_sign c.reg
      omega
    · intro x hx
      simp at hx
      omega
theorem signs_arg (x : InstrD) (c : Nat) : signs (argW x c) := by
  unfold argW
  split
  · exact signs_letter _
  · split
    · exact signs_letter _
    · exact signs_dec _
theorem signs_flat {α : Type} {f : α → List Nat} (h : ∀ a, signs (f a)) : ∀ l : List α, signs (l.flatMap f)
  | [] => fun c hc => by simp at hc
  | a :: l => by rw [List.flatMap_cons]; exact signs_app (h a) (signs_flat h l)
theorem rforms_sign : ∀ f ∈ rforms, 33 ≤ f.letter ∧ f.letter ≤ 126 := by decide
theorem signs_form (x : InstrD) : ∀ l : List RForm, (∀ f ∈ l, 33 ≤ f.letter ∧ f.letter ≤ 126) → signs (formW x l) ∧ formW x l ≠ []
  | [], _ => ⟨fun c hc => by unfold formW at hc; simp at hc; omega, by unfold formW; simp⟩
  | f :: r, h => by
    unfold formW
    split
    · refine ⟨fun c hc => ?_, by simp⟩
      rcases List.mem_cons.1 hc with rfl | hc
      · exact h f (List.mem_cons_self ..)
      · exact signs_flat (signs_arg x) f.args c hc
    · exact signs_form x r (fun g hg => h g (List.mem_cons_of_mem _ hg))
theorem signs_rW (x : InstrD) : signs (rW x) ∧ rW x ≠ [] := by
  unfold rW
  split
  · refine ⟨fun c hc => ?_, by simp⟩
    rcases List.mem_cons.1 hc with rfl | hc
    · omega
    · exact signs_flat signs_case _ c hc
  · exact signs_form x rforms rforms_sign

/-! ### lines, joined -/
def joinW (Ls : List (List Nat)) : List Nat := Ls.flatMap fun L => L ++ [10]
theorem acc_line : ∀ (L : List Nat) (cur rest : List UInt8), signs L → cur ++ L.map UInt8.ofNat ≠ [] → accB (L.map UInt8.ofNat ++ 10 :: rest) cur = (cur ++ L.map UInt8.ofNat) :: accB rest []
  | [], cur, rest, _, hne => by
    simp at hne
    simp only [List.map_nil, List.nil_append, accB, if_true, List.append_nil]
    rw [if_neg (by simpa using hne)]
  | c :: L, cur, rest, h, _ => by
    have hc := h c (List.mem_cons_self ..)
    have e : (UInt8.ofNat c).toNat = c := by simp; omega
    have h10 : ¬ UInt8.ofNat c = 10 := fun e2 => by rw [e2] at e; simp at e; omega
    have h32 : ¬ UInt8.ofNat c = 32 := fun e2 => by rw [e2] at e; simp at e; omega
    simp only [List.map_cons, List.cons_append, accB]
    rw [if_neg h10, if_neg h32, acc_line L (cur ++ [UInt8.ofNat c]) rest (fun x hx => h x (List.mem_cons_of_mem _ hx)) (by simp), List.append_assoc]
    rfl
theorem acc_join : ∀ Ls : List (List Nat), (∀ L ∈ Ls, signs L ∧ L ≠ []) → accB ((joinW Ls).map UInt8.ofNat) [] = Ls.map (List.map UInt8.ofNat)
  | [], _ => rfl
  | L :: r, h => by
    have hL := h L (List.mem_cons_self ..)
    unfold joinW
    rw [List.flatMap_cons, List.map_append, List.map_append, List.append_assoc]
    show accB (L.map UInt8.ofNat ++ (10 :: (r.flatMap fun L => L ++ [10]).map UInt8.ofNat)) [] = _
    rw [acc_line L [] _ hL.1 (by simpa using hL.2), List.nil_append, List.map_cons]
    congr 1
    exact acc_join r (fun M hM => h M (List.mem_cons_of_mem _ hM))
theorem data_strA (L : List Nat) : (strA L).data.toList = L.map UInt8.ofNat := rfl
theorem signs_join {Ls : List (List Nat)} (h : ∀ L ∈ Ls, signs L) : ∀ c ∈ joinW Ls, c = 10 ∨ 33 ≤ c ∧ c ≤ 126 := by
  intro c hc
  unfold joinW at hc
  obtain ⟨L, hL, hc⟩ := List.mem_flatMap.1 hc
  rcases List.mem_append.1 hc with hc | hc
  · exact .inr (h L hL c hc)
  · exact .inl (by simpa using hc)
theorem may_join {Ls : List (List Nat)} (h : ∀ L ∈ Ls, signs L) : mayL ((joinW Ls).map UInt8.ofNat) = true := by
  unfold mayL
  rw [List.all_eq_true]
  intro b hb
  obtain ⟨c, hc, rfl⟩ := List.mem_map.1 hb
  have := signs_join h c hc
  have e : (UInt8.ofNat c).toNat = c := by simp; omega
  unfold mayR
  rw [e]
  simp
  omega
theorem bytesN_strA {L : List Nat} (h : signs L) : bytesN (strA L) = L := by
  unfold bytesN
  rw [data_strA, List.map_map]
  conv => rhs; rw [← List.map_id L]
  refine List.map_congr_left fun c hc => ?_
  have := h c hc
  simp
  omega
theorem data_inj : ∀ {A B : List ByteArray}, A.map (·.data.toList) = B.map (·.data.toList) → A = B
  | [], [], _ => rfl
  | [], b :: B, h => by simp at h
  | a :: A, [], h => by simp at h
  | a :: A, b :: B, h => by
    simp only [List.map_cons, List.cons.injEq] at h
    rw [data_inj h.2]
    congr 1
    exact ByteArray.ext (Array.ext' h.1)
/-- The lines of lines, joined. -/
theorem lines_join (Ls : List (List Nat)) (h : ∀ L ∈ Ls, signs L ∧ L ≠ []) :
    linesR (strA (joinW Ls)) = if 2000 < (joinW Ls).length then ([], 3) else if Ls.length = 0 then ([], 7) else if 60 < Ls.length then ([], 3) else (Ls.map strA, 0) := by
  have hm := may_join (fun L hL => (h L hL).1)
  have ha := mayL_ascii hm
  have hk : keepB (piecesB (strA (joinW Ls))) = Ls.map strA := by
    refine data_inj ?_
    rw [lines_acc, data_strA, acc_join Ls h, List.map_map]
    rfl
  unfold linesR
  rw [runes_len_ascii _ ha, may_ascii _ ha, data_strA, hm, hk, List.length_map, strA_size]
  simp

/-- A program's text. -/
def textW (l : List InstrD) : List Nat := joinW (l.map rW)
theorem decF_all (l : List InstrD) : ∀ (i : Nat) (acc : List InstrD), (∀ x ∈ l, lineR (rW x) = (x, true)) → decF i acc (l.map rW) = (acc ++ l, 0, 0) := by
  induction l with
  | nil => intro i acc _; simp [decF]
  | cons x r ih =>
    intro i acc h
    have hx := h x (List.mem_cons_self ..)
    simp only [List.map_cons, decF, hx]
    rw [if_pos trivial, ih _ _ (fun y hy => h y (List.mem_cons_of_mem _ hy)), List.append_assoc]
    rfl
theorem lineR_of {L : List Nat} {x : InstrD} (hL : LineOK L) (h : oneR L = some x) : lineR L = (x, true) := by
  have h2 := line_one L hL
  rw [h] at h2
  unfold lineV at h2
  split at h2
  · rename_i ht
    rw [← ht, ← Option.some.inj h2]
  · cases h2
theorem rW_le (l : List InstrD) : ∀ x ∈ l, (rW x).length ≤ (textW l).length := by
  intro x hx
  unfold textW joinW
  induction l with
  | nil => simp at hx
  | cons y r ih =>
    rw [List.map_cons, List.flatMap_cons, List.length_append, List.length_append]
    rcases List.mem_cons.1 hx with rfl | hx
    · omega
    · have := ih hx
      omega
/-- A text that was written is decoded as it was, where it is not too long. -/
theorem decode_text (l : List InstrD) (h : ∀ x ∈ l, rshaped x = true) :
    decodeR (strA (textW l)) = if 2000 < (textW l).length then ([], 0, 3) else if l.length = 0 then ([], 0, 7) else if 60 < l.length then ([], 0, 3) else (l, 0, 0) := by
  have hl := lines_join (l.map rW) (fun L hL => by obtain ⟨x, _, rfl⟩ := List.mem_map.1 hL; exact signs_rW x)
  rw [List.length_map] at hl
  unfold decodeR
  show (if (linesR (strA (joinW (l.map rW)))).2 ≠ 0 then ([], 0, (linesR (strA (joinW (l.map rW)))).2) else decF 0 [] ((linesR (strA (joinW (l.map rW)))).1.map bytesN)) = _
  rw [hl]
  show _ = if 2000 < (joinW (l.map rW)).length then ([], 0, 3) else _
  by_cases h1 : 2000 < (joinW (l.map rW)).length
  · rw [if_pos h1, if_pos h1]; rfl
  · rw [if_neg h1, if_neg h1]
    by_cases h2 : l.length = 0
    · rw [if_pos h2, if_pos h2]; rfl
    · rw [if_neg h2, if_neg h2]
      by_cases h3 : 60 < l.length
      · rw [if_pos h3, if_pos h3]; rfl
      · rw [if_neg h3, if_neg h3, if_neg (by simp)]
        have hb : ((l.map rW).map strA).map bytesN = l.map rW := by
          rw [List.map_map, List.map_map]
          refine List.map_congr_left fun x _ => ?_
          exact bytesN_strA (signs_rW x).1
        show decF 0 [] (((l.map rW).map strA).map bytesN) = _
        rw [hb, decF_all l 0 [] (fun x hx => lineR_of ⟨List.length_pos_iff.2 (signs_rW x).2, by have := rW_le l x hx; unfold textW at this; omega, (signs_rW x).1⟩ (back_one (h x hx))), List.nil_append]
theorem lineR_shaped {L : List Nat} (hL : LineOK L) (h : (lineR L).2 = true) : rshaped (lineR L).1 = true := by
  have h2 := line_one L hL
  unfold lineV at h2
  rw [if_pos h] at h2
  exact one_shaped h2.symm
theorem decF_shaped : ∀ (Ls : List (List Nat)) (i : Nat) (acc : List InstrD), (∀ L ∈ Ls, LineOK L) → (∀ x ∈ acc, rshaped x = true) → (decF i acc Ls).2.2 = 0 → (∀ x ∈ (decF i acc Ls).1, rshaped x = true) ∧ (decF i acc Ls).1.length = acc.length + Ls.length
  | [], i, acc, _, ha, _ => ⟨ha, by simp [decF]⟩
  | L :: r, i, acc, hL, ha, h => by
    unfold decF at h ⊢
    split
    · rename_i ht
      rw [if_pos ht] at h
      have := decF_shaped r (i + 1) (acc ++ [(lineR L).1]) (fun M hM => hL M (List.mem_cons_of_mem _ hM)) (fun x hx => by
        rcases List.mem_append.1 hx with hx | hx
        · exact ha x hx
        · rw [List.mem_singleton] at hx
          subst hx
          exact lineR_shaped (hL L (List.mem_cons_self ..)) ht) h
      refine ⟨this.1, ?_⟩
      rw [this.2]
      simp
      omega
    · rename_i ht
      rw [if_neg ht] at h
      exact absurd h (show ¬ (5 : Int) = 0 by decide)
/-- What is decoded may be, and is not too long. -/
theorem decode_shaped {s : ByteArray} (h : (decodeR s).2.2 = 0) : (∀ x ∈ (decodeR s).1, rshaped x = true) ∧ (decodeR s).1.length ≤ 60 ∧ 1 ≤ (decodeR s).1.length ∧ (runesF s 0).length ≤ 2000 := by
  obtain ⟨hok, h60⟩ := lines_ok s
  have h0 : (linesR s).2 = 0 := by
    by_cases he : (linesR s).2 = 0
    · exact he
    · unfold decodeR at h
      rw [if_pos he] at h
      exact absurd h he
  have hl : (runesF s 0).length ≤ 2000 ∧ 1 ≤ (linesR s).1.length := by
    unfold linesR at h0 ⊢
    split at h0
    · simp at h0
    · split at h0
      · simp at h0
      · split at h0
        · simp at h0
        · split at h0
          · simp at h0
          · rename_i a b c d
            rw [if_neg a, if_neg b, if_neg c, if_neg d]
            exact ⟨by omega, by show 1 ≤ (keepB (piecesB s)).length; omega⟩
  unfold decodeR at h ⊢
  rw [if_neg (by simpa using h0)] at h ⊢
  have := decF_shaped ((linesR s).1.map bytesN) 0 [] (fun L hL => by obtain ⟨x, hx, rfl⟩ := List.mem_map.1 hL; exact hok x hx) (by simp) h
  refine ⟨this.1, ?_, ?_, hl.1⟩
  · rw [this.2]; simp; exact h60
  · rw [this.2]; simp; omega
/-- Of a failure there are no instructions. -/
theorem decF_fail : ∀ (Ls : List (List Nat)) (i : Nat) (acc : List InstrD), (decF i acc Ls).2.2 ≠ 0 → (decF i acc Ls).1 = []
  | [], i, acc, h => absurd rfl h
  | L :: r, i, acc, h => by
    unfold decF at h ⊢
    split
    · rename_i ht
      rw [if_pos ht] at h
      exact decF_fail r _ _ h
    · rfl
theorem decode_fail {s : ByteArray} (h : (decodeR s).2.2 ≠ 0) : (decodeR s).1 = [] := by
  unfold decodeR at h ⊢
  split
  · rfl
  · rename_i he
    rw [if_neg he] at h
    exact decF_fail _ _ _ h
theorem decF_place : ∀ (Ls : List (List Nat)) (i : Nat) (acc : List InstrD), (decF i acc Ls).2.2 = 0 → (decF i acc Ls).2.1 = 0
  | [], i, acc, h => rfl
  | L :: r, i, acc, h => by
    unfold decF at h ⊢
    split
    · rename_i ht
      rw [if_pos ht] at h
      exact decF_place r _ _ h
    · rename_i ht
      rw [if_neg ht] at h
      exact absurd h (show ¬ (5 : Int) = 0 by decide)
theorem decode_place {s : ByteArray} (h : (decodeR s).2.2 = 0) : (decodeR s).2.1 = 0 := by
  unfold decodeR at h ⊢
  split
  · rfl
  · rename_i he
    rw [if_neg he] at h
    exact decF_place _ _ _ h
end Go.Proofs.YtoflhfiegfhkoaaDoor
