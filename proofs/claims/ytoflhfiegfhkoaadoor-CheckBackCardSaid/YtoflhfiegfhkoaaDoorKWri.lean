/-
  What is written of an instruction, and that it is read again, in plain words.
-/
import Derived.Test.YtoflhfiegfhkoaaDoorKRShpP
import Derived.Test.YtoflhfiegfhkoaaDoorKTwo
namespace Go.Proofs.YtoflhfiegfhkoaaDoor
open Go
set_option linter.unusedVariables false
set_option linter.unusedSimpArgs false

def letterN (r : Int) : Nat := if r < 0 ∨ 6 ≤ r then 63 else 97 + r.toNat
def decN (n : Nat) : List Nat := (digs n).map (48 + ·)
def argW (x : InstrD) (c : Nat) : List Nat := if c = 97 then [letterN x.a] else if c = 98 then [letterN x.b] else decN x.n.toNat
def caseH (c : CaseD) : List Nat := if c.kind = 1 then [115, letterN c.ch, letterN c.reg] else if c.kind = 2 then [114, letterN c.ch, letterN c.reg] else [101]
def caseW (c : CaseD) : List Nat := caseH c ++ decN c.dest.toNat
def formW (x : InstrD) : List RForm → List Nat
  | [] => [63]
  | f :: r => if (f.op : Int) = x.op then f.letter :: f.args.flatMap (argW x) else formW x r
/-- The line of an instruction. -/
def rW (x : InstrD) : List Nat := if x.op = 21 then 83 :: x.cases.flatMap caseW else formW x rforms

theorem strA_decN (n : Nat) : strA (decN n) = decB n := by
  rw [decB_digs]
  unfold strA strD decN
  rw [List.map_map]
  rfl
theorem decN_dig (n : Nat) : ∀ c ∈ decN n, isDig c = true ∧ 48 ≤ c ∧ c ≤ 57 := by
  intro c hc
  unfold decN at hc
  obtain ⟨d, hd, rfl⟩ := List.mem_map.1 hc
  have := digs_lt n d hd
  refine ⟨by unfold isDig; simp; omega, by omega, by omega⟩
theorem decN_len (n : Nat) : 1 ≤ (decN n).length := by unfold decN; rw [List.length_map]; exact (digs_len n).1
theorem decN_len4 (n : Nat) (h : n < 10000) : (decN n).length ≤ 4 := by unfold decN; rw [List.length_map]; exact (digs_len n).2 3 (by simpa using h)
theorem letter_reg {r : Int} (h : 0 ≤ r ∧ r < 6) : regR (letterN r : Int) = (r, true) := by
  have e : (letterN r : Int) = 97 + r := by unfold letterN; rw [if_neg (by omega)]; omega
  unfold regR
  rw [e, if_pos (by omega)]
  congr 1
  omega
theorem letterN_sign (r : Int) : 63 ≤ letterN r ∧ letterN r ≤ 102 := by unfold letterN; split <;> omega
theorem num_dec {n : Nat} (h : n < 10000) : numR (strA (decN n)) = ((n : Int), true) := by
  rw [strA_decN, decB_digs, numR_digs (digs n) (digs_lt n) (digs_len n).1 ((digs_len n).2 3 (by simpa using h)), fold10_digs]
theorem takeWhile_all {p : Nat → Bool} : ∀ (D T : List Nat), (∀ c ∈ D, p c = true) → (D ++ T).takeWhile p = D ++ T.takeWhile p
  | [], T, _ => rfl
  | c :: D, T, h => by
    rw [List.cons_append, List.takeWhile_cons, if_pos (h c (List.mem_cons_self ..)), takeWhile_all D T (fun x hx => h x (List.mem_cons_of_mem _ hx))]
    rfl
theorem rest_dec (n : Nat) (T : List Nat) (hT : restN T = 0) : restN (decN n ++ T) = (decN n).length := by
  unfold restN at hT ⊢
  rw [takeWhile_all _ _ (fun c hc => (decN_dig n c hc).1), List.length_append, hT]
  rfl
theorem rest_nil : restN [] = 0 := rfl
theorem take_dec (n : Nat) (T : List Nat) : (decN n ++ T).take (decN n).length = decN n := by simp
theorem drop_dec (n : Nat) (T : List Nat) : (decN n ++ T).drop (decN n).length = T := by simp
theorem rest_sign {c : Nat} (T : List Nat) (h : isDig c = false) : restN (c :: T) = 0 := by unfold restN; rw [List.takeWhile_cons, if_neg (by rw [h]; simp)]; rfl
theorem letter_nodig (r : Int) : isDig (letterN r) = false := by have := letterN_sign r; unfold isDig; simp; omega

theorem go_a {r : Int} (h : 0 ≤ r ∧ r < 6) (F R : List Nat) (a b n : Int) : simpF (97 :: F) (letterN r :: R) a b n = simpF F R r b n := by rw [simp_a, letter_reg h, if_pos rfl]
theorem go_b {r : Int} (h : 0 ≤ r ∧ r < 6) (F R : List Nat) (a b n : Int) : simpF (98 :: F) (letterN r :: R) a b n = simpF F R a r n := by rw [simp_b, letter_reg h, if_pos rfl]
theorem go_N {m : Nat} (h : m < 10000) (F : List Nat) (a b n : Int) : simpF (78 :: F) (decN m) a b n = simpF F [] a b m := by
  have hr := rest_dec m [] rest_nil
  have ht := take_dec m []
  have hd := drop_dec m []
  rw [List.append_nil] at hr ht hd
  rw [simp_N, hr, ht, num_dec h, if_pos rfl, hd]
theorem dec_one {m : Nat} (h : m < 10) : decN m = [48 + m] := by unfold decN; rw [digs_small h]; rfl
theorem go_n {m : Nat} (h : m < 10) (F R : List Nat) (a b n : Int) : simpF (110 :: F) (decN m ++ R) a b n = simpF F R a b m := by
  have hn := num_dec (n := m) (by omega)
  rw [dec_one h] at hn ⊢
  rw [List.singleton_append, simp_n, hn, if_pos rfl]

theorem rforms_letters : (rforms.map (·.letter)).Nodup := by decide
theorem rforms_83 : ∀ f ∈ rforms, f.letter ≠ 83 := by decide
theorem rforms_args : ∀ f ∈ rforms, f.args = [97, 78] ∨ f.args = [97, 98] ∨ f.args = [97] ∨ f.args = [78] ∨ f.args = [110, 97] ∨ f.args = [] := by decide
theorem formF_mem (M : List Nat) : ∀ (l : List RForm), (l.map (·.letter)).Nodup → ∀ f ∈ l, formF f.letter M l = if (simpR f.op f.args M).2 = true then some (simpR f.op f.args M).1 else none
  | [], _, f, hf => by simp at hf
  | g :: r, hn, f, hf => by
    rw [List.map_cons, List.nodup_cons] at hn
    unfold formF
    rcases List.mem_cons.1 hf with rfl | hr
    · rw [if_pos rfl]
    · have : ¬ g.letter = f.letter := by
        intro e
        apply hn.1
        rw [e]
        exact List.mem_map_of_mem hr
      rw [if_neg this]
      exact formF_mem M r hn.2 f hr
theorem one_letter (f : RForm) (hf : f ∈ rforms) (T : List Nat) : oneR (f.letter :: T) = simpV f.op f.args T := by
  have h := one_of (L := f.letter :: T) (f := f) (fun M => formF_mem M rforms rforms_letters f hf) (rforms_83 f hf)
  exact h
theorem rshF_some (x : InstrD) : ∀ (l : List RForm), rshF x l = true → ∃ f ∈ l, (f.op : Int) = x.op ∧ rsh f x = true ∧ formW x l = f.letter :: f.args.flatMap (argW x)
  | [], h => by cases h
  | f :: r, h => by
    unfold rshF at h
    unfold formW
    split at h
    · rename_i e
      rw [if_pos e]
      exact ⟨f, List.mem_cons_self .., e, h, rfl⟩
    · rename_i e
      rw [if_neg e]
      obtain ⟨g, hg, h1, h2, h3⟩ := rshF_some x r h
      exact ⟨g, List.mem_cons_of_mem _ hg, h1, h2, h3⟩
theorem rwith_iff {v n : Int} : rwith v n = true ↔ 0 ≤ v ∧ v < n := by unfold rwith; simp
theorem rsh_iff {f : RForm} {x : InstrD} : rsh f x = true ↔ ((0 ≤ x.a ∧ x.a < 6) ∧ (0 ≤ x.b ∧ x.b < 6) ∧ (0 ≤ x.n ∧ x.n < 10000) ∧ x.cases = []) ∧ (f.args.contains 97 = true ∨ x.a = 0) ∧ (f.args.contains 98 = true ∨ x.b = 0) ∧ ((f.args.contains 78 = true ∨ f.args.contains 110 = true) ∨ x.n = 0) ∧ (f.args.contains 110 = true → x.n < 10) := by
  unfold rsh
  simp only [Bool.and_eq_true, rwith_iff, Bool.or_eq_true, beq_iff_eq, Bool.not_eq_true', decide_eq_true_eq, List.length_eq_zero_iff]
  constructor
  · rintro ⟨⟨⟨⟨⟨⟨⟨h1, h2⟩, h3⟩, h4⟩, h5⟩, h6⟩, h7⟩, h8⟩
    exact ⟨⟨h1, h2, h3, h4⟩, h5, h6, h7, fun hd => h8.resolve_left (by rw [hd]; simp)⟩
  · rintro ⟨⟨h1, h2, h3, h4⟩, h5, h6, h7, h8⟩
    refine ⟨⟨⟨⟨⟨⟨⟨h1, h2⟩, h3⟩, h4⟩, h5⟩, h6⟩, h7⟩, ?_⟩
    by_cases hd : f.args.contains 110 = true
    · exact .inr (h8 hd)
    · exact .inl (by simpa using hd)

/-- An instruction but a choice is read as it was written. -/
theorem back_form {x : InstrD} (h21 : x.op ≠ 21) (h : rshaped x = true) : oneR (rW x) = some x := by
  unfold rshaped at h
  rw [if_neg h21] at h
  obtain ⟨f, hf, hop, hs, hW⟩ := rshF_some x rforms h
  unfold rW
  rw [if_neg h21, hW, one_letter f hf]
  rw [rsh_iff] at hs
  obtain ⟨⟨ha, hb, hn, hc⟩, g1, g2, g3, g4⟩ := hs
  obtain ⟨m, hm⟩ : ∃ m : Nat, x.n = (m : Int) := ⟨x.n.toNat, by omega⟩
  have hmt : x.n.toNat = m := by omega
  have hm4 : m < 10000 := by omega
  obtain ⟨xo, xa, xb, xn, xc⟩ := x
  dsimp only at ha hb hn hc hop g1 g2 g3 g4 hm hmt
  subst hm hc
  rcases rforms_args f hf with e | e | e | e | e | e <;> rw [e] at g1 g2 g3 g4 ⊢ <;> simp at g1 g2 g3 g4
  · have hb0 : xb = 0 := g2
    subst hb0
    have : [97, 78].flatMap (argW ⟨xo, xa, 0, (m : Int), []⟩) = letterN xa :: decN m := by simp [argW]
    rw [this, simpV_some (a := xa) (b := 0) (n := m) (M := []) (by rw [go_a ha, go_N hm4]; rfl), hop]
    rfl
  · obtain rfl : m = 0 := by omega
    have : [97, 98].flatMap (argW ⟨xo, xa, xb, ((0 : Nat) : Int), []⟩) = [letterN xa, letterN xb] := by simp [argW]
    rw [this, simpV_some (a := xa) (b := xb) (n := 0) (M := []) (by rw [go_a ha, go_b hb]; rfl), hop]
    rfl
  · obtain rfl : m = 0 := by omega
    obtain rfl : xb = 0 := g2
    have : [97].flatMap (argW ⟨xo, xa, 0, ((0 : Nat) : Int), []⟩) = [letterN xa] := by simp [argW]
    rw [this, simpV_some (a := xa) (b := 0) (n := 0) (M := []) (by rw [go_a ha]; rfl), hop]
    rfl
  · obtain rfl : xa = 0 := g1
    obtain rfl : xb = 0 := g2
    have : [78].flatMap (argW ⟨xo, 0, 0, (m : Int), []⟩) = decN m := by simp [argW]
    rw [this, simpV_some (a := 0) (b := 0) (n := m) (M := []) (by rw [go_N hm4]; rfl), hop]
    rfl
  · obtain rfl : xb = 0 := g2
    have hm10 : m < 10 := by omega
    have : [110, 97].flatMap (argW ⟨xo, xa, 0, (m : Int), []⟩) = decN m ++ [letterN xa] := by simp [argW]
    rw [this, simpV_some (a := xa) (b := 0) (n := m) (M := []) (by rw [go_n hm10, go_a ha]; rfl), hop]
    rfl
  · obtain rfl : m = 0 := by omega
    obtain rfl : xa = 0 := g1
    obtain rfl : xb = 0 := g2
    have : ([] : List Nat).flatMap (argW ⟨xo, 0, 0, ((0 : Nat) : Int), []⟩) = [] := rfl
    rw [this, simpV_some (a := 0) (b := 0) (n := 0) (M := []) rfl, hop]
    rfl
end Go.Proofs.YtoflhfiegfhkoaaDoor
