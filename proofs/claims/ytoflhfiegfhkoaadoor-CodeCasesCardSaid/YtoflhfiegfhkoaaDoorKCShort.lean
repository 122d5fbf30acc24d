/-
  What is read of a line is written in no more signs, in plain words.
-/
import Derived.Test.YtoflhfiegfhkoaaDoorKRWrite
namespace Go.Proofs.YtoflhfiegfhkoaaDoor
open Go
set_option linter.unusedVariables false
set_option linter.unusedSimpArgs false

theorem dval_pow : ∀ l : List Nat, l.all isDig = true → 1 ≤ l.length → l.length ≤ 4 → (dval l).toNat < 10 ^ (l.length - 1 + 1) := by
  intro l h h1 hl
  have hd : ∀ c ∈ l, 48 ≤ c ∧ c ≤ 57 := fun c hc => by
    have := List.all_eq_true.1 h c hc
    unfold isDig at this
    simpa using this
  match l, hl, h1 with
  | [a], _, _ =>
    have ha := hd a (by simp)
    simp [dval, dstep]
    omega
  | [a, b], _, _ =>
    have ha := hd a (by simp)
    have hb := hd b (by simp)
    simp [dval, dstep]
    repeat' split
    all_goals (try simp) <;> omega
  | [a, b, c], _, _ =>
    have ha := hd a (by simp)
    have hb := hd b (by simp)
    have hc := hd c (by simp)
    simp [dval, dstep]
    repeat' split
    all_goals (try simp) <;> omega
  | [a, b, c, d], _, _ =>
    have ha := hd a (by simp)
    have hb := hd b (by simp)
    have hc := hd c (by simp)
    have hd := hd d (by simp)
    simp [dval, dstep]
    repeat' split
    all_goals (try simp) <;> omega
theorem runes_some {s : ByteArray} (h : 1 ≤ s.size) : 1 ≤ (runesF s 0).length := by
  rw [runesF_step s 0 (by omega)]
  simp
/-- A number is written in no more digits than it was read from. -/
theorem num_short {s : ByteArray} (h : (numR s).2 = true) : (decN (numR s).1.toNat).length ≤ s.size := by
  unfold numR at h ⊢
  split at h
  · rename_i hc
    rw [if_pos hc]
    simp only [Bool.and_eq_true, decide_eq_true_eq] at hc
    have hl := runesF_len s 0
    have h1 := runes_some hc.1.2
    have hp := dval_pow _ hc.1.1 h1 (by omega)
    unfold decN
    rw [List.length_map]
    have := (digs_len (dval (runesF s 0)).toNat).2 _ hp
    show (digs (dval (runesF s 0)).toNat).length ≤ s.size
    omega
  · cases h
theorem sh_a {F R : List Nat} {a b n : Int} {r : Int × Int × Int × List Nat} (h : simpF (97 :: F) R a b n = some r) : ∃ v R', R.length = R'.length + 1 ∧ simpF F R' v b n = some r := by
  cases R with
  | nil => rw [simp_nil 97 (by decide)] at h; cases h
  | cons x R =>
    rw [simp_a] at h
    split at h
    · exact ⟨_, R, rfl, h⟩
    · cases h
theorem sh_b {F R : List Nat} {a b n : Int} {r : Int × Int × Int × List Nat} (h : simpF (98 :: F) R a b n = some r) : ∃ v R', R.length = R'.length + 1 ∧ simpF F R' a v n = some r := by
  cases R with
  | nil => rw [simp_nil 98 (by decide)] at h; cases h
  | cons x R =>
    rw [simp_b] at h
    split at h
    · exact ⟨_, R, rfl, h⟩
    · cases h
theorem sh_N {F R : List Nat} {a b n : Int} {r : Int × Int × Int × List Nat} (h : simpF (78 :: F) R a b n = some r) : ∃ v R', R'.length + (decN v.toNat).length ≤ R.length ∧ simpF F R' a b v = some r := by
  rw [simp_N] at h
  split at h
  · rename_i hr
    have := num_short hr
    have hle := restN_le R
    rw [strA_size, List.length_take] at this
    exact ⟨_, _, by rw [List.length_drop]; omega, h⟩
  · cases h
theorem sh_n {F R : List Nat} {a b n : Int} {r : Int × Int × Int × List Nat} (h : simpF (110 :: F) R a b n = some r) : ∃ v R', R'.length + (decN v.toNat).length ≤ R.length ∧ simpF F R' a b v = some r := by
  cases R with
  | nil => rw [simp_nil 110 (by decide)] at h; cases h
  | cons x R =>
    rw [simp_n] at h
    split at h
    · rename_i hr
      have := num_short hr
      rw [strA_size] at this
      exact ⟨_, R, by rw [List.length_cons]; simp at this; omega, h⟩
    · cases h
theorem letterL (r : Int) : [letterN r].length = 1 := rfl
theorem formW_mem (x : InstrD) : ∀ (l : List RForm), (l.map (·.op)).Nodup → ∀ f ∈ l, (f.op : Int) = x.op → formW x l = f.letter :: f.args.flatMap (argW x)
  | [], _, f, hf, _ => by simp at hf
  | g :: r, hn, f, hf, ho => by
    rw [List.map_cons, List.nodup_cons] at hn
    unfold formW
    rcases List.mem_cons.1 hf with rfl | hr
    · rw [if_pos ho]
    · have : ¬ (g.op : Int) = x.op := by
        intro e
        apply hn.1
        have e2 : g.op = f.op := by omega
        rw [e2]
        exact List.mem_map_of_mem hr
      rw [if_neg this]
      exact formW_mem x r hn.2 f hr ho
theorem rforms_ops : (rforms.map (·.op)).Nodup := by decide

theorem rchF_short : ∀ (k : Nat) (L : List Nat) (acc cs : List CaseD), rchF k L acc = some cs → (cs.flatMap caseW).length ≤ (acc.flatMap caseW).length + L.length
  | 0, L, acc, cs, h => by cases h
  | k + 1, L, acc, cs, h => by
    unfold rchF at h
    split at h
    · split at h
      · cases h
      · obtain rfl := Option.some.inj h
        omega
    · rename_i hL
      split at h
      · cases h
      · rename_i kd ch rg M hM
        split at h
        · cases h
        · rename_i c M' hc
          have ih := rchF_short k M' (acc ++ [c]) cs h
          have h1 : M'.length + (decN c.dest.toNat).length ≤ M.length ∧ c.kind = kd := by
            unfold rtail at hc
            split at hc
            · cases hc
            · rename_i hn
              split at hc
              · cases hc
              · simp only [Option.some.injEq, Prod.mk.injEq] at hc
                obtain ⟨rfl, rfl⟩ := hc
                have hs := num_short (s := strA (M.take (restN M))) (by simpa using hn)
                have hle := restN_le M
                rw [strA_size, List.length_take] at hs
                refine ⟨?_, rfl⟩
                rw [List.length_drop]
                dsimp only
                omega
          have h2 : M.length + (caseH c).length ≤ L.length := by
            unfold rhead at hM
            unfold caseH
            split at hM
            · split at hM
              · cases hM
              · split at hM
                · cases hM
                · rename_i h3 _
                  simp only [Option.some.injEq, Prod.mk.injEq] at hM
                  obtain ⟨e1, _, _, rfl⟩ := hM
                  have hk : c.kind = 1 ∨ c.kind = 2 := by
                    rw [h1.2, ← e1]
                    split
                    · exact .inr rfl
                    · exact .inl rfl
                  rw [List.length_drop]
                  rcases hk with hk | hk
                  · rw [if_pos hk]; simp; omega
                  · rw [if_neg (by omega), if_pos hk]; simp; omega
            · split at hM
              · simp only [Option.some.injEq, Prod.mk.injEq] at hM
                obtain ⟨e1, _, _, rfl⟩ := hM
                rw [if_neg (by omega), if_neg (by omega), List.length_drop]
                simp; omega
              · cases hM
          rw [List.flatMap_append, List.length_append] at ih
          have h3 : ([c].flatMap caseW).length = (caseH c).length + (decN c.dest.toNat).length := by simp [caseW]
          omega
/-- What is read of a line is written in no more signs. -/
theorem one_short {L : List Nat} {x : InstrD} (h0 : 0 < L.length) (h : oneR L = some x) : (rW x).length ≤ L.length := by
  unfold oneR at h
  split at h
  · unfold rchoiceR at h
    obtain ⟨cs, hcs, rfl⟩ := Option.map_eq_some_iff.1 h
    have := rchF_short _ _ [] cs hcs
    unfold rW
    rw [if_pos rfl, List.length_cons]
    rw [List.length_drop] at this
    simp at this
    simp
    omega
  · obtain ⟨f, hf, hv⟩ := formF_some _ _ x rforms h
    unfold simpV simpR at hv
    cases hs : simpF f.args (L.drop 1) 0 0 0 with
    | none => rw [hs] at hv; simp at hv
    | some r =>
      rw [hs] at hv
      dsimp only at hv
      split at hv
      · obtain rfl := Option.some.inj hv
        have h21 : ((f.op : Nat) : Int) ≠ 21 := by have := rforms_21 f hf; omega
        unfold rW
        rw [if_neg h21, formW_mem _ rforms rforms_ops f hf rfl, List.length_cons]
        have hd : (L.drop 1).length = L.length - 1 := List.length_drop
        have key : (f.args.flatMap (argW ⟨f.op, r.1, r.2.1, r.2.2.1, []⟩)).length ≤ (L.drop 1).length := by
          obtain ⟨R, hR⟩ : ∃ R, L.drop 1 = R := ⟨_, rfl⟩
          rw [hR] at hs ⊢
          rcases rforms_args f hf with e | e | e | e | e | e <;> rw [e] at hs ⊢
          · obtain ⟨v, R1, l1, h1⟩ := sh_a hs
            obtain ⟨u, R2, l2, h2⟩ := sh_N h1
            obtain rfl := inv_end h2
            simp [argW]
            omega
          · obtain ⟨v, R1, l1, h1⟩ := sh_a hs
            obtain ⟨u, R2, l2, h2⟩ := sh_b h1
            obtain rfl := inv_end h2
            simp [argW]
            omega
          · obtain ⟨v, R1, l1, h1⟩ := sh_a hs
            obtain rfl := inv_end h1
            simp [argW]
            omega
          · obtain ⟨u, R2, l2, h2⟩ := sh_N hs
            obtain rfl := inv_end h2
            simp [argW]
            omega
          · obtain ⟨u, R2, l2, h2⟩ := sh_n hs
            obtain ⟨v, R1, l1, h1⟩ := sh_a h2
            obtain rfl := inv_end h1
            simp [argW]
            omega
          · simp
        omega
      · cases hv

def sumL (Ls : List (List Nat)) : Nat := (Ls.map fun L => L.length + 1).sum
theorem acc_sum : ∀ (l cur : List UInt8), ((accB l cur).map fun x => x.length + 1).sum ≤ l.length + cur.length + 1
  | [], cur => by
    unfold accB
    split <;> simp
  | c :: r, cur => by
    unfold accB
    split
    · split
      · have := acc_sum r []; simp at this ⊢; omega
      · have := acc_sum r []; simp at this ⊢; omega
    · split
      · have := acc_sum r cur; simp at this ⊢; omega
      · have := acc_sum r (cur ++ [c]); simp at this ⊢; omega
theorem lines_sum {s : ByteArray} (h : (linesR s).2 = 0) : sumL ((linesR s).1.map bytesN) ≤ s.size + 1 := by
  have e : (linesR s).1 = keepB (piecesB s) := by
    unfold linesR at h ⊢
    by_cases h1 : 2000 < (runesF s 0).length
    · rw [if_pos h1] at h; cases h
    · rw [if_neg h1] at h ⊢
      by_cases h2 : mayAll s = false
      · rw [if_pos h2] at h; cases h
      · rw [if_neg h2] at h ⊢
        by_cases h3 : (keepB (piecesB s)).length = 0
        · rw [if_pos h3] at h; cases h
        · rw [if_neg h3] at h ⊢
          by_cases h4 : 60 < (keepB (piecesB s)).length
          · rw [if_pos h4] at h; cases h
          · rw [if_neg h4]
  rw [e]
  have h1 := acc_sum s.data.toList []
  rw [← lines_acc, List.map_map] at h1
  have h2 : s.data.toList.length = s.size := by rw [Array.length_toList]; rfl
  unfold sumL
  rw [List.map_map]
  have h3 : ((fun L : List Nat => L.length + 1) ∘ bytesN) = ((fun x : List UInt8 => x.length + 1) ∘ fun x : ByteArray => x.data.toList) := by
    funext x
    simp [bytesN]
  rw [h3]
  simp at h1 h2
  simp
  omega
theorem textW_cons (x : InstrD) (r : List InstrD) : (textW (x :: r)).length = (rW x).length + 1 + (textW r).length := by
  unfold textW joinW
  simp
  omega
theorem decF_short : ∀ (Ls : List (List Nat)) (i : Nat) (acc : List InstrD), (∀ L ∈ Ls, LineOK L) → (decF i acc Ls).2.2 = 0 → (textW (decF i acc Ls).1).length ≤ (textW acc).length + sumL Ls
  | [], i, acc, _, _ => by simp [decF, sumL]
  | L :: r, i, acc, hL, h => by
    unfold decF at h ⊢
    split at h
    · rename_i hl
      rw [if_pos hl]
      have h1 := hL L (List.mem_cons_self ..)
      have ih := decF_short r (i + 1) (acc ++ [(lineR L).1]) (fun M hM => hL M (List.mem_cons_of_mem _ hM)) h
      have ho : oneR L = some (lineR L).1 := by rw [← line_one L h1]; unfold lineV; rw [if_pos hl]
      have hs := one_short h1.1 ho
      rw [textW_app, List.length_append, textW_cons] at ih
      have e0 : (textW []).length = 0 := rfl
      have e1 : sumL (L :: r) = L.length + 1 + sumL r := by simp [sumL]
      rw [e0] at ih
      rw [e1]
      omega
    · cases h
/-- What is decoded is written in one sign more, at most, than the text has. -/
theorem decode_short {s : ByteArray} (h : (decodeR s).2.2 = 0) : (textW (decodeR s).1).length ≤ s.size + 1 := by
  unfold decodeR at h ⊢
  split at h
  · rename_i hn; exact absurd h hn
  · rename_i hn
    rw [if_neg hn]
    have hok := (lines_ok s).1
    have := decF_short _ 0 [] (fun L hL => by obtain ⟨x, hx, rfl⟩ := List.mem_map.1 hL; exact hok x hx) h
    have h2 := lines_sum (s := s) (by simpa using hn)
    have e0 : (textW []).length = 0 := rfl
    omega
theorem back_write {s : ByteArray} (hs : s.size ≤ 1900) (h : (decodeR s).2.2 = 0) : writeR (decodeR s).1 = (textW (decodeR s).1, 0) ∧ decodeR (strA (textW (decodeR s).1)) = ((decodeR s).1, 0, 0) ∧ (textW (decodeR s).1).length ≤ 1901 := by
  obtain ⟨h1, h2, h3, _⟩ := decode_shaped h
  have h4 := decode_short h
  refine ⟨?_, ?_, by omega⟩
  · unfold writeR okW
    rw [if_neg (by omega), List.all_eq_true.2 h1, decide_eq_true h2, decide_eq_true (show (textW (decodeR s).1).length ≤ 2000 by omega)]
    rfl
  · rw [decode_text _ h1, if_neg (by omega), if_neg (by omega), if_neg (by omega)]
end Go.Proofs.YtoflhfiegfhkoaaDoor
