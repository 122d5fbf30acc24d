/-
  Each form's line, whatever its fields: what it is decoded as, alone, with a sign more, and with a sign less; in plain words.
-/
import Derived.Test.YtoflhfiegfhkoaaDoorKCLn
namespace Go.Proofs.YtoflhfiegfhkoaaDoor
open Go
set_option linter.unusedVariables false
set_option linter.unusedSimpArgs false

/-- An instruction of a form. -/
def eX (f : RForm) (a b n : Nat) : InstrD := ⟨f.op, if f.args.contains 97 then a else 0, if f.args.contains 98 then b else 0, if f.args.contains 78 then n else if f.args.contains 110 then ((n % 10 : Nat) : Int) else 0, []⟩
theorem eX_shaped {f : RForm} (hf : f ∈ rforms) {a b n : Nat} (ha : a < 6) (hb : b < 6) (hn : n < 10000) : rshaped (eX f a b n) = true := by
  have h21 : ((f.op : Nat) : Int) ≠ 21 := by have := rforms_21 f hf; omega
  refine rshF_of _ h21 f hf rfl ?_
  rw [rsh_iff]
  rcases rforms_args f hf with e | e | e | e | e | e <;> unfold eX <;> rw [e] <;> simp <;> omega
theorem eX_line {f : RForm} (hf : f ∈ rforms) (a b n : Nat) : rW (eX f a b n) = f.letter :: f.args.flatMap (argW (eX f a b n)) := by
  have h21 : ((f.op : Nat) : Int) ≠ 21 := by have := rforms_21 f hf; omega
  unfold rW
  rw [if_neg (show ¬ (eX f a b n).op = 21 from h21), formW_mem _ rforms rforms_ops f hf rfl]
theorem eX_21 {f : RForm} (hf : f ∈ rforms) (a b n : Nat) : (eX f a b n).op ≠ 21 := by have := rforms_21 f hf; show ((f.op : Nat) : Int) ≠ 21; omega
theorem letter_of {a : Nat} (h : a < 6) : letterN (a : Int) = 97 + a := by unfold letterN; rw [if_neg (by omega)]; omega
def exD : InstrD := ⟨22, 0, 0, 0, []⟩
theorem one_exit : oneR [120] = some exD := by decide +kernel
theorem signs_exit : signs [120] := fun c hc => by simp at hc; omega
theorem signs_drop {L : List Nat} (h : signs L) : signs L.dropLast := fun c hc => h c (List.dropLast_subset L hc)
theorem rW_few {x : InstrD} (h21 : x.op ≠ 21) (h : rshaped x = true) : (rW x).length ≤ 9 := by
  unfold rshaped at h
  rw [if_neg h21] at h
  obtain ⟨f, hfm, _, hs, hW⟩ := rshF_some x rforms h
  rw [rsh_iff] at hs
  unfold rW
  rw [if_neg h21, hW, List.length_cons]
  have hl := rforms_two f hfm
  have : ∀ l : List Nat, (l.flatMap (argW x)).length ≤ 4 * l.length := by
    intro l
    induction l with
    | nil => simp
    | cons c r ih =>
      rw [List.flatMap_cons, List.length_append, List.length_cons]
      have : (argW x c).length ≤ 4 := by
        unfold argW
        split
        · simp
        · split
          · simp
          · exact decN_len4 _ (by have := hs.1.2.2.1; omega)
      omega
  have := this f.args
  omega
/-- Behind another line. -/
theorem each_one {x : InstrD} (h : rshaped x = true) (h21 : x.op ≠ 21) : decodeR (strA ([120, 10] ++ rW x)) = ([exD, x], 0, 0) := by
  obtain ⟨hs, hne⟩ := signs_rW x
  have hl := rW_few h21 h
  have hT : linesN ([120, 10] ++ rW x) [] = [[120], rW x] := by
    show linesN ([120] ++ 10 :: rW x) [] = _
    rw [linesN_line1 _ signs_exit (by simp), linesN_last hs (by simpa using hne), List.nil_append]
  have hs2 : signsT ([120, 10] ++ rW x) := signsT_app (fun c hc => by simp at hc; omega) (signs_T hs)
  rw [decode_lines hs2 (by simp; omega) (by rw [hT]; simp) (by rw [hT]; simp), hT]
  simp only [decO, one_exit, back_one h]
  rfl
/-- Behind two lines, with a sign more. -/
theorem each_more {x : InstrD} (h : rshaped x = true) (h21 : x.op ≠ 21) : decodeR (strA ([120, 10, 120, 10] ++ rW x ++ [63])) = ([], 3, 5) := by
  obtain ⟨hs, hne⟩ := signs_rW x
  have hl := rW_few h21 h
  have hs1 : signs (rW x ++ [63]) := signs_app hs (fun c hc => by simp at hc; omega)
  have hT : linesN ([120, 10, 120, 10] ++ rW x ++ [63]) [] = [[120], [120], rW x ++ [63]] := by
    rw [List.append_assoc]
    show linesN ([120] ++ 10 :: ([120] ++ 10 :: (rW x ++ [63]))) [] = _
    rw [linesN_line1 _ signs_exit (by simp), linesN_line1 _ signs_exit (by simp), linesN_last hs1 (by simp), List.nil_append]
  have hs2 : signsT ([120, 10, 120, 10] ++ rW x ++ [63]) := by
    rw [List.append_assoc]
    exact signsT_app (fun c hc => by simp at hc; omega) (signs_T hs1)
  rw [decode_lines hs2 (by simp; omega) (by rw [hT]; simp) (by rw [hT]; simp), hT]
  simp only [decO, one_exit, one_more h21 h]
  rfl
/-- With a sign less, ahead of another line. -/
theorem each_less {x : InstrD} (h : rshaped x = true) (h21 : x.op ≠ 21) (h1 : (rW x).length ≠ 1) (hn : x.n ≤ 9) : decodeR (strA ((rW x).dropLast ++ [10, 120])) = ([], 1, 5) := by
  obtain ⟨hs, hne⟩ := signs_rW x
  have hl := rW_few h21 h
  have hl0 := List.length_pos_iff.2 hne
  have hdl : (rW x).dropLast.length = (rW x).length - 1 := List.length_dropLast
  have hT : linesN ((rW x).dropLast ++ [10, 120]) [] = [(rW x).dropLast, [120]] := by
    rw [linesN_line1 _ (signs_drop hs) (by intro e; rw [e] at hdl; simp at hdl; omega), linesN_last signs_exit (by simp), List.nil_append]
  have hs2 : signsT ((rW x).dropLast ++ [10, 120]) := signsT_app (signs_T (signs_drop hs)) (fun c hc => by simp at hc; omega)
  rw [decode_lines hs2 (by simp; omega) (by rw [hT]; simp) (by rw [hT]; simp), hT]
  simp only [decO, one_less h21 h h1 hn]
  rfl
end Go.Proofs.YtoflhfiegfhkoaaDoor
