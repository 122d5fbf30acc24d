/-
  A text's lines, byte for byte, in plain words.
-/
import Derived.Test.YtoflhfiegfhkoaaDoorXLines
import Derived.Test.YtoflhfiegfhkoaaDoorXNum
import Derived.Lib.ReplaceLaws
namespace Go.Proofs.YtoflhfiegfhkoaaDoor
open Go Go.Lib
set_option linter.unusedVariables false

/-- A text's lines, byte for byte. -/
def accB : List UInt8 → List UInt8 → List (List UInt8)
  | [], cur => if cur.isEmpty then [] else [cur]
  | c :: r, cur => if c = 10 then (if cur.isEmpty then accB r [] else cur :: accB r []) else if c = 32 then accB r cur else accB r (cur ++ [c])
def flt (l : List UInt8) : List UInt8 := l.filter (fun b => b != 32)
def keepL (l : List (List UInt8)) : List (List UInt8) := (l.map flt).filter (fun x => !x.isEmpty)

theorem index_cons (b c : UInt8) (l : List UInt8) (h : b ≠ c) : index (b :: l) [c] = if index l [c] == -1 then -1 else index l [c] + 1 := by
  have hp : ([c] : List UInt8).isPrefixOf (b :: l) = false := by simp [List.isPrefixOf, Ne.symm h]
  rw [index, hp]; simp
theorem index_eq (c : UInt8) (l : List UInt8) : index (c :: l) [c] = 0 := by rw [index]; simp [List.isPrefixOf]
theorem replace_nil (c : UInt8) : replaceAll [] [c] [] = [] := by
  simp [replaceAll, replace, replaceNum, count_one, replaceK]
theorem replaceAll_eq (s : List UInt8) (c : UInt8) : replaceAll s [c] [] = replaceK [c] [] (s.count c) s := by
  simp [replaceAll, replace, replaceNum, count_one]
theorem replaceK_filter (c : UInt8) : ∀ s : List UInt8, replaceK [c] [] (s.count c) s = s.filter (fun b => b != c)
  | [] => rfl
  | b :: l => by
    have ih := replaceK_filter c l
    by_cases h : b = c
    · subst h
      rw [List.count_cons_self, replaceK, if_neg (by rw [index_eq]; decide), index_eq]
      simpa using ih
    · rw [List.count_cons_of_ne (by simpa using h)]
      have hf : (b :: l).filter (fun b => b != c) = b :: l.filter (fun b => b != c) := by rw [List.filter_cons_of_pos (by simpa using h)]
      rw [hf, ← ih]
      cases hk : l.count c with
      | zero => rfl
      | succ k =>
        obtain ⟨j, hj⟩ := index_of_count (s := l) (old := [c]) (by rw [count_one]; omega)
        have hm : ¬ (index l [c] == -1) = true := by rw [hj]; simp
        have e := index_cons b c l h
        rw [if_neg hm, hj] at e
        have e' : index (b :: l) [c] = ((j + 1 : Nat) : Int) := by rw [e]; omega
        rw [replaceK_hit _ _ _ _ _ e', replaceK_hit _ _ _ _ _ hj]
        simp
theorem strip_eq (s : List UInt8) : replaceAll s [32] [] = flt s := by rw [replaceAll_eq, replaceK_filter]; rfl

def splitL (s : List UInt8) : List (List UInt8) := splitK [10] 0 (count s [10]) s
theorem split_nil : splitL [] = [[]] := rfl
theorem split_eq (l : List UInt8) : splitL (10 :: l) = [] :: splitL l := by
  unfold splitL
  rw [count_cons_eq, Nat.add_comm, splitK, if_neg (by rw [index_eq]; decide), index_eq]
  rfl
theorem split_ne (b : UInt8) (l : List UInt8) (h : b ≠ 10) {x : List UInt8} {t : List (List UInt8)} (e : splitL l = x :: t) : splitL (b :: l) = (b :: x) :: t := by
  unfold splitL at e ⊢
  rw [count_cons_ne b 10 l h]
  cases hk : count l [10] with
  | zero => rw [hk] at e; simp only [splitK] at e ⊢; cases e; rfl
  | succ k =>
    rw [hk] at e
    obtain ⟨j, hj⟩ := index_of_count (s := l) (old := [10]) (by omega)
    have hm : ¬ (index l [10] == -1) = true := by rw [hj]; simp
    have e2 := index_cons b 10 l h
    rw [if_neg hm, hj] at e2
    have e' : index (b :: l) [10] = ((j + 1 : Nat) : Int) := by rw [e2]; omega
    have hm' : ¬ (index (b :: l) [10] == -1) = true := by rw [e']; simp; omega
    rw [splitK, if_neg hm, hj] at e
    rw [splitK, if_neg hm', e']
    simp only [Int.toNat_natCast, Nat.add_zero] at e ⊢
    cases e
    simp
theorem split_some : ∀ s : List UInt8, ∃ x t, splitL s = x :: t
  | [] => ⟨[], [], rfl⟩
  | b :: l => by
    obtain ⟨x, t, e⟩ := split_some l
    by_cases h : b = 10
    · subst h; exact ⟨_, _, split_eq l⟩
    · exact ⟨_, _, split_ne b l h e⟩
theorem flt_cons32 (x : List UInt8) : flt (32 :: x) = flt x := rfl
theorem flt_cons (b : UInt8) (x : List UInt8) (h : b ≠ 32) : flt (b :: x) = b :: flt x := by unfold flt; rw [List.filter_cons_of_pos (by simpa using h)]
theorem acc_split : ∀ (s cur x : List UInt8) (t : List (List UInt8)), splitL s = x :: t → accB s cur = (if (cur ++ flt x).isEmpty then [] else [cur ++ flt x]) ++ keepL t
  | [], cur, x, t, e => by
    rw [split_nil] at e
    cases e
    simp [accB, flt, keepL]
  | b :: l, cur, x, t, e => by
    obtain ⟨y, u, e1⟩ := split_some l
    by_cases h : b = 10
    · subst h
      rw [split_eq] at e
      cases e
      have ih := acc_split l [] y u e1
      have hk : keepL (splitL l) = accB l [] := by
        rw [ih, e1]
        simp only [keepL, List.map_cons, List.nil_append]
        by_cases hx : (flt y).isEmpty = true
        · rw [List.filter_cons_of_neg (by simp [hx]), if_pos hx]; rfl
        · rw [List.filter_cons_of_pos (by simpa using hx), if_neg hx]; rfl
      have hn : flt [] = [] := rfl
      rw [hk, hn, List.append_nil]
      simp only [accB, if_true]
      split <;> rfl
    · rw [split_ne b l h e1] at e
      cases e
      by_cases h2 : b = 32
      · subst h2
        rw [flt_cons32, ← acc_split l cur y t e1]
        simp [accB]
      · rw [flt_cons b y h2, show cur ++ b :: flt y = (cur ++ [b]) ++ flt y by simp, ← acc_split l (cur ++ [b]) y t e1]
        simp [accB, h, h2]
theorem acc_eq (s : List UInt8) : keepL (splitL s) = accB s [] := by
  obtain ⟨y, u, e1⟩ := split_some s
  have ih := acc_split s [] y u e1
  rw [ih, e1]
  simp only [keepL, List.map_cons, List.nil_append]
  by_cases hx : (flt y).isEmpty = true
  · rw [List.filter_cons_of_neg (by simp [hx]), if_pos hx]; rfl
  · rw [List.filter_cons_of_pos (by simpa using hx), if_neg hx]; rfl

theorem piecesL (s : ByteArray) : (piecesB s).map (·.data.toList) = splitL s.data.toList := by
  unfold piecesB splitL
  rw [splitB_data]
  rfl
theorem strip_data (x : ByteArray) : (stripB x).data.toList = flt x.data.toList := by
  unfold stripB
  rw [← strip_eq]
  rfl
theorem full_data (x : ByteArray) : full x = !x.data.toList.isEmpty := by unfold full; rw [Lib.toList_data]
theorem keep_data : ∀ l : List ByteArray, (keepB l).map (·.data.toList) = keepL (l.map (·.data.toList))
  | [] => rfl
  | x :: l => by
    have ih := keep_data l
    unfold keepB keepL at *
    simp only [List.map_cons] at *
    by_cases h : full (stripB x) = true
    · have h2 : (!(flt x.data.toList).isEmpty) = true := by rw [← strip_data, ← full_data]; exact h
      rw [List.filter_cons_of_pos h, List.filter_cons_of_pos (p := fun x : List UInt8 => !x.isEmpty) h2, List.map_cons, strip_data, ih]
    · have h2 : ¬ (!(flt x.data.toList).isEmpty) = true := by rw [← strip_data, ← full_data]; exact h
      rw [List.filter_cons_of_neg h, List.filter_cons_of_neg (p := fun x : List UInt8 => !x.isEmpty) h2, ih]
theorem lines_acc (s : ByteArray) : (keepB (piecesB s)).map (·.data.toList) = accB s.data.toList [] := by
  rw [keep_data, piecesL, acc_eq]
theorem lines_len (s : ByteArray) : (keepB (piecesB s)).length = (accB s.data.toList []).length := by
  rw [← lines_acc, List.length_map]

def ascii (l : List UInt8) : Prop := ∀ b ∈ l, b.toNat < 128
def mayL (l : List UInt8) : Bool := l.all fun b => mayR (b.toNat : Int)
theorem runes_ascii (s : ByteArray) (h : ascii s.data.toList) : runesF s 0 = s.data.toList.map (·.toNat) := by
  rw [runesF_ascii s h s.size 0 (by omega)]; rfl
theorem may_ascii (s : ByteArray) (h : ascii s.data.toList) : mayAll s = mayL s.data.toList := by
  unfold mayAll mayL
  rw [runes_ascii s h, List.all_map]
  rfl
theorem runes_len_ascii (s : ByteArray) (h : ascii s.data.toList) : (runesF s 0).length = s.size := by
  rw [runes_ascii s h, List.length_map, Array.length_toList]; rfl
/-- Why there are no lines, of signs of one byte each. -/
theorem err_ascii (s : ByteArray) (h : ascii s.data.toList) : (linesR s).2 = if 2000 < s.size then 3 else if mayL s.data.toList = false then 4 else if (accB s.data.toList []).length = 0 then 7 else if 60 < (accB s.data.toList []).length then 3 else 0 := by
  unfold linesR
  rw [runes_len_ascii s h, may_ascii s h, lines_len s]
  repeat' split
  all_goals rfl
theorem mayR_128 (b : UInt8) (h : mayR (b.toNat : Int) = true) : b.toNat < 128 := by
  unfold mayR at h
  simp at h
  omega
theorem mayL_ascii {l : List UInt8} (h : mayL l = true) : ascii l := fun b hb => mayR_128 b (List.all_eq_true.1 h b hb)

end Go.Proofs.YtoflhfiegfhkoaaDoor
