/-
  What the law TextJoins joins, in plain words.
-/
import Derived.Test.YtdelflahmlfnfaaDoorXRefL
namespace Go.Proofs.YtdelflahmlfnfaaDoor
open Go
set_option linter.unusedVariables false

def signB (b : UInt8) : UInt8 := UInt8.ofNat (33 + b.toNat % 94)
theorem sign_nat (b : UInt8) : (signB b).toNat = 33 + b.toNat % 94 := by unfold signB; simp; omega
theorem sign_ne (b : UInt8) : signB b ≠ 10 ∧ signB b ≠ 32 := by
  have h := sign_nat b
  constructor
  · intro e; rw [e] at h; simp at h; omega
  · intro e; rw [e] at h; simp at h; omega
def lineB (x : ByteArray) (k : Nat) : ByteArray := ⟨((x.data.toList.take k).map signB).toArray⟩
theorem line_zero (x : ByteArray) : lineB x 0 = ⟨#[]⟩ := rfl
theorem line_next (x : ByteArray) (k : Nat) (h : k < x.size) : lineB x k ++ byteB (signB (x[k]'h)) = lineB x (k + 1) := by
  have hl : k < x.data.toList.length := by rw [Array.length_toList]; exact h
  have hb : (x[k]'h) = x.data.toList[k]'hl := by simp; rfl
  apply ByteArray.ext
  rw [ByteArray.data_append]
  apply Array.ext'
  rw [Array.toList_append]
  show (x.data.toList.take k).map signB ++ [signB (x[k]'h)] = (x.data.toList.take (k + 1)).map signB
  rw [List.take_add_one, List.getElem?_eq_getElem hl, List.map_append, hb]
  rfl
theorem line_size (x : ByteArray) (k : Nat) (h : k ≤ x.size) : (lineB x k).size = k := by
  show ((x.data.toList.take k).map signB).toArray.size = k
  have : x.data.toList.length = x.size := by rw [Array.length_toList]; rfl
  simp
  omega
def preB : Nat → ByteArray
  | 0 => ⟨#[]⟩
  | 1 => ⟨#[32]⟩
  | 2 => ⟨#[10]⟩
  | 3 => ⟨#[10, 32, 32, 10]⟩
  | _ => ⟨#[32, 32, 32]⟩
def postB : Nat → ByteArray
  | 0 => ⟨#[10]⟩
  | 1 => ⟨#[32, 10]⟩
  | 2 => ⟨#[10, 10]⟩
  | 3 => ⟨#[10, 32]⟩
  | _ => ⟨#[10]⟩
theorem pre_acc (n : Nat) (r : List UInt8) : accB ((preB n).data.toList ++ r) [] = accB r [] := by
  match n with
  | 0 => rfl
  | 1 => rfl
  | 2 => rfl
  | 3 => rfl
  | n + 4 => rfl
def oneL (cur : List UInt8) : List (List UInt8) := if cur.isEmpty then [] else [cur]
theorem acc10 (r cur : List UInt8) : accB (10 :: r) cur = oneL cur ++ accB r [] := by
  unfold oneL
  show (if cur.isEmpty then accB r [] else cur :: accB r []) = _
  split <;> rfl
theorem acc32 (r cur : List UInt8) : accB (32 :: r) cur = accB r cur := rfl
theorem post_acc (n : Nat) (r cur : List UInt8) : accB ((postB n).data.toList ++ r) cur = oneL cur ++ accB r [] := by
  match n with
  | 0 => exact acc10 r cur
  | 1 => exact (acc32 (10 :: r) cur).trans (acc10 r cur)
  | 2 => exact (acc10 (10 :: r) cur).trans rfl
  | 3 => exact (acc10 (32 :: r) cur).trans rfl
  | n + 4 => exact acc10 r cur
theorem line_acc : ∀ (l : List UInt8) (r cur : List UInt8), accB (l.map signB ++ r) cur = accB r (cur ++ l.map signB)
  | [], r, cur => by simp
  | b :: l, r, cur => by
    have ⟨h1, h2⟩ := sign_ne b
    show accB (signB b :: (l.map signB ++ r)) cur = _
    have e : accB (signB b :: (l.map signB ++ r)) cur = accB (l.map signB ++ r) (cur ++ [signB b]) := by
      simp only [accB]
      rw [if_neg h1, if_neg h2]
    rw [e, line_acc l r (cur ++ [signB b])]
    simp
/-- One line more, with blanks and empty lines about it. -/
def segB (x : ByteArray) (k n : Nat) : ByteArray := preB n ++ lineB x k ++ postB n
theorem seg_data (x : ByteArray) (k n : Nat) : (segB x k n).data.toList = (preB n).data.toList ++ ((x.data.toList.take k).map signB ++ (postB n).data.toList) := by
  unfold segB
  rw [ByteArray.data_append, ByteArray.data_append, Array.toList_append, Array.toList_append, List.append_assoc]
  rfl
theorem seg_acc (x : ByteArray) (k n : Nat) (r : List UInt8) : accB ((segB x k n).data.toList ++ r) [] = oneL (lineB x k).data.toList ++ accB r [] := by
  rw [seg_data, List.append_assoc, pre_acc, List.append_assoc, line_acc, List.nil_append, post_acc]
  rfl
theorem pre_may (n : Nat) : mayL (preB n).data.toList = true := by
  match n with
  | 0 => decide +kernel
  | 1 => decide +kernel
  | 2 => decide +kernel
  | 3 => decide +kernel
  | n + 4 => show mayL [32, 32, 32] = true; decide +kernel
theorem post_may (n : Nat) : mayL (postB n).data.toList = true := by
  match n with
  | 0 => decide +kernel
  | 1 => decide +kernel
  | 2 => decide +kernel
  | 3 => decide +kernel
  | n + 4 => show mayL [10] = true; decide +kernel
theorem may_app (a b : List UInt8) : mayL (a ++ b) = (mayL a && mayL b) := by unfold mayL; rw [List.all_append]
theorem line_may (l : List UInt8) : mayL (l.map signB) = true := by
  unfold mayL
  rw [List.all_eq_true]
  intro b hb
  rw [List.mem_map] at hb
  obtain ⟨c, _, rfl⟩ := hb
  have h := sign_nat c
  unfold mayR
  simp
  omega
theorem seg_may (x : ByteArray) (k n : Nat) : mayL (segB x k n).data.toList = true := by
  rw [seg_data, may_app, may_app, pre_may, line_may, post_may]
  rfl
theorem pre_size (n : Nat) : (preB n).size ≤ 4 := by
  match n with
  | 0 => decide
  | 1 => decide
  | 2 => decide
  | 3 => decide
  | n + 4 => show (⟨#[32, 32, 32]⟩ : ByteArray).size ≤ 4; decide
theorem post_size (n : Nat) : (postB n).size ≤ 2 := by
  match n with
  | 0 => decide
  | 1 => decide
  | 2 => decide
  | 3 => decide
  | n + 4 => show (⟨#[10]⟩ : ByteArray).size ≤ 2; decide
/-- What a text of such lines has. -/
def JoinB (s : ByteArray) (W : List ByteArray) (k : Nat) : Prop := (∀ r, accB (s.data.toList ++ r) [] = datas W ++ accB r []) ∧ mayL s.data.toList = true ∧ s.size ≤ 36 * k ∧ W.length ≤ k
theorem join_zero : JoinB ⟨#[]⟩ [] 0 := ⟨fun r => rfl, rfl, Nat.le_refl _, Nat.le_refl _⟩
theorem join_next {s : ByteArray} {W : List ByteArray} {i : Nat} (h : JoinB s W i) (x : ByteArray) (k n : Nat) (hk : k ≤ 30) (hkx : k ≤ x.size) :
    JoinB (s ++ preB n ++ lineB x k ++ postB n) (if (lineB x k).toList.isEmpty then W else W ++ [lineB x k]) (i + 1) := by
  obtain ⟨h1, h2, h3, h4⟩ := h
  have e : s ++ preB n ++ lineB x k ++ postB n = s ++ segB x k n := by
    unfold segB
    apply ByteArray.ext
    simp only [ByteArray.data_append]
    apply Array.ext'
    simp only [Array.toList_append, List.append_assoc]
  have ed : (s ++ segB x k n).data.toList = s.data.toList ++ (segB x k n).data.toList := by rw [ByteArray.data_append, Array.toList_append]
  rw [e]
  refine ⟨fun r => ?_, ?_, ?_, ?_⟩
  · rw [ed, List.append_assoc, h1, seg_acc, ← List.append_assoc, empty_data]
    congr 1
    unfold oneL
    split
    · simp
    · unfold datas; simp
  · rw [ed, may_app, h2, seg_may]; rfl
  · have hp := pre_size n
    have hq := post_size n
    have hl := line_size x k hkx
    have : (segB x k n).size = (preB n).size + (lineB x k).size + (postB n).size := by unfold segB; rw [ByteArray.size_append, ByteArray.size_append]
    rw [ByteArray.size_append]
    omega
  · split
    · omega
    · rw [List.length_append]; show _ + 1 ≤ _; omega
theorem join_lines {s : ByteArray} {W : List ByteArray} {k : Nat} (h : JoinB s W k) (hk : k ≤ 20) : linesR s = if W.length = 0 then ([], 7) else (W, 0) := by
  obtain ⟨h1, h2, h3, h4⟩ := h
  have ha := mayL_ascii h2
  have hK : keepB (piecesB s) = W := by
    apply datas_inj
    unfold datas
    rw [lines_acc]
    have := h1 []
    rw [List.append_nil] at this
    rw [this]
    show datas W ++ [] = _
    rw [List.append_nil]
    rfl
  unfold linesR
  rw [runes_len_ascii s ha, may_ascii s ha, h2, hK, if_neg (by omega), if_neg (by decide)]
  by_cases h0 : W.length = 0
  · rw [if_pos h0, if_pos h0]
  · rw [if_neg h0, if_neg h0, if_neg (by omega)]
end Go.Proofs.YtdelflahmlfnfaaDoor
