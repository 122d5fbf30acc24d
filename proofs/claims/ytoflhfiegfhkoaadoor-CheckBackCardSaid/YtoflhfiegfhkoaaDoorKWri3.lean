/-
  A written program's text is decoded as it was; what is decoded may be; in plain words.
-/
import Derived.Test.YtoflhfiegfhkoaaDoorKWri2
namespace Go.Proofs.YtoflhfiegfhkoaaDoor
open Go
set_option linter.unusedVariables false
set_option linter.unusedSimpArgs false

def signs (L : List Nat) : Prop := ∀ c ∈ L, 33 ≤ c ∧ c ≤ 126
theorem signs_app {A B : List Nat} (h : signs A) (k : signs B) : signs (A ++ B) := fun c hc => by
  rcases List.mem_append.1 hc with hc | hc
  · exact h c hc
  · exact k c hc
theorem signs_dec (n : Nat) : signs (decN n) := fun c hc => by have := (decN_dig n c hc).2; omega
theorem signs_letter (r : Int) : signs [letterN r] := fun c hc => by rw [List.mem_singleton] at hc; subst hc; have := letterN_sign r; omega
theorem signs_case (c : CaseD) : signs (caseW c) := by
  unfold caseW caseH
  refine signs_app ?_ (signs_dec _)
  split
  · intro x hx
    simp at hx
    have h1 := letterN_sign c.ch
    have h2 := letterN_sign c.reg
    omega
  · split
    · intro x hx
      simp at hx
      have h1 := letterN_sign c.ch
      have h2 := letterN_sign c.reg
      omega
    · intro x hx
      simp at hx
      omega
theorem signs_arg (x : InstrD) (c : Nat) : signs (argW x c) := by
  unfold argW
  split
  · exact signs_letter _
  · split
    · exact signs_letter _
    · exact signs_dec _
theorem signs_flat {α : Type} {f : α → List Nat} (h : ∀ a, signs (f a)) : ∀ l : List α, signs (l.flatMap f)
  | [] => fun c hc => by simp at hc
  | a :: l => by rw [List.flatMap_cons]; exact signs_app (h a) (signs_flat h l)
theorem rforms_sign : ∀ f ∈ rforms, 33 ≤ f.letter ∧ f.letter ≤ 126 := by decide
theorem signs_form (x : InstrD) : ∀ l : List RForm, (∀ f ∈ l, 33 ≤ f.letter ∧ f.letter ≤ 126) → signs (formW x l) ∧ formW x l ≠ []
  | [], _ => ⟨fun c hc => by unfold formW at hc; simp at hc; omega, by unfold formW; simp⟩
  | f :: r, h => by
    unfold formW
    split
    · refine ⟨fun c hc => ?_, by simp⟩
      rcases List.mem_cons.1 hc with rfl | hc
      · exact h f (List.mem_cons_self ..)
      · exact signs_flat (signs_arg x) f.args c hc
    · exact signs_form x r (fun g hg => h g (List.mem_cons_of_mem _ hg))
theorem signs_rW (x : InstrD) : signs (rW x) ∧ rW x ≠ [] := by
  unfold rW
  split
  · refine ⟨fun c hc => ?_, by simp⟩
    rcases List.mem_cons.1 hc with rfl | hc
    · omega
    · exact signs_flat signs_case _ c hc
  · exact signs_form x rforms rforms_sign

/-! ### lines, joined -/
def joinW (Ls : List (List Nat)) : List Nat := Ls.flatMap fun L => L ++ [10]
theorem acc_line : ∀ (L : List Nat) (cur rest : List UInt8), signs L → cur ++ L.map UInt8.ofNat ≠ [] → accB (L.map UInt8.ofNat ++ 10 :: rest) cur = (cur ++ L.map UInt8.ofNat) :: accB rest []
  | [], cur, rest, _, hne => by
    simp at hne
    simp only [List.map_nil, List.nil_append, accB, if_true, List.append_nil]
    rw [if_neg (by simpa using hne)]
  | c :: L, cur, rest, h, _ => by
    have hc := h c (List.mem_cons_self ..)
    have e : (UInt8.ofNat c).toNat = c := by simp; omega
    have h10 : ¬ UInt8.ofNat c = 10 := fun e2 => by rw [e2] at e; simp at e; omega
    have h32 : ¬ UInt8.ofNat c = 32 := fun e2 => by rw [e2] at e; simp at e; omega
    simp only [List.map_cons, List.cons_append, accB]
    rw [if_neg h10, if_neg h32, acc_line L (cur ++ [UInt8.ofNat c]) rest (fun x hx => h x (List.mem_cons_of_mem _ hx)) (by simp), List.append_assoc]
    rfl
theorem acc_join : ∀ Ls : List (List Nat), (∀ L ∈ Ls, signs L ∧ L ≠ []) → accB ((joinW Ls).map UInt8.ofNat) [] = Ls.map (List.map UInt8.ofNat)
  | [], _ => rfl
  | L :: r, h => by
    have hL := h L (List.mem_cons_self ..)
    unfold joinW
    rw [List.flatMap_cons, List.map_append, List.map_append, List.append_assoc]
    show accB (L.map UInt8.ofNat ++ (10 :: (r.flatMap fun L => L ++ [10]).map UInt8.ofNat)) [] = _
    rw [acc_line L [] _ hL.1 (by simpa using hL.2), List.nil_append, List.map_cons]
    congr 1
    exact acc_join r (fun M hM => h M (List.mem_cons_of_mem _ hM))
theorem data_strA (L : List Nat) : (strA L).data.toList = L.map UInt8.ofNat := rfl
theorem signs_join {Ls : List (List Nat)} (h : ∀ L ∈ Ls, signs L) : ∀ c ∈ joinW Ls, c = 10 ∨ 33 ≤ c ∧ c ≤ 126 := by
  intro c hc
  unfold joinW at hc
  obtain ⟨L, hL, hc⟩ := List.mem_flatMap.1 hc
  rcases List.mem_append.1 hc with hc | hc
  · exact .inr (h L hL c hc)
  · exact .inl (by simpa using hc)
theorem may_join {Ls : List (List Nat)} (h : ∀ L ∈ Ls, signs L) : mayL ((joinW Ls).map UInt8.ofNat) = true := by
  unfold mayL
  rw [List.all_eq_true]
  intro b hb
  obtain ⟨c, hc, rfl⟩ := List.mem_map.1 hb
  have := signs_join h c hc
  have e : (UInt8.ofNat c).toNat = c := by simp; omega
  unfold mayR
  rw [e]
  simp
  omega
theorem bytesN_strA {L : List Nat} (h : signs L) : bytesN (strA L) = L := by
  unfold bytesN
  rw [data_strA, List.map_map]
  conv => rhs; rw [← List.map_id L]
  refine List.map_congr_left fun c hc => ?_
  have := h c hc
  simp
  omega
theorem data_inj : ∀ {A B : List ByteArray}, A.map (·.data.toList) = B.map (·.data.toList) → A = B
  | [], [], _ => rfl
  | [], b :: B, h => by simp at h
  | a :: A, [], h => by simp at h
  | a :: A, b :: B, h => by
    simp only [List.map_cons, List.cons.injEq] at h
    rw [data_inj h.2]
    congr 1
    exact ByteArray.ext (Array.ext' h.1)
/-- The lines of lines, joined. -/
theorem lines_join (Ls : List (List Nat)) (h : ∀ L ∈ Ls, signs L ∧ L ≠ []) :
    linesR (strA (joinW Ls)) = if 2000 < (joinW Ls).length then ([], 3) else if Ls.length = 0 then ([], 7) else if 60 < Ls.length then ([], 3) else (Ls.map strA, 0) := by
  have hm := may_join (fun L hL => (h L hL).1)
  have ha := mayL_ascii hm
  have hk : keepB (piecesB (strA (joinW Ls))) = Ls.map strA := by
    refine data_inj ?_
    rw [lines_acc, data_strA, acc_join Ls h, List.map_map]
    rfl
  unfold linesR
  rw [runes_len_ascii _ ha, may_ascii _ ha, data_strA, hm, hk, List.length_map, strA_size]
  simp

/-- A program's text. -/
def textW (l : List InstrD) : List Nat := joinW (l.map rW)
theorem decF_all (l : List InstrD) : ∀ (i : Nat) (acc : List InstrD), (∀ x ∈ l, lineR (rW x) = (x, true)) → decF i acc (l.map rW) = (acc ++ l, 0, 0) := by
  induction l with
  | nil => intro i acc _; simp [decF]
  | cons x r ih =>
    intro i acc h
    have hx := h x (List.mem_cons_self ..)
    simp only [List.map_cons, decF, hx]
    rw [if_pos trivial, ih _ _ (fun y hy => h y (List.mem_cons_of_mem _ hy)), List.append_assoc]
    rfl
theorem lineR_of {L : List Nat} {x : InstrD} (hL : LineOK L) (h : oneR L = some x) : lineR L = (x, true) := by
  have h2 := line_one L hL
  rw [h] at h2
  unfold lineV at h2
  split at h2
  · rename_i ht
    rw [← ht, ← Option.some.inj h2]
  · cases h2
theorem rW_le (l : List InstrD) : ∀ x ∈ l, (rW x).length ≤ (textW l).length := by
  intro x hx
  unfold textW joinW
  induction l with
  | nil => simp at hx
  | cons y r ih =>
    rw [List.map_cons, List.flatMap_cons, List.length_append, List.length_append]
    rcases List.mem_cons.1 hx with rfl | hx
    · omega
    · have := ih hx
      omega
/-- A text that was written is decoded as it was, where it is not too long. -/
theorem decode_text (l : List InstrD) (h : ∀ x ∈ l, rshaped x = true) :
    decodeR (strA (textW l)) = if 2000 < (textW l).length then ([], 0, 3) else if l.length = 0 then ([], 0, 7) else if 60 < l.length then ([], 0, 3) else (l, 0, 0) := by
  have hl := lines_join (l.map rW) (fun L hL => by obtain ⟨x, _, rfl⟩ := List.mem_map.1 hL; exact signs_rW x)
  rw [List.length_map] at hl
  unfold decodeR
  show (if (linesR (strA (joinW (l.map rW)))).2 ≠ 0 then ([], 0, (linesR (strA (joinW (l.map rW)))).2) else decF 0 [] ((linesR (strA (joinW (l.map rW)))).1.map bytesN)) = _
  rw [hl]
  show _ = if 2000 < (joinW (l.map rW)).length then ([], 0, 3) else _
  by_cases h1 : 2000 < (joinW (l.map rW)).length
  · rw [if_pos h1, if_pos h1]; rfl
  · rw [if_neg h1, if_neg h1]
    by_cases h2 : l.length = 0
    · rw [if_pos h2, if_pos h2]; rfl
    · rw [if_neg h2, if_neg h2]
      by_cases h3 : 60 < l.length
      · rw [if_pos h3, if_pos h3]; rfl
      · rw [if_neg h3, if_neg h3, if_neg (by simp)]
        have hb : ((l.map rW).map strA).map bytesN = l.map rW := by
          rw [List.map_map, List.map_map]
          refine List.map_congr_left fun x _ => ?_
          exact bytesN_strA (signs_rW x).1
        show decF 0 [] (((l.map rW).map strA).map bytesN) = _
        rw [hb, decF_all l 0 [] (fun x hx => lineR_of ⟨List.length_pos_iff.2 (signs_rW x).2, by have := rW_le l x hx; unfold textW at this; omega, (signs_rW x).1⟩ (back_one (h x hx))), List.nil_append]
theorem lineR_shaped {L : List Nat} (hL : LineOK L) (h : (lineR L).2 = true) : rshaped (lineR L).1 = true := by
  have h2 := line_one L hL
  unfold lineV at h2
  rw [if_pos h] at h2
  exact one_shaped h2.symm
theorem decF_shaped : ∀ (Ls : List (List Nat)) (i : Nat) (acc : List InstrD), (∀ L ∈ Ls, LineOK L) → (∀ x ∈ acc, rshaped x = true) → (decF i acc Ls).2.2 = 0 → (∀ x ∈ (decF i acc Ls).1, rshaped x = true) ∧ (decF i acc Ls).1.length = acc.length + Ls.length
  | [], i, acc, _, ha, _ => ⟨ha, by simp [decF]⟩
  | L :: r, i, acc, hL, ha, h => by
    unfold decF at h ⊢
    split
    · rename_i ht
      rw [if_pos ht] at h
      have := decF_shaped r (i + 1) (acc ++ [(lineR L).1]) (fun M hM => hL M (List.mem_cons_of_mem _ hM)) (fun x hx => by
        rcases List.mem_append.1 hx with hx | hx
        · exact ha x hx
        · rw [List.mem_singleton] at hx
          subst hx
          exact lineR_shaped (hL L (List.mem_cons_self ..)) ht) h
      refine ⟨this.1, ?_⟩
      rw [this.2]
      simp
      omega
    · rename_i ht
      rw [if_neg ht] at h
      exact absurd h (show ¬ (5 : Int) = 0 by decide)
/-- What is decoded may be, and is not too long. -/
theorem decode_shaped {s : ByteArray} (h : (decodeR s).2.2 = 0) : (∀ x ∈ (decodeR s).1, rshaped x = true) ∧ (decodeR s).1.length ≤ 60 ∧ 1 ≤ (decodeR s).1.length ∧ (runesF s 0).length ≤ 2000 := by
  obtain ⟨hok, h60⟩ := lines_ok s
  have h0 : (linesR s).2 = 0 := by
    by_cases he : (linesR s).2 = 0
    · exact he
    · unfold decodeR at h
      rw [if_pos he] at h
      exact absurd h he
  have hl : (runesF s 0).length ≤ 2000 ∧ 1 ≤ (linesR s).1.length := by
    unfold linesR at h0 ⊢
    split at h0
    · simp at h0
    · split at h0
      · simp at h0
      · split at h0
        · simp at h0
        · split at h0
          · simp at h0
          · rename_i a b c d
            rw [if_neg a, if_neg b, if_neg c, if_neg d]
            exact ⟨by omega, by show 1 ≤ (keepB (piecesB s)).length; omega⟩
  unfold decodeR at h ⊢
  rw [if_neg (by simpa using h0)] at h ⊢
  have := decF_shaped ((linesR s).1.map bytesN) 0 [] (fun L hL => by obtain ⟨x, hx, rfl⟩ := List.mem_map.1 hL; exact hok x hx) (by simp) h
  refine ⟨this.1, ?_, ?_, hl.1⟩
  · rw [this.2]; simp; exact h60
  · rw [this.2]; simp; omega
/-- Of a failure there are no instructions. -/
theorem decF_fail : ∀ (Ls : List (List Nat)) (i : Nat) (acc : List InstrD), (decF i acc Ls).2.2 ≠ 0 → (decF i acc Ls).1 = []
  | [], i, acc, h => absurd rfl h
  | L :: r, i, acc, h => by
    unfold decF at h ⊢
    split
    · rename_i ht
      rw [if_pos ht] at h
      exact decF_fail r _ _ h
    · rfl
theorem decode_fail {s : ByteArray} (h : (decodeR s).2.2 ≠ 0) : (decodeR s).1 = [] := by
  unfold decodeR at h ⊢
  split
  · rfl
  · rename_i he
    rw [if_neg he] at h
    exact decF_fail _ _ _ h
theorem decF_place : ∀ (Ls : List (List Nat)) (i : Nat) (acc : List InstrD), (decF i acc Ls).2.2 = 0 → (decF i acc Ls).2.1 = 0
  | [], i, acc, h => rfl
  | L :: r, i, acc, h => by
    unfold decF at h ⊢
    split
    · rename_i ht
      rw [if_pos ht] at h
      exact decF_place r _ _ h
    · rename_i ht
      rw [if_neg ht] at h
      exact absurd h (show ¬ (5 : Int) = 0 by decide)
theorem decode_place {s : ByteArray} (h : (decodeR s).2.2 = 0) : (decodeR s).2.1 = 0 := by
  unfold decodeR at h ⊢
  split
  · rfl
  · rename_i he
    rw [if_neg he] at h
    exact decF_place _ _ _ h
end Go.Proofs.YtoflhfiegfhkoaaDoor
