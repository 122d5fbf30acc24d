/-
  Any text of signs is decoded line by line, in plain words.
-/
import Derived.Test.YtoflhfiegfhkoaaDoorKCShort
namespace Go.Proofs.YtoflhfiegfhkoaaDoor
open Go
set_option linter.unusedVariables false
set_option linter.unusedSimpArgs false

/-- The lines of a text, behind the signs that there are. -/
def linesN : List Nat → List Nat → List (List Nat)
  | [], cur => if cur = [] then [] else [cur]
  | c :: r, cur => if c = 10 then (if cur = [] then linesN r [] else cur :: linesN r []) else if c = 32 then linesN r cur else linesN r (cur ++ [c])
/-- The instructions of lines, or which is none. -/
def decO : Nat → List InstrD → List (List Nat) → List InstrD × Int × Int
  | _, acc, [] => (acc, 0, 0)
  | i, acc, L :: r => match oneR L with
    | some x => decO (i + 1) (acc ++ [x]) r
    | none => ([], (i : Int) + 1, 5)
def signsT (T : List Nat) : Prop := ∀ c ∈ T, c = 10 ∨ 32 ≤ c ∧ c ≤ 126
theorem linesN_signs : ∀ (L cur rest : List Nat), signs L → linesN (L ++ rest) cur = linesN rest (cur ++ L)
  | [], cur, rest, _ => by simp
  | c :: L, cur, rest, h => by
    have hc := h c (List.mem_cons_self ..)
    rw [List.cons_append]
    simp only [linesN]
    rw [if_neg (by omega), if_neg (by omega), linesN_signs L (cur ++ [c]) rest (fun x hx => h x (List.mem_cons_of_mem _ hx)), List.append_assoc]
    rfl
theorem accB_linesN : ∀ (T cur : List Nat), signsT T → (accB (T.map UInt8.ofNat) (cur.map UInt8.ofNat)) = (linesN T cur).map (List.map UInt8.ofNat)
  | [], cur, _ => by
    simp only [List.map_nil, accB, linesN]
    cases cur <;> simp
  | c :: r, cur, h => by
    have hc := h c (List.mem_cons_self ..)
    have hr : signsT r := fun x hx => h x (List.mem_cons_of_mem _ hx)
    have e : (UInt8.ofNat c).toNat = c := by simp; omega
    simp only [List.map_cons, accB, linesN]
    by_cases h10 : c = 10
    · subst h10
      rw [if_pos (by rfl), if_pos rfl]
      have ih := accB_linesN r [] hr
      cases cur with
      | nil => simpa using ih
      | cons d cur =>
        simp only [List.map_cons, List.isEmpty_cons, Bool.false_eq_true, if_false]
        rw [if_neg (by simp), List.map_cons]
        exact congrArg _ ih
    · rw [if_neg (fun e2 => h10 (by rw [e2] at e; simp at e; omega)), if_neg h10]
      by_cases h32 : c = 32
      · subst h32
        rw [if_pos (by rfl), if_pos rfl]
        exact accB_linesN r cur hr
      · rw [if_neg (fun e2 => h32 (by rw [e2] at e; simp at e; omega)), if_neg h32]
        have ih := accB_linesN r (cur ++ [c]) hr
        rw [List.map_append] at ih
        exact ih
theorem linesN_line : ∀ (T cur : List Nat), signsT T → signs cur → ∀ L ∈ linesN T cur, signs L ∧ L ≠ [] ∧ L.length ≤ T.length + cur.length
  | [], cur, _, hc, L, hL => by
    unfold linesN at hL
    split at hL
    · simp at hL
    · rename_i hne
      rw [List.mem_singleton] at hL
      subst hL
      exact ⟨hc, hne, by simp⟩
  | c :: r, cur, h, hc, L, hL => by
    have h0 := h c (List.mem_cons_self ..)
    have hr : signsT r := fun x hx => h x (List.mem_cons_of_mem _ hx)
    unfold linesN at hL
    split at hL
    · split at hL
      · have := linesN_line r [] hr (by simp [signs]) L hL
        exact ⟨this.1, this.2.1, by have := this.2.2; simp at this ⊢; omega⟩
      · rename_i hne
        rcases List.mem_cons.1 hL with rfl | hL
        · exact ⟨hc, hne, by simp⟩
        · have := linesN_line r [] hr (by simp [signs]) L hL
          exact ⟨this.1, this.2.1, by have := this.2.2; simp at this ⊢; omega⟩
    · split at hL
      · have := linesN_line r cur hr hc L hL
        exact ⟨this.1, this.2.1, by have := this.2.2; simp at this ⊢; omega⟩
      · have := linesN_line r (cur ++ [c]) hr (signs_app hc (fun x hx => by rw [List.mem_singleton] at hx; subst hx; omega)) L hL
        exact ⟨this.1, this.2.1, by have := this.2.2; simp at this ⊢; omega⟩
theorem may_signsT {T : List Nat} (h : signsT T) : mayL (T.map UInt8.ofNat) = true := by
  unfold mayL
  rw [List.all_eq_true]
  intro b hb
  obtain ⟨c, hc, rfl⟩ := List.mem_map.1 hb
  have := h c hc
  have e : (UInt8.ofNat c).toNat = c := by simp; omega
  unfold mayR
  rw [e]
  simp
  omega
theorem decF_decO : ∀ (Ls : List (List Nat)) (i : Nat) (acc : List InstrD), (∀ L ∈ Ls, LineOK L) → decF i acc Ls = decO i acc Ls
  | [], _, _, _ => rfl
  | L :: r, i, acc, h => by
    have hL := h L (List.mem_cons_self ..)
    have h1 := line_one L hL
    simp only [decF, decO]
    unfold lineV at h1
    by_cases hl : (lineR L).2 = true
    · rw [if_pos hl] at h1 ⊢
      rw [← h1]
      exact decF_decO r _ _ fun M hM => h M (List.mem_cons_of_mem _ hM)
    · rw [if_neg hl] at h1 ⊢
      rw [← h1]
/-- A text of signs, of few lines, is decoded line by line. -/
theorem decode_lines {T : List Nat} (h : signsT T) (hl : T.length ≤ 2000) (h1 : 0 < (linesN T []).length) (h60 : (linesN T []).length ≤ 60) : decodeR (strA T) = decO 0 [] (linesN T []) := by
  have hm := may_signsT h
  have ha := mayL_ascii hm
  have hline := linesN_line T [] h (by simp [signs])
  have hk : keepB (piecesB (strA T)) = (linesN T []).map strA := by
    refine data_inj ?_
    rw [lines_acc, data_strA]
    have := accB_linesN T [] h
    rw [List.map_nil] at this
    rw [this, List.map_map]
    rfl
  have hL : linesR (strA T) = ((linesN T []).map strA, 0) := by
    unfold linesR
    rw [runes_len_ascii _ ha, may_ascii _ ha, data_strA, hm, hk, List.length_map, strA_size, if_neg (by omega), if_neg (by simp), if_neg (by omega), if_neg (by omega)]
  unfold decodeR
  rw [hL, if_neg (by simp)]
  have hb : ((linesN T []).map strA).map bytesN = linesN T [] := by
    rw [List.map_map]
    conv => rhs; rw [← List.map_id (linesN T [])]
    exact List.map_congr_left fun L hL => bytesN_strA (hline L hL).1
  show decF 0 [] (((linesN T []).map strA).map bytesN) = _
  rw [hb]
  exact decF_decO _ _ _ fun L hL => ⟨List.length_pos_iff.2 (hline L hL).2.1, by have := (hline L hL).2.2; simp at this; omega, (hline L hL).1⟩
theorem linesN_last {L cur : List Nat} (h : signs L) (hne : cur ++ L ≠ []) : linesN L cur = [cur ++ L] := by
  have := linesN_signs L cur [] h
  rw [List.append_nil] at this
  rw [this]
  unfold linesN
  rw [if_neg hne]
theorem linesN_line1 {L : List Nat} (rest : List Nat) (h : signs L) (hne : L ≠ []) : linesN (L ++ 10 :: rest) [] = L :: linesN rest [] := by
  rw [linesN_signs L [] _ h]
  show linesN (10 :: rest) ([] ++ L) = _
  rw [List.nil_append]
  simp only [linesN]
  rw [if_pos trivial, if_neg hne]
theorem signsT_app {A B : List Nat} (h : signsT A) (k : signsT B) : signsT (A ++ B) := fun c hc => by
  rcases List.mem_append.1 hc with hc | hc
  · exact h c hc
  · exact k c hc
theorem signs_T {A : List Nat} (h : signs A) : signsT A := fun c hc => .inr (by have := h c hc; omega)
/-- The line of a form, one sign more. -/
theorem one_more {x : InstrD} (h21 : x.op ≠ 21) (h : rshaped x = true) : oneR (rW x ++ [63]) = none := by
  unfold rshaped at h
  rw [if_neg h21] at h
  obtain ⟨f, hf, hop, hs, hW⟩ := rshF_some x rforms h
  unfold rW
  rw [if_neg h21, hW, List.cons_append, one_letter f hf]
  rw [rsh_iff] at hs
  obtain ⟨⟨ha, hb, hn, hc⟩, g1, g2, g3, g4⟩ := hs
  obtain ⟨m, hm⟩ : ∃ m : Nat, x.n = (m : Int) := ⟨x.n.toNat, by omega⟩
  have hmt : x.n.toNat = m := by omega
  have hm4 : m < 10000 := by omega
  obtain ⟨xo, xa, xb, xn, xc⟩ := x
  dsimp only at ha hb hn hc hop g1 g2 g3 g4 hm hmt
  subst hm hc
  have hN : ∀ a b n : Int, simpF [78] (decN m ++ [63]) a b n = some (a, b, (m : Int), [63]) := by
    intro a b n
    have hr := rest_dec m [63] (by decide)
    have ht := take_dec m [63]
    have hd := drop_dec m [63]
    rw [simp_N, hr, ht, num_dec hm4, if_pos rfl, hd]
    rfl
  rcases rforms_args f hf with e | e | e | e | e | e <;> rw [e] at g1 g2 g3 g4 ⊢ <;> simp at g1 g2 g3 g4
  · have : [97, 78].flatMap (argW ⟨xo, xa, xb, (m : Int), []⟩) ++ [63] = letterN xa :: (decN m ++ [63]) := by simp [argW]
    rw [this, simpV_some (a := xa) (b := 0) (n := m) (M := [63]) (by rw [go_a ha]; exact hN _ _ _)]
    rfl
  · have : [97, 98].flatMap (argW ⟨xo, xa, xb, (m : Int), []⟩) ++ [63] = letterN xa :: letterN xb :: [63] := by simp [argW]
    rw [this, simpV_some (a := xa) (b := xb) (n := 0) (M := [63]) (by rw [go_a ha, go_b hb]; rfl)]
    rfl
  · have : [97].flatMap (argW ⟨xo, xa, xb, (m : Int), []⟩) ++ [63] = letterN xa :: [63] := by simp [argW]
    rw [this, simpV_some (a := xa) (b := 0) (n := 0) (M := [63]) (by rw [go_a ha]; rfl)]
    rfl
  · have : [78].flatMap (argW ⟨xo, xa, xb, (m : Int), []⟩) ++ [63] = decN m ++ [63] := by simp [argW]
    rw [this, simpV_some (a := 0) (b := 0) (n := m) (M := [63]) (hN _ _ _)]
    rfl
  · have hm10 : m < 10 := by omega
    have : [110, 97].flatMap (argW ⟨xo, xa, xb, (m : Int), []⟩) ++ [63] = decN m ++ (letterN xa :: [63]) := by simp [argW]
    rw [this, simpV_some (a := xa) (b := 0) (n := m) (M := [63]) (by rw [go_n hm10, go_a ha]; rfl)]
    rfl
  · rfl
/-- The line of a form, one sign less: none, but where a number of more digits is cut. -/
theorem one_less {x : InstrD} (h21 : x.op ≠ 21) (h : rshaped x = true) (hl : (rW x).length ≠ 1) (hn : x.n ≤ 9) : oneR (rW x).dropLast = none := by
  unfold rshaped at h
  rw [if_neg h21] at h
  obtain ⟨f, hf, hop, hs, hW⟩ := rshF_some x rforms h
  unfold rW at hl ⊢
  rw [if_neg h21, hW] at hl ⊢
  rw [rsh_iff] at hs
  obtain ⟨⟨ha, hb, hn0, hc⟩, g1, g2, g3, g4⟩ := hs
  obtain ⟨m, hm⟩ : ∃ m : Nat, x.n = (m : Int) := ⟨x.n.toNat, by omega⟩
  have hmt : x.n.toNat = m := by omega
  have hm10 : m < 10 := by omega
  obtain ⟨xo, xa, xb, xn, xc⟩ := x
  dsimp only at ha hb hn hn0 hc hop g1 g2 g3 g4 hm hmt
  subst hm hc
  have hd := dec_one hm10
  rcases rforms_args f hf with e | e | e | e | e | e <;> rw [e] at hl g1 g2 g3 g4 ⊢ <;> simp at g1 g2 g3 g4
  · have : (f.letter :: [97, 78].flatMap (argW ⟨xo, xa, xb, (m : Int), []⟩)).dropLast = f.letter :: [letterN xa] := by simp [argW, hd]
    rw [this, one_letter f hf, e, simpV_none]
    rw [go_a ha]
    rw [simp_N, if_neg (by decide +kernel)]
  · have : (f.letter :: [97, 98].flatMap (argW ⟨xo, xa, xb, (m : Int), []⟩)).dropLast = f.letter :: [letterN xa] := by simp [argW]
    rw [this, one_letter f hf, e, simpV_none]
    rw [go_a ha, simp_nil 98 (by decide)]
  · have : (f.letter :: [97].flatMap (argW ⟨xo, xa, xb, (m : Int), []⟩)).dropLast = f.letter :: [] := by simp [argW]
    rw [this, one_letter f hf, e, simpV_none (simp_nil 97 (by decide) _ _ _ _)]
  · have : (f.letter :: [78].flatMap (argW ⟨xo, xa, xb, (m : Int), []⟩)).dropLast = f.letter :: [] := by simp [argW, hd]
    rw [this, one_letter f hf, e, simpV_none]
    rw [simp_N, if_neg (by decide +kernel)]
  · have : (f.letter :: [110, 97].flatMap (argW ⟨xo, xa, xb, (m : Int), []⟩)).dropLast = f.letter :: (decN m ++ []) := by simp [argW, hd]
    rw [this, one_letter f hf, e, simpV_none]
    rw [go_n hm10, simp_nil 97 (by decide)]
  · simp at hl
end Go.Proofs.YtoflhfiegfhkoaaDoor
