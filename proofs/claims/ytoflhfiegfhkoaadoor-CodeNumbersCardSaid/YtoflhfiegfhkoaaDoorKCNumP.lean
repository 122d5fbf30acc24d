/-
  Lines that end in a number: with noughts ahead, with too many, with none, and with a letter behind; in plain words.
-/
import Derived.Test.YtoflhfiegfhkoaaDoorKCLn
namespace Go.Proofs.YtoflhfiegfhkoaaDoor
open Go
set_option linter.unusedVariables false
set_option linter.unusedSimpArgs false

def nPre : List (List Nat) := [[61, 97], [109, 97], [103], [106], [122, 97], [116, 97], [102, 97], [83, 115, 97, 98], [83, 101]]
def digsOnly (D : List Nat) : Prop := ∀ c ∈ D, isDig c = true
theorem rest_T {D T : List Nat} (hD : digsOnly D) (hT : T = [] ∨ T = [97]) : restN (D ++ T) = D.length := by
  unfold restN
  rw [takeWhile_all _ _ hD, List.length_append]
  rcases hT with rfl | rfl <;> rfl
theorem num_simp {D T : List Nat} (hD : digsOnly D) (hT : T = [] ∨ T = [97]) (op a b n : Int) :
    simpF [78] (D ++ T) a b n = if (numR (strA D)).2 = true then some (a, b, (numR (strA D)).1, T) else none := by
  rw [simp_N, rest_T hD hT, List.take_left, List.drop_left]
  rfl
def numLine (x : Int → InstrD) (P : List Nat) : Prop := ∀ D T, digsOnly D → (T = [] ∨ T = [97]) → oneR (P ++ (D ++ T)) = if (numR (strA D)).2 = true ∧ T = [] then some (x (numR (strA D)).1) else none
theorem line_aN {f : RForm} (hf : f ∈ rforms) (e : f.args = [97, 78]) : numLine (fun v => ⟨f.op, 0, 0, v, []⟩) [f.letter, 97] := by
  intro D T hD hT
  show oneR (f.letter :: (97 :: (D ++ T))) = _
  have ha : simpF [97, 78] (97 :: (D ++ T)) 0 0 0 = simpF [78] (D ++ T) 0 0 0 := by rw [simp_a]; rfl
  rw [one_letter f hf, e]
  by_cases hn : (numR (strA D)).2 = true
  · rw [simpV_some (a := 0) (b := 0) (n := (numR (strA D)).1) (M := T) (by rw [ha, num_simp hD hT 0, if_pos hn])]
    rcases hT with rfl | rfl
    · rw [if_pos (show ([] : List Nat).isEmpty = true from rfl), if_pos ⟨hn, rfl⟩]
    · rw [if_neg (by simp), if_neg (by simp)]
  · rw [simpV_none (by rw [ha, num_simp hD hT 0, if_neg hn]), if_neg (fun h => hn h.1)]
theorem line_N {f : RForm} (hf : f ∈ rforms) (e : f.args = [78]) : numLine (fun v => ⟨f.op, 0, 0, v, []⟩) [f.letter] := by
  intro D T hD hT
  show oneR (f.letter :: (D ++ T)) = _
  rw [one_letter f hf, e]
  by_cases hn : (numR (strA D)).2 = true
  · rw [simpV_some (a := 0) (b := 0) (n := (numR (strA D)).1) (M := T) (by rw [num_simp hD hT 0, if_pos hn])]
    rcases hT with rfl | rfl
    · rw [if_pos (show ([] : List Nat).isEmpty = true from rfl), if_pos ⟨hn, rfl⟩]
    · rw [if_neg (by simp), if_neg (by simp)]
  · rw [simpV_none (by rw [num_simp hD hT 0, if_neg hn]), if_neg (fun h => hn h.1)]
theorem tail_num {D T : List Nat} (hD : digsOnly D) (hT : T = [] ∨ T = [97]) (kd ch rg : Int) :
    rtail kd ch rg (D ++ T) = if (numR (strA D)).2 = false then none else if kd = 3 ∧ ¬ T.length = 0 then none else some (⟨kd, ch, rg, (numR (strA D)).1⟩, T) := by
  unfold rtail
  rw [rest_T hD hT, List.take_left, List.drop_left]
theorem rch_end {k : Nat} (c : CaseD) : rchF (k + 1) [] [c] = some [c] := by unfold rchF; rfl
theorem rch_a {k : Nat} (c : CaseD) : rchF (k + 1) [97] [c] = none := by
  have h : rhead [97] = none := by decide
  unfold rchF
  rw [if_neg (by simp), h]
theorem line_case {P : List Nat} {kd ch rg : Int} (hh : ∀ M, rhead (P ++ M) = some (kd, ch, rg, M)) (hP : 0 < P.length) : numLine (fun v => ⟨21, 0, 0, 0, [⟨kd, ch, rg, v⟩]⟩) (83 :: P) := by
  intro D T hD hT
  show oneR (83 :: (P ++ (D ++ T))) = _
  unfold oneR
  rw [if_pos (show chr (83 :: (P ++ (D ++ T))) 0 = 83 from rfl)]
  show rchoiceR (P ++ (D ++ T)) = _
  unfold rchoiceR
  obtain ⟨k, hk⟩ : ∃ k, (P ++ (D ++ T)).length = k + 1 := ⟨(P ++ (D ++ T)).length - 1, by rw [List.length_append]; omega⟩
  rw [hk]
  show (rchF (k + 1 + 1) (P ++ (D ++ T)) []).map _ = _
  unfold rchF
  rw [if_neg (by omega), hh]
  dsimp only
  rw [tail_num hD hT]
  by_cases hn : (numR (strA D)).2 = true
  · rw [if_neg (by rw [hn]; simp)]
    rcases hT with rfl | rfl
    · rw [if_neg (by simp), if_pos ⟨hn, rfl⟩]
      dsimp only
      rw [List.nil_append, rch_end]
      rfl
    · rw [if_neg (show ¬ ((numR (strA D)).2 = true ∧ ([97] : List Nat) = []) by simp)]
      by_cases h3 : kd = 3 ∧ ¬ ([97] : List Nat).length = 0
      · rw [if_pos h3]; rfl
      · rw [if_neg h3]
        dsimp only
        rw [List.nil_append, rch_a]
        rfl
  · have hn0 : (numR (strA D)).2 = false := by simpa using hn
    rw [if_pos hn0, if_neg (fun h => hn h.1)]
    rfl
theorem head_s (M : List Nat) : rhead ([115, 97, 98] ++ M) = some (1, 0, 1, M) := by
  unfold rhead
  have h : ¬ ((regR (chr ([115, 97, 98] ++ M) 1)).2 = false ∨ (regR (chr ([115, 97, 98] ++ M) 2)).2 = false) := show ¬ ((regR ((97 : Nat) : Int)).2 = false ∨ (regR ((98 : Nat) : Int)).2 = false) by decide
  rw [if_pos (.inl rfl), if_neg (by simp), if_neg h]
  rfl
theorem head_e (M : List Nat) : rhead ([101] ++ M) = some (3, 0, 0, M) := rfl
/-- Each of them is a line with a number. -/
theorem pre_line : ∀ P ∈ nPre, ∃ x, numLine x P := by
  intro P hP
  unfold nPre at hP
  simp only [List.mem_cons, List.not_mem_nil, or_false] at hP
  rcases hP with rfl | rfl | rfl | rfl | rfl | rfl | rfl | rfl | rfl
  · exact ⟨_, line_aN (f := ⟨1, 61, [97, 78]⟩) (by simp [rforms]) rfl⟩
  · exact ⟨_, line_aN (f := ⟨4, 109, [97, 78]⟩) (by simp [rforms]) rfl⟩
  · exact ⟨_, line_N (f := ⟨10, 103, [78]⟩) (by simp [rforms]) rfl⟩
  · exact ⟨_, line_N (f := ⟨11, 106, [78]⟩) (by simp [rforms]) rfl⟩
  · exact ⟨_, line_aN (f := ⟨12, 122, [97, 78]⟩) (by simp [rforms]) rfl⟩
  · exact ⟨_, line_aN (f := ⟨14, 116, [97, 78]⟩) (by simp [rforms]) rfl⟩
  · exact ⟨_, line_aN (f := ⟨20, 102, [97, 78]⟩) (by simp [rforms]) rfl⟩
  · exact ⟨_, line_case head_s (by simp)⟩
  · exact ⟨_, line_case head_e (by simp)⟩
theorem nPre_signs : ∀ P ∈ nPre, (∀ c ∈ P, 33 ≤ c ∧ c ≤ 126) ∧ P ≠ [] ∧ P.length ≤ 4 := by decide
theorem decN_only (n : Nat) : digsOnly (decN n) := fun c hc => (decN_dig n c hc).1
theorem zeros_only (k : Nat) : digsOnly (List.replicate k 48) := fun c hc => by rw [(List.mem_replicate.1 hc).2]; rfl
theorem only_app {A B : List Nat} (h : digsOnly A) (k : digsOnly B) : digsOnly (A ++ B) := fun c hc => by
  rcases List.mem_append.1 hc with hc | hc
  · exact h c hc
  · exact k c hc
theorem only_signs {D : List Nat} (h : digsOnly D) : signs D := fun c hc => by
  have := h c hc
  unfold isDig at this
  simp at this
  omega
/-- The text of one such line. -/
theorem num_decode {P : List Nat} (hP : P ∈ nPre) {x : Int → InstrD} (hx : numLine x P) {D T : List Nat} (hD : digsOnly D) (hT : T = [] ∨ T = [97]) (hl : D.length ≤ 100) :
    decodeR (strA (P ++ (D ++ T))) = if (numR (strA D)).2 = true ∧ T = [] then ([x (numR (strA D)).1], 0, 0) else ([], 1, 5) := by
  obtain ⟨h1, h2, h3⟩ := nPre_signs P hP
  have hTs : signs T := by
    rcases hT with rfl | rfl
    · intro c hc; simp at hc
    · intro c hc; simp at hc; omega
  have hTl : T.length ≤ 1 := by rcases hT with rfl | rfl <;> simp
  have hs : signs (P ++ (D ++ T)) := signs_app h1 (signs_app (only_signs hD) hTs)
  have hL : linesN (P ++ (D ++ T)) [] = [P ++ (D ++ T)] := by rw [linesN_last hs (by simp [h2]), List.nil_append]
  rw [decode_lines (signs_T hs) (by simp; omega) (by rw [hL]; simp) (by rw [hL]; simp), hL]
  simp only [decO, hx D T hD hT]
  by_cases h : (numR (strA D)).2 = true ∧ T = []
  · rw [if_pos h, if_pos h]; rfl
  · rw [if_neg h, if_neg h]; rfl
theorem pad_num {n : Nat} (h : n < 10000) : numR (strA (List.replicate (4 - (decN n).length) 48 ++ decN n)) = ((n : Int), true) := by
  have hl := decN_len4 n h
  have hl1 := decN_len n
  obtain ⟨z, hz⟩ : ∃ z, 4 - (decN n).length = z := ⟨_, rfl⟩
  rw [hz]
  have e1 : List.replicate z 48 ++ decN n = (List.replicate z 0 ++ digs n).map (48 + ·) := by
    unfold decN
    rw [List.map_append, List.map_replicate]
  have e2 : strA (List.replicate z 48 ++ decN n) = strD (List.replicate z 0 ++ digs n) := by
    rw [e1]
    unfold strA strD
    rw [List.map_map]
    rfl
  have hdl : (digs n).length = (decN n).length := by unfold decN; rw [List.length_map]
  rw [e2, numR_digs _ (fun d hd => by
    rcases List.mem_append.1 hd with hd | hd
    · rw [(List.mem_replicate.1 hd).2]; omega
    · exact digs_lt n d hd) (by simp; omega) (by simp; omega)]
  have e3 : fold10 (List.replicate z 0 ++ digs n) = fold10 (digs n) := by
    clear hz e1 e2
    induction z with
    | zero => rfl
    | succ z ih =>
      rw [List.replicate_succ, List.cons_append, ← ih]
      rfl
  rw [e3, fold10_digs]
theorem cut_zeros (l : Nat) (h : l ≤ 4) : ({ data := #[48, 48, 48, 48] } : ByteArray).extract 0 (4 - l) = strA (List.replicate (4 - l) 48) := by
  have h5 : l = 0 ∨ l = 1 ∨ l = 2 ∨ l = 3 ∨ l = 4 := by omega
  rcases h5 with rfl | rfl | rfl | rfl | rfl <;> decide +kernel
end Go.Proofs.YtoflhfiegfhkoaaDoor
