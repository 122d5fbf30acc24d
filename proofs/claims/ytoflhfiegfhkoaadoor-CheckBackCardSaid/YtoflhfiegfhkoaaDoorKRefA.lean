/-
  The walks over the reference's rest, Reg and forms.
-/
import Derived.Test.YtoflhfiegfhkoaaDoorKDec
import Derived.Test.YtoflhfiegfhkoaaDoorXRef
namespace Go.Proofs.YtoflhfiegfhkoaaDoor
open Go.RowKit Go.Proofs.YtoflhfiegfhkoaaDoorW.PrintWords
set_option linter.unusedVariables false

def restN (L : List Nat) : Nat := (L.takeWhile isDig).length
theorem restN_le (L : List Nat) : restN L ≤ L.length := by
  unfold restN
  have h := List.takeWhile_prefix (l := L) isDig
  exact h.length_le
theorem restN_step {L : List Nat} {k : Nat} (h : k < L.length) (hd : isDig (chr L k) = true) : restN (L.drop k) = restN (L.drop (k + 1)) + 1 := by
  rw [List.drop_eq_getElem_cons h]
  have : chr L k = L[k] := by unfold chr; rw [List.getD_eq_getElem?_getD, List.getElem?_eq_getElem h]; rfl
  rw [this] at hd
  unfold restN
  rw [List.takeWhile_cons, if_pos hd]
  simp
theorem restN_stop {L : List Nat} {k : Nat} (h : k < L.length) (hd : isDig (chr L k) = false) : restN (L.drop k) = 0 := by
  rw [List.drop_eq_getElem_cons h]
  have : chr L k = L[k] := by unfold chr; rw [List.getD_eq_getElem?_getD, List.getElem?_eq_getElem h]; rfl
  rw [this] at hd
  unfold restN
  rw [List.takeWhile_cons, if_neg (by rw [hd]; simp)]
  rfl
theorem Tryd.idx_strA (L : List Nat) (k : Nat) (h : k < L.length) (ha : ∀ x ∈ L, x < 128) (w : World) :
    (Instr.index 9 (.string (strA L)) (.int .i64 k)).run Tryd.prog w = .ok (.int .u8 (chr L k : Int)) w := by
  have hs : k < (strA L).size := by rw [strA_size]; exact h
  rw [Tryd.idx_str (strA L) k hs w, strA_get L k hs ha]

set_option maxRecDepth 100000 in
set_option maxHeartbeats 800000 in
theorem rest_any (L : List Nat) (w : World) (ha : ∀ x ∈ L, x < 128) (hL : L.length ≤ 1000000) :
    Calls Tryd.prog 83 #[.string (strA L)] w fun e w' => e = .returned (.int .i64 (restN L)) ∧ w' = w := by
  have hsz := strA_size L
  have HA := hidP ha
  obtain ⟨E, hE⟩ : ∃ E, restN L = E := ⟨_, rfl⟩
  rw [hE]
  have HE := hidP hE
  obtain ⟨N, hN⟩ : ∃ N, L.length = N := ⟨_, rfl⟩
  rw [hN] at hsz hL
  have HN := hidP hN
  clear ha hE hN
  go_enter Tryd.func83, Tryd.ntmps83
  go_wp2
  go_loop [3] (fun v3 => ∃ k : Nat, v3 = .int .i64 k ∧ k ≤ N ∧ Hid (k + restN (L.drop k) = E)) (fun v3 => N - (intOf v3).toNat)
  case atStart => exact ⟨0, rfl, by omega, by show 0 + _ = _; rw [List.drop_zero, HE.out]; omega⟩
  case round =>
    obtain ⟨k, rfl, hk, HK⟩ := hrel
    by_cases hlt : k < N
    · have hix := fun w => Tryd.idx_strA L k (by rw [HN.out]; exact hlt) HA.out w
      by_cases hd : isDig (chr L k) = true
      · have HK2 : Hid (k + 1 + restN (L.drop (k + 1)) = E) := by
          have := HK.out
          rw [restN_step (by rw [HN.out]; exact hlt) hd] at this
          show _ = _
          omega
        simp [isDig] at hd
        obtain ⟨d1, d2⟩ := hd
        obtain ⟨C, hC⟩ : ∃ C, chr L k = C := ⟨_, rfl⟩
        rw [hC] at hix d1 d2
        have t1 : (k : Int) < (N : Int) := by omega
        have t3 : (48 : Int) ≤ (C : Int) := by omega
        have t4 : (C : Int) ≤ 57 := by omega
        clear hC
        go_wp2
        go_round
        case rel => exact ⟨k + 1, by go_num, by omega, HK2⟩
        case measure => simp [intOf]; omega
      · have hd0 : isDig (chr L k) = false := by simpa using hd
        have hE : E = k := by
          have := HK.out
          rw [restN_stop (by rw [HN.out]; exact hlt) hd0] at this
          omega
        have HEE := hidP hE
        simp [isDig] at hd0
        obtain ⟨C, hC⟩ : ∃ C, chr L k = C := ⟨_, rfl⟩
        rw [hC] at hix hd0
        have t1 : (k : Int) < (N : Int) := by omega
        have hcc : ¬ (48 : Int) ≤ (C : Int) ∨ (48 : Int) ≤ (C : Int) ∧ ¬ (C : Int) ≤ 57 := by
          by_cases h : 48 ≤ C
          · exact .inr ⟨by omega, by have := hd0 h; omega⟩
          · exact .inl (by omega)
        clear hC hd hd0 hE
        rcases hcc with t3 | ⟨t3, t4⟩
        · go_wp2
          go_ret
          exact ⟨by rw [HEE.out]; rfl, rfl⟩
        · go_wp2
          go_ret
          exact ⟨by rw [HEE.out]; rfl, rfl⟩
    · have hE : E = k := by
        have := HK.out
        rw [List.drop_eq_nil_of_le (by rw [HN.out]; omega)] at this
        simp [restN] at this
        omega
      have HEE := hidP hE
      have t1 : ¬ (k : Int) < (N : Int) := by omega
      clear hE
      go_wp2
      go_ret
      exact ⟨by rw [HEE.out]; rfl, rfl⟩

set_option maxRecDepth 100000 in
set_option maxHeartbeats 400000 in
theorem refReg_any (c : Int) (h0 : 0 ≤ c) (h1 : c ≤ 255) (w : World) :
    Calls Tryd.prog 82 #[.int .i64 c] w fun e w' => e = .returned (.tuple #[.int .i64 (regR c).1, .bool (regR c).2]) ∧ w' = w := by
  by_cases h : 97 ≤ c ∧ c ≤ 102
  · have hr : regR c = (c - 97, true) := by unfold regR; rw [if_pos h]
    obtain ⟨h2, h3⟩ := h
    have t1 : ¬ c < 97 := by omega
    have t2 : ¬ (103 : Int) ≤ c := by omega
    rw [hr]
    clear hr
    go_enter Tryd.func82, Tryd.ntmps82
    go_wp2
    go_ret2
    exact ⟨rfl, rfl⟩
  · have hr : regR c = (0, false) := by unfold regR; rw [if_neg h]
    rw [hr]
    have hc : c < 97 ∨ ¬ c < 97 ∧ (103 : Int) ≤ c := by omega
    clear hr h
    rcases hc with t1 | ⟨t1, t2⟩
    · go_enter Tryd.func82, Tryd.ntmps82
      go_wp2
      go_ret2
      exact ⟨rfl, rfl⟩
    · go_enter Tryd.func82, Tryd.ntmps82
      go_wp2
      go_ret2
      exact ⟨rfl, rfl⟩

/-- The reference's forms: an op, its letter, and what is behind it. -/
structure RForm where
  op : Nat
  letter : Nat
  args : List Nat
def rforms : List RForm := [⟨1, 61, [97, 78]⟩, ⟨2, 60, [97, 98]⟩, ⟨3, 43, [97, 98]⟩, ⟨4, 109, [97, 78]⟩, ⟨5, 115, [97, 98]⟩, ⟨6, 114, [97, 98]⟩, ⟨7, 99, [97]⟩, ⟨8, 108, [97, 98]⟩, ⟨9, 107, [97, 98]⟩, ⟨10, 103, [78]⟩, ⟨11, 106, [78]⟩, ⟨12, 122, [97, 78]⟩, ⟨13, 111, [97]⟩, ⟨14, 116, [97, 78]⟩, ⟨15, 98, [97, 98]⟩, ⟨16, 117, [97, 98]⟩, ⟨17, 119, [97, 98]⟩, ⟨18, 112, [110, 97]⟩, ⟨19, 113, [97, 78]⟩, ⟨20, 102, [97, 78]⟩, ⟨22, 120, []⟩]
def rformC (f : RForm) : List Value := [.int .i64 f.op, .int .u8 f.letter, .string (strA f.args)]
def rformV (f : RForm) : Value := .agg #[.int .i64 f.op, .int .u8 f.letter, .string (strA f.args)]

set_option maxRecDepth 100000 in
set_option maxHeartbeats 1600000 in
theorem forms_any (w : World) : Calls Tryd.prog 49 #[] w fun e w' => ∃ b, e = .returned (.slice (some ⟨b, 0, none⟩) 21 21) ∧ RowAt w' (some ⟨b, 0, none⟩) (rforms.flatMap rformC) ∧ Below w.heap.size w w' := by
  go_enter Tryd.func49, Tryd.ntmps49
  go_wp2
  go_ret
  exact ⟨_, rfl, RowAt.new w (rforms.flatMap rformC) _, bnew (brefl w) _⟩
theorem rform_at {w : World} {b : Nat} (h : RowAt w (some ⟨b, 0, none⟩) (rforms.flatMap rformC)) (i : Nat) (f : RForm) (hf : rforms[i]? = some f) :
    w.cell? ⟨b, i * 3, none⟩ = some (.int .i64 f.op) ∧ w.cell? ⟨b, i * 3 + 1, none⟩ = some (.int .u8 f.letter) ∧ w.cell? ⟨b, i * 3 + 2, none⟩ = some (.string (strA f.args)) := by
  have hg : ∀ (l : List RForm) (i : Nat) (f : RForm), l[i]? = some f → (l.flatMap rformC)[i * 3]? = some (.int .i64 f.op) ∧ (l.flatMap rformC)[i * 3 + 1]? = some (.int .u8 f.letter) ∧ (l.flatMap rformC)[i * 3 + 2]? = some (.string (strA f.args)) := by
    intro l
    induction l with
    | nil => intro i f h; simp at h
    | cons a l ih =>
      intro i f h
      cases i with
      | zero => simp at h; subst h; simp [rformC]
      | succ i =>
        simp at h
        have h2 := ih i f h
        have e : ∀ j, ((a :: l).flatMap rformC)[(i + 1) * 3 + j]? = (l.flatMap rformC)[i * 3 + j]? := by
          intro j
          rw [List.flatMap_cons, List.getElem?_append_right (by simp [rformC]; omega)]
          congr 1
          simp [rformC]; omega
        refine ⟨?_, ?_, ?_⟩
        · have := e 0; simp only [Nat.add_zero] at this; rw [this]; exact h2.1
        · rw [e 1]; exact h2.2.1
        · rw [e 2]; exact h2.2.2
  obtain ⟨h0, h1, h2⟩ := hg rforms i f hf
  have a0 := h.some _ _ h0
  have a1 := h.some _ _ h1
  have a2 := h.some _ _ h2
  rw [Nat.zero_add] at a0 a1 a2
  exact ⟨a0, a1, a2⟩
end Go.Proofs.YtoflhfiegfhkoaaDoor
