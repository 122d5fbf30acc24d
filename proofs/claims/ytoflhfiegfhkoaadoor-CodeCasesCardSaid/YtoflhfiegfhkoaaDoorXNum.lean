/-
  Texts of digits as numbers, in plain words.
-/
import Derived.Test.YtoflhfiegfhkoaaDoorLib
import Derived.Test.YtoflhfiegfhkoaaDoorRows
import Derived.Lib.ItoaNum
import Derived.Lib.ItoaLen
import Derived.IntWalk
import Derived.Laws.IdiomStrings
import Derived.Deep.DeepCutAuto
import Derived.Test.YtoflhfiegfhkoaaDoorXText
namespace Go.Proofs.YtoflhfiegfhkoaaDoor
open Go.RowKit
set_option linter.unusedVariables false

def digB (r : Nat) : ByteArray := ⟨#[UInt8.ofNat (48 + r)]⟩
theorem digB_size (r : Nat) : (digB r).size = 1 := rfl
def decB (n : Nat) : ByteArray := ⟨(Lib.decDigits n).toArray⟩

theorem conv_dig (r : Nat) (hr : r < 10) (b c : Nat) (w : World) (h : w.cell? ⟨b, 0, none⟩ = some (.int .u8 (48 + (r : Int)))) : (convert 47 9 (.slice (some ⟨b, 0, none⟩) 1 c)).run Tryd.prog w = .ok (.string (digB r)) w := by
  refine run_convert_bytes_back w _ _ 5 ⟨b, 0, none⟩ c [UInt8.ofNat (48 + r)] Tryd.underlying47 Tryd.underlying5 Tryd.underlying9 ?_
  intro j hj
  simp at hj
  subst hj
  have e : (⟨b, 0, none⟩ : Addr).add 0 = ⟨b, 0, none⟩ := by simp [Addr.add]
  have e2 : ((UInt8.ofNat (48 + r)).toNat : Int) = 48 + (r : Int) := by
    have : (UInt8.ofNat (48 + r)).toNat = 48 + r := by simp; omega
    rw [this]; omega
  rw [e, h]
  simp only [List.getElem_cons_zero]
  rw [e2]
theorem decB_le (n : Nat) (h : n < 1000000) : (decB n).size ≤ 21 := by
  have h1 := Lib.itoa_length_le (n : Int) (by omega) (by omega)
  have e : Lib.itoa (n : Int) = Lib.decDigits n := Lib.itoa_nonneg n
  rw [e] at h1
  simpa [decB, ByteArray.size] using h1
theorem decB_app (q r : Nat) : decB q ++ digB r = ⟨(Lib.decDigits q ++ [UInt8.ofNat (48 + r)]).toArray⟩ := by
  apply ByteArray.ext
  simp [decB, digB]

set_option maxRecDepth 100000 in
set_option maxHeartbeats 1600000 in
theorem digits_any : ∀ (n : Nat) (hn : n < 1000000) (w : World), Calls Tryd.prog 28 #[.int .i64 n] w fun e w' => e = .returned (.string (decB n)) ∧ Below w.heap.size w w' := by
  intro n
  induction n using Nat.strongRecOn with
  | _ n ih =>
    intro hn w
    have g0 : ¬ ((n : Int) < 0) := by omega
    by_cases h10 : n < 10
    · have g1 : (n : Int) < 10 := by omega
      have hu : IntKind.u8.wrap (48 + (n : Int)) = 48 + (n : Int) := by rw [IntKind.wrap_u8]; omega
      have hd : decB n = digB n := by unfold decB digB; rw [Lib.decDigits, dif_pos h10]
      have HD := hidP hd
      have hcv := conv_dig n h10 w.heap.size 1 (w.alloc (.cells #[.int .u8 (48 + (n : Int))] 5)) (by go_simp)
      clear ih hd
      go_enter Tryd.func28, Tryd.ntmps28
      go_wp2
      go_ret
      exact ⟨by rw [HD.out]; rfl, bnew (brefl w) _⟩
    · have g1 : ¬ ((n : Int) < 10) := by omega
      have ih' := fun w => ih (n / 10) (by omega) (by omega) w
      have hq : (n : Int).tdiv 10 = ((n / 10 : Nat) : Int) := by rw [Int.tdiv_eq_ediv_of_nonneg (by omega)]; omega
      have hr : (n : Int).tmod 10 = ((n % 10 : Nat) : Int) := by rw [Int.tmod_eq_emod_of_nonneg (by omega)]; omega
      have hd : decB n = ⟨(Lib.decDigits (n / 10) ++ [UInt8.ofNat (48 + n % 10)]).toArray⟩ := by unfold decB; conv => lhs; rw [Lib.decDigits]; rw [dif_neg h10]
      have hdn : decB (n / 10) = ⟨(Lib.decDigits (n / 10)).toArray⟩ := rfl
      have hq1 : n / 10 < 1000000 := by omega
      have hr1 : n % 10 < 10 := by omega
      have HD := hidP hd
      have HDN := hidP hdn
      generalize n / 10 = q at *
      generalize n % 10 = r at *
      have hu : IntKind.u8.wrap (48 + (r : Int)) = 48 + (r : Int) := by rw [IntKind.wrap_u8]; omega
      have hw1 : IntKind.i64.wrap (q : Int) = (q : Int) := IntWalk.i64_in _ (by omega)
      have hw2 : IntKind.i64.wrap (48 + (r : Int)) = 48 + (r : Int) := IntWalk.i64_in _ (by omega)
      have hw3 : IntKind.i64.wrap (r : Int) = (r : Int) := IntWalk.i64_in _ (by omega)
      have IH := hidP ih'
      clear ih ih' hd hdn
      go_enter Tryd.func28, Tryd.ntmps28
      go_upto_region 7 with fail
      have hcv := fun b c w => conv_dig r hr1 b c w
      have hsz := decB_le q hq1
      have hds := digB_size r
      have hcc : ¬ (9223372036854775807 < (decB q).size + 1) := by omega
      go_region_law (first | (go_simp; go_at_call 28; refine (IH.out _).mono ?_; rintro e w1 ⟨rfl, hb1⟩; obtain ⟨hcb, _⟩ := bcell hb1) | fail)
      all_goals
        go_wp2
        go_ret
        refine ⟨by rw [HD.out, ← decB_app]; rfl, ?_⟩
        first
          | exact bnew ((brefl w).drew.trans hb1) _
          | exact hb1.drew
          | exact (bnew (brefl w) _).trans (hb1.mono (by simp))
          | exact (bnew (brefl w) _).drew.trans (hb1.mono (by simp))
end Go.Proofs.YtoflhfiegfhkoaaDoor
namespace Go.Proofs.YtoflhfiegfhkoaaDoor
open Go
set_option linter.unusedVariables false

theorem runesF_ascii (s : ByteArray) (h : ∀ b ∈ s.data.toList, b.toNat < 128) : ∀ k pos, pos + k = s.size → runesF s pos = (s.data.toList.drop pos).map (·.toNat)
  | 0, pos, hk => by
    rw [runesF_end s pos (by omega), List.drop_eq_nil_of_le]
    · rfl
    · rw [Array.length_toList]
      show s.data.size ≤ pos
      have : s.data.size = s.size := rfl
      omega
  | k + 1, pos, hk => by
    have hp : pos < s.size := by omega
    have hl : pos < s.data.toList.length := by rw [Array.length_toList]; exact hp
    have hb : (s[pos]'hp) = s.data.toList[pos]'hl := by simp; rfl
    have ha : (s[pos]'hp).toNat < 128 := by rw [hb]; exact h _ (List.getElem_mem hl)
    have hde : Utf8.decode s pos = ((s[pos]'hp).toNat, 1) := by rw [decode_ascii s pos hp ha]
    rw [runesF_step s pos hp, hde]
    dsimp only
    rw [runesF_ascii s h k (pos + 1) (by omega), List.drop_eq_getElem_cons hl, List.map_cons, hb]

/-- A text of digits. -/
def strD (ds : List Nat) : ByteArray := ⟨(ds.map fun d => UInt8.ofNat (48 + d)).toArray⟩
def fold10 (ds : List Nat) : Nat := ds.foldl (fun v d => 10 * v + d) 0
def digs (u : Nat) : List Nat := if h : u < 10 then [u] else digs (u / 10) ++ [u % 10]
termination_by u
decreasing_by omega
theorem digs_small {u : Nat} (h : u < 10) : digs u = [u] := by rw [digs, dif_pos h]
theorem digs_big {u : Nat} (h : ¬ u < 10) : digs u = digs (u / 10) ++ [u % 10] := by conv => lhs; rw [digs]; rw [dif_neg h]
theorem digs_dec (u : Nat) : Lib.decDigits u = (digs u).map fun d => UInt8.ofNat (48 + d) := by
  induction u using Nat.strongRecOn with
  | _ u ih =>
    by_cases h : u < 10
    · rw [digs_small h, Lib.decDigits, dif_pos h]; rfl
    · rw [digs_big h, List.map_append, ← ih (u / 10) (by omega)]
      conv => lhs; rw [Lib.decDigits]; rw [dif_neg h]
      rfl
theorem digs_lt (u : Nat) : ∀ d ∈ digs u, d < 10 := by
  induction u using Nat.strongRecOn with
  | _ u ih =>
    intro d hd
    by_cases h : u < 10
    · rw [digs_small h] at hd; simp at hd; omega
    · rw [digs_big h] at hd
      rcases List.mem_append.1 hd with hd | hd
      · exact ih (u / 10) (by omega) d hd
      · simp at hd; omega
theorem fold10_digs (u : Nat) : fold10 (digs u) = u := by
  induction u using Nat.strongRecOn with
  | _ u ih =>
    by_cases h : u < 10
    · rw [digs_small h]; simp [fold10]
    · have := ih (u / 10) (by omega)
      rw [digs_big h]
      unfold fold10 at *
      rw [List.foldl_append, this]
      simp
      omega
theorem digs_len (u : Nat) : 1 ≤ (digs u).length ∧ ∀ k, u < 10 ^ (k + 1) → (digs u).length ≤ k + 1 := by
  induction u using Nat.strongRecOn with
  | _ u ih =>
    by_cases h : u < 10
    · rw [digs_small h]; simp
    · obtain ⟨h1, h2⟩ := ih (u / 10) (by omega)
      rw [digs_big h, List.length_append]
      refine ⟨by simp, fun k hk => ?_⟩
      cases k with
      | zero => simp at hk; omega
      | succ k =>
        have := h2 k (by rw [Nat.pow_succ] at hk; omega)
        simp
        exact this
theorem decB_digs (u : Nat) : decB u = strD (digs u) := by unfold decB strD; rw [digs_dec]
theorem strD_app (a b : List Nat) : strD a ++ strD b = strD (a ++ b) := by
  apply ByteArray.ext
  simp [strD]
theorem strD_size (ds : List Nat) : (strD ds).size = ds.length := by
  show (strD ds).data.size = _
  simp [strD]
theorem strD_runes (ds : List Nat) (h : ∀ d ∈ ds, d < 10) : runesF (strD ds) 0 = ds.map (48 + ·) := by
  have e : ∀ d, d < 10 → (UInt8.ofNat (48 + d)).toNat = 48 + d := fun d hd => by simp; omega
  rw [runesF_ascii (strD ds) (fun b hb => by
    simp [strD] at hb
    obtain ⟨d, hd, rfl⟩ := hb
    have h1 := e d (h d hd)
    have h2 := h d hd
    simp at h1 ⊢
    omega) (strD ds).size 0 (by omega), List.drop_zero]
  have : (strD ds).data.toList = ds.map fun d => UInt8.ofNat (48 + d) := by simp [strD]
  rw [this, List.map_map]
  apply List.map_congr_left
  intro d hd
  exact e d (h d hd)
theorem strD_dig (ds : List Nat) (h : ∀ d ∈ ds, d < 10) : (ds.map (48 + ·)).all isDig = true := by
  rw [List.all_eq_true]
  intro c hc
  rw [List.mem_map] at hc
  obtain ⟨d, hd, rfl⟩ := hc
  have := h d hd
  simp [isDig]
  omega
theorem dval_four (ds : List Nat) (h : ∀ d ∈ ds, d < 10) (hl : ds.length ≤ 4) : dval (ds.map (48 + ·)) = (fold10 ds : Int) := by
  match ds, hl with
  | [], _ => rfl
  | [a], _ =>
    have ha := h a (by simp)
    simp [dval, dstep, fold10]
    omega
  | [a, b], _ =>
    have ha := h a (by simp)
    have hb := h b (by simp)
    simp only [dval, dstep, fold10, List.map_cons, List.map_nil, List.foldl_cons, List.foldl_nil]
    repeat' split
    all_goals omega
  | [a, b, c], _ =>
    have ha := h a (by simp)
    have hb := h b (by simp)
    have hc := h c (by simp)
    simp only [dval, dstep, fold10, List.map_cons, List.map_nil, List.foldl_cons, List.foldl_nil]
    repeat' split
    all_goals omega
  | [a, b, c, d], _ =>
    have ha := h a (by simp)
    have hb := h b (by simp)
    have hc := h c (by simp)
    have hd := h d (by simp)
    simp only [dval, dstep, fold10, List.map_cons, List.map_nil, List.foldl_cons, List.foldl_nil]
    repeat' split
    all_goals omega
theorem numR_digs (ds : List Nat) (h : ∀ d ∈ ds, d < 10) (h1 : 1 ≤ ds.length) (h4 : ds.length ≤ 4) : numR (strD ds) = ((fold10 ds : Int), true) := by
  unfold numR
  rw [strD_runes ds h, strD_dig ds h, strD_size, dval_four ds h h4, if_pos]
  simp
  omega
theorem numR_long (s : ByteArray) (h : 4 < s.size) : numR s = (0, false) := by
  have : ¬ s.size ≤ 4 := by omega
  simp [numR, this]
theorem numR_sign (ds : List Nat) : numR (⟨#[45]⟩ ++ strD ds) = (0, false) := by
  have hs : 0 < (⟨#[45]⟩ ++ strD ds : ByteArray).size := by rw [ByteArray.size_append]; show 0 < 1 + _; omega
  have h0 : ((⟨#[45]⟩ ++ strD ds : ByteArray)[0]'hs) = 45 := by
    rw [ByteArray.getElem_append_left (show 0 < (⟨#[45]⟩ : ByteArray).size from by decide)]
    rfl
  have hst := runesF_step (⟨#[45]⟩ ++ strD ds) 0 hs
  have hde : Utf8.decode (⟨#[45]⟩ ++ strD ds) 0 = (45, 1) := by rw [decode_ascii _ 0 hs (by rw [h0]; decide), h0]; rfl
  rw [hde] at hst
  dsimp only at hst
  unfold numR
  rw [hst, List.all_cons]
  simp [isDig]
theorem numR_empty : numR ⟨#[]⟩ = (0, false) := by decide +kernel
theorem fold10_zeros (k : Nat) (ds : List Nat) : fold10 (List.replicate k 0 ++ ds) = fold10 ds := by
  unfold fold10
  rw [List.foldl_append]
  congr 1
  induction k with
  | zero => rfl
  | succ k ih => rw [List.replicate_succ, List.foldl_cons]; exact ih
theorem zeros_cut (k : Nat) (h : k ≤ 4) : (⟨#[48, 48, 48, 48]⟩ : ByteArray).extract 0 k = strD (List.replicate k 0) := by
  match k, h with
  | 0, _ => decide +kernel
  | 1, _ => decide +kernel
  | 2, _ => decide +kernel
  | 3, _ => decide +kernel
  | 4, _ => decide +kernel
end Go.Proofs.YtoflhfiegfhkoaaDoor
