/-
  The walks over the reference's letter, and the helper's Digits of any number.
-/
import Derived.Test.YtoflhfiegfhkoaaDoorKWri3
import Derived.Test.YtoflhfiegfhkoaaDoorKRefC
import Derived.Test.YtoflhfiegfhkoaaDoorKOpen
namespace Go.Proofs.YtoflhfiegfhkoaaDoor
open Go.RowKit Go.Proofs.YtoflhfiegfhkoaaDoorW.PrintWords
set_option linter.unusedVariables false
set_option linter.unusedSimpArgs false

theorem conv_one (n : Nat) (hn : n < 256) (b c : Nat) (w : World) (h : w.cell? ⟨b, 0, none⟩ = some (.int .u8 (n : Int))) : (convert 47 9 (.slice (some ⟨b, 0, none⟩) 1 c)).run Tryd.prog w = .ok (.string (strA [n])) w := by
  refine run_convert_bytes_back w _ _ 5 ⟨b, 0, none⟩ c [UInt8.ofNat n] Tryd.underlying47 Tryd.underlying5 Tryd.underlying9 ?_
  intro j hj
  simp at hj
  subst hj
  have e : (⟨b, 0, none⟩ : Addr).add 0 = ⟨b, 0, none⟩ := by simp [Addr.add]
  have e2 : ((UInt8.ofNat n).toNat : Int) = (n : Int) := by
    have : (UInt8.ofNat n).toNat = n := by simp; omega
    rw [this]
  rw [e, h]
  simp only [List.getElem_cons_zero]
  rw [e2]

set_option maxRecDepth 100000 in
set_option maxHeartbeats 1600000 in
theorem rletter_any (r : Int) (w : World) : Calls Tryd.prog 68 #[.int .i64 r] w fun e w' => e = .returned (.string (strA [letterN r])) ∧ Below w.heap.size w w' := by
  by_cases h0 : r < 0
  · have e : letterN r = 63 := by unfold letterN; rw [if_pos (.inl h0)]
    rw [e]
    clear e
    go_enter Tryd.func68, Tryd.ntmps68
    go_wp2
    go_ret
    exact ⟨rfl, brefl _⟩
  · by_cases h6 : 6 ≤ r
    · have e : letterN r = 63 := by unfold letterN; rw [if_pos (.inr h6)]
      rw [e]
      clear e
      go_enter Tryd.func68, Tryd.ntmps68
      go_wp2
      go_ret
      exact ⟨rfl, brefl _⟩
    · obtain ⟨m, hm⟩ : ∃ m : Nat, 97 + r = (m : Int) := ⟨(97 + r).toNat, by omega⟩
      have e : letterN r = m := by unfold letterN; rw [if_neg (by omega)]; omega
      have hw1 : IntKind.i64.wrap (97 + r) = (m : Int) := by rw [hm]; exact IntWalk.i64_in _ (by omega)
      have hu : IntKind.u8.wrap (m : Int) = (m : Int) := by rw [IntKind.wrap_u8]; omega
      have hcv := conv_one m (by omega) w.heap.size 1 (w.alloc (.cells #[.int .u8 (m : Int)] 5)) (by go_simp)
      have h6' : decide (6 ≤ r) = false := decide_eq_false h6
      rw [e]
      clear e hm
      go_enter Tryd.func68, Tryd.ntmps68
      go_wp2
      go_ret
      exact ⟨rfl, bnew (brefl w) _⟩

theorem strA_app (a b : List Nat) : strA a ++ strA b = strA (a ++ b) := by
  apply ByteArray.ext
  unfold strA
  simp
theorem decN_big {n : Nat} (h : ¬ n < 10) : decN n = decN (n / 10) ++ [48 + n % 10] := by
  unfold decN
  rw [digs_big h, List.map_append]
  rfl
def DigPost (w : World) (v : Int) (k : Nat) (e : Ending) (w' : World) : Prop := ∃ t : List Nat, e = .returned (.string (strA t)) ∧ t.length ≤ k ∧ (0 ≤ v → t = decN v.toNat) ∧ Below w.heap.size w w'

set_option maxRecDepth 100000 in
set_option maxHeartbeats 3200000 in
theorem rdig_small (v : Int) (h : -10 < v ∧ v < 10) (w : World) : Calls Tryd.prog 28 #[.int .i64 v] w (DigPost w v 2) := by
  by_cases h0 : v < 0
  · obtain ⟨m, hm⟩ : ∃ m : Nat, 48 - v = (m : Int) := ⟨(48 - v).toNat, by omega⟩
    have hw1 : IntKind.i64.wrap (48 - v) = (m : Int) := by rw [hm]; exact IntWalk.i64_in _ (by omega)
    have hu : IntKind.u8.wrap (m : Int) = (m : Int) := by rw [IntKind.wrap_u8]; omega
    have hcv := conv_one m (by omega) w.heap.size 1 (w.alloc (.cells #[.int .u8 (m : Int)] 5)) (by go_simp)
    have h9 : ¬ v < -9 := by omega
    have hs1 := strA_size [m]
    have hap := strA_app [45] [m]
    have e45 : strA [45] = ⟨#[45]⟩ := rfl
    rw [e45] at hap
    have H0 := hidP h0
    clear hm h
    go_enter Tryd.func28, Tryd.ntmps28
    go_wp2
    go_ret
    exact ⟨[45] ++ [m], rfl, by simp, fun h => absurd H0.out (by omega), bnew (brefl w) _⟩
  · obtain ⟨m, hm⟩ : ∃ m : Nat, v = (m : Int) := ⟨v.toNat, by omega⟩
    subst hm
    have hm10 : m < 10 := by omega
    have hw1 : IntKind.i64.wrap (48 + (m : Int)) = ((48 + m : Nat) : Int) := by rw [IntWalk.i64_in _ (by omega)]; omega
    have hu : IntKind.u8.wrap ((48 + m : Nat) : Int) = ((48 + m : Nat) : Int) := by rw [IntKind.wrap_u8]; omega
    have hcv := conv_one (48 + m) (by omega) w.heap.size 1 (w.alloc (.cells #[.int .u8 ((48 + m : Nat) : Int)] 5)) (by go_simp)
    obtain ⟨M, hM⟩ : ∃ M, 48 + m = M := ⟨_, rfl⟩
    rw [hM] at hw1 hu hcv
    have HD := hidP (show decN m = [M] by rw [dec_one hm10, hM])
    have g1 : (m : Int) < 10 := by omega
    clear hM h
    go_enter Tryd.func28, Tryd.ntmps28
    go_wp2
    go_ret
    exact ⟨[M], rfl, by simp, fun _ => HD.out.symm, bnew (brefl w) _⟩

set_option maxRecDepth 100000 in
set_option maxHeartbeats 6400000 in
theorem rdig_any : ∀ (k : Nat), k ≤ 30 → ∀ (v : Int), v.natAbs < 10 ^ (k + 1) → inI v → ∀ w : World, Calls Tryd.prog 28 #[.int .i64 v] w (DigPost w v (k + 2)) := by
  intro k
  induction k with
  | zero => intro _ v h _ w; exact rdig_small v (by omega) w
  | succ k ih =>
    intro hk30 v hv hin w
    have ih2 := ih (by omega)
    clear ih
    by_cases hs : -10 < v ∧ v < 10
    · refine (rdig_small v hs w).mono ?_
      rintro e w' ⟨t, rfl, hl, hd, hb⟩
      exact ⟨t, rfl, by omega, hd, hb⟩
    · obtain ⟨hi1, hi2⟩ := hin
      have hp : 10 ^ (k + 1 + 1) = 10 ^ (k + 1) * 10 := Nat.pow_succ ..
      by_cases h0 : v < 0
      · obtain ⟨m, rfl⟩ : ∃ m : Nat, v = -(m : Int) := ⟨(-v).toNat, by omega⟩
        have hm10 : 10 ≤ m := by omega
        have hq : (-(m : Int)).tdiv 10 = -((m / 10 : Nat) : Int) := by rw [Int.neg_tdiv, Int.tdiv_eq_ediv_of_nonneg (by omega)]; omega
        have hr : (-(m : Int)).tmod 10 = -((m % 10 : Nat) : Int) := by rw [Int.neg_tmod, Int.tmod_eq_emod_of_nonneg (by omega)]; omega
        have ihq := fun w => ih2 (-((m / 10 : Nat) : Int)) (by omega) ⟨by omega, by omega⟩ w
        have hr1 : m % 10 < 10 := by omega
        have hqb : m / 10 ≤ 922337203685477580 := by omega
        have g0 : -(m : Int) < 0 := h0
        have g9 : -(m : Int) < -9 := by omega
        generalize m / 10 = q at *
        generalize m % 10 = r at *
        obtain ⟨Q, hQ⟩ : ∃ Q, -(q : Int) = Q := ⟨_, rfl⟩
        obtain ⟨R, hR⟩ : ∃ R, -(r : Int) = R := ⟨_, rfl⟩
        rw [hQ] at hq ihq
        rw [hR] at hr
        have hw1 : IntKind.i64.wrap Q = Q := IntWalk.i64_in _ (by omega)
        have hw2 : IntKind.i64.wrap R = R := IntWalk.i64_in _ (by omega)
        have hw3 : IntKind.i64.wrap (48 - R) = ((48 + r : Nat) : Int) := by rw [IntWalk.i64_in _ (by omega)]; omega
        have hu : IntKind.u8.wrap ((48 + r : Nat) : Int) = ((48 + r : Nat) : Int) := by rw [IntKind.wrap_u8]; omega
        have hcv := fun b c w => conv_one (48 + r) (by omega) b c w
        obtain ⟨M, hM⟩ : ∃ M, 48 + r = M := ⟨_, rfl⟩
        rw [hM] at hw3 hu
        simp only [hM] at hcv
        obtain ⟨V, hV⟩ : ∃ V, -(m : Int) = V := ⟨_, rfl⟩
        rw [hV] at hq hr g0 g9 ⊢
        have IH := hidP ihq
        have H0 := hidP h0
        have HKK := hidP hk30
        clear ih2 ihq hp hv hM hR hQ hs hi1 hi2 hV hqb hr1 hm10 h0
        go_enter Tryd.func28, Tryd.ntmps28
        go_upto_region 3 with fail
        have hds := strA_size [M]
        go_region_law (first | (go_simp; go_at_call 28; refine (IH.out _).mono ?_; rintro e w1 ⟨t, rfl, hl, hd, hb1⟩; have HDD := hidP hd; clear hd; obtain ⟨hcb, _⟩ := bcell hb1; have hsz := strA_size t; have hap := strA_app t [M]; have hcc : ¬ (9223372036854775807 < t.length + 1) := by have := HKK.out; omega) | fail)
        all_goals
          go_wp2
          go_ret
          refine ⟨t ++ [M], rfl, by simp; omega, fun h => absurd H0.out (by omega), ?_⟩
          first
            | exact bnew ((brefl w).drew.trans hb1) _
            | exact hb1.drew
            | exact (bnew (brefl w) _).trans (hb1.mono (by simp))
            | exact (bnew (brefl w) _).drew.trans (hb1.mono (by simp))
      · obtain ⟨m, rfl⟩ : ∃ m : Nat, v = (m : Int) := ⟨v.toNat, by omega⟩
        have hm10 : ¬ m < 10 := by omega
        have hq : (m : Int).tdiv 10 = ((m / 10 : Nat) : Int) := by rw [Int.tdiv_eq_ediv_of_nonneg (by omega)]; omega
        have hr : (m : Int).tmod 10 = ((m % 10 : Nat) : Int) := by rw [Int.tmod_eq_emod_of_nonneg (by omega)]; omega
        have ihq := fun w => ih2 ((m / 10 : Nat) : Int) (by omega) ⟨by omega, by omega⟩ w
        have hbig := decN_big hm10
        have hr1 : m % 10 < 10 := by omega
        have hqb : m / 10 ≤ 922337203685477580 := by omega
        have g0 : ¬ (m : Int) < 0 := by omega
        have g9 : ¬ (m : Int) < 10 := by omega
        generalize m / 10 = q at *
        generalize m % 10 = r at *
        have hw1 : IntKind.i64.wrap (q : Int) = (q : Int) := IntWalk.i64_in _ (by omega)
        have hw2 : IntKind.i64.wrap (r : Int) = (r : Int) := IntWalk.i64_in _ (by omega)
        have hw3 : IntKind.i64.wrap (48 + (r : Int)) = ((48 + r : Nat) : Int) := by rw [IntWalk.i64_in _ (by omega)]; omega
        have hu : IntKind.u8.wrap ((48 + r : Nat) : Int) = ((48 + r : Nat) : Int) := by rw [IntKind.wrap_u8]; omega
        have hcv := fun b c w => conv_one (48 + r) (by omega) b c w
        obtain ⟨M, hM⟩ : ∃ M, 48 + r = M := ⟨_, rfl⟩
        rw [hM] at hw3 hu hbig
        simp only [hM] at hcv
        have IH := hidP ihq
        have HKK := hidP hk30
        have HBIG := hidP hbig
        clear ih2 ihq hp hv hM hs hi1 hi2 hqb hr1 hm10 h0 hbig
        go_enter Tryd.func28, Tryd.ntmps28
        go_upto_region 7 with fail
        have hds := strA_size [M]
        go_region_law (first | (go_simp; go_at_call 28; refine (IH.out _).mono ?_; rintro e w1 ⟨t, rfl, hl, hd, hb1⟩; have HDD := hidP hd; clear hd; obtain ⟨hcb, _⟩ := bcell hb1; have hsz := strA_size t; have hap := strA_app t [M]; have hcc : ¬ (9223372036854775807 < t.length + 1) := by have := HKK.out; omega) | fail)
        all_goals
          go_wp2
          go_ret
          refine ⟨t ++ [M], rfl, by simp; omega, fun _ => by rw [HDD.out (by omega)]; exact HBIG.out.symm, ?_⟩
          first
            | exact bnew ((brefl w).drew.trans hb1) _
            | exact hb1.drew
            | exact (bnew (brefl w) _).trans (hb1.mono (by simp))
            | exact (bnew (brefl w) _).drew.trans (hb1.mono (by simp))
/-- Digits of any number. -/
theorem rdigits_any (v : Int) (hv : inI v) (w : World) : Calls Tryd.prog 28 #[.int .i64 v] w (DigPost w v 21) := by
  obtain ⟨h1, h2⟩ := hv
  exact rdig_any 19 (by omega) v (by omega) ⟨h1, h2⟩ w
end Go.Proofs.YtoflhfiegfhkoaaDoor
