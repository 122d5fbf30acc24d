/-
  The walk of the law TextNames.
-/
import Derived.Test.YtdelflahmlfnfaaDoorXAwake
import Derived.Test.YtdelflahmlfnfaaDoorXNum
namespace Go.Proofs.YtdelflahmlfnfaaDoor
open Go.RowKit
set_option linter.unusedVariables false

theorem modE (n : Int) (k : Nat) (hk : 0 < k) (hk1 : k < 4294967296) : ∃ r : Nat, (IntKind.u64.wrap n).tmod (k : Int) = (r : Int) ∧ r < k ∧ wrap64 (r : Int) = (r : Int) := by
  have h : 0 ≤ IntKind.u64.wrap n := by rw [IntKind.wrap_u64]; omega
  obtain ⟨m, hm⟩ := Int.eq_ofNat_of_zero_le h
  have hlt := Nat.mod_lt m hk
  refine ⟨m % k, ?_, hlt, IntWalk.wrap64_in _ (by omega)⟩
  rw [hm, Int.tmod_eq_emod_of_nonneg (by omega)]
  simp

set_option maxRecDepth 100000 in
set_option maxHeartbeats 3200000 in
theorem textNames_any (c n mx : Int) (w : World) (hm : w.cell? ⟨0, 0, none⟩ = some (.int .i64 mx)) :
    Calls Tryd.prog 8 #[.int .i64 c, .int .i64 n] w fun e w' => e = .returned (.bool true) ∧ Below w.heap.size w w' := by
  obtain ⟨C, hC1, hC2, hC3⟩ := modE c 2000 (by omega) (by omega)
  obtain ⟨N, hN1, hN2, hN3⟩ := modE n 10000 (by omega) (by omega)
  have hC1' : (IntKind.u64.wrap c).tmod 2000 = (C : Int) := hC1
  have hN1' : (IntKind.u64.wrap n).tmod 10000 = (N : Int) := hN1
  have hi : IntKind.i32.wrap (C : Int) = (C : Int) := IntWalk.i32_in _ (by omega)
  have hml := World.block_lt_of_cell? w _ hm
  have HM := hidP hm
  obtain ⟨ds, hds⟩ : ∃ ds, digs N = ds := ⟨_, rfl⟩
  obtain ⟨L, hL⟩ : ∃ L, ds.length = L := ⟨_, rfl⟩
  have hd10 : ∀ d ∈ ds, d < 10 := by rw [← hds]; exact digs_lt N
  have hL1 : 1 ≤ L := by rw [← hL, ← hds]; exact (digs_len N).1
  have hL4 : L ≤ 4 := by rw [← hL, ← hds]; exact (digs_len N).2 3 (by omega)
  have hfold : fold10 ds = N := by rw [← hds]; exact fold10_digs N
  have hdec : decB N = strD ds := by rw [decB_digs, hds]
  have hDs : (strD ds).size = L := by rw [strD_size, hL]
  have hv := numR_digs ds hd10 (by rw [hL]; exact hL1) (by rw [hL]; exact hL4)
  rw [hfold] at hv
  have hpad : (⟨#[48, 48, 48, 48]⟩ : ByteArray).extract 0 (4 - L) ++ strD ds = strD (List.replicate (4 - L) 0 ++ ds) := by rw [zeros_cut (4 - L) (by omega), strD_app]
  have hpv := numR_digs (List.replicate (4 - L) 0 ++ ds) (fun d hd => (List.mem_append.1 hd).elim (fun h => by rw [List.mem_replicate] at h; omega) (hd10 d)) (by simp; omega) (by simp; omega)
  rw [fold10_zeros, hfold, ← hpad] at hpv
  have hlv : numR (⟨#[48, 48, 48, 48]⟩ ++ strD ds) = (0, false) := numR_long _ (by rw [ByteArray.size_append, hDs]; show 4 < 4 + L; omega)
  have hsv := numR_sign ds
  have hdg := fun w => digits_any N (by omega) w
  rw [hdec] at hdg
  obtain ⟨D, hD⟩ : ∃ D, strD ds = D := ⟨_, rfl⟩
  rw [hD] at hDs hv hpv hlv hsv hdg
  have hn1 := fun w => number_any D w (by omega)
  rw [hv] at hn1
  have hn2 := fun w => number_any ((⟨#[48, 48, 48, 48]⟩ : ByteArray).extract 0 (4 - L) ++ D) w (by rw [ByteArray.size_append, ByteArray.size_extract]; show _ ≤ _; omega)
  rw [hpv] at hn2
  have hn3 := fun w => number_any ((⟨#[48, 48, 48, 48]⟩ : ByteArray) ++ D) w (by rw [ByteArray.size_append, hDs]; show 4 + L ≤ _; omega)
  rw [hlv] at hn3
  have hn4 := fun w => number_any ((⟨#[45]⟩ : ByteArray) ++ D) w (by rw [ByteArray.size_append, hDs]; show 1 + L ≤ _; omega)
  rw [hsv] at hn4
  have hn5 := fun w => number_any ⟨#[]⟩ w (by decide)
  rw [numR_empty] at hn5
  have HDG := hidP hdg
  have HN1 := hidP hn1
  have HN2 := hidP hn2
  have HN3 := hidP hn3
  have HN4 := hidP hn4
  have HN5 := hidP hn5
  clear hC1 hN1 hm hds hL hd10 hfold hdec hv hpad hpv hlv hsv hdg hn1 hn2 hn3 hn4 hn5 hD
  by_cases hin : 97 ≤ C ∧ C ≤ 102
  · obtain ⟨h97, h102⟩ := hin
    have hr : regR (C : Int) = ((C : Int) - 97, true) := by unfold regR; rw [if_pos (by omega)]
    have hnm : nameR ((C : Int) - 97) = ((C : Int), true) := by unfold nameR; rw [if_pos (by omega)]; simp; omega
    have hrg := fun w => reg_any (C : Int) w
    rw [hr] at hrg
    have hna := fun w => name_any ((C : Int) - 97) w
    rw [hnm] at hna
    have HRG := hidP hrg
    have HNA := hidP hna
    clear hr hnm hrg hna
    have g1 : (97 : Int) ≤ (C : Int) := by omega
    have g2 : (C : Int) < 103 := by omega
    go_enter Tryd.func8, Tryd.ntmps8
    go_wp2_with fail
    refine (HRG.out _).mono ?_
    rintro e w1 ⟨rfl, hb1⟩
    go_wp2_with fail
    refine (HNA.out _).mono ?_
    rintro e w2 ⟨rfl, hb2⟩
    have hB2 := bstep hb1 hb2
    go_wp2_with fail
    refine (name_any 6 _).mono ?_
    rw [show nameR 6 = (0, false) from by decide]
    rintro e w3 ⟨rfl, hb3⟩
    have hB3 := bstep hB2 hb3
    go_wp2_with fail
    refine (name_any (-1) _).mono ?_
    rw [show nameR (-1) = (0, false) from by decide]
    rintro e w4 ⟨rfl, hb4⟩
    have hB4 := bstep hB3 hb4
    go_wp2_with fail
    refine (HDG.out _).mono ?_
    rintro e w5 ⟨rfl, hb5⟩
    have hB5 := bstep hB4 hb5
    go_wp2_with fail
    refine (HN1.out _).mono ?_
    rintro e w6 ⟨rfl, hb6⟩
    have hB6 := bstep hB5 hb6
    go_wp2_with fail
    refine (HN2.out _).mono ?_
    rintro e w7 ⟨rfl, hb7⟩
    have hB7 := bstep hB6 hb7
    go_wp2_with fail
    refine (HN3.out _).mono ?_
    rintro e w8 ⟨rfl, hb8⟩
    have hB8 := bstep hB7 hb8
    go_wp2_with fail
    refine (HN4.out _).mono ?_
    rintro e w9 ⟨rfl, hb9⟩
    have hB9 := bstep hB8 hb9
    go_wp2_with fail
    refine (HN5.out _).mono ?_
    rintro e w10 ⟨rfl, hb10⟩
    have hB10 := bstep hB9 hb10
    go_wp2_with fail
    refine (awake01_any mx w10 ((hB10.cell (p := ⟨0, 0, none⟩) hml).trans HM.out)).mono ?_
    rintro e w11 ⟨rfl, hb11⟩
    go_wp2
    go_ret
    exact ⟨rfl, bstep hB10 hb11⟩
  · have hr : regR (C : Int) = (0, false) := by unfold regR; rw [if_neg (by omega)]
    have hrg := fun w => reg_any (C : Int) w
    rw [hr] at hrg
    have hna := fun w => name_any 0 w
    rw [show nameR 0 = (97, true) from by decide] at hna
    have HRG := hidP hrg
    have HNA := hidP hna
    clear hr hrg hna
    by_cases h97 : 97 ≤ C
    · have g1 : (97 : Int) ≤ (C : Int) := by omega
      have g2 : ¬ (C : Int) < 103 := by omega
      clear hin
      go_enter Tryd.func8, Tryd.ntmps8
      go_wp2_with fail
      refine (HRG.out _).mono ?_
      rintro e w1 ⟨rfl, hb1⟩
      go_wp2_with fail
      refine (HNA.out _).mono ?_
      rintro e w2 ⟨rfl, hb2⟩
      have hB2 := bstep hb1 hb2
      go_wp2_with fail
      refine (name_any 6 _).mono ?_
      rw [show nameR 6 = (0, false) from by decide]
      rintro e w3 ⟨rfl, hb3⟩
      have hB3 := bstep hB2 hb3
      go_wp2_with fail
      refine (name_any (-1) _).mono ?_
      rw [show nameR (-1) = (0, false) from by decide]
      rintro e w4 ⟨rfl, hb4⟩
      have hB4 := bstep hB3 hb4
      go_wp2_with fail
      refine (HDG.out _).mono ?_
      rintro e w5 ⟨rfl, hb5⟩
      have hB5 := bstep hB4 hb5
      go_wp2_with fail
      refine (HN1.out _).mono ?_
      rintro e w6 ⟨rfl, hb6⟩
      have hB6 := bstep hB5 hb6
      go_wp2_with fail
      refine (HN2.out _).mono ?_
      rintro e w7 ⟨rfl, hb7⟩
      have hB7 := bstep hB6 hb7
      go_wp2_with fail
      refine (HN3.out _).mono ?_
      rintro e w8 ⟨rfl, hb8⟩
      have hB8 := bstep hB7 hb8
      go_wp2_with fail
      refine (HN4.out _).mono ?_
      rintro e w9 ⟨rfl, hb9⟩
      have hB9 := bstep hB8 hb9
      go_wp2_with fail
      refine (HN5.out _).mono ?_
      rintro e w10 ⟨rfl, hb10⟩
      have hB10 := bstep hB9 hb10
      go_wp2_with fail
      refine (awake01_any mx w10 ((hB10.cell (p := ⟨0, 0, none⟩) hml).trans HM.out)).mono ?_
      rintro e w11 ⟨rfl, hb11⟩
      go_wp2
      go_ret
      exact ⟨rfl, bstep hB10 hb11⟩
    · have g1 : ¬ (97 : Int) ≤ (C : Int) := by omega
      clear hin
      go_enter Tryd.func8, Tryd.ntmps8
      go_wp2_with fail
      refine (HRG.out _).mono ?_
      rintro e w1 ⟨rfl, hb1⟩
      go_wp2_with fail
      refine (HNA.out _).mono ?_
      rintro e w2 ⟨rfl, hb2⟩
      have hB2 := bstep hb1 hb2
      go_wp2_with fail
      refine (name_any 6 _).mono ?_
      rw [show nameR 6 = (0, false) from by decide]
      rintro e w3 ⟨rfl, hb3⟩
      have hB3 := bstep hB2 hb3
      go_wp2_with fail
      refine (name_any (-1) _).mono ?_
      rw [show nameR (-1) = (0, false) from by decide]
      rintro e w4 ⟨rfl, hb4⟩
      have hB4 := bstep hB3 hb4
      go_wp2_with fail
      refine (HDG.out _).mono ?_
      rintro e w5 ⟨rfl, hb5⟩
      have hB5 := bstep hB4 hb5
      go_wp2_with fail
      refine (HN1.out _).mono ?_
      rintro e w6 ⟨rfl, hb6⟩
      have hB6 := bstep hB5 hb6
      go_wp2_with fail
      refine (HN2.out _).mono ?_
      rintro e w7 ⟨rfl, hb7⟩
      have hB7 := bstep hB6 hb7
      go_wp2_with fail
      refine (HN3.out _).mono ?_
      rintro e w8 ⟨rfl, hb8⟩
      have hB8 := bstep hB7 hb8
      go_wp2_with fail
      refine (HN4.out _).mono ?_
      rintro e w9 ⟨rfl, hb9⟩
      have hB9 := bstep hB8 hb9
      go_wp2_with fail
      refine (HN5.out _).mono ?_
      rintro e w10 ⟨rfl, hb10⟩
      have hB10 := bstep hB9 hb10
      go_wp2_with fail
      refine (awake01_any mx w10 ((hB10.cell (p := ⟨0, 0, none⟩) hml).trans HM.out)).mono ?_
      rintro e w11 ⟨rfl, hb11⟩
      go_wp2
      go_ret
      exact ⟨rfl, bstep hB10 hb11⟩

theorem textNamesW (w : World) (c : Int) (hc : -9223372036854775808 ≤ c ∧ c ≤ 9223372036854775807) (n : Int) (hn : -9223372036854775808 ≤ n ∧ n ≤ 9223372036854775807) (hm : ∃ mx, w.cell? ⟨0, 0, none⟩ = some (.int .i64 mx)) :
    Calls Tryd.prog 8 #[.int .i64 c, .int .i64 n] w fun e w' => e = .returned (.bool true) ∧ Below w.heap.size w w' := by
  obtain ⟨mx, hm⟩ := hm
  exact textNames_any c n mx w hm
end Go.Proofs.YtdelflahmlfnfaaDoor
