/-
  Parts of the proof: PBigW.
-/
import Derived.Test.YtklfboidjnchoaaGreatDoorZ11
import Derived.Test.YtklfboidjnchoaaGreatDoorZ18
namespace Go.Proofs.YtklfboidjnchoaaGreatDoor
open Go.RowKit Go.Proofs.YtklfboidjnchoaaGreatDoorW.PrintWords
set_option linter.unusedVariables false
set_option linter.unusedSimpArgs false
def bigA (i : Nat) : List Nat := [61, 97, 57, 57, 57, 57, 10] ++ (List.range i).flatMap fun _ => [43, 97, 97, 10]
theorem bigA_succ (i : Nat) : strA (bigA i) ++ strA [43, 97, 97, 10] = strA (bigA (i + 1)) := by
  rw [strA_app]
  unfold bigA
  rw [List.range_succ, List.flatMap_append, ← List.append_assoc]
  rfl
theorem bigA_len : ∀ i, i < 40 → (bigA i).length ≤ 200 := by decide +kernel
theorem bigA_end (n : Nat) : strA (bigA n) ++ strA [111, 97, 10, 120] = strA (bigT n) := by rw [strA_app]; rfl
theorem bigV_zero : bigV 0 = 9999 := by decide
theorem bigV_succ (i : Nat) : bigV (i + 1) = 2 * bigV i := by unfold bigV; rw [Int.pow_succ]; omega
theorem bigV_le : ∀ i, i < 33 → 0 ≤ bigV i ∧ bigV i ≤ 50000000000000 := by decide +kernel
set_option maxRecDepth 100000 in
set_option maxHeartbeats 3200000 in
theorem plainBig_any (a : Int) (w : World) (hbl : Blanks w) :
    Calls Tryz.prog 10 #[.int .i64 a] w fun e w' => e = .returned (.bool true) ∧ Below w.heap.size w w' := by
  obtain ⟨m1, m2, m3⟩ := modN_spec a 8 (by omega) (by omega)
  obtain ⟨k, hk⟩ : ∃ k, modN a 8 = k := ⟨_, rfl⟩
  rw [hk] at m1 m2 m3
  have m1' : (IntKind.u64.wrap a).tmod 8 = (k : Int) := m1
  have hg := big_good (25 + k) (by omega)
  have hru := big_run (25 + k) (by omega)
  have hev : (bigM (25 + k)).events.length ≤ 1000000 := runR_few hg.2.2.2.2.2 (by rw [picksL_len]; omega)
  have hrn : ∀ w, Blanks w → Calls Tryz.prog 20 #[.string (strA (bigT (25 + k))), .int .i64 (25 + (k : Int) + 5)] w (RunPost w (bigM (25 + k))) := by
    have e : 25 + (k : Int) + 5 = ((25 + k + 5 : Nat) : Int) := by omega
    rw [e]
    exact fun w hbl => lrun_any (load_good hg) hg.2.2.2.2.2 (by rw [strA_size]; have := hg.2.2.1; omega) (25 + k + 5) (by omega) w hbl
  generalize bigM (25 + k) = M at *
  have HRN := hidP hrn
  have HRU := hidP hru
  have HBL := hidP hbl
  have HM := hidP m2
  have k0 : (0 : Int) ≤ (k : Int) := by omega
  have k8 : (k : Int) < 8 := by omega
  clear m1 hk hg hrn hru hbl
  go_enter Tryz.func10, Tryz.ntmps10
  go_wp2_with fail
  go_loop [3, 4] (fun v3 v4 => ∃ i : Nat, v3 = .string (strA (bigA i)) ∧ v4 = .int .i64 i ∧ i ≤ 25 + k) (fun _ v4 => 25 + k - (intOf v4).toNat)
  case atStart => exact ⟨0, rfl, rfl, by omega⟩
  case round =>
    obtain ⟨i, rfl, rfl, hi⟩ := hrel
    have hlen := bigA_len i (by have := HM.out; omega)
    have hsz := strA_size (bigA i)
    have hsu := bigA_succ i
    have hfin := bigA_end i
    obtain ⟨T, hT⟩ : ∃ T, strA (bigA i) = T := ⟨_, rfl⟩
    rw [hT] at hsz hsu hfin ⊢
    obtain ⟨sT, hsT⟩ : ∃ sT, T.size = sT := ⟨_, rfl⟩
    have hsl : sT ≤ 200 := by omega
    have HSU := hidP hsu
    have HFI := hidP hfin
    clear hT hsz hlen hsu hfin
    by_cases hlt : i < 25 + k
    · have lt1 : (i : Int) < 25 + (k : Int) := by omega
      go_wp2_with fail
      go_round
      case rel => exact ⟨i + 1, by rw [← HSU.out]; rfl, by go_num, by omega⟩
      case measure => simp [intOf]; omega
    · obtain rfl : i = 25 + k := by omega
      have lt1 : ¬ (((25 + k : Nat)) : Int) < 25 + (k : Int) := by omega
      have HRW2 := hidP (HFI.out ▸ HRN.out w HBL.out)
      have HB0 := hidP (brefl w)
      go_upto_region 7 with fail
      go_wp2_with fail
      go_at_call 20
      refine HRW2.out.mono ?_
      rintro e w3 hret
      obtain ⟨ea, ec, sa, sc, rfl, h1, h2, h3⟩ := hret.open
      obtain ⟨ne, hne⟩ : ∃ ne, M.events.length = ne := ⟨_, rfl⟩
      obtain ⟨ns, hns⟩ : ∃ ns, M.steps.length = ns := ⟨_, rfl⟩
      rw [hne, hns]
      have H1 := hidP h1
      rw [hne] at H1
      have HNE := hidP hne
      have HB3 := hidP (bstep HB0.out h3)
      have HEV := hidP (hne ▸ hev)
      obtain ⟨oc, hoc⟩ : ∃ oc, M.outcome = oc := ⟨_, rfl⟩
      rw [hoc]
      have HOC := hidP hoc
      clear h1 h2 h3 hret hns hoc hne hev
      go_wp2_with fail
      go_loop [6, 7, 8] (fun v6 v7 v8 => ∃ j : Nat, v6 = .int .i64 (bigV j) ∧ v7 = .bool (decide (1099511627776 < bigV j)) ∧ v8 = .int .i64 j ∧ j ≤ 25 + k) (fun _ _ v8 => 25 + k - (intOf v8).toNat)
      case atStart => exact ⟨0, by rw [bigV_zero], by rw [bigV_zero]; rfl, rfl, by omega⟩
      case round =>
        obtain ⟨j, rfl, rfl, rfl, hj⟩ := hrel
        have hvl := bigV_le j (by have := HM.out; omega)
        by_cases hlt : j < 25 + k
        · have hvs := bigV_succ j
          obtain ⟨V, hV⟩ : ∃ V, bigV j = V := ⟨_, rfl⟩
          rw [hV] at hvl hvs ⊢
          have HVS := hidP hvs
          have lt2 : (j : Int) < 25 + (k : Int) := by omega
          obtain ⟨v0, v1⟩ := hvl
          clear hV hvs
          by_cases hb : 1099511627776 < V
          · have hd : decide (1099511627776 < V) = true := by simp [hb]
            have hd2 : decide (1099511627776 < 2 * V) = true := by simp; omega
            rw [hd]
            go_wp2_with fail
            go_round
            case rel => exact ⟨j + 1, by rw [HVS.out], by rw [HVS.out, hd2], by go_num, by omega⟩
            case measure => simp [intOf]; omega
          · have hd : decide (1099511627776 < V) = false := by simp [hb]
            rw [hd]
            go_wp2_with fail
            go_round
            case rel => exact ⟨j + 1, by rw [HVS.out], by rw [HVS.out], by go_num, by omega⟩
            case measure => simp [intOf]; omega
        · obtain rfl : j = 25 + k := by omega
          have lt2 : ¬ (((25 + k : Nat)) : Int) < 25 + (k : Int) := by omega
          have hru := HRU.out
          obtain ⟨V, hV⟩ : ∃ V, bigV (25 + k) = V := ⟨_, rfl⟩
          rw [hV] at hvl hru ⊢
          obtain ⟨v0, v1⟩ := hvl
          clear hV
          by_cases hb : 1099511627776 < V
          · rw [if_pos hb] at hru
            have hd : decide (1099511627776 < V) = true := by simp [hb]
            have hoc : oc = 7 := HOC.out.symm.trans hru.1
            subst hoc
            rw [hd]
            have HR := hidP hru
            clear hru
            go_wp2_with fail
            go_at_call 14
            with_reducible refine (awakeP_any _ (HBL.out.below (bnew HB3.out _))).mono ?_
            rintro e w4 ⟨rfl, hb4⟩
            have hr4 := (hb4.block w3.heap.size (by simp)).trans (heap_alloc_new w3 (.cells #[.slice ea ne ec, .int .i64 7, .slice sa ns sc] 31))
            have g0 := cell_of_row w4 w3.heap.size 0 _ _ (0, 0) hr4
            have g1 := cell_of_row w4 w3.heap.size 1 _ _ (0, 0) hr4
            have g2 := cell_of_row w4 w3.heap.size 2 _ _ (0, 0) hr4
            simp at g0 g1 g2
            have HB4 := hidP (bstep (bnew (brefl w3) _) hb4)
            have HB34 := hidP (bstep HB3.out HB4.out)
            clear hr4 hb4
            go_wp2_with fail
            go_at_call 21
            with_reducible refine (outs_any ea sa ne ec ns sc 7 M.events w4 ((owns_row H1.out).below HB4.out) HNE.out HEV.out).mono ?_
            rintro e w5 ⟨A, c, rfl, ho5, hb5⟩
            rw [HR.out.2] at ho5 ⊢
            have HO5 := hidP ho5
            have HB5 := hidP (bstep HB34.out hb5)
            clear ho5 hb5
            go_wp2_with fail
            go_ret
            exact ⟨rfl, HB5.out⟩
          · rw [if_neg hb] at hru
            have hd : decide (1099511627776 < V) = false := by simp [hb]
            have hoc : oc = 1 := HOC.out.symm.trans hru.1
            subst hoc
            rw [hd]
            have HR := hidP hru
            clear hru
            go_wp2_with fail
            go_at_call 14
            with_reducible refine (awakeP_any _ (HBL.out.below (bnew HB3.out _))).mono ?_
            rintro e w4 ⟨rfl, hb4⟩
            have hr4 := (hb4.block w3.heap.size (by simp)).trans (heap_alloc_new w3 (.cells #[.slice ea ne ec, .int .i64 1, .slice sa ns sc] 31))
            have g0 := cell_of_row w4 w3.heap.size 0 _ _ (0, 0) hr4
            have g1 := cell_of_row w4 w3.heap.size 1 _ _ (0, 0) hr4
            have g2 := cell_of_row w4 w3.heap.size 2 _ _ (0, 0) hr4
            simp at g0 g1 g2
            have HB4 := hidP (bstep (bnew (brefl w3) _) hb4)
            have HB34 := hidP (bstep HB3.out HB4.out)
            clear hr4 hb4
            go_wp2_with fail
            go_at_call 21
            with_reducible refine (outs_any ea sa ne ec ns sc 1 M.events w4 ((owns_row H1.out).below HB4.out) HNE.out HEV.out).mono ?_
            rintro e w5 ⟨A, c, rfl, ho5, hb5⟩
            rw [HR.out.2] at ho5 ⊢
            have HO5 := hidP ho5
            have HB5 := hidP (bstep HB34.out hb5)
            clear ho5 hb5
            go_wp2_with fail
            go_at_call 24
            with_reducible refine (plainInt_any A _ 1 1 c 1 [V] [V] _ ?_ ?_ rfl rfl (by decide)).mono ?_
            · exact (owns_row HO5.out).alloc _
            · exact row_new _ _ _ _ rfl
            rintro e w6 ⟨rfl, hb6⟩
            rw [decide_eq_true rfl]
            go_wp2_with fail
            go_ret
            exact ⟨rfl, bstep (bnew HB5.out _) hb6⟩
theorem plainBigW (W : World) (a0 : Int) (b0 : -9223372036854775808 ≤ a0 ∧ a0 ≤ 9223372036854775807) (he : Env W) :
    Calls Tryz.prog 10 #[.int .i64 a0] W fun e w' => e = .returned (.bool true) ∧ Below W.heap.size W w' := plainBig_any a0 W he.bl
end Go.Proofs.YtklfboidjnchoaaGreatDoor
