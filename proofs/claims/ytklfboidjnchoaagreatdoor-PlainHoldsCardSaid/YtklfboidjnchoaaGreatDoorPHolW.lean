/-
  Parts of the proof: PHolW.
-/
import Derived.Test.YtklfboidjnchoaaGreatDoorZ11
import Derived.Test.YtklfboidjnchoaaGreatDoorZ18
namespace Go.Proofs.YtklfboidjnchoaaGreatDoor
open Go.RowKit Go.Proofs.YtklfboidjnchoaaGreatDoorW.PrintWords
set_option linter.unusedVariables false
set_option linter.unusedSimpArgs false
theorem holA_zero (p : Nat) (hp : p < 100) : strA [108, 97, 98, 10, 111, 98, 10, 107, 97, 98, 10, 111, 98, 10, 109, 97] ++ decB p ++ strA [10] = strA (holA p 0) := by
  rw [← strA_decN, digs_two hp, strA_app, strA_app]
  unfold holA dec2
  simp
theorem holA_succ (p i : Nat) : strA (holA p i) ++ strA [115, 97, 98, 10] = strA (holA p (i + 1)) := by
  rw [strA_app]
  unfold holA
  rw [List.range_succ, List.flatMap_append, ← List.append_assoc]
  rfl
theorem holA_len : ∀ p, p < 4 → ∀ i, i < 5 → (holA p i).length ≤ 60 := by decide +kernel
set_option maxRecDepth 100000 in
set_option maxHeartbeats 3200000 in
theorem plainHolds_any (a b : Int) (w : World) (hbl : Blanks w) :
    Calls Tryz.prog 11 #[.int .i64 a, .int .i64 b] w fun e w' => e = .returned (.bool true) ∧ Below w.heap.size w w' := by
  obtain ⟨m1, m2, m3⟩ := modN_spec a 4 (by omega) (by omega)
  obtain ⟨p, hp⟩ : ∃ p, modN a 4 = p := ⟨_, rfl⟩
  rw [hp] at m1 m2 m3
  obtain ⟨n1, n2, n3⟩ := modN_spec b (p + 1) (by omega) (by omega)
  obtain ⟨q, hq⟩ : ∃ q, modN b (p + 1) = q := ⟨_, rfl⟩
  rw [hq] at n1 n2 n3
  have m1' : (IntKind.u64.wrap a).tmod 4 = (p : Int) := m1
  have n1' : (IntKind.u64.wrap b).tmod ((p : Int) + 1) = (q : Int) := by have e : (((p + 1 : Nat)) : Int) = (p : Int) + 1 := by omega
                                                                         rw [← e]; exact n1
  have hw : IntKind.u64.wrap ((p : Int) + 1) = (p : Int) + 1 := by rw [IntKind.wrap_u64]; omega
  have hg := hol_good p m2 q n2
  obtain ⟨r1, r2⟩ := hol_run p m2 q n2
  have hev : (holM p q).events.length ≤ 1000000 := runR_few hg.2.2.2.2.2 (by rw [picksL_len]; omega)
  have hrn : ∀ w, Blanks w → Calls Tryz.prog 20 #[.string (strA (holT p q)), .int .i64 20] w (RunPost w (holM p q)) := fun w hbl => lrun_any (load_good hg) hg.2.2.2.2.2 (by rw [strA_size]; have := hg.2.2.1; omega) 20 (by omega) w hbl
  generalize holM p q = M at *
  have hd1 := fun w => digits_any p (by omega) w
  have hsz1 := decB_le p (by omega)
  have hz := holA_zero p (by omega)
  obtain ⟨P, hP⟩ : ∃ P, decB p = P := ⟨_, rfl⟩
  rw [hP] at hsz1 hz
  simp only [hP] at hd1
  obtain ⟨sp, hsp⟩ : ∃ sp, P.size = sp := ⟨_, rfl⟩
  rw [hsp] at hsz1
  have HD1 := hidP hd1
  have HZ := hidP hz
  have HRN := hidP hrn
  have HR := hidP (⟨r1, r2⟩ : _ ∧ _)
  have HBL := hidP hbl
  have HM := hidP m2
  have p0 : (0 : Int) ≤ (p : Int) := by omega
  have p4 : (p : Int) < 4 := by omega
  have q0 : (0 : Int) ≤ (q : Int) := by omega
  have q4 : (q : Int) ≤ (p : Int) := by omega
  have pne : ((p : Int) + 1 == 0) = false := by simp; omega
  clear hP m1 n1 hp hq hg hrn r1 r2 hbl hd1 hz
  go_enter Tryz.func11, Tryz.ntmps11
  go_upto_region 4 with (go_at_call 19; with_reducible refine (HD1.out _).mono ?_; rintro e w1 ⟨rfl, hb1⟩)
  have HB0 := hidP hb1
  have HRW := hidP (HRN.out w1 (HBL.out.below hb1))
  clear hb1
  go_wp2_with fail
  go_loop [5, 6] (fun v5 v6 => ∃ i : Nat, v5 = .string (strA (holA p i)) ∧ v6 = .int .i64 i ∧ i ≤ q) (fun _ v6 => q - (intOf v6).toNat)
  case atStart => exact ⟨0, by rw [← HZ.out]; rfl, rfl, by omega⟩
  case round =>
    obtain ⟨i, rfl, rfl, hi⟩ := hrel
    have hlen := holA_len p HM.out i (by omega)
    have hsz := strA_size (holA p i)
    have hsu := holA_succ p i
    by_cases hlt : i < q
    · obtain ⟨T, hT⟩ : ∃ T, strA (holA p i) = T := ⟨_, rfl⟩
      rw [hT] at hsz hsu ⊢
      obtain ⟨sT, hsT⟩ : ∃ sT, T.size = sT := ⟨_, rfl⟩
      have hsl : sT ≤ 60 := by omega
      have HSU := hidP hsu
      clear hT hsz hlen hsu
      go_wp2_with fail
      go_round
      case rel => exact ⟨i + 1, by rw [← HSU.out]; rfl, by go_num, by omega⟩
      case measure => simp [intOf]; omega
    · obtain rfl : i = q := by omega
      have hfin : strA (holA p i) ++ strA [108, 97, 98, 10, 111, 98, 10, 107, 97, 98, 10, 111, 98, 10, 120] = strA (holT p i) := by rw [strA_app]; rfl
      obtain ⟨T, hT⟩ : ∃ T, strA (holA p i) = T := ⟨_, rfl⟩
      rw [hT] at hsz hfin ⊢
      have HRW2 := hidP (hfin ▸ HRW.out)
      obtain ⟨sT, hsT⟩ : ∃ sT, T.size = sT := ⟨_, rfl⟩
      have hsl : sT ≤ 60 := by omega
      clear hT hsz hlen hsu hfin
      go_upto_region 9 with fail
      go_wp2_with fail
      go_at_call 20
      refine HRW2.out.mono ?_
      rintro e w3 hret
      obtain ⟨ea, ec, sa, sc, rfl, h1, h2, h3⟩ := hret.open
      rw [HR.out.1]
      obtain ⟨ne, hne⟩ : ∃ ne, M.events.length = ne := ⟨_, rfl⟩
      obtain ⟨ns, hns⟩ : ∃ ns, M.steps.length = ns := ⟨_, rfl⟩
      rw [hne, hns]
      have H1 := hidP h1
      rw [hne] at H1
      have HNE := hidP hne
      have HB3 := hidP (bstep HB0.out h3)
      have HEV := hidP (hne ▸ hev)
      clear h1 h2 h3 hret hne hns hev
      go_wp2_with fail
      go_at_call 14
      with_reducible refine (awakeP_any _ (HBL.out.below (bnew HB3.out _))).mono ?_
      rintro e w4 ⟨rfl, hb4⟩
      have hr4 := (hb4.block w3.heap.size (by simp)).trans (heap_alloc_new w3 (.cells #[.slice ea ne ec, .int .i64 1, .slice sa ns sc] 31))
      have g0 := cell_of_row w4 w3.heap.size 0 _ _ (0, 0) hr4
      have g1 := cell_of_row w4 w3.heap.size 1 _ _ (0, 0) hr4
      have g2 := cell_of_row w4 w3.heap.size 2 _ _ (0, 0) hr4
      simp at g0 g1 g2
      have HB4 := hidP (bstep (bnew (brefl w3) _) hb4)
      have HB34 := hidP (bstep HB3.out HB4.out)
      clear hr4 hb4
      go_wp2_with fail
      go_at_call 21
      with_reducible refine (outs_any ea sa ne ec ns sc 1 M.events w4 ((owns_row H1.out).below HB4.out) HNE.out HEV.out).mono ?_
      rintro e w5 ⟨A, c, rfl, ho5, hb5⟩
      rw [HR.out.2] at ho5 ⊢
      have HO5 := hidP ho5
      have HB5 := hidP (bstep HB34.out hb5)
      clear ho5 hb5
      go_wp2_with fail
      go_at_call 24
      with_reducible refine (plainInt_any A _ 4 4 c 4 [0, 0, (i : Int), (p : Int)] [0, 0, (i : Int), (p : Int)] _ ?_ ?_ rfl rfl (by decide)).mono ?_
      · exact (owns_row HO5.out).alloc _
      · exact row_new _ _ _ _ rfl
      rintro e w6 ⟨rfl, hb6⟩
      rw [decide_eq_true rfl]
      go_wp2_with fail
      go_ret
      exact ⟨rfl, bstep (bnew HB5.out _) hb6⟩
theorem plainHoldsW (W : World) (a0 : Int) (b0 : -9223372036854775808 ≤ a0 ∧ a0 ≤ 9223372036854775807) (a1 : Int) (b1 : -9223372036854775808 ≤ a1 ∧ a1 ≤ 9223372036854775807) (he : Env W) :
    Calls Tryz.prog 11 #[.int .i64 a0, .int .i64 a1] W fun e w' => e = .returned (.bool true) ∧ Below W.heap.size W w' := plainHolds_any a0 a1 W he.bl
end Go.Proofs.YtklfboidjnchoaaGreatDoor
