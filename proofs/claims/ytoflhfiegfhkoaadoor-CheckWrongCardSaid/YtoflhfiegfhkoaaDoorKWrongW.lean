/-
  The walk of the law CheckWrong.
-/
import Derived.Test.YtoflhfiegfhkoaaDoorKWrong
namespace Go.Proofs.YtoflhfiegfhkoaaDoor
open Go.RowKit Go.Proofs.YtoflhfiegfhkoaaDoorW.PrintWords
set_option linter.unusedVariables false
set_option linter.unusedSimpArgs false

theorem cases_le {w : World} {A : Option Addr} {n : Nat} {l : List InstrD} (h : kI.C w A n l) : ∀ x ∈ l, x.cases.length ≤ 9223372036854775807 := fun x hx => by
  obtain ⟨i, hi⟩ := List.getElem?_of_mem hx
  obtain ⟨b, o, A4, c4, _, _, _, _, _, _, _, hC⟩ := instr_at h i x hi
  exact hC.2.1
theorem made_reads (w : World) : kI.C (w.alloc (.cells (madeCells (Value.agg #[(.int .i64 0), (.int .i64 0), (.int .i64 0), (.int .i64 0), (.slice none 0 0)]).cells 305) 37)) (some ⟨w.heap.size, 0, none⟩) (List.replicate 61 instrZ).length (List.replicate 61 instrZ) := by
  have hr := Kd.reps_made (R := kI.K (w.alloc (.cells (madeCells (Value.agg #[(.int .i64 0), (.int .i64 0), (.int .i64 0), (.int .i64 0), (.slice none 0 0)]).cells 305) 37))) (z := .agg #[(.int .i64 0), (.int .i64 0), (.int .i64 0), (.int .i64 0), (.slice none 0 0)]) (size := 5) (z0 := instrZ) rfl (by omega)
    (kI_mk _ instrZ (Nat.le_refl _) ⟨rfl, Nat.zero_le _, fun h => by simp [instrZ] at h⟩) 61
  refine reps_reads hr (by simp) (fun j u hj => ?_)
  rw [cell_of_row _ _ j _ 37 (0, 0) (heap_alloc_new w _)]
  simpa using hj
theorem make61 : ∀ W : World, (Instr.makeSlice 22 (.int .i64 61) (.int .i64 61)).run Tryd.prog W = .ok (.slice (some ⟨W.heap.size, 0, none⟩) 61 61) (W.alloc (.cells (madeCells (Value.agg #[(.int .i64 0), (.int .i64 0), (.int .i64 0), (.int .i64 0), (.slice none 0 0)]).cells 305) 37)) := by
  intro W
  obtain ⟨i0, hi, hzz⟩ := Option.map_eq_some_iff.1 Tryd.infoI
  simp only [Prod.mk.injEq] at hzz
  obtain ⟨hz0, hz1, hz2⟩ := hzz
  have hr := run_make (P := Tryd.prog) W 22 37 i0 _ Tryd.underlying22 hi hz0 .i64 .i64 (61 : Int) (61 : Int) (by omega) (by omega) (by rw [hz2]; omega) (by omega)
  have h5 : i0.size = 5 := hz1
  rw [h5] at hr
  exact hr

set_option maxRecDepth 100000 in
set_option maxHeartbeats 12800000 in
theorem checkWrong_any (A : Option Addr) (d : Nat) (l : List InstrD) (what wher : Int) (w : World) (h : kI.C w A l.length l) (he : Env w) :
    Calls Tryd.prog 5 #[.slice A l.length d, .int .i64 what, .int .i64 wher] w fun e w' => e = .returned (.bool true) ∧ Below w.heap.size w w' := by
  have hfew := few_any A d l w h
  have haw := fun w1 (hb : Below w.heap.size w w1) => awake03_any w1 (he.below hb)
  have hpc := pcode_any A d l w h
  have hplen := pcode_len l
  obtain ⟨W, hW1, hW2, hW3⟩ := modK what 21 (by omega) (by omega)
  have hW1' : (IntKind.u64.wrap what).tmod 21 = (W : Int) := hW1
  have HF := hidP hfew
  have HAW := hidP haw
  have HPC := hidP hpc
  have HEN := hidP he
  have hbad := fun (k : Nat) (hk : k ≤ (pcodeR l).length) => wrong_valid l k ((badL (pcodeR l).length).getD W instrZ) (wantB W) hk (bad_look _ W hplen.2 hW2) (by unfold wantB; split <;> omega)
  obtain ⟨M, hM⟩ : ∃ M, pcodeR l = M := ⟨_, rfl⟩
  rw [hM] at hplen
  simp only [hM] at hbad
  have HPC2 := hidP (hM ▸ HPC.out)
  have HBAD := hidP hbad
  obtain ⟨n, hn⟩ : ∃ n, M.length = n := ⟨_, rfl⟩
  rw [hn] at hplen
  obtain ⟨hn1, hn40⟩ := hplen
  have HNM := hidP hn
  have HPC3 := hidP (hn ▸ HPC2.out)
  obtain ⟨ln, hln⟩ : ∃ ln, l.length = ln := ⟨_, rfl⟩
  have HF2 := hidP (hln ▸ HF.out)
  have HPC4 := hidP (hln ▸ HPC3.out)
  rw [hln]
  have hkb := pmod_bounds wher ((n : Int) + 1) (by omega)
  obtain ⟨k, hk⟩ : ∃ k : Nat, pmod wher ((n : Int) + 1) = (k : Int) := ⟨(pmod wher ((n : Int) + 1)).toNat, by omega⟩
  rw [hk] at hkb
  have hkn : k ≤ n := by omega
  have hk' : (IntKind.u64.wrap wher).tmod ((n : Int) + 1) = (k : Int) := hk
  have i1 : IntKind.i64.wrap ((n : Int) + 1) = (n : Int) + 1 := IntWalk.i64_in _ (by omega)
  have i2 : IntKind.u64.wrap ((n : Int) + 1) = (n : Int) + 1 := by rw [IntKind.wrap_u64]; omega
  have i3 : wrap64 (k : Int) = (k : Int) := IntWalk.wrap64_in _ (by omega)
  have i4 : ((n : Int) + 1 == 0) = false := by simp; omega
  have i5 : (n : Int) + 1 ≠ 0 := by omega
  clear hfew haw hpc hW1 he h hM hbad hn hln hk hkb HF HPC HPC2 HPC3
  go_enter Tryd.func5, Tryd.ntmps5
  go_wp2_with fail
  with_reducible refine HF2.out.mono ?_
  rintro e w1 ⟨⟨b, rfl⟩, hw1⟩
  have hw1' := hw1.symm
  subst hw1'
  clear hw1
  cases b
  · go_wp2_with fail
    with_reducible refine (HAW.out _ (brefl _)).mono ?_
    rintro e w2 ⟨rfl, hb2⟩
    go_wp2
    go_ret
    exact ⟨rfl, hb2⟩
  go_wp2_with fail
  with_reducible refine HPC4.out.mono ?_
  rintro e w1 ⟨B, c, rfl, hlc, hmc, hb1⟩
  have HMC := hidP hmc
  clear HPC4 HF2 hmc
  go_upto_region 7 with fail
  change Code.wp _ _ _ _ (allocs w1 (badO n w1.heap.size))
  have hb12 := allocs_below (badO n w1.heap.size) w1
  have hsz2 : (allocs w1 (badO n w1.heap.size)).heap.size = w1.heap.size + 7 := allocs_size _ _
  have hbr : kI.C (allocs w1 (badO n w1.heap.size)) (some ⟨w1.heap.size + 1 + 1 + 1 + 1 + 1 + 1, 0, none⟩) 21 (badL n) := bad_reads w1 n
  have hgl : w1.heap.size + 1 + 1 + 1 + 1 + 1 + 1 < (allocs w1 (badO n w1.heap.size)).heap.size := by omega
  generalize w1.heap.size + 1 + 1 + 1 + 1 + 1 + 1 = G at *
  generalize allocs w1 (badO n w1.heap.size) = w2 at *
  have hb2 := bstep hb1 hb12
  obtain ⟨x, hx⟩ : ∃ x, (badL n)[W]? = some x := ⟨_, List.getElem?_eq_getElem (show W < (badL n).length from hW2)⟩
  have hxW : (badL n).getD W instrZ = x := by rw [List.getD_eq_getElem?_getD, hx]; rfl
  obtain ⟨b', o', A4, c4, hA, x0, x1, x2, x3, x4, hle, hxc⟩ := instr_at hbr W x hx
  simp only [Option.some.injEq, Addr.mk.injEq, and_true] at hA
  obtain ⟨rfl, rfl⟩ := hA
  simp only [Nat.zero_add] at x0 x1 x2 x3 x4
  have hKx : kI.K w2 x (instrC x (.slice A4 x.cases.length c4)) := kI_mk w2 x hle hxc
  obtain ⟨mc, hmr, hmrow⟩ := kI_inner (Kd.C_below HMC.out hb12)
  have HBAD2 := hidP (hxW ▸ HNM.out ▸ HBAD.out)
  obtain ⟨WB, hWB⟩ : ∃ WB, wantB W = WB := ⟨_, rfl⟩
  rw [hWB] at HBAD2
  have HWB := hidP hWB
  have hmcl : mc.length = n * 5 := by rw [hmr.1, HNM.out]
  have hT : RowAt w2 B (mc.take (k * 5)) := hmrow.take _
  have hD : RowAt w2 (cutA B k c 5) (mc.drop (k * 5)) := hmrow.cut k c 5 (by rw [hmcl]; omega)
  have hlT : (mc.take (k * 5)).length = k * 5 := by rw [List.length_take, hmcl]; omega
  have hlD : (mc.drop (k * 5)).length = (n - k) * 5 := by rw [List.length_drop, hmcl]; omega
  have hone := reps_one' hmr
  have hoT : ∀ u ∈ mc.take (k * 5), u.oneCell' = true := fun u hu => hone u (List.mem_of_mem_take hu)
  have hoD : ∀ u ∈ mc.drop (k * 5), u.oneCell' = true := fun u hu => hone u (List.mem_of_mem_drop hu)
  have hALL : Reps (kI.K w2) 5 (M.take k ++ [x] ++ M.drop k) (mc.take (k * 5) ++ instrC x (.slice A4 x.cases.length c4) ++ mc.drop (k * 5)) := reps_append (reps_append (reps_take hmr k) (reps_1 hKx rfl)) (reps_drop hmr k)
  have hAl : (M.take k ++ [x] ++ M.drop k).length = n + 1 := by rw [List.length_append, List.length_append, List.length_take, List.length_drop, HNM.out, List.length_singleton]; omega
  have HBAD3 : Hid (validR (M.take k ++ [x] ++ M.drop k) = ((k : Int) + 1, WB)) := HBAD2.out k hkn
  obtain ⟨xo, xa, xb, xn, xc⟩ := x
  obtain ⟨ALL, hALLe⟩ : ∃ ALL, M.take k ++ [(⟨xo, xa, xb, xn, xc⟩ : InstrD)] ++ M.drop k = ALL := ⟨_, rfl⟩
  rw [hALLe] at hALL hAl HBAD3
  dsimp only at x0 x1 x2 x3 x4 hle hxc
  simp only [instrC] at hALL
  obtain ⟨m, hm⟩ : ∃ m, xc.length = m := ⟨_, rfl⟩
  rw [hm] at x4 hALL
  have HALL := hidP hALL
  have HAL := hidP hAl
  have HT := hidP hT
  have HD := hidP hD
  have HLT := hidP hlT
  have HLD := hidP hlD
  have HOT := hidP hoT
  have HOD := hidP hoD
  obtain ⟨TC, hTC⟩ : ∃ TC, mc.take (k * 5) = TC := ⟨_, rfl⟩
  obtain ⟨DC, hDC⟩ : ∃ DC, mc.drop (k * 5) = DC := ⟨_, rfl⟩
  rw [hTC] at HALL HT HLT HOT
  rw [hDC] at HALL HD HLD HOD
  have HGL := hidP hgl
  clear hm hALLe hALL hAl hT hD hlT hlD hoT hoD hone hmr hmrow hKx hle hxc hx hxW hbr hWB hmcl hsz2 HBAD HBAD2 hTC hDC hgl HMC
  go_upto_region 9 with fail
  go_cut [90] from 81 to 90 (fun v90 wx => v90 = .bool (decide (WB = 6)) ∧ w2 = wx)
  case first =>
    clear x0 x1 x2 x3 x4
    by_cases h11 : W = 11
    · subst h11
      go_wp2_with fail
      go_meet
      exact ⟨by rw [← HWB.out]; rfl, rfl⟩
    by_cases h12 : W = 12
    · subst h12
      go_wp2_with fail
      go_meet
      exact ⟨by rw [← HWB.out]; rfl, rfl⟩
    by_cases h18 : W = 18
    · subst h18
      go_wp2_with fail
      go_meet
      exact ⟨by rw [← HWB.out]; rfl, rfl⟩
    have t11 : ((W : Int) == 11) = false := by simp; omega
    have t12 : ((W : Int) == 12) = false := by simp; omega
    have t18 : ((W : Int) == 18) = false := by simp; omega
    have HW5 : Hid (wantB W = 5) := by show _ = _; unfold wantB; rw [if_neg (by omega)]
    clear h11 h12 h18
    go_wp2_with fail
    go_meet
    exact ⟨by rw [← HWB.out, HW5.out]; rfl, rfl⟩
  case rest =>
  obtain ⟨rfl, rfl⟩ := hcut
  have hwb : WB = 6 ∨ WB = 5 := by rw [← HWB.out]; unfold wantB; split <;> simp
  go_upto_if 90 with fail
  go_cut [12] (fun v12 wx => v12 = .int .i64 WB ∧ w2 = wx)
  case first =>
    rcases hwb with rfl | rfl
    · have t6 : decide ((6 : Int) = 6) = true := rfl
      go_wp2_with fail
      go_meet
      exact ⟨rfl, rfl⟩
    · have t6 : decide ((5 : Int) = 6) = false := rfl
      go_wp2_with fail
      go_meet
      exact ⟨rfl, rfl⟩
  case rest =>
  obtain ⟨rfl, rfl⟩ := hcut
  clear hwb
  go_upto_region 11 with fail
  have j1 : (k : Int) ≤ (c : Int) := by omega
  have j2 : (k : Int) ≤ (n : Int) := by omega
  have j3 : (W : Int) < 21 := by omega
  have hn41 : (n + 1) * 56 ≤ 140737488355328 := by omega
  clear hW1' i1 i2 i4 i5 hk'
  go_cut [13] from 91 to 104 (fun v13 wx => ∃ a8 c8, v13 = .slice a8 (n + 1) c8 ∧ Hid (kI.C wx a8 (n + 1) ALL) ∧ Below w2.heap.size w2 wx)
  case first =>
    go_region_law
      (first
        | (refine step_appB _ (by rfl) (.const (.slice none 0 0)) (.tmp 93) (by rfl) Tryd.slI w2 (by first | exact (brefl w2).drew | exact (bnew (brefl w2) _).drew) (.slice none 0 0) 0 [] (by rfl) (World.ownsRow_nil _ _ _ _) B k c TC (by simp [Act.eval, Act.put]) k (by omega) (by first | exact HT.out | exact HT.out.alloc _) HLT.out HOT.out (by omega) (by unfold maxLen; omega) ?_; intro a6 c6 w6 ho6 hb6 hs6 hw6 hp6; have d0 := pw_cell_below hb6 x0; have d1 := pw_cell_below hb6 x1; have d2 := pw_cell_below hb6 x2; have d3 := pw_cell_below hb6 x3; have d4 := pw_cell_below hb6 x4)
        | (refine step_appB _ (by rfl) (.tmp 94) (.tmp 99) (by rfl) Tryd.slI w2 (by first | exact hb6 | exact bnew hb6 _) (.slice a6 k c6) k ([] ++ TC) (by simp [Act.eval, Act.put]) (by first | exact ho6 | exact ho6.alloc _) _ 1 1 [.int .i64 xo, .int .i64 xa, .int .i64 xb, .int .i64 xn, .slice A4 m c4] (by simp [Act.eval, Act.put]; first | done | rfl) (k + 1) (by omega) (by first | exact RowAt.new w6 [.int .i64 xo, .int .i64 xa, .int .i64 xb, .int .i64 xn, .slice A4 m c4] _ | exact hp6 w2.heap.size _ (by simp) (by simp [Value.ownBlock]) (RowAt.new w2 [.int .i64 xo, .int .i64 xa, .int .i64 xb, .int .i64 xn, .slice A4 m c4] _)) (by rfl) (by simp [Value.oneCell']) (by omega) (by unfold maxLen; omega) ?_; intro a7 c7 w7 ho7 hb7 hs7 hw7 hp7)
        | (refine step_appB _ (by rfl) (.tmp 100) (.tmp 103) (by rfl) Tryd.slI w2 hb7 (.slice a7 (k + 1) c7) (k + 1) ([] ++ TC ++ [.int .i64 xo, .int .i64 xa, .int .i64 xb, .int .i64 xn, .slice A4 m c4]) (by simp [Act.eval, Act.put]) ho7 (cutA B k c 5) (n - k) (c - k) DC (by simp [Act.eval, Act.put]) (n + 1) (by omega) (HD.out.below hb7) HLD.out HOD.out (by omega) (by unfold maxLen; omega) ?_; intro a8 c8 w8 ho8 hb8 hs8 hw8 hp8)
        | fail)
    all_goals
      go_wp2_with fail
      go_meet
      have hr8 : Reps (kI.K w8) 5 ALL ([] ++ TC ++ [.int .i64 xo, .int .i64 xa, .int .i64 xb, .int .i64 xn, .slice A4 m c4] ++ DC) := reps_world hb8 HALL.out
      obtain ⟨A9, c9, e9, hC9⟩ := own_reads_row ho8 hr8 HAL.out
      cases e9
      exact ⟨a8, c8, rfl, hC9, hb8⟩
  case rest =>
  obtain ⟨a8, c8, rfl, HC8, hb28⟩ := hcut
  clear x0 x1 x2 x3 x4 HT HD HLT HLD HOT HOD HALL HWB
  obtain ⟨w3, e3⟩ : ∃ w3, w3 = wc := ⟨_, rfl⟩
  subst e3
  have hB3 := bstep hb2 hb28
  have hval := valid_any a8 c8 ALL w3 (HEN.out.below hB3).bl (by rw [HAL.out]; exact HC8.out) (cases_le HC8.out)
  rw [HBAD3.out, HAL.out] at hval
  have HVAL := hidP hval
  have hk1 : IntKind.i64.wrap ((k : Int) + 1) = (k : Int) + 1 := IntWalk.i64_in _ (by omega)
  clear hval
  go_wp2_with fail
  with_reducible refine HVAL.out.mono ?_
  rintro e w4 ⟨rfl, hb4⟩
  have hB4 := bstep hB3 hb4
  have hB5 := bnew hB4 (.cells (madeCells (Value.agg #[(.int .i64 0), (.int .i64 0), (.int .i64 0), (.int .i64 0), (.slice none 0 0)]).cells 305) 37)
  have hmk := make61
  have hmade := valid_any (some ⟨w4.heap.size, 0, none⟩) 61 (List.replicate 61 instrZ) _ (HEN.out.below hB5).bl (made_reads w4) (by intro x hx; rw [(List.mem_replicate.1 hx).2]; simp [instrZ])
  rw [show validR (List.replicate 61 instrZ) = (0, 3) from by decide +kernel, List.length_replicate] at hmade
  have HMADE := hidP hmade
  obtain ⟨MC, hMC⟩ : ∃ MC, madeCells (Value.agg #[(.int .i64 0), (.int .i64 0), (.int .i64 0), (.int .i64 0), (.slice none 0 0)]).cells 305 = MC := ⟨_, rfl⟩
  rw [hMC] at hB5
  simp only [hMC] at hmk
  have HMADE2 := hidP (hMC ▸ HMADE.out)
  have HMK := hidP hmk
  clear hmade HMADE hMC HVAL hb4
  go_wp2_with fail
  with_reducible refine HMADE2.out.mono ?_
  rintro e w5 ⟨rfl, hb5⟩
  have hB6 := bstep hB5 hb5
  have hnil := valid_any none 0 [] w5 (HEN.out.below hB6).bl ⟨rfl, Nat.zero_le _, fun h => by simp at h⟩ (by simp)
  rw [show validR [] = (0, 7) from rfl, List.length_nil] at hnil
  have HNIL := hidP hnil
  clear hnil hb5 HMADE2 hmk HMK hB5
  go_wp2_with fail
  with_reducible refine HNIL.out.mono ?_
  rintro e w6 ⟨rfl, hb6⟩
  have hB7 := bstep hB6 hb6
  clear hB6 hb6
  go_wp2_with fail
  with_reducible refine (HAW.out _ hB7).mono ?_
  rintro e w7 ⟨rfl, hb7⟩
  have HB8 := hidP (bstep hB7 hb7)
  clear hb7 hB7
  go_wp2
  go_ret
  exact ⟨rfl, HB8.out⟩
theorem checkWrongW (W : World) (a0 : Option Addr) (n0 c0 : Nat) (z0 : List InstrD) (h0 : kI.C W a0 n0 z0) (l0 : z0.length = n0) (b0 : (∀ x ∈ z0, instrIn x) ∧ n0 ≤ c0 ∧ c0 ≤ maxLen) (a1 : Int) (b1 : -9223372036854775808 ≤ a1 ∧ a1 ≤ 9223372036854775807) (a2 : Int) (b2 : -9223372036854775808 ≤ a2 ∧ a2 ≤ 9223372036854775807) (he : Env W) :
    Calls Tryd.prog 5 #[.slice a0 n0 c0, .int .i64 a1, .int .i64 a2] W fun e w' => e = .returned (.bool true) ∧ Below W.heap.size W w' := by
  subst l0
  exact checkWrong_any a0 c0 z0 a1 a2 W h0 he
end Go.Proofs.YtoflhfiegfhkoaaDoor
