/-
  Parts of the proof: KRShp, XRefL, KRefE, KRWrite, KCShort, KCLn.
-/
import Derived.Lib.OthersKept
import Derived.Test.YtklfboidjnchoaaGreatDoorZ3
import Derived.Test.YtklfboidjnchoaaGreatDoorZ4
import Derived.Test.YtklfboidjnchoaaGreatDoorZ5
import Derived.Test.YtklfboidjnchoaaGreatDoorZ6
namespace Go.Proofs.YtklfboidjnchoaaGreatDoor
open Go.RowKit Go.Proofs.YtklfboidjnchoaaGreatDoorW.PrintWords
set_option linter.unusedVariables false
set_option linter.unusedSimpArgs false
theorem take_has {F : List Nat} {j C : Nat} (h : F[j]? = some C) (c : Nat) : (F.take (j + 1)).contains c = ((F.take j).contains c || C == c) := by
  rw [List.take_add_one, h, Option.toList_some, List.contains_append]
  congr 1
  simp [List.contains_cons]
  rw [Bool.eq_iff_iff]
  simp only [beq_iff_eq, decide_eq_true_eq]
  exact eq_comm
theorem form_steps : ∀ f ∈ rforms, ∀ j < f.args.length, ((f.args.take j).contains 97, (f.args.take j).contains 98, ((f.args.take j).contains 78 || (f.args.take j).contains 110), (f.args.take j).contains 110, f.args.getD j 0) ∈ [(false, false, false, false, 97), (false, false, false, false, 78), (false, false, false, false, 110), (true, false, false, false, 78), (true, false, false, false, 98), (false, false, true, true, 97)] := by decide
set_option maxRecDepth 100000 in
set_option maxHeartbeats 12800000 in
theorem rshaped_other (op xa xb xn : Int) (cs : List CaseD) (A : Option Addr) (d : Nat) (w : World) (h21 : op ≠ 21) :
    Calls Tryz.prog 47 #[instrV ⟨op, xa, xb, xn, cs⟩ (.slice A cs.length d)] w fun e w' => e = .returned (.bool (rshF ⟨op, xa, xb, xn, cs⟩ rforms)) ∧ Below w.heap.size w w' := by
  simp only [instrV]
  obtain ⟨Z, hZ⟩ : ∃ Z, rshF ⟨op, xa, xb, xn, cs⟩ rforms = Z := ⟨_, rfl⟩
  rw [hZ]
  have HZ := hidP hZ
  obtain ⟨n, hn⟩ : ∃ n, cs.length = n := ⟨_, rfl⟩
  rw [hn]
  have HN := hidP hn
  have t21 : (op == 21) = false := by simp [h21]
  have hb1 := bnew (brefl w) (.cells #[.int .i64 op, .int .i64 xa, .int .i64 xb, .int .i64 xn, .slice A n d] 56)
  have hn1 := blk_new w (.cells #[.int .i64 op, .int .i64 xa, .int .i64 xb, .int .i64 xn, .slice A n d] 56)
  clear hn hZ h21
  go_enter Tryz.func47, Tryz.ntmps47
  go_upto_region 1 with fail
  generalize hw1 : w.alloc (.cells #[.int .i64 op, .int .i64 xa, .int .i64 xb, .int .i64 xn, .slice A n d] 56) = w1 at *
  clear hw1
  obtain ⟨x0, x1, x2, x3, x4⟩ := five_cells hn1
  go_wp2_with fail
  refine (forms_any _).mono ?_
  rintro e w2 ⟨fb, rfl, hrow, hb12⟩
  have hb2 := bstep hb1 hb12
  have HN2 := hidP (blk_below hn1 hb12)
  clear x0 x1 x2 x3 x4 hn1 hb1 hb12
  go_wp2_with fail
  go_loopw [7] (fun v7 wr => ∃ (k : Nat), v7 = .int .i64 k ∧ k ≤ 21 ∧ Hid (rshF ⟨op, xa, xb, xn, cs⟩ (rforms.drop k) = Z) ∧ Below w2.heap.size w2 wr) (fun v7 _ => 21 - (intOf v7).toNat)
  case atStart => exact ⟨0, rfl, by omega, HZ.out, brefl _⟩
  case round =>
    obtain ⟨k, rfl, hk, HF, hb⟩ := hrel
    obtain ⟨w3, e3⟩ : ∃ w3, w3 = wr := ⟨_, rfl⟩
    subst e3
    have hb3 := bstep hb2 hb
    have HN3 := hidP (blk_below HN2.out hb)
    obtain ⟨x0, x1, x2, x3, x4⟩ := five_cells HN3.out
    by_cases hlt : k < 21
    · obtain ⟨f, hf⟩ : ∃ f, rforms[k]? = some f := ⟨_, List.getElem?_eq_getElem (show k < rforms.length from hlt)⟩
      have hok := (List.mem_of_getElem? hf)
      obtain ⟨c00, c01, c02⟩ := rform_at (hrow.below hb) k f hf
      have hst : Z = if (f.op : Int) = op then rsh f ⟨op, xa, xb, xn, cs⟩ else rshF ⟨op, xa, xb, xn, cs⟩ (rforms.drop (k + 1)) := HF.out.symm.trans (rshF_at hf _)
      clear hf HF
      obtain ⟨fo, fl, fa⟩ := f
      dsimp only at c00 c01 c02 hst
      by_cases he : (fo : Int) = op
      · rw [if_pos he] at hst
        have t1 : ((fo : Int) != op) = false := by simp [he]
        have t1' : ((fo : Int) == op) = true := by simp [he]
        have hZr : Z = ((rwith xa 6 && rwith xb 6 && rwith xn 10000 && n == 0) && (fa.contains 97 || xa == 0) && (fa.contains 98 || xb == 0) && ((fa.contains 78 || fa.contains 110) || xn == 0) && (!fa.contains 110 || decide (xn < 10))) := by
          rw [hst, ← HN.out]
          rfl
        have HST := hidP hZr
        have hfa := (rforms_ok2 _ hok).1
        have hfl := (rforms_ok2 _ hok).2
        dsimp only at hfa hfl
        have hfs := strA_size fa
        have HFA := hidP hfa
        obtain ⟨m, hm⟩ : ∃ m, fa.length = m := ⟨_, rfl⟩
        rw [hm] at hfs hfl
        have HM := hidP hm
        have lt1 : (k : Int) < 21 := by omega
        have HMEM := hidP hok
        clear hst hZr hok hfa hm he
        go_upto_region 14 with fail
        go_quiet (fail)
        go_wp2_with fail
        have hB4 : Below w.heap.size w (w3.drewN nq) := ⟨hb3.os, hb3.tape, hb3.output, hb3.size, hb3.block⟩
        have y0 : (w3.drewN nq).cell? ⟨w.heap.size, 0, none⟩ = _ := x0
        have y1 : (w3.drewN nq).cell? ⟨w.heap.size, 1, none⟩ = _ := x1
        have y2 : (w3.drewN nq).cell? ⟨w.heap.size, 2, none⟩ = _ := x2
        have y3 : (w3.drewN nq).cell? ⟨w.heap.size, 3, none⟩ = _ := x3
        have y4 : (w3.drewN nq).cell? ⟨w.heap.size, 4, none⟩ = _ := x4
        have d02 : (w3.drewN nq).cell? ⟨fb, k * 3 + 2, none⟩ = _ := c02
        generalize w3.drewN nq = w4 at *
        clear x0 x1 x2 x3 x4 c00 c01 c02 hb hb3 HN3
        go_loop [8, 9, 10, 11, 12] (fun v8 v9 v10 v11 v12 => ∃ (j : Nat) (a b n dg : Bool), v8 = .bool a ∧ v9 = .bool b ∧ v10 = .bool n ∧ v11 = .bool dg ∧ v12 = .int .i64 j ∧ j ≤ m ∧ Hid (a = (fa.take j).contains 97 ∧ b = (fa.take j).contains 98 ∧ n = ((fa.take j).contains 78 || (fa.take j).contains 110) ∧ dg = (fa.take j).contains 110)) (fun _ _ _ _ v12 => m - (intOf v12).toNat)
        case atStart => exact ⟨0, false, false, false, false, rfl, rfl, rfl, rfl, rfl, by omega, by show _ ∧ _ ∧ _ ∧ _; simp⟩
        case round =>
          obtain ⟨j, a, b, nn, dg, rfl, rfl, rfl, rfl, rfl, hj, HI⟩ := hrel
          by_cases hjt : j < m
          · have hix := fun w => Tryz.idx_strA fa j (by rw [HM.out]; exact hjt) HFA.out w
            obtain ⟨C, hC⟩ : ∃ C, fa[j]? = some C := ⟨_, List.getElem?_eq_getElem (by rw [HM.out]; exact hjt)⟩
            have hCc : chr fa j = C := by unfold chr; rw [List.getD_eq_getElem?_getD, hC]; rfl
            have hC128 := HFA.out C (List.mem_of_getElem? hC)
            rw [hCc] at hix
            have lt2 : (j : Int) < (m : Int) := by omega
            have hsp : (a, b, nn, dg, C) ∈ [(false, false, false, false, 97), (false, false, false, false, 78), (false, false, false, false, 110), (true, false, false, false, 78), (true, false, false, false, 98), (false, false, true, true, 97)] := by
              have h := form_steps _ HMEM.out j (by show j < fa.length; rw [HM.out]; exact hjt)
              obtain ⟨h1, h2, h3, h4⟩ := HI.out
              dsimp only at h
              rw [← h3, ← h1, ← h2, ← h4, List.getD_eq_getElem?_getD, hC] at h
              exact h
            have HI2 : Hid ((a || C == 97) = (fa.take (j + 1)).contains 97 ∧ (b || C == 98) = (fa.take (j + 1)).contains 98 ∧ (nn || C == 78 || C == 110) = ((fa.take (j + 1)).contains 78 || (fa.take (j + 1)).contains 110) ∧ (dg || C == 110) = (fa.take (j + 1)).contains 110) := by
              obtain ⟨h1, h2, h3, h4⟩ := HI.out
              show _ ∧ _ ∧ _ ∧ _
              rw [take_has hC, take_has hC, take_has hC, take_has hC, h1, h2, h3, h4]
              refine ⟨rfl, rfl, ?_, rfl⟩
              cases (fa.take j).contains 78 <;> cases (fa.take j).contains 110 <;> cases C == 78 <;> cases C == 110 <;> rfl
            clear hC hCc HI
            simp only [List.mem_cons, Prod.mk.injEq, List.not_mem_nil, or_false] at hsp
            clear hC128
            rcases hsp with ⟨rfl, rfl, rfl, rfl, rfl⟩ | ⟨rfl, rfl, rfl, rfl, rfl⟩ | ⟨rfl, rfl, rfl, rfl, rfl⟩ | ⟨rfl, rfl, rfl, rfl, rfl⟩ | ⟨rfl, rfl, rfl, rfl, rfl⟩ | ⟨rfl, rfl, rfl, rfl, rfl⟩
            all_goals
              go_wp2_with fail
              go_round
              case rel => exact ⟨j + 1, _, _, _, _, rfl, rfl, rfl, rfl, by go_num, by omega, HI2⟩
              case measure => simp [intOf]; omega
          · obtain rfl : j = m := by omega
            have lt2 : ¬ (j : Int) < (j : Int) := by omega
            obtain ⟨i1, i2, i3, i4⟩ := HI.out
            rw [List.take_of_length_le (by rw [HM.out]; omega)] at i1 i2 i3 i4
            have hz := HST.out
            rw [← i3, ← i1, ← i2, ← i4] at hz
            have g1 := fun w => rwithin_any xa 6 w
            have g2 := fun w => rwithin_any xb 6 w
            have g3 := fun w => rwithin_any xn 10000 w
            obtain ⟨B1, hB1⟩ : ∃ B, rwith xa 6 = B := ⟨_, rfl⟩
            obtain ⟨B2, hB2⟩ : ∃ B, rwith xb 6 = B := ⟨_, rfl⟩
            obtain ⟨B3, hB3⟩ : ∃ B, rwith xn 10000 = B := ⟨_, rfl⟩
            rw [hB1] at g1 hz
            rw [hB2] at g2 hz
            rw [hB3] at g3 hz
            obtain ⟨O, hO⟩ : ∃ O, (B1 && B2 && B3 && n == 0) = O := ⟨_, rfl⟩
            rw [hO] at hz
            have HZZ := hidP hz
            have HO := hidP hO
            have G1 := hidP g1
            have G2 := hidP g2
            have G3 := hidP g3
            clear i1 i2 i3 i4 hz hO g1 g2 g3 hB1 hB2 hB3 HST HI
            go_upto_region 21 with fail
            go_cut [14] from 156 to 174 (fun v14 wx => v14 = .bool O ∧ w4 = wx)
            case first =>
              cases B1
              · obtain rfl : O = false := by rw [← HO.out]; simp
                go_wp2_with (first | (go_at_call 71; first | (with_reducible refine (G1.out _).mono ?_; rintro e w' ⟨rfl, rfl⟩) | (with_reducible refine (G2.out _).mono ?_; rintro e w' ⟨rfl, rfl⟩) | (with_reducible refine (G3.out _).mono ?_; rintro e w' ⟨rfl, rfl⟩) | fail) | fail)
                go_meet
                exact ⟨rfl, rfl⟩
              cases B2
              · obtain rfl : O = false := by rw [← HO.out]; simp
                go_wp2_with (first | (go_at_call 71; first | (with_reducible refine (G1.out _).mono ?_; rintro e w' ⟨rfl, rfl⟩) | (with_reducible refine (G2.out _).mono ?_; rintro e w' ⟨rfl, rfl⟩) | (with_reducible refine (G3.out _).mono ?_; rintro e w' ⟨rfl, rfl⟩) | fail) | fail)
                go_meet
                exact ⟨rfl, rfl⟩
              cases B3
              · obtain rfl : O = false := by rw [← HO.out]; simp
                go_wp2_with (first | (go_at_call 71; first | (with_reducible refine (G1.out _).mono ?_; rintro e w' ⟨rfl, rfl⟩) | (with_reducible refine (G2.out _).mono ?_; rintro e w' ⟨rfl, rfl⟩) | (with_reducible refine (G3.out _).mono ?_; rintro e w' ⟨rfl, rfl⟩) | fail) | fail)
                go_meet
                exact ⟨rfl, rfl⟩
              by_cases hn0 : n = 0
              · obtain rfl : O = true := by rw [← HO.out]; simp [hn0]
                have tn : ((n : Int) == 0) = true := by simp; omega
                clear hn0
                go_wp2_with (first | (go_at_call 71; first | (with_reducible refine (G1.out _).mono ?_; rintro e w' ⟨rfl, rfl⟩) | (with_reducible refine (G2.out _).mono ?_; rintro e w' ⟨rfl, rfl⟩) | (with_reducible refine (G3.out _).mono ?_; rintro e w' ⟨rfl, rfl⟩) | fail) | fail)
                go_meet
                exact ⟨rfl, rfl⟩
              · obtain rfl : O = false := by rw [← HO.out]; simp [hn0]
                have tn : ((n : Int) == 0) = false := by simp; omega
                clear hn0
                go_wp2_with (first | (go_at_call 71; first | (with_reducible refine (G1.out _).mono ?_; rintro e w' ⟨rfl, rfl⟩) | (with_reducible refine (G2.out _).mono ?_; rintro e w' ⟨rfl, rfl⟩) | (with_reducible refine (G3.out _).mono ?_; rintro e w' ⟨rfl, rfl⟩) | fail) | fail)
                go_meet
                exact ⟨rfl, rfl⟩
            case rest =>
              obtain ⟨rfl, rfl⟩ := hcut
              cases O
              · have t00 : True := trivial
                have hz : Z = false := by rw [HZZ.out]; simp [t00]
                subst hz
                clear HZZ
                go_wp2_with fail
                go_ret
                exact ⟨rfl, hB4⟩
              cases a
              rotate_left
              · have t00 : True := trivial
                cases b
                rotate_left
                ·
                  cases nn
                  rotate_left
                  ·
                    cases dg
                    ·
                      have hz : Z = true := by rw [HZZ.out]; simp [t00]
                      subst hz
                      clear HZZ
                      go_wp2_with fail
                      go_ret
                      exact ⟨rfl, hB4⟩
                    by_cases h10 : xn < 10
                    · have t10 : decide (xn < 10) = true := decide_eq_true h10
                      have hz : Z = true := by rw [HZZ.out]; simp [t00, h10]
                      subst hz
                      clear HZZ
                      go_wp2_with fail
                      go_ret
                      exact ⟨rfl, hB4⟩
                    · have t10 : decide (xn < 10) = false := decide_eq_false h10
                      have hz : Z = false := by rw [HZZ.out]; simp [t00, h10]
                      subst hz
                      clear HZZ
                      go_wp2_with fail
                      go_ret
                      exact ⟨rfl, hB4⟩
                  by_cases hn0 : xn = 0
                  · have tn : (xn == 0) = true := by simp [hn0]
                    clear hn0
                    cases dg
                    ·
                      have hz : Z = true := by rw [HZZ.out]; simp [t00, tn]
                      subst hz
                      clear HZZ
                      go_wp2_with fail
                      go_ret
                      exact ⟨rfl, hB4⟩
                    by_cases h10 : xn < 10
                    · have t10 : decide (xn < 10) = true := decide_eq_true h10
                      have hz : Z = true := by rw [HZZ.out]; simp [t00, tn, h10]
                      subst hz
                      clear HZZ
                      go_wp2_with fail
                      go_ret
                      exact ⟨rfl, hB4⟩
                    · have t10 : decide (xn < 10) = false := decide_eq_false h10
                      have hz : Z = false := by rw [HZZ.out]; simp [t00, tn, h10]
                      subst hz
                      clear HZZ
                      go_wp2_with fail
                      go_ret
                      exact ⟨rfl, hB4⟩
                  · have tn : (xn == 0) = false := by simp [hn0]
                    clear hn0
                    have hz : Z = false := by rw [HZZ.out]; simp [t00, tn]
                    subst hz
                    clear HZZ
                    go_wp2_with fail
                    go_ret
                    exact ⟨rfl, hB4⟩
                by_cases hb0 : xb = 0
                · have tb : (xb == 0) = true := by simp [hb0]
                  clear hb0
                  cases nn
                  rotate_left
                  ·
                    cases dg
                    ·
                      have hz : Z = true := by rw [HZZ.out]; simp [t00, tb]
                      subst hz
                      clear HZZ
                      go_wp2_with fail
                      go_ret
                      exact ⟨rfl, hB4⟩
                    by_cases h10 : xn < 10
                    · have t10 : decide (xn < 10) = true := decide_eq_true h10
                      have hz : Z = true := by rw [HZZ.out]; simp [t00, tb, h10]
                      subst hz
                      clear HZZ
                      go_wp2_with fail
                      go_ret
                      exact ⟨rfl, hB4⟩
                    · have t10 : decide (xn < 10) = false := decide_eq_false h10
                      have hz : Z = false := by rw [HZZ.out]; simp [t00, tb, h10]
                      subst hz
                      clear HZZ
                      go_wp2_with fail
                      go_ret
                      exact ⟨rfl, hB4⟩
                  by_cases hn0 : xn = 0
                  · have tn : (xn == 0) = true := by simp [hn0]
                    clear hn0
                    cases dg
                    ·
                      have hz : Z = true := by rw [HZZ.out]; simp [t00, tb, tn]
                      subst hz
                      clear HZZ
                      go_wp2_with fail
                      go_ret
                      exact ⟨rfl, hB4⟩
                    by_cases h10 : xn < 10
                    · have t10 : decide (xn < 10) = true := decide_eq_true h10
                      have hz : Z = true := by rw [HZZ.out]; simp [t00, tb, tn, h10]
                      subst hz
                      clear HZZ
                      go_wp2_with fail
                      go_ret
                      exact ⟨rfl, hB4⟩
                    · have t10 : decide (xn < 10) = false := decide_eq_false h10
                      have hz : Z = false := by rw [HZZ.out]; simp [t00, tb, tn, h10]
                      subst hz
                      clear HZZ
                      go_wp2_with fail
                      go_ret
                      exact ⟨rfl, hB4⟩
                  · have tn : (xn == 0) = false := by simp [hn0]
                    clear hn0
                    have hz : Z = false := by rw [HZZ.out]; simp [t00, tb, tn]
                    subst hz
                    clear HZZ
                    go_wp2_with fail
                    go_ret
                    exact ⟨rfl, hB4⟩
                · have tb : (xb == 0) = false := by simp [hb0]
                  clear hb0
                  have hz : Z = false := by rw [HZZ.out]; simp [t00, tb]
                  subst hz
                  clear HZZ
                  go_wp2_with fail
                  go_ret
                  exact ⟨rfl, hB4⟩
              by_cases ha0 : xa = 0
              · have ta : (xa == 0) = true := by simp [ha0]
                clear ha0
                cases b
                rotate_left
                ·
                  cases nn
                  rotate_left
                  ·
                    cases dg
                    ·
                      have hz : Z = true := by rw [HZZ.out]; simp [ta]
                      subst hz
                      clear HZZ
                      go_wp2_with fail
                      go_ret
                      exact ⟨rfl, hB4⟩
                    by_cases h10 : xn < 10
                    · have t10 : decide (xn < 10) = true := decide_eq_true h10
                      have hz : Z = true := by rw [HZZ.out]; simp [ta, h10]
                      subst hz
                      clear HZZ
                      go_wp2_with fail
                      go_ret
                      exact ⟨rfl, hB4⟩
                    · have t10 : decide (xn < 10) = false := decide_eq_false h10
                      have hz : Z = false := by rw [HZZ.out]; simp [ta, h10]
                      subst hz
                      clear HZZ
                      go_wp2_with fail
                      go_ret
                      exact ⟨rfl, hB4⟩
                  by_cases hn0 : xn = 0
                  · have tn : (xn == 0) = true := by simp [hn0]
                    clear hn0
                    cases dg
                    ·
                      have hz : Z = true := by rw [HZZ.out]; simp [ta, tn]
                      subst hz
                      clear HZZ
                      go_wp2_with fail
                      go_ret
                      exact ⟨rfl, hB4⟩
                    by_cases h10 : xn < 10
                    · have t10 : decide (xn < 10) = true := decide_eq_true h10
                      have hz : Z = true := by rw [HZZ.out]; simp [ta, tn, h10]
                      subst hz
                      clear HZZ
                      go_wp2_with fail
                      go_ret
                      exact ⟨rfl, hB4⟩
                    · have t10 : decide (xn < 10) = false := decide_eq_false h10
                      have hz : Z = false := by rw [HZZ.out]; simp [ta, tn, h10]
                      subst hz
                      clear HZZ
                      go_wp2_with fail
                      go_ret
                      exact ⟨rfl, hB4⟩
                  · have tn : (xn == 0) = false := by simp [hn0]
                    clear hn0
                    have hz : Z = false := by rw [HZZ.out]; simp [ta, tn]
                    subst hz
                    clear HZZ
                    go_wp2_with fail
                    go_ret
                    exact ⟨rfl, hB4⟩
                by_cases hb0 : xb = 0
                · have tb : (xb == 0) = true := by simp [hb0]
                  clear hb0
                  cases nn
                  rotate_left
                  ·
                    cases dg
                    ·
                      have hz : Z = true := by rw [HZZ.out]; simp [ta, tb]
                      subst hz
                      clear HZZ
                      go_wp2_with fail
                      go_ret
                      exact ⟨rfl, hB4⟩
                    by_cases h10 : xn < 10
                    · have t10 : decide (xn < 10) = true := decide_eq_true h10
                      have hz : Z = true := by rw [HZZ.out]; simp [ta, tb, h10]
                      subst hz
                      clear HZZ
                      go_wp2_with fail
                      go_ret
                      exact ⟨rfl, hB4⟩
                    · have t10 : decide (xn < 10) = false := decide_eq_false h10
                      have hz : Z = false := by rw [HZZ.out]; simp [ta, tb, h10]
                      subst hz
                      clear HZZ
                      go_wp2_with fail
                      go_ret
                      exact ⟨rfl, hB4⟩
                  by_cases hn0 : xn = 0
                  · have tn : (xn == 0) = true := by simp [hn0]
                    clear hn0
                    cases dg
                    ·
                      have hz : Z = true := by rw [HZZ.out]; simp [ta, tb, tn]
                      subst hz
                      clear HZZ
                      go_wp2_with fail
                      go_ret
                      exact ⟨rfl, hB4⟩
                    by_cases h10 : xn < 10
                    · have t10 : decide (xn < 10) = true := decide_eq_true h10
                      have hz : Z = true := by rw [HZZ.out]; simp [ta, tb, tn, h10]
                      subst hz
                      clear HZZ
                      go_wp2_with fail
                      go_ret
                      exact ⟨rfl, hB4⟩
                    · have t10 : decide (xn < 10) = false := decide_eq_false h10
                      have hz : Z = false := by rw [HZZ.out]; simp [ta, tb, tn, h10]
                      subst hz
                      clear HZZ
                      go_wp2_with fail
                      go_ret
                      exact ⟨rfl, hB4⟩
                  · have tn : (xn == 0) = false := by simp [hn0]
                    clear hn0
                    have hz : Z = false := by rw [HZZ.out]; simp [ta, tb, tn]
                    subst hz
                    clear HZZ
                    go_wp2_with fail
                    go_ret
                    exact ⟨rfl, hB4⟩
                · have tb : (xb == 0) = false := by simp [hb0]
                  clear hb0
                  have hz : Z = false := by rw [HZZ.out]; simp [ta, tb]
                  subst hz
                  clear HZZ
                  go_wp2_with fail
                  go_ret
                  exact ⟨rfl, hB4⟩
              · have ta : (xa == 0) = false := by simp [ha0]
                clear ha0
                have hz : Z = false := by rw [HZZ.out]; simp [ta]
                subst hz
                clear HZZ
                go_wp2_with fail
                go_ret
                exact ⟨rfl, hB4⟩
      · rw [if_neg he] at hst
        have t1 : ((fo : Int) != op) = true := by simp [he]
        have t1' : ((fo : Int) == op) = false := by simp [he]
        have HST := hidP hst.symm
        have hb5 : ∀ n, Below w2.heap.size w2 (w3.drewN n) := fun n => ⟨hb.os, hb.tape, hb.output, hb.size, hb.block⟩
        clear hst he hok
        go_wp2_with fail
        go_quiet (fail)
        go_wp2
        go_roundw
        case rel => exact ⟨k + 1, by go_num, by omega, HST.out, hb5 _⟩
        case measure => simp [intOf]; omega
    · have hZ : Z = false := by
        have := HF.out
        have hk21 : k = 21 := by omega
        rw [hk21] at this
        exact this.symm
      subst hZ
      go_wp2
      go_ret
      exact ⟨rfl, hb3⟩
theorem rshaped_any (x : InstrD) (A : Option Addr) (d : Nat) (w : World) (hc : kC.C w A x.cases.length x.cases) (hcl : x.cases.length ≤ 9223372036854775807) :
    Calls Tryz.prog 47 #[instrV x (.slice A x.cases.length d)] w fun e w' => e = .returned (.bool (rshaped x)) ∧ Below w.heap.size w w' := by
  obtain ⟨op, xa, xb, xn, cs⟩ := x
  unfold rshaped
  dsimp only
  by_cases h : op = 21
  · subst h
    rw [if_pos rfl]
    exact rshaped_choose xa xb xn cs A d w hc hcl
  · rw [if_neg h]
    exact rshaped_other op xa xb xn cs A d w h
end Go.Proofs.YtklfboidjnchoaaGreatDoor
namespace Go.Proofs.YtklfboidjnchoaaGreatDoor
open Go.RowKit
set_option linter.unusedVariables false
set_option linter.unusedSimpArgs false
theorem own_iter {w : World} {B e size n : Nat} {v : Value} {xs : List Value} {k : Nat} {s : ByteArray} {pos : Nat} (h : w.ownsRow B e size v n xs) (hk : w.heap[k]? = some (.stringIter s pos)) (q : Nat) : (w.iterAt k s q).ownsRow B e size v n xs := by
  obtain ⟨h1, h2⟩ := h
  refine ⟨h1, ?_⟩
  rcases h2 with h0 | ⟨g, cap, cur, hv, hb, hg, hr⟩
  · exact .inl h0
  · have hne : g ≠ k := fun e => by rw [e, hk] at hg; cases hg
    exact .inr ⟨g, cap, cur, hv, hb, (Lib.iterAt_other w k g s q hne).trans hg, hr⟩
theorem ownIt_ne {w : World} {B e size n : Nat} {v : Value} {xs : List Value} {k : Nat} {s : ByteArray} {pos : Nat} (h : w.ownsRow B e size v n xs) (hk : w.heap[k]? = some (.stringIter s pos)) : some k ≠ v.ownBlock := by
  rcases h.2 with ⟨rfl, _⟩ | ⟨g, cap, cur, rfl, hb, hg, hr⟩
  · simp [Value.ownBlock]
  · intro h
    simp only [Value.ownBlock, Option.some.injEq] at h
    subst h
    rw [hk] at hg
    cases hg
def byteB (b : UInt8) : ByteArray := ⟨#[b]⟩
theorem byteB_size (b : UInt8) : (byteB b).size = 1 := rfl
theorem Tryz.conv_byte (b : UInt8) (B c : Nat) (w : World) (h : w.cell? ⟨B, 0, none⟩ = some (.int .u8 (b.toNat : Int))) : (convert 51 9 (.slice (some ⟨B, 0, none⟩) 1 c)).run Tryz.prog w = .ok (.string (byteB b)) w := by
  refine run_convert_bytes_back w _ _ 5 ⟨B, 0, none⟩ c [b] Tryz.underlying51 Tryz.underlying5 Tryz.underlying9 ?_
  intro j hj
  simp at hj
  subst hj
  have e : (⟨B, 0, none⟩ : Addr).add 0 = ⟨B, 0, none⟩ := by simp [Addr.add]
  rw [e, h]
  rfl
def datas (l : List ByteArray) : List (List UInt8) := l.map (·.data.toList)
theorem datas_inj : ∀ {l m : List ByteArray}, datas l = datas m → l = m
  | [], [], _ => rfl
  | [], y :: m, h => by simp [datas] at h
  | x :: l, [], h => by simp [datas] at h
  | x :: l, y :: m, h => by
    unfold datas at h
    rw [List.map_cons, List.map_cons] at h
    injection h with h1 h2
    rw [datas_inj (l := l) (m := m) h2, ByteArray.ext (Array.ext' h1)]
theorem app_byte (x : ByteArray) (b : UInt8) : (x ++ byteB b).data.toList = x.data.toList ++ [b] := by
  rw [ByteArray.data_append, Array.toList_append]; rfl
theorem empty_data (x : ByteArray) : x.toList.isEmpty = x.data.toList.isEmpty := by rw [Lib.toList_data]
theorem drop_at (s : ByteArray) (k : Nat) (h : k < s.size) : s.data.toList.drop k = (s[k]'h) :: s.data.toList.drop (k + 1) := by
  have hl : k < s.data.toList.length := by rw [Array.length_toList]; exact h
  have hb : (s[k]'h) = s.data.toList[k]'hl := by simp; rfl
  rw [List.drop_eq_getElem_cons hl, hb]
theorem drop_all (s : ByteArray) (k : Nat) (h : ¬ k < s.size) : s.data.toList.drop k = [] := by
  apply List.drop_eq_nil_of_le
  rw [Array.length_toList]
  show s.data.size ≤ k
  have : s.data.size = s.size := rfl
  omega
set_option maxRecDepth 100000 in
set_option maxHeartbeats 1600000 in
theorem refLines_any (s : ByteArray) (w : World) (hs : s.size ≤ 1000000) :
    Calls Tryz.prog 53 #[.string s] w (LinesPost w (linesR s).1 (linesR s).2) := by
  obtain ⟨N, hN⟩ : ∃ N, (runesF s 0).length = N := ⟨_, rfl⟩
  have hn := runesF_len s 0
  rw [hN] at hn
  go_enter Tryz.func53, Tryz.ntmps53
  go_wp2_with fail
  go_loopw [4] (fun v4 wr => ∃ (k pos : Nat), v4 = .int .i64 k ∧ k ≤ 140737488355328 ∧ Hid (k + (runesF s pos).length = N) ∧ wr = w.iter s pos) (fun _ wr => s.size - wr.iterPos w.heap.size)
  case atStart => exact ⟨0, 0, rfl, by omega, by show 0 + _ = _; omega, rfl⟩
  case round =>
    obtain ⟨k, pos, rfl, hkm, HK, rfl⟩ := hrel
    by_cases hlt : pos < s.size
    · have hnx := fun ty => run_next_any (P := Tryz.prog) w s pos ty hlt
      have hw1 := Lib.decode_width_pos s pos hlt
      have hst := runesF_step s pos hlt
      obtain ⟨c, hc⟩ : ∃ c, (Utf8.decode s pos).1 = c := ⟨_, rfl⟩
      obtain ⟨wd, hwd⟩ : ∃ wd, (Utf8.decode s pos).2 = wd := ⟨_, rfl⟩
      rw [hc, hwd] at hnx hst
      rw [hwd] at hw1
      have h1 := HK.out
      rw [hst, List.length_cons] at h1
      have hkb : k + 1 ≤ 140737488355328 := by omega
      have HK2 : Hid (k + 1 + (runesF s (pos + wd)).length = N) := by show _ = _; omega
      clear hst hc hwd h1
      go_wp2
      go_roundw
      case rel => exact ⟨k + 1, pos + wd, by go_num, by omega, HK2, rfl⟩
      case measure => simp; omega
    · have hnx := fun ty => run_next_end (P := Tryz.prog) w s pos ty hlt
      have hst := runesF_end s pos hlt
      have h1 := HK.out
      rw [hst] at h1
      simp at h1
      clear hst
      subst h1
      by_cases h2000 : 2000 < k
      · have hr : linesR s = ([], 3) := by unfold linesR; rw [if_pos (by rw [hN]; exact h2000)]
        have g1 : (2000 : Int) < (k : Int) := by omega
        have HR := hidP hr
        clear hr hN h2000
        go_wp2
        go_ret2
        rw [HR.out]
        exact ⟨none, 0, rfl, World.ownsRow_nil _ _ _ _, below_iter _ _ _⟩
      · have g1 : ¬ (2000 : Int) < (k : Int) := by omega
        have hr0 : ¬ 2000 < (runesF s 0).length := by rw [hN]; exact h2000
        have hr : mayAll s = false → linesR s = ([], 4) := fun h => by unfold linesR; rw [if_neg hr0, if_pos h]
        have hr2 : mayAll s = true → linesR s = if (keepB (piecesB s)).length = 0 then ([], 7) else if 60 < (keepB (piecesB s)).length then ([], 3) else (keepB (piecesB s), 0) := fun h => by
          unfold linesR
          rw [if_neg hr0, if_neg (by rw [h]; simp)]
        have HR := hidP hr
        have HR2 := hidP hr2
        have hla := lines_acc s
        have HLA := hidP hla
        have hb1 : Below w.heap.size w (w.iter s pos) := below_iter _ _ _
        clear hr hr2 hr0 hN h2000 hla
        generalize w.iter s pos = w1 at *
        go_wp2_with fail
        have hs1 := hb1.size
        go_loopw [5, 6, 8] (fun v5 v6 v8 wr => ∃ (p j : Nat) (L : List ByteArray) (cur : ByteArray) (vo : Option Addr) (vc : Nat), v5 = .slice vo j vc ∧ v6 = .string cur ∧ p ≤ s.size ∧ j ≤ p ∧ cur.size ≤ p ∧ L.length = j ∧ Hid (datas (keepB (piecesB s)) = datas L ++ accB (s.data.toList.drop p) cur.data.toList) ∧ Hid (mayAll s = (runesF s p).all fun c => mayR c) ∧ wr.ownsRow w1.heap.size 9 1 (.slice vo j vc) j (L.map Value.string) ∧ wr.heap[w1.heap.size]? = some (.stringIter s p) ∧ Below w1.heap.size w1 wr) (fun _ _ _ wr => s.size - wr.iterPos w1.heap.size)
        case atStart => exact ⟨0, 0, [], ⟨#[]⟩, none, 0, rfl, rfl, by omega, by omega, by decide, rfl, HLA.out, rfl, World.ownsRow_nil _ _ _ _, World.iter_heap _ _ _, below_iter _ _ _⟩
        case round =>
          obtain ⟨p, j, L, cur, vo, vc, rfl, rfl, hp, hj, hcs, hLj, HA, HM, hown, hit, hb⟩ := hrel
          by_cases hlt2 : p < s.size
          · have hnx := fun ty => Lib.run_next_any_at (P := Tryz.prog) wr w1.heap.size s p ty hit hlt2
            have hst := runesF_step s p hlt2
            have hda := drop_at s p hlt2
            obtain ⟨b, hbb⟩ : ∃ b, (s[p]'hlt2) = b := ⟨_, rfl⟩
            have hb256 : b.toNat < 256 := UInt8.toNat_lt _
            have hde : b.toNat < 128 → Utf8.decode s p = (b.toNat, 1) := fun h => by rw [decode_ascii s p hlt2 (by rw [hbb]; exact h), hbb]
            have hdh : 128 ≤ b.toNat → mayR ((Utf8.decode s p).1 : Int) = false := fun h => by
              have := (decode_high s p hlt2 (by rw [hbb]; exact h)).1
              unfold mayR; simp; omega
            rw [hbb] at hda
            have h1 := HA.out
            have h2 := HM.out
            rw [hda] at h1
            rw [hst, List.all_cons] at h2
            cases hmr : mayR ((Utf8.decode s p).1 : Int)
            · rw [hmr, Bool.false_and] at h2
              have HR3 := hidP (HR.out h2)
              have hb2 := Lib.below_iterAt hb (Nat.le_refl _) s (p + (Utf8.decode s p).2)
              obtain ⟨c, hc⟩ : ∃ c, (Utf8.decode s p).1 = c := ⟨_, rfl⟩
              rw [hc] at hnx hmr
              generalize wr.iterAt w1.heap.size s (p + (Utf8.decode s p).2) = W at *
              have hcc : ¬ ((c : Int) = 10) ∧ ((c : Int) < 32 ∨ ¬ ((c : Int) < 32) ∧ (126 : Int) < (c : Int)) := by
                unfold mayR at hmr
                simp at hmr
                refine ⟨by omega, by omega⟩
              obtain ⟨t, hcc⟩ := hcc
              have hB := bstep hb1 hb2
              clear hst hda hbb hde hdh h1 h2 hmr hc
              rcases hcc with g1 | ⟨g1, g2⟩
              · go_wp2
                go_ret2
                rw [HR3.out]
                exact ⟨none, 0, rfl, World.ownsRow_nil _ _ _ _, hB⟩
              · go_wp2
                go_ret2
                rw [HR3.out]
                exact ⟨none, 0, rfl, World.ownsRow_nil _ _ _ _, hB⟩
            · have hb128 : b.toNat < 128 := by
                by_cases h : b.toNat < 128
                · exact h
                · rw [hdh (by omega)] at hmr; cases hmr
              rw [hde hb128] at hnx hmr h2
              dsimp only at hnx hmr h2
              rw [hmr, Bool.true_and] at h2
              have HM2 := hidP h2
              have hit2 := Lib.iterAt_heap wr w1.heap.size s p (p + 1) hit
              have hb2 := Lib.below_iterAt hb (Nat.le_refl _) s (p + 1)
              have hown2 := own_iter hown hit (p + 1)
              have hmr' := hmr
              unfold mayR at hmr'
              generalize wr.iterAt w1.heap.size s (p + 1) = W at *
              have hms : s.size - W.iterPos w1.heap.size < s.size - wr.iterPos w1.heap.size := by rw [iterPos_of hit, iterPos_of hit2]; omega
              have HMS := hidP hms
              have hacc := fun r cur => (show accB (b :: r) cur = if b = 10 then (if cur.isEmpty then accB r [] else cur :: accB r []) else if b = 32 then accB r cur else accB r (cur ++ [b]) from rfl)
              rw [hacc] at h1
              clear hst hda hbb hde hdh h2 hmr hit hown hacc hb
              by_cases h10 : b = 10
              · subst h10
                have e10 : (((10 : UInt8).toNat : Nat) : Int) = 10 := rfl
                rw [e10] at hnx
                rw [if_pos rfl] at h1
                cases hcur : cur.toList.isEmpty
                · rw [empty_data] at hcur
                  rw [hcur] at h1
                  have H1 : Hid (datas (keepB (piecesB s)) = datas (L ++ [cur]) ++ accB (s.data.toList.drop (p + 1)) []) := by
                    show _ = _
                    rw [h1]
                    simp [datas]
                  have t0 : cur.toList.isEmpty = false := by rw [empty_data]; exact hcur
                  clear h1 hcur e10 hmr'
                  have hB2 := hb2.size
                  go_wp2_with (at_builtin; go_loud (refine (wpList_app _ rfl (.tmp 50) (.tmp 52) rfl Tryz.slStr w1.heap.size (.slice vo j vc) j (L.map Value.string) rfl (hown2.alloc _) _ 1 1 [.string cur] rfl (j + 1) rfl (RowAt.new _ [.string cur] _) rfl (by simp; rfl) (by omega) (by unfold maxLen; omega) (by simp; omega) ?_)); intro a4 c4 w4 ho4 hg4 hw4)
                  have hIT : w1.heap.size < W.heap.size := (Array.getElem?_eq_some_iff.1 hit2).1
                  have hit4 : w4.heap[w1.heap.size]? = some (.stringIter s (p + 1)) := (hg4.block w1.heap.size (by simp; omega) (ownIt_ne hown2 hit2)).trans ((Below.heap_alloc _ _ _ hIT).trans hit2)
                  have hb4 : Below w1.heap.size w1 w4 := (bnew hb2 _).grown hg4 (by simp; omega) (fun i hi => (hown2.lt i hi).1)
                  refine ⟨⟨p + 1, j + 1, L ++ [cur], ⟨#[]⟩, a4, c4, rfl, rfl, by omega, by omega, by show 0 ≤ _; omega, by simp [hLj], H1.out, HM2.out, by rw [List.map_append]; exact ho4, hit4, hb4⟩, ?_⟩
                  rw [iterPos_of hit4, ← iterPos_of hit2]
                  exact HMS.out
                · rw [empty_data] at hcur
                  rw [hcur] at h1
                  have hnil : cur.data.toList = [] := by simpa using hcur
                  have H1 : Hid (datas (keepB (piecesB s)) = datas L ++ accB (s.data.toList.drop (p + 1)) cur.data.toList) := by
                    show _ = _
                    rw [h1, hnil]
                    rfl
                  have t0 : cur.toList.isEmpty = true := by rw [empty_data]; exact hcur
                  clear h1 hcur e10 hmr' hnil
                  go_wp2
                  go_roundw
                  case rel => exact ⟨p + 1, j, L, cur, vo, vc, rfl, rfl, by omega, by omega, by omega, hLj, H1.out, HM2.out, hown2, hit2, hb2⟩
                  case measure => exact HMS.out
              · rw [if_neg h10] at h1
                by_cases h32 : b = 32
                · subst h32
                  have e32 : (((32 : UInt8).toNat : Nat) : Int) = 32 := rfl
                  rw [e32] at hnx
                  rw [if_pos rfl] at h1
                  have H1 := hidP h1
                  clear h1 e32 hmr'
                  go_wp2
                  go_roundw
                  case rel => exact ⟨p + 1, j, L, cur, vo, vc, rfl, rfl, by omega, by omega, by omega, hLj, H1.out, HM2.out, hown2, hit2, hb2⟩
                  case measure => exact HMS.out
                · rw [if_neg h32, ← app_byte] at h1
                  have H1 := hidP h1
                  have hIT : w1.heap.size < W.heap.size := (Array.getElem?_eq_some_iff.1 hit2).1
                  have hit4 := (Below.heap_alloc W (.cells #[.int .u8 (b.toNat : Int)] 5) _ hIT).trans hit2
                  have hcv := Tryz.conv_byte b W.heap.size 1 (W.alloc (.cells #[.int .u8 (b.toNat : Int)] 5)) (by go_simp)
                  have hsz := byteB_size b
                  have hn10 : ¬ b.toNat = 10 := fun h => h10 (UInt8.toNat_inj.1 (by rw [h]; rfl))
                  have hn32 : ¬ b.toNat = 32 := fun h => h32 (UInt8.toNat_inj.1 (by rw [h]; rfl))
                  obtain ⟨B, hB⟩ : ∃ B, byteB b = B := ⟨_, rfl⟩
                  rw [hB] at hcv hsz
                  have HB := hidP hB
                  obtain ⟨c, hc⟩ : ∃ c, b.toNat = c := ⟨_, rfl⟩
                  rw [hc] at hnx hmr' hcv hn10 hn32 hb128 hit4
                  simp at hmr'
                  have g10 : ¬ (c : Int) = 10 := by omega
                  have b10 : ((c : Int) != 10) = true := by simp; omega
                  have b32 : ((c : Int) != 32) = true := by simp; omega
                  have g32 : ¬ (c : Int) < 32 := by omega
                  have g126 : ¬ (126 : Int) < (c : Int) := by omega
                  have hu : IntKind.u8.wrap (c : Int) = (c : Int) := IntWalk.u8_in _ (by omega)
                  clear h1 hc hmr' h10 h32 hB hn10 hn32
                  go_wp2
                  go_roundw
                  case rel => exact ⟨p + 1, j, L, cur ++ B, vo, vc, rfl, rfl, by omega, by omega, by rw [ByteArray.size_append, hsz]; omega, hLj, by rw [← HB.out]; exact H1.out, HM2.out, hown2.alloc _, hit4, bnew hb2 _⟩
                  case measure => rw [iterPos_of hit4, ← iterPos_of hit2]; exact HMS.out
          · have hnx := fun ty => Lib.run_next_end_at (P := Tryz.prog) wr w1.heap.size s p ty hit hlt2
            have hda := drop_all s p hlt2
            have hst := runesF_end s p hlt2
            have h1 := HA.out
            have h2 := HM.out
            rw [hda] at h1
            rw [hst] at h2
            have hr := HR2.out h2
            obtain ⟨K, hK⟩ : ∃ K, keepB (piecesB s) = K := ⟨_, rfl⟩
            rw [hK] at hr h1
            have HR3 := hidP hr
            clear hda hst h2 hr hK
            cases hcur : cur.toList.isEmpty
            · have t0 : cur.toList.isEmpty = false := hcur
              rw [empty_data] at hcur
              have hK : K = L ++ [cur] := datas_inj (by rw [h1]; simp [accB, hcur, datas])
              have HK := hidP hK
              clear h1 hcur hK
              have HJ2 : Hid (K.length = j + 1) := by show _ = _; rw [HK.out, List.length_append, hLj]; rfl
              have h0 : ¬ K.length = 0 := by rw [HJ2.out]; omega
              have t : ((((j + 1 : Nat) : Int)) == 0) = false := by simp; omega
              have HS := hidP hs1
              by_cases h60 : 60 < j + 1
              · have hr : linesR s = ([], 3) := by rw [HR3.out, if_neg h0, if_pos (by rw [HJ2.out]; exact h60)]
                have g : (60 : Int) < ((j + 1 : Nat) : Int) := by omega
                have HR4 := hidP hr
                clear hr h0
                go_wp2_with (at_builtin; go_loud (refine (wpList_app _ rfl (.tmp 56) (.tmp 58) rfl Tryz.slStr w1.heap.size (.slice vo j vc) j (L.map Value.string) rfl (hown.alloc _) _ 1 1 [.string cur] rfl (j + 1) rfl (RowAt.new _ [.string cur] _) rfl (by simp; rfl) (by omega) (by unfold maxLen; omega) (by have := hb.size; simp; omega) ?_)); intro a4 c4 w4 ho4 hg4 hw4)
                go_ret2
                rw [HR4.out]
                exact ⟨none, 0, rfl, World.ownsRow_nil _ _ _ _, bstep hb1 ((bnew hb _).grown hg4 (by have := hb.size; simp; omega) (fun i hi => (hown.lt i hi).1))⟩
              · have hr : linesR s = (K, 0) := by rw [HR3.out, if_neg h0, if_neg (by rw [HJ2.out]; exact h60)]
                have g : ¬ (60 : Int) < ((j + 1 : Nat) : Int) := by omega
                have HR4 := hidP hr
                clear hr h0
                go_wp2_with (at_builtin; go_loud (refine (wpList_app _ rfl (.tmp 56) (.tmp 58) rfl Tryz.slStr w1.heap.size (.slice vo j vc) j (L.map Value.string) rfl (hown.alloc _) _ 1 1 [.string cur] rfl (j + 1) rfl (RowAt.new _ [.string cur] _) rfl (by simp; rfl) (by omega) (by unfold maxLen; omega) (by have := hb.size; simp; omega) ?_)); intro a4 c4 w4 ho4 hg4 hw4)
                go_ret2
                rw [HR4.out]
                exact ⟨a4, c4, by rw [HJ2.out]; rfl, by rw [HJ2.out, HK.out, List.map_append]; exact owns_mono ho4 HS.out, bstep hb1 ((bnew hb _).grown hg4 (by have := hb.size; simp; omega) (fun i hi => (hown.lt i hi).1))⟩
            · have t0 : cur.toList.isEmpty = true := hcur
              rw [empty_data] at hcur
              have hK : K = L := datas_inj (by rw [h1]; simp [accB, hcur])
              have HK := hidP hK
              clear h1 hcur hK
              have HJ2 : Hid (K.length = j) := by show _ = _; rw [HK.out, hLj]
              have HS := hidP hs1
              have hB := bstep hb1 hb
              have ho := owns_mono hown hs1
              by_cases h0 : j = 0
              · have hr : linesR s = ([], 7) := by rw [HR3.out, if_pos (by rw [HJ2.out]; exact h0)]
                have t : ((j : Int) == 0) = true := by simp; omega
                have HR4 := hidP hr
                clear hr h0
                go_wp2
                go_ret2
                rw [HR4.out]
                exact ⟨none, 0, rfl, World.ownsRow_nil _ _ _ _, hB⟩
              · have t : ((j : Int) == 0) = false := by simp; omega
                by_cases h60 : 60 < j
                · have hr : linesR s = ([], 3) := by rw [HR3.out, if_neg (by rw [HJ2.out]; exact h0), if_pos (by rw [HJ2.out]; exact h60)]
                  have g : (60 : Int) < (j : Int) := by omega
                  have HR4 := hidP hr
                  clear hr h0
                  go_wp2
                  go_ret2
                  rw [HR4.out]
                  exact ⟨none, 0, rfl, World.ownsRow_nil _ _ _ _, hB⟩
                · have hr : linesR s = (K, 0) := by rw [HR3.out, if_neg (by rw [HJ2.out]; exact h0), if_neg (by rw [HJ2.out]; exact h60)]
                  have g : ¬ (60 : Int) < (j : Int) := by omega
                  have HR4 := hidP hr
                  clear hr h0
                  go_wp2
                  go_ret2
                  rw [HR4.out]
                  exact ⟨vo, vc, by rw [HJ2.out]; rfl, by rw [HJ2.out, HK.out]; exact ho, hB⟩
end Go.Proofs.YtklfboidjnchoaaGreatDoor
namespace Go.Proofs.YtklfboidjnchoaaGreatDoor
open Go.RowKit Go.Proofs.YtklfboidjnchoaaGreatDoorW.PrintWords
set_option linter.unusedVariables false
set_option linter.unusedSimpArgs false
def decS (k : Nat) (acc : List InstrD) (l : List (List Nat)) : Option InstrD → List InstrD × Int × Int
  | some y => decF (k + 1) (acc ++ [y]) l
  | none => ([], (k : Int) + 1, 5)
set_option maxRecDepth 100000 in
set_option maxHeartbeats 3200000 in
theorem refDecode_any (s : ByteArray) (w : World) (hs : s.size ≤ 1000000) : Calls Tryz.prog 35 #[.string s] w (DecPost w (decodeR s)) := by
  have hl := refLines_any s w hs
  obtain ⟨hok, h60⟩ := lines_ok s
  obtain ⟨D, hD⟩ : ∃ D, decodeR s = D := ⟨_, rfl⟩
  rw [hD]
  have hd := hD.symm
  unfold decodeR at hd
  obtain ⟨⟨W, E⟩, hW⟩ : ∃ W, linesR s = W := ⟨_, rfl⟩
  rw [hW] at hl hok h60 hd
  dsimp only at hl hok h60 hd
  have HD := hidP hd
  have HOK := hidP hok
  obtain ⟨N, hN⟩ : ∃ N, W.length = N := ⟨_, rfl⟩
  rw [hN] at h60
  have HN := hidP hN
  unfold LinesPost at hl
  rw [hN] at hl
  have HL := hidP hl
  clear hd hD hW hok hN hl
  go_enter Tryz.func35, Tryz.ntmps35
  go_wp2_with fail
  refine HL.out.mono ?_
  rintro e w1 ⟨a1, c1, rfl, ho1, hb1⟩
  have hrow := owns_row ho1
  have hz1 := hb1.size
  clear ho1
  by_cases hE : E = 0
  · have hd := HD.out
    rw [if_neg (by simp [hE])] at hd
    have HD2 := hidP hd
    have t0 : (E != 0) = false := by simp [hE]
    clear hd hE
    go_wp2_with fail
    go_loopw [7, 8] (fun v7 v22 wr => ∃ (k : Nat) (acc : List InstrD) (A : Option Addr) (c : Nat), v7 = .slice A k c ∧ v22 = .int .i64 k ∧ k ≤ N ∧ Hid (acc.length = k) ∧ Hid (decF k acc ((W.map bytesN).drop k) = D) ∧ Hid (kI.R 56 wr w1.heap.size (fun k => w1.heap.size ≤ k) (.slice A k c) acc) ∧ Below w1.heap.size w1 wr) (fun _ v22 _ => N - (intOf v22).toNat)
    case atStart => exact ⟨0, [], none, 0, rfl, rfl, by omega, rfl, HD2.out.symm, Kd.R_nil _ _ _ _ _, brefl _⟩
    case round =>
      obtain ⟨k, acc, A, c, rfl, rfl, hk, HAC, HF, HR, hb⟩ := hrel
      obtain ⟨w2, e2⟩ : ∃ w2, w2 = wr := ⟨_, rfl⟩
      subst e2
      by_cases hlt : k < N
      · obtain ⟨x, hx⟩ : ∃ x, W[k]? = some x := ⟨_, List.getElem?_eq_getElem (by rw [HN.out]; exact hlt)⟩
        have cx : ∃ b o, a1 = some ⟨b, o, none⟩ ∧ w2.cell? ⟨b, o + k, none⟩ = some (.string x) := by
          obtain ⟨b, o, e, hc⟩ := (hrow.below hb).addr (by rw [List.length_map, HN.out]; omega)
          exact ⟨b, o, e, hc k _ (by rw [List.getElem?_map, hx]; rfl)⟩
        obtain ⟨b, o, rfl, cx⟩ := cx
        have hxo := HOK.out x (List.mem_of_getElem? hx)
        have hxs := strA_bytesN x
        obtain ⟨L, hL⟩ : ∃ L, bytesN x = L := ⟨_, rfl⟩
        rw [hL] at hxo hxs
        have hml : (W.map bytesN)[k]? = some L := by rw [List.getElem?_map, hx, ← hL]; rfl
        rw [← hxs] at cx
        have hln := one_any L w2 hxo.1 hxo.asc (by have := hxo.2.1; omega)
        have hone := line_one L hxo
        have hz2 := hb.size
        have HLN := hidP hln
        have HML := hidP hml
        obtain ⟨X, hX⟩ : ∃ X, oneR L = X := ⟨_, rfl⟩
        have hstep : D = decS k acc ((W.map bytesN).drop (k + 1)) X := by
          rw [← hX, ← hone]
          unfold lineV
          cases hb : (lineR L).2
          · rw [if_neg (by simp), ← HF.out]; exact decF_no hml hb
          · rw [if_pos rfl, ← HF.out, decF_yes hml hb]; rfl
        have HST := hidP hstep
        unfold OnePost at hln
        rw [hX] at hln
        have HLN := hidP hln
        clear hln hml hx hxs hL hxo hX hstep hone
        go_wp2_with fail
        refine HLN.out.mono ?_
        rintro e w3 ⟨⟨xo, xa, xb, xn, xc⟩, v, rfl, hxy, hv, hb3⟩
        obtain ⟨vA, vc, rfl⟩ := Kd.R_slice hv
        simp only [instrV]
        have HXY := hidP hxy
        have hB3 := bstep hb hb3
        have HV := hidP hv
        have HR3 := hidP (Kd.R_below HR.out hb3)
        have hz3 := hb3.size
        clear hv hxy
        cases X with
        | none =>
          have hd : D = ([], (k : Int) + 1, 5) := HST.out
          have HDD := hidP hd
          clear hd
          go_wp2_with fail
          go_ret3
          rw [HDD.out]
          exact ⟨none, 0, rfl, Kd.R_nil _ _ _ _ _, (hb1.trans (hB3.mono hz1)).alloc (by omega) _⟩
        | some y =>
          obtain rfl := HXY.out y rfl
          have hd : D = decF (k + 1) (acc ++ [⟨xo, xa, xb, xn, xc⟩]) ((W.map bytesN).drop (k + 1)) := HST.out
          have HDD := hidP hd.symm
          have hcl : (acc.length + 1) * 56 ≤ 140737488355328 := by rw [HAC.out]; omega
          clear hd
          go_upto_region 11 with fail
          have hb4 := bnew (brefl w3) (.cells #[.int .i64 xo, .int .i64 xa, .int .i64 xb, .int .i64 xn, .slice vA xc.length vc] 56)
          have hn4 := blk_new w3 (.cells #[.int .i64 xo, .int .i64 xa, .int .i64 xb, .int .i64 xn, .slice vA xc.length vc] 56)
          generalize w3.alloc (.cells #[.int .i64 xo, .int .i64 xa, .int .i64 xb, .int .i64 xn, .slice vA xc.length vc] 56) = w4 at *
          have y0 : w4.cell? ⟨w3.heap.size, 0, none⟩ = some _ := (blk_cell hn4 0).trans rfl
          have y1 : w4.cell? ⟨w3.heap.size, 1, none⟩ = some _ := (blk_cell hn4 1).trans rfl
          have y2 : w4.cell? ⟨w3.heap.size, 2, none⟩ = some _ := (blk_cell hn4 2).trans rfl
          have y3 : w4.cell? ⟨w3.heap.size, 3, none⟩ = some _ := (blk_cell hn4 3).trans rfl
          have y4 : w4.cell? ⟨w3.heap.size, 4, none⟩ = some _ := (blk_cell hn4 4).trans rfl
          have hB4 := bstep hB3 hb4
          have hz4 := hB4.size
          have hR4 := Kd.R_below HR3.out hb4
          have hV4 := Kd.R_lower (Kd.R_below HV.out hb4) hz2
          have hM : kI.M w4 w1.heap.size (fun k => w2.heap.size ≤ k) ⟨xo, xa, xb, xn, xc⟩ (instrC ⟨xo, xa, xb, xn, xc⟩ (.slice vA xc.length vc)) := kI_mkM _ hV4
          have hokp : ∀ j, w2.heap.size ≤ j → w1.heap.size ≤ j ∧ some j ≠ (Value.slice A k c).ownBlock := fun j hj => ⟨by omega, fun e => by
            obtain ⟨inner, ho⟩ := Kd.R_own HR.out
            have := own_lt ho j e.symm
            omega⟩
          have HB4 := hidP hB4
          have HR4 := hidP hR4
          have HM := hidP hM
          have HOKP := hidP hokp
          clear hb4 hn4 hB4 hR4 hV4 hM hokp
          go_wp2_with (at_builtin; go_loud (refine (Kd.R_append kI w1.heap.size rfl (.tmp 37) (.tmp 39) 22 56 _ 56 rfl Tryz.underlying22 Tryz.infoI rfl (by decide) (by decide) (.slice A k c) acc ⟨xo, xa, xb, xn, xc⟩ (instrC ⟨xo, xa, xb, xn, xc⟩ (.slice vA xc.length vc)) (fun k => w1.heap.size ≤ k) (fun k => w2.heap.size ≤ k) rfl rfl HM.out HOKP.out (fun j hj => Nat.le_trans hz4 hj) HR4.out HB4.out hz4 hcl ?_)); intro v1 w7 hR7 hB7 hg7 hat7)
          obtain ⟨A7, c7, rfl⟩ := Kd.R_slice hR7
          have hlen : (acc ++ [(⟨xo, xa, xb, xn, xc⟩ : InstrD)]).length = k + 1 := by rw [List.length_append, HAC.out]; rfl
          rw [hlen] at hR7 ⊢
          exact ⟨⟨k + 1, _, A7, c7, rfl, by go_num, by omega, hlen, HDD, hR7, hB7⟩, by simp [intOf]; omega⟩
      · have hd : D = (acc, 0, 0) := by
          rw [← HF.out, List.drop_eq_nil_of_le (by rw [List.length_map, HN.out]; omega)]
          rfl
        have HDD := hidP hd
        clear hd
        go_wp2
        go_ret3
        rw [HDD.out]
        exact ⟨A, c, by show _ = Ending.returned (.tuple #[.slice A acc.length c, _, _]); rw [HAC.out]; rfl, by show kI.R _ _ _ _ (.slice A acc.length c) _; rw [HAC.out]; exact Kd.R_mono (Kd.R_lower HR.out hz1) (fun j hj => by omega), hb1.trans (hb.mono hz1)⟩
  · have hd : D = ([], 0, E) := by rw [HD.out, if_pos hE]
    have HDD := hidP hd
    have t0 : (E != 0) = true := by simpa using hE
    clear hd hE
    go_wp2
    go_ret3
    rw [HDD.out]
    exact ⟨none, 0, rfl, Kd.R_nil _ _ _ _ _, hb1⟩
end Go.Proofs.YtklfboidjnchoaaGreatDoor
namespace Go.Proofs.YtklfboidjnchoaaGreatDoor
open Go.RowKit Go.Proofs.YtklfboidjnchoaaGreatDoorW.PrintWords
set_option linter.unusedVariables false
set_option linter.unusedSimpArgs false
end Go.Proofs.YtklfboidjnchoaaGreatDoor
namespace Go.Proofs.YtklfboidjnchoaaGreatDoor
open Go.RowKit Go.Proofs.YtklfboidjnchoaaGreatDoorW.PrintWords
set_option linter.unusedVariables false
set_option linter.unusedSimpArgs false
end Go.Proofs.YtklfboidjnchoaaGreatDoor
namespace Go.Proofs.YtklfboidjnchoaaGreatDoor
open Go
set_option linter.unusedVariables false
set_option linter.unusedSimpArgs false
set_option linter.unusedSimpArgs false
def linesN : List Nat → List Nat → List (List Nat)
  | [], cur => if cur = [] then [] else [cur]
  | c :: r, cur => if c = 10 then (if cur = [] then linesN r [] else cur :: linesN r []) else if c = 32 then linesN r cur else linesN r (cur ++ [c])
def decO : Nat → List InstrD → List (List Nat) → List InstrD × Int × Int
  | _, acc, [] => (acc, 0, 0)
  | i, acc, L :: r => match oneR L with
    | some x => decO (i + 1) (acc ++ [x]) r
    | none => ([], (i : Int) + 1, 5)
def signsT (T : List Nat) : Prop := ∀ c ∈ T, c = 10 ∨ 32 ≤ c ∧ c ≤ 126
theorem linesN_signs : ∀ (L cur rest : List Nat), signs L → linesN (L ++ rest) cur = linesN rest (cur ++ L)
  | [], cur, rest, _ => by simp
  | c :: L, cur, rest, h => by
    have hc := h c (List.mem_cons_self ..)
    rw [List.cons_append]
    simp only [linesN]
    rw [if_neg (by omega), if_neg (by omega), linesN_signs L (cur ++ [c]) rest (fun x hx => h x (List.mem_cons_of_mem _ hx)), List.append_assoc]
    rfl
theorem accB_linesN : ∀ (T cur : List Nat), signsT T → (accB (T.map UInt8.ofNat) (cur.map UInt8.ofNat)) = (linesN T cur).map (List.map UInt8.ofNat)
  | [], cur, _ => by
    simp only [List.map_nil, accB, linesN]
    cases cur <;> simp
  | c :: r, cur, h => by
    have hc := h c (List.mem_cons_self ..)
    have hr : signsT r := fun x hx => h x (List.mem_cons_of_mem _ hx)
    have e : (UInt8.ofNat c).toNat = c := by simp; omega
    simp only [List.map_cons, accB, linesN]
    by_cases h10 : c = 10
    · subst h10
      rw [if_pos (by rfl), if_pos rfl]
      have ih := accB_linesN r [] hr
      cases cur with
      | nil => simpa using ih
      | cons d cur =>
        simp only [List.map_cons, List.isEmpty_cons, Bool.false_eq_true, if_false]
        rw [if_neg (by simp), List.map_cons]
        exact congrArg _ ih
    · rw [if_neg (fun e2 => h10 (by rw [e2] at e; simp at e; omega)), if_neg h10]
      by_cases h32 : c = 32
      · subst h32
        rw [if_pos (by rfl), if_pos rfl]
        exact accB_linesN r cur hr
      · rw [if_neg (fun e2 => h32 (by rw [e2] at e; simp at e; omega)), if_neg h32]
        have ih := accB_linesN r (cur ++ [c]) hr
        rw [List.map_append] at ih
        exact ih
theorem linesN_line : ∀ (T cur : List Nat), signsT T → signs cur → ∀ L ∈ linesN T cur, signs L ∧ L ≠ [] ∧ L.length ≤ T.length + cur.length
  | [], cur, _, hc, L, hL => by
    unfold linesN at hL
    split at hL
    · simp at hL
    · rename_i hne
      rw [List.mem_singleton] at hL
      subst hL
      exact ⟨hc, hne, by simp⟩
  | c :: r, cur, h, hc, L, hL => by
    have h0 := h c (List.mem_cons_self ..)
    have hr : signsT r := fun x hx => h x (List.mem_cons_of_mem _ hx)
    unfold linesN at hL
    split at hL
    · split at hL
      · have := linesN_line r [] hr (by simp [signs]) L hL
        exact ⟨this.1, this.2.1, by have := this.2.2; simp at this ⊢; omega⟩
      · rename_i hne
        rcases List.mem_cons.1 hL with rfl | hL
        · exact ⟨hc, hne, by simp⟩
        · have := linesN_line r [] hr (by simp [signs]) L hL
          exact ⟨this.1, this.2.1, by have := this.2.2; simp at this ⊢; omega⟩
    · split at hL
      · have := linesN_line r cur hr hc L hL
        exact ⟨this.1, this.2.1, by have := this.2.2; simp at this ⊢; omega⟩
      · have := linesN_line r (cur ++ [c]) hr (signs_app hc (fun x hx => by rw [List.mem_singleton] at hx; subst hx; omega)) L hL
        exact ⟨this.1, this.2.1, by have := this.2.2; simp at this ⊢; omega⟩
theorem may_signsT {T : List Nat} (h : signsT T) : mayL (T.map UInt8.ofNat) = true := by
  unfold mayL
  rw [List.all_eq_true]
  intro b hb
  obtain ⟨c, hc, rfl⟩ := List.mem_map.1 hb
  have := h c hc
  have e : (UInt8.ofNat c).toNat = c := by simp; omega
  unfold mayR
  rw [e]
  simp
  omega
theorem decF_decO : ∀ (Ls : List (List Nat)) (i : Nat) (acc : List InstrD), (∀ L ∈ Ls, LineOK L) → decF i acc Ls = decO i acc Ls
  | [], _, _, _ => rfl
  | L :: r, i, acc, h => by
    have hL := h L (List.mem_cons_self ..)
    have h1 := line_one L hL
    simp only [decF, decO]
    unfold lineV at h1
    by_cases hl : (lineR L).2 = true
    · rw [if_pos hl] at h1 ⊢
      rw [← h1]
      exact decF_decO r _ _ fun M hM => h M (List.mem_cons_of_mem _ hM)
    · rw [if_neg hl] at h1 ⊢
      rw [← h1]
theorem decode_lines {T : List Nat} (h : signsT T) (hl : T.length ≤ 2000) (h1 : 0 < (linesN T []).length) (h60 : (linesN T []).length ≤ 60) : decodeR (strA T) = decO 0 [] (linesN T []) := by
  have hm := may_signsT h
  have ha := mayL_ascii hm
  have hline := linesN_line T [] h (by simp [signs])
  have hk : keepB (piecesB (strA T)) = (linesN T []).map strA := by
    refine data_inj ?_
    rw [lines_acc, data_strA]
    have := accB_linesN T [] h
    rw [List.map_nil] at this
    rw [this, List.map_map]
    rfl
  have hL : linesR (strA T) = ((linesN T []).map strA, 0) := by
    unfold linesR
    rw [runes_len_ascii _ ha, may_ascii _ ha, data_strA, hm, hk, List.length_map, strA_size, if_neg (by omega), if_neg (by simp), if_neg (by omega), if_neg (by omega)]
  unfold decodeR
  rw [hL, if_neg (by simp)]
  have hb : ((linesN T []).map strA).map bytesN = linesN T [] := by
    rw [List.map_map]
    conv => rhs; rw [← List.map_id (linesN T [])]
    exact List.map_congr_left fun L hL => bytesN_strA (hline L hL).1
  show decF 0 [] (((linesN T []).map strA).map bytesN) = _
  rw [hb]
  exact decF_decO _ _ _ fun L hL => ⟨List.length_pos_iff.2 (hline L hL).2.1, by have := (hline L hL).2.2; simp at this; omega, (hline L hL).1⟩
theorem linesN_last {L cur : List Nat} (h : signs L) (hne : cur ++ L ≠ []) : linesN L cur = [cur ++ L] := by
  have := linesN_signs L cur [] h
  rw [List.append_nil] at this
  rw [this]
  unfold linesN
  rw [if_neg hne]
theorem linesN_line1 {L : List Nat} (rest : List Nat) (h : signs L) (hne : L ≠ []) : linesN (L ++ 10 :: rest) [] = L :: linesN rest [] := by
  rw [linesN_signs L [] _ h]
  show linesN (10 :: rest) ([] ++ L) = _
  rw [List.nil_append]
  simp only [linesN]
  rw [if_pos trivial, if_neg hne]
theorem signsT_app {A B : List Nat} (h : signsT A) (k : signsT B) : signsT (A ++ B) := fun c hc => by
  rcases List.mem_append.1 hc with hc | hc
  · exact h c hc
  · exact k c hc
theorem signs_T {A : List Nat} (h : signs A) : signsT A := fun c hc => .inr (by have := h c hc; omega)
end Go.Proofs.YtklfboidjnchoaaGreatDoor
