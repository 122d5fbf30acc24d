/-
  The walk over the reference's shaped.
-/
import Derived.Test.YtoflhfiegfhkoaaDoorKRShpA
import Derived.Test.YtoflhfiegfhkoaaDoorKRefD
namespace Go.Proofs.YtoflhfiegfhkoaaDoor
open Go.RowKit Go.Proofs.YtoflhfiegfhkoaaDoorW.PrintWords
set_option linter.unusedVariables false
set_option linter.unusedSimpArgs false

theorem take_has {F : List Nat} {j C : Nat} (h : F[j]? = some C) (c : Nat) : (F.take (j + 1)).contains c = ((F.take j).contains c || C == c) := by
  rw [List.take_add_one, h, Option.toList_some, List.contains_append]
  congr 1
  simp [List.contains_cons]
  rw [Bool.eq_iff_iff]
  simp only [beq_iff_eq, decide_eq_true_eq]
  exact eq_comm

theorem form_steps : ∀ f ∈ rforms, ∀ j < f.args.length, ((f.args.take j).contains 97, (f.args.take j).contains 98, ((f.args.take j).contains 78 || (f.args.take j).contains 110), (f.args.take j).contains 110, f.args.getD j 0) ∈ [(false, false, false, false, 97), (false, false, false, false, 78), (false, false, false, false, 110), (true, false, false, false, 78), (true, false, false, false, 98), (false, false, true, true, 97)] := by decide

set_option maxRecDepth 100000 in
set_option maxHeartbeats 12800000 in
theorem rshaped_other (op xa xb xn : Int) (cs : List CaseD) (A : Option Addr) (d : Nat) (w : World) (h21 : op ≠ 21) :
    Calls Tryd.prog 30 #[instrV ⟨op, xa, xb, xn, cs⟩ (.slice A cs.length d)] w fun e w' => e = .returned (.bool (rshF ⟨op, xa, xb, xn, cs⟩ rforms)) ∧ Below w.heap.size w w' := by
  simp only [instrV]
  obtain ⟨Z, hZ⟩ : ∃ Z, rshF ⟨op, xa, xb, xn, cs⟩ rforms = Z := ⟨_, rfl⟩
  rw [hZ]
  have HZ := hidP hZ
  obtain ⟨n, hn⟩ : ∃ n, cs.length = n := ⟨_, rfl⟩
  rw [hn]
  have HN := hidP hn
  have t21 : (op == 21) = false := by simp [h21]
  have hb1 := bnew (brefl w) (.cells #[.int .i64 op, .int .i64 xa, .int .i64 xb, .int .i64 xn, .slice A n d] 37)
  have hn1 := blk_new w (.cells #[.int .i64 op, .int .i64 xa, .int .i64 xb, .int .i64 xn, .slice A n d] 37)
  clear hn hZ h21
  go_enter Tryd.func30, Tryd.ntmps30
  go_upto_region 1 with fail
  generalize hw1 : w.alloc (.cells #[.int .i64 op, .int .i64 xa, .int .i64 xb, .int .i64 xn, .slice A n d] 37) = w1 at *
  clear hw1
  obtain ⟨x0, x1, x2, x3, x4⟩ := five_cells hn1
  go_wp2_with fail
  refine (forms_any _).mono ?_
  rintro e w2 ⟨fb, rfl, hrow, hb12⟩
  have hb2 := bstep hb1 hb12
  have HN2 := hidP (blk_below hn1 hb12)
  clear x0 x1 x2 x3 x4 hn1 hb1 hb12
  go_wp2_with fail
  go_loopw [7] (fun v7 wr => ∃ (k : Nat), v7 = .int .i64 k ∧ k ≤ 21 ∧ Hid (rshF ⟨op, xa, xb, xn, cs⟩ (rforms.drop k) = Z) ∧ Below w2.heap.size w2 wr) (fun v7 _ => 21 - (intOf v7).toNat)
  case atStart => exact ⟨0, rfl, by omega, HZ.out, brefl _⟩
  case round =>
    obtain ⟨k, rfl, hk, HF, hb⟩ := hrel
    obtain ⟨w3, e3⟩ : ∃ w3, w3 = wr := ⟨_, rfl⟩
    subst e3
    have hb3 := bstep hb2 hb
    have HN3 := hidP (blk_below HN2.out hb)
    obtain ⟨x0, x1, x2, x3, x4⟩ := five_cells HN3.out
    by_cases hlt : k < 21
    · obtain ⟨f, hf⟩ : ∃ f, rforms[k]? = some f := ⟨_, List.getElem?_eq_getElem (show k < rforms.length from hlt)⟩
      have hok := (List.mem_of_getElem? hf)
      obtain ⟨c00, c01, c02⟩ := rform_at (hrow.below hb) k f hf
      have hst : Z = if (f.op : Int) = op then rsh f ⟨op, xa, xb, xn, cs⟩ else rshF ⟨op, xa, xb, xn, cs⟩ (rforms.drop (k + 1)) := HF.out.symm.trans (rshF_at hf _)
      clear hf HF
      obtain ⟨fo, fl, fa⟩ := f
      dsimp only at c00 c01 c02 hst
      by_cases he : (fo : Int) = op
      · rw [if_pos he] at hst
        have t1 : ((fo : Int) != op) = false := by simp [he]
        have t1' : ((fo : Int) == op) = true := by simp [he]
        have hZr : Z = ((rwith xa 6 && rwith xb 6 && rwith xn 10000 && n == 0) && (fa.contains 97 || xa == 0) && (fa.contains 98 || xb == 0) && ((fa.contains 78 || fa.contains 110) || xn == 0) && (!fa.contains 110 || decide (xn < 10))) := by
          rw [hst, ← HN.out]
          rfl
        have HST := hidP hZr
        have hfa := (rforms_ok2 _ hok).1
        have hfl := (rforms_ok2 _ hok).2
        dsimp only at hfa hfl
        have hfs := strA_size fa
        have HFA := hidP hfa
        obtain ⟨m, hm⟩ : ∃ m, fa.length = m := ⟨_, rfl⟩
        rw [hm] at hfs hfl
        have HM := hidP hm
        have lt1 : (k : Int) < 21 := by omega
        have HMEM := hidP hok
        clear hst hZr hok hfa hm he
        go_upto_region 14 with fail
        go_quiet (fail)
        go_wp2_with fail
        have hB4 : Below w.heap.size w (w3.drewN nq) := ⟨hb3.os, hb3.tape, hb3.output, hb3.size, hb3.block⟩
        have y0 : (w3.drewN nq).cell? ⟨w.heap.size, 0, none⟩ = _ := x0
        have y1 : (w3.drewN nq).cell? ⟨w.heap.size, 1, none⟩ = _ := x1
        have y2 : (w3.drewN nq).cell? ⟨w.heap.size, 2, none⟩ = _ := x2
        have y3 : (w3.drewN nq).cell? ⟨w.heap.size, 3, none⟩ = _ := x3
        have y4 : (w3.drewN nq).cell? ⟨w.heap.size, 4, none⟩ = _ := x4
        have d02 : (w3.drewN nq).cell? ⟨fb, k * 3 + 2, none⟩ = _ := c02
        generalize w3.drewN nq = w4 at *
        clear x0 x1 x2 x3 x4 c00 c01 c02 hb hb3 HN3
        go_loop [8, 9, 10, 11, 12] (fun v8 v9 v10 v11 v12 => ∃ (j : Nat) (a b n dg : Bool), v8 = .bool a ∧ v9 = .bool b ∧ v10 = .bool n ∧ v11 = .bool dg ∧ v12 = .int .i64 j ∧ j ≤ m ∧ Hid (a = (fa.take j).contains 97 ∧ b = (fa.take j).contains 98 ∧ n = ((fa.take j).contains 78 || (fa.take j).contains 110) ∧ dg = (fa.take j).contains 110)) (fun _ _ _ _ v12 => m - (intOf v12).toNat)
        case atStart => exact ⟨0, false, false, false, false, rfl, rfl, rfl, rfl, rfl, by omega, by show _ ∧ _ ∧ _ ∧ _; simp⟩
        case round =>
          obtain ⟨j, a, b, nn, dg, rfl, rfl, rfl, rfl, rfl, hj, HI⟩ := hrel
          by_cases hjt : j < m
          · have hix := fun w => Tryd.idx_strA fa j (by rw [HM.out]; exact hjt) HFA.out w
            obtain ⟨C, hC⟩ : ∃ C, fa[j]? = some C := ⟨_, List.getElem?_eq_getElem (by rw [HM.out]; exact hjt)⟩
            have hCc : chr fa j = C := by unfold chr; rw [List.getD_eq_getElem?_getD, hC]; rfl
            have hC128 := HFA.out C (List.mem_of_getElem? hC)
            rw [hCc] at hix
            have lt2 : (j : Int) < (m : Int) := by omega
            have hsp : (a, b, nn, dg, C) ∈ [(false, false, false, false, 97), (false, false, false, false, 78), (false, false, false, false, 110), (true, false, false, false, 78), (true, false, false, false, 98), (false, false, true, true, 97)] := by
              have h := form_steps _ HMEM.out j (by show j < fa.length; rw [HM.out]; exact hjt)
              obtain ⟨h1, h2, h3, h4⟩ := HI.out
              dsimp only at h
              rw [← h3, ← h1, ← h2, ← h4, List.getD_eq_getElem?_getD, hC] at h
              exact h
            have HI2 : Hid ((a || C == 97) = (fa.take (j + 1)).contains 97 ∧ (b || C == 98) = (fa.take (j + 1)).contains 98 ∧ (nn || C == 78 || C == 110) = ((fa.take (j + 1)).contains 78 || (fa.take (j + 1)).contains 110) ∧ (dg || C == 110) = (fa.take (j + 1)).contains 110) := by
              obtain ⟨h1, h2, h3, h4⟩ := HI.out
              show _ ∧ _ ∧ _ ∧ _
              rw [take_has hC, take_has hC, take_has hC, take_has hC, h1, h2, h3, h4]
              refine ⟨rfl, rfl, ?_, rfl⟩
              cases (fa.take j).contains 78 <;> cases (fa.take j).contains 110 <;> cases C == 78 <;> cases C == 110 <;> rfl
            clear hC hCc HI
            simp only [List.mem_cons, Prod.mk.injEq, List.not_mem_nil, or_false] at hsp
            clear hC128
            rcases hsp with ⟨rfl, rfl, rfl, rfl, rfl⟩ | ⟨rfl, rfl, rfl, rfl, rfl⟩ | ⟨rfl, rfl, rfl, rfl, rfl⟩ | ⟨rfl, rfl, rfl, rfl, rfl⟩ | ⟨rfl, rfl, rfl, rfl, rfl⟩ | ⟨rfl, rfl, rfl, rfl, rfl⟩
            all_goals
              go_wp2_with fail
              go_round
              case rel => exact ⟨j + 1, _, _, _, _, rfl, rfl, rfl, rfl, by go_num, by omega, HI2⟩
              case measure => simp [intOf]; omega
          · obtain rfl : j = m := by omega
            have lt2 : ¬ (j : Int) < (j : Int) := by omega
            obtain ⟨i1, i2, i3, i4⟩ := HI.out
            rw [List.take_of_length_le (by rw [HM.out]; omega)] at i1 i2 i3 i4
            have hz := HST.out
            rw [← i3, ← i1, ← i2, ← i4] at hz
            have g1 := fun w => rwithin_any xa 6 w
            have g2 := fun w => rwithin_any xb 6 w
            have g3 := fun w => rwithin_any xn 10000 w
            obtain ⟨B1, hB1⟩ : ∃ B, rwith xa 6 = B := ⟨_, rfl⟩
            obtain ⟨B2, hB2⟩ : ∃ B, rwith xb 6 = B := ⟨_, rfl⟩
            obtain ⟨B3, hB3⟩ : ∃ B, rwith xn 10000 = B := ⟨_, rfl⟩
            rw [hB1] at g1 hz
            rw [hB2] at g2 hz
            rw [hB3] at g3 hz
            obtain ⟨O, hO⟩ : ∃ O, (B1 && B2 && B3 && n == 0) = O := ⟨_, rfl⟩
            rw [hO] at hz
            have HZZ := hidP hz
            have HO := hidP hO
            have G1 := hidP g1
            have G2 := hidP g2
            have G3 := hidP g3
            clear i1 i2 i3 i4 hz hO g1 g2 g3 hB1 hB2 hB3 HST HI
            go_upto_region 21 with fail
            go_cut [14] from 156 to 174 (fun v14 wx => v14 = .bool O ∧ w4 = wx)
            case first =>
              cases B1
              · obtain rfl : O = false := by rw [← HO.out]; simp
                go_wp2_with (first | (go_at_call 48; first | (with_reducible refine (G1.out _).mono ?_; rintro e w' ⟨rfl, rfl⟩) | (with_reducible refine (G2.out _).mono ?_; rintro e w' ⟨rfl, rfl⟩) | (with_reducible refine (G3.out _).mono ?_; rintro e w' ⟨rfl, rfl⟩) | fail) | fail)
                go_meet
                exact ⟨rfl, rfl⟩
              cases B2
              · obtain rfl : O = false := by rw [← HO.out]; simp
                go_wp2_with (first | (go_at_call 48; first | (with_reducible refine (G1.out _).mono ?_; rintro e w' ⟨rfl, rfl⟩) | (with_reducible refine (G2.out _).mono ?_; rintro e w' ⟨rfl, rfl⟩) | (with_reducible refine (G3.out _).mono ?_; rintro e w' ⟨rfl, rfl⟩) | fail) | fail)
                go_meet
                exact ⟨rfl, rfl⟩
              cases B3
              · obtain rfl : O = false := by rw [← HO.out]; simp
                go_wp2_with (first | (go_at_call 48; first | (with_reducible refine (G1.out _).mono ?_; rintro e w' ⟨rfl, rfl⟩) | (with_reducible refine (G2.out _).mono ?_; rintro e w' ⟨rfl, rfl⟩) | (with_reducible refine (G3.out _).mono ?_; rintro e w' ⟨rfl, rfl⟩) | fail) | fail)
                go_meet
                exact ⟨rfl, rfl⟩
              by_cases hn0 : n = 0
              · obtain rfl : O = true := by rw [← HO.out]; simp [hn0]
                have tn : ((n : Int) == 0) = true := by simp; omega
                clear hn0
                go_wp2_with (first | (go_at_call 48; first | (with_reducible refine (G1.out _).mono ?_; rintro e w' ⟨rfl, rfl⟩) | (with_reducible refine (G2.out _).mono ?_; rintro e w' ⟨rfl, rfl⟩) | (with_reducible refine (G3.out _).mono ?_; rintro e w' ⟨rfl, rfl⟩) | fail) | fail)
                go_meet
                exact ⟨rfl, rfl⟩
              · obtain rfl : O = false := by rw [← HO.out]; simp [hn0]
                have tn : ((n : Int) == 0) = false := by simp; omega
                clear hn0
                go_wp2_with (first | (go_at_call 48; first | (with_reducible refine (G1.out _).mono ?_; rintro e w' ⟨rfl, rfl⟩) | (with_reducible refine (G2.out _).mono ?_; rintro e w' ⟨rfl, rfl⟩) | (with_reducible refine (G3.out _).mono ?_; rintro e w' ⟨rfl, rfl⟩) | fail) | fail)
                go_meet
                exact ⟨rfl, rfl⟩
            case rest =>
              obtain ⟨rfl, rfl⟩ := hcut
              cases O
              · have t00 : True := trivial
                have hz : Z = false := by rw [HZZ.out]; simp [t00]
                subst hz
                clear HZZ
                go_wp2_with fail
                go_ret
                exact ⟨rfl, hB4⟩
              cases a
              rotate_left
              · have t00 : True := trivial
                cases b
                rotate_left
                ·
                  cases nn
                  rotate_left
                  ·
                    cases dg
                    ·
                      have hz : Z = true := by rw [HZZ.out]; simp [t00]
                      subst hz
                      clear HZZ
                      go_wp2_with fail
                      go_ret
                      exact ⟨rfl, hB4⟩
                    by_cases h10 : xn < 10
                    · have t10 : decide (xn < 10) = true := decide_eq_true h10
                      have hz : Z = true := by rw [HZZ.out]; simp [t00, h10]
                      subst hz
                      clear HZZ
                      go_wp2_with fail
                      go_ret
                      exact ⟨rfl, hB4⟩
                    · have t10 : decide (xn < 10) = false := decide_eq_false h10
                      have hz : Z = false := by rw [HZZ.out]; simp [t00, h10]
                      subst hz
                      clear HZZ
                      go_wp2_with fail
                      go_ret
                      exact ⟨rfl, hB4⟩
                  by_cases hn0 : xn = 0
                  · have tn : (xn == 0) = true := by simp [hn0]
                    clear hn0
                    cases dg
                    ·
                      have hz : Z = true := by rw [HZZ.out]; simp [t00, tn]
                      subst hz
                      clear HZZ
                      go_wp2_with fail
                      go_ret
                      exact ⟨rfl, hB4⟩
                    by_cases h10 : xn < 10
                    · have t10 : decide (xn < 10) = true := decide_eq_true h10
                      have hz : Z = true := by rw [HZZ.out]; simp [t00, tn, h10]
                      subst hz
                      clear HZZ
                      go_wp2_with fail
                      go_ret
                      exact ⟨rfl, hB4⟩
                    · have t10 : decide (xn < 10) = false := decide_eq_false h10
                      have hz : Z = false := by rw [HZZ.out]; simp [t00, tn, h10]
                      subst hz
                      clear HZZ
                      go_wp2_with fail
                      go_ret
                      exact ⟨rfl, hB4⟩
                  · have tn : (xn == 0) = false := by simp [hn0]
                    clear hn0
                    have hz : Z = false := by rw [HZZ.out]; simp [t00, tn]
                    subst hz
                    clear HZZ
                    go_wp2_with fail
                    go_ret
                    exact ⟨rfl, hB4⟩
                by_cases hb0 : xb = 0
                · have tb : (xb == 0) = true := by simp [hb0]
                  clear hb0
                  cases nn
                  rotate_left
                  ·
                    cases dg
                    ·
                      have hz : Z = true := by rw [HZZ.out]; simp [t00, tb]
                      subst hz
                      clear HZZ
                      go_wp2_with fail
                      go_ret
                      exact ⟨rfl, hB4⟩
                    by_cases h10 : xn < 10
                    · have t10 : decide (xn < 10) = true := decide_eq_true h10
                      have hz : Z = true := by rw [HZZ.out]; simp [t00, tb, h10]
                      subst hz
                      clear HZZ
                      go_wp2_with fail
                      go_ret
                      exact ⟨rfl, hB4⟩
                    · have t10 : decide (xn < 10) = false := decide_eq_false h10
                      have hz : Z = false := by rw [HZZ.out]; simp [t00, tb, h10]
                      subst hz
                      clear HZZ
                      go_wp2_with fail
                      go_ret
                      exact ⟨rfl, hB4⟩
                  by_cases hn0 : xn = 0
                  · have tn : (xn == 0) = true := by simp [hn0]
                    clear hn0
                    cases dg
                    ·
                      have hz : Z = true := by rw [HZZ.out]; simp [t00, tb, tn]
                      subst hz
                      clear HZZ
                      go_wp2_with fail
                      go_ret
                      exact ⟨rfl, hB4⟩
                    by_cases h10 : xn < 10
                    · have t10 : decide (xn < 10) = true := decide_eq_true h10
                      have hz : Z = true := by rw [HZZ.out]; simp [t00, tb, tn, h10]
                      subst hz
                      clear HZZ
                      go_wp2_with fail
                      go_ret
                      exact ⟨rfl, hB4⟩
                    · have t10 : decide (xn < 10) = false := decide_eq_false h10
                      have hz : Z = false := by rw [HZZ.out]; simp [t00, tb, tn, h10]
                      subst hz
                      clear HZZ
                      go_wp2_with fail
                      go_ret
                      exact ⟨rfl, hB4⟩
                  · have tn : (xn == 0) = false := by simp [hn0]
                    clear hn0
                    have hz : Z = false := by rw [HZZ.out]; simp [t00, tb, tn]
                    subst hz
                    clear HZZ
                    go_wp2_with fail
                    go_ret
                    exact ⟨rfl, hB4⟩
                · have tb : (xb == 0) = false := by simp [hb0]
                  clear hb0
                  have hz : Z = false := by rw [HZZ.out]; simp [t00, tb]
                  subst hz
                  clear HZZ
                  go_wp2_with fail
                  go_ret
                  exact ⟨rfl, hB4⟩
              by_cases ha0 : xa = 0
              · have ta : (xa == 0) = true := by simp [ha0]
                clear ha0
                cases b
                rotate_left
                ·
                  cases nn
                  rotate_left
                  ·
                    cases dg
                    ·
                      have hz : Z = true := by rw [HZZ.out]; simp [ta]
                      subst hz
                      clear HZZ
                      go_wp2_with fail
                      go_ret
                      exact ⟨rfl, hB4⟩
                    by_cases h10 : xn < 10
                    · have t10 : decide (xn < 10) = true := decide_eq_true h10
                      have hz : Z = true := by rw [HZZ.out]; simp [ta, h10]
                      subst hz
                      clear HZZ
                      go_wp2_with fail
                      go_ret
                      exact ⟨rfl, hB4⟩
                    · have t10 : decide (xn < 10) = false := decide_eq_false h10
                      have hz : Z = false := by rw [HZZ.out]; simp [ta, h10]
                      subst hz
                      clear HZZ
                      go_wp2_with fail
                      go_ret
                      exact ⟨rfl, hB4⟩
                  by_cases hn0 : xn = 0
                  · have tn : (xn == 0) = true := by simp [hn0]
                    clear hn0
                    cases dg
                    ·
                      have hz : Z = true := by rw [HZZ.out]; simp [ta, tn]
                      subst hz
                      clear HZZ
                      go_wp2_with fail
                      go_ret
                      exact ⟨rfl, hB4⟩
                    by_cases h10 : xn < 10
                    · have t10 : decide (xn < 10) = true := decide_eq_true h10
                      have hz : Z = true := by rw [HZZ.out]; simp [ta, tn, h10]
                      subst hz
                      clear HZZ
                      go_wp2_with fail
                      go_ret
                      exact ⟨rfl, hB4⟩
                    · have t10 : decide (xn < 10) = false := decide_eq_false h10
                      have hz : Z = false := by rw [HZZ.out]; simp [ta, tn, h10]
                      subst hz
                      clear HZZ
                      go_wp2_with fail
                      go_ret
                      exact ⟨rfl, hB4⟩
                  · have tn : (xn == 0) = false := by simp [hn0]
                    clear hn0
                    have hz : Z = false := by rw [HZZ.out]; simp [ta, tn]
                    subst hz
                    clear HZZ
                    go_wp2_with fail
                    go_ret
                    exact ⟨rfl, hB4⟩
                by_cases hb0 : xb = 0
                · have tb : (xb == 0) = true := by simp [hb0]
                  clear hb0
                  cases nn
                  rotate_left
                  ·
                    cases dg
                    ·
                      have hz : Z = true := by rw [HZZ.out]; simp [ta, tb]
                      subst hz
                      clear HZZ
                      go_wp2_with fail
                      go_ret
                      exact ⟨rfl, hB4⟩
                    by_cases h10 : xn < 10
                    · have t10 : decide (xn < 10) = true := decide_eq_true h10
                      have hz : Z = true := by rw [HZZ.out]; simp [ta, tb, h10]
                      subst hz
                      clear HZZ
                      go_wp2_with fail
                      go_ret
                      exact ⟨rfl, hB4⟩
                    · have t10 : decide (xn < 10) = false := decide_eq_false h10
                      have hz : Z = false := by rw [HZZ.out]; simp [ta, tb, h10]
                      subst hz
                      clear HZZ
                      go_wp2_with fail
                      go_ret
                      exact ⟨rfl, hB4⟩
                  by_cases hn0 : xn = 0
                  · have tn : (xn == 0) = true := by simp [hn0]
                    clear hn0
                    cases dg
                    ·
                      have hz : Z = true := by rw [HZZ.out]; simp [ta, tb, tn]
                      subst hz
                      clear HZZ
                      go_wp2_with fail
                      go_ret
                      exact ⟨rfl, hB4⟩
                    by_cases h10 : xn < 10
                    · have t10 : decide (xn < 10) = true := decide_eq_true h10
                      have hz : Z = true := by rw [HZZ.out]; simp [ta, tb, tn, h10]
                      subst hz
                      clear HZZ
                      go_wp2_with fail
                      go_ret
                      exact ⟨rfl, hB4⟩
                    · have t10 : decide (xn < 10) = false := decide_eq_false h10
                      have hz : Z = false := by rw [HZZ.out]; simp [ta, tb, tn, h10]
                      subst hz
                      clear HZZ
                      go_wp2_with fail
                      go_ret
                      exact ⟨rfl, hB4⟩
                  · have tn : (xn == 0) = false := by simp [hn0]
                    clear hn0
                    have hz : Z = false := by rw [HZZ.out]; simp [ta, tb, tn]
                    subst hz
                    clear HZZ
                    go_wp2_with fail
                    go_ret
                    exact ⟨rfl, hB4⟩
                · have tb : (xb == 0) = false := by simp [hb0]
                  clear hb0
                  have hz : Z = false := by rw [HZZ.out]; simp [ta, tb]
                  subst hz
                  clear HZZ
                  go_wp2_with fail
                  go_ret
                  exact ⟨rfl, hB4⟩
              · have ta : (xa == 0) = false := by simp [ha0]
                clear ha0
                have hz : Z = false := by rw [HZZ.out]; simp [ta]
                subst hz
                clear HZZ
                go_wp2_with fail
                go_ret
                exact ⟨rfl, hB4⟩
      · rw [if_neg he] at hst
        have t1 : ((fo : Int) != op) = true := by simp [he]
        have t1' : ((fo : Int) == op) = false := by simp [he]
        have HST := hidP hst.symm
        have hb5 : ∀ n, Below w2.heap.size w2 (w3.drewN n) := fun n => ⟨hb.os, hb.tape, hb.output, hb.size, hb.block⟩
        clear hst he hok
        go_wp2_with fail
        go_quiet (fail)
        go_wp2
        go_roundw
        case rel => exact ⟨k + 1, by go_num, by omega, HST.out, hb5 _⟩
        case measure => simp [intOf]; omega
    · have hZ : Z = false := by
        have := HF.out
        have hk21 : k = 21 := by omega
        rw [hk21] at this
        exact this.symm
      subst hZ
      go_wp2
      go_ret
      exact ⟨rfl, hb3⟩
theorem rshaped_any (x : InstrD) (A : Option Addr) (d : Nat) (w : World) (hc : kC.C w A x.cases.length x.cases) (hcl : x.cases.length ≤ 9223372036854775807) :
    Calls Tryd.prog 30 #[instrV x (.slice A x.cases.length d)] w fun e w' => e = .returned (.bool (rshaped x)) ∧ Below w.heap.size w w' := by
  obtain ⟨op, xa, xb, xn, cs⟩ := x
  unfold rshaped
  dsimp only
  by_cases h : op = 21
  · subst h
    rw [if_pos rfl]
    exact rshaped_choose xa xb xn cs A d w hc hcl
  · rw [if_neg h]
    exact rshaped_other op xa xb xn cs A d w h
end Go.Proofs.YtoflhfiegfhkoaaDoor
