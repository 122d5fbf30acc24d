/-
  The walk over the reference's written.
-/
import Derived.Test.YtoflhfiegfhkoaaDoorKRWr
namespace Go.Proofs.YtoflhfiegfhkoaaDoor
open Go.RowKit Go.Proofs.YtoflhfiegfhkoaaDoorW.PrintWords
set_option linter.unusedVariables false
set_option linter.unusedSimpArgs false

def WrPost (w : World) (x : InstrD) (e : Ending) (w' : World) : Prop := ∃ t : List Nat, e = .returned (.string (strA t)) ∧ t.length ≤ 24 * (x.cases.length + 2) ∧ (rshaped x = true → t = rW x) ∧ Below w.heap.size w w'

set_option maxRecDepth 100000 in
set_option maxHeartbeats 12800000 in
theorem rwritten_choose (xa xb xn : Int) (cs : List CaseD) (A : Option Addr) (d : Nat) (w : World) (hc : kC.C w A cs.length cs) (hcl : cs.length ≤ 1000) (hci : ∀ c ∈ cs, caseIn c) :
    Calls Tryd.prog 46 #[instrV ⟨21, xa, xb, xn, cs⟩ (.slice A cs.length d)] w (WrPost w ⟨21, xa, xb, xn, cs⟩) := by
  simp only [instrV]
  have HC := hidP hc
  have HCI := hidP hci
  have hgood : rshaped ⟨21, xa, xb, xn, cs⟩ = true → ∀ c ∈ cs, caseSt c := fun h c hcm => by
    rw [rshaped_21 rfl] at h
    obtain ⟨j, hj⟩ := List.getElem?_of_mem hcm
    exact (h.2 j c hj).1
  have HGOOD := hidP hgood
  obtain ⟨n, hn⟩ : ∃ n, cs.length = n := ⟨_, rfl⟩
  rw [hn] at hcl ⊢
  have HN := hidP hn
  have hb1 := bnew (brefl w) (.cells #[.int .i64 21, .int .i64 xa, .int .i64 xb, .int .i64 xn, .slice A n d] 37)
  have hn1 := blk_new w (.cells #[.int .i64 21, .int .i64 xa, .int .i64 xb, .int .i64 xn, .slice A n d] 37)
  clear hc hn hci hgood
  go_enter Tryd.func46, Tryd.ntmps46
  go_upto_region 1 with fail
  generalize hw1 : w.alloc (.cells #[.int .i64 21, .int .i64 xa, .int .i64 xb, .int .i64 xn, .slice A n d] 37) = w1 at *
  clear hw1
  obtain ⟨x0, x1, x2, x3, x4⟩ := five_cells hn1
  have hl1 : w.heap.size < w1.heap.size := blk_lt hn1
  go_wp2_with fail
  go_loopw [3, 4] (fun v3 v4 wr => ∃ (k : Nat) (T : List Nat), v3 = .string (strA T) ∧ v4 = .int .i64 k ∧ k ≤ n ∧ T.length ≤ 1 + 24 * k ∧ Hid ((∀ c ∈ cs.take k, caseSt c) → T = 83 :: (cs.take k).flatMap caseW) ∧ Below w1.heap.size w1 wr) (fun _ v4 _ => n - (intOf v4).toNat)
  case atStart => exact ⟨0, [83], rfl, rfl, by omega, by simp, fun _ => rfl, brefl _⟩
  case round =>
    clear x0 x1 x2 x3 x4
    obtain ⟨k, T, rfl, rfl, hk, hT, HT, hb⟩ := hrel
    obtain ⟨w2, e2⟩ : ∃ w2, w2 = wr := ⟨_, rfl⟩
    subst e2
    have hn2 := blk_below hn1 hb
    obtain ⟨x0, x1, x2, x3, x4⟩ := five_cells hn2
    have hl2 : w.heap.size < w2.heap.size := blk_lt hn2
    by_cases hlt : k < n
    · obtain ⟨⟨ck, cc, cr, ct⟩, hx⟩ : ∃ x, cs[k]? = some x := ⟨_, List.getElem?_eq_getElem (by rw [HN.out]; exact hlt)⟩
      obtain ⟨b, o, rfl, q0, q1, q2, q3⟩ := case_at (Kd.C_below HC.out (bstep hb1 hb)) k _ hx
      have hin := HCI.out _ (List.mem_of_getElem? hx)
      have hnext : (T' : List Nat) → (T' = T ++ caseW ⟨ck, cc, cr, ct⟩) → (∀ c ∈ cs.take (k + 1), caseSt c) → T' = 83 :: (cs.take (k + 1)).flatMap caseW := fun T' h1 h2 => by
        rw [List.take_add_one, hx] at h2 ⊢
        rw [h1, HT.out (fun c hc => h2 c (List.mem_append_left _ hc))]
        simp
      have hst : (∀ c ∈ cs.take (k + 1), caseSt c) → caseSt ⟨ck, cc, cr, ct⟩ := fun h => h _ (by rw [List.take_add_one, hx]; simp)
      dsimp only at q0 q1 q2 q3
      have HNX := hidP hnext
      have HST := hidP hst
      have hb3 := bnew hb (.cells #[.int .i64 ck, .int .i64 cc, .int .i64 cr, .int .i64 ct] 39)
      have hn3 := blk_new w2 (.cells #[.int .i64 ck, .int .i64 cc, .int .i64 cr, .int .i64 ct] 39)
      have lt1 : (k : Int) < (n : Int) := by omega
      clear hx hnext hst HT hn2
      go_upto_region 7 with fail
      generalize hw3 : w2.alloc (.cells #[.int .i64 ck, .int .i64 cc, .int .i64 cr, .int .i64 ct] 39) = w3 at *
      clear hw3 x0 x1 x2 x3 x4 q0 q1 q2 q3
      have hG := blk_lt hn3
      obtain ⟨G, hGG⟩ : ∃ G, w2.heap.size = G := ⟨_, rfl⟩
      rw [hGG] at hn3 hG ⊢
      obtain ⟨z0, z1, z2, z3⟩ := four_cells hn3
      obtain ⟨TL, hTL⟩ : ∃ TL, T.length = TL := ⟨_, rfl⟩
      rw [hTL] at hT
      have hs0 := strA_size T
      rw [hTL] at hs0
      have HTL := hidP hTL
      have HDIN : Hid (inI ct) := hin.2.2.2
      clear hin hTL hGG hl2
      by_cases h1 : ck = 1
      · have t1 : (ck == 1) = true := by simp [h1]
        obtain ⟨L1, hL1⟩ : ∃ L1, letterN cc = L1 := ⟨_, rfl⟩
        obtain ⟨L2, hL2⟩ : ∃ L2, letterN cr = L2 := ⟨_, rfl⟩
        have g1 := fun w => rletter_any cc w
        have g2 := fun w => rletter_any cr w
        rw [hL1] at g1
        rw [hL2] at g2
        have G1 := hidP g1
        have G2 := hidP g2
        have HL1 := hidP hL1
        have HL2 := hidP hL2
        have HK1 := hidP h1
        obtain ⟨T1, hT1⟩ : ∃ T1, T ++ [115] = T1 := ⟨_, rfl⟩
        obtain ⟨T2, hT2⟩ : ∃ T2, T1 ++ [L1] = T2 := ⟨_, rfl⟩
        obtain ⟨T3, hT3⟩ : ∃ T3, T2 ++ [L2] = T3 := ⟨_, rfl⟩
        have hap1 : strA T ++ ⟨#[115]⟩ = strA T1 := hT1 ▸ strA_app T [115]
        have hap2 : strA T1 ++ strA [L1] = strA T2 := hT2 ▸ strA_app T1 [L1]
        have hap3 : strA T2 ++ strA [L2] = strA T3 := hT3 ▸ strA_app T2 [L2]
        have hs1 : (strA T1).size = TL + 1 := by rw [strA_size, ← hT1]; simp [HTL.out]
        have hs2 : (strA T2).size = TL + 2 := by rw [strA_size, ← hT2, ← hT1]; simp [HTL.out]
        have hs3 : (strA T3).size = TL + 3 := by rw [strA_size, ← hT3, ← hT2, ← hT1]; simp [HTL.out]
        have HT1 := hidP hT1
        have HT2 := hidP hT2
        have HT3 := hidP hT3
        have hsa := strA_size [L1]
        have hsb := strA_size [L2]
        have hc1 : ¬ (9223372036854775807 < TL + 1) := by omega
        have hc2 : ¬ (9223372036854775807 < TL + 1 + 1) := by omega
        have hc3 : ¬ (9223372036854775807 < TL + 2 + 1) := by omega
        have hc4 : ¬ (9223372036854775807 < TL + 2) := by omega
        have hc5 : ¬ (9223372036854775807 < TL + 3) := by omega
        clear g1 g2 hL1 hL2 h1 hT1 hT2 hT3 
        go_upto_region 10 with fail
        go_region_held3 (fun w' => w'.cell? ⟨G, 1, none⟩ = some (.int .i64 cc) ∧ w'.cell? ⟨G, 2, none⟩ = some (.int .i64 cr))
          (first | exact ⟨z1, z2⟩ | exact ⟨pw_cell_below hb5 z1, pw_cell_below hb5 z2⟩ | exact ⟨pw_cell_below hb6 (pw_cell_below hb5 z1), pw_cell_below hb6 (pw_cell_below hb5 z2)⟩ | fail)
          (first | (go_at_call 68; first | (with_reducible refine (G1.out _).mono ?_; rintro e w5 ⟨rfl, hb5⟩) | (with_reducible refine (G2.out _).mono ?_; rintro e w6 ⟨rfl, hb6⟩) | fail) | fail)
        have hc9 := fun (t : List Nat) => strA_app T3 t
        have hz9 : w6.cell? ⟨G, 3, none⟩ = some (.int .i64 ct) := pw_cell_below hb6 (pw_cell_below (w := w3.drew) hb5 z3)
        have HH : Hid (T3 = T ++ caseH ⟨ck, cc, cr, ct⟩) := by show _ = _; rw [← HT3.out, ← HT2.out, ← HT1.out]; simp [caseH, HK1.out, HL1.out, HL2.out]
        have HB9 := hidP (show Below w1.heap.size w1 w6 from hb3.drew.trans ((hb5.mono hb3.size).trans (hb6.mono (Nat.le_trans hb3.size hb5.size))))
        go_upto_region 13 with fail
        clear z0 z1 z2 z3
        go_wp2_with fail
        refine (rdigits_any ct HDIN.out _).mono ?_
        rintro e w9 ⟨D, rfl, hDl, hD, hb9⟩
        obtain ⟨T9, hT9⟩ : ∃ T9, T3 ++ D = T9 := ⟨_, rfl⟩
        have hap := hc9 D
        rw [hT9] at hap
        have hsD := strA_size D
        have HD := hidP hD
        have HT9 := hidP hT9
        clear hc9 hD hT9
        obtain ⟨DL, hDL⟩ : ∃ DL, D.length = DL := ⟨_, rfl⟩
        have HDL := hidP hDL
        rw [hDL] at hsD hDl
        have hcc : ¬ (9223372036854775807 < TL + 3 + DL) := by omega
        have hcc2 : ¬ (9223372036854775807 < TL + DL + 3) := by omega
        clear hDL
        go_wp2_with fail
        go_roundw
        case rel =>
          refine ⟨k + 1, T9, rfl, by go_num, by omega, ?_, ?_, ?_⟩
          · have h1 : (strA T3).size = (T3).length := strA_size T3
            rw [← HT9.out, List.length_append, HDL.out, ← h1, hs3]
            omega
          · show (∀ c ∈ cs.take (k + 1), caseSt c) → _
            intro hall
            refine HNX.out _ ?_ hall
            have hs := HST.out hall
            rw [← HT9.out, HD.out hs.1.1, HH.out, List.append_assoc]
            rfl
          · exact bstep HB9.out hb9
        case measure => simp [intOf]; omega
      · have t1 : (ck == 1) = false := by simp [h1]
        by_cases h2 : ck = 2
        · have t2 : (ck == 2) = true := by simp [h2]
          obtain ⟨L1, hL1⟩ : ∃ L1, letterN cc = L1 := ⟨_, rfl⟩
          obtain ⟨L2, hL2⟩ : ∃ L2, letterN cr = L2 := ⟨_, rfl⟩
          have g1 := fun w => rletter_any cc w
          have g2 := fun w => rletter_any cr w
          rw [hL1] at g1
          rw [hL2] at g2
          have G1 := hidP g1
          have G2 := hidP g2
          have HL1 := hidP hL1
          have HL2 := hidP hL2
          have HK1 := hidP h2
          obtain ⟨T1, hT1⟩ : ∃ T1, T ++ [114] = T1 := ⟨_, rfl⟩
          obtain ⟨T2, hT2⟩ : ∃ T2, T1 ++ [L1] = T2 := ⟨_, rfl⟩
          obtain ⟨T3, hT3⟩ : ∃ T3, T2 ++ [L2] = T3 := ⟨_, rfl⟩
          have hap1 : strA T ++ ⟨#[114]⟩ = strA T1 := hT1 ▸ strA_app T [114]
          have hap2 : strA T1 ++ strA [L1] = strA T2 := hT2 ▸ strA_app T1 [L1]
          have hap3 : strA T2 ++ strA [L2] = strA T3 := hT3 ▸ strA_app T2 [L2]
          have hs1 : (strA T1).size = TL + 1 := by rw [strA_size, ← hT1]; simp [HTL.out]
          have hs2 : (strA T2).size = TL + 2 := by rw [strA_size, ← hT2, ← hT1]; simp [HTL.out]
          have hs3 : (strA T3).size = TL + 3 := by rw [strA_size, ← hT3, ← hT2, ← hT1]; simp [HTL.out]
          have HT1 := hidP hT1
          have HT2 := hidP hT2
          have HT3 := hidP hT3
          have hsa := strA_size [L1]
          have hsb := strA_size [L2]
          have hc1 : ¬ (9223372036854775807 < TL + 1) := by omega
          have hc2 : ¬ (9223372036854775807 < TL + 1 + 1) := by omega
          have hc3 : ¬ (9223372036854775807 < TL + 2 + 1) := by omega
          have hc4 : ¬ (9223372036854775807 < TL + 2) := by omega
          have hc5 : ¬ (9223372036854775807 < TL + 3) := by omega
          clear g1 g2 hL1 hL2 h1 hT1 hT2 hT3 
          go_upto_region 12 with fail
          go_region_held3 (fun w' => w'.cell? ⟨G, 1, none⟩ = some (.int .i64 cc) ∧ w'.cell? ⟨G, 2, none⟩ = some (.int .i64 cr))
            (first | exact ⟨z1, z2⟩ | exact ⟨pw_cell_below hb5 z1, pw_cell_below hb5 z2⟩ | exact ⟨pw_cell_below hb6 (pw_cell_below hb5 z1), pw_cell_below hb6 (pw_cell_below hb5 z2)⟩ | fail)
            (first | (go_at_call 68; first | (with_reducible refine (G1.out _).mono ?_; rintro e w5 ⟨rfl, hb5⟩) | (with_reducible refine (G2.out _).mono ?_; rintro e w6 ⟨rfl, hb6⟩) | fail) | fail)
          have hc9 := fun (t : List Nat) => strA_app T3 t
          have hz9 : w6.cell? ⟨G, 3, none⟩ = some (.int .i64 ct) := pw_cell_below hb6 (pw_cell_below (w := w3.drew) hb5 z3)
          have HH : Hid (T3 = T ++ caseH ⟨ck, cc, cr, ct⟩) := by show _ = _; rw [← HT3.out, ← HT2.out, ← HT1.out]; simp [caseH, HK1.out, HL1.out, HL2.out]
          have HB9 := hidP (show Below w1.heap.size w1 w6 from hb3.drew.trans ((hb5.mono hb3.size).trans (hb6.mono (Nat.le_trans hb3.size hb5.size))))
          go_upto_region 13 with fail
          clear z0 z1 z2 z3
          go_wp2_with fail
          refine (rdigits_any ct HDIN.out _).mono ?_
          rintro e w9 ⟨D, rfl, hDl, hD, hb9⟩
          obtain ⟨T9, hT9⟩ : ∃ T9, T3 ++ D = T9 := ⟨_, rfl⟩
          have hap := hc9 D
          rw [hT9] at hap
          have hsD := strA_size D
          have HD := hidP hD
          have HT9 := hidP hT9
          clear hc9 hD hT9
          obtain ⟨DL, hDL⟩ : ∃ DL, D.length = DL := ⟨_, rfl⟩
          have HDL := hidP hDL
          rw [hDL] at hsD hDl
          have hcc : ¬ (9223372036854775807 < TL + 3 + DL) := by omega
          have hcc2 : ¬ (9223372036854775807 < TL + DL + 3) := by omega
          clear hDL
          go_wp2_with fail
          go_roundw
          case rel =>
            refine ⟨k + 1, T9, rfl, by go_num, by omega, ?_, ?_, ?_⟩
            · have h1 : (strA T3).size = (T3).length := strA_size T3
              rw [← HT9.out, List.length_append, HDL.out, ← h1, hs3]
              omega
            · show (∀ c ∈ cs.take (k + 1), caseSt c) → _
              intro hall
              refine HNX.out _ ?_ hall
              have hs := HST.out hall
              rw [← HT9.out, HD.out hs.1.1, HH.out, List.append_assoc]
              rfl
            · exact bstep HB9.out hb9
          case measure => simp [intOf]; omega
        · have t2 : (ck == 2) = false := by simp [h2]
          have HK1 := hidP h1
          have HK2 := hidP h2
          obtain ⟨T1, hT1⟩ : ∃ T1, T ++ [101] = T1 := ⟨_, rfl⟩
          have hap1 : strA T ++ ⟨#[101]⟩ = strA T1 := hT1 ▸ strA_app T [101]
          have hs1 : (strA T1).size = TL + 1 := by rw [strA_size, ← hT1]; simp [HTL.out]
          have HT1 := hidP hT1
          have hc1 : ¬ (9223372036854775807 < TL + 1) := by omega
          clear h1 h2 hT1
          have hc9 := fun (t : List Nat) => strA_app T1 t
          have hz9 : w3.cell? ⟨G, 3, none⟩ = some (.int .i64 ct) := z3
          have HH : Hid (T1 = T ++ caseH ⟨ck, cc, cr, ct⟩) := by show _ = _; rw [← HT1.out]; simp [caseH, HK1.out, HK2.out]
          have HB9 := hidP (show Below w1.heap.size w1 w3 from hb3)
          go_upto_region 13 with fail
          clear z0 z1 z2 z3
          go_wp2_with fail
          refine (rdigits_any ct HDIN.out _).mono ?_
          rintro e w9 ⟨D, rfl, hDl, hD, hb9⟩
          obtain ⟨T9, hT9⟩ : ∃ T9, T1 ++ D = T9 := ⟨_, rfl⟩
          have hap := hc9 D
          rw [hT9] at hap
          have hsD := strA_size D
          have HD := hidP hD
          have HT9 := hidP hT9
          clear hc9 hD hT9
          obtain ⟨DL, hDL⟩ : ∃ DL, D.length = DL := ⟨_, rfl⟩
          have HDL := hidP hDL
          rw [hDL] at hsD hDl
          have hcc : ¬ (9223372036854775807 < TL + 1 + DL) := by omega
          have hcc2 : ¬ (9223372036854775807 < TL + DL + 1) := by omega
          clear hDL
          go_wp2_with fail
          go_roundw
          case rel =>
            refine ⟨k + 1, T9, rfl, by go_num, by omega, ?_, ?_, ?_⟩
            · have h1 : (strA T1).size = (T1).length := strA_size T1
              rw [← HT9.out, List.length_append, HDL.out, ← h1, hs1]
              omega
            · show (∀ c ∈ cs.take (k + 1), caseSt c) → _
              intro hall
              refine HNX.out _ ?_ hall
              have hs := HST.out hall
              rw [← HT9.out, HD.out hs.1.1, HH.out, List.append_assoc]
              rfl
            · exact bstep HB9.out hb9
          case measure => simp [intOf]; omega
    · have lt1 : ¬ (k : Int) < (n : Int) := by omega
      have hTE : rshaped ⟨21, xa, xb, xn, cs⟩ = true → T = rW ⟨21, xa, xb, xn, cs⟩ := fun h => by
        have h2 := HT.out
        rw [List.take_of_length_le (by rw [HN.out]; omega)] at h2
        rw [h2 (HGOOD.out h)]
        rfl
      have HTE := hidP hTE
      clear hTE HT
      go_wp2
      go_ret
      exact ⟨T, rfl, by show T.length ≤ 24 * (cs.length + 2); rw [HN.out]; omega, HTE.out, bstep hb1 hb⟩
end Go.Proofs.YtoflhfiegfhkoaaDoor
