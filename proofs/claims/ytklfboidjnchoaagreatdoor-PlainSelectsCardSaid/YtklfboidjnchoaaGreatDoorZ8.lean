/-
  Parts of the proof: KRVal.
-/
import Derived.Test.YtklfboidjnchoaaGreatDoorZ5
import Derived.Test.YtklfboidjnchoaaGreatDoorZ7
namespace Go.Proofs.YtklfboidjnchoaaGreatDoor
open Go.RowKit Go.Proofs.YtklfboidjnchoaaGreatDoorW.PrintWords
set_option linter.unusedVariables false
set_option linter.unusedSimpArgs false
set_option maxRecDepth 100000 in
set_option maxHeartbeats 6400000 in
theorem rvalid_any (A : Option Addr) (d : Nat) (l : List InstrD) (w : World) (h : kI.C w A l.length l) (hcs : ∀ x ∈ l, x.cases.length ≤ 9223372036854775807) :
    Calls Tryz.prog 31 #[.slice A l.length d] w fun e w' => e = .returned (.tuple #[.int .i64 (validR l).1, .int .i64 (validR l).2]) ∧ Below w.heap.size w w' := by
  obtain ⟨R, hR⟩ : ∃ R, validR l = R := ⟨_, rfl⟩
  rw [hR]
  have hr := hR.symm
  unfold validR at hr
  have H := hidP h
  have HCS := hidP hcs
  have hmx := h.2.1
  obtain ⟨n, hn⟩ : ∃ n, l.length = n := ⟨_, rfl⟩
  rw [hn] at hr hmx ⊢
  have HN := hidP hn
  clear hR h hcs hn
  by_cases h0 : n = 0
  · rw [if_pos h0] at hr
    subst hr
    have t0 : ((n : Int) == 0) = true := by simp [h0]
    clear h0
    go_enter Tryz.func31, Tryz.ntmps31
    go_wp2_with fail
    go_ret2
    exact ⟨rfl, brefl _⟩
  · rw [if_neg h0] at hr
    have t0 : ((n : Int) == 0) = false := by simp; omega
    by_cases h60 : 60 < n
    · rw [if_pos h60] at hr
      subst hr
      have t6 : (60 : Int) < (n : Int) := by omega
      clear h0
      go_enter Tryz.func31, Tryz.ntmps31
      go_wp2_with fail
      go_ret2
      exact ⟨rfl, brefl _⟩
    · rw [if_neg h60] at hr
      have t6 : ¬ (60 : Int) < (n : Int) := by omega
      have HRR := hidP hr
      clear h0 hr
      go_enter Tryz.func31, Tryz.ntmps31
      go_wp2_with fail
      go_loopw [4] (fun v4 wr => ∃ k : Nat, v4 = .int .i64 k ∧ k ≤ n ∧ Hid (valF n k (l.drop k) = R) ∧ Below w.heap.size w wr) (fun v4 _ => n - (intOf v4).toNat)
      case atStart => exact ⟨0, rfl, by omega, HRR.out.symm, brefl _⟩
      case round =>
        obtain ⟨k, rfl, hk, HF, hb⟩ := hrel
        obtain ⟨w1, e1⟩ : ∃ w1, w1 = wr := ⟨_, rfl⟩
        subst e1
        by_cases hlt : k < n
        · obtain ⟨x, hx⟩ : ∃ x, l[k]? = some x := ⟨_, List.getElem?_eq_getElem (by rw [HN.out]; exact hlt)⟩
          obtain ⟨b, o, A4, c4, rfl, x0, x1, x2, x3, x4, _, hxc⟩ := instr_at (Kd.C_below H.out hb) k x hx
          have hxs := HCS.out x (List.mem_of_getElem? hx)
          have hst : R = if lookR x n = 0 then valF n (k + 1) (l.drop (k + 1)) else ((k : Int) + 1, lookR x n) := by rw [← valF_at hx]; exact HF.out.symm
          have hsh := fun w2 (hb2 : Below w1.heap.size w1 w2) => rshaped_any x A4 c4 w2 (Kd.C_below hxc hb2) hxs
          have hbo := fun w2 => rbounded_any x A4 c4 w2
          have hlk : lookR x n = if (rshaped x && rbounded x) = false then 5 else if (tosP x).any (fun k => decide ((n : Int) ≤ k)) = true then 6 else 0 := by rw [shaped_eq]; rfl
          obtain ⟨SH, hSH⟩ : ∃ b, rshaped x = b := ⟨_, rfl⟩
          obtain ⟨BO, hBO⟩ : ∃ b, rbounded x = b := ⟨_, rfl⟩
          rw [hSH, hBO] at hlk
          rw [hlk] at hst
          simp only [hSH] at hsh
          simp only [hBO] at hbo
          obtain ⟨xo, xa, xb, xn, xc⟩ := x
          simp only [instrV] at hsh hbo
          unfold tosP at hst
          dsimp only at x0 x1 x2 x3 x4 hsh hbo hst hxs hxc
          have HST := hidP hst
          have HSH := hidP hsh
          have HBO := hidP hbo
          have HXC := hidP hxc
          obtain ⟨m, hm⟩ : ∃ m, xc.length = m := ⟨_, rfl⟩
          have HM := hidP hm
          rw [hm] at x4 hxs
          have HSH2 := hidP (fun w2 (hb2 : Below w1.heap.size w1 w2) => hm ▸ HSH.out w2 hb2)
          have HBO2 := hidP (fun w2 => hm ▸ HBO.out w2)
          clear hx hst hlk hSH hBO hsh hbo hxc hm HSH HBO HF
          have hBx := bnew hb (.cells #[.int .i64 xo, .int .i64 xa, .int .i64 xb, .int .i64 xn, .slice A4 m c4] 56)
          have hBy := bnew (brefl w1) (.cells #[.int .i64 xo, .int .i64 xa, .int .i64 xb, .int .i64 xn, .slice A4 m c4] 56)
          have hnx := blk_new w1 (.cells #[.int .i64 xo, .int .i64 xa, .int .i64 xb, .int .i64 xn, .slice A4 m c4] 56)
          have lt1 : (k : Int) < (n : Int) := by omega
          go_upto_region 9 with fail
          generalize hw2 : w1.alloc (.cells #[.int .i64 xo, .int .i64 xa, .int .i64 xb, .int .i64 xn, .slice A4 m c4] 56) = w2 at *
          clear hw2 x0 x1 x2 x3 x4
          obtain ⟨y0, y1, y2, y3, y4⟩ := five_cells hnx
          go_wp2_with fail
          refine (HSH2.out _ hBy).mono ?_
          rintro e w3 ⟨rfl, hb3⟩
          have hB3 := bstep hBx hb3
          have hY3 := bstep hBy hb3
          have hn3 := blk_below hnx hb3
          obtain ⟨z0, z1, z2, z3, z4⟩ := five_cells hn3
          have hl3 := blk_lt hn3
          clear y0 y1 y2 y3 y4 hnx hBx hBy hb3
          cases SH
          · have hF : R = ((k : Int) + 1, 5) := by rw [HST.out]; simp
            subst hF
            clear HST
            go_wp2_with fail
            go_ret2
            exact ⟨rfl, hB3⟩
          go_wp2_with fail
          refine (HBO2.out _).mono ?_
          rintro e w4 ⟨rfl, hb4⟩
          have hB4 := bstep hB3 hb4
          have hY4 := bstep hY3 hb4
          have hn4 := blk_below hn3 hb4
          obtain ⟨y0, y1, y2, y3, y4⟩ := five_cells hn4
          have hl4 := blk_lt hn4
          clear z0 z1 z2 z3 z4 hn3 hB3 hY3 hb4 hl3
          cases BO
          · have hF : R = ((k : Int) + 1, 5) := by rw [HST.out]; simp
            subst hF
            clear HST
            go_wp2_with fail
            go_ret2
            exact ⟨rfl, hB4⟩
          have hst := HST.out
          simp only [Bool.and_self, Bool.true_eq_false, if_false] at hst
          obtain ⟨J, hJ⟩ : ∃ J, jumps xo = J := ⟨_, rfl⟩
          rw [hJ] at hst
          have HJ := hidP hJ
          have HST2 := hidP hst
          clear hst HST hJ
          go_upto_region 11 with fail
          go_cut [6] from 34 to 46 (fun v6 wx => v6 = .bool J ∧ w4 = wx)
          case first =>
            clear HST2
            by_cases j10 : xo = 10
            · have t10 : (xo == 10) = true := by simp [j10]
              obtain rfl : J = true := by rw [← HJ.out]; simp [jumps, j10]
              clear j10
              go_wp2_with fail
              go_meet
              exact ⟨rfl, rfl⟩
            have t10 : (xo == 10) = false := by simp [j10]
            by_cases j11 : xo = 11
            · have t11 : (xo == 11) = true := by simp [j11]
              obtain rfl : J = true := by rw [← HJ.out]; simp [jumps, j11]
              clear j10 j11
              go_wp2_with fail
              go_meet
              exact ⟨rfl, rfl⟩
            have t11 : (xo == 11) = false := by simp [j11]
            by_cases j12 : xo = 12
            · have t12 : (xo == 12) = true := by simp [j12]
              obtain rfl : J = true := by rw [← HJ.out]; simp [jumps, j12]
              clear j10 j11 j12
              go_wp2_with fail
              go_meet
              exact ⟨rfl, rfl⟩
            have t12 : (xo == 12) = false := by simp [j12]
            obtain rfl : J = false := by rw [← HJ.out]; simp [jumps, j10, j11, j12]
            clear j10 j11 j12
            go_wp2_with fail
            go_meet
            exact ⟨rfl, rfl⟩
          case rest =>
            obtain ⟨rfl, rfl⟩ := hcut
            cases J
            ·
              go_wp2_with fail
              go_loop [7] (fun v7 => ∃ j : Nat, v7 = .int .i64 j ∧ j ≤ m ∧ Hid (((xc.take j).map (·.dest)).any (fun q => decide ((n : Int) ≤ q)) = false)) (fun v7 => m - (intOf v7).toNat)
              case atStart => exact ⟨0, rfl, by omega, rfl⟩
              case round =>
                obtain ⟨j, rfl, hj, HJJ⟩ := hrel
                by_cases hjt : j < m
                · obtain ⟨⟨ck, cc, cr, ct⟩, hq⟩ : ∃ q, xc[j]? = some q := ⟨_, List.getElem?_eq_getElem (by rw [HM.out]; exact hjt)⟩
                  obtain ⟨b2, o2, rfl, q0, q1, q2, q3⟩ := case_at (Kd.C_below HXC.out hY4) j _ hq
                  dsimp only at q0 q1 q2 q3
                  clear q0 q1 q2
                  have lt2 : (j : Int) < (m : Int) := by omega
                  by_cases hnq : (n : Int) ≤ ct
                  · have hF : R = ((k : Int) + 1, 6) := by
                      have h2 := HST2.out
                      have hany : (([] : List Int) ++ xc.map (·.dest)).any (fun k => decide ((n : Int) ≤ k)) = true := by
                        rw [List.any_append, Bool.or_eq_true]
                        refine .inr ?_
                        rw [List.any_eq_true]
                        exact ⟨ct, List.mem_map.2 ⟨_, List.mem_of_getElem? hq, rfl⟩, by simpa using hnq⟩
                      simp only [if_true, if_false, Bool.false_eq_true, hany] at h2
                      rw [h2]
                      simp
                    subst hF
                    clear HST2 hq
                    go_wp2
                    go_ret2
                    exact ⟨rfl, hB4⟩
                  · have HJ2 : Hid (((xc.take (j + 1)).map (·.dest)).any (fun q => decide ((n : Int) ≤ q)) = false) := by
                      show _ = _
                      rw [List.take_add_one, hq, List.map_append, List.any_append, HJJ.out]
                      simp
                      omega
                    clear hq
                    go_wp2
                    go_round
                    case rel => exact ⟨j + 1, by go_num, by omega, HJ2⟩
                    case measure => simp [intOf]; omega
                · have hF : valF n (k + 1) (l.drop (k + 1)) = R := by
                    have hj2 := HJJ.out
                    rw [List.take_of_length_le (by rw [HM.out]; omega)] at hj2
                    have h2 := HST2.out
                    have hany : (([] : List Int) ++ xc.map (·.dest)).any (fun k => decide ((n : Int) ≤ k)) = false := by
                      rw [List.any_append, hj2]
                      simp []
                      try omega
                    simp only [if_true, if_false, Bool.false_eq_true, hany] at h2
                    rw [h2]
                  have HFF := hidP hF
                  have lt2 : ¬ (j : Int) < (m : Int) := by omega
                  clear hF HST2
                  go_wp2_with fail
                  go_roundw
                  case rel => exact ⟨k + 1, by go_num, by omega, HFF, hB4⟩
                  case measure => simp [intOf]; omega
            · by_cases hnn : (n : Int) ≤ xn
              · have hF : R = ((k : Int) + 1, 6) := by
                  have h2 := HST2.out
                  have hany : ([xn] ++ xc.map (·.dest)).any (fun k => decide ((n : Int) ≤ k)) = true := by
                    rw [List.any_append, Bool.or_eq_true]
                    exact .inl (by simpa using hnn)
                  simp only [if_true, hany] at h2
                  rw [h2]
                  simp
                subst hF
                clear HST2
                go_wp2
                go_ret2
                exact ⟨rfl, hB4⟩
              ·
                go_wp2_with fail
                go_loop [7] (fun v7 => ∃ j : Nat, v7 = .int .i64 j ∧ j ≤ m ∧ Hid (((xc.take j).map (·.dest)).any (fun q => decide ((n : Int) ≤ q)) = false)) (fun v7 => m - (intOf v7).toNat)
                case atStart => exact ⟨0, rfl, by omega, rfl⟩
                case round =>
                  obtain ⟨j, rfl, hj, HJJ⟩ := hrel
                  by_cases hjt : j < m
                  · obtain ⟨⟨ck, cc, cr, ct⟩, hq⟩ : ∃ q, xc[j]? = some q := ⟨_, List.getElem?_eq_getElem (by rw [HM.out]; exact hjt)⟩
                    obtain ⟨b2, o2, rfl, q0, q1, q2, q3⟩ := case_at (Kd.C_below HXC.out hY4) j _ hq
                    dsimp only at q0 q1 q2 q3
                    clear q0 q1 q2
                    have lt2 : (j : Int) < (m : Int) := by omega
                    by_cases hnq : (n : Int) ≤ ct
                    · have hF : R = ((k : Int) + 1, 6) := by
                        have h2 := HST2.out
                        have hany : ([xn] ++ xc.map (·.dest)).any (fun k => decide ((n : Int) ≤ k)) = true := by
                          rw [List.any_append, Bool.or_eq_true]
                          refine .inr ?_
                          rw [List.any_eq_true]
                          exact ⟨ct, List.mem_map.2 ⟨_, List.mem_of_getElem? hq, rfl⟩, by simpa using hnq⟩
                        simp only [if_true, if_false, Bool.false_eq_true, hany] at h2
                        rw [h2]
                        simp
                      subst hF
                      clear HST2 hq
                      go_wp2
                      go_ret2
                      exact ⟨rfl, hB4⟩
                    · have HJ2 : Hid (((xc.take (j + 1)).map (·.dest)).any (fun q => decide ((n : Int) ≤ q)) = false) := by
                        show _ = _
                        rw [List.take_add_one, hq, List.map_append, List.any_append, HJJ.out]
                        simp
                        omega
                      clear hq
                      go_wp2
                      go_round
                      case rel => exact ⟨j + 1, by go_num, by omega, HJ2⟩
                      case measure => simp [intOf]; omega
                  · have hF : valF n (k + 1) (l.drop (k + 1)) = R := by
                      have hj2 := HJJ.out
                      rw [List.take_of_length_le (by rw [HM.out]; omega)] at hj2
                      have h2 := HST2.out
                      have hany : ([xn] ++ xc.map (·.dest)).any (fun k => decide ((n : Int) ≤ k)) = false := by
                        rw [List.any_append, hj2]
                        simp [hnn]
                        try omega
                      simp only [if_true, if_false, Bool.false_eq_true, hany] at h2
                      rw [h2]
                    have HFF := hidP hF
                    have lt2 : ¬ (j : Int) < (m : Int) := by omega
                    clear hF HST2
                    go_wp2_with fail
                    go_roundw
                    case rel => exact ⟨k + 1, by go_num, by omega, HFF, hB4⟩
                    case measure => simp [intOf]; omega
        · have hF : R = (0, 0) := by
            rw [← HF.out, List.drop_eq_nil_of_le (by rw [HN.out]; omega)]
            rfl
          subst hF
          have lt1 : ¬ (k : Int) < (n : Int) := by omega
          go_wp2_with fail
          go_ret2
          exact ⟨rfl, hb⟩
set_option maxRecDepth 100000 in
set_option maxHeartbeats 1600000 in
theorem rload_any (s : ByteArray) (w : World) (hs : s.size ≤ 1000000) : Calls Tryz.prog 22 #[.string s] w (DecPost w (loadR s)) := by
  have hd := refDecode_any s w hs
  have hdc := decode_cases s
  obtain ⟨R, hR⟩ : ∃ R, loadR s = R := ⟨_, rfl⟩
  rw [hR]
  have hr := hR.symm
  unfold loadR at hr
  obtain ⟨⟨D, dt, de⟩, hD⟩ : ∃ D, decodeR s = D := ⟨_, rfl⟩
  rw [hD] at hr hd hdc
  dsimp only at hr hdc
  unfold DecPost at hd
  dsimp only at hd
  have HD := hidP hd
  have HDC := hidP hdc
  have HRR := hidP hr
  clear hR hD hd hdc hr
  go_enter Tryz.func22, Tryz.ntmps22
  go_wp2_with fail
  refine HD.out.mono ?_
  rintro e w1 ⟨A, c, rfl, hv1, hb1⟩
  by_cases h1 : de = 0
  · have hr := HRR.out
    rw [if_neg (by simp [h1])] at hr
    have t1 : (de != 0) = false := by simp [h1]
    obtain ⟨A', c', hv, hle, hC⟩ := Kd.R_reads hv1
    cases hv
    have hval := rvalid_any A c D w1 hC (fun x hx => by have := HDC.out x hx; omega)
    obtain ⟨⟨va, ve⟩, hV⟩ : ∃ V, validR D = V := ⟨_, rfl⟩
    rw [hV] at hval hr
    dsimp only at hr
    have HVAL := hidP hval
    have HR := hidP hr
    have HV1 := hidP hv1
    clear hval hr hV hv1 hC h1
    go_wp2_with fail
    refine HVAL.out.mono ?_
    rintro e w2 ⟨rfl, hb2⟩
    by_cases h2 : ve = 0
    · have hR : R = (D, 0, 0) := by rw [HR.out, if_neg (by simp [h2])]
      have t2 : (ve != 0) = false := by simp [h2]
      have HRE := hidP hR
      subst h2
      clear hR
      go_wp2
      go_ret3
      rw [HRE.out]
      exact ⟨A, c, rfl, Kd.R_below HV1.out hb2, bstep hb1 hb2⟩
    · have hR : R = ([], va, ve) := by rw [HR.out, if_pos h2]
      have t2 : (ve != 0) = true := by simp [h2]
      have HRE := hidP hR
      clear hR h2
      go_wp2
      go_ret3
      rw [HRE.out]
      exact ⟨none, 0, rfl, Kd.R_nil _ _ _ _ _, bstep hb1 hb2⟩
  · have hR : R = ([], dt, de) := by rw [HRR.out, if_pos h1]
    have t1 : (de != 0) = true := by simp [h1]
    have HRE := hidP hR
    clear hR h1
    go_wp2
    go_ret3
    rw [HRE.out]
    exact ⟨none, 0, rfl, Kd.R_nil _ _ _ _ _, hb1⟩
end Go.Proofs.YtklfboidjnchoaaGreatDoor
