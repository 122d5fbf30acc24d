/-
  The walk of the law TextJoins.
-/
import Derived.Test.YtdelflahmlfnfaaDoorXJPlain
import Derived.Test.YtdelflahmlfnfaaDoorXOpenStr
import Derived.Test.YtdelflahmlfnfaaDoorXTells
import Derived.Test.YtdelflahmlfnfaaDoorXNames
import Derived.RegionTactic
import Derived.ChangeAlike
import Derived.BigRegion
import Derived.Deep.DeepCutAuto
import Derived.Deep.CutBlock
import Derived.Deep.CutRange
namespace Go.Proofs.YtdelflahmlfnfaaDoor
open Go.RowKit
set_option linter.unusedVariables false

theorem sgn_mod (x : Nat) : ((x : Int)).tmod 94 = ((x % 94 : Nat) : Int) := by
  rw [Int.tmod_eq_emod_of_nonneg (by omega)]
  simp

set_option maxRecDepth 100000 in
set_option maxHeartbeats 1600000 in
theorem textJoins_any (ao : Option Addr) (n c : Nat) (es : List ByteArray) (bo : Option Addr) (m d : Nat) (zs : List Int) (mx : Int) (w : World) (hae : RowAt w ao (es.map Value.string)) (hn : es.length = n) (hes : ∀ x ∈ es, x.size ≤ maxLen) (hnc : n ≤ maxLen)
    (hbz : RowAt w bo (zs.map (Value.int .i64))) (hm : zs.length = m) (hmd : m ≤ maxLen) (hmc : w.cell? ⟨0, 0, none⟩ = some (.int .i64 mx)) :
    Calls Tryd.prog 6 #[.slice ao n c, .slice bo m d] w fun e w' => e = .returned (.bool true) ∧ Below w.heap.size w w' := by
  have hml := World.block_lt_of_cell? w _ hmc
  have HMC := hidP hmc
  have Hn := hidP hn
  have Hm := hidP hm
  have HES := hidP hes
  unfold maxLen at hnc hmd
  clear hmc hn hm hes
  go_enter Tryd.func6, Tryd.ntmps6
  go_wp2_with fail
  go_loopw [5, 6, 7, 8, 9, 10] (fun v5 v6 v7 v8 v9 v10 wr => ∃ (i j : Nat) (S : ByteArray) (W : List ByteArray) (vo : Option Addr) (vc : Nat), v5 = .slice vo j vc ∧ v6 = .string S ∧ v7 = .int .i64 i ∧ i ≤ n ∧ i ≤ 20 ∧ j ≤ i ∧ S.size ≤ 36 * i ∧ Hid (W.length = j) ∧ Hid (JoinB S W i) ∧ wr.ownsRow w.heap.size 9 1 (.slice vo j vc) j (W.map Value.string) ∧ Below w.heap.size w wr) (fun _ _ v7 _ _ _ _ => 20 - (intOf v7).toNat)
  case atStart => exact ⟨0, 0, ⟨#[]⟩, [], none, 0, rfl, rfl, rfl, by omega, by omega, by omega, by decide, rfl, join_zero, World.ownsRow_nil _ _ _ _, Below.refl _ _⟩
  case round =>
    obtain ⟨i, j, S, W, vo, vc, rfl, rfl, rfl, hin, hi20, hji, hSi, HW, HJ, hown, hb⟩ := hrel
    by_cases hlt : i < n ∧ i < 20
    · obtain ⟨hlt, hl2⟩ := hlt
      have g1 : (i : Int) < (n : Int) := by omega
      have g2 : (i : Int) < 20 := by omega
      obtain ⟨x, hx⟩ : ∃ x, es[i]? = some x := ⟨_, List.getElem?_eq_getElem (by rw [Hn.out]; exact hlt)⟩
      have hxs := HES.out x (List.mem_of_getElem? hx)
      unfold maxLen at hxs
      obtain ⟨b, o, rfl, hca⟩ := hae.addr (by rw [List.length_map, Hn.out]; omega)
      have cx : w.cell? ⟨b, o + i, none⟩ = some (.string x) := hca i _ (by rw [List.getElem?_map, hx]; rfl)
      have hcl := World.block_lt_of_cell? w _ cx
      have CX := hidP cx
      have hsr := hb.size
      clear hx hca cx
      obtain ⟨w1, e1⟩ : ∃ w1, w1 = wr := ⟨_, rfl⟩
      subst e1
      obtain ⟨K, hK⟩ : ∃ K, min x.size 30 = K := ⟨_, rfl⟩
      have hK1 : K ≤ 30 ∧ K ≤ x.size := by omega
      go_upto_block 2 with fail
      go_cut [8, 9] from 13 to 77 (fun v8 v9 wx => v8 = .string (lineB x K) ∧ Below w1.heap.size w1 wx)
      case first =>
       go_wp2_with fail
       go_loopw [8, 9] (fun v8 v9 w2 => ∃ k : Nat, v8 = .string (lineB x k) ∧ v9 = .int .i64 k ∧ k ≤ x.size ∧ k ≤ 30 ∧ Below w1.heap.size w1 w2) (fun _ v9 _ => 30 - (intOf v9).toNat)
       case atStart => exact ⟨0, rfl, rfl, by omega, by omega, Below.refl _ _⟩
       case round =>
         obtain ⟨w2, e2⟩ : ∃ w2, w2 = wr := ⟨_, rfl⟩
         subst e2
         obtain ⟨k, rfl, rfl, hkx, hk30, hb2⟩ := hrel
         have hB2 := bstep hb hb2
         have cx2 := (hB2.cell (p := ⟨b, o + i, none⟩) hcl).trans CX.out
         have hsz := line_size x k hkx
         by_cases hkl : k < x.size ∧ k < 30
         · obtain ⟨hk1, hk2⟩ := hkl
           have f1 : (k : Int) < (x.size : Int) := by omega
           have f2 : (k : Int) < 30 := by omega
           have hix := fun w => Tryd.idx_str x k hk1 w
           have hnx := line_next x k hk1
           have hsb := sign_nat (x[k]'hk1)
           obtain ⟨y, hy⟩ : ∃ y, (x[k]'hk1) = y := ⟨_, rfl⟩
           rw [hy] at hix hnx hsb
           have hmo := sgn_mod y.toNat
           have hu : IntKind.u8.wrap (33 + ((y.toNat % 94 : Nat) : Int)) = ((signB y).toNat : Int) := by rw [hsb, IntWalk.u8_in _ (by omega)]; omega
           have hu8 : IntKind.u8.wrap ((y.toNat % 94 : Nat) : Int) = ((y.toNat % 94 : Nat) : Int) := IntWalk.u8_in _ (by omega)
           obtain ⟨R, hR⟩ : ∃ R : Nat, y.toNat % 94 = R := ⟨_, rfl⟩
           have hRlt : R < 94 := by omega
           rw [hR] at hmo hu hu8
           have hcv := Tryd.conv_byte (signB y) w2.heap.size 1 (w2.alloc (.cells #[.int .u8 ((signB y).toNat : Int)] 5)) (by go_simp)
           have hbs := byteB_size (signB y)
           obtain ⟨G, hG⟩ : ∃ G : Nat, (signB y).toNat = G := ⟨_, rfl⟩
           rw [hG] at hu hcv
           have HNX := hidP hnx
           clear hnx hy hR hG hsb
           go_wp2_with fail
           go_roundw
           case rel => exact ⟨k + 1, by rw [← HNX.out], by go_num, by omega, by omega, bnew hb2 _⟩
           case measure => simp [intOf]; omega
         · have hkK : k = K := by omega
           subst hkK
           have f0 : ¬ ((k : Int) < (x.size : Int)) ∨ (k : Int) < (x.size : Int) ∧ ¬ ((k : Int) < 30) := by omega
           rcases f0 with f1 | ⟨f1, f2⟩
           · go_wp2_with fail
             go_meet
             exact ⟨rfl, hb2⟩
           · go_wp2_with fail
             go_meet
             exact ⟨rfl, hb2⟩
      case rest =>
        obtain ⟨rfl, hb2⟩ := hcut
        obtain ⟨w2, e2⟩ : ∃ w2, w2 = wc := ⟨_, rfl⟩
        subst e2
        have hown2 := owns_below hown hb2
        have hB2 := bstep hb hb2
        go_upto_if 51 with fail
        go_cut [10] from 13 to 77 (fun v10 wx => ∃ N : Nat, v10 = .int .i64 N ∧ N < 5 ∧ wx = w2)
        case first =>
          by_cases hbl : i < m
          · have gb : (i : Int) < (m : Int) := by omega
            obtain ⟨y, hy⟩ : ∃ y, zs[i]? = some y := ⟨_, List.getElem?_eq_getElem (by rw [Hm.out]; exact hbl)⟩
            obtain ⟨b2, o2, rfl, hza⟩ := hbz.addr (by rw [List.length_map, Hm.out]; omega)
            have cy0 : w.cell? ⟨b2, o2 + i, none⟩ = some (.int .i64 y) := hza i _ (by rw [List.getElem?_map, hy]; rfl)
            have cy : w2.cell? ⟨b2, o2 + i, none⟩ = some (.int .i64 y) := (hB2.cell (p := ⟨b2, o2 + i, none⟩) (World.block_lt_of_cell? w _ cy0)).trans cy0
            obtain ⟨R, hR1, hR2, hR3⟩ := modE y 5 (by omega) (by omega)
            have hR1' : (IntKind.u64.wrap y).tmod 5 = (R : Int) := hR1
            clear hR1 hy hza cy0
            go_wp2_with fail
            go_meet
            exact ⟨R, rfl, hR2, rfl⟩
          · have gb : ¬ (i : Int) < (m : Int) := by omega
            go_wp2_with fail
            go_meet
            exact ⟨0, rfl, by omega, rfl⟩
        case rest =>
          obtain ⟨N, rfl, hN, rfl⟩ := hcut
          go_upto_region 14 with fail
          go_cut [6] from 13 to 77 (fun v6 wx => v6 = .string (S ++ preB N ++ lineB x K ++ postB N) ∧ Below wc.heap.size wc wx)
          case first =>
            have hsz := line_size x K hK1.2
            have h5 : N = 0 ∨ N = 1 ∨ N = 2 ∨ N = 3 ∨ N = 4 := by omega
            rcases h5 with rfl | rfl | rfl | rfl | rfl
            all_goals
              go_region
              all_goals
                go_wp2_with fail
                go_meet
                exact ⟨rfl, (bnew (bnew (brefl wc) _) _).drew⟩
          case rest =>
            obtain ⟨rfl, hb3⟩ := hcut
            obtain ⟨w3, e3⟩ : ∃ w3, w3 = wc := ⟨_, rfl⟩
            subst e3
            have hown3 := owns_below hown2 hb3
            have hB3 := bstep hB2 hb3
            have hJ3 := join_next HJ.out x K N hK1.1 hK1.2
            obtain ⟨S3, hS3⟩ : ∃ S3, S ++ preB N ++ lineB x K ++ postB N = S3 := ⟨_, rfl⟩
            rw [hS3] at hJ3
            have hS3s := hJ3.2.2.1
            have hsz3 := hB3.size
            have HS3 := hidP hS3
            clear hS3 HJ hown hown2 hb2 hb3 hb hB2
            by_cases t0 : (lineB x K).toList.isEmpty = true
            · rw [if_pos t0] at hJ3
              have HJ3 := hidP hJ3
              clear hJ3
              go_wp2_with fail
              go_roundw
              case rel => exact ⟨i + 1, j, S3, W, vo, vc, rfl, by rw [HS3.out], by go_num, by omega, by omega, by omega, hS3s, HW, HJ3, hown3, hB3⟩
              case measure => simp [intOf]; omega
            · have t0 : (lineB x K).toList.isEmpty = false := by simpa using t0
              rw [if_neg (by rw [t0]; simp)] at hJ3
              have HJ3 := hidP hJ3
              clear hJ3
              obtain ⟨X, hX⟩ : ∃ X, lineB x K = X := ⟨_, rfl⟩
              rw [hX] at t0 HJ3 HS3
              go_wp2_with (at_builtin; go_loud (refine (wpList_app _ rfl (.tmp 74) (.tmp 76) rfl Tryd.slStr w.heap.size (.slice vo j vc) j (W.map Value.string) rfl (hown3.alloc _) _ 1 1 [.string X] rfl (j + 1) rfl (RowAt.new _ [.string X] _) rfl (by simp; rfl) (by omega) (by unfold maxLen; omega) (by simp; omega) ?_)); intro a4 c4 w4 ho4 hg4 hw4)
              refine ⟨⟨i + 1, j + 1, S3, W ++ [X], a4, c4, rfl, by rw [HS3.out], by go_num, by omega, by omega, by omega, hS3s, by show _ = _; rw [List.length_append, HW.out]; rfl, HJ3, by rw [List.map_append]; exact ho4, (bnew hB3 _).grown hg4 (by simp; omega) (fun i hi => (hown3.lt i hi).1)⟩, by simp [intOf]; omega⟩
    · have f0 : ¬ ((i : Int) < (n : Int)) ∨ (i : Int) < (n : Int) ∧ ¬ ((i : Int) < 20) := by omega
      have hl := join_lines HJ.out hi20
      have HL := hidP fun w hm => lines_any S mx w hm (by omega)
      have HMr := hidP ((hb.cell (p := ⟨0, 0, none⟩) hml).trans HMC.out)
      have rW := owns_row hown
      clear hlt HJ hown
      by_cases h0 : j = 0
      · subst h0
        have hr : linesR S = ([], 7) := by rw [hl, if_pos HW.out]
        rw [hr] at HL
        clear hr hl
        rcases f0 with f1 | ⟨f1, f2⟩
        ·
          go_wp2_with fail
          refine (HL.out _ HMr.out).mono ?_
          rintro e w1 ⟨a1, c1, rfl, -, hb1⟩
          have hB1 := bstep hb hb1
          go_wp2_with fail
          refine (awake01_any mx w1 ((hB1.cell (p := ⟨0, 0, none⟩) hml).trans HMC.out)).mono ?_
          rintro e w2 ⟨rfl, hb2⟩
          go_wp2
          go_ret
          exact ⟨rfl, bstep hB1 hb2⟩
        ·
          go_wp2_with fail
          refine (HL.out _ HMr.out).mono ?_
          rintro e w1 ⟨a1, c1, rfl, -, hb1⟩
          have hB1 := bstep hb hb1
          go_wp2_with fail
          refine (awake01_any mx w1 ((hB1.cell (p := ⟨0, 0, none⟩) hml).trans HMC.out)).mono ?_
          rintro e w2 ⟨rfl, hb2⟩
          go_wp2
          go_ret
          exact ⟨rfl, bstep hB1 hb2⟩
      · have hr : linesR S = (W, 0) := by rw [hl, if_neg (by rw [HW.out]; exact h0)]
        rw [hr] at HL
        clear hr hl
        have t : ((j : Int) == 0) = false := by simp; omega
        rcases f0 with f1 | ⟨f1, f2⟩
        ·
          go_wp2_with fail
          refine (HL.out _ HMr.out).mono ?_
          rintro e w1 ⟨a1, c1, rfl, ho1, hb1⟩
          have hB1 := bstep hb hb1
          have r1 := owns_row ho1
          have rW1 := rW.below hb1
          go_wp2_with fail
          refine (awake01_any mx w1 ((hB1.cell (p := ⟨0, 0, none⟩) hml).trans HMC.out)).mono ?_
          rintro e w2 ⟨rfl, hb2⟩
          have hB2 := bstep hB1 hb2
          have r2 := r1.below hb2
          have rW2 := rW1.below hb2
          go_wp2_with fail
          refine (plainStr_yes a1 vo W.length j c1 vc W W _ r2 rW2 rfl HW.out (by have := HW.out; omega) rfl).mono ?_
          rintro e w3 ⟨rfl, hb3⟩
          go_wp2
          go_ret
          exact ⟨rfl, bstep hB2 hb3⟩
        ·
          go_wp2_with fail
          refine (HL.out _ HMr.out).mono ?_
          rintro e w1 ⟨a1, c1, rfl, ho1, hb1⟩
          have hB1 := bstep hb hb1
          have r1 := owns_row ho1
          have rW1 := rW.below hb1
          go_wp2_with fail
          refine (awake01_any mx w1 ((hB1.cell (p := ⟨0, 0, none⟩) hml).trans HMC.out)).mono ?_
          rintro e w2 ⟨rfl, hb2⟩
          have hB2 := bstep hB1 hb2
          have r2 := r1.below hb2
          have rW2 := rW1.below hb2
          go_wp2_with fail
          refine (plainStr_yes a1 vo W.length j c1 vc W W _ r2 rW2 rfl HW.out (by have := HW.out; omega) rfl).mono ?_
          rintro e w3 ⟨rfl, hb3⟩
          go_wp2
          go_ret
          exact ⟨rfl, bstep hB2 hb3⟩

theorem textJoinsW (w : World) (ao : Option Addr) (n c : Nat) (es : List ByteArray) (hae : RowAt w ao (es.map Value.string)) (hn : es.length = n) (he : (∀ x ∈ es, x.size ≤ maxLen) ∧ n ≤ c ∧ c ≤ maxLen)
    (bo : Option Addr) (m d : Nat) (zs : List Int) (hbz : RowAt w bo (zs.map (Value.int .i64))) (hm : zs.length = m) (hz : (∀ z ∈ zs, (Lit.int .i64 z).wf = true) ∧ m ≤ d ∧ d ≤ maxLen)
    (hmx : ∃ mx, w.cell? ⟨0, 0, none⟩ = some (.int .i64 mx)) :
    Calls Tryd.prog 6 #[.slice ao n c, .slice bo m d] w fun e w' => e = .returned (.bool true) ∧ Below w.heap.size w w' := by
  obtain ⟨mx, hmx⟩ := hmx
  exact textJoins_any ao n c es bo m d zs mx w hae hn he.1 (Nat.le_trans he.2.1 he.2.2) hbz hm (Nat.le_trans hz.2.1 hz.2.2) hmx
end Go.Proofs.YtdelflahmlfnfaaDoor
