/-
  Parts of the proof: KLook, KLoad, KCmp, KRChk, KRShpP.
-/
import Derived.Test.YtklfboidjnchoaaGreatDoorZ1
import Derived.Test.YtklfboidjnchoaaGreatDoorZ2
import Derived.Test.YtklfboidjnchoaaGreatDoorZ3
import Derived.Test.YtklfboidjnchoaaGreatDoorZ4
namespace Go.Proofs.YtklfboidjnchoaaGreatDoor
open Go.RowKit Go.Proofs.YtklfboidjnchoaaGreatDoorW.PrintWords
set_option linter.unusedVariables false
set_option linter.unusedSimpArgs false
def jumps (op : Int) : Bool := op == 10 || op == 11 || op == 12
def tosP (x : InstrD) : List Int := (if jumps x.op = true then [x.n] else []) ++ x.cases.map (·.dest)
def lookR (x : InstrD) (n : Nat) : Int := if shapedP x = false then 5 else if (tosP x).any (fun k => decide ((n : Int) ≤ k)) = true then 6 else 0
def faultV (r : Int) : Value := if r = 0 then .nilIface else .iface 92 (.agg #[.int .i64 r])
theorem Tryz.slInt : SlT Tryz.prog 29 3 (.int .i64 0) 1 8 := ⟨Tryz.underlying29, by kernel_rfl, rfl, by decide⟩
theorem shapedP_few {x : InstrD} (h : shapedP x = true) : x.cases.length ≤ 3 := by
  unfold shapedP at h
  split at h
  · cases h
  · simp only [Bool.and_eq_true] at h
    have h5 := h.2
    split at h5
    · unfold casesOk at h5
      simp only [Bool.and_eq_true, decide_eq_true_eq] at h5
      exact h5.2
    · simp at h5
      rw [h5]
      simp
set_option maxRecDepth 100000 in
set_option maxHeartbeats 3200000 in
theorem look_any' (x : InstrD) (A : Option Addr) (d n : Nat) (w : World) (hbl : Blanks w) (hc : kC.C w A x.cases.length x.cases) (hcl : x.cases.length ≤ 9223372036854775807) :
    Calls Tryz.prog 42 #[instrV x (.slice A x.cases.length d), .int .i64 n] w fun e w' => e = .returned (faultV (lookR x n)) ∧ Below w.heap.size w w' := by
  obtain ⟨op, xa, xb, xn, cs⟩ := x
  dsimp only at hc hcl
  simp only [instrV]
  obtain ⟨Z, hZ⟩ : ∃ Z, lookR ⟨op, xa, xb, xn, cs⟩ n = Z := ⟨_, rfl⟩
  rw [hZ]
  have hb1 := bnew (brefl w) (.cells #[.int .i64 op, .int .i64 xa, .int .i64 xb, .int .i64 xn, .slice A cs.length d] 56)
  have hn1 := blk_new w (.cells #[.int .i64 op, .int .i64 xa, .int .i64 xb, .int .i64 xn, .slice A cs.length d] 56)
  have hsh := shaped_any ⟨op, xa, xb, xn, cs⟩ A d _ (hbl.below hb1) (Kd.C_below hc hb1) hcl
  simp only [instrV] at hsh
  have HC := hidP hc
  have hu := hZ.symm
  unfold lookR at hu
  obtain ⟨SH, hSH⟩ : ∃ b, shapedP ⟨op, xa, xb, xn, cs⟩ = b := ⟨_, rfl⟩
  have HFEW := hidP (show SH = true → cs.length ≤ 3 from fun h => shapedP_few (x := ⟨op, xa, xb, xn, cs⟩) (hSH.trans h))
  rw [hSH] at hu hsh
  have HSH := hidP hsh
  clear hsh hc hZ hbl hSH
  go_enter Tryz.func42, Tryz.ntmps42
  go_wp2_with fail
  generalize w.alloc (.cells #[.int .i64 op, .int .i64 xa, .int .i64 xb, .int .i64 xn, .slice A cs.length d] 56) = w1 at *
  refine HSH.out.mono ?_
  rintro e w2 ⟨rfl, hb12⟩
  have hb2 := bstep hb1 hb12
  have HN2 := hidP (blk_below hn1 hb12)
  have HC2 := hidP (Kd.C_below HC.out hb2)
  have l2 := blk_lt HN2.out
  have hz2 := hb2.size
  clear hn1 hb1 hb12 HSH
  obtain ⟨x0, x1, x2, x3, x4⟩ := five_cells HN2.out
  cases SH
  · rw [if_pos rfl] at hu
    subst hu
    go_wp2
    go_ret
    exact ⟨rfl, hb2⟩
  · rw [if_neg (by simp)] at hu
    replace hcl : cs.length ≤ 1000000 := Nat.le_trans (HFEW.out rfl) (by omega)
    unfold tosP at hu
    dsimp only at hu
    have hown := World.ownsRow_lit (base := w.heap.size) (e := 3) (size := 1) w2 #[] 0 hz2 (by decide) (by simp)
    have hn3 := blk_alloc HN2.out (.cells #[] 3)
    have hb3 := bnew hb2 (.cells #[] 3)
    have hC3 := Kd.C_below HC2.out (bnew (brefl w2) (.cells #[] 3))
    go_upto_region 4 with fail
    generalize hg3 : w2.alloc (.cells #[] 3) = w3 at *
    have hz3 := hb3.size
    have HN3 := hidP hn3
    have HC3 := hidP hC3
    have HO3 := hidP hown
    obtain ⟨JL, hJL⟩ : ∃ JL : List Int, (if jumps op = true then [xn] else []) = JL := ⟨_, rfl⟩
    rw [hJL] at hu
    have hjl1 : JL.length ≤ 1 := by rw [← hJL]; split <;> simp
    have HU := hidP hu
    have HJL := hidP hJL
    obtain ⟨y0, y1, y2, y3, y4⟩ := five_cells hn3
    clear hu hown hn3 hC3 hJL x0 x1 x2 x3 x4 HN2 HC2 hg3
    by_cases j10 : op = 10
    · have t10 : (op == 10) = true := by simp [j10]
      have hj : JL = [xn] := by rw [← HJL.out]; simp [jumps, j10]
      clear j10
      subst hj
      go_upto_region 9 with (at_builtin; go_loud (refine (wpList_app _ rfl (.tmp 22) (.tmp 25) rfl Tryz.slInt w.heap.size (.slice (some ⟨w2.heap.size, 0, none⟩) 0 0) 0 [] rfl (HO3.out.alloc _) _ 1 1 [.int .i64 xn] rfl 1 rfl (RowAt.new _ [.int .i64 xn] _) rfl (by simp; rfl) (by decide) (by decide) (by simp; omega) ?_)); intro a4 c4 w4 ho4 hg4 hw4)
      have hk4 : Keep (fun j => w.heap.size < j) (w3.alloc (.cells #[.int .i64 xn] 3)) w4 := .of_grown hg4 (fun j e => by
        simp [Value.ownBlock] at e
        omega)
      have hN5 := (hk4.block _ (blk_lt (blk_alloc HN3.out _)) (by show ¬ w.heap.size < w.heap.size; omega)).trans (blk_alloc HN3.out (.cells #[.int .i64 xn] 3))
      have hB5 : Below w.heap.size w w4 := (bnew hb3 _).trans (hk4.below (by simp; omega) (fun j h => by omega))
      have hO5 : w4.ownsRow w.heap.size 3 1 (.slice a4 1 c4) 1 [.int .i64 xn] := ho4
      clear ho4 hg4 hw4 hk4
      have HB5 := hidP hB5
      have HO5 := hidP hO5
      have hz5 := hB5.size
      obtain ⟨z0, z1, z2, z3, z4⟩ := five_cells hN5
      have hl5 := blk_lt hN5
      obtain ⟨m, hm⟩ : ∃ m, cs.length = m := ⟨_, rfl⟩
      rw [hm] at z4 hcl
      have HM := hidP hm
      clear hB5 hN5 hO5 hm
      go_wp2_with fail
      go_loopw [5, 30] (fun v5 v30 wr => ∃ (k : Nat) (TA : Option Addr) (tc : Nat), v5 = .slice TA (1 + k) tc ∧ v30 = .int .i64 k ∧ k ≤ m ∧ Hid (wr.ownsRow w.heap.size 3 1 (.slice TA (1 + k) tc) (1 + k) ((([xn] : List Int) ++ (cs.take k).map (·.dest)).map (Value.int .i64))) ∧ Below w.heap.size w wr) (fun _ v30 _ => m - (intOf v30).toNat)
      case atStart => exact ⟨0, _, _, rfl, rfl, by omega, by show World.ownsRow _ _ _ _ _ _ _; simpa using HO5.out, HB5.out⟩
      case round =>
        clear z0 z1 z2 z3 z4 hl5 hz5
        obtain ⟨k, TA, tc, rfl, rfl, hk, HO, hb⟩ := hrel
        obtain ⟨w6, e6⟩ : ∃ w6, w6 = wr := ⟨_, rfl⟩
        subst e6
        by_cases hlt : k < m
        · obtain ⟨⟨ck, cc, cr, ct⟩, hx⟩ : ∃ x, cs[k]? = some x := ⟨_, List.getElem?_eq_getElem (by rw [HM.out]; exact hlt)⟩
          obtain ⟨b, o, rfl, q0, q1, q2, q3⟩ := case_at (Kd.C_below HC.out hb) k _ hx
          dsimp only at q0 q1 q2 q3
          have hnx : (([xn] : List Int) ++ (cs.take k).map (·.dest)).map (Value.int .i64) ++ [Value.int .i64 ct] = (([xn] : List Int) ++ (cs.take (k + 1)).map (·.dest)).map (Value.int .i64) := by
            rw [List.take_add_one, hx]
            simp
          have HNX := hidP hnx
          have hsz := hb.size
          clear hx hnx
          go_wp2_with (at_builtin; go_loud (refine (wpList_app _ rfl (.tmp 34) (.tmp 37) rfl Tryz.slInt w.heap.size (.slice TA (1 + k) tc) (1 + k) ((([xn] : List Int) ++ (cs.take k).map (·.dest)).map (Value.int .i64)) rfl ((HO.out.alloc _).alloc _) _ 1 1 [.int .i64 ct] (by first | rfl | simp [Act.eval]) (1 + k + 1) rfl (RowAt.new _ [.int .i64 ct] _) rfl (by simp; rfl) (by omega) (by unfold maxLen; omega) (by simp; omega) ?_)); intro a4 c4 w4 ho4 hg4 hw4)
          rw [HNX.out] at ho4
          refine ⟨⟨k + 1, a4, c4, rfl, by go_num, by omega, ho4, (bnew (bnew hb _) _).grown hg4 (by simp; omega) (fun i hi => (HO.out.lt i hi).1)⟩, by simp [intOf]; omega⟩
        · obtain rfl : k = m := by omega
          obtain ⟨L, hL⟩ : ∃ L : List Int, ([xn] : List Int) ++ cs.map (·.dest) = L := ⟨_, rfl⟩
          have hLl : L.length = 1 + k := by rw [← hL]; simp [HM.out]; try omega
          have hrow := owns_row HO.out
          rw [List.take_of_length_le (by rw [HM.out]; omega), hL] at hrow
          have hu := HU.out
          rw [hL] at hu
          have HU2 := hidP hu
          have HLL := hidP hLl
          have HROW := hidP hrow
          clear hL hLl hrow hu hlt
          go_wp2_with fail
          go_loop [42] (fun v42 => ∃ j : Nat, v42 = .int .i64 j ∧ j ≤ 1 + k ∧ Hid ((L.take j).any (fun q => decide ((n : Int) ≤ q)) = false)) (fun v42 => 1 + k - (intOf v42).toNat)
          case atStart => exact ⟨0, rfl, by omega, rfl⟩
          case round =>
            obtain ⟨j, rfl, hj, HJ⟩ := hrel
            by_cases hjt : j < 1 + k
            · obtain ⟨q, hq⟩ : ∃ q, L[j]? = some q := ⟨_, List.getElem?_eq_getElem (by rw [HLL.out]; exact hjt)⟩
              obtain ⟨b, o, rfl, hca⟩ := HROW.out.addr (by rw [List.length_map, HLL.out]; omega)
              have q0 := hca j _ (by rw [List.getElem?_map, hq]; rfl)
              clear hca
              by_cases hnq : (n : Int) ≤ q
              · have hz : Z = 6 := by
                  rw [HU2.out, if_pos]
                  rw [List.any_eq_true]
                  exact ⟨q, List.mem_of_getElem? hq, by simpa using hnq⟩
                subst hz
                clear hq
                go_wp2
                go_ret
                exact ⟨rfl, hb⟩
              · have hj2 : (L.take (j + 1)).any (fun q => decide ((n : Int) ≤ q)) = false := by
                  rw [List.take_add_one, hq, List.any_append, HJ.out]
                  simp
                  omega
                have HJ2 := hidP hj2
                clear hq hj2
                go_wp2
                go_round
                case rel => exact ⟨j + 1, by go_num, by omega, HJ2⟩
                case measure => simp [intOf]; omega
            · have hz : Z = 0 := by
                have := HJ.out
                rw [List.take_of_length_le (by rw [HLL.out]; omega)] at this
                rw [HU2.out, if_neg (by rw [this]; simp)]
              subst hz
              go_wp2
              go_ret
              exact ⟨rfl, hb⟩
    by_cases j11 : op = 11
    · have t10 : (op == 10) = false := by simp [j10]
      have t11 : (op == 11) = true := by simp [j11]
      have hj : JL = [xn] := by rw [← HJL.out]; simp [jumps, j11]
      clear j10 j11
      subst hj
      go_upto_region 9 with (at_builtin; go_loud (refine (wpList_app _ rfl (.tmp 22) (.tmp 25) rfl Tryz.slInt w.heap.size (.slice (some ⟨w2.heap.size, 0, none⟩) 0 0) 0 [] rfl (HO3.out.alloc _) _ 1 1 [.int .i64 xn] rfl 1 rfl (RowAt.new _ [.int .i64 xn] _) rfl (by simp; rfl) (by decide) (by decide) (by simp; omega) ?_)); intro a4 c4 w4 ho4 hg4 hw4)
      have hk4 : Keep (fun j => w.heap.size < j) (w3.alloc (.cells #[.int .i64 xn] 3)) w4 := .of_grown hg4 (fun j e => by
        simp [Value.ownBlock] at e
        omega)
      have hN5 := (hk4.block _ (blk_lt (blk_alloc HN3.out _)) (by show ¬ w.heap.size < w.heap.size; omega)).trans (blk_alloc HN3.out (.cells #[.int .i64 xn] 3))
      have hB5 : Below w.heap.size w w4 := (bnew hb3 _).trans (hk4.below (by simp; omega) (fun j h => by omega))
      have hO5 : w4.ownsRow w.heap.size 3 1 (.slice a4 1 c4) 1 [.int .i64 xn] := ho4
      clear ho4 hg4 hw4 hk4
      have HB5 := hidP hB5
      have HO5 := hidP hO5
      have hz5 := hB5.size
      obtain ⟨z0, z1, z2, z3, z4⟩ := five_cells hN5
      have hl5 := blk_lt hN5
      obtain ⟨m, hm⟩ : ∃ m, cs.length = m := ⟨_, rfl⟩
      rw [hm] at z4 hcl
      have HM := hidP hm
      clear hB5 hN5 hO5 hm
      go_wp2_with fail
      go_loopw [5, 30] (fun v5 v30 wr => ∃ (k : Nat) (TA : Option Addr) (tc : Nat), v5 = .slice TA (1 + k) tc ∧ v30 = .int .i64 k ∧ k ≤ m ∧ Hid (wr.ownsRow w.heap.size 3 1 (.slice TA (1 + k) tc) (1 + k) ((([xn] : List Int) ++ (cs.take k).map (·.dest)).map (Value.int .i64))) ∧ Below w.heap.size w wr) (fun _ v30 _ => m - (intOf v30).toNat)
      case atStart => exact ⟨0, _, _, rfl, rfl, by omega, by show World.ownsRow _ _ _ _ _ _ _; simpa using HO5.out, HB5.out⟩
      case round =>
        clear z0 z1 z2 z3 z4 hl5 hz5
        obtain ⟨k, TA, tc, rfl, rfl, hk, HO, hb⟩ := hrel
        obtain ⟨w6, e6⟩ : ∃ w6, w6 = wr := ⟨_, rfl⟩
        subst e6
        by_cases hlt : k < m
        · obtain ⟨⟨ck, cc, cr, ct⟩, hx⟩ : ∃ x, cs[k]? = some x := ⟨_, List.getElem?_eq_getElem (by rw [HM.out]; exact hlt)⟩
          obtain ⟨b, o, rfl, q0, q1, q2, q3⟩ := case_at (Kd.C_below HC.out hb) k _ hx
          dsimp only at q0 q1 q2 q3
          have hnx : (([xn] : List Int) ++ (cs.take k).map (·.dest)).map (Value.int .i64) ++ [Value.int .i64 ct] = (([xn] : List Int) ++ (cs.take (k + 1)).map (·.dest)).map (Value.int .i64) := by
            rw [List.take_add_one, hx]
            simp
          have HNX := hidP hnx
          have hsz := hb.size
          clear hx hnx
          go_wp2_with (at_builtin; go_loud (refine (wpList_app _ rfl (.tmp 34) (.tmp 37) rfl Tryz.slInt w.heap.size (.slice TA (1 + k) tc) (1 + k) ((([xn] : List Int) ++ (cs.take k).map (·.dest)).map (Value.int .i64)) rfl ((HO.out.alloc _).alloc _) _ 1 1 [.int .i64 ct] (by first | rfl | simp [Act.eval]) (1 + k + 1) rfl (RowAt.new _ [.int .i64 ct] _) rfl (by simp; rfl) (by omega) (by unfold maxLen; omega) (by simp; omega) ?_)); intro a4 c4 w4 ho4 hg4 hw4)
          rw [HNX.out] at ho4
          refine ⟨⟨k + 1, a4, c4, rfl, by go_num, by omega, ho4, (bnew (bnew hb _) _).grown hg4 (by simp; omega) (fun i hi => (HO.out.lt i hi).1)⟩, by simp [intOf]; omega⟩
        · obtain rfl : k = m := by omega
          obtain ⟨L, hL⟩ : ∃ L : List Int, ([xn] : List Int) ++ cs.map (·.dest) = L := ⟨_, rfl⟩
          have hLl : L.length = 1 + k := by rw [← hL]; simp [HM.out]; try omega
          have hrow := owns_row HO.out
          rw [List.take_of_length_le (by rw [HM.out]; omega), hL] at hrow
          have hu := HU.out
          rw [hL] at hu
          have HU2 := hidP hu
          have HLL := hidP hLl
          have HROW := hidP hrow
          clear hL hLl hrow hu hlt
          go_wp2_with fail
          go_loop [42] (fun v42 => ∃ j : Nat, v42 = .int .i64 j ∧ j ≤ 1 + k ∧ Hid ((L.take j).any (fun q => decide ((n : Int) ≤ q)) = false)) (fun v42 => 1 + k - (intOf v42).toNat)
          case atStart => exact ⟨0, rfl, by omega, rfl⟩
          case round =>
            obtain ⟨j, rfl, hj, HJ⟩ := hrel
            by_cases hjt : j < 1 + k
            · obtain ⟨q, hq⟩ : ∃ q, L[j]? = some q := ⟨_, List.getElem?_eq_getElem (by rw [HLL.out]; exact hjt)⟩
              obtain ⟨b, o, rfl, hca⟩ := HROW.out.addr (by rw [List.length_map, HLL.out]; omega)
              have q0 := hca j _ (by rw [List.getElem?_map, hq]; rfl)
              clear hca
              by_cases hnq : (n : Int) ≤ q
              · have hz : Z = 6 := by
                  rw [HU2.out, if_pos]
                  rw [List.any_eq_true]
                  exact ⟨q, List.mem_of_getElem? hq, by simpa using hnq⟩
                subst hz
                clear hq
                go_wp2
                go_ret
                exact ⟨rfl, hb⟩
              · have hj2 : (L.take (j + 1)).any (fun q => decide ((n : Int) ≤ q)) = false := by
                  rw [List.take_add_one, hq, List.any_append, HJ.out]
                  simp
                  omega
                have HJ2 := hidP hj2
                clear hq hj2
                go_wp2
                go_round
                case rel => exact ⟨j + 1, by go_num, by omega, HJ2⟩
                case measure => simp [intOf]; omega
            · have hz : Z = 0 := by
                have := HJ.out
                rw [List.take_of_length_le (by rw [HLL.out]; omega)] at this
                rw [HU2.out, if_neg (by rw [this]; simp)]
              subst hz
              go_wp2
              go_ret
              exact ⟨rfl, hb⟩
    by_cases j12 : op = 12
    · have t10 : (op == 10) = false := by simp [j10]
      have t11 : (op == 11) = false := by simp [j11]
      have t12 : (op == 12) = true := by simp [j12]
      have hj : JL = [xn] := by rw [← HJL.out]; simp [jumps, j12]
      clear j10 j11 j12
      subst hj
      go_upto_region 9 with (at_builtin; go_loud (refine (wpList_app _ rfl (.tmp 22) (.tmp 25) rfl Tryz.slInt w.heap.size (.slice (some ⟨w2.heap.size, 0, none⟩) 0 0) 0 [] rfl (HO3.out.alloc _) _ 1 1 [.int .i64 xn] rfl 1 rfl (RowAt.new _ [.int .i64 xn] _) rfl (by simp; rfl) (by decide) (by decide) (by simp; omega) ?_)); intro a4 c4 w4 ho4 hg4 hw4)
      have hk4 : Keep (fun j => w.heap.size < j) (w3.alloc (.cells #[.int .i64 xn] 3)) w4 := .of_grown hg4 (fun j e => by
        simp [Value.ownBlock] at e
        omega)
      have hN5 := (hk4.block _ (blk_lt (blk_alloc HN3.out _)) (by show ¬ w.heap.size < w.heap.size; omega)).trans (blk_alloc HN3.out (.cells #[.int .i64 xn] 3))
      have hB5 : Below w.heap.size w w4 := (bnew hb3 _).trans (hk4.below (by simp; omega) (fun j h => by omega))
      have hO5 : w4.ownsRow w.heap.size 3 1 (.slice a4 1 c4) 1 [.int .i64 xn] := ho4
      clear ho4 hg4 hw4 hk4
      have HB5 := hidP hB5
      have HO5 := hidP hO5
      have hz5 := hB5.size
      obtain ⟨z0, z1, z2, z3, z4⟩ := five_cells hN5
      have hl5 := blk_lt hN5
      obtain ⟨m, hm⟩ : ∃ m, cs.length = m := ⟨_, rfl⟩
      rw [hm] at z4 hcl
      have HM := hidP hm
      clear hB5 hN5 hO5 hm
      go_wp2_with fail
      go_loopw [5, 30] (fun v5 v30 wr => ∃ (k : Nat) (TA : Option Addr) (tc : Nat), v5 = .slice TA (1 + k) tc ∧ v30 = .int .i64 k ∧ k ≤ m ∧ Hid (wr.ownsRow w.heap.size 3 1 (.slice TA (1 + k) tc) (1 + k) ((([xn] : List Int) ++ (cs.take k).map (·.dest)).map (Value.int .i64))) ∧ Below w.heap.size w wr) (fun _ v30 _ => m - (intOf v30).toNat)
      case atStart => exact ⟨0, _, _, rfl, rfl, by omega, by show World.ownsRow _ _ _ _ _ _ _; simpa using HO5.out, HB5.out⟩
      case round =>
        clear z0 z1 z2 z3 z4 hl5 hz5
        obtain ⟨k, TA, tc, rfl, rfl, hk, HO, hb⟩ := hrel
        obtain ⟨w6, e6⟩ : ∃ w6, w6 = wr := ⟨_, rfl⟩
        subst e6
        by_cases hlt : k < m
        · obtain ⟨⟨ck, cc, cr, ct⟩, hx⟩ : ∃ x, cs[k]? = some x := ⟨_, List.getElem?_eq_getElem (by rw [HM.out]; exact hlt)⟩
          obtain ⟨b, o, rfl, q0, q1, q2, q3⟩ := case_at (Kd.C_below HC.out hb) k _ hx
          dsimp only at q0 q1 q2 q3
          have hnx : (([xn] : List Int) ++ (cs.take k).map (·.dest)).map (Value.int .i64) ++ [Value.int .i64 ct] = (([xn] : List Int) ++ (cs.take (k + 1)).map (·.dest)).map (Value.int .i64) := by
            rw [List.take_add_one, hx]
            simp
          have HNX := hidP hnx
          have hsz := hb.size
          clear hx hnx
          go_wp2_with (at_builtin; go_loud (refine (wpList_app _ rfl (.tmp 34) (.tmp 37) rfl Tryz.slInt w.heap.size (.slice TA (1 + k) tc) (1 + k) ((([xn] : List Int) ++ (cs.take k).map (·.dest)).map (Value.int .i64)) rfl ((HO.out.alloc _).alloc _) _ 1 1 [.int .i64 ct] (by first | rfl | simp [Act.eval]) (1 + k + 1) rfl (RowAt.new _ [.int .i64 ct] _) rfl (by simp; rfl) (by omega) (by unfold maxLen; omega) (by simp; omega) ?_)); intro a4 c4 w4 ho4 hg4 hw4)
          rw [HNX.out] at ho4
          refine ⟨⟨k + 1, a4, c4, rfl, by go_num, by omega, ho4, (bnew (bnew hb _) _).grown hg4 (by simp; omega) (fun i hi => (HO.out.lt i hi).1)⟩, by simp [intOf]; omega⟩
        · obtain rfl : k = m := by omega
          obtain ⟨L, hL⟩ : ∃ L : List Int, ([xn] : List Int) ++ cs.map (·.dest) = L := ⟨_, rfl⟩
          have hLl : L.length = 1 + k := by rw [← hL]; simp [HM.out]; try omega
          have hrow := owns_row HO.out
          rw [List.take_of_length_le (by rw [HM.out]; omega), hL] at hrow
          have hu := HU.out
          rw [hL] at hu
          have HU2 := hidP hu
          have HLL := hidP hLl
          have HROW := hidP hrow
          clear hL hLl hrow hu hlt
          go_wp2_with fail
          go_loop [42] (fun v42 => ∃ j : Nat, v42 = .int .i64 j ∧ j ≤ 1 + k ∧ Hid ((L.take j).any (fun q => decide ((n : Int) ≤ q)) = false)) (fun v42 => 1 + k - (intOf v42).toNat)
          case atStart => exact ⟨0, rfl, by omega, rfl⟩
          case round =>
            obtain ⟨j, rfl, hj, HJ⟩ := hrel
            by_cases hjt : j < 1 + k
            · obtain ⟨q, hq⟩ : ∃ q, L[j]? = some q := ⟨_, List.getElem?_eq_getElem (by rw [HLL.out]; exact hjt)⟩
              obtain ⟨b, o, rfl, hca⟩ := HROW.out.addr (by rw [List.length_map, HLL.out]; omega)
              have q0 := hca j _ (by rw [List.getElem?_map, hq]; rfl)
              clear hca
              by_cases hnq : (n : Int) ≤ q
              · have hz : Z = 6 := by
                  rw [HU2.out, if_pos]
                  rw [List.any_eq_true]
                  exact ⟨q, List.mem_of_getElem? hq, by simpa using hnq⟩
                subst hz
                clear hq
                go_wp2
                go_ret
                exact ⟨rfl, hb⟩
              · have hj2 : (L.take (j + 1)).any (fun q => decide ((n : Int) ≤ q)) = false := by
                  rw [List.take_add_one, hq, List.any_append, HJ.out]
                  simp
                  omega
                have HJ2 := hidP hj2
                clear hq hj2
                go_wp2
                go_round
                case rel => exact ⟨j + 1, by go_num, by omega, HJ2⟩
                case measure => simp [intOf]; omega
            · have hz : Z = 0 := by
                have := HJ.out
                rw [List.take_of_length_le (by rw [HLL.out]; omega)] at this
                rw [HU2.out, if_neg (by rw [this]; simp)]
              subst hz
              go_wp2
              go_ret
              exact ⟨rfl, hb⟩
    have t10 : (op == 10) = false := by simp [j10]
    have t11 : (op == 11) = false := by simp [j11]
    have t12 : (op == 12) = false := by simp [j12]
    have hj : JL = [] := by rw [← HJL.out]; simp [jumps, j10, j11, j12]
    subst hj
    have hB5 := hb3
    have hN5 := HN3.out
    have hO5 := HO3.out
    clear j10 j11 j12
    go_upto_region 9 with fail
    clear y0 y1 y2 y3 y4
    have HB5 := hidP hB5
    have HO5 := hidP hO5
    have hz5 := hB5.size
    obtain ⟨z0, z1, z2, z3, z4⟩ := five_cells hN5
    have hl5 := blk_lt hN5
    obtain ⟨m, hm⟩ : ∃ m, cs.length = m := ⟨_, rfl⟩
    rw [hm] at z4 hcl
    have HM := hidP hm
    clear hB5 hN5 hO5 hm
    go_wp2_with fail
    go_loopw [5, 30] (fun v5 v30 wr => ∃ (k : Nat) (TA : Option Addr) (tc : Nat), v5 = .slice TA (k) tc ∧ v30 = .int .i64 k ∧ k ≤ m ∧ Hid (wr.ownsRow w.heap.size 3 1 (.slice TA (k) tc) (k) ((([] : List Int) ++ (cs.take k).map (·.dest)).map (Value.int .i64))) ∧ Below w.heap.size w wr) (fun _ v30 _ => m - (intOf v30).toNat)
    case atStart => exact ⟨0, _, _, rfl, rfl, by omega, by show World.ownsRow _ _ _ _ _ _ _; simpa using HO5.out, HB5.out⟩
    case round =>
      clear z0 z1 z2 z3 z4 hl5 hz5
      obtain ⟨k, TA, tc, rfl, rfl, hk, HO, hb⟩ := hrel
      obtain ⟨w6, e6⟩ : ∃ w6, w6 = wr := ⟨_, rfl⟩
      subst e6
      by_cases hlt : k < m
      · obtain ⟨⟨ck, cc, cr, ct⟩, hx⟩ : ∃ x, cs[k]? = some x := ⟨_, List.getElem?_eq_getElem (by rw [HM.out]; exact hlt)⟩
        obtain ⟨b, o, rfl, q0, q1, q2, q3⟩ := case_at (Kd.C_below HC.out hb) k _ hx
        dsimp only at q0 q1 q2 q3
        have hnx : (([] : List Int) ++ (cs.take k).map (·.dest)).map (Value.int .i64) ++ [Value.int .i64 ct] = (([] : List Int) ++ (cs.take (k + 1)).map (·.dest)).map (Value.int .i64) := by
          rw [List.take_add_one, hx]
          simp
        have HNX := hidP hnx
        have hsz := hb.size
        clear hx hnx
        go_wp2_with (at_builtin; go_loud (refine (wpList_app _ rfl (.tmp 34) (.tmp 37) rfl Tryz.slInt w.heap.size (.slice TA (k) tc) (k) ((([] : List Int) ++ (cs.take k).map (·.dest)).map (Value.int .i64)) rfl ((HO.out.alloc _).alloc _) _ 1 1 [.int .i64 ct] (by first | rfl | simp [Act.eval]) (k + 1) rfl (RowAt.new _ [.int .i64 ct] _) rfl (by simp; rfl) (by omega) (by unfold maxLen; omega) (by simp; omega) ?_)); intro a4 c4 w4 ho4 hg4 hw4)
        rw [HNX.out] at ho4
        refine ⟨⟨k + 1, a4, c4, rfl, by go_num, by omega, ho4, (bnew (bnew hb _) _).grown hg4 (by simp; omega) (fun i hi => (HO.out.lt i hi).1)⟩, by simp [intOf]; omega⟩
      · obtain rfl : k = m := by omega
        obtain ⟨L, hL⟩ : ∃ L : List Int, ([] : List Int) ++ cs.map (·.dest) = L := ⟨_, rfl⟩
        have hLl : L.length = k := by rw [← hL]; simp [HM.out]; try omega
        have hrow := owns_row HO.out
        rw [List.take_of_length_le (by rw [HM.out]; omega), hL] at hrow
        have hu := HU.out
        rw [hL] at hu
        have HU2 := hidP hu
        have HLL := hidP hLl
        have HROW := hidP hrow
        clear hL hLl hrow hu hlt
        go_wp2_with fail
        go_loop [42] (fun v42 => ∃ j : Nat, v42 = .int .i64 j ∧ j ≤ k ∧ Hid ((L.take j).any (fun q => decide ((n : Int) ≤ q)) = false)) (fun v42 => k - (intOf v42).toNat)
        case atStart => exact ⟨0, rfl, by omega, rfl⟩
        case round =>
          obtain ⟨j, rfl, hj, HJ⟩ := hrel
          by_cases hjt : j < k
          · obtain ⟨q, hq⟩ : ∃ q, L[j]? = some q := ⟨_, List.getElem?_eq_getElem (by rw [HLL.out]; exact hjt)⟩
            obtain ⟨b, o, rfl, hca⟩ := HROW.out.addr (by rw [List.length_map, HLL.out]; omega)
            have q0 := hca j _ (by rw [List.getElem?_map, hq]; rfl)
            clear hca
            by_cases hnq : (n : Int) ≤ q
            · have hz : Z = 6 := by
                rw [HU2.out, if_pos]
                rw [List.any_eq_true]
                exact ⟨q, List.mem_of_getElem? hq, by simpa using hnq⟩
              subst hz
              clear hq
              go_wp2
              go_ret
              exact ⟨rfl, hb⟩
            · have hj2 : (L.take (j + 1)).any (fun q => decide ((n : Int) ≤ q)) = false := by
                rw [List.take_add_one, hq, List.any_append, HJ.out]
                simp
                omega
              have HJ2 := hidP hj2
              clear hq hj2
              go_wp2
              go_round
              case rel => exact ⟨j + 1, by go_num, by omega, HJ2⟩
              case measure => simp [intOf]; omega
          · have hz : Z = 0 := by
              have := HJ.out
              rw [List.take_of_length_le (by rw [HLL.out]; omega)] at this
              rw [HU2.out, if_neg (by rw [this]; simp)]
            subst hz
            go_wp2
            go_ret
            exact ⟨rfl, hb⟩
end Go.Proofs.YtklfboidjnchoaaGreatDoor
namespace Go.Proofs.YtklfboidjnchoaaGreatDoor
open Go.RowKit Go.Proofs.YtklfboidjnchoaaGreatDoorW.PrintWords
set_option linter.unusedVariables false
def valF (n : Nat) : Nat → List InstrD → Int × Int
  | _, [] => (0, 0)
  | i, x :: r => if lookR x n = 0 then valF n (i + 1) r else ((i : Int) + 1, lookR x n)
def validR (l : List InstrD) : Int × Int := if l.length = 0 then (0, 7) else if 60 < l.length then (0, 3) else valF l.length 0 l
theorem valF_at {n k : Nat} {l : List InstrD} {x : InstrD} (h : l[k]? = some x) : valF n k (l.drop k) = if lookR x n = 0 then valF n (k + 1) (l.drop (k + 1)) else ((k : Int) + 1, lookR x n) := by
  obtain ⟨hk, hc⟩ := List.getElem?_eq_some_iff.1 h
  rw [List.drop_eq_getElem_cons hk, hc]
  rfl
theorem lookR_cases (x : InstrD) (n : Nat) : lookR x n = 0 ∨ lookR x n = 5 ∨ lookR x n = 6 := by
  unfold lookR
  repeat' split
  all_goals simp
set_option maxRecDepth 100000 in
set_option maxHeartbeats 3200000 in
theorem valid_any (A : Option Addr) (d : Nat) (l : List InstrD) (w : World) (hbl : Blanks w) (h : kI.C w A l.length l) (hcs : ∀ x ∈ l, x.cases.length ≤ 9223372036854775807) :
    Calls Tryz.prog 27 #[.slice A l.length d] w fun e w' => e = .returned (.tuple #[.int .i64 (validR l).1, .int .i64 (validR l).2]) ∧ Below w.heap.size w w' := by
  obtain ⟨R, hR⟩ : ∃ R, validR l = R := ⟨_, rfl⟩
  rw [hR]
  have hr := hR.symm
  unfold validR at hr
  have H := hidP h
  have HBL := hidP hbl
  have HCS := hidP hcs
  have hmx := h.2.1
  obtain ⟨n, hn⟩ : ∃ n, l.length = n := ⟨_, rfl⟩
  rw [hn] at hr hmx ⊢
  have HN := hidP hn
  clear hR h hbl hcs hn
  by_cases h0 : n = 0
  · rw [if_pos h0] at hr
    subst hr
    have t0 : ((n : Int) == 0) = true := by simp [h0]
    clear h0
    go_enter Tryz.func27, Tryz.ntmps27
    go_wp2_with fail
    go_ret2
    exact ⟨rfl, brefl _⟩
  · rw [if_neg h0] at hr
    have t0 : ((n : Int) == 0) = false := by simp; omega
    by_cases h60 : 60 < n
    · rw [if_pos h60] at hr
      subst hr
      have t6 : (60 : Int) < (n : Int) := by omega
      clear h0
      go_enter Tryz.func27, Tryz.ntmps27
      go_wp2_with fail
      go_ret2
      exact ⟨rfl, brefl _⟩
    · rw [if_neg h60] at hr
      have t6 : ¬ (60 : Int) < (n : Int) := by omega
      have HRR := hidP hr
      clear h0 hr
      go_enter Tryz.func27, Tryz.ntmps27
      go_wp2_with fail
      go_loopw [18] (fun v18 wr => ∃ k : Nat, v18 = .int .i64 k ∧ k ≤ n ∧ Hid (valF n k (l.drop k) = R) ∧ Below w.heap.size w wr) (fun v18 _ => n - (intOf v18).toNat)
      case atStart => exact ⟨0, rfl, by omega, HRR.out.symm, brefl _⟩
      case round =>
        obtain ⟨k, rfl, hk, HF, hb⟩ := hrel
        obtain ⟨w1, e1⟩ : ∃ w1, w1 = wr := ⟨_, rfl⟩
        subst e1
        by_cases hlt : k < n
        · obtain ⟨x, hx⟩ : ∃ x, l[k]? = some x := ⟨_, List.getElem?_eq_getElem (by rw [HN.out]; exact hlt)⟩
          obtain ⟨b, o, A4, c4, rfl, x0, x1, x2, x3, x4, _, hxc⟩ := instr_at (Kd.C_below H.out hb) k x hx
          have hxs := HCS.out x (List.mem_of_getElem? hx)
          have hst : R = if lookR x n = 0 then valF n (k + 1) (l.drop (k + 1)) else ((k : Int) + 1, lookR x n) := by rw [← valF_at hx]; exact HF.out.symm
          have hlk := fun w2 (hb2 : Below w1.heap.size w1 w2) => look_any' x A4 c4 n w2 ((HBL.out.below hb).below hb2) (Kd.C_below hxc hb2) hxs
          have hcs3 := lookR_cases x n
          obtain ⟨r, hr⟩ : ∃ r, lookR x n = r := ⟨_, rfl⟩
          rw [hr] at hst hcs3
          simp only [hr] at hlk
          obtain ⟨xo, xa, xb, xn, xc⟩ := x
          simp only [instrV] at hlk
          dsimp only at x0 x1 x2 x3 x4
          have HST := hidP hst
          have HLK := hidP hlk
          have hBx := hidP (bnew hb (.cells #[.int .i64 xo, .int .i64 xa, .int .i64 xb, .int .i64 xn, .slice A4 xc.length c4] 56))
          clear hx hst hlk hr hxc hxs
          go_wp2_with fail
          refine (HLK.out _ (bnew (brefl w1) _)).mono ?_
          rintro e w2 ⟨rfl, hb2⟩
          have hB2 := bstep hBx.out hb2
          rcases hcs3 with rfl | rfl | rfl
          · have hF : valF n (k + 1) (l.drop (k + 1)) = R := by rw [HST.out, if_pos rfl]
            have HFF := hidP hF
            have hbr := bnew hB2 (.cells #[.int .i64 0] 92)
            simp only [faultV, if_pos]
            clear hF
            go_wp2_with fail
            go_wp2_with fail
            rename_i hK
            refine hK _ _ ?_
            go_wp2_with fail
            go_roundw
            case rel => exact ⟨k + 1, by go_num, by omega, HFF, hbr⟩
            case measure => simp [intOf]; omega
          · have hF : R = ((k : Int) + 1, 5) := by rw [HST.out, if_neg (by decide)]
            subst hF
            have hbr := fun n => (⟨(bnew hB2 (.cells #[.int .i64 5] 92)).os, (bnew hB2 (.cells #[.int .i64 5] 92)).tape, (bnew hB2 (.cells #[.int .i64 5] 92)).output, (bnew hB2 (.cells #[.int .i64 5] 92)).size, (bnew hB2 (.cells #[.int .i64 5] 92)).block⟩ : Below w.heap.size w ((w2.alloc (.cells #[.int .i64 5] 92)).drewN n))
            rw [show faultV 5 = .iface 92 (.agg #[.int .i64 5]) from rfl]
            go_wp2_with fail
            go_wp2_with fail
            rename_i hK
            refine hK _ _ ?_
            go_wp2_with fail
            go_quiet (fail)
            go_wp2
            go_ret2
            exact ⟨rfl, hbr _⟩
          · have hF : R = ((k : Int) + 1, 6) := by rw [HST.out, if_neg (by decide)]
            subst hF
            have hbr := fun n => (⟨(bnew hB2 (.cells #[.int .i64 6] 92)).os, (bnew hB2 (.cells #[.int .i64 6] 92)).tape, (bnew hB2 (.cells #[.int .i64 6] 92)).output, (bnew hB2 (.cells #[.int .i64 6] 92)).size, (bnew hB2 (.cells #[.int .i64 6] 92)).block⟩ : Below w.heap.size w ((w2.alloc (.cells #[.int .i64 6] 92)).drewN n))
            rw [show faultV 6 = .iface 92 (.agg #[.int .i64 6]) from rfl]
            go_wp2_with fail
            go_wp2_with fail
            rename_i hK
            refine hK _ _ ?_
            go_wp2_with fail
            go_quiet (fail)
            go_wp2
            go_ret2
            exact ⟨rfl, hbr _⟩
        · have hF : R = (0, 0) := by
            rw [← HF.out, List.drop_eq_nil_of_le (by rw [HN.out]; omega)]
            rfl
          subst hF
          go_wp2_with fail
          go_ret2
          exact ⟨rfl, hb⟩
end Go.Proofs.YtklfboidjnchoaaGreatDoor
namespace Go.Proofs.YtklfboidjnchoaaGreatDoor
open Go.RowKit Go.Proofs.YtklfboidjnchoaaGreatDoorW.PrintWords
set_option linter.unusedVariables false
theorem choiceF_len (l : List Nat) : ∀ (k q : Nat) (acc cs : List CaseD), q ≤ l.length → acc.length ≤ q → choiceF l k q acc = some cs → cs.length ≤ l.length
  | 0, _, _, _, _, _, h => by cases h
  | k + 1, q, acc, cs, hq, ha, h => by
    unfold choiceF at h
    split at h
    · rename_i hlt
      split at h
      · cases h
      · split at h
        · cases h
        · split at h
          · cases h
          · have hge := fieldsR_ge l (findF (chr l q : Int) 0 casesL).2.1 (q + 1)
            by_cases hle : (fieldsR l (findF (chr l q : Int) 0 casesL).2.1 (q + 1)).q ≤ l.length
            · refine choiceF_len l k _ _ cs hle ?_ h
              rw [List.length_append]
              show acc.length + 1 ≤ _
              omega
            · exfalso
              refine hle ?_
              have hf : ∀ (F : List Nat) (i : Nat) (s : FSt), s.q ≤ l.length → (ffold l i F s).q ≤ l.length := by
                intro F
                induction F with
                | nil => intro i s hs; exact hs
                | cons c r ih =>
                  intro i s hs
                  refine ih _ _ ?_
                  unfold fstep
                  have h1 := adv_le hs
                  have h2 := (runL_le (l.drop s.q) 4).1
                  have h3 := (runL_le (l.drop s.q) 1).1
                  rw [List.length_drop] at h2 h3
                  repeat' split
                  all_goals simp
                  all_goals omega
              exact hf _ 0 ⟨0, 0, 0, true, q + 1⟩ (by show q + 1 ≤ l.length; omega)
    · split at h
      · cases h
      · cases h
        omega
theorem line_cases (L : List Nat) : (lineR L).1.cases.length ≤ L.length := by
  unfold lineR
  split
  · simp [instrZ]
  · split
    · show ((choiceR L (adv L 0)).getD []).length ≤ L.length
      cases h : choiceR L (adv L 0) with
      | none => simp
      | some cs => exact choiceF_len L _ _ [] cs (adv_le (Nat.zero_le _)) (Nat.zero_le _) h
    · simp
theorem decF_cases : ∀ (l : List (List Nat)) (i : Nat) (acc : List InstrD), (∀ x ∈ acc, x.cases.length ≤ 2000) → (∀ L ∈ l, L.length ≤ 2000) → ∀ x ∈ (decF i acc l).1, x.cases.length ≤ 2000
  | [], i, acc, ha, _, x, hx => ha x hx
  | L :: r, i, acc, ha, hl, x, hx => by
    unfold decF at hx
    split at hx
    · refine decF_cases r (i + 1) _ (fun y hy => ?_) (fun M hM => hl M (by simp [hM])) x hx
      rcases List.mem_append.1 hy with hy | hy
      · exact ha y hy
      · rw [List.mem_singleton] at hy
        subst hy
        exact Nat.le_trans (line_cases L) (hl L (by simp))
    · simp at hx
theorem decode_cases (s : ByteArray) : ∀ x ∈ (decodeR s).1, x.cases.length ≤ 2000 := by
  unfold decodeR
  split
  · simp
  · refine decF_cases _ 0 [] (by simp) (fun L hL => ?_)
    obtain ⟨x, hx, rfl⟩ := List.mem_map.1 hL
    exact ((lines_ok s).1 x hx).2.1
def loadR (s : ByteArray) : List InstrD × Int × Int :=
  if (decodeR s).2.2 ≠ 0 then ([], (decodeR s).2.1, (decodeR s).2.2)
  else if (validR (decodeR s).1).2 ≠ 0 then ([], (validR (decodeR s).1).1, (validR (decodeR s).1).2)
  else ((decodeR s).1, 0, 0)
def plainI (l : List InstrD) : List Value := l.flatMap fun x => instrC x (.slice none 0 0)
theorem reps_plain (w : World) : ∀ (l : List InstrD), (∀ x ∈ l, x.cases = []) → ∀ (done : List InstrD) (cs : List Value), Reps (kI.K w) 5 done cs → Reps (kI.K w) 5 (done ++ l) (cs ++ plainI l)
  | [], _, done, cs, h => by simpa [plainI] using h
  | x :: r, hx, done, cs, h => by
    obtain ⟨o, a, b, n, c⟩ := x
    obtain rfl : c = [] := hx ⟨o, a, b, n, c⟩ (by simp)
    have h1 : kI.K w ⟨o, a, b, n, []⟩ (instrC ⟨o, a, b, n, []⟩ (.slice none 0 0)) := kI_mk w ⟨o, a, b, n, []⟩ (Nat.le_refl _) ⟨rfl, Nat.zero_le _, fun h => by simp at h⟩
    have := reps_plain w r (fun y hy => hx y (by simp [hy])) _ _ (h.snoc h1 rfl)
    rw [List.append_assoc, List.append_assoc] at this
    exact this
theorem plain_reads (w : World) (l : List InstrD) (h : ∀ x ∈ l, x.cases = []) (hl : l.length ≤ 9223372036854775807) : kI.C (w.alloc (.cells (plainI l).toArray 56)) (some ⟨w.heap.size, 0, none⟩) l.length l := by
  have hr := reps_plain (w.alloc (.cells (plainI l).toArray 56)) l h [] [] (Reps.none _ _)
  rw [List.nil_append, List.nil_append] at hr
  refine ⟨rfl, hl, fun _ => ⟨_, rfl, fun j p hj => ?_⟩⟩
  have hlen : j < l.length := (List.getElem?_eq_some_iff.1 hj).1
  refine ⟨_, ?_, hr.2 j p hj, fun i u hi => ?_⟩
  · rw [List.length_take, List.length_drop, hr.1]
    show min 5 (l.length * 5 - j * 5) = 5
    omega
  · have e : (⟨w.heap.size, 0, none⟩ : Addr).add (j * kI.sz + i) = ⟨w.heap.size, 0 + (j * 5 + i), none⟩ := Addr.add_lit _ _ _
    rw [e, Nat.zero_add, cell_of_row _ _ _ (plainI l).toArray 56 (0, 0) (heap_alloc_new w _)]
    rw [List.getElem?_take] at hi
    split at hi
    · rw [List.getElem?_drop] at hi
      simpa using hi
    · cases hi
end Go.Proofs.YtklfboidjnchoaaGreatDoor
namespace Go.Proofs.YtklfboidjnchoaaGreatDoor
open Go.RowKit Go.Proofs.YtklfboidjnchoaaGreatDoorW.PrintWords
set_option linter.unusedVariables false
set_option linter.unusedSimpArgs false
theorem take_stepK {α : Type} [DecidableEq α] {es fs : List α} {k : Nat} {x y : α} (h : es.take k = fs.take k) (hx : es[k]? = some x) (hy : fs[k]? = some y) (e : x = y) : es.take (k + 1) = fs.take (k + 1) := by
  rw [List.take_add_one, List.take_add_one, h, hx, hy, e]
theorem ne_stepK {α : Type} [DecidableEq α] {es fs : List α} {k : Nat} {x y : α} (hx : es[k]? = some x) (hy : fs[k]? = some y) (e : x ≠ y) : decide (es = fs) = false := by
  simp only [decide_eq_false_iff_not]
  intro h
  subst h
  rw [hx] at hy
  exact e (Option.some.inj hy)
theorem eq_allK {α : Type} [DecidableEq α] {es fs : List α} {k : Nat} (h : es.take k = fs.take k) (hn : es.length ≤ k) (hm : fs.length ≤ k) : decide (es = fs) = true := by
  rw [List.take_of_length_le hn, List.take_of_length_le hm] at h
  simp [h]
theorem ne_lenK {α : Type} [DecidableEq α] {es fs : List α} (h : es.length ≠ fs.length) : decide (es = fs) = false := by
  simp only [decide_eq_false_iff_not]
  intro e
  exact h (by rw [e])
def rwith (v n : Int) : Bool := decide (0 ≤ v) && decide (v < n)
set_option maxRecDepth 100000 in
set_option maxHeartbeats 800000 in
theorem rwithin_any (v n : Int) (w : World) : Calls Tryz.prog 71 #[.int .i64 v, .int .i64 n] w fun e w' => e = .returned (.bool (rwith v n)) ∧ w' = w := by
  by_cases h0 : 0 ≤ v
  · have hr : rwith v n = decide (v < n) := by simp [rwith, h0]
    rw [hr]
    clear hr
    go_enter Tryz.func71, Tryz.ntmps71
    go_wp2
    go_ret
    exact ⟨rfl, rfl⟩
  · have hr : rwith v n = false := by simp [rwith, h0]
    rw [hr]
    clear hr
    go_enter Tryz.func71, Tryz.ntmps71
    go_wp2
    go_ret
    exact ⟨rfl, rfl⟩
def rbounded (x : InstrD) : Bool :=
  if x.op = 4 then decide (x.n ≤ 3) else if x.op = 14 then decide (x.n ≤ 1000) else if x.op = 20 then decide (x.n ≤ 9) else if x.op = 18 then decide (x.n < 4) else if x.op = 19 then decide (x.n < 4) else decide ((x.cases.length : Int) ≤ 3)
set_option maxRecDepth 100000 in
set_option maxHeartbeats 3200000 in
theorem rbounded_any (x : InstrD) (A : Option Addr) (d : Nat) (w : World) : Calls Tryz.prog 48 #[instrV x (.slice A x.cases.length d)] w fun e w' => e = .returned (.bool (rbounded x)) ∧ Below w.heap.size w w' := by
  obtain ⟨op, xa, xb, xn, cs⟩ := x
  simp only [instrV]
  unfold rbounded
  dsimp only
  have hb := bnew (brefl w) (.cells #[.int .i64 op, .int .i64 xa, .int .i64 xb, .int .i64 xn, .slice A cs.length d] 56)
  by_cases h4 : op = 4
  · rw [if_pos h4]
    have t4 : (op == 4) = true := by simp [h4]
    clear h4
    go_enter Tryz.func48, Tryz.ntmps48
    go_wp2
    go_ret
    exact ⟨rfl, hb⟩
  rw [if_neg h4]
  have t4 : (op == 4) = false := by simp [h4]
  by_cases h14 : op = 14
  · rw [if_pos h14]
    have t14 : (op == 14) = true := by simp [h14]
    clear h4 h14
    go_enter Tryz.func48, Tryz.ntmps48
    go_wp2
    go_ret
    exact ⟨rfl, hb⟩
  rw [if_neg h14]
  have t14 : (op == 14) = false := by simp [h14]
  by_cases h20 : op = 20
  · rw [if_pos h20]
    have t20 : (op == 20) = true := by simp [h20]
    clear h4 h14 h20
    go_enter Tryz.func48, Tryz.ntmps48
    go_wp2
    go_ret
    exact ⟨rfl, hb⟩
  rw [if_neg h20]
  have t20 : (op == 20) = false := by simp [h20]
  by_cases h18 : op = 18
  · rw [if_pos h18]
    have t18 : (op == 18) = true := by simp [h18]
    clear h4 h14 h20 h18
    go_enter Tryz.func48, Tryz.ntmps48
    go_wp2
    go_ret
    exact ⟨rfl, hb⟩
  rw [if_neg h18]
  have t18 : (op == 18) = false := by simp [h18]
  by_cases h19 : op = 19
  · rw [if_pos h19]
    have t19 : (op == 19) = true := by simp [h19]
    clear h4 h14 h20 h18 h19
    go_enter Tryz.func48, Tryz.ntmps48
    go_wp2
    go_ret
    exact ⟨rfl, hb⟩
  rw [if_neg h19]
  have t19 : (op == 19) = false := by simp [h19]
  clear h4 h14 h20 h18 h19
  go_enter Tryz.func48, Tryz.ntmps48
  go_wp2
  go_ret
  exact ⟨rfl, hb⟩
def rcaseOk (n i : Nat) (c : CaseD) : Bool := rwith c.kind 4 && decide (0 < c.kind) && rwith c.ch 6 && rwith c.reg 6 && rwith c.dest 10000 && (!(c.kind == 3) || (c.ch == 0 && c.reg == 0 && decide ((i : Int) = (n : Int) - 1)))
def rcasF (n : Nat) : Nat → Bool → List CaseD → Bool
  | _, ok, [] => ok
  | i, ok, c :: r => rcasF n (i + 1) (ok && rcaseOk n i c) r
def rsh (f : RForm) (x : InstrD) : Bool :=
  (rwith x.a 6 && rwith x.b 6 && rwith x.n 10000 && x.cases.length == 0) && (f.args.contains 97 || x.a == 0) && (f.args.contains 98 || x.b == 0) && ((f.args.contains 78 || f.args.contains 110) || x.n == 0) && (!f.args.contains 110 || decide (x.n < 10))
def rshF (x : InstrD) : List RForm → Bool
  | [] => false
  | f :: r => if (f.op : Int) = x.op then rsh f x else rshF x r
def rshaped (x : InstrD) : Bool :=
  if x.op = 21 then rcasF x.cases.length 0 (x.a == 0 && x.b == 0 && x.n == 0 && decide (0 < x.cases.length)) x.cases else rshF x rforms
theorem rcaseOk_eq (n i : Nat) (c : CaseD) (hi : i < n) : rcaseOk n i c = caseOk n i c := by
  obtain ⟨k, h, r, t⟩ := c
  unfold rcaseOk caseOk rwith regOk withinOk
  dsimp only
  rw [Bool.eq_iff_iff]
  by_cases h3 : k = 3
  · subst h3
    simp
    omega
  · have : (k == 3) = false := by simp [h3]
    rw [this]
    simp
    omega
theorem rcasF_eq (n : Nat) : ∀ (cs : List CaseD) (i : Nat) (ok : Bool), i + cs.length = n → rcasF n i ok cs = (ok && casF n i cs)
  | [], i, ok, h => by simp [rcasF, casF]
  | c :: r, i, ok, h => by
    simp only [List.length_cons] at h
    simp only [rcasF, casF]
    rw [rcasF_eq n r (i + 1) _ (by omega), rcaseOk_eq n i c (by omega), Bool.and_assoc]
theorem has_words : ∀ k < 22, k ≠ 20 → ∀ f ∈ rforms, f.op = k + 1 → ctn (hasF ((k : Int) + 1)) 97 = f.args.contains 97 ∧ ctn (hasF ((k : Int) + 1)) 98 = f.args.contains 98 ∧ Lib.containsAny (hasF ((k : Int) + 1)) [110, 108] = (f.args.contains 78 || f.args.contains 110) := by decide +kernel
theorem has_21 : ctn (hasF 21) 97 = false ∧ ctn (hasF 21) 98 = false ∧ Lib.containsAny (hasF 21) [110, 108] = false := by decide +kernel
theorem rshF_mem (x : InstrD) : ∀ (l : List RForm), (l.map (·.op)).Nodup → ∀ f ∈ l, (f.op : Int) = x.op → rshF x l = rsh f x
  | [], _, f, hf, _ => by simp at hf
  | g :: r, hn, f, hf, h => by
    rw [List.map_cons, List.nodup_cons] at hn
    unfold rshF
    rcases List.mem_cons.1 hf with rfl | hr
    · rw [if_pos h]
    · have : ¬ (g.op : Int) = x.op := by
        intro e
        apply hn.1
        have e2 : g.op = f.op := by omega
        rw [e2]
        exact List.mem_map_of_mem hr
      rw [if_neg this]
      exact rshF_mem x r hn.2 f hr h
theorem rforms_nodup : (rforms.map (·.op)).Nodup := by decide
theorem rforms_op : ∀ k < 22, k ≠ 20 → ∃ f ∈ rforms, f.op = k + 1 ∧ (f.args.contains 110 = true → k = 17) := by decide
theorem shaped_eq (x : InstrD) : (rshaped x && rbounded x) = shapedP x := by
  unfold rshaped shapedP
  by_cases h21 : x.op = 21
  · rw [if_pos h21, if_neg (by omega), h21]
    obtain ⟨e1, e2, e3⟩ := has_21
    rw [e1, e2, e3, rcasF_eq _ _ _ _ (by simp)]
    have hb : rbounded x = decide ((x.cases.length : Int) ≤ 3) := by unfold rbounded; rw [if_neg (by omega), if_neg (by omega), if_neg (by omega), if_neg (by omega), if_neg (by omega)]
    rw [hb]
    have hbo : boundOf 21 = 9999 := by decide
    rw [hbo]
    unfold casesOk regOk withinOk
    rw [Bool.eq_iff_iff]
    cases casF x.cases.length 0 x.cases <;> simp <;> omega
  · rw [if_neg h21]
    by_cases hop : x.op < 1 ∨ 22 < x.op
    · rw [if_pos hop]
      have : rshF x rforms = false := by
        have hno : ∀ l : List RForm, (∀ f ∈ l, 1 ≤ f.op ∧ f.op ≤ 22) → rshF x l = false := by
          intro l
          induction l with
          | nil => intro _; rfl
          | cons f r ih =>
            intro h
            have := h f (List.mem_cons_self ..)
            unfold rshF
            rw [if_neg (by omega)]
            exact ih (fun g hg => h g (List.mem_cons_of_mem _ hg))
        exact hno rforms (by decide)
      rw [this]
      rfl
    · rw [if_neg hop]
      obtain ⟨k, hk⟩ : ∃ k : Nat, x.op = (k : Int) + 1 := ⟨(x.op - 1).toNat, by omega⟩
      obtain ⟨f, hf, hfo, hd⟩ := rforms_op k (by omega) (by omega)
      obtain ⟨e1, e2, e3⟩ := has_words k (by omega) (by omega) f hf hfo
      rw [rshF_mem x rforms rforms_nodup f hf (by omega), hk, e1, e2, e3, if_neg (by omega)]
      have hbd : (rbounded x && (withinOk x.n 9999 && x.cases.length == 0)) = (withinOk x.n (boundOf ((k : Int) + 1)) && x.cases.length == 0) := by
        unfold rbounded boundOf withinOk
        generalize x.cases.length = L
        rw [hk, Bool.eq_iff_iff]
        repeat' split
        all_goals (simp; omega)
      have hb18 : k = 17 → boundOf ((k : Int) + 1) = 3 := by rintro rfl; decide
      have hbm : boundOf ((k : Int) + 1) ≤ 9999 := by unfold boundOf; repeat' split; all_goals omega
      have hrb : rbounded x = true ∨ rbounded x = false := by cases rbounded x <;> simp
      unfold rsh regOk rwith
      generalize f.args.contains 97 = A at *
      generalize f.args.contains 98 = B at *
      generalize f.args.contains 78 = N at *
      generalize f.args.contains 110 = D at *
      generalize boundOf ((k : Int) + 1) = M at *
      generalize rbounded x = W at *
      unfold withinOk at *
      by_cases hl : x.cases.length = 0
      · rw [hl] at hbd ⊢
        rw [Bool.eq_iff_iff] at hbd ⊢
        cases D
        · cases A <;> cases B <;> cases N <;> cases W <;> simp at hbd ⊢ <;> omega
        · have h18 := hb18 (hd rfl)
          subst h18
          cases A <;> cases B <;> cases N <;> cases W <;> simp at hbd ⊢ <;> omega
      · have : (x.cases.length == 0) = false := by simp [hl]
        rw [this]
        simp
end Go.Proofs.YtklfboidjnchoaaGreatDoor
