/-
  The walk over package check's look.
-/
import Derived.Test.YtoflhfiegfhkoaaDoorKShp
import Derived.Test.YtoflhfiegfhkoaaDoorKRefD
namespace Go.Proofs.YtoflhfiegfhkoaaDoor
open Go.RowKit Go.Proofs.YtoflhfiegfhkoaaDoorW.PrintWords
set_option linter.unusedVariables false

def jumps (op : Int) : Bool := op == 10 || op == 11 || op == 12
def tosP (x : InstrD) : List Int := (if jumps x.op = true then [x.n] else []) ++ x.cases.map (·.dest)
/-- Why an instruction may not be, of a program of so many; 0: it may. -/
def lookR (x : InstrD) (n : Nat) : Int := if shapedP x = false then 5 else if (tosP x).any (fun k => decide ((n : Int) ≤ k)) = true then 6 else 0
def faultV (r : Int) : Value := if r = 0 then .nilIface else .iface 54 (.agg #[.int .i64 r])
theorem Tryd.slInt : SlT Tryd.prog 41 3 (.int .i64 0) 1 8 := ⟨Tryd.underlying41, by kernel_rfl, rfl, by decide⟩

theorem shapedP_few {x : InstrD} (h : shapedP x = true) : x.cases.length ≤ 3 := by
  unfold shapedP at h
  split at h
  · cases h
  · simp only [Bool.and_eq_true] at h
    have h5 := h.2
    split at h5
    · unfold casesOk at h5
      simp only [Bool.and_eq_true, decide_eq_true_eq] at h5
      exact h5.2
    · simp at h5
      rw [h5]
      simp

set_option maxRecDepth 100000 in
set_option maxHeartbeats 3200000 in
theorem look_any' (x : InstrD) (A : Option Addr) (d n : Nat) (w : World) (hbl : Blanks w) (hc : kC.C w A x.cases.length x.cases) (hcl : x.cases.length ≤ 9223372036854775807) :
    Calls Tryd.prog 29 #[instrV x (.slice A x.cases.length d), .int .i64 n] w fun e w' => e = .returned (faultV (lookR x n)) ∧ Below w.heap.size w w' := by
  obtain ⟨op, xa, xb, xn, cs⟩ := x
  dsimp only at hc hcl
  simp only [instrV]
  obtain ⟨Z, hZ⟩ : ∃ Z, lookR ⟨op, xa, xb, xn, cs⟩ n = Z := ⟨_, rfl⟩
  rw [hZ]
  have hb1 := bnew (brefl w) (.cells #[.int .i64 op, .int .i64 xa, .int .i64 xb, .int .i64 xn, .slice A cs.length d] 37)
  have hn1 := blk_new w (.cells #[.int .i64 op, .int .i64 xa, .int .i64 xb, .int .i64 xn, .slice A cs.length d] 37)
  have hsh := shaped_any ⟨op, xa, xb, xn, cs⟩ A d _ (hbl.below hb1) (Kd.C_below hc hb1) hcl
  simp only [instrV] at hsh
  have HC := hidP hc
  have hu := hZ.symm
  unfold lookR at hu
  obtain ⟨SH, hSH⟩ : ∃ b, shapedP ⟨op, xa, xb, xn, cs⟩ = b := ⟨_, rfl⟩
  have HFEW := hidP (show SH = true → cs.length ≤ 3 from fun h => shapedP_few (x := ⟨op, xa, xb, xn, cs⟩) (hSH.trans h))
  rw [hSH] at hu hsh
  have HSH := hidP hsh
  clear hsh hc hZ hbl hSH
  go_enter Tryd.func29, Tryd.ntmps29
  go_wp2_with fail
  generalize w.alloc (.cells #[.int .i64 op, .int .i64 xa, .int .i64 xb, .int .i64 xn, .slice A cs.length d] 37) = w1 at *
  refine HSH.out.mono ?_
  rintro e w2 ⟨rfl, hb12⟩
  have hb2 := bstep hb1 hb12
  have HN2 := hidP (blk_below hn1 hb12)
  have HC2 := hidP (Kd.C_below HC.out hb2)
  have l2 := blk_lt HN2.out
  have hz2 := hb2.size
  clear hn1 hb1 hb12 HSH
  obtain ⟨x0, x1, x2, x3, x4⟩ := five_cells HN2.out
  cases SH
  · rw [if_pos rfl] at hu
    subst hu
    go_wp2
    go_ret
    exact ⟨rfl, hb2⟩
  · rw [if_neg (by simp)] at hu
    replace hcl : cs.length ≤ 1000000 := Nat.le_trans (HFEW.out rfl) (by omega)
    unfold tosP at hu
    dsimp only at hu
    have hown := World.ownsRow_lit (base := w.heap.size) (e := 3) (size := 1) w2 #[] 0 hz2 (by decide) (by simp)
    have hn3 := blk_alloc HN2.out (.cells #[] 3)
    have hb3 := bnew hb2 (.cells #[] 3)
    have hC3 := Kd.C_below HC2.out (bnew (brefl w2) (.cells #[] 3))
    go_upto_region 4 with fail
    generalize hg3 : w2.alloc (.cells #[] 3) = w3 at *
    have hz3 := hb3.size
    have HN3 := hidP hn3
    have HC3 := hidP hC3
    have HO3 := hidP hown
    obtain ⟨JL, hJL⟩ : ∃ JL : List Int, (if jumps op = true then [xn] else []) = JL := ⟨_, rfl⟩
    rw [hJL] at hu
    have hjl1 : JL.length ≤ 1 := by rw [← hJL]; split <;> simp
    have HU := hidP hu
    have HJL := hidP hJL
    obtain ⟨y0, y1, y2, y3, y4⟩ := five_cells hn3
    clear hu hown hn3 hC3 hJL x0 x1 x2 x3 x4 HN2 HC2 hg3
    by_cases j10 : op = 10
    · have t10 : (op == 10) = true := by simp [j10]
      have hj : JL = [xn] := by rw [← HJL.out]; simp [jumps, j10]
      clear j10
      subst hj
      go_upto_region 9 with (at_builtin; go_loud (refine (wpList_app _ rfl (.tmp 22) (.tmp 25) rfl Tryd.slInt w.heap.size (.slice (some ⟨w2.heap.size, 0, none⟩) 0 0) 0 [] rfl (HO3.out.alloc _) _ 1 1 [.int .i64 xn] rfl 1 rfl (RowAt.new _ [.int .i64 xn] _) rfl (by simp; rfl) (by decide) (by decide) (by simp; omega) ?_)); intro a4 c4 w4 ho4 hg4 hw4)
      have hk4 : Keep (fun j => w.heap.size < j) (w3.alloc (.cells #[.int .i64 xn] 3)) w4 := .of_grown hg4 (fun j e => by
        simp [Value.ownBlock] at e
        omega)
      have hN5 := (hk4.block _ (blk_lt (blk_alloc HN3.out _)) (by show ¬ w.heap.size < w.heap.size; omega)).trans (blk_alloc HN3.out (.cells #[.int .i64 xn] 3))
      have hB5 : Below w.heap.size w w4 := (bnew hb3 _).trans (hk4.below (by simp; omega) (fun j h => by omega))
      have hO5 : w4.ownsRow w.heap.size 3 1 (.slice a4 1 c4) 1 [.int .i64 xn] := ho4
      clear ho4 hg4 hw4 hk4
      have HB5 := hidP hB5
      have HO5 := hidP hO5
      have hz5 := hB5.size
      obtain ⟨z0, z1, z2, z3, z4⟩ := five_cells hN5
      have hl5 := blk_lt hN5
      obtain ⟨m, hm⟩ : ∃ m, cs.length = m := ⟨_, rfl⟩
      rw [hm] at z4 hcl
      have HM := hidP hm
      clear hB5 hN5 hO5 hm
      go_wp2_with fail
      go_loopw [5, 30] (fun v5 v30 wr => ∃ (k : Nat) (TA : Option Addr) (tc : Nat), v5 = .slice TA (1 + k) tc ∧ v30 = .int .i64 k ∧ k ≤ m ∧ Hid (wr.ownsRow w.heap.size 3 1 (.slice TA (1 + k) tc) (1 + k) ((([xn] : List Int) ++ (cs.take k).map (·.dest)).map (Value.int .i64))) ∧ Below w.heap.size w wr) (fun _ v30 _ => m - (intOf v30).toNat)
      case atStart => exact ⟨0, _, _, rfl, rfl, by omega, by show World.ownsRow _ _ _ _ _ _ _; simpa using HO5.out, HB5.out⟩
      case round =>
        clear z0 z1 z2 z3 z4 hl5 hz5
        obtain ⟨k, TA, tc, rfl, rfl, hk, HO, hb⟩ := hrel
        obtain ⟨w6, e6⟩ : ∃ w6, w6 = wr := ⟨_, rfl⟩
        subst e6
        by_cases hlt : k < m
        · obtain ⟨⟨ck, cc, cr, ct⟩, hx⟩ : ∃ x, cs[k]? = some x := ⟨_, List.getElem?_eq_getElem (by rw [HM.out]; exact hlt)⟩
          obtain ⟨b, o, rfl, q0, q1, q2, q3⟩ := case_at (Kd.C_below HC.out hb) k _ hx
          dsimp only at q0 q1 q2 q3
          have hnx : (([xn] : List Int) ++ (cs.take k).map (·.dest)).map (Value.int .i64) ++ [Value.int .i64 ct] = (([xn] : List Int) ++ (cs.take (k + 1)).map (·.dest)).map (Value.int .i64) := by
            rw [List.take_add_one, hx]
            simp
          have HNX := hidP hnx
          have hsz := hb.size
          clear hx hnx
          go_wp2_with (at_builtin; go_loud (refine (wpList_app _ rfl (.tmp 34) (.tmp 37) rfl Tryd.slInt w.heap.size (.slice TA (1 + k) tc) (1 + k) ((([xn] : List Int) ++ (cs.take k).map (·.dest)).map (Value.int .i64)) rfl ((HO.out.alloc _).alloc _) _ 1 1 [.int .i64 ct] (by first | rfl | simp [Act.eval]) (1 + k + 1) rfl (RowAt.new _ [.int .i64 ct] _) rfl (by simp; rfl) (by omega) (by unfold maxLen; omega) (by simp; omega) ?_)); intro a4 c4 w4 ho4 hg4 hw4)
          rw [HNX.out] at ho4
          refine ⟨⟨k + 1, a4, c4, rfl, by go_num, by omega, ho4, (bnew (bnew hb _) _).grown hg4 (by simp; omega) (fun i hi => (HO.out.lt i hi).1)⟩, by simp [intOf]; omega⟩
        · obtain rfl : k = m := by omega
          obtain ⟨L, hL⟩ : ∃ L : List Int, ([xn] : List Int) ++ cs.map (·.dest) = L := ⟨_, rfl⟩
          have hLl : L.length = 1 + k := by rw [← hL]; simp [HM.out]; try omega
          have hrow := owns_row HO.out
          rw [List.take_of_length_le (by rw [HM.out]; omega), hL] at hrow
          have hu := HU.out
          rw [hL] at hu
          have HU2 := hidP hu
          have HLL := hidP hLl
          have HROW := hidP hrow
          clear hL hLl hrow hu hlt
          go_wp2_with fail
          go_loop [42] (fun v42 => ∃ j : Nat, v42 = .int .i64 j ∧ j ≤ 1 + k ∧ Hid ((L.take j).any (fun q => decide ((n : Int) ≤ q)) = false)) (fun v42 => 1 + k - (intOf v42).toNat)
          case atStart => exact ⟨0, rfl, by omega, rfl⟩
          case round =>
            obtain ⟨j, rfl, hj, HJ⟩ := hrel
            by_cases hjt : j < 1 + k
            · obtain ⟨q, hq⟩ : ∃ q, L[j]? = some q := ⟨_, List.getElem?_eq_getElem (by rw [HLL.out]; exact hjt)⟩
              obtain ⟨b, o, rfl, hca⟩ := HROW.out.addr (by rw [List.length_map, HLL.out]; omega)
              have q0 := hca j _ (by rw [List.getElem?_map, hq]; rfl)
              clear hca
              by_cases hnq : (n : Int) ≤ q
              · have hz : Z = 6 := by
                  rw [HU2.out, if_pos]
                  rw [List.any_eq_true]
                  exact ⟨q, List.mem_of_getElem? hq, by simpa using hnq⟩
                subst hz
                clear hq
                go_wp2
                go_ret
                exact ⟨rfl, hb⟩
              · have hj2 : (L.take (j + 1)).any (fun q => decide ((n : Int) ≤ q)) = false := by
                  rw [List.take_add_one, hq, List.any_append, HJ.out]
                  simp
                  omega
                have HJ2 := hidP hj2
                clear hq hj2
                go_wp2
                go_round
                case rel => exact ⟨j + 1, by go_num, by omega, HJ2⟩
                case measure => simp [intOf]; omega
            · have hz : Z = 0 := by
                have := HJ.out
                rw [List.take_of_length_le (by rw [HLL.out]; omega)] at this
                rw [HU2.out, if_neg (by rw [this]; simp)]
              subst hz
              go_wp2
              go_ret
              exact ⟨rfl, hb⟩
    by_cases j11 : op = 11
    · have t10 : (op == 10) = false := by simp [j10]
      have t11 : (op == 11) = true := by simp [j11]
      have hj : JL = [xn] := by rw [← HJL.out]; simp [jumps, j11]
      clear j10 j11
      subst hj
      go_upto_region 9 with (at_builtin; go_loud (refine (wpList_app _ rfl (.tmp 22) (.tmp 25) rfl Tryd.slInt w.heap.size (.slice (some ⟨w2.heap.size, 0, none⟩) 0 0) 0 [] rfl (HO3.out.alloc _) _ 1 1 [.int .i64 xn] rfl 1 rfl (RowAt.new _ [.int .i64 xn] _) rfl (by simp; rfl) (by decide) (by decide) (by simp; omega) ?_)); intro a4 c4 w4 ho4 hg4 hw4)
      have hk4 : Keep (fun j => w.heap.size < j) (w3.alloc (.cells #[.int .i64 xn] 3)) w4 := .of_grown hg4 (fun j e => by
        simp [Value.ownBlock] at e
        omega)
      have hN5 := (hk4.block _ (blk_lt (blk_alloc HN3.out _)) (by show ¬ w.heap.size < w.heap.size; omega)).trans (blk_alloc HN3.out (.cells #[.int .i64 xn] 3))
      have hB5 : Below w.heap.size w w4 := (bnew hb3 _).trans (hk4.below (by simp; omega) (fun j h => by omega))
      have hO5 : w4.ownsRow w.heap.size 3 1 (.slice a4 1 c4) 1 [.int .i64 xn] := ho4
      clear ho4 hg4 hw4 hk4
      have HB5 := hidP hB5
      have HO5 := hidP hO5
      have hz5 := hB5.size
      obtain ⟨z0, z1, z2, z3, z4⟩ := five_cells hN5
      have hl5 := blk_lt hN5
      obtain ⟨m, hm⟩ : ∃ m, cs.length = m := ⟨_, rfl⟩
      rw [hm] at z4 hcl
      have HM := hidP hm
      clear hB5 hN5 hO5 hm
      go_wp2_with fail
      go_loopw [5, 30] (fun v5 v30 wr => ∃ (k : Nat) (TA : Option Addr) (tc : Nat), v5 = .slice TA (1 + k) tc ∧ v30 = .int .i64 k ∧ k ≤ m ∧ Hid (wr.ownsRow w.heap.size 3 1 (.slice TA (1 + k) tc) (1 + k) ((([xn] : List Int) ++ (cs.take k).map (·.dest)).map (Value.int .i64))) ∧ Below w.heap.size w wr) (fun _ v30 _ => m - (intOf v30).toNat)
      case atStart => exact ⟨0, _, _, rfl, rfl, by omega, by show World.ownsRow _ _ _ _ _ _ _; simpa using HO5.out, HB5.out⟩
      case round =>
        clear z0 z1 z2 z3 z4 hl5 hz5
        obtain ⟨k, TA, tc, rfl, rfl, hk, HO, hb⟩ := hrel
        obtain ⟨w6, e6⟩ : ∃ w6, w6 = wr := ⟨_, rfl⟩
        subst e6
        by_cases hlt : k < m
        · obtain ⟨⟨ck, cc, cr, ct⟩, hx⟩ : ∃ x, cs[k]? = some x := ⟨_, List.getElem?_eq_getElem (by rw [HM.out]; exact hlt)⟩
          obtain ⟨b, o, rfl, q0, q1, q2, q3⟩ := case_at (Kd.C_below HC.out hb) k _ hx
          dsimp only at q0 q1 q2 q3
          have hnx : (([xn] : List Int) ++ (cs.take k).map (·.dest)).map (Value.int .i64) ++ [Value.int .i64 ct] = (([xn] : List Int) ++ (cs.take (k + 1)).map (·.dest)).map (Value.int .i64) := by
            rw [List.take_add_one, hx]
            simp
          have HNX := hidP hnx
          have hsz := hb.size
          clear hx hnx
          go_wp2_with (at_builtin; go_loud (refine (wpList_app _ rfl (.tmp 34) (.tmp 37) rfl Tryd.slInt w.heap.size (.slice TA (1 + k) tc) (1 + k) ((([xn] : List Int) ++ (cs.take k).map (·.dest)).map (Value.int .i64)) rfl ((HO.out.alloc _).alloc _) _ 1 1 [.int .i64 ct] (by first | rfl | simp [Act.eval]) (1 + k + 1) rfl (RowAt.new _ [.int .i64 ct] _) rfl (by simp; rfl) (by omega) (by unfold maxLen; omega) (by simp; omega) ?_)); intro a4 c4 w4 ho4 hg4 hw4)
          rw [HNX.out] at ho4
          refine ⟨⟨k + 1, a4, c4, rfl, by go_num, by omega, ho4, (bnew (bnew hb _) _).grown hg4 (by simp; omega) (fun i hi => (HO.out.lt i hi).1)⟩, by simp [intOf]; omega⟩
        · obtain rfl : k = m := by omega
          obtain ⟨L, hL⟩ : ∃ L : List Int, ([xn] : List Int) ++ cs.map (·.dest) = L := ⟨_, rfl⟩
          have hLl : L.length = 1 + k := by rw [← hL]; simp [HM.out]; try omega
          have hrow := owns_row HO.out
          rw [List.take_of_length_le (by rw [HM.out]; omega), hL] at hrow
          have hu := HU.out
          rw [hL] at hu
          have HU2 := hidP hu
          have HLL := hidP hLl
          have HROW := hidP hrow
          clear hL hLl hrow hu hlt
          go_wp2_with fail
          go_loop [42] (fun v42 => ∃ j : Nat, v42 = .int .i64 j ∧ j ≤ 1 + k ∧ Hid ((L.take j).any (fun q => decide ((n : Int) ≤ q)) = false)) (fun v42 => 1 + k - (intOf v42).toNat)
          case atStart => exact ⟨0, rfl, by omega, rfl⟩
          case round =>
            obtain ⟨j, rfl, hj, HJ⟩ := hrel
            by_cases hjt : j < 1 + k
            · obtain ⟨q, hq⟩ : ∃ q, L[j]? = some q := ⟨_, List.getElem?_eq_getElem (by rw [HLL.out]; exact hjt)⟩
              obtain ⟨b, o, rfl, hca⟩ := HROW.out.addr (by rw [List.length_map, HLL.out]; omega)
              have q0 := hca j _ (by rw [List.getElem?_map, hq]; rfl)
              clear hca
              by_cases hnq : (n : Int) ≤ q
              · have hz : Z = 6 := by
                  rw [HU2.out, if_pos]
                  rw [List.any_eq_true]
                  exact ⟨q, List.mem_of_getElem? hq, by simpa using hnq⟩
                subst hz
                clear hq
                go_wp2
                go_ret
                exact ⟨rfl, hb⟩
              · have hj2 : (L.take (j + 1)).any (fun q => decide ((n : Int) ≤ q)) = false := by
                  rw [List.take_add_one, hq, List.any_append, HJ.out]
                  simp
                  omega
                have HJ2 := hidP hj2
                clear hq hj2
                go_wp2
                go_round
                case rel => exact ⟨j + 1, by go_num, by omega, HJ2⟩
                case measure => simp [intOf]; omega
            · have hz : Z = 0 := by
                have := HJ.out
                rw [List.take_of_length_le (by rw [HLL.out]; omega)] at this
                rw [HU2.out, if_neg (by rw [this]; simp)]
              subst hz
              go_wp2
              go_ret
              exact ⟨rfl, hb⟩
    by_cases j12 : op = 12
    · have t10 : (op == 10) = false := by simp [j10]
      have t11 : (op == 11) = false := by simp [j11]
      have t12 : (op == 12) = true := by simp [j12]
      have hj : JL = [xn] := by rw [← HJL.out]; simp [jumps, j12]
      clear j10 j11 j12
      subst hj
      go_upto_region 9 with (at_builtin; go_loud (refine (wpList_app _ rfl (.tmp 22) (.tmp 25) rfl Tryd.slInt w.heap.size (.slice (some ⟨w2.heap.size, 0, none⟩) 0 0) 0 [] rfl (HO3.out.alloc _) _ 1 1 [.int .i64 xn] rfl 1 rfl (RowAt.new _ [.int .i64 xn] _) rfl (by simp; rfl) (by decide) (by decide) (by simp; omega) ?_)); intro a4 c4 w4 ho4 hg4 hw4)
      have hk4 : Keep (fun j => w.heap.size < j) (w3.alloc (.cells #[.int .i64 xn] 3)) w4 := .of_grown hg4 (fun j e => by
        simp [Value.ownBlock] at e
        omega)
      have hN5 := (hk4.block _ (blk_lt (blk_alloc HN3.out _)) (by show ¬ w.heap.size < w.heap.size; omega)).trans (blk_alloc HN3.out (.cells #[.int .i64 xn] 3))
      have hB5 : Below w.heap.size w w4 := (bnew hb3 _).trans (hk4.below (by simp; omega) (fun j h => by omega))
      have hO5 : w4.ownsRow w.heap.size 3 1 (.slice a4 1 c4) 1 [.int .i64 xn] := ho4
      clear ho4 hg4 hw4 hk4
      have HB5 := hidP hB5
      have HO5 := hidP hO5
      have hz5 := hB5.size
      obtain ⟨z0, z1, z2, z3, z4⟩ := five_cells hN5
      have hl5 := blk_lt hN5
      obtain ⟨m, hm⟩ : ∃ m, cs.length = m := ⟨_, rfl⟩
      rw [hm] at z4 hcl
      have HM := hidP hm
      clear hB5 hN5 hO5 hm
      go_wp2_with fail
      go_loopw [5, 30] (fun v5 v30 wr => ∃ (k : Nat) (TA : Option Addr) (tc : Nat), v5 = .slice TA (1 + k) tc ∧ v30 = .int .i64 k ∧ k ≤ m ∧ Hid (wr.ownsRow w.heap.size 3 1 (.slice TA (1 + k) tc) (1 + k) ((([xn] : List Int) ++ (cs.take k).map (·.dest)).map (Value.int .i64))) ∧ Below w.heap.size w wr) (fun _ v30 _ => m - (intOf v30).toNat)
      case atStart => exact ⟨0, _, _, rfl, rfl, by omega, by show World.ownsRow _ _ _ _ _ _ _; simpa using HO5.out, HB5.out⟩
      case round =>
        clear z0 z1 z2 z3 z4 hl5 hz5
        obtain ⟨k, TA, tc, rfl, rfl, hk, HO, hb⟩ := hrel
        obtain ⟨w6, e6⟩ : ∃ w6, w6 = wr := ⟨_, rfl⟩
        subst e6
        by_cases hlt : k < m
        · obtain ⟨⟨ck, cc, cr, ct⟩, hx⟩ : ∃ x, cs[k]? = some x := ⟨_, List.getElem?_eq_getElem (by rw [HM.out]; exact hlt)⟩
          obtain ⟨b, o, rfl, q0, q1, q2, q3⟩ := case_at (Kd.C_below HC.out hb) k _ hx
          dsimp only at q0 q1 q2 q3
          have hnx : (([xn] : List Int) ++ (cs.take k).map (·.dest)).map (Value.int .i64) ++ [Value.int .i64 ct] = (([xn] : List Int) ++ (cs.take (k + 1)).map (·.dest)).map (Value.int .i64) := by
            rw [List.take_add_one, hx]
            simp
          have HNX := hidP hnx
          have hsz := hb.size
          clear hx hnx
          go_wp2_with (at_builtin; go_loud (refine (wpList_app _ rfl (.tmp 34) (.tmp 37) rfl Tryd.slInt w.heap.size (.slice TA (1 + k) tc) (1 + k) ((([xn] : List Int) ++ (cs.take k).map (·.dest)).map (Value.int .i64)) rfl ((HO.out.alloc _).alloc _) _ 1 1 [.int .i64 ct] (by first | rfl | simp [Act.eval]) (1 + k + 1) rfl (RowAt.new _ [.int .i64 ct] _) rfl (by simp; rfl) (by omega) (by unfold maxLen; omega) (by simp; omega) ?_)); intro a4 c4 w4 ho4 hg4 hw4)
          rw [HNX.out] at ho4
          refine ⟨⟨k + 1, a4, c4, rfl, by go_num, by omega, ho4, (bnew (bnew hb _) _).grown hg4 (by simp; omega) (fun i hi => (HO.out.lt i hi).1)⟩, by simp [intOf]; omega⟩
        · obtain rfl : k = m := by omega
          obtain ⟨L, hL⟩ : ∃ L : List Int, ([xn] : List Int) ++ cs.map (·.dest) = L := ⟨_, rfl⟩
          have hLl : L.length = 1 + k := by rw [← hL]; simp [HM.out]; try omega
          have hrow := owns_row HO.out
          rw [List.take_of_length_le (by rw [HM.out]; omega), hL] at hrow
          have hu := HU.out
          rw [hL] at hu
          have HU2 := hidP hu
          have HLL := hidP hLl
          have HROW := hidP hrow
          clear hL hLl hrow hu hlt
          go_wp2_with fail
          go_loop [42] (fun v42 => ∃ j : Nat, v42 = .int .i64 j ∧ j ≤ 1 + k ∧ Hid ((L.take j).any (fun q => decide ((n : Int) ≤ q)) = false)) (fun v42 => 1 + k - (intOf v42).toNat)
          case atStart => exact ⟨0, rfl, by omega, rfl⟩
          case round =>
            obtain ⟨j, rfl, hj, HJ⟩ := hrel
            by_cases hjt : j < 1 + k
            · obtain ⟨q, hq⟩ : ∃ q, L[j]? = some q := ⟨_, List.getElem?_eq_getElem (by rw [HLL.out]; exact hjt)⟩
              obtain ⟨b, o, rfl, hca⟩ := HROW.out.addr (by rw [List.length_map, HLL.out]; omega)
              have q0 := hca j _ (by rw [List.getElem?_map, hq]; rfl)
              clear hca
              by_cases hnq : (n : Int) ≤ q
              · have hz : Z = 6 := by
                  rw [HU2.out, if_pos]
                  rw [List.any_eq_true]
                  exact ⟨q, List.mem_of_getElem? hq, by simpa using hnq⟩
                subst hz
                clear hq
                go_wp2
                go_ret
                exact ⟨rfl, hb⟩
              · have hj2 : (L.take (j + 1)).any (fun q => decide ((n : Int) ≤ q)) = false := by
                  rw [List.take_add_one, hq, List.any_append, HJ.out]
                  simp
                  omega
                have HJ2 := hidP hj2
                clear hq hj2
                go_wp2
                go_round
                case rel => exact ⟨j + 1, by go_num, by omega, HJ2⟩
                case measure => simp [intOf]; omega
            · have hz : Z = 0 := by
                have := HJ.out
                rw [List.take_of_length_le (by rw [HLL.out]; omega)] at this
                rw [HU2.out, if_neg (by rw [this]; simp)]
              subst hz
              go_wp2
              go_ret
              exact ⟨rfl, hb⟩
    have t10 : (op == 10) = false := by simp [j10]
    have t11 : (op == 11) = false := by simp [j11]
    have t12 : (op == 12) = false := by simp [j12]
    have hj : JL = [] := by rw [← HJL.out]; simp [jumps, j10, j11, j12]
    subst hj
    have hB5 := hb3
    have hN5 := HN3.out
    have hO5 := HO3.out
    clear j10 j11 j12
    go_upto_region 9 with fail
    clear y0 y1 y2 y3 y4
    have HB5 := hidP hB5
    have HO5 := hidP hO5
    have hz5 := hB5.size
    obtain ⟨z0, z1, z2, z3, z4⟩ := five_cells hN5
    have hl5 := blk_lt hN5
    obtain ⟨m, hm⟩ : ∃ m, cs.length = m := ⟨_, rfl⟩
    rw [hm] at z4 hcl
    have HM := hidP hm
    clear hB5 hN5 hO5 hm
    go_wp2_with fail
    go_loopw [5, 30] (fun v5 v30 wr => ∃ (k : Nat) (TA : Option Addr) (tc : Nat), v5 = .slice TA (k) tc ∧ v30 = .int .i64 k ∧ k ≤ m ∧ Hid (wr.ownsRow w.heap.size 3 1 (.slice TA (k) tc) (k) ((([] : List Int) ++ (cs.take k).map (·.dest)).map (Value.int .i64))) ∧ Below w.heap.size w wr) (fun _ v30 _ => m - (intOf v30).toNat)
    case atStart => exact ⟨0, _, _, rfl, rfl, by omega, by show World.ownsRow _ _ _ _ _ _ _; simpa using HO5.out, HB5.out⟩
    case round =>
      clear z0 z1 z2 z3 z4 hl5 hz5
      obtain ⟨k, TA, tc, rfl, rfl, hk, HO, hb⟩ := hrel
      obtain ⟨w6, e6⟩ : ∃ w6, w6 = wr := ⟨_, rfl⟩
      subst e6
      by_cases hlt : k < m
      · obtain ⟨⟨ck, cc, cr, ct⟩, hx⟩ : ∃ x, cs[k]? = some x := ⟨_, List.getElem?_eq_getElem (by rw [HM.out]; exact hlt)⟩
        obtain ⟨b, o, rfl, q0, q1, q2, q3⟩ := case_at (Kd.C_below HC.out hb) k _ hx
        dsimp only at q0 q1 q2 q3
        have hnx : (([] : List Int) ++ (cs.take k).map (·.dest)).map (Value.int .i64) ++ [Value.int .i64 ct] = (([] : List Int) ++ (cs.take (k + 1)).map (·.dest)).map (Value.int .i64) := by
          rw [List.take_add_one, hx]
          simp
        have HNX := hidP hnx
        have hsz := hb.size
        clear hx hnx
        go_wp2_with (at_builtin; go_loud (refine (wpList_app _ rfl (.tmp 34) (.tmp 37) rfl Tryd.slInt w.heap.size (.slice TA (k) tc) (k) ((([] : List Int) ++ (cs.take k).map (·.dest)).map (Value.int .i64)) rfl ((HO.out.alloc _).alloc _) _ 1 1 [.int .i64 ct] (by first | rfl | simp [Act.eval]) (k + 1) rfl (RowAt.new _ [.int .i64 ct] _) rfl (by simp; rfl) (by omega) (by unfold maxLen; omega) (by simp; omega) ?_)); intro a4 c4 w4 ho4 hg4 hw4)
        rw [HNX.out] at ho4
        refine ⟨⟨k + 1, a4, c4, rfl, by go_num, by omega, ho4, (bnew (bnew hb _) _).grown hg4 (by simp; omega) (fun i hi => (HO.out.lt i hi).1)⟩, by simp [intOf]; omega⟩
      · obtain rfl : k = m := by omega
        obtain ⟨L, hL⟩ : ∃ L : List Int, ([] : List Int) ++ cs.map (·.dest) = L := ⟨_, rfl⟩
        have hLl : L.length = k := by rw [← hL]; simp [HM.out]; try omega
        have hrow := owns_row HO.out
        rw [List.take_of_length_le (by rw [HM.out]; omega), hL] at hrow
        have hu := HU.out
        rw [hL] at hu
        have HU2 := hidP hu
        have HLL := hidP hLl
        have HROW := hidP hrow
        clear hL hLl hrow hu hlt
        go_wp2_with fail
        go_loop [42] (fun v42 => ∃ j : Nat, v42 = .int .i64 j ∧ j ≤ k ∧ Hid ((L.take j).any (fun q => decide ((n : Int) ≤ q)) = false)) (fun v42 => k - (intOf v42).toNat)
        case atStart => exact ⟨0, rfl, by omega, rfl⟩
        case round =>
          obtain ⟨j, rfl, hj, HJ⟩ := hrel
          by_cases hjt : j < k
          · obtain ⟨q, hq⟩ : ∃ q, L[j]? = some q := ⟨_, List.getElem?_eq_getElem (by rw [HLL.out]; exact hjt)⟩
            obtain ⟨b, o, rfl, hca⟩ := HROW.out.addr (by rw [List.length_map, HLL.out]; omega)
            have q0 := hca j _ (by rw [List.getElem?_map, hq]; rfl)
            clear hca
            by_cases hnq : (n : Int) ≤ q
            · have hz : Z = 6 := by
                rw [HU2.out, if_pos]
                rw [List.any_eq_true]
                exact ⟨q, List.mem_of_getElem? hq, by simpa using hnq⟩
              subst hz
              clear hq
              go_wp2
              go_ret
              exact ⟨rfl, hb⟩
            · have hj2 : (L.take (j + 1)).any (fun q => decide ((n : Int) ≤ q)) = false := by
                rw [List.take_add_one, hq, List.any_append, HJ.out]
                simp
                omega
              have HJ2 := hidP hj2
              clear hq hj2
              go_wp2
              go_round
              case rel => exact ⟨j + 1, by go_num, by omega, HJ2⟩
              case measure => simp [intOf]; omega
          · have hz : Z = 0 := by
              have := HJ.out
              rw [List.take_of_length_le (by rw [HLL.out]; omega)] at this
              rw [HU2.out, if_neg (by rw [this]; simp)]
            subst hz
            go_wp2
            go_ret
            exact ⟨rfl, hb⟩
end Go.Proofs.YtoflhfiegfhkoaaDoor
