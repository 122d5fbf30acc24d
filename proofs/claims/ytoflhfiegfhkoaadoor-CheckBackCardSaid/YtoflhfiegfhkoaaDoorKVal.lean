/-
  The walk over package check's Valid.
-/
import Derived.Test.YtoflhfiegfhkoaaDoorKLook
namespace Go.Proofs.YtoflhfiegfhkoaaDoor
open Go.RowKit Go.Proofs.YtoflhfiegfhkoaaDoorW.PrintWords
set_option linter.unusedVariables false

def valF (n : Nat) : Nat → List InstrD → Int × Int
  | _, [] => (0, 0)
  | i, x :: r => if lookR x n = 0 then valF n (i + 1) r else ((i : Int) + 1, lookR x n)
/-- Which instruction of a program may not be, and why. -/
def validR (l : List InstrD) : Int × Int := if l.length = 0 then (0, 7) else if 60 < l.length then (0, 3) else valF l.length 0 l
theorem valF_at {n k : Nat} {l : List InstrD} {x : InstrD} (h : l[k]? = some x) : valF n k (l.drop k) = if lookR x n = 0 then valF n (k + 1) (l.drop (k + 1)) else ((k : Int) + 1, lookR x n) := by
  obtain ⟨hk, hc⟩ := List.getElem?_eq_some_iff.1 h
  rw [List.drop_eq_getElem_cons hk, hc]
  rfl
theorem lookR_cases (x : InstrD) (n : Nat) : lookR x n = 0 ∨ lookR x n = 5 ∨ lookR x n = 6 := by
  unfold lookR
  repeat' split
  all_goals simp

set_option maxRecDepth 100000 in
set_option maxHeartbeats 3200000 in
theorem valid_any (A : Option Addr) (d : Nat) (l : List InstrD) (w : World) (hbl : Blanks w) (h : kI.C w A l.length l) (hcs : ∀ x ∈ l, x.cases.length ≤ 9223372036854775807) :
    Calls Tryd.prog 16 #[.slice A l.length d] w fun e w' => e = .returned (.tuple #[.int .i64 (validR l).1, .int .i64 (validR l).2]) ∧ Below w.heap.size w w' := by
  obtain ⟨R, hR⟩ : ∃ R, validR l = R := ⟨_, rfl⟩
  rw [hR]
  have hr := hR.symm
  unfold validR at hr
  have H := hidP h
  have HBL := hidP hbl
  have HCS := hidP hcs
  have hmx := h.2.1
  obtain ⟨n, hn⟩ : ∃ n, l.length = n := ⟨_, rfl⟩
  rw [hn] at hr hmx ⊢
  have HN := hidP hn
  clear hR h hbl hcs hn
  by_cases h0 : n = 0
  · rw [if_pos h0] at hr
    subst hr
    have t0 : ((n : Int) == 0) = true := by simp [h0]
    clear h0
    go_enter Tryd.func16, Tryd.ntmps16
    go_wp2_with fail
    go_ret2
    exact ⟨rfl, brefl _⟩
  · rw [if_neg h0] at hr
    have t0 : ((n : Int) == 0) = false := by simp; omega
    by_cases h60 : 60 < n
    · rw [if_pos h60] at hr
      subst hr
      have t6 : (60 : Int) < (n : Int) := by omega
      clear h0
      go_enter Tryd.func16, Tryd.ntmps16
      go_wp2_with fail
      go_ret2
      exact ⟨rfl, brefl _⟩
    · rw [if_neg h60] at hr
      have t6 : ¬ (60 : Int) < (n : Int) := by omega
      have HRR := hidP hr
      clear h0 hr
      go_enter Tryd.func16, Tryd.ntmps16
      go_wp2_with fail
      go_loopw [18] (fun v18 wr => ∃ k : Nat, v18 = .int .i64 k ∧ k ≤ n ∧ Hid (valF n k (l.drop k) = R) ∧ Below w.heap.size w wr) (fun v18 _ => n - (intOf v18).toNat)
      case atStart => exact ⟨0, rfl, by omega, HRR.out.symm, brefl _⟩
      case round =>
        obtain ⟨k, rfl, hk, HF, hb⟩ := hrel
        obtain ⟨w1, e1⟩ : ∃ w1, w1 = wr := ⟨_, rfl⟩
        subst e1
        by_cases hlt : k < n
        · obtain ⟨x, hx⟩ : ∃ x, l[k]? = some x := ⟨_, List.getElem?_eq_getElem (by rw [HN.out]; exact hlt)⟩
          obtain ⟨b, o, A4, c4, rfl, x0, x1, x2, x3, x4, _, hxc⟩ := instr_at (Kd.C_below H.out hb) k x hx
          have hxs := HCS.out x (List.mem_of_getElem? hx)
          have hst : R = if lookR x n = 0 then valF n (k + 1) (l.drop (k + 1)) else ((k : Int) + 1, lookR x n) := by rw [← valF_at hx]; exact HF.out.symm
          have hlk := fun w2 (hb2 : Below w1.heap.size w1 w2) => look_any' x A4 c4 n w2 ((HBL.out.below hb).below hb2) (Kd.C_below hxc hb2) hxs
          have hcs3 := lookR_cases x n
          obtain ⟨r, hr⟩ : ∃ r, lookR x n = r := ⟨_, rfl⟩
          rw [hr] at hst hcs3
          simp only [hr] at hlk
          obtain ⟨xo, xa, xb, xn, xc⟩ := x
          simp only [instrV] at hlk
          dsimp only at x0 x1 x2 x3 x4
          have HST := hidP hst
          have HLK := hidP hlk
          have hBx := hidP (bnew hb (.cells #[.int .i64 xo, .int .i64 xa, .int .i64 xb, .int .i64 xn, .slice A4 xc.length c4] 37))
          clear hx hst hlk hr hxc hxs
          go_wp2_with fail
          refine (HLK.out _ (bnew (brefl w1) _)).mono ?_
          rintro e w2 ⟨rfl, hb2⟩
          have hB2 := bstep hBx.out hb2
          rcases hcs3 with rfl | rfl | rfl
          · have hF : valF n (k + 1) (l.drop (k + 1)) = R := by rw [HST.out, if_pos rfl]
            have HFF := hidP hF
            have hbr := bnew hB2 (.cells #[.int .i64 0] 54)
            simp only [faultV, if_pos]
            clear hF
            go_wp2_with fail
            go_wp2_with fail
            rename_i hK
            refine hK _ _ ?_
            go_wp2_with fail
            go_roundw
            case rel => exact ⟨k + 1, by go_num, by omega, HFF, hbr⟩
            case measure => simp [intOf]; omega
          · have hF : R = ((k : Int) + 1, 5) := by rw [HST.out, if_neg (by decide)]
            subst hF
            have hbr := fun n => (⟨(bnew hB2 (.cells #[.int .i64 5] 54)).os, (bnew hB2 (.cells #[.int .i64 5] 54)).tape, (bnew hB2 (.cells #[.int .i64 5] 54)).output, (bnew hB2 (.cells #[.int .i64 5] 54)).size, (bnew hB2 (.cells #[.int .i64 5] 54)).block⟩ : Below w.heap.size w ((w2.alloc (.cells #[.int .i64 5] 54)).drewN n))
            rw [show faultV 5 = .iface 54 (.agg #[.int .i64 5]) from rfl]
            go_wp2_with fail
            go_wp2_with fail
            rename_i hK
            refine hK _ _ ?_
            go_wp2_with fail
            go_quiet (fail)
            go_wp2
            go_ret2
            exact ⟨rfl, hbr _⟩
          · have hF : R = ((k : Int) + 1, 6) := by rw [HST.out, if_neg (by decide)]
            subst hF
            have hbr := fun n => (⟨(bnew hB2 (.cells #[.int .i64 6] 54)).os, (bnew hB2 (.cells #[.int .i64 6] 54)).tape, (bnew hB2 (.cells #[.int .i64 6] 54)).output, (bnew hB2 (.cells #[.int .i64 6] 54)).size, (bnew hB2 (.cells #[.int .i64 6] 54)).block⟩ : Below w.heap.size w ((w2.alloc (.cells #[.int .i64 6] 54)).drewN n))
            rw [show faultV 6 = .iface 54 (.agg #[.int .i64 6]) from rfl]
            go_wp2_with fail
            go_wp2_with fail
            rename_i hK
            refine hK _ _ ?_
            go_wp2_with fail
            go_quiet (fail)
            go_wp2
            go_ret2
            exact ⟨rfl, hbr _⟩
        · have hF : R = (0, 0) := by
            rw [← HF.out, List.drop_eq_nil_of_le (by rw [HN.out]; omega)]
            rfl
          subst hF
          go_wp2_with fail
          go_ret2
          exact ⟨rfl, hb⟩
end Go.Proofs.YtoflhfiegfhkoaaDoor
