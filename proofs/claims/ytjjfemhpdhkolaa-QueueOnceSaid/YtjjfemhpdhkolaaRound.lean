/-
  The walk of the law QueueRound.
-/
import Derived.Test.YtjjfemhpdhkolaaQAwake
namespace Go.Proofs.Ytjjfemhpdhkolaa
open Go.RowKit
set_option linter.unusedVariables false

def ql (k : Nat) : List Int := (List.range k).map (fun j : Nat => (100 : Int) + j)
theorem length_ql (k : Nat) : (ql k).length = k := by simp [ql]
theorem ql_succ (k : Nat) : ql (k + 1) = ql k ++ [(100 : Int) + k] := by simp [ql, List.range_succ]
theorem ql_not (k : Nat) : (100 : Int) + k ∉ ql k := by
  simp [ql]
  omega
theorem modU (n : Int) (k : Nat) (hk : 0 < k) (hk1 : k < 4294967296) : ∃ r : Nat, (IntKind.u64.wrap n).tmod (k : Int) = (r : Int) ∧ r < k ∧ wrap64 (r : Int) = (r : Int) := by
  have h : 0 ≤ IntKind.u64.wrap n := by rw [IntKind.wrap_u64]; omega
  obtain ⟨m, hm⟩ := Int.eq_ofNat_of_zero_le h
  have hlt := Nat.mod_lt m hk
  refine ⟨m % k, ?_, hlt, IntWalk.wrap64_in _ (by omega)⟩
  rw [hm, Int.tmod_eq_emod_of_nonneg (by omega)]
  simp
theorem ql_add (k : Nat) : qAdd (ql k) ((100 : Int) + k) = ql (k + 1) := by
  unfold qAdd
  rw [if_neg (ql_not k), ql_succ]
theorem ql_at (n : Nat) (i : Int) (h0 : 0 < n) : qAt (ql n) i = 100 + (((if i < 0 then 0 else i).toNat % n : Nat) : Int) := by
  have hne : ql n ≠ [] := by intro e; have := length_ql n; rw [e] at this; simp at this; omega
  have hlt : (if i < 0 then 0 else i).toNat % n < n := Nat.mod_lt _ h0
  unfold qAt
  rw [if_neg hne, length_ql, List.getD_eq_getElem?_getD]
  simp [ql, hlt]
theorem ql_ne (n : Nat) (h0 : 0 < n) : decide (ql n ≠ []) = true := by
  have hne : ql n ≠ [] := by intro e; have := length_ql n; rw [e] at this; simp at this; omega
  simpa using hne

set_option maxRecDepth 100000 in
set_option maxHeartbeats 1000000 in
theorem queueRound_any (n i : Int) (w : World) (hn0 : -9223372036854775808 ≤ n) (hn1 : n ≤ 9223372036854775807) (hi0 : -9223372036854775808 ≤ i) (hi1 : i ≤ 9223372036854775807) :
    Calls Try.prog 5 #[.int .i64 n, .int .i64 i] w fun e w' => e = .returned (.bool true) ∧ Below w.heap.size w w' := by
  go_enter Try.func5, Try.ntmps5
  obtain ⟨r, hr, hr1, hr2⟩ := modU n 10 (by omega) (by omega)
  have hr3 : wrap64 (1 + (r : Int)) = ((1 + r : Nat) : Int) := by rw [IntWalk.wrap64_in _ (by omega)]; omega
  obtain ⟨j, hj, hj1, hj2⟩ := modU i 1000 (by omega) (by omega)
  have HR := hidP hr
  have HR2 := hidP hr2
  have HR3 := hidP hr3
  have HJ := hidP hj
  have HJ2 := hidP hj2
  clear hr hr2 hr3 hj hj2
  go_wp2_with fail
  rw [show (10 : Int) = ((10 : Nat) : Int) from rfl, HR.out, HR2.out, HR3.out]
  obtain ⟨m, hm⟩ : ∃ m, 1 + r = m := ⟨_, rfl⟩
  rw [hm]
  have hm1 : 1 ≤ m := by omega
  have hm2 : m ≤ 10 := by omega
  clear hm HR3
  refine (newQ_any _).mono ?_
  rintro e w1 ⟨rfl, rfl⟩
  have h1 := newQ_in w (Nat.le_refl _)
  have hb1 := bnew (brefl w) (.cells #[.slice none 0 0, .string ⟨#[]⟩] 74)
  go_wp2_with (go_at_call 18; refine (awake20_any _).mono ?_; rintro e w2 ⟨rfl, hb2⟩)
  have h2 := h1.below hb2
  have hB2 := bstep hb1 hb2
  clear h1 hb1 hb2
  go_loopw [6] (fun v wr => ∃ k : Nat, v = .int .i64 k ∧ k ≤ m ∧ QIn w.heap.size wr w.heap.size (ql k) ∧ Below w.heap.size w wr) (fun v _ => m - (intOf v).toNat)
  case atStart => exact ⟨0, rfl, by omega, h2, hB2⟩
  case round =>
    obtain ⟨k, rfl, hk, h3, hb3⟩ := hrel
    clear h2 hB2
    by_cases hlt : k < m
    · go_wp2_with (go_at_call 19; refine (addIn _ _ (ql k) _ true (ql (k + 1)) h3 (by simp [ql_not]) (ql_add k) (by rw [length_ql]; omega)).mono ?_; rintro e w4 ⟨rfl, h4, hb4⟩)
      go_roundw
      case rel => exact ⟨k + 1, by go_num, by omega, h4, hb3.trans hb4⟩
      case measure => simp [intOf]; omega
    · obtain rfl : k = m := by omega
      obtain ⟨x, hx⟩ : ∃ x, j % k = x := ⟨_, rfl⟩
      have hx10 : x < k := by rw [← hx]; exact Nat.mod_lt _ (by omega)
      have hx1 : qAt (ql k) (j : Int) = 100 + (x : Int) := by rw [ql_at k _ (by omega), if_neg (by omega), Int.toNat_natCast, hx]
      have hx2 : qAt (ql k) ((j : Int) + (k : Int)) = 100 + (x : Int) := by
        rw [ql_at k _ (by omega), if_neg (by omega), show ((j : Int) + (k : Int)).toNat = j + k by omega, Nat.add_mod_right, hx]
      have hx3 : qAt (ql k) (-1 - (j : Int)) = 100 := by rw [ql_at k _ (by omega), if_pos (by omega)]; simp
      have hm : (j : Int) % (k : Int) = (x : Int) := by rw [← hx]; simp
      have ht : (j : Int).tmod (k : Int) = (x : Int) := by rw [Int.tmod_eq_emod_of_nonneg (by omega)]; exact hm
      have H1 := hidP hx1
      have H2 := hidP hx2
      have H3 := hidP hx3
      clear hx1 hx2 hx3 hx
      go_wp2_with fail
      rw [show (1000 : Int) = ((1000 : Nat) : Int) from rfl, HJ.out, HJ2.out]
      refine (atIn _ _ (ql k) j _ true h3 H1.out (ql_ne k (by omega)) (by omega)).mono ?_
      rintro e w4 ⟨rfl, h4, hb4⟩
      have hB4 := hb3.trans hb4
      go_wp2_with fail
      refine (atIn _ _ (ql k) ((j : Int) + (k : Int)) _ true h4 H2.out (ql_ne k (by omega)) (by omega)).mono ?_
      rintro e w5 ⟨rfl, h5, hb5⟩
      have hB5 := hB4.trans hb5
      go_wp2_with fail
      refine (atIn _ _ (ql k) (-1 - (j : Int)) _ true h5 H3.out (ql_ne k (by omega)) (by omega)).mono ?_
      rintro e w6 ⟨rfl, h6, hb6⟩
      have hB6 := hB5.trans hb6
      clear hk hlt h3 hb3 h4 h5 hb4 hb5 hB4 hB5 hb6 hr1 hn0 hn1 hi0 hi1
      go_wp2_with (go_at_call 21; refine (lenIn _ _ (ql k) k h6 (length_ql k)).mono ?_; rintro e w7 ⟨rfl, h7, hb7⟩; have hB7 := hB6.trans hb7)
      go_ret
      exact ⟨rfl, hB7⟩

theorem queueRoundW (w : World) (n : Int) (hn : -9223372036854775808 ≤ n ∧ n ≤ 9223372036854775807) (i : Int) (hi : -9223372036854775808 ≤ i ∧ i ≤ 9223372036854775807) :
    Calls Try.prog 5 #[.int .i64 n, .int .i64 i] w fun e w' => e = .returned (.bool true) ∧ Below w.heap.size w w' :=
  queueRound_any n i w hn.1 hn.2 hi.1 hi.2
end Go.Proofs.Ytjjfemhpdhkolaa
