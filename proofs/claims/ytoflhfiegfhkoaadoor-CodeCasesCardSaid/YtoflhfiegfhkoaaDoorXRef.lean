/-
  The walks over the reference's Number and Lines.
-/
import Derived.Test.YtoflhfiegfhkoaaDoorXAcc
namespace Go.Proofs.YtoflhfiegfhkoaaDoor
open Go.RowKit
set_option linter.unusedVariables false

theorem Tryd.idx_str (s : ByteArray) (k : Nat) (h : k < s.size) (w : World) :
    (Instr.index 9 (.string s) (.int .i64 k)).run Tryd.prog w = .ok (.int .u8 ((s[k]'h).toNat : Int)) w := by
  rw [run_index_string w 9 s .i64 k (by kernel_rfl), dif_pos ⟨by omega, by omega⟩]
  rfl

set_option maxRecDepth 100000 in
set_option maxHeartbeats 800000 in
theorem refNumber_any (s : ByteArray) (w : World) (hmax : s.size ≤ 140737488355328) :
    Calls Tryd.prog 84 #[.string s] w fun e w' => e = .returned (.tuple #[.int .i64 (numR s).1, .bool (numR s).2]) ∧ Below w.heap.size w w' := by
  go_enter Tryd.func84, Tryd.ntmps84
  go_wp2_with fail
  go_loopw [4, 5] (fun v4 v5 wr => ∃ (k : Nat) (v : Nat), v4 = .int .i64 v ∧ v5 = .int .i64 k ∧ k ≤ s.size ∧ k ≤ 4 ∧ Hid (v < 10 ^ k) ∧ Hid ((runesF s 0).foldl dstep 0 = (runesF s k).foldl dstep v) ∧ Hid ((runesF s 0).all isDig = (runesF s k).all isDig) ∧ Below w.heap.size w wr) (fun _ v5 _ => s.size - (intOf v5).toNat)
  case atStart => exact ⟨0, 0, rfl, rfl, by omega, by omega, by show 0 < 10 ^ 0; decide, rfl, rfl, Below.refl _ _⟩
  case round =>
    obtain ⟨k, v, rfl, rfl, hks, hk4, HP, HV, HA, hb⟩ := hrel
    by_cases hlt : k < s.size
    · have hix := fun w => Tryd.idx_str s k hlt w
      obtain ⟨b, hbb⟩ : ∃ b, (s[k]'hlt).toNat = b := ⟨_, rfl⟩
      have hb256 : b < 256 := by rw [← hbb]; exact UInt8.toNat_lt _
      have hst := runesF_step s k hlt
      have h1 := HV.out
      have h2 := HA.out
      rw [hst, List.foldl_cons] at h1
      rw [hst, List.all_cons] at h2
      have hde : b < 128 → Utf8.decode s k = (b, 1) := fun h => by rw [decode_ascii s k hlt (by rw [hbb]; exact h), hbb]
      have hdh : 128 ≤ b → isDig (Utf8.decode s k).1 = false := fun h => by
        have := (decode_high s k hlt (by rw [hbb]; exact h)).1
        simp [isDig]; omega
      rw [hbb] at hix
      by_cases hk3 : 3 < k
      · have hn : numR s = (0, false) := by
          have : ¬ s.size ≤ 4 := by omega
          simp [numR, this]
        have HN := hidP hn
        have gk : (3 : Int) < (k : Int) := by omega
        clear hst h1 h2 hde hdh hn hbb
        by_cases g1 : (b : Int) < 48
        · go_wp2
          go_ret2
          exact ⟨by rw [HN.out]; rfl, hb⟩
        · by_cases g2 : (57 : Int) < (b : Int)
          · go_wp2
            go_ret2
            exact ⟨by rw [HN.out]; rfl, hb⟩
          · go_wp2
            go_ret2
            exact ⟨by rw [HN.out]; rfl, hb⟩
      · have gk : ¬ (3 : Int) < (k : Int) := by omega
        by_cases hd : isDig b = true
        · have hd' := hd
          simp [isDig] at hd'
          obtain ⟨hd1, hd2⟩ := hd'
          rw [hde (by omega)] at h1 h2
          dsimp only at h1 h2
          rw [hd, Bool.true_and] at h2
          have hv : v < 1000 := Nat.lt_of_lt_of_le HP.out (by have := Nat.pow_le_pow_right (n := 10) (by omega) (show k ≤ 3 by omega); omega)
          have hds : dstep (v : Int) b = ((10 * v + (b - 48) : Nat) : Int) := by unfold dstep; rw [if_pos (by omega)]; omega
          rw [hds] at h1
          have H1 := hidP h1
          have H2 := hidP h2
          have H3 : Hid (10 * v + (b - 48) < 10 ^ (k + 1)) := by
            have := HP.out
            show _ < _
            rw [Nat.pow_succ]; omega
          have g1 : ¬ ((b : Int) < 48) := by omega
          have g2 : ¬ ((57 : Int) < (b : Int)) := by omega
          have g3 : IntKind.u8.wrap ((b : Int) - 48) = ((b - 48 : Nat) : Int) := by rw [show (b : Int) - 48 = ((b - 48 : Nat) : Int) by omega]; exact IntWalk.u8_in _ (by omega)
          clear hst hde hdh h1 h2 hds hd hbb
          go_wp2
          go_roundw
          case rel => exact ⟨k + 1, 10 * v + (b - 48), by go_num, by go_num, by omega, by omega, H3, H1, H2, hb⟩
          case measure => simp [intOf]; omega
        · have hd0 : isDig b = false := by simpa using hd
          have hr : isDig (Utf8.decode s k).1 = false := by
            by_cases h : b < 128
            · rw [hde h]; exact hd0
            · exact hdh (by omega)
          rw [hr, Bool.false_and] at h2
          have hn : numR s = (0, false) := by simp [numR, h2]
          have HN := hidP hn
          have hcc : (b : Int) < 48 ∨ ¬ ((b : Int) < 48) ∧ (57 : Int) < (b : Int) := by
            simp [isDig] at hd0
            omega
          clear hst h1 h2 hde hdh hn hbb hd hd0 hr
          rcases hcc with g1 | ⟨g1, g2⟩
          · go_wp2
            go_ret2
            exact ⟨by rw [HN.out]; rfl, hb⟩
          · go_wp2
            go_ret2
            exact ⟨by rw [HN.out]; rfl, hb⟩
    · have hk : k = s.size := by omega
      have hst := runesF_end s k hlt
      have h1 := HV.out
      have h2 := HA.out
      rw [hst] at h1 h2
      simp at h1 h2
      have hv : dval (runesF s 0) = v := h1
      have hall : (runesF s 0).all isDig = true := by rw [List.all_eq_true]; simpa using h2
      by_cases h0 : s.size = 0
      · have hn : numR s = (0, false) := by simp [numR, h0]
        have hv0 : v = 0 := by
          have := HP.out
          rw [hk, h0] at this
          simpa using this
        have g : ¬ (0 : Int) < (s.size : Int) := by omega
        have HN := hidP hn
        clear hn hall hv h1 h2 hst
        subst hv0
        go_wp2
        go_ret2
        exact ⟨by rw [HN.out]; rfl, hb⟩
      · have hn : numR s = ((v : Int), true) := by
          unfold numR
          rw [if_pos, hv]
          rw [hall]
          simp
          omega
        have g : (0 : Int) < (s.size : Int) := by omega
        have HN := hidP hn
        have HD : Hid (decide (0 < s.size) = true) := decide_eq_true (by omega)
        clear hn hall hv h1 h2 hst
        go_wp2
        go_ret2
        exact ⟨by rw [HN.out]; show Ending.returned (.tuple #[.int .i64 (v : Int), .bool (decide (0 < s.size))]) = _; rw [HD.out], hb⟩

end Go.Proofs.YtoflhfiegfhkoaaDoor
