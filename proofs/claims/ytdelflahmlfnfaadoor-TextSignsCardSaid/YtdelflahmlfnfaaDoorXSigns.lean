/-
  The walk of the law TextSigns.
-/
import Derived.Test.YtdelflahmlfnfaaDoorXAcc
import Derived.Test.YtdelflahmlfnfaaDoorXNames
import Derived.Laws.Runes
import Derived.Laws.Cover4
namespace Go.Proofs.YtdelflahmlfnfaaDoor
open Go.RowKit
set_option linter.unusedVariables false

theorem enc_head (r : Int) (h : 128 ≤ r) : ∃ b t, (Utf8.encode r).data.toList = b :: t ∧ 128 ≤ b.toNat := by
  obtain ⟨c, hc⟩ : ∃ c, (if Utf8.valid r then r.toNat else Utf8.runeError) = c := ⟨_, rfl⟩
  have h1 : 128 ≤ c ∧ c ≤ 1114111 := by
    rw [← hc, validRune_eq]
    unfold validRune Utf8.runeError
    split
    · rename_i hv; simp at hv; omega
    · omega
  unfold Utf8.encode
  simp only [hc]
  have hl : ¬ c < 128 := by omega
  simp only [hl, if_false]
  split
  · refine ⟨_, _, rfl, ?_⟩
    simp; omega
  · split
    · refine ⟨_, _, rfl, ?_⟩
      simp; omega
    · refine ⟨_, _, rfl, ?_⟩
      simp; omega
theorem enc_low (r : Nat) (h : r < 128) : (Utf8.encode (r : Int)).data.toList = [UInt8.ofNat r] := by
  have hv : Utf8.valid (r : Int) = true := by rw [validRune_eq]; unfold validRune; simp; omega
  have e : ((r : Int)).toNat = r := rfl
  unfold Utf8.encode
  simp only [hv, if_true, e]
  rw [if_pos h]

def signS (c : Int) : ByteArray := ⟨#[97]⟩ ++ Utf8.encode c
theorem sign_size (c : Int) : (signS c).size ≤ 5 := by
  unfold signS
  rw [ByteArray.size_append]
  have := encode_size_le c
  show 1 + _ ≤ 5
  omega
theorem sign_data (c : Int) : (signS c).data.toList = 97 :: (Utf8.encode c).data.toList := by
  unfold signS
  rw [ByteArray.data_append, Array.toList_append]
  rfl
/-- Whether a sign may stand. -/
theorem sign_err (C : Nat) : (linesR (signS C)).2 = if mayR C then 0 else 4 := by
  by_cases h : C < 128
  · have hd : (signS C).data.toList = [97, UInt8.ofNat C] := by rw [sign_data, enc_low C h]
    have hC : (UInt8.ofNat C).toNat = C := by simp; omega
    have ha : ascii (signS C).data.toList := by
      rw [hd]
      intro b hb
      simp at hb
      rcases hb with rfl | rfl
      · decide
      · rw [hC]; exact h
    have hs := sign_size C
    rw [err_ascii _ ha, if_neg (by omega), hd]
    have h97 : mayR ((97 : UInt8).toNat : Int) = true := by decide +kernel
    have hm : mayL [97, UInt8.ofNat C] = mayR C := by
      unfold mayL
      rw [List.all_cons, List.all_cons, h97, hC]
      simp
    rw [hm]
    cases hq : mayR C
    · rfl
    · have hl : (accB [97, UInt8.ofNat C] []).length = 1 := by
        simp only [accB]
        by_cases h10 : UInt8.ofNat C = 10
        · simp [h10]
        · by_cases h32 : UInt8.ofNat C = 32
          · simp [h32]
          · simp [h10, h32]
      rw [hl]
      simp
  · obtain ⟨b, t, hbt, hb⟩ := enc_head C (by omega)
    have hd : (signS C).data.toList = 97 :: b :: t := by rw [sign_data, hbt]
    have hq : mayR C = false := by unfold mayR; simp; omega
    have hsz : (signS C).size = (signS C).data.toList.length := by rw [Array.length_toList]; rfl
    have hs1 : 1 < (signS C).size := by rw [hsz, hd]; simp
    have hs := sign_size C
    generalize signS C = S at *
    have g0 : ((S)[0]'(by omega)) = 97 := by
      have e : ((S)[0]'(by omega)) = (S).data.toList[0]'(by omega) := by simp; rfl
      rw [e]; simp [hd]
    have g1 : ((S)[1]'hs1) = b := by
      have e : ((S)[1]'hs1) = (S).data.toList[1]'(by omega) := by simp; rfl
      rw [e]; simp [hd]
    have d0 : Utf8.decode (S) 0 = (97, 1) := by
      rw [decode_ascii (S) 0 (by omega) (by rw [g0]; decide), g0]; rfl
    have d1 := (decode_high (S) 1 hs1 (by rw [g1]; exact hb)).1
    have hmay : mayAll (S) = false := by
      unfold mayAll
      rw [runesF_step _ 0 (by omega), d0]
      show (List.all (97 :: runesF (S) 1) _) = _
      rw [runesF_step _ 1 hs1, List.all_cons, List.all_cons]
      have : mayR ((Utf8.decode (S) 1).1 : Int) = false := by unfold mayR; simp; omega
      rw [this]
      simp
    have hl := runesF_len (S) 0
    have g : ¬ 2000 < (runesF (S) 0).length := by omega
    unfold linesR
    rw [if_neg g, if_pos hmay, hq]
    rfl

def longS (n : Nat) : ByteArray := ⟨(List.replicate n (97 : UInt8)).toArray⟩
def manyS : Nat → ByteArray
  | 0 => ⟨#[]⟩
  | m + 1 => manyS m ++ ⟨#[120, 10]⟩
theorem long_zero : longS 0 = ⟨#[]⟩ := rfl
theorem long_next (n : Nat) : longS n ++ ⟨#[97]⟩ = longS (n + 1) := by
  apply ByteArray.ext
  rw [ByteArray.data_append]
  unfold longS
  apply Array.ext'
  rw [Array.toList_append]
  show List.replicate n (97 : UInt8) ++ [97] = List.replicate (n + 1) 97
  rw [List.replicate_succ']
theorem long_size (n : Nat) : (longS n).size = n := by show (List.replicate n (97 : UInt8)).toArray.size = n; simp
theorem many_next (m : Nat) : manyS m ++ ⟨#[120, 10]⟩ = manyS (m + 1) := rfl
theorem many_size : ∀ m : Nat, (manyS m).size = 2 * m
  | 0 => rfl
  | m + 1 => by
    show (manyS m ++ ⟨#[120, 10]⟩).size = _
    rw [ByteArray.size_append, many_size m]
    show 2 * m + 2 = _
    omega
theorem acc_long : ∀ (n : Nat) (cur : List UInt8), cur.isEmpty = false → (accB (List.replicate n 97) cur).length = 1
  | 0, cur, h => by simp [accB, h]
  | n + 1, cur, h => by
    rw [List.replicate_succ]
    simp only [accB]
    rw [if_neg (by decide), if_neg (by decide)]
    exact acc_long n _ (by simp)
theorem long_err (n : Nat) (h : 1 ≤ n) : (linesR (longS n)).2 = if 2000 < n then 3 else 0 := by
  have hd : (longS n).data.toList = List.replicate n 97 := rfl
  have hm : mayL (longS n).data.toList = true := by
    rw [hd]
    unfold mayL
    rw [List.all_eq_true]
    intro b hb
    rw [List.mem_replicate] at hb
    rw [hb.2]
    decide
  have hl : (accB (List.replicate n 97) []).length = 1 := by
    obtain ⟨k, rfl⟩ : ∃ k, n = k + 1 := ⟨n - 1, by omega⟩
    rw [List.replicate_succ]
    simp only [accB]
    rw [if_neg (by decide), if_neg (by decide)]
    exact acc_long k _ (by simp)
  rw [err_ascii _ (mayL_ascii hm), hm, long_size, hd, hl]
  by_cases h2 : 2000 < n
  · rw [if_pos h2, if_pos h2]
  · rw [if_neg h2, if_neg h2]; rfl
theorem acc_app : ∀ (m : Nat), (accB (manyS m).data.toList []).length = m ∧ ∀ r, accB ((manyS m).data.toList ++ r) [] = accB (manyS m).data.toList [] ++ accB r []
  | 0 => ⟨rfl, fun r => rfl⟩
  | m + 1 => by
    obtain ⟨h1, h2⟩ := acc_app m
    have hd : (manyS (m + 1)).data.toList = (manyS m).data.toList ++ [120, 10] := by
      show (manyS m ++ ⟨#[120, 10]⟩).data.toList = _
      rw [ByteArray.data_append, Array.toList_append]
    have e : ∀ r, accB ([120, 10] ++ r) [] = [[120]] ++ accB r [] := fun r => rfl
    have e0 : accB [120, 10] [] = [[120]] := rfl
    refine ⟨by rw [hd, h2, e0, List.length_append, h1]; rfl, fun r => ?_⟩
    rw [hd, List.append_assoc, h2, e, h2, e0, List.append_assoc]
theorem many_may : ∀ m : Nat, mayL (manyS m).data.toList = true
  | 0 => rfl
  | m + 1 => by
    have hd : (manyS (m + 1)).data.toList = (manyS m).data.toList ++ [120, 10] := by
      show (manyS m ++ ⟨#[120, 10]⟩).data.toList = _
      rw [ByteArray.data_append, Array.toList_append]
    have := many_may m
    unfold mayL at *
    rw [hd, List.all_append, this]
    decide
theorem many_err (m : Nat) (h : 1 ≤ m) (h2 : m ≤ 1000) : (linesR (manyS m)).2 = if 60 < m then 3 else 0 := by
  have hm := many_may m
  rw [err_ascii _ (mayL_ascii hm), hm, many_size, (acc_app m).1, if_neg (by omega), if_neg (by decide), if_neg (by omega)]

theorem keyB (b : Bool) (h : b = true) : Ending.returned (Value.bool b) = Ending.returned (.bool true) := by rw [h]

set_option maxRecDepth 100000 in
set_option maxHeartbeats 3200000 in
theorem textSigns_any (c n m mx : Int) (w : World) (hm : w.cell? ⟨0, 0, none⟩ = some (.int .i64 mx)) :
    Calls Tryd.prog 7 #[.int .i64 c, .int .i64 n, .int .i64 m] w fun e w' => e = .returned (.bool true) ∧ Below w.heap.size w w' := by
  obtain ⟨C, hC1, hC2, hC3⟩ := modE c 1200000 (by omega) (by omega)
  obtain ⟨N, hN1, hN2, hN3⟩ := modE n 5 (by omega) (by omega)
  obtain ⟨M, hM1, hM2, hM3⟩ := modE m 5 (by omega) (by omega)
  have hC1' : (IntKind.u64.wrap c).tmod 1200000 = (C : Int) := hC1
  have hN1' : (IntKind.u64.wrap n).tmod 5 = (N : Int) := hN1
  have hM1' : (IntKind.u64.wrap m).tmod 5 = (M : Int) := hM1
  have hi : IntKind.i32.wrap (C : Int) = (C : Int) := IntWalk.i32_in _ (by omega)
  have hml := World.block_lt_of_cell? w _ hm
  have HM := hidP hm
  have hes := encode_size_le (C : Int)
  have hss := sign_size (C : Int)
  have hse := sign_err C
  have HL := hidP fun w hm => lines_any (signS C) mx w hm (by omega)
  have HL2 := hidP fun w hm => lines_any (longS (1998 + N)) mx w hm (by rw [long_size]; omega)
  have HL3 := hidP fun w hm => lines_any (manyS (58 + M)) mx w hm (by rw [many_size]; omega)
  have h2e := long_err (1998 + N) (by omega)
  have h3e := many_err (58 + M) (by omega) (by omega)
  obtain ⟨E1, hE1⟩ : ∃ E, (linesR (signS C)).2 = E := ⟨_, rfl⟩
  obtain ⟨E2, hE2⟩ : ∃ E, (linesR (longS (1998 + N))).2 = E := ⟨_, rfl⟩
  obtain ⟨E3, hE3⟩ : ∃ E, (linesR (manyS (58 + M))).2 = E := ⟨_, rfl⟩
  rw [hE1] at HL hse
  rw [hE2] at HL2 h2e
  rw [hE3] at HL3 h3e
  have h2e' : (1998 + N ≤ 2000 ∧ E2 = 0) ∨ (¬ 1998 + N ≤ 2000 ∧ E2 = 3) := by
    rw [h2e]
    by_cases h : 2000 < 1998 + N
    · right; rw [if_pos h]; omega
    · left; rw [if_neg h]; omega
  have h3e' : (58 + M ≤ 60 ∧ E3 = 0) ∨ (¬ 58 + M ≤ 60 ∧ E3 = 3) := by
    rw [h3e]
    by_cases h : 60 < 58 + M
    · right; rw [if_pos h]; omega
    · left; rw [if_neg h]; omega
  have H2E := hidP h2e'
  have H3E := hidP h3e'
  clear hC1 hN1 hM1 hm h2e h3e hE1 hE2 hE3 h2e' h3e' hss
  have hcase : ((C : Int) = 10 ∧ E1 = 0) ∨ (¬ (C : Int) = 10 ∧ ¬ 32 ≤ (C : Int) ∧ E1 = 4) ∨ (¬ (C : Int) = 10 ∧ 32 ≤ (C : Int) ∧ (C : Int) ≤ 126 ∧ E1 = 0) ∨ (¬ (C : Int) = 10 ∧ 32 ≤ (C : Int) ∧ ¬ (C : Int) ≤ 126 ∧ E1 = 4) := by
    unfold mayR at hse
    by_cases a : (C : Int) = 10
    · left; simp [a] at hse; exact ⟨a, hse⟩
    · right
      by_cases b : 32 ≤ (C : Int)
      · right
        by_cases d : (C : Int) ≤ 126
        · left; simp [b, d] at hse; exact ⟨a, b, d, hse⟩
        · right; simp [a, b, d] at hse; exact ⟨a, b, d, hse⟩
      · left; simp [a, b] at hse; exact ⟨a, b, hse⟩
  clear hse
  rcases hcase with ⟨a, rfl⟩ | ⟨a, b, rfl⟩ | ⟨a, b, d, rfl⟩ | ⟨a, b, d, rfl⟩
  · have t : ((C : Int) == 10) = true := by simp [a]
    clear a
    go_enter Tryd.func7, Tryd.ntmps7
    go_wp2_with fail
    refine (HL.out _ HM.out).mono ?_
    rintro e w1 ⟨a1, c1, rfl, -, hb1⟩
    have hm1 := hidP ((hb1.cell (p := ⟨0, 0, none⟩) hml).trans HM.out)
    go_wp2_with fail
    go_loopw [10, 12] (fun v10 v12 wr => ∃ k : Nat, v10 = .string (longS k) ∧ v12 = .int .i64 k ∧ k ≤ 1998 + N ∧ w1 = wr) (fun _ v _ => 1998 + N - (intOf v).toNat)
    case atStart => exact ⟨0, rfl, rfl, by omega, rfl⟩
    case round =>
      obtain ⟨k, rfl, rfl, hk, rfl⟩ := hrel
      have hz := long_size k
      by_cases hlt : k < 1998 + N
      · have g : (k : Int) < 1998 + (N : Int) := by omega
        go_wp2_with fail
        go_roundw
        case rel => exact ⟨k + 1, by rw [long_next], by go_num, by omega, trivial⟩
        case measure => simp [intOf]; omega
      · have g : ¬ (k : Int) < 1998 + (N : Int) := by omega
        have hk2 : k = 1998 + N := by omega
        subst hk2
        clear hz hlt
        go_wp2_with fail
        go_loopw [11, 13] (fun v11 v13 wr => ∃ k : Nat, v11 = .string (manyS k) ∧ v13 = .int .i64 k ∧ k ≤ 58 + M ∧ w1 = wr) (fun _ v _ => 58 + M - (intOf v).toNat)
        case atStart => exact ⟨0, rfl, rfl, by omega, rfl⟩
        case round =>
          obtain ⟨k, rfl, rfl, hk, rfl⟩ := hrel
          have hz := many_size k
          by_cases hlt : k < 58 + M
          · have g : (k : Int) < 58 + (M : Int) := by omega
            go_wp2_with fail
            go_roundw
            case rel => exact ⟨k + 1, by rw [many_next], by go_num, by omega, trivial⟩
            case measure => simp [intOf]; omega
          · have g : ¬ (k : Int) < 58 + (M : Int) := by omega
            have hk2 : k = 58 + M := by omega
            subst hk2
            clear hz hlt
            go_wp2_with fail
            refine (HL2.out _ hm1.out).mono ?_
            rintro e w2 ⟨a2, c2, rfl, -, hb2⟩
            have hB2 := bstep hb1 hb2
            have hm2 := hidP ((hB2.cell (p := ⟨0, 0, none⟩) hml).trans HM.out)
            go_wp2_with fail
            refine (HL3.out _ hm2.out).mono ?_
            rintro e w3 ⟨a3, c3, rfl, -, hb3⟩
            have hB3 := bstep hB2 hb3
            have hm3 := hidP ((hB3.cell (p := ⟨0, 0, none⟩) hml).trans HM.out)
            go_wp2_with fail
            refine (awake01_any mx w3 hm3.out).mono ?_
            rintro e w4 ⟨rfl, hb4⟩
            have hB4 := bstep hB3 hb4
            rcases H2E.out with ⟨p2, rfl⟩ | ⟨p2, rfl⟩
            · have g2 : 1998 + (N : Int) ≤ 2000 := by omega
              rcases H3E.out with ⟨p3, rfl⟩ | ⟨p3, rfl⟩
              · have g3 : 58 + (M : Int) ≤ 60 := by omega
                go_wp2
                go_ret
                exact ⟨by first | rfl | refine keyB _ ?_; (simp <;> omega), hB4⟩
              · have g3 : ¬ 58 + (M : Int) ≤ 60 := by omega
                go_wp2
                go_ret
                exact ⟨by first | rfl | refine keyB _ ?_; (simp <;> omega), hB4⟩
            · have g2 : ¬ 1998 + (N : Int) ≤ 2000 := by omega
              rcases H3E.out with ⟨p3, rfl⟩ | ⟨p3, rfl⟩
              · have g3 : 58 + (M : Int) ≤ 60 := by omega
                go_wp2
                go_ret
                exact ⟨by first | rfl | refine keyB _ ?_; (simp <;> omega), hB4⟩
              · have g3 : ¬ 58 + (M : Int) ≤ 60 := by omega
                go_wp2
                go_ret
                exact ⟨by first | rfl | refine keyB _ ?_; (simp <;> omega), hB4⟩
  · have t : ((C : Int) == 10) = false := by simp [a]
    have t2 : decide (32 ≤ (C : Int)) = false := decide_eq_false b
    clear a b
    go_enter Tryd.func7, Tryd.ntmps7
    go_wp2_with fail
    refine (HL.out _ HM.out).mono ?_
    rintro e w1 ⟨a1, c1, rfl, -, hb1⟩
    have hm1 := hidP ((hb1.cell (p := ⟨0, 0, none⟩) hml).trans HM.out)
    go_wp2_with fail
    go_loopw [10, 12] (fun v10 v12 wr => ∃ k : Nat, v10 = .string (longS k) ∧ v12 = .int .i64 k ∧ k ≤ 1998 + N ∧ w1 = wr) (fun _ v _ => 1998 + N - (intOf v).toNat)
    case atStart => exact ⟨0, rfl, rfl, by omega, rfl⟩
    case round =>
      obtain ⟨k, rfl, rfl, hk, rfl⟩ := hrel
      have hz := long_size k
      by_cases hlt : k < 1998 + N
      · have g : (k : Int) < 1998 + (N : Int) := by omega
        go_wp2_with fail
        go_roundw
        case rel => exact ⟨k + 1, by rw [long_next], by go_num, by omega, trivial⟩
        case measure => simp [intOf]; omega
      · have g : ¬ (k : Int) < 1998 + (N : Int) := by omega
        have hk2 : k = 1998 + N := by omega
        subst hk2
        clear hz hlt
        go_wp2_with fail
        go_loopw [11, 13] (fun v11 v13 wr => ∃ k : Nat, v11 = .string (manyS k) ∧ v13 = .int .i64 k ∧ k ≤ 58 + M ∧ w1 = wr) (fun _ v _ => 58 + M - (intOf v).toNat)
        case atStart => exact ⟨0, rfl, rfl, by omega, rfl⟩
        case round =>
          obtain ⟨k, rfl, rfl, hk, rfl⟩ := hrel
          have hz := many_size k
          by_cases hlt : k < 58 + M
          · have g : (k : Int) < 58 + (M : Int) := by omega
            go_wp2_with fail
            go_roundw
            case rel => exact ⟨k + 1, by rw [many_next], by go_num, by omega, trivial⟩
            case measure => simp [intOf]; omega
          · have g : ¬ (k : Int) < 58 + (M : Int) := by omega
            have hk2 : k = 58 + M := by omega
            subst hk2
            clear hz hlt
            go_wp2_with fail
            refine (HL2.out _ hm1.out).mono ?_
            rintro e w2 ⟨a2, c2, rfl, -, hb2⟩
            have hB2 := bstep hb1 hb2
            have hm2 := hidP ((hB2.cell (p := ⟨0, 0, none⟩) hml).trans HM.out)
            go_wp2_with fail
            refine (HL3.out _ hm2.out).mono ?_
            rintro e w3 ⟨a3, c3, rfl, -, hb3⟩
            have hB3 := bstep hB2 hb3
            have hm3 := hidP ((hB3.cell (p := ⟨0, 0, none⟩) hml).trans HM.out)
            go_wp2_with fail
            refine (awake01_any mx w3 hm3.out).mono ?_
            rintro e w4 ⟨rfl, hb4⟩
            have hB4 := bstep hB3 hb4
            rcases H2E.out with ⟨p2, rfl⟩ | ⟨p2, rfl⟩
            · have g2 : 1998 + (N : Int) ≤ 2000 := by omega
              rcases H3E.out with ⟨p3, rfl⟩ | ⟨p3, rfl⟩
              · have g3 : 58 + (M : Int) ≤ 60 := by omega
                go_wp2
                go_ret
                exact ⟨by first | rfl | refine keyB _ ?_; (simp <;> omega), hB4⟩
              · have g3 : ¬ 58 + (M : Int) ≤ 60 := by omega
                go_wp2
                go_ret
                exact ⟨by first | rfl | refine keyB _ ?_; (simp <;> omega), hB4⟩
            · have g2 : ¬ 1998 + (N : Int) ≤ 2000 := by omega
              rcases H3E.out with ⟨p3, rfl⟩ | ⟨p3, rfl⟩
              · have g3 : 58 + (M : Int) ≤ 60 := by omega
                go_wp2
                go_ret
                exact ⟨by first | rfl | refine keyB _ ?_; (simp <;> omega), hB4⟩
              · have g3 : ¬ 58 + (M : Int) ≤ 60 := by omega
                go_wp2
                go_ret
                exact ⟨by first | rfl | refine keyB _ ?_; (simp <;> omega), hB4⟩
  · have t : ((C : Int) == 10) = false := by simp [a]
    clear a
    go_enter Tryd.func7, Tryd.ntmps7
    go_wp2_with fail
    refine (HL.out _ HM.out).mono ?_
    rintro e w1 ⟨a1, c1, rfl, -, hb1⟩
    have hm1 := hidP ((hb1.cell (p := ⟨0, 0, none⟩) hml).trans HM.out)
    go_wp2_with fail
    go_loopw [10, 12] (fun v10 v12 wr => ∃ k : Nat, v10 = .string (longS k) ∧ v12 = .int .i64 k ∧ k ≤ 1998 + N ∧ w1 = wr) (fun _ v _ => 1998 + N - (intOf v).toNat)
    case atStart => exact ⟨0, rfl, rfl, by omega, rfl⟩
    case round =>
      obtain ⟨k, rfl, rfl, hk, rfl⟩ := hrel
      have hz := long_size k
      by_cases hlt : k < 1998 + N
      · have g : (k : Int) < 1998 + (N : Int) := by omega
        go_wp2_with fail
        go_roundw
        case rel => exact ⟨k + 1, by rw [long_next], by go_num, by omega, trivial⟩
        case measure => simp [intOf]; omega
      · have g : ¬ (k : Int) < 1998 + (N : Int) := by omega
        have hk2 : k = 1998 + N := by omega
        subst hk2
        clear hz hlt
        go_wp2_with fail
        go_loopw [11, 13] (fun v11 v13 wr => ∃ k : Nat, v11 = .string (manyS k) ∧ v13 = .int .i64 k ∧ k ≤ 58 + M ∧ w1 = wr) (fun _ v _ => 58 + M - (intOf v).toNat)
        case atStart => exact ⟨0, rfl, rfl, by omega, rfl⟩
        case round =>
          obtain ⟨k, rfl, rfl, hk, rfl⟩ := hrel
          have hz := many_size k
          by_cases hlt : k < 58 + M
          · have g : (k : Int) < 58 + (M : Int) := by omega
            go_wp2_with fail
            go_roundw
            case rel => exact ⟨k + 1, by rw [many_next], by go_num, by omega, trivial⟩
            case measure => simp [intOf]; omega
          · have g : ¬ (k : Int) < 58 + (M : Int) := by omega
            have hk2 : k = 58 + M := by omega
            subst hk2
            clear hz hlt
            go_wp2_with fail
            refine (HL2.out _ hm1.out).mono ?_
            rintro e w2 ⟨a2, c2, rfl, -, hb2⟩
            have hB2 := bstep hb1 hb2
            have hm2 := hidP ((hB2.cell (p := ⟨0, 0, none⟩) hml).trans HM.out)
            go_wp2_with fail
            refine (HL3.out _ hm2.out).mono ?_
            rintro e w3 ⟨a3, c3, rfl, -, hb3⟩
            have hB3 := bstep hB2 hb3
            have hm3 := hidP ((hB3.cell (p := ⟨0, 0, none⟩) hml).trans HM.out)
            go_wp2_with fail
            refine (awake01_any mx w3 hm3.out).mono ?_
            rintro e w4 ⟨rfl, hb4⟩
            have hB4 := bstep hB3 hb4
            rcases H2E.out with ⟨p2, rfl⟩ | ⟨p2, rfl⟩
            · have g2 : 1998 + (N : Int) ≤ 2000 := by omega
              rcases H3E.out with ⟨p3, rfl⟩ | ⟨p3, rfl⟩
              · have g3 : 58 + (M : Int) ≤ 60 := by omega
                go_wp2
                go_ret
                exact ⟨by first | rfl | refine keyB _ ?_; (simp <;> omega), hB4⟩
              · have g3 : ¬ 58 + (M : Int) ≤ 60 := by omega
                go_wp2
                go_ret
                exact ⟨by first | rfl | refine keyB _ ?_; (simp <;> omega), hB4⟩
            · have g2 : ¬ 1998 + (N : Int) ≤ 2000 := by omega
              rcases H3E.out with ⟨p3, rfl⟩ | ⟨p3, rfl⟩
              · have g3 : 58 + (M : Int) ≤ 60 := by omega
                go_wp2
                go_ret
                exact ⟨by first | rfl | refine keyB _ ?_; (simp <;> omega), hB4⟩
              · have g3 : ¬ 58 + (M : Int) ≤ 60 := by omega
                go_wp2
                go_ret
                exact ⟨by first | rfl | refine keyB _ ?_; (simp <;> omega), hB4⟩
  · have t : ((C : Int) == 10) = false := by simp [a]
    clear a
    go_enter Tryd.func7, Tryd.ntmps7
    go_wp2_with fail
    refine (HL.out _ HM.out).mono ?_
    rintro e w1 ⟨a1, c1, rfl, -, hb1⟩
    have hm1 := hidP ((hb1.cell (p := ⟨0, 0, none⟩) hml).trans HM.out)
    go_wp2_with fail
    go_loopw [10, 12] (fun v10 v12 wr => ∃ k : Nat, v10 = .string (longS k) ∧ v12 = .int .i64 k ∧ k ≤ 1998 + N ∧ w1 = wr) (fun _ v _ => 1998 + N - (intOf v).toNat)
    case atStart => exact ⟨0, rfl, rfl, by omega, rfl⟩
    case round =>
      obtain ⟨k, rfl, rfl, hk, rfl⟩ := hrel
      have hz := long_size k
      by_cases hlt : k < 1998 + N
      · have g : (k : Int) < 1998 + (N : Int) := by omega
        go_wp2_with fail
        go_roundw
        case rel => exact ⟨k + 1, by rw [long_next], by go_num, by omega, trivial⟩
        case measure => simp [intOf]; omega
      · have g : ¬ (k : Int) < 1998 + (N : Int) := by omega
        have hk2 : k = 1998 + N := by omega
        subst hk2
        clear hz hlt
        go_wp2_with fail
        go_loopw [11, 13] (fun v11 v13 wr => ∃ k : Nat, v11 = .string (manyS k) ∧ v13 = .int .i64 k ∧ k ≤ 58 + M ∧ w1 = wr) (fun _ v _ => 58 + M - (intOf v).toNat)
        case atStart => exact ⟨0, rfl, rfl, by omega, rfl⟩
        case round =>
          obtain ⟨k, rfl, rfl, hk, rfl⟩ := hrel
          have hz := many_size k
          by_cases hlt : k < 58 + M
          · have g : (k : Int) < 58 + (M : Int) := by omega
            go_wp2_with fail
            go_roundw
            case rel => exact ⟨k + 1, by rw [many_next], by go_num, by omega, trivial⟩
            case measure => simp [intOf]; omega
          · have g : ¬ (k : Int) < 58 + (M : Int) := by omega
            have hk2 : k = 58 + M := by omega
            subst hk2
            clear hz hlt
            go_wp2_with fail
            refine (HL2.out _ hm1.out).mono ?_
            rintro e w2 ⟨a2, c2, rfl, -, hb2⟩
            have hB2 := bstep hb1 hb2
            have hm2 := hidP ((hB2.cell (p := ⟨0, 0, none⟩) hml).trans HM.out)
            go_wp2_with fail
            refine (HL3.out _ hm2.out).mono ?_
            rintro e w3 ⟨a3, c3, rfl, -, hb3⟩
            have hB3 := bstep hB2 hb3
            have hm3 := hidP ((hB3.cell (p := ⟨0, 0, none⟩) hml).trans HM.out)
            go_wp2_with fail
            refine (awake01_any mx w3 hm3.out).mono ?_
            rintro e w4 ⟨rfl, hb4⟩
            have hB4 := bstep hB3 hb4
            rcases H2E.out with ⟨p2, rfl⟩ | ⟨p2, rfl⟩
            · have g2 : 1998 + (N : Int) ≤ 2000 := by omega
              rcases H3E.out with ⟨p3, rfl⟩ | ⟨p3, rfl⟩
              · have g3 : 58 + (M : Int) ≤ 60 := by omega
                go_wp2
                go_ret
                exact ⟨by first | rfl | refine keyB _ ?_; (simp <;> omega), hB4⟩
              · have g3 : ¬ 58 + (M : Int) ≤ 60 := by omega
                go_wp2
                go_ret
                exact ⟨by first | rfl | refine keyB _ ?_; (simp <;> omega), hB4⟩
            · have g2 : ¬ 1998 + (N : Int) ≤ 2000 := by omega
              rcases H3E.out with ⟨p3, rfl⟩ | ⟨p3, rfl⟩
              · have g3 : 58 + (M : Int) ≤ 60 := by omega
                go_wp2
                go_ret
                exact ⟨by first | rfl | refine keyB _ ?_; (simp <;> omega), hB4⟩
              · have g3 : ¬ 58 + (M : Int) ≤ 60 := by omega
                go_wp2
                go_ret
                exact ⟨by first | rfl | refine keyB _ ?_; (simp <;> omega), hB4⟩

theorem textSignsW (w : World) (c : Int) (hc : -9223372036854775808 ≤ c ∧ c ≤ 9223372036854775807) (n : Int) (hn : -9223372036854775808 ≤ n ∧ n ≤ 9223372036854775807) (m : Int) (hmm : -9223372036854775808 ≤ m ∧ m ≤ 9223372036854775807) (hm : ∃ mx, w.cell? ⟨0, 0, none⟩ = some (.int .i64 mx)) :
    Calls Tryd.prog 7 #[.int .i64 c, .int .i64 n, .int .i64 m] w fun e w' => e = .returned (.bool true) ∧ Below w.heap.size w w' := by
  obtain ⟨mx, hm⟩ := hm
  exact textSigns_any c n m mx w hm
end Go.Proofs.YtdelflahmlfnfaaDoor
