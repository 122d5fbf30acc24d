/-
  The walks over package text: signs, numbers, registers.
-/
import Derived.Test.YtoflhfiegfhkoaaDoorLib
import Derived.Test.YtoflhfiegfhkoaaDoorRows
import Derived.Laws.RangeAny
import Derived.Lib.RuneCount
import Derived.Lib.Strings
import Derived.IntWalk
namespace Go.Proofs.YtoflhfiegfhkoaaDoor
open Go.RowKit
set_option linter.unusedVariables false

/-- What a range over a string hands over, from a place on. -/
def runesF (s : ByteArray) (pos : Nat) : List Nat :=
  if h : pos < s.size then (Utf8.decode s pos).1 :: runesF s (pos + (Utf8.decode s pos).2) else []
termination_by s.size - pos
decreasing_by have := Lib.decode_width_pos s pos h; omega
theorem runesF_step (s : ByteArray) (pos : Nat) (h : pos < s.size) : runesF s pos = (Utf8.decode s pos).1 :: runesF s (pos + (Utf8.decode s pos).2) := by
  conv => lhs; unfold runesF
  rw [dif_pos h]
theorem runesF_end (s : ByteArray) (pos : Nat) (h : ¬ pos < s.size) : runesF s pos = [] := by
  unfold runesF
  rw [dif_neg h]
theorem runesF_len (s : ByteArray) (pos : Nat) : (runesF s pos).length ≤ s.size - pos := by
  induction pos using runesF.induct s with
  | case1 pos h ih =>
    rw [runesF_step s pos h, List.length_cons]
    have := Lib.decode_width_pos s pos h
    omega
  | case2 pos h => rw [runesF_end s pos h]; simp

/-- May a sign stand in a text? -/
def mayR (c : Int) : Bool := c == 10 || (decide (32 ≤ c) && decide (c ≤ 126))

set_option maxRecDepth 100000 in
set_option maxHeartbeats 400000 in
theorem may_any (c : Int) (w : World) : Calls Tryd.prog 77 #[.int .i32 c] w fun e w' => e = .returned (.bool (mayR c)) ∧ w' = w := by
  by_cases h10 : c = 10
  · have hm : mayR c = true := by simp [mayR, h10]
    have t : (c == 10) = true := by simp [h10]
    rw [hm]
    clear h10
    go_enter Tryd.func77, Tryd.ntmps77
    go_wp2
    go_ret
    exact ⟨rfl, rfl⟩
  · have t : (c == 10) = false := by simp [h10]
    by_cases h32 : 32 ≤ c
    · have hm : mayR c = decide (c ≤ 126) := by simp [mayR, t, h32]
      rw [hm]
      go_enter Tryd.func77, Tryd.ntmps77
      go_wp2
      go_ret
      exact ⟨rfl, rfl⟩
    · have hm : mayR c = false := by simp [mayR, t, h32]
      rw [hm]
      go_enter Tryd.func77, Tryd.ntmps77
      go_wp2
      go_ret
      exact ⟨rfl, rfl⟩

def mayAll (s : ByteArray) : Bool := (runesF s 0).all fun c => mayR c

set_option maxRecDepth 100000 in
set_option maxHeartbeats 800000 in
theorem look_any (s : ByteArray) (w : World) (hmax : s.size ≤ 140737488355328) :
    Calls Tryd.prog 53 #[.string s] w fun e w' => e = .returned (.tuple #[.int .i64 (runesF s 0).length, .bool (mayAll s)]) ∧ Below w.heap.size w w' := by
  go_enter Tryd.func53, Tryd.ntmps53
  go_wp2_with fail
  go_loopw [4, 5] (fun v4 v5 wr => ∃ (k pos : Nat) (b : Bool), v4 = .int .i64 k ∧ v5 = .bool b ∧ k ≤ pos ∧ Hid (pos ≤ s.size ∨ True) ∧ k ≤ 140737488355328 ∧ Hid (k + (runesF s pos).length = (runesF s 0).length) ∧ Hid ((b && (runesF s pos).all fun c => mayR c) = mayAll s) ∧ wr = w.iter s pos) (fun _ _ wr => s.size - wr.iterPos w.heap.size)
  case atStart => exact ⟨0, 0, true, rfl, rfl, by omega, .inr trivial, by omega, by show 0 + _ = _; omega, by show (true && _) = _; rfl, rfl⟩
  case round =>
    obtain ⟨k, pos, b, rfl, rfl, hkp, _, hkm, HK, HB, rfl⟩ := hrel
    by_cases hlt : pos < s.size
    · have hnx := fun ty => run_next_any (P := Tryd.prog) w s pos ty hlt
      have hw1 := Lib.decode_width_pos s pos hlt
      have hst := runesF_step s pos hlt
      obtain ⟨c, hc⟩ : ∃ c, (Utf8.decode s pos).1 = c := ⟨_, rfl⟩
      obtain ⟨wd, hwd⟩ : ∃ wd, (Utf8.decode s pos).2 = wd := ⟨_, rfl⟩
      rw [hc, hwd] at hnx hst
      rw [hwd] at hw1
      have hkb : k + 1 ≤ 140737488355328 := by
        have h1 := HK.out
        rw [hst, List.length_cons] at h1
        have h2 := runesF_len s 0
        omega
      have HK2 : Hid (k + 1 + (runesF s (pos + wd)).length = (runesF s 0).length) := by
        have h1 := HK.out
        rw [hst, List.length_cons] at h1
        show _ = _
        omega
      have HB2 : Hid ((b && mayR c && (runesF s (pos + wd)).all fun c => mayR c) = mayAll s) := by
        have h1 := HB.out
        rw [hst, List.all_cons, ← Bool.and_assoc] at h1
        exact h1
      clear hst hc hwd
      cases b
      · go_wp2
        go_roundw
        case rel => exact ⟨k + 1, pos + wd, false, by go_num, rfl, by omega, .inr trivial, by omega, HK2, HB2, rfl⟩
        case measure => simp; omega
      · go_wp2_with (go_at_call 77; refine (may_any c _).mono ?_; rintro e w1 ⟨rfl, rfl⟩)
        go_roundw
        case rel => exact ⟨k + 1, pos + wd, mayR c, by go_num, rfl, by omega, .inr trivial, by omega, HK2, HB2, rfl⟩
        case measure => simp; omega
    · have hnx := fun ty => run_next_end (P := Tryd.prog) w s pos ty hlt
      have hst := runesF_end s pos hlt
      have h1 := HK.out
      have h2 := HB.out
      rw [hst] at h1 h2
      simp at h1 h2
      have H1 := hidP h1
      have H2 := hidP h2
      clear hst h1 h2
      go_wp2
      go_ret2
      exact ⟨by rw [H1.out, H2.out]; rfl, below_iter _ _ _⟩

theorem nonempty_toList {s : ByteArray} (h : ¬ s.size = 0) : s.data.toList.isEmpty = false := by
  cases hl : s.data.toList with
  | nil =>
    refine absurd ?_ h
    show s.data.size = 0
    rw [← Array.length_toList, hl]
    rfl
  | cons a l => rfl

def isDig (c : Nat) : Bool := decide (48 ≤ c) && decide (c ≤ 57)
/-- One digit more. -/
def dstep (v : Int) (c : Nat) : Int := if v < 10000 then 10 * v + ((c : Int) - 48) else v
def dval (l : List Nat) : Int := l.foldl dstep 0
def numR (s : ByteArray) : Int × Bool := if (runesF s 0).all isDig && decide (1 ≤ s.size) && decide (s.size ≤ 4) then (dval (runesF s 0), true) else (0, false)
theorem dstep_b {v : Int} {c : Nat} (h0 : 0 ≤ v) (h1 : v < 200000) (hc : isDig c = true) : 0 ≤ dstep v c ∧ dstep v c < 200000 := by
  simp [isDig] at hc
  unfold dstep
  split <;> omega

set_option maxRecDepth 100000 in
set_option maxHeartbeats 800000 in
theorem number_any (s : ByteArray) (w : World) (hmax : s.size ≤ 140737488355328) :
    Calls Tryd.prog 97 #[.string s] w fun e w' => e = .returned (.tuple #[.int .i64 (numR s).1, .bool (numR s).2]) ∧ Below w.heap.size w w' := by
  go_enter Tryd.func97, Tryd.ntmps97
  go_wp2_with fail
  go_loopw [4] (fun v4 wr => ∃ (pos : Nat) (v : Int), v4 = .int .i64 v ∧ 0 ≤ v ∧ v < 200000 ∧ Hid ((runesF s 0).foldl dstep 0 = (runesF s pos).foldl dstep v) ∧ Hid ((runesF s 0).all isDig = (runesF s pos).all isDig) ∧ wr = w.iter s pos) (fun _ wr => s.size - wr.iterPos w.heap.size)
  case atStart => exact ⟨0, 0, rfl, by omega, by omega, rfl, rfl, rfl⟩
  case round =>
    obtain ⟨pos, v, rfl, hv0, hv1, HV, HA, rfl⟩ := hrel
    by_cases hlt : pos < s.size
    · have hnx := fun ty => run_next_any (P := Tryd.prog) w s pos ty hlt
      have hw1 := Lib.decode_width_pos s pos hlt
      have hst := runesF_step s pos hlt
      obtain ⟨c, hc⟩ : ∃ c, (Utf8.decode s pos).1 = c := ⟨_, rfl⟩
      obtain ⟨wd, hwd⟩ : ∃ wd, (Utf8.decode s pos).2 = wd := ⟨_, rfl⟩
      rw [hc, hwd] at hnx hst
      rw [hwd] at hw1
      have h1 := HV.out
      have h2 := HA.out
      rw [hst, List.foldl_cons] at h1
      rw [hst, List.all_cons] at h2
      by_cases hd : isDig c = true
      · have hd' := hd
        simp [isDig] at hd'
        obtain ⟨hd1, hd2⟩ := hd'
        have hb := dstep_b hv0 hv1 hd
        rw [hd, Bool.true_and] at h2
        have g1 : ¬ ((c : Int) < 48) := by omega
        have g2 : ¬ ((57 : Int) < (c : Int)) := by omega
        by_cases hvl : v < 10000
        · have hds : dstep v c = 10 * v + ((c : Int) - 48) := by unfold dstep; rw [if_pos hvl]
          rw [hds] at h1 hb
          have H1 := hidP h1
          have H2 := hidP h2
          clear hst hc hwd h1 h2 hds hd
          go_wp2
          go_roundw
          case rel => exact ⟨pos + wd, _, rfl, hb.1, hb.2, H1, H2, rfl⟩
          case measure => simp; omega
        · have hds : dstep v c = v := by unfold dstep; rw [if_neg hvl]
          rw [hds] at h1 hb
          have H1 := hidP h1
          have H2 := hidP h2
          clear hst hc hwd h1 h2 hds hd
          go_wp2
          go_roundw
          case rel => exact ⟨pos + wd, _, rfl, hb.1, hb.2, H1, H2, rfl⟩
          case measure => simp; omega
      · have hd0 : isDig c = false := by simpa using hd
        rw [hd0, Bool.false_and] at h2
        have hn : numR s = (0, false) := by simp [numR, h2]
        have HN := hidP hn
        have hcc : (c : Int) < 48 ∨ ¬ ((c : Int) < 48) ∧ (57 : Int) < (c : Int) := by
          simp [isDig] at hd0
          omega
        clear hst hc hwd h1 h2 hd hd0 hn
        rcases hcc with g1 | ⟨g1, g2⟩
        · go_wp2
          go_ret2
          exact ⟨by rw [HN.out]; rfl, below_iter _ _ _⟩
        · go_wp2
          go_ret2
          exact ⟨by rw [HN.out]; rfl, below_iter _ _ _⟩
    · have hnx := fun ty => run_next_end (P := Tryd.prog) w s pos ty hlt
      have hst := runesF_end s pos hlt
      have h1 := HV.out
      have h2 := HA.out
      rw [hst] at h1 h2
      simp at h1 h2
      have hv : dval (runesF s 0) = v := h1
      have HV2 := hidP hv
      have hall : (runesF s 0).all isDig = true := by rw [List.all_eq_true]; simpa using h2
      have HAL := hidP hall
      clear hst h1 h2 hv hall
      by_cases h0 : s.size = 0
      · have hs : s = ⟨#[]⟩ := ByteArray.ext (Array.eq_empty_of_size_eq_zero h0)
        have hn : numR s = (0, false) := by simp [numR, h0]
        have HN := hidP hn
        have t0 : s.toList.isEmpty = true := by rw [Lib.toList_data, hs]; rfl
        clear hn hs
        go_wp2
        go_ret2
        exact ⟨by rw [HN.out]; rfl, below_iter _ _ _⟩
      · have hs : ¬ s = ⟨#[]⟩ := fun e => h0 (by rw [e]; rfl)
        have t0 : s.toList.isEmpty = false := by
          rw [Lib.toList_data]
          exact nonempty_toList h0
        by_cases h4 : 4 < s.size
        · have hn : numR s = (0, false) := by
            have : ¬ s.size ≤ 4 := by omega
            simp [numR, this]
          have HN := hidP hn
          clear hn hs
          go_wp2
          go_ret2
          exact ⟨by rw [HN.out]; rfl, below_iter _ _ _⟩
        · have hn : numR s = (v, true) := by
            unfold numR
            rw [if_pos, HV2.out]
            rw [HAL.out]
            simp
            omega
          have HN := hidP hn
          clear hn hs
          go_wp2
          go_ret2
          exact ⟨by rw [HN.out]; rfl, below_iter _ _ _⟩

def regR (c : Int) : Int × Bool := if 97 ≤ c ∧ c ≤ 102 then (c - 97, true) else (0, false)
def nameR (r : Int) : Int × Bool := if 0 ≤ r ∧ r ≤ 5 then (97 + r, true) else (0, false)
def namesB : ByteArray := ⟨#[97, 98, 99, 100, 101, 102]⟩
theorem names_next (k : Nat) (h : k < 6) (w : World) (ty : TypeId) : (Instr.next (.pointer (some ⟨w.heap.size, 0, none⟩)) true ty).run Tryd.prog (w.iter namesB k) = .ok (.tuple #[.bool true, .int .i64 k, .int .i32 (97 + (k : Int))]) (w.iter namesB (k + 1)) := by
  have hb : ((namesB[k]'h).toNat : Int) = 97 + (k : Int) := by
    match k, h with
    | 0, _ => rfl
    | 1, _ => rfl
    | 2, _ => rfl
    | 3, _ => rfl
    | 4, _ => rfl
    | 5, _ => rfl
  have := run_next_ascii (P := Tryd.prog) w namesB k ty h (by omega)
  rw [this, hb]

set_option maxRecDepth 100000 in
set_option maxHeartbeats 800000 in
theorem reg_any (c : Int) (w : World) :
    Calls Tryd.prog 96 #[.int .i32 c] w fun e w' => e = .returned (.tuple #[.int .i64 (regR c).1, .bool (regR c).2]) ∧ Below w.heap.size w w' := by
  go_enter Tryd.func96, Tryd.ntmps96
  go_wp2_with fail
  go_loopw [3] (fun _ wr => ∃ k : Nat, k ≤ 6 ∧ Hid (c < 97 ∨ 97 + (k : Int) ≤ c) ∧ wr = w.iter namesB k) (fun _ wr => 6 - wr.iterPos w.heap.size)
  case atStart => exact ⟨0, by omega, by show c < 97 ∨ 97 + ((0 : Nat) : Int) ≤ c; omega, rfl⟩
  case round =>
    obtain ⟨k, hk, HK, rfl⟩ := hrel
    by_cases hlt : k < 6
    · have hnx := fun ty => names_next k hlt w ty
      by_cases he : c = 97 + (k : Int)
      · have hn : regR c = ((k : Int), true) := by unfold regR; rw [if_pos (by omega)]; simp; omega
        have HN := hidP hn
        have t : ((97 + (k : Int)) == c) = true := by simp; omega
        clear he hn
        go_wp2
        go_ret2
        exact ⟨by rw [HN.out]; rfl, below_iter _ _ _⟩
      · have t : ((97 + (k : Int)) == c) = false := by simp; omega
        have HK2 : Hid (c < 97 ∨ 97 + ((k + 1 : Nat) : Int) ≤ c) := by have := HK.out; show _ ∨ _; omega
        clear he
        go_wp2
        go_roundw
        case rel => exact ⟨k + 1, by omega, HK2, rfl⟩
        case measure => simp; omega
    · have hn : regR c = (0, false) := by
        have := HK.out
        unfold regR
        rw [if_neg (by omega)]
      have HN := hidP hn
      have hnx := fun ty => run_next_end (P := Tryd.prog) w namesB k ty (by show ¬ k < 6; omega)
      clear hn
      go_wp2
      go_ret2
      exact ⟨by rw [HN.out]; rfl, below_iter _ _ _⟩

set_option maxRecDepth 100000 in
set_option maxHeartbeats 800000 in
theorem name_any (r : Int) (w : World) :
    Calls Tryd.prog 63 #[.int .i64 r] w fun e w' => e = .returned (.tuple #[.int .i32 (nameR r).1, .bool (nameR r).2]) ∧ Below w.heap.size w w' := by
  go_enter Tryd.func63, Tryd.ntmps63
  go_wp2_with fail
  go_loopw [3] (fun _ wr => ∃ k : Nat, k ≤ 6 ∧ Hid (r < 0 ∨ (k : Int) ≤ r) ∧ wr = w.iter namesB k) (fun _ wr => 6 - wr.iterPos w.heap.size)
  case atStart => exact ⟨0, by omega, by show r < 0 ∨ ((0 : Nat) : Int) ≤ r; omega, rfl⟩
  case round =>
    obtain ⟨k, hk, HK, rfl⟩ := hrel
    by_cases hlt : k < 6
    · have hnx := fun ty => names_next k hlt w ty
      by_cases he : r = (k : Int)
      · have hn : nameR r = (97 + (k : Int), true) := by unfold nameR; rw [if_pos (by omega), he]
        have HN := hidP hn
        have t : ((k : Int) == r) = true := by simp [he]
        clear he hn
        go_wp2
        go_ret2
        exact ⟨by rw [HN.out]; rfl, below_iter _ _ _⟩
      · have t : ((k : Int) == r) = false := by simp; omega
        have HK2 : Hid (r < 0 ∨ ((k + 1 : Nat) : Int) ≤ r) := by have := HK.out; show _ ∨ _; omega
        clear he
        go_wp2
        go_roundw
        case rel => exact ⟨k + 1, by omega, HK2, rfl⟩
        case measure => simp; omega
    · have hn : nameR r = (0, false) := by
        have := HK.out
        unfold nameR
        rw [if_neg (by omega)]
      have HN := hidP hn
      have hnx := fun ty => run_next_end (P := Tryd.prog) w namesB k ty (by show ¬ k < 6; omega)
      clear hn
      go_wp2
      go_ret2
      exact ⟨by rw [HN.out]; rfl, below_iter _ _ _⟩
end Go.Proofs.YtoflhfiegfhkoaaDoor
