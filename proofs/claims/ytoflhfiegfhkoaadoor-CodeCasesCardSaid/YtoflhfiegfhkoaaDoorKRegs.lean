/-
  The walk of the law CheckRegs.
-/
import Derived.Test.YtoflhfiegfhkoaaDoorKTells
namespace Go.Proofs.YtoflhfiegfhkoaaDoor
open Go.RowKit Go.Proofs.YtoflhfiegfhkoaaDoorW.PrintWords
set_option linter.unusedVariables false

theorem modK (n : Int) (k : Nat) (hk : 0 < k) (hk1 : k < 4294967296) : ∃ r : Nat, (IntKind.u64.wrap n).tmod (k : Int) = (r : Int) ∧ r < k ∧ wrap64 (r : Int) = (r : Int) := by
  have h : 0 ≤ IntKind.u64.wrap n := by rw [IntKind.wrap_u64]; omega
  obtain ⟨m, hm⟩ := Int.eq_ofNat_of_zero_le h
  have hlt := Nat.mod_lt m hk
  refine ⟨m % k, ?_, hlt, IntWalk.wrap64_in _ (by omega)⟩
  rw [hm, Int.tmod_eq_emod_of_nonneg (by omega)]
  simp
def namedB (K : Int) : Bool := K == 2 || K == 3 || K == 5 || K == 6 || K == 8 || K == 9 || K == 15 || K == 16 || K == 17
def okB (a b : Int) : Bool := decide (0 ≤ a) && decide (a < 6) && decide (0 ≤ b) && decide (b < 6)
def regsChk (K a b : Int) : Bool := let e := (validR [⟨K, a, b, 0, []⟩]).2; if namedB K then (e == 0) == okB a b else b == 0 || e == 5
theorem regs_all : ((List.range 22).all fun K => (List.range 17).all fun A => (List.range 17).all fun B => regsChk (1 + (K : Int)) ((A : Int) - 8) ((B : Int) - 8)) = true := by decide +kernel
theorem regs_any (K a b : Int) (hK : 1 ≤ K ∧ K ≤ 22) (ha : -8 ≤ a ∧ a ≤ 8) (hb : -8 ≤ b ∧ b ≤ 8) :
    (namedB K = true → ((validR [⟨K, a, b, 0, []⟩]).2 == 0) = okB a b) ∧ (namedB K = false → b = 0 ∨ (validR [⟨K, a, b, 0, []⟩]).2 = 5) := by
  have h := regs_all
  rw [List.all_eq_true] at h
  have h := h (K - 1).toNat (List.mem_range.2 (by omega))
  rw [List.all_eq_true] at h
  have h := h (a + 8).toNat (List.mem_range.2 (by omega))
  rw [List.all_eq_true] at h
  have h := h (b + 8).toNat (List.mem_range.2 (by omega))
  rw [show 1 + ((K - 1).toNat : Int) = K by omega, show ((a + 8).toNat : Int) - 8 = a by omega, show ((b + 8).toNat : Int) - 8 = b by omega] at h
  unfold regsChk at h
  dsimp only at h
  constructor
  · intro hn
    rw [hn, if_pos rfl] at h
    exact eq_of_beq h
  · intro hn
    rw [hn, if_neg (by simp)] at h
    simpa using h

set_option maxRecDepth 100000 in
set_option maxHeartbeats 6400000 in
theorem checkRegs_any (o a b : Int) (hao : -9223372036854775808 ≤ a ∧ a ≤ 9223372036854775807) (hbo : -9223372036854775808 ≤ b ∧ b ≤ 9223372036854775807) (w : World) (he : Env w) : Calls Tryd.prog 7 #[.int .i64 o, .int .i64 a, .int .i64 b] w fun e w' => e = .returned (.bool true) ∧ Below w.heap.size w w' := by
  obtain ⟨K0, hK1, hK2, hK3⟩ := modK o 22 (by omega) (by omega)
  have hK1' : (IntKind.u64.wrap o).tmod 22 = (K0 : Int) := hK1
  obtain ⟨K, hK⟩ : ∃ K : Int, 1 + (K0 : Int) = K := ⟨_, rfl⟩
  have hw1 : IntKind.i64.wrap (1 + (K0 : Int)) = K := by rw [IntWalk.i64_in _ (by omega), hK]
  have hKb : 1 ≤ K ∧ K ≤ 22 := by omega
  have hra : -8 ≤ a.tmod 9 ∧ a.tmod 9 ≤ 8 := by have h1 := Int.tmod_lt_of_pos a (show (0 : Int) < 9 by omega); have h2 := Int.lt_tmod_of_pos a (show (0 : Int) < 9 by omega); omega
  have hrb : -8 ≤ b.tmod 9 ∧ b.tmod 9 ≤ 8 := by have h1 := Int.tmod_lt_of_pos b (show (0 : Int) < 9 by omega); have h2 := Int.lt_tmod_of_pos b (show (0 : Int) < 9 by omega); omega
  obtain ⟨x, hx⟩ : ∃ x, a.tmod 9 = x := ⟨_, rfl⟩
  obtain ⟨y, hy⟩ : ∃ y, b.tmod 9 = y := ⟨_, rfl⟩
  rw [hx] at hra
  rw [hy] at hrb
  have hwx : IntKind.i64.wrap x = x := IntWalk.i64_in _ (by omega)
  have hwy : IntKind.i64.wrap y = y := IntWalk.i64_in _ (by omega)
  have hall := regs_any K x y hKb hra hrb
  have hev := lookR_cases ⟨K, x, y, 0, []⟩ 1
  obtain ⟨⟨va, ve⟩, hV⟩ : ∃ V, validR [⟨K, x, y, 0, []⟩] = V := ⟨_, rfl⟩
  have hval := fun w2 (hb : Below w.heap.size w w2) => valid_any (some ⟨w2.heap.size, 0, none⟩) 1 [⟨K, x, y, 0, []⟩] (w2.alloc (.cells (plainI [⟨K, x, y, 0, []⟩]).toArray 37)) ((he.below hb).below (bnew (brefl w2) _)).bl (plain_reads w2 [⟨K, x, y, 0, []⟩] (by simp) (by simp)) (by simp)
  have hrval := fun w2 => rvalid_any (some ⟨w2.heap.size, 0, none⟩) 1 [⟨K, x, y, 0, []⟩] (w2.alloc (.cells (plainI [⟨K, x, y, 0, []⟩]).toArray 37)) (plain_reads w2 [⟨K, x, y, 0, []⟩] (by simp) (by simp)) (by simp)
  have haw := fun w1 (hb : Below w.heap.size w w1) => awake03_any w1 (he.below hb)
  rw [hV] at hall
  simp only [hV] at hval hrval
  have hp : (plainI [⟨K, x, y, 0, []⟩]).toArray = #[.int .i64 K, .int .i64 x, .int .i64 y, .int .i64 0, .slice none 0 0] := rfl
  simp only [hp, show [(⟨K, x, y, 0, []⟩ : InstrD)].length = 1 from rfl] at hval hrval
  have HVAL := hidP hval
  have HRVAL := hidP hrval
  have HAW := hidP haw
  have HALL := hidP hall
  have hb1 := bnew (brefl w) (.cells #[.int .i64 K, .int .i64 x, .int .i64 y, .int .i64 0, .slice none 0 0] 37)
  have hn1 := blk_new w (.cells #[.int .i64 K, .int .i64 x, .int .i64 y, .int .i64 0, .slice none 0 0] 37)
  clear hval hrval haw hV hall hp hev he hra hrb hK hK1 hK2
  go_enter Tryd.func7, Tryd.ntmps7
  go_upto_region 4 with fail
  generalize hw9 : w.alloc (.cells #[.int .i64 K, .int .i64 x, .int .i64 y, .int .i64 0, .slice none 0 0] 37) = w1 at *
  clear hw9 hw1 hx hy hwx hwy hK1' hK3
  obtain ⟨x0, x1, x2, x3, x4⟩ := five_cells hn1
  have hl1 := blk_lt hn1
  go_wp2_with fail
  refine (HVAL.out _ hb1).mono ?_
  rintro e w2 ⟨rfl, hb2⟩
  have hB2 := bstep (bnew hb1 _) hb2
  have hn2 := blk_below (blk_alloc hn1 (.cells #[.int .i64 K, .int .i64 x, .int .i64 y, .int .i64 0, .slice none 0 0] 37)) hb2
  clear x0 x1 x2 x3 x4 hn1 hb2 hl1 hb1 HVAL
  obtain ⟨x0, x1, x2, x3, x4⟩ := five_cells hn2
  have hl2 := blk_lt hn2
  go_wp2_with fail
  refine (HRVAL.out _).mono ?_
  rintro e w3 ⟨rfl, hb3⟩
  have hB3 := bstep (bnew hB2 _) hb3
  have HB3 := hidP hB3
  have HAW3 := hidP (HAW.out _ hB3)
  clear x0 x1 x2 x3 x4 hn2 hB2 hb3 hB3 hl2 HRVAL HAW
  obtain ⟨NM, hNM⟩ : ∃ NM, namedB K = NM := ⟨_, rfl⟩
  obtain ⟨OK, hOK⟩ : ∃ OK, okB x y = OK := ⟨_, rfl⟩
  have hall := HALL.out
  rw [hNM, hOK] at hall
  have HA := hidP hall
  have HNM := hidP hNM
  have HOK := hidP hOK
  clear hall HALL hNM hOK
  go_upto_region 6 with fail
  go_cut [12] from 39 to 72 (fun v12 wx => v12 = .bool NM ∧ w3 = wx)
  case first =>
    clear HA HOK HB3 HAW3
    have hk : K = 1 ∨ K = 2 ∨ K = 3 ∨ K = 4 ∨ K = 5 ∨ K = 6 ∨ K = 7 ∨ K = 8 ∨ K = 9 ∨ K = 10 ∨ K = 11 ∨ K = 12 ∨ K = 13 ∨ K = 14 ∨ K = 15 ∨ K = 16 ∨ K = 17 ∨ K = 18 ∨ K = 19 ∨ K = 20 ∨ K = 21 ∨ K = 22 := by omega
    clear hKb
    rcases hk with rfl | rfl | rfl | rfl | rfl | rfl | rfl | rfl | rfl | rfl | rfl | rfl | rfl | rfl | rfl | rfl | rfl | rfl | rfl | rfl | rfl | rfl
    all_goals
      go_wp2_with fail
      go_meet
      exact ⟨by rw [← HNM.out]; rfl, rfl⟩
  case rest =>
  obtain ⟨rfl, rfl⟩ := hcut
  go_upto_region 7 with fail
  go_cut [13] from 73 to 86 (fun v13 wx => v13 = .bool OK ∧ w3 = wx)
  case first =>
    clear HA HNM HB3 HAW3
    have hok := HOK.out
    unfold okB at hok
    have hxy : ¬ 0 ≤ x ∨ 0 ≤ x ∧ ¬ x < 6 ∨ 0 ≤ x ∧ x < 6 ∧ ¬ 0 ≤ y ∨ 0 ≤ x ∧ x < 6 ∧ 0 ≤ y ∧ ¬ y < 6 ∨ 0 ≤ x ∧ x < 6 ∧ 0 ≤ y ∧ y < 6 := by omega
    rcases hxy with h1 | ⟨h1, h2⟩ | ⟨h1, h2, h3⟩ | ⟨h1, h2, h3, h4⟩ | ⟨h1, h2, h3, h4⟩
    · have HE : Hid (false = OK) := by show _ = _; rw [← hok]; simp [h1]
      clear hok
      go_wp2_with fail
      go_meet
      exact ⟨by rw [← HE.out], rfl⟩
    · have HE : Hid (false = OK) := by show _ = _; rw [← hok]; simp [h2]
      have t2 : decide (x < 6) = false := decide_eq_false h2
      clear hok h2
      go_wp2_with fail
      go_meet
      exact ⟨by rw [← HE.out], rfl⟩
    · have HE : Hid (false = OK) := by show _ = _; rw [← hok]; simp [h3]
      have t3 : decide (0 ≤ y) = false := decide_eq_false h3
      clear hok h3
      go_wp2_with fail
      go_meet
      exact ⟨by rw [← HE.out], rfl⟩
    · have HE : Hid (false = OK) := by show _ = _; rw [← hok]; simp [h4]
      have t4 : decide (y < 6) = false := decide_eq_false h4
      clear hok h4
      go_wp2_with fail
      go_meet
      exact ⟨by rw [← HE.out], rfl⟩
    · have HE : Hid (true = OK) := by show _ = _; rw [← hok]; simp [h1, h2, h3, h4]
      clear hok
      go_wp2_with fail
      go_meet
      exact ⟨by rw [← HE.out], rfl⟩
  case rest =>
  obtain ⟨rfl, rfl⟩ := hcut
  go_wp2_with fail
  refine HAW3.out.mono ?_
  rintro e w4 ⟨rfl, hb4⟩
  have HB4 := hidP (bstep HB3.out hb4)
  obtain ⟨hn1, hn2⟩ := HA.out
  clear HA HAW3 HB3 hb4
  cases NM
  · have h := hn2 rfl
    clear hn1 hn2
    by_cases h0 : y = 0
    · have t0 : (y == 0) = true := by simp [h0]
      clear h0 h
      go_wp2
      go_ret
      exact ⟨rfl, HB4.out⟩
    · have t0 : (y == 0) = false := by simp [h0]
      have t5 : (ve == 5) = true := by rcases h with h | h; exact absurd h h0; simpa using h
      clear h0 h
      go_wp2
      go_ret
      exact ⟨rfl, HB4.out⟩
  · have t0 : (ve == 0) = OK := hn1 rfl
    clear hn1 hn2
    go_wp2
    go_ret
    exact ⟨rfl, HB4.out⟩
theorem checkRegsW (W : World) (a0 : Int) (b0 : -9223372036854775808 ≤ a0 ∧ a0 ≤ 9223372036854775807) (a1 : Int) (b1 : -9223372036854775808 ≤ a1 ∧ a1 ≤ 9223372036854775807) (a2 : Int) (b2 : -9223372036854775808 ≤ a2 ∧ a2 ≤ 9223372036854775807) (he : Env W) :
    Calls Tryd.prog 7 #[.int .i64 a0, .int .i64 a1, .int .i64 a2] W fun e w' => e = .returned (.bool true) ∧ Below W.heap.size W w' := checkRegs_any a0 a1 a2 b1 b2 W he
end Go.Proofs.YtoflhfiegfhkoaaDoor
