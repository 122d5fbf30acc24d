/-
  The walk over the reference's written.
-/
import Derived.Test.YtoflhfiegfhkoaaDoorKWri3
import Derived.Test.YtoflhfiegfhkoaaDoorKRefD
import Derived.Test.YtoflhfiegfhkoaaDoorKOpen
namespace Go.Proofs.YtoflhfiegfhkoaaDoor
open Go.RowKit Go.Proofs.YtoflhfiegfhkoaaDoorW.PrintWords
set_option linter.unusedVariables false
set_option linter.unusedSimpArgs false

theorem conv_one (n : Nat) (hn : n < 256) (b c : Nat) (w : World) (h : w.cell? ⟨b, 0, none⟩ = some (.int .u8 (n : Int))) : (convert 47 9 (.slice (some ⟨b, 0, none⟩) 1 c)).run Tryd.prog w = .ok (.string (strA [n])) w := by
  refine run_convert_bytes_back w _ _ 5 ⟨b, 0, none⟩ c [UInt8.ofNat n] Tryd.underlying47 Tryd.underlying5 Tryd.underlying9 ?_
  intro j hj
  simp at hj
  subst hj
  have e : (⟨b, 0, none⟩ : Addr).add 0 = ⟨b, 0, none⟩ := by simp [Addr.add]
  have e2 : ((UInt8.ofNat n).toNat : Int) = (n : Int) := by
    have : (UInt8.ofNat n).toNat = n := by simp; omega
    rw [this]
  rw [e, h]
  simp only [List.getElem_cons_zero]
  rw [e2]

set_option maxRecDepth 100000 in
set_option maxHeartbeats 1600000 in
theorem rletter_any (r : Int) (w : World) : Calls Tryd.prog 68 #[.int .i64 r] w fun e w' => e = .returned (.string (strA [letterN r])) ∧ Below w.heap.size w w' := by
  by_cases h0 : r < 0
  · have e : letterN r = 63 := by unfold letterN; rw [if_pos (.inl h0)]
    rw [e]
    clear e
    go_enter Tryd.func68, Tryd.ntmps68
    go_wp2
    go_ret
    exact ⟨rfl, brefl _⟩
  · by_cases h6 : 6 ≤ r
    · have e : letterN r = 63 := by unfold letterN; rw [if_pos (.inr h6)]
      rw [e]
      clear e
      go_enter Tryd.func68, Tryd.ntmps68
      go_wp2
      go_ret
      exact ⟨rfl, brefl _⟩
    · obtain ⟨m, hm⟩ : ∃ m : Nat, 97 + r = (m : Int) := ⟨(97 + r).toNat, by omega⟩
      have e : letterN r = m := by unfold letterN; rw [if_neg (by omega)]; omega
      have hw1 : IntKind.i64.wrap (97 + r) = (m : Int) := by rw [hm]; exact IntWalk.i64_in _ (by omega)
      have hu : IntKind.u8.wrap (m : Int) = (m : Int) := by rw [IntKind.wrap_u8]; omega
      have hcv := conv_one m (by omega) w.heap.size 1 (w.alloc (.cells #[.int .u8 (m : Int)] 5)) (by go_simp)
      have h6' : decide (6 ≤ r) = false := decide_eq_false h6
      rw [e]
      clear e hm
      go_enter Tryd.func68, Tryd.ntmps68
      go_wp2
      go_ret
      exact ⟨rfl, bnew (brefl w) _⟩

theorem strA_app (a b : List Nat) : strA a ++ strA b = strA (a ++ b) := by
  apply ByteArray.ext
  unfold strA
  simp
theorem decN_big {n : Nat} (h : ¬ n < 10) : decN n = decN (n / 10) ++ [48 + n % 10] := by
  unfold decN
  rw [digs_big h, List.map_append]
  rfl
def DigPost (w : World) (v : Int) (k : Nat) (e : Ending) (w' : World) : Prop := ∃ t : List Nat, e = .returned (.string (strA t)) ∧ t.length ≤ k ∧ (0 ≤ v → t = decN v.toNat) ∧ Below w.heap.size w w'

set_option maxRecDepth 100000 in
set_option maxHeartbeats 3200000 in
theorem rdig_small (v : Int) (h : -10 < v ∧ v < 10) (w : World) : Calls Tryd.prog 28 #[.int .i64 v] w (DigPost w v 2) := by
  by_cases h0 : v < 0
  · obtain ⟨m, hm⟩ : ∃ m : Nat, 48 - v = (m : Int) := ⟨(48 - v).toNat, by omega⟩
    have hw1 : IntKind.i64.wrap (48 - v) = (m : Int) := by rw [hm]; exact IntWalk.i64_in _ (by omega)
    have hu : IntKind.u8.wrap (m : Int) = (m : Int) := by rw [IntKind.wrap_u8]; omega
    have hcv := conv_one m (by omega) w.heap.size 1 (w.alloc (.cells #[.int .u8 (m : Int)] 5)) (by go_simp)
    have h9 : ¬ v < -9 := by omega
    have hs1 := strA_size [m]
    have hap := strA_app [45] [m]
    have e45 : strA [45] = ⟨#[45]⟩ := rfl
    rw [e45] at hap
    have H0 := hidP h0
    clear hm h
    go_enter Tryd.func28, Tryd.ntmps28
    go_wp2
    go_ret
    exact ⟨[45] ++ [m], rfl, by simp, fun h => absurd H0.out (by omega), bnew (brefl w) _⟩
  · obtain ⟨m, hm⟩ : ∃ m : Nat, v = (m : Int) := ⟨v.toNat, by omega⟩
    subst hm
    have hm10 : m < 10 := by omega
    have hw1 : IntKind.i64.wrap (48 + (m : Int)) = ((48 + m : Nat) : Int) := by rw [IntWalk.i64_in _ (by omega)]; omega
    have hu : IntKind.u8.wrap ((48 + m : Nat) : Int) = ((48 + m : Nat) : Int) := by rw [IntKind.wrap_u8]; omega
    have hcv := conv_one (48 + m) (by omega) w.heap.size 1 (w.alloc (.cells #[.int .u8 ((48 + m : Nat) : Int)] 5)) (by go_simp)
    obtain ⟨M, hM⟩ : ∃ M, 48 + m = M := ⟨_, rfl⟩
    rw [hM] at hw1 hu hcv
    have HD := hidP (show decN m = [M] by rw [dec_one hm10, hM])
    have g1 : (m : Int) < 10 := by omega
    clear hM h
    go_enter Tryd.func28, Tryd.ntmps28
    go_wp2
    go_ret
    exact ⟨[M], rfl, by simp, fun _ => HD.out.symm, bnew (brefl w) _⟩

set_option maxRecDepth 100000 in
set_option maxHeartbeats 6400000 in
theorem rdig_any : ∀ (k : Nat), k ≤ 30 → ∀ (v : Int), v.natAbs < 10 ^ (k + 1) → inI v → ∀ w : World, Calls Tryd.prog 28 #[.int .i64 v] w (DigPost w v (k + 2)) := by
  intro k
  induction k with
  | zero => intro _ v h _ w; exact rdig_small v (by omega) w
  | succ k ih =>
    intro hk30 v hv hin w
    have ih2 := ih (by omega)
    clear ih
    by_cases hs : -10 < v ∧ v < 10
    · refine (rdig_small v hs w).mono ?_
      rintro e w' ⟨t, rfl, hl, hd, hb⟩
      exact ⟨t, rfl, by omega, hd, hb⟩
    · obtain ⟨hi1, hi2⟩ := hin
      have hp : 10 ^ (k + 1 + 1) = 10 ^ (k + 1) * 10 := Nat.pow_succ ..
      by_cases h0 : v < 0
      · obtain ⟨m, rfl⟩ : ∃ m : Nat, v = -(m : Int) := ⟨(-v).toNat, by omega⟩
        have hm10 : 10 ≤ m := by omega
        have hq : (-(m : Int)).tdiv 10 = -((m / 10 : Nat) : Int) := by rw [Int.neg_tdiv, Int.tdiv_eq_ediv_of_nonneg (by omega)]; omega
        have hr : (-(m : Int)).tmod 10 = -((m % 10 : Nat) : Int) := by rw [Int.neg_tmod, Int.tmod_eq_emod_of_nonneg (by omega)]; omega
        have ihq := fun w => ih2 (-((m / 10 : Nat) : Int)) (by omega) ⟨by omega, by omega⟩ w
        have hr1 : m % 10 < 10 := by omega
        have hqb : m / 10 ≤ 922337203685477580 := by omega
        have g0 : -(m : Int) < 0 := h0
        have g9 : -(m : Int) < -9 := by omega
        generalize m / 10 = q at *
        generalize m % 10 = r at *
        obtain ⟨Q, hQ⟩ : ∃ Q, -(q : Int) = Q := ⟨_, rfl⟩
        obtain ⟨R, hR⟩ : ∃ R, -(r : Int) = R := ⟨_, rfl⟩
        rw [hQ] at hq ihq
        rw [hR] at hr
        have hw1 : IntKind.i64.wrap Q = Q := IntWalk.i64_in _ (by omega)
        have hw2 : IntKind.i64.wrap R = R := IntWalk.i64_in _ (by omega)
        have hw3 : IntKind.i64.wrap (48 - R) = ((48 + r : Nat) : Int) := by rw [IntWalk.i64_in _ (by omega)]; omega
        have hu : IntKind.u8.wrap ((48 + r : Nat) : Int) = ((48 + r : Nat) : Int) := by rw [IntKind.wrap_u8]; omega
        have hcv := fun b c w => conv_one (48 + r) (by omega) b c w
        obtain ⟨M, hM⟩ : ∃ M, 48 + r = M := ⟨_, rfl⟩
        rw [hM] at hw3 hu
        simp only [hM] at hcv
        obtain ⟨V, hV⟩ : ∃ V, -(m : Int) = V := ⟨_, rfl⟩
        rw [hV] at hq hr g0 g9 ⊢
        have IH := hidP ihq
        have H0 := hidP h0
        have HKK := hidP hk30
        clear ih2 ihq hp hv hM hR hQ hs hi1 hi2 hV hqb hr1 hm10 h0
        go_enter Tryd.func28, Tryd.ntmps28
        go_upto_region 3 with fail
        have hds := strA_size [M]
        go_region_law (first | (go_simp; go_at_call 28; refine (IH.out _).mono ?_; rintro e w1 ⟨t, rfl, hl, hd, hb1⟩; have HDD := hidP hd; clear hd; obtain ⟨hcb, _⟩ := bcell hb1; have hsz := strA_size t; have hap := strA_app t [M]; have hcc : ¬ (9223372036854775807 < t.length + 1) := by have := HKK.out; omega) | fail)
        all_goals
          go_wp2
          go_ret
          refine ⟨t ++ [M], rfl, by simp; omega, fun h => absurd H0.out (by omega), ?_⟩
          first
            | exact bnew ((brefl w).drew.trans hb1) _
            | exact hb1.drew
            | exact (bnew (brefl w) _).trans (hb1.mono (by simp))
            | exact (bnew (brefl w) _).drew.trans (hb1.mono (by simp))
      · obtain ⟨m, rfl⟩ : ∃ m : Nat, v = (m : Int) := ⟨v.toNat, by omega⟩
        have hm10 : ¬ m < 10 := by omega
        have hq : (m : Int).tdiv 10 = ((m / 10 : Nat) : Int) := by rw [Int.tdiv_eq_ediv_of_nonneg (by omega)]; omega
        have hr : (m : Int).tmod 10 = ((m % 10 : Nat) : Int) := by rw [Int.tmod_eq_emod_of_nonneg (by omega)]; omega
        have ihq := fun w => ih2 ((m / 10 : Nat) : Int) (by omega) ⟨by omega, by omega⟩ w
        have hbig := decN_big hm10
        have hr1 : m % 10 < 10 := by omega
        have hqb : m / 10 ≤ 922337203685477580 := by omega
        have g0 : ¬ (m : Int) < 0 := by omega
        have g9 : ¬ (m : Int) < 10 := by omega
        generalize m / 10 = q at *
        generalize m % 10 = r at *
        have hw1 : IntKind.i64.wrap (q : Int) = (q : Int) := IntWalk.i64_in _ (by omega)
        have hw2 : IntKind.i64.wrap (r : Int) = (r : Int) := IntWalk.i64_in _ (by omega)
        have hw3 : IntKind.i64.wrap (48 + (r : Int)) = ((48 + r : Nat) : Int) := by rw [IntWalk.i64_in _ (by omega)]; omega
        have hu : IntKind.u8.wrap ((48 + r : Nat) : Int) = ((48 + r : Nat) : Int) := by rw [IntKind.wrap_u8]; omega
        have hcv := fun b c w => conv_one (48 + r) (by omega) b c w
        obtain ⟨M, hM⟩ : ∃ M, 48 + r = M := ⟨_, rfl⟩
        rw [hM] at hw3 hu hbig
        simp only [hM] at hcv
        have IH := hidP ihq
        have HKK := hidP hk30
        have HBIG := hidP hbig
        clear ih2 ihq hp hv hM hs hi1 hi2 hqb hr1 hm10 h0 hbig
        go_enter Tryd.func28, Tryd.ntmps28
        go_upto_region 7 with fail
        have hds := strA_size [M]
        go_region_law (first | (go_simp; go_at_call 28; refine (IH.out _).mono ?_; rintro e w1 ⟨t, rfl, hl, hd, hb1⟩; have HDD := hidP hd; clear hd; obtain ⟨hcb, _⟩ := bcell hb1; have hsz := strA_size t; have hap := strA_app t [M]; have hcc : ¬ (9223372036854775807 < t.length + 1) := by have := HKK.out; omega) | fail)
        all_goals
          go_wp2
          go_ret
          refine ⟨t ++ [M], rfl, by simp; omega, fun _ => by rw [HDD.out (by omega)]; exact HBIG.out.symm, ?_⟩
          first
            | exact bnew ((brefl w).drew.trans hb1) _
            | exact hb1.drew
            | exact (bnew (brefl w) _).trans (hb1.mono (by simp))
            | exact (bnew (brefl w) _).drew.trans (hb1.mono (by simp))
/-- Digits of any number. -/
theorem rdigits_any (v : Int) (hv : inI v) (w : World) : Calls Tryd.prog 28 #[.int .i64 v] w (DigPost w v 21) := by
  obtain ⟨h1, h2⟩ := hv
  exact rdig_any 19 (by omega) v (by omega) ⟨h1, h2⟩ w
end Go.Proofs.YtoflhfiegfhkoaaDoor
namespace Go.Proofs.YtoflhfiegfhkoaaDoor
open Go.RowKit Go.Proofs.YtoflhfiegfhkoaaDoorW.PrintWords
set_option linter.unusedVariables false
set_option linter.unusedSimpArgs false

def WrPost (w : World) (x : InstrD) (e : Ending) (w' : World) : Prop := ∃ t : List Nat, e = .returned (.string (strA t)) ∧ t.length ≤ 24 * (x.cases.length + 2) ∧ (rshaped x = true → t = rW x) ∧ Below w.heap.size w w'

set_option maxRecDepth 100000 in
set_option maxHeartbeats 12800000 in
theorem rwritten_choose (xa xb xn : Int) (cs : List CaseD) (A : Option Addr) (d : Nat) (w : World) (hc : kC.C w A cs.length cs) (hcl : cs.length ≤ 1000) (hci : ∀ c ∈ cs, caseIn c) :
    Calls Tryd.prog 46 #[instrV ⟨21, xa, xb, xn, cs⟩ (.slice A cs.length d)] w (WrPost w ⟨21, xa, xb, xn, cs⟩) := by
  simp only [instrV]
  have HC := hidP hc
  have HCI := hidP hci
  have hgood : rshaped ⟨21, xa, xb, xn, cs⟩ = true → ∀ c ∈ cs, caseSt c := fun h c hcm => by
    rw [rshaped_21 rfl] at h
    obtain ⟨j, hj⟩ := List.getElem?_of_mem hcm
    exact (h.2 j c hj).1
  have HGOOD := hidP hgood
  obtain ⟨n, hn⟩ : ∃ n, cs.length = n := ⟨_, rfl⟩
  rw [hn] at hcl ⊢
  have HN := hidP hn
  have hb1 := bnew (brefl w) (.cells #[.int .i64 21, .int .i64 xa, .int .i64 xb, .int .i64 xn, .slice A n d] 37)
  have hn1 := blk_new w (.cells #[.int .i64 21, .int .i64 xa, .int .i64 xb, .int .i64 xn, .slice A n d] 37)
  clear hc hn hci hgood
  go_enter Tryd.func46, Tryd.ntmps46
  go_upto_region 1 with fail
  generalize hw1 : w.alloc (.cells #[.int .i64 21, .int .i64 xa, .int .i64 xb, .int .i64 xn, .slice A n d] 37) = w1 at *
  clear hw1
  obtain ⟨x0, x1, x2, x3, x4⟩ := five_cells hn1
  have hl1 : w.heap.size < w1.heap.size := blk_lt hn1
  go_wp2_with fail
  go_loopw [3, 4] (fun v3 v4 wr => ∃ (k : Nat) (T : List Nat), v3 = .string (strA T) ∧ v4 = .int .i64 k ∧ k ≤ n ∧ T.length ≤ 1 + 24 * k ∧ Hid ((∀ c ∈ cs.take k, caseSt c) → T = 83 :: (cs.take k).flatMap caseW) ∧ Below w1.heap.size w1 wr) (fun _ v4 _ => n - (intOf v4).toNat)
  case atStart => exact ⟨0, [83], rfl, rfl, by omega, by simp, fun _ => rfl, brefl _⟩
  case round =>
    clear x0 x1 x2 x3 x4
    obtain ⟨k, T, rfl, rfl, hk, hT, HT, hb⟩ := hrel
    obtain ⟨w2, e2⟩ : ∃ w2, w2 = wr := ⟨_, rfl⟩
    subst e2
    have hn2 := blk_below hn1 hb
    obtain ⟨x0, x1, x2, x3, x4⟩ := five_cells hn2
    have hl2 : w.heap.size < w2.heap.size := blk_lt hn2
    by_cases hlt : k < n
    · obtain ⟨⟨ck, cc, cr, ct⟩, hx⟩ : ∃ x, cs[k]? = some x := ⟨_, List.getElem?_eq_getElem (by rw [HN.out]; exact hlt)⟩
      obtain ⟨b, o, rfl, q0, q1, q2, q3⟩ := case_at (Kd.C_below HC.out (bstep hb1 hb)) k _ hx
      have hin := HCI.out _ (List.mem_of_getElem? hx)
      have hnext : (T' : List Nat) → (T' = T ++ caseW ⟨ck, cc, cr, ct⟩) → (∀ c ∈ cs.take (k + 1), caseSt c) → T' = 83 :: (cs.take (k + 1)).flatMap caseW := fun T' h1 h2 => by
        rw [List.take_add_one, hx] at h2 ⊢
        rw [h1, HT.out (fun c hc => h2 c (List.mem_append_left _ hc))]
        simp
      have hst : (∀ c ∈ cs.take (k + 1), caseSt c) → caseSt ⟨ck, cc, cr, ct⟩ := fun h => h _ (by rw [List.take_add_one, hx]; simp)
      dsimp only at q0 q1 q2 q3
      have HNX := hidP hnext
      have HST := hidP hst
      have hb3 := bnew hb (.cells #[.int .i64 ck, .int .i64 cc, .int .i64 cr, .int .i64 ct] 39)
      have hn3 := blk_new w2 (.cells #[.int .i64 ck, .int .i64 cc, .int .i64 cr, .int .i64 ct] 39)
      have lt1 : (k : Int) < (n : Int) := by omega
      clear hx hnext hst HT hn2
      go_upto_region 7 with fail
      generalize hw3 : w2.alloc (.cells #[.int .i64 ck, .int .i64 cc, .int .i64 cr, .int .i64 ct] 39) = w3 at *
      clear hw3 x0 x1 x2 x3 x4 q0 q1 q2 q3
      have hG := blk_lt hn3
      obtain ⟨G, hGG⟩ : ∃ G, w2.heap.size = G := ⟨_, rfl⟩
      rw [hGG] at hn3 hG ⊢
      obtain ⟨z0, z1, z2, z3⟩ := four_cells hn3
      obtain ⟨TL, hTL⟩ : ∃ TL, T.length = TL := ⟨_, rfl⟩
      rw [hTL] at hT
      have hs0 := strA_size T
      rw [hTL] at hs0
      have HTL := hidP hTL
      have HDIN : Hid (inI ct) := hin.2.2.2
      clear hin hTL hGG hl2
      by_cases h1 : ck = 1
      · have t1 : (ck == 1) = true := by simp [h1]
        obtain ⟨L1, hL1⟩ : ∃ L1, letterN cc = L1 := ⟨_, rfl⟩
        obtain ⟨L2, hL2⟩ : ∃ L2, letterN cr = L2 := ⟨_, rfl⟩
        have g1 := fun w => rletter_any cc w
        have g2 := fun w => rletter_any cr w
        rw [hL1] at g1
        rw [hL2] at g2
        have G1 := hidP g1
        have G2 := hidP g2
        have HL1 := hidP hL1
        have HL2 := hidP hL2
        have HK1 := hidP h1
        obtain ⟨T1, hT1⟩ : ∃ T1, T ++ [115] = T1 := ⟨_, rfl⟩
        obtain ⟨T2, hT2⟩ : ∃ T2, T1 ++ [L1] = T2 := ⟨_, rfl⟩
        obtain ⟨T3, hT3⟩ : ∃ T3, T2 ++ [L2] = T3 := ⟨_, rfl⟩
        have hap1 : strA T ++ ⟨#[115]⟩ = strA T1 := hT1 ▸ strA_app T [115]
        have hap2 : strA T1 ++ strA [L1] = strA T2 := hT2 ▸ strA_app T1 [L1]
        have hap3 : strA T2 ++ strA [L2] = strA T3 := hT3 ▸ strA_app T2 [L2]
        have hs1 : (strA T1).size = TL + 1 := by rw [strA_size, ← hT1]; simp [HTL.out]
        have hs2 : (strA T2).size = TL + 2 := by rw [strA_size, ← hT2, ← hT1]; simp [HTL.out]
        have hs3 : (strA T3).size = TL + 3 := by rw [strA_size, ← hT3, ← hT2, ← hT1]; simp [HTL.out]
        have HT1 := hidP hT1
        have HT2 := hidP hT2
        have HT3 := hidP hT3
        have hsa := strA_size [L1]
        have hsb := strA_size [L2]
        have hc1 : ¬ (9223372036854775807 < TL + 1) := by omega
        have hc2 : ¬ (9223372036854775807 < TL + 1 + 1) := by omega
        have hc3 : ¬ (9223372036854775807 < TL + 2 + 1) := by omega
        have hc4 : ¬ (9223372036854775807 < TL + 2) := by omega
        have hc5 : ¬ (9223372036854775807 < TL + 3) := by omega
        clear g1 g2 hL1 hL2 h1 hT1 hT2 hT3 
        go_upto_region 10 with fail
        go_region_held3 (fun w' => w'.cell? ⟨G, 1, none⟩ = some (.int .i64 cc) ∧ w'.cell? ⟨G, 2, none⟩ = some (.int .i64 cr))
          (first | exact ⟨z1, z2⟩ | exact ⟨pw_cell_below hb5 z1, pw_cell_below hb5 z2⟩ | exact ⟨pw_cell_below hb6 (pw_cell_below hb5 z1), pw_cell_below hb6 (pw_cell_below hb5 z2)⟩ | fail)
          (first | (go_at_call 68; first | (with_reducible refine (G1.out _).mono ?_; rintro e w5 ⟨rfl, hb5⟩) | (with_reducible refine (G2.out _).mono ?_; rintro e w6 ⟨rfl, hb6⟩) | fail) | fail)
        have hc9 := fun (t : List Nat) => strA_app T3 t
        have hz9 : w6.cell? ⟨G, 3, none⟩ = some (.int .i64 ct) := pw_cell_below hb6 (pw_cell_below (w := w3.drew) hb5 z3)
        have HH : Hid (T3 = T ++ caseH ⟨ck, cc, cr, ct⟩) := by show _ = _; rw [← HT3.out, ← HT2.out, ← HT1.out]; simp [caseH, HK1.out, HL1.out, HL2.out]
        have HB9 := hidP (show Below w1.heap.size w1 w6 from hb3.drew.trans ((hb5.mono hb3.size).trans (hb6.mono (Nat.le_trans hb3.size hb5.size))))
        go_upto_region 13 with fail
        clear z0 z1 z2 z3
        go_wp2_with fail
        refine (rdigits_any ct HDIN.out _).mono ?_
        rintro e w9 ⟨D, rfl, hDl, hD, hb9⟩
        obtain ⟨T9, hT9⟩ : ∃ T9, T3 ++ D = T9 := ⟨_, rfl⟩
        have hap := hc9 D
        rw [hT9] at hap
        have hsD := strA_size D
        have HD := hidP hD
        have HT9 := hidP hT9
        clear hc9 hD hT9
        obtain ⟨DL, hDL⟩ : ∃ DL, D.length = DL := ⟨_, rfl⟩
        have HDL := hidP hDL
        rw [hDL] at hsD hDl
        have hcc : ¬ (9223372036854775807 < TL + 3 + DL) := by omega
        have hcc2 : ¬ (9223372036854775807 < TL + DL + 3) := by omega
        clear hDL
        go_wp2_with fail
        go_roundw
        case rel =>
          refine ⟨k + 1, T9, rfl, by go_num, by omega, ?_, ?_, ?_⟩
          · have h1 : (strA T3).size = (T3).length := strA_size T3
            rw [← HT9.out, List.length_append, HDL.out, ← h1, hs3]
            omega
          · show (∀ c ∈ cs.take (k + 1), caseSt c) → _
            intro hall
            refine HNX.out _ ?_ hall
            have hs := HST.out hall
            rw [← HT9.out, HD.out hs.1.1, HH.out, List.append_assoc]
            rfl
          · exact bstep HB9.out hb9
        case measure => simp [intOf]; omega
      · have t1 : (ck == 1) = false := by simp [h1]
        by_cases h2 : ck = 2
        · have t2 : (ck == 2) = true := by simp [h2]
          obtain ⟨L1, hL1⟩ : ∃ L1, letterN cc = L1 := ⟨_, rfl⟩
          obtain ⟨L2, hL2⟩ : ∃ L2, letterN cr = L2 := ⟨_, rfl⟩
          have g1 := fun w => rletter_any cc w
          have g2 := fun w => rletter_any cr w
          rw [hL1] at g1
          rw [hL2] at g2
          have G1 := hidP g1
          have G2 := hidP g2
          have HL1 := hidP hL1
          have HL2 := hidP hL2
          have HK1 := hidP h2
          obtain ⟨T1, hT1⟩ : ∃ T1, T ++ [114] = T1 := ⟨_, rfl⟩
          obtain ⟨T2, hT2⟩ : ∃ T2, T1 ++ [L1] = T2 := ⟨_, rfl⟩
          obtain ⟨T3, hT3⟩ : ∃ T3, T2 ++ [L2] = T3 := ⟨_, rfl⟩
          have hap1 : strA T ++ ⟨#[114]⟩ = strA T1 := hT1 ▸ strA_app T [114]
          have hap2 : strA T1 ++ strA [L1] = strA T2 := hT2 ▸ strA_app T1 [L1]
          have hap3 : strA T2 ++ strA [L2] = strA T3 := hT3 ▸ strA_app T2 [L2]
          have hs1 : (strA T1).size = TL + 1 := by rw [strA_size, ← hT1]; simp [HTL.out]
          have hs2 : (strA T2).size = TL + 2 := by rw [strA_size, ← hT2, ← hT1]; simp [HTL.out]
          have hs3 : (strA T3).size = TL + 3 := by rw [strA_size, ← hT3, ← hT2, ← hT1]; simp [HTL.out]
          have HT1 := hidP hT1
          have HT2 := hidP hT2
          have HT3 := hidP hT3
          have hsa := strA_size [L1]
          have hsb := strA_size [L2]
          have hc1 : ¬ (9223372036854775807 < TL + 1) := by omega
          have hc2 : ¬ (9223372036854775807 < TL + 1 + 1) := by omega
          have hc3 : ¬ (9223372036854775807 < TL + 2 + 1) := by omega
          have hc4 : ¬ (9223372036854775807 < TL + 2) := by omega
          have hc5 : ¬ (9223372036854775807 < TL + 3) := by omega
          clear g1 g2 hL1 hL2 h1 hT1 hT2 hT3 
          go_upto_region 12 with fail
          go_region_held3 (fun w' => w'.cell? ⟨G, 1, none⟩ = some (.int .i64 cc) ∧ w'.cell? ⟨G, 2, none⟩ = some (.int .i64 cr))
            (first | exact ⟨z1, z2⟩ | exact ⟨pw_cell_below hb5 z1, pw_cell_below hb5 z2⟩ | exact ⟨pw_cell_below hb6 (pw_cell_below hb5 z1), pw_cell_below hb6 (pw_cell_below hb5 z2)⟩ | fail)
            (first | (go_at_call 68; first | (with_reducible refine (G1.out _).mono ?_; rintro e w5 ⟨rfl, hb5⟩) | (with_reducible refine (G2.out _).mono ?_; rintro e w6 ⟨rfl, hb6⟩) | fail) | fail)
          have hc9 := fun (t : List Nat) => strA_app T3 t
          have hz9 : w6.cell? ⟨G, 3, none⟩ = some (.int .i64 ct) := pw_cell_below hb6 (pw_cell_below (w := w3.drew) hb5 z3)
          have HH : Hid (T3 = T ++ caseH ⟨ck, cc, cr, ct⟩) := by show _ = _; rw [← HT3.out, ← HT2.out, ← HT1.out]; simp [caseH, HK1.out, HL1.out, HL2.out]
          have HB9 := hidP (show Below w1.heap.size w1 w6 from hb3.drew.trans ((hb5.mono hb3.size).trans (hb6.mono (Nat.le_trans hb3.size hb5.size))))
          go_upto_region 13 with fail
          clear z0 z1 z2 z3
          go_wp2_with fail
          refine (rdigits_any ct HDIN.out _).mono ?_
          rintro e w9 ⟨D, rfl, hDl, hD, hb9⟩
          obtain ⟨T9, hT9⟩ : ∃ T9, T3 ++ D = T9 := ⟨_, rfl⟩
          have hap := hc9 D
          rw [hT9] at hap
          have hsD := strA_size D
          have HD := hidP hD
          have HT9 := hidP hT9
          clear hc9 hD hT9
          obtain ⟨DL, hDL⟩ : ∃ DL, D.length = DL := ⟨_, rfl⟩
          have HDL := hidP hDL
          rw [hDL] at hsD hDl
          have hcc : ¬ (9223372036854775807 < TL + 3 + DL) := by omega
          have hcc2 : ¬ (9223372036854775807 < TL + DL + 3) := by omega
          clear hDL
          go_wp2_with fail
          go_roundw
          case rel =>
            refine ⟨k + 1, T9, rfl, by go_num, by omega, ?_, ?_, ?_⟩
            · have h1 : (strA T3).size = (T3).length := strA_size T3
              rw [← HT9.out, List.length_append, HDL.out, ← h1, hs3]
              omega
            · show (∀ c ∈ cs.take (k + 1), caseSt c) → _
              intro hall
              refine HNX.out _ ?_ hall
              have hs := HST.out hall
              rw [← HT9.out, HD.out hs.1.1, HH.out, List.append_assoc]
              rfl
            · exact bstep HB9.out hb9
          case measure => simp [intOf]; omega
        · have t2 : (ck == 2) = false := by simp [h2]
          have HK1 := hidP h1
          have HK2 := hidP h2
          obtain ⟨T1, hT1⟩ : ∃ T1, T ++ [101] = T1 := ⟨_, rfl⟩
          have hap1 : strA T ++ ⟨#[101]⟩ = strA T1 := hT1 ▸ strA_app T [101]
          have hs1 : (strA T1).size = TL + 1 := by rw [strA_size, ← hT1]; simp [HTL.out]
          have HT1 := hidP hT1
          have hc1 : ¬ (9223372036854775807 < TL + 1) := by omega
          clear h1 h2 hT1
          have hc9 := fun (t : List Nat) => strA_app T1 t
          have hz9 : w3.cell? ⟨G, 3, none⟩ = some (.int .i64 ct) := z3
          have HH : Hid (T1 = T ++ caseH ⟨ck, cc, cr, ct⟩) := by show _ = _; rw [← HT1.out]; simp [caseH, HK1.out, HK2.out]
          have HB9 := hidP (show Below w1.heap.size w1 w3 from hb3)
          go_upto_region 13 with fail
          clear z0 z1 z2 z3
          go_wp2_with fail
          refine (rdigits_any ct HDIN.out _).mono ?_
          rintro e w9 ⟨D, rfl, hDl, hD, hb9⟩
          obtain ⟨T9, hT9⟩ : ∃ T9, T1 ++ D = T9 := ⟨_, rfl⟩
          have hap := hc9 D
          rw [hT9] at hap
          have hsD := strA_size D
          have HD := hidP hD
          have HT9 := hidP hT9
          clear hc9 hD hT9
          obtain ⟨DL, hDL⟩ : ∃ DL, D.length = DL := ⟨_, rfl⟩
          have HDL := hidP hDL
          rw [hDL] at hsD hDl
          have hcc : ¬ (9223372036854775807 < TL + 1 + DL) := by omega
          have hcc2 : ¬ (9223372036854775807 < TL + DL + 1) := by omega
          clear hDL
          go_wp2_with fail
          go_roundw
          case rel =>
            refine ⟨k + 1, T9, rfl, by go_num, by omega, ?_, ?_, ?_⟩
            · have h1 : (strA T1).size = (T1).length := strA_size T1
              rw [← HT9.out, List.length_append, HDL.out, ← h1, hs1]
              omega
            · show (∀ c ∈ cs.take (k + 1), caseSt c) → _
              intro hall
              refine HNX.out _ ?_ hall
              have hs := HST.out hall
              rw [← HT9.out, HD.out hs.1.1, HH.out, List.append_assoc]
              rfl
            · exact bstep HB9.out hb9
          case measure => simp [intOf]; omega
    · have lt1 : ¬ (k : Int) < (n : Int) := by omega
      have hTE : rshaped ⟨21, xa, xb, xn, cs⟩ = true → T = rW ⟨21, xa, xb, xn, cs⟩ := fun h => by
        have h2 := HT.out
        rw [List.take_of_length_le (by rw [HN.out]; omega)] at h2
        rw [h2 (HGOOD.out h)]
        rfl
      have HTE := hidP hTE
      clear hTE HT
      go_wp2
      go_ret
      exact ⟨T, rfl, by show T.length ≤ 24 * (cs.length + 2); rw [HN.out]; omega, HTE.out, bstep hb1 hb⟩
end Go.Proofs.YtoflhfiegfhkoaaDoor
