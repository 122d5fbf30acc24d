/-
  The walk of the law ClockAll.
-/
import Derived.Test.YtjjfemhpdhkolaaCLaw
import Derived.Deep.DeepCutAuto
import Derived.Deep.CutBlock
namespace Go.Proofs.Ytjjfemhpdhkolaa
open Go.RowKit
set_option linter.unusedVariables false

def tenth (z : Int) : Int := z.tmod 10
theorem tenth_b (z : Int) : -9 ≤ tenth z ∧ tenth z ≤ 9 := by
  unfold tenth
  by_cases h : 0 ≤ z
  · rw [Int.tmod_eq_emod_of_nonneg h]; omega
  · have e := Int.neg_tmod (-z) 10
    rw [Int.neg_neg, Int.tmod_eq_emod_of_nonneg (by omega : 0 ≤ -z)] at e
    omega

set_option maxRecDepth 100000 in
set_option maxHeartbeats 1600000 in
theorem clockAllW (w : World) (ao : Option Addr) (n c : Nat) (zs : List Int) (hr : RowAt w ao (zs.map (Value.int .i64))) (hn : zs.length = n) (hb : (∀ z ∈ zs, (Lit.int .i64 z).wf = true) ∧ n ≤ c ∧ c ≤ maxLen) :
    Calls Try.prog 13 #[.slice ao n c] w fun e w' => e = .returned (.bool true) ∧ Below w.heap.size w w' := by
  have hmx : n ≤ 9223372036854775807 := by have h1 := hb.2.1; have h2 := hb.2.2; unfold maxLen at h2; omega
  have Hn := hidP hn
  clear hn hb
  obtain ⟨v, hv⟩ : ∃ v : Nat → Int, v = fun i => tenth (zs.getD i 0) := ⟨_, rfl⟩
  have hvb : ∀ i, -9 ≤ v i ∧ v i ≤ 9 := fun i => by rw [hv]; exact tenth_b _
  have hvz : ∀ i z, zs[i]? = some z → z.tmod 10 = v i := fun i z hz => by rw [hv]; simp [List.getD_eq_getElem?_getD, hz, tenth]
  have HVB := hidP hvb
  have HVZ := hidP hvz
  clear hvb hvz hv
  obtain ⟨m, hm⟩ : ∃ m : Nat, m = min n 50 := ⟨_, rfl⟩
  have hmi : min (n : Int) 50 = (m : Int) := by omega
  have hm50 : m ≤ 50 := by omega
  have hmn : m ≤ n := by omega
  clear hm
  go_enter Try.func13, Try.ntmps13
  go_wp2_with fail
  refine (cnew_any _).mono ?_
  rintro e w1 ⟨rfl, rfl⟩
  have h1 := cb_new w (Nat.le_refl _)
  have hb1 := bnew (brefl w) (.cells #[.slice none 0 0] 85)
  go_wp2_with (go_at_call 37; refine (awake19_any _).mono ?_; rintro e w2 ⟨rfl, hb2⟩)
  have h2 := h1.below hb2
  have hB2 := bstep hb1 hb2
  clear h1 hb1 hb2
  try rw [hmi]
  go_loopw [5] (fun u wr => ∃ (k : Nat) (l : List CE), u = .int .i64 k ∧ k ≤ m ∧ l.length ≤ k ∧ Hid (Told v k l) ∧ CB w.heap.size wr w.heap.size l ∧ Below w.heap.size w wr) (fun u _ => m - (intOf u).toNat)
  case atStart => exact ⟨0, [], rfl, by omega, by simp, told_nil v, h2, hB2⟩
  case round =>
    obtain ⟨k, l, rfl, hkm, hlk, HT, h3, hb3⟩ := hrel
    by_cases hlt : k < m
    · obtain ⟨b, o, rfl, hca⟩ := (hr.below hb3).addr (by rw [List.length_map, Hn.out]; omega)
      obtain ⟨z, hz⟩ : ∃ z, zs[k]? = some z := ⟨_, List.getElem?_eq_getElem (by rw [Hn.out]; omega)⟩
      have cz : wr.cell? ⟨b, o + k, none⟩ = some (.int .i64 z) := hca k _ (by rw [List.getElem?_map, hz]; rfl)
      have hzv := HVZ.out k z hz
      have Hzv := hidP hzv
      clear hz hca hzv
      go_wp2_with (go_at_call 40; rw [Hzv.out]; refine (cbAdd _ _ l (v k) k _ h3 (by omega) rfl).mono ?_; rintro e w4 ⟨rfl, h4, hb4⟩)
      go_roundw
      case rel => exact ⟨k + 1, _, by go_num, by omega, by rw [length_cAdd]; omega, told_add HT.out, h4, hb3.trans hb4⟩
      case measure => simp [intOf]; omega
    · obtain rfl : k = m := by omega
      have hlm : l.length = k := HT.out.2.1
      have hb0 := (HT.out.2.2)
      have HT1 : Hid (Lexw l) := HT.out.1
      have HT2 : Hid (∀ (i : Nat) (x : CE), l[i]? = some x → ∃ (j : Nat) (z : Int), j < k ∧ x = (z.tmod 10, (j : Int)) ∧ zs[j]? = some z) := by
        intro i x hx
        obtain ⟨j, hj, rfl⟩ := hb0 x (List.mem_of_getElem? hx)
        obtain ⟨z, hz⟩ : ∃ z, zs[j]? = some z := ⟨_, List.getElem?_eq_getElem (by rw [Hn.out]; omega)⟩
        exact ⟨j, z, hj, by rw [HVZ.out j z hz], hz⟩
      have HC0 : Hid (cutN l (-11) = 0) := cutN_zero (fun x hx => by obtain ⟨j, _, rfl⟩ := hb0 x hx; have := HVB.out j; show (-11 : Int) < v j; omega)
      have HC1 : Hid (cutN l 10 = l.length) := cutN_all (fun x hx => by obtain ⟨j, _, rfl⟩ := hb0 x hx; have := HVB.out j; show v j ≤ 10; omega)
      have HD0 : Hid (cDue l (-11) = []) := by show _ = _; unfold cDue; rw [HC0.out]; rfl
      have HE0 : Hid (l.drop (cutN l (-11)) = l) := by show _ = _; rw [HC0.out]; rfl
      have HD1 : Hid (cDue l 10 = l.map (·.2)) := by show _ = _; unfold cDue; rw [HC1.out, List.take_length]
      have HE1 : Hid (l.drop (cutN l 10) = []) := by show _ = _; rw [HC1.out, List.drop_length]
      have HL := hidP hlm
      clear hb0 hlm
      go_wp2_with (go_at_call 42; refine (cbAll _ _ l h3 (by omega)).mono ?_; rintro e w4 ⟨a4, c4, rfl, ho4, hb4⟩; have h4 := cr_of h3 ho4 hb4; have hB4 := bstep hb3 hb4; clear ho4 hb4)
      rw [HL.out]
      go_loopw [7] (fun u wr => ∃ i : Nat, u = .int .i64 i ∧ 1 ≤ i ∧ CR w.heap.size wr w.heap.size l a4 ((l.map (·.2)).map (Value.int .i64)) ∧ Below w.heap.size w wr) (fun u _ => k - (intOf u).toNat)
      case atStart => exact ⟨1, rfl, by omega, h4, hB4⟩
      case round =>
        clear h4 hB4
        obtain ⟨i, rfl, hi1, h4, hB4⟩ := hrel
        by_cases hik : i < k
        · obtain ⟨b, o, rfl, hca⟩ := h4.row.addr (by rw [List.length_map, List.length_map, HL.out]; omega)
          obtain ⟨x, hx⟩ : ∃ x, l[i - 1]? = some x := ⟨_, List.getElem?_eq_getElem (by rw [HL.out]; omega)⟩
          obtain ⟨y, hy⟩ : ∃ y, l[i]? = some y := ⟨_, List.getElem?_eq_getElem (by rw [HL.out]; omega)⟩
          have cx : wr.cell? ⟨b, o + (i - 1), none⟩ = some (.int .i64 x.2) := hca (i - 1) _ (by rw [List.getElem?_map, List.getElem?_map, hx]; rfl)
          have cy : wr.cell? ⟨b, o + i, none⟩ = some (.int .i64 y.2) := hca i _ (by rw [List.getElem?_map, List.getElem?_map, hy]; rfl)
          have hlex : x.1 < y.1 ∨ x.1 = y.1 ∧ x.2 < y.2 := by
            have h1 := (List.getElem?_eq_some_iff.1 hx).1
            have h2 := (List.getElem?_eq_some_iff.1 hy).1
            have := List.pairwise_iff_getElem.1 HT1.out (i - 1) i h1 h2 (by omega)
            rwa [(List.getElem?_eq_some_iff.1 hx).2, (List.getElem?_eq_some_iff.1 hy).2] at this
          obtain ⟨p, zp, hp, rfl, hzp⟩ := HT2.out _ _ hx
          obtain ⟨r, zr, hr', rfl, hzr⟩ := HT2.out _ _ hy
          obtain ⟨b2, o2, rfl, hca2⟩ := (hr.below hB4).addr (by rw [List.length_map, Hn.out]; omega)
          have czp : wr.cell? ⟨b2, o2 + p, none⟩ = some (.int .i64 zp) := hca2 p _ (by rw [List.getElem?_map, hzp]; rfl)
          have czr : wr.cell? ⟨b2, o2 + r, none⟩ = some (.int .i64 zr) := hca2 r _ (by rw [List.getElem?_map, hzr]; rfl)
          have hi2 : IntKind.i64.wrap ((i : Int) - 1) = (i : Int) - 1 := IntWalk.i64_in _ (by omega)
          have hi3 : ((i : Int) - 1).toNat = i - 1 := by omega
          have hi4 : (0 : Int) ≤ (i : Int) - 1 := by omega
          have hi5 : (i : Int) - 1 < (k : Int) := by omega
          dsimp only at cx cy hlex
          clear hca hca2 hx hy hzp hzr
          generalize hga : zp.tmod 10 = A at *
          generalize hgb : zr.tmod 10 = C at *
          have g1 : decide (C < A) = false := by simp; omega
          have g2 : ¬ (C < A) := by omega
          have g3 : ¬ ((p : Int) < 0) := by omega
          have g4 : ¬ ((r : Int) < 0) := by omega
          have g5 : ¬ ((k : Int) ≤ (p : Int)) := by omega
          have g6 : ¬ ((k : Int) ≤ (r : Int)) := by omega
          by_cases hAC : A = C
          · have g7 : (A == C) = true := by simp [hAC]
            have g8 : ¬ ((r : Int) ≤ (p : Int)) := by omega
            go_upto_region 15 with fail
            go_quiet (fail)
            go_upto_region 16 with fail
            go_quiet (fail)
            go_wp2
            go_roundw
            case rel =>
              exact ⟨i + 1, by go_num, by omega, h4.below (below_drewN (brefl wr) _), bstep hB4 (below_drewN (brefl wr) _)⟩
            case measure => simp [intOf]; omega
          · have g7 : (A == C) = false := by simp [hAC]
            go_upto_region 15 with fail
            go_quiet (fail)
            go_upto_region 16 with fail
            go_quiet (fail)
            go_wp2
            go_roundw
            case rel =>
              exact ⟨i + 1, by go_num, by omega, h4.below (below_drewN (brefl wr) _), bstep hB4 (below_drewN (brefl wr) _)⟩
            case measure => simp [intOf]; omega
        · go_wp2_with (go_at_call 38; refine (crDue _ _ l a4 _ (-11) [] l h4 (by omega) HD0.out HE0.out).mono ?_; rintro e w5 ⟨a5, c5, rfl, r5, h5, hb5⟩)
          have hB5 := hB4.trans hb5
          refine (cbAll _ _ l h5.cb (by omega)).mono ?_
          rintro e w6 ⟨a6, c6, rfl, ho6, hb6⟩
          have h6 := h5.below hb6
          have hB6 := bstep hB5 hb6
          have r6 := owns_row ho6
          go_wp2_with fail
          refine (plainInt_yes a6 a4 l.length k c6 c4 (l.map (·.2)) (l.map (·.2)) _ r6 h6.row (by simp) (by simp [HL.out]) (by omega) rfl).mono ?_
          rintro e w7 ⟨rfl, hb7⟩
          have h7 := h6.below hb7
          have hB7 := bstep hB6 hb7
          go_wp2_with fail
          refine (crDue _ _ l a4 _ 10 (l.map (·.2)) [] h7 (by omega) HD1.out HE1.out).mono ?_
          rintro e w8 ⟨a8, c8, rfl, r8, h8, hb8⟩
          have hB8 := hB7.trans hb8
          go_wp2_with fail
          refine (plainInt_yes a8 a4 l.length k c8 c4 (l.map (·.2)) (l.map (·.2)) w8 r8 h8.row (by simp) (by simp [HL.out]) (by omega) rfl).mono ?_
          rintro e w9 ⟨rfl, hb9⟩
          have h9 := h8.below hb9
          have hB9 := bstep hB8 hb9
          go_wp2_with fail
          refine (cbLen _ _ [] h9.cb (by simp)).mono ?_
          rintro e w10 ⟨rfl, hb10⟩
          go_wp2
          go_ret
          exact ⟨rfl, bstep hB9 hb10⟩
end Go.Proofs.Ytjjfemhpdhkolaa
