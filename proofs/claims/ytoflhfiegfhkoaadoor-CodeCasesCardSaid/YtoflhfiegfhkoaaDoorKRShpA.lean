/-
  The walk over the reference's shaped.
-/
import Derived.Test.YtoflhfiegfhkoaaDoorKRShpP
import Derived.Test.YtoflhfiegfhkoaaDoorKRefD
namespace Go.Proofs.YtoflhfiegfhkoaaDoor
open Go.RowKit Go.Proofs.YtoflhfiegfhkoaaDoorW.PrintWords
set_option linter.unusedVariables false
set_option linter.unusedSimpArgs false

theorem rcasF_at {n k : Nat} {cs : List CaseD} {c : CaseD} (h : cs[k]? = some c) (ok : Bool) : rcasF n k ok (cs.drop k) = rcasF n (k + 1) (ok && rcaseOk n k c) (cs.drop (k + 1)) := by
  obtain ⟨hk, hc⟩ := List.getElem?_eq_some_iff.1 h
  rw [List.drop_eq_getElem_cons hk, hc]
  rfl
theorem rshF_at {k : Nat} {f : RForm} (h : rforms[k]? = some f) (x : InstrD) : rshF x (rforms.drop k) = if (f.op : Int) = x.op then rsh f x else rshF x (rforms.drop (k + 1)) := by
  obtain ⟨hk, hc⟩ := List.getElem?_eq_some_iff.1 h
  rw [List.drop_eq_getElem_cons hk, hc]
  rfl

theorem rforms_ok2 : ∀ f ∈ rforms, (∀ x ∈ f.args, x < 128) ∧ f.args.length ≤ 10 := by decide

set_option maxRecDepth 100000 in
set_option maxHeartbeats 6400000 in
theorem rshaped_choose (xa xb xn : Int) (cs : List CaseD) (A : Option Addr) (d : Nat) (w : World) (hc : kC.C w A cs.length cs) (hcl : cs.length ≤ 9223372036854775807) :
    Calls Tryd.prog 30 #[instrV ⟨21, xa, xb, xn, cs⟩ (.slice A cs.length d)] w fun e w' => e = .returned (.bool (rcasF cs.length 0 (xa == 0 && xb == 0 && xn == 0 && decide (0 < cs.length)) cs)) ∧ Below w.heap.size w w' := by
  simp only [instrV]
  have HC := hidP hc
  obtain ⟨n, hn⟩ : ∃ n, cs.length = n := ⟨_, rfl⟩
  rw [hn] at hcl ⊢
  obtain ⟨O, hO⟩ : ∃ O, (xa == 0 && xb == 0 && xn == 0 && decide (0 < n)) = O := ⟨_, rfl⟩
  rw [hO]
  obtain ⟨Z, hZ⟩ : ∃ Z, rcasF n 0 O cs = Z := ⟨_, rfl⟩
  rw [hZ]
  have HZ := hidP hZ
  have HN := hidP hn
  have hb1 := bnew (brefl w) (.cells #[.int .i64 21, .int .i64 xa, .int .i64 xb, .int .i64 xn, .slice A n d] 37)
  have hn1 := blk_new w (.cells #[.int .i64 21, .int .i64 xa, .int .i64 xb, .int .i64 xn, .slice A n d] 37)
  clear hc hn hZ
  have HO := hidP hO
  clear hO
  go_enter Tryd.func30, Tryd.ntmps30
  go_upto_region 2 with fail
  generalize hw1 : w.alloc (.cells #[.int .i64 21, .int .i64 xa, .int .i64 xb, .int .i64 xn, .slice A n d] 37) = w1 at *
  clear hw1
  obtain ⟨x0, x1, x2, x3, x4⟩ := five_cells hn1
  have hl1 : w.heap.size < w1.heap.size := blk_lt hn1
  go_cut [3] from 18 to 36 (fun v3 wx => v3 = .bool O ∧ w1 = wx)
  case first =>
    by_cases ha : xa = 0
    · have ta : (xa == 0) = true := by simp [ha]
      clear ha
      by_cases hbb : xb = 0
      · have tb : (xb == 0) = true := by simp [hbb]
        clear hbb
        by_cases hnn : xn = 0
        · have tn : (xn == 0) = true := by simp [hnn]
          clear hnn
          by_cases hl : 0 < n
          · obtain rfl : O = true := by rw [← HO.out, ta, tb, tn]; simp [hl]
            have tl : (0 : Int) < (n : Int) := by omega
            go_wp2_with fail
            go_meet
            exact ⟨rfl, rfl⟩
          · obtain rfl : O = false := by rw [← HO.out, ta, tb, tn]; simp; omega
            have tl : decide ((0 : Int) < (n : Int)) = false := decide_eq_false (by omega)
            have tl' : ¬ (0 : Int) < (n : Int) := by omega
            go_wp2_with fail
            go_meet
            exact ⟨rfl, rfl⟩
        · have tn : (xn == 0) = false := by simp [hnn]
          obtain rfl : O = false := by rw [← HO.out, ta, tb, tn]; simp
          clear hnn
          go_wp2_with fail
          go_meet
          exact ⟨rfl, rfl⟩
      · have tb : (xb == 0) = false := by simp [hbb]
        obtain rfl : O = false := by rw [← HO.out, ta, tb]; simp
        clear hbb
        go_wp2_with fail
        go_meet
        exact ⟨rfl, rfl⟩
    · have ta : (xa == 0) = false := by simp [ha]
      obtain rfl : O = false := by rw [← HO.out, ta]; simp
      clear ha
      go_wp2_with fail
      go_meet
      exact ⟨rfl, rfl⟩
  case rest =>
  obtain ⟨rfl, rfl⟩ := hcut
  go_wp2_with fail
  go_loopw [3, 4] (fun v3 v4 wr => ∃ (k : Nat) (ok : Bool), v3 = .bool ok ∧ v4 = .int .i64 k ∧ k ≤ n ∧ Hid (rcasF n k ok (cs.drop k) = Z) ∧ Below w1.heap.size w1 wr) (fun _ v4 _ => n - (intOf v4).toNat)
  case atStart => exact ⟨0, _, rfl, rfl, by omega, HZ.out, brefl _⟩
  case round =>
    clear x0 x1 x2 x3 x4
    obtain ⟨k, ok, rfl, rfl, hk, HF, hb⟩ := hrel
    obtain ⟨w2, e2⟩ : ∃ w2, w2 = wr := ⟨_, rfl⟩
    subst e2
    obtain ⟨x0, x1, x2, x3, x4⟩ := five_cells (blk_below hn1 hb)
    have hl2 : w.heap.size < w2.heap.size := blk_lt (blk_below hn1 hb)
    by_cases hlt : k < n
    · obtain ⟨⟨ck, cc, cr, ct⟩, hx⟩ : ∃ x, cs[k]? = some x := ⟨_, List.getElem?_eq_getElem (by rw [HN.out]; exact hlt)⟩
      obtain ⟨b, o, rfl, q0, q1, q2, q3⟩ := case_at (Kd.C_below HC.out (bstep hb1 hb)) k _ hx
      have hst : Z = rcasF n (k + 1) (ok && rcaseOk n k ⟨ck, cc, cr, ct⟩) (cs.drop (k + 1)) := by rw [← rcasF_at hx]; exact HF.out.symm
      dsimp only at q0 q1 q2 q3
      have hb3 := bnew hb (.cells #[.int .i64 ck, .int .i64 cc, .int .i64 cr, .int .i64 ct] 39)
      have lt1 : (k : Int) < (n : Int) := by omega
      have g1 := fun w => rwithin_any ck 4 w
      have g2 := fun w => rwithin_any cc 6 w
      have g3 := fun w => rwithin_any cr 6 w
      have g4 := fun w => rwithin_any ct 10000 w
      obtain ⟨B1, hB1⟩ : ∃ B, rwith ck 4 = B := ⟨_, rfl⟩
      obtain ⟨B2, hB2⟩ : ∃ B, rwith cc 6 = B := ⟨_, rfl⟩
      obtain ⟨B3, hB3⟩ : ∃ B, rwith cr 6 = B := ⟨_, rfl⟩
      obtain ⟨B4, hB4⟩ : ∃ B, rwith ct 10000 = B := ⟨_, rfl⟩
      rw [hB1] at g1
      rw [hB2] at g2
      rw [hB3] at g3
      rw [hB4] at g4
      have hco : rcaseOk n k ⟨ck, cc, cr, ct⟩ = (B1 && decide (0 < ck) && B2 && B3 && B4 && (!(ck == 3) || (cc == 0 && cr == 0 && decide ((k : Int) = (n : Int) - 1)))) := by
        unfold rcaseOk
        dsimp only
        rw [hB1, hB2, hB3, hB4]
      rw [hco] at hst
      have HST := hidP hst
      have G1 := hidP g1
      have G2 := hidP g2
      have G3 := hidP g3
      have G4 := hidP g4
      clear hx hst hco hB1 hB2 hB3 hB4 g1 g2 g3 g4 HF
      cases ok
      ·
        have HT : Hid (rcasF n (k + 1) false (cs.drop (k + 1)) = Z) := by
          have := HST.out
          first
            | (simp only [Bool.and_true, Bool.true_and, Bool.and_false, Bool.false_and, Bool.or_true, Bool.or_false, Bool.not_true, Bool.not_false, Bool.true_or, Bool.false_or, Bool.and_false] at this; exact this.symm)
            | (simp only [Bool.and_true, Bool.true_and, Bool.and_false, Bool.false_and, Bool.or_true, Bool.or_false, Bool.not_true, Bool.not_false, Bool.true_or, Bool.false_or] at this; exact this.symm)
        clear HST
        go_wp2_with (first | (go_at_call 48; first | (with_reducible refine (G1.out _).mono ?_; rintro e w' ⟨rfl, rfl⟩) | (with_reducible refine (G2.out _).mono ?_; rintro e w' ⟨rfl, rfl⟩) | (with_reducible refine (G3.out _).mono ?_; rintro e w' ⟨rfl, rfl⟩) | (with_reducible refine (G4.out _).mono ?_; rintro e w' ⟨rfl, rfl⟩) | fail) | fail)
        go_roundw
        case rel => exact ⟨k + 1, false, rfl, by go_num, by omega, HT.out, hb3⟩
        case measure => simp [intOf]; omega
      cases B1
      ·
        have HT : Hid (rcasF n (k + 1) false (cs.drop (k + 1)) = Z) := by
          have := HST.out
          first
            | (simp only [Bool.and_true, Bool.true_and, Bool.and_false, Bool.false_and, Bool.or_true, Bool.or_false, Bool.not_true, Bool.not_false, Bool.true_or, Bool.false_or, Bool.and_false] at this; exact this.symm)
            | (simp only [Bool.and_true, Bool.true_and, Bool.and_false, Bool.false_and, Bool.or_true, Bool.or_false, Bool.not_true, Bool.not_false, Bool.true_or, Bool.false_or] at this; exact this.symm)
        clear HST
        go_wp2_with (first | (go_at_call 48; first | (with_reducible refine (G1.out _).mono ?_; rintro e w' ⟨rfl, rfl⟩) | (with_reducible refine (G2.out _).mono ?_; rintro e w' ⟨rfl, rfl⟩) | (with_reducible refine (G3.out _).mono ?_; rintro e w' ⟨rfl, rfl⟩) | (with_reducible refine (G4.out _).mono ?_; rintro e w' ⟨rfl, rfl⟩) | fail) | fail)
        go_roundw
        case rel => exact ⟨k + 1, false, rfl, by go_num, by omega, HT.out, hb3⟩
        case measure => simp [intOf]; omega
      by_cases hk0 : 0 < ck
      rotate_left
      · have t0 : decide (0 < ck) = false := decide_eq_false hk0
        have HT : Hid (rcasF n (k + 1) false (cs.drop (k + 1)) = Z) := by
          have := HST.out
          first
            | (simp only [Bool.and_true, Bool.true_and, Bool.and_false, Bool.false_and, Bool.or_true, Bool.or_false, Bool.not_true, Bool.not_false, Bool.true_or, Bool.false_or, t0] at this; exact this.symm)
            | (simp only [Bool.and_true, Bool.true_and, Bool.and_false, Bool.false_and, Bool.or_true, Bool.or_false, Bool.not_true, Bool.not_false, Bool.true_or, Bool.false_or] at this; exact this.symm)
        clear HST
        go_wp2_with (first | (go_at_call 48; first | (with_reducible refine (G1.out _).mono ?_; rintro e w' ⟨rfl, rfl⟩) | (with_reducible refine (G2.out _).mono ?_; rintro e w' ⟨rfl, rfl⟩) | (with_reducible refine (G3.out _).mono ?_; rintro e w' ⟨rfl, rfl⟩) | (with_reducible refine (G4.out _).mono ?_; rintro e w' ⟨rfl, rfl⟩) | fail) | fail)
        go_roundw
        case rel => exact ⟨k + 1, false, rfl, by go_num, by omega, HT.out, hb3⟩
        case measure => simp [intOf]; omega
      have t0 : decide (0 < ck) = true := decide_eq_true hk0
      cases B2
      ·
        have HT : Hid (rcasF n (k + 1) false (cs.drop (k + 1)) = Z) := by
          have := HST.out
          first
            | (simp only [Bool.and_true, Bool.true_and, Bool.and_false, Bool.false_and, Bool.or_true, Bool.or_false, Bool.not_true, Bool.not_false, Bool.true_or, Bool.false_or, t0] at this; exact this.symm)
            | (simp only [Bool.and_true, Bool.true_and, Bool.and_false, Bool.false_and, Bool.or_true, Bool.or_false, Bool.not_true, Bool.not_false, Bool.true_or, Bool.false_or] at this; exact this.symm)
        clear HST
        go_wp2_with (first | (go_at_call 48; first | (with_reducible refine (G1.out _).mono ?_; rintro e w' ⟨rfl, rfl⟩) | (with_reducible refine (G2.out _).mono ?_; rintro e w' ⟨rfl, rfl⟩) | (with_reducible refine (G3.out _).mono ?_; rintro e w' ⟨rfl, rfl⟩) | (with_reducible refine (G4.out _).mono ?_; rintro e w' ⟨rfl, rfl⟩) | fail) | fail)
        go_roundw
        case rel => exact ⟨k + 1, false, rfl, by go_num, by omega, HT.out, hb3⟩
        case measure => simp [intOf]; omega
      cases B3
      ·
        have HT : Hid (rcasF n (k + 1) false (cs.drop (k + 1)) = Z) := by
          have := HST.out
          first
            | (simp only [Bool.and_true, Bool.true_and, Bool.and_false, Bool.false_and, Bool.or_true, Bool.or_false, Bool.not_true, Bool.not_false, Bool.true_or, Bool.false_or, t0] at this; exact this.symm)
            | (simp only [Bool.and_true, Bool.true_and, Bool.and_false, Bool.false_and, Bool.or_true, Bool.or_false, Bool.not_true, Bool.not_false, Bool.true_or, Bool.false_or] at this; exact this.symm)
        clear HST
        go_wp2_with (first | (go_at_call 48; first | (with_reducible refine (G1.out _).mono ?_; rintro e w' ⟨rfl, rfl⟩) | (with_reducible refine (G2.out _).mono ?_; rintro e w' ⟨rfl, rfl⟩) | (with_reducible refine (G3.out _).mono ?_; rintro e w' ⟨rfl, rfl⟩) | (with_reducible refine (G4.out _).mono ?_; rintro e w' ⟨rfl, rfl⟩) | fail) | fail)
        go_roundw
        case rel => exact ⟨k + 1, false, rfl, by go_num, by omega, HT.out, hb3⟩
        case measure => simp [intOf]; omega
      cases B4
      ·
        have HT : Hid (rcasF n (k + 1) false (cs.drop (k + 1)) = Z) := by
          have := HST.out
          first
            | (simp only [Bool.and_true, Bool.true_and, Bool.and_false, Bool.false_and, Bool.or_true, Bool.or_false, Bool.not_true, Bool.not_false, Bool.true_or, Bool.false_or, t0] at this; exact this.symm)
            | (simp only [Bool.and_true, Bool.true_and, Bool.and_false, Bool.false_and, Bool.or_true, Bool.or_false, Bool.not_true, Bool.not_false, Bool.true_or, Bool.false_or] at this; exact this.symm)
        clear HST
        go_wp2_with (first | (go_at_call 48; first | (with_reducible refine (G1.out _).mono ?_; rintro e w' ⟨rfl, rfl⟩) | (with_reducible refine (G2.out _).mono ?_; rintro e w' ⟨rfl, rfl⟩) | (with_reducible refine (G3.out _).mono ?_; rintro e w' ⟨rfl, rfl⟩) | (with_reducible refine (G4.out _).mono ?_; rintro e w' ⟨rfl, rfl⟩) | fail) | fail)
        go_roundw
        case rel => exact ⟨k + 1, false, rfl, by go_num, by omega, HT.out, hb3⟩
        case measure => simp [intOf]; omega
      by_cases h3 : ck = 3
      · have t3 : (ck == 3) = true := by simp [h3]
        have t3' : (ck != 3) = false := by simp [h3]
        clear h3
        by_cases hc0 : cc = 0
        · have tc : (cc == 0) = true := by simp [hc0]
          clear hc0
          by_cases hr0 : cr = 0
          · have tr : (cr == 0) = true := by simp [hr0]
            clear hr0
            obtain ⟨KE, hKE⟩ : ∃ KE, decide ((k : Int) = (n : Int) - 1) = KE := ⟨_, rfl⟩
            have te : ((k : Int) == (n : Int) - 1) = KE := hKE
            have HT0 := HST.out
            rw [hKE] at HT0
            have HST : Hid (Z = rcasF n (k + 1) (true && (true && true && true && true && true && (!true || (true && true && KE)))) (cs.drop (k + 1))) := by
              rw [t0, t3, tc, tr] at HT0
              exact HT0
            clear HT0 hKE
            have HT : Hid (rcasF n (k + 1) KE (cs.drop (k + 1)) = Z) := by
              have := HST.out
              first
                | (simp only [Bool.and_true, Bool.true_and, Bool.and_false, Bool.false_and, Bool.or_true, Bool.or_false, Bool.not_true, Bool.not_false, Bool.true_or, Bool.false_or, t0] at this; exact this.symm)
                | (simp only [Bool.and_true, Bool.true_and, Bool.and_false, Bool.false_and, Bool.or_true, Bool.or_false, Bool.not_true, Bool.not_false, Bool.true_or, Bool.false_or] at this; exact this.symm)
            clear HST
            go_wp2_with (first | (go_at_call 48; first | (with_reducible refine (G1.out _).mono ?_; rintro e w' ⟨rfl, rfl⟩) | (with_reducible refine (G2.out _).mono ?_; rintro e w' ⟨rfl, rfl⟩) | (with_reducible refine (G3.out _).mono ?_; rintro e w' ⟨rfl, rfl⟩) | (with_reducible refine (G4.out _).mono ?_; rintro e w' ⟨rfl, rfl⟩) | fail) | fail)
            go_roundw
            case rel => exact ⟨k + 1, KE, rfl, by go_num, by omega, HT.out, hb3⟩
            case measure => simp [intOf]; omega
          · have tr : (cr == 0) = false := by simp [hr0]
            clear hr0
            have HT : Hid (rcasF n (k + 1) false (cs.drop (k + 1)) = Z) := by
              have := HST.out
              first
                | (simp only [Bool.and_true, Bool.true_and, Bool.and_false, Bool.false_and, Bool.or_true, Bool.or_false, Bool.not_true, Bool.not_false, Bool.true_or, Bool.false_or, t0, t3, tc, tr] at this; exact this.symm)
                | (simp only [Bool.and_true, Bool.true_and, Bool.and_false, Bool.false_and, Bool.or_true, Bool.or_false, Bool.not_true, Bool.not_false, Bool.true_or, Bool.false_or] at this; exact this.symm)
            clear HST
            go_wp2_with (first | (go_at_call 48; first | (with_reducible refine (G1.out _).mono ?_; rintro e w' ⟨rfl, rfl⟩) | (with_reducible refine (G2.out _).mono ?_; rintro e w' ⟨rfl, rfl⟩) | (with_reducible refine (G3.out _).mono ?_; rintro e w' ⟨rfl, rfl⟩) | (with_reducible refine (G4.out _).mono ?_; rintro e w' ⟨rfl, rfl⟩) | fail) | fail)
            go_roundw
            case rel => exact ⟨k + 1, false, rfl, by go_num, by omega, HT.out, hb3⟩
            case measure => simp [intOf]; omega
        · have tc : (cc == 0) = false := by simp [hc0]
          clear hc0
          have HT : Hid (rcasF n (k + 1) false (cs.drop (k + 1)) = Z) := by
            have := HST.out
            first
              | (simp only [Bool.and_true, Bool.true_and, Bool.and_false, Bool.false_and, Bool.or_true, Bool.or_false, Bool.not_true, Bool.not_false, Bool.true_or, Bool.false_or, t0, t3, tc] at this; exact this.symm)
              | (simp only [Bool.and_true, Bool.true_and, Bool.and_false, Bool.false_and, Bool.or_true, Bool.or_false, Bool.not_true, Bool.not_false, Bool.true_or, Bool.false_or] at this; exact this.symm)
          clear HST
          go_wp2_with (first | (go_at_call 48; first | (with_reducible refine (G1.out _).mono ?_; rintro e w' ⟨rfl, rfl⟩) | (with_reducible refine (G2.out _).mono ?_; rintro e w' ⟨rfl, rfl⟩) | (with_reducible refine (G3.out _).mono ?_; rintro e w' ⟨rfl, rfl⟩) | (with_reducible refine (G4.out _).mono ?_; rintro e w' ⟨rfl, rfl⟩) | fail) | fail)
          go_roundw
          case rel => exact ⟨k + 1, false, rfl, by go_num, by omega, HT.out, hb3⟩
          case measure => simp [intOf]; omega
      · have t3 : (ck == 3) = false := by simp [h3]
        have t3' : (ck != 3) = true := by simp [h3]
        clear h3
        have HT : Hid (rcasF n (k + 1) true (cs.drop (k + 1)) = Z) := by
          have := HST.out
          first
            | (simp only [Bool.and_true, Bool.true_and, Bool.and_false, Bool.false_and, Bool.or_true, Bool.or_false, Bool.not_true, Bool.not_false, Bool.true_or, Bool.false_or, t0, t3] at this; exact this.symm)
            | (simp only [Bool.and_true, Bool.true_and, Bool.and_false, Bool.false_and, Bool.or_true, Bool.or_false, Bool.not_true, Bool.not_false, Bool.true_or, Bool.false_or] at this; exact this.symm)
        clear HST
        go_wp2_with (first | (go_at_call 48; first | (with_reducible refine (G1.out _).mono ?_; rintro e w' ⟨rfl, rfl⟩) | (with_reducible refine (G2.out _).mono ?_; rintro e w' ⟨rfl, rfl⟩) | (with_reducible refine (G3.out _).mono ?_; rintro e w' ⟨rfl, rfl⟩) | (with_reducible refine (G4.out _).mono ?_; rintro e w' ⟨rfl, rfl⟩) | fail) | fail)
        go_roundw
        case rel => exact ⟨k + 1, true, rfl, by go_num, by omega, HT.out, hb3⟩
        case measure => simp [intOf]; omega
    · have hE : Z = ok := by
        rw [← HF.out, List.drop_eq_nil_of_le (by rw [HN.out]; omega)]
        rfl
      have lt1 : ¬ (k : Int) < (n : Int) := by omega
      subst hE
      go_wp2
      go_ret
      exact ⟨rfl, bstep hb1 hb⟩

end Go.Proofs.YtoflhfiegfhkoaaDoor
