/-
  The walk over the law CodeTells.
-/
import Derived.Test.YtoflhfiegfhkoaaDoorKFrameC
import Derived.Test.YtoflhfiegfhkoaaDoorKWrT
import Derived.Test.YtoflhfiegfhkoaaDoorKLoad
import Derived.Test.YtoflhfiegfhkoaaDoorKOpen
namespace Go.Proofs.YtoflhfiegfhkoaaDoor
open Go.RowKit
set_option linter.unusedVariables false

theorem gPowTK : (Tryd.prog.globals[5]?).map (·.type) = some 167 := by kernel_rfl
theorem cellsU64K : Tryd.prog.cellsOf 145 = 1 := by kernel_rfl
theorem cellsPowK : Tryd.prog.cellsOf 167 = 20 := by kernel_rfl
/-- What a row of package code gives. -/
structure EnvK (w : World) : Prop where
  env : Env w
  pow : Pow10 w
theorem EnvK.below {w w' : World} (h : EnvK w) (hb : Below w.heap.size w w') : EnvK w' := ⟨h.env.below hb, h.pow.below hb⟩
set_option maxRecDepth 100000 in
set_option maxHeartbeats 1600000 in
theorem env_code {W : World} (h : laidMet Tryd.prog Rows.codeTellsRow.laid W) (hsh : W.ShapedOpen Tryd.prog) : EnvK W := by
  have hm := maxLen_of h hsh
  obtain ⟨ps, h, _⟩ := h
  obtain ⟨g0, t0, cs0, f0, p0, q0, hg0, ht0, hv0, hd0, h, _⟩ := h
  obtain ⟨g1, t1, cs1, f1, p1, q1, hg1, ht1, hv1, hd1, h, _⟩ := h
  obtain ⟨g2, t2, cs2, f2, p2, q2, hg2, ht2, hv2, hd2, h, _⟩ := h
  obtain ⟨g3, t3, cs3, f3, p3, q3, hg3, ht3, hv3, hd3, h, _⟩ := h
  obtain ⟨g4, t4, cs4, f4, p4, q4, hg4, ht4, hv4, hd4, h, _⟩ := h
  obtain ⟨g5, t5, cs5, f5, p5, q5, hg5, ht5, hv5, hd5, h, _⟩ := h
  refine ⟨⟨?_, hm⟩, ?_⟩
  · obtain rfl := Option.some.inj (gBlanks.symm.trans hg5)
    obtain rfl := Option.some.inj (gBlanksT.symm.trans ht5)
    unfold Blanks Lib.TabIs
    rw [hv5, ← Lib.cells_of_tab (zs := Lib.asciiSpaceTab) Tryd.underlying121 Tryd.underlying5 cellsU8 cellsBlanks hd5]
  · obtain rfl := Option.some.inj (gPow10.symm.trans hg2)
    obtain rfl := Option.some.inj (gPowTK.symm.trans ht2)
    unfold Pow10 Lib.TabIs
    rw [hv2, ← Lib.cells_of_tab (zs := Lib.pow10Tab) Tryd.underlying167 Tryd.underlying145 cellsU64K cellsPowK hd2]
end Go.Proofs.YtoflhfiegfhkoaaDoor
namespace Go.Proofs.YtoflhfiegfhkoaaDoor
open Go.RowKit Go.Proofs.YtoflhfiegfhkoaaDoorW.PrintWords
set_option linter.unusedVariables false
set_option linter.unusedSimpArgs false

def awkL : List InstrD := [⟨1, 0, 0, 5, []⟩, ⟨22, 0, 0, 0, []⟩]
theorem awk2_decode : decodeR ⟨#[61, 97, 53, 10, 120]⟩ = (awkL, 0, 0) := by decide +kernel
theorem awk2_write : writeR awkL = ([61, 97, 53, 10, 120, 10], 0) := by decide +kernel

set_option maxRecDepth 100000 in
set_option maxHeartbeats 2000000 in
theorem awake02_any (w : World) (he : EnvK w) : Calls Tryd.prog 23 #[] w fun e w' => e = .returned (.bool true) ∧ Below w.heap.size w w' := by
  have hl := decode_any ⟨#[61, 97, 53, 10, 120]⟩ w (by decide) he.env
  rw [awk2_decode] at hl
  have HENV := hidP he
  have HL := hidP hl
  clear hl he
  go_enter Tryd.func23, Tryd.ntmps23
  go_wp2_with fail
  refine HL.out.mono ?_
  rintro e w1 ⟨A, c, rfl, hv, hb1⟩
  obtain ⟨A', c', e1, hle, hC⟩ := Kd.R_reads hv
  cases e1
  have hw := write_any A c awkL w1 hC (by unfold instrIn inI awkL; simp) (by unfold awkL; simp) (by decide) (by decide +kernel) hle (HENV.out.below hb1).env (HENV.out.below hb1).pow
  rw [awk2_write] at hw
  have HW := hidP hw
  have HC := hidP hC
  clear hw hv hC
  go_wp2_with fail
  refine HW.out.mono ?_
  rintro e w2 ⟨rfl, hb2⟩
  have hins := instrs_yes A (some ⟨w2.heap.size, 0, none⟩) c 2 awkL awkL (w2.alloc (.cells (plainI awkL).toArray 37)) (Kd.C_below HC.out (bnew hb2 _)) (plain_reads w2 awkL (by unfold awkL; simp) (by decide)) rfl
  have HI := hidP hins
  have t1 : (strA [61, 97, 53, 10, 120, 10]).toList = [61, 97, 53, 10, 120, 10] := by decide +kernel
  clear hins
  go_wp2_with fail
  refine HI.out.mono ?_
  rintro e w3 ⟨rfl, hb3⟩
  have hB := bstep (bnew (bstep hb1 hb2) _) hb3
  go_wp2
  go_ret
  exact ⟨rfl, hB⟩
end Go.Proofs.YtoflhfiegfhkoaaDoor
namespace Go.Proofs.YtoflhfiegfhkoaaDoor
open Go.RowKit Go.Proofs.YtoflhfiegfhkoaaDoorW.PrintWords
set_option linter.unusedVariables false
set_option linter.unusedSimpArgs false

set_option maxRecDepth 100000 in
set_option maxHeartbeats 6400000 in
theorem codeTells_any (s : ByteArray) (A : Option Addr) (d : Nat) (l : List InstrD) (w : World) (h : kI.C w A l.length l) (hi : ∀ x ∈ l, instrIn x) (hd : l.length ≤ d) (hsz : s.size ≤ maxLen) (he : EnvK w) :
    Calls Tryd.prog 8 #[.string s, .slice A l.length d] w fun e w' => e = .returned (.bool true) ∧ Below w.heap.size w w' := by
  have haw := fun w1 (hb : Below w.heap.size w w1) => awake02_any w1 (he.below hb)
  have HAW := hidP haw
  have HEN := hidP he
  have H := hidP h
  have HI := hidP hi
  obtain ⟨n, hn⟩ : ∃ n, l.length = n := ⟨_, rfl⟩
  obtain ⟨z, hz⟩ : ∃ z, s.size = z := ⟨_, rfl⟩
  rw [hn] at hd ⊢
  have HN := hidP hn
  have HZ := hidP hz
  have hmx : z ≤ 9223372036854775807 := by rw [← hz]; unfold maxLen at hsz; omega
  have hnx : n ≤ 9223372036854775807 := by rw [← hn]; exact h.2.1
  clear haw he h hi hn hsz
  by_cases hs : z ≤ 5000
  · have ts : ¬ (5000 < (z : Int)) := by omega
    have ts2 : decide (5000 < (z : Int)) = false := decide_eq_false ts
    by_cases h70 : n ≤ 70
    · have tn : ¬ (70 < (n : Int)) := by omega
      have tn2 : decide (70 < (n : Int)) = false := decide_eq_false tn
      go_enter Tryd.func8, Tryd.ntmps8
      go_wp2_with fail
      go_loop [5] (fun v5 => ∃ k : Nat, v5 = .int .i64 k ∧ k ≤ n ∧ Hid (∀ x ∈ l.take k, x.cases.length ≤ 20)) (fun v5 => n - (intOf v5).toNat)
      case atStart => exact ⟨0, rfl, by omega, by show ∀ x ∈ l.take 0, _; simp⟩
      case round =>
        obtain ⟨k, rfl, hk, HK⟩ := hrel
        by_cases hlt : k < n
        · obtain ⟨x, hx⟩ : ∃ x, l[k]? = some x := ⟨_, List.getElem?_eq_getElem (by rw [HN.out]; exact hlt)⟩
          obtain ⟨b, o, A4, c4, rfl, x0, x1, x2, x3, x4, _, _⟩ := instr_at H.out k x hx
          have lt1 : (k : Int) < (n : Int) := by omega
          have HX := hidP hx
          obtain ⟨m, hm⟩ : ∃ m, x.cases.length = m := ⟨_, rfl⟩
          rw [hm] at x4
          have HM := hidP hm
          clear hx x0 x1 x2 x3 hm
          by_cases hm20 : m ≤ 20
          · have tm : ¬ (20 < (m : Int)) := by omega
            have tm2 : decide (20 < (m : Int)) = false := decide_eq_false tm
            go_wp2
            go_round
            case rel => exact ⟨k + 1, by go_num, by omega, by
              show ∀ y ∈ l.take (k + 1), _
              intro y hy
              rw [List.take_add_one, HX.out] at hy
              rcases List.mem_append.1 hy with hy | hy
              · exact HK.out y hy
              · simp at hy
                subst hy
                rw [HM.out]
                exact hm20⟩
            case measure => simp [intOf]; omega
          · have tm : (20 < (m : Int)) := by omega
            go_wp2_with fail
            refine (HAW.out _ (brefl _)).mono ?_
            rintro e w2 ⟨rfl, hb2⟩
            have hB := bstep (brefl _) hb2
            go_wp2
            go_ret
            exact ⟨rfl, hB⟩
        · have lt1 : ¬ (k : Int) < (n : Int) := by omega
          have hcl : ∀ x ∈ l, x.cases.length ≤ 20 := fun x hx => HK.out x (by rw [List.take_of_length_le (by rw [HN.out]; omega)]; exact hx)
          have hl := fun w1 (hb : Below w.heap.size w w1) => decode_any s w1 (by rw [HZ.out]; omega) (HEN.out.below hb).env
          have hrl := fun w1 => refDecode_any s w1 (by rw [HZ.out]; omega)
          have hw := fun w1 (hb : Below w.heap.size w w1) => write_any A d l w1 (Kd.C_below H.out hb) HI.out (fun x hx => by have := hcl x hx; omega) (by rw [HN.out]; omega) (by have := lP_len l HI.out hcl; rw [HN.out] at this; omega) (by rw [HN.out]; exact hd) (HEN.out.below hb).env (HEN.out.below hb).pow
          have hrw := fun w1 (hb : Below w.heap.size w w1) => rwrite_any A d l w1 (Kd.C_below H.out hb) HI.out (fun x hx => by have := hcl x hx; omega) (by rw [HN.out]; omega)
          obtain ⟨⟨D, dt, de⟩, hD⟩ : ∃ D, decodeR s = D := ⟨_, rfl⟩
          simp only [hD] at hl hrl
          unfold DecPost at hl hrl
          dsimp only at hl hrl
          obtain ⟨⟨T, te⟩, hT⟩ : ∃ R, writeR l = R := ⟨_, rfl⟩
          simp only [hT, HN.out] at hw hrw
          unfold WritePost at hw hrw
          dsimp only at hw hrw
          have HL := hidP hl
          have HRL := hidP hrl
          have HW := hidP hw
          have HRW := hidP hrw
          clear hl hrl hw hrw hD hT hcl
          go_wp2_with fail
          refine (HL.out _ (brefl _)).mono ?_
          rintro e w2 ⟨A4, c4, rfl, hv4, hb2⟩
          go_wp2_with fail
          refine (HRL.out _).mono ?_
          rintro e w3 ⟨A5, c5, rfl, hv5, hb3⟩
          have hB3 := bstep hb2 hb3
          go_wp2_with fail
          refine (HW.out _ hB3).mono ?_
          rintro e w4 ⟨rfl, hb4⟩
          have hB4 := bstep hB3 hb4
          go_wp2_with fail
          refine (HRW.out _ hB4).mono ?_
          rintro e w5 ⟨rfl, hb5⟩
          have hB5 := bstep hB4 hb5
          have hv45 := Kd.R_below hv4 (bstep (bstep hb3 hb4) hb5)
          have hv55 := Kd.R_below hv5 (bstep hb4 hb5)
          have HV4 := hidP hv45
          have HV5 := hidP hv55
          clear hv4 hv5 hv45 hv55 hb2 hb3 hb4 hb5 hB3 hB4
          go_wp2_with fail
          refine (HAW.out _ hB5).mono ?_
          rintro e w6 ⟨rfl, hb6⟩
          have hB6 := bstep hB5 hb6
          obtain ⟨A', c', e4, _, hC4⟩ := Kd.R_reads (Kd.R_below HV4.out hb6)
          cases e4
          obtain ⟨A', c', e5, _, hC5⟩ := Kd.R_reads (Kd.R_below HV5.out hb6)
          cases e5
          have hins := instrs_yes A4 A5 c4 c5 D D w6 hC4 hC5 rfl
          obtain ⟨N, hN⟩ : ∃ N, D.length = N := ⟨_, rfl⟩
          rw [hN] at hins
          have HII := hidP hins
          have HB6 := hidP hB6
          clear hC4 hC5 hins hB6 hb6 HV4 HV5 hB5
          simp only [hN]
          clear hN
          go_wp2_with fail
          refine HII.out.mono ?_
          rintro e w7 ⟨rfl, hb7⟩
          go_wp2
          go_ret
          exact ⟨rfl, bstep HB6.out hb7⟩
    · have tn : (70 < (n : Int)) := by omega
      go_enter Tryd.func8, Tryd.ntmps8
      go_wp2_with fail
      refine (HAW.out _ (brefl _)).mono ?_
      rintro e w2 ⟨rfl, hb2⟩
      have hB := bstep (brefl _) hb2
      go_wp2
      go_ret
      exact ⟨rfl, hB⟩
  · have ts : (5000 < (z : Int)) := by omega
    go_enter Tryd.func8, Tryd.ntmps8
    go_wp2_with fail
    refine (HAW.out _ (brefl _)).mono ?_
    rintro e w2 ⟨rfl, hb2⟩
    have hB := bstep (brefl _) hb2
    go_wp2
    go_ret
    exact ⟨rfl, hB⟩

theorem codeTellsW (W : World) (a0 : ByteArray) (w0 : a0.size ≤ maxLen) (a1 : Option Addr) (n1 c1 : Nat) (z1 : List InstrD) (h1 : kI.C W a1 n1 z1) (l1 : z1.length = n1) (b1 : (∀ x ∈ z1, instrIn x) ∧ n1 ≤ c1 ∧ c1 ≤ maxLen) (he : EnvK W) :
    Calls Tryd.prog 8 #[.string a0, .slice a1 n1 c1] W fun e w' => e = .returned (.bool true) ∧ Below W.heap.size W w' := by
  subst l1
  exact codeTells_any a0 a1 c1 z1 W h1 b1.1 b1.2.1 w0 he
end Go.Proofs.YtoflhfiegfhkoaaDoor
