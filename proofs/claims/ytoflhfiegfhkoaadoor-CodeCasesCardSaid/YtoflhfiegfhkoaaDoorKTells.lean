/-
  The walks of the laws' few, and of CheckTells.
-/
import Derived.Test.YtoflhfiegfhkoaaDoorKRVal
import Derived.Test.YtoflhfiegfhkoaaDoorKCmp
import Derived.Test.YtoflhfiegfhkoaaDoorKOpen
import Derived.Test.YtoflhfiegfhkoaaDoorKFrameC
namespace Go.Proofs.YtoflhfiegfhkoaaDoor
open Go.RowKit Go.Proofs.YtoflhfiegfhkoaaDoorW.PrintWords
set_option linter.unusedVariables false

def AnyBool (e : Ending) : Prop := ∃ b, e = .returned (.bool b)

set_option maxRecDepth 100000 in
set_option maxHeartbeats 1600000 in
theorem few_any (A : Option Addr) (d : Nat) (l : List InstrD) (w : World) (h : kI.C w A l.length l) :
    Calls Tryd.prog 14 #[.slice A l.length d] w fun e w' => AnyBool e ∧ w' = w := by
  have H := hidP h
  have hmx := h.2.1
  obtain ⟨n, hn⟩ : ∃ n, l.length = n := ⟨_, rfl⟩
  rw [hn] at hmx ⊢
  have HN := hidP hn
  clear h hn
  go_enter Tryd.func14, Tryd.ntmps14
  go_wp2_with fail
  go_loop [3, 4] (fun v3 v4 => ∃ (k : Nat) (s : Int), v3 = .int .i64 s ∧ v4 = .int .i64 k ∧ k ≤ n) (fun _ v4 => n - (intOf v4).toNat)
  case atStart => exact ⟨0, 0, rfl, rfl, by omega⟩
  case round =>
    obtain ⟨k, s, rfl, rfl, hk⟩ := hrel
    by_cases hlt : k < n
    · obtain ⟨x, hx⟩ : ∃ x, l[k]? = some x := ⟨_, List.getElem?_eq_getElem (by rw [HN.out]; exact hlt)⟩
      obtain ⟨b, o, A4, c4, rfl, x0, x1, x2, x3, x4, _, _⟩ := instr_at H.out k x hx
      obtain ⟨m, hm⟩ : ∃ m, x.cases.length = m := ⟨_, rfl⟩
      rw [hm] at x4
      have lt1 : (k : Int) < (n : Int) := by omega
      clear hx x0 x1 x2 x3 hm
      go_wp2
      go_round
      case rel => exact ⟨k + 1, _, rfl, by go_num, by omega⟩
      case measure => simp [intOf]; omega
    · have lt1 : ¬ (k : Int) < (n : Int) := by omega
      go_wp2
      go_ret
      exact ⟨⟨_, rfl⟩, rfl⟩

set_option maxRecDepth 100000 in
set_option maxHeartbeats 3200000 in
theorem checkTells_any (A : Option Addr) (d : Nat) (l : List InstrD) (s : ByteArray) (w : World) (h : kI.C w A l.length l) (he : Env w) :
    Calls Tryd.prog 3 #[.slice A l.length d, .string s] w fun e w' => e = .returned (.bool true) ∧ Below w.heap.size w w' := by
  have hfew := few_any A d l w h
  have hcs : ∀ x ∈ l, x.cases.length ≤ 9223372036854775807 := fun x hx => by
    obtain ⟨i, hi⟩ := List.getElem?_of_mem hx
    obtain ⟨b, o, A4, c4, _, _, _, _, _, _, _, hC⟩ := instr_at h i x hi
    exact hC.2.1
  have haw := fun w1 (hb : Below w.heap.size w w1) => awake03_any w1 (he.below hb)
  have hv := fun w1 (hb : Below w.heap.size w w1) => valid_any A d l w1 (he.below hb).bl (Kd.C_below h hb) hcs
  have hr := fun w1 (hb : Below w.heap.size w w1) => rvalid_any A d l w1 (Kd.C_below h hb) hcs
  obtain ⟨⟨va, ve⟩, hV⟩ : ∃ V, validR l = V := ⟨_, rfl⟩
  simp only [hV] at hv hr
  have HF := hidP hfew
  have HAW := hidP haw
  have HV := hidP hv
  have HR := hidP hr
  have HEN := hidP he
  obtain ⟨n, hn⟩ : ∃ n, l.length = n := ⟨_, rfl⟩
  have HF2 := hidP (hn ▸ HF.out)
  have HV2 := hidP (fun w1 hb => hn ▸ HV.out w1 hb)
  have HR2 := hidP (fun w1 hb => hn ▸ HR.out w1 hb)
  rw [hn]
  obtain ⟨z, hz⟩ : ∃ z, s.size = z := ⟨_, rfl⟩
  have HZ := hidP hz
  clear hfew hcs haw hv hr hV he h hn hz HF HV HR
  go_enter Tryd.func3, Tryd.ntmps3
  go_wp2_with fail
  refine HF2.out.mono ?_
  rintro e w1 ⟨⟨b, rfl⟩, hw1⟩
  have hw1' := hw1.symm
  subst hw1'
  clear hw1
  cases b
  ·
    go_wp2_with fail
    refine (HAW.out _ (brefl _)).mono ?_
    rintro e w2 ⟨rfl, hb2⟩
    go_wp2
    go_ret
    exact ⟨rfl, hb2⟩
  · by_cases hs : (3000 : Int) < (s.size : Int)
    ·
      go_wp2_with fail
      refine (HAW.out _ (brefl _)).mono ?_
      rintro e w2 ⟨rfl, hb2⟩
      go_wp2
      go_ret
      exact ⟨rfl, hb2⟩
    · have hs2 : s.size ≤ 1000000 := by omega
      have hl := fun w1 (hb : Below w.heap.size w w1) => load_any s w1 hs2 (HEN.out.below hb)
      have hrl := fun w1 => rload_any s w1 hs2
      obtain ⟨⟨D, dt, de⟩, hD⟩ : ∃ D, loadR s = D := ⟨_, rfl⟩
      simp only [hD] at hl hrl
      unfold DecPost at hl hrl
      dsimp only at hl hrl
      have HL := hidP hl
      have HRL := hidP hrl
      clear hl hrl hD hs2
      go_wp2_with fail
      refine (HV2.out _ (brefl _)).mono ?_
      rintro e w2 ⟨rfl, hb2⟩
      go_wp2_with fail
      refine (HR2.out _ hb2).mono ?_
      rintro e w3 ⟨rfl, hb3⟩
      have hB3 := bstep hb2 hb3
      go_wp2_with fail
      refine (HL.out _ hB3).mono ?_
      rintro e w4 ⟨A4, c4, rfl, hv4, hb4⟩
      have hB4 := bstep hB3 hb4
      go_wp2_with fail
      refine (HRL.out _).mono ?_
      rintro e w5 ⟨A5, c5, rfl, hv5, hb5⟩
      have hB5 := bstep hB4 hb5
      have hv45 := Kd.R_below hv4 hb5
      have HV4 := hidP hv45
      have HV5 := hidP hv5
      clear hv4 hv5 hv45 hb2 hb3 hb4 hb5 hB3 hB4
      go_wp2_with fail
      refine (HAW.out _ hB5).mono ?_
      rintro e w6 ⟨rfl, hb6⟩
      have hB6 := bstep hB5 hb6
      obtain ⟨A', c', e4, _, hC4⟩ := Kd.R_reads (Kd.R_below HV4.out hb6)
      cases e4
      obtain ⟨A', c', e5, _, hC5⟩ := Kd.R_reads (Kd.R_below HV5.out hb6)
      cases e5
      have hins := instrs_yes A4 A5 c4 c5 D D w6 hC4 hC5 rfl
      obtain ⟨N, hN⟩ : ∃ N, D.length = N := ⟨_, rfl⟩
      rw [hN] at hins
      have HI := hidP hins
      have HB6 := hidP hB6
      have HNN := hidP hN
      clear hC4 hC5 hins hB6 hb6 HV4 HV5 hB5
      simp only [hN]
      clear hN
      go_wp2_with fail
      refine HI.out.mono ?_
      rintro e w7 ⟨rfl, hb7⟩
      go_wp2
      go_ret
      exact ⟨rfl, bstep HB6.out hb7⟩

theorem checkTellsW (W : World) (a0 : Option Addr) (n0 c0 : Nat) (z0 : List InstrD) (h0 : kI.C W a0 n0 z0) (l0 : z0.length = n0) (b0 : (∀ x ∈ z0, instrIn x) ∧ n0 ≤ c0 ∧ c0 ≤ maxLen) (a1 : ByteArray) (w1 : a1.size ≤ maxLen) (he : Env W) :
    Calls Tryd.prog 3 #[.slice a0 n0 c0, .string a1] W fun e w' => e = .returned (.bool true) ∧ Below W.heap.size W w' := by
  subst l0
  exact checkTells_any a0 c0 z0 a1 W h0 he
end Go.Proofs.YtoflhfiegfhkoaaDoor
