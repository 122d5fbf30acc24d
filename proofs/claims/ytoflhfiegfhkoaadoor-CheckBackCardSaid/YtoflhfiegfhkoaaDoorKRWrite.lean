/-
  The walk over the reference's Write.
-/
import Derived.Test.YtoflhfiegfhkoaaDoorKRWr3
import Derived.Test.YtoflhfiegfhkoaaDoorKRefE
import Derived.Test.YtoflhfiegfhkoaaDoorKCmp
namespace Go.Proofs.YtoflhfiegfhkoaaDoor
open Go.RowKit Go.Proofs.YtoflhfiegfhkoaaDoorW.PrintWords
set_option linter.unusedVariables false
set_option linter.unusedSimpArgs false

def WritePost (w : World) (R : List Nat × Int) (e : Ending) (w' : World) : Prop := e = .returned (.tuple #[.string (strA R.1), .int .i64 R.2]) ∧ Below w.heap.size w w'

set_option maxRecDepth 100000 in
set_option maxHeartbeats 6400000 in
theorem rwrite_any (A : Option Addr) (d : Nat) (l : List InstrD) (w : World) (h : kI.C w A l.length l) (hi : ∀ x ∈ l, instrIn x) (hcl : ∀ x ∈ l, x.cases.length ≤ 1000) (hl : l.length ≤ 1000000) :
    Calls Tryd.prog 27 #[.slice A l.length d] w (WritePost w (writeR l)) := by
  obtain ⟨R, hR⟩ : ∃ R, writeR l = R := ⟨_, rfl⟩
  rw [hR]
  have HR := hidP hR
  have H := hidP h
  have HI := hidP hi
  have HCL := hidP hcl
  obtain ⟨n, hn⟩ : ∃ n, l.length = n := ⟨_, rfl⟩
  rw [hn] at hl ⊢
  have HN := hidP hn
  clear hR h hi hcl hn
  by_cases h0 : n = 0
  · have hR : R = ([], 7) := by rw [← HR.out]; unfold writeR; rw [if_pos (by rw [HN.out]; exact h0)]
    have t0 : ((n : Int) == 0) = true := by simp [h0]
    subst hR
    clear h0
    go_enter Tryd.func27, Tryd.ntmps27
    go_wp2_with fail
    go_ret2
    exact ⟨rfl, brefl _⟩
  · have t0 : ((n : Int) == 0) = false := by simp; omega
    have H0 := hidP (show l.length ≠ 0 by rw [HN.out]; exact h0)
    go_enter Tryd.func27, Tryd.ntmps27
    go_wp2_with fail
    go_loopw [4, 5] (fun v4 v5 wr => ∃ (k : Nat) (T : List Nat), v4 = .string (strA T) ∧ v5 = .int .i64 k ∧ k ≤ n ∧ T.length ≤ 40000 ∧ Hid ((∀ x ∈ l.take k, rshaped x = true) → T = textW (l.take k)) ∧ Below w.heap.size w wr) (fun _ v5 _ => n - (intOf v5).toNat)
    case atStart => exact ⟨0, [], rfl, rfl, by omega, by simp, fun _ => rfl, brefl _⟩
    case round =>
      obtain ⟨k, T, rfl, rfl, hk, hT, HT, hb⟩ := hrel
      obtain ⟨w1, e1⟩ : ∃ w1, w1 = wr := ⟨_, rfl⟩
      subst e1
      obtain ⟨TL, hTL⟩ : ∃ TL, T.length = TL := ⟨_, rfl⟩
      have hs0 := strA_size T
      rw [hTL] at hs0 hT
      have HTL := hidP hTL
      clear hTL
      by_cases hkn : k < n
      · have lt1 : (k : Int) < (n : Int) := by omega
        by_cases h4 : TL ≤ 4000
        · have lt4 : (TL : Int) ≤ 4000 := by omega
          obtain ⟨x, hx⟩ : ∃ x, l[k]? = some x := ⟨_, List.getElem?_eq_getElem (by rw [HN.out]; exact hkn)⟩
          have hxm := List.mem_of_getElem? hx
          obtain ⟨b, o, A4, c4, rfl, x0, x1, x2, x3, x4, _, hxc⟩ := instr_at (Kd.C_below H.out hb) k x hx
          have hcal := rwritten_any x A4 c4 w1 hxc (HCL.out x hxm) (HI.out x hxm)
          have hcx := HCL.out x hxm
          have hnext : (t T' : List Nat) → (rshaped x = true → t = rW x) → T ++ t ++ [10] = T' → (∀ y ∈ l.take (k + 1), rshaped y = true) → T' = textW (l.take (k + 1)) := fun t T' h1 h2 h3 => by
            rw [List.take_add_one, hx] at h3 ⊢
            rw [← h2, HT.out (fun y hy => h3 y (List.mem_append_left _ hy)), h1 (h3 x (by simp)), textW_app]
            simp [textW, joinW]
          have HNX := hidP hnext
          obtain ⟨xo, xa, xb, xn, xc⟩ := x
          unfold WrPost at hcal
          simp only [instrV] at hcal
          dsimp only at x0 x1 x2 x3 x4 hcal hcx
          obtain ⟨m, hm⟩ : ∃ m, xc.length = m := ⟨_, rfl⟩
          rw [hm] at x4 hcal hcx
          have HCAL := hidP hcal
          clear hx hxm hxc hcal hnext hm HT
          go_wp2_with fail
          refine HCAL.out.mono ?_
          rintro e w2 ⟨t, rfl, htl, ht, hb2⟩
          have HTT := hidP ht
          obtain ⟨t2, ht2⟩ : ∃ t2, T ++ t = t2 := ⟨_, rfl⟩
          obtain ⟨t3, ht3⟩ : ∃ t3, t2 ++ [10] = t3 := ⟨_, rfl⟩
          have hap1 : strA T ++ strA t = strA t2 := ht2 ▸ strA_app T t
          have hap2 : strA t2 ++ ⟨#[10]⟩ = strA t3 := ht3 ▸ strA_app t2 [10]
          obtain ⟨tl, htl2⟩ : ∃ tl, t.length = tl := ⟨_, rfl⟩
          have hst := strA_size t
          have hs2 : (strA t2).size = TL + tl := by rw [strA_size, ← ht2, List.length_append, HTL.out, htl2]
          rw [htl2] at hst htl
          have HT2 := hidP ht2
          have HT3 := hidP ht3
          have HTL2 := hidP htl2
          have hcc1 : ¬ (9223372036854775807 < TL + tl) := by omega
          have hcc2 : ¬ (9223372036854775807 < TL + tl + 1) := by omega
          clear ht ht2 ht3 htl2
          go_wp2_with fail
          go_roundw
          case rel => exact ⟨k + 1, t3, rfl, by go_num, by omega, by rw [← HT3.out, ← HT2.out]; simp [HTL.out, HTL2.out]; omega, HNX.out t t3 HTT.out (by rw [HT2.out]; exact HT3.out), bstep hb hb2⟩
          case measure => simp [intOf]; omega
        · have lt4 : ¬ (TL : Int) ≤ 4000 := by omega
          have lt5 : decide ((TL : Int) ≤ 4000) = false := decide_eq_false lt4
          have HK := hidP (show k = l.length ∨ 4000 < T.length from .inr (by rw [HTL.out]; omega))
          have hdec := refDecode_any (strA T) w1 (by rw [hs0]; omega)
          have HY := hidP (fun hD he => write_yes (l := l) (k := k) (T := T) HT.out HK.out H0.out hD he)
          have HNO := hidP (fun hh => write_no (l := l) (k := k) (T := T) HT.out HK.out H0.out hh)
          obtain ⟨⟨D, dt, de⟩, hD⟩ : ∃ D, decodeR (strA T) = D := ⟨_, rfl⟩
          have HYD := hidP (show de = 0 → l = D → R = (T, 0) from fun h1 h2 => by rw [← HR.out]; exact HY.out (by rw [hD]; exact h1) (by rw [hD]; exact h2))
          have HND := hidP (show ¬ (de = 0 ∧ l = D) → R = ([], 5) from fun h1 => by rw [← HR.out]; exact HNO.out (by rw [hD]; exact h1))
          rw [hD] at hdec
          unfold DecPost at hdec
          dsimp only at hdec
          have HDEC := hidP hdec
          clear hdec hD HY HNO HT HK
          go_wp2_with fail
          refine HDEC.out.mono ?_
          rintro e w2 ⟨A2, c2, rfl, hv2, hb2⟩
          have hB2 := bstep hb hb2
          by_cases h1 : de = 0
          · have t1 : (de != 0) = false := by simp [h1]
            obtain ⟨A', c', hv, hle, hC⟩ := Kd.R_reads hv2
            cases hv
            have hins := instrs_any A A2 d c2 l D w2 (Kd.C_below H.out hB2) hC
            rw [HN.out] at hins
            obtain ⟨m, hm⟩ : ∃ m, D.length = m := ⟨_, rfl⟩
            rw [hm] at hins
            have HINS := hidP hins
            have H1 := hidP h1
            clear hv2 hC hle hins h1
            simp only [hm]
            clear hm
            obtain ⟨EQ, hEQ⟩ : ∃ EQ, decide (l = D) = EQ := ⟨_, rfl⟩
            have HIN2 := hidP (hEQ ▸ HINS.out)
            have HEQ := hidP hEQ
            clear hEQ HINS HDEC
            go_wp2_with fail
            refine HIN2.out.mono ?_
            rintro e w3 ⟨rfl, hb3⟩
            have hB3 := bstep hB2 hb3
            cases EQ
            · have hR : R = ([], 5) := HND.out (fun hh => by have := HEQ.out; rw [decide_eq_false_iff_not] at this; exact this hh.2)
              subst hR
              clear HYD HND
              go_wp2_with fail
              go_ret2
              exact ⟨rfl, hB3⟩
            · have hR : R = (T, 0) := HYD.out H1.out (of_decide_eq_true HEQ.out)
              subst hR
              clear HYD HND
              go_wp2_with fail
              go_ret2
              exact ⟨rfl, hB3⟩
          · have t1 : (de != 0) = true := by simp [h1]
            have hR : R = ([], 5) := HND.out (fun hh => h1 hh.1)
            subst hR
            clear HYD HND h1 hv2 HDEC
            go_wp2_with fail
            go_ret2
            exact ⟨rfl, hB2⟩
      · have lt1 : ¬ (k : Int) < (n : Int) := by omega
        have HK := hidP (show k = l.length ∨ 4000 < T.length from .inl (by rw [HN.out]; omega))
        have hdec := refDecode_any (strA T) w1 (by rw [hs0]; omega)
        have HY := hidP (fun hD he => write_yes (l := l) (k := k) (T := T) HT.out HK.out H0.out hD he)
        have HNO := hidP (fun hh => write_no (l := l) (k := k) (T := T) HT.out HK.out H0.out hh)
        obtain ⟨⟨D, dt, de⟩, hD⟩ : ∃ D, decodeR (strA T) = D := ⟨_, rfl⟩
        have HYD := hidP (show de = 0 → l = D → R = (T, 0) from fun h1 h2 => by rw [← HR.out]; exact HY.out (by rw [hD]; exact h1) (by rw [hD]; exact h2))
        have HND := hidP (show ¬ (de = 0 ∧ l = D) → R = ([], 5) from fun h1 => by rw [← HR.out]; exact HNO.out (by rw [hD]; exact h1))
        rw [hD] at hdec
        unfold DecPost at hdec
        dsimp only at hdec
        have HDEC := hidP hdec
        clear hdec hD HY HNO HT HK
        go_wp2_with fail
        refine HDEC.out.mono ?_
        rintro e w2 ⟨A2, c2, rfl, hv2, hb2⟩
        have hB2 := bstep hb hb2
        by_cases h1 : de = 0
        · have t1 : (de != 0) = false := by simp [h1]
          obtain ⟨A', c', hv, hle, hC⟩ := Kd.R_reads hv2
          cases hv
          have hins := instrs_any A A2 d c2 l D w2 (Kd.C_below H.out hB2) hC
          rw [HN.out] at hins
          obtain ⟨m, hm⟩ : ∃ m, D.length = m := ⟨_, rfl⟩
          rw [hm] at hins
          have HINS := hidP hins
          have H1 := hidP h1
          clear hv2 hC hle hins h1
          simp only [hm]
          clear hm
          obtain ⟨EQ, hEQ⟩ : ∃ EQ, decide (l = D) = EQ := ⟨_, rfl⟩
          have HIN2 := hidP (hEQ ▸ HINS.out)
          have HEQ := hidP hEQ
          clear hEQ HINS HDEC
          go_wp2_with fail
          refine HIN2.out.mono ?_
          rintro e w3 ⟨rfl, hb3⟩
          have hB3 := bstep hB2 hb3
          cases EQ
          · have hR : R = ([], 5) := HND.out (fun hh => by have := HEQ.out; rw [decide_eq_false_iff_not] at this; exact this hh.2)
            subst hR
            clear HYD HND
            go_wp2_with fail
            go_ret2
            exact ⟨rfl, hB3⟩
          · have hR : R = (T, 0) := HYD.out H1.out (of_decide_eq_true HEQ.out)
            subst hR
            clear HYD HND
            go_wp2_with fail
            go_ret2
            exact ⟨rfl, hB3⟩
        · have t1 : (de != 0) = true := by simp [h1]
          have hR : R = ([], 5) := HND.out (fun hh => h1 hh.1)
          subst hR
          clear HYD HND h1 hv2 HDEC
          go_wp2_with fail
          go_ret2
          exact ⟨rfl, hB2⟩
end Go.Proofs.YtoflhfiegfhkoaaDoor
