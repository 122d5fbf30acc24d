/-
  The walk over the law CodeBack.
-/
import Derived.Test.YtoflhfiegfhkoaaDoorKCTells
import Derived.Test.YtoflhfiegfhkoaaDoorKCShort
import Derived.Test.YtoflhfiegfhkoaaDoorKBack
namespace Go.Proofs.YtoflhfiegfhkoaaDoor
open Go.RowKit Go.Proofs.YtoflhfiegfhkoaaDoorW.PrintWords
set_option linter.unusedVariables false
set_option linter.unusedSimpArgs false

theorem rforms_opr : ∀ f ∈ rforms, 1 ≤ f.op ∧ f.op ≤ 22 := by decide
theorem rshaped_op {x : InstrD} (h : rshaped x = true) : 1 ≤ x.op ∧ x.op ≤ 22 := by
  by_cases h21 : x.op = 21
  · omega
  · unfold rshaped at h
    rw [if_neg h21] at h
    obtain ⟨f, hf, hop, _⟩ := rshF_some x rforms h
    have := rforms_opr f hf
    omega
/-- What may be written is, by the program. -/
theorem write_ok (A : Option Addr) (d : Nat) (l : List InstrD) (w : World) (h : kI.C w A l.length l) (hs : ∀ x ∈ l, rshaped x = true) (hc : ∀ x ∈ l, x.cases.length ≤ 2000) (hl : l.length ≤ 1000000) (ht : (textW l).length ≤ 1000000) (hd : l.length ≤ d) (he : EnvK w) :
    Calls Tryd.prog 26 #[.slice A l.length d] w (WritePost w (writeR l)) :=
  write_any A d l w h (fun x hx => rshaped_in (hs x hx) (rshaped_op (hs x hx))) hc hl (by rw [lP_text hs]; exact ht) hd he.env he.pow

set_option maxRecDepth 100000 in
set_option maxHeartbeats 6400000 in
theorem codeBack_any (A : Option Addr) (d : Nat) (l : List InstrD) (s : ByteArray) (w : World) (h : kI.C w A l.length l) (he : EnvK w) :
    Calls Tryd.prog 9 #[.slice A l.length d, .string s] w fun e w' => e = .returned (.bool true) ∧ Below w.heap.size w w' := by
  have haw := fun w1 (hb : Below w.heap.size w w1) => awake02_any w1 (he.below hb)
  have hpc := pcode_any A d l w h
  have hpl := pcode_decode l
  have hpw := pcode_write l
  have hplen := pcode_len l
  have hptl := pcode_text l
  have hsh := pcode_shaped l
  have hcs : ∀ x ∈ pcodeR l, x.cases.length ≤ 2000 := fun x hx => by have := shapedP_few (pcode_ok l x hx).1; omega
  have hmx := h.2.1
  obtain ⟨M, hM⟩ : ∃ M, pcodeR l = M := ⟨_, rfl⟩
  simp only [hM] at hpc hpl hpw hplen hptl hsh hcs
  have HEN := hidP he
  have HAW := hidP haw
  have HPC := hidP hpc
  have hsw := fun B c w1 (hb : Below w.heap.size w w1) (hC : kI.C w1 B M.length M) (hle : M.length ≤ c) => write_ok B c M w1 hC hsh hcs (by omega) (by omega) hle (he.below hb)
  simp only [hpw] at hsw
  unfold WritePost at hsw
  obtain ⟨T, hT⟩ : ∃ T, textW M = T := ⟨_, rfl⟩
  simp only [hT] at hpl hsw hptl
  have HPL := hidP hpl
  have HSW := hidP hsw
  obtain ⟨m, hm⟩ : ∃ m, M.length = m := ⟨_, rfl⟩
  have HM := hidP hm
  have hsT : (strA T).size ≤ 1000000 := by rw [strA_size]; omega
  have HST := hidP hsT
  obtain ⟨n, hn⟩ : ∃ n, l.length = n := ⟨_, rfl⟩
  have HPC2 := hidP (hn ▸ hm ▸ HPC.out)
  rw [hn] at hmx ⊢
  clear he haw hpc hpl hpw hplen hptl hsh hcs hsw hM hT hm hn hsT h HPC
  obtain ⟨z, hz⟩ : ∃ z, s.size = z := ⟨_, rfl⟩
  have HZ := hidP hz
  by_cases hs : z ≤ 1900
  · have ts : ¬ (1900 < (s.size : Int)) := by omega
    have ts2 : decide (1900 < (s.size : Int)) = false := decide_eq_false ts
    by_cases h60 : n ≤ 60
    · have tn : ¬ (60 < (n : Int)) := by omega
      have tn2 : decide (60 < (n : Int)) = false := decide_eq_false tn
      have hl := fun w1 (hb : Below w.heap.size w w1) => decode_any s w1 (by omega) (HEN.out.below hb).env
      have hfail := decode_fail (s := s)
      have hback := back_write (s := s) (by omega)
      have hsh := decode_shaped (s := s)
      have hdc := decode_cases s
      obtain ⟨⟨D, dt, de⟩, hD⟩ : ∃ D, decodeR s = D := ⟨_, rfl⟩
      simp only [hD] at hl hfail hback hsh hdc
      unfold DecPost at hl
      dsimp only at hl
      have HL := hidP hl
      have HF := hidP hfail
      have HBK := hidP hback
      have HSH := hidP hsh
      have HDC := hidP hdc
      clear hl hfail hback hsh hdc hD hz
      go_enter Tryd.func9, Tryd.ntmps9
      go_wp2_with fail
      refine HPC2.out.mono ?_
      rintro e w1 ⟨B, c, rfl, hlc, hC1, hb1⟩
      have hsw := HSW.out B c w1 hb1 (by rw [HM.out]; exact hC1) (by rw [HM.out]; exact hlc)
      rw [HM.out] at hsw
      have HW1 := hidP hsw
      have HC1 := hidP hC1
      clear hsw hC1
      go_wp2_with fail
      refine HW1.out.mono ?_
      rintro e w2 ⟨rfl, hb2⟩
      have hB2 := bstep hb1 hb2
      have hd2 := decode_any (strA T) w2 HST.out (HEN.out.below hB2).env
      rw [HPL.out] at hd2
      unfold DecPost at hd2
      dsimp only at hd2
      rw [HM.out] at hd2
      have HD2 := hidP hd2
      have HC2 := hidP (Kd.C_below HC1.out hb2)
      clear hd2
      go_wp2_with fail
      refine HD2.out.mono ?_
      rintro e w3 ⟨A3, c3, rfl, hv3, hb3⟩
      have hB3 := bstep hB2 hb3
      have HC3 := hidP (Kd.C_below HC2.out hb3)
      have HV3 := hidP hv3
      clear hv3 hb1 hb2 hb3 hB2 HW1 HD2 HPC2
      go_wp2_with fail
      with_reducible refine (HAW.out _ hB3).mono ?_
      rintro e w4 ⟨rfl, hb4⟩
      have hB4 := bstep hB3 hb4
      obtain ⟨A', c', e5, _, hC4⟩ := Kd.R_reads (Kd.R_below HV3.out hb4)
      rw [HM.out] at e5
      cases e5
      have hins := instrs_yes A3 B c3 c M M w4 hC4 (by rw [HM.out]; exact Kd.C_below HC3.out hb4) rfl
      rw [HM.out] at hins
      have HI := hidP hins
      clear hins hC4 HV3 hb4 hB3
      go_wp2_with fail
      with_reducible refine HI.out.mono ?_
      rintro e w5 ⟨rfl, hb5⟩
      have hB5 := bstep hB4 hb5
      clear hb5 hB4 HI HC3 HC2 HC1
      go_wp2_with fail
      refine (HL.out _ hB5).mono ?_
      rintro e w6 ⟨A6, c6, rfl, hv6, hb6⟩
      have hB6 := bstep hB5 hb6
      by_cases hE : de = 0
      · have t1 : (de != 0) = false := by simp [hE]
        obtain ⟨bk1, bk2, bk3⟩ := HBK.out hE
        obtain ⟨sh1, sh2, sh3, _⟩ := HSH.out hE
        obtain ⟨A', c', e6, hle, hC6⟩ := Kd.R_reads hv6
        cases e6
        have hw6 := write_ok A6 c6 D w6 hC6 sh1 HDC.out (by omega) (by omega) hle (HEN.out.below hB6)
        rw [bk1] at hw6
        unfold WritePost at hw6
        dsimp only at hw6
        have hsz : (strA (textW D)).size ≤ 1000000 := by rw [strA_size]; omega
        obtain ⟨U, hU⟩ : ∃ U, textW D = U := ⟨_, rfl⟩
        rw [hU] at hw6 bk2 hsz
        have HSZ := hidP hsz
        have HBD := hidP bk2
        obtain ⟨k, hk⟩ : ∃ k, D.length = k := ⟨_, rfl⟩
        have HK := hidP hk
        rw [hk] at hw6
        have HW6 := hidP hw6
        have HC6 := hidP hC6
        simp only [hk]
        clear hw6 bk1 bk2 bk3 sh1 sh2 sh3 hle hv6 hU hsz hk hC6 hE hb6 hB5
        go_wp2_with fail
        refine HW6.out.mono ?_
        rintro e w7 ⟨rfl, hb7⟩
        have hB7 := bstep hB6 hb7
        have hd7 := decode_any (strA U) w7 HSZ.out (HEN.out.below hB7).env
        rw [HBD.out] at hd7
        unfold DecPost at hd7
        dsimp only at hd7
        rw [HK.out] at hd7
        have HD7 := hidP hd7
        have HC7 := hidP (Kd.C_below HC6.out hb7)
        clear hd7
        go_wp2_with fail
        refine HD7.out.mono ?_
        rintro e w8 ⟨A8, c8, rfl, hv8, hb8⟩
        have hB8 := bstep hB7 hb8
        obtain ⟨A', c', e8, _, hC8⟩ := Kd.R_reads hv8
        rw [HK.out] at e8
        cases e8
        have hins := instrs_yes A8 A6 c8 c6 D D w8 hC8 (Kd.C_below HC7.out hb8) rfl
        rw [HK.out] at hins
        have HI := hidP hins
        have HB8 := hidP hB8
        clear hins hC8 hv8 hb7 hb8 hB7 hB6 hB8
        go_wp2_with fail
        with_reducible refine HI.out.mono ?_
        rintro e w9 ⟨rfl, hb9⟩
        go_wp2
        go_ret
        exact ⟨rfl, bstep HB8.out hb9⟩
      · have t1 : (de != 0) = true := by simp [hE]
        have hD0 : D.length = 0 := by rw [HF.out hE]; rfl
        simp only [hD0]
        clear hE hv6 hD0
        go_wp2
        go_ret
        exact ⟨rfl, hB6⟩
    · have tn : (60 < (n : Int)) := by omega
      go_enter Tryd.func9, Tryd.ntmps9
      go_wp2_with fail
      with_reducible refine (HAW.out _ (brefl _)).mono ?_
      rintro e w2 ⟨rfl, hb2⟩
      go_wp2
      go_ret
      exact ⟨rfl, hb2⟩
  · have ts : (1900 < (s.size : Int)) := by omega
    go_enter Tryd.func9, Tryd.ntmps9
    go_wp2_with fail
    with_reducible refine (HAW.out _ (brefl _)).mono ?_
    rintro e w2 ⟨rfl, hb2⟩
    go_wp2
    go_ret
    exact ⟨rfl, hb2⟩
theorem codeBackW (W : World) (a0 : Option Addr) (n0 c0 : Nat) (z0 : List InstrD) (h0 : kI.C W a0 n0 z0) (l0 : z0.length = n0) (b0 : (∀ x ∈ z0, instrIn x) ∧ n0 ≤ c0 ∧ c0 ≤ maxLen) (a1 : ByteArray) (w1 : a1.size ≤ maxLen) (he : EnvK W) :
    Calls Tryd.prog 9 #[.slice a0 n0 c0, .string a1] W fun e w' => e = .returned (.bool true) ∧ Below W.heap.size W w' := by
  subst l0
  exact codeBack_any a0 c0 z0 a1 W h0 he
end Go.Proofs.YtoflhfiegfhkoaaDoor
