/-
  The walk over the law CodeNumbers.
-/
import Derived.Test.YtoflhfiegfhkoaaDoorKCTells
import Derived.Test.YtoflhfiegfhkoaaDoorKCNumP
import Derived.Test.YtoflhfiegfhkoaaDoorKRegs
namespace Go.Proofs.YtoflhfiegfhkoaaDoor
open Go.RowKit Go.Proofs.YtoflhfiegfhkoaaDoorW.PrintWords
set_option linter.unusedVariables false
set_option linter.unusedSimpArgs false

set_option maxRecDepth 100000 in
set_option maxHeartbeats 6400000 in
theorem codeNumbers_any (n o : Int) (w : World) (he : EnvK w) :
    Calls Tryd.prog 13 #[.int .i64 n, .int .i64 o] w fun e w' => e = .returned (.bool true) ∧ Below w.heap.size w w' := by
  obtain ⟨N, hN1, hN2, hN3⟩ := modK n 10000 (by omega) (by omega)
  obtain ⟨K, hK1, hK2, hK3⟩ := modK o 9 (by omega) (by omega)
  have hN1' : (IntKind.u64.wrap n).tmod 10000 = (N : Int) := hN1
  have hK1' : (IntKind.u64.wrap o).tmod 9 = (K : Int) := hK1
  obtain ⟨P, hP⟩ : ∃ P, nPre[K]? = some P := ⟨nPre[K]'hK2, List.getElem?_eq_getElem hK2⟩
  have hPm := List.mem_of_getElem? hP
  obtain ⟨x, hx⟩ := pre_line P hPm
  obtain ⟨p1, p2, p3⟩ := nPre_signs P hPm
  have hl4 := decN_len4 N hN2
  have hl1 := decN_len N
  have hD := decN_only N
  have d1 := num_decode hPm hx hD (.inl rfl) (by omega)
  have d2 := num_decode hPm hx (only_app (zeros_only (4 - (decN N).length)) hD) (.inl rfl) (by simp; omega)
  have d3 := num_decode hPm hx (only_app (zeros_only 4) hD) (.inl rfl) (by simp; omega)
  have d4 := num_decode hPm hx (D := []) (by intro c hc; simp at hc) (.inl rfl) (by simp)
  have d5 := num_decode hPm hx hD (.inr rfl) (by omega)
  rw [num_dec hN2, if_pos ⟨rfl, rfl⟩, List.append_nil] at d1
  rw [pad_num hN2, if_pos ⟨rfl, rfl⟩, List.append_nil] at d2
  rw [numR_long _ (by rw [strA_size]; simp; omega), if_neg (by simp), List.append_nil] at d3
  rw [show numR (strA []) = (0, false) from numR_empty, if_neg (by simp), List.append_nil, List.append_nil] at d4
  rw [if_neg (by simp)] at d5
  have hz := cut_zeros (decN N).length hl4
  have sP : (strA P).size ≤ 4 := by rw [strA_size]; exact p3
  have q1 : strA P ++ strA (decN N) = strA (P ++ decN N) := strA_app _ _
  have q2 : strA P ++ ({ data := #[48, 48, 48, 48] } : ByteArray).extract 0 (4 - (decN N).length) ++ strA (decN N) = strA (P ++ (List.replicate (4 - (decN N).length) 48 ++ decN N)) := by rw [hz, strA_app, strA_app, List.append_assoc]
  have q3 : strA P ++ ({ data := #[48, 48, 48, 48] } : ByteArray) ++ strA (decN N) = strA (P ++ (List.replicate 4 48 ++ decN N)) := by
    have h48 : ({ data := #[48, 48, 48, 48] } : ByteArray) = strA (List.replicate 4 48) := by decide +kernel
    rw [h48, strA_app, strA_app, List.append_assoc]
  have q5 : strA P ++ strA (decN N) ++ ({ data := #[97] } : ByteArray) = strA (P ++ (decN N ++ [97])) := by
    have h97 : ({ data := #[97] } : ByteArray) = strA [97] := rfl
    rw [h97, strA_app, strA_app, List.append_assoc]
  have g1 := fun w' (hb : Below w.heap.size w w') => decode_any (strA (P ++ decN N)) w' (by rw [strA_size]; simp; omega) (he.below hb).env
  have g2 := fun w' (hb : Below w.heap.size w w') => decode_any (strA (P ++ (List.replicate (4 - (decN N).length) 48 ++ decN N))) w' (by rw [strA_size]; simp; omega) (he.below hb).env
  have g3 := fun w' (hb : Below w.heap.size w w') => decode_any (strA (P ++ (List.replicate 4 48 ++ decN N))) w' (by rw [strA_size]; simp; omega) (he.below hb).env
  have g4 := fun w' (hb : Below w.heap.size w w') => decode_any (strA P) w' (by rw [strA_size]; omega) (he.below hb).env
  have g5 := fun w' (hb : Below w.heap.size w w') => decode_any (strA (P ++ (decN N ++ [97]))) w' (by rw [strA_size]; simp; omega) (he.below hb).env
  simp only [d1] at g1
  simp only [d2] at g2
  simp only [d3] at g3
  simp only [d4] at g4
  simp only [d5] at g5
  rw [← q1] at g1
  rw [← q2] at g2
  rw [← q3] at g3
  rw [← q5] at g5
  obtain ⟨X, hX⟩ : ∃ X, x (N : Int) = X := ⟨_, rfl⟩
  rw [hX] at g1 g2
  unfold DecPost at g1 g2 g3 g4 g5
  dsimp only [List.length_cons, List.length_nil] at g1 g2 g3 g4 g5
  obtain ⟨l, hl⟩ : ∃ l, (decN N).length = l := ⟨_, rfl⟩
  rw [hl] at g2 hl4 hl1
  have sD : (strA (decN N)).size = l := by rw [strA_size]; exact hl
  have hdg := fun w' => rdigits_any (N : Int) (by unfold inI; omega) w'
  unfold DigPost at hdg
  rw [show ((N : Int)).toNat = N from Int.toNat_natCast N] at hdg
  obtain ⟨D, hDD⟩ : ∃ D, strA (decN N) = D := ⟨_, rfl⟩
  obtain ⟨SP, hSP⟩ : ∃ SP, strA P = SP := ⟨_, rfl⟩
  rw [hDD] at g1 g2 g3 g5 sD
  rw [hSP] at g1 g2 g3 g4 g5 sP
  have HSP := hidP hSP
  have HDD := hidP hDD
  have HP := hidP hP
  have HEN := hidP he
  have G1 := hidP g1
  have G2 := hidP g2
  have G3 := hidP g3
  have G4 := hidP g4
  have G5 := hidP g5
  have HDG := hidP hdg
  clear g1 g2 g3 g4 g5 hdg q1 q2 q3 q5 hz d1 d2 d3 d4 d5 hx hX hl hDD hSP hP hPm p1 p2 p3 hD he hN1 hK1
  go_enter Tryd.func13, Tryd.ntmps13
  go_wp2_with fail
  refine (HDG.out _).mono ?_
  rintro e w1 ⟨t, rfl, _, ht, hb1⟩
  obtain rfl := ht (by omega)
  rw [HDD.out]
  have HB1 := hidP hb1
  clear ht hb1 HDG
  go_upto_region 3 with fail
  go_cut [6] (fun v6 wx => v6 = .string SP ∧ Below w1.heap.size w1 wx)
  case first =>
    have hk : K = 0 ∨ K = 1 ∨ K = 2 ∨ K = 3 ∨ K = 4 ∨ K = 5 ∨ K = 6 ∨ K = 7 ∨ K = 8 := by omega
    rcases hk with hk | hk | hk | hk | hk | hk | hk | hk | hk
    ·
      have hpp := HP.out
      rw [hk] at hpp
      have HPP := hidP (Option.some.inj hpp).symm
      subst hk
      clear hpp
      go_wp2_with fail
      go_meet
      exact ⟨congrArg Value.string (by rw [← HSP.out, HPP.out]; rfl), bnew (brefl _) _⟩
    ·
      have hpp := HP.out
      rw [hk] at hpp
      have HPP := hidP (Option.some.inj hpp).symm
      subst hk
      clear hpp
      go_wp2_with fail
      go_meet
      exact ⟨congrArg Value.string (by rw [← HSP.out, HPP.out]; rfl), bnew (brefl _) _⟩
    ·
      have hpp := HP.out
      rw [hk] at hpp
      have HPP := hidP (Option.some.inj hpp).symm
      subst hk
      clear hpp
      go_wp2_with fail
      go_meet
      exact ⟨congrArg Value.string (by rw [← HSP.out, HPP.out]; rfl), bnew (brefl _) _⟩
    ·
      have hpp := HP.out
      rw [hk] at hpp
      have HPP := hidP (Option.some.inj hpp).symm
      subst hk
      clear hpp
      go_wp2_with fail
      go_meet
      exact ⟨congrArg Value.string (by rw [← HSP.out, HPP.out]; rfl), bnew (brefl _) _⟩
    ·
      have hpp := HP.out
      rw [hk] at hpp
      have HPP := hidP (Option.some.inj hpp).symm
      subst hk
      clear hpp
      go_wp2_with fail
      go_meet
      exact ⟨congrArg Value.string (by rw [← HSP.out, HPP.out]; rfl), bnew (brefl _) _⟩
    ·
      have hpp := HP.out
      rw [hk] at hpp
      have HPP := hidP (Option.some.inj hpp).symm
      subst hk
      clear hpp
      go_wp2_with fail
      go_meet
      exact ⟨congrArg Value.string (by rw [← HSP.out, HPP.out]; rfl), bnew (brefl _) _⟩
    ·
      have hpp := HP.out
      rw [hk] at hpp
      have HPP := hidP (Option.some.inj hpp).symm
      subst hk
      clear hpp
      go_wp2_with fail
      go_meet
      exact ⟨congrArg Value.string (by rw [← HSP.out, HPP.out]; rfl), bnew (brefl _) _⟩
    ·
      have hpp := HP.out
      rw [hk] at hpp
      have HPP := hidP (Option.some.inj hpp).symm
      subst hk
      clear hpp
      go_wp2_with fail
      go_meet
      exact ⟨congrArg Value.string (by rw [← HSP.out, HPP.out]; rfl), bnew (brefl _) _⟩
    ·
      have hpp := HP.out
      rw [hk] at hpp
      have HPP := hidP (Option.some.inj hpp).symm
      subst hk
      clear hpp
      go_wp2_with fail
      go_meet
      exact ⟨congrArg Value.string (by rw [← HSP.out, HPP.out]; rfl), bnew (brefl _) _⟩
  case rest =>
  obtain ⟨rfl, hb2⟩ := hcut
  have HB2 := hidP (bstep HB1.out hb2)
  clear hb2 HB1
  go_wp2_with fail
  refine (G1.out _ HB2.out).mono ?_
  rintro e w3 ⟨A3, c3, rfl, hv3, hb3⟩
  have HB3 := hidP (bstep HB2.out hb3)
  have HV3 := hidP hv3
  clear hv3 hb3 HB2 G1
  have t4 : (4 : Int) - (l : Int) = ((4 - l : Nat) : Int) := by omega
  have t5 : ((4 - l : Nat) : Int) ≤ 4 := by omega
  go_wp2_with fail
  refine (G2.out _ HB3.out).mono ?_
  rintro e w4 ⟨A4, c4, rfl, hv4, hb4⟩
  have HB4 := hidP (bstep HB3.out hb4)
  have HV3' := hidP (Kd.R_below HV3.out hb4)
  have HV4 := hidP hv4
  clear hv4 hb4 G2 HB3 HV3
  go_wp2_with fail
  refine (G3.out _ HB4.out).mono ?_
  rintro e w5 ⟨A5, c5, rfl, hv5, hb5⟩
  have HB5 := hidP (bstep HB4.out hb5)
  have HV35 := hidP (Kd.R_below HV3'.out hb5)
  have HV45 := hidP (Kd.R_below HV4.out hb5)
  clear hv5 hb5 G3 HB4 HV3' HV4
  go_wp2_with fail
  refine (G4.out _ HB5.out).mono ?_
  rintro e w6 ⟨A6, c6, rfl, hv6, hb6⟩
  have HB6 := hidP (bstep HB5.out hb6)
  have HV36 := hidP (Kd.R_below HV35.out hb6)
  have HV46 := hidP (Kd.R_below HV45.out hb6)
  clear hv6 hb6 G4 HB5 HV35 HV45
  go_wp2_with fail
  refine (G5.out _ HB6.out).mono ?_
  rintro e w7 ⟨A7, c7, rfl, hv7, hb7⟩
  have HB7 := hidP (bstep HB6.out hb7)
  have HV37 := hidP (Kd.R_below HV36.out hb7)
  have HV47 := hidP (Kd.R_below HV46.out hb7)
  clear hv7 hb7 G5 HB6 HV36 HV46
  have haw := awake02_any w7 (HEN.out.below HB7.out)
  have HAW := hidP haw
  clear haw
  go_wp2_with fail
  refine HAW.out.mono ?_
  rintro e w8 ⟨rfl, hb8⟩
  have HB8 := hidP (bstep HB7.out hb8)
  obtain ⟨A', c', e3, _, hC3⟩ := Kd.R_reads (Kd.R_below HV37.out hb8)
  cases e3
  obtain ⟨A', c', e4, _, hC4⟩ := Kd.R_reads (Kd.R_below HV47.out hb8)
  cases e4
  have hins := instrs_yes A3 A4 c3 c4 [X] [X] w8 hC3 hC4 rfl
  have HI := hidP hins
  clear hins hC3 hC4 hb8 HV37 HV47 HB7 HAW
  go_wp2_with fail
  refine HI.out.mono ?_
  rintro e w9 ⟨rfl, hb9⟩
  have HB9 := hidP (bstep HB8.out hb9)
  clear hb9 HI
  go_wp2
  go_ret
  exact ⟨rfl, HB9.out⟩
theorem codeNumbersW (W : World) (a0 : Int) (b0 : -9223372036854775808 ≤ a0 ∧ a0 ≤ 9223372036854775807) (a1 : Int) (b1 : -9223372036854775808 ≤ a1 ∧ a1 ≤ 9223372036854775807) (he : EnvK W) :
    Calls Tryd.prog 13 #[.int .i64 a0, .int .i64 a1] W fun e w' => e = .returned (.bool true) ∧ Below W.heap.size W w' := codeNumbers_any a0 a1 W he
end Go.Proofs.YtoflhfiegfhkoaaDoor
