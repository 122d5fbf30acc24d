/-
  The walks over dormouseplay's Text, and of the law CheckBack.
-/
import Derived.Test.YtoflhfiegfhkoaaDoorKRWrite
import Derived.Test.YtoflhfiegfhkoaaDoorKPlayP
import Derived.Test.YtoflhfiegfhkoaaDoorKTells
namespace Go.Proofs.YtoflhfiegfhkoaaDoor
open Go.RowKit Go.Proofs.YtoflhfiegfhkoaaDoorW.PrintWords
set_option linter.unusedVariables false
set_option linter.unusedSimpArgs false

theorem cases_le {w : World} {A : Option Addr} {n : Nat} {l : List InstrD} (h : kI.C w A n l) : ∀ x ∈ l, x.cases.length ≤ 9223372036854775807 := fun x hx => by
  obtain ⟨i, hi⟩ := List.getElem?_of_mem hx
  obtain ⟨b, o, A4, c4, _, _, _, _, _, _, _, hC⟩ := instr_at h i x hi
  exact hC.2.1
theorem shapedP_r {x : InstrD} (h : shapedP x = true) : rshaped x = true := by
  rw [← shaped_eq] at h
  simp only [Bool.and_eq_true] at h
  exact h.1
theorem rshaped_in {x : InstrD} (h : rshaped x = true) (ho : 1 ≤ x.op ∧ x.op ≤ 22) : instrIn x := by
  by_cases h21 : x.op = 21
  · rw [rshaped_21 h21] at h
    obtain ⟨⟨h1, h2, h3, _⟩, h4⟩ := h
    refine ⟨⟨by omega, by omega⟩, ⟨by omega, by omega⟩, ⟨by omega, by omega⟩, ⟨by omega, by omega⟩, fun c hc => ?_⟩
    obtain ⟨j, hj⟩ := List.getElem?_of_mem hc
    obtain ⟨⟨hd, hk⟩, _⟩ := h4 j c hj
    unfold caseIn inI
    rcases hk with ⟨a, b, c⟩ | ⟨a, b, c⟩
    · omega
    · omega
  · unfold rshaped at h
    rw [if_neg h21] at h
    obtain ⟨f, _, _, hs, _⟩ := rshF_some x rforms h
    rw [rsh_iff] at hs
    obtain ⟨⟨ha, hb, hn, hc⟩, _⟩ := hs
    exact ⟨⟨by omega, by omega⟩, ⟨by omega, by omega⟩, ⟨by omega, by omega⟩, ⟨by omega, by omega⟩, by rw [hc]; simp⟩
theorem shapedP_op {x : InstrD} (h : shapedP x = true) : 1 ≤ x.op ∧ x.op ≤ 22 := by
  unfold shapedP at h
  split at h
  · cases h
  · omega
theorem argW_len {x : InstrD} (hn : 0 ≤ x.n ∧ x.n < 10000) (c : Nat) : (argW x c).length ≤ 4 := by
  unfold argW
  split
  · simp
  · split
    · simp
    · exact decN_len4 _ (by omega)
theorem rW_len {x : InstrD} (h : shapedP x = true) : (rW x).length ≤ 22 := by
  have hr := shapedP_r h
  have hf := shapedP_few h
  by_cases h21 : x.op = 21
  · rw [rshaped_21 h21] at hr
    unfold rW
    rw [if_pos h21, List.length_cons]
    have : ∀ l : List CaseD, (∀ c ∈ l, caseSt c) → (l.flatMap caseW).length ≤ 7 * l.length := by
      intro l
      induction l with
      | nil => intro _; simp
      | cons c r ih =>
        intro hl
        have hc := hl c (List.mem_cons_self ..)
        have h1 : (caseW c).length ≤ 7 := by
          unfold caseW caseH
          rw [List.length_append]
          have := decN_len4 c.dest.toNat (by have := hc.1; omega)
          split
          · simp; omega
          · split
            · simp; omega
            · simp; omega
        have h2 := ih (fun y hy => hl y (List.mem_cons_of_mem _ hy))
        rw [List.flatMap_cons, List.length_append, List.length_cons]
        omega
    have := this x.cases (fun c hc => by obtain ⟨j, hj⟩ := List.getElem?_of_mem hc; exact (hr.2 j c hj).1)
    omega
  · unfold rshaped at hr
    rw [if_neg h21] at hr
    obtain ⟨f, hfm, _, hs, hW⟩ := rshF_some x rforms hr
    rw [rsh_iff] at hs
    unfold rW
    rw [if_neg h21, hW, List.length_cons]
    have hl := rforms_two f hfm
    have : ∀ l : List Nat, (l.flatMap (argW x)).length ≤ 4 * l.length := by
      intro l
      induction l with
      | nil => simp
      | cons c r ih =>
        rw [List.flatMap_cons, List.length_append, List.length_cons]
        have := argW_len hs.1.2.2.1 c
        omega
    have := this f.args
    omega
theorem textW_len : ∀ l : List InstrD, (∀ x ∈ l, shapedP x = true) → (textW l).length ≤ 23 * l.length
  | [], _ => by simp [textW, joinW]
  | x :: r, h => by
    have e : textW (x :: r) = textW [x] ++ textW r := textW_app [x] r
    have h1 : (textW [x]).length ≤ 23 := by
      have := rW_len (h x (List.mem_cons_self ..))
      simp [textW, joinW]
      omega
    have h2 := textW_len r (fun y hy => h y (List.mem_cons_of_mem _ hy))
    rw [e, List.length_append, List.length_cons]
    omega
theorem pcode_text (l : List InstrD) : (textW (pcodeR l)).length ≤ 2000 := by
  have h1 := textW_len (pcodeR l) (fun x hx => (pcode_ok l x hx).1)
  have h2 := pcode_len l
  omega
theorem pcode_shaped (l : List InstrD) : ∀ x ∈ pcodeR l, rshaped x = true := fun x hx => shapedP_r (pcode_ok l x hx).1
theorem pcode_write (l : List InstrD) : writeR (pcodeR l) = (textW (pcodeR l), 0) := by
  have h2 := pcode_len l
  unfold writeR okW
  rw [if_neg (by omega), List.all_eq_true.2 (pcode_shaped l), decide_eq_true (show (pcodeR l).length ≤ 60 by omega), decide_eq_true (pcode_text l)]
  rfl
theorem pcode_decode (l : List InstrD) : decodeR (strA (textW (pcodeR l))) = (pcodeR l, 0, 0) := by
  have h2 := pcode_len l
  rw [decode_text _ (pcode_shaped l), if_neg (by have := pcode_text l; omega), if_neg (by omega), if_neg (by omega)]
theorem pcode_load (l : List InstrD) : loadR (strA (textW (pcodeR l))) = (pcodeR l, 0, 0) := by
  unfold loadR
  rw [pcode_decode, if_neg (by simp), pcode_valid, if_neg (by simp)]
theorem validR_place {l : List InstrD} (h : (validR l).2 = 0) : (validR l).1 = 0 := by
  have hv : ∀ (n : Nat) (l : List InstrD) (i : Nat), (valF n i l).2 = 0 → (valF n i l).1 = 0 := by
    intro n l
    induction l with
    | nil => intro i _; rfl
    | cons x r ih =>
      intro i h
      unfold valF at h ⊢
      split
      · rename_i he; rw [if_pos he] at h; exact ih _ h
      · rename_i he; rw [if_neg he] at h; exact absurd h he
  unfold validR at h ⊢
  split
  · rfl
  · rename_i h0
    rw [if_neg h0] at h
    split
    · rfl
    · rename_i h60
      rw [if_neg h60] at h
      exact hv _ _ _ h
theorem load_back (s : ByteArray) : (loadR s).2.2 ≠ 0 ∧ (loadR s).1 = [] ∨ (loadR s).2.2 = 0 ∧ validR (loadR s).1 = (0, 0) := by
  unfold loadR
  split
  · rename_i h; exact .inl ⟨h, rfl⟩
  · split
    · rename_i h; exact .inl ⟨h, rfl⟩
    · rename_i h1 h2
      have h3 : (validR (decodeR s).1).2 = 0 := by simpa using h2
      exact .inr ⟨rfl, Prod.ext (validR_place h3) h3⟩

set_option maxRecDepth 100000 in
set_option maxHeartbeats 1600000 in
theorem ptext_any (A : Option Addr) (d : Nat) (l : List InstrD) (w : World) (h : kI.C w A l.length l) :
    Calls Tryd.prog 22 #[.slice A l.length d] w fun e w' => e = .returned (.string (strA (textW (pcodeR l)))) ∧ Below w.heap.size w w' := by
  have hp := pcode_any A d l w h
  have hlen := pcode_len l
  have hw := fun B c w1 (hc : kI.C w1 B (pcodeR l).length (pcodeR l)) => rwrite_any B c (pcodeR l) w1 hc (fun x hx => rshaped_in (pcode_shaped l x hx) (shapedP_op (pcode_ok l x hx).1)) (fun x hx => by have := shapedP_few (pcode_ok l x hx).1; omega) (by omega)
  simp only [pcode_write] at hw
  unfold WritePost at hw
  obtain ⟨M, hM⟩ : ∃ M, pcodeR l = M := ⟨_, rfl⟩
  simp only [hM] at hp hw ⊢
  obtain ⟨m, hm⟩ : ∃ m, M.length = m := ⟨_, rfl⟩
  simp only [hm] at hp hw
  obtain ⟨T, hT⟩ : ∃ T, textW M = T := ⟨_, rfl⟩
  simp only [hT] at hw ⊢
  have HP := hidP hp
  have HW := hidP hw
  clear hp hw hM hm hT hlen h
  go_enter Tryd.func22, Tryd.ntmps22
  go_wp2_with fail
  refine HP.out.mono ?_
  rintro e w1 ⟨B, c, rfl, hlc, hC, hb1⟩
  have HW1 := hidP (HW.out B c w1 hC)
  clear hC
  go_wp2_with fail
  refine HW1.out.mono ?_
  rintro e w2 ⟨rfl, hb2⟩
  go_wp2
  go_ret
  exact ⟨rfl, bstep hb1 hb2⟩

set_option maxRecDepth 100000 in
set_option maxHeartbeats 6400000 in
theorem checkBack_any (A : Option Addr) (d : Nat) (l : List InstrD) (s : ByteArray) (w : World) (h : kI.C w A l.length l) (he : Env w) :
    Calls Tryd.prog 4 #[.slice A l.length d, .string s] w fun e w' => e = .returned (.bool true) ∧ Below w.heap.size w w' := by
  have hfew := few_any A d l w h
  have haw := fun w1 (hb : Below w.heap.size w w1) => awake03_any w1 (he.below hb)
  have hpc := fun w1 (hb : Below w.heap.size w w1) => pcode_any A d l w1 (Kd.C_below h hb)
  have hpt := fun w1 (hb : Below w.heap.size w w1) => ptext_any A d l w1 (Kd.C_below h hb)
  have hpv := pcode_valid l
  have hpl := pcode_load l
  have hplen := pcode_len l
  have hptl := pcode_text l
  obtain ⟨M, hM⟩ : ∃ M, pcodeR l = M := ⟨_, rfl⟩
  simp only [hM] at hpc hpt hpv hpl hplen hptl
  obtain ⟨T, hT⟩ : ∃ T, textW M = T := ⟨_, rfl⟩
  simp only [hT] at hpt hpl hptl
  have HF := hidP hfew
  have HAW := hidP haw
  have HPC := hidP hpc
  have HPT := hidP hpt
  have HPV := hidP hpv
  have HPL := hidP hpl
  have HEN := hidP he
  obtain ⟨n, hn⟩ : ∃ n, l.length = n := ⟨_, rfl⟩
  have HF2 := hidP (hn ▸ HF.out)
  have HPC2 := hidP (fun w1 hb => hn ▸ HPC.out w1 hb)
  have HPT2 := hidP (fun w1 hb => hn ▸ HPT.out w1 hb)
  rw [hn]
  obtain ⟨m, hm⟩ : ∃ m, M.length = m := ⟨_, rfl⟩
  have HM := hidP hm
  have HPC3 := hidP (fun w1 hb => hm ▸ HPC2.out w1 hb)
  have hsT : (strA T).size ≤ 1000000 := by rw [strA_size]; omega
  have HST := hidP hsT
  clear hfew haw hpc hpt hpv hpl he h hn hm hM hT HF HPC HPT HPC2 hplen hptl hsT
  go_enter Tryd.func4, Tryd.ntmps4
  go_wp2_with fail
  with_reducible refine HF2.out.mono ?_
  rintro e w1 ⟨⟨b, rfl⟩, hw1⟩
  have hw1' := hw1.symm
  subst hw1'
  clear hw1
  cases b
  ·
    go_wp2_with fail
    with_reducible refine (HAW.out _ (brefl _)).mono ?_
    rintro e w2 ⟨rfl, hb2⟩
    go_wp2
    go_ret
    exact ⟨rfl, hb2⟩
  · by_cases hs : (3000 : Int) < (s.size : Int)
    ·
      go_wp2_with fail
      with_reducible refine (HAW.out _ (brefl _)).mono ?_
      rintro e w2 ⟨rfl, hb2⟩
      go_wp2
      go_ret
      exact ⟨rfl, hb2⟩
    · have hs2 : s.size ≤ 1000000 := by omega
      have hl := load_any s w hs2 HEN.out
      have hdc := fun x hx => decode_cases s x hx
      have hlb := load_back s
      have hlc : ∀ x ∈ (loadR s).1, x.cases.length ≤ 9223372036854775807 := fun x hx => by
        have : x ∈ (decodeR s).1 := by
          unfold loadR at hx
          split at hx
          · simp at hx
          · split at hx
            · simp at hx
            · exact hx
        have := hdc x this
        omega
      obtain ⟨⟨D, dt, de⟩, hD⟩ : ∃ D, loadR s = D := ⟨_, rfl⟩
      rw [hD] at hl hlb hlc
      unfold DecPost at hl
      dsimp only at hl hlb hlc
      have HL := hidP hl
      have HLB := hidP hlb
      have HLC := hidP hlc
      clear hl hD hs2 hdc hlb hlc
      go_wp2_with fail
      refine HL.out.mono ?_
      rintro e w2 ⟨A2, c2, rfl, hv2, hb2⟩
      obtain ⟨A', c', e4, _, hC2⟩ := Kd.R_reads hv2
      cases e4
      have hval := valid_any A2 c2 D w2 (HEN.out.below hb2).bl hC2 HLC.out
      obtain ⟨⟨va, ve⟩, hV⟩ : ∃ V, validR D = V := ⟨_, rfl⟩
      rw [hV] at hval
      obtain ⟨dl, hdl⟩ : ∃ dl, D.length = dl := ⟨_, rfl⟩
      rw [hdl] at hval
      have HVAL := hidP hval
      have HOK : Hid (de ≠ 0 ∧ dl = 0 ∨ de = 0 ∧ va = 0 ∧ ve = 0) := by
        rcases HLB.out with ⟨h1, h2⟩ | ⟨h1, h2⟩
        · exact .inl ⟨h1, by rw [← hdl, h2]; rfl⟩
        · rw [hV] at h2; cases h2; exact .inr ⟨h1, rfl, rfl⟩
      simp only [hdl]
      clear hval hV hv2 hC2 hdl HLB HL HLC
      go_wp2_with fail
      with_reducible refine HVAL.out.mono ?_
      rintro e w3 ⟨rfl, hb3⟩
      have hB3 := bstep hb2 hb3
      go_wp2_with fail
      refine (HPC3.out _ hB3).mono ?_
      rintro e w4 ⟨B, c, rfl, hlc, hC4, hb4⟩
      have hB4 := bstep hB3 hb4
      have hval2 := valid_any B c M w4 (HEN.out.below hB4).bl (by rw [HM.out]; exact hC4) (cases_le hC4)
      rw [HPV.out, HM.out] at hval2
      have HV2 := hidP hval2
      have HC4 := hidP hC4
      clear hval2 hC4
      go_wp2_with fail
      with_reducible refine HV2.out.mono ?_
      rintro e w5 ⟨rfl, hb5⟩
      have hB5 := bstep hB4 hb5
      have HC5 := hidP (Kd.C_below HC4.out hb5)
      go_wp2_with fail
      refine (HPT2.out _ hB5).mono ?_
      rintro e w6 ⟨rfl, hb6⟩
      have hB6 := bstep hB5 hb6
      have HC6 := hidP (Kd.C_below HC5.out hb6)
      have hl2 := load_any (strA T) w6 HST.out (HEN.out.below hB6)
      rw [HPL.out] at hl2
      unfold DecPost at hl2
      dsimp only at hl2
      rw [HM.out] at hl2
      have HL2 := hidP hl2
      clear hl2
      go_wp2_with fail
      refine HL2.out.mono ?_
      rintro e w7 ⟨A7, c7, rfl, hv7, hb7⟩
      have hB7 := bstep hB6 hb7
      have HC7 := hidP (Kd.C_below HC6.out hb7)
      have HV7 := hidP hv7
      clear hv7 hb2 hb3 hb4 hb5 hb6 hb7 hB3 hB4 hB5 hB6 HL2 HPT2 HPC3 HVAL HV2
      go_wp2_with fail
      with_reducible refine (HAW.out _ hB7).mono ?_
      rintro e w8 ⟨rfl, hb8⟩
      have hB8 := bstep hB7 hb8
      obtain ⟨A', c', e5, _, hC8⟩ := Kd.R_reads (Kd.R_below HV7.out hb8)
      rw [HM.out] at e5
      cases e5
      have hins := instrs_yes A7 B c7 c M M w8 hC8 (by rw [HM.out]; exact Kd.C_below HC7.out hb8) rfl
      rw [HM.out] at hins
      have HI := hidP hins
      have HB8 := hidP hB8
      have hok := HOK.out
      clear hC8 hins hb8 hB8 hB7 HOK
      rcases hok with ⟨h1, h2⟩ | ⟨h1, h2, h3⟩
      · have t1 : (de != 0) = true := by simp [h1]
        subst h2
        clear h1
        go_wp2_with fail
        with_reducible refine HI.out.mono ?_
        rintro e w9 ⟨rfl, hb9⟩
        go_wp2
        go_ret
        exact ⟨rfl, bstep HB8.out hb9⟩
      · subst h1 h2 h3
        go_wp2_with fail
        with_reducible refine HI.out.mono ?_
        rintro e w9 ⟨rfl, hb9⟩
        go_wp2
        go_ret
        exact ⟨rfl, bstep HB8.out hb9⟩
theorem checkBackW (W : World) (a0 : Option Addr) (n0 c0 : Nat) (z0 : List InstrD) (h0 : kI.C W a0 n0 z0) (l0 : z0.length = n0) (b0 : (∀ x ∈ z0, instrIn x) ∧ n0 ≤ c0 ∧ c0 ≤ maxLen) (a1 : ByteArray) (w1 : a1.size ≤ maxLen) (he : Env W) :
    Calls Tryd.prog 4 #[.slice a0 n0 c0, .string a1] W fun e w' => e = .returned (.bool true) ∧ Below W.heap.size W w' := by
  subst l0
  exact checkBack_any a0 c0 z0 a1 W h0 he
end Go.Proofs.YtoflhfiegfhkoaaDoor
