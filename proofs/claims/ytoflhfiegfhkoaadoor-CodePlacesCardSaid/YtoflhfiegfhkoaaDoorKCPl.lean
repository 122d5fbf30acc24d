/-
  The walk over the law CodePlaces.
-/
import Derived.Test.YtoflhfiegfhkoaaDoorKCTells
import Derived.Test.YtoflhfiegfhkoaaDoorKCPlP
import Derived.Test.YtoflhfiegfhkoaaDoorKRegs
namespace Go.Proofs.YtoflhfiegfhkoaaDoor
open Go.RowKit Go.Proofs.YtoflhfiegfhkoaaDoorW.PrintWords
set_option linter.unusedVariables false
set_option linter.unusedSimpArgs false

theorem C_sub {w : World} {b o n : Nat} {l : List InstrD} (h : kI.C w (some ⟨b, o, none⟩) n l) {i : Nat} {x : InstrD} (hx : l[i]? = some x) : kI.C w (some ⟨b, o + i * 5, none⟩) 1 [x] := by
  have hi : i < l.length := (List.getElem?_eq_some_iff.1 hx).1
  obtain ⟨ad, hA, hc⟩ := h.2.2 (by have := h.1; omega)
  cases hA
  refine ⟨rfl, by decide, fun _ => ⟨_, rfl, fun j y hj => ?_⟩⟩
  obtain ⟨c, hl, hK, hcell⟩ := hc i x hx
  have hj0 : j < 1 := by have := (List.getElem?_eq_some_iff.1 hj).1; simpa using this
  obtain rfl : j = 0 := by omega
  simp at hj
  subst hj
  refine ⟨c, hl, hK, fun k u hk => ?_⟩
  have := hcell k u hk
  rw [Addr.add_lit] at this ⊢
  rw [← this]
  congr 2
  show o + i * 5 + (0 * 5 + k) = o + (i * 5 + k)
  omega
def abcB : List Nat := [97, 98, 99, 83, 120, 48, 49, 57, 63]
/-- The word of so many bytes. -/
def wordL (bad : ByteArray) (k : Nat) : List Nat := (bad.data.toList.take k).map fun b => abcB.getD (b.toNat % 9) 0
theorem wordL_step (bad : ByteArray) (k : Nat) (h : k < bad.size) : wordL bad (k + 1) = wordL bad k ++ [abcB.getD ((bad[k]'h).toNat % 9) 0] := by
  have hl : k < bad.data.toList.length := by rw [Array.length_toList]; exact h
  have e : (bad[k]'h) = bad.data.toList[k]'hl := by simp; rfl
  unfold wordL
  rw [List.take_succ_eq_append_getElem hl, List.map_append, e]
  rfl
theorem wordL_len (bad : ByteArray) (k : Nat) : (wordL bad k).length ≤ k := by unfold wordL; rw [List.length_map, List.length_take]; omega
theorem abcB_lt (m : Nat) : abcB.getD m 0 < 256 := by
  rcases Nat.lt_or_ge m 9 with h | h
  · have : ∀ m : Fin 9, abcB.getD m.val 0 < 256 := by decide
    exact this ⟨m, h⟩
  · rw [List.getD_eq_getElem?_getD, List.getElem?_eq_none (by simpa [abcB] using h)]
    decide

theorem rforms_oprC : ∀ f ∈ rforms, 1 ≤ f.op ∧ f.op ≤ 22 := by decide
theorem rshaped_opC {x : InstrD} (h : rshaped x = true) : 1 ≤ x.op ∧ x.op ≤ 22 := by
  by_cases h21 : x.op = 21
  · omega
  · unfold rshaped at h
    rw [if_neg h21] at h
    obtain ⟨f, hf, hop, _⟩ := rshF_some x rforms h
    have := rforms_oprC f hf
    omega

set_option maxRecDepth 100000 in
set_option maxHeartbeats 6400000 in
theorem codePlaces_any (A : Option Addr) (d : Nat) (l : List InstrD) (n : Int) (bad : ByteArray) (w : World) (h : kI.C w A l.length l) (hbad : bad.size ≤ 9223372036854775807) (he : EnvK w) :
    Calls Tryd.prog 12 #[.slice A l.length d, .int .i64 n, .string bad] w fun e w' => e = .returned (.bool true) ∧ Below w.heap.size w w' := by
  have haw := fun w1 (hb : Below w.heap.size w w1) => awake02_any w1 (he.below hb)
  have hpc := pcode_any A d l w h
  have hlen := pcode_len l
  have hpl := places_decode l
  have hmx := h.2.1
  have hsh := pcode_shaped l
  have how : ∀ x ∈ pcodeR l, writeR [x] = (textW [x], 0) := fun x hx => one_write hx
  have hcs : ∀ x ∈ pcodeR l, x.cases.length ≤ 1000 := fun x hx => by have := shapedP_few (pcode_ok l x hx).1; omega
  have hsl := plS_len l
  obtain ⟨M, hM⟩ : ∃ M, pcodeR l = M := ⟨_, rfl⟩
  simp only [hM] at hpc hpl hlen hsh how hcs hsl
  obtain ⟨m, hm⟩ : ∃ m, M.length = m := ⟨_, rfl⟩
  rw [hm] at hpc hlen hpl
  obtain ⟨k, hk⟩ : ∃ k, l.length = k := ⟨_, rfl⟩
  rw [hk] at hpc hmx ⊢
  have HM := hidP hm
  have HAW := hidP haw
  have HPC := hidP hpc
  have HPL := hidP hpl
  have HSH := hidP hsh
  have HOW := hidP how
  have HCS := hidP hcs
  have HSL := hidP hsl
  have HEN := hidP he
  clear haw hpc hpl hsh how hcs hsl hM hm hk h he
  by_cases h50 : k ≤ 50
  · have tn : ¬ (50 < (k : Int)) := by omega
    have tn2 : decide (50 < (k : Int)) = false := decide_eq_false tn
    obtain ⟨W, hW1, hW2, hW3⟩ := modK n (m + 1) (by omega) (by omega)
    have hwu : IntKind.u64.wrap ((m : Int) + 1) = (m : Int) + 1 := by rw [IntKind.wrap_u64]; omega
    have hW1' : (IntKind.u64.wrap n).tmod ((m : Int) + 1) = (W : Int) := hW1
    have hne : ((m : Int) + 1 == 0) = false := by simp; omega
    go_enter Tryd.func12, Tryd.ntmps12
    go_wp2_with fail
    refine HPC.out.mono ?_
    rintro e w1 ⟨B, c, rfl, hlc, hC1, hb1⟩
    have HC1 := hidP hC1
    have HB1 := hidP hb1
    clear hC1 hb1 HPC hW1
    go_wp2_with fail
    obtain ⟨b, o, rfl⟩ : ∃ b o, B = some ⟨b, o, none⟩ := by
      obtain ⟨x, hx⟩ : ∃ x, M[0]? = some x := ⟨_, List.getElem?_eq_getElem (by rw [HM.out]; omega)⟩
      obtain ⟨b, o, _, _, e, _⟩ := instr_at HC1.out 0 x hx
      exact ⟨b, o, e⟩
    have hwm : W ≤ m := by omega
    go_loopw [8, 9] (fun v8 v9 wr => ∃ (j : Nat) (S : List Nat), v9 = .int .i64 j ∧ v8 = .string (strA S) ∧ j ≤ m + 1 ∧ Hid (S = plS M W j) ∧ S.length ≤ 1200 ∧ Hid (Below w1.heap.size w1 wr)) (fun _ v9 _ => m + 1 - (intOf v9).toNat)
    case atStart => exact ⟨0, [], rfl, rfl, by omega, rfl, by simp, brefl _⟩
    case round =>
      obtain ⟨j, S, rfl, rfl, hj, HS, hSl, HB⟩ := hrel
      obtain ⟨w2, e2⟩ : ∃ w2, w2 = wr := ⟨_, rfl⟩
      subst e2
      have sS : (strA S).size ≤ 1200 := by rw [strA_size]; exact hSl
      by_cases hjm : j ≤ m
      · have hl2 : (plS M W (j + 1)).length ≤ 1200 := by have := HSL.out W (j + 1); omega
        have hstep : plS M W (j + 1) = S ++ ((if j = W then [10, 32, 63, 10] else []) ++ textW (M[j]?.toList)) := by rw [HS.out]; rfl
        have p1 : (strA S ++ ({ data := #[10, 32, 63] } : ByteArray)) ++ ({ data := #[10] } : ByteArray) = strA (S ++ [10, 32, 63, 10]) := by
          rw [show ({ data := #[10, 32, 63] } : ByteArray) = strA [10, 32, 63] from rfl, show ({ data := #[10] } : ByteArray) = strA [10] from rfl, strA_app, strA_app, List.append_assoc]
          rfl
        have HP1 := hidP p1
        have HST := hidP hstep
        have HL2 := hidP hl2
        clear hl2 hstep p1
        by_cases hjl : j < m
        · obtain ⟨x, hx⟩ : ∃ x, M[j]? = some x := ⟨_, List.getElem?_eq_getElem (by rw [HM.out]; exact hjl)⟩
          have hxm := List.mem_of_getElem? hx
          have hT1 := rwrite_any (some ⟨b, o + j * 5, none⟩) (c - j) [x] w2 (C_sub (Kd.C_below HC1.out HB.out) hx) (fun y hy => by rw [List.mem_singleton] at hy; subst hy; exact rshaped_in (HSH.out _ hxm) (rshaped_opC (HSH.out _ hxm))) (fun y hy => by rw [List.mem_singleton] at hy; subst hy; exact HCS.out _ hxm) (by simp)
          rw [HOW.out x hxm] at hT1
          unfold WritePost at hT1
          dsimp only [List.length_cons, List.length_nil] at hT1
          have hst := HST.out
          rw [hx] at hst
          obtain ⟨T, hT⟩ : ∃ T, textW [x] = T := ⟨_, rfl⟩
          rw [hT] at hT1
          have hst2 : plS M W (j + 1) = S ++ ((if j = W then [10, 32, 63, 10] else []) ++ T) := by rw [← hT]; exact hst
          have sT : (strA T).size ≤ 1200 := by
            have := HL2.out
            rw [hst2, List.length_append, List.length_append] at this
            rw [strA_size]; omega
          have HT1 := hidP hT1
          have HST2 := hidP hst2
          have lt1 : (j : Int) ≤ (m : Int) := by omega
          have lt2 : (j : Int) < (m : Int) := by omega
          have hcut : cutA (some ⟨b, o, none⟩) j c 5 = some ⟨b, o + j * 5, none⟩ := by unfold cutA; rw [if_neg (by omega)]; simp [Addr.add_lit]
          have hjc1 : (j : Int) ≤ (c : Int) := by omega
          have hjc2 : (j : Int) + 1 ≤ (c : Int) := by omega
          have hj1 : (j : Int) ≤ (j : Int) + 1 := by omega
          have hjd : j + 1 - j = 1 := by omega
          clear hT1 hst hst2 hT hx hxm HST
          by_cases hjW : j = W
          · have HV : Hid (strA S ++ ({ data := #[10, 32, 63] } : ByteArray) ++ ({ data := #[10] } : ByteArray) ++ strA T = strA (plS M W (j + 1))) := by
              show _ = _
              rw [HP1.out, strA_app, HST2.out, if_pos hjW, List.append_assoc]
            have tW : ((j : Int) == (W : Int)) = true := by simp [hjW]
            clear hjW
            go_wp2_with fail
            refine HT1.out.mono ?_
            rintro e w3 ⟨rfl, hb3⟩
            have hB3 := bstep HB.out hb3
            have hl2 := HL2.out
            go_wp2_with fail
            go_roundw
            case rel => exact ⟨j + 1, _, by go_num, congrArg Value.string HV.out, by omega, hidP (Eq.refl _), hl2, hB3⟩
            case measure => simp [intOf]; omega
          · have HV : Hid (strA S ++ strA T = strA (plS M W (j + 1))) := by
              show _ = _
              rw [strA_app, HST2.out, if_neg hjW, List.nil_append]
            have tW : ((j : Int) == (W : Int)) = false := by simp; omega
            clear hjW
            go_wp2_with fail
            refine HT1.out.mono ?_
            rintro e w3 ⟨rfl, hb3⟩
            have hB3 := bstep HB.out hb3
            have hl2 := HL2.out
            go_wp2_with fail
            go_roundw
            case rel => exact ⟨j + 1, _, by go_num, congrArg Value.string HV.out, by omega, hidP (Eq.refl _), hl2, hB3⟩
            case measure => simp [intOf]; omega
        · have hst : plS M W (j + 1) = S ++ (if j = W then [10, 32, 63, 10] else []) := by
            rw [HST.out, List.getElem?_eq_none (by rw [HM.out]; omega)]
            simp [textW, joinW]
          have HST2 := hidP hst
          have lt1 : (j : Int) ≤ (m : Int) := by omega
          have lt2 : ¬ (j : Int) < (m : Int) := by omega
          have hl2 := HL2.out
          clear hst HST
          by_cases hjW : j = W
          · have HV : Hid (strA S ++ ({ data := #[10, 32, 63] } : ByteArray) ++ ({ data := #[10] } : ByteArray) = strA (plS M W (j + 1))) := by
              show _ = _
              rw [HP1.out, HST2.out, if_pos hjW]
            have tW : ((j : Int) == (W : Int)) = true := by simp [hjW]
            clear hjW
            go_wp2_with fail
            go_roundw
            case rel => exact ⟨j + 1, _, by go_num, congrArg Value.string HV.out, by omega, hidP (Eq.refl _), hl2, HB.out⟩
            case measure => simp [intOf]; omega
          · have HV : Hid (strA S = strA (plS M W (j + 1))) := by
              show _ = _
              rw [HST2.out, if_neg hjW, List.append_nil]
            have tW : ((j : Int) == (W : Int)) = false := by simp; omega
            clear hjW
            go_wp2_with fail
            go_roundw
            case rel => exact ⟨j + 1, _, by go_num, congrArg Value.string HV.out, by omega, hidP (Eq.refl _), hl2, HB.out⟩
            case measure => simp [intOf]; omega
      · have hjm2 : j = m + 1 := by omega
        have hd := HPL.out W hwm
        rw [← hjm2, ← HS.out] at hd
        have hdc := decode_any (strA S) w2 (by omega) (HEN.out.below (bstep HB1.out HB.out)).env
        rw [hd] at hdc
        unfold DecPost at hdc
        dsimp only [List.length_nil] at hdc
        have HD := hidP hdc
        have lt1 : ¬ (j : Int) ≤ (m : Int) := by omega
        have HB2 := hidP (bstep HB1.out HB.out)
        clear hdc hd hjm2
        go_wp2_with fail
        refine HD.out.mono ?_
        rintro e w3 ⟨A3, c3, rfl, hv3, hb3⟩
        have HB3 := hidP (bstep HB2.out hb3)
        clear hv3 hb3 HD HB2 HB
        go_wp2_with fail
        obtain ⟨z, hz⟩ : ∃ z, bad.size = z := ⟨_, rfl⟩
        have HZ := hidP hz
        rw [hz] at hbad
        clear lt1 HS hz hSl sS hj hjm HSL HCS HOW HSH HPL HM
        go_loopw [15, 16] (fun v15 v16 wr => ∃ (i : Nat) (V : List Nat), v16 = .int .i64 i ∧ v15 = .string (strA V) ∧ i ≤ z ∧ i ≤ 8 ∧ Hid (V = wordL bad i) ∧ V.length ≤ 8 ∧ Hid (Below w3.heap.size w3 wr)) (fun _ v16 _ => 8 - (intOf v16).toNat)
        case atStart => exact ⟨0, [], rfl, rfl, by omega, by omega, hidP rfl, by simp, brefl _⟩
        case round =>
          obtain ⟨i, V, rfl, rfl, hi, hi8, HV, hVl, HB⟩ := hrel
          obtain ⟨w4, e4⟩ : ∃ w4, w4 = wr := ⟨_, rfl⟩
          subst e4
          have sV : (strA V).size ≤ 8 := by rw [strA_size]; exact hVl
          by_cases hlt : i < z ∧ i < 8
          · obtain ⟨hlt1, hlt2⟩ := hlt
            have hib : i < bad.size := by rw [HZ.out]; exact hlt1
            have hix := fun w => Tryd.idx_str bad i hib w
            have hws := wordL_step bad i hib
            obtain ⟨v, hv⟩ : ∃ v, (bad[i]'hib).toNat = v := ⟨_, rfl⟩
            rw [hv] at hix hws
            obtain ⟨r, hr⟩ : ∃ r, v % 9 = r := ⟨_, rfl⟩
            rw [hr, ← HV.out] at hws
            have hr9 : r < 9 := by omega
            have hr1 : (v : Int).tmod 9 = (r : Int) := by rw [Int.tmod_eq_emod_of_nonneg (by omega)]; omega
            have hr2 : (v : Int) % 9 = (r : Int) := by omega
            have hvu : v < 256 := by rw [← hv]; exact UInt8.toNat_lt _
            have hwv : IntKind.i64.wrap (v : Int) = (v : Int) := IntWalk.i64_in _ (by omega)
            have hwr : IntKind.i64.wrap (r : Int) = (r : Int) := IntWalk.i64_in _ (by omega)
            have hq := abcB_lt r
            have hix2 : ∀ w, (Instr.index 9 (.string { data := #[97, 98, 99, 83, 120, 48, 49, 57, 63] }) (.int .i64 r)).run Tryd.prog w = .ok (.int .u8 (abcB.getD r 0 : Int)) w := fun w => by
              have h := Tryd.idx_strA abcB r (by simpa [abcB] using hr9) (by decide) w
              exact h
            obtain ⟨q, hqq⟩ : ∃ q, abcB.getD r 0 = q := ⟨_, rfl⟩
            rw [hqq] at hws hq hix2
            have hcv := conv_one q hq w4.heap.size 1 (w4.alloc (.cells #[.int .u8 (q : Int)] 5)) (by go_simp)
            have lt1 : (i : Int) < (z : Int) := by omega
            have lt2 : (i : Int) < 8 := by omega
            have sq : (strA [q]).size = 1 := strA_size _
            have hVe : Hid (strA V ++ strA [q] = strA (wordL bad (i + 1))) := by show _ = _; rw [strA_app, hws]
            have hV2 := wordL_len bad (i + 1)
            have hB4 := hidP (bnew HB.out (.cells #[.int .u8 (q : Int)] 5))
            rw [← HZ.out] at lt1
            clear hws hv hr hqq hq
            go_wp2_with fail
            go_roundw
            case rel => exact ⟨i + 1, _, by go_num, congrArg Value.string hVe.out, by omega, by omega, hidP (Eq.refl _), by omega, hB4⟩
            case measure => simp [intOf]; omega
          · have HB4 := hidP (bstep HB3.out HB.out)
            have hd1 := decode_any (strA V) w4 (by omega) (HEN.out.below HB4.out).env
            have hd2 := fun w => refDecode_any (strA V) w (by omega)
            obtain ⟨⟨D, dt, de⟩, hD⟩ : ∃ D, decodeR (strA V) = D := ⟨_, rfl⟩
            rw [hD] at hd1
            simp only [hD] at hd2
            unfold DecPost at hd1 hd2
            dsimp only at hd1 hd2
            obtain ⟨N, hN⟩ : ∃ N, D.length = N := ⟨_, rfl⟩
            rw [hN] at hd1
            simp only [hN] at hd2
            have HD1 := hidP hd1
            have HD2 := hidP hd2
            have HN := hidP hN
            have hor : ¬ (i : Int) < (z : Int) ∨ (i : Int) < (z : Int) ∧ ¬ (i : Int) < 8 := by omega
            clear hd1 hd2 hD hN hlt HB HV sV hVl hi hi8
            rcases hor with lt1 | ⟨lt1, lt2⟩
            · rw [← HZ.out] at lt1
              go_wp2_with fail
              refine HD1.out.mono ?_
              rintro e w5 ⟨A5, c5, rfl, hv5, hb5⟩
              have HB5 := hidP (bstep HB4.out hb5)
              have HV5 := hidP hv5
              clear hv5 hb5 HB4 HD1
              go_wp2_with fail
              refine (HD2.out _).mono ?_
              rintro e w6 ⟨A6, c6, rfl, hv6, hb6⟩
              have HB6 := hidP (bstep HB5.out hb6)
              have HV56 := hidP (Kd.R_below HV5.out hb6)
              have HV6 := hidP hv6
              clear hv6 hb6 HB5 HD2 HV5
              have haw := HAW.out w6 HB6.out
              have HAW6 := hidP haw
              clear haw
              go_wp2_with fail
              refine HAW6.out.mono ?_
              rintro e w7 ⟨rfl, hb7⟩
              have HB7 := hidP (bstep HB6.out hb7)
              obtain ⟨A', c', e5, _, hC5⟩ := Kd.R_reads (Kd.R_below HV56.out hb7)
              rw [HN.out] at e5
              cases e5
              obtain ⟨A', c', e6, _, hC6⟩ := Kd.R_reads (Kd.R_below HV6.out hb7)
              rw [HN.out] at e6
              cases e6
              have hins := instrs_yes A5 A6 c5 c6 D D w7 hC5 hC6 rfl
              rw [HN.out] at hins
              have HI := hidP hins
              clear hins hC5 hC6 hb7 HV56 HV6 HB6 HAW6
              go_wp2_with fail
              refine HI.out.mono ?_
              rintro e w8 ⟨rfl, hb8⟩
              have HB8 := hidP (bstep HB7.out hb8)
              clear hb8 HI HB7
              go_wp2
              go_ret
              exact ⟨rfl, HB8.out⟩
            · rw [← HZ.out] at lt1
              have lt3 : decide ((i : Int) < 8) = false := decide_eq_false lt2
              go_wp2_with fail
              refine HD1.out.mono ?_
              rintro e w5 ⟨A5, c5, rfl, hv5, hb5⟩
              have HB5 := hidP (bstep HB4.out hb5)
              have HV5 := hidP hv5
              clear hv5 hb5 HB4 HD1
              go_wp2_with fail
              refine (HD2.out _).mono ?_
              rintro e w6 ⟨A6, c6, rfl, hv6, hb6⟩
              have HB6 := hidP (bstep HB5.out hb6)
              have HV56 := hidP (Kd.R_below HV5.out hb6)
              have HV6 := hidP hv6
              clear hv6 hb6 HB5 HD2 HV5
              have haw := HAW.out w6 HB6.out
              have HAW6 := hidP haw
              clear haw
              go_wp2_with fail
              refine HAW6.out.mono ?_
              rintro e w7 ⟨rfl, hb7⟩
              have HB7 := hidP (bstep HB6.out hb7)
              obtain ⟨A', c', e5, _, hC5⟩ := Kd.R_reads (Kd.R_below HV56.out hb7)
              rw [HN.out] at e5
              cases e5
              obtain ⟨A', c', e6, _, hC6⟩ := Kd.R_reads (Kd.R_below HV6.out hb7)
              rw [HN.out] at e6
              cases e6
              have hins := instrs_yes A5 A6 c5 c6 D D w7 hC5 hC6 rfl
              rw [HN.out] at hins
              have HI := hidP hins
              clear hins hC5 hC6 hb7 HV56 HV6 HB6 HAW6
              go_wp2_with fail
              refine HI.out.mono ?_
              rintro e w8 ⟨rfl, hb8⟩
              have HB8 := hidP (bstep HB7.out hb8)
              clear hb8 HI HB7
              go_wp2
              go_ret
              exact ⟨rfl, HB8.out⟩
  · have tn : (50 < (k : Int)) := by omega
    go_enter Tryd.func12, Tryd.ntmps12
    go_wp2_with fail
    with_reducible refine (HAW.out _ (brefl _)).mono ?_
    rintro e w2 ⟨rfl, hb2⟩
    go_wp2
    go_ret
    exact ⟨rfl, hb2⟩
theorem codePlacesW (W : World) (a0 : Option Addr) (n0 c0 : Nat) (z0 : List InstrD) (h0 : kI.C W a0 n0 z0) (l0 : z0.length = n0) (b0 : (∀ x ∈ z0, instrIn x) ∧ n0 ≤ c0 ∧ c0 ≤ maxLen) (a1 : Int) (b1 : -9223372036854775808 ≤ a1 ∧ a1 ≤ 9223372036854775807) (a2 : ByteArray) (w2 : a2.size ≤ maxLen) (he : EnvK W) :
    Calls Tryd.prog 12 #[.slice a0 n0 c0, .int .i64 a1, .string a2] W fun e w' => e = .returned (.bool true) ∧ Below W.heap.size W w' := by
  subst l0
  exact codePlaces_any a0 c0 z0 a1 a2 W h0 (by unfold maxLen at w2; omega) he
end Go.Proofs.YtoflhfiegfhkoaaDoor
