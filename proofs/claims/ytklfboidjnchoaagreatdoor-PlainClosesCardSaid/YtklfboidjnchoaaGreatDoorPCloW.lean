/-
  Parts of the proof: PCloW.
-/
import Derived.Test.YtklfboidjnchoaaGreatDoorZ11
import Derived.Test.YtklfboidjnchoaaGreatDoorZ18
namespace Go.Proofs.YtklfboidjnchoaaGreatDoor
open Go.RowKit Go.Proofs.YtklfboidjnchoaaGreatDoorW.PrintWords
set_option linter.unusedVariables false
set_option linter.unusedSimpArgs false
theorem cloA_succ (n i : Nat) (hn : 2 * n + 3 < 100) (hi : i + 1 < 100) : strA (cloA n i) ++ strA [61, 98] ++ decB (i + 1) ++ strA [10, 103] ++ decB (2 * n + 3) ++ strA [10] = strA (cloA n (i + 1)) := by
  rw [decB_two hn, decB_two hi, strA_app, strA_app, strA_app, strA_app, strA_app]
  unfold cloA
  rw [List.range_succ, List.flatMap_append]
  simp
theorem cloA_len : ∀ n, n < 6 → ∀ i, i < 7 → (cloA n i).length ≤ 100 := by decide +kernel
theorem cloA_end (n : Nat) (hn : 2 * n + 2 < 100) : strA (cloA n n) ++ strA [99, 97, 10, 106] ++ decB (2 * n + 2) ++ strA [10] ++ strA [114, 97, 99, 10, 111, 98, 10, 111, 99, 10, 120] = strA (cloT n) := by
  rw [decB_two hn, strA_app, strA_app, strA_app, strA_app]
  rfl
theorem cloW_succ (i : Nat) : cloW (i + 1) = cloW i ++ [(i : Int) + 1, 0] := by
  unfold cloW
  rw [List.range_succ, List.flatMap_append]
  rfl
theorem cloW_len (n : Nat) : (cloW n).length = 2 * n := by
  induction n with
  | zero => rfl
  | succ n ih => rw [cloW_succ, List.length_append, ih]; simp; omega
theorem cloS_len (n : Nat) : (cloS n).length = 2 * n + 1 + n + 1 + 4 * n := by unfold cloS onesL; simp [picksL_len]; omega
theorem cloS_in (n : Nat) (hn : n < 9) : ∀ e ∈ cloS n, (-9223372036854775808 ≤ e.n ∧ e.n ≤ 9223372036854775807) ∧ (-9223372036854775808 ≤ e.draw ∧ e.draw ≤ 9223372036854775807) := by
  intro e he
  unfold cloS at he
  rw [List.mem_append, List.mem_append, List.mem_append] at he
  rcases he with ((he | he) | he) | he
  · exact picksL_in _ (by omega) e he
  · exact onesL_in _ e he
  · exact picksL_in _ (by omega) e he
  · exact onesL_in _ e he
set_option maxRecDepth 100000 in
set_option maxHeartbeats 6400000 in
theorem plainCloses_any (a : Int) (w : World) (hbl : Blanks w) :
    Calls Tryz.prog 8 #[.int .i64 a] w fun e w' => e = .returned (.bool true) ∧ Below w.heap.size w w' := by
  obtain ⟨m1, m2, m3⟩ := modN_spec a 6 (by omega) (by omega)
  obtain ⟨n, hk⟩ : ∃ n, modN a 6 = n := ⟨_, rfl⟩
  rw [hk] at m1 m2 m3
  have m1' : (IntKind.u64.wrap a).tmod 6 = (n : Int) := m1
  have hg := clo_good n m2
  have hru := clo_run n m2
  have hv : (validR (codeT (cloT n))).2 = 0 := hg.2.2.2.2.2
  have hev : (cloM n).events.length ≤ 1000000 := runR_few hv (by rw [cloS_len]; omega)
  have HPR : Hid (∀ {nl : Nat} {A S : Option Addr} {d ds : Nat} {w : World}, (codeT (cloT n)).length = nl → Blanks w → kI.C w A (codeT (cloT n)).length (codeT (cloT n)) → RowAt w S ((cloS n).flatMap entC) →
    Calls Tryz.prog 17 #[.slice A nl d, .slice S (2 * n + 1 + n + 1 + 4 * n) ds] w (RunPost w (cloM n))) := fun hl hbl hP hS => prun_any hl (cloS_len n) hv hbl hP hS (by omega) (cloS_in n (by omega))
  have hld := fun w => lload_any hg w
  unfold DecPost at hld
  dsimp only at hld
  obtain ⟨nl, hnl⟩ : ∃ nl, (codeT (cloT n)).length = nl := ⟨_, rfl⟩
  rw [hnl] at hld
  have HNL := hidP hnl
  generalize cloM n = M at *
  have hd1 := fun w => digits_lit (2 * n + 3) (2 * (n : Int) + 3) (by omega) (by omega) w
  have hd2 := fun w => digits_lit (2 * n + 2) (2 * (n : Int) + 2) (by omega) (by omega) w
  have hsz1 := decB_le (2 * n + 3) (by omega)
  have hsz2 := decB_le (2 * n + 2) (by omega)
  have hsu := fun i hi => cloA_succ n i (by omega) hi
  have hen := cloA_end n (by omega)
  obtain ⟨P, hP⟩ : ∃ P, decB (2 * n + 3) = P := ⟨_, rfl⟩
  obtain ⟨Q, hQ⟩ : ∃ Q, decB (2 * n + 2) = Q := ⟨_, rfl⟩
  simp only [hP] at hsz1 hd1 hsu
  simp only [hQ] at hsz2 hd2 hen
  obtain ⟨sp, hsp⟩ : ∃ sp, P.size = sp := ⟨_, rfl⟩
  obtain ⟨sq, hsq⟩ : ∃ sq, Q.size = sq := ⟨_, rfl⟩
  rw [hsp] at hsz1
  rw [hsq] at hsz2
  have HD1 := hidP hd1
  have HD2 := hidP hd2
  have HSU := hidP hsu
  have HEN := hidP hen
  have HLD := hidP hld
  have HRU := hidP hru
  have HBL := hidP hbl
  have n0 : (0 : Int) ≤ (n : Int) := by omega
  have n9 : (n : Int) ≤ 5 := by omega
  have N9 := hidP m2
  clear hP hQ m1 m2 hk hg hru hbl hv hld hnl hd1 hd2 hsu hen
  go_enter Tryz.func8, Tryz.ntmps8
  go_wp2_with fail
  go_loopw [3, 4] (fun v3 v4 wr => ∃ i : Nat, v3 = .string (strA (cloA n i)) ∧ v4 = .int .i64 i ∧ i ≤ n ∧ Below w.heap.size w wr) (fun _ v4 _ => n - (intOf v4).toNat)
  case atStart => exact ⟨0, rfl, rfl, by omega, brefl _⟩
  case round =>
    obtain ⟨i, rfl, rfl, hi, hb⟩ := hrel
    have hlen := cloA_len n N9.out i (by have := N9.out; omega)
    have hsz := strA_size (cloA n i)
    by_cases hlt : i < n
    · have hsu := HSU.out i (by have := N9.out; omega)
      have hd3 := fun w => digits_lit (i + 1) ((i : Int) + 1) (by omega) (by have := N9.out; omega) w
      have hsz3 := decB_le (i + 1) (by have := N9.out; omega)
      obtain ⟨R, hR⟩ : ∃ R, decB (i + 1) = R := ⟨_, rfl⟩
      rw [hR] at hsz3 hsu
      simp only [hR] at hd3
      obtain ⟨sr, hsr⟩ : ∃ sr, R.size = sr := ⟨_, rfl⟩
      rw [hsr] at hsz3
      obtain ⟨T, hT⟩ : ∃ T, strA (cloA n i) = T := ⟨_, rfl⟩
      rw [hT] at hsz hsu ⊢
      obtain ⟨sT, hsT⟩ : ∃ sT, T.size = sT := ⟨_, rfl⟩
      have hsl : sT ≤ 100 := by omega
      have HSW := hidP hsu
      have HD3 := hidP hd3
      clear hT hsz hlen hsu hd3 hR
      go_wp2_with fail
      go_at_call 19
      with_reducible refine (HD3.out _).mono ?_
      rintro e w1 ⟨rfl, hb1⟩
      go_wp2_with fail
      go_at_call 19
      with_reducible refine (HD1.out _).mono ?_
      rintro e w2 ⟨rfl, hb2⟩
      go_wp2_with fail
      go_roundw
      case rel => exact ⟨i + 1, by rw [← HSW.out]; rfl, by go_num, by omega, bstep (bstep hb hb1) hb2⟩
      case measure => simp [intOf]; omega
    · obtain rfl : n = i := by omega
      have hen := HEN.out
      obtain ⟨T, hT⟩ : ∃ T, strA (cloA n n) = T := ⟨_, rfl⟩
      rw [hT] at hsz hen ⊢
      obtain ⟨sT, hsT⟩ : ∃ sT, T.size = sT := ⟨_, rfl⟩
      have hsl : sT ≤ 100 := by omega
      have HENW := hidP hen
      clear hT hsz hlen hen
      go_wp2_with fail
      go_at_call 19
      with_reducible refine (HD2.out _).mono ?_
      rintro e w1 ⟨rfl, hb1⟩
      have HB1 := hidP (bstep hb hb1)
      have HLW := hidP (HENW.out ▸ HLD.out w1)
      clear hb hb1
      go_wp2_with fail
      go_at_call 22
      refine HLW.out.mono ?_
      rintro e u3 ⟨L, lc, rfl, hR, hb3⟩
      obtain ⟨A', c', e5, hle, hC⟩ := Kd.R_reads hR
      simp only [Value.slice.injEq] at e5
      obtain ⟨rfl, q5, rfl⟩ := e5
      clear q5 hle
      have HC := hidP hC
      have KB3 := hidP (bstep HB1.out hb3)
      clear hR hC hb3
      go_wp2_with fail
      go_at_call 14
      with_reducible refine (awakeP_any _ (HBL.out.below KB3.out)).mono ?_
      rintro e u4 ⟨rfl, hb4⟩
      have HC4 := hidP (C_keep HC.out hb4)
      have KB4 := hidP (bstep KB3.out hb4)
      clear hb4
      go_wp2_with fail
      go_at_call 23
      with_reducible refine (picks_lit (2 * n + 1) 0 (2 * (n : Int) + 1) (by omega) _ (by omega)).mono ?_
      rintro e u5 ⟨B5, c5, rfl, ho5, hb5⟩
      have KO5 := hidP ho5
      have KB5 := hidP hb5
      clear ho5 hb5
      go_wp2_with (at_builtin; go_loud (refine (wpList_app _ rfl (.tmp 58) (.tmp 62) rfl Tryz.slEnt u4.heap.size (.slice none 0 0) 0 [] rfl (World.ownsRow_nil _ _ _ _) B5 (2 * n + 1) c5 ((picksL (2 * n + 1) 0).flatMap entC) rfl (2 * n + 1) (by omega) (owns_row KO5.out) (by rw [entC_len, picksL_len]) (entC_one _) (by omega) (by unfold maxLen; omega) KB5.out.size ?_)); intro a6 c6 u6 ho6 hg6 _)
      have KB6 := hidP (KB5.out.grown hg6 KB5.out.size (fun j hj => by cases hj))
      have KO6 := hidP ho6
      rw [List.nil_append] at KO6
      clear ho6 hg6
      go_wp2_with fail
      go_loopw [8, 9] (fun v8 v9 wr => ∃ (i : Nat) (B : Option Addr) (c : Nat), v8 = .slice B (2 * n + 1 + i) c ∧ v9 = .int .i64 i ∧ i ≤ n ∧ Hid (wr.ownsRow u4.heap.size 48 3 (.slice B (2 * n + 1 + i) c) (2 * n + 1 + i) ((picksL (2 * n + 1) 0 ++ onesL i).flatMap entC)) ∧ Below u4.heap.size u4 wr) (fun _ v9 _ => n - (intOf v9).toNat)
      case atStart => exact ⟨0, a6, c6, rfl, rfl, by omega, by rw [show onesL 0 = [] from rfl, List.append_nil]; exact KO6.out, KB6.out⟩
      case round =>
        obtain ⟨i, B, c, rfl, rfl, hi, HO, hb⟩ := hrel
        have hsr := hb.size
        by_cases hlt : i < n
        · have lt1 : (i : Int) < (n : Int) := by omega
          go_wp2_with (at_builtin; go_loud (refine (wpList_app _ rfl (.tmp 69) (.tmp 71) rfl Tryz.slEnt u4.heap.size (.slice B (2 * n + 1 + i) c) (2 * n + 1 + i) ((picksL (2 * n + 1) 0 ++ onesL i).flatMap entC) rfl (owns_below HO.out (bnew (brefl wr) _)) (some ⟨wr.heap.size, 0, none⟩) 1 1 [.int .i64 1, .int .i64 1, .int .i64 0] rfl (2 * n + 1 + (i + 1)) rfl (row_new _ [.int .i64 1, .int .i64 1, .int .i64 0] _ _ rfl) rfl (entC_one [(⟨1, 1, 0⟩ : EntD)]) (by omega) (by unfold maxLen; omega) (by simp; omega) ?_)); intro a2 c2 w2 ho2 hg2 _)
          have ho3 : w2.ownsRow u4.heap.size 48 3 (.slice a2 (2 * n + 1 + (i + 1)) c2) (2 * n + 1 + (i + 1)) ((picksL (2 * n + 1) 0 ++ onesL (i + 1)).flatMap entC) := by rw [onesL_succ, ← List.append_assoc, List.flatMap_append]; exact ho2
          have hB2 : Below u4.heap.size u4 w2 := (bnew hb _).grown hg2 (by simp; omega) (fun j hj => (HO.out.lt j hj).1)
          go_roundw
          case rel => exact ⟨i + 1, a2, c2, rfl, by go_num, by omega, ho3, hB2⟩
          case measure => simp [intOf]; omega
        · obtain rfl : n = i := by omega
          have HB7 := hidP hb
          clear hb
          go_wp2_with fail
          go_at_call 23
          with_reducible refine (picks_lit 1 0 1 rfl _ (by omega)).mono ?_
          rintro e u8 ⟨B8, c8, rfl, ho8, hb8⟩
          have KO8 := hidP ho8
          have KB8 := hidP hb8
          clear ho8 hb8
          go_wp2_with (at_builtin; go_loud (refine (wpList_app _ rfl (.tmp 73) (.tmp 74) rfl Tryz.slEnt u4.heap.size (.slice B (2 * n + 1 + n) c) (2 * n + 1 + n) ((picksL (2 * n + 1) 0 ++ onesL n).flatMap entC) rfl (owns_below HO.out KB8.out) B8 1 c8 ((picksL 1 0).flatMap entC) rfl (2 * n + 1 + n + 1) rfl (owns_row KO8.out) rfl (entC_one _) (by omega) (by unfold maxLen; omega) (by have := KB8.out.size; omega) ?_)); intro a9 c9 u9 ho9 hg9 _)
          have KB9 := hidP ((bstep HB7.out KB8.out).grown hg9 (by have := KB8.out.size; omega) (fun j hj => (HO.out.lt j hj).1))
          have KO9 := hidP ho9
          rw [← List.flatMap_append] at KO9
          clear ho9 hg9
          go_wp2_with fail
          go_loopw [8, 10] (fun v8 v10 wr => ∃ (i : Nat) (B : Option Addr) (c : Nat), v8 = .slice B (2 * n + 1 + n + 1 + i) c ∧ v10 = .int .i64 i ∧ i ≤ 4 * n ∧ Hid (wr.ownsRow u4.heap.size 48 3 (.slice B (2 * n + 1 + n + 1 + i) c) (2 * n + 1 + n + 1 + i) ((picksL (2 * n + 1) 0 ++ onesL n ++ picksL 1 0 ++ onesL i).flatMap entC)) ∧ Below u4.heap.size u4 wr) (fun _ v10 _ => 4 * n - (intOf v10).toNat)
          case atStart => exact ⟨0, a9, c9, rfl, rfl, by omega, by rw [show onesL 0 = [] from rfl, List.append_nil]; exact KO9.out, KB9.out⟩
          case round =>
            obtain ⟨i, B, c, rfl, rfl, hi, HO, hb⟩ := hrel
            have hsr := hb.size
            by_cases hlt : i < 4 * n
            · have lt1 : (i : Int) < 4 * (n : Int) := by omega
              go_wp2_with (at_builtin; go_loud (refine (wpList_app _ rfl (.tmp 82) (.tmp 84) rfl Tryz.slEnt u4.heap.size (.slice B (2 * n + 1 + n + 1 + i) c) (2 * n + 1 + n + 1 + i) ((picksL (2 * n + 1) 0 ++ onesL n ++ picksL 1 0 ++ onesL i).flatMap entC) rfl (owns_below HO.out (bnew (brefl wr) _)) (some ⟨wr.heap.size, 0, none⟩) 1 1 [.int .i64 1, .int .i64 1, .int .i64 0] rfl (2 * n + 1 + n + 1 + (i + 1)) rfl (row_new _ [.int .i64 1, .int .i64 1, .int .i64 0] _ _ rfl) rfl (entC_one [(⟨1, 1, 0⟩ : EntD)]) (by omega) (by unfold maxLen; omega) (by simp; omega) ?_)); intro a2 c2 w2 ho2 hg2 _)
              have ho3 : w2.ownsRow u4.heap.size 48 3 (.slice a2 (2 * n + 1 + n + 1 + (i + 1)) c2) (2 * n + 1 + n + 1 + (i + 1)) ((picksL (2 * n + 1) 0 ++ onesL n ++ picksL 1 0 ++ onesL (i + 1)).flatMap entC) := by rw [onesL_succ, ← List.append_assoc, List.flatMap_append]; exact ho2
              have hB2 : Below u4.heap.size u4 w2 := (bnew hb _).grown hg2 (by simp; omega) (fun j hj => (HO.out.lt j hj).1)
              go_roundw
              case rel => exact ⟨i + 1, a2, c2, rfl, by go_num, by omega, ho3, hB2⟩
              case measure => simp [intOf]; omega
            · obtain rfl : i = 4 * n := by omega
              have HRW := hidP (HPR.out (d := lc) (ds := c) HNL.out (HBL.out.below (bstep KB4.out hb)) (C_keep HC4.out hb) (owns_row HO.out))
              have HB0 := hidP (bstep KB4.out hb)
              have HR := HRU
              have lt1 : ¬ (((4 * n : Nat)) : Int) < 4 * (n : Int) := by omega
              clear hsr hb
              go_wp2_with fail
              go_at_call 17
              refine HRW.out.mono ?_
              rintro e w3 hret
              obtain ⟨ea, ec, sa, sc, rfl, h1, h2, h3⟩ := hret.open
              rw [HR.out.1]
              obtain ⟨ne, hne⟩ : ∃ ne, M.events.length = ne := ⟨_, rfl⟩
              obtain ⟨ns, hns⟩ : ∃ ns, M.steps.length = ns := ⟨_, rfl⟩
              rw [hne, hns]
              have H1 := hidP h1
              rw [hne] at H1
              have HNE := hidP hne
              have HB3 := hidP (bstep HB0.out h3)
              have HEV := hidP (hne ▸ hev)
              clear h1 h2 h3 hret hne hns hev
              clear lt1
              go_wp2_with fail
              have hr3 := heap_alloc_new w3 (.cells #[.slice ea ne ec, .int .i64 0, .slice sa ns sc] 31)
              have hbA : Below w3.heap.size w3 (w3.alloc (.cells #[.slice ea ne ec, .int .i64 0, .slice sa ns sc] 31)) := bnew (brefl w3) _
              have hzA : (w3.alloc (.cells #[.slice ea ne ec, .int .i64 0, .slice sa ns sc] 31)).heap.size = w3.heap.size + 1 := by simp
              generalize w3.alloc (.cells #[.slice ea ne ec, .int .i64 0, .slice sa ns sc] 31) = W3 at *
              have HR3 := hidP hr3
              have HBA := hidP hbA
              have HZA := hidP hzA
              clear hr3 hbA hzA
              go_loopw [12, 13] (fun v12 v13 wr => ∃ (i : Nat) (B : Option Addr) (c : Nat), v12 = .slice B (2 * i) c ∧ v13 = .int .i64 i ∧ i ≤ n ∧ Hid (wr.ownsRow W3.heap.size 3 1 (.slice B (2 * i) c) (2 * i) ((cloW i).map (Value.int .i64))) ∧ Below W3.heap.size W3 wr) (fun _ v13 _ => n - (intOf v13).toNat)
              case atStart => exact ⟨0, none, 0, rfl, rfl, by omega, World.ownsRow_nil _ _ _ _, brefl _⟩
              case round =>
                obtain ⟨i, B, c, rfl, rfl, hi, HO, hb⟩ := hrel
                have hsr := hb.size
                by_cases hlt : i < n
                · have lt1 : (i : Int) < (n : Int) := by omega
                  go_wp2_with (at_builtin; go_loud (refine (wpList_app _ rfl (.tmp 94) (.tmp 97) rfl Tryz.slIntP W3.heap.size (.slice B (2 * i) c) (2 * i) ((cloW i).map (Value.int .i64)) rfl (owns_below HO.out (bnew (brefl wr) _)) (some ⟨wr.heap.size, 0, none⟩) 2 2 [.int .i64 ((i : Int) + 1), .int .i64 0] rfl (2 * (i + 1)) rfl (row_new _ [.int .i64 ((i : Int) + 1), .int .i64 0] _ _ rfl) rfl (by intro u hu; simp at hu; rcases hu with rfl | rfl <;> rfl) (by omega) (by unfold maxLen; omega) (by simp; omega) ?_)); intro a2 c2 w2 ho2 hg2 _)
                  have ho3 : w2.ownsRow W3.heap.size 3 1 (.slice a2 (2 * (i + 1)) c2) (2 * (i + 1)) ((cloW (i + 1)).map (Value.int .i64)) := by rw [cloW_succ, List.map_append]; exact ho2
                  have hB2 : Below W3.heap.size W3 w2 := (bnew hb _).grown hg2 (by simp; omega) (fun j hj => (HO.out.lt j hj).1)
                  go_roundw
                  case rel => exact ⟨i + 1, a2, c2, rfl, by go_num, by omega, ho3, hB2⟩
                  case measure => simp [intOf]; omega
                · obtain rfl : n = i := by omega
                  have hr4 := (hb.block w3.heap.size (by rw [HZA.out]; omega)).trans HR3.out
                  have g0 := cell_of_row wr w3.heap.size 0 _ _ (0, 0) hr4
                  have g1 := cell_of_row wr w3.heap.size 1 _ _ (0, 0) hr4
                  have g2 := cell_of_row wr w3.heap.size 2 _ _ (0, 0) hr4
                  simp at g0 g1 g2
                  have HB34 := hidP (bstep (bstep HB3.out HBA.out) hb)
                  have HBW := hidP (bstep HBA.out hb)
                  clear hr4 hb
                  go_wp2_with fail
                  go_at_call 21
                  with_reducible refine (outs_any ea sa ne ec ns sc 0 M.events wr ((owns_row H1.out).below HBW.out) HNE.out HEV.out).mono ?_
                  rintro e w5 ⟨A, c', rfl, ho5, hb5⟩
                  rw [HR.out.2] at ho5 ⊢
                  have hln : (cloW n).length = 2 * n := cloW_len n
                  rw [hln] at ho5 ⊢
                  go_wp2_with fail
                  go_at_call 24
                  with_reducible refine (plainInt_any A B (2 * n) (2 * n) c' c (cloW n) (cloW n) _ (owns_row ho5) ((owns_row HO.out).below hb5) hln hln (by omega)).mono ?_
                  rintro e w6 ⟨rfl, hb6⟩
                  rw [decide_eq_true rfl]
                  go_wp2_with fail
                  go_ret
                  exact ⟨rfl, bstep (bstep HB34.out hb5) hb6⟩
theorem plainClosesW (W : World) (a0 : Int) (b0 : -9223372036854775808 ≤ a0 ∧ a0 ≤ 9223372036854775807) (he : Env W) :
    Calls Tryz.prog 8 #[.int .i64 a0] W fun e w' => e = .returned (.bool true) ∧ Below W.heap.size W w' := plainCloses_any a0 W he.bl
end Go.Proofs.YtklfboidjnchoaaGreatDoor
