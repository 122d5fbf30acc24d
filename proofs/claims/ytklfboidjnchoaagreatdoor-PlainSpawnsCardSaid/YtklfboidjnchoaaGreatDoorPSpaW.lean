/-
  Parts of the proof: PSpaW.
-/
import Derived.Test.YtklfboidjnchoaaGreatDoorZ11
import Derived.Test.YtklfboidjnchoaaGreatDoorZ18
namespace Go.Proofs.YtklfboidjnchoaaGreatDoor
open Go.RowKit Go.Proofs.YtklfboidjnchoaaGreatDoorW.PrintWords
set_option linter.unusedVariables false
set_option linter.unusedSimpArgs false
theorem spaA_succ (n i : Nat) (hn : 2 * n + 2 < 100) : strA (spaA n i) ++ strA [103] ++ decB (2 * n + 2) ++ strA [10, 43, 97, 98, 10] = strA (spaA n (i + 1)) := by
  rw [decB_two hn, strA_app, strA_app, strA_app]
  unfold spaA
  rw [List.range_succ, List.flatMap_append]
  simp
theorem spaA_len : ∀ n, n < 9 → ∀ i, i < 10 → (spaA n i).length ≤ 100 := by decide +kernel
theorem spaA_end (n : Nat) (hn : 2 * n + 1 < 100) : strA (spaA n n) ++ strA [106] ++ decB (2 * n + 1) ++ strA [10, 43, 97, 98, 10, 111, 97, 10, 120] = strA (spaT n) := by
  rw [decB_two hn, strA_app, strA_app, strA_app]
  rfl
theorem spaW_at : ∀ n, n < 9 → ∀ i, i < n → (spaW n)[2 * i]? = some ⟨1, (i : Int) + 1, (i : Int) + 1, false⟩ ∧ (spaW n)[2 * i + 1]? = some ⟨2, (i : Int) + 1, 0, false⟩ := by decide +kernel
theorem spaW_len (n : Nat) : (spaW n).length = 2 * n := by
  unfold spaW
  induction n with
  | zero => rfl
  | succ n ih => rw [List.range_succ, List.flatMap_append, List.length_append, ih]; simp; omega
theorem spaS_len (n : Nat) : (spaS n).length = 2 * n + 1 + 3 * n := by unfold spaS onesL; rw [List.length_append, picksL_len, List.length_replicate]
theorem spaS_in (n : Nat) (hn : n < 9) : ∀ e ∈ spaS n, (-9223372036854775808 ≤ e.n ∧ e.n ≤ 9223372036854775807) ∧ (-9223372036854775808 ≤ e.draw ∧ e.draw ≤ 9223372036854775807) := by
  intro e he
  rcases List.mem_append.1 he with he | he
  · exact picksL_in _ (by omega) e he
  · exact onesL_in _ e he
set_option maxRecDepth 100000 in
set_option maxHeartbeats 6400000 in
theorem plainSpawns_any (a : Int) (w : World) (hbl : Blanks w) :
    Calls Tryz.prog 12 #[.int .i64 a] w fun e w' => e = .returned (.bool true) ∧ Below w.heap.size w w' := by
  obtain ⟨m1, m2, m3⟩ := modN_spec a 8 (by omega) (by omega)
  obtain ⟨k, hk⟩ : ∃ k, modN a 8 = k := ⟨_, rfl⟩
  rw [hk] at m1 m2 m3
  have m1' : (IntKind.u64.wrap a).tmod 8 = (k : Int) := m1
  obtain ⟨n, hn⟩ : ∃ n, 1 + k = n := ⟨_, rfl⟩
  have hnk : (1 : Int) + (k : Int) = (n : Int) := by omega
  have hg := spa_good n (by omega)
  have hru := spa_run n (by omega) (by omega)
  have hv : (validR (codeT (spaT n))).2 = 0 := hg.2.2.2.2.2
  have HPR : Hid (∀ {nl : Nat} {A S : Option Addr} {d ds : Nat} {w : World}, (codeT (spaT n)).length = nl → Blanks w → kI.C w A (codeT (spaT n)).length (codeT (spaT n)) → RowAt w S ((spaS n).flatMap entC) →
    Calls Tryz.prog 17 #[.slice A nl d, .slice S (2 * n + 1 + 3 * n) ds] w (RunPost w (spaM n))) := fun hl hbl hP hS => prun_any hl (spaS_len n) hv hbl hP hS (by omega) (spaS_in n (by omega))
  have hld := fun w => lload_any hg w
  unfold DecPost at hld
  dsimp only at hld
  obtain ⟨nl, hnl⟩ : ∃ nl, (codeT (spaT n)).length = nl := ⟨_, rfl⟩
  rw [hnl] at hld
  have HNL := hidP hnl
  generalize spaM n = M at *
  have hd1 := fun w => digits_lit (2 * n + 2) (2 * (n : Int) + 2) (by omega) (by omega) w
  have hd2 := fun w => digits_lit (2 * n + 1) (2 * (n : Int) + 1) (by omega) (by omega) w
  have hsz1 := decB_le (2 * n + 2) (by omega)
  have hsz2 := decB_le (2 * n + 1) (by omega)
  have hsu := fun i => spaA_succ n i (by omega)
  have hen := spaA_end n (by omega)
  obtain ⟨P, hP⟩ : ∃ P, decB (2 * n + 2) = P := ⟨_, rfl⟩
  obtain ⟨Q, hQ⟩ : ∃ Q, decB (2 * n + 1) = Q := ⟨_, rfl⟩
  simp only [hP] at hsz1 hd1 hsu
  simp only [hQ] at hsz2 hd2 hen
  obtain ⟨sp, hsp⟩ : ∃ sp, P.size = sp := ⟨_, rfl⟩
  obtain ⟨sq, hsq⟩ : ∃ sq, Q.size = sq := ⟨_, rfl⟩
  rw [hsp] at hsz1
  rw [hsq] at hsz2
  have HD1 := hidP hd1
  have HD2 := hidP hd2
  have HSU := hidP hsu
  have HEN := hidP hen
  have HLD := hidP hld
  have HRU := hidP hru
  have HBL := hidP hbl
  have n0 : (0 : Int) ≤ (n : Int) := by omega
  have n9 : (n : Int) ≤ 8 := by omega
  have N9 := hidP (show n < 9 by omega)
  clear hP hQ m1 m2 hk hn hg hru hbl hv hld hnl hd1 hd2 hsu hen
  go_enter Tryz.func12, Tryz.ntmps12
  go_wp2_with fail
  go_loopw [3, 4] (fun v3 v4 wr => ∃ i : Nat, v3 = .string (strA (spaA n i)) ∧ v4 = .int .i64 i ∧ i ≤ n ∧ Below w.heap.size w wr) (fun _ v4 _ => n - (intOf v4).toNat)
  case atStart => exact ⟨0, rfl, rfl, by omega, brefl _⟩
  case round =>
    obtain ⟨i, rfl, rfl, hi, hb⟩ := hrel
    have hlen := spaA_len n N9.out i (by have := N9.out; omega)
    have hsz := strA_size (spaA n i)
    by_cases hlt : i < n
    · have hsu := HSU.out i
      obtain ⟨T, hT⟩ : ∃ T, strA (spaA n i) = T := ⟨_, rfl⟩
      rw [hT] at hsz hsu ⊢
      obtain ⟨sT, hsT⟩ : ∃ sT, T.size = sT := ⟨_, rfl⟩
      have hsl : sT ≤ 100 := by omega
      have HSW := hidP hsu
      clear hT hsz hlen hsu
      go_wp2_with fail
      go_at_call 19
      with_reducible refine (HD1.out _).mono ?_
      rintro e w1 ⟨rfl, hb1⟩
      go_wp2_with fail
      go_roundw
      case rel => exact ⟨i + 1, by rw [← HSW.out]; rfl, by go_num, by omega, bstep hb hb1⟩
      case measure => simp [intOf]; omega
    · obtain rfl : n = i := by omega
      have hen := HEN.out
      obtain ⟨T, hT⟩ : ∃ T, strA (spaA n n) = T := ⟨_, rfl⟩
      rw [hT] at hsz hen ⊢
      obtain ⟨sT, hsT⟩ : ∃ sT, T.size = sT := ⟨_, rfl⟩
      have hsl : sT ≤ 100 := by omega
      have HENW := hidP hen
      clear hT hsz hlen hen
      go_wp2_with fail
      go_at_call 19
      with_reducible refine (HD2.out _).mono ?_
      rintro e w1 ⟨rfl, hb1⟩
      have HB1 := hidP (bstep hb hb1)
      have HLW := hidP (HENW.out ▸ HLD.out w1)
      clear hb hb1
      go_wp2_with fail
      go_at_call 22
      refine HLW.out.mono ?_
      rintro e u3 ⟨L, lc, rfl, hR, hb3⟩
      obtain ⟨A', c', e5, hle, hC⟩ := Kd.R_reads hR
      simp only [Value.slice.injEq] at e5
      obtain ⟨rfl, q5, rfl⟩ := e5
      clear q5 hle
      have HC := hidP hC
      have KB3 := hidP (bstep HB1.out hb3)
      clear hR hC hb3
      go_wp2_with fail
      go_at_call 14
      with_reducible refine (awakeP_any _ (HBL.out.below KB3.out)).mono ?_
      rintro e u4 ⟨rfl, hb4⟩
      have HC4 := hidP (C_keep HC.out hb4)
      have KB4 := hidP (bstep KB3.out hb4)
      clear hb4
      go_wp2_with fail
      go_at_call 23
      with_reducible refine (picks_lit (2 * n + 1) 0 (2 * (n : Int) + 1) (by omega) _ (by omega)).mono ?_
      rintro e u5 ⟨B, cb, rfl, ho5, hb5⟩
      have KO5 := hidP ho5
      have KB5 := hidP hb5
      clear ho5 hb5
      go_wp2_with fail
      go_loopw [8, 9] (fun v8 v9 wr => ∃ (i : Nat) (B : Option Addr) (c : Nat), v8 = .slice B (2 * n + 1 + i) c ∧ v9 = .int .i64 i ∧ i ≤ 3 * n ∧ Hid (wr.ownsRow u4.heap.size 48 3 (.slice B (2 * n + 1 + i) c) (2 * n + 1 + i) ((picksL (2 * n + 1) 0 ++ onesL i).flatMap entC)) ∧ Below u4.heap.size u4 wr) (fun _ v9 _ => 3 * n - (intOf v9).toNat)
      case atStart => exact ⟨0, B, cb, rfl, rfl, by omega, by rw [show onesL 0 = [] from rfl, List.append_nil]; exact KO5.out, KB5.out⟩
      case round =>
        obtain ⟨i, B, c, rfl, rfl, hi, HO, hb⟩ := hrel
        have hsr := hb.size
        by_cases hlt : i < 3 * n
        · have lt1 : (i : Int) < 3 * (n : Int) := by omega
          go_wp2_with (at_builtin; go_loud (refine (wpList_app _ rfl (.tmp 60) (.tmp 62) rfl Tryz.slEnt u4.heap.size (.slice B (2 * n + 1 + i) c) (2 * n + 1 + i) ((picksL (2 * n + 1) 0 ++ onesL i).flatMap entC) rfl (owns_below HO.out (bnew (brefl wr) _)) (some ⟨wr.heap.size, 0, none⟩) 1 1 [.int .i64 1, .int .i64 1, .int .i64 0] rfl (2 * n + 1 + (i + 1)) rfl (row_new _ [.int .i64 1, .int .i64 1, .int .i64 0] _ _ rfl) rfl (entC_one [(⟨1, 1, 0⟩ : EntD)]) (by omega) (by unfold maxLen; omega) (by simp; omega) ?_)); intro a2 c2 w2 ho2 hg2 _)
          have ho3 : w2.ownsRow u4.heap.size 48 3 (.slice a2 (2 * n + 1 + (i + 1)) c2) (2 * n + 1 + (i + 1)) ((picksL (2 * n + 1) 0 ++ onesL (i + 1)).flatMap entC) := by rw [onesL_succ, ← List.append_assoc, List.flatMap_append]; exact ho2
          have hB2 : Below u4.heap.size u4 w2 := (bnew hb _).grown hg2 (by simp; omega) (fun j hj => (HO.out.lt j hj).1)
          go_roundw
          case rel => exact ⟨i + 1, a2, c2, rfl, by go_num, by omega, ho3, hB2⟩
          case measure => simp [intOf]; omega
        · obtain rfl : i = 3 * n := by omega
          have HRW := hidP (HPR.out (d := lc) (ds := c) HNL.out (HBL.out.below (bstep KB4.out hb)) (C_keep HC4.out hb) (owns_row HO.out))
          have KB6 := hidP (bstep KB4.out hb)
          have lt1 : ¬ (((3 * n : Nat)) : Int) < 3 * (n : Int) := by omega
          clear hsr hb
          go_wp2_with fail
          go_at_call 17
          with_reducible refine HRW.out.mono ?_
          rintro e w3 hret
          obtain ⟨ea, ec, sa, sc, rfl, h1, h2, h3⟩ := hret.open
          have hne : M.events.length = 2 * n := by rw [HRU.out.2]; exact spaW_len n
          obtain ⟨ns, hns⟩ : ∃ ns, M.steps.length = ns := ⟨_, rfl⟩
          have hat := fun i (hi : i < n) => spaW_at n N9.out i hi
          rw [← HRU.out.2] at hat
          rw [HRU.out.1, hne, hns]
          have H1 := hidP h1
          rw [hne] at H1
          have HAT := hidP hat
          have HB3 := hidP (bstep KB6.out h3)
          have t17 : ((2 * n : Nat) : Int) = 2 * (n : Int) := by omega
          clear h1 h2 h3 hret hne hns hat lt1
          go_wp2_with fail
          go_loop [11] (fun v => ∃ i : Nat, v = .int .i64 i ∧ i ≤ n) (fun v => n - (intOf v).toNat)
          case atStart => exact ⟨0, rfl, by omega⟩
          case round =>
            obtain ⟨i, rfl, hi⟩ := hrel
            by_cases hlt : i < n
            · obtain ⟨a1, a2⟩ := HAT.out i hlt
              obtain ⟨b, o, rfl, y0, y1, y2, y3⟩ := evC_at ((owns_row H1.out).alloc (.cells #[.slice ea (2 * n) ec, .int .i64 0, .slice sa ns sc] 31)) a1
              obtain ⟨b', o', e', z0, z1, z2, z3⟩ := evC_at ((owns_row H1.out).alloc (.cells #[.slice (some ⟨b, o, none⟩) (2 * n) ec, .int .i64 0, .slice sa ns sc] 31)) a2
              simp only [Option.some.injEq, Addr.mk.injEq, and_true] at e'
              obtain ⟨rfl, rfl⟩ := e'
              dsimp only at y0 y1 y2 y3 z0 z1 z2 z3
              have lt1 : (i : Int) < (n : Int) := by omega
              have i0 : (0 : Int) ≤ (i : Int) := by omega
              have tn1 : (2 * (i : Int)).toNat = 2 * i := by omega
              have tn2 : (2 * (i : Int) + 1).toNat = 2 * i + 1 := by omega
              have ti1 : 2 * (i : Int) < 2 * (n : Int) := by omega
              have ti2 : 2 * (i : Int) + 1 < 2 * (n : Int) := by omega
              clear a1 a2
              go_wp2_with fail
              go_round
              case rel => exact ⟨i + 1, by go_num, by omega⟩
              case measure => simp [intOf]; omega
            · obtain rfl : n = i := by omega
              go_wp2
              go_ret
              exact ⟨rfl, bnew HB3.out _⟩
theorem plainSpawnsW (W : World) (a0 : Int) (b0 : -9223372036854775808 ≤ a0 ∧ a0 ≤ 9223372036854775807) (he : Env W) :
    Calls Tryz.prog 12 #[.int .i64 a0] W fun e w' => e = .returned (.bool true) ∧ Below W.heap.size W w' := plainSpawns_any a0 W he.bl
end Go.Proofs.YtklfboidjnchoaaGreatDoor
