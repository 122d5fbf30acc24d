/-
  Parts of the proof: PTimW.
-/
import Derived.Test.YtklfboidjnchoaaGreatDoorZ11
import Derived.Test.YtklfboidjnchoaaGreatDoorZ18
import Derived.Test.YtklfboidjnchoaaGreatDoorPBoxT
namespace Go.Proofs.YtklfboidjnchoaaGreatDoor
open Go.RowKit Go.Proofs.YtklfboidjnchoaaGreatDoorW.PrintWords
set_option linter.unusedVariables false
set_option linter.unusedSimpArgs false
def timS (t : Int) : List EntD := picksL 5 0 ++ [⟨2, t, 0⟩] ++ picksL 6 0
set_option maxRecDepth 100000 in
set_option maxHeartbeats 3200000 in
theorem plainTimers_any (a b d : Int) (w : World) (hbl : Blanks w) :
    Calls Tryz.prog 6 #[.int .i64 a, .int .i64 b, .int .i64 d] w fun e w' => e = .returned (.bool true) ∧ Below w.heap.size w w' := by
  obtain ⟨m1, m2, m3⟩ := modN_spec a 30 (by omega) (by omega)
  obtain ⟨n1, n2, n3⟩ := modN_spec b 30 (by omega) (by omega)
  obtain ⟨k1, k2, k3⟩ := modN_spec d 40 (by omega) (by omega)
  obtain ⟨p, hp⟩ : ∃ p, modN a 30 = p := ⟨_, rfl⟩
  obtain ⟨q, hq⟩ : ∃ q, modN b 30 = q := ⟨_, rfl⟩
  obtain ⟨t, ht⟩ : ∃ t, modN d 40 = t := ⟨_, rfl⟩
  rw [hp] at m1 m2 m3
  rw [hq] at n1 n2 n3
  rw [ht] at k1 k2 k3
  have m1' : (IntKind.u64.wrap a).tmod 30 = (p : Int) := m1
  have n1' : (IntKind.u64.wrap b).tmod 30 = (q : Int) := n1
  have k1' : (IntKind.u64.wrap d).tmod 40 = (t : Int) := k1
  have hl := tim_load p q m2 n2
  have hv := tim_valid p q m2 n2
  have hsz : (timT p q).size ≤ 100 := by rw [timT_eq, strA_size]; have := decN_four (n := p) (by omega); have := decN_four (n := q) (by omega); simp only [timB, List.length_append, List.length_cons, List.length_nil]; omega
  have hld := fun w => rload_any (timT p q) w (by omega)
  rw [hl] at hld
  unfold DecPost at hld
  dsimp only at hld
  have hlen := timL_len p q
  rw [hlen] at hld
  have hsn : ∀ e ∈ timS t, (-9223372036854775808 ≤ e.n ∧ e.n ≤ 9223372036854775807) ∧ (-9223372036854775808 ≤ e.draw ∧ e.draw ≤ 9223372036854775807) := by
    intro e he
    unfold timS at he
    rw [List.mem_append, List.mem_append, List.mem_singleton] at he
    rcases he with (he | rfl) | he
    · exact picksL_in 5 (by omega) e he
    · dsimp only; omega
    · exact picksL_in 6 (by omega) e he
  have hns : (timS t).length = 12 := by simp [timS, picksL_len]
  have hrun : if (t : Int) < min (p : Int) q then (runR (timL p q) (timS t)).outcome = 0 ∧ (runR (timL p q) (timS t)).events = [] else (runR (timL p q) (timS t)).outcome = 1 ∧ outsR (runR (timL p q) (timS t)).events = [min (p : Int) q] := tim_run p q t (by omega) (by omega) (by omega)
  have hev := runR_few hv (s := timS t) (by rw [hns]; omega)
  have HPR : Hid (∀ {A S : Option Addr} {d ds : Nat} {w : World}, Blanks w → kI.C w A (timL p q).length (timL p q) → RowAt w S ((timS t).flatMap entC) →
    Calls Tryz.prog 17 #[.slice A 7 d, .slice S 12 ds] w (RunPost w (runR (timL p q) (timS t)))) := fun hbl hP hS => prun_any hlen hns hv hbl hP hS (by omega) hsn
  generalize runR (timL p q) (timS t) = M at *
  have hsz1 := decB_le p (by omega)
  have hsz2 := decB_le q (by omega)
  have hd1 := fun w => digits_any p (by omega) w
  have hd2 := fun w => digits_any q (by omega) w
  unfold timT at hld
  obtain ⟨P, hP⟩ : ∃ P, decB p = P := ⟨_, rfl⟩
  obtain ⟨Q, hQ⟩ : ∃ Q, decB q = Q := ⟨_, rfl⟩
  simp only [hP] at hld hsz1 hd1
  simp only [hQ] at hld hsz2 hd2
  obtain ⟨sp, hsp⟩ : ∃ sp, P.size = sp := ⟨_, rfl⟩
  obtain ⟨sq, hsq⟩ : ∃ sq, Q.size = sq := ⟨_, rfl⟩
  rw [hsp] at hsz1
  rw [hsq] at hsz2
  have HD1 := hidP hd1
  have HD2 := hidP hd2
  have HLD := hidP hld
  have HRUN := hidP hrun
  have HEV0 := hidP hev
  have HBL := hidP hbl
  have p0 : (0 : Int) ≤ (p : Int) := by omega
  have q0 : (0 : Int) ≤ (q : Int) := by omega
  have t0 : (0 : Int) ≤ (t : Int) := by omega
  clear hP hQ m1 n1 k1 hp hq ht hld hbl hd1 hd2 hsz hl hv hsn hns hrun hev hlen
  go_enter Tryz.func6, Tryz.ntmps6
  go_upto_region 3 with (first | (go_at_call 19; with_reducible refine (HD1.out _).mono ?_; rintro e w1 ⟨rfl, hb1⟩) | (go_at_call 19; with_reducible refine (HD2.out _).mono ?_; rintro e w2 ⟨rfl, hb2⟩) | fail)
  have hb0 : Below w.heap.size w w2 := bstep hb1 hb2
  have HB0 := hidP hb0
  have HLW := hidP (HLD.out w2)
  clear hb1 hb2 hb0
  go_wp2_with fail
  go_at_call 22
  refine HLW.out.mono ?_
  rintro e u3 ⟨L, lc, rfl, hR, hb3⟩
  obtain ⟨A', c', e5, hle, hC⟩ := Kd.R_reads hR
  simp only [Value.slice.injEq] at e5
  obtain ⟨rfl, q5, rfl⟩ := e5
  clear q5 hle
  have HC := hidP hC
  have KB3 := hidP (bstep HB0.out hb3)
  clear hR hC hb3
  go_wp2_with fail
  go_at_call 23
  with_reducible refine (picks_lit 5 0 5 rfl _ (by omega)).mono ?_
  rintro e u4 ⟨B, cb, rfl, ho4, hb4⟩
  have KO4 := hidP ho4
  have KB4 := hidP hb4
  clear ho4 hb4
  go_wp2_with (at_builtin; go_loud (refine (wpList_app _ rfl (.tmp 41) (.tmp 44) rfl Tryz.slEnt u3.heap.size (.slice B 5 cb) 5 ((picksL 5 0).flatMap entC) rfl (owns_below KO4.out (bnew (brefl u4) _)) (some ⟨u4.heap.size, 0, none⟩) 1 1 [.int .i64 2, .int .i64 t, .int .i64 0] rfl 6 rfl (row_new _ [.int .i64 2, .int .i64 t, .int .i64 0] _ _ rfl) rfl (by simp; exact ⟨rfl, rfl, rfl⟩) (by omega) (by unfold maxLen; omega) (by have := KB4.out.size; simp; omega) ?_)); intro a5 c5 u5 ho5 hg5 _)
  have hB5 : Below u3.heap.size u3 u5 := (bnew KB4.out _).grown hg5 (by have := KB4.out.size; simp; omega) (fun j hj => (KO4.out.lt j hj).1)
  have KO5 := hidP ho5
  have KB5 := hidP hB5
  clear ho5 hg5 hB5
  go_wp2_with fail
  go_at_call 23
  with_reducible refine (picks_lit 6 0 6 rfl _ (by omega)).mono ?_
  rintro e u6 ⟨B6, c6, rfl, ho6, hb6⟩
  have KO6 := hidP ho6
  have KB6 := hidP hb6
  clear ho6 hb6
  go_wp2_with (at_builtin; go_loud (refine (wpList_app _ rfl (.tmp 46) (.tmp 47) rfl Tryz.slEnt u3.heap.size (.slice a5 6 c5) 6 ((picksL 5 0).flatMap entC ++ [.int .i64 2, .int .i64 t, .int .i64 0]) rfl (owns_below KO5.out KB6.out) B6 6 c6 ((picksL 6 0).flatMap entC) rfl 12 rfl (owns_row KO6.out) rfl (entC_one _) (by omega) (by unfold maxLen; omega) (by have := KB5.out.size; have := KB6.out.size; omega) ?_)); intro a7 c7 u7 ho7 hg7 _)
  have hB7 : Below u3.heap.size u3 u7 := (bstep KB5.out KB6.out).grown hg7 (by have := KB5.out.size; have := KB6.out.size; omega) (fun j hj => (KO5.out.lt j hj).1)
  have hS : RowAt u7 a7 ((timS t).flatMap entC) := by
    have := owns_row ho7
    unfold timS
    rw [List.flatMap_append, List.flatMap_append]
    exact this
  have HRW := hidP (HPR.out (HBL.out.below (bstep KB3.out hB7)) (C_keep HC.out hB7) hS (d := lc) (ds := c7))
  have KB7 := hidP (bstep KB3.out hB7)
  clear ho7 hg7 hB7 hS
  go_wp2_with fail
  go_at_call 17
  with_reducible refine HRW.out.mono ?_
  rintro e w3 hret
  obtain ⟨ea, ec, sa, sc, rfl, h1, h2, h3⟩ := hret.open
  obtain ⟨ne, hne⟩ : ∃ ne, M.events.length = ne := ⟨_, rfl⟩
  obtain ⟨ns, hns⟩ : ∃ ns, M.steps.length = ns := ⟨_, rfl⟩
  rw [hne, hns]
  have H1 := hidP h1
  rw [hne] at H1
  have HNE := hidP hne
  have HB3 := hidP (bstep KB7.out h3)
  have HEV := hidP (hne ▸ HEV0.out)
  obtain ⟨oc, hoc⟩ : ∃ oc, M.outcome = oc := ⟨_, rfl⟩
  rw [hoc]
  have HOC := hidP hoc
  clear hoc h1 h2 h3 hret hns hne
  by_cases hlt : (t : Int) < min (p : Int) q
  · have hru := HRUN.out
    rw [if_pos hlt] at hru
    have hoc : oc = 0 := HOC.out.symm.trans hru.1
    have hne : ne = 0 := by have := HNE.out; rw [hru.2] at this; exact this.symm
    have HRE := hidP hru.2
    subst hoc
    have tne : ((ne : Int) == 0) = true := by simp [hne]
    clear hru hne
    go_wp2_with fail
    go_at_call 14
    with_reducible refine (awakeP_any _ (HBL.out.below (bnew HB3.out _))).mono ?_
    rintro e w4 ⟨rfl, hb4⟩
    have hr4 := (hb4.block w3.heap.size (by simp)).trans (heap_alloc_new w3 (.cells #[.slice ea ne ec, .int .i64 0, .slice sa ns sc] 31))
    have g0 := cell_of_row w4 w3.heap.size 0 _ _ (0, 0) hr4
    have g1 := cell_of_row w4 w3.heap.size 1 _ _ (0, 0) hr4
    have g2 := cell_of_row w4 w3.heap.size 2 _ _ (0, 0) hr4
    simp at g0 g1 g2
    have HB4 := hidP (bstep (bnew (brefl w3) _) hb4)
    have HB34 := hidP (bstep HB3.out HB4.out)
    clear hr4 hb4
    go_wp2_with fail
    go_ret
    exact ⟨rfl, HB34.out⟩
  · have hru := HRUN.out
    rw [if_neg hlt] at hru
    have hoc : oc = 1 := HOC.out.symm.trans hru.1
    subst hoc
    have HR := hidP hru
    clear hru
    go_wp2_with fail
    go_at_call 14
    with_reducible refine (awakeP_any _ (HBL.out.below (bnew HB3.out _))).mono ?_
    rintro e w4 ⟨rfl, hb4⟩
    have hr4 := (hb4.block w3.heap.size (by simp)).trans (heap_alloc_new w3 (.cells #[.slice ea ne ec, .int .i64 1, .slice sa ns sc] 31))
    have g0 := cell_of_row w4 w3.heap.size 0 _ _ (0, 0) hr4
    have g1 := cell_of_row w4 w3.heap.size 1 _ _ (0, 0) hr4
    have g2 := cell_of_row w4 w3.heap.size 2 _ _ (0, 0) hr4
    simp at g0 g1 g2
    have HB4 := hidP (bstep (bnew (brefl w3) _) hb4)
    have HB34 := hidP (bstep HB3.out HB4.out)
    clear hr4 hb4
    go_wp2_with fail
    go_at_call 21
    with_reducible refine (outs_any ea sa ne ec ns sc 1 M.events w4 ((owns_row H1.out).below HB4.out) HNE.out HEV.out).mono ?_
    rintro e w5 ⟨A, c, rfl, ho5, hb5⟩
    rw [HR.out.2] at ho5 ⊢
    have HO5 := hidP ho5
    have HB5 := hidP (bstep HB34.out hb5)
    clear ho5 hb5
    go_wp2_with fail
    go_at_call 24
    with_reducible refine (plainInt_any A _ 1 1 c 1 [min (p : Int) q] [min (p : Int) q] _ ?_ ?_ rfl rfl (by decide)).mono ?_
    · exact (owns_row HO5.out).alloc _
    · exact row_new _ _ _ _ rfl
    rintro e w6 ⟨rfl, hb6⟩
    rw [decide_eq_true rfl]
    go_wp2_with fail
    go_ret
    exact ⟨rfl, bstep (bnew HB5.out _) hb6⟩
theorem plainTimersW (W : World) (a0 : Int) (b0 : -9223372036854775808 ≤ a0 ∧ a0 ≤ 9223372036854775807) (a1 : Int) (b1 : -9223372036854775808 ≤ a1 ∧ a1 ≤ 9223372036854775807) (a2 : Int) (b2 : -9223372036854775808 ≤ a2 ∧ a2 ≤ 9223372036854775807) (he : Env W) :
    Calls Tryz.prog 6 #[.int .i64 a0, .int .i64 a1, .int .i64 a2] W fun e w' => e = .returned (.bool true) ∧ Below W.heap.size W w' := plainTimers_any a0 a1 a2 W he.bl
end Go.Proofs.YtklfboidjnchoaaGreatDoor
