/-
  Parts of the proof: PBoxW.
-/
import Derived.Test.YtklfboidjnchoaaGreatDoorZ11
import Derived.Test.YtklfboidjnchoaaGreatDoorZ18
import Derived.Test.YtklfboidjnchoaaGreatDoorPBoxT
namespace Go.Proofs.YtklfboidjnchoaaGreatDoor
open Go.RowKit Go.Proofs.YtklfboidjnchoaaGreatDoorW.PrintWords
set_option linter.unusedVariables false
set_option linter.unusedSimpArgs false
set_option maxRecDepth 100000 in
set_option maxHeartbeats 3200000 in
theorem plainBoxes_any (a b : Int) (w : World) (hbl : Blanks w) :
    Calls Tryz.prog 9 #[.int .i64 a, .int .i64 b] w fun e w' => e = .returned (.bool true) ∧ Below w.heap.size w w' := by
  obtain ⟨m1, m2, m3⟩ := modN_spec a 9999 (by omega) (by omega)
  obtain ⟨n1, n2, n3⟩ := modN_spec b 9999 (by omega) (by omega)
  obtain ⟨p, hp⟩ : ∃ p, modN a 9999 = p := ⟨_, rfl⟩
  obtain ⟨q, hq⟩ : ∃ q, modN b 9999 = q := ⟨_, rfl⟩
  rw [hp] at m1 m2 m3
  rw [hq] at n1 n2 n3
  have m1' : (IntKind.u64.wrap a).tmod 9999 = (p : Int) := m1
  have n1' : (IntKind.u64.wrap b).tmod 9999 = (q : Int) := n1
  have hrn : ∀ w, Blanks w → Calls Tryz.prog 20 #[.string (boxT p q), .int .i64 20] w (RunPost w (runR (boxL p q) (picksL 20 0))) := fun w hbl => lrun_any (box_load p q m2 n2) (box_valid p q m2 n2) (by rw [boxT_eq, strA_size]; have := decN_four (n := p) (by omega); have := decN_four (n := q) (by omega); simp only [List.length_append, boxA, boxB, List.length_cons, List.length_nil]; omega) 20 (by omega) w hbl
  obtain ⟨r1, r2⟩ := box_run p q (by omega)
  have hev := runR_few (box_valid p q m2 n2) (s := picksL 20 0) (by rw [picksL_len]; omega)
  generalize runR (boxL p q) (picksL 20 0) = M at *
  have hsz1 := decB_le p (by omega)
  have hsz2 := decB_le q (by omega)
  have hd1 := fun w => digits_any p (by omega) w
  have hd2 := fun w => digits_any q (by omega) w
  unfold boxT at hrn
  obtain ⟨P, hP⟩ : ∃ P, decB p = P := ⟨_, rfl⟩
  obtain ⟨Q, hQ⟩ : ∃ Q, decB q = Q := ⟨_, rfl⟩
  simp only [hP] at hrn hsz1 hd1
  simp only [hQ] at hrn hsz2 hd2
  obtain ⟨sp, hsp⟩ : ∃ sp, P.size = sp := ⟨_, rfl⟩
  obtain ⟨sq, hsq⟩ : ∃ sq, Q.size = sq := ⟨_, rfl⟩
  rw [hsp] at hsz1
  rw [hsq] at hsz2
  have HD1 := hidP hd1
  have HD2 := hidP hd2
  have HRN := hidP hrn
  have HR := hidP (⟨r1, r2⟩ : _ ∧ _)
  have HBL := hidP hbl
  have q0 : (0 : Int) ≤ (q : Int) := by omega
  have q1 : (q : Int) < 9999 := by omega
  clear hP hQ m1 n1 hp hq hrn r1 r2 hbl hd1 hd2
  go_enter Tryz.func9, Tryz.ntmps9
  go_upto_region 3 with (first | (go_at_call 19; with_reducible refine (HD1.out _).mono ?_; rintro e w1 ⟨rfl, hb1⟩) | (go_at_call 19; with_reducible refine (HD2.out _).mono ?_; rintro e w2 ⟨rfl, hb2⟩) | fail)
  have hb0 : Below w.heap.size w w2 := bstep hb1 hb2
  have HB0 := hidP hb0
  have HRW := hidP (HRN.out w2 (HBL.out.below hb0))
  clear hb1 hb2 hb0
  go_wp2_with fail
  go_at_call 20
  refine HRW.out.mono ?_
  rintro e w3 hret
  obtain ⟨ea, ec, sa, sc, rfl, h1, h2, h3⟩ := hret.open
  rw [HR.out.1]
  obtain ⟨ne, hne⟩ : ∃ ne, M.events.length = ne := ⟨_, rfl⟩
  obtain ⟨ns, hns⟩ : ∃ ns, M.steps.length = ns := ⟨_, rfl⟩
  rw [hne, hns]
  have H1 := hidP h1
  rw [hne] at H1
  have HNE := hidP hne
  have HB3 := hidP (bstep HB0.out h3)
  have HEV := hidP (hne ▸ hev)
  clear h1 h2 h3 hret hne hns hev
  go_wp2_with fail
  go_at_call 14
  with_reducible refine (awakeP_any _ (HBL.out.below (bnew HB3.out _))).mono ?_
  rintro e w4 ⟨rfl, hb4⟩
  have hr4 := (hb4.block w3.heap.size (by simp)).trans (heap_alloc_new w3 (.cells #[.slice ea ne ec, .int .i64 1, .slice sa ns sc] 31))
  have g0 := cell_of_row w4 w3.heap.size 0 _ _ (0, 0) hr4
  have g1 := cell_of_row w4 w3.heap.size 1 _ _ (0, 0) hr4
  have g2 := cell_of_row w4 w3.heap.size 2 _ _ (0, 0) hr4
  simp at g0 g1 g2
  have HB4 := hidP (bstep (bnew (brefl w3) _) hb4)
  have HB34 := hidP (bstep HB3.out HB4.out)
  clear hr4 hb4
  go_wp2_with fail
  go_at_call 21
  with_reducible refine (outs_any ea sa ne ec ns sc 1 M.events w4 ((owns_row H1.out).below HB4.out) HNE.out HEV.out).mono ?_
  rintro e w5 ⟨A, c, rfl, ho5, hb5⟩
  rw [HR.out.2] at ho5 ⊢
  have HO5 := hidP ho5
  have HB5 := hidP (bstep HB34.out hb5)
  clear ho5 hb5
  go_wp2_with fail
  go_at_call 24
  with_reducible refine (plainInt_any A _ 3 3 c 3 [(q : Int), q, q + 1] [(q : Int), q, q + 1] _ ?_ ?_ rfl rfl (by decide)).mono ?_
  · exact (owns_row HO5.out).alloc _
  · exact row_new _ _ _ _ rfl
  rintro e w6 ⟨rfl, hb6⟩
  rw [decide_eq_true rfl]
  go_wp2_with fail
  go_ret
  exact ⟨rfl, bstep (bnew HB5.out _) hb6⟩
theorem plainBoxesW (W : World) (a0 : Int) (b0 : -9223372036854775808 ≤ a0 ∧ a0 ≤ 9223372036854775807) (a1 : Int) (b1 : -9223372036854775808 ≤ a1 ∧ a1 ≤ 9223372036854775807) (he : Env W) :
    Calls Tryz.prog 9 #[.int .i64 a0, .int .i64 a1] W fun e w' => e = .returned (.bool true) ∧ Below W.heap.size W w' := plainBoxes_any a0 a1 W he.bl
end Go.Proofs.YtklfboidjnchoaaGreatDoor
