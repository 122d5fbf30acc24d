/-
  The walk over dormouseplay's instr.
-/
import Derived.Test.YtoflhfiegfhkoaaDoorKPlayA
namespace Go.Proofs.YtoflhfiegfhkoaaDoor
open Go.RowKit Go.Proofs.YtoflhfiegfhkoaaDoorW.PrintWords
set_option linter.unusedVariables false

/-- An instruction that may be, near to one that is drawn, by its op. -/
def pinstrO (o : Int) (x : InstrD) (n : Int) : InstrD :=
  if o = 22 then ⟨22, 0, 0, 0, []⟩
  else if o = 21 then ⟨21, 0, 0, 0, pcF n 3 x.cases []⟩
  else if o = 10 ∨ o = 11 then ⟨o, 0, 0, pmod x.n n, []⟩
  else if o = 12 then ⟨o, pmod x.a 6, 0, pmod x.n n, []⟩
  else if o = 1 then ⟨o, pmod x.a 6, 0, pmod x.n 10000, []⟩
  else if o = 4 then ⟨o, pmod x.a 6, 0, pmod x.n 4, []⟩
  else if o = 14 then ⟨o, pmod x.a 6, 0, pmod x.n 20, []⟩
  else if o = 18 ∨ o = 19 then ⟨o, pmod x.a 6, 0, pmod x.n 4, []⟩
  else if o = 20 then ⟨o, pmod x.a 6, 0, pmod x.n 10, []⟩
  else if o = 7 ∨ o = 13 then ⟨o, pmod x.a 6, 0, 0, []⟩
  else ⟨o, pmod x.a 6, pmod x.b 6, 0, []⟩
def pinstr (x : InstrD) (n : Int) : InstrD := pinstrO (1 + pmod (x.op - 1) 22) x n

def PInstrPost (w : World) (y : InstrD) (e : Ending) (w' : World) : Prop :=
  ∃ v, e = .returned (instrV y v) ∧ kC.R 39 w' w.heap.size (fun k => w.heap.size ≤ k) v y.cases ∧ Below w.heap.size w w'

theorem three_boxes (w : World) (o1 o2 o3 : Obj) : Below w.heap.size w (((w.alloc o1).alloc o2).alloc o3) ∧ (((w.alloc o1).alloc o2).alloc o3).heap[w.heap.size]? = some o1 ∧ (((w.alloc o1).alloc o2).alloc o3).heap[w.heap.size + 1]? = some o2 ∧ (((w.alloc o1).alloc o2).alloc o3).heap[w.heap.size + 2]? = some o3 := by
  refine ⟨bnew (bnew (bnew (brefl w) _) _) _, blk_alloc (blk_alloc (blk_new w _) _) _, blk_alloc (by simpa using blk_new (w.alloc o1) o2) _, ?_⟩
  have := blk_new ((w.alloc o1).alloc o2) o3
  simpa using this

set_option maxRecDepth 100000 in
set_option maxHeartbeats 12800000 in
theorem pinstr_any (x : InstrD) (A : Option Addr) (d : Nat) (n : Int) (w : World) (h1 : 1 ≤ n) (h2 : n ≤ 1000000) (h : kC.C w A x.cases.length x.cases) (hl : x.cases.length ≤ 9223372036854775807) :
    Calls Tryd.prog 34 #[instrV x (.slice A x.cases.length d), .int .i64 n] w (PInstrPost w (pinstr x n)) := by
  obtain ⟨Y, hY⟩ : ∃ Y, pinstr x n = Y := ⟨_, rfl⟩
  rw [hY]
  unfold pinstr at hY
  obtain ⟨op, xa, xb, xn, cs⟩ := x
  dsimp only at h hl hY
  simp only [instrV]
  have m0 := fun w => pmod_any (IntKind.i64.wrap (op - 1)) 22 (by omega) (by omega) w
  rw [pmod_wrapI] at m0
  have n0 := pmod_bounds (op - 1) 22 (by omega)
  obtain ⟨R0, hR0⟩ : ∃ R, pmod (op - 1) 22 = R := ⟨_, rfl⟩
  rw [hR0] at m0 n0 hY
  obtain ⟨OK, hOK⟩ : ∃ OK, IntKind.i64.wrap (op - 1) = OK := ⟨_, rfl⟩
  rw [hOK] at m0
  have hw1' : IntKind.i64.wrap (1 + R0) = 1 + R0 := IntWalk.i64_in _ (by omega)
  obtain ⟨K, hK⟩ : ∃ K, 1 + R0 = K := ⟨_, rfl⟩
  have hw1 : IntKind.i64.wrap (1 + R0) = K := by rw [hw1', hK]
  rw [hK] at hY
  have hKb : 1 ≤ K ∧ K ≤ 22 := by omega
  have ma := fun w => pmod_any xa 6 (by omega) (by omega) w
  have mb := fun w => pmod_any xb 6 (by omega) (by omega) w
  have mn := fun w => pmod_any xn n h1 h2 w
  have mn1 := fun w => pmod_any xn 10000 (by omega) (by omega) w
  have mn2 := fun w => pmod_any xn 4 (by omega) (by omega) w
  have mn3 := fun w => pmod_any xn 20 (by omega) (by omega) w
  have mn4 := fun w => pmod_any xn 10 (by omega) (by omega) w
  have mc := fun w2 (hb : Below w.heap.size w w2) => pcases_any A d cs n w2 h1 h2 (Kd.C_below h hb) hl
  obtain ⟨LC, hLC⟩ : ∃ LC, cs.length = LC := ⟨_, rfl⟩
  rw [hLC] at hl mc ⊢
  unfold pinstrO at hY
  dsimp only at hY
  obtain ⟨RA, hRA⟩ : ∃ R, pmod xa 6 = R := ⟨_, rfl⟩
  obtain ⟨RB, hRB⟩ : ∃ R, pmod xb 6 = R := ⟨_, rfl⟩
  obtain ⟨RN, hRN⟩ : ∃ R, pmod xn n = R := ⟨_, rfl⟩
  obtain ⟨RN1, hRN1⟩ : ∃ R, pmod xn 10000 = R := ⟨_, rfl⟩
  obtain ⟨RN2, hRN2⟩ : ∃ R, pmod xn 4 = R := ⟨_, rfl⟩
  obtain ⟨RN3, hRN3⟩ : ∃ R, pmod xn 20 = R := ⟨_, rfl⟩
  obtain ⟨RN4, hRN4⟩ : ∃ R, pmod xn 10 = R := ⟨_, rfl⟩
  obtain ⟨PC, hPC⟩ : ∃ R, pcF n 3 cs [] = R := ⟨_, rfl⟩
  rw [hRA] at ma hY
  rw [hRB] at mb hY
  rw [hRN] at mn hY
  rw [hRN1] at mn1 hY
  rw [hRN2] at mn2 hY
  rw [hRN3] at mn3 hY
  rw [hRN4] at mn4 hY
  rw [hPC] at hY
  simp only [hPC] at mc
  have HY := hidP hY
  have HOK := hidP hOK
  have M0 := hidP m0
  have MA := hidP ma
  have MB := hidP mb
  have MN := hidP mn
  have MN1 := hidP mn1
  have MN2 := hidP mn2
  have MN3 := hidP mn3
  have MN4 := hidP mn4
  have MC := hidP mc
  clear hY m0 ma mb mn mn1 mn2 mn3 mn4 mc hR0 hw1' hK hLC hRA hRB hRN hRN1 hRN2 hRN3 hRN4 hPC n0 h
  have hBX := three_boxes w (.cells #[.int .i64 op, .int .i64 xa, .int .i64 xb, .int .i64 xn, .slice A LC d] 37) (.cells #[.int .i64 0, .int .i64 0, .int .i64 0, .int .i64 0, .slice none 0 0] 37) (.cells #[.int .i64 K, .int .i64 0, .int .i64 0, .int .i64 0, .slice none 0 0] 37)
  go_enter Tryd.func34, Tryd.ntmps34
  go_upto_region 2 with (go_at_call 51; with_reducible refine (M0.out _).mono ?_; rintro e w' ⟨rfl, rfl⟩)
  have hsz2 : ((((w.alloc (.cells #[.int .i64 op, .int .i64 xa, .int .i64 xb, .int .i64 xn, .slice A LC d] 37)).alloc (.cells #[.int .i64 0, .int .i64 0, .int .i64 0, .int .i64 0, .slice none 0 0] 37)).alloc (.cells #[.int .i64 K, .int .i64 0, .int .i64 0, .int .i64 0, .slice none 0 0] 37))).heap.size = w.heap.size + 3 := by simp
  generalize hW1 : (((w.alloc (.cells #[.int .i64 op, .int .i64 xa, .int .i64 xb, .int .i64 xn, .slice A LC d] 37)).alloc (.cells #[.int .i64 0, .int .i64 0, .int .i64 0, .int .i64 0, .slice none 0 0] 37)).alloc (.cells #[.int .i64 K, .int .i64 0, .int .i64 0, .int .i64 0, .slice none 0 0] 37)) = w1 at *
  obtain ⟨hb1, hx1, hr1, hy1⟩ := hBX
  clear hW1 hw1
  have HX1 := hidP hx1
  have HR1 := hidP hr1
  have HY1 := hidP hy1
  obtain ⟨x0, x1, x2, x3, x4⟩ := five_cells hx1
  have hl1 : w.heap.size + 2 < w1.heap.size := by omega
  clear hx1 hr1 hy1 hsz2
  go_quiet (first | (go_at_call 51; with_reducible exact Calls.quiet_of_same (MA.out _)) | (go_at_call 51; with_reducible exact Calls.quiet_of_same (MB.out _)))
  have hD : Below w.heap.size w (w1.drewN nq) := ⟨hb1.os, hb1.tape, hb1.output, hb1.size, hb1.block⟩
  have HX2 : Hid ((w1.drewN nq).heap[w.heap.size]? = _) := HX1.out
  have HR2 : Hid ((w1.drewN nq).heap[w.heap.size + 1]? = _) := HR1.out
  have HY2 : Hid ((w1.drewN nq).heap[w.heap.size + 2]? = _) := HY1.out
  have hl2 : w.heap.size + 2 < (w1.drewN nq).heap.size := hl1
  clear x0 x1 x2 x3 x4 hb1 HX1 HR1 HY1 hl1
  generalize w1.drewN nq = w2 at *
  obtain ⟨x0, x1, x2, x3, x4⟩ := five_cells HX2.out
  obtain ⟨y0, y1, y2, y3, y4⟩ := five_cells HY2.out
  obtain ⟨r0, r1, r2, r3, r4⟩ := five_cells HR2.out
  have rf0 := blk_frozen HR2.out 0
  have rf1 := blk_frozen HR2.out 1
  have rf2 := blk_frozen HR2.out 2
  have rf3 := blk_frozen HR2.out 3
  have rf4 := blk_frozen HR2.out 4
  have yf1 := blk_frozen HY2.out 1
  have yf2 := blk_frozen HY2.out 2
  have yf3 := blk_frozen HY2.out 3
  have yf4 := blk_frozen HY2.out 4
  obtain ⟨hK1, hK22⟩ := hKb
  have hk : K = 1 ∨ K = 2 ∨ K = 3 ∨ K = 4 ∨ K = 5 ∨ K = 6 ∨ K = 7 ∨ K = 8 ∨ K = 9 ∨ K = 10 ∨ K = 11 ∨ K = 12 ∨ K = 13 ∨ K = 14 ∨ K = 15 ∨ K = 16 ∨ K = 17 ∨ K = 18 ∨ K = 19 ∨ K = 20 ∨ K = 21 ∨ K = 22 := by omega
  clear hK1 hK22
  rcases hk with rfl | rfl | rfl | rfl | rfl | rfl | rfl | rfl | rfl | rfl | rfl | rfl | rfl | rfl | rfl | rfl | rfl | rfl | rfl | rfl | rfl | rfl
  ·
    go_wp2_with (first | (go_at_call 51; (first | with_reducible refine (MN.out _).mono ?_ | with_reducible refine (MN1.out _).mono ?_ | with_reducible refine (MN2.out _).mono ?_ | with_reducible refine (MN3.out _).mono ?_ | with_reducible refine (MN4.out _).mono ?_ | fail); rintro e w' ⟨rfl, hw'⟩; have hw'' := hw'.symm; subst hw'') | fail)
    have hkS : Keep (· = w.heap.size + 1 + 1) w2 ((w2.setCell ⟨w.heap.size + 1 + 1, 1, none⟩ (.int .i64 RA)).setCell ⟨w.heap.size + 1 + 1, 3, none⟩ (.int .i64 RN1)) := ((Keep.refl (· = w.heap.size + 1 + 1) w2).setCell (p := ⟨w.heap.size + 1 + 1, 1, none⟩) rfl _).setCell (p := ⟨w.heap.size + 1 + 1, 3, none⟩) rfl _
    generalize (w2.setCell ⟨w.heap.size + 1 + 1, 1, none⟩ (.int .i64 RA)).setCell ⟨w.heap.size + 1 + 1, 3, none⟩ (.int .i64 RN1) = wS at *
    have hrS := (hkS.block (w.heap.size + 1) (by omega) (by show ¬ w.heap.size + 1 = w.heap.size + 1 + 1; omega)).trans HR2.out
    have fb1 := five_set hrS (.int .i64 1) (.int .i64 RA) (.int .i64 0) (.int .i64 RN1) (.slice none 0 0)
    have fk1 := five_keep wS (w.heap.size + 1) (.int .i64 1) (.int .i64 RA) (.int .i64 0) (.int .i64 RN1) (.slice none 0 0)
    generalize ((((wS.setCell ⟨w.heap.size + 1, 0, none⟩ (.int .i64 1)).setCell ⟨w.heap.size + 1, 1, none⟩ (.int .i64 RA)).setCell ⟨w.heap.size + 1, 2, none⟩ (.int .i64 0)).setCell ⟨w.heap.size + 1, 3, none⟩ (.int .i64 RN1)).setCell ⟨w.heap.size + 1, 4, none⟩ (.slice none 0 0) = w9 at *
    obtain ⟨v0, v1, v2, v3, v4⟩ := five_cells fb1
    refine bodyPost_ret (v := instrV ⟨1, RA, 0, RN1, []⟩ (.slice none 0 0)) (by simp [results, instrV, Tryd.results34, go_sem, v0, v1, v2, v3, v4]) rfl ?_
    have hYY : Y = ⟨1, RA, 0, RN1, []⟩ := by rw [← HY.out]; simp
    rw [hYY]
    have hBS : Below w.heap.size w wS := Keep.belowS hD hkS hD.size (fun j h => by omega)
    exact ⟨_, rfl, Kd.R_nil _ _ _ _ _, Keep.belowS hBS fk1 hBS.size (fun j h => by omega)⟩
  ·
    go_wp2_with (first | (go_at_call 51; (first | with_reducible refine (MN.out _).mono ?_ | with_reducible refine (MN1.out _).mono ?_ | with_reducible refine (MN2.out _).mono ?_ | with_reducible refine (MN3.out _).mono ?_ | with_reducible refine (MN4.out _).mono ?_ | fail); rintro e w' ⟨rfl, hw'⟩; have hw'' := hw'.symm; subst hw'') | fail)
    have hkS : Keep (· = w.heap.size + 1 + 1) w2 ((w2.setCell ⟨w.heap.size + 1 + 1, 1, none⟩ (.int .i64 RA)).setCell ⟨w.heap.size + 1 + 1, 2, none⟩ (.int .i64 RB)) := ((Keep.refl (· = w.heap.size + 1 + 1) w2).setCell (p := ⟨w.heap.size + 1 + 1, 1, none⟩) rfl _).setCell (p := ⟨w.heap.size + 1 + 1, 2, none⟩) rfl _
    generalize (w2.setCell ⟨w.heap.size + 1 + 1, 1, none⟩ (.int .i64 RA)).setCell ⟨w.heap.size + 1 + 1, 2, none⟩ (.int .i64 RB) = wS at *
    have hrS := (hkS.block (w.heap.size + 1) (by omega) (by show ¬ w.heap.size + 1 = w.heap.size + 1 + 1; omega)).trans HR2.out
    have fb1 := five_set hrS (.int .i64 2) (.int .i64 RA) (.int .i64 RB) (.int .i64 0) (.slice none 0 0)
    have fk1 := five_keep wS (w.heap.size + 1) (.int .i64 2) (.int .i64 RA) (.int .i64 RB) (.int .i64 0) (.slice none 0 0)
    generalize ((((wS.setCell ⟨w.heap.size + 1, 0, none⟩ (.int .i64 2)).setCell ⟨w.heap.size + 1, 1, none⟩ (.int .i64 RA)).setCell ⟨w.heap.size + 1, 2, none⟩ (.int .i64 RB)).setCell ⟨w.heap.size + 1, 3, none⟩ (.int .i64 0)).setCell ⟨w.heap.size + 1, 4, none⟩ (.slice none 0 0) = w9 at *
    obtain ⟨v0, v1, v2, v3, v4⟩ := five_cells fb1
    refine bodyPost_ret (v := instrV ⟨2, RA, RB, 0, []⟩ (.slice none 0 0)) (by simp [results, instrV, Tryd.results34, go_sem, v0, v1, v2, v3, v4]) rfl ?_
    have hYY : Y = ⟨2, RA, RB, 0, []⟩ := by rw [← HY.out]; simp
    rw [hYY]
    have hBS : Below w.heap.size w wS := Keep.belowS hD hkS hD.size (fun j h => by omega)
    exact ⟨_, rfl, Kd.R_nil _ _ _ _ _, Keep.belowS hBS fk1 hBS.size (fun j h => by omega)⟩
  ·
    go_wp2_with (first | (go_at_call 51; (first | with_reducible refine (MN.out _).mono ?_ | with_reducible refine (MN1.out _).mono ?_ | with_reducible refine (MN2.out _).mono ?_ | with_reducible refine (MN3.out _).mono ?_ | with_reducible refine (MN4.out _).mono ?_ | fail); rintro e w' ⟨rfl, hw'⟩; have hw'' := hw'.symm; subst hw'') | fail)
    have hkS : Keep (· = w.heap.size + 1 + 1) w2 ((w2.setCell ⟨w.heap.size + 1 + 1, 1, none⟩ (.int .i64 RA)).setCell ⟨w.heap.size + 1 + 1, 2, none⟩ (.int .i64 RB)) := ((Keep.refl (· = w.heap.size + 1 + 1) w2).setCell (p := ⟨w.heap.size + 1 + 1, 1, none⟩) rfl _).setCell (p := ⟨w.heap.size + 1 + 1, 2, none⟩) rfl _
    generalize (w2.setCell ⟨w.heap.size + 1 + 1, 1, none⟩ (.int .i64 RA)).setCell ⟨w.heap.size + 1 + 1, 2, none⟩ (.int .i64 RB) = wS at *
    have hrS := (hkS.block (w.heap.size + 1) (by omega) (by show ¬ w.heap.size + 1 = w.heap.size + 1 + 1; omega)).trans HR2.out
    have fb1 := five_set hrS (.int .i64 3) (.int .i64 RA) (.int .i64 RB) (.int .i64 0) (.slice none 0 0)
    have fk1 := five_keep wS (w.heap.size + 1) (.int .i64 3) (.int .i64 RA) (.int .i64 RB) (.int .i64 0) (.slice none 0 0)
    generalize ((((wS.setCell ⟨w.heap.size + 1, 0, none⟩ (.int .i64 3)).setCell ⟨w.heap.size + 1, 1, none⟩ (.int .i64 RA)).setCell ⟨w.heap.size + 1, 2, none⟩ (.int .i64 RB)).setCell ⟨w.heap.size + 1, 3, none⟩ (.int .i64 0)).setCell ⟨w.heap.size + 1, 4, none⟩ (.slice none 0 0) = w9 at *
    obtain ⟨v0, v1, v2, v3, v4⟩ := five_cells fb1
    refine bodyPost_ret (v := instrV ⟨3, RA, RB, 0, []⟩ (.slice none 0 0)) (by simp [results, instrV, Tryd.results34, go_sem, v0, v1, v2, v3, v4]) rfl ?_
    have hYY : Y = ⟨3, RA, RB, 0, []⟩ := by rw [← HY.out]; simp
    rw [hYY]
    have hBS : Below w.heap.size w wS := Keep.belowS hD hkS hD.size (fun j h => by omega)
    exact ⟨_, rfl, Kd.R_nil _ _ _ _ _, Keep.belowS hBS fk1 hBS.size (fun j h => by omega)⟩
  ·
    go_wp2_with (first | (go_at_call 51; (first | with_reducible refine (MN.out _).mono ?_ | with_reducible refine (MN1.out _).mono ?_ | with_reducible refine (MN2.out _).mono ?_ | with_reducible refine (MN3.out _).mono ?_ | with_reducible refine (MN4.out _).mono ?_ | fail); rintro e w' ⟨rfl, hw'⟩; have hw'' := hw'.symm; subst hw'') | fail)
    have hkS : Keep (· = w.heap.size + 1 + 1) w2 ((w2.setCell ⟨w.heap.size + 1 + 1, 1, none⟩ (.int .i64 RA)).setCell ⟨w.heap.size + 1 + 1, 3, none⟩ (.int .i64 RN2)) := ((Keep.refl (· = w.heap.size + 1 + 1) w2).setCell (p := ⟨w.heap.size + 1 + 1, 1, none⟩) rfl _).setCell (p := ⟨w.heap.size + 1 + 1, 3, none⟩) rfl _
    generalize (w2.setCell ⟨w.heap.size + 1 + 1, 1, none⟩ (.int .i64 RA)).setCell ⟨w.heap.size + 1 + 1, 3, none⟩ (.int .i64 RN2) = wS at *
    have hrS := (hkS.block (w.heap.size + 1) (by omega) (by show ¬ w.heap.size + 1 = w.heap.size + 1 + 1; omega)).trans HR2.out
    have fb1 := five_set hrS (.int .i64 4) (.int .i64 RA) (.int .i64 0) (.int .i64 RN2) (.slice none 0 0)
    have fk1 := five_keep wS (w.heap.size + 1) (.int .i64 4) (.int .i64 RA) (.int .i64 0) (.int .i64 RN2) (.slice none 0 0)
    generalize ((((wS.setCell ⟨w.heap.size + 1, 0, none⟩ (.int .i64 4)).setCell ⟨w.heap.size + 1, 1, none⟩ (.int .i64 RA)).setCell ⟨w.heap.size + 1, 2, none⟩ (.int .i64 0)).setCell ⟨w.heap.size + 1, 3, none⟩ (.int .i64 RN2)).setCell ⟨w.heap.size + 1, 4, none⟩ (.slice none 0 0) = w9 at *
    obtain ⟨v0, v1, v2, v3, v4⟩ := five_cells fb1
    refine bodyPost_ret (v := instrV ⟨4, RA, 0, RN2, []⟩ (.slice none 0 0)) (by simp [results, instrV, Tryd.results34, go_sem, v0, v1, v2, v3, v4]) rfl ?_
    have hYY : Y = ⟨4, RA, 0, RN2, []⟩ := by rw [← HY.out]; simp
    rw [hYY]
    have hBS : Below w.heap.size w wS := Keep.belowS hD hkS hD.size (fun j h => by omega)
    exact ⟨_, rfl, Kd.R_nil _ _ _ _ _, Keep.belowS hBS fk1 hBS.size (fun j h => by omega)⟩
  ·
    go_wp2_with (first | (go_at_call 51; (first | with_reducible refine (MN.out _).mono ?_ | with_reducible refine (MN1.out _).mono ?_ | with_reducible refine (MN2.out _).mono ?_ | with_reducible refine (MN3.out _).mono ?_ | with_reducible refine (MN4.out _).mono ?_ | fail); rintro e w' ⟨rfl, hw'⟩; have hw'' := hw'.symm; subst hw'') | fail)
    have hkS : Keep (· = w.heap.size + 1 + 1) w2 ((w2.setCell ⟨w.heap.size + 1 + 1, 1, none⟩ (.int .i64 RA)).setCell ⟨w.heap.size + 1 + 1, 2, none⟩ (.int .i64 RB)) := ((Keep.refl (· = w.heap.size + 1 + 1) w2).setCell (p := ⟨w.heap.size + 1 + 1, 1, none⟩) rfl _).setCell (p := ⟨w.heap.size + 1 + 1, 2, none⟩) rfl _
    generalize (w2.setCell ⟨w.heap.size + 1 + 1, 1, none⟩ (.int .i64 RA)).setCell ⟨w.heap.size + 1 + 1, 2, none⟩ (.int .i64 RB) = wS at *
    have hrS := (hkS.block (w.heap.size + 1) (by omega) (by show ¬ w.heap.size + 1 = w.heap.size + 1 + 1; omega)).trans HR2.out
    have fb1 := five_set hrS (.int .i64 5) (.int .i64 RA) (.int .i64 RB) (.int .i64 0) (.slice none 0 0)
    have fk1 := five_keep wS (w.heap.size + 1) (.int .i64 5) (.int .i64 RA) (.int .i64 RB) (.int .i64 0) (.slice none 0 0)
    generalize ((((wS.setCell ⟨w.heap.size + 1, 0, none⟩ (.int .i64 5)).setCell ⟨w.heap.size + 1, 1, none⟩ (.int .i64 RA)).setCell ⟨w.heap.size + 1, 2, none⟩ (.int .i64 RB)).setCell ⟨w.heap.size + 1, 3, none⟩ (.int .i64 0)).setCell ⟨w.heap.size + 1, 4, none⟩ (.slice none 0 0) = w9 at *
    obtain ⟨v0, v1, v2, v3, v4⟩ := five_cells fb1
    refine bodyPost_ret (v := instrV ⟨5, RA, RB, 0, []⟩ (.slice none 0 0)) (by simp [results, instrV, Tryd.results34, go_sem, v0, v1, v2, v3, v4]) rfl ?_
    have hYY : Y = ⟨5, RA, RB, 0, []⟩ := by rw [← HY.out]; simp
    rw [hYY]
    have hBS : Below w.heap.size w wS := Keep.belowS hD hkS hD.size (fun j h => by omega)
    exact ⟨_, rfl, Kd.R_nil _ _ _ _ _, Keep.belowS hBS fk1 hBS.size (fun j h => by omega)⟩
  ·
    go_wp2_with (first | (go_at_call 51; (first | with_reducible refine (MN.out _).mono ?_ | with_reducible refine (MN1.out _).mono ?_ | with_reducible refine (MN2.out _).mono ?_ | with_reducible refine (MN3.out _).mono ?_ | with_reducible refine (MN4.out _).mono ?_ | fail); rintro e w' ⟨rfl, hw'⟩; have hw'' := hw'.symm; subst hw'') | fail)
    have hkS : Keep (· = w.heap.size + 1 + 1) w2 ((w2.setCell ⟨w.heap.size + 1 + 1, 1, none⟩ (.int .i64 RA)).setCell ⟨w.heap.size + 1 + 1, 2, none⟩ (.int .i64 RB)) := ((Keep.refl (· = w.heap.size + 1 + 1) w2).setCell (p := ⟨w.heap.size + 1 + 1, 1, none⟩) rfl _).setCell (p := ⟨w.heap.size + 1 + 1, 2, none⟩) rfl _
    generalize (w2.setCell ⟨w.heap.size + 1 + 1, 1, none⟩ (.int .i64 RA)).setCell ⟨w.heap.size + 1 + 1, 2, none⟩ (.int .i64 RB) = wS at *
    have hrS := (hkS.block (w.heap.size + 1) (by omega) (by show ¬ w.heap.size + 1 = w.heap.size + 1 + 1; omega)).trans HR2.out
    have fb1 := five_set hrS (.int .i64 6) (.int .i64 RA) (.int .i64 RB) (.int .i64 0) (.slice none 0 0)
    have fk1 := five_keep wS (w.heap.size + 1) (.int .i64 6) (.int .i64 RA) (.int .i64 RB) (.int .i64 0) (.slice none 0 0)
    generalize ((((wS.setCell ⟨w.heap.size + 1, 0, none⟩ (.int .i64 6)).setCell ⟨w.heap.size + 1, 1, none⟩ (.int .i64 RA)).setCell ⟨w.heap.size + 1, 2, none⟩ (.int .i64 RB)).setCell ⟨w.heap.size + 1, 3, none⟩ (.int .i64 0)).setCell ⟨w.heap.size + 1, 4, none⟩ (.slice none 0 0) = w9 at *
    obtain ⟨v0, v1, v2, v3, v4⟩ := five_cells fb1
    refine bodyPost_ret (v := instrV ⟨6, RA, RB, 0, []⟩ (.slice none 0 0)) (by simp [results, instrV, Tryd.results34, go_sem, v0, v1, v2, v3, v4]) rfl ?_
    have hYY : Y = ⟨6, RA, RB, 0, []⟩ := by rw [← HY.out]; simp
    rw [hYY]
    have hBS : Below w.heap.size w wS := Keep.belowS hD hkS hD.size (fun j h => by omega)
    exact ⟨_, rfl, Kd.R_nil _ _ _ _ _, Keep.belowS hBS fk1 hBS.size (fun j h => by omega)⟩
  ·
    go_wp2_with (first | (go_at_call 51; (first | with_reducible refine (MN.out _).mono ?_ | with_reducible refine (MN1.out _).mono ?_ | with_reducible refine (MN2.out _).mono ?_ | with_reducible refine (MN3.out _).mono ?_ | with_reducible refine (MN4.out _).mono ?_ | fail); rintro e w' ⟨rfl, hw'⟩; have hw'' := hw'.symm; subst hw'') | fail)
    have hkS : Keep (· = w.heap.size + 1 + 1) w2 (w2.setCell ⟨w.heap.size + 1 + 1, 1, none⟩ (.int .i64 RA)) := (Keep.refl (· = w.heap.size + 1 + 1) w2).setCell (p := ⟨w.heap.size + 1 + 1, 1, none⟩) rfl _
    generalize w2.setCell ⟨w.heap.size + 1 + 1, 1, none⟩ (.int .i64 RA) = wS at *
    have hrS := (hkS.block (w.heap.size + 1) (by omega) (by show ¬ w.heap.size + 1 = w.heap.size + 1 + 1; omega)).trans HR2.out
    have fb1 := five_set hrS (.int .i64 7) (.int .i64 RA) (.int .i64 0) (.int .i64 0) (.slice none 0 0)
    have fk1 := five_keep wS (w.heap.size + 1) (.int .i64 7) (.int .i64 RA) (.int .i64 0) (.int .i64 0) (.slice none 0 0)
    generalize ((((wS.setCell ⟨w.heap.size + 1, 0, none⟩ (.int .i64 7)).setCell ⟨w.heap.size + 1, 1, none⟩ (.int .i64 RA)).setCell ⟨w.heap.size + 1, 2, none⟩ (.int .i64 0)).setCell ⟨w.heap.size + 1, 3, none⟩ (.int .i64 0)).setCell ⟨w.heap.size + 1, 4, none⟩ (.slice none 0 0) = w9 at *
    obtain ⟨v0, v1, v2, v3, v4⟩ := five_cells fb1
    refine bodyPost_ret (v := instrV ⟨7, RA, 0, 0, []⟩ (.slice none 0 0)) (by simp [results, instrV, Tryd.results34, go_sem, v0, v1, v2, v3, v4]) rfl ?_
    have hYY : Y = ⟨7, RA, 0, 0, []⟩ := by rw [← HY.out]; simp
    rw [hYY]
    have hBS : Below w.heap.size w wS := Keep.belowS hD hkS hD.size (fun j h => by omega)
    exact ⟨_, rfl, Kd.R_nil _ _ _ _ _, Keep.belowS hBS fk1 hBS.size (fun j h => by omega)⟩
  ·
    go_wp2_with (first | (go_at_call 51; (first | with_reducible refine (MN.out _).mono ?_ | with_reducible refine (MN1.out _).mono ?_ | with_reducible refine (MN2.out _).mono ?_ | with_reducible refine (MN3.out _).mono ?_ | with_reducible refine (MN4.out _).mono ?_ | fail); rintro e w' ⟨rfl, hw'⟩; have hw'' := hw'.symm; subst hw'') | fail)
    have hkS : Keep (· = w.heap.size + 1 + 1) w2 ((w2.setCell ⟨w.heap.size + 1 + 1, 1, none⟩ (.int .i64 RA)).setCell ⟨w.heap.size + 1 + 1, 2, none⟩ (.int .i64 RB)) := ((Keep.refl (· = w.heap.size + 1 + 1) w2).setCell (p := ⟨w.heap.size + 1 + 1, 1, none⟩) rfl _).setCell (p := ⟨w.heap.size + 1 + 1, 2, none⟩) rfl _
    generalize (w2.setCell ⟨w.heap.size + 1 + 1, 1, none⟩ (.int .i64 RA)).setCell ⟨w.heap.size + 1 + 1, 2, none⟩ (.int .i64 RB) = wS at *
    have hrS := (hkS.block (w.heap.size + 1) (by omega) (by show ¬ w.heap.size + 1 = w.heap.size + 1 + 1; omega)).trans HR2.out
    have fb1 := five_set hrS (.int .i64 8) (.int .i64 RA) (.int .i64 RB) (.int .i64 0) (.slice none 0 0)
    have fk1 := five_keep wS (w.heap.size + 1) (.int .i64 8) (.int .i64 RA) (.int .i64 RB) (.int .i64 0) (.slice none 0 0)
    generalize ((((wS.setCell ⟨w.heap.size + 1, 0, none⟩ (.int .i64 8)).setCell ⟨w.heap.size + 1, 1, none⟩ (.int .i64 RA)).setCell ⟨w.heap.size + 1, 2, none⟩ (.int .i64 RB)).setCell ⟨w.heap.size + 1, 3, none⟩ (.int .i64 0)).setCell ⟨w.heap.size + 1, 4, none⟩ (.slice none 0 0) = w9 at *
    obtain ⟨v0, v1, v2, v3, v4⟩ := five_cells fb1
    refine bodyPost_ret (v := instrV ⟨8, RA, RB, 0, []⟩ (.slice none 0 0)) (by simp [results, instrV, Tryd.results34, go_sem, v0, v1, v2, v3, v4]) rfl ?_
    have hYY : Y = ⟨8, RA, RB, 0, []⟩ := by rw [← HY.out]; simp
    rw [hYY]
    have hBS : Below w.heap.size w wS := Keep.belowS hD hkS hD.size (fun j h => by omega)
    exact ⟨_, rfl, Kd.R_nil _ _ _ _ _, Keep.belowS hBS fk1 hBS.size (fun j h => by omega)⟩
  ·
    go_wp2_with (first | (go_at_call 51; (first | with_reducible refine (MN.out _).mono ?_ | with_reducible refine (MN1.out _).mono ?_ | with_reducible refine (MN2.out _).mono ?_ | with_reducible refine (MN3.out _).mono ?_ | with_reducible refine (MN4.out _).mono ?_ | fail); rintro e w' ⟨rfl, hw'⟩; have hw'' := hw'.symm; subst hw'') | fail)
    have hkS : Keep (· = w.heap.size + 1 + 1) w2 ((w2.setCell ⟨w.heap.size + 1 + 1, 1, none⟩ (.int .i64 RA)).setCell ⟨w.heap.size + 1 + 1, 2, none⟩ (.int .i64 RB)) := ((Keep.refl (· = w.heap.size + 1 + 1) w2).setCell (p := ⟨w.heap.size + 1 + 1, 1, none⟩) rfl _).setCell (p := ⟨w.heap.size + 1 + 1, 2, none⟩) rfl _
    generalize (w2.setCell ⟨w.heap.size + 1 + 1, 1, none⟩ (.int .i64 RA)).setCell ⟨w.heap.size + 1 + 1, 2, none⟩ (.int .i64 RB) = wS at *
    have hrS := (hkS.block (w.heap.size + 1) (by omega) (by show ¬ w.heap.size + 1 = w.heap.size + 1 + 1; omega)).trans HR2.out
    have fb1 := five_set hrS (.int .i64 9) (.int .i64 RA) (.int .i64 RB) (.int .i64 0) (.slice none 0 0)
    have fk1 := five_keep wS (w.heap.size + 1) (.int .i64 9) (.int .i64 RA) (.int .i64 RB) (.int .i64 0) (.slice none 0 0)
    generalize ((((wS.setCell ⟨w.heap.size + 1, 0, none⟩ (.int .i64 9)).setCell ⟨w.heap.size + 1, 1, none⟩ (.int .i64 RA)).setCell ⟨w.heap.size + 1, 2, none⟩ (.int .i64 RB)).setCell ⟨w.heap.size + 1, 3, none⟩ (.int .i64 0)).setCell ⟨w.heap.size + 1, 4, none⟩ (.slice none 0 0) = w9 at *
    obtain ⟨v0, v1, v2, v3, v4⟩ := five_cells fb1
    refine bodyPost_ret (v := instrV ⟨9, RA, RB, 0, []⟩ (.slice none 0 0)) (by simp [results, instrV, Tryd.results34, go_sem, v0, v1, v2, v3, v4]) rfl ?_
    have hYY : Y = ⟨9, RA, RB, 0, []⟩ := by rw [← HY.out]; simp
    rw [hYY]
    have hBS : Below w.heap.size w wS := Keep.belowS hD hkS hD.size (fun j h => by omega)
    exact ⟨_, rfl, Kd.R_nil _ _ _ _ _, Keep.belowS hBS fk1 hBS.size (fun j h => by omega)⟩
  ·
    go_wp2_with (first | (go_at_call 51; (first | with_reducible refine (MN.out _).mono ?_ | with_reducible refine (MN1.out _).mono ?_ | with_reducible refine (MN2.out _).mono ?_ | with_reducible refine (MN3.out _).mono ?_ | with_reducible refine (MN4.out _).mono ?_ | fail); rintro e w' ⟨rfl, hw'⟩; have hw'' := hw'.symm; subst hw'') | fail)
    have hkS : Keep (· = w.heap.size + 1 + 1) w2 (w2.setCell ⟨w.heap.size + 1 + 1, 3, none⟩ (.int .i64 RN)) := (Keep.refl (· = w.heap.size + 1 + 1) w2).setCell (p := ⟨w.heap.size + 1 + 1, 3, none⟩) rfl _
    generalize w2.setCell ⟨w.heap.size + 1 + 1, 3, none⟩ (.int .i64 RN) = wS at *
    have hrS := (hkS.block (w.heap.size + 1) (by omega) (by show ¬ w.heap.size + 1 = w.heap.size + 1 + 1; omega)).trans HR2.out
    have fb1 := five_set hrS (.int .i64 10) (.int .i64 0) (.int .i64 0) (.int .i64 RN) (.slice none 0 0)
    have fk1 := five_keep wS (w.heap.size + 1) (.int .i64 10) (.int .i64 0) (.int .i64 0) (.int .i64 RN) (.slice none 0 0)
    generalize ((((wS.setCell ⟨w.heap.size + 1, 0, none⟩ (.int .i64 10)).setCell ⟨w.heap.size + 1, 1, none⟩ (.int .i64 0)).setCell ⟨w.heap.size + 1, 2, none⟩ (.int .i64 0)).setCell ⟨w.heap.size + 1, 3, none⟩ (.int .i64 RN)).setCell ⟨w.heap.size + 1, 4, none⟩ (.slice none 0 0) = w9 at *
    obtain ⟨v0, v1, v2, v3, v4⟩ := five_cells fb1
    refine bodyPost_ret (v := instrV ⟨10, 0, 0, RN, []⟩ (.slice none 0 0)) (by simp [results, instrV, Tryd.results34, go_sem, v0, v1, v2, v3, v4]) rfl ?_
    have hYY : Y = ⟨10, 0, 0, RN, []⟩ := by rw [← HY.out]; simp
    rw [hYY]
    have hBS : Below w.heap.size w wS := Keep.belowS hD hkS hD.size (fun j h => by omega)
    exact ⟨_, rfl, Kd.R_nil _ _ _ _ _, Keep.belowS hBS fk1 hBS.size (fun j h => by omega)⟩
  ·
    go_wp2_with (first | (go_at_call 51; (first | with_reducible refine (MN.out _).mono ?_ | with_reducible refine (MN1.out _).mono ?_ | with_reducible refine (MN2.out _).mono ?_ | with_reducible refine (MN3.out _).mono ?_ | with_reducible refine (MN4.out _).mono ?_ | fail); rintro e w' ⟨rfl, hw'⟩; have hw'' := hw'.symm; subst hw'') | fail)
    have hkS : Keep (· = w.heap.size + 1 + 1) w2 (w2.setCell ⟨w.heap.size + 1 + 1, 3, none⟩ (.int .i64 RN)) := (Keep.refl (· = w.heap.size + 1 + 1) w2).setCell (p := ⟨w.heap.size + 1 + 1, 3, none⟩) rfl _
    generalize w2.setCell ⟨w.heap.size + 1 + 1, 3, none⟩ (.int .i64 RN) = wS at *
    have hrS := (hkS.block (w.heap.size + 1) (by omega) (by show ¬ w.heap.size + 1 = w.heap.size + 1 + 1; omega)).trans HR2.out
    have fb1 := five_set hrS (.int .i64 11) (.int .i64 0) (.int .i64 0) (.int .i64 RN) (.slice none 0 0)
    have fk1 := five_keep wS (w.heap.size + 1) (.int .i64 11) (.int .i64 0) (.int .i64 0) (.int .i64 RN) (.slice none 0 0)
    generalize ((((wS.setCell ⟨w.heap.size + 1, 0, none⟩ (.int .i64 11)).setCell ⟨w.heap.size + 1, 1, none⟩ (.int .i64 0)).setCell ⟨w.heap.size + 1, 2, none⟩ (.int .i64 0)).setCell ⟨w.heap.size + 1, 3, none⟩ (.int .i64 RN)).setCell ⟨w.heap.size + 1, 4, none⟩ (.slice none 0 0) = w9 at *
    obtain ⟨v0, v1, v2, v3, v4⟩ := five_cells fb1
    refine bodyPost_ret (v := instrV ⟨11, 0, 0, RN, []⟩ (.slice none 0 0)) (by simp [results, instrV, Tryd.results34, go_sem, v0, v1, v2, v3, v4]) rfl ?_
    have hYY : Y = ⟨11, 0, 0, RN, []⟩ := by rw [← HY.out]; simp
    rw [hYY]
    have hBS : Below w.heap.size w wS := Keep.belowS hD hkS hD.size (fun j h => by omega)
    exact ⟨_, rfl, Kd.R_nil _ _ _ _ _, Keep.belowS hBS fk1 hBS.size (fun j h => by omega)⟩
  ·
    go_wp2_with (first | (go_at_call 51; (first | with_reducible refine (MN.out _).mono ?_ | with_reducible refine (MN1.out _).mono ?_ | with_reducible refine (MN2.out _).mono ?_ | with_reducible refine (MN3.out _).mono ?_ | with_reducible refine (MN4.out _).mono ?_ | fail); rintro e w' ⟨rfl, hw'⟩; have hw'' := hw'.symm; subst hw'') | fail)
    have hkS : Keep (· = w.heap.size + 1 + 1) w2 ((w2.setCell ⟨w.heap.size + 1 + 1, 1, none⟩ (.int .i64 RA)).setCell ⟨w.heap.size + 1 + 1, 3, none⟩ (.int .i64 RN)) := ((Keep.refl (· = w.heap.size + 1 + 1) w2).setCell (p := ⟨w.heap.size + 1 + 1, 1, none⟩) rfl _).setCell (p := ⟨w.heap.size + 1 + 1, 3, none⟩) rfl _
    generalize (w2.setCell ⟨w.heap.size + 1 + 1, 1, none⟩ (.int .i64 RA)).setCell ⟨w.heap.size + 1 + 1, 3, none⟩ (.int .i64 RN) = wS at *
    have hrS := (hkS.block (w.heap.size + 1) (by omega) (by show ¬ w.heap.size + 1 = w.heap.size + 1 + 1; omega)).trans HR2.out
    have fb1 := five_set hrS (.int .i64 12) (.int .i64 RA) (.int .i64 0) (.int .i64 RN) (.slice none 0 0)
    have fk1 := five_keep wS (w.heap.size + 1) (.int .i64 12) (.int .i64 RA) (.int .i64 0) (.int .i64 RN) (.slice none 0 0)
    generalize ((((wS.setCell ⟨w.heap.size + 1, 0, none⟩ (.int .i64 12)).setCell ⟨w.heap.size + 1, 1, none⟩ (.int .i64 RA)).setCell ⟨w.heap.size + 1, 2, none⟩ (.int .i64 0)).setCell ⟨w.heap.size + 1, 3, none⟩ (.int .i64 RN)).setCell ⟨w.heap.size + 1, 4, none⟩ (.slice none 0 0) = w9 at *
    obtain ⟨v0, v1, v2, v3, v4⟩ := five_cells fb1
    refine bodyPost_ret (v := instrV ⟨12, RA, 0, RN, []⟩ (.slice none 0 0)) (by simp [results, instrV, Tryd.results34, go_sem, v0, v1, v2, v3, v4]) rfl ?_
    have hYY : Y = ⟨12, RA, 0, RN, []⟩ := by rw [← HY.out]; simp
    rw [hYY]
    have hBS : Below w.heap.size w wS := Keep.belowS hD hkS hD.size (fun j h => by omega)
    exact ⟨_, rfl, Kd.R_nil _ _ _ _ _, Keep.belowS hBS fk1 hBS.size (fun j h => by omega)⟩
  ·
    go_wp2_with (first | (go_at_call 51; (first | with_reducible refine (MN.out _).mono ?_ | with_reducible refine (MN1.out _).mono ?_ | with_reducible refine (MN2.out _).mono ?_ | with_reducible refine (MN3.out _).mono ?_ | with_reducible refine (MN4.out _).mono ?_ | fail); rintro e w' ⟨rfl, hw'⟩; have hw'' := hw'.symm; subst hw'') | fail)
    have hkS : Keep (· = w.heap.size + 1 + 1) w2 (w2.setCell ⟨w.heap.size + 1 + 1, 1, none⟩ (.int .i64 RA)) := (Keep.refl (· = w.heap.size + 1 + 1) w2).setCell (p := ⟨w.heap.size + 1 + 1, 1, none⟩) rfl _
    generalize w2.setCell ⟨w.heap.size + 1 + 1, 1, none⟩ (.int .i64 RA) = wS at *
    have hrS := (hkS.block (w.heap.size + 1) (by omega) (by show ¬ w.heap.size + 1 = w.heap.size + 1 + 1; omega)).trans HR2.out
    have fb1 := five_set hrS (.int .i64 13) (.int .i64 RA) (.int .i64 0) (.int .i64 0) (.slice none 0 0)
    have fk1 := five_keep wS (w.heap.size + 1) (.int .i64 13) (.int .i64 RA) (.int .i64 0) (.int .i64 0) (.slice none 0 0)
    generalize ((((wS.setCell ⟨w.heap.size + 1, 0, none⟩ (.int .i64 13)).setCell ⟨w.heap.size + 1, 1, none⟩ (.int .i64 RA)).setCell ⟨w.heap.size + 1, 2, none⟩ (.int .i64 0)).setCell ⟨w.heap.size + 1, 3, none⟩ (.int .i64 0)).setCell ⟨w.heap.size + 1, 4, none⟩ (.slice none 0 0) = w9 at *
    obtain ⟨v0, v1, v2, v3, v4⟩ := five_cells fb1
    refine bodyPost_ret (v := instrV ⟨13, RA, 0, 0, []⟩ (.slice none 0 0)) (by simp [results, instrV, Tryd.results34, go_sem, v0, v1, v2, v3, v4]) rfl ?_
    have hYY : Y = ⟨13, RA, 0, 0, []⟩ := by rw [← HY.out]; simp
    rw [hYY]
    have hBS : Below w.heap.size w wS := Keep.belowS hD hkS hD.size (fun j h => by omega)
    exact ⟨_, rfl, Kd.R_nil _ _ _ _ _, Keep.belowS hBS fk1 hBS.size (fun j h => by omega)⟩
  ·
    go_wp2_with (first | (go_at_call 51; (first | with_reducible refine (MN.out _).mono ?_ | with_reducible refine (MN1.out _).mono ?_ | with_reducible refine (MN2.out _).mono ?_ | with_reducible refine (MN3.out _).mono ?_ | with_reducible refine (MN4.out _).mono ?_ | fail); rintro e w' ⟨rfl, hw'⟩; have hw'' := hw'.symm; subst hw'') | fail)
    have hkS : Keep (· = w.heap.size + 1 + 1) w2 ((w2.setCell ⟨w.heap.size + 1 + 1, 1, none⟩ (.int .i64 RA)).setCell ⟨w.heap.size + 1 + 1, 3, none⟩ (.int .i64 RN3)) := ((Keep.refl (· = w.heap.size + 1 + 1) w2).setCell (p := ⟨w.heap.size + 1 + 1, 1, none⟩) rfl _).setCell (p := ⟨w.heap.size + 1 + 1, 3, none⟩) rfl _
    generalize (w2.setCell ⟨w.heap.size + 1 + 1, 1, none⟩ (.int .i64 RA)).setCell ⟨w.heap.size + 1 + 1, 3, none⟩ (.int .i64 RN3) = wS at *
    have hrS := (hkS.block (w.heap.size + 1) (by omega) (by show ¬ w.heap.size + 1 = w.heap.size + 1 + 1; omega)).trans HR2.out
    have fb1 := five_set hrS (.int .i64 14) (.int .i64 RA) (.int .i64 0) (.int .i64 RN3) (.slice none 0 0)
    have fk1 := five_keep wS (w.heap.size + 1) (.int .i64 14) (.int .i64 RA) (.int .i64 0) (.int .i64 RN3) (.slice none 0 0)
    generalize ((((wS.setCell ⟨w.heap.size + 1, 0, none⟩ (.int .i64 14)).setCell ⟨w.heap.size + 1, 1, none⟩ (.int .i64 RA)).setCell ⟨w.heap.size + 1, 2, none⟩ (.int .i64 0)).setCell ⟨w.heap.size + 1, 3, none⟩ (.int .i64 RN3)).setCell ⟨w.heap.size + 1, 4, none⟩ (.slice none 0 0) = w9 at *
    obtain ⟨v0, v1, v2, v3, v4⟩ := five_cells fb1
    refine bodyPost_ret (v := instrV ⟨14, RA, 0, RN3, []⟩ (.slice none 0 0)) (by simp [results, instrV, Tryd.results34, go_sem, v0, v1, v2, v3, v4]) rfl ?_
    have hYY : Y = ⟨14, RA, 0, RN3, []⟩ := by rw [← HY.out]; simp
    rw [hYY]
    have hBS : Below w.heap.size w wS := Keep.belowS hD hkS hD.size (fun j h => by omega)
    exact ⟨_, rfl, Kd.R_nil _ _ _ _ _, Keep.belowS hBS fk1 hBS.size (fun j h => by omega)⟩
  ·
    go_wp2_with (first | (go_at_call 51; (first | with_reducible refine (MN.out _).mono ?_ | with_reducible refine (MN1.out _).mono ?_ | with_reducible refine (MN2.out _).mono ?_ | with_reducible refine (MN3.out _).mono ?_ | with_reducible refine (MN4.out _).mono ?_ | fail); rintro e w' ⟨rfl, hw'⟩; have hw'' := hw'.symm; subst hw'') | fail)
    have hkS : Keep (· = w.heap.size + 1 + 1) w2 ((w2.setCell ⟨w.heap.size + 1 + 1, 1, none⟩ (.int .i64 RA)).setCell ⟨w.heap.size + 1 + 1, 2, none⟩ (.int .i64 RB)) := ((Keep.refl (· = w.heap.size + 1 + 1) w2).setCell (p := ⟨w.heap.size + 1 + 1, 1, none⟩) rfl _).setCell (p := ⟨w.heap.size + 1 + 1, 2, none⟩) rfl _
    generalize (w2.setCell ⟨w.heap.size + 1 + 1, 1, none⟩ (.int .i64 RA)).setCell ⟨w.heap.size + 1 + 1, 2, none⟩ (.int .i64 RB) = wS at *
    have hrS := (hkS.block (w.heap.size + 1) (by omega) (by show ¬ w.heap.size + 1 = w.heap.size + 1 + 1; omega)).trans HR2.out
    have fb1 := five_set hrS (.int .i64 15) (.int .i64 RA) (.int .i64 RB) (.int .i64 0) (.slice none 0 0)
    have fk1 := five_keep wS (w.heap.size + 1) (.int .i64 15) (.int .i64 RA) (.int .i64 RB) (.int .i64 0) (.slice none 0 0)
    generalize ((((wS.setCell ⟨w.heap.size + 1, 0, none⟩ (.int .i64 15)).setCell ⟨w.heap.size + 1, 1, none⟩ (.int .i64 RA)).setCell ⟨w.heap.size + 1, 2, none⟩ (.int .i64 RB)).setCell ⟨w.heap.size + 1, 3, none⟩ (.int .i64 0)).setCell ⟨w.heap.size + 1, 4, none⟩ (.slice none 0 0) = w9 at *
    obtain ⟨v0, v1, v2, v3, v4⟩ := five_cells fb1
    refine bodyPost_ret (v := instrV ⟨15, RA, RB, 0, []⟩ (.slice none 0 0)) (by simp [results, instrV, Tryd.results34, go_sem, v0, v1, v2, v3, v4]) rfl ?_
    have hYY : Y = ⟨15, RA, RB, 0, []⟩ := by rw [← HY.out]; simp
    rw [hYY]
    have hBS : Below w.heap.size w wS := Keep.belowS hD hkS hD.size (fun j h => by omega)
    exact ⟨_, rfl, Kd.R_nil _ _ _ _ _, Keep.belowS hBS fk1 hBS.size (fun j h => by omega)⟩
  ·
    go_wp2_with (first | (go_at_call 51; (first | with_reducible refine (MN.out _).mono ?_ | with_reducible refine (MN1.out _).mono ?_ | with_reducible refine (MN2.out _).mono ?_ | with_reducible refine (MN3.out _).mono ?_ | with_reducible refine (MN4.out _).mono ?_ | fail); rintro e w' ⟨rfl, hw'⟩; have hw'' := hw'.symm; subst hw'') | fail)
    have hkS : Keep (· = w.heap.size + 1 + 1) w2 ((w2.setCell ⟨w.heap.size + 1 + 1, 1, none⟩ (.int .i64 RA)).setCell ⟨w.heap.size + 1 + 1, 2, none⟩ (.int .i64 RB)) := ((Keep.refl (· = w.heap.size + 1 + 1) w2).setCell (p := ⟨w.heap.size + 1 + 1, 1, none⟩) rfl _).setCell (p := ⟨w.heap.size + 1 + 1, 2, none⟩) rfl _
    generalize (w2.setCell ⟨w.heap.size + 1 + 1, 1, none⟩ (.int .i64 RA)).setCell ⟨w.heap.size + 1 + 1, 2, none⟩ (.int .i64 RB) = wS at *
    have hrS := (hkS.block (w.heap.size + 1) (by omega) (by show ¬ w.heap.size + 1 = w.heap.size + 1 + 1; omega)).trans HR2.out
    have fb1 := five_set hrS (.int .i64 16) (.int .i64 RA) (.int .i64 RB) (.int .i64 0) (.slice none 0 0)
    have fk1 := five_keep wS (w.heap.size + 1) (.int .i64 16) (.int .i64 RA) (.int .i64 RB) (.int .i64 0) (.slice none 0 0)
    generalize ((((wS.setCell ⟨w.heap.size + 1, 0, none⟩ (.int .i64 16)).setCell ⟨w.heap.size + 1, 1, none⟩ (.int .i64 RA)).setCell ⟨w.heap.size + 1, 2, none⟩ (.int .i64 RB)).setCell ⟨w.heap.size + 1, 3, none⟩ (.int .i64 0)).setCell ⟨w.heap.size + 1, 4, none⟩ (.slice none 0 0) = w9 at *
    obtain ⟨v0, v1, v2, v3, v4⟩ := five_cells fb1
    refine bodyPost_ret (v := instrV ⟨16, RA, RB, 0, []⟩ (.slice none 0 0)) (by simp [results, instrV, Tryd.results34, go_sem, v0, v1, v2, v3, v4]) rfl ?_
    have hYY : Y = ⟨16, RA, RB, 0, []⟩ := by rw [← HY.out]; simp
    rw [hYY]
    have hBS : Below w.heap.size w wS := Keep.belowS hD hkS hD.size (fun j h => by omega)
    exact ⟨_, rfl, Kd.R_nil _ _ _ _ _, Keep.belowS hBS fk1 hBS.size (fun j h => by omega)⟩
  ·
    go_wp2_with (first | (go_at_call 51; (first | with_reducible refine (MN.out _).mono ?_ | with_reducible refine (MN1.out _).mono ?_ | with_reducible refine (MN2.out _).mono ?_ | with_reducible refine (MN3.out _).mono ?_ | with_reducible refine (MN4.out _).mono ?_ | fail); rintro e w' ⟨rfl, hw'⟩; have hw'' := hw'.symm; subst hw'') | fail)
    have hkS : Keep (· = w.heap.size + 1 + 1) w2 ((w2.setCell ⟨w.heap.size + 1 + 1, 1, none⟩ (.int .i64 RA)).setCell ⟨w.heap.size + 1 + 1, 2, none⟩ (.int .i64 RB)) := ((Keep.refl (· = w.heap.size + 1 + 1) w2).setCell (p := ⟨w.heap.size + 1 + 1, 1, none⟩) rfl _).setCell (p := ⟨w.heap.size + 1 + 1, 2, none⟩) rfl _
    generalize (w2.setCell ⟨w.heap.size + 1 + 1, 1, none⟩ (.int .i64 RA)).setCell ⟨w.heap.size + 1 + 1, 2, none⟩ (.int .i64 RB) = wS at *
    have hrS := (hkS.block (w.heap.size + 1) (by omega) (by show ¬ w.heap.size + 1 = w.heap.size + 1 + 1; omega)).trans HR2.out
    have fb1 := five_set hrS (.int .i64 17) (.int .i64 RA) (.int .i64 RB) (.int .i64 0) (.slice none 0 0)
    have fk1 := five_keep wS (w.heap.size + 1) (.int .i64 17) (.int .i64 RA) (.int .i64 RB) (.int .i64 0) (.slice none 0 0)
    generalize ((((wS.setCell ⟨w.heap.size + 1, 0, none⟩ (.int .i64 17)).setCell ⟨w.heap.size + 1, 1, none⟩ (.int .i64 RA)).setCell ⟨w.heap.size + 1, 2, none⟩ (.int .i64 RB)).setCell ⟨w.heap.size + 1, 3, none⟩ (.int .i64 0)).setCell ⟨w.heap.size + 1, 4, none⟩ (.slice none 0 0) = w9 at *
    obtain ⟨v0, v1, v2, v3, v4⟩ := five_cells fb1
    refine bodyPost_ret (v := instrV ⟨17, RA, RB, 0, []⟩ (.slice none 0 0)) (by simp [results, instrV, Tryd.results34, go_sem, v0, v1, v2, v3, v4]) rfl ?_
    have hYY : Y = ⟨17, RA, RB, 0, []⟩ := by rw [← HY.out]; simp
    rw [hYY]
    have hBS : Below w.heap.size w wS := Keep.belowS hD hkS hD.size (fun j h => by omega)
    exact ⟨_, rfl, Kd.R_nil _ _ _ _ _, Keep.belowS hBS fk1 hBS.size (fun j h => by omega)⟩
  ·
    go_wp2_with (first | (go_at_call 51; (first | with_reducible refine (MN.out _).mono ?_ | with_reducible refine (MN1.out _).mono ?_ | with_reducible refine (MN2.out _).mono ?_ | with_reducible refine (MN3.out _).mono ?_ | with_reducible refine (MN4.out _).mono ?_ | fail); rintro e w' ⟨rfl, hw'⟩; have hw'' := hw'.symm; subst hw'') | fail)
    have hkS : Keep (· = w.heap.size + 1 + 1) w2 ((w2.setCell ⟨w.heap.size + 1 + 1, 1, none⟩ (.int .i64 RA)).setCell ⟨w.heap.size + 1 + 1, 3, none⟩ (.int .i64 RN2)) := ((Keep.refl (· = w.heap.size + 1 + 1) w2).setCell (p := ⟨w.heap.size + 1 + 1, 1, none⟩) rfl _).setCell (p := ⟨w.heap.size + 1 + 1, 3, none⟩) rfl _
    generalize (w2.setCell ⟨w.heap.size + 1 + 1, 1, none⟩ (.int .i64 RA)).setCell ⟨w.heap.size + 1 + 1, 3, none⟩ (.int .i64 RN2) = wS at *
    have hrS := (hkS.block (w.heap.size + 1) (by omega) (by show ¬ w.heap.size + 1 = w.heap.size + 1 + 1; omega)).trans HR2.out
    have fb1 := five_set hrS (.int .i64 18) (.int .i64 RA) (.int .i64 0) (.int .i64 RN2) (.slice none 0 0)
    have fk1 := five_keep wS (w.heap.size + 1) (.int .i64 18) (.int .i64 RA) (.int .i64 0) (.int .i64 RN2) (.slice none 0 0)
    generalize ((((wS.setCell ⟨w.heap.size + 1, 0, none⟩ (.int .i64 18)).setCell ⟨w.heap.size + 1, 1, none⟩ (.int .i64 RA)).setCell ⟨w.heap.size + 1, 2, none⟩ (.int .i64 0)).setCell ⟨w.heap.size + 1, 3, none⟩ (.int .i64 RN2)).setCell ⟨w.heap.size + 1, 4, none⟩ (.slice none 0 0) = w9 at *
    obtain ⟨v0, v1, v2, v3, v4⟩ := five_cells fb1
    refine bodyPost_ret (v := instrV ⟨18, RA, 0, RN2, []⟩ (.slice none 0 0)) (by simp [results, instrV, Tryd.results34, go_sem, v0, v1, v2, v3, v4]) rfl ?_
    have hYY : Y = ⟨18, RA, 0, RN2, []⟩ := by rw [← HY.out]; simp
    rw [hYY]
    have hBS : Below w.heap.size w wS := Keep.belowS hD hkS hD.size (fun j h => by omega)
    exact ⟨_, rfl, Kd.R_nil _ _ _ _ _, Keep.belowS hBS fk1 hBS.size (fun j h => by omega)⟩
  ·
    go_wp2_with (first | (go_at_call 51; (first | with_reducible refine (MN.out _).mono ?_ | with_reducible refine (MN1.out _).mono ?_ | with_reducible refine (MN2.out _).mono ?_ | with_reducible refine (MN3.out _).mono ?_ | with_reducible refine (MN4.out _).mono ?_ | fail); rintro e w' ⟨rfl, hw'⟩; have hw'' := hw'.symm; subst hw'') | fail)
    have hkS : Keep (· = w.heap.size + 1 + 1) w2 ((w2.setCell ⟨w.heap.size + 1 + 1, 1, none⟩ (.int .i64 RA)).setCell ⟨w.heap.size + 1 + 1, 3, none⟩ (.int .i64 RN2)) := ((Keep.refl (· = w.heap.size + 1 + 1) w2).setCell (p := ⟨w.heap.size + 1 + 1, 1, none⟩) rfl _).setCell (p := ⟨w.heap.size + 1 + 1, 3, none⟩) rfl _
    generalize (w2.setCell ⟨w.heap.size + 1 + 1, 1, none⟩ (.int .i64 RA)).setCell ⟨w.heap.size + 1 + 1, 3, none⟩ (.int .i64 RN2) = wS at *
    have hrS := (hkS.block (w.heap.size + 1) (by omega) (by show ¬ w.heap.size + 1 = w.heap.size + 1 + 1; omega)).trans HR2.out
    have fb1 := five_set hrS (.int .i64 19) (.int .i64 RA) (.int .i64 0) (.int .i64 RN2) (.slice none 0 0)
    have fk1 := five_keep wS (w.heap.size + 1) (.int .i64 19) (.int .i64 RA) (.int .i64 0) (.int .i64 RN2) (.slice none 0 0)
    generalize ((((wS.setCell ⟨w.heap.size + 1, 0, none⟩ (.int .i64 19)).setCell ⟨w.heap.size + 1, 1, none⟩ (.int .i64 RA)).setCell ⟨w.heap.size + 1, 2, none⟩ (.int .i64 0)).setCell ⟨w.heap.size + 1, 3, none⟩ (.int .i64 RN2)).setCell ⟨w.heap.size + 1, 4, none⟩ (.slice none 0 0) = w9 at *
    obtain ⟨v0, v1, v2, v3, v4⟩ := five_cells fb1
    refine bodyPost_ret (v := instrV ⟨19, RA, 0, RN2, []⟩ (.slice none 0 0)) (by simp [results, instrV, Tryd.results34, go_sem, v0, v1, v2, v3, v4]) rfl ?_
    have hYY : Y = ⟨19, RA, 0, RN2, []⟩ := by rw [← HY.out]; simp
    rw [hYY]
    have hBS : Below w.heap.size w wS := Keep.belowS hD hkS hD.size (fun j h => by omega)
    exact ⟨_, rfl, Kd.R_nil _ _ _ _ _, Keep.belowS hBS fk1 hBS.size (fun j h => by omega)⟩
  ·
    go_wp2_with (first | (go_at_call 51; (first | with_reducible refine (MN.out _).mono ?_ | with_reducible refine (MN1.out _).mono ?_ | with_reducible refine (MN2.out _).mono ?_ | with_reducible refine (MN3.out _).mono ?_ | with_reducible refine (MN4.out _).mono ?_ | fail); rintro e w' ⟨rfl, hw'⟩; have hw'' := hw'.symm; subst hw'') | fail)
    have hkS : Keep (· = w.heap.size + 1 + 1) w2 ((w2.setCell ⟨w.heap.size + 1 + 1, 1, none⟩ (.int .i64 RA)).setCell ⟨w.heap.size + 1 + 1, 3, none⟩ (.int .i64 RN4)) := ((Keep.refl (· = w.heap.size + 1 + 1) w2).setCell (p := ⟨w.heap.size + 1 + 1, 1, none⟩) rfl _).setCell (p := ⟨w.heap.size + 1 + 1, 3, none⟩) rfl _
    generalize (w2.setCell ⟨w.heap.size + 1 + 1, 1, none⟩ (.int .i64 RA)).setCell ⟨w.heap.size + 1 + 1, 3, none⟩ (.int .i64 RN4) = wS at *
    have hrS := (hkS.block (w.heap.size + 1) (by omega) (by show ¬ w.heap.size + 1 = w.heap.size + 1 + 1; omega)).trans HR2.out
    have fb1 := five_set hrS (.int .i64 20) (.int .i64 RA) (.int .i64 0) (.int .i64 RN4) (.slice none 0 0)
    have fk1 := five_keep wS (w.heap.size + 1) (.int .i64 20) (.int .i64 RA) (.int .i64 0) (.int .i64 RN4) (.slice none 0 0)
    generalize ((((wS.setCell ⟨w.heap.size + 1, 0, none⟩ (.int .i64 20)).setCell ⟨w.heap.size + 1, 1, none⟩ (.int .i64 RA)).setCell ⟨w.heap.size + 1, 2, none⟩ (.int .i64 0)).setCell ⟨w.heap.size + 1, 3, none⟩ (.int .i64 RN4)).setCell ⟨w.heap.size + 1, 4, none⟩ (.slice none 0 0) = w9 at *
    obtain ⟨v0, v1, v2, v3, v4⟩ := five_cells fb1
    refine bodyPost_ret (v := instrV ⟨20, RA, 0, RN4, []⟩ (.slice none 0 0)) (by simp [results, instrV, Tryd.results34, go_sem, v0, v1, v2, v3, v4]) rfl ?_
    have hYY : Y = ⟨20, RA, 0, RN4, []⟩ := by rw [← HY.out]; simp
    rw [hYY]
    have hBS : Below w.heap.size w wS := Keep.belowS hD hkS hD.size (fun j h => by omega)
    exact ⟨_, rfl, Kd.R_nil _ _ _ _ _, Keep.belowS hBS fk1 hBS.size (fun j h => by omega)⟩
  · go_wp2_with fail
    refine (MC.out _ hD).mono ?_
    rintro e w3 ⟨v, rfl, hv, hb3⟩
    obtain ⟨vA, vc, rfl⟩ := Kd.R_slice hv
    have HV := hidP hv
    have hB3 := hD.trans (hb3.mono (by omega))
    have hrS := blk_below HR2.out hb3
    have hyS := blk_below HY2.out hb3
    have HRS := hidP hrS
    have hz3 := hb3.size
    have hl3 : w.heap.size + 2 < w3.heap.size := by omega
    clear x0 x1 x2 x3 x4 y0 y1 y2 y3 y4 r0 r1 r2 r3 r4 rf0 rf1 rf2 rf3 rf4 yf1 yf2 yf3 yf4 hv
    obtain ⟨y0, y1, y2, y3, y4⟩ := five_cells hyS
    obtain ⟨r0, r1, r2, r3, r4⟩ := five_cells hrS
    have rf0 := blk_frozen hrS 0
    have rf1 := blk_frozen hrS 1
    have rf2 := blk_frozen hrS 2
    have rf3 := blk_frozen hrS 3
    have rf4 := blk_frozen hrS 4
    have yf4 := blk_frozen hyS 4
    clear hrS hyS
    go_wp2_with fail
    have hkS : Keep (· = w.heap.size + 1 + 1) w3 (w3.setCell ⟨w.heap.size + 1 + 1, 4, none⟩ (.slice vA PC.length vc)) := (Keep.refl (· = w.heap.size + 1 + 1) w3).setCell (p := ⟨w.heap.size + 1 + 1, 4, none⟩) rfl _
    generalize w3.setCell ⟨w.heap.size + 1 + 1, 4, none⟩ (.slice vA PC.length vc) = wS at *
    have hrS := (hkS.block _ (show w.heap.size + 1 < w3.heap.size by omega) (by show ¬ w.heap.size + 1 = w.heap.size + 1 + 1; omega)).trans HRS.out
    have fb1 := five_set hrS (.int .i64 21) (.int .i64 0) (.int .i64 0) (.int .i64 0) (.slice vA PC.length vc)
    have fk1 := five_keep wS (w.heap.size + 1) (.int .i64 21) (.int .i64 0) (.int .i64 0) (.int .i64 0) (.slice vA PC.length vc)
    generalize ((((wS.setCell ⟨w.heap.size + 1, 0, none⟩ (.int .i64 21)).setCell ⟨w.heap.size + 1, 1, none⟩ (.int .i64 0)).setCell ⟨w.heap.size + 1, 2, none⟩ (.int .i64 0)).setCell ⟨w.heap.size + 1, 3, none⟩ (.int .i64 0)).setCell ⟨w.heap.size + 1, 4, none⟩ (.slice vA PC.length vc) = w9 at *
    obtain ⟨v0, v1, v2, v3, v4⟩ := five_cells fb1
    refine bodyPost_ret (v := instrV ⟨21, 0, 0, 0, PC⟩ (.slice vA PC.length vc)) (by simp [results, instrV, Tryd.results34, go_sem, v0, v1, v2, v3, v4]) rfl ?_
    have hYY : Y = ⟨21, 0, 0, 0, PC⟩ := by rw [← HY.out]; simp
    rw [hYY]
    have hBS : Below w.heap.size w wS := Keep.belowS hB3 hkS hB3.size (fun j h => by omega)
    refine ⟨_, rfl, ?_, Keep.belowS hBS fk1 hBS.size (fun j h => by omega)⟩
    exact Kd.R_mono (Kd.R_lower (R_keepS (R_keepS HV.out hkS (fun j hj => by show ¬ j = _; omega)) fk1 (fun j hj => by show ¬ j = _; omega)) (by omega)) (fun j hj => by omega)
  ·
    go_wp2_with (first | (go_at_call 51; (first | with_reducible refine (MN.out _).mono ?_ | with_reducible refine (MN1.out _).mono ?_ | with_reducible refine (MN2.out _).mono ?_ | with_reducible refine (MN3.out _).mono ?_ | with_reducible refine (MN4.out _).mono ?_ | fail); rintro e w' ⟨rfl, hw'⟩; have hw'' := hw'.symm; subst hw'') | fail)
    have hkS : Keep (· = w.heap.size + 1 + 1) w2 (w2) := Keep.refl _ w2
    generalize w2 = wS at *
    have hrS := (hkS.block (w.heap.size + 1) (by omega) (by show ¬ w.heap.size + 1 = w.heap.size + 1 + 1; omega)).trans HR2.out
    have fb1 := five_set hrS (.int .i64 22) (.int .i64 0) (.int .i64 0) (.int .i64 0) (.slice none 0 0)
    have fk1 := five_keep wS (w.heap.size + 1) (.int .i64 22) (.int .i64 0) (.int .i64 0) (.int .i64 0) (.slice none 0 0)
    generalize ((((wS.setCell ⟨w.heap.size + 1, 0, none⟩ (.int .i64 22)).setCell ⟨w.heap.size + 1, 1, none⟩ (.int .i64 0)).setCell ⟨w.heap.size + 1, 2, none⟩ (.int .i64 0)).setCell ⟨w.heap.size + 1, 3, none⟩ (.int .i64 0)).setCell ⟨w.heap.size + 1, 4, none⟩ (.slice none 0 0) = w9 at *
    obtain ⟨v0, v1, v2, v3, v4⟩ := five_cells fb1
    refine bodyPost_ret (v := instrV ⟨22, 0, 0, 0, []⟩ (.slice none 0 0)) (by simp [results, instrV, Tryd.results34, go_sem, v0, v1, v2, v3, v4]) rfl ?_
    have hYY : Y = ⟨22, 0, 0, 0, []⟩ := by rw [← HY.out]; simp
    rw [hYY]
    have hBS : Below w.heap.size w wS := Keep.belowS hD hkS hD.size (fun j h => by omega)
    exact ⟨_, rfl, Kd.R_nil _ _ _ _ _, Keep.belowS hBS fk1 hBS.size (fun j h => by omega)⟩
end Go.Proofs.YtoflhfiegfhkoaaDoor
