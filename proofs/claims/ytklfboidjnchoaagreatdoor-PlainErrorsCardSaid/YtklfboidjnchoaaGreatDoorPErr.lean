/-
  Parts of the proof: PErr.
-/
import Derived.Test.YtklfboidjnchoaaGreatDoorZ11
import Derived.Test.YtklfboidjnchoaaGreatDoorZ18
namespace Go.Proofs.YtklfboidjnchoaaGreatDoor
open Go.RowKit Go.Proofs.YtklfboidjnchoaaGreatDoorW.PrintWords
set_option linter.unusedVariables false
set_option linter.unusedSimpArgs false
theorem cellB {w w' : World} {p : Addr} {v : Value} (hb : Below w.heap.size w w') (h : w.cell? p = some v) : w'.cell? p = some v := (hb.cell (p := p) (World.block_lt_of_cell? _ _ h)).trans h
theorem errC_eq : (#[.string ⟨#[109, 97, 48, 10, 99, 97, 10, 115, 97, 98]⟩, .string ⟨#[109, 97, 48, 10, 99, 97, 10, 99, 97]⟩, .string ⟨#[99, 97]⟩, .string ⟨#[61, 97, 53, 10, 99, 97]⟩, .string ⟨#[98, 97, 32, 98, 10, 114, 97, 99]⟩, .string ⟨#[61, 97, 53, 10, 115, 97, 98]⟩, .string ⟨#[98, 97, 32, 98, 10, 43, 97, 98]⟩, .string ⟨#[61, 97, 53, 10, 117, 97, 98]⟩, .string ⟨#[109, 97, 48, 10, 117, 97, 98]⟩, .string ⟨#[61, 97, 49, 10, 102, 97, 50]⟩, .string ⟨#[61, 97, 53, 10, 108, 97, 98]⟩, .string ⟨#[98, 97, 32, 98, 10, 107, 97, 98]⟩, .string ⟨#[109, 97, 48, 10, 114, 97, 98]⟩, .string ⟨#[114, 97, 98]⟩, .string ⟨#[83, 114, 97, 98, 48]⟩, .string ⟨#[109, 97, 49, 10, 83, 115, 97, 98, 48, 114, 97, 98, 49]⟩] : Array Value) = (errT.map fun T => Value.string (strA T)).toArray := by kernel_rfl
theorem errW_eq : (#[.int .i64 3, .int .i64 4, .int .i64 5, .int .i64 6, .int .i64 6, .int .i64 6, .int .i64 6, .int .i64 6, .int .i64 6, .int .i64 6, .int .i64 6, .int .i64 6, .int .i64 2, .int .i64 2, .int .i64 2, .int .i64 0] : Array Value) = (errW.map (Value.int .i64)).toArray := by kernel_rfl
theorem errT_get {q : Nat} (h : q < 16) : (errT.map fun T => Value.string (strA T))[q]? = some (.string (strA (errT.getD q []))) ∧ (errW.map (Value.int .i64))[q]? = some (.int .i64 (errW.getD q 0)) := by
  have h1 : q < errT.length := h
  have h2 : q < errW.length := h
  rw [List.getElem?_map, List.getElem?_map, List.getElem?_eq_getElem h1, List.getElem?_eq_getElem h2, List.getD_eq_getElem?_getD, List.getD_eq_getElem?_getD, List.getElem?_eq_getElem h1, List.getElem?_eq_getElem h2]
  exact ⟨rfl, rfl⟩
theorem errM_few : ∀ q, q < 16 → (errM q).events.length = (if errW.getD q 0 = 0 then 0 else 1) ∧ (strA (errT.getD q [])).size ≤ 20 := by decide +kernel
set_option maxRecDepth 100000 in
set_option maxHeartbeats 3200000 in
theorem plainErrors_any (a : Int) (w : World) (hbl : Blanks w) :
    Calls Tryz.prog 5 #[.int .i64 a] w fun e w' => e = .returned (.bool true) ∧ Below w.heap.size w w' := by
  obtain ⟨m1, m2, m3⟩ := modN_spec a 16 (by omega) (by omega)
  obtain ⟨q, hq⟩ : ∃ q, modN a 16 = q := ⟨_, rfl⟩
  rw [hq] at m1 m2 m3
  have m1' : (IntKind.u64.wrap a).tmod 16 = (q : Int) := m1
  have hg := err_good q m2
  have hr := err_run q m2
  have hf := errM_few q m2
  obtain ⟨hc1, hc2⟩ := errT_get m2
  have hrn : ∀ w, Blanks w → Calls Tryz.prog 20 #[.string (strA (errT.getD q [])), .int .i64 12] w (RunPost w (runR (codeT (errT.getD q [])) (picksL 12 0))) := fun w hbl => lrun_any (load_good hg) hg.2.2.2.2.2 (by have := hf.2; omega) 12 (by omega) w hbl
  have q0 : (0 : Int) ≤ (q : Int) := by omega
  have q1 : (q : Int) < 16 := by omega
  have he : runR (codeT (errT.getD q [])) (picksL 12 0) = errM q := rfl
  rw [he] at hrn
  obtain ⟨T, hT⟩ : ∃ T, strA (errT.getD q []) = T := ⟨_, rfl⟩
  obtain ⟨E, hE⟩ : ∃ E, errW.getD q 0 = E := ⟨_, rfl⟩
  rw [hT] at hc1 hrn
  rw [hE] at hc2 hr hf
  generalize errM q = M at *
  have HR := hidP hr
  have HF := hidP hf.1
  have HC1 := hidP hc1
  have HC2 := hidP hc2
  have HRN := hidP hrn
  have HBL := hidP hbl
  clear hg hr hbl hq m1 hc1 hc2 hf hrn hT hE he
  go_enter Tryz.func5, Tryz.ntmps5
  go_upto_region 4 with fail
  have hb0 : Below w.heap.size w ((w.alloc (.cells #[.string ⟨#[109, 97, 48, 10, 99, 97, 10, 115, 97, 98]⟩, .string ⟨#[109, 97, 48, 10, 99, 97, 10, 99, 97]⟩, .string ⟨#[99, 97]⟩, .string ⟨#[61, 97, 53, 10, 99, 97]⟩, .string ⟨#[98, 97, 32, 98, 10, 114, 97, 99]⟩, .string ⟨#[61, 97, 53, 10, 115, 97, 98]⟩, .string ⟨#[98, 97, 32, 98, 10, 43, 97, 98]⟩, .string ⟨#[61, 97, 53, 10, 117, 97, 98]⟩, .string ⟨#[109, 97, 48, 10, 117, 97, 98]⟩, .string ⟨#[61, 97, 49, 10, 102, 97, 50]⟩, .string ⟨#[61, 97, 53, 10, 108, 97, 98]⟩, .string ⟨#[98, 97, 32, 98, 10, 107, 97, 98]⟩, .string ⟨#[109, 97, 48, 10, 114, 97, 98]⟩, .string ⟨#[114, 97, 98]⟩, .string ⟨#[83, 114, 97, 98, 48]⟩, .string ⟨#[109, 97, 49, 10, 83, 115, 97, 98, 48, 114, 97, 98, 49]⟩] 9)).alloc (.cells #[.int .i64 3, .int .i64 4, .int .i64 5, .int .i64 6, .int .i64 6, .int .i64 6, .int .i64 6, .int .i64 6, .int .i64 6, .int .i64 6, .int .i64 6, .int .i64 6, .int .i64 2, .int .i64 2, .int .i64 2, .int .i64 0] 3)) := bnew (bnew (brefl w) _) _
  have hrow1 : RowAt ((w.alloc (.cells #[.string ⟨#[109, 97, 48, 10, 99, 97, 10, 115, 97, 98]⟩, .string ⟨#[109, 97, 48, 10, 99, 97, 10, 99, 97]⟩, .string ⟨#[99, 97]⟩, .string ⟨#[61, 97, 53, 10, 99, 97]⟩, .string ⟨#[98, 97, 32, 98, 10, 114, 97, 99]⟩, .string ⟨#[61, 97, 53, 10, 115, 97, 98]⟩, .string ⟨#[98, 97, 32, 98, 10, 43, 97, 98]⟩, .string ⟨#[61, 97, 53, 10, 117, 97, 98]⟩, .string ⟨#[109, 97, 48, 10, 117, 97, 98]⟩, .string ⟨#[61, 97, 49, 10, 102, 97, 50]⟩, .string ⟨#[61, 97, 53, 10, 108, 97, 98]⟩, .string ⟨#[98, 97, 32, 98, 10, 107, 97, 98]⟩, .string ⟨#[109, 97, 48, 10, 114, 97, 98]⟩, .string ⟨#[114, 97, 98]⟩, .string ⟨#[83, 114, 97, 98, 48]⟩, .string ⟨#[109, 97, 49, 10, 83, 115, 97, 98, 48, 114, 97, 98, 49]⟩] 9)).alloc (.cells #[.int .i64 3, .int .i64 4, .int .i64 5, .int .i64 6, .int .i64 6, .int .i64 6, .int .i64 6, .int .i64 6, .int .i64 6, .int .i64 6, .int .i64 6, .int .i64 6, .int .i64 2, .int .i64 2, .int .i64 2, .int .i64 0] 3)) (some ⟨w.heap.size, 0, none⟩) (errT.map fun T => Value.string (strA T)) := by rw [errC_eq]; exact (row_new w _ _ _ rfl).alloc _
  have hrow2 : RowAt ((w.alloc (.cells #[.string ⟨#[109, 97, 48, 10, 99, 97, 10, 115, 97, 98]⟩, .string ⟨#[109, 97, 48, 10, 99, 97, 10, 99, 97]⟩, .string ⟨#[99, 97]⟩, .string ⟨#[61, 97, 53, 10, 99, 97]⟩, .string ⟨#[98, 97, 32, 98, 10, 114, 97, 99]⟩, .string ⟨#[61, 97, 53, 10, 115, 97, 98]⟩, .string ⟨#[98, 97, 32, 98, 10, 43, 97, 98]⟩, .string ⟨#[61, 97, 53, 10, 117, 97, 98]⟩, .string ⟨#[109, 97, 48, 10, 117, 97, 98]⟩, .string ⟨#[61, 97, 49, 10, 102, 97, 50]⟩, .string ⟨#[61, 97, 53, 10, 108, 97, 98]⟩, .string ⟨#[98, 97, 32, 98, 10, 107, 97, 98]⟩, .string ⟨#[109, 97, 48, 10, 114, 97, 98]⟩, .string ⟨#[114, 97, 98]⟩, .string ⟨#[83, 114, 97, 98, 48]⟩, .string ⟨#[109, 97, 49, 10, 83, 115, 97, 98, 48, 114, 97, 98, 49]⟩] 9)).alloc (.cells #[.int .i64 3, .int .i64 4, .int .i64 5, .int .i64 6, .int .i64 6, .int .i64 6, .int .i64 6, .int .i64 6, .int .i64 6, .int .i64 6, .int .i64 6, .int .i64 6, .int .i64 2, .int .i64 2, .int .i64 2, .int .i64 0] 3)) (some ⟨w.heap.size + 1, 0, none⟩) (errW.map (Value.int .i64)) := by rw [errW_eq]; exact row_new _ _ _ _ (by simp)
  generalize (w.alloc (.cells #[.string ⟨#[109, 97, 48, 10, 99, 97, 10, 115, 97, 98]⟩, .string ⟨#[109, 97, 48, 10, 99, 97, 10, 99, 97]⟩, .string ⟨#[99, 97]⟩, .string ⟨#[61, 97, 53, 10, 99, 97]⟩, .string ⟨#[98, 97, 32, 98, 10, 114, 97, 99]⟩, .string ⟨#[61, 97, 53, 10, 115, 97, 98]⟩, .string ⟨#[98, 97, 32, 98, 10, 43, 97, 98]⟩, .string ⟨#[61, 97, 53, 10, 117, 97, 98]⟩, .string ⟨#[109, 97, 48, 10, 117, 97, 98]⟩, .string ⟨#[61, 97, 49, 10, 102, 97, 50]⟩, .string ⟨#[61, 97, 53, 10, 108, 97, 98]⟩, .string ⟨#[98, 97, 32, 98, 10, 107, 97, 98]⟩, .string ⟨#[109, 97, 48, 10, 114, 97, 98]⟩, .string ⟨#[114, 97, 98]⟩, .string ⟨#[83, 114, 97, 98, 48]⟩, .string ⟨#[109, 97, 49, 10, 83, 115, 97, 98, 48, 114, 97, 98, 49]⟩] 9)).alloc (.cells #[.int .i64 3, .int .i64 4, .int .i64 5, .int .i64 6, .int .i64 6, .int .i64 6, .int .i64 6, .int .i64 6, .int .i64 6, .int .i64 6, .int .i64 6, .int .i64 6, .int .i64 2, .int .i64 2, .int .i64 2, .int .i64 0] 3) = W0 at *
  obtain ⟨_, _, e1, hx1⟩ := hrow1.addr (by decide)
  obtain ⟨_, _, e2, hx2⟩ := hrow2.addr (by decide)
  simp only [Option.some.injEq, Addr.mk.injEq, and_true] at e1 e2
  obtain ⟨rfl, rfl⟩ := e1
  obtain ⟨rfl, rfl⟩ := e2
  have x1 := hx1 _ _ HC1.out
  have x2 := hx2 _ _ HC2.out
  rw [Nat.zero_add] at x1 x2
  have HX2 := hidP x2
  have hz0 := hb0.size
  have HB0 := hidP hb0
  have HRW := hidP (HRN.out W0 (HBL.out.below hb0))
  clear hrow1 hrow2 hx1 hx2 hb0 x2 m2 HRN
  go_wp2_with fail
  go_at_call 20
  with_reducible refine HRW.out.mono ?_
  rintro e w1 hret
  obtain ⟨ea, ec, sa, sc, rfl, h1, h2, h3⟩ := hret.open
  rw [HF.out] at h1 ⊢
  have H1 := hidP h1
  have H2 := hidP h2
  have H3 := hidP h3
  have hz1 := h3.size
  have hlt2 := World.block_lt_of_cell? _ _ HX2.out
  have x2 := (h3.cell (p := ⟨w.heap.size + 1, q, none⟩) hlt2).trans HX2.out
  have x2a : ∀ O, (w1.alloc O).cell? ⟨w.heap.size + 1, q, none⟩ = some (.int .i64 E) := fun O => ((bnew (brefl w1) O).cell (p := ⟨w.heap.size + 1, q, none⟩) (World.block_lt_of_cell? _ _ x2)).trans x2
  have HX2a := hidP x2a
  clear h1 h2 h3 hret hlt2
  by_cases hE : E = 0
  · subst hE
    have HE := hidP HR.out.1
    rw [if_pos rfl] at H1 ⊢
    rw [HR.out.1]
    go_wp2_with fail
    go_at_call 14
    with_reducible refine (awakeP_any _ (((HBL.out.below HB0.out).below H3.out).below (bnew (brefl _) _))).mono ?_
    rintro e w2 ⟨rfl, hb2⟩
    have o2 := (hb2.cell (p := ⟨w1.heap.size, 1, none⟩) (by simp)).trans (cell_of_row _ w1.heap.size 1 _ _ (0, 0) (heap_alloc_new w1 _))
    simp at o2
    go_wp2_with fail
    go_ret
    exact ⟨rfl, bstep (bnew (bstep HB0.out H3.out) _) hb2⟩
  · rw [if_neg hE] at H1 ⊢
    rw [HR.out.1]
    have hev := HR.out.2.resolve_left hE
    rw [hev] at H1
    obtain ⟨G, hG⟩ : ∃ G, (if E = 2 then (-1 : Int) else 0) = G := ⟨_, rfl⟩
    have hG2 : (E == 2) = true ∧ G = -1 ∨ (E == 2) = false ∧ G = 0 := by
      by_cases h : E = 2
      · left; rw [if_pos h] at hG; simp [h, hG]
      · right; rw [if_neg h] at hG; simp [h, hG]
    rw [hG] at H1
    obtain ⟨b, o, rfl, y0, y1, y2, y3⟩ := evC_at (l := [⟨5, G, E, false⟩]) (owns_row H1.out) (i := 0) rfl
    simp only [Nat.zero_mul, Nat.add_zero] at y0 y1 y2 y3
    have HY := hidP (⟨y0, y1, y2, y3⟩ : _ ∧ _ ∧ _ ∧ _)
    have HG := hidP hG
    have tE : (E == 0) = false := by simp [hE]
    have haw := awakeP_any (w1.alloc (.cells #[.slice (some ⟨b, o, none⟩) 1 ec, .int .i64 E, .slice sa M.steps.length sc] 31)).drew (((HBL.out.below HB0.out).below H3.out).below (bnew (brefl _) _).drew)
    have z0 : (w1.alloc (.cells #[.slice (some ⟨b, o, none⟩) 1 ec, .int .i64 E, .slice sa M.steps.length sc] 31)).cell? ⟨w1.heap.size, 0, none⟩ = some (.slice (some ⟨b, o, none⟩) 1 ec) := by go_simp
    have z1 : (w1.alloc (.cells #[.slice (some ⟨b, o, none⟩) 1 ec, .int .i64 E, .slice sa M.steps.length sc] 31)).cell? ⟨w1.heap.size, 1, none⟩ = some (.int .i64 E) := by go_simp
    have HZ := hidP (⟨z0, z1⟩ : _ ∧ _)
    have HAW := hidP haw
    have hbW : Below w.heap.size w (w1.alloc (.cells #[.slice (some ⟨b, o, none⟩) 1 ec, .int .i64 E, .slice sa M.steps.length sc] 31)) := bnew (bstep HB0.out H3.out) _
    have HBW := hidP hbW
    clear hev hG haw z0 z1 hbW
    rcases hG2 with ⟨hg, rfl⟩ | ⟨hg, rfl⟩
    · --
      go_wp2_with fail
      have y0 := cellB (bnew (brefl w1) (.cells #[.slice (some ⟨b, o, none⟩) 1 ec, .int .i64 E, .slice sa M.steps.length sc] 31)) HY.out.1
      have y1 := cellB (bnew (brefl w1) (.cells #[.slice (some ⟨b, o, none⟩) 1 ec, .int .i64 E, .slice sa M.steps.length sc] 31)) HY.out.2.1
      have y2 := cellB (bnew (brefl w1) (.cells #[.slice (some ⟨b, o, none⟩) 1 ec, .int .i64 E, .slice sa M.steps.length sc] 31)) HY.out.2.2.1
      have y3 := cellB (bnew (brefl w1) (.cells #[.slice (some ⟨b, o, none⟩) 1 ec, .int .i64 E, .slice sa M.steps.length sc] 31)) HY.out.2.2.2
      have z0 := HZ.out.1
      have z1 := HZ.out.2
      have x2b := HX2a.out (.cells #[.slice (some ⟨b, o, none⟩) 1 ec, .int .i64 E, .slice sa M.steps.length sc] 31)
      have hw1z : w1.heap.size < (w1.alloc (.cells #[.slice (some ⟨b, o, none⟩) 1 ec, .int .i64 E, .slice sa M.steps.length sc] 31)).heap.size := by simp
      obtain ⟨c, hc⟩ : ∃ c, w1.heap.size = c := ⟨_, rfl⟩
      rw [hc] at z0 z1 hw1z ⊢
      clear hc x2 x2a
      generalize w1.alloc (.cells #[.slice (some ⟨b, o, none⟩) 1 ec, .int .i64 E, .slice sa M.steps.length sc] 31) = W1 at *
      go_region_held3 (fun w' => w'.cell? ⟨c, 0, none⟩ = some (.slice (some ⟨b, o, none⟩) 1 ec) ∧ w'.cell? ⟨c, 1, none⟩ = some (.int .i64 E) ∧ w'.cell? ⟨w.heap.size + 1, q, none⟩ = some (.int .i64 E) ∧ w'.cell? ⟨b, o, none⟩ = some (.int .i64 5) ∧ w'.cell? ⟨b, o + 1, none⟩ = some (.int .i64 (-1)) ∧ w'.cell? ⟨b, o + 2, none⟩ = some (.int .i64 E) ∧ w'.cell? ⟨b, o + 3, none⟩ = some (.bool false))
        (first | exact ⟨z0, z1, x2b, y0, y1, y2, y3⟩ | exact ⟨cellB hb2 z0, cellB hb2 z1, cellB hb2 x2b, cellB hb2 y0, cellB hb2 y1, cellB hb2 y2, cellB hb2 y3⟩ | fail)
        (first | (go_at_call 14; with_reducible refine HAW.out.mono ?_; rintro e w2 ⟨rfl, hb2⟩) | fail)
      go_wp2
      go_ret
      exact ⟨rfl, bstep HBW.out.drew hb2⟩
    · --
      go_wp2_with fail
      have y0 := cellB (bnew (brefl w1) (.cells #[.slice (some ⟨b, o, none⟩) 1 ec, .int .i64 E, .slice sa M.steps.length sc] 31)) HY.out.1
      have y1 := cellB (bnew (brefl w1) (.cells #[.slice (some ⟨b, o, none⟩) 1 ec, .int .i64 E, .slice sa M.steps.length sc] 31)) HY.out.2.1
      have y2 := cellB (bnew (brefl w1) (.cells #[.slice (some ⟨b, o, none⟩) 1 ec, .int .i64 E, .slice sa M.steps.length sc] 31)) HY.out.2.2.1
      have y3 := cellB (bnew (brefl w1) (.cells #[.slice (some ⟨b, o, none⟩) 1 ec, .int .i64 E, .slice sa M.steps.length sc] 31)) HY.out.2.2.2
      have z0 := HZ.out.1
      have z1 := HZ.out.2
      have x2b := HX2a.out (.cells #[.slice (some ⟨b, o, none⟩) 1 ec, .int .i64 E, .slice sa M.steps.length sc] 31)
      have hw1z : w1.heap.size < (w1.alloc (.cells #[.slice (some ⟨b, o, none⟩) 1 ec, .int .i64 E, .slice sa M.steps.length sc] 31)).heap.size := by simp
      obtain ⟨c, hc⟩ : ∃ c, w1.heap.size = c := ⟨_, rfl⟩
      rw [hc] at z0 z1 hw1z ⊢
      clear hc x2 x2a
      generalize w1.alloc (.cells #[.slice (some ⟨b, o, none⟩) 1 ec, .int .i64 E, .slice sa M.steps.length sc] 31) = W1 at *
      go_region_held3 (fun w' => w'.cell? ⟨c, 0, none⟩ = some (.slice (some ⟨b, o, none⟩) 1 ec) ∧ w'.cell? ⟨c, 1, none⟩ = some (.int .i64 E) ∧ w'.cell? ⟨w.heap.size + 1, q, none⟩ = some (.int .i64 E) ∧ w'.cell? ⟨b, o, none⟩ = some (.int .i64 5) ∧ w'.cell? ⟨b, o + 1, none⟩ = some (.int .i64 0) ∧ w'.cell? ⟨b, o + 2, none⟩ = some (.int .i64 E) ∧ w'.cell? ⟨b, o + 3, none⟩ = some (.bool false))
        (first | exact ⟨z0, z1, x2b, y0, y1, y2, y3⟩ | exact ⟨cellB hb2 z0, cellB hb2 z1, cellB hb2 x2b, cellB hb2 y0, cellB hb2 y1, cellB hb2 y2, cellB hb2 y3⟩ | fail)
        (first | (go_at_call 14; with_reducible refine HAW.out.mono ?_; rintro e w2 ⟨rfl, hb2⟩) | fail)
      go_wp2
      go_ret
      exact ⟨rfl, bstep HBW.out.drew hb2⟩
theorem plainErrorsW (W : World) (a0 : Int) (b0 : -9223372036854775808 ≤ a0 ∧ a0 ≤ 9223372036854775807) (he : Env W) :
    Calls Tryz.prog 5 #[.int .i64 a0] W fun e w' => e = .returned (.bool true) ∧ Below W.heap.size W w' := plainErrors_any a0 W he.bl
end Go.Proofs.YtklfboidjnchoaaGreatDoor
