/-
  The walk over package code's line.
-/
import Derived.Test.YtoflhfiegfhkoaaDoorKChoice
namespace Go.Proofs.YtoflhfiegfhkoaaDoor
open Go.RowKit Go.Proofs.YtoflhfiegfhkoaaDoorW.PrintWords
set_option linter.unusedVariables false

/-- A line's instruction, and whether it is one. -/
def lineR (L : List Nat) : InstrD × Bool :=
  if (findF (chr L 0) 0 formsL).2.2 = false then (instrZ, false)
  else if chr L 0 = 83 then (⟨(findF (chr L 0) 0 formsL).1, 0, 0, 0, (choiceR L (adv L 0)).getD []⟩, (choiceR L (adv L 0)).isSome)
  else (⟨(findF (chr L 0) 0 formsL).1, (fieldsR L (findF (chr L 0) 0 formsL).2.1 (adv L 0)).a, (fieldsR L (findF (chr L 0) 0 formsL).2.1 (adv L 0)).b, (fieldsR L (findF (chr L 0) 0 formsL).2.1 (adv L 0)).n, []⟩, (fieldsR L (findF (chr L 0) 0 formsL).2.1 (adv L 0)).ok && decide ((fieldsR L (findF (chr L 0) 0 formsL).2.1 (adv L 0)).q = L.length))
def LinePost (w : World) (X : InstrD × Bool) (e : Ending) (w' : World) : Prop :=
  ∃ v, e = .returned (.tuple #[instrV X.1 v, .bool X.2]) ∧ kC.R 39 w' w.heap.size (fun k => w.heap.size ≤ k) v X.1.cases ∧ Below w.heap.size w w'

theorem Tryd.slRune : SlT Tryd.prog 91 21 (.int .i32 0) 1 4 := ⟨Tryd.underlying91, by kernel_rfl, rfl, by decide⟩

set_option maxRecDepth 100000 in
set_option maxHeartbeats 3200000 in
theorem line_any (L : List Nat) (w : World) (ha : ∀ x ∈ L, x < 128) (hL : L.length ≤ 1000000) (hbl : Blanks w) :
    Calls Tryd.prog 36 #[.string (strA L)] w (LinePost w (lineR L)) := by
  have HA := hidP ha
  have hBL := hidP hbl
  have hsz := strA_size L
  obtain ⟨X, hX⟩ : ∃ X, lineR L = X := ⟨_, rfl⟩
  rw [hX]
  have HX := hidP hX
  clear ha hbl hX
  go_enter Tryd.func36, Tryd.ntmps36
  go_wp2_with fail
  have h0 : ∀ o1 o2, Below w.heap.size w (((w.alloc o1).alloc o2).iter (strA L) 0) ∧ (((w.alloc o1).alloc o2).iter (strA L) 0).heap[w.heap.size]? = some o1 ∧ (((w.alloc o1).alloc o2).iter (strA L) 0).heap[w.heap.size + 1]? = some o2 ∧ (((w.alloc o1).alloc o2).iter (strA L) 0).heap[w.heap.size + 2]? = some (.stringIter (strA L) 0) := fun o1 o2 => by
    refine ⟨bnew (bnew (bnew (brefl w) _) _) _, blk_alloc (blk_alloc (blk_new w _) _) _, blk_alloc (by simpa using blk_new (w.alloc o1) o2) _, ?_⟩
    have := World.iter_heap ((w.alloc o1).alloc o2) (strA L) 0
    simpa using this
  obtain ⟨hb0, hr0, hg0, hi0⟩ := h0 (.cells #[.int .i64 0, .int .i64 0, .int .i64 0, .int .i64 0, .slice none 0 0] 37) (.cells #[.slice none 0 0, .int .i64 0] 93)
  clear h0
  go_loopw [] (fun wr => ∃ (k : Nat) (A : Option Addr) (c : Nat), k ≤ L.length ∧ wr.heap[w.heap.size]? = some (.cells #[.int .i64 0, .int .i64 0, .int .i64 0, .int .i64 0, .slice none 0 0] 37 (0, 0)) ∧ wr.heap[w.heap.size + 1]? = some (.cells #[.slice A k c, .int .i64 0] 93 (0, 0)) ∧ wr.heap[w.heap.size + 2]? = some (.stringIter (strA L) k) ∧ wr.ownsRow w.heap.size 21 1 (.slice A k c) k ((L.take k).map fun (x : Nat) => Value.int .i32 (x : Int)) ∧ Below w.heap.size w wr) (fun wr => L.length - wr.iterPos (w.heap.size + 2))
  case atStart => exact ⟨0, none, 0, by omega, hr0, hg0, hi0, World.ownsRow_nil _ _ _ _, hb0⟩
  case round =>
    clear hr0 hg0 hi0 hb0
    obtain ⟨k, A, c, hk, hr, hg, hi, hown, hb⟩ := hrel
    obtain ⟨w1, e1⟩ : ∃ w1, w1 = wr := ⟨_, rfl⟩
    subst e1
    by_cases hlt : k < L.length
    · obtain ⟨w2, hnx, hit2, hk2⟩ := Tryd.next_strA hi hlt HA.out
      have hr2 := (hk2.block _ (blk_lt hr) (show ¬ w.heap.size = w.heap.size + 2 by omega)).trans hr
      have hg2 := (hk2.block _ (blk_lt hg) (show ¬ w.heap.size + 1 = w.heap.size + 2 by omega)).trans hg
      have hne : ∀ b, (Value.slice A k c).ownBlock = some b → ¬ b = w.heap.size + 2 := by
        intro b hb2 e
        subst e
        obtain ⟨cells, hc⟩ := own_typed hown _ hb2
        rw [hi] at hc
        cases hc
      have ho2 := owns_keep hown hk2 hne
      have hb2 : Below w.heap.size w w2 := hb.trans ⟨hk2.os, hk2.tape, hk2.output, hk2.size, fun i hi2 => hk2.block i (by have := hb.size; omega) (by show ¬ i = w.heap.size + 2; omega)⟩
      have g0 : w2.cell? ⟨w.heap.size + 1, 0, none⟩ = some _ := (blk_cell hg2 0).trans rfl
      have gf := blk_frozen hg2 0
      have hl1 := blk_lt hg2
      have hz2 := hb2.size
      have HNE := hidP (own_ne ho2 hg2 (by decide))
      have HNR := hidP (own_ne ho2 hr2 (by decide))
      have HIT := hidP hit2
      have HR := hidP hr2
      have HG := hidP hg2
      have HO := hidP ho2
      obtain ⟨C, hC⟩ : ∃ C, chr L k = C := ⟨_, rfl⟩
      rw [hC] at hnx
      have HC := hidP hC
      clear hr hg hown hit2 hr2 hg2 ho2 hC hne
      go_wp2_with (at_builtin; go_loud (refine (wpList_app _ rfl (.tmp 27) (.tmp 29) rfl Tryd.slRune w.heap.size (.slice A k c) k ((L.take k).map fun (x : Nat) => Value.int .i32 (x : Int)) rfl (HO.out.alloc _) _ 1 1 [.int .i32 C] rfl (k + 1) rfl (RowAt.new _ [.int .i32 C] _) rfl (by simp; rfl) (by omega) (by unfold maxLen; omega) (by simp; omega) ?_)); intro a4 c4 w4 ho4 hg4 hw4; have hG4 := hidP (blk_grown (blk_alloc HG.out _) hg4 HNE.out); have g4 : w4.cell? ⟨w.heap.size + 1, 0, none⟩ = some _ := (blk_cell hG4.out 0).trans rfl; have gf4 := blk_frozen hG4.out 0)
      have hne1 : some (w.heap.size + 1) ≠ (Value.slice a4 (k + 1) c4).ownBlock := own_ne ho4 hG4.out (by decide)
      have hk4 : Keep (fun k2 => w.heap.size ≤ k2 ∧ k2 ≠ w.heap.size ∧ k2 ≠ w.heap.size + 2) (w2.alloc (.cells #[.int .i32 C] 21)) w4 := .of_grown hg4 (fun k2 e => ⟨(HO.out.lt k2 e).1, fun e2 => HNR.out (by rw [← e2]; exact e.symm), fun e2 => by
        subst e2
        obtain ⟨cells, hc⟩ := own_typed HO.out _ e
        rw [HIT.out] at hc
        cases hc⟩)
      have hR4 := (hk4.block _ (blk_lt (blk_alloc HR.out _)) (by omega)).trans (blk_alloc HR.out (.cells #[.int .i32 C] 21))
      have hI4 := (hk4.block _ (blk_lt (blk_alloc HIT.out _)) (by omega)).trans (blk_alloc HIT.out (.cells #[.int .i32 C] 21))
      have hB4 : Below w.heap.size w w4 := (bnew hb2 _).grown hg4 (by have := hb2.size; simp; omega) (fun i hi => (HO.out.lt i hi).1)
      have hto : (L.take k).map (fun (x : Nat) => Value.int .i32 (x : Int)) ++ [Value.int .i32 (C : Int)] = (L.take (k + 1)).map (fun (x : Nat) => Value.int .i32 (x : Int)) := by
        have e : L[k]? = some C := by
          rw [← HC.out]
          unfold chr
          rw [List.getD_eq_getElem?_getD, List.getElem?_eq_getElem hlt]
          rfl
        rw [List.take_add_one, e, List.map_append]
        rfl
      rw [hto] at ho4
      have hI5 : (w4.setCell ⟨w.heap.size + 1, 0, none⟩ (.slice a4 (k + 1) c4)).heap[w.heap.size + 2]? = some (.stringIter (strA L) (k + 1)) := (Below.heap_setCell _ _ _ _ (by show w.heap.size + 2 ≠ w.heap.size + 1; omega)).trans hI4
      refine ⟨⟨k + 1, a4, c4, by omega, blk_far hR4 (by show w.heap.size ≠ w.heap.size + 1; omega) _, blk_set hG4.out 0 _, hI5, own_setCell ho4 hne1 _, hB4.setCell (by show w.heap.size ≤ w.heap.size + 1; omega) _⟩, ?_⟩
      have e1 : (w4.setCell ⟨w.heap.size + 1, 0, none⟩ (.slice a4 (k + 1) c4)).iterPos (w.heap.size + 2) = k + 1 := by unfold World.iterPos; rw [hI5]
      have e2 : w1.iterPos (w.heap.size + 2) = k := by unfold World.iterPos; rw [hi]
      omega
    · have hkl : k = L.length := by omega
      have hnx := fun ty => Lib.run_next_end_at (P := Tryd.prog) w1 (w.heap.size + 2) (strA L) k ty hi (by rw [hsz]; exact hlt)
      obtain ⟨A', c', hv, hrow, hle, hcm, _, _⟩ := owns_open hown
      cases hv
      have hRd : Rd w1 (w.heap.size + 1) A k c L 0 := by
        refine ⟨hg, by omega, ?_, fun b o e => ?_, hle, hcm, by omega, by omega, HA.out⟩
        · rw [hkl, List.take_length] at hrow
          exact hrow
        · intro e2
          subst e
          exact own_ne hown hg (by decide) (by rw [← e2]; rfl)
      have hr1 := hidP hr
      have HRD := hidP hRd
      have hK1 : Keep (fun k2 => w.heap.size ≤ k2) w w1 := .of_below hb
      have hl0 := blk_lt hr
      have hl1 := blk_lt hg
      have hlL := hRd.len
      have hnc := hRd.le
      have HLL := hidP hlL
      clear hr hg hi hown hrow hRd hb hlL hkl
      go_wp2_with fail
      clear hnx
      refine (next_any HRD.out).mono ?_
      rintro e w2 ⟨rfl, hR2, k2⟩
      have hr2 := hidP ((k2.block _ hl0 (show ¬ w.heap.size = w.heap.size + 1 by omega)).trans hr1.out)
      have hK2 : Keep (fun k2 => w.heap.size ≤ k2) w w2 := hK1.then k2 (fun i hi h => by omega)
      have hbl2 : Blanks w2 := (hBL.out.keepS hK1 (by have := hBL.out.lt; omega)).keepS k2 (by have := hBL.out.lt; show ¬ 0 = w.heap.size + 1; omega)
      have hfd := find_any forms_of (chr L 0) w2 hbl2
      have hfa := findF_asc (c := (chr L 0 : Int)) forms_of 0
      have hx := HX.out
      unfold lineR at hx
      obtain ⟨⟨fi, ff, fb⟩, hF⟩ : ∃ FF, findF (chr L 0) 0 formsL = FF := ⟨_, rfl⟩
      rw [hF] at hfd hfa hx
      have HFD := hidP hfd
      have HFA := hidP hfa
      have HX2 := hidP hx
      have HR2 := hidP hR2
      have HBL2 := hidP hbl2
      have hz2 := hK2.size
      have hzz2 := k2.size
      clear hfd hfa hx hF hR2 hbl2
      go_wp2_with fail
      refine HFD.out.mono ?_
      rintro e w3 ⟨rfl, hb3⟩
      have hr3 := hidP (blk_below hr2.out hb3)
      have hK3 := hK2.trans (.of_below hb3)
      have HR3 := hidP (HR2.out.keep hb3)
      have HBL3 := hidP (HBL2.out.below hb3)
      have hz3 := hb3.size
      cases fb
      · have hx := HX2.out
        rw [if_pos rfl] at hx
        obtain rfl := hx
        have rf0 := blk_frozen hr3.out 0
        have rf1 := blk_frozen hr3.out 1
        have rf2 := blk_frozen hr3.out 2
        have rf3 := blk_frozen hr3.out 3
        have rf4 := blk_frozen hr3.out 4
        have rc0 : w3.cell? ⟨w.heap.size, 0, none⟩ = some _ := (blk_cell hr3.out 0).trans rfl
        have rc1 : w3.cell? ⟨w.heap.size, 1, none⟩ = some _ := (blk_cell hr3.out 1).trans rfl
        have rc2 : w3.cell? ⟨w.heap.size, 2, none⟩ = some _ := (blk_cell hr3.out 2).trans rfl
        have rc3 : w3.cell? ⟨w.heap.size, 3, none⟩ = some _ := (blk_cell hr3.out 3).trans rfl
        have rc4 : w3.cell? ⟨w.heap.size, 4, none⟩ = some _ := (blk_cell hr3.out 4).trans rfl
        have fb : ∀ u0 u1 u2 u3 u4, (((((w3.setCell ⟨w.heap.size, 0, none⟩ u0).setCell ⟨w.heap.size, 1, none⟩ u1).setCell ⟨w.heap.size, 2, none⟩ u2).setCell ⟨w.heap.size, 3, none⟩ u3).setCell ⟨w.heap.size, 4, none⟩ u4).heap[w.heap.size]? = some (.cells #[u0, u1, u2, u3, u4] 37 (0, 0)) := fun u0 u1 u2 u3 u4 => (blk_set (blk_set (blk_set (blk_set (blk_set hr3.out 0 u0) 1 u1) 2 u2) 3 u3) 4 u4).trans rfl
        have fk : ∀ u0 u1 u2 u3 u4, Keep (· = w.heap.size) w3 (((((w3.setCell ⟨w.heap.size, 0, none⟩ u0).setCell ⟨w.heap.size, 1, none⟩ u1).setCell ⟨w.heap.size, 2, none⟩ u2).setCell ⟨w.heap.size, 3, none⟩ u3).setCell ⟨w.heap.size, 4, none⟩ u4) := fun u0 u1 u2 u3 u4 => (((((Keep.refl (· = w.heap.size) w3).setCell (p := ⟨w.heap.size, 0, none⟩) rfl _).setCell (p := ⟨w.heap.size, 1, none⟩) rfl _).setCell (p := ⟨w.heap.size, 2, none⟩) rfl _).setCell (p := ⟨w.heap.size, 3, none⟩) rfl _).setCell (p := ⟨w.heap.size, 4, none⟩) rfl _
        go_wp2_with fail
        have fb1 := fb (.int .i64 0) (.int .i64 0) (.int .i64 0) (.int .i64 0) (.slice none 0 0)
        have fk1 := fk (.int .i64 0) (.int .i64 0) (.int .i64 0) (.int .i64 0) (.slice none 0 0)
        generalize ((((w3.setCell ⟨w.heap.size, 0, none⟩ (.int .i64 0)).setCell ⟨w.heap.size, 1, none⟩ (.int .i64 0)).setCell ⟨w.heap.size, 2, none⟩ (.int .i64 0)).setCell ⟨w.heap.size, 3, none⟩ (.int .i64 0)).setCell ⟨w.heap.size, 4, none⟩ (.slice none 0 0) = w9 at *
        have v0 : w9.cell? ⟨w.heap.size, 0, none⟩ = some _ := (blk_cell fb1 0).trans rfl
        have v1 : w9.cell? ⟨w.heap.size, 1, none⟩ = some _ := (blk_cell fb1 1).trans rfl
        have v2 : w9.cell? ⟨w.heap.size, 2, none⟩ = some _ := (blk_cell fb1 2).trans rfl
        have v3 : w9.cell? ⟨w.heap.size, 3, none⟩ = some _ := (blk_cell fb1 3).trans rfl
        have v4 : w9.cell? ⟨w.heap.size, 4, none⟩ = some _ := (blk_cell fb1 4).trans rfl
        refine bodyPost_ret (v := .tuple #[instrV ⟨0, 0, 0, 0, []⟩ (.slice none 0 0), .bool false]) (by simp [results, instrV, Tryd.results36, go_sem, v0, v1, v2, v3, v4]) rfl ?_
        exact ⟨_, rfl, Kd.R_nil _ _ _ _ _, (hK3.then fk1 (fun i hi h => by omega)).below (Nat.le_refl _) (fun k h => h)⟩
      · have hx := HX2.out
        rw [if_neg (by simp)] at hx
        by_cases h83 : chr L 0 = 83
        · rw [if_pos h83] at hx
          have t1 : (((chr L 0 : Nat) : Int) == 83) = true := by simp [h83]
          have hch := choice_any HR3.out HBL3.out (by have := hBL.out.lt; omega)
          obtain ⟨Y, hY⟩ : ∃ Y, choiceR L (adv L 0) = Y := ⟨_, rfl⟩
          rw [hY] at hx hch
          have HX3 := hidP hx
          have HCH := hidP hch
          clear hx hch hY h83
          go_wp2_with fail
          refine HCH.out.mono ?_
          rintro e w4 ⟨v, q, rfl, hv4, _, k4⟩
          obtain ⟨vA, vc, rfl⟩ := Kd.R_slice hv4
          have hr4 := hidP ((k4.block _ (blk_lt hr3.out) (show ¬ w.heap.size = w.heap.size + 1 by omega)).trans hr3.out)
          have hK4 := hK3.then k4 (fun i hi h => by omega)
          have HV := hidP hv4
          obtain rfl := HX3.out
          clear hv4
          have rf0 := blk_frozen hr4.out 0
          have rf1 := blk_frozen hr4.out 1
          have rf2 := blk_frozen hr4.out 2
          have rf3 := blk_frozen hr4.out 3
          have rf4 := blk_frozen hr4.out 4
          have rc0 : w4.cell? ⟨w.heap.size, 0, none⟩ = some _ := (blk_cell hr4.out 0).trans rfl
          have rc1 : w4.cell? ⟨w.heap.size, 1, none⟩ = some _ := (blk_cell hr4.out 1).trans rfl
          have rc2 : w4.cell? ⟨w.heap.size, 2, none⟩ = some _ := (blk_cell hr4.out 2).trans rfl
          have rc3 : w4.cell? ⟨w.heap.size, 3, none⟩ = some _ := (blk_cell hr4.out 3).trans rfl
          have rc4 : w4.cell? ⟨w.heap.size, 4, none⟩ = some _ := (blk_cell hr4.out 4).trans rfl
          have fb : ∀ u0 u1 u2 u3 u4, (((((w4.setCell ⟨w.heap.size, 0, none⟩ u0).setCell ⟨w.heap.size, 1, none⟩ u1).setCell ⟨w.heap.size, 2, none⟩ u2).setCell ⟨w.heap.size, 3, none⟩ u3).setCell ⟨w.heap.size, 4, none⟩ u4).heap[w.heap.size]? = some (.cells #[u0, u1, u2, u3, u4] 37 (0, 0)) := fun u0 u1 u2 u3 u4 => (blk_set (blk_set (blk_set (blk_set (blk_set hr4.out 0 u0) 1 u1) 2 u2) 3 u3) 4 u4).trans rfl
          have fk : ∀ u0 u1 u2 u3 u4, Keep (· = w.heap.size) w4 (((((w4.setCell ⟨w.heap.size, 0, none⟩ u0).setCell ⟨w.heap.size, 1, none⟩ u1).setCell ⟨w.heap.size, 2, none⟩ u2).setCell ⟨w.heap.size, 3, none⟩ u3).setCell ⟨w.heap.size, 4, none⟩ u4) := fun u0 u1 u2 u3 u4 => (((((Keep.refl (· = w.heap.size) w4).setCell (p := ⟨w.heap.size, 0, none⟩) rfl _).setCell (p := ⟨w.heap.size, 1, none⟩) rfl _).setCell (p := ⟨w.heap.size, 2, none⟩) rfl _).setCell (p := ⟨w.heap.size, 3, none⟩) rfl _).setCell (p := ⟨w.heap.size, 4, none⟩) rfl _
          go_wp2_with fail
          have fb1 := fb (.int .i64 (fi : Int)) (.int .i64 0) (.int .i64 0) (.int .i64 0) (.slice vA (Y.getD []).length vc)
          have fk1 := fk (.int .i64 (fi : Int)) (.int .i64 0) (.int .i64 0) (.int .i64 0) (.slice vA (Y.getD []).length vc)
          generalize ((((w4.setCell ⟨w.heap.size, 0, none⟩ (.int .i64 (fi : Int))).setCell ⟨w.heap.size, 1, none⟩ (.int .i64 0)).setCell ⟨w.heap.size, 2, none⟩ (.int .i64 0)).setCell ⟨w.heap.size, 3, none⟩ (.int .i64 0)).setCell ⟨w.heap.size, 4, none⟩ (.slice vA (Y.getD []).length vc) = w9 at *
          have v0 : w9.cell? ⟨w.heap.size, 0, none⟩ = some _ := (blk_cell fb1 0).trans rfl
          have v1 : w9.cell? ⟨w.heap.size, 1, none⟩ = some _ := (blk_cell fb1 1).trans rfl
          have v2 : w9.cell? ⟨w.heap.size, 2, none⟩ = some _ := (blk_cell fb1 2).trans rfl
          have v3 : w9.cell? ⟨w.heap.size, 3, none⟩ = some _ := (blk_cell fb1 3).trans rfl
          have v4 : w9.cell? ⟨w.heap.size, 4, none⟩ = some _ := (blk_cell fb1 4).trans rfl
          refine bodyPost_ret (v := .tuple #[instrV ⟨(fi : Int), 0, 0, 0, Y.getD []⟩ (.slice vA (Y.getD []).length vc), .bool Y.isSome]) (by simp [results, instrV, Tryd.results36, go_sem, v0, v1, v2, v3, v4]) rfl ?_
          refine ⟨_, rfl, ?_, (hK4.then fk1 (fun i hi h => by omega)).below (Nat.le_refl _) (fun k h => h)⟩
          exact Kd.R_mono (Kd.R_lower (R_keepS HV.out fk1 (fun k hk => by show ¬ k = w.heap.size; omega)) (by omega)) (fun k hk => by omega)
        · rw [if_neg h83] at hx
          have t1 : (((chr L 0 : Nat) : Int) == 83) = false := by simp; omega
          have hfl := fields_any HR3.out ff HFA.out.1 HFA.out.2
          unfold FieldsPost at hfl
          obtain ⟨⟨sa, sb, sn, sok, sq⟩, hS⟩ : ∃ S, fieldsR L ff (adv L 0) = S := ⟨_, rfl⟩
          rw [hS] at hx hfl
          have HX3 := hidP hx
          have HFL := hidP hfl
          clear hx hfl hS h83
          go_wp2_with fail
          refine HFL.out.mono ?_
          rintro e w4 ⟨rfl, hR4, k4⟩
          have hr4 := hidP ((k4.block _ (blk_lt hr3.out) (show ¬ w.heap.size = w.heap.size + 1 by omega)).trans hr3.out)
          have hK4 := hK3.then k4 (fun i hi h => by omega)
          have hc0 : w4.cell? ⟨w.heap.size + 1, 0, none⟩ = some (.slice A k c) := blk_cell hR4.blk 0
          have hc1 : w4.cell? ⟨w.heap.size + 1, 1, none⟩ = some (.int .i64 sq) := blk_cell hR4.blk 1
          have hl4 := blk_lt hR4.blk
          have hpq := hR4.pn
          have HR4 := hidP hR4
          obtain rfl := HX3.out
          clear hR4
          go_wp2_with fail
          have hN := hidP (bnew (brefl w4) (.cells #[.int .i64 sa, .int .i64 sb, .int .i64 sn] 75))
          have hN4 := blk_new w4 (.cells #[.int .i64 sa, .int .i64 sb, .int .i64 sn] 75)
          generalize w4.alloc (.cells #[.int .i64 sa, .int .i64 sb, .int .i64 sn] 75) = w5 at *
          have pc0 : w5.cell? ⟨w4.heap.size, 0, none⟩ = some _ := (blk_cell hN4 0).trans rfl
          have pc1 : w5.cell? ⟨w4.heap.size, 1, none⟩ = some _ := (blk_cell hN4 1).trans rfl
          have pc2 : w5.cell? ⟨w4.heap.size, 2, none⟩ = some _ := (blk_cell hN4 2).trans rfl
          have hr5 := hidP (blk_below hr4.out hN.out)
          have hK5 := hK4.trans (.of_below hN.out)
          have hd0 : w5.cell? ⟨w.heap.size + 1, 0, none⟩ = some (.slice A k c) := (hN.out.cell (p := ⟨w.heap.size + 1, 0, none⟩) hl4).trans hc0
          have hd1 : w5.cell? ⟨w.heap.size + 1, 1, none⟩ = some (.int .i64 sq) := (hN.out.cell (p := ⟨w.heap.size + 1, 1, none⟩) hl4).trans hc1
          clear hc0 hc1
          have hK5' := hK5
          have hz5 := hN.out.size
          cases sok
          · have hEB : (false && decide (sq = L.length)) = false := rfl
            have HEB := hidP hEB
            have hr6 := hr5
            have rf0 := blk_frozen hr6.out 0
            have rf1 := blk_frozen hr6.out 1
            have rf2 := blk_frozen hr6.out 2
            have rf3 := blk_frozen hr6.out 3
            have rf4 := blk_frozen hr6.out 4
            have rc0 : w5.cell? ⟨w.heap.size, 0, none⟩ = some _ := (blk_cell hr6.out 0).trans rfl
            have rc1 : w5.cell? ⟨w.heap.size, 1, none⟩ = some _ := (blk_cell hr6.out 1).trans rfl
            have rc2 : w5.cell? ⟨w.heap.size, 2, none⟩ = some _ := (blk_cell hr6.out 2).trans rfl
            have rc3 : w5.cell? ⟨w.heap.size, 3, none⟩ = some _ := (blk_cell hr6.out 3).trans rfl
            have rc4 : w5.cell? ⟨w.heap.size, 4, none⟩ = some _ := (blk_cell hr6.out 4).trans rfl
            have fb : ∀ u0 u1 u2 u3 u4, (((((w5.setCell ⟨w.heap.size, 0, none⟩ u0).setCell ⟨w.heap.size, 1, none⟩ u1).setCell ⟨w.heap.size, 2, none⟩ u2).setCell ⟨w.heap.size, 3, none⟩ u3).setCell ⟨w.heap.size, 4, none⟩ u4).heap[w.heap.size]? = some (.cells #[u0, u1, u2, u3, u4] 37 (0, 0)) := fun u0 u1 u2 u3 u4 => (blk_set (blk_set (blk_set (blk_set (blk_set hr6.out 0 u0) 1 u1) 2 u2) 3 u3) 4 u4).trans rfl
            have fk : ∀ u0 u1 u2 u3 u4, Keep (· = w.heap.size) w5 (((((w5.setCell ⟨w.heap.size, 0, none⟩ u0).setCell ⟨w.heap.size, 1, none⟩ u1).setCell ⟨w.heap.size, 2, none⟩ u2).setCell ⟨w.heap.size, 3, none⟩ u3).setCell ⟨w.heap.size, 4, none⟩ u4) := fun u0 u1 u2 u3 u4 => (((((Keep.refl (· = w.heap.size) w5).setCell (p := ⟨w.heap.size, 0, none⟩) rfl _).setCell (p := ⟨w.heap.size, 1, none⟩) rfl _).setCell (p := ⟨w.heap.size, 2, none⟩) rfl _).setCell (p := ⟨w.heap.size, 3, none⟩) rfl _).setCell (p := ⟨w.heap.size, 4, none⟩) rfl _
            clear hEB
            go_region
            go_wp2
            have fb1 := fb (.int .i64 (fi : Int)) (.int .i64 sa) (.int .i64 sb) (.int .i64 sn) (.slice none 0 0)
            have fk1 := fk (.int .i64 (fi : Int)) (.int .i64 sa) (.int .i64 sb) (.int .i64 sn) (.slice none 0 0)
            generalize ((((w5.setCell ⟨w.heap.size, 0, none⟩ (.int .i64 (fi : Int))).setCell ⟨w.heap.size, 1, none⟩ (.int .i64 sa)).setCell ⟨w.heap.size, 2, none⟩ (.int .i64 sb)).setCell ⟨w.heap.size, 3, none⟩ (.int .i64 sn)).setCell ⟨w.heap.size, 4, none⟩ (.slice none 0 0) = w9 at *
            have v0 : w9.cell? ⟨w.heap.size, 0, none⟩ = some _ := (blk_cell fb1 0).trans rfl
            have v1 : w9.cell? ⟨w.heap.size, 1, none⟩ = some _ := (blk_cell fb1 1).trans rfl
            have v2 : w9.cell? ⟨w.heap.size, 2, none⟩ = some _ := (blk_cell fb1 2).trans rfl
            have v3 : w9.cell? ⟨w.heap.size, 3, none⟩ = some _ := (blk_cell fb1 3).trans rfl
            have v4 : w9.cell? ⟨w.heap.size, 4, none⟩ = some _ := (blk_cell fb1 4).trans rfl
            refine bodyPost_ret (v := .tuple #[instrV ⟨(fi : Int), sa, sb, sn, []⟩ (.slice none 0 0), .bool false]) (by simp [results, instrV, Tryd.results36, go_sem, v0, v1, v2, v3, v4]) rfl ?_
            rw [HEB.out]
            exact ⟨_, rfl, Kd.R_nil _ _ _ _ _, ((hK5.then fk1 (fun i hi h => by omega)).drew).below (Nat.le_refl _) (fun k h => h)⟩
          · by_cases hq : sq = k
            · obtain rfl : sq = k := hq
              have hEB : (true && decide (sq = L.length)) = true := by rw [HLL.out]; simp
              have HEB := hidP hEB
              have hr6 := hr5
              have rf0 := blk_frozen hr6.out 0
              have rf1 := blk_frozen hr6.out 1
              have rf2 := blk_frozen hr6.out 2
              have rf3 := blk_frozen hr6.out 3
              have rf4 := blk_frozen hr6.out 4
              have rc0 : w5.cell? ⟨w.heap.size, 0, none⟩ = some _ := (blk_cell hr6.out 0).trans rfl
              have rc1 : w5.cell? ⟨w.heap.size, 1, none⟩ = some _ := (blk_cell hr6.out 1).trans rfl
              have rc2 : w5.cell? ⟨w.heap.size, 2, none⟩ = some _ := (blk_cell hr6.out 2).trans rfl
              have rc3 : w5.cell? ⟨w.heap.size, 3, none⟩ = some _ := (blk_cell hr6.out 3).trans rfl
              have rc4 : w5.cell? ⟨w.heap.size, 4, none⟩ = some _ := (blk_cell hr6.out 4).trans rfl
              have fb : ∀ u0 u1 u2 u3 u4, (((((w5.setCell ⟨w.heap.size, 0, none⟩ u0).setCell ⟨w.heap.size, 1, none⟩ u1).setCell ⟨w.heap.size, 2, none⟩ u2).setCell ⟨w.heap.size, 3, none⟩ u3).setCell ⟨w.heap.size, 4, none⟩ u4).heap[w.heap.size]? = some (.cells #[u0, u1, u2, u3, u4] 37 (0, 0)) := fun u0 u1 u2 u3 u4 => (blk_set (blk_set (blk_set (blk_set (blk_set hr6.out 0 u0) 1 u1) 2 u2) 3 u3) 4 u4).trans rfl
              have fk : ∀ u0 u1 u2 u3 u4, Keep (· = w.heap.size) w5 (((((w5.setCell ⟨w.heap.size, 0, none⟩ u0).setCell ⟨w.heap.size, 1, none⟩ u1).setCell ⟨w.heap.size, 2, none⟩ u2).setCell ⟨w.heap.size, 3, none⟩ u3).setCell ⟨w.heap.size, 4, none⟩ u4) := fun u0 u1 u2 u3 u4 => (((((Keep.refl (· = w.heap.size) w5).setCell (p := ⟨w.heap.size, 0, none⟩) rfl _).setCell (p := ⟨w.heap.size, 1, none⟩) rfl _).setCell (p := ⟨w.heap.size, 2, none⟩) rfl _).setCell (p := ⟨w.heap.size, 3, none⟩) rfl _).setCell (p := ⟨w.heap.size, 4, none⟩) rfl _
              clear hEB
              go_region
              go_wp2
              have fb1 := fb (.int .i64 (fi : Int)) (.int .i64 sa) (.int .i64 sb) (.int .i64 sn) (.slice none 0 0)
              have fk1 := fk (.int .i64 (fi : Int)) (.int .i64 sa) (.int .i64 sb) (.int .i64 sn) (.slice none 0 0)
              generalize ((((w5.setCell ⟨w.heap.size, 0, none⟩ (.int .i64 (fi : Int))).setCell ⟨w.heap.size, 1, none⟩ (.int .i64 sa)).setCell ⟨w.heap.size, 2, none⟩ (.int .i64 sb)).setCell ⟨w.heap.size, 3, none⟩ (.int .i64 sn)).setCell ⟨w.heap.size, 4, none⟩ (.slice none 0 0) = w9 at *
              have v0 : w9.cell? ⟨w.heap.size, 0, none⟩ = some _ := (blk_cell fb1 0).trans rfl
              have v1 : w9.cell? ⟨w.heap.size, 1, none⟩ = some _ := (blk_cell fb1 1).trans rfl
              have v2 : w9.cell? ⟨w.heap.size, 2, none⟩ = some _ := (blk_cell fb1 2).trans rfl
              have v3 : w9.cell? ⟨w.heap.size, 3, none⟩ = some _ := (blk_cell fb1 3).trans rfl
              have v4 : w9.cell? ⟨w.heap.size, 4, none⟩ = some _ := (blk_cell fb1 4).trans rfl
              refine bodyPost_ret (v := .tuple #[instrV ⟨(fi : Int), sa, sb, sn, []⟩ (.slice none 0 0), .bool true]) (by simp [results, instrV, Tryd.results36, go_sem, v0, v1, v2, v3, v4]) rfl ?_
              rw [HEB.out]
              exact ⟨_, rfl, Kd.R_nil _ _ _ _ _, ((hK5.then fk1 (fun i hi h => by omega)).drew).below (Nat.le_refl _) (fun k h => h)⟩
            · have t2 : ((sq : Int) == (k : Int)) = false := by simp; omega
              have hEB : (true && decide (sq = L.length)) = false := by rw [HLL.out]; simp [hq]
              clear hq
              have HEB := hidP hEB
              have hr6 := hr5
              have rf0 := blk_frozen hr6.out 0
              have rf1 := blk_frozen hr6.out 1
              have rf2 := blk_frozen hr6.out 2
              have rf3 := blk_frozen hr6.out 3
              have rf4 := blk_frozen hr6.out 4
              have rc0 : w5.cell? ⟨w.heap.size, 0, none⟩ = some _ := (blk_cell hr6.out 0).trans rfl
              have rc1 : w5.cell? ⟨w.heap.size, 1, none⟩ = some _ := (blk_cell hr6.out 1).trans rfl
              have rc2 : w5.cell? ⟨w.heap.size, 2, none⟩ = some _ := (blk_cell hr6.out 2).trans rfl
              have rc3 : w5.cell? ⟨w.heap.size, 3, none⟩ = some _ := (blk_cell hr6.out 3).trans rfl
              have rc4 : w5.cell? ⟨w.heap.size, 4, none⟩ = some _ := (blk_cell hr6.out 4).trans rfl
              have fb : ∀ u0 u1 u2 u3 u4, (((((w5.setCell ⟨w.heap.size, 0, none⟩ u0).setCell ⟨w.heap.size, 1, none⟩ u1).setCell ⟨w.heap.size, 2, none⟩ u2).setCell ⟨w.heap.size, 3, none⟩ u3).setCell ⟨w.heap.size, 4, none⟩ u4).heap[w.heap.size]? = some (.cells #[u0, u1, u2, u3, u4] 37 (0, 0)) := fun u0 u1 u2 u3 u4 => (blk_set (blk_set (blk_set (blk_set (blk_set hr6.out 0 u0) 1 u1) 2 u2) 3 u3) 4 u4).trans rfl
              have fk : ∀ u0 u1 u2 u3 u4, Keep (· = w.heap.size) w5 (((((w5.setCell ⟨w.heap.size, 0, none⟩ u0).setCell ⟨w.heap.size, 1, none⟩ u1).setCell ⟨w.heap.size, 2, none⟩ u2).setCell ⟨w.heap.size, 3, none⟩ u3).setCell ⟨w.heap.size, 4, none⟩ u4) := fun u0 u1 u2 u3 u4 => (((((Keep.refl (· = w.heap.size) w5).setCell (p := ⟨w.heap.size, 0, none⟩) rfl _).setCell (p := ⟨w.heap.size, 1, none⟩) rfl _).setCell (p := ⟨w.heap.size, 2, none⟩) rfl _).setCell (p := ⟨w.heap.size, 3, none⟩) rfl _).setCell (p := ⟨w.heap.size, 4, none⟩) rfl _
              clear hEB
              go_region
              go_wp2
              have fb1 := fb (.int .i64 (fi : Int)) (.int .i64 sa) (.int .i64 sb) (.int .i64 sn) (.slice none 0 0)
              have fk1 := fk (.int .i64 (fi : Int)) (.int .i64 sa) (.int .i64 sb) (.int .i64 sn) (.slice none 0 0)
              generalize ((((w5.setCell ⟨w.heap.size, 0, none⟩ (.int .i64 (fi : Int))).setCell ⟨w.heap.size, 1, none⟩ (.int .i64 sa)).setCell ⟨w.heap.size, 2, none⟩ (.int .i64 sb)).setCell ⟨w.heap.size, 3, none⟩ (.int .i64 sn)).setCell ⟨w.heap.size, 4, none⟩ (.slice none 0 0) = w9 at *
              have v0 : w9.cell? ⟨w.heap.size, 0, none⟩ = some _ := (blk_cell fb1 0).trans rfl
              have v1 : w9.cell? ⟨w.heap.size, 1, none⟩ = some _ := (blk_cell fb1 1).trans rfl
              have v2 : w9.cell? ⟨w.heap.size, 2, none⟩ = some _ := (blk_cell fb1 2).trans rfl
              have v3 : w9.cell? ⟨w.heap.size, 3, none⟩ = some _ := (blk_cell fb1 3).trans rfl
              have v4 : w9.cell? ⟨w.heap.size, 4, none⟩ = some _ := (blk_cell fb1 4).trans rfl
              refine bodyPost_ret (v := .tuple #[instrV ⟨(fi : Int), sa, sb, sn, []⟩ (.slice none 0 0), .bool false]) (by simp [results, instrV, Tryd.results36, go_sem, v0, v1, v2, v3, v4]) rfl ?_
              rw [HEB.out]
              exact ⟨_, rfl, Kd.R_nil _ _ _ _ _, ((hK5.then fk1 (fun i hi h => by omega)).drew).below (Nat.le_refl _) (fun k h => h)⟩
end Go.Proofs.YtoflhfiegfhkoaaDoor
