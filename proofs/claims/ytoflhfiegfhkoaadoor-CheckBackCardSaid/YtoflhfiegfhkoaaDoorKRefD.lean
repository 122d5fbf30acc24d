/-
  The walk over the reference's one.
-/
import Derived.Test.YtoflhfiegfhkoaaDoorKRefC
namespace Go.Proofs.YtoflhfiegfhkoaaDoor
open Go.RowKit Go.Proofs.YtoflhfiegfhkoaaDoorW.PrintWords
set_option linter.unusedVariables false

def formF (c : Nat) (L : List Nat) : List RForm → Option InstrD
  | [] => none
  | f :: r => if f.letter = c then (if (simpR f.op f.args L).2 = true then some (simpR f.op f.args L).1 else none) else formF c L r
/-- The reference's instruction of a line, or that it is none. -/
def oneR (L : List Nat) : Option InstrD := if chr L 0 = 83 then rchoiceR (L.drop 1) else formF (chr L 0) (L.drop 1) rforms
theorem rforms_ok : ∀ f ∈ rforms, f.letter < 256 ∧ f.op < 100 ∧ (∀ x ∈ f.args, x < 128) ∧ f.args.length ≤ 10 := by decide

set_option maxRecDepth 100000 in
set_option maxHeartbeats 3200000 in
theorem one_any (L : List Nat) (w : World) (h0 : 0 < L.length) (ha : ∀ x ∈ L, x < 128) (hL : L.length ≤ 1000000) :
    Calls Tryd.prog 38 #[.string (strA L)] w (OnePost w (oneR L)) := by
  obtain ⟨X, hX⟩ : ∃ X, oneR L = X := ⟨_, rfl⟩
  rw [hX]
  have HX := hidP hX
  unfold oneR at hX
  have hms := strA_size L
  obtain ⟨m, hm⟩ : ∃ m, L.length = m := ⟨_, rfl⟩
  rw [hm] at hms h0 hL
  have hlo := cut_lo L m 1 hm
  have hix0 := fun w => (show (Instr.index 9 (.string (strA L)) (.int .i64 0)).run Tryd.prog w = .ok (.int .u8 (chr L 0 : Int)) w from Tryd.idx_strA L 0 (by rw [hm]; exact h0) ha w)
  have hc := chr_lt ha 0
  have g0 : (0 : Int) < (m : Int) := by omega
  have g1 : (1 : Int) ≤ (m : Int) := by omega
  have hra := fun w => rchoice_any (L.drop 1) w (fun x hx => ha x (List.mem_of_mem_drop hx)) (by rw [List.length_drop]; omega)
  have hsm := fun (f : RForm) (hf : f ∈ rforms) w => simple_any f.op f.letter f.args (L.drop 1) w (rforms_ok f hf).2.2.1 (rforms_ok f hf).2.2.2 (fun x hx => ha x (List.mem_of_mem_drop hx)) (by rw [List.length_drop]; omega)
  obtain ⟨M, hM⟩ : ∃ M, L.drop 1 = M := ⟨_, rfl⟩
  rw [hM] at hlo hra hsm hX
  obtain ⟨c0, hc0⟩ : ∃ c0, chr L 0 = c0 := ⟨_, rfl⟩
  rw [hc0] at hix0 hc hX
  have HRA := hidP hra
  have HSM := hidP hsm
  clear hra hsm ha hm hc0 hM
  by_cases h83 : c0 = 83
  · rw [if_pos h83] at hX
    have hra := HRA.out
    rw [hX] at hra
    have HRA2 := hidP hra
    subst h83
    clear hX hra
    go_enter Tryd.func38, Tryd.ntmps38
    go_wp2_with fail
    refine (HRA2.out _).mono ?_
    rintro e w2 ⟨⟨xo, xa, xb, xn, xc⟩, v, rfl, hx, hv, hb2⟩
    simp only [instrV]
    obtain ⟨vA, vc, rfl⟩ := Kd.R_slice hv
    have hr2 := hidP (blk_below (blk_new w (.cells #[.int .i64 0, .int .i64 0, .int .i64 0, .int .i64 0, .slice none 0 0] 37)) hb2)
    have hB2 := bstep (bnew (brefl w) (.cells #[.int .i64 0, .int .i64 0, .int .i64 0, .int .i64 0, .slice none 0 0] 37)) hb2
    have HV := hidP hv
    have hl2 := blk_lt hr2.out
    have HXX := hidP hx
    clear hv hb2 hx
    obtain ⟨rc0, rc1, rc2, rc3, rc4⟩ := five_cells hr2.out
    have rf0 := blk_frozen hr2.out 0
    have rf1 := blk_frozen hr2.out 1
    have rf2 := blk_frozen hr2.out 2
    have rf3 := blk_frozen hr2.out 3
    have rf4 := blk_frozen hr2.out 4
    go_wp2
    have fb1 := five_set hr2.out (.int .i64 xo) (.int .i64 xa) (.int .i64 xb) (.int .i64 xn) (.slice vA xc.length vc)
    have fk1 := five_keep w2 w.heap.size (.int .i64 xo) (.int .i64 xa) (.int .i64 xb) (.int .i64 xn) (.slice vA xc.length vc)
    generalize ((((w2.setCell ⟨w.heap.size, 0, none⟩ (.int .i64 xo)).setCell ⟨w.heap.size, 1, none⟩ (.int .i64 xa)).setCell ⟨w.heap.size, 2, none⟩ (.int .i64 xb)).setCell ⟨w.heap.size, 3, none⟩ (.int .i64 xn)).setCell ⟨w.heap.size, 4, none⟩ (.slice vA xc.length vc) = w9 at *
    obtain ⟨v0, v1, v2, v3, v4⟩ := five_cells fb1
    refine bodyPost_ret (v := .tuple #[instrV ⟨xo, xa, xb, xn, xc⟩ (.slice vA xc.length vc), .bool X.isSome]) (by simp [results, instrV, Tryd.results38, go_sem, v0, v1, v2, v3, v4]) rfl ?_
    refine ⟨⟨xo, xa, xb, xn, xc⟩, .slice vA xc.length vc, rfl, HXX.out, ?_, Keep.belowS hB2 fk1 hB2.size (fun j h => by omega)⟩
    exact Kd.R_mono (Kd.R_lower (R_keepS HV.out fk1 (fun j hj => by show ¬ j = w.heap.size; simp at hj; omega)) (by simp)) (fun j hj => by simp at hj; omega)
  · rw [if_neg h83] at hX
    have t83 : ((c0 : Int) == 83) = false := by simp; omega
    have HX2 := hidP hX
    clear hX h83
    go_enter Tryd.func38, Tryd.ntmps38
    go_wp2_with fail
    refine (forms_any _).mono ?_
    rintro e w2 ⟨fb, rfl, hrow, hb2⟩
    have hr2 := hidP (blk_below (blk_new w (.cells #[.int .i64 0, .int .i64 0, .int .i64 0, .int .i64 0, .slice none 0 0] 37)) hb2)
    have hB2 := bstep (bnew (brefl w) (.cells #[.int .i64 0, .int .i64 0, .int .i64 0, .int .i64 0, .slice none 0 0] 37)) hb2
    clear hb2
    go_wp2_with fail
    go_loopw [5] (fun v5 wr => ∃ (k : Nat), v5 = .int .i64 k ∧ k ≤ 21 ∧ Hid (formF c0 M (rforms.drop k) = X) ∧ Below w2.heap.size w2 wr) (fun v5 _ => 21 - (intOf v5).toNat)
    case atStart => exact ⟨0, rfl, by omega, HX2.out, brefl _⟩
    case round =>
      obtain ⟨k, rfl, hk, HF, hb⟩ := hrel
      obtain ⟨w3, e3⟩ : ∃ w3, w3 = wr := ⟨_, rfl⟩
      subst e3
      by_cases hlt : k < 21
      · obtain ⟨f, hf⟩ : ∃ f, rforms[k]? = some f := ⟨_, List.getElem?_eq_getElem (show k < rforms.length from hlt)⟩
        have hfm := List.mem_of_getElem? hf
        obtain ⟨c00, c01, c02⟩ := rform_at (hrow.below hb) k f hf
        have hst : X = formF c0 M (f :: rforms.drop (k + 1)) := by
          rw [← HF.out]
          obtain ⟨hk2, hkf⟩ := List.getElem?_eq_some_iff.1 hf
          rw [List.drop_eq_getElem_cons hk2, hkf]
        simp only [formF] at hst
        have HFM := hidP hfm
        clear hf hfm
        obtain ⟨fo, fl, fa⟩ := f
        dsimp only at c00 c01 c02 hst
        by_cases he : fl = c0
        · rw [if_pos he] at hst
          have t1 : ((fl : Int) == (c0 : Int)) = true := by simp [he]
          have hs1 := fun w => HSM.out ⟨fo, fl, fa⟩ HFM.out w
          dsimp only at hs1
          obtain ⟨⟨⟨xo, xa, xb, xn, xc⟩, xok⟩, hS⟩ : ∃ S, simpR fo fa M = S := ⟨_, rfl⟩
          unfold LinePost at hs1
          rw [hS] at hst hs1
          simp only [instrV] at hs1
          have HS1 := hidP hs1
          have HST := hidP hst
          clear hs1 hS hst he
          go_wp2_with fail
          go_quiet (fail)
          go_wp2_with fail
          have hw4 : ∀ n, Below w.heap.size w (w3.drewN n) ∧ (w3.drewN n).heap[w.heap.size]? = _ ∧ (w3.drewN n).cell? ⟨fb, k * 3, none⟩ = _ ∧ (w3.drewN n).cell? ⟨fb, k * 3 + 1, none⟩ = _ ∧ (w3.drewN n).cell? ⟨fb, k * 3 + 2, none⟩ = _ := fun n => ⟨hB2.trans ⟨hb.os, hb.tape, hb.output, hb.size, fun i hi => hb.block i (by have := hB2.size; omega)⟩, blk_drewN (blk_below hr2.out hb) n, c00, c01, c02⟩
          obtain ⟨hB4, hr4, d00, d01, d02⟩ := hw4 nq
          generalize w3.drewN nq = w4 at *
          have HR4 := hidP hr4
          have hl4 := blk_lt hr4
          have hz4 := hB4.size
          clear c00 c01 c02 hw4 hr4
          go_region_with (go_at_call 61; refine (HS1.out _).mono ?_; rintro e w5 ⟨v, rfl, hv, hb5⟩; obtain ⟨vA, vc, rfl⟩ := Kd.R_slice hv; have hr5 := hidP (blk_below (blk_drew HR4.out) hb5); obtain ⟨rc0, rc1, rc2, rc3, rc4⟩ := five_cells hr5.out; have rf0 := blk_frozen hr5.out 0; have rf1 := blk_frozen hr5.out 1; have rf2 := blk_frozen hr5.out 2; have rf3 := blk_frozen hr5.out 3; have rf4 := blk_frozen hr5.out 4)
          all_goals
            go_wp2
            have fb1 := five_set hr5.out (.int .i64 xo) (.int .i64 xa) (.int .i64 xb) (.int .i64 xn) (.slice vA xc.length vc)
            have fk1 := five_keep w5 w.heap.size (.int .i64 xo) (.int .i64 xa) (.int .i64 xb) (.int .i64 xn) (.slice vA xc.length vc)
            generalize ((((w5.setCell ⟨w.heap.size, 0, none⟩ (.int .i64 xo)).setCell ⟨w.heap.size, 1, none⟩ (.int .i64 xa)).setCell ⟨w.heap.size, 2, none⟩ (.int .i64 xb)).setCell ⟨w.heap.size, 3, none⟩ (.int .i64 xn)).setCell ⟨w.heap.size, 4, none⟩ (.slice vA xc.length vc) = w9 at *
            obtain ⟨v0, v1, v2, v3, v4⟩ := five_cells fb1
            refine bodyPost_ret (v := .tuple #[instrV ⟨xo, xa, xb, xn, xc⟩ (.slice vA xc.length vc), .bool xok]) (by simp [results, instrV, Tryd.results38, go_sem, v0, v1, v2, v3, v4]) rfl ?_
            have hB5 : Below w.heap.size w w5 := hB4.trans (((brefl w4).drew.trans hb5).mono hz4)
            have hXs : X.isSome = xok := by rw [HST.out]; cases xok <;> rfl
            refine ⟨⟨xo, xa, xb, xn, xc⟩, .slice vA xc.length vc, by rw [hXs], fun y hy => ?_, ?_, Keep.belowS hB5 fk1 hB5.size (fun j h => by omega)⟩
            · rw [HST.out] at hy
              cases xok
              · simp at hy
              · simpa using hy
            · exact Kd.R_mono (Kd.R_lower (R_keepS hv fk1 (fun j hj => by show ¬ j = w.heap.size; have : w4.drew.heap.size = w4.heap.size := rfl; omega)) (by show w.heap.size ≤ w4.heap.size; omega)) (fun j hj => by have : w4.drew.heap.size = w4.heap.size := rfl; omega)
        · rw [if_neg he] at hst
          have t1 : ((fl : Int) == (c0 : Int)) = false := by simp; omega
          have HST := hidP hst.symm
          have hb5 : ∀ n, Below w2.heap.size w2 (w3.drewN n) := fun n => ⟨hb.os, hb.tape, hb.output, hb.size, hb.block⟩
          clear hst he
          go_wp2_with fail
          go_quiet (fail)
          go_wp2
          go_roundw
          case rel => exact ⟨k + 1, by go_num, by omega, HST.out, hb5 _⟩
          case measure => simp [intOf]; omega
      · have hX : X = none := by
          have := HF.out
          have hk21 : k = 21 := by omega
          rw [hk21] at this
          exact this.symm
        have HXN := hidP hX
        have hr4 := hidP (blk_below hr2.out hb)
        have hB4 : Below w.heap.size w w3 := hB2.trans ⟨hb.os, hb.tape, hb.output, hb.size, fun i hi => hb.block i (by have := hB2.size; omega)⟩
        obtain ⟨rc0, rc1, rc2, rc3, rc4⟩ := five_cells hr4.out
        have rf0 := blk_frozen hr4.out 0
        have rf1 := blk_frozen hr4.out 1
        have rf2 := blk_frozen hr4.out 2
        have rf3 := blk_frozen hr4.out 3
        have rf4 := blk_frozen hr4.out 4
        clear hX
        go_wp2
        have fb1 := five_set hr4.out (.int .i64 0) (.int .i64 0) (.int .i64 0) (.int .i64 0) (.slice none 0 0)
        have fk1 := five_keep w3 w.heap.size (.int .i64 0) (.int .i64 0) (.int .i64 0) (.int .i64 0) (.slice none 0 0)
        generalize ((((w3.setCell ⟨w.heap.size, 0, none⟩ (.int .i64 0)).setCell ⟨w.heap.size, 1, none⟩ (.int .i64 0)).setCell ⟨w.heap.size, 2, none⟩ (.int .i64 0)).setCell ⟨w.heap.size, 3, none⟩ (.int .i64 0)).setCell ⟨w.heap.size, 4, none⟩ (.slice none 0 0) = w9 at *
        obtain ⟨v0, v1, v2, v3, v4⟩ := five_cells fb1
        refine bodyPost_ret (v := .tuple #[instrV instrZ (.slice none 0 0), .bool false]) (by simp [results, instrV, instrZ, Tryd.results38, go_sem, v0, v1, v2, v3, v4]) rfl ?_
        exact ⟨instrZ, .slice none 0 0, by rw [HXN.out]; rfl, fun y h => (by rw [HXN.out] at h; cases h), Kd.R_nil _ _ _ _ _, Keep.belowS hB4 fk1 hB4.size (fun j h => by omega)⟩
end Go.Proofs.YtoflhfiegfhkoaaDoor
