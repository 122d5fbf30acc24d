/-
  The walk over the reference's Write.
-/
import Derived.Test.YtoflhfiegfhkoaaDoorKRWr2
import Derived.Test.YtoflhfiegfhkoaaDoorKRShp
import Derived.Test.YtoflhfiegfhkoaaDoorKRefE
import Derived.Test.YtoflhfiegfhkoaaDoorKCmp
namespace Go.Proofs.YtoflhfiegfhkoaaDoor
open Go.RowKit Go.Proofs.YtoflhfiegfhkoaaDoorW.PrintWords
set_option linter.unusedVariables false
set_option linter.unusedSimpArgs false

theorem formW_at {k : Nat} {f : RForm} (h : rforms[k]? = some f) (x : InstrD) : formW x (rforms.drop k) = if (f.op : Int) = x.op then f.letter :: f.args.flatMap (argW x) else formW x (rforms.drop (k + 1)) := by
  obtain ⟨hk, hc⟩ := List.getElem?_eq_some_iff.1 h
  rw [List.drop_eq_getElem_cons hk, hc]
  rfl
theorem rforms_two : ∀ f ∈ rforms, f.args.length ≤ 2 := by decide
theorem rshaped_n {x : InstrD} (h21 : x.op ≠ 21) (h : rshaped x = true) : 0 ≤ x.n := by
  unfold rshaped at h
  rw [if_neg h21] at h
  obtain ⟨f, _, _, hs, _⟩ := rshF_some x rforms h
  rw [rsh_iff] at hs
  exact hs.1.2.2.1.1

set_option maxRecDepth 100000 in
set_option maxHeartbeats 12800000 in
theorem rwritten_other (op xa xb xn : Int) (cs : List CaseD) (A : Option Addr) (d : Nat) (w : World) (h21 : op ≠ 21) (hin : inI xn) :
    Calls Tryd.prog 46 #[instrV ⟨op, xa, xb, xn, cs⟩ (.slice A cs.length d)] w (WrPost w ⟨op, xa, xb, xn, cs⟩) := by
  simp only [instrV]
  have hE0 : rshaped ⟨op, xa, xb, xn, cs⟩ = true → 0 ≤ xn := fun h => rshaped_n (x := ⟨op, xa, xb, xn, cs⟩) h21 h
  have HE0 := hidP hE0
  have hrw : rW ⟨op, xa, xb, xn, cs⟩ = formW ⟨op, xa, xb, xn, cs⟩ rforms := by unfold rW; rw [if_neg h21]
  obtain ⟨E, hE⟩ : ∃ E, formW ⟨op, xa, xb, xn, cs⟩ rforms = E := ⟨_, rfl⟩
  have HRW := hidP (hrw.trans hE)
  have HE := hidP hE
  have HIN := hidP hin
  obtain ⟨n, hn⟩ : ∃ n, cs.length = n := ⟨_, rfl⟩
  rw [hn]
  have HN := hidP hn
  have t21 : (op == 21) = false := by simp [h21]
  have hb1 := bnew (brefl w) (.cells #[.int .i64 op, .int .i64 xa, .int .i64 xb, .int .i64 xn, .slice A n d] 37)
  have hn1 := blk_new w (.cells #[.int .i64 op, .int .i64 xa, .int .i64 xb, .int .i64 xn, .slice A n d] 37)
  clear hn hE hrw h21 hE0 hin
  go_enter Tryd.func46, Tryd.ntmps46
  go_upto_region 1 with fail
  generalize hw1 : w.alloc (.cells #[.int .i64 op, .int .i64 xa, .int .i64 xb, .int .i64 xn, .slice A n d] 37) = w1 at *
  clear hw1
  obtain ⟨x0, x1, x2, x3, x4⟩ := five_cells hn1
  go_wp2_with fail
  refine (forms_any _).mono ?_
  rintro e w2 ⟨fb, rfl, hrow, hb12⟩
  have hb2 := bstep hb1 hb12
  have HN2 := hidP (blk_below hn1 hb12)
  clear x0 x1 x2 x3 x4 hn1 hb1 hb12
  go_wp2_with fail
  go_loopw [7] (fun v7 wr => ∃ (k : Nat), v7 = .int .i64 k ∧ k ≤ 21 ∧ Hid (formW ⟨op, xa, xb, xn, cs⟩ (rforms.drop k) = E) ∧ Below w2.heap.size w2 wr) (fun v7 _ => 21 - (intOf v7).toNat)
  case atStart => exact ⟨0, rfl, by omega, HE.out, brefl _⟩
  case round =>
    obtain ⟨k, rfl, hk, HF, hb⟩ := hrel
    obtain ⟨w3, e3⟩ : ∃ w3, w3 = wr := ⟨_, rfl⟩
    subst e3
    have hb3 := bstep hb2 hb
    have HN3 := hidP (blk_below HN2.out hb)
    obtain ⟨x0, x1, x2, x3, x4⟩ := five_cells HN3.out
    by_cases hlt : k < 21
    · obtain ⟨f, hf⟩ : ∃ f, rforms[k]? = some f := ⟨_, List.getElem?_eq_getElem (show k < rforms.length from hlt)⟩
      have hok := (List.mem_of_getElem? hf)
      obtain ⟨c00, c01, c02⟩ := rform_at (hrow.below hb) k f hf
      have hst : E = if (f.op : Int) = op then f.letter :: f.args.flatMap (argW ⟨op, xa, xb, xn, cs⟩) else formW ⟨op, xa, xb, xn, cs⟩ (rforms.drop (k + 1)) := HF.out.symm.trans (formW_at hf _)
      have hlet := rforms_sign f hok
      clear hf HF
      obtain ⟨fo, fl, fa⟩ := f
      dsimp only at c00 c01 c02 hst hlet
      by_cases he : (fo : Int) = op
      · rw [if_pos he] at hst
        have t1 : ((fo : Int) != op) = false := by simp [he]
        have t1' : ((fo : Int) == op) = true := by simp [he]
        have HST := hidP hst
        have hfa := (rforms_ok2 _ hok).1
        have hfl := rforms_two _ hok
        dsimp only at hfa hfl
        have hfs := strA_size fa
        have HFA := hidP hfa
        obtain ⟨m, hm⟩ : ∃ m, fa.length = m := ⟨_, rfl⟩
        rw [hm] at hfs hfl
        have HM := hidP hm
        have lt1 : (k : Int) < 21 := by omega
        have hcells : ∀ (n : Nat), Below w.heap.size w (w3.drewN n) ∧ (w3.drewN n).heap[w.heap.size]? = _ ∧ RowAt (w3.drewN n) (some ⟨fb, 0, none⟩) (rforms.flatMap rformC) ∧ (w3.drewN n).cell? ⟨fb, k * 3 + 1, none⟩ = _ ∧ (w3.drewN n).cell? ⟨fb, k * 3 + 2, none⟩ = _ ∧ (w3.drewN n).heap.size = w3.heap.size := fun n => ⟨⟨hb3.os, hb3.tape, hb3.output, hb3.size, hb3.block⟩, HN3.out, (by have := hrow.below hb; exact this), c01, c02, rfl⟩
        clear hst hok hfa hm he
        go_upto_region 19 with fail
        go_quiet (fail)
        go_wp2_with fail
        obtain ⟨hB4, hn4, hrow4, d01, d02, hz4⟩ := hcells nq
        have HZ4 := hidP hz4
        clear hz4
        generalize w3.drewN nq = w4 at *
        clear x0 x1 x2 x3 x4 c00 c01 c02 hb hb3 HN3 hcells hrow HN2
        have hfl4 : fb < w4.heap.size := World.block_lt_of_cell? w4 _ d02
        have HR4 := hidP hrow4
        have hB5 := bnew hB4 (.cells #[.int .u8 fl] 5)
        have hn5 := blk_alloc hn4 (.cells #[.int .u8 fl] 5)
        have hcv := conv_one fl (by omega) w3.heap.size 1 (w4.alloc (.cells #[.int .u8 fl] 5)) (by rw [← HZ4.out]; go_simp)
        have d05 : (w4.alloc (.cells #[.int .u8 fl] 5)).cell? ⟨fb, k * 3 + 2, none⟩ = _ := pw_cell_below (bnew (brefl w4) _) d02
        go_upto_region 21 with fail
        generalize hw5 : w4.alloc (.cells #[.int .u8 fl] 5) = w5 at *
        clear hw5 d01 d02 hn4 hB4 hrow4 HR4
        rw [hcv]
        clear hcv
        go_wp2_with fail
        go_loopw [8, 9] (fun v8 v9 wr => ∃ (j : Nat) (T : List Nat), v8 = .string (strA T) ∧ v9 = .int .i64 j ∧ j ≤ m ∧ T.length ≤ 1 + 21 * j ∧ Hid (0 ≤ xn → T = fl :: (fa.take j).flatMap (argW ⟨op, xa, xb, xn, cs⟩)) ∧ Below w5.heap.size w5 wr) (fun _ v9 _ => m - (intOf v9).toNat)
        case atStart => exact ⟨0, [fl], rfl, rfl, by omega, by simp, fun _ => rfl, brefl _⟩
        case round =>
          obtain ⟨j, T, rfl, rfl, hj, hT, HT, hb6⟩ := hrel
          obtain ⟨w6, e6⟩ : ∃ w6, w6 = wr := ⟨_, rfl⟩
          subst e6
          have d06 := pw_cell_below hb6 d05
          have hn6 := blk_below hn5 hb6
          by_cases hjt : j < m
          · have hix := fun w => Tryd.idx_strA fa j (by rw [HM.out]; exact hjt) HFA.out w
            obtain ⟨C, hC⟩ : ∃ C, fa[j]? = some C := ⟨_, List.getElem?_eq_getElem (by rw [HM.out]; exact hjt)⟩
            have hCc : chr fa j = C := by unfold chr; rw [List.getD_eq_getElem?_getD, hC]; rfl
            have hC128 := HFA.out C (List.mem_of_getElem? hC)
            rw [hCc] at hix
            have lt2 : (j : Int) < (m : Int) := by omega
            have hnext : (T' D : List Nat) → T ++ D = T' → (0 ≤ xn → D = argW ⟨op, xa, xb, xn, cs⟩ C) → 0 ≤ xn → T' = fl :: (fa.take (j + 1)).flatMap (argW ⟨op, xa, xb, xn, cs⟩) := fun T' D h1 h2 h3 => by
              rw [List.take_add_one, hC, ← h1, HT.out h3, h2 h3]
              simp
            have HNX := hidP hnext
            obtain ⟨x0, x1, x2, x3, x4⟩ := five_cells hn6
            obtain ⟨TL, hTL⟩ : ∃ TL, T.length = TL := ⟨_, rfl⟩
            have hs0 := strA_size T
            rw [hTL] at hs0 hT
            have HTL := hidP hTL
            have hap := fun (t : List Nat) => strA_app T t
            clear hC hCc hnext HT hTL
            by_cases c97 : C = 97
            · have t97 : ((C : Int) == 97) = true := by simp; omega
              have HAW : Hid (argW ⟨op, xa, xb, xn, cs⟩ C = [letterN xa]) := by show _ = _; unfold argW; rw [if_pos c97]
              clear c97
              go_wp2_with fail
              refine (rletter_any xa _).mono ?_
              rintro e w7 ⟨rfl, hb7⟩
              obtain ⟨D, hD⟩ : ∃ D, [letterN xa] = D := ⟨_, rfl⟩
              have hDl : D.length ≤ 21 := by rw [← hD]; simp
              have HDD : Hid (0 ≤ xn → D = argW ⟨op, xa, xb, xn, cs⟩ C) := fun _ => by rw [HAW.out, hD]
              rw [hD]
              clear hD
              obtain ⟨T9, hT9⟩ : ∃ T9, T ++ D = T9 := ⟨_, rfl⟩
              have hap9 := hap D
              rw [hT9] at hap9
              have HT9 := hidP hT9
              obtain ⟨DL, hDL⟩ : ∃ DL, D.length = DL := ⟨_, rfl⟩
              have hsD := strA_size D
              rw [hDL] at hsD hDl
              have HDL := hidP hDL
              have hcc : ¬ (9223372036854775807 < TL + DL) := by omega
              clear hT9 hDL hap
              go_wp2_with fail
              go_roundw
              case rel =>
                refine ⟨j + 1, T9, rfl, by go_num, by omega, by rw [← HT9.out, List.length_append, HTL.out, HDL.out]; omega, ?_, bstep hb6 hb7⟩
                show 0 ≤ xn → _
                exact HNX.out T9 D HT9.out HDD.out
              case measure => simp [intOf]; omega
            · have t97 : ((C : Int) == 97) = false := by simp; omega
              by_cases c98 : C = 98
              · have t98 : ((C : Int) == 98) = true := by simp; omega
                have HAW : Hid (argW ⟨op, xa, xb, xn, cs⟩ C = [letterN xb]) := by show _ = _; unfold argW; rw [if_neg c97, if_pos c98]
                clear c97 c98
                go_wp2_with fail
                refine (rletter_any xb _).mono ?_
                rintro e w7 ⟨rfl, hb7⟩
                obtain ⟨D, hD⟩ : ∃ D, [letterN xb] = D := ⟨_, rfl⟩
                have hDl : D.length ≤ 21 := by rw [← hD]; simp
                have HDD : Hid (0 ≤ xn → D = argW ⟨op, xa, xb, xn, cs⟩ C) := fun _ => by rw [HAW.out, hD]
                rw [hD]
                clear hD
                obtain ⟨T9, hT9⟩ : ∃ T9, T ++ D = T9 := ⟨_, rfl⟩
                have hap9 := hap D
                rw [hT9] at hap9
                have HT9 := hidP hT9
                obtain ⟨DL, hDL⟩ : ∃ DL, D.length = DL := ⟨_, rfl⟩
                have hsD := strA_size D
                rw [hDL] at hsD hDl
                have HDL := hidP hDL
                have hcc : ¬ (9223372036854775807 < TL + DL) := by omega
                clear hT9 hDL hap
                go_wp2_with fail
                go_roundw
                case rel =>
                  refine ⟨j + 1, T9, rfl, by go_num, by omega, by rw [← HT9.out, List.length_append, HTL.out, HDL.out]; omega, ?_, bstep hb6 hb7⟩
                  show 0 ≤ xn → _
                  exact HNX.out T9 D HT9.out HDD.out
                case measure => simp [intOf]; omega
              · have t98 : ((C : Int) == 98) = false := by simp; omega
                have HAW : Hid (argW ⟨op, xa, xb, xn, cs⟩ C = decN xn.toNat) := by show _ = _; unfold argW; rw [if_neg c97, if_neg c98]
                clear c97 c98
                go_wp2_with fail
                refine (rdigits_any xn HIN.out _).mono ?_
                rintro e w7 ⟨D, rfl, hDl, hD, hb7⟩
                have HDD : Hid (0 ≤ xn → D = argW ⟨op, xa, xb, xn, cs⟩ C) := fun h => by rw [HAW.out, hD h]
                clear hD
                obtain ⟨T9, hT9⟩ : ∃ T9, T ++ D = T9 := ⟨_, rfl⟩
                have hap9 := hap D
                rw [hT9] at hap9
                have HT9 := hidP hT9
                obtain ⟨DL, hDL⟩ : ∃ DL, D.length = DL := ⟨_, rfl⟩
                have hsD := strA_size D
                rw [hDL] at hsD hDl
                have HDL := hidP hDL
                have hcc : ¬ (9223372036854775807 < TL + DL) := by omega
                clear hT9 hDL hap
                go_wp2_with fail
                go_roundw
                case rel =>
                  refine ⟨j + 1, T9, rfl, by go_num, by omega, by rw [← HT9.out, List.length_append, HTL.out, HDL.out]; omega, ?_, bstep hb6 hb7⟩
                  show 0 ≤ xn → _
                  exact HNX.out T9 D HT9.out HDD.out
                case measure => simp [intOf]; omega
          · have lt2 : ¬ (j : Int) < (m : Int) := by omega
            have hTE : rshaped ⟨op, xa, xb, xn, cs⟩ = true → T = rW ⟨op, xa, xb, xn, cs⟩ := fun h => by
              have h2 := HT.out (HE0.out h)
              rw [List.take_of_length_le (by rw [HM.out]; omega)] at h2
              rw [h2, HRW.out, HST.out]
            have HTE := hidP hTE
            clear hTE HT
            go_wp2
            go_ret
            exact ⟨T, rfl, by show T.length ≤ 24 * (cs.length + 2); omega, HTE.out, bstep hB5 hb6⟩
      · rw [if_neg he] at hst
        have t1 : ((fo : Int) != op) = true := by simp [he]
        have t1' : ((fo : Int) == op) = false := by simp [he]
        have HST := hidP hst.symm
        have hb5 : ∀ n, Below w2.heap.size w2 (w3.drewN n) := fun n => ⟨hb.os, hb.tape, hb.output, hb.size, hb.block⟩
        clear hst he hok
        go_wp2_with fail
        go_quiet (fail)
        go_wp2
        go_roundw
        case rel => exact ⟨k + 1, by go_num, by omega, HST.out, hb5 _⟩
        case measure => simp [intOf]; omega
    · have hE : E = [63] := by
        have := HF.out
        have hk21 : k = 21 := by omega
        rw [hk21] at this
        exact this.symm
      have HEE := hidP hE
      clear hE
      go_wp2
      go_ret
      exact ⟨[63], rfl, by show 1 ≤ 24 * (cs.length + 2); omega, fun _ => by rw [HRW.out, HEE.out], hb3⟩
theorem rwritten_any (x : InstrD) (A : Option Addr) (d : Nat) (w : World) (hc : kC.C w A x.cases.length x.cases) (hcl : x.cases.length ≤ 1000) (hi : instrIn x) :
    Calls Tryd.prog 46 #[instrV x (.slice A x.cases.length d)] w (WrPost w x) := by
  obtain ⟨op, xa, xb, xn, cs⟩ := x
  by_cases h : op = 21
  · subst h
    exact rwritten_choose xa xb xn cs A d w hc hcl hi.2.2.2.2
  · exact rwritten_other op xa xb xn cs A d w h hi.2.2.2.1

/-- May a program be written? -/
def okW (l : List InstrD) : Bool := l.all rshaped && decide (l.length ≤ 60) && decide ((textW l).length ≤ 2000)
/-- A program's text, or why there is none. -/
def writeR (l : List InstrD) : List Nat × Int := if l.length = 0 then ([], 7) else if okW l = true then (textW l, 0) else ([], 5)
theorem textW_app (a b : List InstrD) : textW (a ++ b) = textW a ++ textW b := by unfold textW joinW; rw [List.map_append, List.flatMap_append]
theorem textW_runes (l : List InstrD) : (runesF (strA (textW l)) 0).length = (textW l).length := by
  have hm := may_join (Ls := l.map rW) (fun L hL => by obtain ⟨x, _, rfl⟩ := List.mem_map.1 hL; exact (signs_rW x).1)
  rw [runes_len_ascii _ (mayL_ascii hm), strA_size]
/-- What was written so far, when the rest was not: is it the text? -/
theorem write_yes {l : List InstrD} {k : Nat} {T : List Nat} (hT : (∀ x ∈ l.take k, rshaped x = true) → T = textW (l.take k)) (hk : k = l.length ∨ 4000 < T.length) (h0 : l.length ≠ 0)
    (hD : (decodeR (strA T)).2.2 = 0) (he : l = (decodeR (strA T)).1) : writeR l = (T, 0) := by
  obtain ⟨h1, h2, _, h4⟩ := decode_shaped hD
  rw [← he] at h1 h2
  have hTT := hT (fun x hx => h1 x (List.mem_of_mem_take hx))
  rw [hTT, textW_runes] at h4
  have hkl : k = l.length := by
    rcases hk with hk | hk
    · exact hk
    · rw [hTT] at hk; omega
  have htl : l.take k = l := List.take_of_length_le (by omega)
  rw [htl] at hTT h4
  have hall : l.all rshaped = true := List.all_eq_true.2 h1
  unfold writeR okW
  rw [if_neg h0, hall, decide_eq_true h2, decide_eq_true h4, hTT]
  rfl
theorem write_no {l : List InstrD} {k : Nat} {T : List Nat} (hT : (∀ x ∈ l.take k, rshaped x = true) → T = textW (l.take k)) (hk : k = l.length ∨ 4000 < T.length) (h0 : l.length ≠ 0)
    (h : ¬ ((decodeR (strA T)).2.2 = 0 ∧ l = (decodeR (strA T)).1)) : writeR l = ([], 5) := by
  unfold writeR
  rw [if_neg h0, if_neg]
  intro hok
  apply h
  unfold okW at hok
  simp only [Bool.and_eq_true, decide_eq_true_eq, List.all_eq_true] at hok
  obtain ⟨⟨h1, h2⟩, h3⟩ := hok
  have hTT := hT (fun x hx => h1 x (List.mem_of_mem_take hx))
  have hle : (textW (l.take k)).length ≤ (textW l).length := by
    conv => rhs; rw [← List.take_append_drop k l, textW_app, List.length_append]
    omega
  have hkl : k = l.length := by
    rcases hk with hk | hk
    · exact hk
    · rw [hTT] at hk; omega
  have htl : l.take k = l := List.take_of_length_le (by omega)
  rw [htl] at hTT
  have hd := decode_text l h1
  rw [if_neg (by omega), if_neg h0, if_neg (by omega)] at hd
  rw [hTT, hd]
  exact ⟨rfl, rfl⟩
end Go.Proofs.YtoflhfiegfhkoaaDoor
namespace Go.Proofs.YtoflhfiegfhkoaaDoor
open Go.RowKit Go.Proofs.YtoflhfiegfhkoaaDoorW.PrintWords
set_option linter.unusedVariables false
set_option linter.unusedSimpArgs false

def WritePost (w : World) (R : List Nat × Int) (e : Ending) (w' : World) : Prop := e = .returned (.tuple #[.string (strA R.1), .int .i64 R.2]) ∧ Below w.heap.size w w'

set_option maxRecDepth 100000 in
set_option maxHeartbeats 6400000 in
theorem rwrite_any (A : Option Addr) (d : Nat) (l : List InstrD) (w : World) (h : kI.C w A l.length l) (hi : ∀ x ∈ l, instrIn x) (hcl : ∀ x ∈ l, x.cases.length ≤ 1000) (hl : l.length ≤ 1000000) :
    Calls Tryd.prog 27 #[.slice A l.length d] w (WritePost w (writeR l)) := by
  obtain ⟨R, hR⟩ : ∃ R, writeR l = R := ⟨_, rfl⟩
  rw [hR]
  have HR := hidP hR
  have H := hidP h
  have HI := hidP hi
  have HCL := hidP hcl
  obtain ⟨n, hn⟩ : ∃ n, l.length = n := ⟨_, rfl⟩
  rw [hn] at hl ⊢
  have HN := hidP hn
  clear hR h hi hcl hn
  by_cases h0 : n = 0
  · have hR : R = ([], 7) := by rw [← HR.out]; unfold writeR; rw [if_pos (by rw [HN.out]; exact h0)]
    have t0 : ((n : Int) == 0) = true := by simp [h0]
    subst hR
    clear h0
    go_enter Tryd.func27, Tryd.ntmps27
    go_wp2_with fail
    go_ret2
    exact ⟨rfl, brefl _⟩
  · have t0 : ((n : Int) == 0) = false := by simp; omega
    have H0 := hidP (show l.length ≠ 0 by rw [HN.out]; exact h0)
    go_enter Tryd.func27, Tryd.ntmps27
    go_wp2_with fail
    go_loopw [4, 5] (fun v4 v5 wr => ∃ (k : Nat) (T : List Nat), v4 = .string (strA T) ∧ v5 = .int .i64 k ∧ k ≤ n ∧ T.length ≤ 40000 ∧ Hid ((∀ x ∈ l.take k, rshaped x = true) → T = textW (l.take k)) ∧ Below w.heap.size w wr) (fun _ v5 _ => n - (intOf v5).toNat)
    case atStart => exact ⟨0, [], rfl, rfl, by omega, by simp, fun _ => rfl, brefl _⟩
    case round =>
      obtain ⟨k, T, rfl, rfl, hk, hT, HT, hb⟩ := hrel
      obtain ⟨w1, e1⟩ : ∃ w1, w1 = wr := ⟨_, rfl⟩
      subst e1
      obtain ⟨TL, hTL⟩ : ∃ TL, T.length = TL := ⟨_, rfl⟩
      have hs0 := strA_size T
      rw [hTL] at hs0 hT
      have HTL := hidP hTL
      clear hTL
      by_cases hkn : k < n
      · have lt1 : (k : Int) < (n : Int) := by omega
        by_cases h4 : TL ≤ 4000
        · have lt4 : (TL : Int) ≤ 4000 := by omega
          obtain ⟨x, hx⟩ : ∃ x, l[k]? = some x := ⟨_, List.getElem?_eq_getElem (by rw [HN.out]; exact hkn)⟩
          have hxm := List.mem_of_getElem? hx
          obtain ⟨b, o, A4, c4, rfl, x0, x1, x2, x3, x4, _, hxc⟩ := instr_at (Kd.C_below H.out hb) k x hx
          have hcal := rwritten_any x A4 c4 w1 hxc (HCL.out x hxm) (HI.out x hxm)
          have hcx := HCL.out x hxm
          have hnext : (t T' : List Nat) → (rshaped x = true → t = rW x) → T ++ t ++ [10] = T' → (∀ y ∈ l.take (k + 1), rshaped y = true) → T' = textW (l.take (k + 1)) := fun t T' h1 h2 h3 => by
            rw [List.take_add_one, hx] at h3 ⊢
            rw [← h2, HT.out (fun y hy => h3 y (List.mem_append_left _ hy)), h1 (h3 x (by simp)), textW_app]
            simp [textW, joinW]
          have HNX := hidP hnext
          obtain ⟨xo, xa, xb, xn, xc⟩ := x
          unfold WrPost at hcal
          simp only [instrV] at hcal
          dsimp only at x0 x1 x2 x3 x4 hcal hcx
          obtain ⟨m, hm⟩ : ∃ m, xc.length = m := ⟨_, rfl⟩
          rw [hm] at x4 hcal hcx
          have HCAL := hidP hcal
          clear hx hxm hxc hcal hnext hm HT
          go_wp2_with fail
          refine HCAL.out.mono ?_
          rintro e w2 ⟨t, rfl, htl, ht, hb2⟩
          have HTT := hidP ht
          obtain ⟨t2, ht2⟩ : ∃ t2, T ++ t = t2 := ⟨_, rfl⟩
          obtain ⟨t3, ht3⟩ : ∃ t3, t2 ++ [10] = t3 := ⟨_, rfl⟩
          have hap1 : strA T ++ strA t = strA t2 := ht2 ▸ strA_app T t
          have hap2 : strA t2 ++ ⟨#[10]⟩ = strA t3 := ht3 ▸ strA_app t2 [10]
          obtain ⟨tl, htl2⟩ : ∃ tl, t.length = tl := ⟨_, rfl⟩
          have hst := strA_size t
          have hs2 : (strA t2).size = TL + tl := by rw [strA_size, ← ht2, List.length_append, HTL.out, htl2]
          rw [htl2] at hst htl
          have HT2 := hidP ht2
          have HT3 := hidP ht3
          have HTL2 := hidP htl2
          have hcc1 : ¬ (9223372036854775807 < TL + tl) := by omega
          have hcc2 : ¬ (9223372036854775807 < TL + tl + 1) := by omega
          clear ht ht2 ht3 htl2
          go_wp2_with fail
          go_roundw
          case rel => exact ⟨k + 1, t3, rfl, by go_num, by omega, by rw [← HT3.out, ← HT2.out]; simp [HTL.out, HTL2.out]; omega, HNX.out t t3 HTT.out (by rw [HT2.out]; exact HT3.out), bstep hb hb2⟩
          case measure => simp [intOf]; omega
        · have lt4 : ¬ (TL : Int) ≤ 4000 := by omega
          have lt5 : decide ((TL : Int) ≤ 4000) = false := decide_eq_false lt4
          have HK := hidP (show k = l.length ∨ 4000 < T.length from .inr (by rw [HTL.out]; omega))
          have hdec := refDecode_any (strA T) w1 (by rw [hs0]; omega)
          have HY := hidP (fun hD he => write_yes (l := l) (k := k) (T := T) HT.out HK.out H0.out hD he)
          have HNO := hidP (fun hh => write_no (l := l) (k := k) (T := T) HT.out HK.out H0.out hh)
          obtain ⟨⟨D, dt, de⟩, hD⟩ : ∃ D, decodeR (strA T) = D := ⟨_, rfl⟩
          have HYD := hidP (show de = 0 → l = D → R = (T, 0) from fun h1 h2 => by rw [← HR.out]; exact HY.out (by rw [hD]; exact h1) (by rw [hD]; exact h2))
          have HND := hidP (show ¬ (de = 0 ∧ l = D) → R = ([], 5) from fun h1 => by rw [← HR.out]; exact HNO.out (by rw [hD]; exact h1))
          rw [hD] at hdec
          unfold DecPost at hdec
          dsimp only at hdec
          have HDEC := hidP hdec
          clear hdec hD HY HNO HT HK
          go_wp2_with fail
          refine HDEC.out.mono ?_
          rintro e w2 ⟨A2, c2, rfl, hv2, hb2⟩
          have hB2 := bstep hb hb2
          by_cases h1 : de = 0
          · have t1 : (de != 0) = false := by simp [h1]
            obtain ⟨A', c', hv, hle, hC⟩ := Kd.R_reads hv2
            cases hv
            have hins := instrs_any A A2 d c2 l D w2 (Kd.C_below H.out hB2) hC
            rw [HN.out] at hins
            obtain ⟨m, hm⟩ : ∃ m, D.length = m := ⟨_, rfl⟩
            rw [hm] at hins
            have HINS := hidP hins
            have H1 := hidP h1
            clear hv2 hC hle hins h1
            simp only [hm]
            clear hm
            obtain ⟨EQ, hEQ⟩ : ∃ EQ, decide (l = D) = EQ := ⟨_, rfl⟩
            have HIN2 := hidP (hEQ ▸ HINS.out)
            have HEQ := hidP hEQ
            clear hEQ HINS HDEC
            go_wp2_with fail
            refine HIN2.out.mono ?_
            rintro e w3 ⟨rfl, hb3⟩
            have hB3 := bstep hB2 hb3
            cases EQ
            · have hR : R = ([], 5) := HND.out (fun hh => by have := HEQ.out; rw [decide_eq_false_iff_not] at this; exact this hh.2)
              subst hR
              clear HYD HND
              go_wp2_with fail
              go_ret2
              exact ⟨rfl, hB3⟩
            · have hR : R = (T, 0) := HYD.out H1.out (of_decide_eq_true HEQ.out)
              subst hR
              clear HYD HND
              go_wp2_with fail
              go_ret2
              exact ⟨rfl, hB3⟩
          · have t1 : (de != 0) = true := by simp [h1]
            have hR : R = ([], 5) := HND.out (fun hh => h1 hh.1)
            subst hR
            clear HYD HND h1 hv2 HDEC
            go_wp2_with fail
            go_ret2
            exact ⟨rfl, hB2⟩
      · have lt1 : ¬ (k : Int) < (n : Int) := by omega
        have HK := hidP (show k = l.length ∨ 4000 < T.length from .inl (by rw [HN.out]; omega))
        have hdec := refDecode_any (strA T) w1 (by rw [hs0]; omega)
        have HY := hidP (fun hD he => write_yes (l := l) (k := k) (T := T) HT.out HK.out H0.out hD he)
        have HNO := hidP (fun hh => write_no (l := l) (k := k) (T := T) HT.out HK.out H0.out hh)
        obtain ⟨⟨D, dt, de⟩, hD⟩ : ∃ D, decodeR (strA T) = D := ⟨_, rfl⟩
        have HYD := hidP (show de = 0 → l = D → R = (T, 0) from fun h1 h2 => by rw [← HR.out]; exact HY.out (by rw [hD]; exact h1) (by rw [hD]; exact h2))
        have HND := hidP (show ¬ (de = 0 ∧ l = D) → R = ([], 5) from fun h1 => by rw [← HR.out]; exact HNO.out (by rw [hD]; exact h1))
        rw [hD] at hdec
        unfold DecPost at hdec
        dsimp only at hdec
        have HDEC := hidP hdec
        clear hdec hD HY HNO HT HK
        go_wp2_with fail
        refine HDEC.out.mono ?_
        rintro e w2 ⟨A2, c2, rfl, hv2, hb2⟩
        have hB2 := bstep hb hb2
        by_cases h1 : de = 0
        · have t1 : (de != 0) = false := by simp [h1]
          obtain ⟨A', c', hv, hle, hC⟩ := Kd.R_reads hv2
          cases hv
          have hins := instrs_any A A2 d c2 l D w2 (Kd.C_below H.out hB2) hC
          rw [HN.out] at hins
          obtain ⟨m, hm⟩ : ∃ m, D.length = m := ⟨_, rfl⟩
          rw [hm] at hins
          have HINS := hidP hins
          have H1 := hidP h1
          clear hv2 hC hle hins h1
          simp only [hm]
          clear hm
          obtain ⟨EQ, hEQ⟩ : ∃ EQ, decide (l = D) = EQ := ⟨_, rfl⟩
          have HIN2 := hidP (hEQ ▸ HINS.out)
          have HEQ := hidP hEQ
          clear hEQ HINS HDEC
          go_wp2_with fail
          refine HIN2.out.mono ?_
          rintro e w3 ⟨rfl, hb3⟩
          have hB3 := bstep hB2 hb3
          cases EQ
          · have hR : R = ([], 5) := HND.out (fun hh => by have := HEQ.out; rw [decide_eq_false_iff_not] at this; exact this hh.2)
            subst hR
            clear HYD HND
            go_wp2_with fail
            go_ret2
            exact ⟨rfl, hB3⟩
          · have hR : R = (T, 0) := HYD.out H1.out (of_decide_eq_true HEQ.out)
            subst hR
            clear HYD HND
            go_wp2_with fail
            go_ret2
            exact ⟨rfl, hB3⟩
        · have t1 : (de != 0) = true := by simp [h1]
          have hR : R = ([], 5) := HND.out (fun hh => h1 hh.1)
          subst hR
          clear HYD HND h1 hv2 HDEC
          go_wp2_with fail
          go_ret2
          exact ⟨rfl, hB2⟩
end Go.Proofs.YtoflhfiegfhkoaaDoor
