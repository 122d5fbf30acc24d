/-
  The walk over the reference's Decode.
-/
import Derived.Test.YtoflhfiegfhkoaaDoorKTwo
import Derived.Test.YtoflhfiegfhkoaaDoorXRefL
namespace Go.Proofs.YtoflhfiegfhkoaaDoor
open Go.RowKit Go.Proofs.YtoflhfiegfhkoaaDoorW.PrintWords
set_option linter.unusedVariables false

def decS (k : Nat) (acc : List InstrD) (l : List (List Nat)) : Option InstrD → List InstrD × Int × Int
  | some y => decF (k + 1) (acc ++ [y]) l
  | none => ([], (k : Int) + 1, 5)

set_option maxRecDepth 100000 in
set_option maxHeartbeats 3200000 in
theorem refDecode_any (s : ByteArray) (w : World) (hs : s.size ≤ 1000000) : Calls Tryd.prog 25 #[.string s] w (DecPost w (decodeR s)) := by
  have hl := refLines_any s w hs
  obtain ⟨hok, h60⟩ := lines_ok s
  obtain ⟨D, hD⟩ : ∃ D, decodeR s = D := ⟨_, rfl⟩
  rw [hD]
  have hd := hD.symm
  unfold decodeR at hd
  obtain ⟨⟨W, E⟩, hW⟩ : ∃ W, linesR s = W := ⟨_, rfl⟩
  rw [hW] at hl hok h60 hd
  dsimp only at hl hok h60 hd
  have HD := hidP hd
  have HOK := hidP hok
  obtain ⟨N, hN⟩ : ∃ N, W.length = N := ⟨_, rfl⟩
  rw [hN] at h60
  have HN := hidP hN
  unfold LinesPost at hl
  rw [hN] at hl
  have HL := hidP hl
  clear hd hD hW hok hN hl
  go_enter Tryd.func25, Tryd.ntmps25
  go_wp2_with fail
  refine HL.out.mono ?_
  rintro e w1 ⟨a1, c1, rfl, ho1, hb1⟩
  have hrow := owns_row ho1
  have hz1 := hb1.size
  clear ho1
  by_cases hE : E = 0
  · have hd := HD.out
    rw [if_neg (by simp [hE])] at hd
    have HD2 := hidP hd
    have t0 : (E != 0) = false := by simp [hE]
    clear hd hE
    go_wp2_with fail
    go_loopw [7, 8] (fun v7 v22 wr => ∃ (k : Nat) (acc : List InstrD) (A : Option Addr) (c : Nat), v7 = .slice A k c ∧ v22 = .int .i64 k ∧ k ≤ N ∧ Hid (acc.length = k) ∧ Hid (decF k acc ((W.map bytesN).drop k) = D) ∧ Hid (kI.R 37 wr w1.heap.size (fun k => w1.heap.size ≤ k) (.slice A k c) acc) ∧ Below w1.heap.size w1 wr) (fun _ v22 _ => N - (intOf v22).toNat)
    case atStart => exact ⟨0, [], none, 0, rfl, rfl, by omega, rfl, HD2.out.symm, Kd.R_nil _ _ _ _ _, brefl _⟩
    case round =>
      obtain ⟨k, acc, A, c, rfl, rfl, hk, HAC, HF, HR, hb⟩ := hrel
      obtain ⟨w2, e2⟩ : ∃ w2, w2 = wr := ⟨_, rfl⟩
      subst e2
      by_cases hlt : k < N
      · obtain ⟨x, hx⟩ : ∃ x, W[k]? = some x := ⟨_, List.getElem?_eq_getElem (by rw [HN.out]; exact hlt)⟩
        have cx : ∃ b o, a1 = some ⟨b, o, none⟩ ∧ w2.cell? ⟨b, o + k, none⟩ = some (.string x) := by
          obtain ⟨b, o, e, hc⟩ := (hrow.below hb).addr (by rw [List.length_map, HN.out]; omega)
          exact ⟨b, o, e, hc k _ (by rw [List.getElem?_map, hx]; rfl)⟩
        obtain ⟨b, o, rfl, cx⟩ := cx
        have hxo := HOK.out x (List.mem_of_getElem? hx)
        have hxs := strA_bytesN x
        obtain ⟨L, hL⟩ : ∃ L, bytesN x = L := ⟨_, rfl⟩
        rw [hL] at hxo hxs
        have hml : (W.map bytesN)[k]? = some L := by rw [List.getElem?_map, hx, ← hL]; rfl
        rw [← hxs] at cx
        have hln := one_any L w2 hxo.1 hxo.asc (by have := hxo.2.1; omega)
        have hone := line_one L hxo
        have hz2 := hb.size
        have HLN := hidP hln
        have HML := hidP hml
        obtain ⟨X, hX⟩ : ∃ X, oneR L = X := ⟨_, rfl⟩
        have hstep : D = decS k acc ((W.map bytesN).drop (k + 1)) X := by
          rw [← hX, ← hone]
          unfold lineV
          cases hb : (lineR L).2
          · rw [if_neg (by simp), ← HF.out]; exact decF_no hml hb
          · rw [if_pos rfl, ← HF.out, decF_yes hml hb]; rfl
        have HST := hidP hstep
        unfold OnePost at hln
        rw [hX] at hln
        have HLN := hidP hln
        clear hln hml hx hxs hL hxo hX hstep hone
        go_wp2_with fail
        refine HLN.out.mono ?_
        rintro e w3 ⟨⟨xo, xa, xb, xn, xc⟩, v, rfl, hxy, hv, hb3⟩
        obtain ⟨vA, vc, rfl⟩ := Kd.R_slice hv
        simp only [instrV]
        have HXY := hidP hxy
        have hB3 := bstep hb hb3
        have HV := hidP hv
        have HR3 := hidP (Kd.R_below HR.out hb3)
        have hz3 := hb3.size
        clear hv hxy
        cases X with
        | none =>
          have hd : D = ([], (k : Int) + 1, 5) := HST.out
          have HDD := hidP hd
          clear hd
          go_wp2_with fail
          go_ret3
          rw [HDD.out]
          exact ⟨none, 0, rfl, Kd.R_nil _ _ _ _ _, (hb1.trans (hB3.mono hz1)).alloc (by omega) _⟩
        | some y =>
          obtain rfl := HXY.out y rfl
          have hd : D = decF (k + 1) (acc ++ [⟨xo, xa, xb, xn, xc⟩]) ((W.map bytesN).drop (k + 1)) := HST.out
          have HDD := hidP hd.symm
          have hcl : (acc.length + 1) * 56 ≤ 140737488355328 := by rw [HAC.out]; omega
          clear hd
          go_upto_region 11 with fail
          have hb4 := bnew (brefl w3) (.cells #[.int .i64 xo, .int .i64 xa, .int .i64 xb, .int .i64 xn, .slice vA xc.length vc] 37)
          have hn4 := blk_new w3 (.cells #[.int .i64 xo, .int .i64 xa, .int .i64 xb, .int .i64 xn, .slice vA xc.length vc] 37)
          generalize w3.alloc (.cells #[.int .i64 xo, .int .i64 xa, .int .i64 xb, .int .i64 xn, .slice vA xc.length vc] 37) = w4 at *
          have y0 : w4.cell? ⟨w3.heap.size, 0, none⟩ = some _ := (blk_cell hn4 0).trans rfl
          have y1 : w4.cell? ⟨w3.heap.size, 1, none⟩ = some _ := (blk_cell hn4 1).trans rfl
          have y2 : w4.cell? ⟨w3.heap.size, 2, none⟩ = some _ := (blk_cell hn4 2).trans rfl
          have y3 : w4.cell? ⟨w3.heap.size, 3, none⟩ = some _ := (blk_cell hn4 3).trans rfl
          have y4 : w4.cell? ⟨w3.heap.size, 4, none⟩ = some _ := (blk_cell hn4 4).trans rfl
          have hB4 := bstep hB3 hb4
          have hz4 := hB4.size
          have hR4 := Kd.R_below HR3.out hb4
          have hV4 := Kd.R_lower (Kd.R_below HV.out hb4) hz2
          have hM : kI.M w4 w1.heap.size (fun k => w2.heap.size ≤ k) ⟨xo, xa, xb, xn, xc⟩ (instrC ⟨xo, xa, xb, xn, xc⟩ (.slice vA xc.length vc)) := kI_mkM _ hV4
          have hokp : ∀ j, w2.heap.size ≤ j → w1.heap.size ≤ j ∧ some j ≠ (Value.slice A k c).ownBlock := fun j hj => ⟨by omega, fun e => by
            obtain ⟨inner, ho⟩ := Kd.R_own HR.out
            have := own_lt ho j e.symm
            omega⟩
          have HB4 := hidP hB4
          have HR4 := hidP hR4
          have HM := hidP hM
          have HOKP := hidP hokp
          clear hb4 hn4 hB4 hR4 hV4 hM hokp
          go_wp2_with (at_builtin; go_loud (refine (Kd.R_append kI w1.heap.size rfl (.tmp 37) (.tmp 39) 22 37 _ 56 rfl Tryd.underlying22 Tryd.infoI rfl (by decide) (by decide) (.slice A k c) acc ⟨xo, xa, xb, xn, xc⟩ (instrC ⟨xo, xa, xb, xn, xc⟩ (.slice vA xc.length vc)) (fun k => w1.heap.size ≤ k) (fun k => w2.heap.size ≤ k) rfl rfl HM.out HOKP.out (fun j hj => Nat.le_trans hz4 hj) HR4.out HB4.out hz4 hcl ?_)); intro v1 w7 hR7 hB7 hg7 hat7)
          obtain ⟨A7, c7, rfl⟩ := Kd.R_slice hR7
          have hlen : (acc ++ [(⟨xo, xa, xb, xn, xc⟩ : InstrD)]).length = k + 1 := by rw [List.length_append, HAC.out]; rfl
          rw [hlen] at hR7 ⊢
          exact ⟨⟨k + 1, _, A7, c7, rfl, by go_num, by omega, hlen, HDD, hR7, hB7⟩, by simp [intOf]; omega⟩
      · have hd : D = (acc, 0, 0) := by
          rw [← HF.out, List.drop_eq_nil_of_le (by rw [List.length_map, HN.out]; omega)]
          rfl
        have HDD := hidP hd
        clear hd
        go_wp2
        go_ret3
        rw [HDD.out]
        exact ⟨A, c, by show _ = Ending.returned (.tuple #[.slice A acc.length c, _, _]); rw [HAC.out]; rfl, by show kI.R _ _ _ _ (.slice A acc.length c) _; rw [HAC.out]; exact Kd.R_mono (Kd.R_lower HR.out hz1) (fun j hj => by omega), hb1.trans (hb.mono hz1)⟩
  · have hd : D = ([], 0, E) := by rw [HD.out, if_pos hE]
    have HDD := hidP hd
    have t0 : (E != 0) = true := by simpa using hE
    clear hd hE
    go_wp2
    go_ret3
    rw [HDD.out]
    exact ⟨none, 0, rfl, Kd.R_nil _ _ _ _ _, hb1⟩
end Go.Proofs.YtoflhfiegfhkoaaDoor
