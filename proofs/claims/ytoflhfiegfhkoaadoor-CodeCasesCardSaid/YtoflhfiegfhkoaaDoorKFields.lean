/-
  The walk over package code's reader: fields.
-/
import Derived.Test.YtoflhfiegfhkoaaDoorKRead
namespace Go.Proofs.YtoflhfiegfhkoaaDoor
open Go.RowKit Go.Proofs.YtoflhfiegfhkoaaDoorW.PrintWords
set_option linter.unusedVariables false

theorem strA_get (F : List Nat) (k : Nat) (h : k < (strA F).size) (ha : ∀ x ∈ F, x < 128) : ((strA F)[k]'h).toNat = chr F k := by
  have hl : k < F.length := by rw [← strA_size]; exact h
  have hd : (strA F).data.toList = F.map UInt8.ofNat := rfl
  have hl2 : k < (strA F).data.toList.length := by rw [hd, List.length_map]; exact hl
  have e : ((strA F)[k]'h) = UInt8.ofNat (F[k]'hl) := by
    have e1 : ((strA F)[k]'h) = (strA F).data.toList[k]'hl2 := by simp; rfl
    rw [e1]
    simp [hd]
  have hx := ha (F[k]'hl) (List.getElem_mem hl)
  rw [e]
  unfold chr
  rw [List.getD_eq_getElem?_getD, List.getElem?_eq_getElem hl]
  simp
  omega
theorem chr_lt {F : List Nat} (ha : ∀ x ∈ F, x < 128) (k : Nat) : chr F k < 128 := by
  unfold chr
  rw [List.getD_eq_getElem?_getD]
  cases h : F[k]? with
  | none => simp
  | some x => exact ha x (List.mem_of_getElem? h)
/-- The reader, behind a turn of a block that the call has made. -/
theorem Rd.keepI {w w1 w2 : World} {g it : Nat} {A : Option Addr} {n c : Nat} {l : List Nat} {p q : Nat} (h : Rd w g A n c l p) (h1 : Rd w1 g A n c l q) (hk : Keep (· = it) w1 w2) (hit : w.heap.size ≤ it) : Rd w2 g A n c l q := by
  have hg := blk_lt h.blk
  refine ⟨by rw [hk.block g (blk_lt h1.blk) (show ¬ g = it by omega)]; exact h1.blk, h1.len, ?_, h1.ne, h1.le, h1.cm, h1.pn, h1.nm, h1.asc⟩
  by_cases h0 : 0 < n
  · refine row_keep h1.row hk fun b o e => ?_
    subst e
    have := h.row.lt (by rw [List.length_map, h.len]; exact h0)
    show ¬ b = it
    omega
  · have : l = [] := List.eq_nil_of_length_eq_zero (by rw [h1.len]; omega)
    subst this
    exact .inl rfl
/-- One sign more of a text that is ranged over, whatever else the world has. -/
theorem Tryd.next_strA {w : World} {it : Nat} {F : List Nat} {pos : Nat} (hk : w.heap[it]? = some (.stringIter (strA F) pos)) (h : pos < F.length) (ha : ∀ x ∈ F, x < 128) :
    ∃ w1, (∀ ty, (Instr.next (.pointer (some ⟨it, 0, none⟩)) true ty).run Tryd.prog w = .ok (.tuple #[.bool true, .int .i64 pos, .int .i32 (chr F pos)]) w1) ∧ w1.heap[it]? = some (.stringIter (strA F) (pos + 1)) ∧ Keep (· = it) w w1 := by
  have hs : pos < (strA F).size := by rw [strA_size]; exact h
  have hc := strA_get F pos hs ha
  have hlt := chr_lt ha pos
  refine ⟨w.iterAt it (strA F) (pos + 1), fun ty => ?_, Lib.iterAt_heap w it (strA F) pos (pos + 1) hk, ⟨rfl, rfl, rfl, by rw [Lib.iterAt_size]; exact Nat.le_refl _, fun k hk2 hne => Lib.iterAt_other w it k _ _ hne⟩⟩
  have := Lib.run_next_ascii_at (P := Tryd.prog) w it (strA F) pos ty hk hs (by rw [hc]; exact hlt)
  rw [hc] at this
  exact this

structure FSt where
  a : Int
  b : Int
  n : Int
  ok : Bool
  q : Nat
def fstep (l : List Nat) (i c : Nat) (s : FSt) : FSt :=
  if i = 0 then s
  else if c = 97 then { s with a := (regR (chr l s.q)).1, ok := s.ok && (regR (chr l s.q)).2, q := adv l s.q }
  else if c = 98 then { s with b := (regR (chr l s.q)).1, ok := s.ok && (regR (chr l s.q)).2, q := adv l s.q }
  else if c = 78 then { s with n := (numR (numL l s.q 4)).1, ok := s.ok && (numR (numL l s.q 4)).2, q := s.q + runL (l.drop s.q) 4 }
  else if c = 68 then { s with n := (numR (numL l s.q 1)).1, ok := s.ok && (numR (numL l s.q 1)).2, q := s.q + runL (l.drop s.q) 1 }
  else s
def ffold (l : List Nat) : Nat → List Nat → FSt → FSt
  | _, [], s => s
  | i, c :: r, s => ffold l (i + 1) r (fstep l i c s)
/-- What a form's fields give, from a place on. -/
def fieldsR (l F : List Nat) (p : Nat) : FSt := ffold l 0 F ⟨0, 0, 0, true, p⟩
theorem ffold_step {l F : List Nat} {k : Nat} (h : k < F.length) (s : FSt) : ffold l k (F.drop k) s = ffold l (k + 1) (F.drop (k + 1)) (fstep l k (chr F k) s) := by
  rw [List.drop_eq_getElem_cons h]
  have : chr F k = F[k] := by unfold chr; rw [List.getD_eq_getElem?_getD, List.getElem?_eq_getElem h]; rfl
  rw [this]
  rfl
def partsV (a b n : Int) : Value := .agg #[.int .i64 a, .int .i64 b, .int .i64 n]
def FieldsPost (w : World) (g : Nat) (A : Option Addr) (n c : Nat) (l : List Nat) (s : FSt) (e : Ending) (w' : World) : Prop :=
  e = .returned (.tuple #[.agg #[.int .i64 s.a, .int .i64 s.b, .int .i64 s.n], .bool s.ok]) ∧ Rd w' g A n c l s.q ∧ Keep (· = g) w w'

set_option maxRecDepth 100000 in
set_option maxHeartbeats 3200000 in
theorem fields_any {w : World} {g : Nat} {A : Option Addr} {n c : Nat} {l : List Nat} {p : Nat} (h : Rd w g A n c l p) (F : List Nat) (ha : ∀ x ∈ F, x < 128) (hF : F.length ≤ 100) :
    Calls Tryd.prog 59 #[.pointer (some ⟨g, 0, none⟩), .string (strA F)] w (FieldsPost w g A n c l (fieldsR l F p)) := by
  have H := hidP h
  have HA := hidP ha
  have hglt := blk_lt h.blk
  obtain ⟨E, hE⟩ : ∃ E, fieldsR l F p = E := ⟨_, rfl⟩
  rw [hE]
  have HE := hidP hE
  have hsz := strA_size F
  clear h ha hE
  go_enter Tryd.func59, Tryd.ntmps59
  go_wp2_with fail
  have fin0 : Keep (· = g) w (((w.alloc (.cells #[.int .i64 0, .int .i64 0, .int .i64 0] 75)).alloc (.cells #[.int .i64 0, .int .i64 0, .int .i64 0] 75)).iter (strA F) 0) := .of_below (bnew (bnew (bnew (brefl w) _) _) _)
  have hbk0 : (((w.alloc (.cells #[.int .i64 0, .int .i64 0, .int .i64 0] 75)).alloc (.cells #[.int .i64 0, .int .i64 0, .int .i64 0] 75)).iter (strA F) 0).heap[w.heap.size]? = some (.cells #[.int .i64 0, .int .i64 0, .int .i64 0] 75 (0, 0)) := blk_alloc (blk_alloc (blk_new w _) _) _
  have hbk1 : (((w.alloc (.cells #[.int .i64 0, .int .i64 0, .int .i64 0] 75)).alloc (.cells #[.int .i64 0, .int .i64 0, .int .i64 0] 75)).iter (strA F) 0).heap[w.heap.size + 1]? = some (.cells #[.int .i64 0, .int .i64 0, .int .i64 0] 75 (0, 0)) := blk_alloc (by simpa using blk_new (w.alloc _) _) _
  have hbk2 : (((w.alloc (.cells #[.int .i64 0, .int .i64 0, .int .i64 0] 75)).alloc (.cells #[.int .i64 0, .int .i64 0, .int .i64 0] 75)).iter (strA F) 0).heap[w.heap.size + 2]? = some (.stringIter (strA F) 0) := by
    have := World.iter_heap ((w.alloc (.cells #[.int .i64 0, .int .i64 0, .int .i64 0] 75)).alloc (.cells #[.int .i64 0, .int .i64 0, .int .i64 0] 75)) (strA F) 0
    simpa using this
  go_loopw [7] (fun v7 wr => ∃ (pos : Nat) (s : FSt), v7 = .bool s.ok ∧ pos ≤ F.length ∧ Hid (ffold l pos (F.drop pos) s = E) ∧ wr.heap[w.heap.size]? = some (.cells #[.int .i64 0, .int .i64 0, .int .i64 0] 75 (0, 0)) ∧ wr.heap[w.heap.size + 1]? = some (.cells #[.int .i64 s.a, .int .i64 s.b, .int .i64 s.n] 75 (0, 0)) ∧ wr.heap[w.heap.size + 2]? = some (.stringIter (strA F) pos) ∧ Hid (Rd wr g A n c l s.q) ∧ Keep (· = g) w wr) (fun _ wr => F.length - wr.iterPos (w.heap.size + 2))
  case atStart => exact ⟨0, ⟨0, 0, 0, true, p⟩, rfl, by omega, HE.out, hbk0, hbk1, hbk2, H.out.keep (bnew (bnew (bnew (brefl w) _) _) _), fin0⟩
  case round =>
    clear hbk0 hbk1 hbk2 fin0
    obtain ⟨pos, ⟨xa, xb, xn, ok, q⟩, rfl, hpos, HF, hb0, hb1, hb2, HRd, hk⟩ := hrel
    obtain ⟨w1, e1⟩ : ∃ w1, w1 = wr := ⟨_, rfl⟩
    subst e1
    by_cases hlt : pos < F.length
    · obtain ⟨w2, hnx, hit2, hk2⟩ := Tryd.next_strA hb2 hlt HA.out
      have hst := ffold_step (l := l) hlt ⟨xa, xb, xn, ok, q⟩
      have hC := chr_lt HA.out pos
      have R2 := hidP (H.out.keepI HRd.out hk2 (by omega))
      have hd0 : w2.heap[w.heap.size]? = _ := (hk2.block _ (blk_lt hb0) (by omega)).trans hb0
      have hd1 : w2.heap[w.heap.size + 1]? = _ := (hk2.block _ (blk_lt hb1) (by omega)).trans hb1
      have K2 : Keep (· = g) w w2 := hk.then hk2 (fun i hi h => by omega)
      have HF2 := HF.out
      rw [hst] at HF2
      obtain ⟨C, hCC⟩ : ∃ C, chr F pos = C := ⟨_, rfl⟩
      rw [hCC] at HF2 hnx hC
      have l1 := blk_lt hd1
      have l2 := blk_lt hit2
      have mx : ∀ (w5 : World), w5.heap[w.heap.size + 2]? = some (.stringIter (strA F) (pos + 1)) → F.length - w5.iterPos (w.heap.size + 2) < F.length - w1.iterPos (w.heap.size + 2) := by
        intro w5 h5
        have e1 : w5.iterPos (w.heap.size + 2) = pos + 1 := by unfold World.iterPos; rw [h5]
        have e2 : w1.iterPos (w.heap.size + 2) = pos := by unfold World.iterPos; rw [hb2]
        omega
      have MX := hidP mx
      have HIT := hidP hit2
      have HD0 := hidP hd0
      have HD1 := hidP hd1
      clear hst hCC mx hit2 hb0 hb1 hb2 hd0 hd1
      by_cases h0 : pos = 0
      · have t0 : ((pos : Int) == 0) = true := by simp; omega
        have hfs : fstep l pos C ⟨xa, xb, xn, ok, q⟩ = ⟨xa, xb, xn, ok, q⟩ := by unfold fstep; rw [if_pos h0]
        rw [hfs] at HF2
        have HF3 := hidP HF2
        clear hfs HF2 h0
        cases ok
        all_goals
          go_wp2
          go_roundw
          case rel => exact ⟨pos + 1, ⟨xa, xb, xn, _, q⟩, rfl, by omega, HF3, HD0.out, HD1.out, HIT.out, R2, K2⟩
          case measure => exact MX.out _ HIT.out
      · have t0 : ((pos : Int) == 0) = false := by simp; omega
        by_cases c1 : C = 97
        · have t1 : ((C : Int) == 97) = true := by simp; omega
          have hfs : fstep l pos C ⟨xa, xb, xn, ok, q⟩ = ⟨(regR (chr l q)).1, xb, xn, ok && (regR (chr l q)).2, adv l q⟩ := by unfold fstep; rw [if_neg h0, if_pos c1]
          have hcl := hidP (rreg_any R2.out)
          rw [hfs] at HF2
          obtain ⟨V, hV⟩ : ∃ V, regR (chr l q) = V := ⟨_, rfl⟩
          rw [hV] at HF2 hcl
          have HF3 := hidP HF2
          clear hfs HF2 h0 hV
          cases ok
          all_goals
            go_wp2_with fail
            refine hcl.out.mono ?_
            rintro e w3 ⟨rfl, R3, k3⟩
            have hg0 := (k3.block _ (blk_lt HD0.out) (by omega)).trans HD0.out
            have hg1 := (k3.block _ (blk_lt HD1.out) (by omega)).trans HD1.out
            have hg2 := (k3.block _ (blk_lt HIT.out) (by omega)).trans HIT.out
            have gc : w3.cell? ⟨w.heap.size + 1, 0, none⟩ = some _ := (blk_cell hg1 0).trans rfl
            have gf := blk_frozen hg1 0
            have HG0 := hidP hg0
            have HG1 := hidP hg1
            have HG2 := hidP hg2
            have HR3 := hidP R3
            have hz3 := k3.size
            clear hg0 hg1 hg2 R3
            go_wp2
            go_roundw
            case rel =>
              have hS := H.out.keepI HR3.out (it := w.heap.size + 1) (w2 := w3.setCell ⟨w.heap.size + 1, 0, none⟩ (.int .i64 V.1)) ((Keep.refl (· = w.heap.size + 1) _).setCell (p := ⟨w.heap.size + 1, 0, none⟩) rfl _) (by omega)
              exact ⟨pos + 1, ⟨V.1, xb, xn, _, adv l q⟩, rfl, by omega, HF3, blk_far HG0.out (by show w.heap.size ≠ w.heap.size + 1; omega) _, blk_set HG1.out 0 _, (Below.heap_setCell _ _ _ _ (by show w.heap.size + 2 ≠ w.heap.size + 1; omega)).trans HG2.out, hS, (K2.trans k3).then ((Keep.refl (· = w.heap.size + 1) _).setCell (p := ⟨w.heap.size + 1, 0, none⟩) rfl _) (fun i hi h => by omega)⟩
            case measure => exact MX.out _ ((Below.heap_setCell _ _ _ _ (by show w.heap.size + 2 ≠ w.heap.size + 1; omega)).trans HG2.out)
        · have t1 : ((C : Int) == 97) = false := by simp; omega
          by_cases c2 : C = 98
          · have t2 : ((C : Int) == 98) = true := by simp; omega
            have hfs : fstep l pos C ⟨xa, xb, xn, ok, q⟩ = ⟨xa, (regR (chr l q)).1, xn, ok && (regR (chr l q)).2, adv l q⟩ := by unfold fstep; rw [if_neg h0, if_neg c1, if_pos c2]
            have hcl := hidP (rreg_any R2.out)
            rw [hfs] at HF2
            obtain ⟨V, hV⟩ : ∃ V, regR (chr l q) = V := ⟨_, rfl⟩
            rw [hV] at HF2 hcl
            have HF3 := hidP HF2
            clear hfs HF2 h0 hV
            cases ok
            all_goals
              go_wp2_with fail
              refine hcl.out.mono ?_
              rintro e w3 ⟨rfl, R3, k3⟩
              have hg0 := (k3.block _ (blk_lt HD0.out) (by omega)).trans HD0.out
              have hg1 := (k3.block _ (blk_lt HD1.out) (by omega)).trans HD1.out
              have hg2 := (k3.block _ (blk_lt HIT.out) (by omega)).trans HIT.out
              have gc : w3.cell? ⟨w.heap.size + 1, 1, none⟩ = some _ := (blk_cell hg1 1).trans rfl
              have gf := blk_frozen hg1 1
              have HG0 := hidP hg0
              have HG1 := hidP hg1
              have HG2 := hidP hg2
              have HR3 := hidP R3
              have hz3 := k3.size
              clear hg0 hg1 hg2 R3
              go_wp2
              go_roundw
              case rel =>
                have hS := H.out.keepI HR3.out (it := w.heap.size + 1) (w2 := w3.setCell ⟨w.heap.size + 1, 1, none⟩ (.int .i64 V.1)) ((Keep.refl (· = w.heap.size + 1) _).setCell (p := ⟨w.heap.size + 1, 1, none⟩) rfl _) (by omega)
                exact ⟨pos + 1, ⟨xa, V.1, xn, _, adv l q⟩, rfl, by omega, HF3, blk_far HG0.out (by show w.heap.size ≠ w.heap.size + 1; omega) _, blk_set HG1.out 1 _, (Below.heap_setCell _ _ _ _ (by show w.heap.size + 2 ≠ w.heap.size + 1; omega)).trans HG2.out, hS, (K2.trans k3).then ((Keep.refl (· = w.heap.size + 1) _).setCell (p := ⟨w.heap.size + 1, 1, none⟩) rfl _) (fun i hi h => by omega)⟩
              case measure => exact MX.out _ ((Below.heap_setCell _ _ _ _ (by show w.heap.size + 2 ≠ w.heap.size + 1; omega)).trans HG2.out)
          · have t2 : ((C : Int) == 98) = false := by simp; omega
            by_cases c3 : C = 78
            · have t3 : ((C : Int) == 78) = true := by simp; omega
              have hfs : fstep l pos C ⟨xa, xb, xn, ok, q⟩ = ⟨xa, xb, (numR (numL l q 4)).1, ok && (numR (numL l q 4)).2, q + runL (l.drop q) 4⟩ := by unfold fstep; rw [if_neg h0, if_neg c1, if_neg c2, if_pos c3]
              have hcl := hidP (rnumber_any R2.out 4 4 rfl (by omega))
              rw [hfs] at HF2
              obtain ⟨V, hV⟩ : ∃ V, numR (numL l q 4) = V := ⟨_, rfl⟩
              rw [hV] at HF2 hcl
              have HF3 := hidP HF2
              clear hfs HF2 h0 hV
              cases ok
              all_goals
                go_wp2_with fail
                refine hcl.out.mono ?_
                rintro e w3 ⟨rfl, R3, k3⟩
                have hg0 := (k3.block _ (blk_lt HD0.out) (by omega)).trans HD0.out
                have hg1 := (k3.block _ (blk_lt HD1.out) (by omega)).trans HD1.out
                have hg2 := (k3.block _ (blk_lt HIT.out) (by omega)).trans HIT.out
                have gc : w3.cell? ⟨w.heap.size + 1, 2, none⟩ = some _ := (blk_cell hg1 2).trans rfl
                have gf := blk_frozen hg1 2
                have HG0 := hidP hg0
                have HG1 := hidP hg1
                have HG2 := hidP hg2
                have HR3 := hidP R3
                have hz3 := k3.size
                clear hg0 hg1 hg2 R3
                go_wp2
                go_roundw
                case rel =>
                  have hS := H.out.keepI HR3.out (it := w.heap.size + 1) (w2 := w3.setCell ⟨w.heap.size + 1, 2, none⟩ (.int .i64 V.1)) ((Keep.refl (· = w.heap.size + 1) _).setCell (p := ⟨w.heap.size + 1, 2, none⟩) rfl _) (by omega)
                  exact ⟨pos + 1, ⟨xa, xb, V.1, _, q + runL (l.drop q) 4⟩, rfl, by omega, HF3, blk_far HG0.out (by show w.heap.size ≠ w.heap.size + 1; omega) _, blk_set HG1.out 2 _, (Below.heap_setCell _ _ _ _ (by show w.heap.size + 2 ≠ w.heap.size + 1; omega)).trans HG2.out, hS, (K2.trans k3).then ((Keep.refl (· = w.heap.size + 1) _).setCell (p := ⟨w.heap.size + 1, 2, none⟩) rfl _) (fun i hi h => by omega)⟩
                case measure => exact MX.out _ ((Below.heap_setCell _ _ _ _ (by show w.heap.size + 2 ≠ w.heap.size + 1; omega)).trans HG2.out)
            · have t3 : ((C : Int) == 78) = false := by simp; omega
              by_cases c4 : C = 68
              · have t4 : ((C : Int) == 68) = true := by simp; omega
                have hfs : fstep l pos C ⟨xa, xb, xn, ok, q⟩ = ⟨xa, xb, (numR (numL l q 1)).1, ok && (numR (numL l q 1)).2, q + runL (l.drop q) 1⟩ := by unfold fstep; rw [if_neg h0, if_neg c1, if_neg c2, if_neg c3, if_pos c4]
                have hcl := hidP (rnumber_any R2.out 1 1 rfl (by omega))
                rw [hfs] at HF2
                obtain ⟨V, hV⟩ : ∃ V, numR (numL l q 1) = V := ⟨_, rfl⟩
                rw [hV] at HF2 hcl
                have HF3 := hidP HF2
                clear hfs HF2 h0 hV
                cases ok
                all_goals
                  go_wp2_with fail
                  refine hcl.out.mono ?_
                  rintro e w3 ⟨rfl, R3, k3⟩
                  have hg0 := (k3.block _ (blk_lt HD0.out) (by omega)).trans HD0.out
                  have hg1 := (k3.block _ (blk_lt HD1.out) (by omega)).trans HD1.out
                  have hg2 := (k3.block _ (blk_lt HIT.out) (by omega)).trans HIT.out
                  have gc : w3.cell? ⟨w.heap.size + 1, 2, none⟩ = some _ := (blk_cell hg1 2).trans rfl
                  have gf := blk_frozen hg1 2
                  have HG0 := hidP hg0
                  have HG1 := hidP hg1
                  have HG2 := hidP hg2
                  have HR3 := hidP R3
                  have hz3 := k3.size
                  clear hg0 hg1 hg2 R3
                  go_wp2
                  go_roundw
                  case rel =>
                    have hS := H.out.keepI HR3.out (it := w.heap.size + 1) (w2 := w3.setCell ⟨w.heap.size + 1, 2, none⟩ (.int .i64 V.1)) ((Keep.refl (· = w.heap.size + 1) _).setCell (p := ⟨w.heap.size + 1, 2, none⟩) rfl _) (by omega)
                    exact ⟨pos + 1, ⟨xa, xb, V.1, _, q + runL (l.drop q) 1⟩, rfl, by omega, HF3, blk_far HG0.out (by show w.heap.size ≠ w.heap.size + 1; omega) _, blk_set HG1.out 2 _, (Below.heap_setCell _ _ _ _ (by show w.heap.size + 2 ≠ w.heap.size + 1; omega)).trans HG2.out, hS, (K2.trans k3).then ((Keep.refl (· = w.heap.size + 1) _).setCell (p := ⟨w.heap.size + 1, 2, none⟩) rfl _) (fun i hi h => by omega)⟩
                  case measure => exact MX.out _ ((Below.heap_setCell _ _ _ _ (by show w.heap.size + 2 ≠ w.heap.size + 1; omega)).trans HG2.out)
              · have t4 : ((C : Int) == 68) = false := by simp; omega
                have hfs : fstep l pos C ⟨xa, xb, xn, ok, q⟩ = ⟨xa, xb, xn, ok, q⟩ := by unfold fstep; rw [if_neg h0, if_neg c1, if_neg c2, if_neg c3, if_neg c4]
                rw [hfs] at HF2
                have HF3 := hidP HF2
                clear hfs HF2 h0
                cases ok
                all_goals
                  go_wp2
                  go_roundw
                  case rel => exact ⟨pos + 1, ⟨xa, xb, xn, _, q⟩, rfl, by omega, HF3, HD0.out, HD1.out, HIT.out, R2, K2⟩
                  case measure => exact MX.out _ HIT.out
    · have hend : (⟨xa, xb, xn, ok, q⟩ : FSt) = E := by
        have := HF.out
        rw [List.drop_eq_nil_of_le (by omega)] at this
        exact this
      have hnx := fun ty => Lib.run_next_end_at (P := Tryd.prog) w1 (w.heap.size + 2) (strA F) pos ty hb2 (by rw [hsz]; exact hlt)
      have gc0 : w1.cell? ⟨w.heap.size + 1, 0, none⟩ = some _ := (blk_cell hb1 0).trans rfl
      have gc1 : w1.cell? ⟨w.heap.size + 1, 1, none⟩ = some _ := (blk_cell hb1 1).trans rfl
      have gc2 : w1.cell? ⟨w.heap.size + 1, 2, none⟩ = some _ := (blk_cell hb1 2).trans rfl
      have rf0 := blk_frozen hb0 0
      have rf1 := blk_frozen hb0 1
      have rf2 := blk_frozen hb0 2
      have rc0 : w1.cell? ⟨w.heap.size, 0, none⟩ = some _ := (blk_cell hb0 0).trans rfl
      have rc1 : w1.cell? ⟨w.heap.size, 1, none⟩ = some _ := (blk_cell hb0 1).trans rfl
      have rc2 : w1.cell? ⟨w.heap.size, 2, none⟩ = some _ := (blk_cell hb0 2).trans rfl
      have HEND := hidP hend
      have l0 := blk_lt hb0
      have l1 := blk_lt hb1
      have fk : ∀ u0 u1 u2, Keep (· = w.heap.size) w1 (((w1.setCell ⟨w.heap.size, 0, none⟩ u0).setCell ⟨w.heap.size, 1, none⟩ u1).setCell ⟨w.heap.size, 2, none⟩ u2) := fun u0 u1 u2 => (((Keep.refl (· = w.heap.size) w1).setCell (p := ⟨w.heap.size, 0, none⟩) rfl _).setCell (p := ⟨w.heap.size, 1, none⟩) rfl _).setCell (p := ⟨w.heap.size, 2, none⟩) rfl _
      have fb : ∀ u0 u1 u2, (((w1.setCell ⟨w.heap.size, 0, none⟩ u0).setCell ⟨w.heap.size, 1, none⟩ u1).setCell ⟨w.heap.size, 2, none⟩ u2).heap[w.heap.size]? = some (.cells #[u0, u1, u2] 75 (0, 0)) := fun u0 u1 u2 => (blk_set (blk_set (blk_set hb0 0 u0) 1 u1) 2 u2).trans rfl
      clear hend
      go_wp2
      have fk1 := fk (.int .i64 xa) (.int .i64 xb) (.int .i64 xn)
      have fb1 := fb (.int .i64 xa) (.int .i64 xb) (.int .i64 xn)
      generalize ((w1.setCell ⟨w.heap.size, 0, none⟩ (.int .i64 xa)).setCell ⟨w.heap.size, 1, none⟩ (.int .i64 xb)).setCell ⟨w.heap.size, 2, none⟩ (.int .i64 xn) = w3 at *
      have v0 : w3.cell? ⟨w.heap.size, 0, none⟩ = some _ := (blk_cell fb1 0).trans rfl
      have v1 : w3.cell? ⟨w.heap.size, 1, none⟩ = some _ := (blk_cell fb1 1).trans rfl
      have v2 : w3.cell? ⟨w.heap.size, 2, none⟩ = some _ := (blk_cell fb1 2).trans rfl
      refine bodyPost_ret (v := .tuple #[.agg #[.int .i64 xa, .int .i64 xb, .int .i64 xn], .bool ok]) (by simp [results, Tryd.results59, go_sem, v0, v1, v2]) rfl ?_
      unfold FieldsPost
      rw [← HEND.out]
      exact ⟨rfl, H.out.keepI HRd.out fk1 (by omega), hk.then fk1 (fun i hi h => by omega)⟩
end Go.Proofs.YtoflhfiegfhkoaaDoor
