/-
  Parts of the proof: KRefD.
-/
import Derived.Test.YtklfboidjnchoaaGreatDoorZ3
namespace Go.Proofs.YtklfboidjnchoaaGreatDoor
open Go.RowKit Go.Proofs.YtklfboidjnchoaaGreatDoorW.PrintWords
set_option linter.unusedVariables false
def rhead (L : List Nat) : Option (Int × Int × Int × List Nat) :=
  if chr L 0 = 115 ∨ chr L 0 = 114 then
    (if L.length < 3 then none
     else if (regR (chr L 1)).2 = false ∨ (regR (chr L 2)).2 = false then none
     else some (if chr L 0 = 114 then 2 else 1, (regR (chr L 1)).1, (regR (chr L 2)).1, L.drop 3))
  else if chr L 0 = 101 then some (3, 0, 0, L.drop 1) else none
def rtail (kind ch rg : Int) (M : List Nat) : Option (CaseD × List Nat) :=
  if (numR (strA (M.take (restN M)))).2 = false then none
  else if kind = 3 ∧ ¬ (M.drop (restN M)).length = 0 then none
  else some (⟨kind, ch, rg, (numR (strA (M.take (restN M)))).1⟩, M.drop (restN M))
theorem rtail_no {kd ch rg : Int} {T : List Nat} {r : Nat} {nv : Int} (h : restN T = r) (hN : numR (strA (T.take r)) = (nv, false)) : rtail kd ch rg T = none := by
  unfold rtail
  rw [h, hN, if_pos rfl]
theorem rtail_end {kd ch rg : Int} {T : List Nat} {r : Nat} {nv : Int} (h : restN T = r) (hN : numR (strA (T.take r)) = (nv, true)) (he : kd = 3 ∧ ¬ (T.drop r).length = 0) : rtail kd ch rg T = none := by
  unfold rtail
  rw [h, hN, if_neg (by simp), if_pos he]
theorem rtail_yes {kd ch rg : Int} {T : List Nat} {r : Nat} {nv : Int} (h : restN T = r) (hN : numR (strA (T.take r)) = (nv, true)) (he : ¬ (kd = 3 ∧ ¬ (T.drop r).length = 0)) : rtail kd ch rg T = some (⟨kd, ch, rg, nv⟩, T.drop r) := by
  unfold rtail
  rw [h, hN, if_neg (by simp), if_neg he]
def rchF : Nat → List Nat → List CaseD → Option (List CaseD)
  | 0, _, _ => none
  | k + 1, L, acc =>
    if L.length = 0 then (if acc.length = 0 then none else some acc)
    else match rhead L with
      | none => none
      | some (kd, ch, rg, M) => match rtail kd ch rg M with
        | none => none
        | some (c, M') => rchF k M' (acc ++ [c])
def rchoiceR (L : List Nat) : Option InstrD := (rchF (L.length + 1) L []).map fun cs => ⟨21, 0, 0, 0, cs⟩
def OnePost (w : World) (X : Option InstrD) (e : Ending) (w' : World) : Prop :=
  ∃ x v, e = .returned (.tuple #[instrV x v, .bool X.isSome]) ∧ (∀ y, X = some y → x = y) ∧ kC.R 109 w' w.heap.size (fun k => w.heap.size ≤ k) v x.cases ∧ Below w.heap.size w w'
def sizeS (v : Value) : Nat := match v with | .string s => s.size | _ => 0
theorem sizeS_strA (M : List Nat) : sizeS (.string (strA M)) = M.length := strA_size M
theorem five_set {w : World} {g : Nat} {c0 c1 c2 c3 c4 : Value} {T : TypeId} (h : w.heap[g]? = some (.cells #[c0, c1, c2, c3, c4] T (0, 0))) (u0 u1 u2 u3 u4 : Value) :
    (((((w.setCell ⟨g, 0, none⟩ u0).setCell ⟨g, 1, none⟩ u1).setCell ⟨g, 2, none⟩ u2).setCell ⟨g, 3, none⟩ u3).setCell ⟨g, 4, none⟩ u4).heap[g]? = some (.cells #[u0, u1, u2, u3, u4] T (0, 0)) :=
  (blk_set (blk_set (blk_set (blk_set (blk_set h 0 u0) 1 u1) 2 u2) 3 u3) 4 u4).trans rfl
theorem five_keep (w : World) (g : Nat) (u0 u1 u2 u3 u4 : Value) : Keep (· = g) w (((((w.setCell ⟨g, 0, none⟩ u0).setCell ⟨g, 1, none⟩ u1).setCell ⟨g, 2, none⟩ u2).setCell ⟨g, 3, none⟩ u3).setCell ⟨g, 4, none⟩ u4) :=
  (((((Keep.refl (· = g) w).setCell (p := ⟨g, 0, none⟩) rfl _).setCell (p := ⟨g, 1, none⟩) rfl _).setCell (p := ⟨g, 2, none⟩) rfl _).setCell (p := ⟨g, 3, none⟩) rfl _).setCell (p := ⟨g, 4, none⟩) rfl _
theorem five_cells {w : World} {g : Nat} {c0 c1 c2 c3 c4 : Value} {T : TypeId} (h : w.heap[g]? = some (.cells #[c0, c1, c2, c3, c4] T (0, 0))) :
    w.cell? ⟨g, 0, none⟩ = some c0 ∧ w.cell? ⟨g, 1, none⟩ = some c1 ∧ w.cell? ⟨g, 2, none⟩ = some c2 ∧ w.cell? ⟨g, 3, none⟩ = some c3 ∧ w.cell? ⟨g, 4, none⟩ = some c4 :=
  ⟨(blk_cell h 0).trans rfl, (blk_cell h 1).trans rfl, (blk_cell h 2).trans rfl, (blk_cell h 3).trans rfl, (blk_cell h 4).trans rfl⟩
theorem four_cells {w : World} {g : Nat} {c0 c1 c2 c3 : Value} {T : TypeId} (h : w.heap[g]? = some (.cells #[c0, c1, c2, c3] T (0, 0))) :
    w.cell? ⟨g, 0, none⟩ = some c0 ∧ w.cell? ⟨g, 1, none⟩ = some c1 ∧ w.cell? ⟨g, 2, none⟩ = some c2 ∧ w.cell? ⟨g, 3, none⟩ = some c3 :=
  ⟨(blk_cell h 0).trans rfl, (blk_cell h 1).trans rfl, (blk_cell h 2).trans rfl, (blk_cell h 3).trans rfl⟩
theorem Keep.belowS {S : Nat → Prop} {B : Nat} {w0 a b : World} (h : Below B w0 a) (hk : Keep S a b) (hB : B ≤ a.heap.size) (hs : ∀ k, S k → B ≤ k) : Below B w0 b := h.trans (hk.below hB hs)
set_option maxRecDepth 100000 in
set_option maxHeartbeats 6400000 in
theorem rchoice_any (L : List Nat) (w : World) (ha : ∀ x ∈ L, x < 128) (hL : L.length ≤ 1000000) :
    Calls Tryz.prog 84 #[.string (strA L)] w (OnePost w (rchoiceR L)) := by
  obtain ⟨E, hE⟩ : ∃ E, rchF (L.length + 1) L [] = E := ⟨_, rfl⟩
  unfold rchoiceR
  rw [hE]
  have HE := hidP hE
  have HA := hidP ha
  clear hE ha
  go_enter Tryz.func84, Tryz.ntmps84
  go_wp2_with fail
  have h0 : ∀ o1 o2, Below w.heap.size w ((w.alloc o1).alloc o2) ∧ ((w.alloc o1).alloc o2).heap[w.heap.size]? = some o1 ∧ ((w.alloc o1).alloc o2).heap[w.heap.size + 1]? = some o2 := fun o1 o2 => ⟨bnew (bnew (brefl w) _) _, blk_alloc (blk_new w _) _, by simpa using blk_new (w.alloc o1) o2⟩
  obtain ⟨hb0, hr0, hx0⟩ := h0 (.cells #[.int .i64 0, .int .i64 0, .int .i64 0, .int .i64 0, .slice none 0 0] 56) (.cells #[.int .i64 21, .int .i64 0, .int .i64 0, .int .i64 0, .slice none 0 0] 56)
  clear h0
  go_loopw [0] (fun v0 wr => ∃ (M : List Nat) (k : Nat) (cs : List CaseD) (A : Option Addr) (d : Nat), v0 = .string (strA M) ∧ Hid (M.length < k) ∧ Hid (cs.length + M.length ≤ 1000000) ∧ Hid (∀ x ∈ M, x < 128) ∧ Hid (rchF k M cs = E) ∧ wr.heap[w.heap.size]? = some (.cells #[.int .i64 0, .int .i64 0, .int .i64 0, .int .i64 0, .slice none 0 0] 56 (0, 0)) ∧ wr.heap[w.heap.size + 1]? = some (.cells #[.int .i64 21, .int .i64 0, .int .i64 0, .int .i64 0, .slice A cs.length d] 56 (0, 0)) ∧ Hid (kC.R 109 wr w.heap.size (fun j => w.heap.size + 2 ≤ j) (.slice A cs.length d) cs) ∧ Below w.heap.size w wr) (fun v0 _ => sizeS v0)
  case atStart => exact ⟨L, L.length + 1, [], none, 0, rfl, by show _ < _; omega, by show 0 + L.length ≤ _; omega, HA.out, HE.out, hr0, hx0, Kd.R_nil _ _ _ _ _, hb0⟩
  case round =>
    clear hb0 hr0 hx0
    obtain ⟨M, k, cs, A, d, rfl, HK, HCL, HMA, HF, hr, hx, HR, hb⟩ := hrel
    obtain ⟨w1, e1⟩ : ∃ w1, w1 = wr := ⟨_, rfl⟩
    subst e1
    have hl0 := blk_lt hr
    have hl1 := blk_lt hx
    have hms := strA_size M
    have hemp := strA_empty M
    obtain ⟨m, hm⟩ : ∃ m, M.length = m := ⟨_, rfl⟩
    rw [hm] at hms
    have HM := hidP hm
    have hm6 : m ≤ 1000000 := by rw [← hm]; have := HCL.out; omega
    have HR0 := hidP hr
    have HX0 := hidP hx
    obtain ⟨K, rfl⟩ : ∃ K, k = K + 1 := ⟨k - 1, by have := HK.out; omega⟩
    have hch : rchF (K + 1) M cs = E := HF.out
    simp only [rchF] at hch
    clear hm hr hx
    by_cases hm0 : m = 0
    · rw [if_pos (by rw [HM.out]; exact hm0)] at hch
      have hie : M.isEmpty = true := by
        cases M with
        | nil => rfl
        | cons a l => exact absurd HM.out (by rw [hm0]; simp)
      rw [hie] at hemp
      obtain ⟨x0, x1, x2, x3, x4⟩ := five_cells HX0.out
      obtain ⟨rc0, rc1, rc2, rc3, rc4⟩ := five_cells HR0.out
      have rf0 := blk_frozen HR0.out 0
      have rf1 := blk_frozen HR0.out 1
      have rf2 := blk_frozen HR0.out 2
      have rf3 := blk_frozen HR0.out 3
      have rf4 := blk_frozen HR0.out 4
      have HCH := hidP hch
      clear hch hie hm0
      obtain ⟨cl, hcl⟩ : ∃ cl, cs.length = cl := ⟨_, rfl⟩
      rw [hcl] at x4
      have HCL2 := hidP hcl
      clear hcl
      by_cases hz : cl = 0
      · have hE : E = none := by have := HCH.out; rw [if_pos (by rw [HCL2.out]; exact hz)] at this; exact this.symm
        obtain rfl := hE
        obtain rfl := hz
        go_wp2_with fail
        go_region
        go_wp2
        have fb1 := five_set HR0.out (.int .i64 21) (.int .i64 0) (.int .i64 0) (.int .i64 0) (.slice A 0 d)
        have fk1 := five_keep w1 w.heap.size (.int .i64 21) (.int .i64 0) (.int .i64 0) (.int .i64 0) (.slice A 0 d)
        generalize ((((w1.setCell ⟨w.heap.size, 0, none⟩ (.int .i64 21)).setCell ⟨w.heap.size, 1, none⟩ (.int .i64 0)).setCell ⟨w.heap.size, 2, none⟩ (.int .i64 0)).setCell ⟨w.heap.size, 3, none⟩ (.int .i64 0)).setCell ⟨w.heap.size, 4, none⟩ (.slice A 0 d) = w9 at *
        obtain ⟨v0, v1, v2, v3, v4⟩ := five_cells fb1
        refine bodyPost_ret (v := .tuple #[instrV ⟨21, 0, 0, 0, cs⟩ (.slice A 0 d), .bool false]) (by simp [results, instrV, Tryz.results84, go_sem, v0, v1, v2, v3, v4]) rfl ?_
        have hrr := R_keepS HR.out fk1 (fun j hj => by show ¬ j = w.heap.size; omega)
        rw [HCL2.out] at hrr
        exact ⟨⟨21, 0, 0, 0, cs⟩, .slice A 0 d, rfl, fun y h => (by cases h), R_keepS (Kd.R_mono hrr (fun j hj => by omega)) (S := fun _ => False) (Keep.refl _ w9).drew (fun _ _ h => h), (Keep.belowS hb fk1 hb.size (fun j h => by omega)).drew⟩
      · have hE : E = some cs := by have := HCH.out; rw [if_neg (by rw [HCL2.out]; exact hz)] at this; exact this.symm
        obtain rfl := hE
        have g0 : 0 < cl := by omega
        have g0' : (0 : Int) < (cl : Int) := by omega
        clear hz
        go_wp2_with fail
        go_region
        go_wp2
        have fb1 := five_set HR0.out (.int .i64 21) (.int .i64 0) (.int .i64 0) (.int .i64 0) (.slice A cl d)
        have fk1 := five_keep w1 w.heap.size (.int .i64 21) (.int .i64 0) (.int .i64 0) (.int .i64 0) (.slice A cl d)
        generalize ((((w1.setCell ⟨w.heap.size, 0, none⟩ (.int .i64 21)).setCell ⟨w.heap.size, 1, none⟩ (.int .i64 0)).setCell ⟨w.heap.size, 2, none⟩ (.int .i64 0)).setCell ⟨w.heap.size, 3, none⟩ (.int .i64 0)).setCell ⟨w.heap.size, 4, none⟩ (.slice A cl d) = w9 at *
        obtain ⟨v0, v1, v2, v3, v4⟩ := five_cells fb1
        refine bodyPost_ret (v := .tuple #[instrV ⟨21, 0, 0, 0, cs⟩ (.slice A cl d), .bool true]) (by simp [results, instrV, Tryz.results84, go_sem, v0, v1, v2, v3, v4]) rfl ?_
        have hrr := R_keepS HR.out fk1 (fun j hj => by show ¬ j = w.heap.size; omega)
        rw [HCL2.out] at hrr
        exact ⟨⟨21, 0, 0, 0, cs⟩, .slice A cl d, rfl, fun y h => (by simpa using h), R_keepS (Kd.R_mono hrr (fun j hj => by omega)) (S := fun _ => False) (Keep.refl _ w9).drew (fun _ _ h => h), (Keep.belowS hb fk1 hb.size (fun j h => by omega)).drew⟩
    · rw [if_neg (by rw [HM.out]; exact hm0)] at hch
      have hie : M.isEmpty = false := by
        cases M with
        | nil => exact absurd (HM.out.symm) (by simpa using hm0)
        | cons a l => rfl
      rw [hie] at hemp
      have g0 : 0 < m := by omega
      have g0' : (0 : Int) < (m : Int) := by omega
      have hix0 := fun w => (show (Instr.index 9 (.string (strA M)) (.int .i64 0)).run Tryz.prog w = .ok (.int .u8 (chr M 0 : Int)) w from Tryz.idx_strA M 0 (by rw [HM.out]; exact g0) HMA.out w)
      have hc128 := chr_lt HMA.out 0
      obtain ⟨hd, hhd⟩ : ∃ hd, rhead M = hd := ⟨_, rfl⟩
      rw [hhd] at hch
      have HHD := hidP hhd
      have HCH := hidP hch
      unfold rhead at hhd
      obtain ⟨c0, hc0⟩ : ∃ c0, chr M 0 = c0 := ⟨_, rfl⟩
      rw [hc0] at hix0 hc128 hhd
      clear hch hie hc0
      by_cases h115 : c0 = 115 ∨ c0 = 114
      · rw [if_pos h115] at hhd
        by_cases h3 : m < 3
        · rw [if_pos (by rw [HM.out]; exact h3)] at hhd
          have hE : E = none := by
            have := HCH.out
            rw [← hhd] at this
            exact this.symm
          obtain rfl := hE
          have g3 : (m : Int) < 3 := by omega
          clear hhd h3
          rcases h115 with rfl | rfl
          ·
            go_upto_region 10 with fail
            have HR4 := hidP (blk_below HR0.out (bnew (brefl w1) (.cells #[.int .i64 1, .int .i64 0, .int .i64 0, .int .i64 0] 109)))
            have hB4 := bstep hb (bnew (brefl w1) (.cells #[.int .i64 1, .int .i64 0, .int .i64 0, .int .i64 0] 109))
            generalize w1.alloc (.cells #[.int .i64 1, .int .i64 0, .int .i64 0, .int .i64 0] 109) = w4 at *
            obtain ⟨rc0, rc1, rc2, rc3, rc4⟩ := five_cells HR4.out
            have rf0 := blk_frozen HR4.out 0
            have rf1 := blk_frozen HR4.out 1
            have rf2 := blk_frozen HR4.out 2
            have rf3 := blk_frozen HR4.out 3
            have rf4 := blk_frozen HR4.out 4
            try go_wp2
            have fb1 := five_set HR4.out (.int .i64 0) (.int .i64 0) (.int .i64 0) (.int .i64 0) (.slice none 0 0)
            have fk1 := five_keep w4 w.heap.size (.int .i64 0) (.int .i64 0) (.int .i64 0) (.int .i64 0) (.slice none 0 0)
            generalize ((((w4.setCell ⟨w.heap.size, 0, none⟩ (.int .i64 0)).setCell ⟨w.heap.size, 1, none⟩ (.int .i64 0)).setCell ⟨w.heap.size, 2, none⟩ (.int .i64 0)).setCell ⟨w.heap.size, 3, none⟩ (.int .i64 0)).setCell ⟨w.heap.size, 4, none⟩ (.slice none 0 0) = w9 at *
            obtain ⟨v0, v1, v2, v3, v4⟩ := five_cells fb1
            refine bodyPost_ret (v := .tuple #[instrV instrZ (.slice none 0 0), .bool false]) (by simp [results, instrV, instrZ, Tryz.results84, go_sem, v0, v1, v2, v3, v4]) rfl ?_
            exact ⟨instrZ, .slice none 0 0, rfl, fun y h => (by cases h), Kd.R_nil _ _ _ _ _, Keep.belowS hB4 fk1 (hB4).size (fun j h => by omega)⟩
          ·
            go_upto_region 10 with fail
            have HR4 := hidP (blk_below HR0.out (bnew (brefl w1) (.cells #[.int .i64 2, .int .i64 0, .int .i64 0, .int .i64 0] 109)))
            have hB4 := bstep hb (bnew (brefl w1) (.cells #[.int .i64 2, .int .i64 0, .int .i64 0, .int .i64 0] 109))
            generalize w1.alloc (.cells #[.int .i64 2, .int .i64 0, .int .i64 0, .int .i64 0] 109) = w4 at *
            obtain ⟨rc0, rc1, rc2, rc3, rc4⟩ := five_cells HR4.out
            have rf0 := blk_frozen HR4.out 0
            have rf1 := blk_frozen HR4.out 1
            have rf2 := blk_frozen HR4.out 2
            have rf3 := blk_frozen HR4.out 3
            have rf4 := blk_frozen HR4.out 4
            try go_wp2
            have fb1 := five_set HR4.out (.int .i64 0) (.int .i64 0) (.int .i64 0) (.int .i64 0) (.slice none 0 0)
            have fk1 := five_keep w4 w.heap.size (.int .i64 0) (.int .i64 0) (.int .i64 0) (.int .i64 0) (.slice none 0 0)
            generalize ((((w4.setCell ⟨w.heap.size, 0, none⟩ (.int .i64 0)).setCell ⟨w.heap.size, 1, none⟩ (.int .i64 0)).setCell ⟨w.heap.size, 2, none⟩ (.int .i64 0)).setCell ⟨w.heap.size, 3, none⟩ (.int .i64 0)).setCell ⟨w.heap.size, 4, none⟩ (.slice none 0 0) = w9 at *
            obtain ⟨v0, v1, v2, v3, v4⟩ := five_cells fb1
            refine bodyPost_ret (v := .tuple #[instrV instrZ (.slice none 0 0), .bool false]) (by simp [results, instrV, instrZ, Tryz.results84, go_sem, v0, v1, v2, v3, v4]) rfl ?_
            exact ⟨instrZ, .slice none 0 0, rfl, fun y h => (by cases h), Kd.R_nil _ _ _ _ _, Keep.belowS hB4 fk1 (hB4).size (fun j h => by omega)⟩
        · rw [if_neg (by rw [HM.out]; exact h3)] at hhd
          have g3 : ¬ (m : Int) < 3 := by omega
          have gm1 : (1 : Int) < (m : Int) := by omega
          have gm2 : (2 : Int) < (m : Int) := by omega
          have gm3 : (3 : Int) ≤ (m : Int) := by omega
          have hix1 := fun w => (show (Instr.index 9 (.string (strA M)) (.int .i64 1)).run Tryz.prog w = .ok (.int .u8 (chr M 1 : Int)) w from Tryz.idx_strA M 1 (by rw [HM.out]; omega) HMA.out w)
          have hix2 := fun w => (show (Instr.index 9 (.string (strA M)) (.int .i64 2)).run Tryz.prog w = .ok (.int .u8 (chr M 2 : Int)) w from Tryz.idx_strA M 2 (by rw [HM.out]; omega) HMA.out w)
          have hc1 := chr_lt HMA.out 1
          have hc2 := chr_lt HMA.out 2
          have hw1 : IntKind.i64.wrap ((chr M 1 : Nat) : Int) = ((chr M 1 : Nat) : Int) := IntWalk.i64_in _ (by omega)
          have hw2 : IntKind.i64.wrap ((chr M 2 : Nat) : Int) = ((chr M 2 : Nat) : Int) := IntWalk.i64_in _ (by omega)
          have hg1 := fun w => refReg_any (chr M 1 : Int) (by omega) (by omega) w
          have hg2 := fun w => refReg_any (chr M 2 : Int) (by omega) (by omega) w
          obtain ⟨d1, hd1⟩ : ∃ d1, chr M 1 = d1 := ⟨_, rfl⟩
          obtain ⟨d2, hd2⟩ : ∃ d2, chr M 2 = d2 := ⟨_, rfl⟩
          rw [hd1] at hix1 hw1 hg1 hhd
          rw [hd2] at hix2 hw2 hg2 hhd
          obtain ⟨⟨n1, k1⟩, hN1⟩ : ∃ R, regR (d1 : Int) = R := ⟨_, rfl⟩
          obtain ⟨⟨n2, k2⟩, hN2⟩ : ∃ R, regR (d2 : Int) = R := ⟨_, rfl⟩
          rw [hN1] at hg1 hhd
          rw [hN2] at hg2 hhd
          have HG1 := hidP hg1
          have HG2 := hidP hg2
          have hlo := cut_lo M m 3 HM.out
          clear hg1 hg2 hN1 hN2 hd1 hd2 hc1 hc2
          rcases h115 with rfl | rfl
          ·
            go_wp2_with fail
            refine (HG1.out _).mono ?_
            rintro e w2 ⟨rfl, rfl⟩
            go_wp2_with fail
            refine (HG2.out _).mono ?_
            rintro e w2 ⟨rfl, rfl⟩
            cases k1
            · have hE : E = none := by
                have := HCH.out
                rw [if_pos (.inl rfl)] at hhd
                rw [← hhd] at this
                exact this.symm
              obtain rfl := hE
              clear hhd
              go_upto_region 15 with fail
              have HR4 := hidP (blk_below HR0.out (bnew (brefl w1) (.cells #[.int .i64 1, .int .i64 n1, .int .i64 n2, .int .i64 0] 109)))
              have hB4 := bstep hb (bnew (brefl w1) (.cells #[.int .i64 1, .int .i64 n1, .int .i64 n2, .int .i64 0] 109))
              generalize w1.alloc (.cells #[.int .i64 1, .int .i64 n1, .int .i64 n2, .int .i64 0] 109) = w4 at *
              obtain ⟨rc0, rc1, rc2, rc3, rc4⟩ := five_cells HR4.out
              have rf0 := blk_frozen HR4.out 0
              have rf1 := blk_frozen HR4.out 1
              have rf2 := blk_frozen HR4.out 2
              have rf3 := blk_frozen HR4.out 3
              have rf4 := blk_frozen HR4.out 4
              try go_wp2
              have fb1 := five_set HR4.out (.int .i64 0) (.int .i64 0) (.int .i64 0) (.int .i64 0) (.slice none 0 0)
              have fk1 := five_keep w4 w.heap.size (.int .i64 0) (.int .i64 0) (.int .i64 0) (.int .i64 0) (.slice none 0 0)
              generalize ((((w4.setCell ⟨w.heap.size, 0, none⟩ (.int .i64 0)).setCell ⟨w.heap.size, 1, none⟩ (.int .i64 0)).setCell ⟨w.heap.size, 2, none⟩ (.int .i64 0)).setCell ⟨w.heap.size, 3, none⟩ (.int .i64 0)).setCell ⟨w.heap.size, 4, none⟩ (.slice none 0 0) = w9 at *
              obtain ⟨v0, v1, v2, v3, v4⟩ := five_cells fb1
              refine bodyPost_ret (v := .tuple #[instrV instrZ (.slice none 0 0), .bool false]) (by simp [results, instrV, instrZ, Tryz.results84, go_sem, v0, v1, v2, v3, v4]) rfl ?_
              exact ⟨instrZ, .slice none 0 0, rfl, fun y h => (by cases h), Kd.R_nil _ _ _ _ _, Keep.belowS hB4 fk1 (hB4).size (fun j h => by omega)⟩
            · cases k2
              · have hE : E = none := by
                  have := HCH.out
                  rw [if_pos (.inr rfl)] at hhd
                  rw [← hhd] at this
                  exact this.symm
                obtain rfl := hE
                clear hhd
                go_upto_region 15 with fail
                have HR4 := hidP (blk_below HR0.out (bnew (brefl w1) (.cells #[.int .i64 1, .int .i64 n1, .int .i64 n2, .int .i64 0] 109)))
                have hB4 := bstep hb (bnew (brefl w1) (.cells #[.int .i64 1, .int .i64 n1, .int .i64 n2, .int .i64 0] 109))
                generalize w1.alloc (.cells #[.int .i64 1, .int .i64 n1, .int .i64 n2, .int .i64 0] 109) = w4 at *
                obtain ⟨rc0, rc1, rc2, rc3, rc4⟩ := five_cells HR4.out
                have rf0 := blk_frozen HR4.out 0
                have rf1 := blk_frozen HR4.out 1
                have rf2 := blk_frozen HR4.out 2
                have rf3 := blk_frozen HR4.out 3
                have rf4 := blk_frozen HR4.out 4
                try go_wp2
                have fb1 := five_set HR4.out (.int .i64 0) (.int .i64 0) (.int .i64 0) (.int .i64 0) (.slice none 0 0)
                have fk1 := five_keep w4 w.heap.size (.int .i64 0) (.int .i64 0) (.int .i64 0) (.int .i64 0) (.slice none 0 0)
                generalize ((((w4.setCell ⟨w.heap.size, 0, none⟩ (.int .i64 0)).setCell ⟨w.heap.size, 1, none⟩ (.int .i64 0)).setCell ⟨w.heap.size, 2, none⟩ (.int .i64 0)).setCell ⟨w.heap.size, 3, none⟩ (.int .i64 0)).setCell ⟨w.heap.size, 4, none⟩ (.slice none 0 0) = w9 at *
                obtain ⟨v0, v1, v2, v3, v4⟩ := five_cells fb1
                refine bodyPost_ret (v := .tuple #[instrV instrZ (.slice none 0 0), .bool false]) (by simp [results, instrV, instrZ, Tryz.results84, go_sem, v0, v1, v2, v3, v4]) rfl ?_
                exact ⟨instrZ, .slice none 0 0, rfl, fun y h => (by cases h), Kd.R_nil _ _ _ _ _, Keep.belowS hB4 fk1 (hB4).size (fun j h => by omega)⟩
              · rw [if_neg (by simp)] at hhd
                simp at hhd
                have hch2 := HCH.out
                rw [← hhd] at hch2
                dsimp only at hch2
                have hTA : ∀ x ∈ M.drop 3, x < 128 := fun x hx => HMA.out x (by first | exact List.mem_of_mem_drop hx | exact List.mem_of_mem_tail hx)
                have hTL : (M.drop 3).length < m := by first | (rw [List.length_drop, HM.out]; omega) | (rw [List.length_tail, HM.out]; omega)
                obtain ⟨T, hT⟩ : ∃ T, M.drop 3 = T := ⟨_, rfl⟩
                go_upto_region 20 with fail
                have hb4 := bnew (brefl w1) (.cells #[.int .i64 1, .int .i64 n1, .int .i64 n2, .int .i64 0] 109)
                have hn4 := blk_new w1 (.cells #[.int .i64 1, .int .i64 n1, .int .i64 n2, .int .i64 0] 109)
                generalize w1.alloc (.cells #[.int .i64 1, .int .i64 n1, .int .i64 n2, .int .i64 0] 109) = w4 at *
                rw [hT] at hch2 hTA hTL
                obtain ⟨rt, hrt⟩ : ∃ rt, rtail 1 n1 n2 T = rt := ⟨_, rfl⟩
                rw [hrt] at hch2
                have hrl := restN_le T
                have hts := strA_size T
                obtain ⟨tn, htn⟩ : ∃ tn, T.length = tn := ⟨_, rfl⟩
                rw [htn] at hts hTL hrl
                have hre := fun w => rest_any T w hTA (by omega)
                obtain ⟨r, hr⟩ : ∃ r, restN T = r := ⟨_, rfl⟩
                have HRR := hidP hr
                rw [hr] at hrl hre
                have hcut := cut_hi T r
                have hlo2 := cut_lo T tn r htn
                have hnb := fun w => refNumber_any (strA (T.take r)) w (by rw [strA_size]; have := List.length_take_le r T; omega)
                obtain ⟨⟨nv, nk⟩, hN⟩ : ∃ R, numR (strA (T.take r)) = R := ⟨_, rfl⟩
                have HNN := hidP hN
                rw [hN] at hnb
                have q1 : (r : Int) ≤ (tn : Int) := by omega
                have HRT := hidP hrt
                have HRE := hidP hre
                have HNB := hidP hnb
                have HTA := hidP hTA
                have HTN := hidP htn
                have HCH2 := hidP hch2
                have HN4 := hidP hn4
                have HR4 := hidP (blk_below HR0.out hb4)
                have HX4 := hidP (blk_below HX0.out hb4)
                have hO4 := hidP (Kd.R_below HR.out hb4)
                have hB4 := bstep hb hb4
                have hz4 := hB4.size
                have hzw := hb.size
                have hz14 := hb4.size
                have hnl := blk_lt hn4
                clear hrt hre hnb hN hr hTA htn hch2 hn4 hhd hT
                go_wp2_with fail
                refine (HRE.out _).mono ?_
                rintro e w5 ⟨rfl, rfl⟩
                go_wp2_with fail
                refine (HNB.out _).mono ?_
                rintro e w5 ⟨rfl, hb5⟩
                have HN5 := hidP (blk_below HN4.out hb5)
                have HR5 := hidP (blk_below HR4.out hb5)
                have HX5 := hidP (blk_below HX4.out hb5)
                have hO5 := hidP (Kd.R_below hO4.out hb5)
                have hB5 := bstep hB4 hb5
                have hb15 := bstep hb4 hb5
                have hz15 := hb15.size
                have hz5 := hb5.size
                cases nk
                · have hE : E = none := by
                    have h1 := HRT.out
                    rw [rtail_no HRR.out HNN.out] at h1
                    have h2 := HCH2.out
                    rw [← h1] at h2
                    exact h2.symm
                  obtain rfl := hE
                  obtain ⟨rc0, rc1, rc2, rc3, rc4⟩ := five_cells HR5.out
                  have rf0 := blk_frozen HR5.out 0
                  have rf1 := blk_frozen HR5.out 1
                  have rf2 := blk_frozen HR5.out 2
                  have rf3 := blk_frozen HR5.out 3
                  have rf4 := blk_frozen HR5.out 4
                  try go_wp2
                  have fb1 := five_set HR5.out (.int .i64 0) (.int .i64 0) (.int .i64 0) (.int .i64 0) (.slice none 0 0)
                  have fk1 := five_keep w5 w.heap.size (.int .i64 0) (.int .i64 0) (.int .i64 0) (.int .i64 0) (.slice none 0 0)
                  generalize ((((w5.setCell ⟨w.heap.size, 0, none⟩ (.int .i64 0)).setCell ⟨w.heap.size, 1, none⟩ (.int .i64 0)).setCell ⟨w.heap.size, 2, none⟩ (.int .i64 0)).setCell ⟨w.heap.size, 3, none⟩ (.int .i64 0)).setCell ⟨w.heap.size, 4, none⟩ (.slice none 0 0) = w9 at *
                  obtain ⟨v0, v1, v2, v3, v4⟩ := five_cells fb1
                  refine bodyPost_ret (v := .tuple #[instrV instrZ (.slice none 0 0), .bool false]) (by simp [results, instrV, instrZ, Tryz.results84, go_sem, v0, v1, v2, v3, v4]) rfl ?_
                  exact ⟨instrZ, .slice none 0 0, rfl, fun y h => (by cases h), Kd.R_nil _ _ _ _ _, Keep.belowS hB5 fk1 (hB5).size (fun j h => by omega)⟩
                · have hrt := HRT.out
                  obtain ⟨c50, c51, c52, c53⟩ := four_cells HN5.out
                  have cf53 := blk_frozen HN5.out 3
                  have hl5 := blk_lt HN5.out
                  go_wp2_with fail
                  go_region
                  go_upto_region 25 with fail
                  have hn6 : (w5.setCell ⟨w1.heap.size, 3, none⟩ (.int .i64 nv)).drew.heap[w1.heap.size]? = some (.cells #[.int .i64 1, .int .i64 n1, .int .i64 n2, .int .i64 nv] 109 (0, 0)) := blk_drew ((blk_set HN5.out 3 (.int .i64 nv)).trans rfl)
                  have hk6 : Keep (· = w1.heap.size) w5 (w5.setCell ⟨w1.heap.size, 3, none⟩ (.int .i64 nv)).drew := ((Keep.refl (· = w1.heap.size) w5).setCell (p := ⟨w1.heap.size, 3, none⟩) rfl _).drew
                  generalize (w5.setCell ⟨w1.heap.size, 3, none⟩ (.int .i64 nv)).drew = w6 at *
                  have hz46 := hk6.size
                  have HR6 := hidP ((hk6.block _ (blk_lt HR5.out) (by omega)).trans HR5.out)
                  have HX6 := hidP ((hk6.block _ (blk_lt HX5.out) (by omega)).trans HX5.out)
                  have hO6 := Kd.R_step HR.out (w1 := w6) (fun j _ hlt => (hk6.block j (by omega) (by show ¬ j = w1.heap.size; omega)).trans (hb15.block j hlt))
                  have HO6 := hidP hO6
                  have hB6 : Below w.heap.size w w6 := Keep.belowS hB5 hk6 hB5.size (fun j h => by omega)
                  have hz6 := hB6.size
                  obtain ⟨x0, x1, x2, x3, x4⟩ := five_cells HX6.out
                  obtain ⟨y0, y1, y2, y3⟩ := four_cells hn6
                  have hcl : (cs.length + 1) * 32 ≤ 140737488355328 := by have := HCL.out; rw [HM.out] at this; omega
                  have HN6 := hidP hn6
                  have HL6 := hidP (blk_lt hn6)
                  have HK6 := hidP hk6
                  have HNEO : Hid (some w1.heap.size ≠ (Value.slice A cs.length d).ownBlock) := fun e => by
                    obtain ⟨inner, ho⟩ := Kd.R_own HR.out
                    have := own_lt ho _ e.symm
                    omega
                  clear hO6 hn6 hk6 hb5 hb15
                  by_cases hend : (1 : Int) = 3 ∧ ¬ (T.drop r).length = 0
                  ·
                    exact absurd hend.1 (by decide)
                  · rw [rtail_yes HRR.out HNN.out hend] at hrt
                    have hE : E = rchF K (T.drop r) (cs ++ [⟨1, n1, n2, nv⟩]) := by
                      have h2 := HCH2.out
                      rw [← hrt] at h2
                      exact h2.symm
                    have HEE := hidP hE.symm
                    have t8 : (1 : Int) = 3 → (strA (T.drop r)).toList.isEmpty = true := fun h => by
                      rw [strA_empty]
                      cases hq : T.drop r with
                      | nil => rfl
                      | cons _ _ => exact absurd ⟨h, by rw [hq]; simp⟩ hend
                    try have t9 := t8 rfl
                    clear hrt hE hend t8
                    go_wp2_with (at_builtin; go_loud (refine (Kd.R_append kC w.heap.size rfl (.tmp 80) (.tmp 82) 54 109 _ 32 rfl Tryz.underlying54 Tryz.infoC rfl (by decide) (by decide) (.slice A cs.length d) cs ⟨1, n1, n2, nv⟩ (caseC ⟨1, n1, n2, nv⟩) (fun j => w.heap.size + 2 ≤ j) (fun _ => False) rfl rfl (kC_mkM _ _ _ _) (fun j hj => hj.elim) (fun j hj => by omega) HO6.out (Below.refl _ _) hz6 hcl ?_)); intro v7 w7 hR7 hB7' hg7 hat7; obtain ⟨A7, c7, rfl⟩ := Kd.R_slice hR7; have HX7 := hidP (blk_grown HX6.out hg7 (fun e => (by have := HO6.out.1 _ e.symm; omega))); have HR7 := hidP (blk_grown HR6.out hg7 (fun e => (by have := HO6.out.1 _ e.symm; omega))); have HN7 := hidP (blk_grown HN6.out hg7 HNEO.out); have x7 : w7.cell? ⟨w.heap.size + 1, 4, none⟩ = some _ := (blk_cell HX7.out 4).trans rfl; have xf7 := blk_frozen HX7.out 4; have y7 : w7.cell? ⟨w1.heap.size, 0, none⟩ = some _ := (blk_cell HN7.out 0).trans rfl; have hz7 := hg7.size; have hlw7 : w1.heap.size < w7.heap.size := blk_lt HN7.out; have HOR7 := hidP hR7; obtain ⟨rc0, rc1, rc2, rc3, rc4⟩ := five_cells HR7.out; have rf0 := blk_frozen HR7.out 0; have rf1 := blk_frozen HR7.out 1; have rf2 := blk_frozen HR7.out 2; have rf3 := blk_frozen HR7.out 3; have rf4 := blk_frozen HR7.out 4; have hB7 : Below w.heap.size w w7 := hB6.trans (Keep.below (S := fun j => w.heap.size ≤ j) (.of_grown hg7 (fun j e => (by have := HO6.out.1 j e; omega))) hz6 (fun j h => h)); clear hR7 hB7' hat7)
                    have hX8 := (blk_set HX7.out 4 (.slice A7 (cs.length + 1) c7)).trans rfl
                    have hR8 : (w7.setCell ⟨w.heap.size + 1, 4, none⟩ (.slice A7 (cs.length + 1) c7)).heap[w.heap.size]? = _ := blk_far (p := ⟨w.heap.size + 1, 4, none⟩) HR7.out (by show w.heap.size ≠ w.heap.size + 1; omega) (.slice A7 (cs.length + 1) c7)
                    have hB8 := hB7.setCell (p := ⟨w.heap.size + 1, 4, none⟩) (by show w.heap.size ≤ w.heap.size + 1; omega) (.slice A7 (cs.length + 1) c7)
                    have hO8 := Kd.R_far HOR7.out (p := ⟨w.heap.size + 1, 4, none⟩) (fun j hj => by show j ≠ w.heap.size + 1; omega) (.slice A7 (cs.length + 1) c7)
                    have hlen : (cs ++ [(⟨1, n1, n2, nv⟩ : CaseD)]).length = cs.length + 1 := by rw [List.length_append]; rfl
                    rw [hlen] at hO8
                    refine ⟨⟨T.drop r, K, cs ++ [(⟨1, n1, n2, nv⟩ : CaseD)], A7, c7, rfl, ?_, ?_, fun x hx => HTA.out x (List.mem_of_mem_drop hx), HEE, hR8, by rw [hlen]; exact hX8, by show kC.R _ _ _ _ _ _; rw [hlen]; exact hO8, hB8⟩, ?_⟩
                    · have := HK.out
                      show (T.drop r).length < K
                      rw [List.length_drop, HTN.out]
                      rw [HM.out] at this
                      omega
                    · have := HCL.out
                      show (cs ++ [(⟨1, n1, n2, nv⟩ : CaseD)]).length + (T.drop r).length ≤ 1000000
                      rw [hlen, List.length_drop, HTN.out]
                      rw [HM.out] at this
                      omega
                    · rw [sizeS_strA, sizeS_strA, List.length_drop, HTN.out, HM.out]
                      omega
          ·
            go_wp2_with fail
            refine (HG1.out _).mono ?_
            rintro e w2 ⟨rfl, rfl⟩
            go_wp2_with fail
            refine (HG2.out _).mono ?_
            rintro e w2 ⟨rfl, rfl⟩
            cases k1
            · have hE : E = none := by
                have := HCH.out
                rw [if_pos (.inl rfl)] at hhd
                rw [← hhd] at this
                exact this.symm
              obtain rfl := hE
              clear hhd
              go_upto_region 15 with fail
              have HR4 := hidP (blk_below HR0.out (bnew (brefl w1) (.cells #[.int .i64 2, .int .i64 n1, .int .i64 n2, .int .i64 0] 109)))
              have hB4 := bstep hb (bnew (brefl w1) (.cells #[.int .i64 2, .int .i64 n1, .int .i64 n2, .int .i64 0] 109))
              generalize w1.alloc (.cells #[.int .i64 2, .int .i64 n1, .int .i64 n2, .int .i64 0] 109) = w4 at *
              obtain ⟨rc0, rc1, rc2, rc3, rc4⟩ := five_cells HR4.out
              have rf0 := blk_frozen HR4.out 0
              have rf1 := blk_frozen HR4.out 1
              have rf2 := blk_frozen HR4.out 2
              have rf3 := blk_frozen HR4.out 3
              have rf4 := blk_frozen HR4.out 4
              try go_wp2
              have fb1 := five_set HR4.out (.int .i64 0) (.int .i64 0) (.int .i64 0) (.int .i64 0) (.slice none 0 0)
              have fk1 := five_keep w4 w.heap.size (.int .i64 0) (.int .i64 0) (.int .i64 0) (.int .i64 0) (.slice none 0 0)
              generalize ((((w4.setCell ⟨w.heap.size, 0, none⟩ (.int .i64 0)).setCell ⟨w.heap.size, 1, none⟩ (.int .i64 0)).setCell ⟨w.heap.size, 2, none⟩ (.int .i64 0)).setCell ⟨w.heap.size, 3, none⟩ (.int .i64 0)).setCell ⟨w.heap.size, 4, none⟩ (.slice none 0 0) = w9 at *
              obtain ⟨v0, v1, v2, v3, v4⟩ := five_cells fb1
              refine bodyPost_ret (v := .tuple #[instrV instrZ (.slice none 0 0), .bool false]) (by simp [results, instrV, instrZ, Tryz.results84, go_sem, v0, v1, v2, v3, v4]) rfl ?_
              exact ⟨instrZ, .slice none 0 0, rfl, fun y h => (by cases h), Kd.R_nil _ _ _ _ _, Keep.belowS hB4 fk1 (hB4).size (fun j h => by omega)⟩
            · cases k2
              · have hE : E = none := by
                  have := HCH.out
                  rw [if_pos (.inr rfl)] at hhd
                  rw [← hhd] at this
                  exact this.symm
                obtain rfl := hE
                clear hhd
                go_upto_region 15 with fail
                have HR4 := hidP (blk_below HR0.out (bnew (brefl w1) (.cells #[.int .i64 2, .int .i64 n1, .int .i64 n2, .int .i64 0] 109)))
                have hB4 := bstep hb (bnew (brefl w1) (.cells #[.int .i64 2, .int .i64 n1, .int .i64 n2, .int .i64 0] 109))
                generalize w1.alloc (.cells #[.int .i64 2, .int .i64 n1, .int .i64 n2, .int .i64 0] 109) = w4 at *
                obtain ⟨rc0, rc1, rc2, rc3, rc4⟩ := five_cells HR4.out
                have rf0 := blk_frozen HR4.out 0
                have rf1 := blk_frozen HR4.out 1
                have rf2 := blk_frozen HR4.out 2
                have rf3 := blk_frozen HR4.out 3
                have rf4 := blk_frozen HR4.out 4
                try go_wp2
                have fb1 := five_set HR4.out (.int .i64 0) (.int .i64 0) (.int .i64 0) (.int .i64 0) (.slice none 0 0)
                have fk1 := five_keep w4 w.heap.size (.int .i64 0) (.int .i64 0) (.int .i64 0) (.int .i64 0) (.slice none 0 0)
                generalize ((((w4.setCell ⟨w.heap.size, 0, none⟩ (.int .i64 0)).setCell ⟨w.heap.size, 1, none⟩ (.int .i64 0)).setCell ⟨w.heap.size, 2, none⟩ (.int .i64 0)).setCell ⟨w.heap.size, 3, none⟩ (.int .i64 0)).setCell ⟨w.heap.size, 4, none⟩ (.slice none 0 0) = w9 at *
                obtain ⟨v0, v1, v2, v3, v4⟩ := five_cells fb1
                refine bodyPost_ret (v := .tuple #[instrV instrZ (.slice none 0 0), .bool false]) (by simp [results, instrV, instrZ, Tryz.results84, go_sem, v0, v1, v2, v3, v4]) rfl ?_
                exact ⟨instrZ, .slice none 0 0, rfl, fun y h => (by cases h), Kd.R_nil _ _ _ _ _, Keep.belowS hB4 fk1 (hB4).size (fun j h => by omega)⟩
              · rw [if_neg (by simp)] at hhd
                simp at hhd
                have hch2 := HCH.out
                rw [← hhd] at hch2
                dsimp only at hch2
                have hTA : ∀ x ∈ M.drop 3, x < 128 := fun x hx => HMA.out x (by first | exact List.mem_of_mem_drop hx | exact List.mem_of_mem_tail hx)
                have hTL : (M.drop 3).length < m := by first | (rw [List.length_drop, HM.out]; omega) | (rw [List.length_tail, HM.out]; omega)
                obtain ⟨T, hT⟩ : ∃ T, M.drop 3 = T := ⟨_, rfl⟩
                go_upto_region 20 with fail
                have hb4 := bnew (brefl w1) (.cells #[.int .i64 2, .int .i64 n1, .int .i64 n2, .int .i64 0] 109)
                have hn4 := blk_new w1 (.cells #[.int .i64 2, .int .i64 n1, .int .i64 n2, .int .i64 0] 109)
                generalize w1.alloc (.cells #[.int .i64 2, .int .i64 n1, .int .i64 n2, .int .i64 0] 109) = w4 at *
                rw [hT] at hch2 hTA hTL
                obtain ⟨rt, hrt⟩ : ∃ rt, rtail 2 n1 n2 T = rt := ⟨_, rfl⟩
                rw [hrt] at hch2
                have hrl := restN_le T
                have hts := strA_size T
                obtain ⟨tn, htn⟩ : ∃ tn, T.length = tn := ⟨_, rfl⟩
                rw [htn] at hts hTL hrl
                have hre := fun w => rest_any T w hTA (by omega)
                obtain ⟨r, hr⟩ : ∃ r, restN T = r := ⟨_, rfl⟩
                have HRR := hidP hr
                rw [hr] at hrl hre
                have hcut := cut_hi T r
                have hlo2 := cut_lo T tn r htn
                have hnb := fun w => refNumber_any (strA (T.take r)) w (by rw [strA_size]; have := List.length_take_le r T; omega)
                obtain ⟨⟨nv, nk⟩, hN⟩ : ∃ R, numR (strA (T.take r)) = R := ⟨_, rfl⟩
                have HNN := hidP hN
                rw [hN] at hnb
                have q1 : (r : Int) ≤ (tn : Int) := by omega
                have HRT := hidP hrt
                have HRE := hidP hre
                have HNB := hidP hnb
                have HTA := hidP hTA
                have HTN := hidP htn
                have HCH2 := hidP hch2
                have HN4 := hidP hn4
                have HR4 := hidP (blk_below HR0.out hb4)
                have HX4 := hidP (blk_below HX0.out hb4)
                have hO4 := hidP (Kd.R_below HR.out hb4)
                have hB4 := bstep hb hb4
                have hz4 := hB4.size
                have hzw := hb.size
                have hz14 := hb4.size
                have hnl := blk_lt hn4
                clear hrt hre hnb hN hr hTA htn hch2 hn4 hhd hT
                go_wp2_with fail
                refine (HRE.out _).mono ?_
                rintro e w5 ⟨rfl, rfl⟩
                go_wp2_with fail
                refine (HNB.out _).mono ?_
                rintro e w5 ⟨rfl, hb5⟩
                have HN5 := hidP (blk_below HN4.out hb5)
                have HR5 := hidP (blk_below HR4.out hb5)
                have HX5 := hidP (blk_below HX4.out hb5)
                have hO5 := hidP (Kd.R_below hO4.out hb5)
                have hB5 := bstep hB4 hb5
                have hb15 := bstep hb4 hb5
                have hz15 := hb15.size
                have hz5 := hb5.size
                cases nk
                · have hE : E = none := by
                    have h1 := HRT.out
                    rw [rtail_no HRR.out HNN.out] at h1
                    have h2 := HCH2.out
                    rw [← h1] at h2
                    exact h2.symm
                  obtain rfl := hE
                  obtain ⟨rc0, rc1, rc2, rc3, rc4⟩ := five_cells HR5.out
                  have rf0 := blk_frozen HR5.out 0
                  have rf1 := blk_frozen HR5.out 1
                  have rf2 := blk_frozen HR5.out 2
                  have rf3 := blk_frozen HR5.out 3
                  have rf4 := blk_frozen HR5.out 4
                  try go_wp2
                  have fb1 := five_set HR5.out (.int .i64 0) (.int .i64 0) (.int .i64 0) (.int .i64 0) (.slice none 0 0)
                  have fk1 := five_keep w5 w.heap.size (.int .i64 0) (.int .i64 0) (.int .i64 0) (.int .i64 0) (.slice none 0 0)
                  generalize ((((w5.setCell ⟨w.heap.size, 0, none⟩ (.int .i64 0)).setCell ⟨w.heap.size, 1, none⟩ (.int .i64 0)).setCell ⟨w.heap.size, 2, none⟩ (.int .i64 0)).setCell ⟨w.heap.size, 3, none⟩ (.int .i64 0)).setCell ⟨w.heap.size, 4, none⟩ (.slice none 0 0) = w9 at *
                  obtain ⟨v0, v1, v2, v3, v4⟩ := five_cells fb1
                  refine bodyPost_ret (v := .tuple #[instrV instrZ (.slice none 0 0), .bool false]) (by simp [results, instrV, instrZ, Tryz.results84, go_sem, v0, v1, v2, v3, v4]) rfl ?_
                  exact ⟨instrZ, .slice none 0 0, rfl, fun y h => (by cases h), Kd.R_nil _ _ _ _ _, Keep.belowS hB5 fk1 (hB5).size (fun j h => by omega)⟩
                · have hrt := HRT.out
                  obtain ⟨c50, c51, c52, c53⟩ := four_cells HN5.out
                  have cf53 := blk_frozen HN5.out 3
                  have hl5 := blk_lt HN5.out
                  go_wp2_with fail
                  go_region
                  go_upto_region 25 with fail
                  have hn6 : (w5.setCell ⟨w1.heap.size, 3, none⟩ (.int .i64 nv)).drew.heap[w1.heap.size]? = some (.cells #[.int .i64 2, .int .i64 n1, .int .i64 n2, .int .i64 nv] 109 (0, 0)) := blk_drew ((blk_set HN5.out 3 (.int .i64 nv)).trans rfl)
                  have hk6 : Keep (· = w1.heap.size) w5 (w5.setCell ⟨w1.heap.size, 3, none⟩ (.int .i64 nv)).drew := ((Keep.refl (· = w1.heap.size) w5).setCell (p := ⟨w1.heap.size, 3, none⟩) rfl _).drew
                  generalize (w5.setCell ⟨w1.heap.size, 3, none⟩ (.int .i64 nv)).drew = w6 at *
                  have hz46 := hk6.size
                  have HR6 := hidP ((hk6.block _ (blk_lt HR5.out) (by omega)).trans HR5.out)
                  have HX6 := hidP ((hk6.block _ (blk_lt HX5.out) (by omega)).trans HX5.out)
                  have hO6 := Kd.R_step HR.out (w1 := w6) (fun j _ hlt => (hk6.block j (by omega) (by show ¬ j = w1.heap.size; omega)).trans (hb15.block j hlt))
                  have HO6 := hidP hO6
                  have hB6 : Below w.heap.size w w6 := Keep.belowS hB5 hk6 hB5.size (fun j h => by omega)
                  have hz6 := hB6.size
                  obtain ⟨x0, x1, x2, x3, x4⟩ := five_cells HX6.out
                  obtain ⟨y0, y1, y2, y3⟩ := four_cells hn6
                  have hcl : (cs.length + 1) * 32 ≤ 140737488355328 := by have := HCL.out; rw [HM.out] at this; omega
                  have HN6 := hidP hn6
                  have HL6 := hidP (blk_lt hn6)
                  have HK6 := hidP hk6
                  have HNEO : Hid (some w1.heap.size ≠ (Value.slice A cs.length d).ownBlock) := fun e => by
                    obtain ⟨inner, ho⟩ := Kd.R_own HR.out
                    have := own_lt ho _ e.symm
                    omega
                  clear hO6 hn6 hk6 hb5 hb15
                  by_cases hend : (2 : Int) = 3 ∧ ¬ (T.drop r).length = 0
                  ·
                    exact absurd hend.1 (by decide)
                  · rw [rtail_yes HRR.out HNN.out hend] at hrt
                    have hE : E = rchF K (T.drop r) (cs ++ [⟨2, n1, n2, nv⟩]) := by
                      have h2 := HCH2.out
                      rw [← hrt] at h2
                      exact h2.symm
                    have HEE := hidP hE.symm
                    have t8 : (2 : Int) = 3 → (strA (T.drop r)).toList.isEmpty = true := fun h => by
                      rw [strA_empty]
                      cases hq : T.drop r with
                      | nil => rfl
                      | cons _ _ => exact absurd ⟨h, by rw [hq]; simp⟩ hend
                    try have t9 := t8 rfl
                    clear hrt hE hend t8
                    go_wp2_with (at_builtin; go_loud (refine (Kd.R_append kC w.heap.size rfl (.tmp 80) (.tmp 82) 54 109 _ 32 rfl Tryz.underlying54 Tryz.infoC rfl (by decide) (by decide) (.slice A cs.length d) cs ⟨2, n1, n2, nv⟩ (caseC ⟨2, n1, n2, nv⟩) (fun j => w.heap.size + 2 ≤ j) (fun _ => False) rfl rfl (kC_mkM _ _ _ _) (fun j hj => hj.elim) (fun j hj => by omega) HO6.out (Below.refl _ _) hz6 hcl ?_)); intro v7 w7 hR7 hB7' hg7 hat7; obtain ⟨A7, c7, rfl⟩ := Kd.R_slice hR7; have HX7 := hidP (blk_grown HX6.out hg7 (fun e => (by have := HO6.out.1 _ e.symm; omega))); have HR7 := hidP (blk_grown HR6.out hg7 (fun e => (by have := HO6.out.1 _ e.symm; omega))); have HN7 := hidP (blk_grown HN6.out hg7 HNEO.out); have x7 : w7.cell? ⟨w.heap.size + 1, 4, none⟩ = some _ := (blk_cell HX7.out 4).trans rfl; have xf7 := blk_frozen HX7.out 4; have y7 : w7.cell? ⟨w1.heap.size, 0, none⟩ = some _ := (blk_cell HN7.out 0).trans rfl; have hz7 := hg7.size; have hlw7 : w1.heap.size < w7.heap.size := blk_lt HN7.out; have HOR7 := hidP hR7; obtain ⟨rc0, rc1, rc2, rc3, rc4⟩ := five_cells HR7.out; have rf0 := blk_frozen HR7.out 0; have rf1 := blk_frozen HR7.out 1; have rf2 := blk_frozen HR7.out 2; have rf3 := blk_frozen HR7.out 3; have rf4 := blk_frozen HR7.out 4; have hB7 : Below w.heap.size w w7 := hB6.trans (Keep.below (S := fun j => w.heap.size ≤ j) (.of_grown hg7 (fun j e => (by have := HO6.out.1 j e; omega))) hz6 (fun j h => h)); clear hR7 hB7' hat7)
                    have hX8 := (blk_set HX7.out 4 (.slice A7 (cs.length + 1) c7)).trans rfl
                    have hR8 : (w7.setCell ⟨w.heap.size + 1, 4, none⟩ (.slice A7 (cs.length + 1) c7)).heap[w.heap.size]? = _ := blk_far (p := ⟨w.heap.size + 1, 4, none⟩) HR7.out (by show w.heap.size ≠ w.heap.size + 1; omega) (.slice A7 (cs.length + 1) c7)
                    have hB8 := hB7.setCell (p := ⟨w.heap.size + 1, 4, none⟩) (by show w.heap.size ≤ w.heap.size + 1; omega) (.slice A7 (cs.length + 1) c7)
                    have hO8 := Kd.R_far HOR7.out (p := ⟨w.heap.size + 1, 4, none⟩) (fun j hj => by show j ≠ w.heap.size + 1; omega) (.slice A7 (cs.length + 1) c7)
                    have hlen : (cs ++ [(⟨2, n1, n2, nv⟩ : CaseD)]).length = cs.length + 1 := by rw [List.length_append]; rfl
                    rw [hlen] at hO8
                    refine ⟨⟨T.drop r, K, cs ++ [(⟨2, n1, n2, nv⟩ : CaseD)], A7, c7, rfl, ?_, ?_, fun x hx => HTA.out x (List.mem_of_mem_drop hx), HEE, hR8, by rw [hlen]; exact hX8, by show kC.R _ _ _ _ _ _; rw [hlen]; exact hO8, hB8⟩, ?_⟩
                    · have := HK.out
                      show (T.drop r).length < K
                      rw [List.length_drop, HTN.out]
                      rw [HM.out] at this
                      omega
                    · have := HCL.out
                      show (cs ++ [(⟨2, n1, n2, nv⟩ : CaseD)]).length + (T.drop r).length ≤ 1000000
                      rw [hlen, List.length_drop, HTN.out]
                      rw [HM.out] at this
                      omega
                    · rw [sizeS_strA, sizeS_strA, List.length_drop, HTN.out, HM.out]
                      omega
      · rw [if_neg h115] at hhd
        by_cases h101 : c0 = 101
        · rw [if_pos h101] at hhd
          have t1 : ((c0 : Int) == 115) = false := by simp; omega
          have t2 : ((c0 : Int) == 114) = false := by simp; omega
          have t3 : ((c0 : Int) != 101) = false := by simp [h101]
          have g1 : (1 : Int) ≤ (m : Int) := by omega
          have hlo := cut_lo M m 1 HM.out
          clear h115 h101
          simp only [List.drop_one] at hhd
          have hch2 := HCH.out
          rw [← hhd] at hch2
          dsimp only at hch2
          have hTA : ∀ x ∈ M.tail, x < 128 := fun x hx => HMA.out x (by first | exact List.mem_of_mem_drop hx | exact List.mem_of_mem_tail hx)
          have hTL : (M.tail).length < m := by first | (rw [List.length_drop, HM.out]; omega) | (rw [List.length_tail, HM.out]; omega)
          obtain ⟨T, hT⟩ : ∃ T, M.tail = T := ⟨_, rfl⟩
          go_upto_region 20 with fail
          have hb4 := bnew (brefl w1) (.cells #[.int .i64 3, .int .i64 0, .int .i64 0, .int .i64 0] 109)
          have hn4 := blk_new w1 (.cells #[.int .i64 3, .int .i64 0, .int .i64 0, .int .i64 0] 109)
          generalize w1.alloc (.cells #[.int .i64 3, .int .i64 0, .int .i64 0, .int .i64 0] 109) = w4 at *
          rw [hT] at hch2 hTA hTL
          obtain ⟨rt, hrt⟩ : ∃ rt, rtail 3 0 0 T = rt := ⟨_, rfl⟩
          rw [hrt] at hch2
          have hrl := restN_le T
          have hts := strA_size T
          obtain ⟨tn, htn⟩ : ∃ tn, T.length = tn := ⟨_, rfl⟩
          rw [htn] at hts hTL hrl
          have hre := fun w => rest_any T w hTA (by omega)
          obtain ⟨r, hr⟩ : ∃ r, restN T = r := ⟨_, rfl⟩
          have HRR := hidP hr
          rw [hr] at hrl hre
          have hcut := cut_hi T r
          have hlo2 := cut_lo T tn r htn
          have hnb := fun w => refNumber_any (strA (T.take r)) w (by rw [strA_size]; have := List.length_take_le r T; omega)
          obtain ⟨⟨nv, nk⟩, hN⟩ : ∃ R, numR (strA (T.take r)) = R := ⟨_, rfl⟩
          have HNN := hidP hN
          rw [hN] at hnb
          have q1 : (r : Int) ≤ (tn : Int) := by omega
          have HRT := hidP hrt
          have HRE := hidP hre
          have HNB := hidP hnb
          have HTA := hidP hTA
          have HTN := hidP htn
          have HCH2 := hidP hch2
          have HN4 := hidP hn4
          have HR4 := hidP (blk_below HR0.out hb4)
          have HX4 := hidP (blk_below HX0.out hb4)
          have hO4 := hidP (Kd.R_below HR.out hb4)
          have hB4 := bstep hb hb4
          have hz4 := hB4.size
          have hzw := hb.size
          have hz14 := hb4.size
          have hnl := blk_lt hn4
          clear hrt hre hnb hN hr hTA htn hch2 hn4 hhd hT
          go_wp2_with fail
          refine (HRE.out _).mono ?_
          rintro e w5 ⟨rfl, rfl⟩
          go_wp2_with fail
          refine (HNB.out _).mono ?_
          rintro e w5 ⟨rfl, hb5⟩
          have HN5 := hidP (blk_below HN4.out hb5)
          have HR5 := hidP (blk_below HR4.out hb5)
          have HX5 := hidP (blk_below HX4.out hb5)
          have hO5 := hidP (Kd.R_below hO4.out hb5)
          have hB5 := bstep hB4 hb5
          have hb15 := bstep hb4 hb5
          have hz15 := hb15.size
          have hz5 := hb5.size
          cases nk
          · have hE : E = none := by
              have h1 := HRT.out
              rw [rtail_no HRR.out HNN.out] at h1
              have h2 := HCH2.out
              rw [← h1] at h2
              exact h2.symm
            obtain rfl := hE
            obtain ⟨rc0, rc1, rc2, rc3, rc4⟩ := five_cells HR5.out
            have rf0 := blk_frozen HR5.out 0
            have rf1 := blk_frozen HR5.out 1
            have rf2 := blk_frozen HR5.out 2
            have rf3 := blk_frozen HR5.out 3
            have rf4 := blk_frozen HR5.out 4
            try go_wp2
            have fb1 := five_set HR5.out (.int .i64 0) (.int .i64 0) (.int .i64 0) (.int .i64 0) (.slice none 0 0)
            have fk1 := five_keep w5 w.heap.size (.int .i64 0) (.int .i64 0) (.int .i64 0) (.int .i64 0) (.slice none 0 0)
            generalize ((((w5.setCell ⟨w.heap.size, 0, none⟩ (.int .i64 0)).setCell ⟨w.heap.size, 1, none⟩ (.int .i64 0)).setCell ⟨w.heap.size, 2, none⟩ (.int .i64 0)).setCell ⟨w.heap.size, 3, none⟩ (.int .i64 0)).setCell ⟨w.heap.size, 4, none⟩ (.slice none 0 0) = w9 at *
            obtain ⟨v0, v1, v2, v3, v4⟩ := five_cells fb1
            refine bodyPost_ret (v := .tuple #[instrV instrZ (.slice none 0 0), .bool false]) (by simp [results, instrV, instrZ, Tryz.results84, go_sem, v0, v1, v2, v3, v4]) rfl ?_
            exact ⟨instrZ, .slice none 0 0, rfl, fun y h => (by cases h), Kd.R_nil _ _ _ _ _, Keep.belowS hB5 fk1 (hB5).size (fun j h => by omega)⟩
          · have hrt := HRT.out
            obtain ⟨c50, c51, c52, c53⟩ := four_cells HN5.out
            have cf53 := blk_frozen HN5.out 3
            have hl5 := blk_lt HN5.out
            go_wp2_with fail
            go_region
            go_upto_region 25 with fail
            have hn6 : (w5.setCell ⟨w1.heap.size, 3, none⟩ (.int .i64 nv)).drew.heap[w1.heap.size]? = some (.cells #[.int .i64 3, .int .i64 0, .int .i64 0, .int .i64 nv] 109 (0, 0)) := blk_drew ((blk_set HN5.out 3 (.int .i64 nv)).trans rfl)
            have hk6 : Keep (· = w1.heap.size) w5 (w5.setCell ⟨w1.heap.size, 3, none⟩ (.int .i64 nv)).drew := ((Keep.refl (· = w1.heap.size) w5).setCell (p := ⟨w1.heap.size, 3, none⟩) rfl _).drew
            generalize (w5.setCell ⟨w1.heap.size, 3, none⟩ (.int .i64 nv)).drew = w6 at *
            have hz46 := hk6.size
            have HR6 := hidP ((hk6.block _ (blk_lt HR5.out) (by omega)).trans HR5.out)
            have HX6 := hidP ((hk6.block _ (blk_lt HX5.out) (by omega)).trans HX5.out)
            have hO6 := Kd.R_step HR.out (w1 := w6) (fun j _ hlt => (hk6.block j (by omega) (by show ¬ j = w1.heap.size; omega)).trans (hb15.block j hlt))
            have HO6 := hidP hO6
            have hB6 : Below w.heap.size w w6 := Keep.belowS hB5 hk6 hB5.size (fun j h => by omega)
            have hz6 := hB6.size
            obtain ⟨x0, x1, x2, x3, x4⟩ := five_cells HX6.out
            obtain ⟨y0, y1, y2, y3⟩ := four_cells hn6
            have hcl : (cs.length + 1) * 32 ≤ 140737488355328 := by have := HCL.out; rw [HM.out] at this; omega
            have HN6 := hidP hn6
            have HL6 := hidP (blk_lt hn6)
            have HK6 := hidP hk6
            have HNEO : Hid (some w1.heap.size ≠ (Value.slice A cs.length d).ownBlock) := fun e => by
              obtain ⟨inner, ho⟩ := Kd.R_own HR.out
              have := own_lt ho _ e.symm
              omega
            clear hO6 hn6 hk6 hb5 hb15
            by_cases hend : (3 : Int) = 3 ∧ ¬ (T.drop r).length = 0
            ·
              rw [rtail_end HRR.out HNN.out hend] at hrt
              have hE : E = none := by
                have h2 := HCH2.out
                rw [← hrt] at h2
                exact h2.symm
              obtain rfl := hE
              have t8 : (strA (T.drop r)).toList.isEmpty = false := by
                rw [strA_empty]
                cases hq : T.drop r with
                | nil => exact absurd (by rw [hq]; rfl) hend.2
                | cons _ _ => rfl
              clear hrt hend
              go_wp2_with (at_builtin; go_loud (refine (Kd.R_append kC w.heap.size rfl (.tmp 80) (.tmp 82) 54 109 _ 32 rfl Tryz.underlying54 Tryz.infoC rfl (by decide) (by decide) (.slice A cs.length d) cs ⟨3, 0, 0, nv⟩ (caseC ⟨3, 0, 0, nv⟩) (fun j => w.heap.size + 2 ≤ j) (fun _ => False) rfl rfl (kC_mkM _ _ _ _) (fun j hj => hj.elim) (fun j hj => by omega) HO6.out (Below.refl _ _) hz6 hcl ?_)); intro v7 w7 hR7 hB7' hg7 hat7; obtain ⟨A7, c7, rfl⟩ := Kd.R_slice hR7; have HX7 := hidP (blk_grown HX6.out hg7 (fun e => (by have := HO6.out.1 _ e.symm; omega))); have HR7 := hidP (blk_grown HR6.out hg7 (fun e => (by have := HO6.out.1 _ e.symm; omega))); have HN7 := hidP (blk_grown HN6.out hg7 HNEO.out); have x7 : w7.cell? ⟨w.heap.size + 1, 4, none⟩ = some _ := (blk_cell HX7.out 4).trans rfl; have xf7 := blk_frozen HX7.out 4; have y7 : w7.cell? ⟨w1.heap.size, 0, none⟩ = some _ := (blk_cell HN7.out 0).trans rfl; have hz7 := hg7.size; have hlw7 : w1.heap.size < w7.heap.size := blk_lt HN7.out; have HOR7 := hidP hR7; obtain ⟨rc0, rc1, rc2, rc3, rc4⟩ := five_cells HR7.out; have rf0 := blk_frozen HR7.out 0; have rf1 := blk_frozen HR7.out 1; have rf2 := blk_frozen HR7.out 2; have rf3 := blk_frozen HR7.out 3; have rf4 := blk_frozen HR7.out 4; have hB7 : Below w.heap.size w w7 := hB6.trans (Keep.below (S := fun j => w.heap.size ≤ j) (.of_grown hg7 (fun j e => (by have := HO6.out.1 j e; omega))) hz6 (fun j h => h)); clear hR7 hB7' hat7)
              have HR8 := hidP (blk_far (p := ⟨w.heap.size + 1, 4, none⟩) HR7.out (by show w.heap.size ≠ w.heap.size + 1; omega) (.slice A7 (cs.length + 1) c7))
              have hB8 := hB7.setCell (p := ⟨w.heap.size + 1, 4, none⟩) (by show w.heap.size ≤ w.heap.size + 1; omega) (.slice A7 (cs.length + 1) c7)
              generalize w7.setCell ⟨w.heap.size + 1, 4, none⟩ (.slice A7 (cs.length + 1) c7) = w8 at *
              obtain ⟨rc0, rc1, rc2, rc3, rc4⟩ := five_cells HR8.out
              have rf0 := blk_frozen HR8.out 0
              have rf1 := blk_frozen HR8.out 1
              have rf2 := blk_frozen HR8.out 2
              have rf3 := blk_frozen HR8.out 3
              have rf4 := blk_frozen HR8.out 4
              try go_wp2
              have fb1 := five_set HR8.out (.int .i64 0) (.int .i64 0) (.int .i64 0) (.int .i64 0) (.slice none 0 0)
              have fk1 := five_keep w8 w.heap.size (.int .i64 0) (.int .i64 0) (.int .i64 0) (.int .i64 0) (.slice none 0 0)
              generalize ((((w8.setCell ⟨w.heap.size, 0, none⟩ (.int .i64 0)).setCell ⟨w.heap.size, 1, none⟩ (.int .i64 0)).setCell ⟨w.heap.size, 2, none⟩ (.int .i64 0)).setCell ⟨w.heap.size, 3, none⟩ (.int .i64 0)).setCell ⟨w.heap.size, 4, none⟩ (.slice none 0 0) = w9 at *
              obtain ⟨v0, v1, v2, v3, v4⟩ := five_cells fb1
              refine bodyPost_ret (v := .tuple #[instrV instrZ (.slice none 0 0), .bool false]) (by simp [results, instrV, instrZ, Tryz.results84, go_sem, v0, v1, v2, v3, v4]) rfl ?_
              exact ⟨instrZ, .slice none 0 0, rfl, fun y h => (by cases h), Kd.R_nil _ _ _ _ _, Keep.belowS hB8 fk1 (hB8).size (fun j h => by omega)⟩
            · rw [rtail_yes HRR.out HNN.out hend] at hrt
              have hE : E = rchF K (T.drop r) (cs ++ [⟨3, 0, 0, nv⟩]) := by
                have h2 := HCH2.out
                rw [← hrt] at h2
                exact h2.symm
              have HEE := hidP hE.symm
              have t8 : (3 : Int) = 3 → (strA (T.drop r)).toList.isEmpty = true := fun h => by
                rw [strA_empty]
                cases hq : T.drop r with
                | nil => rfl
                | cons _ _ => exact absurd ⟨h, by rw [hq]; simp⟩ hend
              try have t9 := t8 rfl
              clear hrt hE hend t8
              go_wp2_with (at_builtin; go_loud (refine (Kd.R_append kC w.heap.size rfl (.tmp 80) (.tmp 82) 54 109 _ 32 rfl Tryz.underlying54 Tryz.infoC rfl (by decide) (by decide) (.slice A cs.length d) cs ⟨3, 0, 0, nv⟩ (caseC ⟨3, 0, 0, nv⟩) (fun j => w.heap.size + 2 ≤ j) (fun _ => False) rfl rfl (kC_mkM _ _ _ _) (fun j hj => hj.elim) (fun j hj => by omega) HO6.out (Below.refl _ _) hz6 hcl ?_)); intro v7 w7 hR7 hB7' hg7 hat7; obtain ⟨A7, c7, rfl⟩ := Kd.R_slice hR7; have HX7 := hidP (blk_grown HX6.out hg7 (fun e => (by have := HO6.out.1 _ e.symm; omega))); have HR7 := hidP (blk_grown HR6.out hg7 (fun e => (by have := HO6.out.1 _ e.symm; omega))); have HN7 := hidP (blk_grown HN6.out hg7 HNEO.out); have x7 : w7.cell? ⟨w.heap.size + 1, 4, none⟩ = some _ := (blk_cell HX7.out 4).trans rfl; have xf7 := blk_frozen HX7.out 4; have y7 : w7.cell? ⟨w1.heap.size, 0, none⟩ = some _ := (blk_cell HN7.out 0).trans rfl; have hz7 := hg7.size; have hlw7 : w1.heap.size < w7.heap.size := blk_lt HN7.out; have HOR7 := hidP hR7; obtain ⟨rc0, rc1, rc2, rc3, rc4⟩ := five_cells HR7.out; have rf0 := blk_frozen HR7.out 0; have rf1 := blk_frozen HR7.out 1; have rf2 := blk_frozen HR7.out 2; have rf3 := blk_frozen HR7.out 3; have rf4 := blk_frozen HR7.out 4; have hB7 : Below w.heap.size w w7 := hB6.trans (Keep.below (S := fun j => w.heap.size ≤ j) (.of_grown hg7 (fun j e => (by have := HO6.out.1 j e; omega))) hz6 (fun j h => h)); clear hR7 hB7' hat7)
              have hX8 := (blk_set HX7.out 4 (.slice A7 (cs.length + 1) c7)).trans rfl
              have hR8 : (w7.setCell ⟨w.heap.size + 1, 4, none⟩ (.slice A7 (cs.length + 1) c7)).heap[w.heap.size]? = _ := blk_far (p := ⟨w.heap.size + 1, 4, none⟩) HR7.out (by show w.heap.size ≠ w.heap.size + 1; omega) (.slice A7 (cs.length + 1) c7)
              have hB8 := hB7.setCell (p := ⟨w.heap.size + 1, 4, none⟩) (by show w.heap.size ≤ w.heap.size + 1; omega) (.slice A7 (cs.length + 1) c7)
              have hO8 := Kd.R_far HOR7.out (p := ⟨w.heap.size + 1, 4, none⟩) (fun j hj => by show j ≠ w.heap.size + 1; omega) (.slice A7 (cs.length + 1) c7)
              have hlen : (cs ++ [(⟨3, 0, 0, nv⟩ : CaseD)]).length = cs.length + 1 := by rw [List.length_append]; rfl
              rw [hlen] at hO8
              refine ⟨⟨T.drop r, K, cs ++ [(⟨3, 0, 0, nv⟩ : CaseD)], A7, c7, rfl, ?_, ?_, fun x hx => HTA.out x (List.mem_of_mem_drop hx), HEE, hR8, by rw [hlen]; exact hX8, by show kC.R _ _ _ _ _ _; rw [hlen]; exact hO8, hB8⟩, ?_⟩
              · have := HK.out
                show (T.drop r).length < K
                rw [List.length_drop, HTN.out]
                rw [HM.out] at this
                omega
              · have := HCL.out
                show (cs ++ [(⟨3, 0, 0, nv⟩ : CaseD)]).length + (T.drop r).length ≤ 1000000
                rw [hlen, List.length_drop, HTN.out]
                rw [HM.out] at this
                omega
              · rw [sizeS_strA, sizeS_strA, List.length_drop, HTN.out, HM.out]
                omega
        · rw [if_neg h101] at hhd
          have hE : E = none := by
            have := HCH.out
            rw [← hhd] at this
            exact this.symm
          obtain rfl := hE
          have t1 : ((c0 : Int) == 115) = false := by simp; omega
          have t2 : ((c0 : Int) == 114) = false := by simp; omega
          have t3 : ((c0 : Int) != 101) = true := by simp; omega
          clear hhd h115 h101
          go_upto_region 18 with fail
          have HR4 := hidP (blk_below HR0.out (bnew (brefl w1) (.cells #[.int .i64 3, .int .i64 0, .int .i64 0, .int .i64 0] 109)))
          have hB4 := bstep hb (bnew (brefl w1) (.cells #[.int .i64 3, .int .i64 0, .int .i64 0, .int .i64 0] 109))
          generalize w1.alloc (.cells #[.int .i64 3, .int .i64 0, .int .i64 0, .int .i64 0] 109) = w4 at *
          obtain ⟨rc0, rc1, rc2, rc3, rc4⟩ := five_cells HR4.out
          have rf0 := blk_frozen HR4.out 0
          have rf1 := blk_frozen HR4.out 1
          have rf2 := blk_frozen HR4.out 2
          have rf3 := blk_frozen HR4.out 3
          have rf4 := blk_frozen HR4.out 4
          try go_wp2
          have fb1 := five_set HR4.out (.int .i64 0) (.int .i64 0) (.int .i64 0) (.int .i64 0) (.slice none 0 0)
          have fk1 := five_keep w4 w.heap.size (.int .i64 0) (.int .i64 0) (.int .i64 0) (.int .i64 0) (.slice none 0 0)
          generalize ((((w4.setCell ⟨w.heap.size, 0, none⟩ (.int .i64 0)).setCell ⟨w.heap.size, 1, none⟩ (.int .i64 0)).setCell ⟨w.heap.size, 2, none⟩ (.int .i64 0)).setCell ⟨w.heap.size, 3, none⟩ (.int .i64 0)).setCell ⟨w.heap.size, 4, none⟩ (.slice none 0 0) = w9 at *
          obtain ⟨v0, v1, v2, v3, v4⟩ := five_cells fb1
          refine bodyPost_ret (v := .tuple #[instrV instrZ (.slice none 0 0), .bool false]) (by simp [results, instrV, instrZ, Tryz.results84, go_sem, v0, v1, v2, v3, v4]) rfl ?_
          exact ⟨instrZ, .slice none 0 0, rfl, fun y h => (by cases h), Kd.R_nil _ _ _ _ _, Keep.belowS hB4 fk1 (hB4).size (fun j h => by omega)⟩
end Go.Proofs.YtklfboidjnchoaaGreatDoor
namespace Go.Proofs.YtklfboidjnchoaaGreatDoor
open Go.RowKit Go.Proofs.YtklfboidjnchoaaGreatDoorW.PrintWords
set_option linter.unusedVariables false
def formF (c : Nat) (L : List Nat) : List RForm → Option InstrD
  | [] => none
  | f :: r => if f.letter = c then (if (simpR f.op f.args L).2 = true then some (simpR f.op f.args L).1 else none) else formF c L r
def oneR (L : List Nat) : Option InstrD := if chr L 0 = 83 then rchoiceR (L.drop 1) else formF (chr L 0) (L.drop 1) rforms
theorem rforms_ok : ∀ f ∈ rforms, f.letter < 256 ∧ f.op < 100 ∧ (∀ x ∈ f.args, x < 128) ∧ f.args.length ≤ 10 := by decide
set_option maxRecDepth 100000 in
set_option maxHeartbeats 3200000 in
theorem one_any (L : List Nat) (w : World) (h0 : 0 < L.length) (ha : ∀ x ∈ L, x < 128) (hL : L.length ≤ 1000000) :
    Calls Tryz.prog 54 #[.string (strA L)] w (OnePost w (oneR L)) := by
  obtain ⟨X, hX⟩ : ∃ X, oneR L = X := ⟨_, rfl⟩
  rw [hX]
  have HX := hidP hX
  unfold oneR at hX
  have hms := strA_size L
  obtain ⟨m, hm⟩ : ∃ m, L.length = m := ⟨_, rfl⟩
  rw [hm] at hms h0 hL
  have hlo := cut_lo L m 1 hm
  have hix0 := fun w => (show (Instr.index 9 (.string (strA L)) (.int .i64 0)).run Tryz.prog w = .ok (.int .u8 (chr L 0 : Int)) w from Tryz.idx_strA L 0 (by rw [hm]; exact h0) ha w)
  have hc := chr_lt ha 0
  have g0 : (0 : Int) < (m : Int) := by omega
  have g1 : (1 : Int) ≤ (m : Int) := by omega
  have hra := fun w => rchoice_any (L.drop 1) w (fun x hx => ha x (List.mem_of_mem_drop hx)) (by rw [List.length_drop]; omega)
  have hsm := fun (f : RForm) (hf : f ∈ rforms) w => simple_any f.op f.letter f.args (L.drop 1) w (rforms_ok f hf).2.2.1 (rforms_ok f hf).2.2.2 (fun x hx => ha x (List.mem_of_mem_drop hx)) (by rw [List.length_drop]; omega)
  obtain ⟨M, hM⟩ : ∃ M, L.drop 1 = M := ⟨_, rfl⟩
  rw [hM] at hlo hra hsm hX
  obtain ⟨c0, hc0⟩ : ∃ c0, chr L 0 = c0 := ⟨_, rfl⟩
  rw [hc0] at hix0 hc hX
  have HRA := hidP hra
  have HSM := hidP hsm
  clear hra hsm ha hm hc0 hM
  by_cases h83 : c0 = 83
  · rw [if_pos h83] at hX
    have hra := HRA.out
    rw [hX] at hra
    have HRA2 := hidP hra
    subst h83
    clear hX hra
    go_enter Tryz.func54, Tryz.ntmps54
    go_wp2_with fail
    refine (HRA2.out _).mono ?_
    rintro e w2 ⟨⟨xo, xa, xb, xn, xc⟩, v, rfl, hx, hv, hb2⟩
    simp only [instrV]
    obtain ⟨vA, vc, rfl⟩ := Kd.R_slice hv
    have hr2 := hidP (blk_below (blk_new w (.cells #[.int .i64 0, .int .i64 0, .int .i64 0, .int .i64 0, .slice none 0 0] 56)) hb2)
    have hB2 := bstep (bnew (brefl w) (.cells #[.int .i64 0, .int .i64 0, .int .i64 0, .int .i64 0, .slice none 0 0] 56)) hb2
    have HV := hidP hv
    have hl2 := blk_lt hr2.out
    have HXX := hidP hx
    clear hv hb2 hx
    obtain ⟨rc0, rc1, rc2, rc3, rc4⟩ := five_cells hr2.out
    have rf0 := blk_frozen hr2.out 0
    have rf1 := blk_frozen hr2.out 1
    have rf2 := blk_frozen hr2.out 2
    have rf3 := blk_frozen hr2.out 3
    have rf4 := blk_frozen hr2.out 4
    go_wp2
    have fb1 := five_set hr2.out (.int .i64 xo) (.int .i64 xa) (.int .i64 xb) (.int .i64 xn) (.slice vA xc.length vc)
    have fk1 := five_keep w2 w.heap.size (.int .i64 xo) (.int .i64 xa) (.int .i64 xb) (.int .i64 xn) (.slice vA xc.length vc)
    generalize ((((w2.setCell ⟨w.heap.size, 0, none⟩ (.int .i64 xo)).setCell ⟨w.heap.size, 1, none⟩ (.int .i64 xa)).setCell ⟨w.heap.size, 2, none⟩ (.int .i64 xb)).setCell ⟨w.heap.size, 3, none⟩ (.int .i64 xn)).setCell ⟨w.heap.size, 4, none⟩ (.slice vA xc.length vc) = w9 at *
    obtain ⟨v0, v1, v2, v3, v4⟩ := five_cells fb1
    refine bodyPost_ret (v := .tuple #[instrV ⟨xo, xa, xb, xn, xc⟩ (.slice vA xc.length vc), .bool X.isSome]) (by simp [results, instrV, Tryz.results54, go_sem, v0, v1, v2, v3, v4]) rfl ?_
    refine ⟨⟨xo, xa, xb, xn, xc⟩, .slice vA xc.length vc, rfl, HXX.out, ?_, Keep.belowS hB2 fk1 hB2.size (fun j h => by omega)⟩
    exact Kd.R_mono (Kd.R_lower (R_keepS HV.out fk1 (fun j hj => by show ¬ j = w.heap.size; simp at hj; omega)) (by simp)) (fun j hj => by simp at hj; omega)
  · rw [if_neg h83] at hX
    have t83 : ((c0 : Int) == 83) = false := by simp; omega
    have HX2 := hidP hX
    clear hX h83
    go_enter Tryz.func54, Tryz.ntmps54
    go_wp2_with fail
    refine (forms_any _).mono ?_
    rintro e w2 ⟨fb, rfl, hrow, hb2⟩
    have hr2 := hidP (blk_below (blk_new w (.cells #[.int .i64 0, .int .i64 0, .int .i64 0, .int .i64 0, .slice none 0 0] 56)) hb2)
    have hB2 := bstep (bnew (brefl w) (.cells #[.int .i64 0, .int .i64 0, .int .i64 0, .int .i64 0, .slice none 0 0] 56)) hb2
    clear hb2
    go_wp2_with fail
    go_loopw [5] (fun v5 wr => ∃ (k : Nat), v5 = .int .i64 k ∧ k ≤ 21 ∧ Hid (formF c0 M (rforms.drop k) = X) ∧ Below w2.heap.size w2 wr) (fun v5 _ => 21 - (intOf v5).toNat)
    case atStart => exact ⟨0, rfl, by omega, HX2.out, brefl _⟩
    case round =>
      obtain ⟨k, rfl, hk, HF, hb⟩ := hrel
      obtain ⟨w3, e3⟩ : ∃ w3, w3 = wr := ⟨_, rfl⟩
      subst e3
      by_cases hlt : k < 21
      · obtain ⟨f, hf⟩ : ∃ f, rforms[k]? = some f := ⟨_, List.getElem?_eq_getElem (show k < rforms.length from hlt)⟩
        have hfm := List.mem_of_getElem? hf
        obtain ⟨c00, c01, c02⟩ := rform_at (hrow.below hb) k f hf
        have hst : X = formF c0 M (f :: rforms.drop (k + 1)) := by
          rw [← HF.out]
          obtain ⟨hk2, hkf⟩ := List.getElem?_eq_some_iff.1 hf
          rw [List.drop_eq_getElem_cons hk2, hkf]
        simp only [formF] at hst
        have HFM := hidP hfm
        clear hf hfm
        obtain ⟨fo, fl, fa⟩ := f
        dsimp only at c00 c01 c02 hst
        by_cases he : fl = c0
        · rw [if_pos he] at hst
          have t1 : ((fl : Int) == (c0 : Int)) = true := by simp [he]
          have hs1 := fun w => HSM.out ⟨fo, fl, fa⟩ HFM.out w
          dsimp only at hs1
          obtain ⟨⟨⟨xo, xa, xb, xn, xc⟩, xok⟩, hS⟩ : ∃ S, simpR fo fa M = S := ⟨_, rfl⟩
          unfold LinePost at hs1
          rw [hS] at hst hs1
          simp only [instrV] at hs1
          have HS1 := hidP hs1
          have HST := hidP hst
          clear hs1 hS hst he
          go_wp2_with fail
          go_quiet (fail)
          go_wp2_with fail
          have hw4 : ∀ n, Below w.heap.size w (w3.drewN n) ∧ (w3.drewN n).heap[w.heap.size]? = _ ∧ (w3.drewN n).cell? ⟨fb, k * 3, none⟩ = _ ∧ (w3.drewN n).cell? ⟨fb, k * 3 + 1, none⟩ = _ ∧ (w3.drewN n).cell? ⟨fb, k * 3 + 2, none⟩ = _ := fun n => ⟨hB2.trans ⟨hb.os, hb.tape, hb.output, hb.size, fun i hi => hb.block i (by have := hB2.size; omega)⟩, blk_drewN (blk_below hr2.out hb) n, c00, c01, c02⟩
          obtain ⟨hB4, hr4, d00, d01, d02⟩ := hw4 nq
          generalize w3.drewN nq = w4 at *
          have HR4 := hidP hr4
          have hl4 := blk_lt hr4
          have hz4 := hB4.size
          clear c00 c01 c02 hw4 hr4
          go_region_with (go_at_call 85; refine (HS1.out _).mono ?_; rintro e w5 ⟨v, rfl, hv, hb5⟩; obtain ⟨vA, vc, rfl⟩ := Kd.R_slice hv; have hr5 := hidP (blk_below (blk_drew HR4.out) hb5); obtain ⟨rc0, rc1, rc2, rc3, rc4⟩ := five_cells hr5.out; have rf0 := blk_frozen hr5.out 0; have rf1 := blk_frozen hr5.out 1; have rf2 := blk_frozen hr5.out 2; have rf3 := blk_frozen hr5.out 3; have rf4 := blk_frozen hr5.out 4)
          all_goals
            go_wp2
            have fb1 := five_set hr5.out (.int .i64 xo) (.int .i64 xa) (.int .i64 xb) (.int .i64 xn) (.slice vA xc.length vc)
            have fk1 := five_keep w5 w.heap.size (.int .i64 xo) (.int .i64 xa) (.int .i64 xb) (.int .i64 xn) (.slice vA xc.length vc)
            generalize ((((w5.setCell ⟨w.heap.size, 0, none⟩ (.int .i64 xo)).setCell ⟨w.heap.size, 1, none⟩ (.int .i64 xa)).setCell ⟨w.heap.size, 2, none⟩ (.int .i64 xb)).setCell ⟨w.heap.size, 3, none⟩ (.int .i64 xn)).setCell ⟨w.heap.size, 4, none⟩ (.slice vA xc.length vc) = w9 at *
            obtain ⟨v0, v1, v2, v3, v4⟩ := five_cells fb1
            refine bodyPost_ret (v := .tuple #[instrV ⟨xo, xa, xb, xn, xc⟩ (.slice vA xc.length vc), .bool xok]) (by simp [results, instrV, Tryz.results54, go_sem, v0, v1, v2, v3, v4]) rfl ?_
            have hB5 : Below w.heap.size w w5 := hB4.trans (((brefl w4).drew.trans hb5).mono hz4)
            have hXs : X.isSome = xok := by rw [HST.out]; cases xok <;> rfl
            refine ⟨⟨xo, xa, xb, xn, xc⟩, .slice vA xc.length vc, by rw [hXs], fun y hy => ?_, ?_, Keep.belowS hB5 fk1 hB5.size (fun j h => by omega)⟩
            · rw [HST.out] at hy
              cases xok
              · simp at hy
              · simpa using hy
            · exact Kd.R_mono (Kd.R_lower (R_keepS hv fk1 (fun j hj => by show ¬ j = w.heap.size; have : w4.drew.heap.size = w4.heap.size := rfl; omega)) (by show w.heap.size ≤ w4.heap.size; omega)) (fun j hj => by have : w4.drew.heap.size = w4.heap.size := rfl; omega)
        · rw [if_neg he] at hst
          have t1 : ((fl : Int) == (c0 : Int)) = false := by simp; omega
          have HST := hidP hst.symm
          have hb5 : ∀ n, Below w2.heap.size w2 (w3.drewN n) := fun n => ⟨hb.os, hb.tape, hb.output, hb.size, hb.block⟩
          clear hst he
          go_wp2_with fail
          go_quiet (fail)
          go_wp2
          go_roundw
          case rel => exact ⟨k + 1, by go_num, by omega, HST.out, hb5 _⟩
          case measure => simp [intOf]; omega
      · have hX : X = none := by
          have := HF.out
          have hk21 : k = 21 := by omega
          rw [hk21] at this
          exact this.symm
        have HXN := hidP hX
        have hr4 := hidP (blk_below hr2.out hb)
        have hB4 : Below w.heap.size w w3 := hB2.trans ⟨hb.os, hb.tape, hb.output, hb.size, fun i hi => hb.block i (by have := hB2.size; omega)⟩
        obtain ⟨rc0, rc1, rc2, rc3, rc4⟩ := five_cells hr4.out
        have rf0 := blk_frozen hr4.out 0
        have rf1 := blk_frozen hr4.out 1
        have rf2 := blk_frozen hr4.out 2
        have rf3 := blk_frozen hr4.out 3
        have rf4 := blk_frozen hr4.out 4
        clear hX
        go_wp2
        have fb1 := five_set hr4.out (.int .i64 0) (.int .i64 0) (.int .i64 0) (.int .i64 0) (.slice none 0 0)
        have fk1 := five_keep w3 w.heap.size (.int .i64 0) (.int .i64 0) (.int .i64 0) (.int .i64 0) (.slice none 0 0)
        generalize ((((w3.setCell ⟨w.heap.size, 0, none⟩ (.int .i64 0)).setCell ⟨w.heap.size, 1, none⟩ (.int .i64 0)).setCell ⟨w.heap.size, 2, none⟩ (.int .i64 0)).setCell ⟨w.heap.size, 3, none⟩ (.int .i64 0)).setCell ⟨w.heap.size, 4, none⟩ (.slice none 0 0) = w9 at *
        obtain ⟨v0, v1, v2, v3, v4⟩ := five_cells fb1
        refine bodyPost_ret (v := .tuple #[instrV instrZ (.slice none 0 0), .bool false]) (by simp [results, instrV, instrZ, Tryz.results54, go_sem, v0, v1, v2, v3, v4]) rfl ?_
        exact ⟨instrZ, .slice none 0 0, by rw [HXN.out]; rfl, fun y h => (by rw [HXN.out] at h; cases h), Kd.R_nil _ _ _ _ _, Keep.belowS hB4 fk1 hB4.size (fun j h => by omega)⟩
end Go.Proofs.YtklfboidjnchoaaGreatDoor
