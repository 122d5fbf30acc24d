/-
  Parts of the proof: PRun, POkI, PCmp, PLoadT, PKern, PFrame, PLaw, PEvEq.
-/
import Derived.KernelRfl
import Derived.Lib.LaidTab
import Derived.Test.YtklfboidjnchoaaGreatDoorZ2
import Derived.Test.YtklfboidjnchoaaGreatDoorZ5
import Derived.Test.YtklfboidjnchoaaGreatDoorZ7
import Derived.Test.YtklfboidjnchoaaGreatDoorZ8
import Derived.Test.YtklfboidjnchoaaGreatDoorZ11
import Derived.Test.YtklfboidjnchoaaGreatDoorZ17
namespace Go.Proofs.YtklfboidjnchoaaGreatDoor
open Go.RowKit Go.Proofs.YtklfboidjnchoaaGreatDoorW.PrintWords
set_option linter.unusedVariables false
set_option linter.unusedSimpArgs false
def entC (e : EntD) : List Value := [.int .i64 e.kind, .int .i64 e.n, .int .i64 e.draw]
def RunPost (w : World) (m : MachD) (e : Ending) (w' : World) : Prop :=
  ∃ ev sv, e = .returned (.agg #[ev, .int .i64 m.outcome, sv]) ∧ w'.ownsRow w.heap.size 41 4 ev m.events.length (m.events.flatMap evC) ∧ w'.ownsRow w.heap.size 3 1 sv m.steps.length (m.steps.map (Value.int .i64)) ∧ Below w.heap.size w w'
def runP (l : List InstrD) (s : List EntD) : MachD := if (validR l).2 = 0 then runR l s else { mach0 with outcome := 9 }
theorem entC_len (l : List EntD) : (l.flatMap entC).length = l.length * 3 := by
  induction l with
  | nil => rfl
  | cons c l ih => rw [List.flatMap_cons, List.length_append, ih]; simp [entC]; omega
theorem entC_get : ∀ (l : List EntD) (i j : Nat) (c : EntD) (u : Value), l[i]? = some c → (entC c)[j]? = some u → (l.flatMap entC)[i * 3 + j]? = some u
  | [], i, j, c, u, h, _ => by simp at h
  | d :: l, 0, j, c, u, h, hj => by
    obtain rfl : d = c := by simpa using h
    rw [List.flatMap_cons, Nat.zero_mul, Nat.zero_add, List.getElem?_append_left (List.getElem?_eq_some_iff.1 hj).1]
    exact hj
  | d :: l, i + 1, j, c, u, h, hj => by
    rw [List.flatMap_cons, List.getElem?_append_right (by simp [entC]; omega)]
    rw [show (i + 1) * 3 + j - (entC d).length = i * 3 + j by simp [entC]; omega]
    exact entC_get l i j c u (by simpa using h) hj
theorem entC_at {w : World} {A : Option Addr} {l : List EntD} (h : RowAt w A (l.flatMap entC)) {i : Nat} {c : EntD} (hi : l[i]? = some c) :
    ∃ b o, A = some ⟨b, o, none⟩ ∧ w.cell? ⟨b, o + i * 3, none⟩ = some (.int .i64 c.kind) ∧ w.cell? ⟨b, o + i * 3 + 1, none⟩ = some (.int .i64 c.n) ∧ w.cell? ⟨b, o + i * 3 + 2, none⟩ = some (.int .i64 c.draw) := by
  obtain ⟨b, o, rfl, hc⟩ := h.addr (by rw [entC_len]; have := lt_of_some hi; omega)
  exact ⟨b, o, rfl, by have := hc _ _ (entC_get l i 0 c _ hi rfl); simpa using this, by have := hc _ _ (entC_get l i 1 c _ hi rfl); simpa [Nat.add_assoc] using this, by have := hc _ _ (entC_get l i 2 c _ hi rfl); simpa [Nat.add_assoc] using this⟩
theorem fold_stay {l : List InstrD} {m : MachD} (h : m.outcome ≠ 0) : ∀ s : List EntD, s.foldl (MachD.entry l) m = m := by
  intro s
  induction s with
  | nil => rfl
  | cons e s ih =>
    have : m.entry l e = m := by unfold MachD.entry; rw [if_pos h]
    rw [List.foldl_cons, this, ih]
def num0 : Value := .iface 67 (.int .i64 0)
def mC (A : Option Addr) (nl d k : Nat) : Array Value := #[.slice A nl d, .slice none 0 0, if 0 < k then num0 else .nilIface, if 1 < k then num0 else .nilIface, if 2 < k then num0 else .nilIface, if 3 < k then num0 else .nilIface, .int .i64 0, .slice none 0 0, .int .i64 0, .slice none 0 0, .int .i64 0, .slice none 0 0]
def rC (k : Nat) : Array Value := #[if 0 < k then num0 else .nilIface, if 1 < k then num0 else .nilIface, if 2 < k then num0 else .nilIface, if 3 < k then num0 else .nilIface, if 4 < k then num0 else .nilIface, if 5 < k then num0 else .nilIface]
theorem mC_step (A : Option Addr) (nl d k : Nat) (hk : k < 4) : (mC A nl d k).setIfInBounds (2 + k) num0 = mC A nl d (k + 1) := by
  have : k = 0 ∨ k = 1 ∨ k = 2 ∨ k = 3 := by omega
  rcases this with rfl | rfl | rfl | rfl <;> rfl
theorem rC_step (k : Nat) (hk : k < 6) : (rC k).setIfInBounds k num0 = rC (k + 1) := by
  have : k = 0 ∨ k = 1 ∨ k = 2 ∨ k = 3 ∨ k = 4 ∨ k = 5 := by omega
  rcases this with rfl | rfl | rfl | rfl | rfl | rfl <;> rfl
theorem mC_some (A : Option Addr) (nl d k j : Nat) (hj : j < 12) : ∃ v, (mC A nl d k)[j]? = some v := ⟨_, Array.getElem?_eq_getElem (by exact hj)⟩
theorem rC_some (k j : Nat) (hj : j < 6) : ∃ v, (rC k)[j]? = some v := ⟨_, Array.getElem?_eq_getElem (by exact hj)⟩
def machE : MachD := ⟨[], [], [], [], [], List.replicate 4 (.num 0), 0, [], [], 0, []⟩
theorem ok_machE : Ok machE :=
  { gor := fun i g hi => by simp [machE] at hi
    wt := fun i x hi => by simp [machE] at hi
    chan := fun i x hi => by simp [machE] at hi
    queue := fun g hg => by simp [machE] at hg
    nodup := by simp [machE]
    globals := rfl
    globs := fun x hx => by rw [(List.mem_replicate.1 hx).2]; exact ok_num0
    boxes := fun x hx => by simp [machE] at hx
    timers := fun x hx => by simp [machE] at hx
    fewT := Nat.le_refl _ }
theorem fit_machE : Fit machE := ⟨by decide, by decide, by decide, by decide, by decide, by decide, by decide, by decide⟩
def layE (mb : Nat) : Lay := ⟨mb, fun _ => 0, fun _ => 0, fun _ => 0, fun _ => 0⟩
def owE (mb : Nat) : Owns := fun b => if b = mb then some .mach else none
theorem inv_machE {B mb : Nat} {A : Option Addr} {nl d : Nat} {w : World} (hB : B ≤ mb) (hm : w.heap[mb]? = some (.cells (mC A nl d 4) 66 (0, 0))) : Inv B (.slice A nl d) (layE mb) (owE mb) machE w where
  mach := ⟨.slice none 0 0, .slice none 0 0, .slice none 0 0, .slice none 0 0, .num 0, .num 0, .num 0, .num 0, rfl, ⟨hm, by unfold owE layE; simp⟩, ⟨World.ownsRow_nil _ _ _ _, fun b hb => by cases hb⟩, ⟨World.ownsRow_nil _ _ _ _, fun b hb => by cases hb⟩, ⟨World.ownsRow_nil _ _ _ _, fun b hb => by cases hb⟩, ⟨World.ownsRow_nil _ _ _ _, fun b hb => by cases hb⟩⟩
  gor := fun i g hi => by simp [machE] at hi
  chan := fun i g hi => by simp [machE] at hi
  box := fun i g hi => by simp [machE] at hi
  wt := fun i g hi => by simp [machE] at hi
  base := fun b o h => by
    unfold owE at h
    split at h
    · omega
    · cases h
theorem mach0_eq : machE.add [.num 0, .num 0, .num 0, .num 0, .num 0, .num 0] 0 = mach0 := rfl
def RunJ (w : World) (A : Option Addr) (nl d rb mb : Nat) (l : List InstrD) (s : List EntD) (k : Nat) (wr : World) : Prop :=
  ∃ m σ ow, Inv w.heap.size (.slice A nl d) σ ow m wr ∧ σ.mb = mb ∧ Ok m ∧ Size k m ∧ m = (s.take k).foldl (MachD.entry l) mach0 ∧ Below w.heap.size w wr ∧ wr.heap[rb]? = some (.cells #[.slice none 0 0, .int .i64 0, .slice none 0 0] 31 (0, 0)) ∧ ow rb = none
theorem runJ_step {w wi w' : World} {A : Option Addr} {nl d rb mb k : Nat} {l : List InstrD} {s : List EntD} {m m' : MachD} {σ : Lay} {ow : Owns} (hI : Inv w.heap.size (.slice A nl d) σ ow m wi) (hmb : σ.mb = mb) (hbm : Below w.heap.size w wi) (hrm : wi.heap[rb]? = some (.cells #[.slice none 0 0, .int .i64 0, .slice none 0 0] 31 (0, 0))) (hfr : ow rb = none)
    (ok : Ok m') (sz : Size (k + 1) m') (he : m' = (s.take (k + 1)).foldl (MachD.entry l) mach0) (hr : ResN w.heap.size (.slice A nl d) σ ow m m' wi w') : RunJ w A nl d rb mb l s (k + 1) w' := by
  obtain ⟨σ', ow', u1, ua, u2, u3⟩ := hr
  have hl := blk_lt hrm
  exact ⟨m', σ', ow', u1, ua.mb.trans hmb, ok, sz, he, hbm.trans (hI.keepBelow u2), (u2.block rb hl (fun e => e hfr)).trans hrm, (u3 rb hl).trans hfr⟩
set_option maxRecDepth 100000 in
set_option maxHeartbeats 3200000 in
theorem run_any {A S : Option Addr} {d ds : Nat} {l : List InstrD} {s : List EntD} {w : World} (hbl : Blanks w) (hP : kI.C w A l.length l) (hl : (validR l).2 = 0 → ∀ x ∈ l, OkI x) (hll : l.length ≤ 60 ∨ (validR l).2 ≠ 0) (hcs : ∀ x ∈ l, x.cases.length ≤ 9223372036854775807)
    (hS : RowAt w S (s.flatMap entC)) (hsl : s.length ≤ 100000) (hsn : ∀ e ∈ s, (-9223372036854775808 ≤ e.n ∧ e.n ≤ 9223372036854775807) ∧ (-9223372036854775808 ≤ e.draw ∧ e.draw ≤ 9223372036854775807)) :
    Calls Tryz.prog 17 #[.slice A l.length d, .slice S s.length ds] w (RunPost w (runP l s)) := by
  have hb0 : Below w.heap.size w (w.alloc (.cells #[.slice none 0 0, .int .i64 0, .slice none 0 0] 31)) := bnew (brefl w) _
  have HV := hidP (valid_any A d l _ (hbl.below hb0) (C_keep hP hb0) hcs)
  have HB0 := hidP hb0
  have HX := hidP (⟨hP, hl, hll, hS, hsl, hsn⟩ : _ ∧ _ ∧ _ ∧ _ ∧ _ ∧ _)
  obtain ⟨nl, hnl⟩ : ∃ nl, l.length = nl := ⟨_, rfl⟩
  obtain ⟨nS, hnS⟩ : ∃ nS, s.length = nS := ⟨_, rfl⟩
  have hrb := heap_alloc_new w (.cells #[.slice none 0 0, .int .i64 0, .slice none 0 0] 31)
  obtain ⟨rb, hrbe⟩ : ∃ rb, w.heap.size = rb := ⟨_, rfl⟩
  rw [hrbe] at hrb
  rw [hnl] at HV ⊢
  rw [hnS]
  have HN := hidP (⟨hnl, hnS⟩ : _ ∧ _)
  have HRB := hidP hrb
  clear hbl hP hl hll hcs hS hsl hsn hb0 hnl hnS hrb
  by_cases hv : (validR l).2 = 0
  · have hvn : Hid ((validR l).2 = 0) := hv
    rw [hv] at HV
    generalize (validR l).1 = V1 at HV
    clear hv
    go_enter Tryz.func17, Tryz.ntmps17
    go_upto_region 5 with (go_at_call 27; with_reducible refine HV.out.mono ?_; rintro e w1 ⟨rfl, hb1⟩; have HB1 := hidP hb1; clear hb1)
    have hb2 : Below w.heap.size w (w1.alloc (.cells (mC A nl d 0) 66)) := bnew (bstep HB0.out HB1.out) _
    have hmb := heap_alloc_new w1 (.cells (mC A nl d 0) 66)
    obtain ⟨mb, hmbe⟩ : ∃ mb, w1.heap.size = mb := ⟨_, rfl⟩
    have hlm : w.heap.size ≤ mb := by rw [← hmbe]; exact Nat.le_trans HB0.out.size HB1.out.size
    rw [hmbe] at hmb
    try rw [hmbe]
    have hmC : w1.alloc (.cells #[.slice A nl d, .slice none 0 0, .nilIface, .nilIface, .nilIface, .nilIface, .int .i64 0, .slice none 0 0, .int .i64 0, .slice none 0 0, .int .i64 0, .slice none 0 0] 66) = w1.alloc (.cells (mC A nl d 0) 66) := rfl
    rw [hmC]
    clear hmC
    have hrW : (w1.alloc (.cells (mC A nl d 0) 66)).heap[rb]? = some (.cells #[.slice none 0 0, .int .i64 0, .slice none 0 0] 31 (0, 0)) := ((bnew (brefl w1) _).block rb (blk_lt ((HB1.out.block rb (blk_lt HRB.out)).trans HRB.out))).trans ((HB1.out.block rb (blk_lt HRB.out)).trans HRB.out)
    have hrm : rb ≠ mb := by
      have := blk_lt ((HB1.out.block rb (blk_lt HRB.out)).trans HRB.out)
      omega
    have HRM := hidP hrm
    clear hrm
    generalize w1.alloc (.cells (mC A nl d 0) 66) = W2 at *
    have HB2 := hidP hb2
    have HMB := hidP hmb
    have HRW := hidP hrW
    clear hb2 hmb hrW
    go_wp2_with fail
    go_loopw [24] (fun v wr => ∃ k : Nat, v = .int .i64 k ∧ k ≤ 4 ∧ Hid (wr.heap[mb]? = some (.cells (mC A nl d k) 66 (0, 0))) ∧ Hid (Below w.heap.size w wr) ∧ Hid (wr.heap[rb]? = some (.cells #[.slice none 0 0, .int .i64 0, .slice none 0 0] 31 (0, 0)))) (fun v _ => 4 - (intOf v).toNat)
    case atStart => exact ⟨0, rfl, by omega, HMB.out, HB2.out, HRW.out⟩
    case round =>
      obtain ⟨k, rfl, hk, HM, HB, HR⟩ := hrel
      by_cases hlt : k < 4
      · obtain ⟨vv, hvv⟩ := mC_some A nl d k (2 + k) (by omega)
        have ck := (cell_of_row wr mb (2 + k) _ _ (0, 0) HM.out).trans hvv
        have fk := frozen_of_row wr mb (2 + k) _ _ HM.out
        have e1 : (0 : Int) ≤ (k : Int) := by omega
        have e2 : (k : Int) < 4 := by omega
        clear hvv
        go_wp2
        go_roundw
        case measure => simp [intOf]; omega
        case rel =>
          refine ⟨k + 1, by go_num, by omega, ?_, ?_, ?_⟩
          · show _ = _
            rw [← mC_step A nl d k hlt]
            exact heap_setCell_same wr mb (2 + k) _ _ _ HM.out
          · exact HB.out.setCell (p := ⟨mb, 2 + k, none⟩) hlm _
          · exact (((Keep.refl (fun b => b = mb) wr).setCell (p := ⟨mb, 2 + k, none⟩) rfl _).block rb (blk_lt HR.out) HRM.out).trans HR.out
      · obtain rfl : k = 4 := by omega
        go_wp2_with fail
        have hb3 : Below w.heap.size w (wr.alloc (.cells (rC 0) 68)) := bnew HB.out _
        have hm3 : (wr.alloc (.cells (rC 0) 68)).heap[mb]? = some (.cells (mC A nl d 4) 66 (0, 0)) := ((bnew (brefl wr) _).block mb (blk_lt HM.out)).trans HM.out
        have hg3 := heap_alloc_new wr (.cells (rC 0) 68)
        have hmg : mb < wr.heap.size := blk_lt HM.out
        have hr3 : (wr.alloc (.cells (rC 0) 68)).heap[rb]? = some (.cells #[.slice none 0 0, .int .i64 0, .slice none 0 0] 31 (0, 0)) := ((bnew (brefl wr) _).block rb (blk_lt HR.out)).trans HR.out
        have hrg : rb < wr.heap.size := blk_lt HR.out
        obtain ⟨gb, hgbe⟩ : ∃ gb, wr.heap.size = gb := ⟨_, rfl⟩
        have hlg : w.heap.size ≤ gb := by rw [← hgbe]; exact HB.out.size
        have hmg2 : mb ≠ gb := by omega
        have HRG := hidP (show rb ≠ gb by omega)
        clear hrg
        rw [hgbe] at hg3
        try rw [hgbe]
        have hrC : wr.alloc (.cells #[.nilIface, .nilIface, .nilIface, .nilIface, .nilIface, .nilIface] 68) = wr.alloc (.cells (rC 0) 68) := rfl
        rw [hrC]
        clear hrC hmg
        generalize wr.alloc (.cells (rC 0) 68) = W3 at *
        have HB3 := hidP hb3
        have HM3 := hidP hm3
        have HG3 := hidP hg3
        have HMG := hidP hmg2
        have HR3 := hidP hr3
        clear hr3 hb3 hm3 hg3 hmg2 hgbe HM HB HR
        go_loopw [34] (fun v wr => ∃ k : Nat, v = .int .i64 k ∧ k ≤ 6 ∧ Hid (wr.heap[mb]? = some (.cells (mC A nl d 4) 66 (0, 0))) ∧ Hid (wr.heap[gb]? = some (.cells (rC k) 68 (0, 0))) ∧ Hid (Below w.heap.size w wr) ∧ Hid (wr.heap[rb]? = some (.cells #[.slice none 0 0, .int .i64 0, .slice none 0 0] 31 (0, 0)))) (fun v _ => 6 - (intOf v).toNat)
        case atStart => exact ⟨0, rfl, by omega, HM3.out, HG3.out, HB3.out, HR3.out⟩
        case round =>
          obtain ⟨k, rfl, hk, HM, HG, HB, HR⟩ := hrel
          obtain ⟨wo, hwo⟩ : ∃ wo, wo = wr := ⟨_, rfl⟩
          subst hwo
          by_cases hlt : k < 6
          · obtain ⟨vv, hvv⟩ := rC_some k k (by omega)
            have ck := (cell_of_row wo gb k _ _ (0, 0) HG.out).trans hvv
            have fk := frozen_of_row wo gb k _ _ HG.out
            have e1 : (0 : Int) ≤ (k : Int) := by omega
            have e2 : (k : Int) < 6 := by omega
            clear hvv
            go_wp2
            go_roundw
            case measure => simp [intOf]; omega
            case rel =>
              refine ⟨k + 1, by go_num, by omega, ?_, ?_, ?_, ?_⟩
              · exact (((Keep.refl (fun b => b = gb) wo).setCell (p := ⟨gb, k, none⟩) rfl _).block mb (blk_lt HM.out) HMG.out).trans HM.out
              · show _ = _
                rw [← rC_step k hlt]
                exact heap_setCell_same wo gb k _ _ _ HG.out
              · exact HB.out.setCell (p := ⟨gb, k, none⟩) hlg _
              · exact (((Keep.refl (fun b => b = gb) wo).setCell (p := ⟨gb, k, none⟩) rfl _).block rb (blk_lt HR.out) HRG.out).trans HR.out
          · obtain rfl : k = 6 := by omega
            have g0 := cell_of_row wo gb 0 _ _ (0, 0) HG.out
            have g1 := cell_of_row wo gb 1 _ _ (0, 0) HG.out
            have g2 := cell_of_row wo gb 2 _ _ (0, 0) HG.out
            have g3 := cell_of_row wo gb 3 _ _ (0, 0) HG.out
            have g4 := cell_of_row wo gb 4 _ _ (0, 0) HG.out
            have g5 := cell_of_row wo gb 5 _ _ (0, 0) HG.out
            simp [rC, num0] at g0 g1 g2 g3 g4 g5
            have hI := inv_machE (B := w.heap.size) (d := d) hlm HM.out
            have HA := hidP (madd_any hI ok_machE fit_machE (.num 0) (.num 0) (.num 0) (.num 0) (.num 0) (.num 0) (fun y hy => by simp at hy; rw [hy]; exact ok_num0) 0)
            rw [mach0_eq] at HA
            unfold encV at HA
            have hmbe2 : (layE mb).mb = mb := rfl
            rw [hmbe2] at HA
            clear hI hmbe2
            go_upto_region 17 with (go_at_call 28; with_reducible refine HA.out.mono ?_; rintro e w5 ⟨rfl, h5⟩)
            have h0 : Hid (RunJ w A nl d rb mb l s 0 w5) := by
              obtain ⟨σ', ow', u1, ua, u2, u3⟩ := h5
              have hrm : rb ≠ mb := HRM.out
              have hlr : rb < wo.heap.size := blk_lt HR.out
              refine ⟨mach0, σ', ow', u1, ua.mb, ok_mach0, size_mach0, rfl, ?_, ?_, ?_⟩
              · exact HB.out.trans (inv_machE (d := d) hlm HM.out |>.keepBelow u2)
              · rw [u2.block rb hlr (by unfold owE; simp [hrm])]
                exact HR.out
              · rw [u3 rb hlr]; unfold owE; simp [hrm]
            clear HM HG HB HR HA h5 g0 g1 g2 g3 g4 g5
            go_wp2_with fail
            go_loopw [46] (fun v wr => ∃ k : Nat, v = .int .i64 k ∧ k ≤ nS ∧ Hid (RunJ w A nl d rb mb l s k wr)) (fun v _ => nS - (intOf v).toNat)
            case atStart => exact ⟨0, rfl, by omega, h0.out⟩
            case round =>
              obtain ⟨k, rfl, hk, HJ⟩ := hrel
              obtain ⟨wi, hwi⟩ : ∃ wi, wi = wr := ⟨_, rfl⟩
              subst hwi
              obtain ⟨m, σ, ow, hI, hmbe3, okm, szm, hme, hbm, hrm, hfr⟩ := HJ.out
              obtain ⟨q, tv, ev, sv, G0, G1, G2, G3, hM⟩ := hI.machC
              have hcell := hM.cells.1
              rw [hmbe3] at hcell
              have k9 := cell_of_row wi mb 9 _ _ (0, 0) hcell
              have k10 := cell_of_row wi mb 10 _ _ (0, 0) hcell
              have k11 := cell_of_row wi mb 11 _ _ (0, 0) hcell
              simp at k9 k10 k11
              have v0 := cell_of_row wi rb 0 _ _ (0, 0) hrm
              have v1 := cell_of_row wi rb 1 _ _ (0, 0) hrm
              have v2 := cell_of_row wi rb 2 _ _ (0, 0) hrm
              have z0 := frozen_of_row wi rb 0 _ _ hrm
              have z1 := frozen_of_row wi rb 1 _ _ hrm
              have z2 := frozen_of_row wi rb 2 _ _ hrm
              simp at v0 v1 v2
              by_cases hlt : k < nS
              · obtain ⟨hP, hl, hll, hS, hsl, hsn⟩ := HX.out
                obtain ⟨e, he⟩ := some_lt (l := s) (i := k) (by rw [HN.out.2]; exact hlt)
                obtain ⟨b, o, hSe, x0, x1, x2⟩ := entC_at (hS.below hbm) he
                subst hSe
                have hb : Below wi.heap.size wi (wi.alloc (.cells #[.int .i64 e.kind, .int .i64 e.n, .int .i64 e.draw] 48)) := bnew (brefl wi) _
                have hfold : (s.take (k + 1)).foldl (MachD.entry l) mach0 = m.entry l e := by rw [List.take_add_one, he, List.foldl_append, ← hme]; rfl
                have hsne := hsn e (List.mem_of_getElem? he)
                have hll2 : l.length ≤ 9999 := by rcases hll with h | h; omega; exact absurd hvn.out h
                have hent := entry_ok okm szm (by have := HN.out.2; omega) (hl hvn.out) hll2 e
                by_cases ho : m.outcome = 0
                · have hl2 := blk_lt hrm
                  have hI := hI.below hb
                  have hrm := (hb.block rb hl2).trans hrm
                  have hbm := bstep hbm hb
                  have hfr : frm ow wi.heap.size none rb = none := (frm_lt hl2).trans hfr
                  have hxb := heap_alloc_new wi (.cells #[.int .i64 e.kind, .int .i64 e.n, .int .i64 e.draw] 48)
                  clear hM hcell k9 k10 k11 v0 v1 v2 z0 z1 z2
                  obtain ⟨W, hWe⟩ : ∃ W, wi.alloc (.cells #[.int .i64 e.kind, .int .i64 e.n, .int .i64 e.draw] 48) = W := ⟨_, rfl⟩
                  rw [hWe] at hI hrm hbm hxb
                  obtain ⟨xb, hxe⟩ : ∃ xb, wi.heap.size = xb := ⟨_, rfl⟩
                  rw [hxe] at hxb hfr hI
                  have y0 := cell_of_row W xb 0 _ _ (0, 0) hxb
                  have y1 := cell_of_row W xb 1 _ _ (0, 0) hxb
                  have y2 := cell_of_row W xb 2 _ _ (0, 0) hxb
                  simp at y0 y1 y2
                  obtain ⟨q, tv, ev, sv, G0, G1, G2, G3, hM⟩ := hI.machC
                  have hcell := hM.cells.1
                  rw [hmbe3] at hcell
                  have k10 := cell_of_row W mb 10 _ _ (0, 0) hcell
                  simp [ho] at k10
                  have hki : (k : Int) < (nS : Int) := by omega
                  have hk5 := hsl
                  rw [HN.out.2] at hk5
                  have hent2 : m.entry l e = if e.kind = 1 then m.pick l e.n e.draw else if e.kind = 2 then m.tick e.n else m := by unfold MachD.entry; rw [if_neg (fun h => h ho)]
                  have HSTEP := hidP (fun (w' : World) (hr : ResN w.heap.size (.slice A nl d) σ (frm ow xb none) m (m.entry l e) W w') => runJ_step (s := s) hI hmbe3 hbm hrm hfr hent.1 hent.2 hfold.symm hr)
                  rw [hent2] at HSTEP
                  have fitm := szm.fit (by omega)
                  go_upto_region 20 with fail
                  clear hWe x0 x1 x2
                  by_cases e1 : e.kind = 1
                  · rw [if_pos e1] at HSTEP
                    have HC := hidP (pick_any hI okm fitm (by have := szm.steps; omega) (by have := szm.events; omega) (by have := szm.ws; omega) (w0 := w) rfl hbm (by rw [HN.out.1] at hP; exact hP) HN.out.1 (hl hvn.out) (by rw [HN.out.1] at hll2; exact hll2) e.n e.draw hsne.1 hsne.2)
                    rw [hmbe3] at HC
                    clear hP hl hll hS hsl hsn he hb hfold hsne hll2 hent hI hrm hbm hfr hM hcell hent2 hxb okm szm hme hmbe3 fitm
                    go_wp2_with (go_at_call 29; with_reducible refine HC.out.mono ?_; rintro e w9 ⟨rfl, h9⟩; dsimp only)
                    go_roundw
                    case measure => simp [intOf]; omega
                    case rel => exact ⟨k + 1, by go_num, by omega, HSTEP.out w9 h9⟩
                  · rw [if_neg e1] at HSTEP
                    by_cases e2 : e.kind = 2
                    · rw [if_pos e2] at HSTEP
                      have HC := hidP (tick_any hI okm fitm e.n (by have := szm.now; omega) hsne.1)
                      rw [hmbe3] at HC
                      clear hP hl hll hS hsl hsn he hb hfold hsne hll2 hent hI hrm hbm hfr hM hcell hent2 hxb okm szm hme hmbe3 fitm
                      go_wp2_with (go_at_call 30; with_reducible refine HC.out.mono ?_; rintro e w9 ⟨rfl, h9⟩; dsimp only)
                      go_roundw
                      case measure => simp [intOf]; omega
                      case rel => exact ⟨k + 1, by go_num, by omega, HSTEP.out w9 h9.toN⟩
                    · rw [if_neg e2] at HSTEP
                      have HR9 := hidP (hI.res_below (brefl W))
                      clear hP hl hll hS hsl hsn he hb hfold hsne hll2 hent hI hrm hbm hfr hM hcell hent2 hxb okm szm hme hmbe3 fitm
                      go_wp2
                      go_roundw
                      case measure => simp [intOf]; omega
                      case rel => exact ⟨k + 1, by go_num, by omega, HSTEP.out W HR9.out.toN⟩
                · have hfin : Hid (runP l s = m) := by
                    show _ = _
                    unfold runP runR
                    rw [if_pos hvn.out, ← List.take_append_drop k s, List.foldl_append, ← hme, fold_stay ho]
                  have hl2 := blk_lt hrm
                  have hI := hI.below hb
                  have hrm := (hb.block rb hl2).trans hrm
                  have hbm := bstep hbm hb
                  have hfr : frm ow wi.heap.size none rb = none := (frm_lt hl2).trans hfr
                  clear hM hcell k9 k10 k11 v0 v1 v2 z0 z1 z2
                  have y0 := x0
                  have y1 := x1
                  have y2 := x2
                  obtain ⟨W, hWe⟩ : ∃ W, wi.alloc (.cells #[.int .i64 e.kind, .int .i64 e.n, .int .i64 e.draw] 48) = W := ⟨_, rfl⟩
                  rw [hWe] at hI hrm hbm
                  obtain ⟨q, tv, ev, sv, G0, G1, G2, G3, hM⟩ := hI.machC
                  have hcell := hM.cells.1
                  rw [hmbe3] at hcell
                  have k9 := cell_of_row W mb 9 _ _ (0, 0) hcell
                  have k10 := cell_of_row W mb 10 _ _ (0, 0) hcell
                  have k11 := cell_of_row W mb 11 _ _ (0, 0) hcell
                  simp at k9 k10 k11
                  have v0 := cell_of_row W rb 0 _ _ (0, 0) hrm
                  have v1 := cell_of_row W rb 1 _ _ (0, 0) hrm
                  have v2 := cell_of_row W rb 2 _ _ (0, 0) hrm
                  have z0 := frozen_of_row W rb 0 _ _ hrm
                  have z1 := frozen_of_row W rb 1 _ _ hrm
                  have z2 := frozen_of_row W rb 2 _ _ hrm
                  simp at v0 v1 v2
                  have hki : (k : Int) < (nS : Int) := by omega
                  clear hP hl hll hS hsl hsn he hb hfold hsne hll2 hent y0 y1 y2
                  go_upto_region 20 with fail
                  clear hWe x0 x1 x2
                  obtain ⟨ea, ec, hev, _⟩ := mt_slice hM.events.1
                  obtain ⟨sa, sc, hsv, _⟩ := mt_slice hM.steps.1
                  subst hev hsv
                  have HF := hidP (⟨hM.events, hM.steps, hbm, hrm, hfr, hrm⟩ : _ ∧ _ ∧ _ ∧ _ ∧ _ ∧ _)
                  clear hI hmbe3 okm szm hme hbm hrm hfr hM hcell
                  go_wp2
                  have HR1 := hidP (heap_setCell_same _ rb 2 _ _ (.slice sa m.steps.length sc) (heap_setCell_same _ rb 1 _ _ (.int .i64 m.outcome) (heap_setCell_same W rb 0 _ _ (.slice ea m.events.length ec) HF.out.2.2.2.1)))
                  (try simp only [Exit.inBlock, Exit.then])
                  refine bodyPost_ret (results_cell_row rfl _ _ rb _ _ (0, 0) _ rfl HR1.out Tryz.underlying31 rfl (by kernel_rfl)) rfl ?_
                  rw [hfin.out]
                  obtain ⟨he, hst, hbm, hrm, hfr, _⟩ := HF.out
                  have hrl : w.heap.size ≤ rb := Nat.le_of_eq hrbe
                  have hk3 : Keep (fun b => b = rb) W (((W.setCell ⟨rb, 0, none⟩ (.slice ea m.events.length ec)).setCell ⟨rb, 1, none⟩ (.int .i64 m.outcome)).setCell ⟨rb, 2, none⟩ (.slice sa m.steps.length sc)) :=
                    (((Keep.refl (fun b => b = rb) W).setCell (p := ⟨rb, 0, none⟩) rfl _).setCell (p := ⟨rb, 1, none⟩) rfl _).setCell (p := ⟨rb, 2, none⟩) rfl _
                  have hno : ∀ b, (frm ow wi.heap.size none) b = some .mach → b ≠ rb := fun b h1 e => by rw [e, hfr] at h1; cases h1
                  exact ⟨_, _, rfl, owns_keep he.1 hk3 (fun b hb e => hno b (he.2 b hb) e), owns_keep hst.1 hk3 (fun b hb e => hno b (hst.2 b hb) e), hbm.trans (hk3.toBelow (fun b e => by rw [e]; exact hrl) hbm.size)⟩
              · obtain rfl : k = nS := by omega
                have hfin : Hid (runP l s = m) := by
                  show _ = _
                  unfold runP runR
                  rw [if_pos hvn.out, hme, List.take_of_length_le (by rw [HN.out.2]; exact Nat.le_refl _)]
                obtain ⟨ea, ec, hev, _⟩ := mt_slice hM.events.1
                obtain ⟨sa, sc, hsv, _⟩ := mt_slice hM.steps.1
                subst hev hsv
                have HF := hidP (⟨hM.events, hM.steps, hbm, hrm, hfr, hrm⟩ : _ ∧ _ ∧ _ ∧ _ ∧ _ ∧ _)
                clear hI hmbe3 okm szm hme hbm hrm hfr hM hcell
                go_wp2
                have HR1 := hidP (heap_setCell_same _ rb 2 _ _ (.slice sa m.steps.length sc) (heap_setCell_same _ rb 1 _ _ (.int .i64 m.outcome) (heap_setCell_same wi rb 0 _ _ (.slice ea m.events.length ec) HF.out.2.2.2.1)))
                (try simp only [Exit.inBlock, Exit.then])
                refine bodyPost_ret (results_cell_row rfl _ _ rb _ _ (0, 0) _ rfl HR1.out Tryz.underlying31 rfl (by kernel_rfl)) rfl ?_
                rw [hfin.out]
                obtain ⟨he, hst, hbm, hrm, hfr, _⟩ := HF.out
                have hrl : w.heap.size ≤ rb := Nat.le_of_eq hrbe
                have hk3 : Keep (fun b => b = rb) wi (((wi.setCell ⟨rb, 0, none⟩ (.slice ea m.events.length ec)).setCell ⟨rb, 1, none⟩ (.int .i64 m.outcome)).setCell ⟨rb, 2, none⟩ (.slice sa m.steps.length sc)) :=
                  (((Keep.refl (fun b => b = rb) wi).setCell (p := ⟨rb, 0, none⟩) rfl _).setCell (p := ⟨rb, 1, none⟩) rfl _).setCell (p := ⟨rb, 2, none⟩) rfl _
                have hno : ∀ b, ow b = some .mach → b ≠ rb := fun b h1 e => by rw [e, hfr] at h1; cases h1
                exact ⟨_, _, rfl, owns_keep he.1 hk3 (fun b hb e => hno b (he.2 b hb) e), owns_keep hst.1 hk3 (fun b hb e => hno b (hst.2 b hb) e), hbm.trans (hk3.toBelow (fun b e => by rw [e]; exact hrl) hbm.size)⟩
  · have hvn : Hid (runP l s = { mach0 with outcome := 9 }) := by show _ = _; unfold runP; rw [if_neg hv]
    generalize validR l = V at HV hv
    obtain ⟨V1, V2⟩ := V
    dsimp only at HV hv
    go_enter Tryz.func17, Tryz.ntmps17
    go_wp2_with (go_at_call 27; with_reducible refine HV.out.mono ?_; rintro e w1 ⟨rfl, hb1⟩; have hr1 := (hb1.block rb (blk_lt HRB.out)).trans HRB.out; have r0 := cell_of_row w1 rb 0 _ _ (0, 0) hr1; have r1 := cell_of_row w1 rb 1 _ _ (0, 0) hr1; have r2 := cell_of_row w1 rb 2 _ _ (0, 0) hr1; simp at r0 r1 r2; have f0 := frozen_of_row w1 rb 0 _ _ hr1; have f1 := frozen_of_row w1 rb 1 _ _ hr1; have f2 := frozen_of_row w1 rb 2 _ _ hr1; have HB1 := hidP hb1; have HR := hidP hr1; clear hb1 hr1)
    have HR1 := hidP (heap_setCell_same _ rb 2 _ _ (.slice none 0 0) (heap_setCell_same _ rb 1 _ _ (.int .i64 9) (heap_setCell_same w1 rb 0 _ _ (.slice none 0 0) HR.out)))
    refine bodyPost_ret (results_cell_row rfl _ _ rb _ _ (0, 0) _ rfl HR1.out Tryz.underlying31 rfl (by kernel_rfl)) rfl ?_
    rw [hvn.out]
    refine ⟨_, _, rfl, World.ownsRow_nil _ _ _ _, World.ownsRow_nil _ _ _ _, ?_⟩
    have hrl : w.heap.size ≤ rb := Nat.le_of_eq hrbe
    exact (((bstep HB0.out HB1.out).setCell (p := ⟨rb, 0, none⟩) hrl _).setCell (p := ⟨rb, 1, none⟩) hrl _).setCell (p := ⟨rb, 2, none⟩) hrl _
end Go.Proofs.YtklfboidjnchoaaGreatDoor
namespace Go.Proofs.YtklfboidjnchoaaGreatDoor
set_option linter.unusedVariables false
set_option linter.unusedSimpArgs false
theorem regOk_in {v : Int} {b : Bool} (h : regOk v b = true) : 0 ≤ v ∧ v < 6 := by
  unfold regOk at h
  simp at h
  rcases h with rfl | ⟨⟨_, h1⟩, h2⟩
  · exact ⟨by omega, by omega⟩
  · omega
theorem casF_ok {n : Nat} : ∀ (l : List CaseD) (k : Nat), casF n k l = true → ∀ c ∈ l, OkCase c := by
  intro l
  induction l with
  | nil => intro k _ c hc; cases hc
  | cons d l ih =>
    intro k h c hc
    unfold casF at h
    rw [Bool.and_eq_true] at h
    rcases List.mem_cons.1 hc with rfl | hc
    · have h1 := h.1
      unfold caseOk at h1
      simp only [Bool.not_eq_true', Bool.or_eq_false_iff] at h1
      obtain ⟨⟨⟨⟨⟨_, _⟩, h3⟩, h4⟩, h5⟩, _⟩ := h1
      refine ⟨regOk_in (by simpa using h3), regOk_in (by simpa using h4), ?_⟩
      unfold withinOk at h5
      simp at h5
      omega
    · exact ih (k + 1) h.2 c hc
theorem okI_shaped {x : InstrD} (h : shapedP x = true) : OkI x := by
  have hf := shapedP_few h
  unfold shapedP at h
  split at h
  · cases h
  · simp only [Bool.and_eq_true] at h
    obtain ⟨⟨⟨⟨h1, h2⟩, _⟩, h4⟩, h5⟩ := h
    unfold withinOk boundOf at h4
    simp only [Bool.and_eq_true, decide_eq_true_eq] at h4
    refine ⟨regOk_in h1, regOk_in h2, ⟨h4.1, ?_⟩, ?_, ?_, hf⟩
    · have := h4.2
      repeat' split at this
      all_goals omega
    · intro ho
      have h6 := h4.2
      rcases ho with ho | ho
      · rw [ho] at h6; simp at h6; omega
      · rw [ho] at h6; simp at h6; omega
    · split at h5
      · unfold casesOk at h5
        simp only [Bool.and_eq_true] at h5
        exact casF_ok _ _ h5.1.1
      · intro c hc
        have : x.cases = [] := by simpa using h5
        rw [this] at hc
        cases hc
theorem valF_ok {n : Nat} : ∀ (l : List InstrD) (k : Nat), (valF n k l).2 = 0 → ∀ x ∈ l, OkI x := by
  intro l
  induction l with
  | nil => intro k _ x hx; cases hx
  | cons y l ih =>
    intro k h x hx
    unfold valF at h
    split at h
    · rename_i h0
      rcases List.mem_cons.1 hx with rfl | hx
      · refine okI_shaped ?_
        unfold lookR at h0
        split at h0
        · cases h0
        · rename_i hs; simpa using hs
      · exact ih (k + 1) h x hx
    · rename_i h0
      exact absurd h h0
theorem okI_valid {l : List InstrD} (h : (validR l).2 = 0) : (∀ x ∈ l, OkI x) ∧ l.length ≤ 60 := by
  unfold validR at h
  split at h
  · cases h
  · split at h
    · cases h
    · exact ⟨valF_ok _ _ h, by omega⟩
end Go.Proofs.YtklfboidjnchoaaGreatDoor
namespace Go.Proofs.YtklfboidjnchoaaGreatDoor
open Go.RowKit Go.Proofs.YtklfboidjnchoaaGreatDoorW.PrintWords
set_option linter.unusedVariables false
set_option linter.unusedSimpArgs false
theorem evC_len (l : List EvP) : (l.flatMap evC).length = l.length * 4 := by
  induction l with
  | nil => rfl
  | cons c l ih => rw [List.flatMap_cons, List.length_append, ih]; simp [evC]; omega
theorem evC_get : ∀ (l : List EvP) (i j : Nat) (c : EvP) (u : Value), l[i]? = some c → (evC c)[j]? = some u → (l.flatMap evC)[i * 4 + j]? = some u
  | [], i, j, c, u, h, _ => by simp at h
  | d :: l, 0, j, c, u, h, hj => by
    obtain rfl : d = c := by simpa using h
    rw [List.flatMap_cons, Nat.zero_mul, Nat.zero_add, List.getElem?_append_left (List.getElem?_eq_some_iff.1 hj).1]
    exact hj
  | d :: l, i + 1, j, c, u, h, hj => by
    rw [List.flatMap_cons, List.getElem?_append_right (by simp [evC]; omega)]
    rw [show (i + 1) * 4 + j - (evC d).length = i * 4 + j by simp [evC]; omega]
    exact evC_get l i j c u (by simpa using h) hj
theorem evC_at {w : World} {A : Option Addr} {l : List EvP} (h : RowAt w A (l.flatMap evC)) {i : Nat} {c : EvP} (hi : l[i]? = some c) :
    ∃ b o, A = some ⟨b, o, none⟩ ∧ w.cell? ⟨b, o + i * 4, none⟩ = some (.int .i64 c.kind) ∧ w.cell? ⟨b, o + i * 4 + 1, none⟩ = some (.int .i64 c.gor) ∧ w.cell? ⟨b, o + i * 4 + 2, none⟩ = some (.int .i64 c.val) ∧ w.cell? ⟨b, o + i * 4 + 3, none⟩ = some (.bool c.ref) := by
  obtain ⟨b, o, rfl, hc⟩ := h.addr (by rw [evC_len]; have := lt_of_some hi; omega)
  exact ⟨b, o, rfl, by have := hc _ _ (evC_get l i 0 c _ hi rfl); simpa using this, by have := hc _ _ (evC_get l i 1 c _ hi rfl); simpa [Nat.add_assoc] using this, by have := hc _ _ (evC_get l i 2 c _ hi rfl); simpa [Nat.add_assoc] using this, by have := hc _ _ (evC_get l i 3 c _ hi rfl); simpa [Nat.add_assoc] using this⟩
def evPV (x : EvP) : Value := .agg #[.int .i64 x.kind, .int .i64 x.gor, .int .i64 x.val, .bool x.ref]
set_option maxRecDepth 100000 in
set_option maxHeartbeats 800000 in
theorem eqEvP_any (x y : EvP) (w : World) :
    Calls Tryz.prog 39 #[evPV x, evPV y] w fun e w' => e = .returned (.bool (decide (x = y))) ∧ Below w.heap.size w w' := by
  unfold evPV
  go_enter Tryz.func39, Tryz.ntmps39
  go_wp2
  all_goals
    go_ret
    refine ⟨?_, (((Below.refl _ _).alloc (Nat.le_refl _) _).alloc (by simp) _)⟩
  · have e : decide (x = y) = true := by cases x; cases y; simp_all
    rw [e]; rfl
  all_goals
    have e : decide (x = y) = false := by cases x; cases y; simp_all
    rw [e]; rfl
set_option maxRecDepth 100000 in
set_option maxHeartbeats 800000 in
theorem sameEvP_any (ao bo : Option Addr) (c d : Nat) (es fs : List EvP) (w : World) (hae : RowAt w ao (es.flatMap evC)) (hbf : RowAt w bo (fs.flatMap evC)) (hmx : es.length ≤ 1000000) :
    Calls Tryz.prog 38 #[.slice ao es.length c, .slice bo fs.length d, .func (.func 39) #[] #[]] w fun e w' => e = .returned (.bool (decide (es = fs))) ∧ Below w.heap.size w w' := by
  have HAE := hidP hae
  have HBF := hidP hbf
  obtain ⟨n, hn⟩ : ∃ n, es.length = n := ⟨_, rfl⟩
  obtain ⟨m, hm⟩ : ∃ m, fs.length = m := ⟨_, rfl⟩
  rw [hn] at hmx ⊢
  rw [hm]
  have Hn := hidP hn
  have Hm := hidP hm
  clear hae hbf hn hm
  go_enter Tryz.func38, Tryz.ntmps38
  by_cases hnm : n = m
  · subst hnm
    go_wp2_with fail
    go_loopw [7] (fun i wr => ∃ k : Nat, i = .int .i64 k ∧ k ≤ n ∧ Hid (es.take k = fs.take k) ∧ Below w.heap.size w wr) (fun i _ => n - (intOf i).toNat)
    case atStart => exact ⟨0, rfl, Nat.zero_le _, rfl, Below.refl _ _⟩
    case round =>
      obtain ⟨k, rfl, hk, HE, hb⟩ := hrel
      by_cases hlt : k < n
      · obtain ⟨x, hx⟩ : ∃ x, es[k]? = some x := ⟨_, List.getElem?_eq_getElem (by rw [Hn.out]; omega)⟩
        obtain ⟨y, hy⟩ : ∃ y, fs[k]? = some y := ⟨_, List.getElem?_eq_getElem (by rw [Hm.out]; omega)⟩
        obtain ⟨b, o, rfl, x0, x1, x2, x3⟩ := evC_at (HAE.out.below hb) hx
        obtain ⟨b', o', rfl, y0, y1, y2, y3⟩ := evC_at (HBF.out.below hb) hy
        have HX := hidP hx
        have HY := hidP hy
        clear hx hy
        go_wp2_with fail
        go_still_tail 9, (by kernel_rfl)
        go_wp2_with (go_at_call 39; refine (eqEvP_any x y _).mono ?_; rintro e w1 ⟨rfl, hb1⟩)
        · have he : (!decide (x = y)) = true := by assumption
          have hd := ne_stepK HX.out HY.out (by simpa using he)
          go_ret
          exact ⟨by rw [hd]; rfl, hb.drew.trans (hb1.mono hb.size)⟩
        · have he : (!decide (x = y)) = false := by assumption
          go_roundw
          case rel => exact ⟨k + 1, by go_num, by omega, take_stepK HE.out HX.out HY.out (by simpa using he), hb.drew.trans (hb1.mono hb.size)⟩
          case measure => simp [intOf]; omega
      · have hd := eq_allK HE.out (by rw [Hn.out]; omega) (by rw [Hm.out]; omega)
        go_wp2
        go_ret
        exact ⟨by rw [hd]; rfl, hb⟩
  · have hd : decide (es = fs) = false := ne_lenK (by rw [Hn.out, Hm.out]; exact hnm)
    have HD := hidP hd
    clear hd
    have : ((n:Int) == (m:Int)) = false := by simp; omega
    go_wp2
    go_ret
    exact ⟨by rw [HD.out]; rfl, Below.refl _ _⟩
set_option maxRecDepth 100000 in
set_option maxHeartbeats 400000 in
theorem plainEvP_any (ao bo : Option Addr) (c d : Nat) (es fs : List EvP) (w : World) (hae : RowAt w ao (es.flatMap evC)) (hbf : RowAt w bo (fs.flatMap evC)) (hmx : es.length ≤ 1000000) :
    Calls Tryz.prog 25 #[.slice ao es.length c, .slice bo fs.length d] w fun e w' => e = .returned (.bool (decide (es = fs))) ∧ Below w.heap.size w w' := by
  have h := sameEvP_any ao bo c d es fs w hae hbf hmx
  have H := hidP h
  clear hae hbf h
  go_enter Tryz.func25, Tryz.ntmps25
  go_wp2_with (go_at_call 38; refine H.out.mono ?_; rintro e w1 ⟨rfl, hb1⟩)
  go_ret
  exact ⟨rfl, hb1⟩
end Go.Proofs.YtklfboidjnchoaaGreatDoor
namespace Go.Proofs.YtklfboidjnchoaaGreatDoor
open Go
set_option linter.unusedVariables false
set_option linter.unusedSimpArgs false
theorem valF_shaped {n : Nat} : ∀ (l : List InstrD) (k : Nat), (valF n k l).2 = 0 → ∀ x ∈ l, shapedP x = true := by
  intro l
  induction l with
  | nil => intro k _ x hx; cases hx
  | cons y l ih =>
    intro k h x hx
    unfold valF at h
    split at h
    · rename_i h0
      rcases List.mem_cons.1 hx with rfl | hx
      · unfold lookR at h0
        split at h0
        · cases h0
        · rename_i hs; simpa using hs
      · exact ih (k + 1) h x hx
    · rename_i h0
      exact absurd h h0
theorem valid_shaped {l : List InstrD} (h : (validR l).2 = 0) : (∀ x ∈ l, rshaped x = true) ∧ 0 < l.length ∧ l.length ≤ 60 := by
  unfold validR at h
  split at h
  · cases h
  · split at h
    · cases h
    · exact ⟨fun x hx => by have := shaped_eq x; rw [valF_shaped _ _ h x hx, Bool.and_eq_true] at this; exact this.1, by omega, by omega⟩
theorem linesN_text (l : List InstrD) (rest : List Nat) : linesN (textW l ++ rest) [] = l.map rW ++ linesN rest [] := by
  induction l with
  | nil => rfl
  | cons x l ih =>
    have e : textW (x :: l) ++ rest = rW x ++ 10 :: (textW l ++ rest) := by
      unfold textW joinW
      rw [List.map_cons, List.flatMap_cons, List.append_assoc, List.append_assoc]
      rfl
    rw [e, linesN_line1 _ (signs_rW x).1 (signs_rW x).2, ih]
    rfl
theorem decO_rW : ∀ (l : List InstrD) (i : Nat) (acc : List InstrD), (∀ x ∈ l, rshaped x = true) → decO i acc (l.map rW) = (acc ++ l, 0, 0)
  | [], i, acc, _ => by simp [decO]
  | x :: l, i, acc, h => by
    rw [List.map_cons]
    simp only [decO]
    rw [back_one (h x (List.mem_cons_self ..))]
    show decO (i + 1) (acc ++ [x]) (l.map rW) = _
    rw [decO_rW l _ _ (fun y hy => h y (List.mem_cons_of_mem _ hy)), List.append_assoc]
    rfl
theorem signsT_text (l : List InstrD) : signsT (textW l) := by
  intro c hc
  unfold textW joinW at hc
  obtain ⟨L, hL, hc⟩ := List.mem_flatMap.1 hc
  obtain ⟨x, _, rfl⟩ := List.mem_map.1 hL
  rcases List.mem_append.1 hc with hc | hc
  · exact signs_T (signs_rW x).1 c hc
  · rw [List.mem_singleton] at hc; exact .inl hc
theorem load_text {l : List InstrD} {T : List Nat} (hv : (validR l).2 = 0) (hT : T = textW l ∨ ∃ k x, l = k ++ [x] ∧ T = textW k ++ rW x) (hl : T.length ≤ 2000) : loadR (strA T) = (l, 0, 0) := by
  obtain ⟨hs, h0, h60⟩ := valid_shaped hv
  have hL : linesN T [] = l.map rW ∧ signsT T := by
    rcases hT with rfl | ⟨k, x, rfl, rfl⟩
    · have := linesN_text l []
      rw [List.append_nil] at this
      exact ⟨by rw [this]; simp [linesN], signsT_text l⟩
    · refine ⟨?_, signsT_app (signsT_text k) (signs_T (signs_rW x).1)⟩
      rw [linesN_text, List.map_append, linesN_last (signs_rW x).1 (by simpa using (signs_rW x).2)]
      rfl
  have hd : decodeR (strA T) = (l, 0, 0) := by
    rw [decode_lines hL.2 hl (by rw [hL.1, List.length_map]; exact h0) (by rw [hL.1, List.length_map]; exact h60), hL.1, decO_rW l 0 [] hs]
    rfl
  unfold loadR
  rw [hd]
  simp [hv]
def loadT (T : List Nat) : List InstrD × Int × Int := decO 0 [] (linesN T [])
def okT (T : List Nat) (l : List InstrD) : Prop := signsT T ∧ T.length ≤ 2000 ∧ 0 < (linesN T []).length ∧ (linesN T []).length ≤ 60 ∧ (validR l).2 = 0
theorem load_one {T : List Nat} {l : List InstrD} (h : loadT T = (l, 0, 0)) (k : okT T l) : loadR (strA T) = (l, 0, 0) := by
  obtain ⟨h1, h2, h3, h4, h5⟩ := k
  have hd : decodeR (strA T) = (l, 0, 0) := by rw [decode_lines h1 h2 h3 h4]; exact h
  unfold loadR
  rw [hd]
  simp [h5]
theorem ctn_facts : ctn (hasF 1) 97 = true ∧ ctn (hasF 14) 97 = true ∧ ctn (hasF 4) 97 = true ∧ Lib.containsAny (hasF 1) [110, 108] = true ∧ Lib.containsAny (hasF 14) [110, 108] = true ∧ Lib.containsAny (hasF 4) [110, 108] = true := by decide +kernel
theorem look_num {op r v : Int} (n : Nat) (ho : op = 1 ∧ v ≤ 9999 ∨ op = 14 ∧ v ≤ 1000 ∨ op = 4 ∧ v ≤ 3) (h : 0 ≤ v) (hr : 0 ≤ r ∧ r < 6) : lookR ⟨op, r, 0, v, []⟩ n = 0 := by
  obtain ⟨c1, c2, c3, c4, c5, c6⟩ := ctn_facts
  have hreg : regOk r true = true := by unfold regOk; simp; omega
  have hz : ∀ b, regOk 0 b = true := fun b => by simp [regOk]
  have key : shapedP ⟨op, r, 0, v, []⟩ = true := by
    unfold shapedP
    rcases ho with ⟨rfl, hv⟩ | ⟨rfl, hv⟩ | ⟨rfl, hv⟩
    all_goals
      rw [if_neg (show ¬ ((_ : Int) < 1 ∨ (22 : Int) < _) by simp)]
      simp [c1, c2, c3, c4, c5, c6, hreg, hz, withinOk, boundOf]
      omega
  unfold lookR
  rw [key]
  rcases ho with ⟨rfl, hv⟩ | ⟨rfl, hv⟩ | ⟨rfl, hv⟩ <;> simp [tosP, jumps]
theorem runR_few {l : List InstrD} {s : List EntD} (hv : (validR l).2 = 0) (hs : s.length ≤ 1000) : (runR l s).events.length ≤ 1000000 := by
  obtain ⟨h1, h2⟩ := okI_valid hv
  have := (run_ok h1 (by omega) s (by omega)).2.events
  omega
instance (T : List Nat) (l : List InstrD) : Decidable (okT T l) := by unfold okT signsT; infer_instance
def codeT (T : List Nat) : List InstrD := (loadT T).1
def goodT (T : List Nat) : Prop := (loadT T).2 = (0, 0) ∧ okT T (codeT T)
instance (T : List Nat) : Decidable (goodT T) := by unfold goodT; infer_instance
theorem load_good {T : List Nat} (h : goodT T) : loadR (strA T) = (codeT T, 0, 0) := load_one (Prod.ext rfl h.1) h.2
theorem digs_two {n : Nat} (h : n < 100) : decN n = if n < 10 then [48 + n] else [48 + n / 10, 48 + n % 10] := by
  unfold decN
  by_cases h1 : n < 10
  · rw [digs_small h1, if_pos h1]; rfl
  · rw [digs_big h1, digs_small (by omega), if_neg h1]; rfl
def dec2 (n : Nat) : List Nat := if n < 10 then [48 + n] else [48 + n / 10, 48 + n % 10]
def errT : List (List Nat) := [[109, 97, 48, 10, 99, 97, 10, 115, 97, 98], [109, 97, 48, 10, 99, 97, 10, 99, 97], [99, 97], [61, 97, 53, 10, 99, 97], [98, 97, 32, 98, 10, 114, 97, 99], [61, 97, 53, 10, 115, 97, 98], [98, 97, 32, 98, 10, 43, 97, 98], [61, 97, 53, 10, 117, 97, 98], [109, 97, 48, 10, 117, 97, 98], [61, 97, 49, 10, 102, 97, 50], [61, 97, 53, 10, 108, 97, 98], [98, 97, 32, 98, 10, 107, 97, 98], [109, 97, 48, 10, 114, 97, 98], [114, 97, 98], [83, 114, 97, 98, 48], [109, 97, 49, 10, 83, 115, 97, 98, 48, 114, 97, 98, 49]]
def errW : List Int := [3, 4, 5, 6, 6, 6, 6, 6, 6, 6, 6, 6, 2, 2, 2, 0]
def errM (k : Nat) : MachD := runR (codeT (errT.getD k [])) (picksL 12 0)
theorem err_good : ∀ k, k < 16 → goodT (errT.getD k []) := by decide +kernel
theorem err_run : ∀ k, k < 16 → (errM k).outcome = errW.getD k 0 ∧ (errW.getD k 0 = 0 ∨ (errM k).events = [⟨5, if errW.getD k 0 = 2 then -1 else 0, errW.getD k 0, false⟩]) := by decide +kernel
def selT (a b c : Bool) : List Nat :=
  [109, 97, 49, 10, 109, 98, 49, 10, 109, 99, 49, 10, 61, 100, 55, 10] ++ (if a then [115, 97, 100, 10] else [61, 101, 48, 10]) ++ (if b then [115, 98, 100, 10] else [61, 101, 48, 10]) ++ (if c then [115, 99, 100, 10] else [61, 101, 48, 10]) ++ [83, 114, 97, 100, 49, 48, 114, 98, 100, 56, 114, 99, 100, 57, 10, 61, 102, 49, 10, 61, 102, 50, 10, 111, 102, 10, 120]
def selS (d : Nat) : List EntD := picksL 7 0 ++ [⟨1, 0, d⟩] ++ picksL 6 0
def selM (a b c : Bool) (d : Nat) : MachD := runR (codeT (selT a b c)) (selS d)
def selF (a b c : Bool) (k : Nat) : Bool := if k % 3 = 0 then a else if k % 3 = 1 then b else c
def selW (a b c : Bool) (d : Nat) : Option Nat := if selF a b c d then some (d % 3) else if selF a b c (d + 1) then some ((d + 1) % 3) else if selF a b c (d + 2) then some ((d + 2) % 3) else none
theorem sel_good : ∀ a b c : Bool, goodT (selT a b c) := by decide +kernel
theorem sel_run : ∀ a b c : Bool, ∀ d, d < 16 → (selM a b c d).outcome = (if selW a b c d = none then 2 else 1) ∧ outsR (selM a b c d).events = ((selW a b c d).map fun k => if k = 0 then (0 : Int) else 2).toList := by decide +kernel
def cloA (n i : Nat) : List Nat := [109, 97, 48, 10] ++ (List.range i).flatMap fun j => [61, 98] ++ dec2 (j + 1) ++ [10, 103] ++ dec2 (2 * n + 3) ++ [10]
def cloT (n : Nat) : List Nat := cloA n n ++ [99, 97, 10, 106] ++ dec2 (2 * n + 2) ++ [10] ++ [114, 97, 99, 10, 111, 98, 10, 111, 99, 10, 120]
def onesL (n : Nat) : List EntD := List.replicate n ⟨1, 1, 0⟩
def cloS (n : Nat) : List EntD := picksL (2 * n + 1) 0 ++ onesL n ++ picksL 1 0 ++ onesL (4 * n)
def cloM (n : Nat) : MachD := runR (codeT (cloT n)) (cloS n)
def cloW (n : Nat) : List Int := (List.range n).flatMap fun (i : Nat) => [(i : Int) + 1, 0]
theorem clo_good : ∀ n, n < 6 → goodT (cloT n) := by decide +kernel
theorem clo_run : ∀ n, n < 6 → (cloM n).outcome = 0 ∧ outsR (cloM n).events = cloW n := by decide +kernel
def bigT (n : Nat) : List Nat := [61, 97, 57, 57, 57, 57, 10] ++ ((List.range n).flatMap fun _ => [43, 97, 97, 10]) ++ [111, 97, 10, 120]
def bigM (n : Nat) : MachD := runR (codeT (bigT n)) (picksL (n + 5) 0)
def bigV (n : Nat) : Int := 9999 * 2 ^ n
theorem big_good : ∀ n, n < 33 → goodT (bigT n) := by decide +kernel
theorem big_run : ∀ n, n < 33 → if 1099511627776 < bigV n then (bigM n).outcome = 7 ∧ outsR (bigM n).events = [] else (bigM n).outcome = 1 ∧ outsR (bigM n).events = [bigV n] := by decide +kernel
def holA (c n : Nat) : List Nat := [108, 97, 98, 10, 111, 98, 10, 107, 97, 98, 10, 111, 98, 10, 109, 97] ++ dec2 c ++ [10] ++ (List.range n).flatMap fun _ => [115, 97, 98, 10]
def holT (c n : Nat) : List Nat := holA c n ++ [108, 97, 98, 10, 111, 98, 10, 107, 97, 98, 10, 111, 98, 10, 120]
def holM (c n : Nat) : MachD := runR (codeT (holT c n)) (picksL 20 0)
theorem hol_good : ∀ c, c < 4 → ∀ n, n < c + 1 → goodT (holT c n) := by decide +kernel
theorem hol_run : ∀ c, c < 4 → ∀ n, n < c + 1 → (holM c n).outcome = 1 ∧ outsR (holM c n).events = [0, 0, (n : Int), (c : Int)] := by decide +kernel
def spaA (n i : Nat) : List Nat := [61, 98, 49, 10] ++ (List.range i).flatMap fun _ => [103] ++ dec2 (2 * n + 2) ++ [10, 43, 97, 98, 10]
def spaT (n : Nat) : List Nat := spaA n n ++ [106] ++ dec2 (2 * n + 1) ++ [10, 43, 97, 98, 10, 111, 97, 10, 120]
def spaS (n : Nat) : List EntD := picksL (2 * n + 1) 0 ++ onesL (3 * n)
def spaM (n : Nat) : MachD := runR (codeT (spaT n)) (spaS n)
def spaW (n : Nat) : List EvP := (List.range n).flatMap fun (i : Nat) => [⟨1, (i : Int) + 1, (i : Int) + 1, false⟩, ⟨2, (i : Int) + 1, 0, false⟩]
theorem spa_good : ∀ n, n < 9 → goodT (spaT n) := by decide +kernel
theorem spa_run : ∀ n, n < 9 → 1 ≤ n → (spaM n).outcome = 0 ∧ (spaM n).events = spaW n := by decide +kernel
end Go.Proofs.YtklfboidjnchoaaGreatDoor
namespace Go.Proofs.YtklfboidjnchoaaGreatDoor
open Go.RowKit
set_option linter.unusedVariables false
set_option linter.unusedSimpArgs false
theorem gBlanksT : (Tryz.prog.globals[0]?).map (·.type) = some 181 := by kernel_rfl
theorem cellsU8 : Tryz.prog.cellsOf 5 = 1 := by kernel_rfl
theorem cellsBlanks : Tryz.prog.cellsOf 181 = 256 := by kernel_rfl
set_option maxRecDepth 100000 in
set_option maxHeartbeats 1600000 in
theorem env_plain {W : World} (h : laidMet Tryz.prog Rows.plainErrorsRow.laid W) (hsh : W.ShapedOpen Tryz.prog) : Env W := by
  refine ⟨?_, maxLen_of h hsh⟩
  obtain ⟨ps, h, _⟩ := h
  obtain ⟨g0, t0, cs0, f0, p0, q0, hg0, ht0, hv0, hd0, h, _⟩ := h
  obtain ⟨g2, t2, cs2, f2, p2, q2, hg2, ht2, hv2, hd2, h, _⟩ := h
  obtain rfl := Option.some.inj (gBlanks.symm.trans hg2)
  obtain rfl := Option.some.inj (gBlanksT.symm.trans ht2)
  unfold Blanks Lib.TabIs
  rw [hv2, ← Lib.cells_of_tab (zs := Lib.asciiSpaceTab) Tryz.underlying181 Tryz.underlying5 cellsU8 cellsBlanks hd2]
end Go.Proofs.YtklfboidjnchoaaGreatDoor
namespace Go.Proofs.YtklfboidjnchoaaGreatDoor
open Go.RowKit Go.Proofs.YtklfboidjnchoaaGreatDoorW.PrintWords
set_option linter.unusedVariables false
set_option linter.unusedSimpArgs false
theorem RunPost.open {w w' : World} {m : MachD} {e : Ending} (h : RunPost w m e w') : ∃ ea ec sa sc, e = .returned (.agg #[.slice ea m.events.length ec, .int .i64 m.outcome, .slice sa m.steps.length sc]) ∧
    w'.ownsRow w.heap.size 41 4 (.slice ea m.events.length ec) m.events.length (m.events.flatMap evC) ∧ w'.ownsRow w.heap.size 3 1 (.slice sa m.steps.length sc) m.steps.length (m.steps.map (Value.int .i64)) ∧ Below w.heap.size w w' := by
  obtain ⟨ev, sv, rfl, h1, h2, h3⟩ := h
  obtain ⟨ea, ec, rfl, _⟩ := mt_slice h1
  obtain ⟨sa, sc, rfl, _⟩ := mt_slice h2
  exact ⟨ea, ec, sa, sc, rfl, h1, h2, h3⟩
theorem run_any' {A S : Option Addr} {d ds : Nat} {l : List InstrD} {s : List EntD} {w : World} (hbl : Blanks w) (hP : kI.C w A l.length l) (hcs : ∀ x ∈ l, x.cases.length ≤ 9223372036854775807)
    (hS : RowAt w S (s.flatMap entC)) (hsl : s.length ≤ 100000) (hsn : ∀ e ∈ s, (-9223372036854775808 ≤ e.n ∧ e.n ≤ 9223372036854775807) ∧ (-9223372036854775808 ≤ e.draw ∧ e.draw ≤ 9223372036854775807)) :
    Calls Tryz.prog 17 #[.slice A l.length d, .slice S s.length ds] w (RunPost w (runP l s)) :=
  run_any hbl hP (fun h => (okI_valid h).1) (by
    by_cases h : (validR l).2 = 0
    · exact .inl (okI_valid h).2
    · exact .inr h) hcs hS hsl hsn
theorem picksL_len (n : Nat) (m : Int) : (picksL n m).length = n := by unfold picksL; simp
theorem Tryz.slEnt : SlT Tryz.prog 23 48 (.agg #[.int .i64 0, .int .i64 0, .int .i64 0]) 3 24 := ⟨Tryz.underlying23, by kernel_rfl, rfl, by decide⟩
theorem entC_one (l : List EntD) : ∀ u ∈ l.flatMap entC, u.oneCell' = true := by
  intro u hu
  obtain ⟨c, _, hc⟩ := List.mem_flatMap.1 hu
  simp [entC] at hc
  rcases hc with rfl | rfl | rfl <;> rfl
set_option maxRecDepth 100000 in
set_option maxHeartbeats 800000 in
theorem picks_any (n : Nat) (m : Int) (w : World) (hn : n ≤ 100000) :
    Calls Tryz.prog 23 #[.int .i64 n, .int .i64 m] w (RetRow w 48 3 n ((picksL n m).flatMap entC)) := by
  go_enter Tryz.func23, Tryz.ntmps23
  go_wp2_with fail
  go_loopw [5, 6] (fun v5 v6 wr => ∃ (k : Nat) (B : Option Addr) (c : Nat), v5 = .slice B k c ∧ v6 = .int .i64 k ∧ k ≤ n ∧ Hid (wr.ownsRow w.heap.size 48 3 (.slice B k c) k ((picksL k m).flatMap entC)) ∧ Below w.heap.size w wr) (fun _ v6 _ => n - (intOf v6).toNat)
  case atStart => exact ⟨0, none, 0, rfl, rfl, by omega, World.ownsRow_nil _ _ _ _, brefl _⟩
  case round =>
    obtain ⟨k, B, c, rfl, rfl, hk, HO, hb⟩ := hrel
    have hsr := hb.size
    by_cases hlt : k < n
    · go_wp2_with (at_builtin; go_loud (refine (wpList_app _ rfl (.tmp 12) (.tmp 16) rfl Tryz.slEnt w.heap.size (.slice B k c) k ((picksL k m).flatMap entC) rfl (owns_below HO.out (bnew (brefl wr) _)) (some ⟨wr.heap.size, 0, none⟩) 1 1 [.int .i64 1, .int .i64 m, .int .i64 k] rfl (k + 1) rfl (row_new _ [.int .i64 1, .int .i64 m, .int .i64 k] _ _ rfl) rfl (by simp; exact ⟨rfl, rfl, rfl⟩) (by omega) (by unfold maxLen; omega) (by simp; omega) ?_)); intro a2 c2 w2 ho2 hg2 _)
      have ho3 : w2.ownsRow w.heap.size 48 3 (.slice a2 (k + 1) c2) (k + 1) ((picksL (k + 1) m).flatMap entC) := by rw [picksL_succ, List.flatMap_append]; exact ho2
      have hB2 : Below w.heap.size w w2 := (bnew hb _).grown hg2 (by simp; omega) (fun j hj => (HO.out.lt j hj).1)
      go_roundw
      case rel => exact ⟨k + 1, a2, c2, rfl, by go_num, by omega, ho3, hB2⟩
      case measure => simp [intOf]; omega
    · obtain rfl : k = n := by omega
      go_wp2
      go_ret
      exact ⟨B, c, rfl, HO.out, hb⟩
def exitL : List InstrD := [⟨22, 0, 0, 0, []⟩]
theorem exit_oc : (runP exitL [⟨1, 0, 0⟩]).outcome = 1 := rfl
theorem exit_ev : (runP exitL [⟨1, 0, 0⟩]).events = [⟨2, 0, 0, false⟩, ⟨5, 0, 1, false⟩] := rfl
theorem exit_st : (runP exitL [⟨1, 0, 0⟩]).steps = [0] := rfl
def exitE : List EvP := [⟨2, 0, 0, false⟩, ⟨5, 0, 1, false⟩]
theorem exitE_same {ao bo : Option Addr} {c d : Nat} {w : World} (ha : RowAt w ao (exitE.flatMap evC)) (hb : RowAt w bo (exitE.flatMap evC)) :
    Calls Tryz.prog 25 #[.slice ao 2 c, .slice bo 2 d] w fun e w' => e = .returned (.bool true) ∧ Below w.heap.size w w' := by
  have h := plainEvP_any ao bo c d exitE exitE w ha hb (by decide)
  rw [show decide (exitE = exitE) = true from decide_eq_true rfl] at h
  exact h
theorem zero_same {ao bo : Option Addr} {c d : Nat} {w : World} (ha : RowAt w ao [.int .i64 0]) (hb : RowAt w bo [.int .i64 0]) :
    Calls Tryz.prog 24 #[.slice ao 1 c, .slice bo 1 d] w fun e w' => e = .returned (.bool true) ∧ Below w.heap.size w w' :=
  plainInt_any ao bo 1 1 c d [0] [0] w ha hb rfl rfl (by decide)
set_option maxRecDepth 100000 in
set_option maxHeartbeats 1600000 in
theorem awakeP_any (w : World) (hbl : Blanks w) : Calls Tryz.prog 14 #[] w fun e w' => e = .returned (.bool true) ∧ Below w.heap.size w w' := by
  have hb1 : Below w.heap.size w ((w.alloc (.cells #[.int .i64 22, .int .i64 0, .int .i64 0, .int .i64 0, .slice none 0 0] 56)).alloc (.cells #[.int .i64 1, .int .i64 0, .int .i64 0] 48)) := bnew (bnew (brefl w) _) _
  have hg1 : kI.C ((w.alloc (.cells #[.int .i64 22, .int .i64 0, .int .i64 0, .int .i64 0, .slice none 0 0] 56)).alloc (.cells #[.int .i64 1, .int .i64 0, .int .i64 0] 48)) (some ⟨w.heap.size, 0, none⟩) exitL.length exitL := C_keep (plain_reads w exitL (by decide) (by decide)) (bnew (brefl _) _)
  have hrow := row_new (w.alloc (.cells #[.int .i64 22, .int .i64 0, .int .i64 0, .int .i64 0, .slice none 0 0] 56)) [.int .i64 1, .int .i64 0, .int .i64 0] 48 (w.heap.size + 1) (by simp)
  have HR : Hid (Calls Tryz.prog 17 #[.slice (some ⟨w.heap.size, 0, none⟩) 1 1, .slice (some ⟨w.heap.size + 1, 0, none⟩) 1 1] _ (RunPost _ (runP exitL [⟨1, 0, 0⟩]))) := hidP (run_any' (l := exitL) (s := [⟨1, 0, 0⟩]) (d := 1) (ds := 1) (hbl.below hb1) hg1 (fun x hx => by obtain rfl := List.mem_singleton.1 hx; decide) hrow (by decide) (fun e he => by obtain rfl := List.mem_singleton.1 he; decide))
  have HB := hidP hb1
  clear hbl hb1 hg1 hrow
  go_enter Tryz.func14, Tryz.ntmps14
  go_upto_region 2 with (go_at_call 17; with_reducible refine HR.out.mono ?_; rintro e w1 hret; obtain ⟨ea, ec, sa, sc, rfl, h1, h2, h3⟩ := hret.open; rw [exit_oc]; rw [exit_ev] at h1 ⊢; rw [exit_st] at h2 ⊢; have H1 := hidP h1; have H2 := hidP h2; have H3 := hidP h3; clear h1 h2 h3 hret)
  go_wp2_with fail
  go_at_call 25
  with_reducible refine (exitE_same ?_ ?_).mono ?_
  · exact (((owns_row H1.out).alloc _).alloc _)
  · exact row_new _ _ _ _ (by simp)
  rintro e w2 ⟨rfl, hb2⟩
  have hs2 : w2.cell? ⟨w1.heap.size, 2, none⟩ = some (.slice sa 1 sc) := (hb2.cell (p := ⟨w1.heap.size, 2, none⟩) (by simp; omega)).trans (by go_simp)
  have HB2 := hidP hb2
  have hz2 := hb2.size
  clear hb2
  go_wp2_with fail
  go_at_call 24
  with_reducible refine (zero_same ?_ ?_).mono ?_
  · exact (((((owns_row H2.out).alloc _).alloc _).below HB2.out).alloc _)
  · exact row_new _ _ _ _ rfl
  rintro e w3 ⟨rfl, hb3⟩
  go_wp2_with fail
  go_ret
  exact ⟨rfl, bstep (bnew (bstep (bnew (bnew (bstep HB.out H3.out) _) _) HB2.out) _) hb3⟩
theorem outsR_succ {es : List EvP} {i : Nat} {x : EvP} (h : es[i]? = some x) : outsR (es.take (i + 1)) = outsR (es.take i) ++ if x.kind = 1 then [x.val] else [] := by
  rw [List.take_add_one, h, outs_app]
  congr 1
  unfold outsR
  by_cases hk : x.kind = 1
  · simp [hk]
  · simp [hk]
theorem Tryz.slIntP : SlT Tryz.prog 29 3 (.int .i64 0) 1 8 := ⟨Tryz.underlying29, by kernel_rfl, rfl, by decide⟩
set_option maxRecDepth 100000 in
set_option maxHeartbeats 1600000 in
theorem outs_any (ea sa : Option Addr) (n ec sn sc : Nat) (oc : Int) (es : List EvP) (w : World) (hr : RowAt w ea (es.flatMap evC)) (hn : es.length = n) (hmx : n ≤ 1000000) :
    Calls Tryz.prog 21 #[.agg #[.slice ea n ec, .int .i64 oc, .slice sa sn sc]] w (RetRow w 3 1 (outsR es).length ((outsR es).map (Value.int .i64))) := by
  have HN := hidP hn
  have HR := hidP hr
  clear hn hr
  go_enter Tryz.func21, Tryz.ntmps21
  go_wp2_with fail
  have hb0 : Below w.heap.size w (w.alloc (.cells #[.slice ea n ec, .int .i64 oc, .slice sa sn sc] 31)) := bnew (brefl w) _
  have hc0 : (w.alloc (.cells #[.slice ea n ec, .int .i64 oc, .slice sa sn sc] 31)).cell? ⟨w.heap.size, 0, none⟩ = some (.slice ea n ec) := by go_simp
  have hz0 : (w.alloc (.cells #[.slice ea n ec, .int .i64 oc, .slice sa sn sc] 31)).heap.size = w.heap.size + 1 := by simp
  generalize w.alloc (.cells #[.slice ea n ec, .int .i64 oc, .slice sa sn sc] 31) = W0 at *
  have HB0 := hidP hb0
  have HZ0 := hidP hz0
  have HC0 := hidP hc0
  clear hb0 hz0 hc0
  go_loopw [3, 4] (fun v3 v4 wr => ∃ (k i : Nat) (B : Option Addr) (c : Nat), v3 = .slice B k c ∧ v4 = .int .i64 i ∧ i ≤ n ∧ k ≤ i ∧ Hid (k = (outsR (es.take i)).length) ∧ Hid (wr.ownsRow W0.heap.size 3 1 (.slice B k c) k ((outsR (es.take i)).map (Value.int .i64))) ∧ Below W0.heap.size W0 wr) (fun _ v4 _ => n - (intOf v4).toNat)
  case atStart => exact ⟨0, 0, none, 0, rfl, rfl, by omega, by omega, rfl, World.ownsRow_nil _ _ _ _, brefl _⟩
  case round =>
    obtain ⟨k, i, B, c, rfl, rfl, hi, hk, HK, HO, hb⟩ := hrel
    have hsr := hb.size
    have hcr : wr.cell? ⟨w.heap.size, 0, none⟩ = some (.slice ea n ec) := (hb.cell (p := ⟨w.heap.size, 0, none⟩) (by rw [HZ0.out]; simp)).trans HC0.out
    by_cases hlt : i < n
    · obtain ⟨x, hx⟩ : ∃ x, es[i]? = some x := ⟨_, List.getElem?_eq_getElem (by rw [HN.out]; omega)⟩
      obtain ⟨b, o, rfl, x0, x1, x2, x3⟩ := evC_at ((HR.out.below HB0.out).below hb) hx
      have HS := hidP (outsR_succ hx)
      obtain ⟨xk, xg, xv, xr⟩ := x
      dsimp only at x0 x1 x2 x3
      clear hx x1 x3
      by_cases hk1 : xk = 1
      · subst hk1
        have hS := HS.out
        rw [if_pos rfl] at hS
        dsimp only at hS
        have HS2 := hidP hS
        clear hS HS
        go_wp2_with (at_builtin; go_loud (refine (wpList_app _ rfl (.tmp 19) (.tmp 26) rfl Tryz.slIntP W0.heap.size (.slice B k c) k ((outsR (es.take i)).map (Value.int .i64)) rfl (owns_below HO.out (bnew (brefl wr) _)) (some ⟨wr.heap.size, 0, none⟩) 1 1 [.int .i64 xv] rfl (k + 1) rfl (row_new _ [.int .i64 xv] _ _ rfl) rfl (by simp; rfl) (by omega) (by unfold maxLen; omega) (by simp; omega) ?_)); intro a2 c2 w2 ho2 hg2 _)
        have hl2 : k + 1 = (outsR (es.take (i + 1))).length := by rw [HS2.out, List.length_append, HK.out]; rfl
        have ho3 : w2.ownsRow W0.heap.size 3 1 (.slice a2 (k + 1) c2) (k + 1) ((outsR (es.take (i + 1))).map (Value.int .i64)) := by rw [HS2.out, List.map_append]; exact ho2
        have hB2 : Below W0.heap.size W0 w2 := (bnew hb _).grown hg2 (by simp; omega) (fun j hj => (HO.out.lt j hj).1)
        go_roundw
        case rel => exact ⟨k + 1, i + 1, a2, c2, rfl, by go_num, by omega, by omega, hl2, ho3, hB2⟩
        case measure => simp [intOf]; omega
      · have hS := HS.out
        rw [if_neg hk1, List.append_nil] at hS
        have HS2 := hidP hS
        have t1 : (xk == 1) = false := by simp [hk1]
        clear hS HS hk1
        go_wp2_with fail
        go_roundw
        case rel => exact ⟨k, i + 1, B, c, rfl, by go_num, by omega, by omega, by rw [HS2.out]; exact HK, by rw [HS2.out]; exact HO, hb⟩
        case measure => simp [intOf]; omega
    · obtain rfl : i = n := by omega
      have hall : es.take i = es := List.take_of_length_le (by rw [HN.out]; omega)
      have HO2 := HO.out
      have HK2 := HK.out
      rw [hall] at HO2 HK2
      subst HK2
      clear hcr
      have HCC := hidP ((hb.cell (p := ⟨w.heap.size, 0, none⟩) (by rw [HZ0.out]; simp)).trans HC0.out)
      have hcr := HCC.out
      go_wp2
      go_ret
      exact ⟨B, c, rfl, owns_mono HO2 (by rw [HZ0.out]; omega), bstep HB0.out hb⟩
theorem prun_any {A S : Option Addr} {d ds nl ns : Nat} {l : List InstrD} {s : List EntD} {w : World} (hnl : l.length = nl) (hns : s.length = ns) (hv : (validR l).2 = 0) (hbl : Blanks w) (hP : kI.C w A l.length l)
    (hS : RowAt w S (s.flatMap entC)) (hsl : ns ≤ 100000) (hsn : ∀ e ∈ s, (-9223372036854775808 ≤ e.n ∧ e.n ≤ 9223372036854775807) ∧ (-9223372036854775808 ≤ e.draw ∧ e.draw ≤ 9223372036854775807)) :
    Calls Tryz.prog 17 #[.slice A nl d, .slice S ns ds] w (RunPost w (runR l s)) := by
  subst hnl hns
  have h := run_any' (d := d) (ds := ds) hbl hP (fun x hx => by
    have hs := valid_shaped hv
    have := shapedP_few (x := x) (by
      unfold validR at hv
      split at hv
      · cases hv
      · split at hv
        · cases hv
        · exact valF_shaped _ _ hv x hx)
    omega) hS hsl hsn
  unfold runP at h
  rw [if_pos hv] at h
  exact h
theorem picksL_in (n : Nat) (hn : n ≤ 1000) : ∀ e ∈ picksL n 0, (-9223372036854775808 ≤ e.n ∧ e.n ≤ 9223372036854775807) ∧ (-9223372036854775808 ≤ e.draw ∧ e.draw ≤ 9223372036854775807) := by
  intro e he
  unfold picksL at he
  obtain ⟨i, hi, rfl⟩ := List.mem_map.1 he
  have := List.mem_range.1 hi
  dsimp only
  omega
set_option maxRecDepth 100000 in
set_option maxHeartbeats 1600000 in
theorem lrun_any {s : ByteArray} {l : List InstrD} (hl : loadR s = (l, 0, 0)) (hv : (validR l).2 = 0) (hs : s.size ≤ 1000000) (n : Nat) (hn : n ≤ 1000) (w : World) (hbl : Blanks w) :
    Calls Tryz.prog 20 #[.string s, .int .i64 n] w (RunPost w (runR l (picksL n 0))) := by
  have HL := hidP (rload_any s (w.alloc (.cells #[.slice none 0 0, .int .i64 0, .slice none 0 0] 31)) hs)
  rw [hl] at HL
  unfold DecPost at HL
  dsimp only at HL
  have HBL := hidP hbl
  have HV := hidP hv
  have HLL := hidP ((okI_valid hv).2)
  obtain ⟨nl, hnl⟩ : ∃ nl, l.length = nl := ⟨_, rfl⟩
  rw [hnl] at HL
  have HNL := hidP hnl
  clear hl hv hbl hnl
  go_enter Tryz.func20, Tryz.ntmps20
  go_wp2_with fail
  go_at_call 22
  with_reducible refine HL.out.mono ?_
  rintro e w1 ⟨A, c, rfl, hR, hb1⟩
  have hb0 : Below w.heap.size w w1 := bstep (bnew (brefl w) _) hb1
  have hrb := (hb1.block w.heap.size (by simp)).trans (heap_alloc_new w (.cells #[.slice none 0 0, .int .i64 0, .slice none 0 0] 31))
  obtain ⟨A', c', e5, hle, hC⟩ := Kd.R_reads hR
  simp only [Value.slice.injEq] at e5
  obtain ⟨rfl, q5, rfl⟩ := e5
  clear q5
  have HC := hidP hC
  have HB0 := hidP hb0
  have HRB := hidP hrb
  have hzw : w.heap.size < w1.heap.size := by have := hb1.size; simp at this; omega
  have HBL1 := hidP (HBL.out.below hb0)
  clear hR hC hb0 hrb hb1 hle
  go_wp2_with fail
  go_at_call 23
  with_reducible refine (picks_any n 0 _ (by omega)).mono ?_
  rintro e w2 ⟨B, cb, rfl, ho2, hb2⟩
  have HS := hidP (owns_row ho2)
  have HB2 := hidP hb2
  clear ho2 hb2
  go_wp2_with fail
  go_at_call 17
  with_reducible refine (prun_any HNL.out (picksL_len n 0) HV.out (HBL1.out.below HB2.out) (C_keep HC.out HB2.out) HS.out (by omega) (picksL_in n hn)).mono ?_
  rintro e w3 hret
  obtain ⟨ea, ec, sa, sc, rfl, h1, h2, h3⟩ := hret.open
  generalize runR l (picksL n 0) = M at *
  obtain ⟨ne, hne⟩ : ∃ ne, M.events.length = ne := ⟨_, rfl⟩
  obtain ⟨ns, hns⟩ : ∃ ns, M.steps.length = ns := ⟨_, rfl⟩
  have hr1 := (h3.block w.heap.size (by have := HB2.out.size; have := HB0.out.size; omega)).trans ((HB2.out.block w.heap.size (by omega)).trans HRB.out)
  have r0 := cell_of_row w3 w.heap.size 0 _ _ (0, 0) hr1
  have r1 := cell_of_row w3 w.heap.size 1 _ _ (0, 0) hr1
  have r2 := cell_of_row w3 w.heap.size 2 _ _ (0, 0) hr1
  simp at r0 r1 r2
  have f0 := frozen_of_row w3 w.heap.size 0 _ _ hr1
  have f1 := frozen_of_row w3 w.heap.size 1 _ _ hr1
  have f2 := frozen_of_row w3 w.heap.size 2 _ _ hr1
  have HR := hidP hr1
  have hb3 : Below w.heap.size w w3 := bstep (bstep HB0.out HB2.out) h3
  have hrl : w.heap.size ≤ w.heap.size := Nat.le_refl _
  have hlt : w.heap.size < w2.heap.size := by have := HB2.out.size; have := HB0.out.size; omega
  have H1 := hidP h1
  have H2 := hidP h2
  have HB3 := hidP hb3
  have HNE := hidP (⟨hne, hns⟩ : _ ∧ _)
  rw [hne, hns]
  clear h1 h2 h3 hr1 hb3 hne hns
  go_wp2_with fail
  have HR1 := hidP (heap_setCell_same _ w.heap.size 2 _ _ (.slice sa ns sc) (heap_setCell_same _ w.heap.size 1 _ _ (.int .i64 M.outcome) (heap_setCell_same w3 w.heap.size 0 _ _ (.slice ea ne ec) HR.out)))
  have hkp : Keep (fun j => j = w.heap.size) w3 (((w3.setCell ⟨w.heap.size, 0, none⟩ (.slice ea ne ec)).setCell ⟨w.heap.size, 1, none⟩ (.int .i64 M.outcome)).setCell ⟨w.heap.size, 2, none⟩ (.slice sa ns sc)) :=
    (((Keep.refl (fun j => j = w.heap.size) w3).setCell (p := ⟨w.heap.size, 0, none⟩) rfl _).setCell (p := ⟨w.heap.size, 1, none⟩) rfl _).setCell (p := ⟨w.heap.size, 2, none⟩) rfl _
  have o1 := owns_mono (owns_keep (HNE.out.1 ▸ H1.out) hkp (fun j hj e => by have := (H1.out.lt j (HNE.out.1.symm ▸ hj)).1; omega)) (Nat.le_of_lt hlt)
  have o2 := owns_mono (owns_keep (HNE.out.2 ▸ H2.out) hkp (fun j hj e => by have := (H2.out.lt j (HNE.out.2.symm ▸ hj)).1; omega)) (Nat.le_of_lt hlt)
  refine bodyPost_ret (results_cell_row rfl _ _ w.heap.size _ _ (0, 0) _ rfl HR1.out Tryz.underlying31 rfl (by kernel_rfl)) rfl ?_
  refine ⟨.slice ea ne ec, .slice sa ns sc, rfl, ?_, ?_, ?_⟩
  · rw [HNE.out.1]; exact o1
  · rw [HNE.out.2]; exact o2
  · exact ((HB3.out.setCell (p := ⟨w.heap.size, 0, none⟩) hrl _).setCell (p := ⟨w.heap.size, 1, none⟩) hrl _).setCell (p := ⟨w.heap.size, 2, none⟩) hrl _
@[go_sem] theorem eqEv (a b c a' b' c' : Int) (d d' : Bool) (w : World) : (Op.equalIn 10000 41 (.agg #[.int .i64 a, .int .i64 b, .int .i64 c, .bool d]) (.agg #[.int .i64 a', .int .i64 b', .int .i64 c', .bool d'])).run Tryz.prog w = .ok (a == a' && (b == b' && (c == c' && d == d'))) w := by
  have u3 := Tryz.underlying3
  have a3 := Tryz.isAgg3
  have z3 := Tryz.sizeOf3
  have u4 := Tryz.underlying4
  have a4 := Tryz.isAgg4
  have z4 := Tryz.sizeOf4
  have hS : Tryz.prog.underlying 41 = some (.struct (Tryz.prog.fieldsOf 41)) := by kernel_rfl
  have hp : Tryz.prog.stoodInHeld 41 = false := by kernel_rfl
  rw [show (10000 : Nat) = 9999 + 1 from rfl, run_equalIn_agg w 9999 41 _ _ hS hp]
  simp only [Program.fieldsOf, Tryz.underlying41]
  go_simp
  by_cases h1 : a = a' <;> by_cases h2 : b = b' <;> by_cases h3 : c = c' <;> by_cases h4 : d = d' <;> simp [h1, h2, h3, h4]
@[go_sem] theorem guardEv (x y : Operand) (xs ys : Array Value) (w : World) : (eqGuard .eql 41 x y (.agg xs) (.agg ys)).run Tryz.prog w = .ok () w := run_eqGuard_agg w .eql 41 x y xs ys (by kernel_rfl)
@[go_sem] theorem eqlEv (a b c a' b' c' : Int) (d d' : Bool) (w : World) : (binOp .eql 41 (.agg #[.int .i64 a, .int .i64 b, .int .i64 c, .bool d]) (.agg #[.int .i64 a', .int .i64 b', .int .i64 c', .bool d'])).run Tryz.prog w = .ok (.bool (a == a' && (b == b' && (c == c' && d == d')))) w := by
  rw [run_eql_struct, eqEv]
  rfl
@[go_sem] theorem guardEvN (x y : Operand) (xs ys : Array Value) (w : World) : (eqGuard .neq 41 x y (.agg xs) (.agg ys)).run Tryz.prog w = .ok () w := run_eqGuard_agg w .neq 41 x y xs ys (by kernel_rfl)
@[go_sem] theorem neqEv (a b c a' b' c' : Int) (d d' : Bool) (w : World) : (binOp .neq 41 (.agg #[.int .i64 a, .int .i64 b, .int .i64 c, .bool d]) (.agg #[.int .i64 a', .int .i64 b', .int .i64 c', .bool d'])).run Tryz.prog w = .ok (.bool !(a == a' && (b == b' && (c == c' && d == d')))) w := by
  rw [run_neq_struct, eqEv]
  rfl
theorem digits_lit (n : Nat) (N : Int) (hN : (n : Int) = N) (hn : n < 1000000) (w : World) : Calls Tryz.prog 19 #[.int .i64 N] w fun e w' => e = .returned (.string (decB n)) ∧ Below w.heap.size w w' := hN ▸ digits_any n hn w
theorem picks_lit (n : Nat) (m N : Int) (hN : (n : Int) = N) (w : World) (hn : n ≤ 100000) : Calls Tryz.prog 23 #[.int .i64 N, .int .i64 m] w (RetRow w 48 3 n ((picksL n m).flatMap entC)) := hN ▸ picks_any n m w hn
theorem decB_two {n : Nat} (h : n < 100) : decB n = strA (dec2 n) := by rw [← strA_decN, digs_two h]; rfl
theorem onesL_succ (n : Nat) : onesL (n + 1) = onesL n ++ [⟨1, 1, 0⟩] := by unfold onesL; rw [List.replicate_succ']
theorem onesL_in (n : Nat) : ∀ e ∈ onesL n, (-9223372036854775808 ≤ e.n ∧ e.n ≤ 9223372036854775807) ∧ (-9223372036854775808 ≤ e.draw ∧ e.draw ≤ 9223372036854775807) := by
  intro e he
  rw [(List.mem_replicate.1 he).2]
  decide
theorem lload_any {T : List Nat} (h : goodT T) (w : World) : Calls Tryz.prog 22 #[.string (strA T)] w (DecPost w (codeT T, 0, 0)) := by
  have := rload_any (strA T) w (by rw [strA_size]; have := h.2.2.1; omega)
  rw [load_good h] at this
  exact this
end Go.Proofs.YtklfboidjnchoaaGreatDoor
