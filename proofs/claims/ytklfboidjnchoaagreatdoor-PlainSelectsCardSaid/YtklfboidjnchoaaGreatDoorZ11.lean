/-
  Parts of the proof: PWake2, PSend, PMono, Spec, Ents, Cmp, PMod.
-/
import Derived.Test.YtklfboidjnchoaaGreatDoorRows
import Derived.Test.YtklfboidjnchoaaGreatDoorZ1
import Derived.Test.YtklfboidjnchoaaGreatDoorZ9
import Derived.Test.YtklfboidjnchoaaGreatDoorZ10
namespace Go.Proofs.YtklfboidjnchoaaGreatDoor
open Go.RowKit Go.Proofs.YtklfboidjnchoaaGreatDoorW.PrintWords
set_option linter.unusedVariables false
set_option linter.unusedSimpArgs false
theorem Tryz.slGor : SlT Tryz.prog 62 95 (.pointer none) 1 8 := ⟨Tryz.underlying62, by kernel_rfl, rfl, by decide⟩
theorem Tryz.slWait : SlT Tryz.prog 96 132 (.pointer none) 1 8 := ⟨Tryz.underlying96, by kernel_rfl, rfl, by decide⟩
def Lnk (B : Nat) (P : Value) (σ : Lay) (ow : Owns) (m : MachD) (w : World) (l : List Nat) (w' : World) : Prop :=
  ∃ ow', Inv B P σ ow' (m.unlink l) w' ∧ Keep (fun b => ∃ i, ow b = some (.chan i)) w w' ∧ OwMore w ow ow' ∧ HeldAs σ m w w'
theorem Inv.lenC {B : Nat} {P : Value} {σ : Lay} {ow : Owns} {m : MachD} {w : World} (h : Inv B P σ ow m w) {i : Nat} {c : ChanD} (hc : m.chans[i]? = some c) :
    ∃ hv sv tv, CellsO ow w (σ.cA i) (.chan i) (chanCells c hv sv tv) 124 ∧ RowO B ow w (.chan i) 20 1 hv c.held.length (c.held.map (encV σ)) ∧ RowO B ow w (.chan i) 132 1 sv c.sends.length (wPtrs σ c.sends) ∧
      RowO B ow w (.chan i) 132 1 tv c.takes.length (wPtrs σ c.takes) ∧ (∀ b, sv.ownBlock = some b → tv.ownBlock ≠ some b) := h.chan i c hc
theorem encV_iface (σ : Lay) (x : PV) : ∃ T u, encV σ x = .iface T u := by cases x <;> exact ⟨_, _, rfl⟩
set_option maxRecDepth 100000 in
set_option maxHeartbeats 3200000 in
theorem wake_any {B : Nat} {P : Value} {σ : Lay} {ow : Owns} {m : MachD} {w : World} (h : Inv B P σ ow m w) (ok : Ok m) (fit : Fit m) {k : Nat} {wd : WaitD} {gd : GorD} (hw : Waits m k wd gd) {x : PV} (hx : okV m x) :
    Calls Tryz.prog 70 #[.pointer (some ⟨σ.mb, 0, none⟩), .pointer (some ⟨σ.wA k, 0, none⟩), encV σ x] w fun e w' => e = .returned (.tuple #[]) ∧ Res B P σ ow (m.wake k x) w w' ∧ HeldAs σ m w w' := by
  obtain ⟨h1, h2, h3⟩ := hw
  have og := ok.gor _ _ h2
  have oww := ok.wt _ _ h1
  obtain ⟨h6, v, hgc, hgr⟩ := h.gor _ _ h2
  have hwc := h.wt _ _ h1
  obtain ⟨vo, vc, rfl, hvr, hvn, hvm, _, _⟩ := owns_open hgr.1
  obtain ⟨n, hn⟩ : ∃ n, gd.waits.length = n := ⟨_, rfl⟩
  have hnm : n ≤ 1000000 := by rw [← hn]; exact Nat.le_trans og.few fit.ws
  obtain ⟨gb, hgb⟩ : ∃ gb, σ.gA wd.g = gb := ⟨_, rfl⟩
  obtain ⟨kb, hkb⟩ : ∃ kb, σ.wA k = kb := ⟨_, rfl⟩
  have c0 : w.cell? ⟨kb, 0, none⟩ = some (.pointer (some ⟨gb, 0, none⟩)) := by rw [← hgb, ← hkb]; exact cell_of_row w _ 0 _ _ (0, 0) hwc.1
  have c3 : w.cell? ⟨kb, 3, none⟩ = some (.int .i64 wd.reg) := by rw [← hkb]; exact cell_of_row w _ 3 _ _ (0, 0) hwc.1
  have c4 : w.cell? ⟨kb, 4, none⟩ = some (.int .i64 wd.dest) := by rw [← hkb]; exact cell_of_row w _ 4 _ _ (0, 0) hwc.1
  have g8 : w.cell? ⟨gb, 8, none⟩ = some (.slice vo n vc) := by
    rw [← hgb, ← hn]
    refine (cell_of_row w _ 8 _ _ (0, 0) hgc.1).trans ?_
    unfold gorCells
    have : (gd.regs.map (encV σ)).length = 6 := by rw [List.length_map]; exact h6
    simp [this]
  have HRW := hidP hvr
  have HN := hidP hn
  have H := hidP h
  have OK := hidP ok
  have FIT := hidP fit
  have H1 := hidP h1
  have H2 := hidP h2
  have H3 := hidP h3
  have OG := hidP og
  have OWW := hidP oww
  have HGC := hidP hgc
  have HGR := hidP hgr
  have HWC := hidP hwc
  have HGB := hidP hgb
  have HKB := hidP hkb
  obtain ⟨VT, VU, hV⟩ := encV_iface σ x
  rw [hkb, hV]
  have HV := hidP hV
  clear hV
  clear hvr hn h ok fit h1 h2 h3 og oww hgc hgr hwc hgb hkb h6
  go_enter Tryz.func70, Tryz.ntmps70
  go_wp2_with fail
  go_loopw [16] (fun v wr => ∃ j : Nat, v = .int .i64 j ∧ j ≤ n ∧ Hid (Lnk B P σ ow m w (gd.waits.take j) wr)) (fun v _ => n - (intOf v).toNat)
  case atStart => exact ⟨0, rfl, by omega, ow, by rw [List.take_zero]; exact H.out, .refl _ _, .refl _ _, .refl _ _ _⟩
  case round =>
    obtain ⟨j, rfl, hj, HL⟩ := hrel
    by_cases hlt : j < n
    · obtain ⟨y, hy⟩ : ∃ y, gd.waits[j]? = some y := ⟨_, List.getElem?_eq_getElem (by rw [HN.out]; exact hlt)⟩
      obtain ⟨ow1, hI, hK, hM, hHA⟩ := HL.out
      obtain ⟨s1, s2, s3, s4, s5, s6, s7, s8, s9, s10, s11⟩ := unlink_same (gd.waits.take j) m
      obtain ⟨yd, hyd, hyg⟩ := OG.out.waits y (List.mem_of_getElem? hy)
      have oy := OK.out.wt _ _ hyd
      have hyd' : (m.unlink (gd.waits.take j)).ws[y]? = some yd := by rw [s2]; exact hyd
      obtain ⟨cd, hcd⟩ := some_lt (l := (m.unlink (gd.waits.take j)).chans) (i := yd.c) (by rw [s11]; exact oy.c)
      obtain ⟨cd0, hcd0, hLf⟩ := unlink_left _ m _ _ hcd
      have oc := OK.out.chan _ _ hcd0
      have hS : ∀ k ∈ cd.sends, k < m.ws.length := fun k hk => by obtain ⟨x, g, hx, _⟩ := oc.sends k (hLf.sends k hk).1; exact lt_of_some hx
      have hT : ∀ k ∈ cd.takes, k < m.ws.length := fun k hk => by obtain ⟨x, g, hx, _⟩ := oc.takes k (hLf.takes k hk).1; exact lt_of_some hx
      obtain ⟨hv, sv, tv, hcell, r1, r2, r3, hne⟩ := hI.lenC hcd
      have hyc := hI.wt _ _ hyd'
      obtain ⟨yb, hyb⟩ : ∃ yb, σ.wA y = yb := ⟨_, rfl⟩
      obtain ⟨cb, hcb⟩ : ∃ cb, σ.cA yd.c = cb := ⟨_, rfl⟩
      obtain ⟨b, o, rfl, hca⟩ := (owns_row (owns_keep HGR.out.1 hK (fun k hk => by rintro ⟨i, e⟩; rw [HGR.out.2 k hk] at e; cases e))).addr (by rw [wPtrs_ptrs, ptrs_len, List.length_map, HN.out]; omega)
      have cy : wr.cell? ⟨b, o + j, none⟩ = some (.pointer (some ⟨yb, 0, none⟩)) := by
        refine hca j _ ?_
        rw [wPtrs_ptrs, ← hyb]
        exact ptrs_get (by rw [List.getElem?_map, hy]; rfl)
      have y1 : wr.cell? ⟨yb, 1, none⟩ = some (.pointer (some ⟨cb, 0, none⟩)) := by rw [← hyb, ← hcb]; exact cell_of_row wr _ 1 _ _ (0, 0) hyc.1
      have d3 : wr.cell? ⟨cb, 3, none⟩ = some sv := by rw [← hcb]; exact cell_of_row wr _ 3 _ _ (0, 0) hcell.1
      have d4 : wr.cell? ⟨cb, 4, none⟩ = some tv := by rw [← hcb]; exact cell_of_row wr _ 4 _ _ (0, 0) hcell.1
      have hycb : yb ≠ cb := by rw [← hyb, ← hcb]; exact CellsO.other hyc hcell (by intro e; cases e)
      rw [wPtrs_ptrs] at r2 r3
      have hblk : ∀ k, k < m.ws.length → IsBlk wr (σ.wA k) := fun k hk => by
        obtain ⟨x, hx⟩ := some_lt hk
        exact (hI.wt k x (by rw [s2]; exact hx)).isBlk
      have ls : cd.sends.length ≤ 1000000 := Nat.le_trans (Nat.le_trans hLf.fewS oc.fewS) FIT.out.ws
      have lt : cd.takes.length ≤ 1000000 := Nat.le_trans (Nat.le_trans hLf.fewT oc.fewT) FIT.out.ws
      have hby : IsBlk wr yb := hyb ▸ hblk y (lt_of_some hyd)
      have hbs : ∀ z ∈ cd.sends.map σ.wA, IsBlk wr z := fun z hz => by obtain ⟨k, hk, rfl⟩ := List.mem_map.1 hz; exact hblk k (hS k hk)
      have hbt : ∀ z ∈ cd.takes.map σ.wA, IsBlk wr z := fun z hz => by obtain ⟨k, hk, rfl⟩ := List.mem_map.1 hz; exact hblk k (hT k hk)
      have C1 := hidP (without_any B sv _ yb _ wr.drew r2.1 ls hbs hby)
      have K1 : Hid (∀ w1, Keep (fun k => sv.ownBlock = some k) wr.drew w1 → w1.cell? ⟨cb, 4, none⟩ = some tv ∧ w1.cell? ⟨yb, 1, none⟩ = some (.pointer (some ⟨cb, 0, none⟩)) ∧ w1.cell? ⟨cb, 3, none⟩ = some sv) := fun w1 hk => by
        refine ⟨hk.cell (p := ⟨cb, 4, none⟩) ?_ d4, hk.cell (p := ⟨yb, 1, none⟩) ?_ y1, hk.cell (p := ⟨cb, 3, none⟩) ?_ d3⟩
        · rw [← hcb]; exact r2.row_ne hcell.1 (by decide)
        · rw [← hyb]; exact r2.row_ne hyc.1 (by decide)
        · rw [← hcb]; exact r2.row_ne hcell.1 (by decide)
      have C2 : Hid (∀ w1 v1 n1 xs1, Keep (fun k => sv.ownBlock = some k) wr.drew w1 → w1.ownsRow B 132 1 v1 n1 xs1 → v1.ownBlock = sv.ownBlock → Calls Tryz.prog 102 #[tv, .pointer (some ⟨yb, 0, none⟩)] w1 fun e w' =>
          ∃ ao c, e = .returned (.slice ao (but (cd.takes.map σ.wA) yb).length c) ∧ w'.ownsRow B 132 1 (.slice ao (but (cd.takes.map σ.wA) yb).length c) (but (cd.takes.map σ.wA) yb).length (ptrs (but (cd.takes.map σ.wA) yb)) ∧ Keep (fun k => tv.ownBlock = some k) w1 w' ∧ (Value.slice ao (but (cd.takes.map σ.wA) yb).length c).ownBlock = tv.ownBlock) := fun w1 v1 n1 xs1 hk ho he => by
        have hk' : Keep (fun k => sv.ownBlock = some k) wr w1 := (Keep.refl _ wr).drew.trans hk
        have hbk : ∀ b, IsBlk wr b → IsBlk w1 b := fun b hb => hb.keep hk' (fun e => owns_blk ho (he.trans e))
        exact without_any B tv _ yb _ w1 (owns_keep r3.1 hk' (fun k hk2 e => hne k e hk2)) lt (fun z hz => hbk z (hbt z hz)) (hbk yb hby)
      have K2 : Hid (∀ w1 w2, Keep (fun k => sv.ownBlock = some k) wr.drew w1 → Keep (fun k => tv.ownBlock = some k) w1 w2 → w2.cell? ⟨yb, 1, none⟩ = some (.pointer (some ⟨cb, 0, none⟩)) ∧ w2.heap[cb]? = some (.cells (chanCells cd hv sv tv) 124 (0, 0))) := fun w1 w2 hk hk2 => by
        refine ⟨hk2.cell (p := ⟨yb, 1, none⟩) ?_ (K1.out w1 hk).2.1, ?_⟩
        · rw [← hyb]; exact r3.row_ne hyc.1 (by decide)
        · have hk' : Keep (fun k => sv.ownBlock = some k) wr w1 := (Keep.refl _ wr).drew.trans hk
          have hc' : wr.heap[cb]? = some (.cells (chanCells cd hv sv tv) 124 (0, 0)) := by rw [← hcb]; exact hcell.1
          have t1 : w1.heap[cb]? = some (.cells (chanCells cd hv sv tv) 124 (0, 0)) := (hk'.block cb (blk_lt hc') (r2.row_ne hc' (by decide))).trans hc'
          exact (hk2.block cb (blk_lt t1) (r3.row_ne hc' (by decide))).trans t1
      have HD := hidP (⟨hyb, hcb, hy, hyd, hyd', hcd, hS, hT, hcell, hne, hI, hK, hM, hHA⟩ : _ ∧ _ ∧ _ ∧ _ ∧ _ ∧ _ ∧ _ ∧ _ ∧ _ ∧ _ ∧ _ ∧ _ ∧ _ ∧ _)
      have R1 := hidP r1
      have R2 := hidP r2
      have R3 := hidP r3
      clear hHA r1 r2 r3 hyb hcb hy hyd hyd' hcd hS hT hcell hne hI hK hM hblk ls lt hby hbs hbt oy oc hLf hyc hca s1 s2 s3 s4 s5 s6 s7 s8 s9 s10 s11 hcd0 hyg
      go_upto_region 3 with fail
      have hSS : (fun w' : World => w'.cell? ⟨yb, 1, none⟩ = some (.pointer (some ⟨cb, 0, none⟩)) ∧ w'.cell? ⟨cb, 3, none⟩ = some sv ∧ w'.cell? ⟨cb, 4, none⟩ = some tv) wr.drew := ⟨y1, d3, d4⟩
      refine OrdG.begin (fun w' : World => w'.cell? ⟨yb, 1, none⟩ = some (.pointer (some ⟨cb, 0, none⟩)) ∧ w'.cell? ⟨cb, 3, none⟩ = some sv ∧ w'.cell? ⟨cb, 4, none⟩ = some tv) 28 (by kernel_rfl) hSS ?_
      refine OrdG.ty 0 _ rfl (.inl hSS) ?_
      simp only [Act.put, stA, stS, stZ]
      refine OrdG.ty 1 _ rfl (.inl hSS) ?_
      simp only [Act.put, stA, stS, stZ]
      refine OrdG.ty 2 _ rfl (.inl hSS) ?_
      simp only [Act.put, stA, stS, stZ]
      refine OrdG.tk 3 _ rfl (by assumption) ?_
      simp only [Act.put, stA, stS, stZ]
      refine OrdG.ty 4 _ rfl (.inl hSS) ?_
      simp only [Act.put, stA, stS, stZ]
      refine OrdG.ty 5 _ rfl (.inl hSS) ?_
      simp only [Act.put, stA, stS, stZ]
      refine OrdG.ty 6 _ rfl (.inl hSS) ?_
      simp only [Act.put, stA, stS, stZ]
      refine OrdG.tk 7 _ rfl (by assumption) ?_
      simp only [Act.put, stA, stS, stZ]
      refine OrdG.ty 8 _ rfl (.inl hSS) ?_
      simp only [Act.put, stA, stS, stZ]
      refine OrdG.ty 9 _ rfl (.inl hSS) ?_
      simp only [Act.put, stA, stS, stZ]
      refine OrdG.ty 10 _ rfl (.inl hSS) ?_
      simp only [Act.put, stA, stS, stZ]
      refine OrdG.tk 11 _ rfl (by assumption) ?_
      simp only [Act.put, stA, stS, stZ]
      refine OrdG.ty 12 _ rfl (.inl hSS) ?_
      simp only [Act.put, stA, stS, stZ]
      refine OrdG.ty 13 _ rfl (.inl hSS) ?_
      simp only [Act.put, stA, stS, stZ]
      refine OrdG.tk 14 _ rfl (by assumption) ?_
      simp only [Act.put, stA, stS, stZ]
      refine OrdG.ty 15 _ rfl (.inl hSS) ?_
      simp only [Act.put, stA, stS, stZ]
      refine OrdG.ty 17 _ rfl (.inl hSS) ?_
      simp only [Act.put, stA, stS, stZ]
      refine OrdG.ty 18 _ rfl (.inl hSS) ?_
      simp only [Act.put, stA, stS, stZ]
      refine OrdG.ty 19 _ rfl (.inl hSS) ?_
      simp only [Act.put, stA, stS, stZ]
      refine OrdG.tk 20 _ rfl (by assumption) ?_
      simp only [Act.put, stA, stS, stZ]
      refine OrdG.ty 21 _ rfl (.inl hSS) ?_
      simp only [Act.put, stA, stS, stZ]
      refine OrdG.ty 22 _ rfl (.inl hSS) ?_
      simp only [Act.put, stA, stS, stZ]
      refine OrdG.tk 23 _ rfl (by assumption) ?_
      simp only [Act.put, stA, stS, stZ]
      refine OrdG.ty 24 _ rfl (.inl hSS) ?_
      simp only [Act.put, stA, stS, stZ]
      refine OrdG.one (i := 16) (by kernel_rfl) rfl (fun K hK => ?_)
      go_simp
      with_reducible refine C1.out.mono ?_
      rintro e w1 ⟨a1, c1, rfl, o1, k1, e1⟩
      obtain ⟨f4, f1, f3⟩ := K1.out w1 k1
      have O1 := hidP o1
      have E1 := hidP e1
      have L1 := hidP k1
      clear o1 e1 k1
      dsimp only
      refine hK.out _ _ (.inl ⟨f1, f3, f4⟩) ?_
      clear hK
      refine OrdG.one (i := 25) (by kernel_rfl) rfl (fun K hK => ?_)
      go_simp
      with_reducible refine (C2.out _ _ _ _ L1.out O1.out E1.out).mono ?_
      rintro e w2 ⟨a2, c2, rfl, o2, k2, e2⟩
      obtain ⟨p1, p2⟩ := K2.out w1 w2 L1.out k2
      have q3 := cell_of_row w2 cb 3 _ _ (0, 0) p2
      have q4 := cell_of_row w2 cb 4 _ _ (0, 0) p2
      have z3 := frozen_of_row w2 cb 3 _ _ p2
      have z4 := frozen_of_row w2 cb 4 _ _ p2
      simp [chanCells] at q3 q4
      have O2 := hidP o2
      have E2 := hidP e2
      have L2 := hidP k2
      clear o2 e2 k2 p2
      dsimp only
      have hS2 : (fun w' : World => w'.cell? ⟨yb, 1, none⟩ = some (.pointer (some ⟨cb, 0, none⟩)) ∧ w'.cell? ⟨cb, 3, none⟩ = some sv ∧ w'.cell? ⟨cb, 4, none⟩ = some tv) w2 := ⟨p1, q3, q4⟩
      refine hK.out _ _ (.inl hS2) ?_
      clear hK
      refine OrdG.ty 26 _ rfl (.inl hS2) ?_
      simp only [Act.put, stA, stS, stZ]
      refine OrdG.ty 27 _ rfl (.inl hS2) ?_
      simp only [Act.put, stA, stS, stZ]
      refine OrdG.one (i := 28) (by kernel_rfl) rfl (fun K hK => ?_)
      go_simp
      refine hK.out _ _ (.inr (by kernel_rfl)) ?_
      clear hK
      refine OrdG.ty 29 _ rfl (.inr (by kernel_rfl)) ?_
      simp only [Act.put, stA, stS, stZ]
      refine OrdG.ty 30 _ rfl (.inr (by kernel_rfl)) ?_
      simp only [Act.put, stA, stS, stZ]
      refine OrdG.one (i := 31) (by kernel_rfl) rfl (fun K hK => ?_)
      go_simp
      refine hK.out _ _ (.inr (by kernel_rfl)) ?_
      clear hK
      refine OrdG.done (by kernel_rfl) ?_ _
      go_wp2_with fail
      go_roundw
      case measure => simp [intOf]; omega
      case rel =>
      refine ⟨j + 1, by go_num, by omega, ?_⟩
      obtain ⟨hyb, hcb, hy, hyd, hyd', hcd, hS, hT, hcell, hne, hI, hK, hM, hHA⟩ := HD.out
      subst hyb hcb
      have hk1 : Keep (fun k => sv.ownBlock = some k) wr w1 := (Keep.refl _ wr).drew.trans L1.out
      obtain ⟨hh1, k1, ow2, hI2, _, hM2⟩ := hI.unlink1 hyd' hcd (by rw [(unlink_same _ m).2.1]; exact hS) (by rw [(unlink_same _ m).2.1]; exact hT) hcell R1.out (by rw [wPtrs_ptrs]; exact R2.out) (by rw [wPtrs_ptrs]; exact R3.out) hne O1.out hk1 E1.out O2.out L2.out E2.out
      refine ⟨ow2, ?_, hK.then k1 (fun i hi e => ⟨_, (hM i hi).symm.trans e⟩), hM.trans hK.size hM2, fun i hi => (hh1 i (by rw [(unlink_same _ m).2.2.2.2.2.2.2.2.2.2]; exact hi)).trans (hHA i hi)⟩
      have e1 : gd.waits.take (j + 1) = gd.waits.take j ++ [y] := by rw [List.take_add_one, hy]; rfl
      rw [e1, unlink_snoc]
      exact hI2
    · obtain rfl : j = n := by omega
      obtain ⟨ow1, hI, hK, hM, hHA⟩ := HL.out
      rw [List.take_of_length_le (by rw [HN.out]; omega)] at hI
      have kOf : ∀ {b : Nat} {o : Own}, ow b = some o → (∀ i, o ≠ .chan i) → ¬ ∃ i, ow b = some (.chan i) := fun h hne ⟨i, e⟩ => hne i (Option.some.inj (h.symm.trans e))
      have kK := fun {b : Nat} {o : Own} (h : ow b = some o) (hne : ∀ i, o ≠ .chan i) (hl : b < w.heap.size) => hK.block b hl (kOf h hne)
      have hkb : wr.heap[kb]? = some (.cells (waitCells σ wd) 172 (0, 0)) := by
        rw [← HKB.out]; exact (kK HWC.out.2 (by intro i e; cases e) (blk_lt HWC.out.1)).trans HWC.out.1
      have hgb : wr.heap[gb]? = some (.cells (gorCells σ wd.g gd (.slice vo j vc)) 98 (0, 0)) := by
        rw [← HGB.out, ← HN.out]; exact (kK HGC.out.2 (by intro i e; cases e) (blk_lt HGC.out.1)).trans HGC.out.1
      have hkg : kb ≠ gb := by rw [← HKB.out, ← HGB.out]; exact CellsO.other HWC.out HGC.out (by intro e; cases e)
      obtain ⟨q, tv, ev, sv, G0, G1, G2, G3, hMC⟩ := hI.mach.open
      obtain ⟨_, _, _, _, _, _, _, _, hMw⟩ := H.out.mach.open
      have hkm : kb ≠ σ.mb := by rw [← HKB.out]; exact CellsO.other HWC.out hMw.cells (by intro e; cases e)
      have hgm : gb ≠ σ.mb := by rw [← HGB.out]; exact CellsO.other HGC.out hMw.cells (by intro e; cases e)
      have a0 : wr.cell? ⟨kb, 0, none⟩ = some (.pointer (some ⟨gb, 0, none⟩)) := by rw [← HGB.out]; exact cell_of_row wr kb 0 _ _ (0, 0) hkb
      have a3 : wr.cell? ⟨kb, 3, none⟩ = some (.int .i64 wd.reg) := cell_of_row wr kb 3 _ _ (0, 0) hkb
      have a4 : wr.cell? ⟨kb, 4, none⟩ = some (.int .i64 wd.dest) := cell_of_row wr kb 4 _ _ (0, 0) hkb
      have b1 : wr.cell? ⟨gb, 1, none⟩ = some (.int .i64 gd.pc) := cell_of_row wr gb 1 _ _ (0, 0) hgb
      have b8 : wr.cell? ⟨gb, 8, none⟩ = some (.slice vo j vc) := by
        refine (cell_of_row wr gb 8 _ _ (0, 0) hgb).trans ?_
        unfold gorCells
        have : (gd.regs.map (encV σ)).length = 6 := by rw [List.length_map]; exact OG.out.six
        simp [this]
      have z1 := frozen_of_row wr gb 1 _ _ hgb
      have z8 := frozen_of_row wr gb 8 _ _ hgb
      have HKW := hidP hkb
      have HGW := hidP hgb
      have HMC := hidP hMC
      have HI := hidP hI
      have HK := hidP hK
      have HM := hidP hM
      have HHA := hidP hHA
      clear hkb hgb hMC hI hK hM kOf kK hHA
      go_upto_region 5 with fail
      have hSS : (fun w' : World => w'.cell? ⟨kb, 0, none⟩ = some (.pointer (some ⟨gb, 0, none⟩)) ∧ w'.cell? ⟨kb, 4, none⟩ = some (.int .i64 wd.dest)) wr.drew := ⟨a0, a4⟩
      refine OrdG.begin (fun w' : World => w'.cell? ⟨kb, 0, none⟩ = some (.pointer (some ⟨gb, 0, none⟩)) ∧ w'.cell? ⟨kb, 4, none⟩ = some (.int .i64 wd.dest)) 14 (by kernel_rfl) hSS ?_
      refine OrdG.ty 0 _ rfl (.inl hSS) ?_
      simp only [Act.put, stA, stS, stZ]
      refine OrdG.ty 1 _ rfl (.inl hSS) ?_
      simp only [Act.put, stA, stS, stZ]
      refine OrdG.ty 2 _ rfl (.inl hSS) ?_
      simp only [Act.put, stA, stS, stZ]
      refine OrdG.tk 3 _ rfl (by assumption) ?_
      simp only [Act.put, stA, stS, stZ]
      refine OrdG.ty 4 _ rfl (.inl hSS) ?_
      simp only [Act.put, stA, stS, stZ]
      refine OrdG.ty 5 _ rfl (.inl hSS) ?_
      simp only [Act.put, stA, stS, stZ]
      refine OrdG.ty 6 _ rfl (.inl hSS) ?_
      simp only [Act.put, stA, stS, stZ]
      refine OrdG.tk 7 _ rfl (by assumption) ?_
      simp only [Act.put, stA, stS, stZ]
      refine OrdG.ty 8 _ rfl (.inl hSS) ?_
      simp only [Act.put, stA, stS, stZ]
      refine OrdG.ty 9 _ rfl (.inl hSS) ?_
      simp only [Act.put, stA, stS, stZ]
      refine OrdG.ty 10 _ rfl (.inl hSS) ?_
      simp only [Act.put, stA, stS, stZ]
      refine OrdG.tk 11 _ rfl (by assumption) ?_
      simp only [Act.put, stA, stS, stZ]
      refine OrdG.ty 12 _ rfl (.inl hSS) ?_
      simp only [Act.put, stA, stS, stZ]
      refine OrdG.ty 13 _ rfl (.inl hSS) ?_
      simp only [Act.put, stA, stS, stZ]
      refine OrdG.one (i := 14) (by kernel_rfl) rfl (fun K hK => ?_)
      go_simp
      refine hK.out _ _ (.inr (by kernel_rfl)) ?_
      clear hK
      refine OrdG.ty 15 _ rfl (.inr (by kernel_rfl)) ?_
      simp only [Act.put, stA, stS, stZ]
      refine OrdG.ty 16 _ rfl (.inr (by kernel_rfl)) ?_
      simp only [Act.put, stA, stS, stZ]
      refine OrdG.one (i := 17) (by kernel_rfl) rfl (fun K hK => ?_)
      go_simp
      refine hK.out _ _ (.inr (by kernel_rfl)) ?_
      clear hK
      refine OrdG.done (by kernel_rfl) ?_ _
      clear hSS b1 b8 z1 z8 a4
      obtain ⟨W5, hW5⟩ : ∃ W, W = ((wr.setCell ⟨gb, 8, none⟩ (.slice none 0 0)).setCell ⟨gb, 1, none⟩ (.int .i64 wd.dest)).drew := ⟨_, rfl⟩
      have six : (gd.regs.map (encV σ)).length = 6 := by rw [List.length_map]; exact OG.out.six
      have g5 : W5.heap[gb]? = some (.cells (gorCells σ wd.g ⟨wd.dest, gd.regs, []⟩ (.slice none 0 0)) 98 (0, 0)) := by
        rw [hW5]
        refine (heap_setCell_same _ gb 1 _ _ _ (heap_setCell_same wr gb 8 _ _ _ HGW.out)).trans ?_
        congr 2
        unfold gorCells
        simp [six]
      have k5 : Keep (fun b => b = gb) wr W5 := by
        rw [hW5]
        exact (((Keep.refl (fun b => b = gb) wr).setCell (p := ⟨gb, 8, none⟩) rfl _).setCell (p := ⟨gb, 1, none⟩) rfl _).drew
      rw [← hW5]
      clear hW5
      have a0' : W5.cell? ⟨kb, 0, none⟩ = some (.pointer (some ⟨gb, 0, none⟩)) := Keep.cell (p := ⟨kb, 0, none⟩) k5 hkg a0
      have a3' : W5.cell? ⟨kb, 3, none⟩ = some (.int .i64 wd.reg) := Keep.cell (p := ⟨kb, 3, none⟩) k5 hkg a3
      have G5 := hidP g5
      have K5 := hidP k5
      clear a0 a3 g5 k5
      by_cases hneg : 0 ≤ wd.reg
      · obtain ⟨r, hr⟩ := Int.eq_ofNat_of_zero_le hneg
        have hr6 : r < 6 := by have := OWW.out.reg.2; omega
        obtain ⟨old, hold⟩ := some_lt (l := gd.regs) (i := r) (by rw [OG.out.six]; exact hr6)
        rw [hr] at a3'
        have gr : W5.cell? ⟨gb, 2 + r, none⟩ = some (encV σ old) := by
          refine (cell_of_row W5 gb (2 + r) _ _ (0, 0) G5.out).trans ?_
          unfold gorCells
          simp only [List.getElem?_toArray]
          rw [show 2 + r = r + 2 by omega, List.getElem?_cons_succ, List.getElem?_cons_succ, List.getElem?_append_left (by rw [six]; exact hr6), List.getElem?_map, hold]
          rfl
        have zr := frozen_of_row W5 gb (2 + r) _ _ G5.out
        have hr0 : (0 : Int) ≤ (r : Int) := by omega
        have hri : (r : Int) < 6 := by omega
        have HR := hidP hr
        clear hneg hr
        go_upto_region 7 with fail
        have hSS : (fun w' : World => w'.cell? ⟨kb, 0, none⟩ = some (.pointer (some ⟨gb, 0, none⟩)) ∧ w'.cell? ⟨kb, 3, none⟩ = some (.int .i64 r)) W5.drew := ⟨a0', a3'⟩
        refine OrdG.begin (fun w' : World => w'.cell? ⟨kb, 0, none⟩ = some (.pointer (some ⟨gb, 0, none⟩)) ∧ w'.cell? ⟨kb, 3, none⟩ = some (.int .i64 r)) 12 (by kernel_rfl) hSS ?_
        refine OrdG.ty 0 _ rfl (.inl hSS) ?_
        simp only [Act.put, stA, stS, stZ]
        refine OrdG.ty 1 _ rfl (.inl hSS) ?_
        simp only [Act.put, stA, stS, stZ]
        refine OrdG.ty 2 _ rfl (.inl hSS) ?_
        simp only [Act.put, stA, stS, stZ]
        refine OrdG.tk 3 _ rfl (by assumption) ?_
        simp only [Act.put, stA, stS, stZ]
        refine OrdG.ty 4 _ rfl (.inl hSS) ?_
        simp only [Act.put, stA, stS, stZ]
        refine OrdG.ty 5 _ rfl (.inl hSS) ?_
        simp only [Act.put, stA, stS, stZ]
        refine OrdG.ty 6 _ rfl (.inl hSS) ?_
        simp only [Act.put, stA, stS, stZ]
        refine OrdG.tk 7 _ rfl (by assumption) ?_
        simp only [Act.put, stA, stS, stZ]
        refine OrdG.ty 8 _ rfl (.inl hSS) ?_
        simp only [Act.put, stA, stS, stZ]
        refine OrdG.ty 9 _ rfl (.inl hSS) ?_
        simp only [Act.put, stA, stS, stZ]
        refine OrdG.ty 10 _ rfl (.inl hSS) ?_
        simp only [Act.put, stA, stS, stZ]
        refine OrdG.ty 11 _ rfl (.inl hSS) ?_
        simp only [Act.put, stA, stS, stZ]
        refine OrdG.one (i := 12) (by kernel_rfl) rfl (fun K hK => ?_)
        go_simp
        refine hK.out _ _ (.inr (by kernel_rfl)) ?_
        clear hK
        refine OrdG.done (by kernel_rfl) ?_ _
        clear hSS
        obtain ⟨W7, hW7⟩ : ∃ W, W = (W5.setCell ⟨gb, 2 + r, none⟩ (.iface VT VU)).drew := ⟨_, rfl⟩
        have G7 : Hid (W7.heap[gb]? = some (.cells (gorCells σ wd.g ⟨wd.dest, gd.regs.set r x, []⟩ (.slice none 0 0)) 98 (0, 0))) := by
          show _ = _
          rw [hW7]
          refine (heap_setCell_same W5 gb (2 + r) _ _ _ G5.out).trans ?_
          rw [← HV.out]
          congr 2
          unfold gorCells
          simp only [List.setIfInBounds_toArray, List.map_set]
          rw [show 2 + r = r + 1 + 1 by omega, List.set_cons_succ, List.set_cons_succ, List.set_append_left _ _ (by rw [six]; exact hr6)]
        have K7 : Hid (Keep (fun b => b = gb) wr W7) := by
          show Keep _ _ _
          rw [hW7]
          exact (K5.out.setCell (p := ⟨gb, 2 + r, none⟩) rfl _).drew
        have a0'' : W7.cell? ⟨kb, 0, none⟩ = some (.pointer (some ⟨gb, 0, none⟩)) := by
          refine Keep.cell (p := ⟨kb, 0, none⟩) K7.out hkg (cell_of_row wr kb 0 _ _ (0, 0) HKW.out |>.trans ?_)
          rw [← HGB.out]
          rfl
        rw [← hW7]
        clear hW7 gr zr a0' a3' G5 K5
        go_upto_region 8 with fail
        have hmc : (W7).heap[σ.mb]? = some (.cells #[P, q, encV σ G0, encV σ G1, encV σ G2, encV σ G3, .int .i64 (m.unlink gd.waits).now, tv, .int .i64 (m.unlink gd.waits).gors.length, ev, .int .i64 (m.unlink gd.waits).outcome, sv] 66 (0, 0)) :=
          ((K7).out.block σ.mb (blk_lt HMC.out.cells.1) (fun e => hgm e.symm)).trans HMC.out.cells.1
        have hq0 : (m.unlink gd.waits).queue = m.queue := (unlink_same gd.waits m).2.2.2.1
        have hqo : (W7).ownsRow B 95 1 q m.queue.length (gPtrs σ m.queue) := by
          rw [← hq0]
          exact owns_keep HMC.out.queue.1 (K7).out (fun b hb e => HMC.out.queue.row_ne HGW.out (by decide) (by rw [hb, e]))
        have hql : m.queue.length ≤ 1000000 := Nat.le_trans OK.out.queueLen FIT.out.gors
        have hsB : B ≤ (W7).heap.size := Nat.le_trans HI.out.size (K7).out.size
        obtain ⟨mb, hmb⟩ : ∃ mb, σ.mb = mb := ⟨_, rfl⟩
        rw [hmb] at hmc hkm hgm
        rw [hmb]
        have m1 := cell_of_row (W7) mb 1 _ _ (0, 0) hmc
        have zm := frozen_of_row (W7) mb 1 _ _ hmc
        simp at m1
        have HMC7 := hidP hmc
        have HQO := hidP hqo
        clear hmc hqo hq0
        have hSS : (fun w' : World => w'.cell? ⟨mb, 1, none⟩ = some q ∧ w'.cell? ⟨kb, 0, none⟩ = some (.pointer (some ⟨gb, 0, none⟩))) (W7).drew := ⟨m1, a0''⟩
        refine OrdG.begin (fun w' : World => w'.cell? ⟨mb, 1, none⟩ = some q ∧ w'.cell? ⟨kb, 0, none⟩ = some (.pointer (some ⟨gb, 0, none⟩))) 13 (by kernel_rfl) hSS ?_
        refine OrdG.ty 0 _ rfl (.inl hSS) ?_
        simp only [Act.put, stA, stS, stZ]
        refine OrdG.ty 1 _ rfl (.inl hSS) ?_
        simp only [Act.put, stA, stS, stZ]
        refine OrdG.ty 2 _ rfl (.inl hSS) ?_
        simp only [Act.put, stA, stS, stZ]
        refine OrdG.ty 3 _ rfl (.inl hSS) ?_
        simp only [Act.put, stA, stS, stZ]
        refine OrdG.tk 4 _ rfl (by assumption) ?_
        simp only [Act.put, stA, stS, stZ]
        refine OrdG.ty 5 _ rfl (.inl hSS) ?_
        simp only [Act.put, stA, stS, stZ]
        refine OrdG.ty 6 _ rfl (.inl hSS) ?_
        simp only [Act.put, stA, stS, stZ]
        refine OrdG.ty 7 _ rfl (.inl hSS) ?_
        simp only [Act.put, stA, stS, stZ]
        refine OrdG.tk 8 _ rfl (by assumption) ?_
        simp only [Act.put, stA, stS, stZ]
        refine OrdG.one (i := 9) (by kernel_rfl) rfl (fun K hK => ?_)
        go_simp
        refine hK.out _ _ (.inl (by go_keep)) ?_
        clear hK
        refine OrdG.one (i := 10) (by kernel_rfl) rfl (fun K hK => ?_)
        refine step_app _ rfl (.tmp 88) (.tmp 93) rfl Tryz.slGor B q m.queue.length (gPtrs σ m.queue) rfl (HQO.out.alloc _) (some ⟨(W7).heap.size, 0, none⟩) 1 1 [.pointer (some ⟨gb, 0, none⟩)] rfl (m.queue.length + 1) rfl (RowAt.new (W7) [.pointer (some ⟨gb, 0, none⟩)] _) rfl (by simp; rfl) (by omega) (by unfold maxLen; omega) (Nat.le_trans hsB (by simp)) ?_
        intro a2 c2 w2 ho2 hg2 hw2
        have kp2 : Keep (fun b => q.ownBlock = some b) (W7) w2 := (((Keep.refl (fun b => q.ownBlock = some b) (W7)).alloc (.cells #[.pointer (some ⟨gb, 0, none⟩)] 95)).drew).trans (.of_grown hg2 (fun k hk => hk))
        have hqm : q.ownBlock ≠ some mb := by rw [← hmb]; exact HMC.out.apart.1.1
        have hqk : q.ownBlock ≠ some kb := HMC.out.queue.row_ne HKW.out (by decide)
        have hm2 := (kp2.block mb (blk_lt HMC7.out) hqm).trans HMC7.out
        have n1 := cell_of_row w2 mb 1 _ _ (0, 0) hm2
        have zn := frozen_of_row w2 mb 1 _ _ hm2
        simp at n1
        have n2 : w2.cell? ⟨kb, 0, none⟩ = some (.pointer (some ⟨gb, 0, none⟩)) := Keep.cell (p := ⟨kb, 0, none⟩) kp2 hqk a0''
        have HO2 := hidP ho2
        have KP2 := hidP kp2
        have HW2 := hidP hw2
        clear ho2 kp2 hw2 hg2 hm2
        refine hK.out _ _ (.inl ⟨n1, n2⟩) ?_
        clear hK
        refine OrdG.ty 11 _ rfl (.inl ⟨n1, n2⟩) ?_
        simp only [Act.put, stA, stS, stZ]
        refine OrdG.ty 12 _ rfl (.inl ⟨n1, n2⟩) ?_
        simp only [Act.put, stA, stS, stZ]
        refine OrdG.one (i := 13) (by kernel_rfl) rfl (fun K hK => ?_)
        go_simp
        refine hK.out _ _ (.inr (by kernel_rfl)) ?_
        clear hK
        refine OrdG.done (by kernel_rfl) ?_ _
        go_wp2
        first | go_end0 | ((try simp only [Exit.inBlock, Exit.then]); refine bodyPost_ret (results_none rfl _ _ _) rfl ?_)
        refine ⟨rfl, and_comm.1 ⟨?_, ?_⟩⟩
        focus
          subst hmb
          refine HHA.out.trans ?_
          have hk9 : Keep (fun b => b = gb ∨ q.ownBlock = some b ∨ b = σ.mb) wr (w2.setCell ⟨σ.mb, 1, none⟩ (.slice a2 (m.queue.length + 1) c2)) :=
            (((K7).out.mono (fun b _ e => .inl e)).trans (KP2.out.mono (fun b _ e => .inr (.inl e)))).setCell (p := ⟨σ.mb, 1, none⟩) (.inr (.inr rfl)) _
          have hg2 : (m.unlink gd.waits).gors[wd.g]? = some gd := by rw [(unlink_same gd.waits m).1]; exact H2.out
          obtain ⟨_, vv, hgc, hgr⟩ := HI.out.gor _ _ hg2
          have := HeldAs.keep HI.out hk9 (fun i b hb => by
            rintro (e | e | e)
            · rw [e, ← HGB.out, hgc.2] at hb; cases hb
            · rw [HMC.out.queue.2 b e] at hb; cases hb
            · rw [e, HMC.out.cells.2] at hb; cases hb)
          exact fun i hi => this i (by rw [(unlink_same _ m).2.2.2.2.2.2.2.2.2.2]; exact hi)
        subst hmb
        have hg2 : (m.unlink gd.waits).gors[wd.g]? = some gd := by rw [(unlink_same gd.waits m).1]; exact H2.out
        obtain ⟨_, vv, hgc, hgr⟩ := HI.out.gor _ _ hg2
        have kg : Keep (fun b => ow1 b = some (.gor wd.g)) wr (W7) := (K7).out.mono (fun b _ e => by rw [e, ← HGB.out]; exact hgc.2)
        have st1 := StepO.of kg
        have hI2 := HI.out.setGor st1 HI.out.frm_base (g := ⟨wd.dest, gd.regs.set r x, []⟩) ⟨by first | exact OG.out.six | (rw [List.length_set]; exact OG.out.six), .slice none 0 0, hgc.anew (by rw [HGB.out]; exact (G7).out), World.ownsRow_nil _ _ _ _, fun b hb => by cases hb⟩
        have hM2 : MachC B P σ (frm ow1 wr.heap.size (some (.gor wd.g))) (W7) ((m.unlink gd.waits).setGor wd.g ⟨wd.dest, gd.regs.set r x, []⟩) q tv ev sv G0 G1 G2 G3 :=
          (HMC.out.step st1 (by intro e; cases e)).same rfl rfl (by simp [MachD.setGor]) rfl rfl rfl rfl rfl
        have hres := hI2.queuePut hM2 (l' := m.queue ++ [wd.g]) (q' := .slice a2 (m.queue.length + 1) c2) KP2.out (by
          have e1 : gPtrs σ (m.queue ++ [wd.g]) = gPtrs σ m.queue ++ [.pointer (some ⟨gb, 0, none⟩)] := by unfold gPtrs; rw [List.map_append, ← HGB.out]; rfl
          rw [e1, List.length_append]
          exact HO2.out) (fun b hb => by
            rcases HW2.out with h | h
            · exact .inl (h.symm.trans hb)
            · rw [h] at hb; cases hb; exact .inr (by simp))
        have hk1 : Keep (fun b => ow b ≠ none) w wr := HK.out.mono (fun b _ e => by obtain ⟨i, e⟩ := e; rw [e]; simp)
        have hres2 : Res B P σ ow1 ({ (m.unlink gd.waits).setGor wd.g ⟨wd.dest, gd.regs.set r x, []⟩ with queue := m.queue ++ [wd.g] } : MachD) wr (w2.setCell ⟨σ.mb, 1, none⟩ (.slice a2 (m.queue.length + 1) c2)) :=
          Res.trans (kg.mono (fun b _ e => by rw [e]; simp)) (.frm _) hres
        have hres3 := Res.trans hk1 HM.out hres2
        rw [wake_eq ⟨H1.out, H2.out, H3.out⟩ x, if_pos (show 0 ≤ wd.reg by rw [HR.out]; exact hr0), show wd.reg.toNat = r by rw [HR.out]; rfl]
        exact hres3
      · have hneg' : wd.reg < 0 := by omega
        go_upto_region 8 with fail
        have hmc : (W5).heap[σ.mb]? = some (.cells #[P, q, encV σ G0, encV σ G1, encV σ G2, encV σ G3, .int .i64 (m.unlink gd.waits).now, tv, .int .i64 (m.unlink gd.waits).gors.length, ev, .int .i64 (m.unlink gd.waits).outcome, sv] 66 (0, 0)) :=
          ((K5).out.block σ.mb (blk_lt HMC.out.cells.1) (fun e => hgm e.symm)).trans HMC.out.cells.1
        have hq0 : (m.unlink gd.waits).queue = m.queue := (unlink_same gd.waits m).2.2.2.1
        have hqo : (W5).ownsRow B 95 1 q m.queue.length (gPtrs σ m.queue) := by
          rw [← hq0]
          exact owns_keep HMC.out.queue.1 (K5).out (fun b hb e => HMC.out.queue.row_ne HGW.out (by decide) (by rw [hb, e]))
        have hql : m.queue.length ≤ 1000000 := Nat.le_trans OK.out.queueLen FIT.out.gors
        have hsB : B ≤ (W5).heap.size := Nat.le_trans HI.out.size (K5).out.size
        obtain ⟨mb, hmb⟩ : ∃ mb, σ.mb = mb := ⟨_, rfl⟩
        rw [hmb] at hmc hkm hgm
        rw [hmb]
        have m1 := cell_of_row (W5) mb 1 _ _ (0, 0) hmc
        have zm := frozen_of_row (W5) mb 1 _ _ hmc
        simp at m1
        have HMC7 := hidP hmc
        have HQO := hidP hqo
        clear hmc hqo hq0
        have hSS : (fun w' : World => w'.cell? ⟨mb, 1, none⟩ = some q ∧ w'.cell? ⟨kb, 0, none⟩ = some (.pointer (some ⟨gb, 0, none⟩))) (W5).drew := ⟨m1, a0'⟩
        refine OrdG.begin (fun w' : World => w'.cell? ⟨mb, 1, none⟩ = some q ∧ w'.cell? ⟨kb, 0, none⟩ = some (.pointer (some ⟨gb, 0, none⟩))) 13 (by kernel_rfl) hSS ?_
        refine OrdG.ty 0 _ rfl (.inl hSS) ?_
        simp only [Act.put, stA, stS, stZ]
        refine OrdG.ty 1 _ rfl (.inl hSS) ?_
        simp only [Act.put, stA, stS, stZ]
        refine OrdG.ty 2 _ rfl (.inl hSS) ?_
        simp only [Act.put, stA, stS, stZ]
        refine OrdG.ty 3 _ rfl (.inl hSS) ?_
        simp only [Act.put, stA, stS, stZ]
        refine OrdG.tk 4 _ rfl (by assumption) ?_
        simp only [Act.put, stA, stS, stZ]
        refine OrdG.ty 5 _ rfl (.inl hSS) ?_
        simp only [Act.put, stA, stS, stZ]
        refine OrdG.ty 6 _ rfl (.inl hSS) ?_
        simp only [Act.put, stA, stS, stZ]
        refine OrdG.ty 7 _ rfl (.inl hSS) ?_
        simp only [Act.put, stA, stS, stZ]
        refine OrdG.tk 8 _ rfl (by assumption) ?_
        simp only [Act.put, stA, stS, stZ]
        refine OrdG.one (i := 9) (by kernel_rfl) rfl (fun K hK => ?_)
        go_simp
        refine hK.out _ _ (.inl (by go_keep)) ?_
        clear hK
        refine OrdG.one (i := 10) (by kernel_rfl) rfl (fun K hK => ?_)
        refine step_app _ rfl (.tmp 88) (.tmp 93) rfl Tryz.slGor B q m.queue.length (gPtrs σ m.queue) rfl (HQO.out.alloc _) (some ⟨(W5).heap.size, 0, none⟩) 1 1 [.pointer (some ⟨gb, 0, none⟩)] rfl (m.queue.length + 1) rfl (RowAt.new (W5) [.pointer (some ⟨gb, 0, none⟩)] _) rfl (by simp; rfl) (by omega) (by unfold maxLen; omega) (Nat.le_trans hsB (by simp)) ?_
        intro a2 c2 w2 ho2 hg2 hw2
        have kp2 : Keep (fun b => q.ownBlock = some b) (W5) w2 := (((Keep.refl (fun b => q.ownBlock = some b) (W5)).alloc (.cells #[.pointer (some ⟨gb, 0, none⟩)] 95)).drew).trans (.of_grown hg2 (fun k hk => hk))
        have hqm : q.ownBlock ≠ some mb := by rw [← hmb]; exact HMC.out.apart.1.1
        have hqk : q.ownBlock ≠ some kb := HMC.out.queue.row_ne HKW.out (by decide)
        have hm2 := (kp2.block mb (blk_lt HMC7.out) hqm).trans HMC7.out
        have n1 := cell_of_row w2 mb 1 _ _ (0, 0) hm2
        have zn := frozen_of_row w2 mb 1 _ _ hm2
        simp at n1
        have n2 : w2.cell? ⟨kb, 0, none⟩ = some (.pointer (some ⟨gb, 0, none⟩)) := Keep.cell (p := ⟨kb, 0, none⟩) kp2 hqk a0'
        have HO2 := hidP ho2
        have KP2 := hidP kp2
        have HW2 := hidP hw2
        clear ho2 kp2 hw2 hg2 hm2
        refine hK.out _ _ (.inl ⟨n1, n2⟩) ?_
        clear hK
        refine OrdG.ty 11 _ rfl (.inl ⟨n1, n2⟩) ?_
        simp only [Act.put, stA, stS, stZ]
        refine OrdG.ty 12 _ rfl (.inl ⟨n1, n2⟩) ?_
        simp only [Act.put, stA, stS, stZ]
        refine OrdG.one (i := 13) (by kernel_rfl) rfl (fun K hK => ?_)
        go_simp
        refine hK.out _ _ (.inr (by kernel_rfl)) ?_
        clear hK
        refine OrdG.done (by kernel_rfl) ?_ _
        go_wp2
        first | go_end0 | ((try simp only [Exit.inBlock, Exit.then]); refine bodyPost_ret (results_none rfl _ _ _) rfl ?_)
        refine ⟨rfl, and_comm.1 ⟨?_, ?_⟩⟩
        focus
          subst hmb
          refine HHA.out.trans ?_
          have hk9 : Keep (fun b => b = gb ∨ q.ownBlock = some b ∨ b = σ.mb) wr (w2.setCell ⟨σ.mb, 1, none⟩ (.slice a2 (m.queue.length + 1) c2)) :=
            (((K5).out.mono (fun b _ e => .inl e)).trans (KP2.out.mono (fun b _ e => .inr (.inl e)))).setCell (p := ⟨σ.mb, 1, none⟩) (.inr (.inr rfl)) _
          have hg2 : (m.unlink gd.waits).gors[wd.g]? = some gd := by rw [(unlink_same gd.waits m).1]; exact H2.out
          obtain ⟨_, vv, hgc, hgr⟩ := HI.out.gor _ _ hg2
          have := HeldAs.keep HI.out hk9 (fun i b hb => by
            rintro (e | e | e)
            · rw [e, ← HGB.out, hgc.2] at hb; cases hb
            · rw [HMC.out.queue.2 b e] at hb; cases hb
            · rw [e, HMC.out.cells.2] at hb; cases hb)
          exact fun i hi => this i (by rw [(unlink_same _ m).2.2.2.2.2.2.2.2.2.2]; exact hi)
        subst hmb
        have hg2 : (m.unlink gd.waits).gors[wd.g]? = some gd := by rw [(unlink_same gd.waits m).1]; exact H2.out
        obtain ⟨_, vv, hgc, hgr⟩ := HI.out.gor _ _ hg2
        have kg : Keep (fun b => ow1 b = some (.gor wd.g)) wr (W5) := (K5).out.mono (fun b _ e => by rw [e, ← HGB.out]; exact hgc.2)
        have st1 := StepO.of kg
        have hI2 := HI.out.setGor st1 HI.out.frm_base (g := ⟨wd.dest, gd.regs, []⟩) ⟨by first | exact OG.out.six | (rw [List.length_set]; exact OG.out.six), .slice none 0 0, hgc.anew (by rw [HGB.out]; exact (G5).out), World.ownsRow_nil _ _ _ _, fun b hb => by cases hb⟩
        have hM2 : MachC B P σ (frm ow1 wr.heap.size (some (.gor wd.g))) (W5) ((m.unlink gd.waits).setGor wd.g ⟨wd.dest, gd.regs, []⟩) q tv ev sv G0 G1 G2 G3 :=
          (HMC.out.step st1 (by intro e; cases e)).same rfl rfl (by simp [MachD.setGor]) rfl rfl rfl rfl rfl
        have hres := hI2.queuePut hM2 (l' := m.queue ++ [wd.g]) (q' := .slice a2 (m.queue.length + 1) c2) KP2.out (by
          have e1 : gPtrs σ (m.queue ++ [wd.g]) = gPtrs σ m.queue ++ [.pointer (some ⟨gb, 0, none⟩)] := by unfold gPtrs; rw [List.map_append, ← HGB.out]; rfl
          rw [e1, List.length_append]
          exact HO2.out) (fun b hb => by
            rcases HW2.out with h | h
            · exact .inl (h.symm.trans hb)
            · rw [h] at hb; cases hb; exact .inr (by simp))
        have hk1 : Keep (fun b => ow b ≠ none) w wr := HK.out.mono (fun b _ e => by obtain ⟨i, e⟩ := e; rw [e]; simp)
        have hres2 : Res B P σ ow1 ({ (m.unlink gd.waits).setGor wd.g ⟨wd.dest, gd.regs, []⟩ with queue := m.queue ++ [wd.g] } : MachD) wr (w2.setCell ⟨σ.mb, 1, none⟩ (.slice a2 (m.queue.length + 1) c2)) :=
          Res.trans (kg.mono (fun b _ e => by rw [e]; simp)) (.frm _) hres
        have hres3 := Res.trans hk1 HM.out hres2
        rw [wake_eq ⟨H1.out, H2.out, H3.out⟩ x, if_neg (show ¬ 0 ≤ wd.reg by omega)]
        exact hres3
theorem as_num_num (w : World) (v : Value) : (Instr.typeAssert (.iface 67 v) 20 67 true).run Tryz.prog w = .ok (.tuple #[v, .bool true]) w := by simp [Instr.typeAssert, run_underlying Tryz.underlying67]
theorem as_num_ch (w : World) (v : Value) : (Instr.typeAssert (.iface 102 v) 20 67 true).run Tryz.prog w = .ok (.tuple #[.int .i64 0, .bool false]) w := by simp [Instr.typeAssert, run_underlying Tryz.underlying67, Tryz.zeroValue67]
theorem as_num_bx (w : World) (v : Value) : (Instr.typeAssert (.iface 127 v) 20 67 true).run Tryz.prog w = .ok (.tuple #[.int .i64 0, .bool false]) w := by simp [Instr.typeAssert, run_underlying Tryz.underlying67, Tryz.zeroValue67]
theorem as_ch_num (w : World) (v : Value) : (Instr.typeAssert (.iface 67 v) 20 102 true).run Tryz.prog w = .ok (.tuple #[.pointer none, .bool false]) w := by simp [Instr.typeAssert, run_underlying Tryz.underlying102, Tryz.zeroValue102]
theorem as_ch_ch (w : World) (v : Value) : (Instr.typeAssert (.iface 102 v) 20 102 true).run Tryz.prog w = .ok (.tuple #[v, .bool true]) w := by simp [Instr.typeAssert, run_underlying Tryz.underlying102]
theorem as_ch_bx (w : World) (v : Value) : (Instr.typeAssert (.iface 127 v) 20 102 true).run Tryz.prog w = .ok (.tuple #[.pointer none, .bool false]) w := by simp [Instr.typeAssert, run_underlying Tryz.underlying102, Tryz.zeroValue102]
theorem as_bx_num (w : World) (v : Value) : (Instr.typeAssert (.iface 67 v) 20 127 true).run Tryz.prog w = .ok (.tuple #[.pointer none, .bool false]) w := by simp [Instr.typeAssert, run_underlying Tryz.underlying127, Tryz.zeroValue127]
theorem as_bx_ch (w : World) (v : Value) : (Instr.typeAssert (.iface 102 v) 20 127 true).run Tryz.prog w = .ok (.tuple #[.pointer none, .bool false]) w := by simp [Instr.typeAssert, run_underlying Tryz.underlying127, Tryz.zeroValue127]
theorem as_bx_bx (w : World) (v : Value) : (Instr.typeAssert (.iface 127 v) 20 127 true).run Tryz.prog w = .ok (.tuple #[v, .bool true]) w := by simp [Instr.typeAssert, run_underlying Tryz.underlying127]
set_option maxRecDepth 100000 in
set_option maxHeartbeats 400000 in
theorem nothing_any (σ : Lay) (x : PV) (w : World) : Calls Tryz.prog 96 #[encV σ x] w fun e w' => e = .returned (.bool (MachD.nothing x)) ∧ w' = w := by
  have h1 := as_num_num
  have h2 := as_num_ch
  have h3 := as_num_bx
  cases x with
  | num n =>
    unfold encV MachD.nothing
    go_enter Tryz.func96, Tryz.ntmps96
    go_wp2
    go_ret
    exact ⟨rfl, rfl⟩
  | ch i =>
    unfold encV MachD.nothing
    go_enter Tryz.func96, Tryz.ntmps96
    go_wp2
    go_ret
    exact ⟨rfl, rfl⟩
  | bx i =>
    unfold encV MachD.nothing
    go_enter Tryz.func96, Tryz.ntmps96
    go_wp2
    go_ret
    exact ⟨rfl, rfl⟩
theorem chan_cells {c : ChanD} {hv sv tv : Value} {t : TypeId} {w : World} {b : Nat} (h : w.heap[b]? = some (.cells (chanCells c hv sv tv) t (0, 0))) :
    w.cell? ⟨b, 0, none⟩ = some (.int .i64 c.cap) ∧ w.cell? ⟨b, 1, none⟩ = some (.bool c.closed) ∧ w.cell? ⟨b, 2, none⟩ = some hv ∧ w.cell? ⟨b, 3, none⟩ = some sv ∧ w.cell? ⟨b, 4, none⟩ = some tv ∧ ∀ j, w.frozen? ⟨b, j, none⟩ = false :=
  ⟨cell_of_row w b 0 _ _ (0, 0) h, cell_of_row w b 1 _ _ (0, 0) h, cell_of_row w b 2 _ _ (0, 0) h, cell_of_row w b 3 _ _ (0, 0) h, cell_of_row w b 4 _ _ (0, 0) h, fun j => frozen_of_row w b j _ _ h⟩
theorem first_cell {B : Nat} {σ : Lay} {ow : Owns} {w : World} {o : Own} {v : Value} {k : Nat} {r : List Nat} (h : RowO B ow w o 132 1 v (k :: r).length (wPtrs σ (k :: r))) :
    ∃ b off c, v = .slice (some ⟨b, off, none⟩) (r.length + 1) c ∧ w.cell? ⟨b, off, none⟩ = some (.pointer (some ⟨σ.wA k, 0, none⟩)) := by
  obtain ⟨ao, c, rfl, hr, _⟩ := owns_open h.1
  obtain ⟨b, off, rfl, hc⟩ := hr.addr (by unfold wPtrs; simp)
  exact ⟨b, off, c, rfl, by simpa using hc 0 _ rfl⟩
theorem mt_slice {w : World} {B : Nat} {e : TypeId} {size n : Nat} {v : Value} {xs : List Value} (h : w.ownsRow B e size v n xs) : ∃ ao c, v = .slice ao n c ∧ n ≤ c := by
  obtain ⟨ao, c, rfl, _, h1, _⟩ := owns_open h
  exact ⟨ao, c, rfl, h1⟩
theorem keep_app {S : Nat → Prop} {w wa w2 : World} {row : Option Nat} (hg : wa.grownBy w2 row) (ha : Keep S w wa) (hr : ∀ k, row = some k → S k) : Keep S w w2 := ha.trans (.of_grown hg hr)
theorem Tryz.slAny' : SlT Tryz.prog 122 20 .nilIface 1 16 := ⟨Tryz.underlying122, by kernel_rfl, rfl, by decide⟩
section
variable {B : Nat} {P : Value} {σ : Lay} {ow ow' : Owns} {w w' w1 w2 w3 : World} {m m' : MachD}
theorem Inv.heldPut (h : Inv B P σ ow m w) {i : Nat} {c : ChanD} (hc : m.chans[i]? = some c) {hv sv tv : Value} (hcell : CellsO ow w (σ.cA i) (.chan i) (chanCells c hv sv tv) 124) (r1 : RowO B ow w (.chan i) 20 1 hv c.held.length (c.held.map (encV σ)))
    (r2 : RowO B ow w (.chan i) 132 1 sv c.sends.length (wPtrs σ c.sends)) (r3 : RowO B ow w (.chan i) 132 1 tv c.takes.length (wPtrs σ c.takes)) (hne : ∀ b, sv.ownBlock = some b → tv.ownBlock ≠ some b) {l' : List PV} {v' : Value}
    (hk : Keep (fun b => hv.ownBlock = some b) w w2) (ho : w2.ownsRow B 20 1 v' l'.length (l'.map (encV σ))) (hn : ∀ b, v'.ownBlock = some b → hv.ownBlock = some b ∨ w.heap.size ≤ b) :
    Res B P σ ow (m.setChan i { c with held := l' }) w (w2.setCell ⟨σ.cA i, 2, none⟩ v') := by
  have hb : hv.ownBlock ≠ some (σ.cA i) := r1.row_ne hcell.1 (by decide)
  have K1 : Keep (fun b => ow b = some (.chan i)) w (w2.setCell ⟨σ.cA i, 2, none⟩ v') := (hk.mono (fun b _ e => r1.2 b e)).setCell (p := ⟨σ.cA i, 2, none⟩) hcell.2 v'
  have K2 : Keep (fun b => hv.ownBlock = some b ∨ b = σ.cA i) w (w2.setCell ⟨σ.cA i, 2, none⟩ v') := (hk.mono (fun b _ e => .inl e)).setCell (p := ⟨σ.cA i, 2, none⟩) (.inr rfl) v'
  have c2 := (hk.block (σ.cA i) (blk_lt hcell.1) hb).trans hcell.1
  have hnm : ∀ b, v'.ownBlock = some b → b ≠ σ.cA i := fun b hb2 e => (hn b hb2).elim (fun h => hb (e ▸ h)) (fun h => by have := blk_lt hcell.1; omega)
  exact h.chan_put hc K1 (heap_setCell_same w2 _ 2 _ _ _ c2) (.anew (owns_keep ho ((Keep.refl (fun b => b = σ.cA i) w2).setCell (p := ⟨σ.cA i, 2, none⟩) rfl v') (fun b hb2 e => hnm b hb2 e)) (fun b hb2 => (hn b hb2).imp (fun h => ⟨own_lt r1.1 b h, r1.2 b h⟩) id))
    (r2.stay K2 (fun b h1 h2 => h2.elim (fun h2 => r1.rows_ne r2 (by decide) b h1 h2) (fun h2 => r2.row_ne hcell.1 (by decide) (h2 ▸ h1))) (.frm _)) (r3.stay K2 (fun b h1 h2 => h2.elim (fun h2 => r1.rows_ne r3 (by decide) b h1 h2) (fun h2 => r3.row_ne hcell.1 (by decide) (h2 ▸ h1))) (.frm _)) hne
end
set_option maxRecDepth 100000 in
set_option maxHeartbeats 1600000 in
theorem send_any {B : Nat} {P : Value} {σ : Lay} {ow : Owns} {m : MachD} {w : World} (h : Inv B P σ ow m w) (ok : Ok m) (fit : Fit m) {c : Nat} {cd : ChanD} (hc : m.chans[c]? = some cd) {x : PV} (hx : okV m x) :
    Calls Tryz.prog 46 #[.pointer (some ⟨σ.mb, 0, none⟩), .pointer (some ⟨σ.cA c, 0, none⟩), encV σ x] w fun e w' => e = .returned (.int .i64 (m.send c x).2) ∧ Res B P σ ow (m.send c x).1 w w' := by
  have oc := ok.chan _ _ hc
  obtain ⟨hv, sv, tv, hcell, r1, r2, r3, hne⟩ := h.lenC hc
  obtain ⟨c0, c1, c2, c3, c4, cf⟩ := chan_cells hcell.1
  have hs : m.send c x = m.send c x := rfl
  conv at hs => rhs; unfold MachD.send
  rw [chanAt_some hc] at hs
  dsimp only at hs
  obtain ⟨VT, VU, hV⟩ := encV_iface σ x
  obtain ⟨cb, hcb⟩ : ∃ cb, σ.cA c = cb := ⟨_, rfl⟩
  rw [hcb] at c0 c1 c2 c3 c4 cf ⊢
  by_cases hcl : cd.closed = true
  · rw [if_pos hcl] at hs
    rw [hs]
    rw [hcl] at c1
    have H := hidP h
    clear h ok fit hc hcell r1 r2 r3 hne oc hx hs c0 c2 c3 c4 cf hcl
    go_enter Tryz.func46, Tryz.ntmps46
    go_wp2
    go_ret
    exact ⟨rfl, H.out.res_below (by first | exact brefl _ | exact below_drewN (brefl _) _)⟩
  · rw [if_neg hcl] at hs
    have hcl' : cd.closed = false := by simpa using hcl
    rw [hcl'] at c1
    cases htk : cd.takes with
    | cons k r =>
      rw [htk] at hs r3
      dsimp only at hs
      obtain ⟨b, off, tc, rfl, ct⟩ := first_cell r3
      obtain ⟨wd, gd, hw, _⟩ := takes_waits ok hc (k := k) (by rw [htk]; exact List.mem_cons_self ..)
      have HW := hidP (wake_any h ok fit hw hx)
      obtain ⟨n, hn⟩ : ∃ n, r.length = n := ⟨_, rfl⟩
      rw [hn] at c4
      have lt1 : (0 : Int) < (n : Int) + 1 := by omega
      rw [hs]
      clear h ok fit hc hcell r1 r2 r3 hne oc hx hs c0 c2 c3 cf hcl hcl' htk hw hn hV
      go_enter Tryz.func46, Tryz.ntmps46
      go_wp2_with (go_at_call 70; with_reducible refine HW.out.mono ?_; rintro e w1 ⟨rfl, h1, _⟩)
      go_ret
      exact ⟨rfl, h1⟩
    | nil =>
      rw [htk] at hs
      dsimp only at hs
      obtain ⟨ta, tc, htv, _⟩ := mt_slice r3.1
      rw [htv, htk] at c4
      simp only [List.length_nil] at c4
      obtain ⟨ha, hcp, hhv, _⟩ := mt_slice r1.1
      rw [hhv] at c2
      obtain ⟨n, hn⟩ : ∃ n, cd.held.length = n := ⟨_, rfl⟩
      have hnm : n ≤ 1000000 := by have := oc.cap; omega
      by_cases hlt : (cd.held.length : Int) < cd.cap
      · rw [if_pos hlt] at hs
        rw [hs]
        have R1 := hidP (hhv ▸ r1.1 : w.ownsRow B 20 1 (.slice ha cd.held.length hcp) cd.held.length (cd.held.map (encV σ)))
        rw [hn] at c2 hlt
        have H := hidP (⟨h, hc, hcell, r1, r2, r3, hne, hn, htk, hcb, hhv⟩ : _ ∧ _ ∧ _ ∧ _ ∧ _ ∧ _ ∧ _ ∧ _ ∧ _ ∧ _ ∧ _)
        have HV := hidP hV
        have f2 := cf 2
        have HC : Hid (w.heap[cb]? = some (.cells (chanCells cd hv sv tv) 124 (0, 0))) := by show _ = _; rw [← hcb]; exact hcell.1
        have HN : Hid ((Value.slice ha n hcp).ownBlock ≠ some cb) := by show _ ≠ _; rw [← hcb, ← hn, ← hhv]; exact r1.row_ne hcell.1 (by decide)
        have hsB : B ≤ w.heap.size := h.size
        rw [hV]
        rw [hn] at R1
        clear h ok fit hc hcell r1 r2 r3 hne oc hx hs c3 cf hcl hcl' htk hn hcb hV htv hhv
        go_enter Tryz.func46, Tryz.ntmps46
        go_upto_region 6 with fail
        go_quiet (fail)
        go_wp2_with (at_builtin; go_loud (refine (wpList_app _ rfl (.tmp 43) (.tmp 45) rfl Tryz.slAny' B (.slice ha n hcp) n _ rfl (R1.out.alloc _) (some ⟨w.heap.size, 0, none⟩) 1 1 [.iface VT VU] rfl (n + 1) rfl (RowAt.new w [.iface VT VU] _) rfl (by simp; rfl) (by omega) (by unfold maxLen; omega) (Nat.le_trans hsB (by simp)) ?_)); intro a2 c2' w2 ho2 hg2 hw2; have kp2 : Keep (fun b => (Value.slice ha n hcp).ownBlock = some b) w w2 := keep_app hg2 (by first | exact (Keep.refl _ w).alloc _ | exact ((Keep.refl _ w).alloc _).drewN _ | exact ((Keep.refl _ w).drewN _).alloc _) (fun k hk => hk); have hc2 := (kp2.block cb (blk_lt HC.out) HN.out).trans HC.out; have q2 := cell_of_row w2 cb 2 _ _ (0, 0) hc2; have z2 := frozen_of_row w2 cb 2 _ _ hc2; simp [chanCells] at q2; have HO2 := hidP ho2; have KP2 := hidP kp2; have HW2 := hidP hw2; clear ho2 kp2 hw2 hg2 hc2)
        go_ret
        obtain ⟨h, hc, hcell, r1, r2, r3, hne, hn, htk, hcb, hhv⟩ := H.out
        subst hcb
        refine ⟨rfl, ?_⟩
        have hres := h.heldPut hc hcell r1 r2 r3 hne (l' := cd.held ++ [x]) (v' := .slice a2 (n + 1) c2') (by rw [hhv, hn]; exact KP2.out) (by rw [List.length_append, List.map_append, hn]; show w2.ownsRow B _ 1 _ (n + 1) (_ ++ [encV σ x]); rw [HV.out]; exact HO2.out) (fun b hb => by
          rcases HW2.out with h | h
          · exact .inl (by rw [hhv, hn]; exact h.symm.trans hb)
          · rw [h] at hb; cases hb; exact .inr (by simp))
        rw [htk] at hres
        exact hres
      · rw [if_neg hlt] at hs
        rw [hs]
        rw [hn] at c2 hlt
        have H := hidP h
        clear h ok fit hc hcell r1 r2 r3 hne oc hx hs c3 cf hcl hcl' htk hn hcb hV htv hhv
        go_enter Tryz.func46, Tryz.ntmps46
        go_upto_region 6 with fail
        go_quiet (fail)
        go_wp2
        go_ret
        exact ⟨rfl, H.out.res_below (by first | exact brefl _ | exact below_drewN (brefl _) _)⟩
end Go.Proofs.YtklfboidjnchoaaGreatDoor
namespace Go.Proofs.YtklfboidjnchoaaGreatDoor
set_option linter.unusedVariables false
set_option linter.unusedSimpArgs false
def picksL (n : Nat) (m : Int) : List EntD := (List.range n).map fun (i : Nat) => (⟨1, m, (i : Int)⟩ : EntD)
theorem picksL_succ (n : Nat) (m : Int) : picksL (n + 1) m = picksL n m ++ [⟨1, m, (n : Int)⟩] := by unfold picksL; rw [List.range_succ, List.map_append]; rfl
def Ext (m m' : MachD) : Prop := (∃ t, m'.events = m.events ++ t) ∧ ∃ t, m'.steps = m.steps ++ t
theorem Ext.refl (m : MachD) : Ext m m := ⟨⟨[], by simp⟩, ⟨[], by simp⟩⟩
theorem Ext.trans {a b c : MachD} (h : Ext a b) (k : Ext b c) : Ext a c := by
  obtain ⟨⟨t, ht⟩, u, hu⟩ := h
  obtain ⟨⟨t', ht'⟩, u', hu'⟩ := k
  exact ⟨⟨t ++ t', by rw [ht', ht, List.append_assoc]⟩, ⟨u ++ u', by rw [hu', hu, List.append_assoc]⟩⟩
def SameE (m m' : MachD) : Prop := m'.events = m.events ∧ m'.steps = m.steps
theorem SameE.refl (m : MachD) : SameE m m := ⟨rfl, rfl⟩
theorem SameE.trans {a b c : MachD} (h : SameE a b) (k : SameE b c) : SameE a c := ⟨k.1.trans h.1, k.2.trans h.2⟩
theorem SameE.ext {a b : MachD} (h : SameE a b) : Ext a b := ⟨⟨[], by simp [h.1]⟩, ⟨[], by simp [h.2]⟩⟩
theorem SameE.setGor (m : MachD) (g : Nat) (x : GorD) : SameE m (m.setGor g x) := ⟨rfl, rfl⟩
theorem SameE.setChan (m : MachD) (g : Nat) (x : ChanD) : SameE m (m.setChan g x) := ⟨rfl, rfl⟩
theorem SameE.unlink (l : List Nat) : ∀ m : MachD, SameE m (m.unlink l) := by
  induction l with
  | nil => intro m; exact SameE.refl m
  | cons y l ih => intro m; exact (show SameE m (m.unlink1 y) from ⟨rfl, rfl⟩).trans (ih (m.unlink1 y))
theorem SameE.wake (m : MachD) (w : Nat) (x : PV) : SameE m (m.wake w x) := (SameE.unlink _ m).trans ⟨rfl, rfl⟩
theorem SameE.send (m : MachD) (c : Nat) (x : PV) : SameE m (m.send c x).1 := by
  unfold MachD.send
  dsimp only
  repeat' split
  all_goals first | exact SameE.refl _ | exact SameE.wake _ _ _ | exact SameE.setChan _ _ _
theorem SameE.sender (m : MachD) (c : Nat) : SameE m (m.sender c).1 := by
  unfold MachD.sender
  split
  · exact SameE.wake _ _ _
  · exact SameE.refl _
theorem SameE.take (m : MachD) (c : Nat) : SameE m (m.take c).1 := by
  unfold MachD.take
  dsimp only
  split
  · split
    · exact SameE.setChan _ _ _
    · exact (SameE.setChan _ _ _).trans ((SameE.sender _ _).trans (SameE.setChan _ _ _))
  · split
    · exact SameE.sender _ _
    · split <;> exact SameE.refl _
theorem SameE.toR (m : MachD) (g : Nat) (r : Int) (x : PV) : SameE m (m.toR g r x).1 := by
  unfold MachD.toR
  split
  · split <;> exact SameE.refl _
  · exact SameE.refl _
  · exact SameE.send _ _ _
theorem SameE.fromR (m : MachD) (g : Nat) (r into : Int) : SameE m (m.fromR g r into).1 := by
  unfold MachD.fromR
  split
  · split <;> exact SameE.refl _
  · exact SameE.refl _
  · dsimp only
    split
    · exact (SameE.take _ _).trans (SameE.setGor _ _ _)
    · exact SameE.take _ _
theorem SameE.doneC (m : MachD) (g : Nat) (c : CaseD) : SameE m (m.doneC g c).1 := by
  unfold MachD.doneC
  split
  · exact SameE.toR _ _ _ _
  · exact SameE.fromR _ _ _ _
theorem SameE.wait1 (m : MachD) (g : Nat) (c : CaseD) : SameE m (m.wait1 g c) := by
  unfold MachD.wait1
  split
  · exact ⟨rfl, rfl⟩
  · exact SameE.refl _
theorem SameE.waitF (g : Nat) (l : List CaseD) : ∀ m : MachD, SameE m (l.foldl (fun m c => m.wait1 g c) m) := by
  induction l with
  | nil => intro m; exact SameE.refl m
  | cons y l ih => intro m; exact (SameE.wait1 m g y).trans (ih _)
theorem SameE.waitAll (m : MachD) (g : Nat) (l : List CaseD) : SameE m (m.waitAll g l) := (SameE.waitF g l m).trans ⟨rfl, rfl⟩
theorem Ext.fin (m : MachD) (o g : Int) : Ext m (m.fin o g) := ⟨⟨[⟨5, g, o, false⟩], rfl⟩, ⟨[], by simp [MachD.fin]⟩⟩
theorem Ext.settle (m : MachD) (g : Nat) (c : CaseD) (o : Int) : Ext m (m.settle g c o) := by
  unfold MachD.settle
  split
  · exact (SameE.setGor _ _ _).ext
  · exact Ext.fin _ _ _
theorem Ext.tryF (g : Nat) (real : List CaseD) : ∀ (k : Nat) (m : MachD) (i : Nat), Ext m (MachD.tryF k m g real i).1 := by
  intro k
  induction k with
  | zero => intro m i; exact Ext.refl m
  | succ k ih =>
    intro m i
    unfold MachD.tryF
    dsimp only
    split
    · exact (SameE.doneC _ _ _).ext.trans (Ext.settle _ _ _ _)
    · exact (SameE.doneC _ _ _).ext.trans (ih _ _)
theorem Ext.choose (m : MachD) (g : Nat) (l : List CaseD) (draw : Int) : Ext m (m.choose g l draw) := by
  unfold MachD.choose
  dsimp only
  split
  · exact Ext.tryF _ _ _ _ _
  · split
    · exact (Ext.tryF _ _ _ _ _).trans (SameE.setGor _ _ _).ext
    · exact (Ext.tryF _ _ _ _ _).trans (SameE.waitAll _ _ _).ext
theorem SameE.shutF (c : Nat) : ∀ (k : Nat) (m : MachD), SameE m (MachD.shutF k m c) := by
  intro k
  induction k with
  | zero => intro m; exact SameE.refl m
  | succ k ih =>
    intro m
    unfold MachD.shutF
    split
    · exact SameE.refl m
    · exact (SameE.wake _ _ _).trans (ih _)
theorem Ext.shut (m : MachD) (g : Nat) (a : Int) : Ext m (m.shut g a) := by
  unfold MachD.shut
  dsimp only
  repeat' split
  all_goals first | exact Ext.fin _ _ _ | exact ((SameE.setChan _ _ _).trans ((SameE.shutF _ _ _).trans (SameE.setGor _ _ _))).ext
theorem Ext.size (m : MachD) (g : Nat) (a b : Int) (f : ChanD → Int) : Ext m (m.size g a b f) := by
  unfold MachD.size
  repeat' split
  all_goals first | exact Ext.fin _ _ _ | exact ((SameE.setGor _ _ _).trans (SameE.setGor _ _ _)).ext
theorem Ext.boxed (m : MachD) (g : Nat) (a : Int) (f : MachD → Nat → MachD) (hf : ∀ m b, SameE m (f m b)) : Ext m (m.boxed g a f) := by
  unfold MachD.boxed
  repeat' split
  all_goals first | exact Ext.fin _ _ _ | exact ((hf _ _).trans (SameE.setGor _ _ _)).ext
theorem Ext.addR (m : MachD) (g : Nat) (a b : Int) : Ext m (m.addR g a b) := by
  unfold MachD.addR
  repeat' split
  all_goals first | exact Ext.fin _ _ _ | exact ((SameE.setGor _ _ _).trans (SameE.setGor _ _ _)).ext
theorem Ext.out (m : MachD) (g : Nat) (a : Int) : Ext m (m.out g a) := by
  unfold MachD.out MachD.incPc MachD.setPc MachD.setGor
  exact ⟨⟨_, rfl⟩, ⟨[], by simp⟩⟩
theorem SameE.after (m : MachD) (g : Nat) (a n : Int) : SameE m (m.after g a n) := ⟨rfl, rfl⟩
theorem Ext.exit (m : MachD) (g : Nat) : Ext m (m.exit g) := by
  have h : Ext m (({ m with events := m.events ++ [⟨2, g, 0, false⟩] } : MachD).leave g) := ⟨⟨_, rfl⟩, ⟨[], by simp [MachD.leave]⟩⟩
  unfold MachD.exit
  dsimp only
  split
  · exact h.trans (Ext.fin _ _ _)
  · exact h
theorem SameE.words (m : MachD) (g : Nat) (x : InstrD) : SameE m (m.words g x) := by
  unfold MachD.words
  dsimp only
  repeat' split
  all_goals exact ⟨rfl, rfl⟩
theorem Ext.ite {m a b : MachD} {c : Prop} [Decidable c] (h1 : Ext m a) (h2 : Ext m b) : Ext m (if c then a else b) := by
  by_cases h : c
  · rw [if_pos h]; exact h1
  · rw [if_neg h]; exact h2
theorem Ext.doI (m : MachD) (g : Nat) (x : InstrD) (draw : Int) : Ext m (m.doI g x draw) :=
  Ext.ite (Ext.choose _ _ _ _) <| Ext.ite (Ext.choose _ _ _ _) <| Ext.ite (Ext.choose _ _ _ _) <| Ext.ite (Ext.shut _ _ _) <| Ext.ite (Ext.size _ _ _ _ _) <| Ext.ite (Ext.size _ _ _ _ _) <|
    Ext.ite (Ext.boxed _ _ _ _ (fun _ _ => ⟨rfl, rfl⟩)) <| Ext.ite (Ext.boxed _ _ _ _ (fun _ _ => ⟨rfl, rfl⟩)) <| Ext.ite (Ext.boxed _ _ _ _ (fun _ _ => ⟨rfl, rfl⟩)) <|
    Ext.ite (Ext.addR _ _ _ _) <| Ext.ite (Ext.out _ _ _) <| Ext.ite (SameE.after _ _ _ _).ext <| Ext.ite (Ext.exit _ _) (SameE.words _ _ _).ext
theorem Ext.pick (l : List InstrD) (m : MachD) (n draw : Int) : Ext m (m.pick l n draw) := by
  unfold MachD.pick
  dsimp only
  split
  · split
    · exact Ext.fin _ _ _
    · exact Ext.refl _
  · exact Ext.trans (b := { m with steps := m.steps ++ [((m.queue.getD ((max n 0).toNat % m.queue.length) 0 : Nat) : Int)] }) ⟨⟨[], by simp⟩, ⟨_, rfl⟩⟩ (Ext.doI _ _ _ _)
theorem SameE.tickF : ∀ (k : Nat) (m : MachD), SameE m (MachD.tickF k m) := by
  intro k
  induction k with
  | zero => intro m; exact SameE.refl m
  | succ k ih =>
    intro m
    unfold MachD.tickF
    split
    · exact SameE.refl m
    · split
      · rename_i t r ht hle
        exact SameE.trans (b := { m with timers := r }) ⟨rfl, rfl⟩ ((SameE.send _ _ _).trans (ih _))
      · exact SameE.refl m
theorem SameE.tick (m : MachD) (n : Int) : SameE m (m.tick n) := by
  unfold MachD.tick
  split
  · exact SameE.refl m
  · exact SameE.trans (b := { m with now := _ }) ⟨rfl, rfl⟩ (SameE.tickF _ _)
theorem Ext.entry (l : List InstrD) (m : MachD) (e : EntD) : Ext m (m.entry l e) := by
  unfold MachD.entry
  repeat' split
  all_goals first | exact Ext.refl _ | exact Ext.pick _ _ _ _ | exact (SameE.tick _ _).ext
theorem entry_stay {l : List InstrD} {m : MachD} (h : m.outcome ≠ 0) (e : EntD) : m.entry l e = m := by unfold MachD.entry; rw [if_pos h]
theorem entries_stay {l : List InstrD} {m : MachD} (h : m.outcome ≠ 0) : ∀ s : List EntD, s.foldl (MachD.entry l) m = m := by
  intro s
  induction s with
  | nil => rfl
  | cons e s ih => rw [List.foldl_cons, entry_stay h, ih]
theorem Ext.entries (l : List InstrD) (s : List EntD) : ∀ m : MachD, Ext m (s.foldl (MachD.entry l) m) := by
  induction s with
  | nil => intro m; exact Ext.refl m
  | cons e s ih => intro m; exact (Ext.entry l m e).trans (ih _)
theorem runR_app (l : List InstrD) (s t : List EntD) : runR l (s ++ t) = t.foldl (MachD.entry l) (runR l s) := by
  unfold runR
  rw [List.foldl_append]
theorem runR_ext (l : List InstrD) (s t : List EntD) : Ext (runR l s) (runR l (s ++ t)) ∧ ((runR l s).outcome = 0 ∨ (runR l (s ++ t)) = runR l s) := by
  rw [runR_app]
  refine ⟨Ext.entries l t _, ?_⟩
  by_cases h : (runR l s).outcome = 0
  · exact .inl h
  · exact .inr (entries_stay h t)
def outsR (l : List EvP) : List Int := (l.filter fun e => e.kind == 1).map EvP.val
theorem outs_app (a b : List EvP) : outsR (a ++ b) = outsR a ++ outsR b := by simp [outsR]
end Go.Proofs.YtklfboidjnchoaaGreatDoor
namespace Go.Proofs.YtklfboidjnchoaaGreatDoor
end Go.Proofs.YtklfboidjnchoaaGreatDoor
namespace Go.Proofs.YtklfboidjnchoaaGreatDoor
open Go.RowKit
set_option linter.unusedVariables false
set_option linter.unusedSimpArgs false
theorem take_step {α : Type} [DecidableEq α] {es fs : List α} {k : Nat} {x y : α} (h : es.take k = fs.take k) (hx : es[k]? = some x) (hy : fs[k]? = some y) (e : x = y) : es.take (k + 1) = fs.take (k + 1) := by
  rw [List.take_add_one, List.take_add_one, h, hx, hy, e]
theorem ne_step {α : Type} [DecidableEq α] {es fs : List α} {k : Nat} {x y : α} (hx : es[k]? = some x) (hy : fs[k]? = some y) (e : x ≠ y) : decide (es = fs) = false := by
  simp only [decide_eq_false_iff_not]
  intro h
  subst h
  rw [hx] at hy
  exact e (Option.some.inj hy)
theorem eq_all {α : Type} [DecidableEq α] {es fs : List α} {k : Nat} (h : es.take k = fs.take k) (hn : es.length ≤ k) (hm : fs.length ≤ k) : decide (es = fs) = true := by
  rw [List.take_of_length_le hn, List.take_of_length_le hm] at h
  simp [h]
theorem ne_len {α : Type} [DecidableEq α] {es fs : List α} (h : es.length ≠ fs.length) : decide (es = fs) = false := by
  simp only [decide_eq_false_iff_not]
  intro e
  exact h (by rw [e])
set_option maxRecDepth 100000 in
set_option maxHeartbeats 400000 in
theorem eqInt_any (x y : Int) (w : World) :
    Calls Tryz.prog 37 #[Value.int .i64 x, Value.int .i64 y] w fun e w' => e = .returned (.bool (decide (x = y))) ∧ Below w.heap.size w w' := by
  go_enter Tryz.func37, Tryz.ntmps37
  go_wp2
  go_ret
  exact ⟨by first | rfl | (congr 2; rw [Bool.eq_iff_iff]; simp), Below.refl _ _⟩
set_option maxRecDepth 100000 in
set_option maxHeartbeats 400000 in
theorem sameInt_any (ao bo : Option Addr) (n m c d : Nat) (es fs : List Int) (w : World) (hae : RowAt w ao (es.map (Value.int .i64))) (hbf : RowAt w bo (fs.map (Value.int .i64))) (hn : es.length = n) (hm : fs.length = m) (_hmax : n ≤ 140737488355328) :
    Calls Tryz.prog 36 #[.slice ao n c, .slice bo m d, .func (.func 37) #[] #[]] w fun e w' => e = .returned (.bool (decide (es = fs))) ∧ Below w.heap.size w w' := by
  have Hn := hidP hn
  have Hm := hidP hm
  clear hn hm
  go_enter Tryz.func36, Tryz.ntmps36
  by_cases hnm : n = m
  · subst hnm
    go_wp2_with fail
    go_loopw [7] (fun i wr => ∃ k : Nat, i = .int .i64 k ∧ k ≤ n ∧ Hid (es.take k = fs.take k) ∧ Below w.heap.size w wr) (fun i _ => n - (intOf i).toNat)
    case atStart => exact ⟨0, rfl, Nat.zero_le _, rfl, Below.refl _ _⟩
    case round =>
      obtain ⟨k, rfl, hk, HE, hb⟩ := hrel
      by_cases hlt : k < n
      · obtain ⟨b, o, rfl, hca⟩ := (hae.below hb).addr (by rw [List.length_map, Hn.out]; omega)
        obtain ⟨b', o', rfl, hcb⟩ := (hbf.below hb).addr (by rw [List.length_map, Hm.out]; omega)
        obtain ⟨x, hx⟩ : ∃ x, es[k]? = some x := ⟨_, List.getElem?_eq_getElem (by rw [Hn.out]; omega)⟩
        obtain ⟨y, hy⟩ : ∃ y, fs[k]? = some y := ⟨_, List.getElem?_eq_getElem (by rw [Hm.out]; omega)⟩
        have x0 : wr.cell? ⟨b, o + k, none⟩ = some (Value.int .i64 x) := hca k _ (by rw [List.getElem?_map, hx]; rfl)
        have y0 : wr.cell? ⟨b', o' + k, none⟩ = some (Value.int .i64 y) := hcb k _ (by rw [List.getElem?_map, hy]; rfl)
        have HX := hidP hx
        have HY := hidP hy
        clear hx hy hca hcb hae hbf
        go_wp2_with fail
        go_still_tail 9, (by kernel_rfl)
        go_wp2_with (go_at_call 37; refine (eqInt_any x y _).mono ?_; rintro e w1 ⟨rfl, hb1⟩)
        · have he : (!decide (x = y)) = true := by assumption
          have hd := ne_step HX.out HY.out (by simpa using he)
          go_ret
          exact ⟨by rw [hd]; rfl, hb.drew.trans (hb1.mono hb.size)⟩
        · have he : (!decide (x = y)) = false := by assumption
          go_roundw
          case rel => exact ⟨k + 1, by go_num, by omega, take_step HE.out HX.out HY.out (by simpa using he), hb.drew.trans (hb1.mono hb.size)⟩
          case measure => simp [intOf]; omega
      · have hd := eq_all HE.out (by rw [Hn.out]; omega) (by rw [Hm.out]; omega)
        go_wp2
        go_ret
        exact ⟨by rw [hd]; rfl, hb⟩
  · have hd : decide (es = fs) = false := ne_len (by rw [Hn.out, Hm.out]; exact hnm)
    have HD := hidP hd
    clear hd
    have : ((n:Int) == (m:Int)) = false := by simp; omega
    go_wp2
    go_ret
    exact ⟨by rw [HD.out]; rfl, Below.refl _ _⟩
set_option maxRecDepth 100000 in
set_option maxHeartbeats 400000 in
theorem plainInt_any (ao bo : Option Addr) (n m c d : Nat) (es fs : List Int) (w : World) (hae : RowAt w ao (es.map (Value.int .i64))) (hbf : RowAt w bo (fs.map (Value.int .i64))) (hn : es.length = n) (hm : fs.length = m) (hmax : n ≤ 140737488355328) :
    Calls Tryz.prog 24 #[.slice ao n c, .slice bo m d] w fun e w' => e = .returned (.bool (decide (es = fs))) ∧ Below w.heap.size w w' := by
  have Hn := hidP hn
  have Hm := hidP hm
  clear hn hm
  go_enter Tryz.func24, Tryz.ntmps24
  go_wp2_with (go_at_call 36; refine (sameInt_any _ _ _ _ _ _ es fs _ hae hbf Hn.out Hm.out hmax).mono ?_; rintro e w1 ⟨rfl, hb1⟩)
  go_ret
  exact ⟨rfl, hb1⟩
end Go.Proofs.YtklfboidjnchoaaGreatDoor
namespace Go.Proofs.YtklfboidjnchoaaGreatDoor
open Go Go.RowKit
set_option linter.unusedVariables false
set_option linter.unusedSimpArgs false
def modN (a : Int) (k : Nat) : Nat := (IntKind.u64.wrap a).toNat % k
theorem modN_spec (a : Int) (k : Nat) (hk : 0 < k) (hk1 : k < 4294967296) : (IntKind.u64.wrap a).tmod (k : Int) = ((modN a k : Nat) : Int) ∧ modN a k < k ∧ wrap64 ((modN a k : Nat) : Int) = ((modN a k : Nat) : Int) := by
  have h : 0 ≤ IntKind.u64.wrap a := by rw [IntKind.wrap_u64]; omega
  obtain ⟨m, hm⟩ := Int.eq_ofNat_of_zero_le h
  have hlt := Nat.mod_lt m hk
  have e : modN a k = m % k := by unfold modN; rw [hm]; rfl
  have hw : wrap64 ((m % k : Nat) : Int) = ((m % k : Nat) : Int) := IntWalk.wrap64_in _ (by omega)
  rw [e]
  refine ⟨?_, by omega, hw⟩
  rw [hm, Int.tmod_eq_emod_of_nonneg (by omega)]
  simp
attribute [irreducible] modN
end Go.Proofs.YtklfboidjnchoaaGreatDoor
