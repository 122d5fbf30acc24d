/-
  Parts of the proof: PAfter, PBoxed.
-/
import Derived.Test.YtklfboidjnchoaaGreatDoorZ13
import Derived.Test.YtklfboidjnchoaaGreatDoorZ14
namespace Go.Proofs.YtklfboidjnchoaaGreatDoor
open Go.RowKit Go.Proofs.YtklfboidjnchoaaGreatDoorW.PrintWords
set_option linter.unusedVariables false
set_option linter.unusedSimpArgs false
set_option maxRecDepth 100000 in
set_option maxHeartbeats 3200000 in
theorem after_any {B : Nat} {P : Value} {σ : Lay} {ow : Owns} {m : MachD} {w : World} (h : Inv B P σ ow m w) (ok : Ok m) (fit : Fit m) {tb g c4 : Nat} {x : InstrD} {A4 : Option Addr} {draw : Int} (ht : IsTurn σ ow w tb g x A4 c4 draw) {gd : GorD} (hg : m.gors[g]? = some gd) (hx : OkI x) :
    Calls Tryz.prog 67 #[.pointer (some ⟨tb, 0, none⟩)] w fun e w' => e = .returned (.tuple #[]) ∧ ResN B P σ ow m (m.after g x.a x.n) w w' := by
  have hbc : Below w.heap.size w (w.alloc (.cells #[.int .i64 1, .bool false, .slice none 0 0, .slice none 0 0, .slice none 0 0] 124)) := bnew (brefl w) _
  have hI0 := h.addC ok (cb := w.heap.size) hbc (Nat.le_refl _) (heap_alloc_new w _)
  have ht0 := ht.below hbc (some (.chan m.chans.length))
  obtain ⟨cb, hcb⟩ : ∃ cb, w.heap.size = cb := ⟨_, rfl⟩
  have HB0 := hidP hbc
  have HX := hidP (⟨h, ok, fit, ht, hg, hx, hcb⟩ : _ ∧ _ ∧ _ ∧ _ ∧ _ ∧ _ ∧ _)
  have HA := hidP (agree_withC m σ cb)
  rw [hcb] at hI0 ht0
  obtain ⟨σ1, hσ1⟩ : ∃ σ1, σ1 = withC σ m.chans.length cb := ⟨_, rfl⟩
  have ht1 : IsTurn σ1 (frm ow cb (some (.chan m.chans.length))) (w.alloc (.cells #[.int .i64 1, .bool false, .slice none 0 0, .slice none 0 0, .slice none 0 0] 124)) tb g x A4 c4 draw := by rw [hσ1]; exact ⟨ht0.cell, ht0.free⟩
  have hcA : σ1.cA m.chans.length = cb := by rw [hσ1]; unfold withC; simp
  rw [← hσ1] at hI0 HA
  obtain ⟨ow0, how0⟩ : ∃ ow0, ow0 = frm ow cb (some (.chan m.chans.length)) := ⟨_, rfl⟩
  rw [← how0] at hI0 ht1
  have HO := hidP (⟨how0, hσ1, hcA⟩ : _ ∧ _ ∧ _)
  go_enter Tryz.func67, Tryz.ntmps67
  go_upto_region 1 with fail
  try rw [hcb]
  generalize w.alloc (.cells #[.int .i64 1, .bool false, .slice none 0 0, .slice none 0 0, .slice none 0 0] 124) = W0 at *
  obtain ⟨m1, hm1⟩ : ∃ m1 : MachD, m1 = { m with chans := m.chans ++ [⟨1, false, [], [], []⟩] } := ⟨_, rfl⟩
  rw [← hm1] at hI0
  obtain ⟨q, tv, ev, sv, G0, G1, G2, G3, hM⟩ := hI0.machC
  obtain ⟨mb, hmb⟩ : ∃ mb, σ1.mb = mb := ⟨_, rfl⟩
  obtain ⟨t0, t1, _, _, _, t5, _⟩ := ht1.cells
  have hcell := hM.cells.1
  rw [hmb] at hcell t0
  have m6 := cell_of_row W0 mb 6 _ _ (0, 0) hcell
  simp at m6
  have wat : IntKind.i64.wrap (m1.now + x.n) = m1.now + x.n := IntWalk.i64_in _ (by rw [hm1]; have := fit.now; have := hx.n; dsimp only; omega)
  have HY := hidP (⟨hI0, ht1, hM, hmb, hm1, hcell⟩ : _ ∧ _ ∧ _ ∧ _ ∧ _ ∧ _)
  clear h ok fit ht hg hx hbc hI0 ht0 ht1 hM hmb hm1 hcell how0 hσ1 hcA hcb
  obtain ⟨pb, hpb⟩ : ∃ pb, W0.heap.size = pb := ⟨_, rfl⟩
  have ltb : tb < W0.heap.size := World.block_lt_of_cell? W0 _ t0
  have lmb : mb < W0.heap.size := World.block_lt_of_cell? W0 _ m6
  have hb1 := bnew (brefl W0) (.cells #[.int .i64 0] 3)
  have s0 := (hb1.cell (p := ⟨tb, 0, none⟩) ltb).trans t0
  have s5 := (hb1.cell (p := ⟨tb, 5, none⟩) ltb).trans t5
  have s6 := (hb1.cell (p := ⟨mb, 6, none⟩) lmb).trans m6
  have HB1 := hidP hb1
  clear hb1
  have hat : IntKind.i64.wrap (m1.now + x.n) = m1.now + x.n := wat
  obtain ⟨at1, hat1⟩ : ∃ at1, m1.now + x.n = at1 := ⟨_, rfl⟩
  rw [hat1] at wat
  have HAT := hidP hat1
  clear hat
  go_region
  all_goals
    try rw [hat1]
    clear hat1
    have hb2 : Below W0.heap.size W0 (W0.alloc (.cells #[.int .i64 at1] 3)).drew := (bnew (brefl W0) _).drew
    have hpb1 : (W0.alloc (.cells #[.int .i64 at1] 3)).drew.heap[W0.heap.size]? = some (.cells #[.int .i64 at1] 3 (0, 0)) := heap_alloc_new W0 _
    rw [hpb] at hpb1
    generalize (W0.alloc (.cells #[.int .i64 at1] 3)).drew = W1 at *
    have p1 := cell_of_row W1 pb 0 _ _ (0, 0) hpb1
    simp at p1
    obtain ⟨hI0, ht1, hM, hmb, hm1, hcell⟩ := HY.out
    have hI1 := hI0.below hb2
    have ht2 := ht1.below hb2
    have hcell1 := (hb2.block mb lmb).trans hcell
    have hrow1 := owns_below hM.timers.1 hb2
    obtain ⟨ta, tcp, htv, _⟩ := mt_slice hM.timers.1
    have htl : m1.timers.length ≤ 1000000 := by
      obtain ⟨h, ok, fit, ht, hg, hx, hcb⟩ := HX.out
      rw [hm1]
      exact Nat.le_trans ok.fewT fit.chans
    obtain ⟨nt, hnt⟩ : ∃ nt, m1.timers.length = nt := ⟨_, rfl⟩
    rw [htv, hnt] at hrow1
    rw [htv] at hcell1
    rw [hnt] at htl
    have a7 := cell_of_row W1 mb 7 _ _ (0, 0) hcell1
    simp [hnt] at a7
    obtain ⟨a0, a1, _, a3, _⟩ := ht2.cells
    rw [hmb] at a0
    have hix := hidP (ixT_any σ1 ta nt tcp pb m1.timers at1 W1 (owns_row hrow1) hnt htl p1)
    have HZ := hidP (⟨hI0, ht1, hM, hmb, hm1, hcell, hI1, ht2, hcell1, hrow1, htv, hnt, hb2, hpb1, htl⟩ : _ ∧ _ ∧ _ ∧ _ ∧ _ ∧ _ ∧ _ ∧ _ ∧ _ ∧ _ ∧ _ ∧ _ ∧ _ ∧ _ ∧ _)
    clear hI0 ht1 hM hmb hm1 hcell hI1 ht2 hcell1 hrow1 htv hnt hb2 hpb1 t0 t1 t5 m6 s0 s5 s6 ltb lmb htl HY
    obtain ⟨k, hkd⟩ : ∃ k, m1.timers.findIdx (fun y => decide (at1 < y.1)) = k := ⟨_, rfl⟩
    have HKD := hidP hkd
    unfold idxT at hix
    rw [hkd] at hix
    clear hkd
    by_cases hk : k < nt
    · rw [if_pos (by obtain ⟨_, _, _, _, _, _, _, _, _, _, _, hnt, _⟩ := HZ.out; rw [hnt]; exact hk)] at hix
      have hkn : k ≤ nt := Nat.le_of_lt hk
      have hneg : ¬ ((k : Int) < 0) := by omega
      clear hk
      go_upto_region 5 with (
        (go_at_call 98; with_reducible refine hix.out.mono ?_; rintro e w2 ⟨rfl, hb3⟩; have b0 := (hb3.cell (p := ⟨tb, 0, none⟩) (World.block_lt_of_cell? W1 _ a0)).trans a0; have b7 := (hb3.cell (p := ⟨mb, 7, none⟩) (World.block_lt_of_cell? W1 _ a7)).trans a7; have bp := (hb3.cell (p := ⟨pb, 0, none⟩) (World.block_lt_of_cell? W1 _ p1)).trans p1; have HB3 := hidP hb3; clear hb3)
        )
      go_upto_region 5 with fail
      have hI2 : Hid (Calls Tryz.prog 100 #[.slice ta nt tcp, .int .i64 k, .slice (some ⟨w2.heap.size, 0, none⟩) 1 1] (w2.alloc (.cells #[.int .i64 at1, .pointer (some ⟨cb, 0, none⟩)] 104)).drew (InsT B (w2.alloc (.cells #[.int .i64 at1, .pointer (some ⟨cb, 0, none⟩)] 104)).drew ta nt tcp ((m1.timers.take k ++ [(at1, m.chans.length)] ++ m1.timers.drop k).flatMap (tmC σ1)))) := by
        obtain ⟨hI0, ht1, hM, hmb, hm1, hcell, hI1, ht2, hcell1, hrow1, htv, hnt, hb2, hpb1, htl⟩ := HZ.out
        have hsz := hb2.size
        have hsz3 := HB3.out.size
        have hbX : Below W1.heap.size W1 (w2.alloc (.cells #[.int .i64 at1, .pointer (some ⟨cb, 0, none⟩)] 104)).drew := (bnew HB3.out _).drew
        have := insT_any B ta nt tcp k w2.heap.size (m1.timers.flatMap (tmC σ1)) (.int .i64 at1) (.pointer (some ⟨cb, 0, none⟩)) (w2.alloc (.cells #[.int .i64 at1, .pointer (some ⟨cb, 0, none⟩)] 104)).drew (owns_below hrow1 hbX) hkn (tmC_one σ1 _) rfl rfl (heap_alloc_new w2 _) (fun e => by have := own_lt hrow1 _ e; omega) htl (by have := hI1.size; have := hbX.size; omega)
        rw [tmC_take, tmC_drop] at this
        have e : (m1.timers.take k ++ [(at1, m.chans.length)] ++ m1.timers.drop k).flatMap (tmC σ1) = (m1.timers.take k).flatMap (tmC σ1) ++ [.int .i64 at1, .pointer (some ⟨cb, 0, none⟩)] ++ (m1.timers.drop k).flatMap (tmC σ1) := by
          rw [List.flatMap_append, List.flatMap_append]
          simp [tmC, HO.out.2.2]
        rw [e]
        exact this
      have hSS : (fun w' : World => w'.cell? ⟨tb, 0, none⟩ = some (.pointer (some ⟨mb, 0, none⟩)) ∧ w'.cell? ⟨mb, 7, none⟩ = some (.slice ta nt tcp) ∧ w'.cell? ⟨pb, 0, none⟩ = some (.int .i64 at1)) w2.drew := ⟨b0, b7, bp⟩
      refine OrdG.begin (fun w' : World => w'.cell? ⟨tb, 0, none⟩ = some (.pointer (some ⟨mb, 0, none⟩)) ∧ w'.cell? ⟨mb, 7, none⟩ = some (.slice ta nt tcp) ∧ w'.cell? ⟨pb, 0, none⟩ = some (.int .i64 at1)) 19 (by kernel_rfl) hSS ?_
      refine OrdG.ty 0 _ rfl (.inl hSS) ?_
      simp only [Act.put, stA, stS, stZ]
      refine OrdG.ty 1 _ rfl (.inl hSS) ?_
      simp only [Act.put, stA, stS, stZ]
      refine OrdG.ty 2 _ rfl (.inl hSS) ?_
      simp only [Act.put, stA, stS, stZ]
      refine OrdG.tk 3 _ rfl (by assumption) ?_
      simp only [Act.put, stA, stS, stZ]
      refine OrdG.ty 4 _ rfl (.inl hSS) ?_
      simp only [Act.put, stA, stS, stZ]
      refine OrdG.ty 5 _ rfl (.inl hSS) ?_
      simp only [Act.put, stA, stS, stZ]
      refine OrdG.ty 6 _ rfl (.inl hSS) ?_
      simp only [Act.put, stA, stS, stZ]
      refine OrdG.tk 7 _ rfl (by assumption) ?_
      simp only [Act.put, stA, stS, stZ]
      refine OrdG.ty 8 _ rfl (.inl hSS) ?_
      simp only [Act.put, stA, stS, stZ]
      refine OrdG.ty 9 _ rfl (.inl hSS) ?_
      simp only [Act.put, stA, stS, stZ]
      refine OrdG.tk 10 _ rfl (by assumption) ?_
      simp only [Act.put, stA, stS, stZ]
      refine OrdG.ty 11 _ rfl (.inl hSS) ?_
      simp only [Act.put, stA, stS, stZ]
      refine OrdG.tk 12 _ rfl (by assumption) ?_
      simp only [Act.put, stA, stS, stZ]
      refine OrdG.ty 13 _ rfl (.inl hSS) ?_
      simp only [Act.put, stA, stS, stZ]
      refine OrdG.ty 14 _ rfl (.inl hSS) ?_
      simp only [Act.put, stA, stS, stZ]
      refine OrdG.one (i := 15) (by kernel_rfl) rfl (fun K hK => ?_)
      go_simp
      refine hK.out _ _ (.inl (by go_keep)) ?_
      clear hK
      refine OrdG.one (i := 16) (by kernel_rfl) rfl (fun K hK => ?_)
      go_simp
      with_reducible refine hI2.out.mono ?_
      rintro e w3 hins
      unfold InsT at hins
      obtain ⟨a2, c2, rfl, ho3, hk3, hw3⟩ := hins
      have hbX : Hid (Below W1.heap.size W1 (w2.alloc (.cells #[.int .i64 at1, .pointer (some ⟨cb, 0, none⟩)] 104)).drew) := (bnew HB3.out _).drew
      have hob : ∀ b, (Value.slice ta nt tcp).ownBlock = some b → b ≠ tb ∧ b ≠ mb ∧ b ≠ pb := by
        obtain ⟨hI0, ht1, hM, hmb, hm1, hcell, hI1, ht2, hcell1, hrow1, htv, hnt, hb2, hpb1, htl⟩ := HZ.out
        intro b hb
        rw [← hnt, ← htv] at hb
        have ho := hM.timers.2 b hb
        refine ⟨fun e => ?_, fun e => ?_, fun e => ?_⟩
        · rw [e, ht1.free] at ho; cases ho
        · exact hM.apart.1.2.1 (by rw [hb, hmb, e])
        · have := own_lt hM.timers.1 b hb; omega
      have hcX : (w2.alloc (.cells #[.int .i64 at1, .pointer (some ⟨cb, 0, none⟩)] 104)).drew.heap[mb]? = some (.cells #[P, q, encV σ1 G0, encV σ1 G1, encV σ1 G2, encV σ1 G3, .int .i64 m1.now, .slice ta nt tcp, .int .i64 m1.gors.length, ev, .int .i64 m1.outcome, sv] 66 (0, 0)) := by
        obtain ⟨hI0, ht1, hM, hmb, hm1, hcell, hI1, ht2, hcell1, hrow1, htv, hnt, hb2, hpb1, htl⟩ := HZ.out
        rw [← hnt]
        exact (hbX.out.block mb (blk_lt hcell1)).trans hcell1
      have hc3 := (hk3.block mb (blk_lt hcX) (fun e => (hob mb e).2.1 rfl)).trans hcX
      have d7 := cell_of_row w3 mb 7 _ _ (0, 0) hc3
      simp at d7
      have f7 := frozen_of_row w3 mb 7 _ _ hc3
      have d0 : w3.cell? ⟨tb, 0, none⟩ = some (.pointer (some ⟨mb, 0, none⟩)) := Keep.cell (p := ⟨tb, 0, none⟩) hk3 (fun e => (hob tb e).1 rfl) (by first | exact (((bnew (brefl w2) _).drew).cell (p := ⟨tb, 0, none⟩) (World.block_lt_of_cell? w2 _ b0)).trans b0)
      have dp : w3.cell? ⟨pb, 0, none⟩ = some (.int .i64 at1) := Keep.cell (p := ⟨pb, 0, none⟩) hk3 (fun e => (hob pb e).2.2 rfl) (by first | exact (((bnew (brefl w2) _).drew).cell (p := ⟨pb, 0, none⟩) (World.block_lt_of_cell? w2 _ bp)).trans bp)
      have HK3 := hidP hk3
      have HO3 := hidP ho3
      have HW3 := hidP hw3
      have HCX := hidP hcX
      clear hk3 ho3 hw3 hcX hob hc3
      dsimp only
      refine hK.out _ _ (.inl ⟨d0, d7, dp⟩) ?_
      clear hK
      refine OrdG.ty 17 _ rfl (.inl ⟨d0, d7, dp⟩) ?_
      simp only [Act.put, stA, stS, stZ]
      refine OrdG.ty 18 _ rfl (.inl ⟨d0, d7, dp⟩) ?_
      simp only [Act.put, stA, stS, stZ]
      refine OrdG.one (i := 19) (by kernel_rfl) rfl (fun K hK => ?_)
      go_simp
      refine hK.out _ _ (.inr (by kernel_rfl)) ?_
      clear hK
      refine OrdG.done (by kernel_rfl) ?_ _
      clear hSS
      have HR : Hid (Res B P σ1 ow0 { m1 with timers := m1.timers.take k ++ [(at1, m.chans.length)] ++ m1.timers.drop k } W0 (w3.setCell ⟨mb, 7, none⟩ (.slice a2 (nt + 1) c2))) := by
        obtain ⟨hI0, ht1, hM, hmb, hm1, hcell, hI1, ht2, hcell1, hrow1, htv, hnt, hb2, hpb1, htl⟩ := HZ.out
        have hI3 := hI1.below hbX.out
        obtain ⟨q', tv', ev', sv', H0, H1, H2, H3, hM3⟩ := hI3.machC
        have hcX' := HCX.out
        rw [← hmb] at hcX'
        obtain ⟨_, e2, _, _⟩ := hM3.names hcX'
        have hlen : (m1.timers.take k ++ [(at1, m.chans.length)] ++ m1.timers.drop k).length = nt + 1 := by simp; omega
        have r := hI3.timersPut hM3 (l' := m1.timers.take k ++ [(at1, m.chans.length)] ++ m1.timers.drop k) (q' := .slice a2 (nt + 1) c2) (by rw [e2]; exact HK3.out) (by rw [hlen]; exact HO3.out) (fun b hb => by
          rcases HW3.out with h | ⟨j, h1, h2⟩
          · exact .inl (by rw [e2, ← h]; exact hb)
          · rw [h1] at hb; cases hb; exact .inr h2)
        rw [hmb] at r
        exact Res.of_below hb2 none (Res.of_below hbX.out none r)
      clear d0 d7 dp f7 b0 b7 bp a0 a1 a3 a7 p1
      generalize w3.setCell ⟨mb, 7, none⟩ (.slice a2 (nt + 1) c2) = W5 at *
      obtain ⟨ow5, hI5, hK5, hM5⟩ := HR.out
      obtain ⟨hI0, ht1, hM, hmb, hm1, hcell, hI1, ht2, hcell1, hrow1, htv, hnt, hb2, hpb1, htl⟩ := HZ.out
      obtain ⟨h, ok, fit, ht, hg, hx, hcb⟩ := HX.out
      obtain ⟨_, y1, _, y3, _⟩ := (ht1.keep hK5 hM5).cells
      have hg5 : ({ m1 with timers := m1.timers.take k ++ [(at1, m.chans.length)] ++ m1.timers.drop k } : MachD).gors[g]? = some gd := by rw [hm1]; exact hg
      obtain ⟨v5, _, _, h65, _, u1, ur, _, uf⟩ := hI5.gorAt hg5
      obtain ⟨ka, hka, hka6⟩ := reg_nat hx.a.1 hx.a.2
      obtain ⟨ya, hya⟩ := some_lt (l := gd.regs) (i := ka) (by rw [h65]; exact hka6)
      have gka := ur ka _ hya
      have ea0 : (0 : Int) ≤ (ka : Int) := by omega
      have ea6 : (ka : Int) < 6 := by omega
      have opc := (ok.gor g gd hg).pc
      have wpc : IntKind.i64.wrap (gd.pc + 1) = gd.pc + 1 := IntWalk.i64_in _ (by omega)
      have HP : Hid (Res B P σ1 ow5 (((({ m1 with timers := m1.timers.take k ++ [(at1, m.chans.length)] ++ m1.timers.drop k } : MachD).setReg g x.a (.ch m.chans.length)).incPc g)) W5 ((W5.setCell ⟨σ1.gA g, 2 + ka, none⟩ (.iface 102 (.pointer (some ⟨cb, 0, none⟩)))).setCell ⟨σ1.gA g, 1, none⟩ (.int .i64 (gd.pc + 1)))) := by
        have := hI5.regInc hg5 hx.a.1 hx.a.2 (.ch m.chans.length)
        have ec : encV σ1 (.ch m.chans.length) = .iface 102 (.pointer (some ⟨cb, 0, none⟩)) := by rw [← HO.out.2.2]; rfl
        rw [ec, hka] at this
        rw [hka]
        exact this
      have he : Hid (m.after g x.a x.n = (({ m1 with timers := m1.timers.take k ++ [(at1, m.chans.length)] ++ m1.timers.drop k } : MachD).setReg g x.a (.ch m.chans.length)).incPc g) := by
        show _ = _
        have h1 := HKD.out
        have h2 := HAT.out
        subst hm1
        rw [← h1, ← h2]
        rfl
      have hKM := hidP (⟨hK5, hM5⟩ : _ ∧ _)
      rw [hka] at y3
      have f2 := uf (2 + ka)
      have f1 := uf 1
      obtain ⟨VT, VU, hV⟩ := encV_iface σ1 ya
      rw [hV] at gka
      obtain ⟨gb, hgb⟩ : ∃ gb, σ1.gA g = gb := ⟨_, rfl⟩
      rw [hgb] at y1 gka u1 f1 f2 HP
      clear hI5 hK5 hM5 hI0 ht1 hM hmb hm1 hcell hI1 ht2 hcell1 hrow1 htv hnt hb2 hpb1 htl h ok fit ht hg hx hcb hg5 h65 ur uf hka hya opc hV hgb
      go_upto_region 6 with fail
      go_still_tail 14, (by kernel_rfl)
      go_wp2
      first | go_end0 | ((try simp only [Exit.inBlock, Exit.then]); refine bodyPost_ret (results_none rfl _ _ _) rfl ?_)
      refine ⟨rfl, ?_⟩
      rw [he.out]
      obtain ⟨hK5, hM5⟩ := hKM.out
      have hfin := Res.trans hK5 hM5 HP.out
      rw [HO.out.1] at hfin
      obtain ⟨h, ok, fit, ht, hg, hx, hcb⟩ := HX.out
      subst hcb
      obtain ⟨ow9, q1, q2, q3⟩ := Res.of_below HB0.out _ hfin
      exact ⟨σ1, ow9, by first | exact q1 | exact q1.drew, HA.out, by first | exact q2 | exact q2.drew, q3⟩
    · rw [if_neg (by obtain ⟨_, _, _, _, _, _, _, _, _, _, _, hnt, _⟩ := HZ.out; rw [hnt]; exact hk)] at hix
      obtain rfl : k = nt := by
        obtain ⟨hI0, ht1, hM, hmb, hm1, hcell, hI1, ht2, hcell1, hrow1, htv, hnt, hb2, hpb1, htl⟩ := HZ.out
        have := List.findIdx_le_length (xs := m1.timers) (p := fun y => decide (at1 < y.1))
        rw [HKD.out, hnt] at this
        omega
      have hkn : k ≤ k := Nat.le_refl _
      clear hk
      go_upto_region 5 with (
        (go_at_call 98; with_reducible refine hix.out.mono ?_; rintro e w2 ⟨rfl, hb3⟩; have b0 := (hb3.cell (p := ⟨tb, 0, none⟩) (World.block_lt_of_cell? W1 _ a0)).trans a0; have b7 := (hb3.cell (p := ⟨mb, 7, none⟩) (World.block_lt_of_cell? W1 _ a7)).trans a7; have bp := (hb3.cell (p := ⟨pb, 0, none⟩) (World.block_lt_of_cell? W1 _ p1)).trans p1; have HB3 := hidP hb3; clear hb3)
        )
      go_upto_region 5 with fail
      have hI2 : Hid (Calls Tryz.prog 100 #[.slice ta k tcp, .int .i64 k, .slice (some ⟨w2.heap.size, 0, none⟩) 1 1] (w2.alloc (.cells #[.int .i64 at1, .pointer (some ⟨cb, 0, none⟩)] 104)).drew (InsT B (w2.alloc (.cells #[.int .i64 at1, .pointer (some ⟨cb, 0, none⟩)] 104)).drew ta k tcp ((m1.timers.take k ++ [(at1, m.chans.length)] ++ m1.timers.drop k).flatMap (tmC σ1)))) := by
        obtain ⟨hI0, ht1, hM, hmb, hm1, hcell, hI1, ht2, hcell1, hrow1, htv, hnt, hb2, hpb1, htl⟩ := HZ.out
        have hsz := hb2.size
        have hsz3 := HB3.out.size
        have hbX : Below W1.heap.size W1 (w2.alloc (.cells #[.int .i64 at1, .pointer (some ⟨cb, 0, none⟩)] 104)).drew := (bnew HB3.out _).drew
        have := insT_any B ta k tcp k w2.heap.size (m1.timers.flatMap (tmC σ1)) (.int .i64 at1) (.pointer (some ⟨cb, 0, none⟩)) (w2.alloc (.cells #[.int .i64 at1, .pointer (some ⟨cb, 0, none⟩)] 104)).drew (owns_below hrow1 hbX) hkn (tmC_one σ1 _) rfl rfl (heap_alloc_new w2 _) (fun e => by have := own_lt hrow1 _ e; omega) htl (by have := hI1.size; have := hbX.size; omega)
        rw [tmC_take, tmC_drop] at this
        have e : (m1.timers.take k ++ [(at1, m.chans.length)] ++ m1.timers.drop k).flatMap (tmC σ1) = (m1.timers.take k).flatMap (tmC σ1) ++ [.int .i64 at1, .pointer (some ⟨cb, 0, none⟩)] ++ (m1.timers.drop k).flatMap (tmC σ1) := by
          rw [List.flatMap_append, List.flatMap_append]
          simp [tmC, HO.out.2.2]
        rw [e]
        exact this
      have hSS : (fun w' : World => w'.cell? ⟨tb, 0, none⟩ = some (.pointer (some ⟨mb, 0, none⟩)) ∧ w'.cell? ⟨mb, 7, none⟩ = some (.slice ta k tcp) ∧ w'.cell? ⟨pb, 0, none⟩ = some (.int .i64 at1)) w2.drew := ⟨b0, b7, bp⟩
      refine OrdG.begin (fun w' : World => w'.cell? ⟨tb, 0, none⟩ = some (.pointer (some ⟨mb, 0, none⟩)) ∧ w'.cell? ⟨mb, 7, none⟩ = some (.slice ta k tcp) ∧ w'.cell? ⟨pb, 0, none⟩ = some (.int .i64 at1)) 19 (by kernel_rfl) hSS ?_
      refine OrdG.ty 0 _ rfl (.inl hSS) ?_
      simp only [Act.put, stA, stS, stZ]
      refine OrdG.ty 1 _ rfl (.inl hSS) ?_
      simp only [Act.put, stA, stS, stZ]
      refine OrdG.ty 2 _ rfl (.inl hSS) ?_
      simp only [Act.put, stA, stS, stZ]
      refine OrdG.tk 3 _ rfl (by assumption) ?_
      simp only [Act.put, stA, stS, stZ]
      refine OrdG.ty 4 _ rfl (.inl hSS) ?_
      simp only [Act.put, stA, stS, stZ]
      refine OrdG.ty 5 _ rfl (.inl hSS) ?_
      simp only [Act.put, stA, stS, stZ]
      refine OrdG.ty 6 _ rfl (.inl hSS) ?_
      simp only [Act.put, stA, stS, stZ]
      refine OrdG.tk 7 _ rfl (by assumption) ?_
      simp only [Act.put, stA, stS, stZ]
      refine OrdG.ty 8 _ rfl (.inl hSS) ?_
      simp only [Act.put, stA, stS, stZ]
      refine OrdG.ty 9 _ rfl (.inl hSS) ?_
      simp only [Act.put, stA, stS, stZ]
      refine OrdG.tk 10 _ rfl (by assumption) ?_
      simp only [Act.put, stA, stS, stZ]
      refine OrdG.ty 11 _ rfl (.inl hSS) ?_
      simp only [Act.put, stA, stS, stZ]
      refine OrdG.tk 12 _ rfl (by assumption) ?_
      simp only [Act.put, stA, stS, stZ]
      refine OrdG.ty 13 _ rfl (.inl hSS) ?_
      simp only [Act.put, stA, stS, stZ]
      refine OrdG.ty 14 _ rfl (.inl hSS) ?_
      simp only [Act.put, stA, stS, stZ]
      refine OrdG.one (i := 15) (by kernel_rfl) rfl (fun K hK => ?_)
      go_simp
      refine hK.out _ _ (.inl (by go_keep)) ?_
      clear hK
      refine OrdG.one (i := 16) (by kernel_rfl) rfl (fun K hK => ?_)
      go_simp
      with_reducible refine hI2.out.mono ?_
      rintro e w3 hins
      unfold InsT at hins
      obtain ⟨a2, c2, rfl, ho3, hk3, hw3⟩ := hins
      have hbX : Hid (Below W1.heap.size W1 (w2.alloc (.cells #[.int .i64 at1, .pointer (some ⟨cb, 0, none⟩)] 104)).drew) := (bnew HB3.out _).drew
      have hob : ∀ b, (Value.slice ta k tcp).ownBlock = some b → b ≠ tb ∧ b ≠ mb ∧ b ≠ pb := by
        obtain ⟨hI0, ht1, hM, hmb, hm1, hcell, hI1, ht2, hcell1, hrow1, htv, hnt, hb2, hpb1, htl⟩ := HZ.out
        intro b hb
        rw [← hnt, ← htv] at hb
        have ho := hM.timers.2 b hb
        refine ⟨fun e => ?_, fun e => ?_, fun e => ?_⟩
        · rw [e, ht1.free] at ho; cases ho
        · exact hM.apart.1.2.1 (by rw [hb, hmb, e])
        · have := own_lt hM.timers.1 b hb; omega
      have hcX : (w2.alloc (.cells #[.int .i64 at1, .pointer (some ⟨cb, 0, none⟩)] 104)).drew.heap[mb]? = some (.cells #[P, q, encV σ1 G0, encV σ1 G1, encV σ1 G2, encV σ1 G3, .int .i64 m1.now, .slice ta k tcp, .int .i64 m1.gors.length, ev, .int .i64 m1.outcome, sv] 66 (0, 0)) := by
        obtain ⟨hI0, ht1, hM, hmb, hm1, hcell, hI1, ht2, hcell1, hrow1, htv, hnt, hb2, hpb1, htl⟩ := HZ.out
        rw [← hnt]
        exact (hbX.out.block mb (blk_lt hcell1)).trans hcell1
      have hc3 := (hk3.block mb (blk_lt hcX) (fun e => (hob mb e).2.1 rfl)).trans hcX
      have d7 := cell_of_row w3 mb 7 _ _ (0, 0) hc3
      simp at d7
      have f7 := frozen_of_row w3 mb 7 _ _ hc3
      have d0 : w3.cell? ⟨tb, 0, none⟩ = some (.pointer (some ⟨mb, 0, none⟩)) := Keep.cell (p := ⟨tb, 0, none⟩) hk3 (fun e => (hob tb e).1 rfl) (by first | exact (((bnew (brefl w2) _).drew).cell (p := ⟨tb, 0, none⟩) (World.block_lt_of_cell? w2 _ b0)).trans b0)
      have dp : w3.cell? ⟨pb, 0, none⟩ = some (.int .i64 at1) := Keep.cell (p := ⟨pb, 0, none⟩) hk3 (fun e => (hob pb e).2.2 rfl) (by first | exact (((bnew (brefl w2) _).drew).cell (p := ⟨pb, 0, none⟩) (World.block_lt_of_cell? w2 _ bp)).trans bp)
      have HK3 := hidP hk3
      have HO3 := hidP ho3
      have HW3 := hidP hw3
      have HCX := hidP hcX
      clear hk3 ho3 hw3 hcX hob hc3
      dsimp only
      refine hK.out _ _ (.inl ⟨d0, d7, dp⟩) ?_
      clear hK
      refine OrdG.ty 17 _ rfl (.inl ⟨d0, d7, dp⟩) ?_
      simp only [Act.put, stA, stS, stZ]
      refine OrdG.ty 18 _ rfl (.inl ⟨d0, d7, dp⟩) ?_
      simp only [Act.put, stA, stS, stZ]
      refine OrdG.one (i := 19) (by kernel_rfl) rfl (fun K hK => ?_)
      go_simp
      refine hK.out _ _ (.inr (by kernel_rfl)) ?_
      clear hK
      refine OrdG.done (by kernel_rfl) ?_ _
      clear hSS
      have HR : Hid (Res B P σ1 ow0 { m1 with timers := m1.timers.take k ++ [(at1, m.chans.length)] ++ m1.timers.drop k } W0 (w3.setCell ⟨mb, 7, none⟩ (.slice a2 (k + 1) c2))) := by
        obtain ⟨hI0, ht1, hM, hmb, hm1, hcell, hI1, ht2, hcell1, hrow1, htv, hnt, hb2, hpb1, htl⟩ := HZ.out
        have hI3 := hI1.below hbX.out
        obtain ⟨q', tv', ev', sv', H0, H1, H2, H3, hM3⟩ := hI3.machC
        have hcX' := HCX.out
        rw [← hmb] at hcX'
        obtain ⟨_, e2, _, _⟩ := hM3.names hcX'
        have hlen : (m1.timers.take k ++ [(at1, m.chans.length)] ++ m1.timers.drop k).length = k + 1 := by simp; omega
        have r := hI3.timersPut hM3 (l' := m1.timers.take k ++ [(at1, m.chans.length)] ++ m1.timers.drop k) (q' := .slice a2 (k + 1) c2) (by rw [e2]; exact HK3.out) (by rw [hlen]; exact HO3.out) (fun b hb => by
          rcases HW3.out with h | ⟨j, h1, h2⟩
          · exact .inl (by rw [e2, ← h]; exact hb)
          · rw [h1] at hb; cases hb; exact .inr h2)
        rw [hmb] at r
        exact Res.of_below hb2 none (Res.of_below hbX.out none r)
      clear d0 d7 dp f7 b0 b7 bp a0 a1 a3 a7 p1
      generalize w3.setCell ⟨mb, 7, none⟩ (.slice a2 (k + 1) c2) = W5 at *
      obtain ⟨ow5, hI5, hK5, hM5⟩ := HR.out
      obtain ⟨hI0, ht1, hM, hmb, hm1, hcell, hI1, ht2, hcell1, hrow1, htv, hnt, hb2, hpb1, htl⟩ := HZ.out
      obtain ⟨h, ok, fit, ht, hg, hx, hcb⟩ := HX.out
      obtain ⟨_, y1, _, y3, _⟩ := (ht1.keep hK5 hM5).cells
      have hg5 : ({ m1 with timers := m1.timers.take k ++ [(at1, m.chans.length)] ++ m1.timers.drop k } : MachD).gors[g]? = some gd := by rw [hm1]; exact hg
      obtain ⟨v5, _, _, h65, _, u1, ur, _, uf⟩ := hI5.gorAt hg5
      obtain ⟨ka, hka, hka6⟩ := reg_nat hx.a.1 hx.a.2
      obtain ⟨ya, hya⟩ := some_lt (l := gd.regs) (i := ka) (by rw [h65]; exact hka6)
      have gka := ur ka _ hya
      have ea0 : (0 : Int) ≤ (ka : Int) := by omega
      have ea6 : (ka : Int) < 6 := by omega
      have opc := (ok.gor g gd hg).pc
      have wpc : IntKind.i64.wrap (gd.pc + 1) = gd.pc + 1 := IntWalk.i64_in _ (by omega)
      have HP : Hid (Res B P σ1 ow5 (((({ m1 with timers := m1.timers.take k ++ [(at1, m.chans.length)] ++ m1.timers.drop k } : MachD).setReg g x.a (.ch m.chans.length)).incPc g)) W5 ((W5.setCell ⟨σ1.gA g, 2 + ka, none⟩ (.iface 102 (.pointer (some ⟨cb, 0, none⟩)))).setCell ⟨σ1.gA g, 1, none⟩ (.int .i64 (gd.pc + 1)))) := by
        have := hI5.regInc hg5 hx.a.1 hx.a.2 (.ch m.chans.length)
        have ec : encV σ1 (.ch m.chans.length) = .iface 102 (.pointer (some ⟨cb, 0, none⟩)) := by rw [← HO.out.2.2]; rfl
        rw [ec, hka] at this
        rw [hka]
        exact this
      have he : Hid (m.after g x.a x.n = (({ m1 with timers := m1.timers.take k ++ [(at1, m.chans.length)] ++ m1.timers.drop k } : MachD).setReg g x.a (.ch m.chans.length)).incPc g) := by
        show _ = _
        have h1 := HKD.out
        have h2 := HAT.out
        subst hm1
        rw [← h1, ← h2]
        rfl
      have hKM := hidP (⟨hK5, hM5⟩ : _ ∧ _)
      rw [hka] at y3
      have f2 := uf (2 + ka)
      have f1 := uf 1
      obtain ⟨VT, VU, hV⟩ := encV_iface σ1 ya
      rw [hV] at gka
      obtain ⟨gb, hgb⟩ : ∃ gb, σ1.gA g = gb := ⟨_, rfl⟩
      rw [hgb] at y1 gka u1 f1 f2 HP
      clear hI5 hK5 hM5 hI0 ht1 hM hmb hm1 hcell hI1 ht2 hcell1 hrow1 htv hnt hb2 hpb1 htl h ok fit ht hg hx hcb hg5 h65 ur uf hka hya opc hV hgb
      go_upto_region 6 with fail
      go_still_tail 14, (by kernel_rfl)
      go_wp2
      first | go_end0 | ((try simp only [Exit.inBlock, Exit.then]); refine bodyPost_ret (results_none rfl _ _ _) rfl ?_)
      refine ⟨rfl, ?_⟩
      rw [he.out]
      obtain ⟨hK5, hM5⟩ := hKM.out
      have hfin := Res.trans hK5 hM5 HP.out
      rw [HO.out.1] at hfin
      obtain ⟨h, ok, fit, ht, hg, hx, hcb⟩ := HX.out
      subst hcb
      obtain ⟨ow9, q1, q2, q3⟩ := Res.of_below HB0.out _ hfin
      exact ⟨σ1, ow9, by first | exact q1 | exact q1.drew, HA.out, by first | exact q2 | exact q2.drew, q3⟩
theorem Inv.boxAt {B : Nat} {P : Value} {σ : Lay} {ow : Owns} {m : MachD} {w : World} (h : Inv B P σ ow m w) {b : Nat} {y : PV} (hb : m.boxes[b]? = some y) : w.heap[σ.bA b]? = some (.cells #[encV σ y] 129 (0, 0)) ∧ ow (σ.bA b) = some (.box b) := h.box b y hb
theorem Inv.boxPut {B : Nat} {P : Value} {σ : Lay} {ow : Owns} {m : MachD} {w : World} (h : Inv B P σ ow m w) {b : Nat} {y : PV} (hb : m.boxes[b]? = some y) (z : PV) : Res B P σ ow { m with boxes := m.boxes.set b z } w (w.setCell ⟨σ.bA b, 0, none⟩ (encV σ z)) := by
  obtain ⟨h1, h2⟩ := h.boxAt hb
  have hk : Keep (fun c => ow c = some (.box b)) w (w.setCell ⟨σ.bA b, 0, none⟩ (encV σ z)) := (Keep.refl _ w).setCell (p := ⟨σ.bA b, 0, none⟩) h2 _
  refine ⟨_, h.setBox (.of hk) h.frm_base (i := b) (y := z) ⟨heap_setCell_same w _ 0 _ _ _ h1, (frm_lt (blk_lt h1)).trans h2⟩, hk.mono (fun c _ e => by rw [e]; simp), .frm _⟩
set_option maxRecDepth 100000 in
set_option maxHeartbeats 1600000 in
theorem boxedL_any {B : Nat} {P : Value} {σ : Lay} {ow : Owns} {m : MachD} {w : World} (h : Inv B P σ ow m w) (ok : Ok m) (fit : Fit m) {tb g c4 : Nat} {x : InstrD} {A4 : Option Addr} {draw : Int} (ht : IsTurn σ ow w tb g x A4 c4 draw) {gd : GorD}{pb : Nat} (hg : m.gors[g]? = some gd) (ha0 : 0 ≤ x.a) (ha6 : x.a < 6)
    (f : MachD → Nat → MachD) (hf : ∀ b y, m.boxes[b]? = some y → ∀ W, Keep (fun _ => False) w W → Calls Tryz.prog 62 #[.pointer (some ⟨σ.bA b, 0, none⟩), .pointer (some ⟨pb, 0, none⟩)] W fun e w' => e = .returned (.tuple #[]) ∧ Res B P σ ow (f m b) W w' ∧ ∃ gd2, (f m b).gors[g]? = some gd2 ∧ gd2.pc = gd.pc) :
    Calls Tryz.prog 61 #[.pointer (some ⟨tb, 0, none⟩), .func (.func 62) #[] #[.pointer (some ⟨pb, 0, none⟩)]] w fun e w' => e = .returned (.tuple #[]) ∧ Res B P σ ow (m.boxed g x.a f) w w' := by
  obtain ⟨t0, t1, t2, t3, t4, t5, t6, t7⟩ := ht.cells
  obtain ⟨v, _, _, h6, g0, g1, gr, _, gf⟩ := h.gorAt hg
  obtain ⟨ra1, ra2⟩ := ok.reg hg ha0 ha6
  have opc := (ok.gor g gd hg).pc
  obtain ⟨ka, hka, hka6⟩ := reg_nat ha0 ha6
  have hs : m.boxed g x.a f = m.boxed g x.a f := rfl
  conv at hs => rhs; unfold MachD.boxed
  have HF := hidP (fun oc => fail_same h fit ht hg oc)
  rw [hka] at ra1 t3
  have gka := gr ka _ ra1
  rw [← hka] at gka
  have ea0 : (0 : Int) ≤ (ka : Int) := by omega
  have ea6 : (ka : Int) < 6 := by omega
  have wpc : IntKind.i64.wrap (gd.pc + 1) = gd.pc + 1 := IntWalk.i64_in _ (by omega)
  obtain ⟨gb, hgb⟩ : ∃ gb, σ.gA g = gb := ⟨_, rfl⟩
  rw [hgb] at t1 gka g1
  have nA := as_bx σ (m.reg g x.a)
  obtain ⟨VA, hVA⟩ : ∃ V, encV σ (m.reg g x.a) = V := ⟨_, rfl⟩
  rw [hVA] at nA gka
  by_cases hbx : ∃ b, m.reg g x.a = .bx b
  · obtain ⟨b, hb⟩ := hbx
    rw [hb] at nA hs ra2
    dsimp only at hs
    obtain ⟨y, hy⟩ := some_lt (l := m.boxes) (i := b) ra2
    have HC := hidP (hf b y hy)
    have HS := hidP hs
    have HT := hidP (⟨ht, hgb⟩ : _ ∧ _)
    obtain ⟨bb, hbb⟩ : ∃ bb, σ.bA b = bb := ⟨_, rfl⟩
    simp only [bxOf, isBx, hbb] at nA
    rw [hbb] at HC
    clear h ok fit ht hg gr gf ra1 ra2 hs hb hy hVA t0 t2 t4 t5 t6 t7 opc h6 hka ha0 ha6 hgb g0 hf hbb
    go_enter Tryz.func61, Tryz.ntmps61
    go_upto_region 0 with fail
    go_quiet (fail)
    go_upto_region 3 with fail
    refine wp_undrewN (w := w) ?_
    intro W hh hk0
    have HCW := hidP (HC.out W hk0)
    have HK0 := hidP hk0
    clear t1 t3 gka g1 nA HC hh hk0
    go_wp2_with (go_at_call 62; with_reducible refine HCW.out.mono ?_; rintro e w1 ⟨rfl, hr, gd2, hg2, hpc2⟩; obtain ⟨ht, hgb⟩ := HT.out; have hst := hr.stay (ht.same HK0.out).cell ht.free; have s1 : w1.cell? ⟨tb, 1, none⟩ = some (.pointer (some ⟨gb, 0, none⟩)) := (by rw [← hgb]; exact (⟨hst, ht.free⟩ : IsTurn σ ow w1 tb g x A4 c4 draw).cells.2.1); unfold Res at hr; obtain ⟨ow1, q1, q2, q3⟩ := hr; obtain ⟨v2, _, _, _, _, y1, _, _, yf⟩ := q1.gorAt hg2; have yf1 := yf 1; rw [hgb] at y1 yf1; rw [hpc2] at y1; have HG2 := hidP (⟨hg2, hpc2, hgb, q1, q2, q3⟩ : _ ∧ _ ∧ _ ∧ _ ∧ _ ∧ _); clear hst hg2 hpc2 q1 q2 q3 yf ht hgb)
    first | go_end0 | ((try simp only [Exit.inBlock, Exit.then]); refine bodyPost_ret (results_none rfl _ _ _) rfl ?_)
    refine ⟨rfl, ?_⟩
    obtain ⟨hg2, hpc2, hgb, q1, q2, q3⟩ := HG2.out
    rw [HS.out]
    have := q1.incPc hg2
    rw [hpc2, hgb] at this
    exact Res.same HK0.out (Res.trans q2 q3 this)
  · have hno : m.boxed g x.a f = m.fin 6 g := by
      rw [hs]
      cases hv : m.reg g x.a with
      | num n => rfl
      | ch n => rfl
      | bx b => exact absurd ⟨b, hv⟩ hbx
    have hib : isBx (m.reg g x.a) = false := by
      cases hv : m.reg g x.a with
      | num n => rfl
      | ch n => rfl
      | bx b => exact absurd ⟨b, hv⟩ hbx
    rw [hib] at nA
    have HS := hidP hno
    generalize bxOf σ (m.reg g x.a) = BX at *
    clear h ok fit ht hg gr gf ra1 ra2 hs hVA t0 t2 t4 t5 t6 t7 opc h6 hka ha0 ha6 hgb g0 hf hno hib hbx
    go_enter Tryz.func61, Tryz.ntmps61
    go_upto_region 0 with fail
    go_quiet (fail)
    go_wp2_with (go_at_call 97; with_reducible refine (HF.out _ _ ((Keep.refl _ w).drewN _)).mono ?_; rintro e w1 ⟨rfl, h1⟩)
    first | go_end0 | ((try simp only [Exit.inBlock, Exit.then]); refine bodyPost_ret (results_none rfl _ _ _) rfl ?_)
    exact ⟨rfl, by rw [HS.out]; exact h1⟩
set_option maxRecDepth 100000 in
set_option maxHeartbeats 1600000 in
theorem boxedS_any {B : Nat} {P : Value} {σ : Lay} {ow : Owns} {m : MachD} {w : World} (h : Inv B P σ ow m w) (ok : Ok m) (fit : Fit m) {tb g c4 : Nat} {x : InstrD} {A4 : Option Addr} {draw : Int} (ht : IsTurn σ ow w tb g x A4 c4 draw) {gd : GorD}{pb : Nat} (hg : m.gors[g]? = some gd) (ha0 : 0 ≤ x.a) (ha6 : x.a < 6)
    (f : MachD → Nat → MachD) (hf : ∀ b y, m.boxes[b]? = some y → ∀ W, Keep (fun _ => False) w W → Calls Tryz.prog 63 #[.pointer (some ⟨σ.bA b, 0, none⟩), .pointer (some ⟨pb, 0, none⟩)] W fun e w' => e = .returned (.tuple #[]) ∧ Res B P σ ow (f m b) W w' ∧ ∃ gd2, (f m b).gors[g]? = some gd2 ∧ gd2.pc = gd.pc) :
    Calls Tryz.prog 61 #[.pointer (some ⟨tb, 0, none⟩), .func (.func 63) #[] #[.pointer (some ⟨pb, 0, none⟩)]] w fun e w' => e = .returned (.tuple #[]) ∧ Res B P σ ow (m.boxed g x.a f) w w' := by
  obtain ⟨t0, t1, t2, t3, t4, t5, t6, t7⟩ := ht.cells
  obtain ⟨v, _, _, h6, g0, g1, gr, _, gf⟩ := h.gorAt hg
  obtain ⟨ra1, ra2⟩ := ok.reg hg ha0 ha6
  have opc := (ok.gor g gd hg).pc
  obtain ⟨ka, hka, hka6⟩ := reg_nat ha0 ha6
  have hs : m.boxed g x.a f = m.boxed g x.a f := rfl
  conv at hs => rhs; unfold MachD.boxed
  have HF := hidP (fun oc => fail_same h fit ht hg oc)
  rw [hka] at ra1 t3
  have gka := gr ka _ ra1
  rw [← hka] at gka
  have ea0 : (0 : Int) ≤ (ka : Int) := by omega
  have ea6 : (ka : Int) < 6 := by omega
  have wpc : IntKind.i64.wrap (gd.pc + 1) = gd.pc + 1 := IntWalk.i64_in _ (by omega)
  obtain ⟨gb, hgb⟩ : ∃ gb, σ.gA g = gb := ⟨_, rfl⟩
  rw [hgb] at t1 gka g1
  have nA := as_bx σ (m.reg g x.a)
  obtain ⟨VA, hVA⟩ : ∃ V, encV σ (m.reg g x.a) = V := ⟨_, rfl⟩
  rw [hVA] at nA gka
  by_cases hbx : ∃ b, m.reg g x.a = .bx b
  · obtain ⟨b, hb⟩ := hbx
    rw [hb] at nA hs ra2
    dsimp only at hs
    obtain ⟨y, hy⟩ := some_lt (l := m.boxes) (i := b) ra2
    have HC := hidP (hf b y hy)
    have HS := hidP hs
    have HT := hidP (⟨ht, hgb⟩ : _ ∧ _)
    obtain ⟨bb, hbb⟩ : ∃ bb, σ.bA b = bb := ⟨_, rfl⟩
    simp only [bxOf, isBx, hbb] at nA
    rw [hbb] at HC
    clear h ok fit ht hg gr gf ra1 ra2 hs hb hy hVA t0 t2 t4 t5 t6 t7 opc h6 hka ha0 ha6 hgb g0 hf hbb
    go_enter Tryz.func61, Tryz.ntmps61
    go_upto_region 0 with fail
    go_quiet (fail)
    go_upto_region 3 with fail
    refine wp_undrewN (w := w) ?_
    intro W hh hk0
    have HCW := hidP (HC.out W hk0)
    have HK0 := hidP hk0
    clear t1 t3 gka g1 nA HC hh hk0
    go_wp2_with (go_at_call 63; with_reducible refine HCW.out.mono ?_; rintro e w1 ⟨rfl, hr, gd2, hg2, hpc2⟩; obtain ⟨ht, hgb⟩ := HT.out; have hst := hr.stay (ht.same HK0.out).cell ht.free; have s1 : w1.cell? ⟨tb, 1, none⟩ = some (.pointer (some ⟨gb, 0, none⟩)) := (by rw [← hgb]; exact (⟨hst, ht.free⟩ : IsTurn σ ow w1 tb g x A4 c4 draw).cells.2.1); unfold Res at hr; obtain ⟨ow1, q1, q2, q3⟩ := hr; obtain ⟨v2, _, _, _, _, y1, _, _, yf⟩ := q1.gorAt hg2; have yf1 := yf 1; rw [hgb] at y1 yf1; rw [hpc2] at y1; have HG2 := hidP (⟨hg2, hpc2, hgb, q1, q2, q3⟩ : _ ∧ _ ∧ _ ∧ _ ∧ _ ∧ _); clear hst hg2 hpc2 q1 q2 q3 yf ht hgb)
    first | go_end0 | ((try simp only [Exit.inBlock, Exit.then]); refine bodyPost_ret (results_none rfl _ _ _) rfl ?_)
    refine ⟨rfl, ?_⟩
    obtain ⟨hg2, hpc2, hgb, q1, q2, q3⟩ := HG2.out
    rw [HS.out]
    have := q1.incPc hg2
    rw [hpc2, hgb] at this
    exact Res.same HK0.out (Res.trans q2 q3 this)
  · have hno : m.boxed g x.a f = m.fin 6 g := by
      rw [hs]
      cases hv : m.reg g x.a with
      | num n => rfl
      | ch n => rfl
      | bx b => exact absurd ⟨b, hv⟩ hbx
    have hib : isBx (m.reg g x.a) = false := by
      cases hv : m.reg g x.a with
      | num n => rfl
      | ch n => rfl
      | bx b => exact absurd ⟨b, hv⟩ hbx
    rw [hib] at nA
    have HS := hidP hno
    generalize bxOf σ (m.reg g x.a) = BX at *
    clear h ok fit ht hg gr gf ra1 ra2 hs hVA t0 t2 t4 t5 t6 t7 opc h6 hka ha0 ha6 hgb g0 hf hno hib hbx
    go_enter Tryz.func61, Tryz.ntmps61
    go_upto_region 0 with fail
    go_quiet (fail)
    go_wp2_with (go_at_call 97; with_reducible refine (HF.out _ _ ((Keep.refl _ w).drewN _)).mono ?_; rintro e w1 ⟨rfl, h1⟩)
    first | go_end0 | ((try simp only [Exit.inBlock, Exit.then]); refine bodyPost_ret (results_none rfl _ _ _) rfl ?_)
    exact ⟨rfl, by rw [HS.out]; exact h1⟩
set_option maxRecDepth 100000 in
set_option maxHeartbeats 1600000 in
theorem boxedF_any {B : Nat} {P : Value} {σ : Lay} {ow : Owns} {m : MachD} {w : World} (h : Inv B P σ ow m w) (ok : Ok m) (fit : Fit m) {tb g c4 : Nat} {x : InstrD} {A4 : Option Addr} {draw : Int} (ht : IsTurn σ ow w tb g x A4 c4 draw) {gd : GorD}{pb : Nat} (hg : m.gors[g]? = some gd) (ha0 : 0 ≤ x.a) (ha6 : x.a < 6)
    (f : MachD → Nat → MachD) (hf : ∀ b y, m.boxes[b]? = some y → ∀ W, Keep (fun _ => False) w W → Calls Tryz.prog 64 #[.pointer (some ⟨σ.bA b, 0, none⟩)] W fun e w' => e = .returned (.tuple #[]) ∧ Res B P σ ow (f m b) W w' ∧ ∃ gd2, (f m b).gors[g]? = some gd2 ∧ gd2.pc = gd.pc) :
    Calls Tryz.prog 61 #[.pointer (some ⟨tb, 0, none⟩), .func (.func 64) #[] #[]] w fun e w' => e = .returned (.tuple #[]) ∧ Res B P σ ow (m.boxed g x.a f) w w' := by
  obtain ⟨t0, t1, t2, t3, t4, t5, t6, t7⟩ := ht.cells
  obtain ⟨v, _, _, h6, g0, g1, gr, _, gf⟩ := h.gorAt hg
  obtain ⟨ra1, ra2⟩ := ok.reg hg ha0 ha6
  have opc := (ok.gor g gd hg).pc
  obtain ⟨ka, hka, hka6⟩ := reg_nat ha0 ha6
  have hs : m.boxed g x.a f = m.boxed g x.a f := rfl
  conv at hs => rhs; unfold MachD.boxed
  have HF := hidP (fun oc => fail_same h fit ht hg oc)
  rw [hka] at ra1 t3
  have gka := gr ka _ ra1
  rw [← hka] at gka
  have ea0 : (0 : Int) ≤ (ka : Int) := by omega
  have ea6 : (ka : Int) < 6 := by omega
  have wpc : IntKind.i64.wrap (gd.pc + 1) = gd.pc + 1 := IntWalk.i64_in _ (by omega)
  obtain ⟨gb, hgb⟩ : ∃ gb, σ.gA g = gb := ⟨_, rfl⟩
  rw [hgb] at t1 gka g1
  have nA := as_bx σ (m.reg g x.a)
  obtain ⟨VA, hVA⟩ : ∃ V, encV σ (m.reg g x.a) = V := ⟨_, rfl⟩
  rw [hVA] at nA gka
  by_cases hbx : ∃ b, m.reg g x.a = .bx b
  · obtain ⟨b, hb⟩ := hbx
    rw [hb] at nA hs ra2
    dsimp only at hs
    obtain ⟨y, hy⟩ := some_lt (l := m.boxes) (i := b) ra2
    have HC := hidP (hf b y hy)
    have HS := hidP hs
    have HT := hidP (⟨ht, hgb⟩ : _ ∧ _)
    obtain ⟨bb, hbb⟩ : ∃ bb, σ.bA b = bb := ⟨_, rfl⟩
    simp only [bxOf, isBx, hbb] at nA
    rw [hbb] at HC
    clear h ok fit ht hg gr gf ra1 ra2 hs hb hy hVA t0 t2 t4 t5 t6 t7 opc h6 hka ha0 ha6 hgb g0 hf hbb
    go_enter Tryz.func61, Tryz.ntmps61
    go_upto_region 0 with fail
    go_quiet (fail)
    go_upto_region 3 with fail
    refine wp_undrewN (w := w) ?_
    intro W hh hk0
    have HCW := hidP (HC.out W hk0)
    have HK0 := hidP hk0
    clear t1 t3 gka g1 nA HC hh hk0
    go_wp2_with (go_at_call 64; with_reducible refine HCW.out.mono ?_; rintro e w1 ⟨rfl, hr, gd2, hg2, hpc2⟩; obtain ⟨ht, hgb⟩ := HT.out; have hst := hr.stay (ht.same HK0.out).cell ht.free; have s1 : w1.cell? ⟨tb, 1, none⟩ = some (.pointer (some ⟨gb, 0, none⟩)) := (by rw [← hgb]; exact (⟨hst, ht.free⟩ : IsTurn σ ow w1 tb g x A4 c4 draw).cells.2.1); unfold Res at hr; obtain ⟨ow1, q1, q2, q3⟩ := hr; obtain ⟨v2, _, _, _, _, y1, _, _, yf⟩ := q1.gorAt hg2; have yf1 := yf 1; rw [hgb] at y1 yf1; rw [hpc2] at y1; have HG2 := hidP (⟨hg2, hpc2, hgb, q1, q2, q3⟩ : _ ∧ _ ∧ _ ∧ _ ∧ _ ∧ _); clear hst hg2 hpc2 q1 q2 q3 yf ht hgb)
    first | go_end0 | ((try simp only [Exit.inBlock, Exit.then]); refine bodyPost_ret (results_none rfl _ _ _) rfl ?_)
    refine ⟨rfl, ?_⟩
    obtain ⟨hg2, hpc2, hgb, q1, q2, q3⟩ := HG2.out
    rw [HS.out]
    have := q1.incPc hg2
    rw [hpc2, hgb] at this
    exact Res.same HK0.out (Res.trans q2 q3 this)
  · have hno : m.boxed g x.a f = m.fin 6 g := by
      rw [hs]
      cases hv : m.reg g x.a with
      | num n => rfl
      | ch n => rfl
      | bx b => exact absurd ⟨b, hv⟩ hbx
    have hib : isBx (m.reg g x.a) = false := by
      cases hv : m.reg g x.a with
      | num n => rfl
      | ch n => rfl
      | bx b => exact absurd ⟨b, hv⟩ hbx
    rw [hib] at nA
    have HS := hidP hno
    generalize bxOf σ (m.reg g x.a) = BX at *
    clear h ok fit ht hg gr gf ra1 ra2 hs hVA t0 t2 t4 t5 t6 t7 opc h6 hka ha0 ha6 hgb g0 hf hno hib hbx
    go_enter Tryz.func61, Tryz.ntmps61
    go_upto_region 0 with fail
    go_quiet (fail)
    go_wp2_with (go_at_call 97; with_reducible refine (HF.out _ _ ((Keep.refl _ w).drewN _)).mono ?_; rintro e w1 ⟨rfl, h1⟩)
    first | go_end0 | ((try simp only [Exit.inBlock, Exit.then]); refine bodyPost_ret (results_none rfl _ _ _) rfl ?_)
    exact ⟨rfl, by rw [HS.out]; exact h1⟩
section
variable {B : Nat} {P : Value} {σ : Lay} {ow : Owns} {m : MachD} {w : World} {tb g c4 pb : Nat} {x : InstrD} {A4 : Option Addr} {draw : Int} {gd : GorD}
set_option maxRecDepth 100000 in
set_option maxHeartbeats 800000 in
theorem loadClo_any (h : Inv B P σ ow m w) (ok : Ok m) (ht : IsTurn σ ow w tb g x A4 c4 draw) (hg : m.gors[g]? = some gd) (hb0 : 0 ≤ x.b) (hb6 : x.b < 6) (hpb : w.cell? ⟨pb, 0, none⟩ = some (.pointer (some ⟨tb, 0, none⟩))) (b : Nat) (y : PV) (hy : m.boxes[b]? = some y) (W : World) (hk : Keep (fun _ => False) w W) :
    Calls Tryz.prog 62 #[.pointer (some ⟨σ.bA b, 0, none⟩), .pointer (some ⟨pb, 0, none⟩)] W fun e w' => e = .returned (.tuple #[]) ∧ Res B P σ ow (m.setReg g x.b (m.boxes.getD b (.num 0))) W w' ∧ ∃ gd2, (m.setReg g x.b (m.boxes.getD b (.num 0))).gors[g]? = some gd2 ∧ gd2.pc = gd.pc := by
  have hI := h.same hk
  have htW := ht.same hk
  obtain ⟨t0, t1, t2, t3, t4, t5, t6, t7⟩ := htW.cells
  obtain ⟨v, _, _, h6, g0, g1, gr, _, gf⟩ := hI.gorAt hg
  obtain ⟨kb, hkb, hkb6⟩ := reg_nat hb0 hb6
  obtain ⟨ub, hub⟩ := some_lt (l := gd.regs) (i := kb) (by rw [h6]; omega)
  have gkb := gr kb _ hub
  have fkb := gf (2 + kb)
  rw [hkb] at t4
  have eb0 : (0 : Int) ≤ (kb : Int) := by omega
  have eb6 : (kb : Int) < 6 := by omega
  have p0 : W.cell? ⟨pb, 0, none⟩ = some (.pointer (some ⟨tb, 0, none⟩)) := Keep.cell (p := ⟨pb, 0, none⟩) hk (fun e => e) hpb
  obtain ⟨hbx, _⟩ := hI.boxAt hy
  have b0 : W.cell? ⟨σ.bA b, 0, none⟩ = some (encV σ y) := cell_of_row W _ 0 _ _ (0, 0) hbx
  obtain ⟨VT, VU, hV⟩ := encV_iface σ y
  rw [hV] at b0
  have hR := hI.regPut hg hb0 hb6 y
  rw [hV, hkb] at hR
  have hgd : m.boxes.getD b (.num 0) = y := getD_some hy
  rw [hgd]
  have HR := hidP (⟨hR, hkb, setReg_gor hg x.b y⟩ : _ ∧ _ ∧ _)
  generalize σ.gA g = gb at *
  generalize σ.bA b = bb at *
  clear h ok ht hg hb0 hb6 hpb hy hk hI htW t0 t2 t3 t5 t6 t7 g0 g1 gr gf hub hbx hV hR hgd hkb h6
  go_enter Tryz.func62, Tryz.ntmps62
  go_upto_region 0 with fail
  go_still_tail 16, (by kernel_rfl)
  go_wp2
  first | go_end0 | ((try simp only [Exit.inBlock, Exit.then]); refine bodyPost_ret (results_none rfl _ _ _) rfl ?_)
  obtain ⟨hR, hkb, hgg⟩ := HR.out
  refine ⟨rfl, ?_, _, hgg, rfl⟩
  rw [hkb]
  exact hR.drewR
set_option maxRecDepth 100000 in
set_option maxHeartbeats 800000 in
theorem storeClo_any (h : Inv B P σ ow m w) (ok : Ok m) (ht : IsTurn σ ow w tb g x A4 c4 draw) (hg : m.gors[g]? = some gd) (hb0 : 0 ≤ x.b) (hb6 : x.b < 6) (hpb : w.cell? ⟨pb, 0, none⟩ = some (.pointer (some ⟨tb, 0, none⟩))) (b : Nat) (y : PV) (hy : m.boxes[b]? = some y) (W : World) (hk : Keep (fun _ => False) w W) :
    Calls Tryz.prog 63 #[.pointer (some ⟨σ.bA b, 0, none⟩), .pointer (some ⟨pb, 0, none⟩)] W fun e w' => e = .returned (.tuple #[]) ∧ Res B P σ ow { m with boxes := m.boxes.set b (m.reg g x.b) } W w' ∧ ∃ gd2, ({ m with boxes := m.boxes.set b (m.reg g x.b) } : MachD).gors[g]? = some gd2 ∧ gd2.pc = gd.pc := by
  have hI := h.same hk
  have htW := ht.same hk
  obtain ⟨t0, t1, t2, t3, t4, t5, t6, t7⟩ := htW.cells
  obtain ⟨v, _, _, h6, g0, g1, gr, _, gf⟩ := hI.gorAt hg
  obtain ⟨kb, hkb, hkb6⟩ := reg_nat hb0 hb6
  obtain ⟨rb1, rb2⟩ := ok.reg hg hb0 hb6
  rw [hkb] at t4 rb1
  have gkb := gr kb _ rb1
  rw [← hkb] at gkb
  have eb0 : (0 : Int) ≤ (kb : Int) := by omega
  have eb6 : (kb : Int) < 6 := by omega
  have p0 : W.cell? ⟨pb, 0, none⟩ = some (.pointer (some ⟨tb, 0, none⟩)) := Keep.cell (p := ⟨pb, 0, none⟩) hk (fun e => e) hpb
  obtain ⟨hbx, _⟩ := hI.boxAt hy
  have b0 : W.cell? ⟨σ.bA b, 0, none⟩ = some (encV σ y) := cell_of_row W _ 0 _ _ (0, 0) hbx
  have f0 := frozen_of_row W (σ.bA b) 0 _ _ hbx
  obtain ⟨VT, VU, hV⟩ := encV_iface σ (m.reg g x.b)
  rw [hV] at gkb
  have hR := hI.boxPut hy (m.reg g x.b)
  rw [hV] at hR
  have HR := hidP (⟨hR, hg⟩ : _ ∧ _)
  generalize σ.gA g = gb at *
  generalize σ.bA b = bb at *
  clear h ok ht hg hb0 hb6 hpb hy hk hI htW t0 t2 t3 t5 t6 t7 g0 g1 gr gf hbx hV hR hkb h6 rb1 rb2
  go_enter Tryz.func63, Tryz.ntmps63
  go_upto_region 0 with fail
  go_still_tail 16, (by kernel_rfl)
  go_wp2
  first | go_end0 | ((try simp only [Exit.inBlock, Exit.then]); refine bodyPost_ret (results_none rfl _ _ _) rfl ?_)
  obtain ⟨hR, hgg⟩ := HR.out
  exact ⟨rfl, hR.drewR, _, hgg, rfl⟩
set_option maxRecDepth 100000 in
set_option maxHeartbeats 800000 in
theorem finClo_any (h : Inv B P σ ow m w) (hg : m.gors[g]? = some gd) (b : Nat) (W : World) (hk : Keep (fun _ => False) w W) :
    Calls Tryz.prog 64 #[.pointer (some ⟨σ.bA b, 0, none⟩)] W fun e w' => e = .returned (.tuple #[]) ∧ Res B P σ ow m W w' ∧ ∃ gd2, m.gors[g]? = some gd2 ∧ gd2.pc = gd.pc := by
  have H := hidP ((h.same hk).res_below (brefl _))
  go_enter Tryz.func64, Tryz.ntmps64
  go_wp2
  first | go_end0 | ((try simp only [Exit.inBlock, Exit.then]); refine bodyPost_ret (results_none rfl _ _ _) rfl ?_)
  exact ⟨rfl, H.out, _, hg, rfl⟩
end
end Go.Proofs.YtklfboidjnchoaaGreatDoor
