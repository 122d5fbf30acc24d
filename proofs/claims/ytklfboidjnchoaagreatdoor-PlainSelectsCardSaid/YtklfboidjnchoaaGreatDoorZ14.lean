/-
  Parts of the proof: PLeave, PExit, PWait, PAddM, PWords.
-/
import Derived.Test.YtklfboidjnchoaaGreatDoorZ12
import Derived.Test.YtklfboidjnchoaaGreatDoorZ13
namespace Go.Proofs.YtklfboidjnchoaaGreatDoor
open Go.RowKit Go.Proofs.YtklfboidjnchoaaGreatDoorW.PrintWords
set_option linter.unusedVariables false
set_option linter.unusedSimpArgs false
theorem Inv.isBlkG {B : Nat} {P : Value} {σ : Lay} {ow : Owns} {m : MachD} {w : World} (h : Inv B P σ ow m w) {g : Nat} (hg : g < m.gors.length) : IsBlk w (σ.gA g) := by
  obtain ⟨gd, hgd⟩ := some_lt hg
  obtain ⟨_, v, hc, _⟩ := h.gor g gd hgd
  exact hc.isBlk
set_option maxRecDepth 100000 in
set_option maxHeartbeats 1600000 in
theorem leave_any {B : Nat} {P : Value} {σ : Lay} {ow : Owns} {m : MachD} {w : World} (h : Inv B P σ ow m w) (hq : ∀ g ∈ m.queue, g < m.gors.length) (hql : m.queue.length ≤ 1000000) {g : Nat} (hg : g < m.gors.length) :
    Calls Tryz.prog 101 #[.pointer (some ⟨σ.mb, 0, none⟩), .pointer (some ⟨σ.gA g, 0, none⟩)] w fun e w' => e = .returned (.tuple #[]) ∧ Res B P σ ow (m.leave g) w w' := by
  have hb := bnew (brefl w) (.cells #[.pointer (some ⟨σ.gA g, 0, none⟩)] 95)
  have h1 := h.below hb
  obtain ⟨q, tv, ev, sv, G0, G1, G2, G3, hM⟩ := h1.machC
  obtain ⟨mb, hmb⟩ : ∃ mb, σ.mb = mb := ⟨_, rfl⟩
  have hcell := hM.cells.1
  rw [hmb] at hcell ⊢
  obtain ⟨_, c1, _, _, _, _, _, _, cf⟩ := mach_cells hcell
  have hn : (w.alloc (.cells #[.pointer (some ⟨σ.gA g, 0, none⟩)] 95)).cell? ⟨w.heap.size, 0, none⟩ = some (.pointer (some ⟨σ.gA g, 0, none⟩)) := cell_of_row _ _ 0 _ _ (0, 0) (blk_new w _)
  have hgb : q.ownBlock ≠ some w.heap.size := by
    obtain ⟨q0, _, _, _, _, _, _, _, hM0⟩ := h.machC
    have e0 := (hM0.cells.1)
    have e1 := (hb.block _ (blk_lt e0)).trans e0
    obtain ⟨e, _⟩ := hM.names e1
    subst e
    intro e
    have := own_lt hM0.queue.1 _ e
    omega
  have ho := hM.queue.1
  rw [gPtrs_ptrs] at ho
  have hD := dGOwn_any B q m.queue.length w.heap.size (σ.gA g) (m.queue.map σ.gA) _ ho hql (fun z hz => by obtain ⟨k, hk, rfl⟩ := List.mem_map.1 hz; exact h1.isBlkG (hq k hk)) (h1.isBlkG hg) hn hgb
  have hbut : but (m.queue.map σ.gA) (σ.gA g) = (m.queue.filter (· != g)).map σ.gA := but_map fun k hk e => h.gInj (hq k hk) hg e
  rw [hbut] at hD
  have HD := hidP hD
  have HM := hidP (⟨h1, hM, hmb, hcell, hb⟩ : _ ∧ _ ∧ _ ∧ _ ∧ _)
  have HNB : Hid (q.ownBlock ≠ some mb) := by show _ ≠ _; rw [← hmb]; exact hM.apart.1.1
  have HC := hidP hcell
  clear h h1 hM hmb hcell hb ho hD hbut cf hq hn hgb
  go_enter Tryz.func101, Tryz.ntmps101
  go_wp2_with (go_at_call 117; with_reducible refine HD.out.mono ?_; rintro e w2 ⟨ao, c, rfl, d1, d2, d3⟩; have hc2 := (d2.block mb (blk_lt HC.out) HNB.out).trans HC.out; obtain ⟨_, e1, _, _, _, _, _, _, ef⟩ := mach_cells hc2; have ef1 := ef 1; have D1 := hidP d1; have D2 := hidP d2; have D3 := hidP d3; clear d1 d2 d3 hc2 ef)
  go_end0
  obtain ⟨h1, hM, hmb, hcell, hb⟩ := HM.out
  subst hmb
  refine ⟨rfl, ?_⟩
  have hl : ((m.queue.filter (· != g)).map σ.gA).length = (m.queue.filter (· != g)).length := List.length_map ..
  have r := h1.queuePut hM (l' := m.queue.filter (· != g)) (q' := .slice ao ((m.queue.filter (· != g)).map σ.gA).length c) D2.out (by rw [gPtrs_ptrs, ← hl]; exact D1.out) (fun b hb2 => .inl (by rw [← D3.out]; exact hb2))
  rw [hl] at r
  exact Res.of_below hb none r
theorem flatC_len (l : List CaseD) : (l.flatMap caseC).length = l.length * 4 := by
  induction l with
  | nil => rfl
  | cons c l ih => rw [List.flatMap_cons, List.length_append, ih]; simp [caseC]; omega
theorem flatC_get : ∀ (l : List CaseD) (i j : Nat) (c : CaseD) (u : Value), l[i]? = some c → (caseC c)[j]? = some u → (l.flatMap caseC)[i * 4 + j]? = some u
  | [], i, j, c, u, h, _ => by simp at h
  | d :: l, 0, j, c, u, h, hj => by
    obtain rfl : d = c := by simpa using h
    rw [List.flatMap_cons, Nat.zero_mul, Nat.zero_add, List.getElem?_append_left (List.getElem?_eq_some_iff.1 hj).1]
    exact hj
  | d :: l, i + 1, j, c, u, h, hj => by
    rw [List.flatMap_cons, List.getElem?_append_right (by simp [caseC]; omega)]
    rw [show (i + 1) * 4 + j - (caseC d).length = i * 4 + j by simp [caseC]; omega]
    exact flatC_get l i j c u (by simpa using h) hj
theorem flatC_one (l : List CaseD) : ∀ u ∈ l.flatMap caseC, u.oneCell' = true := by
  intro u hu
  obtain ⟨c, _, hc⟩ := List.mem_flatMap.1 hu
  simp [caseC] at hc
  rcases hc with rfl | rfl | rfl | rfl <;> rfl
theorem flatC_at {w : World} {A : Option Addr} {l : List CaseD} (h : RowAt w A (l.flatMap caseC)) {i : Nat} {c : CaseD} (hi : l[i]? = some c) :
    ∃ b o, A = some ⟨b, o, none⟩ ∧ w.cell? ⟨b, o + i * 4, none⟩ = some (.int .i64 c.kind) ∧ w.cell? ⟨b, o + i * 4 + 1, none⟩ = some (.int .i64 c.ch) ∧ w.cell? ⟨b, o + i * 4 + 2, none⟩ = some (.int .i64 c.reg) ∧ w.cell? ⟨b, o + i * 4 + 3, none⟩ = some (.int .i64 c.dest) := by
  obtain ⟨b, o, rfl, hc⟩ := h.addr (by rw [flatC_len]; have := lt_of_some hi; omega)
  exact ⟨b, o, rfl, by have := hc _ _ (flatC_get l i 0 c _ hi rfl); simpa using this, by have := hc _ _ (flatC_get l i 1 c _ hi rfl); simpa [Nat.add_assoc] using this, by have := hc _ _ (flatC_get l i 2 c _ hi rfl); simpa [Nat.add_assoc] using this, by have := hc _ _ (flatC_get l i 3 c _ hi rfl); simpa [Nat.add_assoc] using this⟩
theorem C_row {w : World} {A : Option Addr} {n : Nat} {l : List CaseD} (h : kC.C w A n l) : RowAt w A (l.flatMap caseC) := by
  cases l with
  | nil => exact .inl rfl
  | cons c r =>
    obtain ⟨b, o, hA, _⟩ := case_at h 0 c rfl
    refine .inr ⟨b, o, hA, fun j u hj => ?_⟩
    have hl : j < (c :: r).length * 4 := by rw [← flatC_len]; exact lt_of_some hj
    obtain ⟨d, hd⟩ := some_lt (l := c :: r) (i := j / 4) (by omega)
    obtain ⟨b', o', hA', x0, x1, x2, x3⟩ := case_at h (j / 4) d hd
    rw [hA] at hA'
    obtain ⟨rfl, rfl⟩ : b = b' ∧ o = o' := by injection hA' with e; injection e with e1 e2; exact ⟨e1, e2⟩
    obtain ⟨v, hv⟩ := some_lt (l := caseC d) (i := j % 4) (by simp [caseC]; omega)
    have := flatC_get (c :: r) (j / 4) (j % 4) d v hd hv
    rw [show j / 4 * 4 + j % 4 = j by omega, hj] at this
    obtain rfl := Option.some.inj this
    have h4 : j % 4 = 0 ∨ j % 4 = 1 ∨ j % 4 = 2 ∨ j % 4 = 3 := by omega
    rw [show o + j = o + j / 4 * 4 + j % 4 by omega]
    rcases h4 with e | e | e | e <;> rw [e] at hv ⊢ <;> simp [caseC] at hv <;> subst hv
    · exact x0
    · exact x1
    · exact x2
    · exact x3
set_option maxRecDepth 100000 in
set_option maxHeartbeats 1600000 in
theorem exit_any {B : Nat} {P : Value} {σ : Lay} {ow : Owns} {m : MachD} {w : World} (h : Inv B P σ ow m w) (ok : Ok m) (fit : Fit m) {tb g c4 : Nat} {x : InstrD} {A4 : Option Addr} {draw : Int} (ht : IsTurn σ ow w tb g x A4 c4 draw) {gd : GorD} (hg : m.gors[g]? = some gd) :
    Calls Tryz.prog 68 #[.pointer (some ⟨tb, 0, none⟩)] w fun e w' => e = .returned (.tuple #[]) ∧ Res B P σ ow (m.exit g) w w' := by
  obtain ⟨t0, t1, t2, t3, t4, t5, t6, t7⟩ := ht.cells
  obtain ⟨v, hgc, hgo, h6, g0, g1, gr, _, gf⟩ := h.gorAt hg
  have f1 := gf 1
  obtain ⟨q, tv, ev, sv, G0, G1, G2, G3, hM⟩ := h.machC
  obtain ⟨ne, hne⟩ : ∃ ne, m.events.length = ne := ⟨_, rfl⟩
  have hnm : ne ≤ 1000000 := by rw [← hne]; exact fit.events
  obtain ⟨gb, hgb⟩ : ∃ gb, σ.gA g = gb := ⟨_, rfl⟩
  obtain ⟨mb, hmb⟩ : ∃ mb, σ.mb = mb := ⟨_, rfl⟩
  have hcell := hM.cells.1
  rw [hmb] at hcell t0
  rw [hgb] at t1 f1 g1 g0 hgc
  obtain ⟨_, _, _, _, _, c9, _, _, cf⟩ := mach_cells hcell
  have f9 := cf 9
  have hmg : mb ≠ gb := by rw [← hmb, ← hgb]; intro e; have := hM.cells.2; rw [e, hgo] at this; cases this
  have hmt : mb ≠ tb := by rw [← hmb]; intro e; have := hM.cells.2; rw [e, ht.free] at this; cases this
  have HE := hidP (hne ▸ hM.events.1 : w.ownsRow B 41 4 ev ne (m.events.flatMap evC))
  have HAP := hidP (show ev.ownBlock ≠ some mb by rw [← hmb]; exact hM.apart.1.2.2.1)
  have HAG := hidP (show ev.ownBlock ≠ some gb by rw [← hgb]; intro e; have := hM.events.2 _ e; rw [hgo] at this; cases this)
  have HAT := hidP (show ev.ownBlock ≠ some tb by intro e; have := hM.events.2 _ e; rw [ht.free] at this; cases this)
  have HCL := hidP hcell
  have hsB := h.size
  have HGC := hidP hgc
  have HX := hidP (⟨h, hM, hne, hg, hmb, hgb, ok, fit, ht⟩ : _ ∧ _ ∧ _ ∧ _ ∧ _ ∧ _ ∧ _ ∧ _ ∧ _)
  clear h ok fit hM hne hg hmb hgb hcell hgc hgo ht gr gf h6 cf t2 t3 t4 t5 t6 t7
  go_enter Tryz.func68, Tryz.ntmps68
  go_upto_region 0 with fail
  obtain ⟨W, hW⟩ : ∃ W, W = w := ⟨_, rfl⟩
  rw [← hW]
  have hh : W.heap = w.heap := by rw [hW]
  have hkW : Keep (fun _ => False) w W := by rw [hW]; exact .refl _ _
  clear hW
  have s0 := cell_heap hh t0
  have s1 := cell_heap hh t1
  have s9 := cell_heap hh c9
  have sg := cell_heap hh g0
  have sp := cell_heap hh g1
  have z9 := frozen_heap hh f9
  have HE2 := hidP (owns_keep HE.out hkW (fun _ _ e => e))
  have HCL2 : Hid (W.heap[mb]? = w.heap[mb]?) := (show _ = _ by rw [hh])
  have HGC2 : Hid (W.heap[gb]? = w.heap[gb]?) := (show _ = _ by rw [hh])
  have hsB2 : B ≤ W.heap.size := by rw [hh]; exact hsB
  have HKW := hidP hkW
  have t1h := s1
  clear t0 t1 g1 g0 f1 c9 f9 hh hkW
  have hSS : (fun w' : World => w'.cell? ⟨tb, 0, none⟩ = some (.pointer (some ⟨mb, 0, none⟩)) ∧ w'.cell? ⟨tb, 1, none⟩ = some (.pointer (some ⟨gb, 0, none⟩)) ∧ w'.cell? ⟨mb, 9, none⟩ = some ev ∧ w'.cell? ⟨gb, 0, none⟩ = some (.int .i64 g)) W.drew := ⟨s0, s1, s9, sg⟩
  refine OrdG.begin (fun w' : World => w'.cell? ⟨tb, 0, none⟩ = some (.pointer (some ⟨mb, 0, none⟩)) ∧ w'.cell? ⟨tb, 1, none⟩ = some (.pointer (some ⟨gb, 0, none⟩)) ∧ w'.cell? ⟨mb, 9, none⟩ = some ev ∧ w'.cell? ⟨gb, 0, none⟩ = some (.int .i64 g)) 25 (by kernel_rfl) hSS ?_
  refine OrdG.ty 0 _ rfl (.inl hSS) ?_
  simp only [Act.put, stA, stS, stZ]
  refine OrdG.ty 1 _ rfl (.inl hSS) ?_
  simp only [Act.put, stA, stS, stZ]
  refine OrdG.ty 2 _ rfl (.inl hSS) ?_
  simp only [Act.put, stA, stS, stZ]
  refine OrdG.tk 3 _ rfl (by assumption) ?_
  simp only [Act.put, stA, stS, stZ]
  refine OrdG.ty 4 _ rfl (.inl hSS) ?_
  simp only [Act.put, stA, stS, stZ]
  refine OrdG.ty 5 _ rfl (.inl hSS) ?_
  simp only [Act.put, stA, stS, stZ]
  refine OrdG.ty 6 _ rfl (.inl hSS) ?_
  simp only [Act.put, stA, stS, stZ]
  refine OrdG.tk 7 _ rfl (by assumption) ?_
  simp only [Act.put, stA, stS, stZ]
  refine OrdG.ty 8 _ rfl (.inl hSS) ?_
  simp only [Act.put, stA, stS, stZ]
  refine OrdG.ty 9 _ rfl (.inl hSS) ?_
  simp only [Act.put, stA, stS, stZ]
  refine OrdG.ty 10 _ rfl (.inl hSS) ?_
  simp only [Act.put, stA, stS, stZ]
  refine OrdG.tk 11 _ rfl (by assumption) ?_
  simp only [Act.put, stA, stS, stZ]
  refine OrdG.ty 12 _ rfl (.inl hSS) ?_
  simp only [Act.put, stA, stS, stZ]
  refine OrdG.ty 13 _ rfl (.inl hSS) ?_
  simp only [Act.put, stA, stS, stZ]
  refine OrdG.ty 14 _ rfl (.inl hSS) ?_
  simp only [Act.put, stA, stS, stZ]
  refine OrdG.tk 15 _ rfl (by assumption) ?_
  simp only [Act.put, stA, stS, stZ]
  refine OrdG.ty 16 _ rfl (.inl hSS) ?_
  simp only [Act.put, stA, stS, stZ]
  refine OrdG.ty 17 _ rfl (.inl hSS) ?_
  simp only [Act.put, stA, stS, stZ]
  refine OrdG.tk 18 _ rfl (by assumption) ?_
  simp only [Act.put, stA, stS, stZ]
  refine OrdG.ty 19 _ rfl (.inl hSS) ?_
  simp only [Act.put, stA, stS, stZ]
  refine OrdG.one (i := 20) (by kernel_rfl) rfl (fun K hK => ?_)
  go_simp
  refine hK.out _ _ (.inl (by go_keep)) ?_
  clear hK
  refine OrdG.one (i := 21) (by kernel_rfl) rfl (fun K hK => ?_)
  refine step_app _ rfl (.tmp 13) (.tmp 22) rfl Tryz.slEv' B ev ne _ rfl (HE2.out.alloc _) (some ⟨W.heap.size, 0, none⟩) 1 1 (evC ⟨2, g, 0, false⟩) rfl (ne + 1) rfl (RowAt.new W (evC ⟨2, g, 0, false⟩) _) rfl (evC_one _) (by omega) (by unfold maxLen; omega) (Nat.le_trans hsB2 (by simp)) ?_
  intro a2 c2 w2 ho2 hg2 hw2
  have kp2 : Keep (fun b => ev.ownBlock = some b) W w2 := keep_app hg2 (by first | exact (Keep.refl _ W).alloc _ | exact ((Keep.refl _ W).alloc _).drew) (fun k hk => hk)
  have hm2 := (kp2.block mb (blk_lt (HCL2.out.trans HCL.out)) HAP.out).trans (HCL2.out.trans HCL.out)
  have hg2' := (kp2.block gb (blk_lt (HGC2.out.trans HGC.out)) HAG.out).trans (HGC2.out.trans HGC.out)
  have n9 := cell_of_row w2 mb 9 _ _ (0, 0) hm2
  have zn := frozen_of_row w2 mb 9 _ _ hm2
  simp at n9
  have n0 := Keep.cell (p := ⟨tb, 0, none⟩) kp2 HAT.out s0
  have n1 := Keep.cell (p := ⟨tb, 1, none⟩) kp2 HAT.out s1
  have ng := Keep.cell (p := ⟨gb, 0, none⟩) kp2 HAG.out sg
  have np := Keep.cell (p := ⟨gb, 1, none⟩) kp2 HAG.out sp
  have zp := frozen_of_row w2 gb 1 _ _ hg2'
  have HO2 := hidP ho2
  have KP2 := hidP kp2
  have HW2 := hidP hw2
  clear ho2 kp2 hw2 hg2 hm2 hg2'
  refine hK.out _ _ (.inl ⟨n0, n1, n9, ng⟩) ?_
  clear hK
  refine OrdG.ty 22 _ rfl (.inl ⟨n0, n1, n9, ng⟩) ?_
  simp only [Act.put, stA, stS, stZ]
  refine OrdG.ty 23 _ rfl (.inl ⟨n0, n1, n9, ng⟩) ?_
  simp only [Act.put, stA, stS, stZ]
  refine OrdG.ty 24 _ rfl (.inl ⟨n0, n1, n9, ng⟩) ?_
  simp only [Act.put, stA, stS, stZ]
  refine OrdG.one (i := 25) (by kernel_rfl) rfl (fun K hK => ?_)
  go_simp
  refine hK.out _ _ (.inr (by kernel_rfl)) ?_
  clear hK
  refine OrdG.done (by kernel_rfl) ?_ _
  clear hSS s0 s1 s9 sg sp z9 t1h
  obtain ⟨h, hM, hne, hg, hmb, hgb, ok, fit, ht⟩ := HX.out
  have hIW := h.same HKW.out
  have hMW := hM.keep (S := fun _ => False) HKW.out (fun _ _ e => e) (.refl _ _)
  have R2 := hIW.eventsPut hMW (l' := m.events ++ [⟨2, g, 0, false⟩]) (q' := .slice a2 (ne + 1) c2) KP2.out (by
    rw [List.length_append, List.flatMap_append, hne]
    exact HO2.out) (fun b hb => by
      rcases HW2.out with h | h
      · exact .inl (h.symm.trans hb)
      · rw [h] at hb; cases hb; exact .inr (by simp))
  rw [hmb] at R2
  obtain ⟨ow2, q1, q2, q3⟩ := R2
  have p0 : (w2.setCell ⟨mb, 9, none⟩ (.slice a2 (ne + 1) c2)).cell? ⟨tb, 0, none⟩ = some (.pointer (some ⟨mb, 0, none⟩)) := by go_simp
  have p1 : (w2.setCell ⟨mb, 9, none⟩ (.slice a2 (ne + 1) c2)).cell? ⟨tb, 1, none⟩ = some (.pointer (some ⟨gb, 0, none⟩)) := by go_simp
  generalize w2.setCell ⟨mb, 9, none⟩ (.slice a2 (ne + 1) c2) = W9 at *
  have ht9 : IsTurn σ ow2 W9 tb g x A4 c4 draw := (ht.keep (HKW.out.mono fun _ _ e => e.elim) (.refl _ _)).keep q2 q3
  have hLv := leave_any q1.drew (g := g) (fun y hy => by obtain ⟨z, hz, _⟩ := ok.queue y hy; exact lt_of_some hz) (Nat.le_trans ok.queueLen fit.gors) (lt_of_some hg)
  rw [hmb, hgb] at hLv
  have HLV := hidP hLv
  have hg3 : (({ m with events := m.events ++ [⟨2, g, 0, false⟩] } : MachD).leave g).gors[g]? = some gd := hg
  have fit3 : Fit (({ m with events := m.events ++ [⟨2, g, 0, false⟩] } : MachD).leave g) ∨ True := .inr trivial
  clear fit3
  have h3 : Hid (∀ w3, Res B P σ ow2 (({ m with events := m.events ++ [⟨2, g, 0, false⟩] } : MachD).leave g) W9.drew w3 → w3.cell? ⟨tb, 1, none⟩ = some (.pointer (some ⟨gb, 0, none⟩)) ∧ w3.cell? ⟨gb, 0, none⟩ = some (.int .i64 g) ∧
      Calls Tryz.prog 97 #[.pointer (some ⟨tb, 0, none⟩), .int .i64 1] w3 fun e w' => e = .returned (.tuple #[]) ∧ Res B P σ ow ((({ m with events := m.events ++ [⟨2, g, 0, false⟩] } : MachD).leave g).fin 1 g) w w') := by
    intro w3 hr
    have hr' := hr.undrew
    obtain ⟨ow3, u1, u2, u3⟩ := hr'
    have ht3 := ht9.keep u2 u3
    obtain ⟨v3, _, _, _, y0, _⟩ := u1.gorAt hg3
    have y1 := ht3.cells.2.1
    rw [hgb] at y0 y1
    refine ⟨y1, y0, (fail_any' u1 (by show (m.events ++ [_]).length ≤ _; rw [List.length_append, List.length_singleton]; have := fit.events; omega) ht3 hg3 1).mono ?_⟩
    rintro e w4 ⟨he, hr4⟩
    exact ⟨he, Res.same HKW.out (Res.trans q2 q3 (Res.trans u2 u3 hr4))⟩
  have hend : Hid (∀ w3, Res B P σ ow2 (({ m with events := m.events ++ [⟨2, g, 0, false⟩] } : MachD).leave g) W9.drew w3 → Res B P σ ow (({ m with events := m.events ++ [⟨2, g, 0, false⟩] } : MachD).leave g) w w3) := fun w3 hr => Res.same HKW.out (Res.trans q2 q3 hr.undrew)
  clear h hM hne hg hmb hgb ok fit ht hIW hMW q1 q2 q3 ht9 hLv hg3 n0 n1 n9 ng np zp zn HO2 KP2 HW2
  go_upto_region 1 with fail
  go_still_tail 8, (by kernel_rfl)
  by_cases hg0 : g = 0
  · subst hg0
    have he : m.exit 0 = (({ m with events := m.events ++ [⟨2, (0 : Nat), 0, false⟩] } : MachD).leave 0).fin 1 (0 : Nat) := rfl
    go_wp2_with (first
      | (go_at_call 101; with_reducible refine HLV.out.mono ?_; rintro e w3 ⟨rfl, hr3⟩; obtain ⟨y1, y0, hF⟩ := h3.out w3 hr3; have HF := hidP hF; have HR3 := hidP hr3; clear hF hr3)
      | (go_at_call 97; with_reducible refine HF.out.mono ?_; rintro e w4 ⟨rfl, h4⟩))
    first | go_end0 | ((try simp only [Exit.inBlock, Exit.then]); refine bodyPost_ret (results_none rfl _ _ _) rfl ?_)
    exact ⟨rfl, h4⟩
  · have he : Hid (m.exit g = ({ m with events := m.events ++ [⟨2, g, 0, false⟩] } : MachD).leave g) := by
      show _ = _
      unfold MachD.exit
      rw [if_neg hg0]
    have hgi : ¬ ((g : Int) = 0) := by omega
    have hgi2 : ((g : Int) == 0) = false := by simp; omega
    go_wp2_with (go_at_call 101; with_reducible refine HLV.out.mono ?_; rintro e w3 ⟨rfl, hr3⟩; obtain ⟨y1, y0, hF⟩ := h3.out w3 hr3; have HR3 := hidP hr3; clear hF hr3)
    first | go_end0 | ((try simp only [Exit.inBlock, Exit.then]); refine bodyPost_ret (results_none rfl _ _ _) rfl ?_)
    exact ⟨rfl, by rw [he.out]; exact hend.out _ HR3.out⟩
section
variable {B : Nat} {P : Value} {σ : Lay} {ow ow' : Owns} {w w' w1 w2 w3 : World} {m m' : MachD}
theorem Inv.sendsPut (h : Inv B P σ ow m w) {i : Nat} {c : ChanD} (hc : m.chans[i]? = some c) {hv sv tv : Value} (hcell : CellsO ow w (σ.cA i) (.chan i) (chanCells c hv sv tv) 124) (r1 : RowO B ow w (.chan i) 20 1 hv c.held.length (c.held.map (encV σ)))
    (r2 : RowO B ow w (.chan i) 132 1 sv c.sends.length (wPtrs σ c.sends)) (r3 : RowO B ow w (.chan i) 132 1 tv c.takes.length (wPtrs σ c.takes)) (hne : ∀ b, sv.ownBlock = some b → tv.ownBlock ≠ some b) {l' : List Nat} {v' : Value}
    (hk : Keep (fun b => sv.ownBlock = some b) w w2) (ho : w2.ownsRow B 132 1 v' l'.length (wPtrs σ l')) (hn : ∀ b, v'.ownBlock = some b → sv.ownBlock = some b ∨ w.heap.size ≤ b) :
    Res B P σ ow (m.setChan i { c with sends := l' }) w (w2.setCell ⟨σ.cA i, 3, none⟩ v') := by
  have hb : sv.ownBlock ≠ some (σ.cA i) := r2.row_ne hcell.1 (by decide)
  have K1 : Keep (fun b => ow b = some (.chan i)) w (w2.setCell ⟨σ.cA i, 3, none⟩ v') := (hk.mono (fun b _ e => r2.2 b e)).setCell (p := ⟨σ.cA i, 3, none⟩) hcell.2 v'
  have K2 : Keep (fun b => sv.ownBlock = some b ∨ b = σ.cA i) w (w2.setCell ⟨σ.cA i, 3, none⟩ v') := (hk.mono (fun b _ e => .inl e)).setCell (p := ⟨σ.cA i, 3, none⟩) (.inr rfl) v'
  have c2 := (hk.block (σ.cA i) (blk_lt hcell.1) hb).trans hcell.1
  have hnm : ∀ b, v'.ownBlock = some b → b ≠ σ.cA i := fun b hb2 e => (hn b hb2).elim (fun h => hb (e ▸ h)) (fun h => by have := blk_lt hcell.1; omega)
  have hA : RowO B (frm ow w.heap.size (some (.chan i))) (w2.setCell ⟨σ.cA i, 3, none⟩ v') (.chan i) 132 1 v' l'.length (wPtrs σ l') :=
    .anew (owns_keep ho ((Keep.refl (fun b => b = σ.cA i) w2).setCell (p := ⟨σ.cA i, 3, none⟩) rfl v') (fun b hb2 e => hnm b hb2 e)) (fun b hb2 => (hn b hb2).imp (fun h => ⟨own_lt r2.1 b h, r2.2 b h⟩) id)
  have hH : RowO B (frm ow w.heap.size (some (.chan i))) (w2.setCell ⟨σ.cA i, 3, none⟩ v') (.chan i) 20 1 hv c.held.length (c.held.map (encV σ)) :=
    r1.stay K2 (fun b h1 h2 => h2.elim (fun h2 => r1.rows_ne r2 (by decide) b h2 h1) (fun h2 => r1.row_ne hcell.1 (by decide) (h2 ▸ h1))) (.frm _)
  have hX : RowO B (frm ow w.heap.size (some (.chan i))) (w2.setCell ⟨σ.cA i, 3, none⟩ v') (.chan i) 132 1 tv c.takes.length (wPtrs σ c.takes) :=
    r3.stay K2 (fun b h1 h2 => h2.elim (fun h2 => hne b h2 h1) (fun h2 => r3.row_ne hcell.1 (by decide) (h2 ▸ h1))) (.frm _)
  exact h.chan_put hc K1 (heap_setCell_same w2 _ 3 _ _ _ c2) hH hA hX (fun b h1 h2 => (hn b h1).elim (fun h => hne b h h2) (fun h => by have := own_lt r3.1 b h2; omega))
theorem Inv.takesPut (h : Inv B P σ ow m w) {i : Nat} {c : ChanD} (hc : m.chans[i]? = some c) {hv sv tv : Value} (hcell : CellsO ow w (σ.cA i) (.chan i) (chanCells c hv sv tv) 124) (r1 : RowO B ow w (.chan i) 20 1 hv c.held.length (c.held.map (encV σ)))
    (r2 : RowO B ow w (.chan i) 132 1 sv c.sends.length (wPtrs σ c.sends)) (r3 : RowO B ow w (.chan i) 132 1 tv c.takes.length (wPtrs σ c.takes)) (hne : ∀ b, sv.ownBlock = some b → tv.ownBlock ≠ some b) {l' : List Nat} {v' : Value}
    (hk : Keep (fun b => tv.ownBlock = some b) w w2) (ho : w2.ownsRow B 132 1 v' l'.length (wPtrs σ l')) (hn : ∀ b, v'.ownBlock = some b → tv.ownBlock = some b ∨ w.heap.size ≤ b) :
    Res B P σ ow (m.setChan i { c with takes := l' }) w (w2.setCell ⟨σ.cA i, 4, none⟩ v') := by
  have hb : tv.ownBlock ≠ some (σ.cA i) := r3.row_ne hcell.1 (by decide)
  have K1 : Keep (fun b => ow b = some (.chan i)) w (w2.setCell ⟨σ.cA i, 4, none⟩ v') := (hk.mono (fun b _ e => r3.2 b e)).setCell (p := ⟨σ.cA i, 4, none⟩) hcell.2 v'
  have K2 : Keep (fun b => tv.ownBlock = some b ∨ b = σ.cA i) w (w2.setCell ⟨σ.cA i, 4, none⟩ v') := (hk.mono (fun b _ e => .inl e)).setCell (p := ⟨σ.cA i, 4, none⟩) (.inr rfl) v'
  have c2 := (hk.block (σ.cA i) (blk_lt hcell.1) hb).trans hcell.1
  have hnm : ∀ b, v'.ownBlock = some b → b ≠ σ.cA i := fun b hb2 e => (hn b hb2).elim (fun h => hb (e ▸ h)) (fun h => by have := blk_lt hcell.1; omega)
  have hA : RowO B (frm ow w.heap.size (some (.chan i))) (w2.setCell ⟨σ.cA i, 4, none⟩ v') (.chan i) 132 1 v' l'.length (wPtrs σ l') :=
    .anew (owns_keep ho ((Keep.refl (fun b => b = σ.cA i) w2).setCell (p := ⟨σ.cA i, 4, none⟩) rfl v') (fun b hb2 e => hnm b hb2 e)) (fun b hb2 => (hn b hb2).imp (fun h => ⟨own_lt r3.1 b h, r3.2 b h⟩) id)
  have hH : RowO B (frm ow w.heap.size (some (.chan i))) (w2.setCell ⟨σ.cA i, 4, none⟩ v') (.chan i) 20 1 hv c.held.length (c.held.map (encV σ)) :=
    r1.stay K2 (fun b h1 h2 => h2.elim (fun h2 => r1.rows_ne r3 (by decide) b h2 h1) (fun h2 => r1.row_ne hcell.1 (by decide) (h2 ▸ h1))) (.frm _)
  have hX : RowO B (frm ow w.heap.size (some (.chan i))) (w2.setCell ⟨σ.cA i, 4, none⟩ v') (.chan i) 132 1 sv c.sends.length (wPtrs σ c.sends) :=
    r2.stay K2 (fun b h1 h2 => h2.elim (fun h2 => hne b h1 h2) (fun h2 => r2.row_ne hcell.1 (by decide) (h2 ▸ h1))) (.frm _)
  exact h.chan_put hc K1 (heap_setCell_same w2 _ 4 _ _ _ c2) hH hX hA (fun b h1 h2 => (hn b h2).elim (fun h => hne b h1 h) (fun h => by have := own_lt r2.1 b h1; omega))
theorem Inv.waitsPut (h : Inv B P σ ow m w) {g : Nat} {gd : GorD} (hg : m.gors[g]? = some gd) {v : Value} (hcell : w.heap[σ.gA g]? = some (.cells (gorCells σ g gd v) 98 (0, 0))) (hr : RowO B ow w (.gor g) 132 1 v gd.waits.length (wPtrs σ gd.waits)) {l' : List Nat} {v' : Value}
    (hk : Keep (fun b => v.ownBlock = some b) w w2) (ho : w2.ownsRow B 132 1 v' l'.length (wPtrs σ l')) (hn : ∀ b, v'.ownBlock = some b → v.ownBlock = some b ∨ w.heap.size ≤ b) :
    Res B P σ ow (m.setGor g ⟨gd.pc, gd.regs, l'⟩) w (w2.setCell ⟨σ.gA g, 8, none⟩ v') := by
  obtain ⟨u, _, hgo, h6, _⟩ := h.gorAt hg
  have hl : (gd.regs.map (encV σ)).length = 6 := by rw [List.length_map]; exact h6
  have hb : v.ownBlock ≠ some (σ.gA g) := hr.row_ne hcell (by decide)
  have K1 : Keep (fun b => ow b = some (.gor g)) w (w2.setCell ⟨σ.gA g, 8, none⟩ v') := (hk.mono (fun b _ e => hr.2 b e)).setCell (p := ⟨σ.gA g, 8, none⟩) hgo v'
  have c2 := (hk.block (σ.gA g) (blk_lt hcell) hb).trans hcell
  have hnm : ∀ b, v'.ownBlock = some b → b ≠ σ.gA g := fun b hb2 e => (hn b hb2).elim (fun h => hb (e ▸ h)) (fun h => by have := blk_lt hcell; omega)
  refine h.gor_put hg h6 K1 (v := v') ((heap_setCell_same w2 _ 8 _ _ _ c2).trans ?_) (.anew (owns_keep ho ((Keep.refl (fun b => b = σ.gA g) w2).setCell (p := ⟨σ.gA g, 8, none⟩) rfl v') (fun b hb2 e => hnm b hb2 e)) (fun b hb2 => (hn b hb2).imp (fun h => ⟨own_lt hr.1 b h, hr.2 b h⟩) id))
  congr 2
  unfold gorCells
  simp [hl]
def withW (σ : Lay) (n b : Nat) : Lay := ⟨σ.mb, σ.gA, σ.cA, σ.bA, fun i => if i = n then b else σ.wA i⟩
theorem agree_withW (m : MachD) (σ : Lay) (b : Nat) : Agree m σ (withW σ m.ws.length b) := ⟨rfl, fun _ _ => rfl, fun _ _ => rfl, fun _ _ => rfl, fun i hi => by unfold withW; simp only; rw [if_neg (by omega)]⟩
theorem Agree.trans {m m' : MachD} {σ1 σ2 σ3 : Lay} (h : Agree m σ1 σ2) (k : Agree m' σ2 σ3) (h1 : m.gors.length ≤ m'.gors.length) (h2 : m.chans.length ≤ m'.chans.length) (h3 : m.boxes.length ≤ m'.boxes.length) (h4 : m.ws.length ≤ m'.ws.length) : Agree m σ1 σ3 :=
  ⟨k.mb.trans h.mb, fun i hi => (k.g i (by omega)).trans (h.g i hi), fun i hi => (k.c i (by omega)).trans (h.c i hi), fun i hi => (k.b i (by omega)).trans (h.b i hi), fun i hi => (k.w i (by omega)).trans (h.w i hi)⟩
theorem Agree.refl (m : MachD) (σ : Lay) : Agree m σ σ := ⟨rfl, fun _ _ => rfl, fun _ _ => rfl, fun _ _ => rfl, fun _ _ => rfl⟩
theorem Inv.addW (h : Inv B P σ ow m w) {Q : List Nat} (ok : Ok { m with queue := Q }) (hq : ∀ g ∈ m.queue, g < m.gors.length) {wb : Nat} {wd : WaitD} (hb : Below w.heap.size w w1) (hwb : w.heap.size ≤ wb) (hcell : w1.heap[wb]? = some (.cells (waitCells (withW σ m.ws.length wb) wd) 172 (0, 0))) :
    Inv B P (withW σ m.ws.length wb) (frm ow w.heap.size (some (.wt m.ws.length))) { m with ws := m.ws ++ [wd] } w1 := by
  have h1 := h.agreeQ ok hq (agree_withW m σ wb)
  refine h1.newWait (.of (.of_below hb)) h.frm_base ⟨?_, frm_ge ?_⟩
  · show w1.heap[(withW σ m.ws.length wb).wA m.ws.length]? = _
    have : (withW σ m.ws.length wb).wA m.ws.length = wb := by unfold withW; simp
    rw [this]
    exact hcell
  · have : (withW σ m.ws.length wb).wA m.ws.length = wb := by unfold withW; simp
    rw [this]
    exact hwb
end
def ResN (B : Nat) (P : Value) (σ : Lay) (ow : Owns) (m m' : MachD) (w w' : World) : Prop :=
  ∃ σ' ow', Inv B P σ' ow' m' w' ∧ Agree m σ σ' ∧ Keep (fun b => ow b ≠ none) w w' ∧ OwMore w ow ow'
section
variable {B : Nat} {P : Value} {σ : Lay} {ow ow' : Owns} {w w' w1 w2 w3 : World} {m m' : MachD}
def withC (σ : Lay) (n b : Nat) : Lay := ⟨σ.mb, σ.gA, fun i => if i = n then b else σ.cA i, σ.bA, σ.wA⟩
def withB (σ : Lay) (n b : Nat) : Lay := ⟨σ.mb, σ.gA, σ.cA, fun i => if i = n then b else σ.bA i, σ.wA⟩
def withG (σ : Lay) (n b : Nat) : Lay := ⟨σ.mb, fun i => if i = n then b else σ.gA i, σ.cA, σ.bA, σ.wA⟩
theorem agree_withC (m : MachD) (σ : Lay) (b : Nat) : Agree m σ (withC σ m.chans.length b) := ⟨rfl, fun _ _ => rfl, fun i hi => by unfold withC; simp only; rw [if_neg (by omega)], fun _ _ => rfl, fun _ _ => rfl⟩
theorem agree_withB (m : MachD) (σ : Lay) (b : Nat) : Agree m σ (withB σ m.boxes.length b) := ⟨rfl, fun _ _ => rfl, fun _ _ => rfl, fun i hi => by unfold withB; simp only; rw [if_neg (by omega)], fun _ _ => rfl⟩
theorem agree_withG (m : MachD) (σ : Lay) (b : Nat) : Agree m σ (withG σ m.gors.length b) := ⟨rfl, fun i hi => by unfold withG; simp only; rw [if_neg (by omega)], fun _ _ => rfl, fun _ _ => rfl, fun _ _ => rfl⟩
theorem Inv.addC (h : Inv B P σ ow m w) (ok : Ok m) {cb : Nat} {n : Int} (hb : Below w.heap.size w w1) (hcb : w.heap.size ≤ cb) (hcell : w1.heap[cb]? = some (.cells #[.int .i64 n, .bool false, .slice none 0 0, .slice none 0 0, .slice none 0 0] 124 (0, 0))) :
    Inv B P (withC σ m.chans.length cb) (frm ow w.heap.size (some (.chan m.chans.length))) { m with chans := m.chans ++ [⟨n, false, [], [], []⟩] } w1 := by
  have h1 := h.agree ok (agree_withC m σ cb)
  have e : (withC σ m.chans.length cb).cA m.chans.length = cb := by unfold withC; simp
  refine h1.newChan (.of (.of_below hb)) h.frm_base ⟨.slice none 0 0, .slice none 0 0, .slice none 0 0, ⟨?_, ?_⟩, ⟨World.ownsRow_nil _ _ _ _, fun b hb => by cases hb⟩, ⟨World.ownsRow_nil _ _ _ _, fun b hb => by cases hb⟩, ⟨World.ownsRow_nil _ _ _ _, fun b hb => by cases hb⟩, fun b hb => by cases hb⟩
  · rw [e]; exact hcell
  · rw [e]; exact frm_ge hcb
theorem Inv.addB (h : Inv B P σ ow m w) (ok : Ok m) {bb : Nat} {y : PV} (hy : okV m y) (hb : Below w.heap.size w w1) (hbb : w.heap.size ≤ bb) (hcell : w1.heap[bb]? = some (.cells #[encV σ y] 129 (0, 0))) :
    Inv B P (withB σ m.boxes.length bb) (frm ow w.heap.size (some (.box m.boxes.length))) { m with boxes := m.boxes ++ [y] } w1 := by
  have h1 := h.agree ok (agree_withB m σ bb)
  have e : (withB σ m.boxes.length bb).bA m.boxes.length = bb := by unfold withB; simp
  refine h1.newBox (.of (.of_below hb)) h.frm_base ⟨?_, ?_⟩
  · rw [e, encV_agree (agree_withB m σ bb) hy]; exact hcell
  · rw [e]; exact frm_ge hbb
end
theorem six_of {l : List PV} (h : l.length = 6) : ∃ a b c d e f, l = [a, b, c, d, e, f] := by
  match l, h with
  | [a, b, c, d, e, f], _ => exact ⟨a, b, c, d, e, f, rfl⟩
set_option maxRecDepth 100000 in
set_option maxHeartbeats 3200000 in
theorem madd_any {B : Nat} {P : Value} {σ : Lay} {ow : Owns} {m : MachD} {w : World} (h : Inv B P σ ow m w) (ok : Ok m) (fit : Fit m) (r0 r1 r2 r3 r4 r5 : PV) (hr : ∀ y ∈ [r0, r1, r2, r3, r4, r5], okV m y) (pc : Int) :
    Calls Tryz.prog 28 #[.pointer (some ⟨σ.mb, 0, none⟩), .agg #[encV σ r0, encV σ r1, encV σ r2, encV σ r3, encV σ r4, encV σ r5], .int .i64 pc] w fun e w' => e = .returned (.tuple #[]) ∧ ResN B P σ ow m (m.add [r0, r1, r2, r3, r4, r5] pc) w w' := by
  obtain ⟨q, tv, ev, sv, G0, G1, G2, G3, hM⟩ := h.machC
  obtain ⟨nq, hnq⟩ : ∃ nq, m.queue.length = nq := ⟨_, rfl⟩
  obtain ⟨ng, hng⟩ : ∃ ng, m.gors.length = ng := ⟨_, rfl⟩
  have hnm : nq ≤ 1000000 := by rw [← hnq]; exact Nat.le_trans ok.queueLen fit.gors
  have hgm : ng ≤ 1000000 := by rw [← hng]; exact fit.gors
  obtain ⟨mb, hmb⟩ : ∃ mb, σ.mb = mb := ⟨_, rfl⟩
  have hcell := hM.cells.1
  rw [hmb] at hcell ⊢
  obtain ⟨_, c1, _, _, c8, _, _, _, cf⟩ := mach_cells hcell
  rw [hng] at c8
  have f1 := cf 1
  have f8 := cf 8
  have hmw := blk_lt hcell
  obtain ⟨T0, U0, e0⟩ := encV_iface σ r0
  obtain ⟨T1, U1, e1⟩ := encV_iface σ r1
  obtain ⟨T2, U2, e2⟩ := encV_iface σ r2
  obtain ⟨T3, U3, e3⟩ := encV_iface σ r3
  obtain ⟨T4, U4, e4⟩ := encV_iface σ r4
  obtain ⟨T5, U5, e5⟩ := encV_iface σ r5
  have HV := hidP (⟨e0, e1, e2, e3, e4, e5⟩ : _ ∧ _ ∧ _ ∧ _ ∧ _ ∧ _)
  rw [e0, e1, e2, e3, e4, e5]
  have HQ := hidP (hnq ▸ hM.queue.1 : w.ownsRow B 95 1 q nq (gPtrs σ m.queue))
  have HX := hidP (⟨h, ok, fit, hM, hr, hnq, hng, hmb⟩ : _ ∧ _ ∧ _ ∧ _ ∧ _ ∧ _ ∧ _ ∧ _)
  have HCL := hidP hcell
  have HAP := hidP (show q.ownBlock ≠ some mb by rw [← hmb]; exact hM.apart.1.1)
  have hsB := h.size
  have wng : IntKind.i64.wrap ((ng : Int) + 1) = (ng : Int) + 1 := IntWalk.i64_in _ (by omega)
  clear h ok fit hM hr hnq hng hmb hcell cf e0 e1 e2 e3 e4 e5
  go_enter Tryz.func28, Tryz.ntmps28
  go_upto_region 1 with fail
  have hb0 : Below w.heap.size w (w.alloc (.cells #[.iface T0 U0, .iface T1 U1, .iface T2 U2, .iface T3 U3, .iface T4 U4, .iface T5 U5] 68)) := bnew (brefl w) _
  have hxb := heap_alloc_new w (.cells #[.iface T0 U0, .iface T1 U1, .iface T2 U2, .iface T3 U3, .iface T4 U4, .iface T5 U5] 68)
  have s1 := (hb0.cell (p := ⟨mb, 1, none⟩) hmw).trans c1
  have s8 := (hb0.cell (p := ⟨mb, 8, none⟩) hmw).trans c8
  have z1 := (hb0.frozen (p := ⟨mb, 1, none⟩) hmw).trans f1
  have z8 := (hb0.frozen (p := ⟨mb, 8, none⟩) hmw).trans f8
  obtain ⟨ib, hib⟩ : ∃ ib, w.heap.size = ib := ⟨_, rfl⟩
  rw [hib] at hxb ⊢
  have HQ0 := hidP (owns_below HQ.out hb0)
  have HCL0 := hidP ((hb0.block mb hmw).trans HCL.out)
  generalize w.alloc (.cells #[.iface T0 U0, .iface T1 U1, .iface T2 U2, .iface T3 U3, .iface T4 U4, .iface T5 U5] 68) = W0 at *
  have i0 := cell_of_row W0 ib 0 _ _ (0, 0) hxb
  have i1 := cell_of_row W0 ib 1 _ _ (0, 0) hxb
  have i2 := cell_of_row W0 ib 2 _ _ (0, 0) hxb
  have i3 := cell_of_row W0 ib 3 _ _ (0, 0) hxb
  have i4 := cell_of_row W0 ib 4 _ _ (0, 0) hxb
  have i5 := cell_of_row W0 ib 5 _ _ (0, 0) hxb
  simp at i0 i1 i2 i3 i4 i5
  have HB0 := hidP hb0
  have hsB0 : B ≤ W0.heap.size := by have := hb0.size; omega
  clear hb0 hxb c1 c8 f1 f8 hmw
  have hSS : (fun w' : World => w'.cell? ⟨mb, 1, none⟩ = some q ∧ w'.cell? ⟨mb, 8, none⟩ = some (.int .i64 ng) ∧ w'.cell? ⟨ib, 0, none⟩ = some (.iface T0 U0) ∧ w'.cell? ⟨ib, 1, none⟩ = some (.iface T1 U1) ∧ w'.cell? ⟨ib, 2, none⟩ = some (.iface T2 U2) ∧ w'.cell? ⟨ib, 3, none⟩ = some (.iface T3 U3) ∧ w'.cell? ⟨ib, 4, none⟩ = some (.iface T4 U4) ∧ w'.cell? ⟨ib, 5, none⟩ = some (.iface T5 U5)) W0.drew := ⟨s1, s8, i0, i1, i2, i3, i4, i5⟩
  refine OrdG.begin (fun w' : World => w'.cell? ⟨mb, 1, none⟩ = some q ∧ w'.cell? ⟨mb, 8, none⟩ = some (.int .i64 ng) ∧ w'.cell? ⟨ib, 0, none⟩ = some (.iface T0 U0) ∧ w'.cell? ⟨ib, 1, none⟩ = some (.iface T1 U1) ∧ w'.cell? ⟨ib, 2, none⟩ = some (.iface T2 U2) ∧ w'.cell? ⟨ib, 3, none⟩ = some (.iface T3 U3) ∧ w'.cell? ⟨ib, 4, none⟩ = some (.iface T4 U4) ∧ w'.cell? ⟨ib, 5, none⟩ = some (.iface T5 U5)) 17 (by kernel_rfl) hSS ?_
  refine OrdG.ty 0 _ rfl (.inl hSS) ?_
  simp only [Act.put, stA, stS, stZ]
  refine OrdG.ty 1 _ rfl (.inl hSS) ?_
  simp only [Act.put, stA, stS, stZ]
  refine OrdG.ty 2 _ rfl (.inl hSS) ?_
  simp only [Act.put, stA, stS, stZ]
  refine OrdG.ty 3 _ rfl (.inl hSS) ?_
  simp only [Act.put, stA, stS, stZ]
  refine OrdG.tk 4 _ rfl (by assumption) ?_
  simp only [Act.put, stA, stS, stZ]
  refine OrdG.ty 5 _ rfl (.inl hSS) ?_
  simp only [Act.put, stA, stS, stZ]
  refine OrdG.ty 6 _ rfl (.inl hSS) ?_
  simp only [Act.put, stA, stS, stZ]
  refine OrdG.ty 7 _ rfl (.inl hSS) ?_
  simp only [Act.put, stA, stS, stZ]
  refine OrdG.tk 8 _ rfl (by assumption) ?_
  simp only [Act.put, stA, stS, stZ]
  refine OrdG.ty 9 _ rfl (.inl hSS) ?_
  simp only [Act.put, stA, stS, stZ]
  refine OrdG.tk 10 _ rfl (by assumption) ?_
  simp only [Act.put, stA, stS, stZ]
  refine OrdG.ty 11 _ rfl (.inl hSS) ?_
  simp only [Act.put, stA, stS, stZ]
  refine OrdG.one (i := 12) (by kernel_rfl) rfl (fun K hK => ?_)
  go_simp
  refine hK.out _ _ (.inl (by go_keep)) ?_
  clear hK
  refine OrdG.one (i := 13) (by kernel_rfl) rfl (fun K hK => ?_)
  go_simp
  refine hK.out _ _ (.inl (by go_keep)) ?_
  clear hK
  refine OrdG.one (i := 14) (by kernel_rfl) rfl (fun K hK => ?_)
  refine step_app _ rfl (.tmp 10) (.tmp 19) rfl Tryz.slGor B q nq _ rfl ((HQ0.out.alloc _).alloc _) (some ⟨W0.heap.size + 1, 0, none⟩) 1 1 [.pointer (some ⟨W0.heap.size, 0, none⟩)] (by simp [Act.eval, Act.put]) (nq + 1) rfl (row_new _ [.pointer (some ⟨W0.heap.size, 0, none⟩)] _ _ (by simp)) rfl (by simp; rfl) (by omega) (by unfold maxLen; omega) (Nat.le_trans hsB0 (by simp; omega)) ?_
  intro a2 c2 w2 ho2 hg2 hw2
  obtain ⟨WA, hWA⟩ : ∃ WA, WA = ((W0.alloc (.cells #[.int .i64 ng, .int .i64 pc, .iface T0 U0, .iface T1 U1, .iface T2 U2, .iface T3 U3, .iface T4 U4, .iface T5 U5, .slice none 0 0] 98)).alloc (.cells #[.pointer (some ⟨W0.heap.size, 0, none⟩)] 95)).drew := ⟨_, rfl⟩
  rw [← hWA] at hg2 hw2
  have hbA : Below W0.heap.size W0 WA := by rw [hWA]; exact (bnew (bnew (brefl W0) _) _).drew
  have hgA : WA.heap[W0.heap.size]? = some (.cells #[.int .i64 ng, .int .i64 pc, .iface T0 U0, .iface T1 U1, .iface T2 U2, .iface T3 U3, .iface T4 U4, .iface T5 U5, .slice none 0 0] 98 (0, 0)) := by
    rw [hWA]
    exact (Below.heap_alloc (W0.alloc _) _ W0.heap.size (by simp)).trans (heap_alloc_new W0 _)
  clear hWA
  have hqi : q.ownBlock ≠ some ib := by intro e; have := own_lt HQ.out ib e; omega
  have kp2 : Keep (fun b => q.ownBlock = some b) WA w2 := .of_grown hg2 (fun k hk => hk)
  have kp0 : Keep (fun b => q.ownBlock = some b) W0 w2 := (Keep.of_below hbA).trans kp2
  have hm2 := (kp0.block mb (blk_lt HCL0.out) HAP.out).trans HCL0.out
  have n1 := Keep.cell (p := ⟨mb, 1, none⟩) kp0 HAP.out s1
  have n8 := Keep.cell (p := ⟨mb, 8, none⟩) kp0 HAP.out s8
  have j0 := Keep.cell (p := ⟨ib, 0, none⟩) kp0 hqi i0
  have j1 := Keep.cell (p := ⟨ib, 1, none⟩) kp0 hqi i1
  have j2 := Keep.cell (p := ⟨ib, 2, none⟩) kp0 hqi i2
  have j3 := Keep.cell (p := ⟨ib, 3, none⟩) kp0 hqi i3
  have j4 := Keep.cell (p := ⟨ib, 4, none⟩) kp0 hqi i4
  have j5 := Keep.cell (p := ⟨ib, 5, none⟩) kp0 hqi i5
  have zn1 := frozen_of_row w2 mb 1 _ _ hm2
  have zn8 := frozen_of_row w2 mb 8 _ _ hm2
  have HO2 := hidP ho2
  have KP2 := hidP kp2
  have HW2 := hidP hw2
  have HM2 := hidP hm2
  have HBA := hidP hbA
  have HGA := hidP hgA
  clear ho2 kp2 kp0 hw2 hg2 hm2 hbA hgA s1 s8 z1 z8 i0 i1 i2 i3 i4 i5
  refine hK.out _ _ (.inl ⟨n1, n8, j0, j1, j2, j3, j4, j5⟩) ?_
  clear hK
  refine OrdG.ty 15 _ rfl (.inl ⟨n1, n8, j0, j1, j2, j3, j4, j5⟩) ?_
  simp only [Act.put, stA, stS, stZ]
  refine OrdG.ty 16 _ rfl (.inl ⟨n1, n8, j0, j1, j2, j3, j4, j5⟩) ?_
  simp only [Act.put, stA, stS, stZ]
  refine OrdG.one (i := 17) (by kernel_rfl) rfl (fun K hK => ?_)
  go_simp
  refine hK.out _ _ (.inr (by kernel_rfl)) ?_
  clear hK
  refine OrdG.done (by kernel_rfl) ?_ _
  clear hSS
  go_wp2
  first | go_end0 | ((try simp only [Exit.inBlock, Exit.then]); refine bodyPost_ret (results_none rfl _ _ _) rfl ?_)
  obtain ⟨h, ok, fit, hM, hr, hnq, hng, hmb⟩ := HX.out
  obtain ⟨e0, e1, e2, e3, e4, e5⟩ := HV.out
  refine ⟨rfl, ?_⟩
  have hbw : Below w.heap.size w WA := HB0.out.trans (HBA.out.mono HB0.out.size)
  have ag := agree_withG m σ W0.heap.size
  have h1 := h.agree ok ag
  have hge : (withG σ m.gors.length W0.heap.size).gA m.gors.length = W0.heap.size := by unfold withG; simp
  have hEnc : ∀ y, okV m y → encV (withG σ m.gors.length W0.heap.size) y = encV σ y := fun y hy => encV_agree ag hy
  obtain ⟨q', tv', ev', sv', H0, H1, H2, H3, hM1⟩ := h1.machC
  obtain ⟨u1, u2, u3, u4⟩ := hM1.names hM.cells.1
  subst u1 u2 u3 u4
  have st1 : StepO (.gor m.gors.length) ow w (frm ow w.heap.size (some (.gor m.gors.length))) WA := .of (.of_below hbw)
  have hMA := hM1.step st1 (by intro e; cases e)
  have hG : GorIs B (withG σ m.gors.length W0.heap.size) (frm ow w.heap.size (some (.gor m.gors.length))) WA m.gors.length ⟨pc, [r0, r1, r2, r3, r4, r5], []⟩ := by
    refine ⟨rfl, .slice none 0 0, ⟨?_, ?_⟩, World.ownsRow_nil _ _ _ _, fun b hb => by cases hb⟩
    · rw [hge, HGA.out]
      unfold gorCells
      simp only [List.map_cons, List.map_nil]
      rw [hEnc r0 (hr r0 (by simp)), hEnc r1 (hr r1 (by simp)), hEnc r2 (hr r2 (by simp)), hEnc r3 (hr r3 (by simp)), hEnc r4 (hr r4 (by simp)), hEnc r5 (hr r5 (by simp)), e0, e1, e2, e3, e4, e5, hng]
      rfl
    · rw [hge]; exact frm_ge HB0.out.size
  have hap := hMA.apart
  have hmbA : (withG σ m.gors.length W0.heap.size).mb = mb := hmb
  have cm := hMA.cells
  rw [hmbA] at cm
  have KK : Keep (fun b => (frm ow w.heap.size (some (.gor m.gors.length))) b = some .mach) WA ((w2.setCell ⟨mb, 1, none⟩ (.slice a2 (nq + 1) c2)).setCell ⟨mb, 8, none⟩ (.int .i64 ((ng : Int) + 1))) :=
    ((KP2.out.mono (fun b _ e => hMA.queue.2 b e)).setCell (p := ⟨mb, 1, none⟩) cm.2 _).setCell (p := ⟨mb, 8, none⟩) cm.2 _
  have K2 : Keep (fun b => q'.ownBlock = some b ∨ b = mb) WA ((w2.setCell ⟨mb, 1, none⟩ (.slice a2 (nq + 1) c2)).setCell ⟨mb, 8, none⟩ (.int .i64 ((ng : Int) + 1))) :=
    ((KP2.out.mono (fun b _ e => .inl e)).setCell (p := ⟨mb, 1, none⟩) (.inr rfl) _).setCell (p := ⟨mb, 8, none⟩) (.inr rfl) _
  rw [hmbA] at hap
  have hbase : ∀ b o, frm (frm ow w.heap.size (some (.gor m.gors.length))) WA.heap.size (some .mach) b = some o → B ≤ b := by
    intro b o hb
    have hs := h.size
    rcases Nat.lt_or_ge b w.heap.size with hl | hl
    · rw [frm_lt (Nat.lt_of_lt_of_le hl hbw.size), frm_lt hl] at hb
      exact h.base b o hb
    · omega
  have hnew : ∀ b, (Value.slice a2 (nq + 1) c2).ownBlock = some b → q'.ownBlock = some b ∨ WA.heap.size ≤ b := fun b hb => by
    rcases HW2.out with hh | hh
    · exact .inl (hh.symm.trans hb)
    · rw [hh] at hb; cases hb; exact .inr (Nat.le_refl _)
  have hnm2 : ∀ b, (Value.slice a2 (nq + 1) c2).ownBlock = some b → b ≠ mb := fun b hb e => (hnew b hb).elim (fun hh => HAP.out (e ▸ hh)) (fun hh => by have := blk_lt cm.1; omega)
  have S2 : Keep (fun b => b = mb) w2 ((w2.setCell ⟨mb, 1, none⟩ (.slice a2 (nq + 1) c2)).setCell ⟨mb, 8, none⟩ (.int .i64 ((ng : Int) + 1))) :=
    ((Keep.refl (fun b => b = mb) w2).setCell (p := ⟨mb, 1, none⟩) rfl _).setCell (p := ⟨mb, 8, none⟩) rfl _
  have hfinal := h1.newGor st1 hG (StepO.of KK) hbase (m' := m.add [r0, r1, r2, r3, r4, r5] pc) rfl rfl rfl rfl ?_
  · refine ⟨_, _, hfinal, ag, ?_, ?_⟩
    · exact (Keep.of_below hbw).then (KK.mono (fun b _ e => e)) (fun i hi e => by rw [frm_lt hi] at e; rw [e]; simp)
    · exact (OwMore.frm _).trans hbw.size (.frm _)
  · refine ⟨.slice a2 (nq + 1) c2, tv', ev', sv', H0, H1, H2, H3, hMA.gl, ?_, ?_, ?_, ?_, ?_⟩
    · rw [hmbA]
      refine cm.anew ?_
      refine (heap_setCell_same _ mb 8 _ _ _ (heap_setCell_same w2 mb 1 _ _ _ ((KP2.out.block mb (blk_lt cm.1) HAP.out).trans cm.1))).trans ?_
      have : (m.add [r0, r1, r2, r3, r4, r5] pc).gors.length = ng + 1 := by show (m.gors ++ [_]).length = _; rw [List.length_append, hng]; rfl
      rw [this]
      rfl
    · refine .anew (owns_keep ?_ S2 (fun b hb e => hnm2 b hb e)) (fun b hb => (hnew b hb).imp (fun hh => ⟨own_lt hMA.queue.1 b hh, hMA.queue.2 b hh⟩) id)
      have e1 : gPtrs (withG σ m.gors.length W0.heap.size) (m.queue ++ [m.gors.length]) = gPtrs σ m.queue ++ [.pointer (some ⟨W0.heap.size, 0, none⟩)] := by
        unfold gPtrs
        rw [List.map_append, List.map_cons, List.map_nil, hge]
        congr 1
        exact List.map_congr_left fun k hk => by obtain ⟨z, hz, _⟩ := ok.queue k hk; rw [ag.g k (lt_of_some hz)]
      show w2.ownsRow B _ 1 _ (m.queue ++ [m.gors.length]).length (gPtrs _ (m.queue ++ [m.gors.length]))
      rw [e1, List.length_append, hnq]
      exact HO2.out
    · exact hMA.timers.stay K2 (fun b h1 h2 => h2.elim (fun h2 => (hap.2.2.1 b h1).1 h2) (fun h2 => hap.1.2.1 (h2 ▸ h1))) (.frm _)
    · exact hMA.events.stay K2 (fun b h1 h2 => h2.elim (fun h2 => (hap.2.2.2.1 b h1).1 h2) (fun h2 => hap.1.2.2.1 (h2 ▸ h1))) (.frm _)
    · exact hMA.steps.stay K2 (fun b h1 h2 => h2.elim (fun h2 => (hap.2.2.2.2 b h1).1 h2) (fun h2 => hap.1.2.2.2 (h2 ▸ h1))) (.frm _)
theorem glob_cell {B : Nat} {P : Value} {σ : Lay} {ow : Owns} {m : MachD} {w : World} (h : Inv B P σ ow m w) {n : Nat} (hn : n < 4) : w.cell? ⟨σ.mb, 2 + n, none⟩ = some (encV σ (m.globals.getD n (.num 0))) ∧ w.frozen? ⟨σ.mb, 2 + n, none⟩ = false := by
  obtain ⟨q, tv, ev, sv, G0, G1, G2, G3, hM⟩ := h.machC
  refine ⟨?_, frozen_of_row w _ _ _ _ hM.cells.1⟩
  rw [cell_of_row w _ (2 + n) _ _ (0, 0) hM.cells.1, hM.gl]
  have h4 : n = 0 ∨ n = 1 ∨ n = 2 ∨ n = 3 := by omega
  rcases h4 with rfl | rfl | rfl | rfl <;> rfl
theorem Inv.globPut {B : Nat} {P : Value} {σ : Lay} {ow : Owns} {m : MachD} {w : World} (h : Inv B P σ ow m w) {n : Nat} (hn : n < 4) (y : PV) : Res B P σ ow { m with globals := m.globals.set n y } w (w.setCell ⟨σ.mb, 2 + n, none⟩ (encV σ y)) := by
  obtain ⟨q, tv, ev, sv, G0, G1, G2, G3, hM⟩ := h.machC
  have hk : Keep (fun b => b = σ.mb) w (w.setCell ⟨σ.mb, 2 + n, none⟩ (encV σ y)) := (Keep.refl (fun b => b = σ.mb) w).setCell (p := ⟨σ.mb, 2 + n, none⟩) rfl _
  have hc := heap_setCell_same w σ.mb (2 + n) _ _ (encV σ y) hM.cells.1
  have h4 : n = 0 ∨ n = 1 ∨ n = 2 ∨ n = 3 := by omega
  rcases h4 with rfl | rfl | rfl | rfl
  · exact h.wordPut hM (m' := { m with globals := m.globals.set 0 y }) (by show m.globals.set 0 y = _; rw [hM.gl]; rfl) rfl rfl rfl rfl rfl rfl rfl rfl hk hc
  · exact h.wordPut hM (m' := { m with globals := m.globals.set 1 y }) (by show m.globals.set 1 y = _; rw [hM.gl]; rfl) rfl rfl rfl rfl rfl rfl rfl rfl hk hc
  · exact h.wordPut hM (m' := { m with globals := m.globals.set 2 y }) (by show m.globals.set 2 y = _; rw [hM.gl]; rfl) rfl rfl rfl rfl rfl rfl rfl rfl hk hc
  · exact h.wordPut hM (m' := { m with globals := m.globals.set 3 y }) (by show m.globals.set 3 y = _; rw [hM.gl]; rfl) rfl rfl rfl rfl rfl rfl rfl rfl hk hc
theorem ResN.undrew {B : Nat} {P : Value} {σ : Lay} {ow : Owns} {m m' : MachD} {w w' : World} (h : ResN B P σ ow m m' w.drew w') : ResN B P σ ow m m' w w' := by
  obtain ⟨σ', ow', h1, h2, h3, h4⟩ := h
  exact ⟨σ', ow', h1, h2, ⟨h3.os, h3.tape, h3.output, h3.size, h3.block⟩, h4⟩
theorem bdrewN' {w a : World} (h : Below w.heap.size w a) (n : Nat) : Below w.heap.size w (a.drewN n) := ⟨h.os, h.tape, h.output, h.size, h.block⟩
structure OkI (x : InstrD) : Prop where
  a : 0 ≤ x.a ∧ x.a < 6
  b : 0 ≤ x.b ∧ x.b < 6
  n : 0 ≤ x.n ∧ x.n ≤ 10000
  put : x.op = 18 ∨ x.op = 19 → x.n < 4
  cases : ∀ c ∈ x.cases, OkCase c
  few : x.cases.length ≤ 3
set_option maxRecDepth 100000 in
set_option maxHeartbeats 3200000 in
theorem words_any {B : Nat} {P : Value} {σ : Lay} {ow : Owns} {m : MachD} {w : World} (h : Inv B P σ ow m w) (ok : Ok m) (fit : Fit m) {tb g c4 : Nat} {x : InstrD} {A4 : Option Addr} {draw : Int} (ht : IsTurn σ ow w tb g x A4 c4 draw) {gd : GorD} (hg : m.gors[g]? = some gd) (hx : OkI x) (hpc : gd.pc ≤ 9999) :
    Calls Tryz.prog 69 #[.pointer (some ⟨tb, 0, none⟩)] w fun e w' => e = .returned (.tuple #[]) ∧ ResN B P σ ow m (m.words g x) w w' := by
  obtain ⟨t0, t1, t2, t3, t4, t5, t6, t7⟩ := ht.cells
  obtain ⟨v, hgc, hgo, h6, g0, g1, gr, _, gf⟩ := h.gorAt hg
  have opc := (ok.gor g gd hg).pc
  have wpc : IntKind.i64.wrap (gd.pc + 1) = gd.pc + 1 := IntWalk.i64_in _ (by omega)
  have f1 := gf 1
  obtain ⟨gb, hgb⟩ : ∃ gb, σ.gA g = gb := ⟨_, rfl⟩
  rw [hgb] at t1 g1 f1
  have hgt : gb ≠ tb := by rw [← hgb]; intro e; rw [e, ht.free] at hgo; cases hgo
  have HX := hidP (⟨h, ok, fit, ht, hg, hx, hgb, opc⟩ : _ ∧ _ ∧ _ ∧ _ ∧ _ ∧ _ ∧ _ ∧ _)
  obtain ⟨nc, hnc⟩ : ∃ nc, x.cases.length = nc := ⟨_, rfl⟩
  rw [hnc] at t6
  have HNC := hidP hnc
  obtain ⟨xo, xa, xb, xn, xc⟩ := x
  dsimp only at t2 t3 t4 t5
  clear h ok fit ht hg hx hgb hgc hgo h6 g0 gr gf t7 hnc opc
  go_enter Tryz.func69, Tryz.ntmps69
  go_upto_region 0 with fail
  have hSS : (fun w' : World => w'.cell? ⟨tb, 1, none⟩ = some (.pointer (some ⟨gb, 0, none⟩)) ∧ w'.cell? ⟨tb, 2, none⟩ = some (.int .i64 xo) ∧ w'.cell? ⟨tb, 3, none⟩ = some (.int .i64 xa) ∧ w'.cell? ⟨tb, 4, none⟩ = some (.int .i64 xb) ∧ w'.cell? ⟨tb, 5, none⟩ = some (.int .i64 xn) ∧ w'.cell? ⟨tb, 6, none⟩ = some (.slice A4 nc c4)) w.drew := ⟨t1, t2, t3, t4, t5, t6⟩
  refine OrdG.begin (fun w' : World => w'.cell? ⟨tb, 1, none⟩ = some (.pointer (some ⟨gb, 0, none⟩)) ∧ w'.cell? ⟨tb, 2, none⟩ = some (.int .i64 xo) ∧ w'.cell? ⟨tb, 3, none⟩ = some (.int .i64 xa) ∧ w'.cell? ⟨tb, 4, none⟩ = some (.int .i64 xb) ∧ w'.cell? ⟨tb, 5, none⟩ = some (.int .i64 xn) ∧ w'.cell? ⟨tb, 6, none⟩ = some (.slice A4 nc c4)) 12 (by kernel_rfl) hSS ?_
  refine OrdG.ty 0 _ rfl (.inl hSS) ?_
  simp only [Act.put, stA, stS, stZ]
  refine OrdG.ty 1 _ rfl (.inl hSS) ?_
  simp only [Act.put, stA, stS, stZ]
  refine OrdG.ty 2 _ rfl (.inl hSS) ?_
  simp only [Act.put, stA, stS, stZ]
  refine OrdG.tk 3 _ rfl (by assumption) ?_
  simp only [Act.put, stA, stS, stZ]
  refine OrdG.ty 4 _ rfl (.inl hSS) ?_
  simp only [Act.put, stA, stS, stZ]
  refine OrdG.ty 5 _ rfl (.inl hSS) ?_
  simp only [Act.put, stA, stS, stZ]
  refine OrdG.ty 6 _ rfl (.inl hSS) ?_
  simp only [Act.put, stA, stS, stZ]
  refine OrdG.ty 7 _ rfl (.inl hSS) ?_
  simp only [Act.put, stA, stS, stZ]
  refine OrdG.ty 8 _ rfl (.inl hSS) ?_
  simp only [Act.put, stA, stS, stZ]
  refine OrdG.tk 9 _ rfl (by assumption) ?_
  simp only [Act.put, stA, stS, stZ]
  refine OrdG.one (i := 10) (by kernel_rfl) rfl (fun K hK => ?_)
  go_simp
  refine hK.out _ _ (.inl (by go_keep)) ?_
  clear hK
  refine OrdG.takeY (i := 11) (v := ?_) rfl (by kernel_rfl) (by kernel_rfl) (by kernel_rfl) (by kernel_rfl) (fun _ _ _ h => h) (Or.inl ⟨by rfl, ?_⟩) (.inl (by go_keep)) ?_
  rotate_left
  · ((intro w hSw; (try dsimp only at hSw); go_simp) <;> (try with_reducible rfl))
  simp only [Act.put, stA, stS, stZ]
  refine OrdG.one (i := 12) (by kernel_rfl) rfl (fun K hK => ?_)
  go_simp
  refine hK.out _ _ (.inr (by kernel_rfl)) ?_
  clear hK
  refine OrdG.done (by kernel_rfl) ?_ _
  clear hSS
  obtain ⟨h, ok, fit, ht, hg, hx, hgb, opc⟩ := HX.out
  have hb0 : Below w.heap.size w (w.alloc (.cells #[.int .i64 xo, .int .i64 xa, .int .i64 xb, .int .i64 xn, .slice A4 nc c4] 56)).drew := (bnew (brefl w) _).drew
  have hxb : (w.alloc (.cells #[.int .i64 xo, .int .i64 xa, .int .i64 xb, .int .i64 xn, .slice A4 nc c4] 56)).drew.heap[w.heap.size]? = some (.cells #[.int .i64 xo, .int .i64 xa, .int .i64 xb, .int .i64 xn, .slice A4 nc c4] 56 (0, 0)) := heap_alloc_new w _
  obtain ⟨ib, hib⟩ : ∃ ib, w.heap.size = ib := ⟨_, rfl⟩
  have hgw : gb < ib := by rw [← hib]; exact World.block_lt_of_cell? w _ g1
  have htw : tb < ib := by rw [← hib]; exact World.block_lt_of_cell? w _ t1
  have s1 := (hb0.cell (p := ⟨tb, 1, none⟩) (show tb < w.heap.size by omega)).trans t1
  have sg := (hb0.cell (p := ⟨gb, 1, none⟩) (show gb < w.heap.size by omega)).trans g1
  have zg := (hb0.frozen (p := ⟨gb, 1, none⟩) (show gb < w.heap.size by omega)).trans f1
  have R1 := (h.below hb0).incPc (g := g) (gd := gd) hg
  have hxf : (frm ow w.heap.size none) ib = none := frm_ge (by omega)
  have ht0 := ht.below hb0
  rw [hgb] at R1
  rw [hib] at hxb ⊢
  generalize (w.alloc (.cells #[.int .i64 xo, .int .i64 xa, .int .i64 xb, .int .i64 xn, .slice A4 nc c4] 56)).drew = W0 at *
  have HB0 := hidP hb0
  have HT0 := hidP ht0
  have HXF := hidP hxf
  have HXB := hidP hxb
  have HRR := hidP R1
  have HIB := hidP hib
  clear h ok fit ht hg hx hgb opc hb0 hxb hib hxf ht0 R1 t0 t1 t2 t3 t4 t5 t6 g1 f1
  go_upto_region 2 with fail
  generalize hW1 : W0.setCell ⟨gb, 1, none⟩ (.int .i64 (gd.pc + 1)) = W1 at *
  clear s1 sg zg
  obtain ⟨h, ok, fit, ht, hg, hx, hgb, opc⟩ := HX.out
  have ha := hx.a
  have hbb := hx.b
  have hnn := hx.n
  dsimp only at ha hbb hnn
  obtain ⟨ow1, q1, q2, q3⟩ := HRR.out
  have hxb := (HRR.out.stay HXB.out HXF.out)
  have x0 : W1.cell? ⟨ib, 0, none⟩ = some (.int .i64 xo) := cell_of_row W1 ib 0 _ _ (0, 0) hxb
  have x1 : W1.cell? ⟨ib, 1, none⟩ = some (.int .i64 xa) := cell_of_row W1 ib 1 _ _ (0, 0) hxb
  have x2 : W1.cell? ⟨ib, 2, none⟩ = some (.int .i64 xb) := cell_of_row W1 ib 2 _ _ (0, 0) hxb
  have x3 : W1.cell? ⟨ib, 3, none⟩ = some (.int .i64 xn) := cell_of_row W1 ib 3 _ _ (0, 0) hxb
  have hg1 : (m.incPc g).gors[g]? = some ⟨gd.pc + 1, gd.regs, gd.waits⟩ := by
    unfold MachD.incPc MachD.setPc
    rw [gorAt_some hg]
    exact set_get (lt_of_some hg)
  have ok1 : Ok (m.incPc g) := by unfold MachD.incPc; rw [gorAt_some hg]; exact ok.setPc hg (by omega) (by omega)
  have l1 : Like m (m.incPc g) := like_setPc _ _
  have ht1 := HT0.out.keep q2 q3
  obtain ⟨t0, t1, _⟩ := ht1.cells
  obtain ⟨v1, gc1, go1, h61, y0, y1, yr, _, yf⟩ := q1.gorAt hg1
  obtain ⟨ka, hka, hka6⟩ := reg_nat ha.1 ha.2
  obtain ⟨kb, hkb, hkb6⟩ := reg_nat hbb.1 hbb.2
  obtain ⟨ra1, ra2⟩ := ok1.reg hg1 ha.1 ha.2
  obtain ⟨rb1, rb2⟩ := ok1.reg hg1 hbb.1 hbb.2
  rw [hka] at ra1 x1
  rw [hkb] at rb1 x2
  have gka := yr ka _ ra1
  have gkb := yr kb _ rb1
  rw [← hka] at gka
  rw [← hkb] at gkb
  rw [hgb] at t1 y0 y1 gka gkb yf
  have fka := yf (2 + ka)
  have f1 := yf 1
  have ea0 : (0 : Int) ≤ (ka : Int) := by omega
  have ea6 : (ka : Int) < 6 := by omega
  have eb0 : (0 : Int) ≤ (kb : Int) := by omega
  have eb6 : (kb : Int) < 6 := by omega
  obtain ⟨VA, VAU, hVA⟩ := encV_iface σ ((m.incPc g).reg g xa)
  obtain ⟨VB, VBU, hVB⟩ := encV_iface σ ((m.incPc g).reg g xb)
  have hw : m.words g ⟨xo, xa, xb, xn, xc⟩ = m.words g ⟨xo, xa, xb, xn, xc⟩ := rfl
  conv at hw => rhs; unfold MachD.words
  dsimp only at hw
  have HY := hidP (⟨q1, q2, q3, hg1, ok1, l1, ra2, rb2, ht1, hka, hkb, hVA, hVB⟩ : _ ∧ _ ∧ _ ∧ _ ∧ _ ∧ _ ∧ _ ∧ _ ∧ _ ∧ _ ∧ _ ∧ _ ∧ _)
  have HW := hidP hw
  have hfin : Hid (∀ mm W, Res B P σ ow1 mm W1 W → ResN B P σ ow m mm w W) := fun mm W hr => by
    obtain ⟨ow9, u1, u2, u3⟩ := Res.of_below HB0.out none (Res.trans q2 q3 hr)
    exact ⟨σ, ow9, u1, .refl _ _, u2, u3⟩
  have hfinN : Hid (∀ mm W, ResN B P σ ow1 (m.incPc g) mm W1 W → ResN B P σ ow m mm w W) := fun mm W hr => by
    obtain ⟨σ9, ow9, u1, ua, u2, u3⟩ := hr
    have k0 := (Keep.of_below (S := fun b => ow b ≠ none) HB0.out).then q2 (fun i hi e => by rw [frm_lt hi] at e; exact e)
    have m0 := (OwMore.frm (w := w) (ow := ow) none).trans HB0.out.size q3
    refine ⟨σ9, ow9, u1, ⟨ua.mb, fun i hi => ua.g i (by rw [l1.gors]; exact hi), fun i hi => ua.c i (by rw [l1.chans]; exact hi), fun i hi => ua.b i (by rw [l1.boxes]; exact hi), fun i hi => ua.w i (by rw [l1.ws]; exact hi)⟩, ?_, ?_⟩
    · exact k0.then u2 (fun i hi e => by rw [m0 i hi] at e; exact e)
    · exact m0.trans k0.size u3
  rw [hVA] at gka
  rw [hVB] at gkb
  clear hW1 h ok fit ht hg hx hgb opc hxb q1 q2 q3 hg1 ok1 l1 ht1 gc1 go1 h61 yr yf ra1 ra2 rb1 rb2 hVA hVB hw ha hbb hka hkb HRR y0
  by_cases o1 : xo = 1
  · subst o1
    go_upto_region 4 with fail
    go_still_tail 8, (by kernel_rfl)
    go_wp2
    first | go_end0 | ((try simp only [Exit.inBlock, Exit.then]); refine bodyPost_ret (results_none rfl _ _ _) rfl ?_)
    obtain ⟨q1, q2, q3, hg1, ok1, l1, ra2, rb2, ht1, hka, hkb, hVA, hVB⟩ := HY.out
    obtain ⟨h, ok, fit, ht, hg, hx, hgb, opc⟩ := HX.out
    refine ⟨rfl, ?_⟩
    have e : m.words g ⟨1, xa, xb, xn, xc⟩ = (m.incPc g).setReg g xa (.num xn) := by rw [HW.out]; rfl
    rw [e]
    refine hfin.out _ _ ?_
    have := q1.regPut hg1 hx.a.1 hx.a.2 (.num xn)
    rw [hgb] at this
    dsimp only at this
    rw [hka] at this ⊢
    exact this.drewR
  by_cases o2 : xo = 2
  · subst o2
    go_upto_region 6 with fail
    go_still_tail 11, (by kernel_rfl)
    go_wp2
    first | go_end0 | ((try simp only [Exit.inBlock, Exit.then]); refine bodyPost_ret (results_none rfl _ _ _) rfl ?_)
    obtain ⟨q1, q2, q3, hg1, ok1, l1, ra2, rb2, ht1, hka, hkb, hVA, hVB⟩ := HY.out
    obtain ⟨h, ok, fit, ht, hg, hx, hgb, opc⟩ := HX.out
    refine ⟨rfl, ?_⟩
    have e : m.words g ⟨2, xa, xb, xn, xc⟩ = (m.incPc g).setReg g xa ((m.incPc g).reg g xb) := by rw [HW.out]; rfl
    rw [e]
    refine hfin.out _ _ ?_
    have := q1.regPut hg1 hx.a.1 hx.a.2 ((m.incPc g).reg g xb)
    rw [hgb, hVB] at this
    dsimp only at this
    rw [hka] at this ⊢
    exact this.drewR
  by_cases o11 : xo = 11
  · subst o11
    go_upto_region 12 with fail
    go_still_tail 8, (by kernel_rfl)
    go_wp2
    first | go_end0 | ((try simp only [Exit.inBlock, Exit.then]); refine bodyPost_ret (results_none rfl _ _ _) rfl ?_)
    obtain ⟨q1, q2, q3, hg1, ok1, l1, ra2, rb2, ht1, hka, hkb, hVA, hVB⟩ := HY.out
    obtain ⟨h, ok, fit, ht, hg, hx, hgb, opc⟩ := HX.out
    refine ⟨rfl, ?_⟩
    have e : m.words g ⟨11, xa, xb, xn, xc⟩ = (m.incPc g).setPc g xn := by rw [HW.out]; rfl
    rw [e]
    refine hfin.out _ _ ?_
    have := q1.pcPut hg1 xn
    rw [hgb] at this
    exact this.drewR
  have hnt : Hid (∀ w, (Calls Tryz.prog 96 #[.iface VA VAU] w fun e w' => e = .returned (.bool (MachD.nothing ((m.incPc g).reg g xa))) ∧ w' = w)) := fun w => by
    obtain ⟨q1, q2, q3, hg1, ok1, l1, ra2, rb2, ht1, hka, hkb, hVA, hVB⟩ := HY.out
    rw [← hVA]
    exact nothing_any σ _ w
  by_cases o12 : xo = 12
  · subst o12
    obtain ⟨nb, hnb⟩ : ∃ nb, MachD.nothing ((m.incPc g).reg g xa) = nb := ⟨_, rfl⟩
    rw [hnb] at hnt
    have HNB := hidP hnb
    clear hnb
    go_upto_region 14 with fail
    go_quiet (first | (go_at_call 96; with_reducible exact Calls.quiet_of_same (hnt.out _)) | fail)
    cases nb with
    | true =>
      go_upto_region 15 with fail
      refine wp_undrewN (w := W1) ?_
      intro W hh hkW
      have s1 := cell_heap hh t1
      have s3 := cell_heap hh x3
      have s9 := cell_heap hh y1
      have z2 := frozen_heap hh f1
      have HKW := hidP hkW
      clear x0 x1 x2 x3 t0 t1 y1 gka gkb fka f1 hh hkW
      go_still_tail 8, (by kernel_rfl)
      go_wp2
      first | go_end0 | ((try simp only [Exit.inBlock, Exit.then]); refine bodyPost_ret (results_none rfl _ _ _) rfl ?_)
      obtain ⟨q1, q2, q3, hg1, ok1, l1, ra2, rb2, ht1, hka, hkb, hVA, hVB⟩ := HY.out
      obtain ⟨h, ok, fit, ht, hg, hx, hgb, opc⟩ := HX.out
      refine ⟨rfl, ?_⟩
      have e : m.words g ⟨12, xa, xb, xn, xc⟩ = (m.incPc g).setPc g xn := by rw [HW.out]; show (if MachD.nothing ((m.incPc g).reg g xa) then _ else _) = _; rw [HNB.out]; rfl
      rw [e]
      refine hfin.out _ _ (Res.same HKW.out ?_)
      have := (q1.same HKW.out).pcPut hg1 xn
      rw [hgb] at this
      exact this.drewR
    | false =>
      go_wp2
      first | go_end0 | ((try simp only [Exit.inBlock, Exit.then]); refine bodyPost_ret (results_none rfl _ _ _) rfl ?_)
      obtain ⟨q1, q2, q3, hg1, ok1, l1, ra2, rb2, ht1, hka, hkb, hVA, hVB⟩ := HY.out
      obtain ⟨h, ok, fit, ht, hg, hx, hgb, opc⟩ := HX.out
      refine ⟨rfl, ?_⟩
      have e : m.words g ⟨12, xa, xb, xn, xc⟩ = m.incPc g := by rw [HW.out]; show (if MachD.nothing ((m.incPc g).reg g xa) then _ else _) = _; rw [HNB.out]; rfl
      rw [e]
      refine hfin.out _ _ ?_
      first | exact q1.res_below (brefl _) | exact q1.res_below (bdrewN' (brefl _) _)
  by_cases o18 : xo = 18
  · subst o18
    have hx4 : xn < 4 := by obtain ⟨h, ok, fit, ht, hg, hx, hgb, opc⟩ := HX.out; exact hx.put (.inl rfl)
    obtain ⟨n, hn⟩ := Int.eq_ofNat_of_zero_le hnn.1
    subst hn
    have hn4 : n < 4 := by omega
    have en0 : (0 : Int) ≤ (n : Int) := by omega
    have en4 : (n : Int) < 4 := by omega
    obtain ⟨mb, hmb⟩ : ∃ mb, σ.mb = mb := ⟨_, rfl⟩
    obtain ⟨gn, zn⟩ : (∃ u, W1.cell? ⟨mb, 2 + n, none⟩ = some u) ∧ W1.frozen? ⟨mb, 2 + n, none⟩ = false := by
      obtain ⟨q1, q2, q3, hg1, ok1, l1, ra2, rb2, ht1, hka, hkb, hVA, hVB⟩ := HY.out
      obtain ⟨h1, h2⟩ := glob_cell q1 hn4
      rw [hmb] at h1 h2
      exact ⟨⟨_, h1⟩, h2⟩
    obtain ⟨u, gn⟩ := gn
    rw [hmb] at t0
    go_upto_region 19 with fail
    go_still_tail 15, (by kernel_rfl)
    go_wp2
    first | go_end0 | ((try simp only [Exit.inBlock, Exit.then]); refine bodyPost_ret (results_none rfl _ _ _) rfl ?_)
    obtain ⟨q1, q2, q3, hg1, ok1, l1, ra2, rb2, ht1, hka, hkb, hVA, hVB⟩ := HY.out
    obtain ⟨h, ok, fit, ht, hg, hx, hgb, opc⟩ := HX.out
    refine ⟨rfl, ?_⟩
    have e : m.words g ⟨18, xa, xb, n, xc⟩ = { m.incPc g with globals := (m.incPc g).globals.set n ((m.incPc g).reg g xa) } := by rw [HW.out]; rfl
    rw [e]
    refine hfin.out _ _ ?_
    have := q1.globPut hn4 ((m.incPc g).reg g xa)
    rw [hmb, hVA] at this
    exact this.drewR
  by_cases o19 : xo = 19
  · subst o19
    have hx4 : xn < 4 := by obtain ⟨h, ok, fit, ht, hg, hx, hgb, opc⟩ := HX.out; exact hx.put (.inr rfl)
    obtain ⟨n, hn⟩ := Int.eq_ofNat_of_zero_le hnn.1
    subst hn
    have hn4 : n < 4 := by omega
    have en0 : (0 : Int) ≤ (n : Int) := by omega
    have en4 : (n : Int) < 4 := by omega
    obtain ⟨mb, hmb⟩ : ∃ mb, σ.mb = mb := ⟨_, rfl⟩
    obtain ⟨GT, GU, hG⟩ := encV_iface σ ((m.incPc g).globals.getD n (.num 0))
    have HG := hidP hG
    have gn : W1.cell? ⟨mb, 2 + n, none⟩ = some (.iface GT GU) := by
      obtain ⟨q1, q2, q3, hg1, ok1, l1, ra2, rb2, ht1, hka, hkb, hVA, hVB⟩ := HY.out
      obtain ⟨h1, h2⟩ := glob_cell q1 hn4
      rw [hmb, hG] at h1
      exact h1
    rw [hmb] at t0
    clear hG
    go_upto_region 21 with fail
    go_still_tail 15, (by kernel_rfl)
    go_wp2
    first | go_end0 | ((try simp only [Exit.inBlock, Exit.then]); refine bodyPost_ret (results_none rfl _ _ _) rfl ?_)
    obtain ⟨q1, q2, q3, hg1, ok1, l1, ra2, rb2, ht1, hka, hkb, hVA, hVB⟩ := HY.out
    obtain ⟨h, ok, fit, ht, hg, hx, hgb, opc⟩ := HX.out
    refine ⟨rfl, ?_⟩
    have e : m.words g ⟨19, xa, xb, n, xc⟩ = (m.incPc g).setReg g xa ((m.incPc g).globals.getD n (.num 0)) := by rw [HW.out]; rfl
    rw [e]
    refine hfin.out _ _ ?_
    have := q1.regPut hg1 hx.a.1 hx.a.2 ((m.incPc g).globals.getD n (.num 0))
    rw [hgb, HG.out] at this
    dsimp only at this
    rw [hka] at this ⊢
    exact this.drewR
  by_cases o4 : xo = 4
  · subst o4
    go_upto_region 8 with fail
    have hSS : (fun w' : World => w'.cell? ⟨ib, 1, none⟩ = some (.int .i64 ka) ∧ w'.cell? ⟨ib, 3, none⟩ = some (.int .i64 xn)) W1.drew := ⟨x1, x3⟩
    refine OrdG.begin (fun w' : World => w'.cell? ⟨ib, 1, none⟩ = some (.int .i64 ka) ∧ w'.cell? ⟨ib, 3, none⟩ = some (.int .i64 xn)) 10 (by kernel_rfl) hSS ?_
    refine OrdG.ty 0 _ rfl (.inl hSS) ?_
    simp only [Act.put, stA, stS, stZ]
    refine OrdG.ty 1 _ rfl (.inl hSS) ?_
    simp only [Act.put, stA, stS, stZ]
    refine OrdG.tk 2 _ rfl (by assumption) ?_
    simp only [Act.put, stA, stS, stZ]
    refine OrdG.ty 3 _ rfl (.inl hSS) ?_
    simp only [Act.put, stA, stS, stZ]
    refine OrdG.tk 4 _ rfl (by assumption) ?_
    simp only [Act.put, stA, stS, stZ]
    refine OrdG.ty 5 _ rfl (.inl hSS) ?_
    simp only [Act.put, stA, stS, stZ]
    refine OrdG.ty 8 _ rfl (.inl hSS) ?_
    simp only [Act.put, stA, stS, stZ]
    refine OrdG.one (i := 6) (by kernel_rfl) rfl (fun K hK => ?_)
    go_simp
    refine hK.out _ _ (.inl (by go_keep)) ?_
    clear hK
    refine OrdG.ty 7 _ rfl (.inl (by go_keep)) ?_
    simp only [Act.put, stA, stS, stZ]
    refine OrdG.ty 9 _ rfl (.inl (by go_keep)) ?_
    simp only [Act.put, stA, stS, stZ]
    refine OrdG.one (i := 10) (by kernel_rfl) rfl (fun K hK => ?_)
    have hlW : gb < W1.heap.size := World.block_lt_of_cell? W1 _ y1
    go_simp
    refine hK.out _ _ (.inr (by kernel_rfl)) ?_
    clear hK
    refine OrdG.done (by kernel_rfl) ?_ _
    clear hSS
    go_wp2
    first | go_end0 | ((try simp only [Exit.inBlock, Exit.then]); refine bodyPost_ret (results_none rfl _ _ _) rfl ?_)
    obtain ⟨q1, q2, q3, hg1, ok1, l1, ra2, rb2, ht1, hka, hkb, hVA, hVB⟩ := HY.out
    obtain ⟨h, ok, fit, ht, hg, hx, hgb, opc⟩ := HX.out
    refine ⟨rfl, ?_⟩
    have e : m.words g ⟨4, xa, xb, xn, xc⟩ = ({ m.incPc g with chans := (m.incPc g).chans ++ [⟨xn, false, [], [], []⟩] } : MachD).setReg g xa (.ch (m.incPc g).chans.length) := by rw [HW.out]; rfl
    rw [e]
    refine hfinN.out _ _ ?_
    have hbc : Below W1.heap.size W1 (W1.alloc (.cells #[.int .i64 xn, .bool false, .slice none 0 0, .slice none 0 0, .slice none 0 0] 124)) := bnew (brefl W1) _
    have hI := q1.addC ok1 (cb := W1.heap.size) hbc (Nat.le_refl _) (heap_alloc_new W1 _)
    have hP := hI.regPut (g := g) hg1 hx.a.1 hx.a.2 (.ch (m.incPc g).chans.length)
    have hgA : (withC σ (m.incPc g).chans.length W1.heap.size).gA g = gb := hgb
    rw [hgA] at hP
    have hEC : encV (withC σ (m.incPc g).chans.length W1.heap.size) (.ch (m.incPc g).chans.length) = .iface 102 (.pointer (some ⟨W1.heap.size, 0, none⟩)) := by unfold encV withC; simp
    rw [hEC, World.setCell_alloc_past _ gb _ _ hlW] at hP
    dsimp only at hP
    rw [hka] at hP ⊢
    obtain ⟨ow9, u1, u2, u3⟩ := Res.of_below (ow := ow1) hbc (some (.chan (m.incPc g).chans.length)) hP
    exact ⟨_, ow9, by first | exact u1.drew | exact u1, agree_withC _ σ _, by first | exact u2.drew | exact u2, u3⟩
  by_cases o15 : xo = 15
  · subst o15
    go_upto_region 17 with fail
    have hSS : (fun w' : World => w'.cell? ⟨ib, 1, none⟩ = some (.int .i64 ka) ∧ w'.cell? ⟨ib, 2, none⟩ = some (.int .i64 kb) ∧ w'.cell? ⟨gb, 2 + kb, none⟩ = some (.iface VB VBU)) W1.drew := ⟨x1, x2, gkb⟩
    refine OrdG.begin (fun w' : World => w'.cell? ⟨ib, 1, none⟩ = some (.int .i64 ka) ∧ w'.cell? ⟨ib, 2, none⟩ = some (.int .i64 kb) ∧ w'.cell? ⟨gb, 2 + kb, none⟩ = some (.iface VB VBU)) 14 (by kernel_rfl) hSS ?_
    refine OrdG.ty 0 _ rfl (.inl hSS) ?_
    simp only [Act.put, stA, stS, stZ]
    refine OrdG.ty 1 _ rfl (.inl hSS) ?_
    simp only [Act.put, stA, stS, stZ]
    refine OrdG.tk 2 _ rfl (by assumption) ?_
    simp only [Act.put, stA, stS, stZ]
    refine OrdG.ty 3 _ rfl (.inl hSS) ?_
    simp only [Act.put, stA, stS, stZ]
    refine OrdG.ty 4 _ rfl (.inl hSS) ?_
    simp only [Act.put, stA, stS, stZ]
    refine OrdG.tk 5 _ rfl (by assumption) ?_
    simp only [Act.put, stA, stS, stZ]
    refine OrdG.ty 6 _ rfl (.inl hSS) ?_
    simp only [Act.put, stA, stS, stZ]
    refine OrdG.ty 7 _ rfl (.inl hSS) ?_
    simp only [Act.put, stA, stS, stZ]
    refine OrdG.tk 8 _ rfl (by assumption) ?_
    simp only [Act.put, stA, stS, stZ]
    refine OrdG.ty 9 _ rfl (.inl hSS) ?_
    simp only [Act.put, stA, stS, stZ]
    refine OrdG.ty 12 _ rfl (.inl hSS) ?_
    simp only [Act.put, stA, stS, stZ]
    refine OrdG.one (i := 10) (by kernel_rfl) rfl (fun K hK => ?_)
    go_simp
    refine hK.out _ _ (.inl (by go_keep)) ?_
    clear hK
    refine OrdG.ty 11 _ rfl (.inl (by go_keep)) ?_
    simp only [Act.put, stA, stS, stZ]
    refine OrdG.ty 13 _ rfl (.inl (by go_keep)) ?_
    simp only [Act.put, stA, stS, stZ]
    refine OrdG.one (i := 14) (by kernel_rfl) rfl (fun K hK => ?_)
    have hlW : gb < W1.heap.size := World.block_lt_of_cell? W1 _ y1
    go_simp
    refine hK.out _ _ (.inr (by kernel_rfl)) ?_
    clear hK
    refine OrdG.done (by kernel_rfl) ?_ _
    clear hSS
    go_wp2
    first | go_end0 | ((try simp only [Exit.inBlock, Exit.then]); refine bodyPost_ret (results_none rfl _ _ _) rfl ?_)
    obtain ⟨q1, q2, q3, hg1, ok1, l1, ra2, rb2, ht1, hka, hkb, hVA, hVB⟩ := HY.out
    obtain ⟨h, ok, fit, ht, hg, hx, hgb, opc⟩ := HX.out
    refine ⟨rfl, ?_⟩
    have e : m.words g ⟨15, xa, xb, xn, xc⟩ = ({ m.incPc g with boxes := (m.incPc g).boxes ++ [(m.incPc g).reg g xb] } : MachD).setReg g xa (.bx (m.incPc g).boxes.length) := by rw [HW.out]; rfl
    rw [e]
    refine hfinN.out _ _ ?_
    have hbc : Below W1.heap.size W1 (W1.alloc (.cells #[.iface VB VBU] 129)) := bnew (brefl W1) _
    have hI := q1.addB ok1 (bb := W1.heap.size) rb2 hbc (Nat.le_refl _) (by rw [hVB]; exact heap_alloc_new W1 _)
    have hP := hI.regPut (g := g) hg1 hx.a.1 hx.a.2 (.bx (m.incPc g).boxes.length)
    have hgA : (withB σ (m.incPc g).boxes.length W1.heap.size).gA g = gb := hgb
    rw [hgA] at hP
    have hEC : encV (withB σ (m.incPc g).boxes.length W1.heap.size) (.bx (m.incPc g).boxes.length) = .iface 127 (.pointer (some ⟨W1.heap.size, 0, none⟩)) := by unfold encV withB; simp
    rw [hEC, World.setCell_alloc_past _ gb _ _ hlW] at hP
    dsimp only at hP
    rw [hka] at hP ⊢
    obtain ⟨ow9, u1, u2, u3⟩ := Res.of_below (ow := ow1) hbc (some (.box (m.incPc g).boxes.length)) hP
    exact ⟨_, ow9, by first | exact u1.drew | exact u1, agree_withB _ σ _, by first | exact u2.drew | exact u2, u3⟩
  by_cases o10 : xo = 10
  · subst o10
    obtain ⟨s0, s1, s2, s3, s4, s5, hsix⟩ := six_of (show gd.regs.length = 6 from by obtain ⟨h, ok, fit, ht, hg, hx, hgb, opc⟩ := HX.out; exact (ok.gor g gd hg).six)
    have hadd : Hid (Calls Tryz.prog 28 #[.pointer (some ⟨σ.mb, 0, none⟩), .agg #[encV σ s0, encV σ s1, encV σ s2, encV σ s3, encV σ s4, encV σ s5], .int .i64 xn] W1.drew fun e w' => e = .returned (.tuple #[]) ∧ ResN B P σ ow1 (m.incPc g) ((m.incPc g).add [s0, s1, s2, s3, s4, s5] xn) W1.drew w') := by
      obtain ⟨q1, q2, q3, hg1, ok1, l1, ra2, rb2, ht1, hka, hkb, hVA, hVB⟩ := HY.out
      obtain ⟨h, ok, fit, ht, hg, hx, hgb, opc⟩ := HX.out
      exact madd_any q1.drew ok1 (l1.fit fit) s0 s1 s2 s3 s4 s5 (fun y hy => (ok1.gor g _ hg1).regs y (by rw [hsix]; exact hy)) xn
    have hrg : ∀ (k : Nat) y, gd.regs[k]? = some y → W1.cell? ⟨gb, 2 + k, none⟩ = some (encV σ y) := fun k y hk => by
      obtain ⟨q1, q2, q3, hg1, ok1, l1, ra2, rb2, ht1, hka, hkb, hVA, hVB⟩ := HY.out
      obtain ⟨h, ok, fit, ht, hg, hx, hgb, opc⟩ := HX.out
      obtain ⟨_, _, _, _, _, _, yr, _⟩ := q1.gorAt hg1
      rw [← hgb]
      exact yr k y hk
    rw [hsix] at hrg
    have k0 := hrg 0 s0 rfl
    have k1 := hrg 1 s1 rfl
    have k2 := hrg 2 s2 rfl
    have k3 := hrg 3 s3 rfl
    have k4 := hrg 4 s4 rfl
    have k5 := hrg 5 s5 rfl
    simp only [Nat.reduceAdd] at k0 k1 k2 k3 k4 k5
    have HSX := hidP hsix
    clear hrg hsix gka gkb fka f1
    go_upto_region 10 with fail
    go_still_tail 9, (by kernel_rfl)
    go_wp2_with (go_at_call 28; with_reducible refine hadd.out.mono ?_; rintro e w1 ⟨rfl, h1⟩)
    first | go_end0 | ((try simp only [Exit.inBlock, Exit.then]); refine bodyPost_ret (results_none rfl _ _ _) rfl ?_)
    obtain ⟨q1, q2, q3, hg1, ok1, l1, ra2, rb2, ht1, hka, hkb, hVA, hVB⟩ := HY.out
    obtain ⟨h, ok, fit, ht, hg, hx, hgb, opc⟩ := HX.out
    refine ⟨rfl, ?_⟩
    have e : m.words g ⟨10, xa, xb, xn, xc⟩ = (m.incPc g).add ((m.incPc g).gorAt g).regs xn := by rw [HW.out]; rfl
    rw [e, gorAt_some hg1]
    dsimp only
    rw [HSX.out]
    exact hfinN.out _ _ h1.undrew
  go_wp2
  first | go_end0 | ((try simp only [Exit.inBlock, Exit.then]); refine bodyPost_ret (results_none rfl _ _ _) rfl ?_)
  obtain ⟨q1, q2, q3, hg1, ok1, l1, ra2, rb2, ht1, hka, hkb, hVA, hVB⟩ := HY.out
  obtain ⟨h, ok, fit, ht, hg, hx, hgb, opc⟩ := HX.out
  refine ⟨rfl, ?_⟩
  have e : m.words g ⟨xo, xa, xb, xn, xc⟩ = m.incPc g := by rw [HW.out, if_neg o1, if_neg o2, if_neg o4, if_neg o10, if_neg o11, if_neg o12, if_neg o15, if_neg o18, if_neg o19]
  rw [e]
  exact hfin.out _ _ (q1.res_below (brefl _))
end Go.Proofs.YtklfboidjnchoaaGreatDoor
