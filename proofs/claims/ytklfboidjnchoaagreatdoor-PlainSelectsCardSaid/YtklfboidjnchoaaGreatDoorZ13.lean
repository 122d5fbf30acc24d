/-
  Parts of the proof: PSize, PShut, CIns, CGrow, PIns, PIns2, POut.
-/
import Derived.Shelf.Spec.SlicesInsert
import Derived.Deep.DeepCutAuto
import Derived.Deep.CutBlock
import Derived.Shelf.Spec.SlicesInsertGrow
import Derived.Test.YtklfboidjnchoaaGreatDoorZ12
namespace Go.Proofs.YtklfboidjnchoaaGreatDoor
open Go.RowKit Go.Proofs.YtklfboidjnchoaaGreatDoorW.PrintWords
set_option linter.unusedVariables false
set_option linter.unusedSimpArgs false
theorem IsTurn.same {σ : Lay} {ow : Owns} {w W : World} {tb g c4 : Nat} {x : InstrD} {A4 : Option Addr} {draw : Int} (h : IsTurn σ ow w tb g x A4 c4 draw) (hk : Keep (fun _ => False) w W) : IsTurn σ ow W tb g x A4 c4 draw := h.keep (hk.mono fun _ _ e => e.elim) (.refl _ _)
theorem fail_same {B : Nat} {P : Value} {σ : Lay} {ow : Owns} {m : MachD} {w : World} (h : Inv B P σ ow m w) (fit : Fit m) {tb g c4 : Nat} {x : InstrD} {A4 : Option Addr} {draw : Int} (ht : IsTurn σ ow w tb g x A4 c4 draw) {gd : GorD} (hg : m.gors[g]? = some gd) (oc : Int) (W : World) (hk : Keep (fun _ => False) w W) :
    Calls Tryz.prog 97 #[.pointer (some ⟨tb, 0, none⟩), .int .i64 oc] W fun e w' => e = .returned (.tuple #[]) ∧ Res B P σ ow (m.fin oc g) w w' := by
  refine (fail_any (h.same hk) fit (ht.same hk) hg oc).mono ?_
  rintro e w' ⟨he, hr⟩
  exact ⟨he, Res.same hk hr⟩
set_option maxRecDepth 100000 in
set_option maxHeartbeats 400000 in
theorem lenClo_any {B : Nat} {P : Value} {σ : Lay} {ow : Owns} {m : MachD} {w : World} (h : Inv B P σ ow m w) {k : Nat} {cd : ChanD} (hc : m.chans[k]? = some cd) :
    Calls Tryz.prog 59 #[.pointer (some ⟨σ.cA k, 0, none⟩)] w fun e w' => e = .returned (.int .i64 cd.held.length) ∧ w' = w := by
  obtain ⟨hv, sv, tv, hcell, r1, _⟩ := h.lenC hc
  obtain ⟨_, _, c2, _⟩ := chan_cells hcell.1
  obtain ⟨ha, hcp, rfl, _⟩ := mt_slice r1.1
  generalize cd.held.length = n at *
  clear hcell r1
  go_enter Tryz.func59, Tryz.ntmps59
  go_wp2
  go_ret
  exact ⟨rfl, rfl⟩
set_option maxRecDepth 100000 in
set_option maxHeartbeats 400000 in
theorem capClo_any {B : Nat} {P : Value} {σ : Lay} {ow : Owns} {m : MachD} {w : World} (h : Inv B P σ ow m w) {k : Nat} {cd : ChanD} (hc : m.chans[k]? = some cd) :
    Calls Tryz.prog 60 #[.pointer (some ⟨σ.cA k, 0, none⟩)] w fun e w' => e = .returned (.int .i64 cd.cap) ∧ w' = w := by
  obtain ⟨hv, sv, tv, hcell, r1, _⟩ := h.lenC hc
  obtain ⟨c0, _⟩ := chan_cells hcell.1
  clear hcell r1
  go_enter Tryz.func60, Tryz.ntmps60
  go_wp2
  go_ret
  exact ⟨rfl, rfl⟩
set_option maxRecDepth 100000 in
set_option maxHeartbeats 3200000 in
theorem sizeC_any {B : Nat} {P : Value} {σ : Lay} {ow : Owns} {m : MachD} {w : World} (h : Inv B P σ ow m w) (ok : Ok m) (fit : Fit m) {tb g c4 : Nat} {x : InstrD} {A4 : Option Addr} {draw : Int} (ht : IsTurn σ ow w tb g x A4 c4 draw) {gd : GorD} (hg : m.gors[g]? = some gd) (ha0 : 0 ≤ x.a) (ha6 : x.a < 6) (hb0 : 0 ≤ x.b) (hb6 : x.b < 6) :
    Calls Tryz.prog 58 #[.pointer (some ⟨tb, 0, none⟩), .func (.func 60) #[] #[]] w fun e w' => e = .returned (.tuple #[]) ∧ Res B P σ ow (m.size g x.a x.b (fun c => c.cap)) w w' := by
  obtain ⟨t0, t1, t2, t3, t4, t5, t6, t7⟩ := ht.cells
  obtain ⟨v, _, _, h6, g0, g1, gr, _, gf⟩ := h.gorAt hg
  obtain ⟨ra1, ra2⟩ := ok.reg hg ha0 ha6
  have opc := (ok.gor g gd hg).pc
  obtain ⟨ka, hka, hka6⟩ := reg_nat ha0 ha6
  obtain ⟨kb, hkb, hkb6⟩ := reg_nat hb0 hb6
  have hs : m.size g x.a x.b (fun c => c.cap) = m.size g x.a x.b (fun c => c.cap) := rfl
  conv at hs => rhs; unfold MachD.size
  have HF := hidP (fun oc => fail_same h fit ht hg oc)
  have HRI := hidP (fun (W : World) (hk : Keep (fun _ => False) w W) y => Res.same hk ((h.same hk).regInc hg hb0 hb6 y))
  rw [hka] at ra1 t3
  rw [hkb] at t4 HRI
  have gka := gr ka _ ra1
  rw [← hka] at gka
  obtain ⟨ub, hub⟩ := some_lt (l := gd.regs) (i := kb) (by rw [h6]; omega)
  have gkb := gr kb _ hub
  have fkb := gf (2 + kb)
  have f1 := gf 1
  have ea0 : (0 : Int) ≤ (ka : Int) := by omega
  have ea6 : (ka : Int) < 6 := by omega
  have eb0 : (0 : Int) ≤ (kb : Int) := by omega
  have eb6 : (kb : Int) < 6 := by omega
  have wpc : IntKind.i64.wrap (gd.pc + 1) = gd.pc + 1 := IntWalk.i64_in _ (by omega)
  obtain ⟨gb, hgb⟩ : ∃ gb, σ.gA g = gb := ⟨_, rfl⟩
  rw [hgb] at t1 gka gkb fkb f1 g1 HRI
  have nA := as_ch σ (m.reg g x.a)
  have HNO := hidP (fun w => nothing_any σ (m.reg g x.a) w)
  obtain ⟨VA, hVA⟩ : ∃ V, encV σ (m.reg g x.a) = V := ⟨_, rfl⟩
  obtain ⟨VB, hVB⟩ : ∃ V, encV σ ub = V := ⟨_, rfl⟩
  rw [hVA] at nA gka HNO
  rw [hVB] at gkb
  cases hch : m.reg g x.a with
  | ch k =>
    rw [hch] at nA hs ra2 HNO
    obtain ⟨cd, hcd⟩ := some_lt (l := m.chans) (i := k) ra2
    have HC := hidP (fun (W : World) (hk : Keep (fun _ => False) w W) => capClo_any (h.same hk) hcd)
    have HS := hidP hs
    have HCD := hidP (⟨hcd, hkb⟩ : _ ∧ _)
    obtain ⟨cb, hcb⟩ : ∃ cb, σ.cA k = cb := ⟨_, rfl⟩
    simp only [chOf, isCh, hcb] at nA
    rw [hcb] at HC
    obtain ⟨rv, hrv⟩ : ∃ rv : Int, cd.cap = rv := ⟨_, rfl⟩
    rw [hrv] at HC
    have HRV := hidP hrv
    clear h ok fit ht hg gr gf ra1 ra2 hs hch hcd hVA hVB t0 t2 t5 t6 t7 opc h6 hka hkb ha0 ha6 hb0 hb6 hgb hub g0 hrv
    go_enter Tryz.func58, Tryz.ntmps58
    go_upto_region 0 with fail
    go_quiet (fail)
    go_upto_region 2 with fail
    refine wp_undrewN (w := w) ?_
    intro W0 hh0 hk0
    have t1 := cell_heap hh0 t1
    have t3 := cell_heap hh0 t3
    have t4 := cell_heap hh0 t4
    have gka := cell_heap hh0 gka
    have gkb := cell_heap hh0 gkb
    have g1 := cell_heap hh0 g1
    have fkb := frozen_heap hh0 fkb
    have f1 := frozen_heap hh0 f1
    clear hh0
    go_quiet (first | (go_at_call 96; with_reducible exact Calls.quiet_of_same (HNO.out _)) | fail)
    go_upto_region 1 with fail
    refine wp_undrewN (w := W0) ?_
    intro W hh hk1
    have hkW := hk0.trans hk1
    have s1 := cell_heap hh t1
    have s4 := cell_heap hh t4
    have sg := cell_heap hh gkb
    have s9 := cell_heap hh g1
    have z1 := frozen_heap hh fkb
    have z2 := frozen_heap hh f1
    have HKW := hidP hkW
    have HC2 := hidP (HC.out W.drew (hkW.drew))
    clear t1 t3 t4 gka gkb g1 fkb f1 hh hkW nA HC hk0 hk1
    have hSS : (fun w' : World => w'.cell? ⟨tb, 1, none⟩ = some (.pointer (some ⟨gb, 0, none⟩)) ∧ w'.cell? ⟨tb, 4, none⟩ = some (.int .i64 kb)) W.drew := ⟨s1, s4⟩
    refine OrdG.begin (fun w' : World => w'.cell? ⟨tb, 1, none⟩ = some (.pointer (some ⟨gb, 0, none⟩)) ∧ w'.cell? ⟨tb, 4, none⟩ = some (.int .i64 kb)) 16 (by kernel_rfl) hSS ?_
    refine OrdG.ty 0 _ rfl (.inl hSS) ?_
    simp only [Act.put, stA, stS, stZ]
    refine OrdG.ty 1 _ rfl (.inl hSS) ?_
    simp only [Act.put, stA, stS, stZ]
    refine OrdG.ty 2 _ rfl (.inl hSS) ?_
    simp only [Act.put, stA, stS, stZ]
    refine OrdG.tk 3 _ rfl (by assumption) ?_
    simp only [Act.put, stA, stS, stZ]
    refine OrdG.ty 4 _ rfl (.inl hSS) ?_
    simp only [Act.put, stA, stS, stZ]
    refine OrdG.ty 5 _ rfl (.inl hSS) ?_
    simp only [Act.put, stA, stS, stZ]
    refine OrdG.ty 6 _ rfl (.inl hSS) ?_
    simp only [Act.put, stA, stS, stZ]
    refine OrdG.ty 7 _ rfl (.inl hSS) ?_
    simp only [Act.put, stA, stS, stZ]
    refine OrdG.tk 8 _ rfl (by assumption) ?_
    simp only [Act.put, stA, stS, stZ]
    refine OrdG.ty 9 _ rfl (.inl hSS) ?_
    simp only [Act.put, stA, stS, stZ]
    refine OrdG.ty 10 _ rfl (.inl hSS) ?_
    simp only [Act.put, stA, stS, stZ]
    refine OrdG.ty 13 _ rfl (.inl hSS) ?_
    simp only [Act.put, stA, stS, stZ]
    refine OrdG.ty 14 _ rfl (.inl hSS) ?_
    simp only [Act.put, stA, stS, stZ]
    refine OrdG.one (i := 11) (by kernel_rfl) rfl (fun K hK => ?_)
    go_simp
    with_reducible refine HC2.out.mono ?_
    rintro e w1 ⟨rfl, hw1⟩
    subst hw1
    dsimp only
    refine hK.out _ _ (.inl hSS) ?_
    clear hK
    refine OrdG.ty 12 _ rfl (.inl hSS) ?_
    simp only [Act.put, stA, stS, stZ]
    refine OrdG.ty 15 _ rfl (.inl hSS) ?_
    simp only [Act.put, stA, stS, stZ]
    refine OrdG.one (i := 16) (by kernel_rfl) rfl (fun K hK => ?_)
    go_simp
    refine hK.out _ _ (.inr (by kernel_rfl)) ?_
    clear hK
    refine OrdG.done (by kernel_rfl) ?_ _
    clear hSS
    go_wp2
    first | go_end0 | ((try simp only [Exit.inBlock, Exit.then]); refine bodyPost_ret (results_none rfl _ _ _) rfl ?_)
    refine ⟨rfl, ?_⟩
    obtain ⟨hcd, hkb⟩ := HCD.out
    rw [HS.out]
    try dsimp only
    rw [chanAt_some hcd, hkb]
    have := HRI.out W HKW.out (.num rv)
    rw [← HRV.out] at this ⊢
    first | exact this.drewR | exact this
  | num n =>
    rw [hch] at nA hs HNO
    try dsimp only at hs
    simp only [chOf, isCh] at nA
    have HS := hidP hs
    have HKB := hidP hkb
    by_cases hn : n = 0
    · subst hn
      have hno : MachD.nothing (.num 0) = true := rfl
      rw [hno] at HNO
      clear h ok fit ht hg gr gf ra1 ra2 hs hch hVA hVB t0 t2 t5 t6 t7 opc h6 hka hkb ha0 ha6 hb0 hb6 hgb hub g0 hno
      go_enter Tryz.func58, Tryz.ntmps58
      go_upto_region 0 with fail
      go_quiet (fail)
      go_upto_region 2 with fail
      refine wp_undrewN (w := w) ?_
      intro W0 hh0 hk0
      have t1 := cell_heap hh0 t1
      have t3 := cell_heap hh0 t3
      have t4 := cell_heap hh0 t4
      have gka := cell_heap hh0 gka
      have gkb := cell_heap hh0 gkb
      have g1 := cell_heap hh0 g1
      have fkb := frozen_heap hh0 fkb
      have f1 := frozen_heap hh0 f1
      clear hh0
      go_quiet (first | (go_at_call 96; with_reducible exact Calls.quiet_of_same (HNO.out _)) | fail)
      go_upto_region 3 with fail
      refine wp_undrewN (w := W0) ?_
      intro W hh hk1
      have hkW := hk0.trans hk1
      have s1 := cell_heap hh t1
      have s4 := cell_heap hh t4
      have sg := cell_heap hh gkb
      have s9 := cell_heap hh g1
      have z1 := frozen_heap hh fkb
      have z2 := frozen_heap hh f1
      have HKW := hidP hkW
      clear t1 t3 t4 gka gkb g1 fkb f1 hh hkW nA hk0 hk1
      go_still_tail 13, (by kernel_rfl)
      go_wp2
      first | go_end0 | ((try simp only [Exit.inBlock, Exit.then]); refine bodyPost_ret (results_none rfl _ _ _) rfl ?_)
      refine ⟨rfl, ?_⟩
      rw [HS.out, if_pos trivial, HKB.out]
      have := HRI.out W HKW.out (.num 0)
      first | exact this.drewR | exact this
    · have hno : MachD.nothing (.num n) = false := by simp [MachD.nothing, hn]
      rw [hno] at HNO
      clear h ok fit ht hg gr gf ra1 ra2 hs hch hVA hVB t0 t2 t5 t6 t7 opc h6 hka hkb ha0 ha6 hb0 hb6 hgb hub g0 hno
      go_enter Tryz.func58, Tryz.ntmps58
      go_upto_region 0 with fail
      go_quiet (fail)
      go_upto_region 2 with fail
      refine wp_undrewN (w := w) ?_
      intro W0 hh0 hk0
      have t1 := cell_heap hh0 t1
      have t3 := cell_heap hh0 t3
      have t4 := cell_heap hh0 t4
      have gka := cell_heap hh0 gka
      have gkb := cell_heap hh0 gkb
      have g1 := cell_heap hh0 g1
      have fkb := frozen_heap hh0 fkb
      have f1 := frozen_heap hh0 f1
      clear hh0
      go_quiet (first | (go_at_call 96; with_reducible exact Calls.quiet_of_same (HNO.out _)) | fail)
      go_wp2_with (go_at_call 97; with_reducible refine (HF.out _ _ (hk0.drewN _)).mono ?_; rintro e w1 ⟨rfl, h1⟩)
      first | go_end0 | ((try simp only [Exit.inBlock, Exit.then]); refine bodyPost_ret (results_none rfl _ _ _) rfl ?_)
      exact ⟨rfl, by rw [HS.out, if_neg hn]; exact h1⟩
  | bx n =>
    rw [hch] at nA hs HNO
    try dsimp only at hs
    simp only [chOf, isCh] at nA
    have HS := hidP hs
    have hno : MachD.nothing (.bx n) = false := rfl
    rw [hno] at HNO
    clear h ok fit ht hg gr gf ra1 ra2 hs hch hVA hVB t0 t2 t5 t6 t7 opc h6 hka hkb ha0 ha6 hb0 hb6 hgb hub g0 hno
    go_enter Tryz.func58, Tryz.ntmps58
    go_upto_region 0 with fail
    go_quiet (fail)
    go_upto_region 2 with fail
    refine wp_undrewN (w := w) ?_
    intro W0 hh0 hk0
    have t1 := cell_heap hh0 t1
    have t3 := cell_heap hh0 t3
    have t4 := cell_heap hh0 t4
    have gka := cell_heap hh0 gka
    have gkb := cell_heap hh0 gkb
    have g1 := cell_heap hh0 g1
    have fkb := frozen_heap hh0 fkb
    have f1 := frozen_heap hh0 f1
    clear hh0
    go_quiet (first | (go_at_call 96; with_reducible exact Calls.quiet_of_same (HNO.out _)) | fail)
    go_wp2_with (go_at_call 97; with_reducible refine (HF.out _ _ (hk0.drewN _)).mono ?_; rintro e w1 ⟨rfl, h1⟩)
    first | go_end0 | ((try simp only [Exit.inBlock, Exit.then]); refine bodyPost_ret (results_none rfl _ _ _) rfl ?_)
    exact ⟨rfl, by rw [HS.out]; exact h1⟩
set_option maxRecDepth 100000 in
set_option maxHeartbeats 3200000 in
theorem sizeL_any {B : Nat} {P : Value} {σ : Lay} {ow : Owns} {m : MachD} {w : World} (h : Inv B P σ ow m w) (ok : Ok m) (fit : Fit m) {tb g c4 : Nat} {x : InstrD} {A4 : Option Addr} {draw : Int} (ht : IsTurn σ ow w tb g x A4 c4 draw) {gd : GorD} (hg : m.gors[g]? = some gd) (ha0 : 0 ≤ x.a) (ha6 : x.a < 6) (hb0 : 0 ≤ x.b) (hb6 : x.b < 6) :
    Calls Tryz.prog 58 #[.pointer (some ⟨tb, 0, none⟩), .func (.func 59) #[] #[]] w fun e w' => e = .returned (.tuple #[]) ∧ Res B P σ ow (m.size g x.a x.b (fun c => (c.held.length : Int))) w w' := by
  obtain ⟨t0, t1, t2, t3, t4, t5, t6, t7⟩ := ht.cells
  obtain ⟨v, _, _, h6, g0, g1, gr, _, gf⟩ := h.gorAt hg
  obtain ⟨ra1, ra2⟩ := ok.reg hg ha0 ha6
  have opc := (ok.gor g gd hg).pc
  obtain ⟨ka, hka, hka6⟩ := reg_nat ha0 ha6
  obtain ⟨kb, hkb, hkb6⟩ := reg_nat hb0 hb6
  have hs : m.size g x.a x.b (fun c => (c.held.length : Int)) = m.size g x.a x.b (fun c => (c.held.length : Int)) := rfl
  conv at hs => rhs; unfold MachD.size
  have HF := hidP (fun oc => fail_same h fit ht hg oc)
  have HRI := hidP (fun (W : World) (hk : Keep (fun _ => False) w W) y => Res.same hk ((h.same hk).regInc hg hb0 hb6 y))
  rw [hka] at ra1 t3
  rw [hkb] at t4 HRI
  have gka := gr ka _ ra1
  rw [← hka] at gka
  obtain ⟨ub, hub⟩ := some_lt (l := gd.regs) (i := kb) (by rw [h6]; omega)
  have gkb := gr kb _ hub
  have fkb := gf (2 + kb)
  have f1 := gf 1
  have ea0 : (0 : Int) ≤ (ka : Int) := by omega
  have ea6 : (ka : Int) < 6 := by omega
  have eb0 : (0 : Int) ≤ (kb : Int) := by omega
  have eb6 : (kb : Int) < 6 := by omega
  have wpc : IntKind.i64.wrap (gd.pc + 1) = gd.pc + 1 := IntWalk.i64_in _ (by omega)
  obtain ⟨gb, hgb⟩ : ∃ gb, σ.gA g = gb := ⟨_, rfl⟩
  rw [hgb] at t1 gka gkb fkb f1 g1 HRI
  have nA := as_ch σ (m.reg g x.a)
  have HNO := hidP (fun w => nothing_any σ (m.reg g x.a) w)
  obtain ⟨VA, hVA⟩ : ∃ V, encV σ (m.reg g x.a) = V := ⟨_, rfl⟩
  obtain ⟨VB, hVB⟩ : ∃ V, encV σ ub = V := ⟨_, rfl⟩
  rw [hVA] at nA gka HNO
  rw [hVB] at gkb
  cases hch : m.reg g x.a with
  | ch k =>
    rw [hch] at nA hs ra2 HNO
    obtain ⟨cd, hcd⟩ := some_lt (l := m.chans) (i := k) ra2
    have HC := hidP (fun (W : World) (hk : Keep (fun _ => False) w W) => lenClo_any (h.same hk) hcd)
    have HS := hidP hs
    have HCD := hidP (⟨hcd, hkb⟩ : _ ∧ _)
    obtain ⟨cb, hcb⟩ : ∃ cb, σ.cA k = cb := ⟨_, rfl⟩
    simp only [chOf, isCh, hcb] at nA
    rw [hcb] at HC
    obtain ⟨rv, hrv⟩ : ∃ rv : Int, (cd.held.length : Int) = rv := ⟨_, rfl⟩
    rw [hrv] at HC
    have HRV := hidP hrv
    clear h ok fit ht hg gr gf ra1 ra2 hs hch hcd hVA hVB t0 t2 t5 t6 t7 opc h6 hka hkb ha0 ha6 hb0 hb6 hgb hub g0 hrv
    go_enter Tryz.func58, Tryz.ntmps58
    go_upto_region 0 with fail
    go_quiet (fail)
    go_upto_region 2 with fail
    refine wp_undrewN (w := w) ?_
    intro W0 hh0 hk0
    have t1 := cell_heap hh0 t1
    have t3 := cell_heap hh0 t3
    have t4 := cell_heap hh0 t4
    have gka := cell_heap hh0 gka
    have gkb := cell_heap hh0 gkb
    have g1 := cell_heap hh0 g1
    have fkb := frozen_heap hh0 fkb
    have f1 := frozen_heap hh0 f1
    clear hh0
    go_quiet (first | (go_at_call 96; with_reducible exact Calls.quiet_of_same (HNO.out _)) | fail)
    go_upto_region 1 with fail
    refine wp_undrewN (w := W0) ?_
    intro W hh hk1
    have hkW := hk0.trans hk1
    have s1 := cell_heap hh t1
    have s4 := cell_heap hh t4
    have sg := cell_heap hh gkb
    have s9 := cell_heap hh g1
    have z1 := frozen_heap hh fkb
    have z2 := frozen_heap hh f1
    have HKW := hidP hkW
    have HC2 := hidP (HC.out W.drew (hkW.drew))
    clear t1 t3 t4 gka gkb g1 fkb f1 hh hkW nA HC hk0 hk1
    have hSS : (fun w' : World => w'.cell? ⟨tb, 1, none⟩ = some (.pointer (some ⟨gb, 0, none⟩)) ∧ w'.cell? ⟨tb, 4, none⟩ = some (.int .i64 kb)) W.drew := ⟨s1, s4⟩
    refine OrdG.begin (fun w' : World => w'.cell? ⟨tb, 1, none⟩ = some (.pointer (some ⟨gb, 0, none⟩)) ∧ w'.cell? ⟨tb, 4, none⟩ = some (.int .i64 kb)) 16 (by kernel_rfl) hSS ?_
    refine OrdG.ty 0 _ rfl (.inl hSS) ?_
    simp only [Act.put, stA, stS, stZ]
    refine OrdG.ty 1 _ rfl (.inl hSS) ?_
    simp only [Act.put, stA, stS, stZ]
    refine OrdG.ty 2 _ rfl (.inl hSS) ?_
    simp only [Act.put, stA, stS, stZ]
    refine OrdG.tk 3 _ rfl (by assumption) ?_
    simp only [Act.put, stA, stS, stZ]
    refine OrdG.ty 4 _ rfl (.inl hSS) ?_
    simp only [Act.put, stA, stS, stZ]
    refine OrdG.ty 5 _ rfl (.inl hSS) ?_
    simp only [Act.put, stA, stS, stZ]
    refine OrdG.ty 6 _ rfl (.inl hSS) ?_
    simp only [Act.put, stA, stS, stZ]
    refine OrdG.ty 7 _ rfl (.inl hSS) ?_
    simp only [Act.put, stA, stS, stZ]
    refine OrdG.tk 8 _ rfl (by assumption) ?_
    simp only [Act.put, stA, stS, stZ]
    refine OrdG.ty 9 _ rfl (.inl hSS) ?_
    simp only [Act.put, stA, stS, stZ]
    refine OrdG.ty 10 _ rfl (.inl hSS) ?_
    simp only [Act.put, stA, stS, stZ]
    refine OrdG.ty 13 _ rfl (.inl hSS) ?_
    simp only [Act.put, stA, stS, stZ]
    refine OrdG.ty 14 _ rfl (.inl hSS) ?_
    simp only [Act.put, stA, stS, stZ]
    refine OrdG.one (i := 11) (by kernel_rfl) rfl (fun K hK => ?_)
    go_simp
    with_reducible refine HC2.out.mono ?_
    rintro e w1 ⟨rfl, hw1⟩
    subst hw1
    dsimp only
    refine hK.out _ _ (.inl hSS) ?_
    clear hK
    refine OrdG.ty 12 _ rfl (.inl hSS) ?_
    simp only [Act.put, stA, stS, stZ]
    refine OrdG.ty 15 _ rfl (.inl hSS) ?_
    simp only [Act.put, stA, stS, stZ]
    refine OrdG.one (i := 16) (by kernel_rfl) rfl (fun K hK => ?_)
    go_simp
    refine hK.out _ _ (.inr (by kernel_rfl)) ?_
    clear hK
    refine OrdG.done (by kernel_rfl) ?_ _
    clear hSS
    go_wp2
    first | go_end0 | ((try simp only [Exit.inBlock, Exit.then]); refine bodyPost_ret (results_none rfl _ _ _) rfl ?_)
    refine ⟨rfl, ?_⟩
    obtain ⟨hcd, hkb⟩ := HCD.out
    rw [HS.out]
    try dsimp only
    rw [chanAt_some hcd, hkb]
    have := HRI.out W HKW.out (.num rv)
    rw [← HRV.out] at this ⊢
    first | exact this.drewR | exact this
  | num n =>
    rw [hch] at nA hs HNO
    try dsimp only at hs
    simp only [chOf, isCh] at nA
    have HS := hidP hs
    have HKB := hidP hkb
    by_cases hn : n = 0
    · subst hn
      have hno : MachD.nothing (.num 0) = true := rfl
      rw [hno] at HNO
      clear h ok fit ht hg gr gf ra1 ra2 hs hch hVA hVB t0 t2 t5 t6 t7 opc h6 hka hkb ha0 ha6 hb0 hb6 hgb hub g0 hno
      go_enter Tryz.func58, Tryz.ntmps58
      go_upto_region 0 with fail
      go_quiet (fail)
      go_upto_region 2 with fail
      refine wp_undrewN (w := w) ?_
      intro W0 hh0 hk0
      have t1 := cell_heap hh0 t1
      have t3 := cell_heap hh0 t3
      have t4 := cell_heap hh0 t4
      have gka := cell_heap hh0 gka
      have gkb := cell_heap hh0 gkb
      have g1 := cell_heap hh0 g1
      have fkb := frozen_heap hh0 fkb
      have f1 := frozen_heap hh0 f1
      clear hh0
      go_quiet (first | (go_at_call 96; with_reducible exact Calls.quiet_of_same (HNO.out _)) | fail)
      go_upto_region 3 with fail
      refine wp_undrewN (w := W0) ?_
      intro W hh hk1
      have hkW := hk0.trans hk1
      have s1 := cell_heap hh t1
      have s4 := cell_heap hh t4
      have sg := cell_heap hh gkb
      have s9 := cell_heap hh g1
      have z1 := frozen_heap hh fkb
      have z2 := frozen_heap hh f1
      have HKW := hidP hkW
      clear t1 t3 t4 gka gkb g1 fkb f1 hh hkW nA hk0 hk1
      go_still_tail 13, (by kernel_rfl)
      go_wp2
      first | go_end0 | ((try simp only [Exit.inBlock, Exit.then]); refine bodyPost_ret (results_none rfl _ _ _) rfl ?_)
      refine ⟨rfl, ?_⟩
      rw [HS.out, if_pos trivial, HKB.out]
      have := HRI.out W HKW.out (.num 0)
      first | exact this.drewR | exact this
    · have hno : MachD.nothing (.num n) = false := by simp [MachD.nothing, hn]
      rw [hno] at HNO
      clear h ok fit ht hg gr gf ra1 ra2 hs hch hVA hVB t0 t2 t5 t6 t7 opc h6 hka hkb ha0 ha6 hb0 hb6 hgb hub g0 hno
      go_enter Tryz.func58, Tryz.ntmps58
      go_upto_region 0 with fail
      go_quiet (fail)
      go_upto_region 2 with fail
      refine wp_undrewN (w := w) ?_
      intro W0 hh0 hk0
      have t1 := cell_heap hh0 t1
      have t3 := cell_heap hh0 t3
      have t4 := cell_heap hh0 t4
      have gka := cell_heap hh0 gka
      have gkb := cell_heap hh0 gkb
      have g1 := cell_heap hh0 g1
      have fkb := frozen_heap hh0 fkb
      have f1 := frozen_heap hh0 f1
      clear hh0
      go_quiet (first | (go_at_call 96; with_reducible exact Calls.quiet_of_same (HNO.out _)) | fail)
      go_wp2_with (go_at_call 97; with_reducible refine (HF.out _ _ (hk0.drewN _)).mono ?_; rintro e w1 ⟨rfl, h1⟩)
      first | go_end0 | ((try simp only [Exit.inBlock, Exit.then]); refine bodyPost_ret (results_none rfl _ _ _) rfl ?_)
      exact ⟨rfl, by rw [HS.out, if_neg hn]; exact h1⟩
  | bx n =>
    rw [hch] at nA hs HNO
    try dsimp only at hs
    simp only [chOf, isCh] at nA
    have HS := hidP hs
    have hno : MachD.nothing (.bx n) = false := rfl
    rw [hno] at HNO
    clear h ok fit ht hg gr gf ra1 ra2 hs hch hVA hVB t0 t2 t5 t6 t7 opc h6 hka hkb ha0 ha6 hb0 hb6 hgb hub g0 hno
    go_enter Tryz.func58, Tryz.ntmps58
    go_upto_region 0 with fail
    go_quiet (fail)
    go_upto_region 2 with fail
    refine wp_undrewN (w := w) ?_
    intro W0 hh0 hk0
    have t1 := cell_heap hh0 t1
    have t3 := cell_heap hh0 t3
    have t4 := cell_heap hh0 t4
    have gka := cell_heap hh0 gka
    have gkb := cell_heap hh0 gkb
    have g1 := cell_heap hh0 g1
    have fkb := frozen_heap hh0 fkb
    have f1 := frozen_heap hh0 f1
    clear hh0
    go_quiet (first | (go_at_call 96; with_reducible exact Calls.quiet_of_same (HNO.out _)) | fail)
    go_wp2_with (go_at_call 97; with_reducible refine (HF.out _ _ (hk0.drewN _)).mono ?_; rintro e w1 ⟨rfl, h1⟩)
    first | go_end0 | ((try simp only [Exit.inBlock, Exit.then]); refine bodyPost_ret (results_none rfl _ _ _) rfl ?_)
    exact ⟨rfl, by rw [HS.out]; exact h1⟩
theorem unlink_sub (l : List Nat) : ∀ (m : MachD) (i : Nat) (c' : ChanD), (m.unlink l).chans[i]? = some c' → ∃ c, m.chans[i]? = some c ∧ c'.takes.Sublist c.takes := by
  induction l with
  | nil => intro m i c' h; exact ⟨c', h, List.Sublist.refl _⟩
  | cons y l ih =>
    intro m i c' h
    obtain ⟨c1, h1, a1⟩ := ih (m.unlink1 y) i c' h
    unfold MachD.unlink1 MachD.setChan at h1
    dsimp only at h1
    rcases set_some h1 with ⟨rfl, rfl, hl⟩ | ⟨hne, h1⟩
    · obtain ⟨c, hc⟩ := some_lt hl
      rw [chanAt_some hc] at a1
      exact ⟨c, hc, a1.trans List.filter_sublist⟩
    · exact ⟨c1, h1, a1⟩
theorem wake_fewer {m : MachD} (ok : Ok m) {c : Nat} {cd : ChanD} (hc : m.chans[c]? = some cd) {k : Nat} {r : List Nat} (hk : cd.takes = k :: r) (x : PV) : ((m.wake k x).chanAt c).takes.length ≤ r.length := by
  obtain ⟨wd, gd, h1, h2, h4, h5⟩ := (ok.chan c cd hc).takes k (by rw [hk]; exact List.mem_cons_self ..)
  have hw : Waits m k wd gd := ⟨h1, h4, h5⟩
  obtain ⟨c2, hc2⟩ := some_lt (l := (m.wake k x).chans) (i := c) (by rw [(like_wake k x).chans]; exact lt_of_some hc)
  rw [chanAt_some hc2]
  rw [wake_eq hw] at hc2
  obtain ⟨c0, hc0, hL⟩ := unlink_left gd.waits _ c c2 hc2
  obtain ⟨c0', hc0', hS⟩ := unlink_sub gd.waits _ c c2 hc2
  rw [hc] at hc0 hc0'
  obtain rfl := Option.some.inj hc0
  obtain rfl := Option.some.inj hc0'
  rw [hk] at hS
  rcases List.sublist_cons_iff.1 hS with h | ⟨r', hr, h⟩
  · exact h.length_le
  · exact absurd h2 (by have := (hL.takes k (by rw [hr]; exact List.mem_cons_self ..)).2 h5; rw [waitAt_some h1] at this; exact this)
theorem Inv.closePut {B : Nat} {P : Value} {σ : Lay} {ow : Owns} {m : MachD} {w : World} (h : Inv B P σ ow m w) {i : Nat} {c : ChanD} (hc : m.chans[i]? = some c) : Res B P σ ow (m.setChan i { c with closed := true }) w (w.setCell ⟨σ.cA i, 1, none⟩ (.bool true)) := by
  obtain ⟨hv, sv, tv, hcell, r1, r2, r3, hne⟩ := h.lenC hc
  have K1 : Keep (fun b => ow b = some (.chan i)) w (w.setCell ⟨σ.cA i, 1, none⟩ (.bool true)) := (Keep.refl _ w).setCell (p := ⟨σ.cA i, 1, none⟩) hcell.2 _
  have K2 : Keep (fun b => b = σ.cA i) w (w.setCell ⟨σ.cA i, 1, none⟩ (.bool true)) := (Keep.refl (fun b => b = σ.cA i) w).setCell (p := ⟨σ.cA i, 1, none⟩) rfl _
  exact h.chan_put (c' := { c with closed := true }) hc K1 (heap_setCell_same w _ 1 _ _ _ hcell.1)
    (r1.stay K2 (fun b h1 h2 => r1.row_ne hcell.1 (by decide) (h2 ▸ h1)) (.frm _)) (r2.stay K2 (fun b h1 h2 => r2.row_ne hcell.1 (by decide) (h2 ▸ h1)) (.frm _)) (r3.stay K2 (fun b h1 h2 => r3.row_ne hcell.1 (by decide) (h2 ▸ h1)) (.frm _)) hne
structure ShutJ (B : Nat) (P : Value) (σ : Lay) (ow : Owns) (m1 : MachD) (w : World) (c n : Nat) (mj : MachD) (k : Nat) (wr : World) : Prop where
  res : Res B P σ ow mj w wr
  ok : Ok mj
  like : Like m1 mj
  eq : MachD.shutF n m1 c = MachD.shutF k mj c
  few : (mj.chanAt c).takes.length ≤ k
def takesLen (w : World) (cb : Nat) : Nat := match w.cell? ⟨cb, 4, none⟩ with
  | some (.slice _ n _) => n
  | _ => 0
theorem takesLen_eq {B : Nat} {P : Value} {σ : Lay} {ow : Owns} {m : MachD} {w : World} (h : Inv B P σ ow m w) {c : Nat} {cd : ChanD} (hc : m.chans[c]? = some cd) : takesLen w (σ.cA c) = cd.takes.length := by
  obtain ⟨hv, sv, tv, hcell, _, _, r3, _⟩ := h.lenC hc
  obtain ⟨_, _, _, _, d4, _⟩ := chan_cells hcell.1
  obtain ⟨ta, tc, rfl, _⟩ := mt_slice r3.1
  unfold takesLen
  rw [d4]
set_option maxRecDepth 100000 in
set_option maxHeartbeats 3200000 in
theorem shut_any {B : Nat} {P : Value} {σ : Lay} {ow : Owns} {m : MachD} {w : World} (h : Inv B P σ ow m w) (ok : Ok m) (fit : Fit m) {tb g c4 : Nat} {x : InstrD} {A4 : Option Addr} {draw : Int} (ht : IsTurn σ ow w tb g x A4 c4 draw) {gd : GorD} (hg : m.gors[g]? = some gd) (ha0 : 0 ≤ x.a) (ha6 : x.a < 6) :
    Calls Tryz.prog 57 #[.pointer (some ⟨tb, 0, none⟩)] w fun e w' => e = .returned (.tuple #[]) ∧ Res B P σ ow (m.shut g x.a) w w' := by
  obtain ⟨t0, t1, t2, t3, t4, t5, t6, t7⟩ := ht.cells
  obtain ⟨v, _, _, h6, g0, g1, gr, _, gf⟩ := h.gorAt hg
  obtain ⟨ra1, ra2⟩ := ok.reg hg ha0 ha6
  have opc := (ok.gor g gd hg).pc
  obtain ⟨ka, hka, hka6⟩ := reg_nat ha0 ha6
  have hs : m.shut g x.a = m.shut g x.a := rfl
  conv at hs => rhs; unfold MachD.shut
  have HF := hidP (fun oc => fail_same h fit ht hg oc)
  rw [hka] at ra1 t3
  have gka := gr ka _ ra1
  rw [← hka] at gka
  have f1 := gf 1
  have ea0 : (0 : Int) ≤ (ka : Int) := by omega
  have ea6 : (ka : Int) < 6 := by omega
  obtain ⟨gb, hgb⟩ : ∃ gb, σ.gA g = gb := ⟨_, rfl⟩
  rw [hgb] at t1 gka f1 g1
  have nA := as_ch σ (m.reg g x.a)
  have HNO := hidP (fun w => nothing_any σ (m.reg g x.a) w)
  obtain ⟨VA, hVA⟩ : ∃ V, encV σ (m.reg g x.a) = V := ⟨_, rfl⟩
  rw [hVA] at nA gka HNO
  cases hch : m.reg g x.a with
  | num n =>
    rw [hch] at nA hs HNO
    try dsimp only at hs
    simp only [chOf, isCh] at nA
    have HS := hidP hs
    by_cases hn : n = 0
    · subst hn
      have hno : MachD.nothing (.num 0) = true := rfl
      rw [hno] at HNO
      clear h ok fit ht hg gr gf ra1 ra2 hs hch hVA t2 t4 t5 t6 t7 opc h6 hka ha0 ha6 hgb g0 hno f1 g1
      go_enter Tryz.func57, Tryz.ntmps57
      go_upto_region 0 with fail
      go_quiet (fail)
      go_upto_region 5 with fail
      refine wp_undrewN (w := w) ?_
      intro W0 hh0 hk0
      have t0 := cell_heap hh0 t0
      have t1 := cell_heap hh0 t1
      have t3 := cell_heap hh0 t3
      have gka := cell_heap hh0 gka
      skip
      clear hh0
      go_quiet (first | (go_at_call 96; with_reducible exact Calls.quiet_of_same (HNO.out _)) | fail)
      go_wp2_with (go_at_call 97; with_reducible refine (HF.out _ _ (hk0.drewN _)).mono ?_; rintro e w1 ⟨rfl, h1⟩)
      first | go_end0 | ((try simp only [Exit.inBlock, Exit.then]); refine bodyPost_ret (results_none rfl _ _ _) rfl ?_)
      exact ⟨rfl, by rw [HS.out, if_pos trivial]; exact h1⟩
    · have hno : MachD.nothing (.num n) = false := by simp [MachD.nothing, hn]
      rw [hno] at HNO
      clear h ok fit ht hg gr gf ra1 ra2 hs hch hVA t2 t4 t5 t6 t7 opc h6 hka ha0 ha6 hgb g0 hno f1 g1
      go_enter Tryz.func57, Tryz.ntmps57
      go_upto_region 0 with fail
      go_quiet (fail)
      go_upto_region 5 with fail
      refine wp_undrewN (w := w) ?_
      intro W0 hh0 hk0
      have t0 := cell_heap hh0 t0
      have t1 := cell_heap hh0 t1
      have t3 := cell_heap hh0 t3
      have gka := cell_heap hh0 gka
      skip
      clear hh0
      go_quiet (first | (go_at_call 96; with_reducible exact Calls.quiet_of_same (HNO.out _)) | fail)
      go_wp2_with (go_at_call 97; with_reducible refine (HF.out _ _ (hk0.drewN _)).mono ?_; rintro e w1 ⟨rfl, h1⟩)
      first | go_end0 | ((try simp only [Exit.inBlock, Exit.then]); refine bodyPost_ret (results_none rfl _ _ _) rfl ?_)
      exact ⟨rfl, by rw [HS.out, if_neg hn]; exact h1⟩
  | bx n =>
    rw [hch] at nA hs HNO
    try dsimp only at hs
    simp only [chOf, isCh] at nA
    have HS := hidP hs
    have hno : MachD.nothing (.bx n) = false := rfl
    rw [hno] at HNO
    clear h ok fit ht hg gr gf ra1 ra2 hs hch hVA t2 t4 t5 t6 t7 opc h6 hka ha0 ha6 hgb g0 hno f1 g1
    go_enter Tryz.func57, Tryz.ntmps57
    go_upto_region 0 with fail
    go_quiet (fail)
    go_upto_region 5 with fail
    refine wp_undrewN (w := w) ?_
    intro W0 hh0 hk0
    have t0 := cell_heap hh0 t0
    have t1 := cell_heap hh0 t1
    have t3 := cell_heap hh0 t3
    have gka := cell_heap hh0 gka
    skip
    clear hh0
    go_quiet (first | (go_at_call 96; with_reducible exact Calls.quiet_of_same (HNO.out _)) | fail)
    go_wp2_with (go_at_call 97; with_reducible refine (HF.out _ _ (hk0.drewN _)).mono ?_; rintro e w1 ⟨rfl, h1⟩)
    first | go_end0 | ((try simp only [Exit.inBlock, Exit.then]); refine bodyPost_ret (results_none rfl _ _ _) rfl ?_)
    exact ⟨rfl, by rw [HS.out]; exact h1⟩
  | ch c =>
    rw [hch] at nA hs HNO ra2
    obtain ⟨cd, hcd⟩ := some_lt (l := m.chans) (i := c) ra2
    dsimp only at hs
    rw [chanAt_some hcd] at hs
    have hno : MachD.nothing (.ch c) = false := rfl
    rw [hno] at HNO
    obtain ⟨hv, sv, tv, hcell, r1, r2, r3, hne⟩ := h.lenC hcd
    obtain ⟨_, c1, _, c3, _, cf⟩ := chan_cells hcell.1
    have cf1 := cf 1
    obtain ⟨cb, hcb⟩ : ∃ cb, σ.cA c = cb := ⟨_, rfl⟩
    simp only [chOf, isCh, hcb] at nA
    rw [hcb] at c1 c3 cf1
    obtain ⟨sa, sc, hsv, _⟩ := mt_slice r2.1
    rw [hsv] at c3
    obtain ⟨ns, hns⟩ : ∃ ns, cd.sends.length = ns := ⟨_, rfl⟩
    rw [hns] at c3
    have HJ := hidP (fun (W : World) (hk : Keep (fun _ => False) w W) => Res.same hk ((h.same hk).closePut hcd))
    rw [hcb] at HJ
    have hc1 : (m.setChan c { cd with closed := true }).chans[c]? = some { cd with closed := true } := set_get (lt_of_some hcd)
    have hok1 : Ok (m.setChan c { cd with closed := true }) := ok.setChan hcd (fun y hy => (ok.chan c cd hcd).held y hy) rfl rfl (ok.chan c cd hcd).cap
    have hS1 : cd.closed = true → m.shut g x.a = m.fin 4 g := fun e => by rw [hs, if_pos e]
    have hS2 : ¬ cd.closed = true → 0 < cd.sends.length → m.shut g x.a = m.fin 3 g := fun e e2 => by
      rw [hs, if_neg e]
      split
      · rfl
      · rename_i hnil; rw [hnil] at e2; exact absurd e2 (Nat.lt_irrefl _)
    have hS3 : ¬ cd.closed = true → cd.sends.length = 0 → m.shut g x.a = (MachD.shutF cd.takes.length (m.setChan c { cd with closed := true }) c).incPc g := fun e e2 => by
      rw [hs, if_neg e]
      split
      · rename_i hcons; rw [hcons] at e2; cases e2
      · rfl
    have HS := hidP (⟨hS1, hS2, hS3, hns⟩ : _ ∧ _ ∧ _ ∧ _)
    have HX := hidP (⟨ht, hg, hgb, hcb, hcd, hc1, hok1, fit, (like_setChan c { cd with closed := true } : Like m _)⟩ : _ ∧ _ ∧ _ ∧ _ ∧ _ ∧ _ ∧ _ ∧ _ ∧ _)
    clear h ok fit ht hg gr gf ra1 ra2 hs hch hVA t2 t4 t5 t6 t7 opc h6 hka ha0 ha6 hgb g0 hno f1 g1 hcell r1 r2 r3 hne cf hsv hns hcb hcd hc1 hok1 hS1 hS2 hS3
    obtain ⟨cl, hcl⟩ : ∃ cl, cd.closed = cl := ⟨_, rfl⟩
    rw [hcl] at c1
    have HCL := hidP hcl
    clear hcl
    cases cl with
    | true =>
      go_enter Tryz.func57, Tryz.ntmps57
      go_upto_region 0 with fail
      go_quiet (fail)
      go_upto_region 5 with fail
      refine wp_undrewN (w := w) ?_
      intro W0 hh0 hk0
      have t0 := cell_heap hh0 t0
      have t1 := cell_heap hh0 t1
      have t3 := cell_heap hh0 t3
      have gka := cell_heap hh0 gka
      (have c1 := cell_heap hh0 c1; have c3 := cell_heap hh0 c3; have cf1 := frozen_heap hh0 cf1)
      clear hh0
      go_quiet (first | (go_at_call 96; with_reducible exact Calls.quiet_of_same (HNO.out _)) | fail)
      go_wp2_with (go_at_call 97; with_reducible refine (HF.out _ _ (hk0.drewN _)).mono ?_; rintro e w1 ⟨rfl, h1⟩)
      first | go_end0 | ((try simp only [Exit.inBlock, Exit.then]); refine bodyPost_ret (results_none rfl _ _ _) rfl ?_)
      exact ⟨rfl, by rw [HS.out.1 HCL.out]; exact h1⟩
    | false =>
      by_cases hns0 : 0 < ns
      · have lt1 : (0 : Int) < (ns : Int) := by omega
        go_enter Tryz.func57, Tryz.ntmps57
        go_upto_region 0 with fail
        go_quiet (fail)
        go_upto_region 5 with fail
        refine wp_undrewN (w := w) ?_
        intro W0 hh0 hk0
        have t0 := cell_heap hh0 t0
        have t1 := cell_heap hh0 t1
        have t3 := cell_heap hh0 t3
        have gka := cell_heap hh0 gka
        (have c1 := cell_heap hh0 c1; have c3 := cell_heap hh0 c3; have cf1 := frozen_heap hh0 cf1)
        clear hh0
        go_quiet (first | (go_at_call 96; with_reducible exact Calls.quiet_of_same (HNO.out _)) | fail)
        go_wp2_with (go_at_call 97; with_reducible refine (HF.out _ _ (hk0.drewN _)).mono ?_; rintro e w1 ⟨rfl, h1⟩)
        first | go_end0 | ((try simp only [Exit.inBlock, Exit.then]); refine bodyPost_ret (results_none rfl _ _ _) rfl ?_)
        exact ⟨rfl, by rw [HS.out.2.1 (by rw [HCL.out]; simp) (by rw [HS.out.2.2.2]; exact hns0)]; exact h1⟩
      · obtain rfl : ns = 0 := by omega
        go_enter Tryz.func57, Tryz.ntmps57
        go_upto_region 0 with fail
        go_quiet (fail)
        go_upto_region 5 with fail
        refine wp_undrewN (w := w) ?_
        intro W0 hh0 hk0
        have t0 := cell_heap hh0 t0
        have t1 := cell_heap hh0 t1
        have t3 := cell_heap hh0 t3
        have gka := cell_heap hh0 gka
        (have c1 := cell_heap hh0 c1; have c3 := cell_heap hh0 c3; have cf1 := frozen_heap hh0 cf1)
        clear hh0
        go_quiet (first | (go_at_call 96; with_reducible exact Calls.quiet_of_same (HNO.out _)) | fail)
        have HK0 := hidP hk0
        clear hk0
        go_upto_region 1 with fail
        go_wp2_with fail
        go_loopw [] (fun wr => ∃ (mj : MachD) (k : Nat), Hid (ShutJ B P σ ow (m.setChan c { cd with closed := true }) w c cd.takes.length mj k wr)) (fun wr => takesLen wr cb)
        case atStart =>
          obtain ⟨ht, hg, hgb, hcb, hcd, hc1, hok1, fit, lk⟩ := HX.out
          refine ⟨_, _, ⟨?_, hok1, .refl _, rfl, ?_⟩⟩
          · exact HJ.out _ (HK0.out.drewN _)
          · rw [chanAt_some hc1]; exact Nat.le_refl _
        case round =>
          obtain ⟨mj, k, HJJ⟩ := hrel
          obtain ⟨wo, hwo⟩ : ∃ wo, wo = wr := ⟨_, rfl⟩
          subst hwo
          obtain ⟨ht, hg, hgb, hcb, hcd, hc1, hok1, fit, lk⟩ := HX.out
          obtain ⟨hres, okj, lkj, hej, hfj⟩ := HJJ.out
          obtain ⟨ow1, hI, hK, hM⟩ := hres
          have htj := ht.keep hK hM
          have fitj := lkj.fit (lk.fit fit)
          obtain ⟨j0, j1, _⟩ := htj.cells
          rw [hgb] at j1
          obtain ⟨cj, hcj⟩ := some_lt (l := mj.chans) (i := c) (by rw [lkj.chans]; exact lt_of_some hc1)
          obtain ⟨gj, hgj⟩ := some_lt (l := mj.gors) (i := g) (by rw [lkj.gors, lk.gors]; exact lt_of_some hg)
          obtain ⟨hv2, sv2, tv2, hcell2, _, _, q3, _⟩ := hI.lenC hcj
          obtain ⟨_, _, _, _, d4, _⟩ := chan_cells hcell2.1
          rw [chanAt_some hcj] at hfj
          rw [hcb] at d4
          cases htk : cj.takes with
          | cons y r =>
            rw [htk] at q3 hfj
            obtain ⟨b, off, tc, rfl, ct⟩ := first_cell q3
            obtain ⟨wd, gd2, hw, _⟩ := takes_waits okj hcj (k := y) (by rw [htk]; exact List.mem_cons_self ..)
            have HW := hidP (wake_any hI.drew okj fitj hw ok_num0)
            obtain ⟨k, rfl⟩ : ∃ k', k = k' + 1 := ⟨k - 1, by rw [List.length_cons] at hfj; omega⟩
            obtain ⟨n, hn⟩ : ∃ n, r.length = n := ⟨_, rfl⟩
            rw [hn] at d4
            have lt2 : (0 : Int) < (n : Int) + 1 := by omega
            have hY := hidP (⟨hcj, htk, hI, hK, hM, okj, lkj, hej, hfj, hn⟩ : _ ∧ _ ∧ _ ∧ _ ∧ _ ∧ _ ∧ _ ∧ _ ∧ _ ∧ _)
            have D4 := hidP d4
            unfold encV at HW
            clear ht hg hgb hcb hcd hc1 hok1 fit lk okj lkj hej hfj hI hK hM htj fitj j1 hcj hgj hcell2 q3 htk hw hn
            go_wp2_with fail
            go_upto_region 3 with fail
            go_still_tail 11, (by kernel_rfl)
            go_wp2_with (go_at_call 70; with_reducible refine HW.out.mono ?_; rintro e w1 ⟨rfl, h1, _⟩)
            obtain ⟨hcj, htk, hI, hK, hM, okj, lkj, hej, hfj, hn⟩ := hY.out
            obtain ⟨ht, hg, hgb, hcb, hcd, hc1, hok1, fit, lk⟩ := HX.out
            obtain ⟨wd, gd2, hw, _⟩ := takes_waits okj hcj (k := y) (by rw [htk]; exact List.mem_cons_self ..)
            have hfew := wake_fewer okj hcj htk (.num 0)
            have lkw := like_wake (m := mj) y (.num 0)
            go_roundw
            case measure =>
              obtain ⟨c2, hc2⟩ := some_lt (l := (mj.wake y (.num 0)).chans) (i := c) (by rw [lkw.chans]; exact lt_of_some hcj)
              obtain ⟨ow2, hI2, _⟩ := h1
              rw [chanAt_some hc2] at hfew
              rw [← hcb, takesLen_eq hI2 hc2, takesLen_eq hI hcj, htk, List.length_cons]
              omega
            case rel =>
              refine ⟨mj.wake y (.num 0), k, ⟨Res.trans hK hM h1.undrew, okj.wake hw ok_num0, lkj.trans lkw, ?_, ?_⟩⟩
              · rw [hej]
                show (match (mj.chanAt c).takes with | [] => mj | w :: _ => MachD.shutF k (mj.wake w (.num 0)) c) = _
                rw [chanAt_some hcj, htk]
              · rw [List.length_cons] at hfj; omega
          | nil =>
            rw [htk] at q3
            obtain ⟨ta, tc, rfl, _⟩ := mt_slice q3.1
            simp only [List.length_nil] at d4
            obtain ⟨_, _, _, _, _, p1, _, _, pf⟩ := hI.gorAt hgj
            rw [hgb] at p1 pf
            have pf1 := pf 1
            have hpc := (okj.gor g gj hgj).pc
            have wpc : IntKind.i64.wrap (gj.pc + 1) = gj.pc + 1 := IntWalk.i64_in _ (by omega)
            have HP := hidP (hI.incPc hgj)
            rw [hgb] at HP
            have hfin : MachD.shutF k mj c = mj := by
              cases k with
              | zero => rfl
              | succ k =>
                show (match (mj.chanAt c).takes with | [] => mj | w :: _ => MachD.shutF k (mj.wake w (.num 0)) c) = _
                rw [chanAt_some hcj, htk]
            have HY := hidP (⟨hK, hM, hej.trans hfin⟩ : _ ∧ _ ∧ _)
            clear ht hg hgb hcb hcd hc1 hok1 fit lk okj lkj hej hfj hI hK hM htj fitj hcj hgj hcell2 q3 htk hpc hfin pf
            go_wp2
            first | go_end0 | ((try simp only [Exit.inBlock, Exit.then]); refine bodyPost_ret (results_none rfl _ _ _) rfl ?_)
            obtain ⟨hK, hM, hej⟩ := HY.out
            refine ⟨rfl, ?_⟩
            rw [HS.out.2.2.1 (by rw [HCL.out]; simp) HS.out.2.2.2, hej]
            exact Res.trans hK hM HP.out
end Go.Proofs.YtklfboidjnchoaaGreatDoor
namespace Go.Proofs.YtklfboidjnchoaaGreatDoor
open Go.RowKit
set_option linter.unusedVariables false
set_option linter.unusedSimpArgs false
set_option linter.unusedVariables false
theorem takeRow {α : Type} (A B C : List α) (i : Nat) (h : A.length = i) : (A ++ B ++ C).take i = A := by
  rw [← h, List.append_assoc, List.take_left]
theorem Tryz.slTm : SlT Tryz.prog 64 104 (.agg #[.int .i64 0, .pointer none]) 2 16 := ⟨Tryz.underlying64, by kernel_rfl, rfl, by decide⟩
theorem Tryz.slotTm : (Tryz.prog.info? 104).map (·.size) = some 2 := by kernel_rfl
theorem Tryz.sizeTm (w : World) : (Go.sizeOf 104).run Tryz.prog w = .ok 2 w := by
  obtain ⟨i, hi, h0, h1, h2⟩ := info_parts Tryz.slTm.hi
  simp [sizeOf, typeInfo, hi, h1]
theorem run_copy_cellsN {P : Program} (w : World) (dT sT ty elem : TypeId) (size n b o dLen dCap : Nat) (a : Addr) (sLen sCap : Nat) (cs : List Value)
    (hu : P.underlying dT = some (.slice elem)) (hs : (P.info? elem).map (·.size) = some size) (hm : Nat.min sLen dLen = n) (hn : cs.length = n * size)
    (hsrc : ∀ j v, cs[j]? = some v → w.cell? (a.add j) = some v) (hc : ∀ j, j < cs.length → (w.cell? ⟨b, o + j, none⟩).isSome = true) (hf : ∀ j, j < cs.length → w.frozen? ⟨b, o + j, none⟩ = false) (h1 : ∀ v ∈ cs, v.oneCell' = true) :
    (Builtin.copy_ #[dT, sT] ty #[.slice (some ⟨b, o, none⟩) dLen dCap, .slice (some a) sLen sCap]).run P w = .ok (goInt n) (w.setCells b o cs) := by
  have hl := run_loadCells_list (P := P) w a cs hsrc
  have hst := run_storeCells_cells (P := P) b o cs 0 w (by simpa using hc) (by simpa using hf) h1
  cases hq : P.info? elem with
  | none => simp [hq] at hs
  | some i =>
    have hi : i.size = size := by simpa [hq] using hs
    simp [Builtin.copy_, run_underlying hu, Builtin.lenOf, Builtin.firstCells, sizeOf, typeInfo, hq, hi, hm, ← hn, hl, hst]
def InsT (B : Nat) (w : World) (ao : Option Addr) (n c : Nat) (ys : List Value) (e : Ending) (w' : World) : Prop :=
  ∃ a2 c2, e = .returned (.slice a2 (n + 1) c2) ∧ w'.ownsRow B 104 2 (.slice a2 (n + 1) c2) (n + 1) ys ∧ Keep (fun k => (Value.slice ao n c).ownBlock = some k) w w' ∧
    ((Value.slice a2 (n + 1) c2).ownBlock = (Value.slice ao n c).ownBlock ∨ ∃ k, (Value.slice a2 (n + 1) c2).ownBlock = some k ∧ w.heap.size ≤ k)
set_option maxRecDepth 100000 in
set_option maxHeartbeats 1000000 in
theorem insT_end (B : Nat) (ao : Option Addr) (n c vb : Nat) (cs : List Value) (x y : Value) (w : World) (ho : w.ownsRow B 104 2 (.slice ao n c) n cs) (hx : x.oneCell' = true) (hy : y.oneCell' = true) (hv : w.heap[vb]? = some (.cells #[x, y] 104 (0, 0))) (hmax : n ≤ 1000000) (hB : B ≤ w.heap.size) :
    Calls Tryz.prog 100 #[.slice ao n c, .int .i64 n, .slice (some ⟨vb, 0, none⟩) 1 1] w (InsT B w ao n c (cs ++ [x, y])) := by
  have hrv : RowAt w (some ⟨vb, 0, none⟩) [x, y] := .inr ⟨vb, 0, rfl, fun j u hj => by rw [Nat.zero_add, block_cell hv j]; simpa using hj⟩
  obtain ⟨ao', cap', he, hr, hnc, hcm, hnil, hl⟩ := owns_open ho
  cases he
  unfold maxLen at hcm
  have HR := hidP hr
  have HN := hidP hnil
  have HL := hidP hl
  clear hr hnil hl
  go_enter Tryz.func100, Tryz.ntmps100
  go_wp2_with (at_builtin; go_loud (refine (wpList_app _ rfl (.tmp 23) (.tmp 24) rfl Tryz.slTm B (.slice ao n c) n cs rfl ho (some ⟨vb, 0, none⟩) 1 1 [x, y] rfl (n + 1) rfl hrv rfl (by simpa using ⟨hx, hy⟩) (by omega) (by unfold maxLen; omega) hB ?_)); intro a2 c2 w2 ho2 hg2 hw2)
  go_ret
  exact ⟨a2, c2, rfl, ho2, .of_grown hg2 (fun k hk => hk), hw2.imp id (fun h => ⟨_, h, Nat.le_refl _⟩)⟩
set_option maxRecDepth 100000 in
set_option maxHeartbeats 1600000 in
theorem insT_shift (g n c i vb : Nat) (cs : List Value) (x y : Value) (cur : Array Value) (w : World) (hg : w.heap[g]? = some (.cells cur 104 (0, 0))) (hcz : cur.size = c * 2) (htk : cur.toList.take (n * 2) = cs) (hn : cs.length = n * 2) (hi : i < n) (hroom : n + 1 ≤ c)
    (hc : c ≤ maxLen) (h1 : ∀ u ∈ cs, u.oneCell' = true) (hx : x.oneCell' = true) (hy : y.oneCell' = true) (hv : w.heap[vb]? = some (.cells #[x, y] 104 (0, 0))) (hvg : vb ≠ g) (hmax : n ≤ 1000000) :
    Calls Tryz.prog 100 #[.slice (some ⟨g, 0, none⟩) n c, .int .i64 i, .slice (some ⟨vb, 0, none⟩) 1 1] w fun e w' =>
      e = .returned (.slice (some ⟨g, 0, none⟩) (n + 1) c) ∧ w' = (w.drew.setCells g ((i + 1) * 2) (cs.drop (i * 2))).setCells g (i * 2) [x, y] := by
  unfold maxLen at hc
  have hcell : ∀ j v, cs[j]? = some v → w.cell? ⟨g, j, none⟩ = some v := fun j v hj => by
    rw [block_cell hg j, ← Array.getElem?_toList]
    rw [← htk, List.getElem?_take] at hj
    split at hj
    · exact hj
    · cases hj
  have hsp : ∀ j, j < (n + 1) * 2 → (w.cell? ⟨g, j, none⟩).isSome = true := fun j hj => by rw [block_cell hg j, Array.getElem?_eq_getElem (by omega)]; rfl
  have hfz : ∀ j, w.frozen? ⟨g, j, none⟩ = false := fun j => frozen_of_row w g j cur _ hg
  have hdl : (cs.drop (i * 2)).length = (n - i) * 2 := by rw [List.length_drop, hn]; omega
  have hov : ∀ lb cb, (callFunc 115 #[.slice (some ⟨vb, 0, none⟩) 1 1, .slice (some ⟨g, (i + 1) * 2, none⟩) lb cb]).run Tryz.prog w = .ok (.value (.bool false)) w := fun lb cb => by
    rw [run_callFunc_extern Tryz.func115 (by kernel_rfl) (by kernel_rfl) (by kernel_rfl) (e := Extern.SlicesOverlaps.overlaps #[64, 64] #[4]) (by kernel_rfl),
      Lib.run_overlaps_apart w 64 4 104 Tryz.underlying64 2 Tryz.sizeTm ⟨vb, 0, none⟩ ⟨g, (i + 1) * 2, none⟩ 1 1 lb cb hvg 104 104 2 cur.size (by simp [World.shape?, hv]) (by simp [World.shape?, hg]) (by omega) (frozen_of_row w vb 0 _ _ hv) (frozen_of_row w vb 2 _ _ hv)]
    rfl
  have hw1 : IntKind.i64.wrap ((i : Int) + 1) = (i : Int) + 1 := by rw [IntKind.wrap_i64]; omega
  have hw2 : wrap64 ((i : Int) + 1) = (i : Int) + 1 := IntWalk.wrap64_in _ (by omega)
  have hw3 : wrap64 ((n : Int) + 1) = (n : Int) + 1 := IntWalk.wrap64_in _ (by omega)
  have hz2 : ¬ ((i : Int) = (n : Int)) := by omega
  have hb1 : (0 : Int) ≤ (i : Int) + 1 := by omega
  have hb0 : (0 : Int) ≤ (i : Int) := by omega
  have hin : i ≤ n := by omega
  have htn : ((i : Int) + 1).toNat = i + 1 := by omega
  have hb2 : ¬ (c = i + 1) := by omega
  have hb3 : (i : Int) ≤ (n : Int) + 1 := by omega
  have hb4 : ¬ (c = i) := by omega
  have hb5 : (n : Int) + 1 ≤ (c : Int) := by omega
  have hb6 : ¬ ((c : Int) < (n : Int) + 1) := by omega
  have htn2 : ((n : Int) + 1).toNat = n + 1 := by omega
  have hcA : cutA (some ⟨g, 0, none⟩) (i + 1) c 2 = some ⟨g, (i + 1) * 2, none⟩ := by unfold cutA; rw [if_neg hb2]; simp [Addr.add]
  have hcB : cutA (some ⟨g, 0, none⟩) i c 2 = some ⟨g, i * 2, none⟩ := by unfold cutA; rw [if_neg hb4]; simp [Addr.add_lit]
  have htn3 : n + 1 - (i + 1) = n - i := by omega
  have hcp1 : ∀ ty dc sc, (Builtin.copy_ #[64, 64] ty #[.slice (some ⟨g, (i + 1) * 2, none⟩) (n - i) dc, .slice (some ⟨g, i * 2, none⟩) (n + 1 - i) sc]).run Tryz.prog w.drew = .ok (goInt (n - i : Nat)) (w.drew.setCells g ((i + 1) * 2) (cs.drop (i * 2))) := fun ty dc sc =>
    run_copy_cellsN w.drew _ _ ty 104 2 (n - i) g ((i + 1) * 2) (n - i) dc ⟨g, i * 2, none⟩ (n + 1 - i) sc (cs.drop (i * 2)) Tryz.underlying64 Tryz.slotTm (by simp only [Nat.min_def]; split <;> omega) hdl
      (fun j v hj => by rw [Addr.add_lit]; exact hcell (i * 2 + j) v (by rwa [List.getElem?_drop] at hj))
      (fun j hj => hsp _ (by omega)) (fun j hj => hfz _) (fun v hv => h1 v (List.mem_of_mem_drop hv))
  obtain ⟨W1, hW1⟩ : ∃ W1, W1 = w.drew.setCells g ((i + 1) * 2) (cs.drop (i * 2)) := ⟨_, rfl⟩
  have hW1h := heap_setCells g 104 (cs.drop (i * 2)) ((i + 1) * 2) cur w.drew hg (by rw [hdl]; omega)
  rw [← hW1] at hW1h
  have hcp2 : ∀ ty dc, (Builtin.copy_ #[64, 64] ty #[.slice (some ⟨g, i * 2, none⟩) (n + 1 - i) dc, .slice (some ⟨vb, 0, none⟩) 1 1]).run Tryz.prog W1 = .ok (goInt (1 : Nat)) (W1.setCells g (i * 2) [x, y]) := fun ty dc =>
    run_copy_cellsN W1 _ _ ty 104 2 1 g (i * 2) (n + 1 - i) dc ⟨vb, 0, none⟩ 1 1 [x, y] Tryz.underlying64 Tryz.slotTm (by simp only [Nat.min_def]; split <;> omega) rfl
      (fun j v hj => by
        rw [Addr.add_lit, hW1, World.cell?_setCells_out g _ _ _ _ (fun h _ => absurd h hvg)]
        show w.cell? ⟨vb, 0 + j, none⟩ = some v
        rw [Nat.zero_add, block_cell hv j]; simpa using hj)
      (fun j hj => by rw [block_cell hW1h (i * 2 + j), Array.getElem?_eq_getElem (by simp at hj; simp [hdl]; omega)]; rfl) (fun j hj => frozen_of_row W1 g (i * 2 + j) _ _ hW1h) (by simpa using ⟨hx, hy⟩)
  rw [← hW1] at hcp1 ⊢
  clear hW1h hW1
  go_enter Tryz.func100, Tryz.ntmps100
  go_upto_region 15 with (simp only [hov])
  go_still_tail 8, (by kernel_rfl)
  go_wp2_with (first | (at_builtin; go_loud (refine wpList_copy_runI _ rfl _ _ 64 64 rfl _ _ rfl rfl (hcp1 _ _ _) ?_)) | (at_builtin; go_loud (refine wpList_copy_runI _ rfl _ _ 64 64 rfl _ _ rfl rfl (hcp2 _ _) ?_)))
  go_ret
  exact ⟨rfl, rfl⟩
theorem takeGrow2 {α : Type} (R R2 cs : List α) (x y : α) (n i : Nat) (hn : cs.length = n * 2) (hi : i < n) (hR : R.take (i * 2) = cs.take (i * 2)) (h2 : R2 = R.take (i * 2) ++ [x, y] ++ R.drop (i * 2 + [x, y].length)) :
   (R2.take ((i + 1) * 2) ++ cs.drop (i * 2) ++ R2.drop ((i + 1) * 2 + (cs.drop (i * 2)).length)).take ((n + 1) * 2) = cs.take (i * 2) ++ [x, y] ++ cs.drop (i * 2) := by
  have htl : (cs.take (i * 2) ++ [x, y]).length = (i + 1) * 2 := by simp; omega
  have e1 : R2.take ((i + 1) * 2) = cs.take (i * 2) ++ [x, y] := by rw [h2, hR, ← htl, List.take_left]
  have hl : (cs.take (i * 2) ++ [x, y] ++ cs.drop (i * 2)).length = (n + 1) * 2 := by simp; omega
  rw [e1, ← hl, List.take_left]
set_option maxRecDepth 100000 in
set_option maxHeartbeats 1600000 in
theorem insT_grow (g n i vb : Nat) (cs : List Value) (x y : Value) (w : World) (hcell : ∀ j v, cs[j]? = some v → w.cell? ⟨g, j, none⟩ = some v) (hn : cs.length = n * 2) (hi : i < n)
    (h1 : ∀ u ∈ cs, u.oneCell' = true) (hx : x.oneCell' = true) (hy : y.oneCell' = true) (hv : w.heap[vb]? = some (.cells #[x, y] 104 (0, 0))) (hmax : n ≤ 1000000) :
    Calls Tryz.prog 100 #[.slice (some ⟨g, 0, none⟩) n n, .int .i64 i, .slice (some ⟨vb, 0, none⟩) 1 1] w fun e w' =>
      ∃ G cur', e = .returned (.slice (some ⟨w.heap.size, 0, none⟩) (n + 1) G) ∧ w'.heap[w.heap.size]? = some (.cells cur' 104 (0, 0)) ∧ cur'.size = G * 2 ∧ cur'.toList.take ((n + 1) * 2) = cs.take (i * 2) ++ [x, y] ++ cs.drop (i * 2) ∧ n + 1 ≤ G ∧ G ≤ maxLen ∧ Below w.heap.size w w' := by
  obtain ⟨i0, hi0, hz0, hzs, hzb⟩ := info_parts Tryz.slTm.hi
  have hgw : g < w.heap.size := World.block_lt_of_cell? w _ (hcell 0 _ (List.getElem?_eq_getElem (by omega)))
  have hvw : vb < w.heap.size := block_lt hv
  have hkk : (n : Int) + 1 - (i : Int) = ((n + 1 - i : Nat) : Int) := by omega
  have hik : i + (n + 1 - i) = n + 1 := by omega
  have hold : (Builtin.firstCells i0.size i (.slice (some ⟨g, 0, none⟩) i n)).run Tryz.prog w.drew = .ok (cs.take (i * 2)).toArray w.drew := by
    rw [hzs]
    exact run_firstCells_some w.drew 2 i ⟨g, 0, none⟩ i n (cs.take (i * 2)) (by rw [List.length_take]; omega) (fun j v hj => by
      rw [Addr.add_lit, Nat.zero_add]
      rw [List.getElem?_take] at hj
      split at hj
      · exact hcell j v hj
      · cases hj)
  obtain ⟨G, hG⟩ : ∃ G, G = grownCap w (n + 1) n 104 := ⟨_, rfl⟩
  obtain ⟨ROW, hROW⟩ : ∃ ROW : Array Value, ROW = (cs.take (i * 2)).toArray ++ Builtin.zeroCells (Value.agg #[.int .i64 0, .pointer none]).cells (n + 1 - i) ++ Builtin.zeroCells (Value.agg #[.int .i64 0, .pointer none]).cells (G - (n + 1)) := ⟨_, rfl⟩
  have hGn : n + 1 ≤ G := by rw [hG]; exact grownCap_ge w _ _ _
  have hGm : G ≤ maxLen := by rw [hG]; exact grownCap_le_maxLen w (n + 1) n _ (by unfold maxLen; omega)
  have hrz : ∀ ty, (Builtin.append_ #[64, 3] ty #[.slice (some ⟨g, 0, none⟩) i n, .int .i64 ((n : Int) + 1 - (i : Int))]).run Tryz.prog w =
      .ok (.slice (some ⟨w.heap.size, 0, none⟩) (n + 1) G) (w.drew.alloc (.cells ROW 104)) := fun ty => by
    have h := Lib.run_append_grow_zeros w 64 3 ty 104 i0 _ .i64 .i64 Tryz.underlying64 Tryz.underlying3 hi0 hz0 (some ⟨g, 0, none⟩) i n (cs.take (i * 2)) hold (n + 1 - i) (by omega) (by omega) (by omega) (by omega) (by rw [hzb]; omega) (by rw [hzb, hik]; exact growslice_fits (by omega) (by omega))
    rw [hik, ← hG, ← hROW] at h
    rw [hkk]
    exact h
  have hRs : ROW.size = G * 2 := by
    rw [hROW]
    simp [Builtin.zeroCells, Value.cells]
    omega
  have hdl : (cs.drop (i * 2)).length = (n - i) * 2 := by rw [List.length_drop, hn]; omega
  have htl : (cs.take (i * 2)).length = i * 2 := by rw [List.length_take]; omega
  obtain ⟨W1, hW1⟩ : ∃ W1, W1 = w.drew.alloc (.cells ROW 104) := ⟨_, rfl⟩
  have hW1h : W1.heap[w.heap.size]? = some (.cells ROW 104 (0, 0)) := by rw [hW1]; exact heap_alloc_new w.drew _
  have hB1 : Below w.heap.size w W1 := by rw [hW1]; exact bnew (brefl w).drew _
  have hS1 : w.heap.size < W1.heap.size := block_lt hW1h
  rw [← hW1] at hrz
  have hcpA : ∀ ty dc, (Builtin.copy_ #[64, 64] ty #[.slice (some ⟨w.heap.size, i * 2, none⟩) (n + 1 - i) dc, .slice (some ⟨vb, 0, none⟩) 1 1]).run Tryz.prog W1 = .ok (goInt (1 : Nat)) (W1.setCells w.heap.size (i * 2) [x, y]) := fun ty dc =>
    run_copy_cellsN W1 _ _ ty 104 2 1 w.heap.size (i * 2) (n + 1 - i) dc ⟨vb, 0, none⟩ 1 1 [x, y] Tryz.underlying64 Tryz.slotTm (by simp only [Nat.min_def]; split <;> omega) rfl
      (fun j v hj => by
        rw [Addr.add_lit, Nat.zero_add, hB1.cell (p := ⟨vb, j, none⟩) hvw, block_cell hv j]; simpa using hj)
      (fun j hj => by rw [block_cell hW1h (i * 2 + j), Array.getElem?_eq_getElem (by simp at hj; omega)]; rfl) (fun j hj => frozen_of_row W1 _ (i * 2 + j) _ _ hW1h) (by simpa using ⟨hx, hy⟩)
  have hW2h := heap_setCells w.heap.size 104 [x, y] (i * 2) ROW W1 hW1h (by simp; omega)
  obtain ⟨W2, hW2⟩ : ∃ W2, W2 = W1.setCells w.heap.size (i * 2) [x, y] := ⟨_, rfl⟩
  obtain ⟨R2, hR2⟩ : ∃ R2, R2 = (ROW.toList.take (i * 2) ++ [x, y] ++ ROW.toList.drop (i * 2 + [x, y].length)).toArray := ⟨_, rfl⟩
  rw [← hW2, ← hR2] at hW2h
  rw [← hW2] at hcpA
  have hR2s : R2.size = G * 2 := by rw [hR2]; simp; omega
  have hB2 : Below w.heap.size w W2 := by
    rw [hW2]
    exact (hB1.setCell (Nat.le_refl _) _).setCell (Nat.le_refl _) _
  have hcpB : ∀ ty dc sc, (Builtin.copy_ #[64, 64] ty #[.slice (some ⟨w.heap.size, (i + 1) * 2, none⟩) (n - i) dc, .slice (some ⟨g, i * 2, none⟩) (n - i) sc]).run Tryz.prog W2.drew = .ok (goInt (n - i : Nat)) (W2.drew.setCells w.heap.size ((i + 1) * 2) (cs.drop (i * 2))) := fun ty dc sc =>
    run_copy_cellsN W2.drew _ _ ty 104 2 (n - i) w.heap.size ((i + 1) * 2) (n - i) dc ⟨g, i * 2, none⟩ (n - i) sc (cs.drop (i * 2)) Tryz.underlying64 Tryz.slotTm (by simp only [Nat.min_def]; split <;> omega) hdl
      (fun j v hj => by
        rw [Addr.add_lit]
        show W2.cell? ⟨g, i * 2 + j, none⟩ = some v
        rw [hB2.cell (p := ⟨g, i * 2 + j, none⟩) hgw]
        exact hcell (i * 2 + j) v (by rwa [List.getElem?_drop] at hj))
      (fun j hj => by
        show (W2.cell? ⟨w.heap.size, (i + 1) * 2 + j, none⟩).isSome = true
        rw [block_cell hW2h ((i + 1) * 2 + j), Array.getElem?_eq_getElem (by omega)]; rfl) (fun j hj => frozen_of_row W2 _ ((i + 1) * 2 + j) _ _ hW2h) (fun v hv => h1 v (List.mem_of_mem_drop hv))
  have hW3h := heap_setCells w.heap.size 104 (cs.drop (i * 2)) ((i + 1) * 2) R2 W2.drew hW2h (by rw [hdl]; omega)
  have hW3s : (R2.toList.take ((i + 1) * 2) ++ cs.drop (i * 2) ++ R2.toList.drop ((i + 1) * 2 + (cs.drop (i * 2)).length)).toArray.size = G * 2 := by simp [hdl]; omega
  have hB3 : Below w.heap.size w (W2.drew.setCells w.heap.size ((i + 1) * 2) (cs.drop (i * 2))) := by
    have : ∀ (vs : List Value) (o : Nat) (v : World), Below w.heap.size w v → Below w.heap.size w (v.setCells w.heap.size o vs) := by
      intro vs
      induction vs with
      | nil => intro o v h; exact h
      | cons a vs ih => intro o v h; exact ih (o + 1) _ (h.setCell (Nat.le_refl _) _)
    exact this _ _ _ hB2.drew
  have hRt : ROW.toList.take (i * 2) = cs.take (i * 2) := by
    rw [hROW]
    simp only [Array.toList_append]
    exact takeRow _ _ _ (i * 2) (by rw [List.length_take]; omega)
  have hW3t : (R2.toList.take ((i + 1) * 2) ++ cs.drop (i * 2) ++ R2.toList.drop ((i + 1) * 2 + (cs.drop (i * 2)).length)).toArray.toList.take ((n + 1) * 2) = cs.take (i * 2) ++ [x, y] ++ cs.drop (i * 2) := by
    rw [List.toList_toArray]
    exact takeGrow2 ROW.toList R2.toList cs x y n i hn hi hRt (by rw [hR2])
  have HW3 := hidP hW3h
  have HT := hidP hW3t
  have HS := hidP hW3s
  have HB := hidP hB3
  have HGM := hidP hGm
  clear hW1 hW2 hR2 hROW hG hW1h hW2h hW3h hW3t hW3s hB3 hB2 hB1 hS1 hold hkk hik hR2s hRs hRt hdl htl hcell h1 hx hy hv hGm
  have hG63 : G ≤ 9223372036854775807 := by have := HGM.out; unfold maxLen at this; omega
  have hd1 : ¬ (G = i + 1) := by omega
  have hd2 : ¬ (G = i) := by omega
  have hd3 : ¬ (n = i) := by omega
  have hcA : cutA (some ⟨w.heap.size, 0, none⟩) (i + 1) G 2 = some ⟨w.heap.size, (i + 1) * 2, none⟩ := by unfold cutA; rw [if_neg hd1]; simp [Addr.add_lit]
  have hcB : cutA (some ⟨w.heap.size, 0, none⟩) i G 2 = some ⟨w.heap.size, i * 2, none⟩ := by unfold cutA; rw [if_neg hd2]; simp [Addr.add_lit]
  have hcC : cutA (some ⟨g, 0, none⟩) i n 2 = some ⟨g, i * 2, none⟩ := by unfold cutA; rw [if_neg hd3]; simp [Addr.add_lit]
  have hz2 : ¬ ((i : Int) = (n : Int)) := by omega
  have hb1 : (0 : Int) ≤ (i : Int) + 1 := by omega
  have hin : i ≤ n := by omega
  have htn : ((i : Int) + 1).toNat = i + 1 := by omega
  have htn3 : n + 1 - (i + 1) = n - i := by omega
  have hb3 : (i : Int) ≤ (n : Int) := by omega
  have hb4 : (i : Int) ≤ (n : Int) + 1 := by omega
  have hw5 : IntKind.i64.wrap ((i : Int) + 1) = (i : Int) + 1 := IntWalk.i64_in _ (by omega)
  go_enter Tryz.func100, Tryz.ntmps100
  go_upto_region 11 with (first | (at_builtin; go_loud (refine Lib.wpList_append_run _ rfl _ _ _ _ rfl _ _ rfl rfl _ _ (hrz _) ?_)) | (at_builtin; go_loud (refine wpList_copy_runI _ rfl _ _ 64 64 rfl _ _ rfl rfl (hcpA _ _) ?_)))
  go_still_tail 8, (by kernel_rfl)
  go_wp2_with (at_builtin; go_loud (refine wpList_copy_runI _ rfl _ _ 64 64 rfl _ _ rfl rfl (hcpB _ _ _) ?_))
  go_ret
  exact ⟨G, rfl, _, HW3.out, HS.out, (HT.out.trans (by simp)), hGn, HGM.out, HB.out⟩
theorem takeShift2 {α : Type} (cur cs : List α) (x y : α) (n i : Nat) (hn : cs.length = n * 2) (hi : i < n) (hc : (n + 1) * 2 ≤ cur.length) (ht : cur.take (n * 2) = cs) :
   ((cur.take ((i+1)*2) ++ cs.drop (i*2) ++ cur.drop ((i + 1)*2 + (cs.drop (i*2)).length)).take (i*2) ++ [x, y] ++ (cur.take ((i+1)*2) ++ cs.drop (i*2) ++ cur.drop ((i + 1)*2 + (cs.drop (i*2)).length)).drop (i*2 + [x, y].length)).take ((n+1)*2) = cs.take (i*2) ++ [x, y] ++ cs.drop (i*2) := by
  have h1 : (cur.take ((i+1)*2) ++ cs.drop (i*2) ++ cur.drop ((i + 1)*2 + (cs.drop (i*2)).length)).take (i*2) = cs.take (i*2) := by
    rw [List.append_assoc, List.take_append_of_le_length (by simp; omega), List.take_take, ← ht, List.take_take]
    congr 1; omega
  have h2 : (cur.take ((i+1)*2) ++ cs.drop (i*2) ++ cur.drop ((i + 1)*2 + (cs.drop (i*2)).length)).drop (i*2 + [x, y].length) = cs.drop (i*2) ++ cur.drop ((i + 1)*2 + (cs.drop (i*2)).length) := by
    have : (cur.take ((i+1)*2)).length = i*2 + [x, y].length := by simp; omega
    rw [List.append_assoc, ← this, List.drop_left]
  rw [h1, h2, ← List.append_assoc]
  have hl : (cs.take (i*2) ++ [x, y] ++ cs.drop (i*2)).length = (n + 1)*2 := by simp; omega
  rw [List.take_append_of_le_length (by rw [hl]; omega), List.take_of_length_le (by rw [hl]; omega)]
theorem insT_any (B : Nat) (ao : Option Addr) (n c i vb : Nat) (cs : List Value) (x y : Value) (w : World) (ho : w.ownsRow B 104 2 (.slice ao n c) n cs) (hi : i ≤ n) (h1 : ∀ u ∈ cs, u.oneCell' = true) (hx : x.oneCell' = true) (hy : y.oneCell' = true)
    (hv : w.heap[vb]? = some (.cells #[x, y] 104 (0, 0))) (hvg : (Value.slice ao n c).ownBlock ≠ some vb) (hmax : n ≤ 1000000) (hB : B ≤ w.heap.size) :
    Calls Tryz.prog 100 #[.slice ao n c, .int .i64 i, .slice (some ⟨vb, 0, none⟩) 1 1] w (InsT B w ao n c (cs.take (i * 2) ++ [x, y] ++ cs.drop (i * 2))) := by
  have hn : cs.length = n * 2 := ho.1
  by_cases hin : i = n
  · subst hin
    rw [List.take_of_length_le (by omega), List.drop_eq_nil_of_le (by omega), List.append_nil]
    exact insT_end B ao i c vb cs x y w ho hx hy hv hmax hB
  · have hlt : i < n := by omega
    rcases ho.2 with ⟨_, h0⟩ | ⟨g, cap', cur, hsl, hb, hg, hnc, hcm, hcz, htk⟩
    · omega
    · cases hsl
      have hgv : vb ≠ g := fun e => hvg (by simp [Value.ownBlock, e])
      have htl : (cs.take (i * 2)).length = i * 2 := by rw [List.length_take]; omega
      have hdl : (cs.drop (i * 2)).length = (n - i) * 2 := by rw [List.length_drop, hn]; omega
      by_cases hroom : n + 1 ≤ c
      · refine (insT_shift g n c i vb cs x y cur w hg hcz htk hn hlt hroom hcm h1 hx hy hv hgv hmax).mono ?_
        rintro e w' ⟨rfl, rfl⟩
        have hW1 := heap_setCells g 104 (cs.drop (i * 2)) ((i + 1) * 2) cur w.drew hg (by rw [hdl]; omega)
        have hW2 := heap_setCells g 104 [x, y] (i * 2) _ _ hW1 (by simp [hdl]; omega)
        have hk : Keep (fun k => (Value.slice (some ⟨g, 0, none⟩) n c).ownBlock = some k) w ((w.drew.setCells g ((i + 1) * 2) (cs.drop (i * 2))).setCells g (i * 2) [x, y]) :=
          ((Keep.refl (fun k => (Value.slice (some ⟨g, 0, none⟩) n c).ownBlock = some k) w).drew.setCells (g := g) rfl _ _).setCells (g := g) rfl _ _
        refine ⟨_, _, rfl, ⟨by simp [htl, hdl]; omega, .inr ⟨g, c, _, rfl, hb, hW2, hroom, hcm, ?_, ?_⟩⟩, hk, .inl rfl⟩
        · simp [hdl]; omega
        · rw [List.toList_toArray]
          exact takeShift2 cur.toList cs x y n i hn hlt (by simp; omega) htk
      · obtain rfl : c = n := by omega
        have hcell : ∀ j v, cs[j]? = some v → w.cell? ⟨g, j, none⟩ = some v := fun j v hj => by
          rw [block_cell hg j, ← Array.getElem?_toList]
          rw [← htk, List.getElem?_take] at hj
          split at hj
          · exact hj
          · cases hj
        refine (insT_grow g c i vb cs x y w hcell hn hlt h1 hx hy hv hmax).mono ?_
        rintro e w' ⟨G, cur', rfl, hW, hG, hT, hnG, hGm, hB2⟩
        refine ⟨_, _, rfl, ⟨by simp [htl, hdl]; omega, .inr ⟨w.heap.size, G, cur', rfl, hB, hW, hnG, hGm, hG, hT⟩⟩, .of_below hB2, .inr ⟨w.heap.size, rfl, Nat.le_refl _⟩⟩
theorem tmC_len (σ : Lay) (l : List (Int × Nat)) : (l.flatMap (tmC σ)).length = l.length * 2 := by
  induction l with
  | nil => rfl
  | cons c l ih => rw [List.flatMap_cons, List.length_append, ih]; simp [tmC]; omega
theorem tmC_one (σ : Lay) (l : List (Int × Nat)) : ∀ u ∈ l.flatMap (tmC σ), u.oneCell' = true := by
  intro u hu
  obtain ⟨c, _, hc⟩ := List.mem_flatMap.1 hu
  simp [tmC] at hc
  rcases hc with rfl | rfl <;> rfl
theorem tmC_take (σ : Lay) : ∀ (l : List (Int × Nat)) (k : Nat), (l.flatMap (tmC σ)).take (k * 2) = (l.take k).flatMap (tmC σ)
  | [], k => by simp
  | c :: l, 0 => by simp
  | c :: l, k + 1 => by
    rw [List.flatMap_cons, List.take_succ_cons, List.flatMap_cons, ← tmC_take σ l k, show (k + 1) * 2 = (tmC σ c).length + k * 2 by simp [tmC]; omega, List.take_length_add_append]
theorem tmC_drop (σ : Lay) : ∀ (l : List (Int × Nat)) (k : Nat), (l.flatMap (tmC σ)).drop (k * 2) = (l.drop k).flatMap (tmC σ)
  | [], k => by simp
  | c :: l, 0 => by simp
  | c :: l, k + 1 => by
    rw [List.flatMap_cons, List.drop_succ_cons, ← tmC_drop σ l k, show (k + 1) * 2 = (tmC σ c).length + k * 2 by simp [tmC]; omega, List.drop_length_add_append]
theorem tmC_get (σ : Lay) : ∀ (l : List (Int × Nat)) (i j : Nat) (c : Int × Nat) (u : Value), l[i]? = some c → (tmC σ c)[j]? = some u → (l.flatMap (tmC σ))[i * 2 + j]? = some u
  | [], i, j, c, u, h, _ => by simp at h
  | d :: l, 0, j, c, u, h, hj => by
    obtain rfl : d = c := by simpa using h
    rw [List.flatMap_cons, Nat.zero_mul, Nat.zero_add, List.getElem?_append_left (List.getElem?_eq_some_iff.1 hj).1]
    exact hj
  | d :: l, i + 1, j, c, u, h, hj => by
    rw [List.flatMap_cons, List.getElem?_append_right (by simp [tmC]; omega)]
    rw [show (i + 1) * 2 + j - (tmC σ d).length = i * 2 + j by simp [tmC]; omega]
    exact tmC_get σ l i j c u (by simpa using h) hj
theorem tmC_at {w : World} {σ : Lay} {A : Option Addr} {l : List (Int × Nat)} (h : RowAt w A (l.flatMap (tmC σ))) {i : Nat} {c : Int × Nat} (hi : l[i]? = some c) :
    ∃ b o, A = some ⟨b, o, none⟩ ∧ w.cell? ⟨b, o + i * 2, none⟩ = some (.int .i64 c.1) ∧ w.cell? ⟨b, o + i * 2 + 1, none⟩ = some (.pointer (some ⟨σ.cA c.2, 0, none⟩)) := by
  obtain ⟨b, o, rfl, hc⟩ := h.addr (by rw [tmC_len]; have := lt_of_some hi; omega)
  exact ⟨b, o, rfl, by have := hc _ _ (tmC_get σ l i 0 c _ hi rfl); simpa using this, by have := hc _ _ (tmC_get σ l i 1 c _ hi rfl); simpa [Nat.add_assoc] using this⟩
set_option maxRecDepth 100000 in
set_option maxHeartbeats 400000 in
theorem lateT_any (a t : Int) (C : Value) (pb : Nat) (w : World) (hp : w.cell? ⟨pb, 0, none⟩ = some (.int .i64 t)) :
    Calls Tryz.prog 99 #[.agg #[.int .i64 a, C], .pointer (some ⟨pb, 0, none⟩)] w fun e w' => e = .returned (.bool (decide (t < a))) ∧ Below w.heap.size w w' := by
  have hpl := World.block_lt_of_cell? w _ hp
  have hb := bnew (brefl w) (.cells #[.int .i64 a, C] 104)
  have hp1 : (w.alloc (.cells #[.int .i64 a, C] 104)).cell? ⟨pb, 0, none⟩ = some (.int .i64 t) := (hb.cell (p := ⟨pb, 0, none⟩) hpl).trans hp
  go_enter Tryz.func99, Tryz.ntmps99
  go_wp2
  go_ret
  exact ⟨rfl, hb⟩
def idxT (l : List (Int × Nat)) (t : Int) : Int := if l.findIdx (fun x => decide (t < x.1)) < l.length then (l.findIdx (fun x => decide (t < x.1)) : Int) else -1
theorem idxT_found {l : List (Int × Nat)} {t : Int} {k : Nat} {x : Int × Nat} (h : ∀ y ∈ l.take k, y.1 ≤ t) (hx : l[k]? = some x) (hl : t < x.1) : idxT l t = k := by
  have hk : k < l.length := lt_of_some hx
  have : l.findIdx (fun x => decide (t < x.1)) = k := by
    rw [List.findIdx_eq hk]
    refine ⟨?_, fun j hj => ?_⟩
    · rw [List.getElem?_eq_getElem hk] at hx
      cases hx
      simpa using hl
    · have := h (l[j]'(by omega)) (by rw [List.mem_take_iff_getElem]; exact ⟨j, by omega, rfl⟩)
      simpa using this
  unfold idxT
  rw [this, if_pos hk]
theorem idxT_none {l : List (Int × Nat)} {t : Int} (h : ∀ y ∈ l, y.1 ≤ t) : idxT l t = -1 := by
  unfold idxT
  rw [if_neg]
  rw [List.findIdx_lt_length]
  rintro ⟨x, hm, hl⟩
  have := h x hm
  simp at hl
  omega
set_option maxRecDepth 100000 in
set_option maxHeartbeats 800000 in
theorem ixT_any (σ : Lay) (ao : Option Addr) (n c pb : Nat) (l : List (Int × Nat)) (t : Int) (w : World) (hr : RowAt w ao (l.flatMap (tmC σ))) (hn : l.length = n) (hmax : n ≤ 1000000) (hp : w.cell? ⟨pb, 0, none⟩ = some (.int .i64 t)) :
    Calls Tryz.prog 98 #[.slice ao n c, .func (.func 99) #[] #[.pointer (some ⟨pb, 0, none⟩)]] w fun e w' => e = .returned (.int .i64 (idxT l t)) ∧ Below w.heap.size w w' := by
  have Hn := hidP hn
  clear hn
  have hpl := World.block_lt_of_cell? w _ hp
  go_enter Tryz.func98, Tryz.ntmps98
  go_wp2_with fail
  go_loopw [8] (fun v wr => ∃ k : Nat, v = .int .i64 k ∧ k ≤ n ∧ Hid (∀ y ∈ l.take k, y.1 ≤ t) ∧ Below w.heap.size w wr) (fun v _ => n - (intOf v).toNat)
  case atStart => exact ⟨0, rfl, by omega, by show ∀ y ∈ l.take 0, _; simp, brefl _⟩
  case round =>
    obtain ⟨k, rfl, hk, HK, hb⟩ := hrel
    by_cases hlt : k < n
    · obtain ⟨x, hx⟩ : ∃ x, l[k]? = some x := ⟨_, List.getElem?_eq_getElem (by rw [Hn.out]; omega)⟩
      obtain ⟨b, o, rfl, cx, cy⟩ := tmC_at (hr.below hb) hx
      obtain ⟨xa, xc⟩ := x
      dsimp only at cx cy
      have hpr : wr.cell? ⟨pb, 0, none⟩ = some (.int .i64 t) := (hb.cell (p := ⟨pb, 0, none⟩) hpl).trans hp
      have HX := hidP hx
      clear hx
      generalize σ.cA xc = cb at *
      by_cases hd : t < xa
      · have hd' : decide (t < xa) = true := by simpa using hd
        have HD := hidP hd
        clear hd
        go_wp2_with (go_at_call 99; refine (lateT_any xa t _ pb _ hpr).mono ?_; rintro e w1 ⟨rfl, hb1⟩)
        go_ret
        exact ⟨by rw [idxT_found HK.out HX.out HD.out]; rfl, bstep hb hb1⟩
      · have hd' : decide (t < xa) = false := by simpa using hd
        have HD := hidP (Int.not_lt.1 hd)
        clear hd
        go_wp2_with (go_at_call 99; refine (lateT_any xa t _ pb _ hpr).mono ?_; rintro e w1 ⟨rfl, hb1⟩)
        have hK2 : Hid (∀ y ∈ l.take (k + 1), y.1 ≤ t) := by
          intro y hy
          rw [List.take_add_one, HX.out] at hy
          rcases List.mem_append.1 hy with h | h
          · exact HK.out y h
          · simp at h
            subst h
            exact HD.out
        go_roundw
        case rel => exact ⟨k + 1, by go_num, by omega, hK2, bstep hb hb1⟩
        case measure => simp [intOf]; omega
    · have hall : ∀ y ∈ l, y.1 ≤ t := by
        intro y hy
        exact HK.out y (by rw [List.take_of_length_le (by rw [Hn.out]; omega)]; exact hy)
      have HA := hidP hall
      clear hall
      go_wp2
      go_ret
      exact ⟨by rw [idxT_none HA.out]; rfl, hb⟩
theorem ownsT_made0 (w : World) : (w.alloc (.cells #[] 104)).ownsRow w.heap.size 104 2 (.slice (some ⟨w.heap.size, 0, none⟩) 0 0) 0 [] :=
  ⟨rfl, .inr ⟨w.heap.size, 0, #[], rfl, Nat.le_refl _, heap_alloc_new w _, Nat.le_refl _, Nat.zero_le _, rfl, rfl⟩⟩
set_option maxRecDepth 100000 in
set_option maxHeartbeats 400000 in
theorem cloneT_any (ao : Option Addr) (n c : Nat) (cs : List Value) (w : World) (hr : RowAt w ao cs) (hn : cs.length = n * 2) (h1 : ∀ u ∈ cs, u.oneCell' = true) (hmax : n ≤ 1000000) :
    Calls Tryz.prog 45 #[.slice ao n c] w (RetRow w 104 2 n cs) := by
  have Hn := hidP hn
  clear hn
  cases ao with
  | none =>
    have hcs : cs = [] := by
      rcases hr with h | ⟨b, o, h, _⟩
      · exact h
      · cases h
    subst hcs
    have hn0 : n = 0 := by have := Hn.out; simp at this; omega
    subst hn0
    have heq := fun w => Lib.run_eql_slice_nil (P := Tryz.prog) w _ _ none 0 c 0 0 Tryz.underlying64
    go_enter Tryz.func45, Tryz.ntmps45
    go_wp2
    go_ret
    exact retRow_mk (World.ownsRow_nil _ _ _ _) (brefl _)
  | some a =>
    have heq := fun w => Lib.run_eql_slice_nil (P := Tryz.prog) w _ _ (some a) n c 0 0 Tryz.underlying64
    go_enter Tryz.func45, Tryz.ntmps45
    go_wp2_with (at_builtin; go_loud (refine (wpList_app _ rfl (.tmp 5) (.tmp 6) rfl Tryz.slTm w.heap.size (.slice (some ⟨w.heap.size, 0, none⟩) 0 0) 0 [] rfl (ownsT_made0 w) (some a) n c cs rfl n (by omega) (hr.alloc _) Hn.out h1 (by omega) (by unfold maxLen; omega) (by simp) ?_)); intro a2 c2 w2 ho2 hg2 _)
    go_ret
    exact ⟨a2, c2, rfl, ho2, (bnew (brefl w) _).grown hg2 (by simp) (fun j hj => by simp [Value.ownBlock] at hj; omega)⟩
end Go.Proofs.YtklfboidjnchoaaGreatDoor
namespace Go.Proofs.YtklfboidjnchoaaGreatDoor
open Go.RowKit Go.Proofs.YtklfboidjnchoaaGreatDoorW.PrintWords
set_option linter.unusedVariables false
set_option linter.unusedSimpArgs false
theorem evC_one (e : EvP) : ∀ u ∈ evC e, u.oneCell' = true := by
  intro u hu
  simp [evC] at hu
  rcases hu with rfl | rfl | rfl | rfl <;> rfl
set_option maxRecDepth 100000 in
set_option maxHeartbeats 1600000 in
theorem out_any {B : Nat} {P : Value} {σ : Lay} {ow : Owns} {m : MachD} {w : World} (h : Inv B P σ ow m w) (ok : Ok m) (fit : Fit m) {tb g c4 : Nat} {x : InstrD} {A4 : Option Addr} {draw : Int} (ht : IsTurn σ ow w tb g x A4 c4 draw) {gd : GorD} (hg : m.gors[g]? = some gd) (ha0 : 0 ≤ x.a) (ha6 : x.a < 6) :
    Calls Tryz.prog 66 #[.pointer (some ⟨tb, 0, none⟩)] w fun e w' => e = .returned (.tuple #[]) ∧ Res B P σ ow (m.out g x.a) w w' := by
  obtain ⟨t0, t1, t2, t3, t4, t5, t6, t7⟩ := ht.cells
  obtain ⟨v, hgc, hgo, h6, g0, g1, gr, _, gf⟩ := h.gorAt hg
  obtain ⟨ra1, ra2⟩ := ok.reg hg ha0 ha6
  have opc := (ok.gor g gd hg).pc
  obtain ⟨ka, hka, hka6⟩ := reg_nat ha0 ha6
  have nA := as_num σ (m.reg g x.a)
  rw [hka] at ra1 t3
  have gka := gr ka _ ra1
  rw [← hka] at gka
  have f1 := gf 1
  have ea0 : (0 : Int) ≤ (ka : Int) := by omega
  have ea6 : (ka : Int) < 6 := by omega
  have wpc : IntKind.i64.wrap (gd.pc + 1) = gd.pc + 1 := IntWalk.i64_in _ (by omega)
  obtain ⟨q, tv, ev, sv, G0, G1, G2, G3, hM⟩ := h.machC
  obtain ⟨ne, hne⟩ : ∃ ne, m.events.length = ne := ⟨_, rfl⟩
  have hnm : ne ≤ 1000000 := by rw [← hne]; exact fit.events
  obtain ⟨gb, hgb⟩ : ∃ gb, σ.gA g = gb := ⟨_, rfl⟩
  obtain ⟨mb, hmb⟩ : ∃ mb, σ.mb = mb := ⟨_, rfl⟩
  have hcell := hM.cells.1
  rw [hmb] at hcell t0
  rw [hgb] at t1 gka f1 g1 g0 hgc
  obtain ⟨_, _, _, _, _, c9, _, _, cf⟩ := mach_cells hcell
  have f9 := cf 9
  have hmg : mb ≠ gb := by rw [← hmb, ← hgb]; intro e; have := hM.cells.2; rw [e, hgo] at this; cases this
  have hmt : mb ≠ tb := by rw [← hmb]; intro e; have := hM.cells.2; rw [e, ht.free] at this; cases this
  obtain ⟨⟨xa, ia⟩, hxa⟩ : ∃ q, numOf (m.reg g x.a) = q := ⟨_, rfl⟩
  rw [hxa] at nA
  dsimp only at nA
  have HE := hidP (hne ▸ hM.events.1 : w.ownsRow B 41 4 ev ne (m.events.flatMap evC))
  have HAP := hidP (show ev.ownBlock ≠ some mb by rw [← hmb]; exact hM.apart.1.2.2.1)
  have HAG := hidP (show ev.ownBlock ≠ some gb by rw [← hgb]; intro e; have := hM.events.2 _ e; rw [hgo] at this; cases this)
  have HAT := hidP (show ev.ownBlock ≠ some tb by intro e; have := hM.events.2 _ e; rw [ht.free] at this; cases this)
  have HCL := hidP hcell
  have hsB := h.size
  have HGC := hidP hgc
  have HX := hidP (⟨h, hM, hne, hg, hxa, hmb, hgb⟩ : _ ∧ _ ∧ _ ∧ _ ∧ _ ∧ _ ∧ _)
  obtain ⟨VA, hVA⟩ : ∃ V, encV σ (m.reg g x.a) = V := ⟨_, rfl⟩
  rw [hVA] at nA gka
  clear h ok fit hM hne hg hxa hmb hgb hVA hcell hgc hgo ht gr gf ra1 ra2 h6 opc cf t2 t4 t5 t6 t7 hka ha0 ha6
  go_enter Tryz.func66, Tryz.ntmps66
  go_upto_region 0 with fail
  go_quiet (fail)
  go_upto_region 1 with fail
  refine wp_undrewN (w := w) ?_
  intro W hh hkW
  have s0 := cell_heap hh t0
  have s1 := cell_heap hh t1
  have s9 := cell_heap hh c9
  have sg := cell_heap hh g0
  have sp := cell_heap hh g1
  have z9 := frozen_heap hh f9
  have HE2 := hidP (owns_keep HE.out hkW (fun _ _ e => e))
  have HCL2 : Hid (W.heap[mb]? = w.heap[mb]?) := (show _ = _ by rw [hh])
  have HGC2 : Hid (W.heap[gb]? = w.heap[gb]?) := (show _ = _ by rw [hh])
  have hsB2 : B ≤ W.heap.size := by rw [hh]; exact hsB
  have HKW := hidP hkW
  have t1h := s1
  clear t0 t1 t3 gka g1 g0 f1 c9 f9 hh hkW nA
  have hSS : (fun w' : World => w'.cell? ⟨tb, 0, none⟩ = some (.pointer (some ⟨mb, 0, none⟩)) ∧ w'.cell? ⟨tb, 1, none⟩ = some (.pointer (some ⟨gb, 0, none⟩)) ∧ w'.cell? ⟨mb, 9, none⟩ = some ev ∧ w'.cell? ⟨gb, 0, none⟩ = some (.int .i64 g)) W.drew := ⟨s0, s1, s9, sg⟩
  refine OrdG.begin (fun w' : World => w'.cell? ⟨tb, 0, none⟩ = some (.pointer (some ⟨mb, 0, none⟩)) ∧ w'.cell? ⟨tb, 1, none⟩ = some (.pointer (some ⟨gb, 0, none⟩)) ∧ w'.cell? ⟨mb, 9, none⟩ = some ev ∧ w'.cell? ⟨gb, 0, none⟩ = some (.int .i64 g)) 28 (by kernel_rfl) hSS ?_
  refine OrdG.ty 0 _ rfl (.inl hSS) ?_
  simp only [Act.put, stA, stS, stZ]
  refine OrdG.ty 1 _ rfl (.inl hSS) ?_
  simp only [Act.put, stA, stS, stZ]
  refine OrdG.ty 2 _ rfl (.inl hSS) ?_
  simp only [Act.put, stA, stS, stZ]
  refine OrdG.tk 3 _ rfl (by assumption) ?_
  simp only [Act.put, stA, stS, stZ]
  refine OrdG.ty 4 _ rfl (.inl hSS) ?_
  simp only [Act.put, stA, stS, stZ]
  refine OrdG.ty 5 _ rfl (.inl hSS) ?_
  simp only [Act.put, stA, stS, stZ]
  refine OrdG.ty 6 _ rfl (.inl hSS) ?_
  simp only [Act.put, stA, stS, stZ]
  refine OrdG.tk 7 _ rfl (by assumption) ?_
  simp only [Act.put, stA, stS, stZ]
  refine OrdG.ty 8 _ rfl (.inl hSS) ?_
  simp only [Act.put, stA, stS, stZ]
  refine OrdG.ty 9 _ rfl (.inl hSS) ?_
  simp only [Act.put, stA, stS, stZ]
  refine OrdG.ty 10 _ rfl (.inl hSS) ?_
  simp only [Act.put, stA, stS, stZ]
  refine OrdG.tk 11 _ rfl (by assumption) ?_
  simp only [Act.put, stA, stS, stZ]
  refine OrdG.ty 12 _ rfl (.inl hSS) ?_
  simp only [Act.put, stA, stS, stZ]
  refine OrdG.ty 13 _ rfl (.inl hSS) ?_
  simp only [Act.put, stA, stS, stZ]
  refine OrdG.ty 14 _ rfl (.inl hSS) ?_
  simp only [Act.put, stA, stS, stZ]
  refine OrdG.tk 15 _ rfl (by assumption) ?_
  simp only [Act.put, stA, stS, stZ]
  refine OrdG.ty 16 _ rfl (.inl hSS) ?_
  simp only [Act.put, stA, stS, stZ]
  refine OrdG.ty 17 _ rfl (.inl hSS) ?_
  simp only [Act.put, stA, stS, stZ]
  refine OrdG.tk 18 _ rfl (by assumption) ?_
  simp only [Act.put, stA, stS, stZ]
  refine OrdG.ty 19 _ rfl (.inl hSS) ?_
  simp only [Act.put, stA, stS, stZ]
  refine OrdG.ty 20 _ rfl (.inl hSS) ?_
  simp only [Act.put, stA, stS, stZ]
  refine OrdG.ty 21 _ rfl (.inl hSS) ?_
  simp only [Act.put, stA, stS, stZ]
  refine OrdG.ty 22 _ rfl (.inl hSS) ?_
  simp only [Act.put, stA, stS, stZ]
  refine OrdG.one (i := 23) (by kernel_rfl) rfl (fun K hK => ?_)
  go_simp
  refine hK.out _ _ (.inl (by go_keep)) ?_
  clear hK
  refine OrdG.one (i := 24) (by kernel_rfl) rfl (fun K hK => ?_)
  refine step_app _ rfl (.tmp 32) (.tmp 44) rfl Tryz.slEv' B ev ne _ rfl (HE2.out.alloc _) (some ⟨W.heap.size, 0, none⟩) 1 1 (evC ⟨1, g, xa, !ia⟩) rfl (ne + 1) rfl (RowAt.new W (evC ⟨1, g, xa, !ia⟩) _) rfl (evC_one _) (by omega) (by unfold maxLen; omega) (Nat.le_trans hsB2 (by simp)) ?_
  intro a2 c2 w2 ho2 hg2 hw2
  have kp2 : Keep (fun b => ev.ownBlock = some b) W w2 := keep_app hg2 (by first | exact (Keep.refl _ W).alloc _ | exact ((Keep.refl _ W).alloc _).drew) (fun k hk => hk)
  have hm2 := (kp2.block mb (blk_lt (HCL2.out.trans HCL.out)) HAP.out).trans (HCL2.out.trans HCL.out)
  have hg2' := (kp2.block gb (blk_lt (HGC2.out.trans HGC.out)) HAG.out).trans (HGC2.out.trans HGC.out)
  have n9 := cell_of_row w2 mb 9 _ _ (0, 0) hm2
  have zn := frozen_of_row w2 mb 9 _ _ hm2
  simp at n9
  have n0 := Keep.cell (p := ⟨tb, 0, none⟩) kp2 HAT.out s0
  have n1 := Keep.cell (p := ⟨tb, 1, none⟩) kp2 HAT.out s1
  have ng := Keep.cell (p := ⟨gb, 0, none⟩) kp2 HAG.out sg
  have np := Keep.cell (p := ⟨gb, 1, none⟩) kp2 HAG.out sp
  have zp := frozen_of_row w2 gb 1 _ _ hg2'
  have HO2 := hidP ho2
  have KP2 := hidP kp2
  have HW2 := hidP hw2
  clear ho2 kp2 hw2 hg2 hm2 hg2'
  refine hK.out _ _ (.inl ⟨n0, n1, n9, ng⟩) ?_
  clear hK
  refine OrdG.ty 25 _ rfl (.inl ⟨n0, n1, n9, ng⟩) ?_
  simp only [Act.put, stA, stS, stZ]
  refine OrdG.ty 26 _ rfl (.inl ⟨n0, n1, n9, ng⟩) ?_
  simp only [Act.put, stA, stS, stZ]
  refine OrdG.ty 27 _ rfl (.inl ⟨n0, n1, n9, ng⟩) ?_
  simp only [Act.put, stA, stS, stZ]
  refine OrdG.one (i := 28) (by kernel_rfl) rfl (fun K hK => ?_)
  go_simp
  refine hK.out _ _ (.inr (by kernel_rfl)) ?_
  clear hK
  refine OrdG.done (by kernel_rfl) ?_ _
  clear hSS s0 s1 s9 sg sp z9 t1h
  go_wp2
  first | go_end0 | ((try simp only [Exit.inBlock, Exit.then]); refine bodyPost_ret (results_none rfl _ _ _) rfl ?_)
  obtain ⟨h, hM, hne, hg, hxa, hmb, hgb⟩ := HX.out
  subst hmb hgb
  refine ⟨rfl, ?_⟩
  have hIW := h.same HKW.out
  have hMW := hM.keep (S := fun _ => False) HKW.out (fun _ _ e => e) (.refl _ _)
  have R2 := hIW.eventsPut hMW (l' := m.events ++ [⟨1, g, xa, !ia⟩]) (q' := .slice a2 (ne + 1) c2) KP2.out (by
    rw [List.length_append, List.flatMap_append, hne]
    exact HO2.out) (fun b hb => by
      rcases HW2.out with h | h
      · exact .inl (h.symm.trans hb)
      · rw [h] at hb; cases hb; exact .inr (by simp))
  obtain ⟨ow2, q1, q2, q3⟩ := R2
  have R3 := Res.trans q2 q3 (q1.incPc (gd := gd) hg)
  have e : m.out g x.a = ({ m with events := m.events ++ [⟨1, g, xa, !ia⟩] } : MachD).incPc g := by
    unfold MachD.out
    cases hv : m.reg g x.a <;> rw [hv] at hxa <;> simp [numOf] at hxa <;> obtain ⟨rfl, rfl⟩ := hxa <;> rfl
  rw [e]
  first | exact Res.same HKW.out R3 | exact (Res.same HKW.out R3).drewR
end Go.Proofs.YtklfboidjnchoaaGreatDoor
