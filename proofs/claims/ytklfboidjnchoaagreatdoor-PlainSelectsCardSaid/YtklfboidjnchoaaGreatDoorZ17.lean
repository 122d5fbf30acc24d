/-
  Parts of the proof: PDo, PPick, PTick, POkDo, POkDo2.
-/
import Derived.Test.YtklfboidjnchoaaGreatDoorZ15
import Derived.Test.YtklfboidjnchoaaGreatDoorZ16
namespace Go.Proofs.YtklfboidjnchoaaGreatDoor
open Go.RowKit Go.Proofs.YtklfboidjnchoaaGreatDoorW.PrintWords
set_option linter.unusedVariables false
set_option linter.unusedSimpArgs false
theorem Res.toN {B : Nat} {P : Value} {σ : Lay} {ow : Owns} {m m' : MachD} {w w' : World} (h : Res B P σ ow m' w w') : ResN B P σ ow m m' w w' := by
  obtain ⟨ow1, h1, h2, h3⟩ := h
  exact ⟨σ, ow1, h1, .refl _ _, h2, h3⟩
theorem ResN.of_below {B : Nat} {P : Value} {σ : Lay} {ow : Owns} {m m' : MachD} {w w1 w2 : World} {x : Option Own} (hb : Below w.heap.size w w1) (k : ResN B P σ (frm ow w.heap.size x) m m' w1 w2) : ResN B P σ ow m m' w w2 := by
  obtain ⟨σ', ow1, h1, ha, h2, h3⟩ := k
  obtain ⟨ow2, q1, q2, q3⟩ := Res.of_below hb x (⟨ow1, h1, h2, h3⟩ : Res B P σ' (frm ow w.heap.size x) m' w1 w2)
  exact ⟨σ', ow2, q1, ha, q2, q3⟩
theorem OkI.one {x : InstrD} (hx : OkI x) {pc k : Int} (h0 : 0 ≤ pc) (h1 : pc ≤ 9999) : OkCase ⟨k, x.a, x.b, pc + 1⟩ := ⟨hx.a, hx.b, by show 0 ≤ pc + 1; omega, by show pc + 1 ≤ 10000; omega⟩
set_option maxRecDepth 100000 in
set_option maxHeartbeats 3200000 in
theorem do_any {B : Nat} {P : Value} {σ : Lay} {ow : Owns} {m : MachD} {w : World} (h : Inv B P σ ow m w) (ok : Ok m) (fit : Fit m) {tb g c4 : Nat} {x : InstrD} {A4 : Option Addr} {draw : Int} (ht : IsTurn σ ow w tb g x A4 c4 draw) {gd : GorD} (hg : m.gors[g]? = some gd) (hx : OkI x) (hpc : x.op ≠ 22 → gd.pc ≤ 9999)
    (hr : RowAt w A4 (x.cases.flatMap caseC)) (hfit : m.ws.length + 3 ≤ 1000000) (hd0 : -9223372036854775808 ≤ draw) (hd1 : draw ≤ 9223372036854775807) :
    Calls Tryz.prog 44 #[.pointer (some ⟨tb, 0, none⟩)] w fun e w' => e = .returned (.tuple #[]) ∧ ResN B P σ ow m (m.doI g x draw) w w' := by
  have opc := (ok.gor g gd hg).pc
  have wpc : IntKind.i64.wrap (gd.pc + 1) = gd.pc + 1 := IntWalk.i64_in _ (by omega)
  have hb1 : Below w.heap.size w (w.alloc (.cells #[.pointer (some ⟨tb, 0, none⟩)] 99)) := bnew (brefl w) _
  have hI1 := h.below hb1
  have ht1 := ht.below hb1
  obtain ⟨t0, t1, t2, t3, t4, t5, t6, t7⟩ := ht1.cells
  obtain ⟨v, _, _, _, _, g1, _, _, _⟩ := hI1.gorAt hg
  obtain ⟨gb, hgb⟩ : ∃ gb, σ.gA g = gb := ⟨_, rfl⟩
  rw [hgb] at t1 g1
  have hpb := heap_alloc_new w (.cells #[.pointer (some ⟨tb, 0, none⟩)] 99)
  obtain ⟨pb, hpbe⟩ : ∃ pb, w.heap.size = pb := ⟨_, rfl⟩
  rw [hpbe] at hpb
  have HX := hidP (⟨h, ok, fit, ht, hg, hx, hpc, hr, hfit, hd0, hd1⟩ : _ ∧ _ ∧ _ ∧ _ ∧ _ ∧ _ ∧ _ ∧ _ ∧ _ ∧ _ ∧ _)
  have HB1 := hidP hb1
  obtain ⟨xo, xa, xb, xn, xc⟩ := x
  dsimp only at t2 t3 t4 t5 t6
  obtain ⟨nc, hnc⟩ : ∃ nc, xc.length = nc := ⟨_, rfl⟩
  rw [hnc] at t6
  have HNC := hidP hnc
  clear h ok fit ht hg hx hpc hr hfit hd0 hd1 hb1 hI1 ht1 hgb opc hnc
  go_enter Tryz.func44, Tryz.ntmps44
  go_upto_region 1 with fail
  try rw [hpbe]
  generalize w.alloc (.cells #[.pointer (some ⟨tb, 0, none⟩)] 99) = W0 at *
  have p0 := cell_of_row W0 pb 0 _ _ (0, 0) hpb
  simp at p0
  have lpb : pb < W0.heap.size := World.block_lt_of_cell? W0 _ p0
  obtain ⟨ob, hob⟩ : ∃ ob, W0.heap.size = ob := ⟨_, rfl⟩
  have hSS : (fun w' : World => w'.cell? ⟨pb, 0, none⟩ = some (.pointer (some ⟨tb, 0, none⟩)) ∧ w'.cell? ⟨tb, 1, none⟩ = some (.pointer (some ⟨gb, 0, none⟩)) ∧ w'.cell? ⟨tb, 3, none⟩ = some (.int .i64 xa) ∧ w'.cell? ⟨tb, 4, none⟩ = some (.int .i64 xb) ∧ w'.cell? ⟨gb, 1, none⟩ = some (.int .i64 gd.pc)) W0.drew := ⟨p0, t1, t3, t4, g1⟩
  refine OrdG.begin (fun w' : World => w'.cell? ⟨pb, 0, none⟩ = some (.pointer (some ⟨tb, 0, none⟩)) ∧ w'.cell? ⟨tb, 1, none⟩ = some (.pointer (some ⟨gb, 0, none⟩)) ∧ w'.cell? ⟨tb, 3, none⟩ = some (.int .i64 xa) ∧ w'.cell? ⟨tb, 4, none⟩ = some (.int .i64 xb) ∧ w'.cell? ⟨gb, 1, none⟩ = some (.int .i64 gd.pc)) 20 (by kernel_rfl) hSS ?_
  refine OrdG.tk 0 _ rfl (by assumption) ?_
  simp only [Act.put, stA, stS, stZ]
  refine OrdG.ty 1 _ rfl (.inl hSS) ?_
  simp only [Act.put, stA, stS, stZ]
  refine OrdG.ty 2 _ rfl (.inl hSS) ?_
  simp only [Act.put, stA, stS, stZ]
  refine OrdG.ty 3 _ rfl (.inl hSS) ?_
  simp only [Act.put, stA, stS, stZ]
  refine OrdG.tk 4 _ rfl (by assumption) ?_
  simp only [Act.put, stA, stS, stZ]
  refine OrdG.tk 5 _ rfl (by assumption) ?_
  simp only [Act.put, stA, stS, stZ]
  refine OrdG.ty 6 _ rfl (.inl hSS) ?_
  simp only [Act.put, stA, stS, stZ]
  refine OrdG.ty 7 _ rfl (.inl hSS) ?_
  simp only [Act.put, stA, stS, stZ]
  refine OrdG.ty 8 _ rfl (.inl hSS) ?_
  simp only [Act.put, stA, stS, stZ]
  refine OrdG.tk 9 _ rfl (by assumption) ?_
  simp only [Act.put, stA, stS, stZ]
  refine OrdG.tk 10 _ rfl (by assumption) ?_
  simp only [Act.put, stA, stS, stZ]
  refine OrdG.ty 11 _ rfl (.inl hSS) ?_
  simp only [Act.put, stA, stS, stZ]
  refine OrdG.ty 12 _ rfl (.inl hSS) ?_
  simp only [Act.put, stA, stS, stZ]
  refine OrdG.tk 13 _ rfl (by assumption) ?_
  simp only [Act.put, stA, stS, stZ]
  refine OrdG.ty 14 _ rfl (.inl hSS) ?_
  simp only [Act.put, stA, stS, stZ]
  refine OrdG.ty 15 _ rfl (.inl hSS) ?_
  simp only [Act.put, stA, stS, stZ]
  refine OrdG.tk 16 _ rfl (by assumption) ?_
  simp only [Act.put, stA, stS, stZ]
  refine OrdG.ty 17 _ rfl (.inl hSS) ?_
  simp only [Act.put, stA, stS, stZ]
  refine OrdG.ty 18 _ rfl (.inl hSS) ?_
  simp only [Act.put, stA, stS, stZ]
  refine OrdG.one (i := 19) (by kernel_rfl) rfl (fun K hK => ?_)
  go_simp
  refine hK.out _ _ (.inl (by go_keep)) ?_
  clear hK
  refine OrdG.one (i := 20) (by kernel_rfl) rfl (fun K hK => ?_)
  go_simp
  refine hK.out _ _ (.inr (by kernel_rfl)) ?_
  clear hK
  refine OrdG.done (by kernel_rfl) ?_ _
  clear hSS
  have hbW : Below w.heap.size w (W0.alloc (.cells #[.int .i64 0, .int .i64 xa, .int .i64 xb, .int .i64 (gd.pc + 1)] 109)).drew := (bnew HB1.out _).drew
  have hoW : (W0.alloc (.cells #[.int .i64 0, .int .i64 xa, .int .i64 xb, .int .i64 (gd.pc + 1)] 109)).drew.heap[W0.heap.size]? = some (.cells #[.int .i64 0, .int .i64 xa, .int .i64 xb, .int .i64 (gd.pc + 1)] 109 (0, 0)) := heap_alloc_new W0 _
  have hpW : (W0.alloc (.cells #[.int .i64 0, .int .i64 xa, .int .i64 xb, .int .i64 (gd.pc + 1)] 109)).drew.cell? ⟨pb, 0, none⟩ = some (.pointer (some ⟨tb, 0, none⟩)) := ((bnew (brefl W0) _).drew.cell (p := ⟨pb, 0, none⟩) lpb).trans p0
  have hlo : w.heap.size ≤ ob := by rw [← hob]; exact HB1.out.size
  rw [hob] at hoW
  generalize (W0.alloc (.cells #[.int .i64 0, .int .i64 xa, .int .i64 xb, .int .i64 (gd.pc + 1)] 109)).drew = W1 at *
  clear t0 t1 t2 t3 t4 t5 t6 t7 g1 hpb p0 lpb hob HB1
  obtain ⟨h, ok, fit, ht, hg, hx, hpc, hr, hfit, hd0, hd1⟩ := HX.out
  have hI := h.below hbW
  have htW := ht.below hbW
  obtain ⟨t0, t1, t2, t3, t4, t5, t6, t7⟩ := htW.cells
  dsimp only at t2 t3 t4 t5 t6
  rw [HNC.out] at t6
  have hfin : Hid (∀ mm W, ResN B P σ (frm ow w.heap.size none) m mm W1 W → ResN B P σ ow m mm w W) := fun mm W hr => ResN.of_below hbW hr
  have hfiR : Hid (∀ mm W, Res B P σ (frm ow w.heap.size none) mm W1 W → ResN B P σ ow m mm w W) := fun mm W hr => ResN.of_below hbW hr.toN
  have HY := hidP (⟨hbW, hlo, hI, htW, hoW⟩ : _ ∧ _ ∧ _ ∧ _ ∧ _)
  have hs : m.doI g ⟨xo, xa, xb, xn, xc⟩ draw = m.doI g ⟨xo, xa, xb, xn, xc⟩ draw := rfl
  conv at hs => rhs; unfold MachD.doI
  dsimp only at hs
  have HS := hidP hs
  by_cases o7 : xo = 7
  · subst o7
    have HC := hidP (shut_any hI ok fit htW hg hx.a.1 hx.a.2)
    clear h ok fit ht hg hx hpc hr hfit hd0 hd1 hI htW hs hbW hlo hoW
    go_wp2_with (go_at_call 57; with_reducible refine HC.out.mono ?_; rintro e w1 ⟨rfl, h1⟩)
    first | go_end0 | ((try simp only [Exit.inBlock, Exit.then]); refine bodyPost_ret (results_none rfl _ _ _) rfl ?_)
    exact ⟨rfl, by rw [HS.out]; exact hfiR.out _ _ h1⟩
  by_cases o8 : xo = 8
  · subst o8
    have HC := hidP (sizeL_any hI ok fit htW hg hx.a.1 hx.a.2 hx.b.1 hx.b.2)
    clear h ok fit ht hg hx hpc hr hfit hd0 hd1 hI htW hs hbW hlo hoW
    go_wp2_with (go_at_call 58; with_reducible refine HC.out.mono ?_; rintro e w1 ⟨rfl, h1⟩)
    first | go_end0 | ((try simp only [Exit.inBlock, Exit.then]); refine bodyPost_ret (results_none rfl _ _ _) rfl ?_)
    exact ⟨rfl, by rw [HS.out]; exact hfiR.out _ _ h1⟩
  by_cases o9 : xo = 9
  · subst o9
    have HC := hidP (sizeC_any hI ok fit htW hg hx.a.1 hx.a.2 hx.b.1 hx.b.2)
    clear h ok fit ht hg hx hpc hr hfit hd0 hd1 hI htW hs hbW hlo hoW
    go_wp2_with (go_at_call 58; with_reducible refine HC.out.mono ?_; rintro e w1 ⟨rfl, h1⟩)
    first | go_end0 | ((try simp only [Exit.inBlock, Exit.then]); refine bodyPost_ret (results_none rfl _ _ _) rfl ?_)
    exact ⟨rfl, by rw [HS.out]; exact hfiR.out _ _ h1⟩
  by_cases o16 : xo = 16
  · subst o16
    have HC := hidP (boxedL_any (pb := pb) hI ok fit htW hg hx.a.1 hx.a.2 (fun m b => m.setReg g xb (m.boxes.getD b (.num 0))) (loadClo_any hI ok htW hg hx.b.1 hx.b.2 hpW))
    clear h ok fit ht hg hx hpc hr hfit hd0 hd1 hI htW hs hbW hlo hoW
    go_wp2_with (go_at_call 61; with_reducible refine HC.out.mono ?_; rintro e w1 ⟨rfl, h1⟩)
    first | go_end0 | ((try simp only [Exit.inBlock, Exit.then]); refine bodyPost_ret (results_none rfl _ _ _) rfl ?_)
    exact ⟨rfl, by rw [HS.out]; exact hfiR.out _ _ h1⟩
  by_cases o17 : xo = 17
  · subst o17
    have HC := hidP (boxedS_any (pb := pb) hI ok fit htW hg hx.a.1 hx.a.2 (fun m b => { m with boxes := m.boxes.set b (m.reg g xb) }) (storeClo_any hI ok htW hg hx.b.1 hx.b.2 hpW))
    clear h ok fit ht hg hx hpc hr hfit hd0 hd1 hI htW hs hbW hlo hoW
    go_wp2_with (go_at_call 61; with_reducible refine HC.out.mono ?_; rintro e w1 ⟨rfl, h1⟩)
    first | go_end0 | ((try simp only [Exit.inBlock, Exit.then]); refine bodyPost_ret (results_none rfl _ _ _) rfl ?_)
    exact ⟨rfl, by rw [HS.out]; exact hfiR.out _ _ h1⟩
  by_cases o20 : xo = 20
  · subst o20
    have HC := hidP (boxedF_any (pb := pb) hI ok fit htW hg hx.a.1 hx.a.2 (fun m _ => m) (fun b y hy W hk => finClo_any hI hg b W hk))
    clear h ok fit ht hg hx hpc hr hfit hd0 hd1 hI htW hs hbW hlo hoW
    go_wp2_with (go_at_call 61; with_reducible refine HC.out.mono ?_; rintro e w1 ⟨rfl, h1⟩)
    first | go_end0 | ((try simp only [Exit.inBlock, Exit.then]); refine bodyPost_ret (results_none rfl _ _ _) rfl ?_)
    exact ⟨rfl, by rw [HS.out]; exact hfiR.out _ _ h1⟩
  by_cases o3 : xo = 3
  · subst o3
    have HC := hidP (tadd_any hI ok fit htW hg hx.a.1 hx.a.2 hx.b.1 hx.b.2)
    clear h ok fit ht hg hx hpc hr hfit hd0 hd1 hI htW hs hbW hlo hoW
    go_wp2_with (go_at_call 65; with_reducible refine HC.out.mono ?_; rintro e w1 ⟨rfl, h1⟩)
    first | go_end0 | ((try simp only [Exit.inBlock, Exit.then]); refine bodyPost_ret (results_none rfl _ _ _) rfl ?_)
    exact ⟨rfl, by rw [HS.out]; exact hfiR.out _ _ h1⟩
  by_cases o13 : xo = 13
  · subst o13
    have HC := hidP (out_any hI ok fit htW hg hx.a.1 hx.a.2)
    clear h ok fit ht hg hx hpc hr hfit hd0 hd1 hI htW hs hbW hlo hoW
    go_wp2_with (go_at_call 66; with_reducible refine HC.out.mono ?_; rintro e w1 ⟨rfl, h1⟩)
    first | go_end0 | ((try simp only [Exit.inBlock, Exit.then]); refine bodyPost_ret (results_none rfl _ _ _) rfl ?_)
    exact ⟨rfl, by rw [HS.out]; exact hfiR.out _ _ h1⟩
  by_cases o14 : xo = 14
  · subst o14
    have HC := hidP (after_any hI ok fit htW hg hx)
    clear h ok fit ht hg hx hpc hr hfit hd0 hd1 hI htW hs hbW hlo hoW
    go_wp2_with (go_at_call 67; with_reducible refine HC.out.mono ?_; rintro e w1 ⟨rfl, h1⟩)
    first | go_end0 | ((try simp only [Exit.inBlock, Exit.then]); refine bodyPost_ret (results_none rfl _ _ _) rfl ?_)
    exact ⟨rfl, by rw [HS.out]; exact hfin.out _ _ h1⟩
  by_cases o22 : xo = 22
  · subst o22
    have HC := hidP (exit_any hI ok fit htW hg)
    clear h ok fit ht hg hx hpc hr hfit hd0 hd1 hI htW hs hbW hlo hoW
    go_wp2_with (go_at_call 68; with_reducible refine HC.out.mono ?_; rintro e w1 ⟨rfl, h1⟩)
    first | go_end0 | ((try simp only [Exit.inBlock, Exit.then]); refine bodyPost_ret (results_none rfl _ _ _) rfl ?_)
    exact ⟨rfl, by rw [HS.out]; exact hfiR.out _ _ h1⟩
  by_cases o21 : xo = 21
  · subst o21
    have HC := hidP (choose_any hI.drew ok fit hg htW.drew xc (hr.below hbW).drew hx.cases (by have := hx.few; dsimp only at this; omega) draw hd0 hd1 (cp := c4))
    rw [HNC.out] at HC
    clear h ok fit ht hg hx hpc hr hfit hd0 hd1 hI htW hs hbW hlo hoW
    go_upto_region 11 with fail
    go_still_tail 10, (by kernel_rfl)
    go_wp2_with (go_at_call 56; with_reducible refine HC.out.mono ?_; rintro e w1 ⟨rfl, h1⟩)
    first | go_end0 | ((try simp only [Exit.inBlock, Exit.then]); refine bodyPost_ret (results_none rfl _ _ _) rfl ?_)
    exact ⟨rfl, by rw [HS.out]; exact hfin.out _ _ h1.undrew⟩
  by_cases o5 : xo = 5
  · subst o5
    have hk : Below w.heap.size w ((W1.setCell ⟨ob, 0, none⟩ (.int .i64 1)).alloc (.cells #[.int .i64 1, .int .i64 xa, .int .i64 xb, .int .i64 (gd.pc + 1)] 109)) := bnew (hbW.setCell (p := ⟨ob, 0, none⟩) hlo _) _
    have hoS : (W1.setCell ⟨ob, 0, none⟩ (.int .i64 1)).heap[ob]? = some (.cells #[.int .i64 1, .int .i64 xa, .int .i64 xb, .int .i64 (gd.pc + 1)] 109 (0, 0)) := heap_setCell_same W1 ob 0 _ _ _ hoW
    have hob0 := cell_of_row W1 ob 0 _ _ (0, 0) hoW
    simp at hob0
    have hob1 := cell_of_row (W1.setCell ⟨ob, 0, none⟩ (.int .i64 1)) ob 0 _ _ (0, 0) hoS
    have hob2 := cell_of_row (W1.setCell ⟨ob, 0, none⟩ (.int .i64 1)) ob 1 _ _ (0, 0) hoS
    have hob3 := cell_of_row (W1.setCell ⟨ob, 0, none⟩ (.int .i64 1)) ob 2 _ _ (0, 0) hoS
    have hob4 := cell_of_row (W1.setCell ⟨ob, 0, none⟩ (.int .i64 1)) ob 3 _ _ (0, 0) hoS
    simp at hob1 hob2 hob3 hob4
    have hpe : pb ≠ ob := by
      intro e
      rw [e] at hpW
      rw [hob0] at hpW
      cases hpW
    have hp2 : (W1.setCell ⟨ob, 0, none⟩ (.int .i64 1)).cell? ⟨pb, 0, none⟩ = some (.pointer (some ⟨tb, 0, none⟩)) := by
      refine ((Keep.refl (fun b => b = ob) W1).setCell (p := ⟨ob, 0, none⟩) rfl _).cell (p := ⟨pb, 0, none⟩) hpe hpW
    have hfz := frozen_of_row W1 ob 0 _ _ hoW
    have HC := hidP (choose_any (h.below hk) ok fit hg (ht.below hk) [⟨1, xa, xb, gd.pc + 1⟩] (row_new _ [.int .i64 1, .int .i64 xa, .int .i64 xb, .int .i64 (gd.pc + 1)] 109 _ rfl) (fun c hc => by obtain rfl := List.mem_singleton.1 hc; exact hx.one (ok.gor g gd hg).pc.1 (hpc (by show (5 : Int) ≠ 22; decide))) (by simp only [List.length_singleton]; omega) 0 (by omega) (by omega) (cp := 1))
    simp only [List.length_singleton] at HC
    have HS2 : Hid (m.doI g ⟨5, xa, xb, xn, xc⟩ draw = m.choose g [⟨1, xa, xb, gd.pc + 1⟩] 0) := by
      show _ = _
      rw [hs, ← gorAt_some hg]
      rfl
    have HK := hidP hk
    generalize hW2 : W1.setCell ⟨ob, 0, none⟩ (.int .i64 1) = W2 at *
    clear h ok fit ht hg hx hpc hr hfit hd0 hd1 hI htW hs hbW hlo hoW hk hoS
    go_upto_region 6 with fail
    try rw [hW2]
    clear hW2 hob0 hpW hfz
    go_wp2_with (go_at_call 56; with_reducible refine HC.out.mono ?_; rintro e w1 ⟨rfl, h1⟩)
    first | go_end0 | ((try simp only [Exit.inBlock, Exit.then]); refine bodyPost_ret (results_none rfl _ _ _) rfl ?_)
    exact ⟨rfl, by rw [HS2.out]; exact ResN.of_below HK.out h1⟩
  by_cases o6 : xo = 6
  · subst o6
    have hk : Below w.heap.size w ((W1.setCell ⟨ob, 0, none⟩ (.int .i64 2)).alloc (.cells #[.int .i64 2, .int .i64 xa, .int .i64 xb, .int .i64 (gd.pc + 1)] 109)) := bnew (hbW.setCell (p := ⟨ob, 0, none⟩) hlo _) _
    have hoS : (W1.setCell ⟨ob, 0, none⟩ (.int .i64 2)).heap[ob]? = some (.cells #[.int .i64 2, .int .i64 xa, .int .i64 xb, .int .i64 (gd.pc + 1)] 109 (0, 0)) := heap_setCell_same W1 ob 0 _ _ _ hoW
    have hob0 := cell_of_row W1 ob 0 _ _ (0, 0) hoW
    simp at hob0
    have hob1 := cell_of_row (W1.setCell ⟨ob, 0, none⟩ (.int .i64 2)) ob 0 _ _ (0, 0) hoS
    have hob2 := cell_of_row (W1.setCell ⟨ob, 0, none⟩ (.int .i64 2)) ob 1 _ _ (0, 0) hoS
    have hob3 := cell_of_row (W1.setCell ⟨ob, 0, none⟩ (.int .i64 2)) ob 2 _ _ (0, 0) hoS
    have hob4 := cell_of_row (W1.setCell ⟨ob, 0, none⟩ (.int .i64 2)) ob 3 _ _ (0, 0) hoS
    simp at hob1 hob2 hob3 hob4
    have hpe : pb ≠ ob := by
      intro e
      rw [e] at hpW
      rw [hob0] at hpW
      cases hpW
    have hp2 : (W1.setCell ⟨ob, 0, none⟩ (.int .i64 2)).cell? ⟨pb, 0, none⟩ = some (.pointer (some ⟨tb, 0, none⟩)) := by
      refine ((Keep.refl (fun b => b = ob) W1).setCell (p := ⟨ob, 0, none⟩) rfl _).cell (p := ⟨pb, 0, none⟩) hpe hpW
    have hfz := frozen_of_row W1 ob 0 _ _ hoW
    have HC := hidP (choose_any (h.below hk) ok fit hg (ht.below hk) [⟨2, xa, xb, gd.pc + 1⟩] (row_new _ [.int .i64 2, .int .i64 xa, .int .i64 xb, .int .i64 (gd.pc + 1)] 109 _ rfl) (fun c hc => by obtain rfl := List.mem_singleton.1 hc; exact hx.one (ok.gor g gd hg).pc.1 (hpc (by show (6 : Int) ≠ 22; decide))) (by simp only [List.length_singleton]; omega) 0 (by omega) (by omega) (cp := 1))
    simp only [List.length_singleton] at HC
    have HS2 : Hid (m.doI g ⟨6, xa, xb, xn, xc⟩ draw = m.choose g [⟨2, xa, xb, gd.pc + 1⟩] 0) := by
      show _ = _
      rw [hs, ← gorAt_some hg]
      rfl
    have HK := hidP hk
    generalize hW2 : W1.setCell ⟨ob, 0, none⟩ (.int .i64 2) = W2 at *
    clear h ok fit ht hg hx hpc hr hfit hd0 hd1 hI htW hs hbW hlo hoW hk hoS
    go_upto_region 9 with fail
    try rw [hW2]
    clear hW2 hob0 hpW hfz
    go_wp2_with (go_at_call 56; with_reducible refine HC.out.mono ?_; rintro e w1 ⟨rfl, h1⟩)
    first | go_end0 | ((try simp only [Exit.inBlock, Exit.then]); refine bodyPost_ret (results_none rfl _ _ _) rfl ?_)
    exact ⟨rfl, by rw [HS2.out]; exact ResN.of_below HK.out h1⟩
  rw [if_neg o5, if_neg o6, if_neg o21, if_neg o7, if_neg o8, if_neg o9, if_neg o16, if_neg o17, if_neg o20, if_neg o3, if_neg o13, if_neg o14, if_neg o22] at HS
  have HC := hidP (words_any hI ok fit htW hg hx (hpc o22))
  clear h ok fit ht hg hx hpc hr hfit hd0 hd1 hI htW hs hbW hlo hoW
  go_wp2_with (go_at_call 69; with_reducible refine HC.out.mono ?_; rintro e w1 ⟨rfl, h1⟩)
  first | go_end0 | ((try simp only [Exit.inBlock, Exit.then]); refine bodyPost_ret (results_none rfl _ _ _) rfl ?_)
  exact ⟨rfl, by rw [HS.out]; exact hfin.out _ _ h1⟩
theorem Tryz.slInt' : SlT Tryz.prog 29 3 (.int .i64 0) 1 8 := ⟨Tryz.underlying29, by kernel_rfl, rfl, by decide⟩
theorem okI_exit : OkI MachD.exitI := ⟨⟨by decide, by decide⟩, ⟨by decide, by decide⟩, ⟨by decide, by decide⟩, fun h => (by rcases h with h | h <;> revert h <;> decide), fun c hc => (by cases hc), by decide⟩
theorem Inv.prog {B : Nat} {P : Value} {σ : Lay} {ow : Owns} {m : MachD} {w : World} (h : Inv B P σ ow m w) : w.cell? ⟨σ.mb, 0, none⟩ = some P := by
  obtain ⟨q, tv, ev, sv, G0, G1, G2, G3, hM⟩ := h.machC
  exact cell_of_row w _ 0 _ _ (0, 0) hM.cells.1
theorem gPtrs_get {σ : Lay} {l : List Nat} {i g : Nat} (h : l[i]? = some g) : (gPtrs σ l)[i]? = some (.pointer (some ⟨σ.gA g, 0, none⟩)) := by unfold gPtrs; rw [List.getElem?_map, h]; rfl
theorem Keep.toBelow {S : Nat → Prop} {a b : World} {B : Nat} (h : Keep S a b) (hs : ∀ k, S k → B ≤ k) (hB : B ≤ a.heap.size) : Below B a b :=
  ⟨h.os, h.tape, h.output, h.size, fun k hk => h.block k (by omega) (fun e => by have := hs k e; omega)⟩
theorem Inv.keepBelow {B : Nat} {P : Value} {σ : Lay} {ow : Owns} {m : MachD} {w w' : World} (h : Inv B P σ ow m w) (hk : Keep (fun b => ow b ≠ none) w w') : Below B w w' :=
  hk.toBelow (fun k hk => by
    cases ho : ow k with
    | none => exact absurd ho hk
    | some o => exact h.base k o ho) h.size
set_option maxRecDepth 100000 in
set_option maxHeartbeats 3200000 in
theorem pick_any {B nA cA : Nat} {A : Option Addr} {σ : Lay} {ow : Owns} {m : MachD} {w : World} (h : Inv B (.slice A nA cA) σ ow m w) (ok : Ok m) (fit : Fit m) (hst : m.steps.length + 1 ≤ 1000000) (hev : m.events.length + 1 ≤ 1000000) (hws : m.ws.length + 3 ≤ 1000000)
    {w0 : World} (hw0 : w0.heap.size = B) (hbw : Below w0.heap.size w0 w) {l : List InstrD} (hP : kI.C w0 A nA l) (hll : l.length = nA) (hl : ∀ x ∈ l, OkI x) (hnA : nA ≤ 9999) (n draw : Int) (hn : -9223372036854775808 ≤ n ∧ n ≤ 9223372036854775807) (hd : -9223372036854775808 ≤ draw ∧ draw ≤ 9223372036854775807) :
    Calls Tryz.prog 29 #[.pointer (some ⟨σ.mb, 0, none⟩), .int .i64 n, .int .i64 draw] w fun e w' => e = .returned (.tuple #[]) ∧ ResN B (.slice A nA cA) σ ow m (m.pick l n draw) w w' := by
  have c0 := h.prog
  obtain ⟨q, tv, ev, sv, G0, G1, G2, G3, hM⟩ := h.machC
  obtain ⟨mb, hmb⟩ : ∃ mb, σ.mb = mb := ⟨_, rfl⟩
  have hcell := hM.cells.1
  rw [hmb] at hcell c0 ⊢
  obtain ⟨_, c1, _, c7, _, _, _, c11, cf⟩ := mach_cells hcell
  obtain ⟨qa, qc, hqv, _⟩ := mt_slice hM.queue.1
  obtain ⟨ta, tc, htv, _⟩ := mt_slice hM.timers.1
  rw [hqv] at c1
  rw [htv] at c7
  have hs : m.pick l n draw = m.pick l n draw := rfl
  conv at hs => rhs; unfold MachD.pick
  obtain ⟨nq, hnq⟩ : ∃ nq, m.queue.length = nq := ⟨_, rfl⟩
  obtain ⟨nt, hnt⟩ : ∃ nt, m.timers.length = nt := ⟨_, rfl⟩
  rw [hnq] at c1
  rw [hnt] at c7
  by_cases hq0 : m.queue.length = 0
  · rw [if_pos hq0] at hs
    obtain rfl : nq = 0 := by omega
    have HE := hidP (end_any' h (by omega) 2 (-1))
    have HI := hidP h
    have HS := hidP hs
    rw [hmb] at HE
    by_cases ht0 : m.timers.length = 0
    · obtain rfl : nt = 0 := by omega
      have HT := hidP ht0
      clear h ok fit hst hev hws hP hw0 hbw hll hl hnA hn hd hM hmb hcell cf c0 c11 hqv htv hnq hnt hs hq0 ht0
      go_enter Tryz.func29, Tryz.ntmps29
      go_wp2_with (go_at_call 43; with_reducible refine HE.out.mono ?_; rintro e w1 ⟨rfl, h1⟩)
      first | go_end0 | ((try simp only [Exit.inBlock, Exit.then]); refine bodyPost_ret (results_none rfl _ _ _) rfl ?_)
      exact ⟨rfl, by rw [HS.out, if_pos HT.out]; exact h1.toN⟩
    · have hnt1 : ¬ (nt = 0) := by omega
      have HT := hidP ht0
      clear h ok fit hst hev hws hP hw0 hbw hll hl hnA hn hd hM hmb hcell cf c0 c11 hqv htv hnq hnt hs hq0 ht0
      go_enter Tryz.func29, Tryz.ntmps29
      go_wp2
      first | go_end0 | ((try simp only [Exit.inBlock, Exit.then]); refine bodyPost_ret (results_none rfl _ _ _) rfl ?_)
      exact ⟨rfl, by rw [HS.out, if_neg HT.out]; exact (HI.out.res_below (brefl _)).toN⟩
  · rw [if_neg hq0] at hs
    dsimp only at hs
    have hnq1 : ¬ (nq = 0) := by omega
    obtain ⟨D, hD⟩ := Int.eq_ofNat_of_zero_le (show 0 ≤ max n 0 by omega)
    have hD1 : (D : Int) ≤ 9223372036854775807 := by omega
    have hm0 : D % nq < nq := Nat.mod_lt _ (by omega)
    obtain ⟨r, hr⟩ : ∃ r, D % nq = r := ⟨_, rfl⟩
    rw [hr] at hm0
    have f1' : (D : Int) % (nq : Int) = (r : Int) := by exact_mod_cast hr
    have f1 : (D : Int).tmod (nq : Int) = (r : Int) := by rw [Int.tmod_eq_emod_of_nonneg (by omega)]; exact f1'
    have f4 : ¬ ((nq : Int) = 0) := by omega
    have f5 : ((nq : Int) == 0) = false := by simp; omega
    have f6 : (r : Int) < (nq : Int) := by omega
    obtain ⟨g, hgq⟩ := some_lt (l := m.queue) (i := r) (by omega)
    have hgd0 : m.queue.getD ((max n 0).toNat % m.queue.length) 0 = g := by
      rw [hnq, show (max n 0).toNat = D by omega, hr]
      exact getD_some hgq
    rw [hgd0] at hs
    obtain ⟨gd, hg, hgw⟩ := ok.queue g (List.mem_of_getElem? hgq)
    obtain ⟨qb, qo, hqa, hqc⟩ := (owns_row (hqv ▸ hM.queue.1 : w.ownsRow B 95 1 (.slice qa m.queue.length qc) m.queue.length (gPtrs σ m.queue))).addr (by unfold gPtrs; rw [List.length_map]; omega)
    have cq := hqc r _ (gPtrs_get hgq)
    obtain ⟨gb, hgb⟩ : ∃ gb, σ.gA g = gb := ⟨_, rfl⟩
    obtain ⟨v, hgc, hgo, h6, g0, g1, _, _, gf⟩ := h.gorAt hg
    rw [hgb] at cq g0 g1 hgc
    rw [hqa] at c1
    have hql : nq ≤ 1000000 := by rw [← hnq]; exact Nat.le_trans ok.queueLen fit.gors
    obtain ⟨ns, hns⟩ : ∃ ns, m.steps.length = ns := ⟨_, rfl⟩
    have hsm : ns + 1 ≤ 1000000 := by omega
    have hap := hM.apart
    have HAM : Hid (sv.ownBlock ≠ some mb) := by show _ ≠ _; rw [← hmb]; exact hap.1.2.2.2
    have HAG : Hid (sv.ownBlock ≠ some gb) := by
      show _ ≠ _
      rw [← hgb]
      intro e
      have := hM.steps.2 _ e
      rw [hgo] at this
      cases this
    have HSR := hidP (hns ▸ hM.steps.1 : w.ownsRow B 3 1 sv ns (m.steps.map (Value.int .i64)))
    have HCL := hidP hcell
    have HGC := hidP hgc
    have hsB := h.size
    have hgw2 : gb < w.heap.size := blk_lt hgc
    have opc := (ok.gor g gd hg).pc
    have HX := hidP (⟨h, hM, hns, hg, hmb, hgb, ok, fit, hP, hw0, hbw⟩ : _ ∧ _ ∧ _ ∧ _ ∧ _ ∧ _ ∧ _ ∧ _ ∧ _ ∧ _ ∧ _)
    have HY := hidP (⟨hll, hl, hnA, hd, hst, hev, hws, opc⟩ : _ ∧ _ ∧ _ ∧ _ ∧ _ ∧ _ ∧ _ ∧ _)
    have HS := hidP hs
    clear h ok fit hst hev hws hP hw0 hbw hll hl hnA hn hd hM hmb hcell cf c7 hqv htv hnq hnt hs hq0 hgq hgd0 hg hgw hqa hqc hgb hgc hgo h6 gf hns hap opc hr f1'
    go_enter Tryz.func29, Tryz.ntmps29
    go_upto_region 3 with fail
    go_still_tail 14, (by kernel_rfl)
    go_upto_region 4 with fail
    refine wp_undrewN (w := w) ?_
    intro W hh hkW
    have s11 := cell_heap hh c11
    have sg := cell_heap hh g0
    have hsB2 : B ≤ W.heap.size := by rw [hh]; exact hsB
    have HHH := hidP hh
    have HKW := hidP hkW
    clear c1 c11 cq g0 g1 c0 hh hkW
    have hSS : (fun w' : World => w'.cell? ⟨mb, 11, none⟩ = some sv ∧ w'.cell? ⟨gb, 0, none⟩ = some (.int .i64 g)) W.drew := ⟨s11, sg⟩
    refine OrdG.begin (fun w' : World => w'.cell? ⟨mb, 11, none⟩ = some sv ∧ w'.cell? ⟨gb, 0, none⟩ = some (.int .i64 g)) 15 (by kernel_rfl) hSS ?_
    refine OrdG.ty 0 _ rfl (.inl hSS) ?_
    simp only [Act.put, stA, stS, stZ]
    refine OrdG.ty 1 _ rfl (.inl hSS) ?_
    simp only [Act.put, stA, stS, stZ]
    refine OrdG.ty 2 _ rfl (.inl hSS) ?_
    simp only [Act.put, stA, stS, stZ]
    refine OrdG.ty 3 _ rfl (.inl hSS) ?_
    simp only [Act.put, stA, stS, stZ]
    refine OrdG.ty 4 _ rfl (.inl hSS) ?_
    simp only [Act.put, stA, stS, stZ]
    refine OrdG.tk 5 _ rfl (by assumption) ?_
    simp only [Act.put, stA, stS, stZ]
    refine OrdG.ty 6 _ rfl (.inl hSS) ?_
    simp only [Act.put, stA, stS, stZ]
    refine OrdG.ty 7 _ rfl (.inl hSS) ?_
    simp only [Act.put, stA, stS, stZ]
    refine OrdG.ty 8 _ rfl (.inl hSS) ?_
    simp only [Act.put, stA, stS, stZ]
    refine OrdG.tk 9 _ rfl (by assumption) ?_
    simp only [Act.put, stA, stS, stZ]
    refine OrdG.one (i := 10) (by kernel_rfl) rfl (fun K hK => ?_)
    go_simp
    refine hK.out _ _ (.inl (by go_keep)) ?_
    clear hK
    refine OrdG.one (i := 11) (by kernel_rfl) rfl (fun K hK => ?_)
    have HS2 : Hid (W.ownsRow B 3 1 sv ns (m.steps.map (Value.int .i64))) := owns_keep HSR.out HKW.out (fun _ _ e => e)
    refine step_app _ rfl (.tmp 42) (.tmp 47) rfl Tryz.slInt' B sv ns _ rfl (HS2.out.alloc _) (some ⟨W.heap.size, 0, none⟩) 1 1 [.int .i64 g] rfl (ns + 1) rfl (RowAt.new W [.int .i64 g] _) rfl (by simp; rfl) (by omega) (by unfold maxLen; omega) (Nat.le_trans hsB2 (by simp)) ?_
    intro a2 c2 w2 ho2 hg2 hw2
    have kp2 : Keep (fun b => sv.ownBlock = some b) W w2 := keep_app hg2 (by first | exact (Keep.refl _ W).alloc _ | exact ((Keep.refl _ W).alloc _).drew) (fun k hk => hk)
    have HCW : Hid (W.heap[mb]? = w.heap[mb]?) := by show _ = _; rw [HHH.out]
    have HGW : Hid (W.heap[gb]? = w.heap[gb]?) := by show _ = _; rw [HHH.out]
    have hm2 := (kp2.block mb (blk_lt (HCW.out.trans HCL.out)) HAM.out).trans (HCW.out.trans HCL.out)
    have n11 := cell_of_row w2 mb 11 _ _ (0, 0) hm2
    have zn := frozen_of_row w2 mb 11 _ _ hm2
    simp at n11
    have ng := Keep.cell (p := ⟨gb, 0, none⟩) kp2 HAG.out sg
    have HO2 := hidP ho2
    have KP2 := hidP kp2
    have HW2 := hidP hw2
    clear ho2 kp2 hw2 hg2 hm2
    refine hK.out _ _ (.inl ⟨n11, ng⟩) ?_
    clear hK
    refine OrdG.ty 12 _ rfl (.inl ⟨n11, ng⟩) ?_
    simp only [Act.put, stA, stS, stZ]
    refine OrdG.ty 13 _ rfl (.inl ⟨n11, ng⟩) ?_
    simp only [Act.put, stA, stS, stZ]
    refine OrdG.ty 14 _ rfl (.inl ⟨n11, ng⟩) ?_
    simp only [Act.put, stA, stS, stZ]
    refine OrdG.one (i := 15) (by kernel_rfl) rfl (fun K hK => ?_)
    go_simp
    refine hK.out _ _ (.inr (by kernel_rfl)) ?_
    clear hK
    refine OrdG.done (by kernel_rfl) ?_ _
    clear hSS
    obtain ⟨h, hM, hns, hg, hmb, hgb, ok, fit, hP, hw0, hbw⟩ := HX.out
    have hIW := h.same HKW.out
    have hMW := hM.keep (S := fun _ => False) HKW.out (fun _ _ e => e) (.refl _ _)
    have R2 := hIW.stepsPut hMW (l' := m.steps ++ [(g : Int)]) (q' := .slice a2 (ns + 1) c2) KP2.out (by
      rw [List.length_append, List.map_append, hns]
      exact HO2.out) (fun b hb => by
        rcases HW2.out with h | h
        · exact .inl (h.symm.trans hb)
        · rw [h] at hb; cases hb; exact .inr (by simp))
    rw [hmb] at R2
    have R3 := Res.same HKW.out R2
    have hbase := h.keepBelow (w' := w2.setCell ⟨mb, 11, none⟩ (.slice a2 (ns + 1) c2)) (by obtain ⟨_, _, r3, _⟩ := R3; exact r3)
    have hP9 := Kd.C_below hP (by rw [hw0] at hbw ⊢; exact hbw.trans hbase)
    clear s11 sg n11 zn ng hIW hMW R2 h hM hns hmb HO2 KP2 HW2 hbase hbw hw0 hP
    generalize w2.setCell ⟨mb, 11, none⟩ (.slice a2 (ns + 1) c2) = W9 at *
    obtain ⟨ow9, h9, k9, m9⟩ := R3
    have hg9 : ({ m with steps := m.steps ++ [(g : Int)] } : MachD).gors[g]? = some gd := hg
    obtain ⟨v9, hgc9, _, _, _, y1, _, _, _⟩ := h9.gorAt hg9
    have y0 := h9.prog
    rw [hgb] at y1
    rw [(show σ.mb = mb from HX.out.2.2.2.2.1)] at y0
    have lgb := World.block_lt_of_cell? W9 _ y1
    have lmb := World.block_lt_of_cell? W9 _ y0
    have hz : Below W9.heap.size W9 (W9.alloc (.cells #[.int .i64 22, .int .i64 0, .int .i64 0, .int .i64 0, .slice none 0 0] 56)) := bnew (brefl W9) _
    have z1 := (hz.cell (p := ⟨gb, 1, none⟩) lgb).trans y1
    have z0 := (hz.cell (p := ⟨mb, 0, none⟩) lmb).trans y0
    have hxb := heap_alloc_new W9 (.cells #[.int .i64 22, .int .i64 0, .int .i64 0, .int .i64 0, .slice none 0 0] 56)
    obtain ⟨xb, hxe⟩ : ∃ xb, W9.heap.size = xb := ⟨_, rfl⟩
    rw [hxe] at hxb
    obtain ⟨p, hp⟩ := Int.eq_ofNat_of_zero_le HY.out.2.2.2.2.2.2.2.1
    by_cases hpl : p < nA
    · obtain ⟨x, hx⟩ := some_lt (l := l) (i := p) (by rw [HY.out.1]; exact hpl)
      obtain ⟨b, o, A4, c4, hA, x0, x1, x2, x3, x4, h4, h5⟩ := instr_at hP9 p x hx
      have lb := World.block_lt_of_cell? W9 _ x0
      have x0 := (hz.cell (p := ⟨b, o + p * 5, none⟩) lb).trans x0
      have x1 := (hz.cell (p := ⟨b, o + p * 5 + 1, none⟩) lb).trans x1
      have x2 := (hz.cell (p := ⟨b, o + p * 5 + 2, none⟩) lb).trans x2
      have x3 := (hz.cell (p := ⟨b, o + p * 5 + 3, none⟩) lb).trans x3
      have x4 := (hz.cell (p := ⟨b, o + p * 5 + 4, none⟩) lb).trans x4
      have hpi : (p : Int) < (nA : Int) := by omega
      have hpi0 : (0 : Int) ≤ (p : Int) := by omega
      rw [hp] at z1
      rw [hA] at z0
      obtain ⟨nx, hnx⟩ : ∃ nx, x.cases.length = nx := ⟨_, rfl⟩
      rw [hnx] at x4
      have q0 := cell_of_row _ xb 0 _ _ (0, 0) hxb
      have q1 := cell_of_row _ xb 1 _ _ (0, 0) hxb
      have q2 := cell_of_row _ xb 2 _ _ (0, 0) hxb
      have q3 := cell_of_row _ xb 3 _ _ (0, 0) hxb
      have q4 := cell_of_row _ xb 4 _ _ (0, 0) hxb
      simp at q0 q1 q2 q3 q4
      have HZ := hidP (⟨h9, k9, m9, hg9, hz, hx, h5, hp, hnx, hA, hgb, ok, fit⟩ : _ ∧ _ ∧ _ ∧ _ ∧ _ ∧ _ ∧ _ ∧ _ ∧ _ ∧ _ ∧ _ ∧ _ ∧ _)
      clear h9 k9 m9 hg9 hz hx h5 hp hnx hA hP9 hgb ok fit hg hgc9 y0 y1 lgb lmb lb h4
      go_upto_region 6 with fail
      go_quiet (fail)
      go_upto_region 7 with fail
      refine wp_undrewN (w := W9.alloc (.cells #[.int .i64 22, .int .i64 0, .int .i64 0, .int .i64 0, .slice none 0 0] 56)) ?_
      intro W6 hh6 hk6
      have z0 := cell_heap hh6 z0
      have z1 := cell_heap hh6 z1
      have x0 := cell_heap hh6 x0
      have x1 := cell_heap hh6 x1
      have x2 := cell_heap hh6 x2
      have x3 := cell_heap hh6 x3
      have x4 := cell_heap hh6 x4
      have hx6 : W6.heap[xb]? = some (.cells #[.int .i64 22, .int .i64 0, .int .i64 0, .int .i64 0, .slice none 0 0] 56 (0, 0)) := by rw [hh6]; exact hxb
      have q0 := cell_of_row _ xb 0 _ _ (0, 0) hx6
      have q1 := cell_of_row _ xb 1 _ _ (0, 0) hx6
      have q2 := cell_of_row _ xb 2 _ _ (0, 0) hx6
      have q3 := cell_of_row _ xb 3 _ _ (0, 0) hx6
      have q4 := cell_of_row _ xb 4 _ _ (0, 0) hx6
      have e0 := frozen_of_row _ xb 0 _ _ hx6
      have e1 := frozen_of_row _ xb 1 _ _ hx6
      have e2 := frozen_of_row _ xb 2 _ _ hx6
      have e3 := frozen_of_row _ xb 3 _ _ hx6
      have e4 := frozen_of_row _ xb 4 _ _ hx6
      simp at q0 q1 q2 q3 q4
      have HK6 := hidP hk6
      have HX6 := hidP hx6
      clear hh6 hk6 hx6 hxb
      go_still_tail 10, (by kernel_rfl)
      go_upto_region 9 with fail
      have hb8 : Below W9.heap.size W9 ((((((W6.setCell ⟨xb, 0, none⟩ (.int .i64 x.op)).setCell ⟨xb, 1, none⟩ (.int .i64 x.a)).setCell ⟨xb, 2, none⟩ (.int .i64 x.b)).setCell ⟨xb, 3, none⟩ (.int .i64 x.n)).setCell ⟨xb, 4, none⟩ (.slice A4 nx c4)).alloc (.cells #[.pointer (some ⟨mb, 0, none⟩), .pointer (some ⟨gb, 0, none⟩), .int .i64 x.op, .int .i64 x.a, .int .i64 x.b, .int .i64 x.n, .slice A4 nx c4, .int .i64 draw] 101)).drew := by
        obtain ⟨h9, k9, m9, hg9, hz, _⟩ := HZ.out
        have hb6 : Below W9.heap.size W9 W6 := hz.trans (HK6.out.toBelow (fun _ e => e.elim) hz.size)
        have hxl : W9.heap.size ≤ xb := by omega
        exact (bnew (((((hb6.setCell (p := ⟨xb, 0, none⟩) hxl _).setCell (p := ⟨xb, 1, none⟩) hxl _).setCell (p := ⟨xb, 2, none⟩) hxl _).setCell (p := ⟨xb, 3, none⟩) hxl _).setCell (p := ⟨xb, 4, none⟩) hxl _) _).drew
      have hc8 : ((((((W6.setCell ⟨xb, 0, none⟩ (.int .i64 x.op)).setCell ⟨xb, 1, none⟩ (.int .i64 x.a)).setCell ⟨xb, 2, none⟩ (.int .i64 x.b)).setCell ⟨xb, 3, none⟩ (.int .i64 x.n)).setCell ⟨xb, 4, none⟩ (.slice A4 nx c4)).alloc (.cells #[.pointer (some ⟨mb, 0, none⟩), .pointer (some ⟨gb, 0, none⟩), .int .i64 x.op, .int .i64 x.a, .int .i64 x.b, .int .i64 x.n, .slice A4 nx c4, .int .i64 draw] 101)).drew.heap[W6.heap.size]? = some (.cells #[.pointer (some ⟨mb, 0, none⟩), .pointer (some ⟨gb, 0, none⟩), .int .i64 x.op, .int .i64 x.a, .int .i64 x.b, .int .i64 x.n, .slice A4 nx c4, .int .i64 draw] 101 (0, 0)) := by
        have := heap_alloc_new (((((W6.setCell ⟨xb, 0, none⟩ (.int .i64 x.op)).setCell ⟨xb, 1, none⟩ (.int .i64 x.a)).setCell ⟨xb, 2, none⟩ (.int .i64 x.b)).setCell ⟨xb, 3, none⟩ (.int .i64 x.n)).setCell ⟨xb, 4, none⟩ (.slice A4 nx c4)) (.cells #[.pointer (some ⟨mb, 0, none⟩), .pointer (some ⟨gb, 0, none⟩), .int .i64 x.op, .int .i64 x.a, .int .i64 x.b, .int .i64 x.n, .slice A4 nx c4, .int .i64 draw] 101)
        rw [show (((((W6.setCell ⟨xb, 0, none⟩ (.int .i64 x.op)).setCell ⟨xb, 1, none⟩ (.int .i64 x.a)).setCell ⟨xb, 2, none⟩ (.int .i64 x.b)).setCell ⟨xb, 3, none⟩ (.int .i64 x.n)).setCell ⟨xb, 4, none⟩ (.slice A4 nx c4)).heap.size = W6.heap.size by simp] at this
        exact this
      have hl8 : W9.heap.size ≤ W6.heap.size := by obtain ⟨h9, k9, m9, hg9, hz, _⟩ := HZ.out; exact Nat.le_trans hz.size HK6.out.size
      generalize ((((((W6.setCell ⟨xb, 0, none⟩ (.int .i64 x.op)).setCell ⟨xb, 1, none⟩ (.int .i64 x.a)).setCell ⟨xb, 2, none⟩ (.int .i64 x.b)).setCell ⟨xb, 3, none⟩ (.int .i64 x.n)).setCell ⟨xb, 4, none⟩ (.slice A4 nx c4)).alloc (.cells #[.pointer (some ⟨mb, 0, none⟩), .pointer (some ⟨gb, 0, none⟩), .int .i64 x.op, .int .i64 x.a, .int .i64 x.b, .int .i64 x.n, .slice A4 nx c4, .int .i64 draw] 101)).drew = W8 at *
      obtain ⟨hll, hl, hnA, hd, hst, hev, hws, opc⟩ := HY.out
      obtain ⟨h9, k9, m9, hg9, hz, hx, h5, hp, hnx, hA, hgb, ok, fit⟩ := HZ.out
      have h8 := h9.below hb8
      have ht8 : IsTurn σ (frm ow9 W9.heap.size none) W8 W6.heap.size g x A4 c4 draw := ⟨by
        have hmb : σ.mb = mb := HX.out.2.2.2.2.1
        unfold turnC
        rw [hmb, hgb, hnx]
        exact hc8, frm_ge hl8⟩
      have hD := do_any h8 (ok.other (m' := { m with steps := m.steps ++ [(g : Int)] }) rfl rfl rfl rfl rfl rfl rfl) ⟨fit.gors, fit.chans, fit.boxes, fit.ws, fit.events, by show (m.steps ++ [(g : Int)]).length ≤ _; rw [List.length_append, List.length_singleton]; omega, fit.now⟩ ht8 hg9 (hl x (List.mem_of_getElem? hx)) (fun _ => by omega) ((C_row h5).below hb8) hws hd.1 (by omega)
      have HDO := hidP hD
      have HEQ : Hid (m.pick l n draw = ({ m with steps := m.steps ++ [(g : Int)] } : MachD).doI g x draw) := by
        show _ = _
        rw [HS.out, show m.gorAt g = gd from gorAt_some (m := m) hg9, hp, if_pos (by rw [hll]; omega), show (p : Int).toNat = p from rfl, getD_some hx]
      have HF := hidP (⟨hb8, k9, m9⟩ : _ ∧ _ ∧ _)
      clear h9 k9 m9 hg9 hz hx h5 hp hnx hA hgb ok fit h8 ht8 hD hb8 hc8 hl8 hll hl hnA hd hst hev hws opc z0 z1 x0 x1 x2 x3 x4 q0 q1 q2 q3 q4 e0 e1 e2 e3 e4
      go_wp2_with (go_at_call 44; with_reducible refine HDO.out.mono ?_; rintro e w1 ⟨rfl, h1⟩)
      first | go_end0 | ((try simp only [Exit.inBlock, Exit.then]); refine bodyPost_ret (results_none rfl _ _ _) rfl ?_)
      refine ⟨rfl, ?_⟩
      rw [HEQ.out]
      obtain ⟨hb8, k9, m9⟩ := HF.out
      obtain ⟨σ', ow', u1, ua, u2, u3⟩ := ResN.of_below hb8 h1
      obtain ⟨ow2, r1, r2, r3⟩ := Res.trans k9 m9 (⟨ow', u1, u2, u3⟩ : Res B _ σ' ow9 _ W9 w1)
      exact ⟨σ', ow2, r1, ⟨ua.mb, ua.g, ua.c, ua.b, ua.w⟩, r2, r3⟩
    · have hpi : ¬ ((p : Int) < (nA : Int)) := by omega
      rw [hp] at z1
      have HZ := hidP (⟨h9, k9, m9, hg9, hz, hp, hgb, ok, fit⟩ : _ ∧ _ ∧ _ ∧ _ ∧ _ ∧ _ ∧ _ ∧ _ ∧ _)
      clear h9 k9 m9 hg9 hz hp hP9 hgb ok fit hg hgc9 y0 y1 lgb lmb
      go_upto_region 6 with fail
      go_quiet (fail)
      go_upto_region 8 with fail
      refine wp_undrewN (w := W9.alloc (.cells #[.int .i64 22, .int .i64 0, .int .i64 0, .int .i64 0, .slice none 0 0] 56)) ?_
      intro W6 hh6 hk6
      have hx6 : W6.heap[xb]? = some (.cells #[.int .i64 22, .int .i64 0, .int .i64 0, .int .i64 0, .slice none 0 0] 56 (0, 0)) := by rw [hh6]; exact hxb
      have q0 := cell_of_row _ xb 0 _ _ (0, 0) hx6
      have q1 := cell_of_row _ xb 1 _ _ (0, 0) hx6
      have q2 := cell_of_row _ xb 2 _ _ (0, 0) hx6
      have q3 := cell_of_row _ xb 3 _ _ (0, 0) hx6
      have q4 := cell_of_row _ xb 4 _ _ (0, 0) hx6
      simp at q0 q1 q2 q3 q4
      have HK6 := hidP hk6
      clear hh6 hk6 hx6 hxb z0 z1
      go_upto_region 9 with fail
      have hb8 : Below W9.heap.size W9 (W6.alloc (.cells #[.pointer (some ⟨mb, 0, none⟩), .pointer (some ⟨gb, 0, none⟩), .int .i64 22, .int .i64 0, .int .i64 0, .int .i64 0, .slice none 0 0, .int .i64 draw] 101)) := by
        obtain ⟨h9, k9, m9, hg9, hz, _⟩ := HZ.out
        exact bnew (hz.trans (HK6.out.toBelow (fun _ e => e.elim) hz.size)) _
      have hc8 := heap_alloc_new W6 (.cells #[.pointer (some ⟨mb, 0, none⟩), .pointer (some ⟨gb, 0, none⟩), .int .i64 22, .int .i64 0, .int .i64 0, .int .i64 0, .slice none 0 0, .int .i64 draw] 101)
      have hl8 : W9.heap.size ≤ W6.heap.size := by obtain ⟨h9, k9, m9, hg9, hz, _⟩ := HZ.out; exact Nat.le_trans hz.size HK6.out.size
      generalize W6.alloc (.cells #[.pointer (some ⟨mb, 0, none⟩), .pointer (some ⟨gb, 0, none⟩), .int .i64 22, .int .i64 0, .int .i64 0, .int .i64 0, .slice none 0 0, .int .i64 draw] 101) = W8 at *
      obtain ⟨hll, hl, hnA, hd, hst, hev, hws, opc⟩ := HY.out
      obtain ⟨h9, k9, m9, hg9, hz, hp, hgb, ok, fit⟩ := HZ.out
      have h8 := h9.below hb8
      have ht8 : IsTurn σ (frm ow9 W9.heap.size none) W8 W6.heap.size g MachD.exitI none 0 draw := ⟨by
        have hmb : σ.mb = mb := HX.out.2.2.2.2.1
        unfold turnC
        rw [hmb, hgb]
        exact hc8, frm_ge hl8⟩
      have hD := do_any h8 (ok.other (m' := { m with steps := m.steps ++ [(g : Int)] }) rfl rfl rfl rfl rfl rfl rfl) ⟨fit.gors, fit.chans, fit.boxes, fit.ws, fit.events, by show (m.steps ++ [(g : Int)]).length ≤ _; rw [List.length_append, List.length_singleton]; omega, fit.now⟩ ht8 hg9 okI_exit (fun e => absurd rfl e) (.inl rfl) hws hd.1 (by omega)
      have HDO := hidP hD
      have HEQ : Hid (m.pick l n draw = ({ m with steps := m.steps ++ [(g : Int)] } : MachD).doI g MachD.exitI draw) := by
        show _ = _
        rw [HS.out, show m.gorAt g = gd from gorAt_some (m := m) hg9, hp, if_neg (by rw [hll]; omega)]
      have HF := hidP (⟨hb8, k9, m9⟩ : _ ∧ _ ∧ _)
      clear h9 k9 m9 hg9 hz hp hgb ok fit h8 ht8 hD hb8 hc8 hl8 hll hl hnA hd hst hev hws opc q0 q1 q2 q3 q4
      go_wp2_with (go_at_call 44; with_reducible refine HDO.out.mono ?_; rintro e w1 ⟨rfl, h1⟩)
      first | go_end0 | ((try simp only [Exit.inBlock, Exit.then]); refine bodyPost_ret (results_none rfl _ _ _) rfl ?_)
      refine ⟨rfl, ?_⟩
      rw [HEQ.out]
      obtain ⟨hb8, k9, m9⟩ := HF.out
      obtain ⟨σ', ow', u1, ua, u2, u3⟩ := ResN.of_below hb8 h1
      obtain ⟨ow2, r1, r2, r3⟩ := Res.trans k9 m9 (⟨ow', u1, u2, u3⟩ : Res B _ σ' ow9 _ W9 w1)
      exact ⟨σ', ow2, r1, ⟨ua.mb, ua.g, ua.c, ua.b, ua.w⟩, r2, r3⟩
theorem Ok.lessTimers {m : MachD} (ok : Ok m) {r : List (Int × Nat)} (hr : ∀ t ∈ r, t ∈ m.timers) (hl : r.length ≤ m.timers.length) : Ok { m with timers := r } := by
  have hm : More m { m with timers := r } := .same rfl rfl rfl rfl
  exact
  { gor := fun j x hj => (ok.gor j x hj).more hm
    wt := fun j x hj => (ok.wt j x hj).more hm
    chan := fun j x hj => (ok.chan j x hj).more hm
    queue := ok.queue
    nodup := ok.nodup
    globals := ok.globals
    globs := fun x hx => okV_more hm.c hm.b (ok.globs x hx)
    boxes := fun x hx => okV_more hm.c hm.b (ok.boxes x hx)
    timers := fun t ht => ok.timers t (hr t ht)
    fewT := Nat.le_trans hl ok.fewT }
structure TickJ (B : Nat) (P : Value) (σ : Lay) (ow : Owns) (m1 : MachD) (w : World) (n0 : Nat) (mj : MachD) (k : Nat) (wr : World) : Prop where
  res : Res B P σ ow mj w wr
  ok : Ok mj
  fit : Fit mj
  eq : MachD.tickF n0 m1 = MachD.tickF k mj
  few : mj.timers.length ≤ k
def tmLen (w : World) (mb : Nat) : Nat := match w.cell? ⟨mb, 7, none⟩ with
  | some (.slice _ n _) => n
  | _ => 0
theorem tmLen_eq {B : Nat} {P : Value} {σ : Lay} {ow : Owns} {m : MachD} {w : World} (h : Inv B P σ ow m w) : tmLen w σ.mb = m.timers.length := by
  obtain ⟨q, tv, ev, sv, G0, G1, G2, G3, hM⟩ := h.machC
  obtain ⟨_, _, _, c7, _⟩ := mach_cells hM.cells.1
  obtain ⟨ta, tc, rfl, _⟩ := mt_slice hM.timers.1
  unfold tmLen
  rw [c7]
set_option maxRecDepth 100000 in
set_option maxHeartbeats 3200000 in
theorem tick_any {B : Nat} {P : Value} {σ : Lay} {ow : Owns} {m : MachD} {w : World} (h : Inv B P σ ow m w) (ok : Ok m) (fit : Fit m) (n : Int) (hnow : m.now + 1000 ≤ 1000000000) (hn : -9223372036854775808 ≤ n ∧ n ≤ 9223372036854775807) :
    Calls Tryz.prog 30 #[.pointer (some ⟨σ.mb, 0, none⟩), .int .i64 n] w fun e w' => e = .returned (.tuple #[]) ∧ Res B P σ ow (m.tick n) w w' := by
  have hs : m.tick n = m.tick n := rfl
  conv at hs => rhs; unfold MachD.tick
  obtain ⟨mb, hmb⟩ : ∃ mb, σ.mb = mb := ⟨_, rfl⟩
  rw [hmb]
  by_cases hbad : n < 0 ∨ n > 1000
  · rw [if_pos hbad] at hs
    have HS := hidP hs
    have H := hidP h
    by_cases h1 : n < 0
    · clear h ok fit hnow hn hs hbad hmb
      go_enter Tryz.func30, Tryz.ntmps30
      go_wp2
      first | go_end0 | ((try simp only [Exit.inBlock, Exit.then]); refine bodyPost_ret (results_none rfl _ _ _) rfl ?_)
      exact ⟨rfl, by rw [HS.out]; exact H.out.res_below (brefl _)⟩
    · have h2 : n > 1000 := hbad.resolve_left h1
      clear h ok fit hnow hn hs hbad hmb
      go_enter Tryz.func30, Tryz.ntmps30
      go_wp2
      first | go_end0 | ((try simp only [Exit.inBlock, Exit.then]); refine bodyPost_ret (results_none rfl _ _ _) rfl ?_)
      exact ⟨rfl, by rw [HS.out]; exact H.out.res_below (brefl _)⟩
  · rw [if_neg hbad] at hs
    have h1 : ¬ n < 0 := fun e => hbad (.inl e)
    have h2 : ¬ n > 1000 := fun e => hbad (.inr e)
    obtain ⟨q, tv, ev, sv, G0, G1, G2, G3, hM⟩ := h.machC
    have hcell := hM.cells.1
    rw [hmb] at hcell
    obtain ⟨_, _, c6, _, _, _, _, _, cf⟩ := mach_cells hcell
    have cf6 := cf 6
    have hnow0 := fit.now
    have wn : IntKind.i64.wrap (m.now + n) = m.now + n := IntWalk.i64_in _ (by omega)
    obtain ⟨m1, hm1⟩ : ∃ m1 : MachD, m1 = { m with now := m.now + n } := ⟨_, rfl⟩
    have hR1 : Res B P σ ow m1 w (w.setCell ⟨mb, 6, none⟩ (.int .i64 (m.now + n))) := by
      have := h.wordPut hM (m' := m1) (w' := w.setCell ⟨mb, 6, none⟩ (.int .i64 (m.now + n))) (by rw [hm1]; exact hM.gl) (by rw [hm1]) (by rw [hm1]) (by rw [hm1]) (by rw [hm1]) (by rw [hm1]) (by rw [hm1]) (by rw [hm1]) (by rw [hm1]) ((Keep.refl (fun b => b = σ.mb) w).setCell (p := ⟨mb, 6, none⟩) hmb.symm _) (by
        rw [hmb, hm1]
        exact heap_setCell_same w mb 6 _ _ _ hcell)
      exact this
    have ok1 : Ok m1 := by rw [hm1]; exact ok.other rfl rfl rfl rfl rfl rfl rfl
    have fit1 : Fit m1 := by rw [hm1]; exact ⟨fit.gors, fit.chans, fit.boxes, fit.ws, fit.events, fit.steps, by show 0 ≤ m.now + n ∧ m.now + n ≤ 1000000000; omega⟩
    have ht1 : m1.timers.length = m.timers.length := by rw [hm1]
    rw [← hm1] at hs
    have HR1 := hidP (⟨hR1, ok1, fit1⟩ : _ ∧ _ ∧ _)
    have HS := hidP hs
    have HMB := hidP hmb
    have HT1 := hidP ht1
    clear h ok fit hnow hn hs hbad hM hcell cf hR1 ok1 fit1 hm1 hnow0 hmb ht1
    go_enter Tryz.func30, Tryz.ntmps30
    go_wp2_with fail
    go_loopw [] (fun wr => ∃ (mj : MachD) (k : Nat), Hid (TickJ B P σ ow m1 w m.timers.length mj k wr)) (fun wr => tmLen wr mb)
    case atStart => exact ⟨m1, m.timers.length, HR1.out.1, HR1.out.2.1, HR1.out.2.2, rfl, Nat.le_of_eq HT1.out⟩
    case round =>
      obtain ⟨mj, k, HJ⟩ := hrel
      obtain ⟨wo, hwo⟩ : ∃ wo, wo = wr := ⟨_, rfl⟩
      subst hwo
      obtain ⟨hres, okj, fitj, hej, hfj⟩ := HJ.out
      obtain ⟨ow1, hI, hK, hM1⟩ := hres
      obtain ⟨q, tv, ev, sv, G0, G1, G2, G3, hM⟩ := hI.machC
      have hcell := hM.cells.1
      rw [HMB.out] at hcell
      obtain ⟨_, _, d6, d7, _, _, _, _, df⟩ := mach_cells hcell
      obtain ⟨ta, tc, htv, hle⟩ := mt_slice hM.timers.1
      rw [htv] at d7
      cases htm : mj.timers with
      | nil =>
        rw [htm] at d7
        simp only [List.length_nil] at d7
        have hfin : MachD.tickF k mj = mj := by
          cases k with
          | zero => rfl
          | succ k =>
            unfold MachD.tickF
            rw [htm]
        have HY := hidP (⟨hI.res_below (brefl _), hK, hM1, hej.trans hfin⟩ : _ ∧ _ ∧ _ ∧ _)
        clear hI okj fitj hej hfj hK hM1 hM hcell htv hle htm hfin df
        go_wp2_with fail
        go_quiet (fail)
        go_wp2
        first | go_end0 | ((try simp only [Exit.inBlock, Exit.then]); refine bodyPost_ret (results_none rfl _ _ _) rfl ?_)
        obtain ⟨hI, hK, hM1, hej⟩ := HY.out
        refine ⟨rfl, ?_⟩
        rw [HS.out, hej]
        exact Res.trans hK hM1 (hI.below (bdrewN' (brefl _) _))
      | cons t r =>
        rw [htm] at d7
        simp only [List.length_cons] at d7
        obtain ⟨b, o, hta, x0, x1⟩ := tmC_at (owns_row (htv ▸ hM.timers.1 : wo.ownsRow B 104 2 (.slice ta mj.timers.length tc) mj.timers.length (mj.timers.flatMap (tmC σ)))) (i := 0) (c := t) (by rw [htm]; rfl)
        simp only [Nat.zero_mul, Nat.add_zero] at x0 x1
        subst hta
        obtain ⟨t1, t2⟩ := t
        dsimp only at x0 x1
        obtain ⟨nr, hnr⟩ : ∃ nr, r.length = nr := ⟨_, rfl⟩
        rw [hnr] at d7
        have lt1 : (0 : Int) < (nr : Int) + 1 := by omega
        by_cases hle2 : t1 ≤ mj.now
        · obtain ⟨hc2, ht10, ht11⟩ := okj.timers (t1, t2) (by rw [htm]; exact List.mem_cons_self ..)
          dsimp only at hc2 ht10 ht11
          obtain ⟨k, rfl⟩ : ∃ k', k = k' + 1 := ⟨k - 1, by rw [htm, List.length_cons] at hfj; omega⟩
          have hd : decide (t1 ≤ mj.now) = true := by simpa using hle2
          obtain ⟨cd, hcd⟩ := some_lt (l := mj.chans) (i := t2) hc2
          have ok3 : Ok ({ mj with timers := r } : MachD) := okj.lessTimers (fun t ht => by rw [htm]; exact List.mem_cons_of_mem _ ht) (by rw [htm, List.length_cons]; omega)
          have fit3 : Fit ({ mj with timers := r } : MachD) := ⟨fitj.gors, fitj.chans, fitj.boxes, fitj.ws, fitj.events, fitj.steps, fitj.now⟩
          have hcd3 : ({ mj with timers := r } : MachD).chans[t2]? = some cd := hcd
          have hx3 : okV ({ mj with timers := r } : MachD) (.num t1) := ⟨by omega, by omega⟩
          have hS := ok3.send hcd3 hx3
          have hnr6 : nr ≤ 1000000 := by have := okj.fewT; rw [htm, List.length_cons] at this; have := fitj.chans; omega
          have htc : nr + 1 ≤ tc := by rw [htm, List.length_cons] at hle; omega
          have hrow0 := owns_row (htv ▸ hM.timers.1 : wo.ownsRow B 104 2 (.slice (some ⟨b, o, none⟩) mj.timers.length tc) mj.timers.length (mj.timers.flatMap (tmC σ)))
          have hrow := hrow0.cut 1 tc 2 (by intro e; rw [tmC_len, htm, List.length_cons]; omega)
          rw [htm, show (1 * 2) = 1 * 2 from rfl, tmC_drop] at hrow
          simp only [List.drop_succ_cons, List.drop_zero] at hrow
          have hput : Hid (∀ W2 a2 c2, Below wo.heap.size wo W2 → W2.ownsRow wo.heap.size 104 2 (.slice a2 nr c2) nr (r.flatMap (tmC σ)) → Res B P σ ow1 { mj with timers := r } wo (W2.setCell ⟨mb, 7, none⟩ (.slice a2 nr c2))) := fun W2 a2 c2 hb ho => by
            have := hI.timersPut hM (w2 := W2) (l' := r) (q' := .slice a2 nr c2) (.of_below hb) (by rw [hnr]; exact owns_mono ho hI.size) (fun b hb2 => .inr (ho.lt b hb2).1)
            rw [HMB.out] at this
            exact this
          have hsend : Hid (∀ W3, Res B P σ ow1 { mj with timers := r } wo W3 → Calls Tryz.prog 46 #[.pointer (some ⟨mb, 0, none⟩), .pointer (some ⟨σ.cA t2, 0, none⟩), .iface 67 (.int .i64 t1)] W3 fun e w' => e = .returned (.int .i64 (({ mj with timers := r } : MachD).send t2 (.num t1)).2) ∧ Res B P σ ow1 (({ mj with timers := r } : MachD).send t2 (.num t1)).1 wo w') := fun W3 hr => by
            obtain ⟨ow3, h3, k3, o3⟩ := hr
            have := send_any h3 ok3 fit3 hcd3 hx3
            rw [HMB.out] at this
            refine this.mono ?_
            rintro e w' ⟨he, hr⟩
            exact ⟨he, Res.trans k3 o3 hr⟩
          have HROW := hidP hrow
          have HC := hidP hcell
          have HY := hidP (⟨hI, hK, hM1, hej, hfj, hS, htm, fit3, hle2⟩ : _ ∧ _ ∧ _ ∧ _ ∧ _ ∧ _ ∧ _ ∧ _ ∧ _)
          have HTO := hidP (tmLen_eq hI)
          have HNR := hidP hnr
          obtain ⟨cb, hcb⟩ : ∃ cb, σ.cA t2 = cb := ⟨_, rfl⟩
          rw [hcb] at x1 hsend
          clear hI okj fitj hej hfj hK hM1 hM hcell htv hle htm df hle2 hnr hcd ok3 fit3 hcd3 hx3 hS hrow0 hrow hc2 ht10 ht11 hcb
          go_wp2_with fail
          go_quiet (fail)
          go_upto_region 3 with fail
          refine wp_undrewN (w := wo) ?_
          intro W0 hh0 hk0
          have d7 := cell_heap hh0 d7
          have x0 := cell_heap hh0 x0
          have x1 := cell_heap hh0 x1
          have hsz0 : W0.heap.size = wo.heap.size := by rw [hh0]
          have HK0 := hidP hk0
          have HSZ := hidP hsz0
          obtain ⟨xb, hxe⟩ : ∃ xb, W0.heap.size = xb := ⟨_, rfl⟩
          clear hh0 hk0 d6 hd hsz0
          go_upto_region 4 with fail
          have hbo : Below wo.heap.size wo (W0.alloc (.cells #[.int .i64 t1, .pointer (some ⟨cb, 0, none⟩)] 104)) := bnew (HK0.out.toBelow (fun _ e => e.elim) (Nat.le_refl _)) _
          have hxb := heap_alloc_new W0 (.cells #[.int .i64 t1, .pointer (some ⟨cb, 0, none⟩)] 104)
          have e7 := ((bnew (brefl W0) (.cells #[.int .i64 t1, .pointer (some ⟨cb, 0, none⟩)] 104)).cell (p := ⟨mb, 7, none⟩) (World.block_lt_of_cell? W0 _ d7)).trans d7
          rw [hxe] at hxb
          try rw [hxe]
          generalize W0.alloc (.cells #[.int .i64 t1, .pointer (some ⟨cb, 0, none⟩)] 104) = W1 at *
          clear d7 x0 x1
          have hmx : mb ≠ xb := by
            intro e
            have := World.block_lt_of_cell? wo ⟨mb, 7, none⟩ (cell_of_row wo mb 7 _ _ (0, 0) HC.out)
            rw [e, ← hxe, HSZ.out] at this
            exact Nat.lt_irrefl _ this
          have hcl := hidP (cloneT_any (cutA (some ⟨b, o, none⟩) 1 tc 2) nr (tc - 1) (r.flatMap (tmC σ)) W1 (HROW.out.below hbo) (by rw [tmC_len, HNR.out]) (tmC_one σ r) hnr6)
          have hcm := (hbo.block mb (blk_lt HC.out)).trans HC.out
          have HCM := hidP hcm
          have HBO := hidP hbo
          have HXB := hidP hxb
          have hle1 : 1 ≤ tc := by omega
          have hcapI : (nr : Int) + 1 ≤ (tc : Int) := by omega
          clear hxb hbo hcm
          go_upto_region 5 with (go_at_call 45; with_reducible refine hcl.out.mono ?_; rintro e w2 hret; unfold RetRow at hret; obtain ⟨a2, c2, rfl, ho2, hb2⟩ := hret; have hcm2 := (hb2.block mb (blk_lt HCM.out)).trans HCM.out; have g7 := cell_of_row w2 mb 7 _ _ (0, 0) hcm2; simp at g7; have z7 := frozen_of_row w2 mb 7 _ _ hcm2; have HO2 := hidP ho2; have HB2 := hidP hb2; clear ho2 hb2 hcm2)
          have hxb2 := (HB2.out.block xb (blk_lt HXB.out)).trans HXB.out
          have k0 := cell_of_row w2 xb 0 _ _ (0, 0) hxb2
          have k1 := cell_of_row w2 xb 1 _ _ (0, 0) hxb2
          simp at k0 k1
          have k0' : (w2.setCell ⟨mb, 7, none⟩ (.slice a2 nr c2)).cell? ⟨xb, 0, none⟩ = some (.int .i64 t1) := ((Keep.refl (fun b => b = mb) w2).setCell (p := ⟨mb, 7, none⟩) rfl _).cell (p := ⟨xb, 0, none⟩) (fun e => hmx e.symm) k0
          have k1' : (w2.setCell ⟨mb, 7, none⟩ (.slice a2 nr c2)).cell? ⟨xb, 1, none⟩ = some (.pointer (some ⟨cb, 0, none⟩)) := ((Keep.refl (fun b => b = mb) w2).setCell (p := ⟨mb, 7, none⟩) rfl _).cell (p := ⟨xb, 1, none⟩) (fun e => hmx e.symm) k1
          have hsd := hidP (hsend.out _ (hput.out w2 a2 c2 (bstep HBO.out HB2.out) (owns_mono HO2.out HBO.out.size)))
          clear g7 z7 k0 k1 e7 hmx hxb2
          generalize w2.setCell ⟨mb, 7, none⟩ (.slice a2 nr c2) = W3 at *
          go_wp2_with (go_at_call 46; with_reducible refine hsd.out.mono ?_; rintro e w4 ⟨rfl, hr4⟩)
          obtain ⟨hI, hK, hM1, hej, hfj, hS, htm, fit3, hle2⟩ := HY.out
          go_roundw
          case measure =>
            obtain ⟨ow4, h4, _⟩ := hr4
            have e1 := tmLen_eq h4
            rw [HMB.out, hS.2.timers] at e1
            have e2 := HTO.out
            rw [HMB.out, htm, List.length_cons] at e2
            rw [e1, e2]
            show r.length < r.length + 1
            omega
          case rel =>
            refine ⟨_, k, ⟨Res.trans hK hM1 hr4, hS.1, hS.2.fit fit3, ?_, ?_⟩⟩
            · rw [hej]
              show (match mj.timers with | [] => mj | t :: r => if t.1 ≤ mj.now then MachD.tickF k (({ mj with timers := r } : MachD).send t.2 (.num t.1)).1 else mj) = _
              rw [htm]
              exact if_pos hle2
            · rw [hS.2.timers]
              rw [htm, List.length_cons] at hfj
              show r.length ≤ k
              omega
        · have hd : decide (t1 ≤ mj.now) = false := by simpa using hle2
          have hfin : MachD.tickF k mj = mj := by
            cases k with
            | zero => rfl
            | succ k =>
              unfold MachD.tickF
              rw [htm]
              exact if_neg hle2
          have HY := hidP (⟨hI.res_below (brefl _), hK, hM1, hej.trans hfin⟩ : _ ∧ _ ∧ _ ∧ _)
          clear hI okj fitj hej hfj hK hM1 hM hcell htv hle htm hfin df hle2 hnr
          go_wp2_with fail
          go_quiet (fail)
          go_wp2
          first | go_end0 | ((try simp only [Exit.inBlock, Exit.then]); refine bodyPost_ret (results_none rfl _ _ _) rfl ?_)
          obtain ⟨hI, hK, hM1, hej⟩ := HY.out
          refine ⟨rfl, ?_⟩
          rw [HS.out, hej]
          exact Res.trans hK hM1 (hI.below (bdrewN' (brefl _) _))
end Go.Proofs.YtklfboidjnchoaaGreatDoor
namespace Go.Proofs.YtklfboidjnchoaaGreatDoor
set_option linter.unusedVariables false
set_option linter.unusedSimpArgs false
structure Grow (m m' : MachD) : Prop where
  gors : m'.gors.length ≤ m.gors.length + 1
  chans : m'.chans.length ≤ m.chans.length + 1
  boxes : m'.boxes.length ≤ m.boxes.length + 1
  ws : m'.ws.length ≤ m.ws.length + 3
  events : m'.events.length ≤ m.events.length + 2
  steps : m'.steps.length ≤ m.steps.length
  now : m'.now = m.now
section
variable {m m' : MachD}
theorem Like.grow (h : Like m m') : Grow m m' := ⟨by rw [h.gors]; omega, by rw [h.chans]; omega, by rw [h.boxes]; omega, by rw [h.ws]; omega, by rw [h.events]; omega, by rw [h.steps]; omega, h.now⟩
theorem Grow.fin (h : Like m m') (o i : Int) : Grow m (m'.fin o i) := by
  refine ⟨?_, ?_, ?_, ?_, ?_, ?_, h.now⟩
  · show m'.gors.length ≤ _; rw [h.gors]; omega
  · show m'.chans.length ≤ _; rw [h.chans]; omega
  · show m'.boxes.length ≤ _; rw [h.boxes]; omega
  · show m'.ws.length ≤ _; rw [h.ws]; omega
  · show (m'.events ++ [_]).length ≤ _; rw [h.events, List.length_append, List.length_singleton]; omega
  · show m'.steps.length ≤ _; rw [h.steps]; exact Nat.le_refl _
theorem gor_of (h : Like m m') {g : Nat} {gd : GorD} (hg : m.gors[g]? = some gd) : ∃ gd', m'.gors[g]? = some gd' := some_lt (by rw [h.gors]; exact lt_of_some hg)
theorem settle_ok (ok : Ok m) {g : Nat} {gd : GorD} (hg : m.gors[g]? = some gd) {c : CaseD} (hc : OkCase c) (o : Int) : Ok (m.settle g c o) := by
  unfold MachD.settle
  split
  · exact ok.setPc hg hc.dest.1 hc.dest.2
  · exact ok.fin o g
theorem settle_grow (h : Like m m') (g : Nat) (c : CaseD) (o : Int) : Grow m (m'.settle g c o) := by
  unfold MachD.settle
  split
  · exact (h.trans (like_setPc _ _)).grow
  · exact .fin h _ _
theorem try_ok (g : Nat) (real : List CaseD) (hr : ∀ c ∈ real, OkCase c) (h0 : 0 < real.length) : ∀ (k : Nat) (m : MachD) (i : Nat), Ok m → g < m.gors.length →
    Ok (MachD.tryF k m g real i).1 ∧ ((MachD.tryF k m g real i).2 = true → Grow m (MachD.tryF k m g real i).1) ∧ ((MachD.tryF k m g real i).2 = false → (MachD.tryF k m g real i).1 = m) := by
  intro k
  induction k with
  | zero => intro m i ok hg; exact ⟨ok, fun e => (by cases e), fun _ => rfl⟩
  | succ k ih =>
    intro m i ok hg
    obtain ⟨c, hc⟩ := some_lt (l := real) (i := i % real.length) (Nat.mod_lt _ h0)
    have hok := hr c (List.mem_of_getElem? hc)
    obtain ⟨gd, hgd⟩ := some_lt hg
    obtain ⟨o1, l1⟩ := done_ok ok hgd hok
    have e : MachD.tryF (k + 1) m g real i = if (m.doneC g c).2 ≠ 0 then ((m.doneC g c).1.settle g c (m.doneC g c).2, true) else MachD.tryF k (m.doneC g c).1 g real (i + 1) := by
      show (if (m.doneC g (real.getD (i % real.length) caseZ)).2 ≠ 0 then _ else _) = _
      rw [getD_some hc]
    rw [e]
    by_cases h : (m.doneC g c).2 ≠ 0
    · rw [if_pos h]
      obtain ⟨g2, hg2⟩ := gor_of l1 hgd
      exact ⟨settle_ok o1 hg2 hok _, fun _ => settle_grow l1 g c _, fun e => (by cases e)⟩
    · rw [if_neg h]
      have h0 : (m.doneC g c).2 = 0 := by simpa using h
      rw [done_wait h0]
      exact ih m (i + 1) ok hg
theorem waits_ok {g : Nat} (l : List CaseD) (hl : ∀ c ∈ l, OkCase c) : ∀ m : MachD, Ok (m.leave g) → g < m.gors.length → Ok ((waitsN m g l).leave g) := by
  induction l with
  | nil => intro m ok _; exact ok
  | cons c l ih =>
    intro m ok hg
    exact ih (fun c hc => hl c (List.mem_cons_of_mem _ hc)) (m.wait1 g c) (wait1_ok ok hg (hl c (List.mem_cons_self ..))) (by rw [(wait1_like m g c).gors]; exact hg)
theorem choose_ok (ok : Ok m) {g : Nat} {gd : GorD} (hg : m.gors[g]? = some gd) (l : List CaseD) (hl : ∀ c ∈ l, OkCase c) (hf : l.length ≤ 3) (draw : Int) : Ok (m.choose g l draw) ∧ Grow m (m.choose g l draw) := by
  have hreal : ∀ c ∈ realC l, OkCase c := fun c hc => hl c (List.mem_filter.1 hc).1
  have hother : ∀ c ∈ otherC l, OkCase c := fun c hc => hl c (List.mem_filter.1 hc).1
  have hlen := realC_le l
  obtain ⟨T, hT⟩ : ∃ T, MachD.tryF (realC l).length m g (realC l) ((max draw 0).toNat % (realC l).length) = T := ⟨_, rfl⟩
  have e : m.choose g l draw = if T.2 then T.1 else match otherC l with | o :: _ => T.1.setPc g o.dest | [] => T.1.waitAll g (realC l) := by
    rw [← hT]; rfl
  have hTT : Ok T.1 ∧ (T.2 = true → Grow m T.1) ∧ (T.2 = false → T.1 = m) := by
    rw [← hT]
    by_cases h0 : 0 < (realC l).length
    · exact try_ok g _ hreal h0 _ m _ ok (lt_of_some hg)
    · rw [show (realC l).length = 0 by omega]
      exact ⟨ok, fun e => (by cases e), fun _ => rfl⟩
  rw [e]
  obtain ⟨h1, h2, h3⟩ := hTT
  cases hT2 : T.2 with
  | true => exact ⟨h1, h2 hT2⟩
  | false =>
    rw [h3 hT2]
    simp only [Bool.false_eq_true, if_false]
    split
    · rename_i o r ho
      have := hother o (by rw [ho]; exact List.mem_cons_self ..)
      exact ⟨ok.setPc hg this.dest.1 this.dest.2, (like_setPc _ _).grow⟩
    · have := waits_ok (realC l) hreal m (ok.leave g) (lt_of_some hg)
      refine ⟨this, ?_⟩
      have lk := waitsN_like g (realC l) m
      refine ⟨?_, ?_, ?_, ?_, ?_, ?_, lk.now⟩
      · show (waitsN m g (realC l)).gors.length ≤ _; rw [lk.gors]; omega
      · show (waitsN m g (realC l)).chans.length ≤ _; rw [lk.chans]; omega
      · show (waitsN m g (realC l)).boxes.length ≤ _; rw [lk.boxes]; omega
      · show (waitsN m g (realC l)).ws.length ≤ _; have := lk.few; omega
      · show (waitsN m g (realC l)).events.length ≤ _; rw [lk.events]; omega
      · show (waitsN m g (realC l)).steps.length ≤ _; rw [lk.steps]; exact Nat.le_refl _
theorem incPc_ok (ok : Ok m) {g : Nat} {gd : GorD} (hg : m.gors[g]? = some gd) (hpc : gd.pc ≤ 9999) : Ok (m.incPc g) := by
  unfold MachD.incPc
  rw [gorAt_some hg]
  have := (ok.gor g gd hg).pc
  exact ok.setPc hg (by omega) (by omega)
theorem like_incPc (g : Nat) : Like m (m.incPc g) := like_setPc _ _
theorem wake_other {k : Nat} {wd : WaitD} {gd2 : GorD} (hw : Waits m k wd gd2) (x : PV) {g : Nat} {gd : GorD} (hg : m.gors[g]? = some gd) (h0 : gd.waits = []) : (m.wake k x).gors[g]? = some gd := by
  have hne : g ≠ wd.g := fun e => by
    subst e
    have h2 := hw.2.1
    rw [hg] at h2
    obtain rfl := Option.some.inj h2
    have h3 := hw.2.2
    rw [h0] at h3
    cases h3
  rw [wake_eq hw]
  show ((m.unlink gd2.waits).gors.set wd.g _)[g]? = some gd
  rw [set_ne hne, (unlink_same gd2.waits m).1]
  exact hg
theorem shutF_ok {g c : Nat} {gd : GorD} (h0 : gd.waits = []) : ∀ (k : Nat) (m : MachD), Ok m → m.gors[g]? = some gd → c < m.chans.length → Ok (MachD.shutF k m c) ∧ Like m (MachD.shutF k m c) ∧ (MachD.shutF k m c).gors[g]? = some gd := by
  intro k
  induction k with
  | zero => intro m ok hg _; exact ⟨ok, .refl m, hg⟩
  | succ k ih =>
    intro m ok hg hc
    obtain ⟨cd, hcd⟩ := some_lt hc
    have e : MachD.shutF (k + 1) m c = match cd.takes with | [] => m | w :: _ => MachD.shutF k (m.wake w (.num 0)) c := by
      show (match (m.chanAt c).takes with | [] => m | w :: _ => MachD.shutF k (m.wake w (.num 0)) c) = _
      rw [chanAt_some hcd]
    rw [e]
    split
    · exact ⟨ok, .refl m, hg⟩
    · rename_i y r hy
      obtain ⟨wd, gd2, hw, _⟩ := takes_waits ok hcd (k := y) (by rw [hy]; exact List.mem_cons_self ..)
      obtain ⟨a, b, d⟩ := ih (m.wake y (.num 0)) (ok.wake hw ok_num0) (wake_other hw _ hg h0) (by rw [(like_wake y (.num 0)).chans]; exact hc)
      exact ⟨a, (like_wake y (.num 0)).trans b, d⟩
theorem shut_ok (ok : Ok m) {g : Nat} {gd : GorD} (hg : m.gors[g]? = some gd) (h0 : gd.waits = []) (hpc : gd.pc ≤ 9999) {a : Int} (ha0 : 0 ≤ a) (ha6 : a < 6) : Ok (m.shut g a) ∧ Grow m (m.shut g a) := by
  obtain ⟨_, r2⟩ := ok.reg hg ha0 ha6
  unfold MachD.shut
  cases hv : m.reg g a with
  | num n => dsimp only; split <;> exact ⟨ok.fin _ _, .fin (.refl m) _ _⟩
  | bx n => exact ⟨ok.fin _ _, .fin (.refl m) _ _⟩
  | ch c =>
    rw [hv] at r2
    obtain ⟨cd, hcd⟩ := some_lt (l := m.chans) (i := c) r2
    dsimp only
    rw [chanAt_some hcd]
    split
    · exact ⟨ok.fin _ _, .fin (.refl m) _ _⟩
    · split
      · exact ⟨ok.fin _ _, .fin (.refl m) _ _⟩
      · have ok1 : Ok (m.setChan c { cd with closed := true }) := ok.setChan hcd (fun y hy => (ok.chan c cd hcd).held y hy) rfl rfl (ok.chan c cd hcd).cap
        obtain ⟨a1, a2, a3⟩ := shutF_ok h0 cd.takes.length _ ok1 (show (m.setChan c { cd with closed := true }).gors[g]? = some gd from hg) (c := c) (by rw [(like_setChan c _).chans]; exact r2)
        exact ⟨incPc_ok a1 a3 hpc, (((like_setChan c _).trans a2).trans (like_incPc g)).grow⟩
theorem regInc_ok (ok : Ok m) {g : Nat} {gd : GorD} (hg : m.gors[g]? = some gd) (hpc : gd.pc ≤ 9999) (r : Int) {y : PV} (hy : okV m y) : Ok ((m.setReg g r y).incPc g) ∧ Like m ((m.setReg g r y).incPc g) :=
  ⟨incPc_ok (ok.setReg hg r hy) (setReg_gor hg r y) hpc, (like_setReg _ _ _).trans (like_incPc g)⟩
theorem size_ok (ok : Ok m) {g : Nat} {gd : GorD} (hg : m.gors[g]? = some gd) (hpc : gd.pc ≤ 9999) {a : Int} (ha0 : 0 ≤ a) (ha6 : a < 6) (b : Int) (of : ChanD → Int) (hof : ∀ i c, OkC m i c → 0 ≤ of c ∧ of c ≤ 10000) : Ok (m.size g a b of) ∧ Grow m (m.size g a b of) := by
  obtain ⟨_, r2⟩ := ok.reg hg ha0 ha6
  unfold MachD.size
  cases hv : m.reg g a with
  | num n =>
    dsimp only
    split
    · have := regInc_ok ok hg hpc b ok_num0; exact ⟨this.1, this.2.grow⟩
    · exact ⟨ok.fin _ _, .fin (.refl m) _ _⟩
  | bx n => exact ⟨ok.fin _ _, .fin (.refl m) _ _⟩
  | ch c =>
    rw [hv] at r2
    obtain ⟨cd, hcd⟩ := some_lt (l := m.chans) (i := c) r2
    dsimp only
    rw [chanAt_some hcd]
    have hb := hof c cd (ok.chan c cd hcd)
    have := regInc_ok ok hg hpc b (y := .num (of cd)) ⟨by omega, by omega⟩
    exact ⟨this.1, this.2.grow⟩
theorem add_ok (ok : Ok m) {g : Nat} {gd : GorD} (hg : m.gors[g]? = some gd) (hpc : gd.pc ≤ 9999) (a b : Int) : Ok (m.addR g a b) ∧ Grow m (m.addR g a b) := by
  have hbad : ∀ k, Ok (m.fin k g) ∧ Grow m (m.fin k g) := fun k => ⟨ok.fin _ _, .fin (.refl m) _ _⟩
  unfold MachD.addR
  split
  · split
    · exact hbad 7
    · rename_i x y _ _ h
      have := regInc_ok ok hg hpc a (y := .num (x + y)) ⟨by omega, by omega⟩
      exact ⟨this.1, this.2.grow⟩
  · exact hbad 6
theorem out_ok (ok : Ok m) {g : Nat} {gd : GorD} (hg : m.gors[g]? = some gd) (hpc : gd.pc ≤ 9999) (a : Int) : Ok (m.out g a) ∧ Grow m (m.out g a) := by
  have key : ∀ X : EvP, Ok (({ m with events := m.events ++ [X] } : MachD).incPc g) ∧ Grow m (({ m with events := m.events ++ [X] } : MachD).incPc g) := fun X => by
    have okX : Ok ({ m with events := m.events ++ [X] } : MachD) := ok.other rfl rfl rfl rfl rfl rfl rfl
    have h := like_incPc (m := ({ m with events := m.events ++ [X] } : MachD)) g
    refine ⟨incPc_ok okX hg hpc, by rw [h.gors]; exact Nat.le_add_right _ _, by rw [h.chans]; exact Nat.le_add_right _ _, by rw [h.boxes]; exact Nat.le_add_right _ _, by rw [h.ws]; exact Nat.le_add_right _ _, ?_, by rw [h.steps]; exact Nat.le_refl _, h.now⟩
    rw [h.events]
    show (m.events ++ [X]).length ≤ _
    rw [List.length_append, List.length_singleton]
    omega
  exact key _
end
section
variable {m m' : MachD}
theorem Ok.setTimers (ok : Ok m) {r : List (Int × Nat)} (hr : ∀ t ∈ r, t.2 < m.chans.length ∧ 0 ≤ t.1 ∧ t.1 ≤ 1000000000000) (hl : r.length ≤ m.chans.length) : Ok { m with timers := r } := by
  have hm : More m { m with timers := r } := .same rfl rfl rfl rfl
  exact
  { gor := fun j x hj => (ok.gor j x hj).more hm
    wt := fun j x hj => (ok.wt j x hj).more hm
    chan := fun j x hj => (ok.chan j x hj).more hm
    queue := ok.queue
    nodup := ok.nodup
    globals := ok.globals
    globs := fun x hx => okV_more hm.c hm.b (ok.globs x hx)
    boxes := fun x hx => okV_more hm.c hm.b (ok.boxes x hx)
    timers := hr
    fewT := hl }
theorem Grow.like {m1 m2 m3 : MachD} (h : Grow m1 m2) (k : Like m2 m3) : Grow m1 m3 :=
  ⟨by rw [k.gors]; exact h.gors, by rw [k.chans]; exact h.chans, by rw [k.boxes]; exact h.boxes, by rw [k.ws]; exact h.ws, by rw [k.events]; exact h.events, by rw [k.steps]; exact h.steps, k.now.trans h.now⟩
theorem Like.thenGrow {m1 m2 m3 : MachD} (h : Like m1 m2) (k : Grow m2 m3) : Grow m1 m3 :=
  ⟨by rw [← h.gors]; exact k.gors, by rw [← h.chans]; exact k.chans, by rw [← h.boxes]; exact k.boxes, by rw [← h.ws]; exact k.ws, by rw [← h.events]; exact k.events, by rw [← h.steps]; exact k.steps, k.now.trans h.now⟩
theorem after_ok (ok : Ok m) (hnow : 0 ≤ m.now ∧ m.now ≤ 1000000000) {g : Nat} {gd : GorD} (hg : m.gors[g]? = some gd) (hpc : gd.pc ≤ 9999) (a : Int) {n : Int} (hn : 0 ≤ n ∧ n ≤ 10000) : Ok (m.after g a n) ∧ Grow m (m.after g a n) := by
  have o1 : Ok ({ m with chans := m.chans ++ [⟨1, false, [], [], []⟩] } : MachD) := ok.newChan (by omega) (by omega)
  obtain ⟨k, hk⟩ : ∃ k, m.timers.findIdx (fun t => decide (t.1 > m.now + n)) = k := ⟨_, rfl⟩
  obtain ⟨R, hR⟩ : ∃ R, m.timers.take k ++ [(m.now + n, m.chans.length)] ++ m.timers.drop k = R := ⟨_, rfl⟩
  have e : m.after g a n = (({ m with chans := m.chans ++ [⟨1, false, [], [], []⟩], timers := R } : MachD).setReg g a (.ch m.chans.length)).incPc g := by rw [← hR, ← hk]; rfl
  rw [e]
  have o2 : Ok ({ m with chans := m.chans ++ [⟨1, false, [], [], []⟩], timers := R } : MachD) := by
    refine o1.setTimers (r := R) (fun t ht => ?_) ?_
    · show t.2 < (m.chans ++ [_]).length ∧ _
      rw [List.length_append, List.length_singleton]
      rw [← hR] at ht
      rcases List.mem_append.1 ht with h | h
      · rcases List.mem_append.1 h with h | h
        · have := ok.timers t (List.mem_of_mem_take h); exact ⟨by omega, this.2⟩
        · obtain rfl := List.mem_singleton.1 h
          exact ⟨by show m.chans.length < _; omega, by show 0 ≤ m.now + n; omega, by show m.now + n ≤ _; omega⟩
      · have := ok.timers t (List.mem_of_mem_drop h); exact ⟨by omega, this.2⟩
    · show R.length ≤ (m.chans ++ [_]).length
      rw [← hR, List.length_append, List.length_append, List.length_append, List.length_singleton, List.length_singleton, List.length_take, List.length_drop]
      have := ok.fewT
      omega
  have hv : okV ({ m with chans := m.chans ++ [⟨1, false, [], [], []⟩], timers := R } : MachD) (.ch m.chans.length) := by
    show m.chans.length < (m.chans ++ [_]).length
    rw [List.length_append, List.length_singleton]
    omega
  obtain ⟨h1, h2⟩ := regInc_ok o2 (g := g) (gd := gd) hg hpc a hv
  refine ⟨h1, Grow.like ?_ h2⟩
  exact ⟨Nat.le_add_right _ _, by show (m.chans ++ [_]).length ≤ _; rw [List.length_append, List.length_singleton]; exact Nat.le_refl _, Nat.le_add_right _ _, Nat.le_add_right _ _, Nat.le_add_right _ _, Nat.le_refl _, rfl⟩
theorem exit_ok (ok : Ok m) (g : Nat) : Ok (m.exit g) ∧ Grow m (m.exit g) := by
  have o1 : Ok ({ m with events := m.events ++ [⟨2, g, 0, false⟩] } : MachD) := ok.other rfl rfl rfl rfl rfl rfl rfl
  have o2 := o1.leave g
  have g1 : Grow m (({ m with events := m.events ++ [⟨2, g, 0, false⟩] } : MachD).leave g) :=
    ⟨Nat.le_add_right _ _, Nat.le_add_right _ _, Nat.le_add_right _ _, Nat.le_add_right _ _, by show (m.events ++ [_]).length ≤ _; rw [List.length_append, List.length_singleton]; omega, Nat.le_refl _, rfl⟩
  unfold MachD.exit
  dsimp only
  split
  · refine ⟨o2.fin _ _, ⟨Nat.le_add_right _ _, Nat.le_add_right _ _, Nat.le_add_right _ _, Nat.le_add_right _ _, ?_, Nat.le_refl _, rfl⟩⟩
    show ((m.events ++ [_]) ++ [_]).length ≤ _
    rw [List.length_append, List.length_append, List.length_singleton, List.length_singleton]
    omega
  · exact ⟨o2, g1⟩
theorem boxed_ok (ok : Ok m) {g : Nat} {gd : GorD} (hg : m.gors[g]? = some gd) (hpc : gd.pc ≤ 9999) (a : Int) (f : MachD → Nat → MachD) (hf : ∀ b, b < m.boxes.length ∨ True → m.reg g a = .bx b → Ok (f m b) ∧ Grow m (f m b) ∧ ∃ g2, (f m b).gors[g]? = some g2 ∧ g2.pc = gd.pc) :
    Ok (m.boxed g a f) ∧ Grow m (m.boxed g a f) := by
  unfold MachD.boxed
  cases hv : m.reg g a with
  | num n => exact ⟨ok.fin _ _, .fin (.refl m) _ _⟩
  | ch n => exact ⟨ok.fin _ _, .fin (.refl m) _ _⟩
  | bx b =>
    obtain ⟨h1, h2, g2, h3, h4⟩ := hf b (.inr trivial) hv
    exact ⟨incPc_ok h1 h3 (by omega), h2.like (like_incPc g)⟩
theorem getD_ok {P : PV → Prop} {l : List PV} (h : ∀ x ∈ l, P x) (h0 : P (.num 0)) (i : Nat) : P (l.getD i (.num 0)) := by
  rcases Nat.lt_or_ge i l.length with hi | hi
  · obtain ⟨x, hx⟩ := some_lt hi
    rw [getD_some hx]
    exact h x (List.mem_of_getElem? hx)
  · rw [List.getD_eq_getElem?_getD, List.getElem?_eq_none hi]; exact h0
theorem grow_refl (m : MachD) : Grow m m := (Like.refl m).grow
theorem words_ok (ok : Ok m) {g : Nat} {gd : GorD} (hg : m.gors[g]? = some gd) (hpc : gd.pc ≤ 9999) {x : InstrD} (hx : OkI x) : Ok (m.words g x) ∧ Grow m (m.words g x) := by
  have o1 := incPc_ok ok hg hpc
  have l1 : Like m (m.incPc g) := like_incPc g
  have hg1 : (m.incPc g).gors[g]? = some ⟨gd.pc + 1, gd.regs, gd.waits⟩ := by
    unfold MachD.incPc MachD.setPc
    rw [gorAt_some hg]
    exact set_get (lt_of_some hg)
  unfold MachD.words
  dsimp only
  generalize m.incPc g = M at *
  have hs : ∀ {y}, okV M y → ∀ r, Ok (M.setReg g r y) ∧ Grow m (M.setReg g r y) := fun hy r => ⟨o1.setReg hg1 r hy, (l1.trans (like_setReg _ _ _)).grow⟩
  split
  · exact hs (y := .num x.n) ⟨by have := hx.n; omega, by have := hx.n; omega⟩ _
  split
  · exact hs (o1.reg hg1 hx.b.1 hx.b.2).2 _
  split
  · have o2 : Ok ({ M with chans := M.chans ++ [⟨x.n, false, [], [], []⟩] } : MachD) := o1.newChan hx.n.1 hx.n.2
    refine ⟨o2.setReg (g := g) hg1 _ (by show M.chans.length < (M.chans ++ [_]).length; rw [List.length_append, List.length_singleton]; omega), l1.thenGrow (Grow.like ?_ (like_setReg _ _ _))⟩
    exact ⟨Nat.le_add_right _ _, by show (M.chans ++ [_]).length ≤ _; rw [List.length_append, List.length_singleton]; exact Nat.le_refl _, Nat.le_add_right _ _, Nat.le_add_right _ _, Nat.le_add_right _ _, Nat.le_refl _, rfl⟩
  split
  · rw [gorAt_some hg1]
    have og := o1.gor g _ hg1
    refine ⟨o1.add og.regs og.six hx.n.1 hx.n.2, l1.thenGrow ?_⟩
    exact ⟨by show (M.gors ++ [_]).length ≤ _; rw [List.length_append, List.length_singleton]; exact Nat.le_refl _, Nat.le_add_right _ _, Nat.le_add_right _ _, Nat.le_add_right _ _, Nat.le_add_right _ _, Nat.le_refl _, rfl⟩
  split
  · exact ⟨o1.setPc hg1 hx.n.1 hx.n.2, (l1.trans (like_setPc _ _)).grow⟩
  split
  · split
    · exact ⟨o1.setPc hg1 hx.n.1 hx.n.2, (l1.trans (like_setPc _ _)).grow⟩
    · exact ⟨o1, l1.grow⟩
  split
  · have o2 : Ok ({ M with boxes := M.boxes ++ [M.reg g x.b] } : MachD) := o1.newBox (o1.reg hg1 hx.b.1 hx.b.2).2
    refine ⟨o2.setReg (g := g) hg1 _ (by show M.boxes.length < (M.boxes ++ [_]).length; rw [List.length_append, List.length_singleton]; omega), l1.thenGrow (Grow.like ?_ (like_setReg _ _ _))⟩
    exact ⟨Nat.le_add_right _ _, Nat.le_add_right _ _, by show (M.boxes ++ [_]).length ≤ _; rw [List.length_append, List.length_singleton]; exact Nat.le_refl _, Nat.le_add_right _ _, Nat.le_add_right _ _, Nat.le_refl _, rfl⟩
  split
  · refine ⟨o1.setGlob (o1.reg hg1 hx.a.1 hx.a.2).2 _, l1.thenGrow ?_⟩
    exact ⟨Nat.le_add_right _ _, Nat.le_add_right _ _, Nat.le_add_right _ _, Nat.le_add_right _ _, Nat.le_add_right _ _, Nat.le_refl _, rfl⟩
  split
  · exact hs (getD_ok o1.globs ok_num0 _) _
  · exact ⟨o1, l1.grow⟩
theorem doI_ok (ok : Ok m) (hnow : 0 ≤ m.now ∧ m.now ≤ 1000000000) {g : Nat} {gd : GorD} (hg : m.gors[g]? = some gd) (h0 : gd.waits = []) {x : InstrD} (hx : OkI x) (hpc : x.op ≠ 22 → gd.pc ≤ 9999) (draw : Int) : Ok (m.doI g x draw) ∧ Grow m (m.doI g x draw) := by
  have opc := (ok.gor g gd hg).pc
  have one : ∀ k, x.op ≠ 22 → OkCase ⟨k, x.a, x.b, (m.gorAt g).pc + 1⟩ := fun k h => by rw [gorAt_some hg]; exact hx.one opc.1 (hpc h)
  unfold MachD.doI
  by_cases o5 : x.op = 5
  · rw [if_pos o5]
    exact choose_ok ok hg _ (fun c hc => by obtain rfl := List.mem_singleton.1 hc; exact one 1 (by omega)) (by simp) 0
  rw [if_neg o5]
  by_cases o6 : x.op = 6
  · rw [if_pos o6]
    exact choose_ok ok hg _ (fun c hc => by obtain rfl := List.mem_singleton.1 hc; exact one 2 (by omega)) (by simp) 0
  rw [if_neg o6]
  by_cases o21 : x.op = 21
  · rw [if_pos o21]
    exact choose_ok ok hg _ hx.cases hx.few draw
  rw [if_neg o21]
  by_cases o7 : x.op = 7
  · rw [if_pos o7]
    exact shut_ok ok hg h0 (hpc (by omega)) hx.a.1 hx.a.2
  rw [if_neg o7]
  by_cases o8 : x.op = 8
  · rw [if_pos o8]
    exact size_ok ok hg (hpc (by omega)) hx.a.1 hx.a.2 _ (fun c => (c.held.length : Int)) (fun i c hc => by have := hc.cap; show 0 ≤ (c.held.length : Int) ∧ (c.held.length : Int) ≤ 10000; omega)
  rw [if_neg o8]
  by_cases o9 : x.op = 9
  · rw [if_pos o9]
    exact size_ok ok hg (hpc (by omega)) hx.a.1 hx.a.2 _ (fun c => c.cap) (fun i c hc => by have := hc.cap; show 0 ≤ c.cap ∧ c.cap ≤ 10000; omega)
  rw [if_neg o9]
  by_cases o16 : x.op = 16
  · rw [if_pos o16]
    refine boxed_ok ok hg (hpc (by omega)) _ _ (fun b _ hb => ⟨ok.setReg hg _ (getD_ok ok.boxes ok_num0 _), (like_setReg _ _ _).grow, _, setReg_gor hg _ _, rfl⟩)
  rw [if_neg o16]
  by_cases o17 : x.op = 17
  · rw [if_pos o17]
    refine boxed_ok ok hg (hpc (by omega)) _ _ (fun b _ hb => ⟨ok.setBox (ok.reg hg hx.b.1 hx.b.2).2 b, ⟨Nat.le_add_right _ _, Nat.le_add_right _ _, by show (m.boxes.set b _).length ≤ _; rw [List.length_set]; exact Nat.le_add_right _ _, Nat.le_add_right _ _, Nat.le_add_right _ _, Nat.le_refl _, rfl⟩, _, hg, rfl⟩)
  rw [if_neg o17]
  by_cases o20 : x.op = 20
  · rw [if_pos o20]
    exact boxed_ok ok hg (hpc (by omega)) _ _ (fun b _ hb => ⟨ok, grow_refl m, _, hg, rfl⟩)
  rw [if_neg o20]
  by_cases o3 : x.op = 3
  · rw [if_pos o3]
    exact add_ok ok hg (hpc (by omega)) _ _
  rw [if_neg o3]
  by_cases o13 : x.op = 13
  · rw [if_pos o13]
    exact out_ok ok hg (hpc (by omega)) _
  rw [if_neg o13]
  by_cases o14 : x.op = 14
  · rw [if_pos o14]
    exact after_ok ok hnow hg (hpc (by omega)) _ hx.n
  rw [if_neg o14]
  by_cases o22 : x.op = 22
  · rw [if_pos o22]
    exact exit_ok ok g
  rw [if_neg o22]
  exact words_ok ok hg (hpc o22) hx
structure Size (k : Nat) (m : MachD) : Prop where
  gors : m.gors.length ≤ k + 1
  chans : m.chans.length ≤ k + 1
  boxes : m.boxes.length ≤ k + 1
  ws : m.ws.length ≤ 3 * k
  events : m.events.length ≤ 2 * k
  steps : m.steps.length ≤ k
  now : 0 ≤ m.now ∧ m.now ≤ 1000 * k
theorem Size.fit {k : Nat} (h : Size k m) (hk : k ≤ 100000) : Fit m :=
  ⟨by have := h.gors; omega, by have := h.chans; omega, by have := h.boxes; omega, by have := h.ws; omega, by have := h.events; omega, by have := h.steps; omega, by have := h.now; omega⟩
theorem Size.more {k j : Nat} (h : Size k m) (hj : k ≤ j) : Size j m :=
  ⟨by have := h.gors; omega, by have := h.chans; omega, by have := h.boxes; omega, by have := h.ws; omega, by have := h.events; omega, by have := h.steps; omega, by have := h.now; omega⟩
theorem pick_ok (ok : Ok m) {k : Nat} (hs : Size k m) (hk : k ≤ 100000) {l : List InstrD} (hl : ∀ x ∈ l, OkI x) (hll : l.length ≤ 9999) (n draw : Int) : Ok (m.pick l n draw) ∧ Size (k + 1) (m.pick l n draw) := by
  unfold MachD.pick
  split
  · split
    · have := Grow.fin (.refl m) 2 (-1)
      exact ⟨ok.fin _ _, ⟨by have := this.gors; have := hs.gors; show m.gors.length ≤ _; omega, by have := hs.chans; show m.chans.length ≤ _; omega, by have := hs.boxes; show m.boxes.length ≤ _; omega, by have := hs.ws; show m.ws.length ≤ _; omega, by have := hs.events; show (m.events ++ [_]).length ≤ _; rw [List.length_append, List.length_singleton]; omega, by have := hs.steps; show m.steps.length ≤ _; omega, by have := hs.now; show 0 ≤ m.now ∧ m.now ≤ _; omega⟩⟩
    · exact ⟨ok, hs.more (by omega)⟩
  · rename_i hq
    dsimp only
    obtain ⟨g, hg⟩ := some_lt (l := m.queue) (i := (max n 0).toNat % m.queue.length) (Nat.mod_lt _ (by omega))
    rw [getD_some hg]
    obtain ⟨gd, hgd, hw⟩ := ok.queue g (List.mem_of_getElem? hg)
    have o1 : Ok ({ m with steps := m.steps ++ [(g : Int)] } : MachD) := ok.other rfl rfl rfl rfl rfl rfl rfl
    have opc := (ok.gor g gd hgd).pc
    have hgrow : ∀ {m' : MachD}, Ok m' ∧ Grow ({ m with steps := m.steps ++ [(g : Int)] } : MachD) m' → Ok m' ∧ Size (k + 1) m' := fun {m'} h => by
      obtain ⟨h1, h2⟩ := h
      have a1 := h2.gors; have a2 := h2.chans; have a3 := h2.boxes; have a4 := h2.ws; have a5 := h2.events; have a6 := h2.steps; have a7 := h2.now
      dsimp only at a1 a2 a3 a4 a5 a6 a7
      rw [List.length_append, List.length_singleton] at a6
      have b1 := hs.gors; have b2 := hs.chans; have b3 := hs.boxes; have b4 := hs.ws; have b5 := hs.events; have b6 := hs.steps; have b7 := hs.now
      exact ⟨h1, by omega, by omega, by omega, by omega, by omega, by omega, by rw [a7]; omega⟩
    have hnow : 0 ≤ m.now ∧ m.now ≤ 1000000000 := by have := hs.now; omega
    rw [gorAt_some hgd]
    split
    · rename_i hp
      obtain ⟨x, hx⟩ := some_lt (l := l) (i := gd.pc.toNat) (by omega)
      rw [getD_some hx]
      exact hgrow (doI_ok o1 hnow (g := g) hgd hw (hl x (List.mem_of_getElem? hx)) (fun _ => by omega) draw)
    · exact hgrow (doI_ok o1 hnow (g := g) hgd hw okI_exit (fun e => absurd rfl e) draw)
theorem tickF_ok : ∀ (k : Nat) (m : MachD), Ok m → Ok (MachD.tickF k m) ∧ (MachD.tickF k m).gors.length = m.gors.length ∧ (MachD.tickF k m).chans.length = m.chans.length ∧ (MachD.tickF k m).boxes = m.boxes ∧ (MachD.tickF k m).ws = m.ws ∧ (MachD.tickF k m).events = m.events ∧ (MachD.tickF k m).steps = m.steps ∧ (MachD.tickF k m).now = m.now := by
  intro k
  induction k with
  | zero => intro m ok; exact ⟨ok, rfl, rfl, rfl, rfl, rfl, rfl, rfl⟩
  | succ k ih =>
    intro m ok
    unfold MachD.tickF
    split
    · exact ⟨ok, rfl, rfl, rfl, rfl, rfl, rfl, rfl⟩
    · rename_i t r ht
      split
      · have ot := ok.timers t (by rw [ht]; exact List.mem_cons_self ..)
        obtain ⟨cd, hcd⟩ := some_lt ot.1
        have o3 : Ok ({ m with timers := r } : MachD) := ok.lessTimers (fun u hu => by rw [ht]; exact List.mem_cons_of_mem _ hu) (by rw [ht, List.length_cons]; omega)
        obtain ⟨h1, h2⟩ := o3.send (c := t.2) (cd := cd) hcd (x := .num t.1) ⟨by omega, by omega⟩
        obtain ⟨i0, i1, i2, i3, i4, i5, i6, i7⟩ := ih _ h1
        exact ⟨i0, i1.trans h2.gors, i2.trans h2.chans, i3.trans h2.boxes, i4.trans h2.ws, i5.trans h2.events, i6.trans h2.steps, i7.trans h2.now⟩
      · exact ⟨ok, rfl, rfl, rfl, rfl, rfl, rfl, rfl⟩
theorem tick_ok (ok : Ok m) {k : Nat} (hs : Size k m) (n : Int) : Ok (m.tick n) ∧ Size (k + 1) (m.tick n) := by
  unfold MachD.tick
  split
  · exact ⟨ok, hs.more (by omega)⟩
  · rename_i h
    have o1 : Ok ({ m with now := m.now + n } : MachD) := ok.other rfl rfl rfl rfl rfl rfl rfl
    obtain ⟨i0, i1, i2, i3, i4, i5, i6, i7⟩ := tickF_ok m.timers.length _ o1
    have b1 := hs.gors; have b2 := hs.chans; have b3 := hs.boxes; have b4 := hs.ws; have b5 := hs.events; have b6 := hs.steps; have b7 := hs.now
    refine ⟨i0, by rw [i1]; show m.gors.length ≤ _; omega, by rw [i2]; show m.chans.length ≤ _; omega, by rw [i3]; show m.boxes.length ≤ _; omega, by rw [i4]; show m.ws.length ≤ _; omega, by rw [i5]; show m.events.length ≤ _; omega, by rw [i6]; show m.steps.length ≤ _; omega, ?_⟩
    rw [i7]
    show 0 ≤ m.now + n ∧ m.now + n ≤ _
    push_cast
    omega
theorem entry_ok (ok : Ok m) {k : Nat} (hs : Size k m) (hk : k ≤ 100000) {l : List InstrD} (hl : ∀ x ∈ l, OkI x) (hll : l.length ≤ 9999) (e : EntD) : Ok (m.entry l e) ∧ Size (k + 1) (m.entry l e) := by
  unfold MachD.entry
  split
  · exact ⟨ok, hs.more (by omega)⟩
  split
  · exact pick_ok ok hs hk hl hll _ _
  split
  · exact tick_ok ok hs _
  · exact ⟨ok, hs.more (by omega)⟩
end
theorem ok_mach0 : Ok mach0 := by
  have hrep : ∀ n x, x ∈ List.replicate n (PV.num 0) → okV mach0 x := fun n x hx => by rw [(List.mem_replicate.1 hx).2]; exact ok_num0
  exact
  { gor := fun i g hi => by
      match i with
      | 0 =>
        obtain rfl : (⟨0, List.replicate 6 (.num 0), []⟩ : GorD) = g := by simpa [mach0] using hi
        exact ⟨hrep 6, rfl, ⟨by decide, by decide⟩, fun k hk => (by cases hk), Nat.zero_le _⟩
      | i + 1 => simp [mach0] at hi
    wt := fun i x hi => by simp [mach0] at hi
    chan := fun i x hi => by simp [mach0] at hi
    queue := fun g hg => by
      obtain rfl : g = 0 := by simpa [mach0] using hg
      exact ⟨_, rfl, rfl⟩
    nodup := by simp [mach0]
    globals := rfl
    globs := hrep 4
    boxes := fun x hx => by simp [mach0] at hx
    timers := fun x hx => by simp [mach0] at hx
    fewT := Nat.le_refl _ }
theorem size_mach0 : Size 0 mach0 := ⟨by decide, by decide, by decide, by decide, by decide, by decide, by decide, by decide⟩
theorem fold_ok {l : List InstrD} (hl : ∀ x ∈ l, OkI x) (hll : l.length ≤ 9999) : ∀ (s : List EntD) (m : MachD) (k : Nat), Ok m → Size k m → k + s.length ≤ 100000 → Ok (s.foldl (MachD.entry l) m) ∧ Size (k + s.length) (s.foldl (MachD.entry l) m) := by
  intro s
  induction s with
  | nil => intro m k ok hs _; exact ⟨ok, hs⟩
  | cons e s ih =>
    intro m k ok hs h
    rw [List.length_cons] at h ⊢
    obtain ⟨h1, h2⟩ := entry_ok ok hs (by omega) hl hll e
    have := ih _ (k + 1) h1 h2 (by omega)
    rw [show k + (s.length + 1) = k + 1 + s.length by omega]
    exact this
theorem run_ok {l : List InstrD} (hl : ∀ x ∈ l, OkI x) (hll : l.length ≤ 9999) (s : List EntD) (h : s.length ≤ 100000) : Ok (runR l s) ∧ Size s.length (runR l s) := by
  have := fold_ok hl hll s mach0 0 ok_mach0 size_mach0 (by omega)
  rw [Nat.zero_add] at this
  exact this
end Go.Proofs.YtklfboidjnchoaaGreatDoor
