/-
  Parts of the proof: Queue, Clock, Clock2, PTake, PTurn, PTurn2, PFrom, TTab, TEv, PSmall.
-/
import Derived.Test.YtklfboidjnchoaaGreatDoorRows
import Derived.Lib.Overlaps
import Derived.Lib.JoinLaws
import Derived.Lib.AppendZeros
import Derived.Lib.SliceRun
import Derived.Laws.Externs
import Derived.Laws.IdiomCopy
import Derived.Lib.LaidTab
import Derived.Test.YtklfboidjnchoaaGreatDoorZ0
import Derived.Test.YtklfboidjnchoaaGreatDoorZ1
import Derived.Test.YtklfboidjnchoaaGreatDoorZ11
namespace Go.Proofs.YtklfboidjnchoaaGreatDoor
open Go.RowKit
set_option linter.unusedVariables false
set_option linter.unusedSimpArgs false
theorem Tryz.slInt : SlT Tryz.prog 29 3 (.int .i64 0) 1 8 := ⟨Tryz.underlying29, by kernel_rfl, rfl, by decide⟩
theorem row_new (w : World) (cs : List Value) (t : TypeId) (B : Nat) (hB : w.heap.size = B) : RowAt (w.alloc (.cells cs.toArray t)) (some ⟨B, 0, none⟩) cs := hB ▸ RowAt.new w cs t
theorem Tryz.slAny : SlT Tryz.prog 122 20 .nilIface 1 16 := ⟨Tryz.underlying122, by kernel_rfl, rfl, by decide⟩
theorem owns_made0 (w : World) : (w.alloc (.cells #[] 20)).ownsRow w.heap.size 20 1 (.slice (some ⟨w.heap.size, 0, none⟩) 0 0) 0 [] :=
  ⟨rfl, .inr ⟨w.heap.size, 0, #[], rfl, Nat.le_refl _, heap_alloc_new w _, Nat.le_refl _, Nat.zero_le _, rfl, rfl⟩⟩
set_option maxRecDepth 100000 in
set_option maxHeartbeats 400000 in
theorem cloneAny_any (ao : Option Addr) (n c : Nat) (cs : List Value) (w : World) (hr : RowAt w ao cs) (hn : cs.length = n) (h1 : ∀ u ∈ cs, u.oneCell' = true) (hmax : n ≤ 1000000) :
    Calls Tryz.prog 139 #[.slice ao n c] w (RetRow w 20 1 n cs) := by
  have Hn := hidP hn
  clear hn
  cases ao with
  | none =>
    have hcs : cs = [] := by
      rcases hr with h | ⟨b, o, h, _⟩
      · exact h
      · cases h
    subst hcs
    have hn0 : n = 0 := by have := Hn.out; simpa using this.symm
    subst hn0
    have heq := fun w => Lib.run_eql_slice_nil (P := Tryz.prog) w _ _ none 0 c 0 0 Tryz.underlying122
    go_enter Tryz.func139, Tryz.ntmps139
    go_wp2
    go_ret
    exact retRow_mk (World.ownsRow_nil _ _ _ _) (brefl _)
  | some a =>
    have heq := fun w => Lib.run_eql_slice_nil (P := Tryz.prog) w _ _ (some a) n c 0 0 Tryz.underlying122
    go_enter Tryz.func139, Tryz.ntmps139
    go_wp2_with (at_builtin; go_loud (refine (wpList_app _ rfl (.tmp 5) (.tmp 6) rfl Tryz.slAny w.heap.size (.slice (some ⟨w.heap.size, 0, none⟩) 0 0) 0 [] rfl (owns_made0 w) (some a) n c cs rfl n (by omega) (hr.alloc _) (by rw [Hn.out]; omega) h1 (by omega) (by unfold maxLen; omega) (by simp) ?_)); intro a2 c2 w2 ho2 hg2 _)
    go_ret
    exact ⟨a2, c2, rfl, ho2, (bnew (brefl w) _).grown hg2 (by simp) (fun j hj => by simp [Value.ownBlock] at hj; omega)⟩
end Go.Proofs.YtklfboidjnchoaaGreatDoor
namespace Go.Proofs.YtklfboidjnchoaaGreatDoor
open Go.RowKit Go.Proofs.YtklfboidjnchoaaGreatDoorW.PrintWords
set_option linter.unusedVariables false
set_option linter.unusedSimpArgs false
set_option maxRecDepth 100000 in
set_option maxHeartbeats 1600000 in
theorem sender_any {B : Nat} {P : Value} {σ : Lay} {ow : Owns} {m : MachD} {w : World} (h : Inv B P σ ow m w) (ok : Ok m) (fit : Fit m) {c : Nat} {cd : ChanD} (hc : m.chans[c]? = some cd) {k : Nat} {r : List Nat} (hk : cd.sends = k :: r) :
    Calls Tryz.prog 140 #[.pointer (some ⟨σ.mb, 0, none⟩), .pointer (some ⟨σ.cA c, 0, none⟩)] w fun e w' => e = .returned (encV σ (m.sender c).2) ∧ Res B P σ ow (m.sender c).1 w w' ∧ HeldAs σ m w w' := by
  obtain ⟨hv, sv, tv, hcell, r1, r2, r3, hne⟩ := h.lenC hc
  obtain ⟨c0, c1, c2, c3, c4, cf⟩ := chan_cells hcell.1
  obtain ⟨wd, gd, y, hw, hy, he, ok2, l2, hy2⟩ := ok.sender hc hk
  rw [he]
  rw [hk] at r2
  obtain ⟨b, off, tc, rfl, ct⟩ := first_cell r2
  have HW := hidP (wake_any h ok fit hw ok_num0)
  have hwk : Hid (∀ w1, Res B P σ ow (m.wake k (.num 0)) w w1 → w1.cell? ⟨σ.wA k, 2, none⟩ = some (encV σ y)) := by
    rintro w1 ⟨ow1, hI, _, _⟩
    have := hI.wt k wd (by rw [(like_wake k (.num 0)).ws]; exact hw.1)
    have h2 := cell_of_row w1 _ 2 _ _ (0, 0) this.1
    simp [waitCells, hy, encO] at h2
    exact h2
  obtain ⟨n, hn⟩ : ∃ n, r.length = n := ⟨_, rfl⟩
  rw [hn] at c3
  have lt1 : (0 : Int) < (n : Int) + 1 := by omega
  obtain ⟨VT, VU, hV⟩ := encV_iface σ y
  rw [hV] at hwk ⊢
  unfold encV at HW
  clear h ok fit hc hcell r1 r2 r3 hne c0 c1 c2 c4 cf hw hn hy he ok2 l2 hy2 hV
  go_enter Tryz.func140, Tryz.ntmps140
  go_wp2_with (go_at_call 70; with_reducible refine HW.out.mono ?_; rintro e w1 ⟨rfl, h1, h2⟩; have x2 := hwk.out w1 h1; have HR := hidP h1; have HH := hidP h2; clear h1 h2)
  go_ret
  exact ⟨rfl, HR.out, HH.out⟩
set_option maxRecDepth 100000 in
set_option maxHeartbeats 3200000 in
theorem take_any {B : Nat} {P : Value} {σ : Lay} {ow : Owns} {m : MachD} {w : World} (h : Inv B P σ ow m w) (ok : Ok m) (fit : Fit m) {c : Nat} {cd : ChanD} (hc : m.chans[c]? = some cd) :
    Calls Tryz.prog 127 #[.pointer (some ⟨σ.mb, 0, none⟩), .pointer (some ⟨σ.cA c, 0, none⟩)] w fun e w' => e = .returned (.tuple #[encV σ (m.take c).2.1, .int .i64 (m.take c).2.2]) ∧ Res B P σ ow (m.take c).1 w w' := by
  have oc := ok.chan _ _ hc
  obtain ⟨hv, sv, tv, hcell, r1, r2, r3, hne⟩ := h.lenC hc
  obtain ⟨c0, c1, c2, c3, c4, cf⟩ := chan_cells hcell.1
  have hs : m.take c = m.take c := rfl
  conv at hs => rhs; unfold MachD.take
  rw [chanAt_some hc] at hs
  dsimp only at hs
  obtain ⟨cb, hcb⟩ : ∃ cb, σ.cA c = cb := ⟨_, rfl⟩
  have hnm : cd.held.length ≤ 1000000 := by have := oc.cap; omega
  obtain ⟨ha, hcp, hhv, hcap⟩ := mt_slice r1.1
  obtain ⟨sa, sc, hsv, _⟩ := mt_slice r2.1
  rw [hhv] at c2
  rw [hsv] at c3
  cases hhd : cd.held with
  | nil =>
    rw [hhd] at hs c2
    dsimp only at hs
    simp only [List.length_nil] at c2
    cases hsd : cd.sends with
    | nil =>
      rw [hsd] at hs c3
      dsimp only at hs
      simp only [List.length_nil] at c3
      rw [hcb] at c0 c1 c2 c3 c4 cf ⊢
      by_cases hcl : cd.closed = true
      · rw [if_pos hcl] at hs
        rw [hs]
        rw [hcl] at c1
        have H := hidP h
        unfold encV
        clear h ok fit hc hcell r1 r2 r3 hne oc hs c0 c4 cf hcl hhd hsd hcb hhv hsv hnm hcap
        go_enter Tryz.func127, Tryz.ntmps127
        go_wp2
        go_ret2
        exact ⟨rfl, H.out.res_below (brefl _)⟩
      · rw [if_neg hcl] at hs
        rw [hs]
        have hcl' : cd.closed = false := by simpa using hcl
        rw [hcl'] at c1
        have H := hidP h
        unfold encV
        clear h ok fit hc hcell r1 r2 r3 hne oc hs c0 c4 cf hcl hcl' hhd hsd hcb hhv hsv hnm hcap
        go_enter Tryz.func127, Tryz.ntmps127
        go_wp2
        go_ret2
        exact ⟨rfl, H.out.res_below (brefl _)⟩
    | cons k q =>
      rw [hsd] at hs c3
      dsimp only at hs
      have HS := hidP (sender_any h ok fit hc hsd)
      rw [hs]
      rw [hcb] at c0 c1 c2 c3 c4 cf HS ⊢
      obtain ⟨n, hn⟩ : ∃ n, q.length = n := ⟨_, rfl⟩
      rw [List.length_cons, hn] at c3
      have lt1 : (0 : Int) < (n : Int) + 1 := by omega
      dsimp only
      obtain ⟨V, hV⟩ : ∃ V, encV σ (m.sender c).2 = V := ⟨_, rfl⟩
      rw [hV] at HS ⊢
      clear h ok fit hc hcell r1 r2 r3 hne oc hs c0 c1 c4 cf hhd hsd hcb hhv hsv hnm hn hV hcap
      go_enter Tryz.func127, Tryz.ntmps127
      go_wp2_with (go_at_call 140; with_reducible refine HS.out.mono ?_; rintro e w1 ⟨rfl, h1, _⟩)
      go_ret2
      exact ⟨rfl, h1⟩
  | cons x r =>
    rw [hhd] at hs
    dsimp only at hs
    have hro := owns_row (hhv ▸ r1.1 : w.ownsRow B 20 1 (.slice ha cd.held.length hcp) cd.held.length (cd.held.map (encV σ)))
    rw [hhd] at hro c2
    obtain ⟨b, o, hba, hca⟩ := hro.addr (by simp)
    subst hba
    have cx : w.cell? ⟨b, o, none⟩ = some (encV σ x) := by simpa using hca 0 _ rfl
    obtain ⟨n, hn⟩ : ∃ n, r.length = n := ⟨_, rfl⟩
    have hl : cd.held.length = n + 1 := by rw [hhd, List.length_cons, hn]
    rw [List.length_cons, hn] at c2
    have hrow := hro.cut 1 hcp 1 (by intro e; rw [List.length_map, ← hhd, hl]; omega)
    simp only [Nat.one_mul, List.map_cons, List.drop_succ_cons, List.drop_zero] at hrow
    have hcl := cloneAny_any (cutA (some ⟨b, o, none⟩) 1 hcp 1) n (hcp - 1) (r.map (encV σ)) w hrow (by rw [List.length_map, hn]) (fun u hu => by obtain ⟨z, _, rfl⟩ := List.mem_map.1 hu; cases z <;> rfl) (by omega)
    have hput : Hid (∀ w1 a1 c1, w1.ownsRow w.heap.size 20 1 (.slice a1 n c1) n (r.map (encV σ)) → Below w.heap.size w w1 → Res B P σ ow (m.setChan c { cd with held := r }) w (w1.setCell ⟨cb, 2, none⟩ (.slice a1 n c1))) := fun w1 a1 c1 ho hb => by
      have := h.heldPut hc hcell r1 r2 r3 hne (w2 := w1) (l' := r) (v' := .slice a1 n c1) (.of_below hb) (by rw [hn]; exact owns_mono ho h.size) (fun b hb2 => .inr (ho.lt b hb2).1)
      rw [← hcb]
      exact this
    have hst : Hid (∀ w1, Below w.heap.size w w1 → w1.heap[cb]? = some (.cells (chanCells cd hv sv tv) 124 (0, 0))) := fun w1 hb => by
      rw [← hcb]; exact (hb.block _ (blk_lt hcell.1)).trans hcell.1
    have hxo : ∀ y ∈ r, okV m y := fun y hy => oc.held y (by rw [hhd]; exact List.mem_cons_of_mem _ hy)
    have ok1 : Ok (m.setChan c { cd with held := r }) := ok.setChan hc hxo rfl rfl ⟨by have := oc.cap.1; rw [hl] at this; show (r.length : Int) ≤ cd.cap; omega, oc.cap.2⟩
    have fit1 : Fit (m.setChan c { cd with held := r }) := (like_setChan _ _).fit fit
    have hc1 : (m.setChan c { cd with held := r }).chans[c]? = some { cd with held := r } := set_get (lt_of_some hc)
    have lt1 : (0 : Int) < (n : Int) + 1 := by omega
    have le1 : 1 ≤ hcp := by omega
    have hn6 : n ≤ 1000000 := by omega
    have hcapI : (n : Int) + 1 ≤ (hcp : Int) := by omega
    obtain ⟨VT, VU, hV⟩ := encV_iface σ x
    rw [hV] at cx
    cases hsd : cd.sends with
    | nil =>
      rw [hsd] at hs c3
      dsimp only at hs
      simp only [List.length_nil] at c3
      rw [hcb] at c2 c3 cf ⊢
      rw [hs]
      dsimp only
      rw [hV]
      have f2 := cf 2
      have HC := hidP hcl
      have hsl := hsv
      rw [hsd] at hsl
      have HSV := hidP hsl
      have HSD := hidP hsd
      clear hsl
      clear h ok fit hc hcell r1 r2 r3 hne oc hs c0 c1 c4 cf hhd hsd hcb hhv hsv hnm hn hV hcap hro hca hl hrow hcl hxo ok1 fit1 hc1
      go_enter Tryz.func127, Tryz.ntmps127
      go_wp2_with (go_at_call 139; with_reducible refine HC.out.mono ?_; intro e w1 hh; unfold RetRow at hh; obtain ⟨a1, c1, he, ho1, hb1⟩ := hh; subst he; have hw1 := hst.out w1 hb1; rw [HSV.out] at hw1; obtain ⟨d0, d1, d2, d3, d4, df⟩ := chan_cells hw1; have df2 := df 2; have HR := hidP (hput.out w1 a1 c1 ho1 hb1); clear ho1 hb1 hw1 df d0 d1 d4)
      go_ret2
      exact ⟨rfl, by have := HR.out; rw [HSD.out] at this; exact this⟩
    | cons k q =>
      rw [hsd] at hs c3
      dsimp only at hs
      obtain ⟨nq, hnq⟩ : ∃ nq, q.length = nq := ⟨_, rfl⟩
      rw [List.length_cons, hnq] at c3
      have hsd1 : ({ cd with held := r } : ChanD).sends = k :: q := hsd
      obtain ⟨wd, gd, y, hw, hy, he, ok2, l2, hyo⟩ := ok1.sender hc1 hsd1
      have hHS : Hid (∀ w1 ow1, Inv B P σ ow1 (m.setChan c { cd with held := r }) w1 → Calls Tryz.prog 140 #[.pointer (some ⟨σ.mb, 0, none⟩), .pointer (some ⟨cb, 0, none⟩)] w1 fun e w' => e = .returned (encV σ y) ∧ Res B P σ ow1 ((m.setChan c { cd with held := r }).wake k (.num 0)) w1 w' ∧ HeldAs σ (m.setChan c { cd with held := r }) w1 w') := fun w1 ow1 hI => by
        have := sender_any hI ok1 fit1 hc1 hsd1
        rw [he] at this
        rw [← hcb]
        exact this
      have hcl2 : c < (m.setChan c { cd with held := r }).chans.length := lt_of_some hc1
      obtain ⟨c2d, hc2⟩ := some_lt (l := ((m.setChan c { cd with held := r }).wake k (.num 0)).chans) (i := c) (by rw [(like_wake k (.num 0)).chans]; exact hcl2)
      have hL : c2d.held = r := by
        have hc2' := hc2
        rw [wake_eq hw] at hc2'
        obtain ⟨c0', hc0', hL⟩ := unlink_left gd.waits _ c c2d hc2'
        rw [hc1] at hc0'
        obtain rfl := Option.some.inj hc0'
        exact hL.held
      have hfin : (m.take c) = (((m.setChan c { cd with held := r }).wake k (.num 0)).setChan c { c2d with held := c2d.held ++ [y] }, x, 1) := by
        have he' := he
        have hc2' := hc2
        rw [hsd] at he' hc2'
        rw [hs, he', hsd]
        dsimp only
        rw [chanAt_some hc2']
      obtain ⟨YT, YU, hY⟩ := encV_iface σ y
      have HY := hidP hY
      rw [hY] at hHS
      rw [hcb] at c2 c3 cf ⊢
      rw [hfin]
      dsimp only
      rw [hV]
      have f2 := cf 2
      have HC := hidP hcl
      have hsl := hsv
      rw [hsd, List.length_cons, hnq] at hsl
      have HSV := hidP hsl
      have HN := hidP hn
      have HCB := hidP hcb
      have lt2 : (0 : Int) < (nq : Int) + 1 := by omega
      have HIS := hidP h.size
      have H2 := hidP (⟨hc2, hL, hcl2⟩ : _ ∧ _ ∧ _)
      clear hsl
      clear h ok fit hc hcell r1 r2 r3 hne oc hs c0 c1 c4 cf hhd hsd hcb hhv hsv hn hV hcap hro hca hl hrow hcl hxo ok1 fit1 hc1 hnq hY hsd1 hw hy he ok2 l2 hyo hfin hc2 hL hcl2
      go_enter Tryz.func127, Tryz.ntmps127
      go_upto_region 5 with (go_at_call 139; with_reducible refine HC.out.mono ?_; intro e w1 hh; unfold RetRow at hh; obtain ⟨a1, c1, he, ho1, hb1⟩ := hh; subst he; have hw1 := hst.out w1 hb1; have hw1s := hw1; rw [HSV.out] at hw1; obtain ⟨d0, d1, d2, d3, d4, df⟩ := chan_cells hw1; have df2 := df 2; have HR := hidP (hput.out w1 a1 c1 ho1 hb1); clear ho1 hb1 hw1 df d0 d1 d4)
      have HFC := hidP (hst.out w1)
      obtain ⟨W2, hW2⟩ : ∃ W, W = w1.setCell ⟨cb, 2, none⟩ (.slice a1 n c1) := ⟨_, rfl⟩
      have e2 : W2.cell? ⟨cb, 2, none⟩ = some (.slice a1 n c1) := by rw [hW2]; go_simp
      rw [← hW2] at HR ⊢
      obtain ⟨ow2, hI2, hK2, hM2⟩ := HR.out
      have HI2 := hidP hI2
      have hI2d := hI2.below (brefl W2).drew
      have HS1 := hidP (hHS.out _ _ hI2d)
      have HM2 := hidP (⟨hK2, hM2⟩ : _ ∧ _)
      clear hW2 hI2 hK2 hM2 hI2d d2 d3 df2 cx c2 c3 f2 hHS
      have hSS : (fun w' : World => w'.cell? ⟨cb, 2, none⟩ = some (.slice a1 n c1)) W2.drew := e2
      refine OrdG.begin (fun w' : World => w'.cell? ⟨cb, 2, none⟩ = some (.slice a1 n c1)) 12 (by kernel_rfl) hSS ?_
      refine OrdG.ty 0 _ rfl (.inl hSS) ?_
      simp only [Act.put, stA, stS, stZ]
      refine OrdG.ty 1 _ rfl (.inl hSS) ?_
      simp only [Act.put, stA, stS, stZ]
      refine OrdG.ty 2 _ rfl (.inl hSS) ?_
      simp only [Act.put, stA, stS, stZ]
      refine OrdG.ty 3 _ rfl (.inl hSS) ?_
      simp only [Act.put, stA, stS, stZ]
      refine OrdG.tk 4 _ rfl (by assumption) ?_
      simp only [Act.put, stA, stS, stZ]
      refine OrdG.ty 5 _ rfl (.inl hSS) ?_
      simp only [Act.put, stA, stS, stZ]
      refine OrdG.ty 6 _ rfl (.inl hSS) ?_
      simp only [Act.put, stA, stS, stZ]
      refine OrdG.one (i := 7) (by kernel_rfl) rfl (fun K hK => ?_)
      go_simp
      with_reducible refine HS1.out.mono ?_
      rintro e w3 ⟨rfl, h3, h3h⟩
      dsimp only
      obtain ⟨hc2, hL, hcl2⟩ := H2.out
      have e3 : w3.cell? ⟨cb, 2, none⟩ = some (.slice a1 n c1) := by
        have := h3h c hcl2
        rw [HCB.out] at this
        exact this.trans hSS
      obtain ⟨ow3, hI3, hK3, hM3⟩ := h3
      obtain ⟨hv3, sv3, tv3, hcell3, q1, q2, q3, hne3⟩ := hI3.lenC hc2
      have hv3e : hv3 = .slice a1 n c1 := by
        have := (chan_cells hcell3.1).2.2.1
        rw [HCB.out, e3] at this
        exact (Option.some.inj this).symm
      subst hv3e
      have hcr : c2d.held.length = n := by rw [hL]; exact HN.out
      have Q1 := hidP (hcr ▸ q1.1 : w3.ownsRow B 20 1 (.slice a1 n c1) n (c2d.held.map (encV σ)))
      have HQ := hidP (⟨hI3, hK3, hM3, hcell3, q1, q2, q3, hne3, hcr⟩ : _ ∧ _ ∧ _ ∧ _ ∧ _ ∧ _ ∧ _ ∧ _ ∧ _)
      have hc3 : w3.heap[cb]? = some (.cells (chanCells c2d (.slice a1 n c1) sv3 tv3) 124 (0, 0)) := by rw [← HCB.out]; exact hcell3.1
      have HC3 := hidP hc3
      have HNB : Hid ((Value.slice a1 n c1).ownBlock ≠ some cb) := by show _ ≠ _; rw [← HCB.out]; exact q1.row_ne hcell3.1 (by decide)
      have hsB : B ≤ w3.heap.size := hI3.size
      clear hI3 hK3 hM3 hcell3 q1 q2 q3 hne3 hc3 hcr h3h
      refine hK.out _ _ (.inl e3) ?_
      clear hK
      refine OrdG.one (i := 8) (by kernel_rfl) rfl (fun K hK => ?_)
      go_simp
      refine hK.out _ _ (.inl (by go_keep)) ?_
      clear hK
      refine OrdG.one (i := 9) (by kernel_rfl) rfl (fun K hK => ?_)
      refine step_app _ rfl (.tmp 39) (.tmp 43) rfl Tryz.slAny' B (.slice a1 n c1) n (c2d.held.map (encV σ)) rfl (Q1.out.alloc _) (some ⟨w3.heap.size, 0, none⟩) 1 1 [.iface YT YU] rfl (n + 1) rfl (RowAt.new w3 [.iface YT YU] _) rfl (by simp; rfl) (by omega) (by unfold maxLen; omega) (Nat.le_trans hsB (by simp)) ?_
      intro a5 c5 w5 ho5 hg5 hw5
      have kp5 : Keep (fun b => (Value.slice a1 n c1).ownBlock = some b) w3 w5 := keep_app hg5 (by first | exact (Keep.refl _ w3).alloc _ | exact ((Keep.refl _ w3).alloc _).drew) (fun k hk => hk)
      have hc5 := (kp5.block cb (blk_lt HC3.out) HNB.out).trans HC3.out
      obtain ⟨_, _, g2, _, _, gf⟩ := chan_cells hc5
      have gf2 := gf 2
      have HO5 := hidP ho5
      have KP5 := hidP kp5
      have HW5 := hidP hw5
      clear ho5 kp5 hw5 hg5 hc5 gf
      refine hK.out _ _ (.inl g2) ?_
      clear hK
      refine OrdG.ty 10 _ rfl (.inl g2) ?_
      simp only [Act.put, stA, stS, stZ]
      refine OrdG.ty 11 _ rfl (.inl g2) ?_
      simp only [Act.put, stA, stS, stZ]
      refine OrdG.one (i := 12) (by kernel_rfl) rfl (fun K hK => ?_)
      go_simp
      refine hK.out _ _ (.inr (by kernel_rfl)) ?_
      clear hK
      refine OrdG.done (by kernel_rfl) ?_ _
      go_wp2
      go_ret2
      refine ⟨rfl, ?_⟩
      obtain ⟨hI3, hK3, hM3, hcell3, q1, q2, q3, hne3, hcr⟩ := HQ.out
      have hres := hI3.heldPut hc2 hcell3 q1 q2 q3 hne3 (l' := c2d.held ++ [y]) (v' := .slice a5 (n + 1) c5) KP5.out (by
        rw [List.length_append, List.map_append, hcr]
        show w5.ownsRow B _ 1 _ (n + 1) (_ ++ [encV σ y])
        rw [HY.out]; exact HO5.out) (fun b hb => by
          rcases HW5.out with h | h
          · exact .inl (h.symm.trans hb)
          · rw [h] at hb; cases hb; exact .inr (by simp))
      obtain ⟨hK2, hM2⟩ := HM2.out
      have r2 := Res.trans hK3 hM3 hres
      have r1 := Res.trans ((Keep.refl (fun b => ow2 b ≠ none) W2).drew) (.frm none) r2
      rw [HCB.out] at r1
      have := Res.trans hK2 hM2 r1
      rw [← hL]
      rw [← hL] at this
      exact this
theorem Tryz.slEv' : SlT Tryz.prog 28 41 (.agg #[.int .i64 0, .int .i64 0, .int .i64 0, .bool false]) 4 32 := ⟨Tryz.underlying28, by kernel_rfl, rfl, by decide⟩
section
variable {B : Nat} {P : Value} {σ : Lay} {ow ow' : Owns} {w w' w1 w2 w3 : World} {m m' : MachD}
theorem Inv.drew (h : Inv B P σ ow m w) : Inv B P σ ow m w.drew := ⟨h.mach, h.gor, h.chan, h.box, h.wt, h.base⟩
theorem Inv.drewN (h : Inv B P σ ow m w) (n : Nat) : Inv B P σ ow m (w.drewN n) := ⟨h.mach, h.gor, h.chan, h.box, h.wt, h.base⟩
theorem Res.undrew (h : Res B P σ ow m' w.drew w') : Res B P σ ow m' w w' := by
  obtain ⟨ow1, h1, h2, h3⟩ := h
  exact ⟨ow1, h1, ⟨h2.os, h2.tape, h2.output, h2.size, h2.block⟩, h3⟩
theorem Res.undrewN {n : Nat} (h : Res B P σ ow m' (w.drewN n) w') : Res B P σ ow m' w w' := by
  obtain ⟨ow1, h1, h2, h3⟩ := h
  exact ⟨ow1, h1, ⟨h2.os, h2.tape, h2.output, h2.size, h2.block⟩, h3⟩
theorem Res.stay (h : Res B P σ ow m' w w') {b : Nat} {o : Obj} (hb : w.heap[b]? = some o) (hn : ow b = none) : w'.heap[b]? = some o := by
  obtain ⟨ow1, h1, h2, h3⟩ := h
  exact (h2.block b (blk_lt hb) (fun e => e hn)).trans hb
theorem MachC.names {q tv ev sv q' tv' ev' sv' g0 g1 g2 g3 a6 a8 a10 : Value} {G0 G1 G2 G3 : PV} {t : TypeId} (h : MachC B P σ ow w m q tv ev sv G0 G1 G2 G3) (hc : w.heap[σ.mb]? = some (.cells #[P, q', g0, g1, g2, g3, a6, tv', a8, ev', a10, sv'] t (0, 0))) : q = q' ∧ tv = tv' ∧ ev = ev' ∧ sv = sv' := by
  have := h.cells.1.symm.trans hc
  simp at this
  obtain ⟨⟨h1, _, _, _, _, _, h2, _, h3, _, h4⟩, _⟩ := this
  exact ⟨h1, h2, h3, h4⟩
theorem mach_cells {A0 A1 A2 A3 A4 A5 A6 A7 A8 A9 A10 A11 : Value} {t : TypeId} {w : World} {b : Nat} (h : w.heap[b]? = some (.cells #[A0, A1, A2, A3, A4, A5, A6, A7, A8, A9, A10, A11] t (0, 0))) :
    w.cell? ⟨b, 0, none⟩ = some A0 ∧ w.cell? ⟨b, 1, none⟩ = some A1 ∧ w.cell? ⟨b, 6, none⟩ = some A6 ∧ w.cell? ⟨b, 7, none⟩ = some A7 ∧ w.cell? ⟨b, 8, none⟩ = some A8 ∧ w.cell? ⟨b, 9, none⟩ = some A9 ∧ w.cell? ⟨b, 10, none⟩ = some A10 ∧ w.cell? ⟨b, 11, none⟩ = some A11 ∧ ∀ j, w.frozen? ⟨b, j, none⟩ = false :=
  ⟨cell_of_row w b 0 _ _ (0, 0) h, cell_of_row w b 1 _ _ (0, 0) h, cell_of_row w b 6 _ _ (0, 0) h, cell_of_row w b 7 _ _ (0, 0) h, cell_of_row w b 8 _ _ (0, 0) h, cell_of_row w b 9 _ _ (0, 0) h, cell_of_row w b 10 _ _ (0, 0) h, cell_of_row w b 11 _ _ (0, 0) h, fun j => frozen_of_row w b j _ _ h⟩
end
set_option maxRecDepth 100000 in
set_option maxHeartbeats 1600000 in
theorem end_any' {B : Nat} {P : Value} {σ : Lay} {ow : Owns} {m : MachD} {w : World} (h : Inv B P σ ow m w) (fit : m.events.length ≤ 1000005) (oc id : Int) :
    Calls Tryz.prog 43 #[.pointer (some ⟨σ.mb, 0, none⟩), .int .i64 oc, .int .i64 id] w fun e w' => e = .returned (.tuple #[]) ∧ Res B P σ ow (m.fin oc id) w w' := by
  obtain ⟨q, tv, ev, sv, G0, G1, G2, G3, hM⟩ := h.machC
  obtain ⟨ea, ec, he, _⟩ := mt_slice hM.events.1
  obtain ⟨n, hn⟩ : ∃ n, m.events.length = n := ⟨_, rfl⟩
  have hnm : n ≤ 1000005 := by rw [← hn]; exact fit
  obtain ⟨mb, hmb⟩ : ∃ mb, σ.mb = mb := ⟨_, rfl⟩
  have hcell := hM.cells.1
  rw [hmb] at hcell ⊢
  obtain ⟨_, _, _, _, _, c9, c10, _, cf⟩ := mach_cells hcell
  have f9 := cf 9
  have f10 := cf 10
  have hE := hM.events.1
  rw [he, hn] at c9 hE
  have HE := hidP hE
  have HCL := hidP hcell
  have HA := hidP (show (Value.slice ea n ec).ownBlock ≠ some mb by rw [← hmb, ← hn, ← he]; exact hM.apart.1.2.2.1)
  have H := hidP (⟨h, hM, he, hn, hmb⟩ : _ ∧ _ ∧ _ ∧ _ ∧ _)
  have hsB := h.size
  clear h hM he hn hmb hcell cf hE fit
  go_enter Tryz.func43, Tryz.ntmps43
  go_wp2_with (at_builtin; go_loud (refine (wpList_app _ rfl (.tmp 16) (.tmp 20) rfl Tryz.slEv' B (.slice ea n ec) n _ rfl (owns_keep HE.out (((Keep.refl (fun b => b = mb) w).setCell (p := ⟨mb, 10, none⟩) rfl (.int .i64 oc)).alloc _) (fun b hb e => HA.out (by rw [hb, e]))) (some ⟨w.heap.size, 0, none⟩) 1 1 (evC ⟨5, id, oc, false⟩) rfl (n + 1) rfl (row_new (w.setCell ⟨mb, 10, none⟩ (.int .i64 oc)) (evC ⟨5, id, oc, false⟩) _ _ (by simp)) rfl (by intro u hu; simp [evC] at hu; rcases hu with rfl | rfl | rfl | rfl <;> rfl) (by omega) (by unfold maxLen; omega) (Nat.le_trans hsB (by simp)) ?_)); intro a2 c2 w2 ho2 hg2 hw2; have kp2 : Keep (fun b => (Value.slice ea n ec).ownBlock = some b) (w.setCell ⟨mb, 10, none⟩ (.int .i64 oc)) w2 := keep_app hg2 ((Keep.refl _ (w.setCell ⟨mb, 10, none⟩ (.int .i64 oc))).alloc _) (fun k hk => hk); have hcs := heap_setCell_same w mb 10 _ _ (.int .i64 oc) HCL.out; have hc2 := (kp2.block mb (blk_lt hcs) HA.out).trans hcs; have q9 := cell_of_row w2 mb 9 _ _ (0, 0) hc2; have z9 := frozen_of_row w2 mb 9 _ _ hc2; simp at q9; have HO2 := hidP ho2; have KP2 := hidP kp2; have HW2 := hidP hw2; have HCS := hidP hcs; clear ho2 kp2 hw2 hg2 hc2 hcs)
  go_end0
  obtain ⟨h, hM, he, hn, hmb⟩ := H.out
  subst hmb
  have K10 : Keep (fun b => b = σ.mb) w (w.setCell ⟨σ.mb, 10, none⟩ (.int .i64 oc)) := (Keep.refl (fun b => b = σ.mb) w).setCell (p := ⟨σ.mb, 10, none⟩) rfl _
  have R1 := h.wordPut hM (m' := { m with outcome := oc }) hM.gl rfl rfl rfl rfl rfl rfl rfl rfl K10 HCS.out
  obtain ⟨ow1, hI1, hK1, hM1⟩ := R1
  obtain ⟨q', tv', ev', sv', H0, H1, H2, H3, hMC⟩ := hI1.machC
  obtain ⟨e1, e2, e3, e4⟩ := hMC.names HCS.out
  subst e1 e2 e3 e4
  have R2 := hI1.eventsPut hMC (l' := m.events ++ [⟨5, id, oc, false⟩]) (q' := .slice a2 (n + 1) c2) (by rw [he, hn]; exact KP2.out) (by
    rw [List.length_append, List.flatMap_append, hn]
    exact HO2.out) (fun b hb => by
      rcases HW2.out with h | h
      · exact .inl (by rw [he, hn]; exact h.symm.trans hb)
      · rw [h] at hb; cases hb; exact .inr (by simp))
  exact ⟨rfl, Res.trans hK1 hM1 R2⟩
def turnC (σ : Lay) (g : Nat) (x : InstrD) (A4 : Option Addr) (c4 : Nat) (draw : Int) : Array Value := #[at0 σ.mb, at0 (σ.gA g), .int .i64 x.op, .int .i64 x.a, .int .i64 x.b, .int .i64 x.n, .slice A4 x.cases.length c4, .int .i64 draw]
structure IsTurn (σ : Lay) (ow : Owns) (w : World) (tb g : Nat) (x : InstrD) (A4 : Option Addr) (c4 : Nat) (draw : Int) : Prop where
  cell : w.heap[tb]? = some (.cells (turnC σ g x A4 c4 draw) 101 (0, 0))
  free : ow tb = none
section
variable {B : Nat} {P : Value} {σ : Lay} {ow ow' : Owns} {w w' w1 w2 w3 : World} {m m' : MachD} {tb g c4 : Nat} {x : InstrD} {A4 : Option Addr} {draw : Int}
theorem IsTurn.keep (h : IsTurn σ ow w tb g x A4 c4 draw) (hk : Keep (fun b => ow b ≠ none) w w') (hm : OwMore w ow ow') : IsTurn σ ow' w' tb g x A4 c4 draw :=
  ⟨(hk.block tb (blk_lt h.cell) (fun e => e h.free)).trans h.cell, (hm tb (blk_lt h.cell)).trans h.free⟩
theorem IsTurn.below (h : IsTurn σ ow w tb g x A4 c4 draw) (hb : Below w.heap.size w w') (y : Option Own := none) : IsTurn σ (frm ow w.heap.size y) w' tb g x A4 c4 draw := h.keep (.of_below hb) (.frm _)
theorem IsTurn.drew (h : IsTurn σ ow w tb g x A4 c4 draw) : IsTurn σ ow w.drew tb g x A4 c4 draw := ⟨h.cell, h.free⟩
theorem IsTurn.drewN (h : IsTurn σ ow w tb g x A4 c4 draw) (n : Nat) : IsTurn σ ow (w.drewN n) tb g x A4 c4 draw := ⟨h.cell, h.free⟩
theorem IsTurn.cells (h : IsTurn σ ow w tb g x A4 c4 draw) : w.cell? ⟨tb, 0, none⟩ = some (.pointer (some ⟨σ.mb, 0, none⟩)) ∧ w.cell? ⟨tb, 1, none⟩ = some (.pointer (some ⟨σ.gA g, 0, none⟩)) ∧ w.cell? ⟨tb, 2, none⟩ = some (.int .i64 x.op) ∧ w.cell? ⟨tb, 3, none⟩ = some (.int .i64 x.a) ∧
    w.cell? ⟨tb, 4, none⟩ = some (.int .i64 x.b) ∧ w.cell? ⟨tb, 5, none⟩ = some (.int .i64 x.n) ∧ w.cell? ⟨tb, 6, none⟩ = some (.slice A4 x.cases.length c4) ∧ w.cell? ⟨tb, 7, none⟩ = some (.int .i64 draw) :=
  ⟨cell_of_row w tb 0 _ _ (0, 0) h.cell, cell_of_row w tb 1 _ _ (0, 0) h.cell, cell_of_row w tb 2 _ _ (0, 0) h.cell, cell_of_row w tb 3 _ _ (0, 0) h.cell, cell_of_row w tb 4 _ _ (0, 0) h.cell, cell_of_row w tb 5 _ _ (0, 0) h.cell, cell_of_row w tb 6 _ _ (0, 0) h.cell, cell_of_row w tb 7 _ _ (0, 0) h.cell⟩
theorem Inv.gorAt (h : Inv B P σ ow m w) {gd : GorD} (hg : m.gors[g]? = some gd) : ∃ v, w.heap[σ.gA g]? = some (.cells (gorCells σ g gd v) 98 (0, 0)) ∧ ow (σ.gA g) = some (.gor g) ∧ gd.regs.length = 6 ∧
    w.cell? ⟨σ.gA g, 0, none⟩ = some (.int .i64 g) ∧ w.cell? ⟨σ.gA g, 1, none⟩ = some (.int .i64 gd.pc) ∧ (∀ (k : Nat) (y : PV), gd.regs[k]? = some y → w.cell? ⟨σ.gA g, 2 + k, none⟩ = some (encV σ y)) ∧ w.cell? ⟨σ.gA g, 8, none⟩ = some v ∧ ∀ j, w.frozen? ⟨σ.gA g, j, none⟩ = false := by
  obtain ⟨h6, v, hc, hr⟩ := h.gor g gd hg
  have hl : (gd.regs.map (encV σ)).length = 6 := by rw [List.length_map]; exact h6
  refine ⟨v, hc.1, hc.2, h6, cell_of_row w _ 0 _ _ (0, 0) hc.1, cell_of_row w _ 1 _ _ (0, 0) hc.1, fun k y hk => ?_, ?_, fun j => frozen_of_row w _ j _ _ hc.1⟩
  · refine (cell_of_row w _ (2 + k) _ _ (0, 0) hc.1).trans ?_
    unfold gorCells
    simp only [List.getElem?_toArray]
    rw [show 2 + k = k + 2 by omega, List.getElem?_cons_succ, List.getElem?_cons_succ, List.getElem?_append_left (by rw [hl]; have := lt_of_some hk; omega), List.getElem?_map, hk]
    rfl
  · refine (cell_of_row w _ 8 _ _ (0, 0) hc.1).trans ?_
    unfold gorCells
    simp [hl]
theorem reg_cells {gd : GorD} {v : Value} (h6 : gd.regs.length = 6) {k : Nat} (hk : k < 6) (y : PV) : (gorCells σ g gd v).setIfInBounds (2 + k) (encV σ y) = gorCells σ g ⟨gd.pc, gd.regs.set k y, gd.waits⟩ v := by
  have hl : (gd.regs.map (encV σ)).length = 6 := by rw [List.length_map]; exact h6
  unfold gorCells
  simp only [List.setIfInBounds_toArray, List.map_set]
  rw [show 2 + k = k + 1 + 1 by omega, List.set_cons_succ, List.set_cons_succ, List.set_append_left _ _ (by rw [hl]; exact hk)]
theorem Inv.regPut (h : Inv B P σ ow m w) {gd : GorD} (hg : m.gors[g]? = some gd) {r : Int} (h0 : 0 ≤ r) (h6 : r < 6) (y : PV) : Res B P σ ow (m.setReg g r y) w (w.setCell ⟨σ.gA g, 2 + r.toNat, none⟩ (encV σ y)) := by
  obtain ⟨v, hc, ho, hl, _⟩ := h.gorAt hg
  unfold MachD.setReg
  rw [gorAt_some hg]
  refine h.gor_set hg (by rw [List.length_set]; exact hl) rfl ((Keep.refl (fun b => b = σ.gA g) w).setCell (p := ⟨σ.gA g, 2 + r.toNat, none⟩) rfl _) (fun u hu => ?_)
  refine (heap_setCell_same w _ (2 + r.toNat) _ _ _ hu).trans ?_
  rw [reg_cells hl (by omega)]
theorem Inv.pcPut (h : Inv B P σ ow m w) {gd : GorD} (hg : m.gors[g]? = some gd) (pc : Int) : Res B P σ ow (m.setPc g pc) w (w.setCell ⟨σ.gA g, 1, none⟩ (.int .i64 pc)) := by
  obtain ⟨v, hc, ho, hl, _⟩ := h.gorAt hg
  unfold MachD.setPc
  rw [gorAt_some hg]
  refine h.gor_set hg hl rfl ((Keep.refl (fun b => b = σ.gA g) w).setCell (p := ⟨σ.gA g, 1, none⟩) rfl _) (fun u hu => ?_)
  exact heap_setCell_same w _ 1 _ _ _ hu
end
set_option maxRecDepth 100000 in
set_option maxHeartbeats 1600000 in
theorem fail_any' {B : Nat} {P : Value} {σ : Lay} {ow : Owns} {m : MachD} {w : World} (h : Inv B P σ ow m w) (fit : m.events.length ≤ 1000005) {tb g c4 : Nat} {x : InstrD} {A4 : Option Addr} {draw : Int} (ht : IsTurn σ ow w tb g x A4 c4 draw) {gd : GorD} (hg : m.gors[g]? = some gd) (oc : Int) :
    Calls Tryz.prog 97 #[.pointer (some ⟨tb, 0, none⟩), .int .i64 oc] w fun e w' => e = .returned (.tuple #[]) ∧ Res B P σ ow (m.fin oc g) w w' := by
  obtain ⟨t0, t1, _⟩ := ht.cells
  obtain ⟨v, _, _, _, g0, _⟩ := h.gorAt hg
  have HE := hidP (end_any' h.drew fit oc g)
  clear h fit ht hg
  go_enter Tryz.func97, Tryz.ntmps97
  go_upto_region 0 with fail
  go_still_tail 12, (by kernel_rfl)
  go_wp2_with (go_at_call 43; with_reducible refine HE.out.mono ?_; rintro e w1 ⟨rfl, h1⟩)
  go_end0
  exact ⟨rfl, h1.undrew⟩
theorem fail_any {B : Nat} {P : Value} {σ : Lay} {ow : Owns} {m : MachD} {w : World} (h : Inv B P σ ow m w) (fit : Fit m) {tb g c4 : Nat} {x : InstrD} {A4 : Option Addr} {draw : Int} (ht : IsTurn σ ow w tb g x A4 c4 draw) {gd : GorD} (hg : m.gors[g]? = some gd) (oc : Int) :
    Calls Tryz.prog 97 #[.pointer (some ⟨tb, 0, none⟩), .int .i64 oc] w fun e w' => e = .returned (.tuple #[]) ∧ Res B P σ ow (m.fin oc g) w w' := fail_any' h (by have := fit.events; omega) ht hg oc
set_option maxRecDepth 100000 in
set_option maxHeartbeats 1600000 in
theorem settle_any {B : Nat} {P : Value} {σ : Lay} {ow : Owns} {m : MachD} {w : World} (h : Inv B P σ ow m w) (fit : Fit m) {tb g c4 : Nat} {x : InstrD} {A4 : Option Addr} {draw : Int} (ht : IsTurn σ ow w tb g x A4 c4 draw) {gd : GorD} (hg : m.gors[g]? = some gd) (c : CaseD) (oc : Int) :
    Calls Tryz.prog 94 #[.pointer (some ⟨tb, 0, none⟩), caseV c, .int .i64 oc] w fun e w' => e = .returned (.tuple #[]) ∧ Res B P σ ow (m.settle g c oc) w w' := by
  have hb := bnew (brefl w) (.cells #[.int .i64 c.kind, .int .i64 c.ch, .int .i64 c.reg, .int .i64 c.dest] 109)
  have h1 := h.below hb
  have ht1 := ht.below hb
  obtain ⟨t0, t1, _⟩ := ht1.cells
  obtain ⟨v, _, _, _, g0, g1, _, _, gf⟩ := h1.gorAt hg
  have gf1 := gf 1
  have hn := blk_new w (.cells #[.int .i64 c.kind, .int .i64 c.ch, .int .i64 c.reg, .int .i64 c.dest] 109)
  have n3 : (w.alloc (.cells #[.int .i64 c.kind, .int .i64 c.ch, .int .i64 c.reg, .int .i64 c.dest] 109)).cell? ⟨w.heap.size, 3, none⟩ = some (.int .i64 c.dest) := cell_of_row _ _ 3 _ _ (0, 0) hn
  unfold caseV
  by_cases hoc : oc = 1
  · have hs : m.settle g c oc = m.setPc g c.dest := by unfold MachD.settle; rw [if_pos hoc]
    rw [hs]
    subst hoc
    have HP := hidP (h1.drew.pcPut hg c.dest)
    have HB := hidP hb
    clear h fit ht hg h1 ht1 hb gf g0 t0 hn hs
    go_enter Tryz.func94, Tryz.ntmps94
    go_upto_region 2 with fail
    generalize w.alloc (.cells #[.int .i64 c.kind, .int .i64 c.ch, .int .i64 c.reg, .int .i64 c.dest] 109) = w1 at *
    go_still_tail 8, (by kernel_rfl)
    go_wp2
    go_end0
    exact ⟨rfl, Res.of_below HB.out none HP.out.undrew⟩
  · have hs : m.settle g c oc = m.fin oc g := by unfold MachD.settle; rw [if_neg hoc]
    rw [hs]
    have HP := hidP (fail_any h1 fit ht1 hg oc)
    have HB := hidP hb
    clear h fit ht hg h1 ht1 hb gf g0 t0 hn hs
    go_enter Tryz.func94, Tryz.ntmps94
    go_wp2_with (go_at_call 97; with_reducible refine HP.out.mono ?_; rintro e w1 ⟨rfl, h1⟩)
    go_end0
    exact ⟨rfl, Res.of_below HB.out none h1⟩
theorem reg_nat {r : Int} (h0 : 0 ≤ r) (h6 : r < 6) : ∃ k : Nat, r = (k : Int) ∧ k < 6 := ⟨r.toNat, by omega, by omega⟩
set_option maxRecDepth 100000 in
set_option maxHeartbeats 1600000 in
theorem to_any {B : Nat} {P : Value} {σ : Lay} {ow : Owns} {m : MachD} {w : World} (h : Inv B P σ ow m w) (ok : Ok m) (fit : Fit m) {tb g c4 : Nat} {x : InstrD} {A4 : Option Addr} {draw : Int} (ht : IsTurn σ ow w tb g x A4 c4 draw) {gd : GorD} (hg : m.gors[g]? = some gd) {r : Int} (h0 : 0 ≤ r) (h6 : r < 6) {y : PV} (hy : okV m y) :
    Calls Tryz.prog 113 #[.pointer (some ⟨tb, 0, none⟩), .int .i64 r, encV σ y] w fun e w' => e = .returned (.int .i64 (m.toR g r y).2) ∧ Res B P σ ow (m.toR g r y).1 w w' := by
  obtain ⟨t0, t1, _⟩ := ht.cells
  obtain ⟨v, _, _, _, _, _, gr, _⟩ := h.gorAt hg
  obtain ⟨hr1, hr2⟩ := ok.reg hg h0 h6
  obtain ⟨k, rfl, hk⟩ := reg_nat h0 h6
  have gk := gr k _ hr1
  have hs : m.toR g k y = m.toR g k y := rfl
  conv at hs => rhs; unfold MachD.toR
  have HNO := fun v w => nothing_any σ v w
  have a1 := as_ch_num
  have a2 := as_ch_bx
  have a3 := as_ch_ch
  have hk0 : (0 : Int) ≤ (k : Int) := by omega
  have hk6 : (k : Int) < 6 := by omega
  cases hv : m.reg g k with
  | num n =>
    rw [hv] at gk hs
    dsimp only at hs
    have H := hidP h
    have HN := hidP (HNO (.num n))
    unfold encV at gk HN
    by_cases hn : n = 0
    · rw [if_pos hn] at hs
      rw [hs]
      subst hn
      have hb : MachD.nothing (.num 0) = true := rfl
      rw [hb] at HN
      clear h ok fit ht hg hy gr hr1 hr2 hs HNO hv t0 hb
      generalize encV σ y = Y
      go_enter Tryz.func113, Tryz.ntmps113
      go_wp2_with (go_at_call 96; with_reducible refine (HN.out _).mono ?_; rintro e w1 ⟨rfl, hw⟩; subst hw)
      go_ret
      exact ⟨rfl, H.out.res_below (brefl _)⟩
    · rw [if_neg hn] at hs
      rw [hs]
      have hb : MachD.nothing (.num n) = false := by simp [MachD.nothing, hn]
      rw [hb] at HN
      clear h ok fit ht hg hy gr hr1 hr2 hs HNO hv t0 hb
      generalize encV σ y = Y
      go_enter Tryz.func113, Tryz.ntmps113
      go_wp2_with (go_at_call 96; with_reducible refine (HN.out _).mono ?_; rintro e w1 ⟨rfl, hw⟩; subst hw)
      go_ret
      exact ⟨rfl, H.out.res_below (brefl _)⟩
  | bx n =>
    rw [hv] at gk hs
    dsimp only at hs
    rw [hs]
    have H := hidP h
    have HN := hidP (HNO (.bx n))
    unfold encV at gk HN
    have hb : MachD.nothing (.bx n) = false := rfl
    rw [hb] at HN
    clear h ok fit ht hg hy gr hr1 hr2 hs HNO hv t0 hb
    generalize encV σ y = Y
    go_enter Tryz.func113, Tryz.ntmps113
    go_wp2_with (go_at_call 96; with_reducible refine (HN.out _).mono ?_; rintro e w1 ⟨rfl, hw⟩; subst hw)
    go_ret
    exact ⟨rfl, H.out.res_below (brefl _)⟩
  | ch c =>
    rw [hv] at gk hs hr2
    dsimp only at hs
    rw [hs]
    obtain ⟨cd, hc⟩ := some_lt (l := m.chans) (i := c) hr2
    have HS := hidP (send_any h ok fit hc hy)
    have HN := hidP (HNO (.ch c))
    unfold encV at gk HN
    have hb : MachD.nothing (.ch c) = false := rfl
    rw [hb] at HN
    generalize m.send c y = R at *
    generalize encV σ y = Y at *
    clear h ok fit ht hg hy gr hr1 hr2 hs HNO hv hb hc
    go_enter Tryz.func113, Tryz.ntmps113
    go_wp2_with (first
      | (go_at_call 96; with_reducible refine (HN.out _).mono ?_; rintro e w1 ⟨rfl, hw⟩; subst hw)
      | (go_at_call 46; with_reducible refine HS.out.mono ?_; rintro e w2 ⟨rfl, h2⟩))
    go_ret
    exact ⟨rfl, h2⟩
set_option maxRecDepth 100000 in
set_option maxHeartbeats 1600000 in
theorem from_any {B : Nat} {P : Value} {σ : Lay} {ow : Owns} {m : MachD} {w : World} (h : Inv B P σ ow m w) (ok : Ok m) (fit : Fit m) {tb g c4 : Nat} {x : InstrD} {A4 : Option Addr} {draw : Int} (ht : IsTurn σ ow w tb g x A4 c4 draw) {gd : GorD} (hg : m.gors[g]? = some gd) {r i : Int} (h0 : 0 ≤ r) (h6 : r < 6) (i0 : 0 ≤ i) (i6 : i < 6) :
    Calls Tryz.prog 114 #[.pointer (some ⟨tb, 0, none⟩), .int .i64 r, .int .i64 i] w fun e w' => e = .returned (.int .i64 (m.fromR g r i).2) ∧ Res B P σ ow (m.fromR g r i).1 w w' := by
  obtain ⟨t0, t1, _⟩ := ht.cells
  obtain ⟨v, _, hgo, _, _, _, gr, _⟩ := h.gorAt hg
  obtain ⟨hr1, hr2⟩ := ok.reg hg h0 h6
  obtain ⟨k, rfl, hk⟩ := reg_nat h0 h6
  have gk := gr k _ hr1
  have hs : m.fromR g k i = m.fromR g k i := rfl
  conv at hs => rhs; unfold MachD.fromR
  have HNO := fun v w => nothing_any σ v w
  have a1 := as_ch_num
  have a2 := as_ch_bx
  have a3 := as_ch_ch
  have hk0 : (0 : Int) ≤ (k : Int) := by omega
  have hk6 : (k : Int) < 6 := by omega
  cases hv : m.reg g k with
  | num n =>
    rw [hv] at gk hs
    dsimp only at hs
    have H := hidP h
    have HN := hidP (HNO (.num n))
    unfold encV at gk HN
    by_cases hn : n = 0
    · rw [if_pos hn] at hs
      rw [hs]
      subst hn
      have hb : MachD.nothing (.num 0) = true := rfl
      rw [hb] at HN
      clear h ok fit ht hg gr hr1 hr2 hs HNO hv t0 hb i0 i6 hgo
      go_enter Tryz.func114, Tryz.ntmps114
      go_wp2_with (go_at_call 96; with_reducible refine (HN.out _).mono ?_; rintro e w1 ⟨rfl, hw⟩; subst hw)
      go_ret
      exact ⟨rfl, H.out.res_below (brefl _)⟩
    · rw [if_neg hn] at hs
      rw [hs]
      have hb : MachD.nothing (.num n) = false := by simp [MachD.nothing, hn]
      rw [hb] at HN
      clear h ok fit ht hg gr hr1 hr2 hs HNO hv t0 hb i0 i6 hgo
      go_enter Tryz.func114, Tryz.ntmps114
      go_wp2_with (go_at_call 96; with_reducible refine (HN.out _).mono ?_; rintro e w1 ⟨rfl, hw⟩; subst hw)
      go_ret
      exact ⟨rfl, H.out.res_below (brefl _)⟩
  | bx n =>
    rw [hv] at gk hs
    dsimp only at hs
    rw [hs]
    have H := hidP h
    have HN := hidP (HNO (.bx n))
    unfold encV at gk HN
    have hb : MachD.nothing (.bx n) = false := rfl
    rw [hb] at HN
    clear h ok fit ht hg gr hr1 hr2 hs HNO hv t0 hb i0 i6 hgo
    go_enter Tryz.func114, Tryz.ntmps114
    go_wp2_with (go_at_call 96; with_reducible refine (HN.out _).mono ?_; rintro e w1 ⟨rfl, hw⟩; subst hw)
    go_ret
    exact ⟨rfl, H.out.res_below (brefl _)⟩
  | ch c =>
    rw [hv] at gk hs hr2
    dsimp only at hs
    rw [hs]
    obtain ⟨cd, hc⟩ := some_lt (l := m.chans) (i := c) hr2
    obtain ⟨ok2, l2, hyo⟩ := ok.take hc
    have HT := hidP (take_any h ok fit hc)
    have HN := hidP (HNO (.ch c))
    unfold encV at gk HN
    have hb : MachD.nothing (.ch c) = false := rfl
    rw [hb] at HN
    obtain ⟨g2, hg2⟩ := some_lt (l := (m.take c).1.gors) (i := g) (by rw [l2.gors]; exact lt_of_some hg)
    obtain ⟨VT, VU, hV⟩ := encV_iface σ (m.take c).2.1
    have hVM : (.tuple #[encV σ (m.take c).2.1, .int .i64 (m.take c).2.2] : Value) = .tuple #[.iface VT VU, .int .i64 (m.take c).2.2] := by rw [hV]
    have ht1 : Hid (∀ w1, Res B P σ ow (m.take c).1 w w1 → w1.cell? ⟨tb, 1, none⟩ = some (.pointer (some ⟨σ.gA g, 0, none⟩)) ∧ (∃ u, w1.cell? ⟨σ.gA g, 2 + i.toNat, none⟩ = some u) ∧ w1.frozen? ⟨σ.gA g, 2 + i.toNat, none⟩ = false ∧ Res B P σ ow ((m.take c).1.setReg g i (m.take c).2.1) w (w1.setCell ⟨σ.gA g, 2 + i.toNat, none⟩ (.iface VT VU))) := by
      intro w1 hres
      have hst := hres.stay ht.cell ht.free
      obtain ⟨ow1, hI, hK, hM⟩ := hres
      obtain ⟨v1, q1, q2, q3, _, _, q4, _, q5⟩ := hI.gorAt hg2
      obtain ⟨u, hu⟩ := some_lt (l := g2.regs) (i := i.toNat) (by rw [q3]; omega)
      refine ⟨cell_of_row w1 tb 1 _ _ (0, 0) hst, ⟨_, q4 _ _ hu⟩, q5 _, ?_⟩
      rw [← hV]
      exact Res.trans hK hM (hI.regPut hg2 i0 i6 _)
    obtain ⟨j, rfl, hj⟩ := reg_nat i0 i6
    simp only [Int.toNat_natCast] at ht1
    rw [hVM] at HT
    have hj0 : (0 : Int) ≤ (j : Int) := by omega
    have hj6 : (j : Int) < 6 := by omega
    by_cases hoc : (m.take c).2.2 = 1
    · rw [if_pos hoc]
      rw [hoc] at HT ⊢
      dsimp only
      generalize m.take c = R at *
      clear h ok fit ht hg gr hr1 hr2 hs HNO hv hb hc hyo ok2 l2 hoc hV hVM hg2 hgo h0 h6 i0 i6 hj
      go_enter Tryz.func114, Tryz.ntmps114
      go_wp2_with (first
        | (go_at_call 96; with_reducible refine (HN.out _).mono ?_; rintro e w1 ⟨rfl, hw⟩; subst hw)
        | (go_at_call 127; with_reducible refine HT.out.mono ?_; rintro e w2 ⟨rfl, h2⟩; obtain ⟨z1, ⟨u, z2⟩, z3, z4⟩ := ht1.out w2 h2; have HZ := hidP z4; clear h2 z4))
      go_ret
      exact ⟨rfl, HZ.out⟩
    · rw [if_neg hoc]
      dsimp only
      generalize m.take c = R at *
      clear h ok fit ht hg gr hr1 hr2 hs HNO hv hb hc hyo ok2 l2 hV hVM hg2 hgo h0 h6 i0 i6 hj
      go_enter Tryz.func114, Tryz.ntmps114
      go_wp2_with (first
        | (go_at_call 96; with_reducible refine (HN.out _).mono ?_; rintro e w1 ⟨rfl, hw⟩; subst hw)
        | (go_at_call 127; with_reducible refine HT.out.mono ?_; rintro e w2 ⟨rfl, h2⟩))
      go_ret
      exact ⟨rfl, h2⟩
set_option maxRecDepth 100000 in
set_option maxHeartbeats 1600000 in
theorem done_any {B : Nat} {P : Value} {σ : Lay} {ow : Owns} {m : MachD} {w : World} (h : Inv B P σ ow m w) (ok : Ok m) (fit : Fit m) {tb g c4 : Nat} {x : InstrD} {A4 : Option Addr} {draw : Int} (ht : IsTurn σ ow w tb g x A4 c4 draw) {gd : GorD} (hg : m.gors[g]? = some gd) {c : CaseD} (hc : OkCase c) :
    Calls Tryz.prog 93 #[.pointer (some ⟨tb, 0, none⟩), caseV c] w fun e w' => e = .returned (.int .i64 (m.doneC g c).2) ∧ Res B P σ ow (m.doneC g c).1 w w' := by
  have hb := bnew (brefl w) (.cells #[.int .i64 c.kind, .int .i64 c.ch, .int .i64 c.reg, .int .i64 c.dest] 109)
  have h1 := h.below hb
  have ht1 := ht.below hb
  obtain ⟨t0, t1, _⟩ := ht1.cells
  obtain ⟨v, _, _, _, _, _, gr, _⟩ := h1.gorAt hg
  have hn := blk_new w (.cells #[.int .i64 c.kind, .int .i64 c.ch, .int .i64 c.reg, .int .i64 c.dest] 109)
  have n0 : (w.alloc (.cells #[.int .i64 c.kind, .int .i64 c.ch, .int .i64 c.reg, .int .i64 c.dest] 109)).cell? ⟨w.heap.size, 0, none⟩ = some (.int .i64 c.kind) := cell_of_row _ _ 0 _ _ (0, 0) hn
  have n1 : (w.alloc (.cells #[.int .i64 c.kind, .int .i64 c.ch, .int .i64 c.reg, .int .i64 c.dest] 109)).cell? ⟨w.heap.size, 1, none⟩ = some (.int .i64 c.ch) := cell_of_row _ _ 1 _ _ (0, 0) hn
  have n2 : (w.alloc (.cells #[.int .i64 c.kind, .int .i64 c.ch, .int .i64 c.reg, .int .i64 c.dest] 109)).cell? ⟨w.heap.size, 2, none⟩ = some (.int .i64 c.reg) := cell_of_row _ _ 2 _ _ (0, 0) hn
  unfold caseV
  have HB := hidP hb
  obtain ⟨k, hkr, hk⟩ := reg_nat hc.reg.1 hc.reg.2
  obtain ⟨hr1, hr2⟩ := ok.reg hg hc.reg.1 hc.reg.2
  by_cases hkd : c.kind = 1
  · have hs : m.doneC g c = m.toR g c.ch (m.reg g c.reg) := by unfold MachD.doneC; rw [if_pos hkd]
    rw [hs]
    have HT := hidP (to_any h1.drew ok fit ht1.drew hg hc.ch.1 hc.ch.2 hr2)
    rw [hkr] at hr1 n2
    have gk := gr k _ hr1
    rw [← hkr] at gk
    rw [hkd] at n0
    generalize encV σ (m.reg g c.reg) = Y at *
    generalize m.toR g c.ch (m.reg g c.reg) = R at *
    have hk0 : (0 : Int) ≤ (k : Int) := by omega
    have hk6 : (k : Int) < 6 := by omega
    obtain ⟨kd, ck, rk, dk⟩ := c
    dsimp only at *
    subst hkd hkr
    clear h ok fit ht hg h1 ht1 hb gr hr1 hr2 hn hs t0 hc
    go_enter Tryz.func93, Tryz.ntmps93
    go_upto_region 2 with fail
    generalize w.alloc (.cells #[.int .i64 1, .int .i64 ck, .int .i64 k, .int .i64 dk] 109) = w1 at *
    go_still_tail 13, (by kernel_rfl)
    go_wp2_with (go_at_call 113; with_reducible refine HT.out.mono ?_; rintro e w2 ⟨rfl, h2⟩)
    go_ret
    exact ⟨rfl, Res.of_below HB.out none h2.undrew⟩
  · have hs : m.doneC g c = m.fromR g c.ch c.reg := by unfold MachD.doneC; rw [if_neg hkd]
    rw [hs]
    have HF := hidP (from_any h1 ok fit ht1 hg hc.ch.1 hc.ch.2 hc.reg.1 hc.reg.2)
    generalize m.fromR g c.ch c.reg = R at *
    clear h ok fit ht hg h1 ht1 hb gr hr1 hr2 hn hs t0 hc hkr
    go_enter Tryz.func93, Tryz.ntmps93
    go_wp2_with (go_at_call 114; with_reducible refine HF.out.mono ?_; rintro e w2 ⟨rfl, h2⟩)
    go_ret
    exact ⟨rfl, Res.of_below HB.out none h2⟩
end Go.Proofs.YtklfboidjnchoaaGreatDoor
namespace Go.Proofs.YtklfboidjnchoaaGreatDoor
open Go.RowKit
set_option linter.unusedVariables false
set_option linter.unusedSimpArgs false
set_option linter.unusedVariables false
set_option linter.unusedVariables false
end Go.Proofs.YtklfboidjnchoaaGreatDoor
namespace Go.Proofs.YtklfboidjnchoaaGreatDoor
open Go.RowKit Go.Proofs.YtklfboidjnchoaaGreatDoorW.PrintWords
set_option linter.unusedVariables false
set_option linter.unusedSimpArgs false
theorem wp_undrewN {P : Program} {c : Code} {Q : Exit → Act → World → Prop} {a : Act} {w : World} {n : Nat} (h : ∀ W, W.heap = w.heap → Keep (fun _ => False) w W → Code.wp P c Q a W) : Code.wp P c Q a (w.drewN n) := h _ rfl ((Keep.refl _ w).drewN n)
theorem cell_heap {w W : World} (h : W.heap = w.heap) {p : Addr} {v : Value} (k : w.cell? p = some v) : W.cell? p = some v := by unfold World.cell? at k ⊢; rw [h]; exact k
theorem frozen_heap {w W : World} (h : W.heap = w.heap) {p : Addr} {v : Bool} (k : w.frozen? p = v) : W.frozen? p = v := by unfold World.frozen? at k ⊢; rw [h]; exact k
theorem Inv.same {B : Nat} {P : Value} {σ : Lay} {ow : Owns} {m : MachD} {w W : World} (h : Inv B P σ ow m w) (hk : Keep (fun _ => False) w W) : Inv B P σ ow m W := h.keep (hk.mono fun _ _ e => e.elim) (.refl _ _) h.base
theorem Res.same {B : Nat} {P : Value} {σ : Lay} {ow : Owns} {m' : MachD} {w W w' : World} (hk : Keep (fun _ => False) w W) (h : Res B P σ ow m' W w') : Res B P σ ow m' w w' := Res.trans (hk.mono fun _ _ e => e.elim) (.refl _ _) h
theorem Res.drewR {B : Nat} {P : Value} {σ : Lay} {ow : Owns} {m' : MachD} {w w' : World} (h : Res B P σ ow m' w w') : Res B P σ ow m' w w'.drew := by
  obtain ⟨ow1, h1, h2, h3⟩ := h
  exact ⟨ow1, h1.drew, h2.drew, h3⟩
def numOf : PV → Int × Bool
  | .num n => (n, true)
  | _ => (0, false)
theorem as_num (σ : Lay) (x : PV) (w : World) : (Instr.typeAssert (encV σ x) 20 67 true).run Tryz.prog w = .ok (.tuple #[.int .i64 (numOf x).1, .bool (numOf x).2]) w := by
  cases x with
  | num n => exact as_num_num w _
  | ch i => exact as_num_ch w _
  | bx i => exact as_num_bx w _
def chOf (σ : Lay) : PV → Value
  | .ch i => .pointer (some ⟨σ.cA i, 0, none⟩)
  | _ => .pointer none
def isCh : PV → Bool
  | .ch _ => true
  | _ => false
theorem as_ch (σ : Lay) (x : PV) (w : World) : (Instr.typeAssert (encV σ x) 20 102 true).run Tryz.prog w = .ok (.tuple #[chOf σ x, .bool (isCh x)]) w := by
  cases x with
  | num n => exact as_ch_num w _
  | ch i => exact as_ch_ch w _
  | bx i => exact as_ch_bx w _
def bxOf (σ : Lay) : PV → Value
  | .bx i => .pointer (some ⟨σ.bA i, 0, none⟩)
  | _ => .pointer none
def isBx : PV → Bool
  | .bx _ => true
  | _ => false
theorem as_bx (σ : Lay) (x : PV) (w : World) : (Instr.typeAssert (encV σ x) 20 127 true).run Tryz.prog w = .ok (.tuple #[bxOf σ x, .bool (isBx x)]) w := by
  cases x with
  | num n => exact as_bx_num w _
  | ch i => exact as_bx_ch w _
  | bx i => exact as_bx_bx w _
theorem Inv.incPc {B : Nat} {P : Value} {σ : Lay} {ow : Owns} {m : MachD} {w : World} (h : Inv B P σ ow m w) {g : Nat} {gd : GorD} (hg : m.gors[g]? = some gd) : Res B P σ ow (m.incPc g) w (w.setCell ⟨σ.gA g, 1, none⟩ (.int .i64 (gd.pc + 1))) := by
  unfold MachD.incPc
  rw [gorAt_some hg]
  exact h.pcPut hg _
theorem setReg_gor {m : MachD} {g : Nat} {gd : GorD} (hg : m.gors[g]? = some gd) (r : Int) (y : PV) : (m.setReg g r y).gors[g]? = some ⟨gd.pc, gd.regs.set r.toNat y, gd.waits⟩ := by
  unfold MachD.setReg
  rw [gorAt_some hg]
  exact set_get (lt_of_some hg)
theorem Inv.regInc {B : Nat} {P : Value} {σ : Lay} {ow : Owns} {m : MachD} {w : World} (h : Inv B P σ ow m w) {g : Nat} {gd : GorD} (hg : m.gors[g]? = some gd) {r : Int} (h0 : 0 ≤ r) (h6 : r < 6) (y : PV) :
    Res B P σ ow ((m.setReg g r y).incPc g) w ((w.setCell ⟨σ.gA g, 2 + r.toNat, none⟩ (encV σ y)).setCell ⟨σ.gA g, 1, none⟩ (.int .i64 (gd.pc + 1))) := by
  obtain ⟨ow1, h1, h2, h3⟩ := h.regPut hg h0 h6 y
  exact Res.trans h2 h3 (h1.incPc (gd := ⟨gd.pc, gd.regs.set r.toNat y, gd.waits⟩) (setReg_gor hg r y))
set_option maxRecDepth 100000 in
set_option maxHeartbeats 1600000 in
theorem tadd_any {B : Nat} {P : Value} {σ : Lay} {ow : Owns} {m : MachD} {w : World} (h : Inv B P σ ow m w) (ok : Ok m) (fit : Fit m) {tb g c4 : Nat} {x : InstrD} {A4 : Option Addr} {draw : Int} (ht : IsTurn σ ow w tb g x A4 c4 draw) {gd : GorD} (hg : m.gors[g]? = some gd) (ha0 : 0 ≤ x.a) (ha6 : x.a < 6) (hb0 : 0 ≤ x.b) (hb6 : x.b < 6) :
    Calls Tryz.prog 65 #[.pointer (some ⟨tb, 0, none⟩)] w fun e w' => e = .returned (.tuple #[]) ∧ Res B P σ ow (m.addR g x.a x.b) w w' := by
  obtain ⟨t0, t1, t2, t3, t4, t5, t6, t7⟩ := ht.cells
  obtain ⟨v, _, _, h6, g0, g1, gr, _, gf⟩ := h.gorAt hg
  obtain ⟨ra1, ra2⟩ := ok.reg hg ha0 ha6
  obtain ⟨rb1, rb2⟩ := ok.reg hg hb0 hb6
  have opc := (ok.gor g gd hg).pc
  obtain ⟨ka, hka, hka6⟩ := reg_nat ha0 ha6
  obtain ⟨kb, hkb, hkb6⟩ := reg_nat hb0 hb6
  have nA := as_num σ (m.reg g x.a)
  have nB := as_num σ (m.reg g x.b)
  have hs : m.addR g x.a x.b = m.addR g x.a x.b := rfl
  conv at hs => rhs; unfold MachD.addR
  have HF := hidP (fun n oc => fail_any (h.drewN n) fit (ht.drewN n) hg oc)
  have HRI := hidP (fun (W : World) (hk : Keep (fun _ => False) w W) y => Res.same hk ((h.same hk).regInc hg ha0 ha6 y))
  rw [hka] at ra1 t3 HRI
  rw [hkb] at rb1 t4
  have gka := gr ka _ ra1
  have gkb := gr kb _ rb1
  rw [← hka] at gka
  rw [← hkb] at gkb
  have fka := gf (2 + ka)
  have f1 := gf 1
  have ea0 : (0 : Int) ≤ (ka : Int) := by omega
  have ea6 : (ka : Int) < 6 := by omega
  have eb0 : (0 : Int) ≤ (kb : Int) := by omega
  have eb6 : (kb : Int) < 6 := by omega
  have wpc : IntKind.i64.wrap (gd.pc + 1) = gd.pc + 1 := IntWalk.i64_in _ (by omega)
  obtain ⟨gb, hgb⟩ : ∃ gb, σ.gA g = gb := ⟨_, rfl⟩
  rw [hgb] at t1 gka gkb fka f1 g1 HRI
  obtain ⟨⟨xa, ia⟩, hxa⟩ : ∃ q, numOf (m.reg g x.a) = q := ⟨_, rfl⟩
  obtain ⟨⟨xb, ib⟩, hxb⟩ : ∃ q, numOf (m.reg g x.b) = q := ⟨_, rfl⟩
  rw [hxa] at nA
  rw [hxb] at nB
  dsimp only at nA nB
  have HS := hidP (⟨hs, hxa, hxb, ra2, rb2, hka⟩ : _ ∧ _ ∧ _ ∧ _ ∧ _ ∧ _)
  obtain ⟨VA, hVA⟩ : ∃ V, encV σ (m.reg g x.a) = V := ⟨_, rfl⟩
  obtain ⟨VB, hVB⟩ : ∃ V, encV σ (m.reg g x.b) = V := ⟨_, rfl⟩
  rw [hVA] at nA gka
  rw [hVB] at nB gkb
  clear h ok fit ht hg gr gf ra1 ra2 rb1 rb2 hs hxa hxb hVA hVB t0 t2 t5 t6 t7 opc h6 hka hkb ha0 ha6 hb0 hb6 hgb
  cases ia with
  | false =>
    go_enter Tryz.func65, Tryz.ntmps65
    go_upto_region 0 with fail
    go_quiet (fail)
    go_upto_region 1 with fail
    go_quiet (fail)
    go_wp2_with (go_at_call 97; with_reducible refine (HF.out _ _).mono ?_; rintro e w1 ⟨rfl, h1⟩)
    first | go_end0 | ((try simp only [Exit.inBlock, Exit.then]); refine bodyPost_ret (results_none rfl _ _ _) rfl ?_)
    obtain ⟨hs, hxa, hxb, ra2, rb2, hka⟩ := HS.out
    have e : m.addR g x.a x.b = m.fin 6 g := by
      rw [hs]
      cases hv : m.reg g x.a with
      | num n => rw [hv] at hxa; simp [numOf] at hxa
      | ch i => rfl
      | bx i => rfl
    exact ⟨rfl, by rw [e]; exact h1.undrewN⟩
  | true =>
    cases ib with
    | false =>
      go_enter Tryz.func65, Tryz.ntmps65
      go_upto_region 0 with fail
      go_quiet (fail)
      go_upto_region 1 with fail
      go_quiet (fail)
      go_wp2_with (go_at_call 97; with_reducible refine (HF.out _ _).mono ?_; rintro e w1 ⟨rfl, h1⟩)
      first | go_end0 | ((try simp only [Exit.inBlock, Exit.then]); refine bodyPost_ret (results_none rfl _ _ _) rfl ?_)
      obtain ⟨hs, hxa, hxb, ra2, rb2, hka⟩ := HS.out
      have e : m.addR g x.a x.b = m.fin 6 g := by
        rw [hs]
        cases hv : m.reg g x.b with
        | num n => rw [hv] at hxb; simp [numOf] at hxb
        | ch i => cases m.reg g x.a <;> rfl
        | bx i => cases m.reg g x.a <;> rfl
      exact ⟨rfl, by rw [e]; exact h1.undrewN⟩
    | true =>
      have hbnd : (-1152921504606846976 ≤ xa ∧ xa ≤ 1152921504606846976) ∧ (-1152921504606846976 ≤ xb ∧ xb ≤ 1152921504606846976) := by
        obtain ⟨hs, hxa, hxb, ra2, rb2, hka⟩ := HS.out
        constructor
        · cases hv : m.reg g x.a with
          | num n => rw [hv] at hxa ra2; simp [numOf] at hxa; rw [← hxa]; exact ra2
          | ch i => rw [hv] at hxa; simp [numOf] at hxa
          | bx i => rw [hv] at hxa; simp [numOf] at hxa
        · cases hv : m.reg g x.b with
          | num n => rw [hv] at hxb rb2; simp [numOf] at hxb; rw [← hxb]; exact rb2
          | ch i => rw [hv] at hxb; simp [numOf] at hxb
          | bx i => rw [hv] at hxb; simp [numOf] at hxb
      obtain ⟨sm, hsm⟩ : ∃ sm, xa + xb = sm := ⟨_, rfl⟩
      have wsm : IntKind.i64.wrap sm = sm := IntWalk.i64_in _ (by omega)
      have hadd : Hid (m.addR g x.a x.b = if sm > 1099511627776 ∨ sm < -1099511627776 then m.fin 7 g else (m.setReg g x.a (.num sm)).incPc g) := by
        obtain ⟨hs, hxa, hxb, ra2, rb2, hka⟩ := HS.out
        show _ = _
        rw [hs]
        cases hv : m.reg g x.a with
        | ch i => rw [hv] at hxa; simp [numOf] at hxa
        | bx i => rw [hv] at hxa; simp [numOf] at hxa
        | num n =>
          cases hv2 : m.reg g x.b with
          | ch i => rw [hv2] at hxb; simp [numOf] at hxb
          | bx i => rw [hv2] at hxb; simp [numOf] at hxb
          | num n2 =>
            rw [hv] at hxa
            rw [hv2] at hxb
            simp [numOf] at hxa hxb
            dsimp only
            rw [hxa, hxb, hsm]
      clear hbnd
      by_cases hbig : sm > 1099511627776 ∨ sm < -1099511627776
      · have hb1 : ¬ sm > 1099511627776 → sm < -1099511627776 := fun h => hbig.resolve_left h
        by_cases hb2 : sm > 1099511627776
        · clear hb1
          go_enter Tryz.func65, Tryz.ntmps65
          go_upto_region 0 with fail
          go_quiet (fail)
          go_upto_region 1 with fail
          go_quiet (fail)
          go_wp2_with (go_at_call 97; with_reducible refine (HF.out _ _).mono ?_; rintro e w1 ⟨rfl, h1⟩)
          first | go_end0 | ((try simp only [Exit.inBlock, Exit.then]); refine bodyPost_ret (results_none rfl _ _ _) rfl ?_)
          obtain ⟨hs, hxa, hxb, ra2, rb2, hka⟩ := HS.out
          exact ⟨rfl, by rw [hadd.out, if_pos (.inl hb2)]; exact h1.undrewN⟩
        · have hb3 := hb1 hb2
          clear hb1
          go_enter Tryz.func65, Tryz.ntmps65
          go_upto_region 0 with fail
          go_quiet (fail)
          go_upto_region 1 with fail
          go_quiet (fail)
          go_wp2_with (go_at_call 97; with_reducible refine (HF.out _ _).mono ?_; rintro e w1 ⟨rfl, h1⟩)
          first | go_end0 | ((try simp only [Exit.inBlock, Exit.then]); refine bodyPost_ret (results_none rfl _ _ _) rfl ?_)
          obtain ⟨hs, hxa, hxb, ra2, rb2, hka⟩ := HS.out
          exact ⟨rfl, by rw [hadd.out, if_pos (.inr hb3)]; exact h1.undrewN⟩
      · have hb2 : ¬ sm > 1099511627776 := fun h => hbig (.inl h)
        have hb3 : ¬ sm < -1099511627776 := fun h => hbig (.inr h)
        go_enter Tryz.func65, Tryz.ntmps65
        go_upto_region 0 with fail
        go_quiet (fail)
        go_upto_region 1 with fail
        go_quiet (fail)
        go_upto_region 2 with fail
        refine wp_undrewN (w := w) ?_
        intro W hh hkW
        have s1 := cell_heap hh t1
        have s3 := cell_heap hh t3
        have sg := cell_heap hh gka
        have s9 := cell_heap hh g1
        have z1 := frozen_heap hh fka
        have z2 := frozen_heap hh f1
        have HKW := hidP hkW
        clear t1 t3 t4 gka gkb g1 g0 fka f1 hh hkW nA nB
        go_still_tail 16, (by kernel_rfl)
        go_wp2
        first | go_end0 | ((try simp only [Exit.inBlock, Exit.then]); refine bodyPost_ret (results_none rfl _ _ _) rfl ?_)
        refine ⟨rfl, ?_⟩
        rw [hadd.out, if_neg hbig]
        obtain ⟨hs, hxa, hxb, ra2, rb2, hka⟩ := HS.out
        rw [hka]
        exact (HRI.out W HKW.out (.num sm)).drewR
end Go.Proofs.YtklfboidjnchoaaGreatDoor
