/-
  Parts of the proof: PWait2, PChoose.
-/
import Derived.Test.YtklfboidjnchoaaGreatDoorZ14
namespace Go.Proofs.YtklfboidjnchoaaGreatDoor
open Go.RowKit Go.Proofs.YtklfboidjnchoaaGreatDoorW.PrintWords
set_option linter.unusedVariables false
set_option linter.unusedSimpArgs false
theorem bdrewN {w a : World} (h : Below w.heap.size w a) (n : Nat) : Below w.heap.size w (a.drewN n) := ⟨h.os, h.tape, h.output, h.size, h.block⟩
structure LikeW (m m' : MachD) (k : Nat) : Prop where
  gors : m'.gors.length = m.gors.length
  chans : m'.chans.length = m.chans.length
  boxes : m'.boxes = m.boxes
  queue : m'.queue = m.queue
  globals : m'.globals = m.globals
  now : m'.now = m.now
  timers : m'.timers = m.timers
  events : m'.events = m.events
  outcome : m'.outcome = m.outcome
  steps : m'.steps = m.steps
  ws : m.ws.length ≤ m'.ws.length
  few : m'.ws.length ≤ m.ws.length + k
theorem LikeW.refl (m : MachD) : LikeW m m 0 := ⟨rfl, rfl, rfl, rfl, rfl, rfl, rfl, rfl, rfl, rfl, Nat.le_refl _, Nat.le_refl _⟩
theorem LikeW.trans {m1 m2 m3 : MachD} {j k : Nat} (h : LikeW m1 m2 j) (q : LikeW m2 m3 k) : LikeW m1 m3 (j + k) :=
  ⟨q.gors.trans h.gors, q.chans.trans h.chans, q.boxes.trans h.boxes, q.queue.trans h.queue, q.globals.trans h.globals, q.now.trans h.now, q.timers.trans h.timers, q.events.trans h.events, q.outcome.trans h.outcome, q.steps.trans h.steps, Nat.le_trans h.ws q.ws, by have := h.few; have := q.few; omega⟩
theorem wait1_like (m : MachD) (g : Nat) (c : CaseD) : LikeW m (m.wait1 g c) 1 := by
  unfold MachD.wait1
  cases m.reg g c.ch with
  | num n => exact ⟨rfl, rfl, rfl, rfl, rfl, rfl, rfl, rfl, rfl, rfl, Nat.le_refl _, Nat.le_add_right _ _⟩
  | bx n => exact ⟨rfl, rfl, rfl, rfl, rfl, rfl, rfl, rfl, rfl, rfl, Nat.le_refl _, Nat.le_add_right _ _⟩
  | ch k => exact ⟨by simp [MachD.setGor, MachD.setChan], by simp [MachD.setGor, MachD.setChan], rfl, rfl, rfl, rfl, rfl, rfl, rfl, rfl, by simp [MachD.setGor, MachD.setChan], by simp [MachD.setGor, MachD.setChan]⟩
def waitsN (m : MachD) (g : Nat) (l : List CaseD) : MachD := l.foldl (fun m c => m.wait1 g c) m
theorem waitsN_snoc (m : MachD) (g : Nat) (l : List CaseD) (c : CaseD) : waitsN m g (l ++ [c]) = (waitsN m g l).wait1 g c := by unfold waitsN; rw [List.foldl_append]; rfl
theorem waitsN_like (g : Nat) (l : List CaseD) : ∀ m, LikeW m (waitsN m g l) l.length := by
  induction l with
  | nil => intro m; exact .refl m
  | cons c l ih =>
    intro m
    have := (wait1_like m g c).trans (ih (m.wait1 g c))
    rw [List.length_cons, Nat.add_comm]
    exact this
theorem wait1_leave (m : MachD) (g : Nat) (c : CaseD) : (m.wait1 g c).leave g = (m.leave g).wait1 g c := by
  have hr : (m.leave g).reg g c.ch = m.reg g c.ch := rfl
  unfold MachD.wait1
  rw [hr]
  cases m.reg g c.ch <;> rfl
theorem wait1_ok {m : MachD} {g : Nat} (ok : Ok (m.leave g)) (hg : g < m.gors.length) {c : CaseD} (hc : OkCase c) : Ok ((m.wait1 g c).leave g) := by
  rw [wait1_leave]
  obtain ⟨gd, hgd⟩ := some_lt (l := (m.leave g).gors) (i := g) hg
  exact ok.wait1 hgd (fun h => by have := (List.mem_filter.1 h).2; simp at this) hc
theorem wait1_not {m : MachD} {g : Nat} {c : CaseD} (h : ∀ k, m.reg g c.ch ≠ .ch k) : m.wait1 g c = m := by
  unfold MachD.wait1
  cases hv : m.reg g c.ch with
  | num n => rfl
  | bx n => rfl
  | ch k => exact absurd hv (h k)
def WaitJ (B : Nat) (P : Value) (σ : Lay) (ow : Owns) (m : MachD) (w : World) (g : Nat) (mj : MachD) (wr : World) : Prop :=
  ∃ σj owj, Inv B P σj owj mj wr ∧ Agree m σ σj ∧ Keep (fun b => ow b ≠ none) w wr ∧ OwMore w ow owj ∧ Ok (mj.leave g)
theorem encV_withW (σ : Lay) (n b : Nat) (x : PV) : encV (withW σ n b) x = encV σ x := by cases x <;> rfl
set_option maxRecDepth 100000 in
set_option maxHeartbeats 3200000 in
theorem wait_any {B : Nat} {P : Value} {σ : Lay} {ow : Owns} {m : MachD} {w : World} (h : Inv B P σ ow m w) {g : Nat} (ok : Ok (m.leave g)) (hq : ∀ x ∈ m.queue, x < m.gors.length) (hql : m.queue.length ≤ 1000000) (hg : g < m.gors.length) {tb c4 : Nat} {x : InstrD} {A4 : Option Addr} {draw : Int} (ht : IsTurn σ ow w tb g x A4 c4 draw)
    {A : Option Addr} {cp : Nat} (l : List CaseD) (hr : RowAt w A (l.flatMap caseC)) (hA : ∀ b o, A = some ⟨b, o, none⟩ → ow b = none) (hc : ∀ c ∈ l, OkCase c) (hfit : m.ws.length + l.length ≤ 1000000) :
    Calls Tryz.prog 95 #[.pointer (some ⟨tb, 0, none⟩), .slice A l.length cp] w fun e w' => e = .returned (.tuple #[]) ∧ ResN B P σ ow m (m.waitAll g l) w w' := by
  obtain ⟨n, hn⟩ : ∃ n, l.length = n := ⟨_, rfl⟩
  rw [hn] at hfit ⊢
  have HN := hidP hn
  have H := hidP h
  have OK := hidP ok
  have HQ := hidP hq
  have HR := hidP hr
  have HA := hidP hA
  have HC := hidP hc
  have HT := hidP ht
  have HQL := hidP hql
  have a1 := as_ch_num
  have a2 := as_ch_bx
  have a3 := as_ch_ch
  clear hn h ok hq hr hA hc ht hql
  go_enter Tryz.func95, Tryz.ntmps95
  go_wp2_with fail
  go_loopw [11] (fun v wr => ∃ j : Nat, v = .int .i64 j ∧ j ≤ n ∧ Hid (WaitJ B P σ ow m w g (waitsN m g (l.take j)) wr)) (fun v _ => n - (intOf v).toNat)
  case atStart => exact ⟨0, rfl, by omega, σ, ow, by rw [List.take_zero]; exact H.out, .refl _ _, .refl _ _, .refl _ _, by rw [List.take_zero]; exact OK.out⟩
  case round =>
    obtain ⟨j, rfl, hj, HL⟩ := hrel
    by_cases hlt : j < n
    · obtain ⟨c, hcj⟩ : ∃ c, l[j]? = some c := ⟨_, List.getElem?_eq_getElem (by rw [HN.out]; exact hlt)⟩
      have e1 : l.take (j + 1) = l.take j ++ [c] := by rw [List.take_add_one, hcj]; rfl
      obtain ⟨σj, owj, hI, hAg, hK, hM, okj⟩ := HL.out
      have lk := waitsN_like g (l.take j) m
      have hlj : (l.take j).length = j := by rw [List.length_take, HN.out]; omega
      rw [hlj] at lk
      have hcc := HC.out c (List.mem_of_getElem? hcj)
      have hgj : g < (waitsN m g (l.take j)).gors.length := by rw [lk.gors]; exact hg
      obtain ⟨gd, hgd⟩ := some_lt hgj
      have hrow := row_keep HR.out hK (fun b o e e2 => e2 (HA.out b o e))
      obtain ⟨b, o, hAe, x0, x1, x2, x3⟩ := flatC_at hrow hcj
      have htj : IsTurn σ owj wr tb g x A4 c4 draw := HT.out.keep hK hM
      obtain ⟨t0, t1, _⟩ := htj.cells
      rw [← hAg.g g hg] at t1
      obtain ⟨v, hgc, hgo, h6, g0, g1, gr, g8, gf⟩ := hI.gorAt hgd
      obtain ⟨gb, hgb⟩ : ∃ gb, σj.gA g = gb := ⟨_, rfl⟩
      obtain ⟨k, hkc, hk6⟩ := reg_nat hcc.ch.1 hcc.ch.2
      obtain ⟨q, hqc, hq6⟩ := reg_nat hcc.reg.1 hcc.reg.2
      have hgl : ((waitsN m g (l.take j)).leave g).gors[g]? = some gd := hgd
      obtain ⟨hr1, hr2⟩ := okj.reg hgl hcc.ch.1 hcc.ch.2
      obtain ⟨hs1, hs2⟩ := okj.reg hgl hcc.reg.1 hcc.reg.2
      have hreg : ∀ r, ((waitsN m g (l.take j)).leave g).reg g r = (waitsN m g (l.take j)).reg g r := fun r => rfl
      rw [hreg] at hr1 hr2 hs1 hs2
      rw [hkc] at hr1
      rw [hqc] at hs1
      have gk := gr k _ hr1
      have gq := gr q _ hs1
      rw [hgb] at t1 gk gq g0 g1 g8 gf
      obtain ⟨kd, ck, rk, dk⟩ := c
      dsimp only at x0 x1 x2 x3 hkc hqc
      subst hkc hqc
      rw [hAe]
      have hk0 : (0 : Int) ≤ (k : Int) := by omega
      have hkI : (k : Int) < 6 := by omega
      have hq0 : (0 : Int) ≤ (q : Int) := by omega
      have hqI : (q : Int) < 6 := by omega
      by_cases hch : ∃ kc, (waitsN m g (l.take j)).reg g k = .ch kc
      · obtain ⟨kc, hkc⟩ := hch
        rw [hkc] at gk hr2
        have hkcl : kc < (waitsN m g (l.take j)).chans.length := hr2
        obtain ⟨cd, hcd⟩ := some_lt hkcl
        obtain ⟨hv, sv, tv, hcell, r1, r2, r3, hne⟩ := hI.lenC hcd
        obtain ⟨cb, hcb⟩ : ∃ cb, σj.cA kc = cb := ⟨_, rfl⟩
        have hb1 := bnew (brefl wr) (.cells #[.int .i64 kd, .int .i64 k, .int .i64 q, .int .i64 dk] 109)
        have hc1 := blk_new wr (.cells #[.int .i64 kd, .int .i64 k, .int .i64 q, .int .i64 dk] 109)
        have u0 : (wr.alloc (.cells #[.int .i64 kd, .int .i64 k, .int .i64 q, .int .i64 dk] 109)).cell? ⟨wr.heap.size, 0, none⟩ = some (.int .i64 kd) := cell_of_row _ _ 0 _ _ (0, 0) hc1
        have u1 : (wr.alloc (.cells #[.int .i64 kd, .int .i64 k, .int .i64 q, .int .i64 dk] 109)).cell? ⟨wr.heap.size, 1, none⟩ = some (.int .i64 k) := cell_of_row _ _ 1 _ _ (0, 0) hc1
        have u2 : (wr.alloc (.cells #[.int .i64 kd, .int .i64 k, .int .i64 q, .int .i64 dk] 109)).cell? ⟨wr.heap.size, 2, none⟩ = some (.int .i64 q) := cell_of_row _ _ 2 _ _ (0, 0) hc1
        have u3 : (wr.alloc (.cells #[.int .i64 kd, .int .i64 k, .int .i64 q, .int .i64 dk] 109)).cell? ⟨wr.heap.size, 3, none⟩ = some (.int .i64 dk) := cell_of_row _ _ 3 _ _ (0, 0) hc1
        have t1' := (hb1.cell (p := ⟨tb, 1, none⟩) (World.block_lt_of_cell? wr _ t1)).trans t1
        have gk' := (hb1.cell (p := ⟨gb, 2 + k, none⟩) (World.block_lt_of_cell? wr _ gk)).trans gk
        have gq' := (hb1.cell (p := ⟨gb, 2 + q, none⟩) (World.block_lt_of_cell? wr _ gq)).trans gq
        have lw := hb1.size
        have ltw := (block_lt hc1)
        rw [show encV σj (.ch kc) = .iface 102 (.pointer (some ⟨cb, 0, none⟩)) from by rw [← hcb]; rfl] at gk'
        go_upto_region 3 with fail
        generalize wr.alloc (.cells #[.int .i64 kd, .int .i64 k, .int .i64 q, .int .i64 dk] 109) = wa at *
        go_quiet (fail)
        have t2 : (wa.drewN nq).cell? ⟨tb, 1, none⟩ = some (.pointer (some ⟨gb, 0, none⟩)) := t1'
        have q2 : (wa.drewN nq).cell? ⟨gb, 2 + q, none⟩ = some (encV σj ((waitsN m g (l.take j)).reg g q)) := gq'
        have v0 : (wa.drewN nq).cell? ⟨wr.heap.size, 0, none⟩ = some (.int .i64 kd) := u0
        have v2 : (wa.drewN nq).cell? ⟨wr.heap.size, 2, none⟩ = some (.int .i64 q) := u2
        have v3 : (wa.drewN nq).cell? ⟨wr.heap.size, 3, none⟩ = some (.int .i64 dk) := u3
        have hbW : Below wr.heap.size wr (wa.drewN nq) := bdrewN hb1 nq
        have lwW : wr.heap.size < (wa.drewN nq).heap.size := ltw
        clear t1' gk' gq' u0 u1 u2 u3 hb1 hc1 lw ltw x0 x1 x2 x3
        generalize wa.drewN nq = Wa at *
        clear wa
        go_upto_region 5 with fail
        go_still_tail 9, (by kernel_rfl)
        go_upto_region 6 with fail
        obtain ⟨wb, hwb⟩ : ∃ wb, Wa.heap.size = wb := ⟨_, rfl⟩
        have hbA : Below Wa.heap.size Wa (Wa.alloc (.cells #[.pointer (some ⟨gb, 0, none⟩), .pointer (some ⟨cb, 0, none⟩), .nilIface, .int .i64 q, .int .i64 dk] 172)).drew := (bnew (brefl Wa) _).drew
        have hc5 : (Wa.alloc (.cells #[.pointer (some ⟨gb, 0, none⟩), .pointer (some ⟨cb, 0, none⟩), .nilIface, .int .i64 q, .int .i64 dk] 172)).drew.heap[wb]? = some (.cells #[.pointer (some ⟨gb, 0, none⟩), .pointer (some ⟨cb, 0, none⟩), .nilIface, .int .i64 q, .int .i64 dk] 172 (0, 0)) := by rw [← hwb]; exact heap_alloc_new Wa _
        have hb5 : Below wr.heap.size wr (Wa.alloc (.cells #[.pointer (some ⟨gb, 0, none⟩), .pointer (some ⟨cb, 0, none⟩), .nilIface, .int .i64 q, .int .i64 dk] 172)).drew := (bnew hbW _).drew
        have y0 := (hbA.cell (p := ⟨wr.heap.size, 0, none⟩) lwW).trans v0
        have y2 := (hbA.cell (p := ⟨wr.heap.size, 2, none⟩) lwW).trans v2
        have yt := (hbA.cell (p := ⟨tb, 1, none⟩) (World.block_lt_of_cell? Wa _ t2)).trans t2
        have yq := (hbA.cell (p := ⟨gb, 2 + q, none⟩) (World.block_lt_of_cell? Wa _ q2)).trans q2
        have hwbl : wr.heap.size ≤ wb := by omega
        have HTJ := hidP htj
        have HIJ := hidP (⟨hI, hAg, hK, hM, okj, hgb, hcb⟩ : _ ∧ _ ∧ _ ∧ _ ∧ _ ∧ _ ∧ _)
        have HE1 := hidP e1
        have HCJ := hidP (⟨hcj, hcc, hgd, hcd, hkc, lk⟩ : _ ∧ _ ∧ _ ∧ _ ∧ _ ∧ _)
        rw [hwb]
        generalize (Wa.alloc (.cells #[.pointer (some ⟨gb, 0, none⟩), .pointer (some ⟨cb, 0, none⟩), .nilIface, .int .i64 q, .int .i64 dk] 172)).drew = W5 at *
        clear hbA v0 v2 v3 t2 q2 hbW lwW hwb htj hI hAg hK hM okj hgb hcb e1 hcj hcc hgd hcd hkc lk gk gq gr gf g0 g1 g8 h6 hgc hgo hrow hr1 hr2 hs1 hs2 hreg hgl hgj hkcl hcell r1 r2 r3 hne t0 t1 hlj
        by_cases hkd : kd = 1
        · subst hkd
          obtain ⟨VT, VU, hV⟩ := encV_iface σj ((waitsN m g (l.take j)).reg g q)
          rw [hV] at yq
          have HV := hidP hV
          have w2' := cell_of_row W5 wb 2 _ _ (0, 0) hc5
          have w3' := cell_of_row W5 wb 3 _ _ (0, 0) hc5
          have zf2 := frozen_of_row W5 wb 2 _ _ hc5
          have zf3 := frozen_of_row W5 wb 3 _ _ hc5
          simp at w2' w3'
          clear hV
          go_upto_region 7 with fail
          have hSS : (fun w' : World => w'.cell? ⟨tb, 1, none⟩ = some (.pointer (some ⟨gb, 0, none⟩)) ∧ w'.cell? ⟨wr.heap.size, 2, none⟩ = some (.int .i64 q) ∧ w'.cell? ⟨gb, 2 + q, none⟩ = some (.iface VT VU)) W5.drew := ⟨yt, y2, yq⟩
          refine OrdG.begin (fun w' : World => w'.cell? ⟨tb, 1, none⟩ = some (.pointer (some ⟨gb, 0, none⟩)) ∧ w'.cell? ⟨wr.heap.size, 2, none⟩ = some (.int .i64 q) ∧ w'.cell? ⟨gb, 2 + q, none⟩ = some (.iface VT VU)) 14 (by kernel_rfl) hSS ?_
          refine OrdG.ty 0 _ rfl (.inl hSS) ?_
          simp only [Act.put, stA, stS, stZ]
          refine OrdG.ty 1 _ rfl (.inl hSS) ?_
          simp only [Act.put, stA, stS, stZ]
          refine OrdG.ty 2 _ rfl (.inl hSS) ?_
          simp only [Act.put, stA, stS, stZ]
          refine OrdG.ty 3 _ rfl (.inl hSS) ?_
          simp only [Act.put, stA, stS, stZ]
          refine OrdG.ty 4 _ rfl (.inl hSS) ?_
          simp only [Act.put, stA, stS, stZ]
          refine OrdG.tk 5 _ rfl (by assumption) ?_
          simp only [Act.put, stA, stS, stZ]
          refine OrdG.ty 6 _ rfl (.inl hSS) ?_
          simp only [Act.put, stA, stS, stZ]
          refine OrdG.tk 7 _ rfl (by assumption) ?_
          simp only [Act.put, stA, stS, stZ]
          refine OrdG.ty 8 _ rfl (.inl hSS) ?_
          simp only [Act.put, stA, stS, stZ]
          refine OrdG.ty 9 _ rfl (.inl hSS) ?_
          simp only [Act.put, stA, stS, stZ]
          refine OrdG.ty 10 _ rfl (.inl hSS) ?_
          simp only [Act.put, stA, stS, stZ]
          refine OrdG.tk 11 _ rfl (by assumption) ?_
          simp only [Act.put, stA, stS, stZ]
          refine OrdG.ty 12 _ rfl (.inl hSS) ?_
          simp only [Act.put, stA, stS, stZ]
          refine OrdG.ty 13 _ rfl (.inl hSS) ?_
          simp only [Act.put, stA, stS, stZ]
          refine OrdG.one (i := 14) (by kernel_rfl) rfl (fun K hK => ?_)
          go_simp
          refine hK.out _ _ (.inr (by kernel_rfl)) ?_
          clear hK
          refine OrdG.ty 15 _ rfl (.inr (by kernel_rfl)) ?_
          simp only [Act.put, stA, stS, stZ]
          refine OrdG.ty 16 _ rfl (.inr (by kernel_rfl)) ?_
          simp only [Act.put, stA, stS, stZ]
          refine OrdG.one (i := 17) (by kernel_rfl) rfl (fun K hK => ?_)
          go_simp
          refine hK.out _ _ (.inr (by kernel_rfl)) ?_
          clear hK
          refine OrdG.done (by kernel_rfl) ?_ _
          clear hSS
          have hc7 : ((W5.setCell ⟨wb, 2, none⟩ (.iface VT VU)).setCell ⟨wb, 3, none⟩ (.int .i64 (-1))).drew.heap[wb]? = some (.cells #[.pointer (some ⟨gb, 0, none⟩), .pointer (some ⟨cb, 0, none⟩), .iface VT VU, .int .i64 (-1), .int .i64 dk] 172 (0, 0)) :=
            heap_setCell_same _ wb 3 _ _ _ (heap_setCell_same W5 wb 2 _ _ (.iface VT VU) hc5)
          have hb7 : Below wr.heap.size wr ((W5.setCell ⟨wb, 2, none⟩ (.iface VT VU)).setCell ⟨wb, 3, none⟩ (.int .i64 (-1))).drew := ((hb5.setCell (p := ⟨wb, 2, none⟩) hwbl _).setCell (p := ⟨wb, 3, none⟩) hwbl _).drew
          have hwc : Hid (some (PV.num 0) = some (PV.num 0)) := rfl
          generalize ((W5.setCell ⟨wb, 2, none⟩ (.iface VT VU)).setCell ⟨wb, 3, none⟩ (.int .i64 (-1))).drew = W7 at *
          have hcW : Hid (W7.heap[wb]? = some (.cells (waitCells (withW σj (waitsN m g (l.take j)).ws.length wb) (waitOf (waitsN m g (l.take j)) g kc ⟨1, k, q, dk⟩)) 172 (0, 0))) := by
            obtain ⟨hI, hAg, hK, hM, okj, hgb, hcb⟩ := HIJ.out
            show _ = _
            rw [hc7, ← HV.out, ← hgb, ← hcb, ← encV_withW σj (waitsN m g (l.take j)).ws.length wb]
            unfold waitOf
            rw [if_pos rfl]
            rfl
          clear hc7 y0 y2 yt yq hc5 hb5 w2' w3' zf2 zf3 hwc
          obtain ⟨hI, hAg, hK, hM, okj, hgb, hcb⟩ := HIJ.out
          obtain ⟨hcj, hcc, hgd, hcd, hkc, lk⟩ := HCJ.out
          have hqj : ∀ x ∈ (waitsN m g (l.take j)).queue, x < (waitsN m g (l.take j)).gors.length := fun x hx => by rw [lk.gors]; exact HQ.out x (by rw [← lk.queue]; exact hx)
          have hI7 := hI.addW okj hqj hb7 hwbl hcW.out
          have ht7 := HTJ.out.below hb7 (some (.wt (waitsN m g (l.take j)).ws.length))
          have hcd7 : ({ waitsN m g (l.take j) with ws := (waitsN m g (l.take j)).ws ++ [waitOf (waitsN m g (l.take j)) g kc ⟨1, k, q, dk⟩] } : MachD).chans[kc]? = some cd := hcd
          obtain ⟨hv7, sv7, tv7, hcell7, r71, r72, r73, hne7⟩ := hI7.lenC hcd7
          have hcb7 : (withW σj (waitsN m g (l.take j)).ws.length wb).cA kc = cb := hcb
          have hc7 : W7.heap[cb]? = some (.cells (chanCells cd hv7 sv7 tv7) 124 (0, 0)) := by rw [← hcb7]; exact hcell7.1
          obtain ⟨_, _, _, d3, d4, df⟩ := chan_cells hc7
          have df3 := df 3
          have oc := okj.chan kc cd hcd
          have hfew : cd.sends.length ≤ 1000000 := by have := oc.fewS; have h2 : (waitsN m g (l.take j)).ws.length = ((waitsN m g (l.take j)).leave g).ws.length := rfl; have := lk.few; omega
          have hsB : B ≤ W7.heap.size := hI7.size
          have HX := hidP (⟨hI7, ht7, hcd7, hcell7, r71, r72, r73, hne7, hcb7⟩ : _ ∧ _ ∧ _ ∧ _ ∧ _ ∧ _ ∧ _ ∧ _ ∧ _)
          have HO := hidP r72.1
          have HCB := hidP hc7
          have HNB : Hid (sv7.ownBlock ≠ some cb) := by show _ ≠ _; rw [← hcb7]; exact r72.row_ne hcell7.1 (by decide)
          clear hI hAg hK hM okj hgb hcb hcj hcc hgd hcd hqj hI7 hcd7 hcell7 r71 r72 r73 hne7 hcb7 hc7 df oc hkc lk
          obtain ⟨ns, hns⟩ : ∃ ns, cd.sends.length = ns := ⟨_, rfl⟩
          rw [hns] at HO hfew
          have HNS := hidP hns
          clear hns
          go_upto_region 10 with (at_builtin; go_loud (refine (wpList_app _ rfl (.tmp 65) (.tmp 67) rfl Tryz.slWait B sv7 ns _ rfl (HO.out.alloc _) (some ⟨W7.heap.size, 0, none⟩) 1 1 [.pointer (some ⟨wb, 0, none⟩)] rfl (ns + 1) rfl (RowAt.new W7 [.pointer (some ⟨wb, 0, none⟩)] _) rfl (by simp; rfl) (by omega) (by unfold maxLen; omega) (Nat.le_trans hsB (by simp)) ?_)); intro a8 c8 w8 ho8 hg8 hw8; have kp8 : Keep (fun b => (sv7).ownBlock = some b) W7 w8 := keep_app hg8 (by first | exact (Keep.refl _ W7).alloc _ | exact ((Keep.refl _ W7).drew).alloc _ | exact ((Keep.refl _ W7).alloc _).drew) (fun k hk => hk); have hc8 := (kp8.block cb (blk_lt HCB.out) HNB.out).trans HCB.out; obtain ⟨_, _, _, f3, f4, ff⟩ := chan_cells hc8; have ff3 := ff 3; have HO8 := hidP ho8; have KP8 := hidP kp8; have HW8 := hidP hw8; clear ho8 kp8 hw8 hg8 hc8 ff)
          obtain ⟨hI7, ht7, hcd7, hcell7, r71, r72, r73, hne7, hcb7⟩ := HX.out
          obtain ⟨hI, hAg, hK, hM, okj, hgb, hcb⟩ := HIJ.out
          obtain ⟨hcj, hcc, hgd, hcd, hkc, lk⟩ := HCJ.out
          have hnw : (withW σj (waitsN m g (l.take j)).ws.length wb).wA (waitsN m g (l.take j)).ws.length = wb := by unfold withW; simp
          have hres := hI7.sendsPut hcd7 hcell7 r71 r72 r73 hne7 (l' := cd.sends ++ [(waitsN m g (l.take j)).ws.length]) (v' := .slice a8 (ns + 1) c8) KP8.out (by
            have e9 : wPtrs (withW σj (waitsN m g (l.take j)).ws.length wb) (cd.sends ++ [(waitsN m g (l.take j)).ws.length]) = wPtrs (withW σj (waitsN m g (l.take j)).ws.length wb) cd.sends ++ [.pointer (some ⟨wb, 0, none⟩)] := by
              unfold wPtrs
              rw [List.map_append, List.map_cons, List.map_nil, hnw]
            rw [e9, List.length_append, HNS.out]
            exact HO8.out) (fun b hb => by
              rcases HW8.out with h | h
              · exact .inl (h.symm.trans hb)
              · rw [h] at hb; cases hb; exact .inr (by simp))
          rw [hcb7] at hres
          generalize w8.setCell ⟨cb, 3, none⟩ (.slice a8 (ns + 1) c8) = W9 at *
          obtain ⟨ow9, hI9, hK9, hM9⟩ := hres
          have ht9 := ht7.keep hK9 hM9
          have s1 := ht9.cells.2.1
          rw [← hAg.g g hg, hgb] at s1
          obtain ⟨_, v9, hgc9, hgr9⟩ := hI9.gor g gd hgd
          have hgb9 : (withW σj (waitsN m g (l.take j)).ws.length wb).gA g = gb := hgb
          obtain ⟨u9, hg9, _, hl9, _, _, _, s8, sf⟩ := hI9.gorAt hgd
          rw [hgb9] at hg9 s8 sf
          have huv : u9 = v9 := by
            have e := cell_of_row W9 gb 8 _ _ (0, 0) (show W9.heap[gb]? = some (.cells (gorCells (withW σj (waitsN m g (l.take j)).ws.length wb) g gd v9) 98 (0, 0)) by rw [← hgb9]; exact hgc9.1)
            rw [s8] at e
            have hl : (gd.regs.map (encV (withW σj (waitsN m g (l.take j)).ws.length wb))).length = 6 := by rw [List.length_map]; exact hl9
            unfold gorCells at e
            simp [hl] at e
            exact e
          subst huv
          have sf8 := sf 8
          have hfw : gd.waits.length ≤ 1000000 := by have := (okj.gor g gd hgd).few; have h2 : (waitsN m g (l.take j)).ws.length = ((waitsN m g (l.take j)).leave g).ws.length := rfl; have := lk.few; omega
          obtain ⟨nv, hnv⟩ : ∃ nv, gd.waits.length = nv := ⟨_, rfl⟩
          have HOG := hidP hgr9.1
          rw [hnv] at HOG hfw
          have HNV := hidP hnv
          have HG9 := hidP hg9
          have HNG : Hid (u9.ownBlock ≠ some gb) := by show _ ≠ _; rw [← hgb9]; exact hgr9.row_ne hgc9.1 (by decide)
          have hsB9 : B ≤ W9.heap.size := hI9.size
          have HX9 := hidP (⟨hI9, hK9, hM9, hgd, hgr9, hgb9, hnw⟩ : _ ∧ _ ∧ _ ∧ _ ∧ _ ∧ _ ∧ _)
          clear hI7 ht7 hcd7 hcell7 r71 r72 r73 hne7 hcb7 hI hAg hK hM okj hgb hcb hcj hcc hgd hcd hkc lk hI9 hK9 hM9 ht9 hgc9 hgr9 hgb9 hg9 hl9 sf hnv hnw
          have hSS : (fun w' : World => w'.cell? ⟨tb, 1, none⟩ = some (.pointer (some ⟨gb, 0, none⟩)) ∧ w'.cell? ⟨gb, 8, none⟩ = some u9) W9.drew := ⟨s1, s8⟩
          refine OrdG.begin (fun w' : World => w'.cell? ⟨tb, 1, none⟩ = some (.pointer (some ⟨gb, 0, none⟩)) ∧ w'.cell? ⟨gb, 8, none⟩ = some u9) 16 (by kernel_rfl) hSS ?_
          refine OrdG.ty 0 _ rfl (.inl hSS) ?_
          simp only [Act.put, stA, stS, stZ]
          refine OrdG.ty 1 _ rfl (.inl hSS) ?_
          simp only [Act.put, stA, stS, stZ]
          refine OrdG.ty 2 _ rfl (.inl hSS) ?_
          simp only [Act.put, stA, stS, stZ]
          refine OrdG.tk 3 _ rfl (by assumption) ?_
          simp only [Act.put, stA, stS, stZ]
          refine OrdG.ty 4 _ rfl (.inl hSS) ?_
          simp only [Act.put, stA, stS, stZ]
          refine OrdG.ty 5 _ rfl (.inl hSS) ?_
          simp only [Act.put, stA, stS, stZ]
          refine OrdG.ty 6 _ rfl (.inl hSS) ?_
          simp only [Act.put, stA, stS, stZ]
          refine OrdG.tk 7 _ rfl (by assumption) ?_
          simp only [Act.put, stA, stS, stZ]
          refine OrdG.ty 8 _ rfl (.inl hSS) ?_
          simp only [Act.put, stA, stS, stZ]
          refine OrdG.ty 9 _ rfl (.inl hSS) ?_
          simp only [Act.put, stA, stS, stZ]
          refine OrdG.tk 10 _ rfl (by assumption) ?_
          simp only [Act.put, stA, stS, stZ]
          refine OrdG.ty 11 _ rfl (.inl hSS) ?_
          simp only [Act.put, stA, stS, stZ]
          refine OrdG.one (i := 12) (by kernel_rfl) rfl (fun K hK => ?_)
          go_simp
          refine hK.out _ _ (.inl (by go_keep)) ?_
          clear hK
          refine OrdG.one (i := 13) (by kernel_rfl) rfl (fun K hK => ?_)
          refine step_app _ rfl (.tmp 91) (.tmp 93) rfl Tryz.slWait B u9 nv _ rfl (HOG.out.alloc _) (some ⟨W9.heap.size, 0, none⟩) 1 1 [.pointer (some ⟨wb, 0, none⟩)] rfl (nv + 1) rfl (RowAt.new W9 [.pointer (some ⟨wb, 0, none⟩)] _) rfl (by simp; rfl) (by omega) (by unfold maxLen; omega) (Nat.le_trans hsB9 (by simp)) ?_
          intro a10 c10 w10 ho10 hg10 hw10
          have kp10 : Keep (fun b => u9.ownBlock = some b) W9 w10 := keep_app hg10 (by first | exact (Keep.refl _ W9).alloc _ | exact ((Keep.refl _ W9).alloc _).drew) (fun k hk => hk)
          have hc10 := (kp10.block gb (blk_lt HG9.out) HNG.out).trans HG9.out
          have o8 : w10.cell? ⟨gb, 8, none⟩ = some u9 := Keep.cell (p := ⟨gb, 8, none⟩) kp10 HNG.out s8
          have of8 := frozen_of_row w10 gb 8 _ _ hc10
          have o1 : w10.cell? ⟨tb, 1, none⟩ = some (.pointer (some ⟨gb, 0, none⟩)) := by
            refine Keep.cell (p := ⟨tb, 1, none⟩) kp10 ?_ s1
            intro e
            obtain ⟨hI9, hK9, hM9, hgd, hgr9, hgb9, hnw⟩ := HX9.out
            obtain ⟨hI7, ht7, _⟩ := HX.out
            have e1 := hgr9.2 tb e
            rw [(ht7.keep hK9 hM9).free] at e1
            cases e1
          have HO10 := hidP ho10
          have KP10 := hidP kp10
          have HW10 := hidP hw10
          clear ho10 kp10 hw10 hg10 hc10
          refine hK.out _ _ (.inl ⟨o1, o8⟩) ?_
          clear hK
          refine OrdG.ty 14 _ rfl (.inl ⟨o1, o8⟩) ?_
          simp only [Act.put, stA, stS, stZ]
          refine OrdG.ty 15 _ rfl (.inl ⟨o1, o8⟩) ?_
          simp only [Act.put, stA, stS, stZ]
          refine OrdG.one (i := 16) (by kernel_rfl) rfl (fun K hK => ?_)
          go_simp
          refine hK.out _ _ (.inr (by kernel_rfl)) ?_
          clear hK
          refine OrdG.done (by kernel_rfl) ?_ _
          clear hSS
          obtain ⟨hI9, hK9, hM9, hgd, hgr9, hgb9, hnw⟩ := HX9.out
          have hres := hI9.waitsPut hgd (by rw [hgb9]; exact HG9.out) hgr9 (l' := gd.waits ++ [(waitsN m g (l.take j)).ws.length]) (v' := .slice a10 (nv + 1) c10) KP10.out (by
            have e9 : wPtrs (withW σj (waitsN m g (l.take j)).ws.length wb) (gd.waits ++ [(waitsN m g (l.take j)).ws.length]) = wPtrs (withW σj (waitsN m g (l.take j)).ws.length wb) gd.waits ++ [.pointer (some ⟨wb, 0, none⟩)] := by
              unfold wPtrs
              rw [List.map_append, List.map_cons, List.map_nil, hnw]
            rw [e9, List.length_append, HNV.out]
            exact HO10.out) (fun b hb => by
              rcases HW10.out with h | h
              · exact .inl (h.symm.trans hb)
              · rw [h] at hb; cases hb; exact .inr (by simp))
          rw [hgb9] at hres
          have hfin : Hid (∀ W, Res B P (withW σj (waitsN m g (l.take j)).ws.length wb) ow9 ((({ waitsN m g (l.take j) with ws := (waitsN m g (l.take j)).ws ++ [waitOf (waitsN m g (l.take j)) g kc ⟨1, k, q, dk⟩] } : MachD).setChan kc { cd with sends := cd.sends ++ [(waitsN m g (l.take j)).ws.length] }).setGor g ⟨gd.pc, gd.regs, gd.waits ++ [(waitsN m g (l.take j)).ws.length]⟩) W9 W → WaitJ B P σ ow m w g (waitsN m g (l.take (j + 1))) W) := fun W hr => by
            obtain ⟨hI, hAg, hK, hM, okj, hgb, hcb⟩ := HIJ.out
            obtain ⟨hcj, hcc, hgd, hcd, hkc, lk⟩ := HCJ.out
            obtain ⟨ow10, h10, k10, m10⟩ := hr
            obtain ⟨hI7, ht7, _⟩ := HX.out
            have ew : (waitsN m g (l.take j)).wait1 g ⟨1, k, q, dk⟩ = ((({ waitsN m g (l.take j) with ws := (waitsN m g (l.take j)).ws ++ [waitOf (waitsN m g (l.take j)) g kc ⟨1, k, q, dk⟩] } : MachD).setChan kc { cd with sends := cd.sends ++ [(waitsN m g (l.take j)).ws.length] }).setGor g ⟨gd.pc, gd.regs, gd.waits ++ [(waitsN m g (l.take j)).ws.length]⟩) := by
              rw [wait1_eq hgd hcd hkc]
              unfold MachD.setChan MachD.setGor
              rw [if_pos rfl]
            refine ⟨withW σj (waitsN m g (l.take j)).ws.length wb, ow10, ?_, hAg.trans (agree_withW _ σj wb) (Nat.le_of_eq lk.gors.symm) (Nat.le_of_eq lk.chans.symm) (Nat.le_of_eq (by rw [lk.boxes])) lk.ws, ?_, ?_, ?_⟩
            · rw [HE1.out, waitsN_snoc, ew]
              exact h10
            · have k7 : Keep (fun b => ow b ≠ none) w W7 := hK.trans (.of_below hb7)
              have m7 := hM.trans hK.size (OwMore.frm (w := wr) (ow := owj) (some (.wt (waitsN m g (l.take j)).ws.length)))
              have k9 := k7.then hK9 (fun i hi e => by rw [m7 i hi] at e; exact e)
              exact k9.then k10 (fun i hi e => by rw [(m7.trans k7.size hM9) i hi] at e; exact e)
            · have k7 : Keep (fun b => ow b ≠ none) w W7 := hK.trans (.of_below hb7)
              have m7 := hM.trans hK.size (OwMore.frm (w := wr) (ow := owj) (some (.wt (waitsN m g (l.take j)).ws.length)))
              have k9 := k7.then hK9 (fun i hi e => by rw [m7 i hi] at e; exact e)
              exact (m7.trans k7.size hM9).trans k9.size m10
            · rw [HE1.out, waitsN_snoc]
              exact wait1_ok okj (by rw [lk.gors]; exact hg) hcc
          have HRES := hidP (hfin.out _ hres)
          clear hres hfin hI9 hK9 hM9 hgd hgr9 hgb9 hnw
          go_wp2_with fail
          go_roundw
          case measure => simp [intOf]; omega
          case rel => exact ⟨j + 1, by go_num, by omega, HRES⟩
        · go_upto_region 9 with fail
          have hcW : Hid (W5.heap[wb]? = some (.cells (waitCells (withW σj (waitsN m g (l.take j)).ws.length wb) (waitOf (waitsN m g (l.take j)) g kc ⟨kd, k, q, dk⟩)) 172 (0, 0))) := by
            obtain ⟨hI, hAg, hK, hM, okj, hgb, hcb⟩ := HIJ.out
            show _ = _
            rw [hc5, ← hgb, ← hcb]
            unfold waitOf
            rw [if_neg hkd]
            rfl
          have hb7 := hb5
          clear y0 y2 yt yq hc5 hb5
          generalize W5 = W7 at *
          obtain ⟨hI, hAg, hK, hM, okj, hgb, hcb⟩ := HIJ.out
          obtain ⟨hcj, hcc, hgd, hcd, hkc, lk⟩ := HCJ.out
          have hqj : ∀ x ∈ (waitsN m g (l.take j)).queue, x < (waitsN m g (l.take j)).gors.length := fun x hx => by rw [lk.gors]; exact HQ.out x (by rw [← lk.queue]; exact hx)
          have hI7 := hI.addW okj hqj hb7 hwbl hcW.out
          have ht7 := HTJ.out.below hb7 (some (.wt (waitsN m g (l.take j)).ws.length))
          have hcd7 : ({ waitsN m g (l.take j) with ws := (waitsN m g (l.take j)).ws ++ [waitOf (waitsN m g (l.take j)) g kc ⟨kd, k, q, dk⟩] } : MachD).chans[kc]? = some cd := hcd
          obtain ⟨hv7, sv7, tv7, hcell7, r71, r72, r73, hne7⟩ := hI7.lenC hcd7
          have hcb7 : (withW σj (waitsN m g (l.take j)).ws.length wb).cA kc = cb := hcb
          have hc7 : W7.heap[cb]? = some (.cells (chanCells cd hv7 sv7 tv7) 124 (0, 0)) := by rw [← hcb7]; exact hcell7.1
          obtain ⟨_, _, _, d3, d4, df⟩ := chan_cells hc7
          have df4 := df 4
          have oc := okj.chan kc cd hcd
          have hfew : cd.takes.length ≤ 1000000 := by have := oc.fewT; have h2 : (waitsN m g (l.take j)).ws.length = ((waitsN m g (l.take j)).leave g).ws.length := rfl; have := lk.few; omega
          have hsB : B ≤ W7.heap.size := hI7.size
          have HX := hidP (⟨hI7, ht7, hcd7, hcell7, r71, r72, r73, hne7, hcb7⟩ : _ ∧ _ ∧ _ ∧ _ ∧ _ ∧ _ ∧ _ ∧ _ ∧ _)
          have HO := hidP r73.1
          have HCB := hidP hc7
          have HNB : Hid (tv7.ownBlock ≠ some cb) := by show _ ≠ _; rw [← hcb7]; exact r73.row_ne hcell7.1 (by decide)
          clear hI hAg hK hM okj hgb hcb hcj hcc hgd hcd hqj hI7 hcd7 hcell7 r71 r72 r73 hne7 hcb7 hc7 df oc hkc lk
          obtain ⟨ns, hns⟩ : ∃ ns, cd.takes.length = ns := ⟨_, rfl⟩
          rw [hns] at HO hfew
          have HNS := hidP hns
          clear hns
          go_upto_region 10 with (at_builtin; go_loud (refine (wpList_app _ rfl (.tmp 75) (.tmp 77) rfl Tryz.slWait B tv7 ns _ rfl (HO.out.alloc _) (some ⟨W7.heap.size, 0, none⟩) 1 1 [.pointer (some ⟨wb, 0, none⟩)] rfl (ns + 1) rfl (RowAt.new W7 [.pointer (some ⟨wb, 0, none⟩)] _) rfl (by simp; rfl) (by omega) (by unfold maxLen; omega) (Nat.le_trans hsB (by simp)) ?_)); intro a8 c8 w8 ho8 hg8 hw8; have kp8 : Keep (fun b => (tv7).ownBlock = some b) W7 w8 := keep_app hg8 (by first | exact (Keep.refl _ W7).alloc _ | exact ((Keep.refl _ W7).drew).alloc _ | exact ((Keep.refl _ W7).alloc _).drew) (fun k hk => hk); have hc8 := (kp8.block cb (blk_lt HCB.out) HNB.out).trans HCB.out; obtain ⟨_, _, _, f3, f4, ff⟩ := chan_cells hc8; have ff4 := ff 4; have HO8 := hidP ho8; have KP8 := hidP kp8; have HW8 := hidP hw8; clear ho8 kp8 hw8 hg8 hc8 ff)
          obtain ⟨hI7, ht7, hcd7, hcell7, r71, r72, r73, hne7, hcb7⟩ := HX.out
          obtain ⟨hI, hAg, hK, hM, okj, hgb, hcb⟩ := HIJ.out
          obtain ⟨hcj, hcc, hgd, hcd, hkc, lk⟩ := HCJ.out
          have hnw : (withW σj (waitsN m g (l.take j)).ws.length wb).wA (waitsN m g (l.take j)).ws.length = wb := by unfold withW; simp
          have hres := hI7.takesPut hcd7 hcell7 r71 r72 r73 hne7 (l' := cd.takes ++ [(waitsN m g (l.take j)).ws.length]) (v' := .slice a8 (ns + 1) c8) KP8.out (by
            have e9 : wPtrs (withW σj (waitsN m g (l.take j)).ws.length wb) (cd.takes ++ [(waitsN m g (l.take j)).ws.length]) = wPtrs (withW σj (waitsN m g (l.take j)).ws.length wb) cd.takes ++ [.pointer (some ⟨wb, 0, none⟩)] := by
              unfold wPtrs
              rw [List.map_append, List.map_cons, List.map_nil, hnw]
            rw [e9, List.length_append, HNS.out]
            exact HO8.out) (fun b hb => by
              rcases HW8.out with h | h
              · exact .inl (h.symm.trans hb)
              · rw [h] at hb; cases hb; exact .inr (by simp))
          rw [hcb7] at hres
          generalize w8.setCell ⟨cb, 4, none⟩ (.slice a8 (ns + 1) c8) = W9 at *
          obtain ⟨ow9, hI9, hK9, hM9⟩ := hres
          have ht9 := ht7.keep hK9 hM9
          have s1 := ht9.cells.2.1
          rw [← hAg.g g hg, hgb] at s1
          obtain ⟨_, v9, hgc9, hgr9⟩ := hI9.gor g gd hgd
          have hgb9 : (withW σj (waitsN m g (l.take j)).ws.length wb).gA g = gb := hgb
          obtain ⟨u9, hg9, _, hl9, _, _, _, s8, sf⟩ := hI9.gorAt hgd
          rw [hgb9] at hg9 s8 sf
          have huv : u9 = v9 := by
            have e := cell_of_row W9 gb 8 _ _ (0, 0) (show W9.heap[gb]? = some (.cells (gorCells (withW σj (waitsN m g (l.take j)).ws.length wb) g gd v9) 98 (0, 0)) by rw [← hgb9]; exact hgc9.1)
            rw [s8] at e
            have hl : (gd.regs.map (encV (withW σj (waitsN m g (l.take j)).ws.length wb))).length = 6 := by rw [List.length_map]; exact hl9
            unfold gorCells at e
            simp [hl] at e
            exact e
          subst huv
          have sf8 := sf 8
          have hfw : gd.waits.length ≤ 1000000 := by have := (okj.gor g gd hgd).few; have h2 : (waitsN m g (l.take j)).ws.length = ((waitsN m g (l.take j)).leave g).ws.length := rfl; have := lk.few; omega
          obtain ⟨nv, hnv⟩ : ∃ nv, gd.waits.length = nv := ⟨_, rfl⟩
          have HOG := hidP hgr9.1
          rw [hnv] at HOG hfw
          have HNV := hidP hnv
          have HG9 := hidP hg9
          have HNG : Hid (u9.ownBlock ≠ some gb) := by show _ ≠ _; rw [← hgb9]; exact hgr9.row_ne hgc9.1 (by decide)
          have hsB9 : B ≤ W9.heap.size := hI9.size
          have HX9 := hidP (⟨hI9, hK9, hM9, hgd, hgr9, hgb9, hnw⟩ : _ ∧ _ ∧ _ ∧ _ ∧ _ ∧ _ ∧ _)
          clear hI7 ht7 hcd7 hcell7 r71 r72 r73 hne7 hcb7 hI hAg hK hM okj hgb hcb hcj hcc hgd hcd hkc lk hI9 hK9 hM9 ht9 hgc9 hgr9 hgb9 hg9 hl9 sf hnv hnw
          have hSS : (fun w' : World => w'.cell? ⟨tb, 1, none⟩ = some (.pointer (some ⟨gb, 0, none⟩)) ∧ w'.cell? ⟨gb, 8, none⟩ = some u9) W9.drew := ⟨s1, s8⟩
          refine OrdG.begin (fun w' : World => w'.cell? ⟨tb, 1, none⟩ = some (.pointer (some ⟨gb, 0, none⟩)) ∧ w'.cell? ⟨gb, 8, none⟩ = some u9) 16 (by kernel_rfl) hSS ?_
          refine OrdG.ty 0 _ rfl (.inl hSS) ?_
          simp only [Act.put, stA, stS, stZ]
          refine OrdG.ty 1 _ rfl (.inl hSS) ?_
          simp only [Act.put, stA, stS, stZ]
          refine OrdG.ty 2 _ rfl (.inl hSS) ?_
          simp only [Act.put, stA, stS, stZ]
          refine OrdG.tk 3 _ rfl (by assumption) ?_
          simp only [Act.put, stA, stS, stZ]
          refine OrdG.ty 4 _ rfl (.inl hSS) ?_
          simp only [Act.put, stA, stS, stZ]
          refine OrdG.ty 5 _ rfl (.inl hSS) ?_
          simp only [Act.put, stA, stS, stZ]
          refine OrdG.ty 6 _ rfl (.inl hSS) ?_
          simp only [Act.put, stA, stS, stZ]
          refine OrdG.tk 7 _ rfl (by assumption) ?_
          simp only [Act.put, stA, stS, stZ]
          refine OrdG.ty 8 _ rfl (.inl hSS) ?_
          simp only [Act.put, stA, stS, stZ]
          refine OrdG.ty 9 _ rfl (.inl hSS) ?_
          simp only [Act.put, stA, stS, stZ]
          refine OrdG.tk 10 _ rfl (by assumption) ?_
          simp only [Act.put, stA, stS, stZ]
          refine OrdG.ty 11 _ rfl (.inl hSS) ?_
          simp only [Act.put, stA, stS, stZ]
          refine OrdG.one (i := 12) (by kernel_rfl) rfl (fun K hK => ?_)
          go_simp
          refine hK.out _ _ (.inl (by go_keep)) ?_
          clear hK
          refine OrdG.one (i := 13) (by kernel_rfl) rfl (fun K hK => ?_)
          refine step_app _ rfl (.tmp 91) (.tmp 93) rfl Tryz.slWait B u9 nv _ rfl (HOG.out.alloc _) (some ⟨W9.heap.size, 0, none⟩) 1 1 [.pointer (some ⟨wb, 0, none⟩)] rfl (nv + 1) rfl (RowAt.new W9 [.pointer (some ⟨wb, 0, none⟩)] _) rfl (by simp; rfl) (by omega) (by unfold maxLen; omega) (Nat.le_trans hsB9 (by simp)) ?_
          intro a10 c10 w10 ho10 hg10 hw10
          have kp10 : Keep (fun b => u9.ownBlock = some b) W9 w10 := keep_app hg10 (by first | exact (Keep.refl _ W9).alloc _ | exact ((Keep.refl _ W9).alloc _).drew) (fun k hk => hk)
          have hc10 := (kp10.block gb (blk_lt HG9.out) HNG.out).trans HG9.out
          have o8 : w10.cell? ⟨gb, 8, none⟩ = some u9 := Keep.cell (p := ⟨gb, 8, none⟩) kp10 HNG.out s8
          have of8 := frozen_of_row w10 gb 8 _ _ hc10
          have o1 : w10.cell? ⟨tb, 1, none⟩ = some (.pointer (some ⟨gb, 0, none⟩)) := by
            refine Keep.cell (p := ⟨tb, 1, none⟩) kp10 ?_ s1
            intro e
            obtain ⟨hI9, hK9, hM9, hgd, hgr9, hgb9, hnw⟩ := HX9.out
            obtain ⟨hI7, ht7, _⟩ := HX.out
            have e1 := hgr9.2 tb e
            rw [(ht7.keep hK9 hM9).free] at e1
            cases e1
          have HO10 := hidP ho10
          have KP10 := hidP kp10
          have HW10 := hidP hw10
          clear ho10 kp10 hw10 hg10 hc10
          refine hK.out _ _ (.inl ⟨o1, o8⟩) ?_
          clear hK
          refine OrdG.ty 14 _ rfl (.inl ⟨o1, o8⟩) ?_
          simp only [Act.put, stA, stS, stZ]
          refine OrdG.ty 15 _ rfl (.inl ⟨o1, o8⟩) ?_
          simp only [Act.put, stA, stS, stZ]
          refine OrdG.one (i := 16) (by kernel_rfl) rfl (fun K hK => ?_)
          go_simp
          refine hK.out _ _ (.inr (by kernel_rfl)) ?_
          clear hK
          refine OrdG.done (by kernel_rfl) ?_ _
          clear hSS
          obtain ⟨hI9, hK9, hM9, hgd, hgr9, hgb9, hnw⟩ := HX9.out
          have hres := hI9.waitsPut hgd (by rw [hgb9]; exact HG9.out) hgr9 (l' := gd.waits ++ [(waitsN m g (l.take j)).ws.length]) (v' := .slice a10 (nv + 1) c10) KP10.out (by
            have e9 : wPtrs (withW σj (waitsN m g (l.take j)).ws.length wb) (gd.waits ++ [(waitsN m g (l.take j)).ws.length]) = wPtrs (withW σj (waitsN m g (l.take j)).ws.length wb) gd.waits ++ [.pointer (some ⟨wb, 0, none⟩)] := by
              unfold wPtrs
              rw [List.map_append, List.map_cons, List.map_nil, hnw]
            rw [e9, List.length_append, HNV.out]
            exact HO10.out) (fun b hb => by
              rcases HW10.out with h | h
              · exact .inl (h.symm.trans hb)
              · rw [h] at hb; cases hb; exact .inr (by simp))
          rw [hgb9] at hres
          have hfin : Hid (∀ W, Res B P (withW σj (waitsN m g (l.take j)).ws.length wb) ow9 ((({ waitsN m g (l.take j) with ws := (waitsN m g (l.take j)).ws ++ [waitOf (waitsN m g (l.take j)) g kc ⟨kd, k, q, dk⟩] } : MachD).setChan kc { cd with takes := cd.takes ++ [(waitsN m g (l.take j)).ws.length] }).setGor g ⟨gd.pc, gd.regs, gd.waits ++ [(waitsN m g (l.take j)).ws.length]⟩) W9 W → WaitJ B P σ ow m w g (waitsN m g (l.take (j + 1))) W) := fun W hr => by
            obtain ⟨hI, hAg, hK, hM, okj, hgb, hcb⟩ := HIJ.out
            obtain ⟨hcj, hcc, hgd, hcd, hkc, lk⟩ := HCJ.out
            obtain ⟨ow10, h10, k10, m10⟩ := hr
            obtain ⟨hI7, ht7, _⟩ := HX.out
            have ew : (waitsN m g (l.take j)).wait1 g ⟨kd, k, q, dk⟩ = ((({ waitsN m g (l.take j) with ws := (waitsN m g (l.take j)).ws ++ [waitOf (waitsN m g (l.take j)) g kc ⟨kd, k, q, dk⟩] } : MachD).setChan kc { cd with takes := cd.takes ++ [(waitsN m g (l.take j)).ws.length] }).setGor g ⟨gd.pc, gd.regs, gd.waits ++ [(waitsN m g (l.take j)).ws.length]⟩) := by
              rw [wait1_eq hgd hcd hkc]
              unfold MachD.setChan MachD.setGor
              rw [if_neg (show ¬ (⟨kd, k, q, dk⟩ : CaseD).kind = 1 from hkd)]
            refine ⟨withW σj (waitsN m g (l.take j)).ws.length wb, ow10, ?_, hAg.trans (agree_withW _ σj wb) (Nat.le_of_eq lk.gors.symm) (Nat.le_of_eq lk.chans.symm) (Nat.le_of_eq (by rw [lk.boxes])) lk.ws, ?_, ?_, ?_⟩
            · rw [HE1.out, waitsN_snoc, ew]
              exact h10
            · have k7 : Keep (fun b => ow b ≠ none) w W7 := hK.trans (.of_below hb7)
              have m7 := hM.trans hK.size (OwMore.frm (w := wr) (ow := owj) (some (.wt (waitsN m g (l.take j)).ws.length)))
              have k9 := k7.then hK9 (fun i hi e => by rw [m7 i hi] at e; exact e)
              exact k9.then k10 (fun i hi e => by rw [(m7.trans k7.size hM9) i hi] at e; exact e)
            · have k7 : Keep (fun b => ow b ≠ none) w W7 := hK.trans (.of_below hb7)
              have m7 := hM.trans hK.size (OwMore.frm (w := wr) (ow := owj) (some (.wt (waitsN m g (l.take j)).ws.length)))
              have k9 := k7.then hK9 (fun i hi e => by rw [m7 i hi] at e; exact e)
              exact (m7.trans k7.size hM9).trans k9.size m10
            · rw [HE1.out, waitsN_snoc]
              exact wait1_ok okj (by rw [lk.gors]; exact hg) hcc
          have HRES := hidP (hfin.out _ hres)
          clear hres hfin hI9 hK9 hM9 hgd hgr9 hgb9 hnw
          go_wp2_with fail
          go_roundw
          case measure => simp [intOf]; omega
          case rel => exact ⟨j + 1, by go_num, by omega, HRES⟩
      · have hw1 : (waitsN m g (l.take j)).wait1 g ⟨kd, k, q, dk⟩ = waitsN m g (l.take j) := wait1_not (fun kc e => hch ⟨kc, e⟩)
        have hfin : Hid (∀ wr', Below wr.heap.size wr wr' → WaitJ B P σ ow m w g (waitsN m g (l.take (j + 1))) wr') := fun wr' hb => by
          rw [e1, waitsN_snoc, hw1]
          exact ⟨σj, _, hI.below hb, hAg, hK.trans (.of_below hb), hM.trans hK.size (.frm none), okj⟩
        have hnc : ∀ w, (Instr.typeAssert (encV σj ((waitsN m g (l.take j)).reg g k)) 20 102 true).run Tryz.prog w = .ok (.tuple #[.pointer none, .bool false]) w := fun w => by
          cases hv : (waitsN m g (l.take j)).reg g k with
          | num z => exact as_ch_num w _
          | bx z => exact as_ch_bx w _
          | ch z => exact absurd ⟨z, hv⟩ hch
        have hb1 := bnew (brefl wr) (.cells #[.int .i64 kd, .int .i64 k, .int .i64 q, .int .i64 dk] 109)
        have hc1 := blk_new wr (.cells #[.int .i64 kd, .int .i64 k, .int .i64 q, .int .i64 dk] 109)
        have u1 := cell_of_row _ _ 1 _ _ (0, 0) hc1
        have t1' := (hb1.cell (p := ⟨tb, 1, none⟩) (World.block_lt_of_cell? wr _ t1)).trans t1
        have gk' := (hb1.cell (p := ⟨gb, 2 + k, none⟩) (World.block_lt_of_cell? wr _ gk)).trans gk
        generalize encV σj ((waitsN m g (l.take j)).reg g k) = V at *
        clear hw1 hch e1 hI hAg hK hM okj lk hcc hgj hgd hrow htj hgc hgo h6 gr hgl hr1 hr2 hs1 hs2 hreg t0 g0 g1 g8 gf gq hcj hgb
        have u1' : (wr.alloc (.cells #[.int .i64 kd, .int .i64 k, .int .i64 q, .int .i64 dk] 109)).cell? ⟨wr.heap.size, 1, none⟩ = some (.int .i64 k) := u1
        go_upto_region 3 with fail
        clear hc1 u1
        generalize wr.alloc (.cells #[.int .i64 kd, .int .i64 k, .int .i64 q, .int .i64 dk] 109) = wa at *
        go_quiet (fail)
        go_wp2
        go_roundw
        case measure => simp [intOf]; omega
        case rel => exact ⟨j + 1, by go_num, by omega, hfin.out _ (by first | exact hb1 | exact bdrewN hb1 _)⟩
    · obtain rfl : j = n := by omega
      obtain ⟨σj, owj, hI, hAg, hK, hM, okj⟩ := HL.out
      rw [List.take_of_length_le (by rw [HN.out]; omega)] at hI okj
      have lk := waitsN_like g l m
      have htj : IsTurn σ owj wr tb g x A4 c4 draw := HT.out.keep hK hM
      obtain ⟨t0, t1, _⟩ := htj.cells
      rw [← hAg.g g hg] at t1
      rw [← hAg.mb] at t0
      have hLv := hidP (leave_any hI.drew (g := g) (fun x hx => by rw [lk.gors]; exact HQ.out x (by rw [← lk.queue]; exact hx)) (by rw [lk.queue]; exact HQL.out) (by rw [lk.gors]; exact hg))
      have HIJ := hidP (⟨hAg, hK, hM⟩ : _ ∧ _ ∧ _)
      clear hI hAg hK hM okj htj lk
      go_upto_region 12 with fail
      go_still_tail 8, (by kernel_rfl)
      go_wp2_with (go_at_call 101; with_reducible refine hLv.out.mono ?_; rintro e w2 ⟨rfl, h2⟩)
      go_end0
      obtain ⟨hAg, hK, hM⟩ := HIJ.out
      obtain ⟨ow2, g1, g2, g3⟩ := h2.undrew
      exact ⟨rfl, σj, ow2, g1, hAg, hK.then g2 (fun i hi e => by rw [hM i hi] at e; exact e), hM.trans hK.size g3⟩
theorem Tryz.slCase : SlT Tryz.prog 54 109 (.agg #[.int .i64 0, .int .i64 0, .int .i64 0, .int .i64 0]) 4 32 := ⟨Tryz.underlying54, by kernel_rfl, rfl, by decide⟩
theorem send_wait {m : MachD} {c : Nat} {x : PV} (h : (m.send c x).2 = 0) : (m.send c x).1 = m := by
  unfold MachD.send at h ⊢
  dsimp only at h ⊢
  split
  · rfl
  · rename_i hcl
    rw [if_neg hcl] at h
    split
    · rename_i hk
      rw [hk] at h
      simp at h
    · rename_i hk
      rw [hk] at h
      dsimp only at h
      split
      · rename_i hl
        rw [if_pos hl] at h
        simp at h
      · rfl
theorem take_wait {m : MachD} {c : Nat} (h : (m.take c).2.2 ≠ 1) : (m.take c).1 = m ∧ (m.take c).2.2 = 0 := by
  unfold MachD.take at h ⊢
  dsimp only at h ⊢
  cases h1 : (m.chanAt c).held with
  | cons x r =>
    rw [h1] at h
    dsimp only at h
    cases h2 : (m.chanAt c).sends with
    | nil => rw [h2] at h; simp at h
    | cons k q => rw [h2] at h; simp at h
  | nil =>
    rw [h1] at h
    dsimp only at h ⊢
    cases h2 : (m.chanAt c).sends with
    | cons k q => rw [h2] at h; simp at h
    | nil =>
      rw [h2] at h
      dsimp only at h ⊢
      split
      · rename_i hcl; rw [if_pos hcl] at h; simp at h
      · exact ⟨rfl, rfl⟩
theorem done_wait {m : MachD} {g : Nat} {c : CaseD} (h : (m.doneC g c).2 = 0) : (m.doneC g c).1 = m := by
  unfold MachD.doneC at h ⊢
  split
  · rename_i hk
    rw [if_pos hk] at h
    unfold MachD.toR at h ⊢
    cases hv : m.reg g c.ch with
    | num n => dsimp only; split <;> rfl
    | bx n => rfl
    | ch k => rw [hv] at h; exact send_wait h
  · rename_i hk
    rw [if_neg hk] at h
    unfold MachD.fromR at h ⊢
    cases hv : m.reg g c.ch with
    | num n => dsimp only; split <;> rfl
    | bx n => rfl
    | ch k =>
      rw [hv] at h
      dsimp only at h ⊢
      by_cases ht : (m.take k).2.2 = 1
      · rw [if_pos ht] at h; rw [ht] at h; simp at h
      · rw [if_neg ht]; exact (take_wait ht).1
theorem done_ok {m : MachD} (ok : Ok m) {g : Nat} {gd : GorD} (hg : m.gors[g]? = some gd) {c : CaseD} (hc : OkCase c) : Ok (m.doneC g c).1 ∧ Like m (m.doneC g c).1 := by
  obtain ⟨hr1, hr2⟩ := ok.reg hg hc.ch.1 hc.ch.2
  unfold MachD.doneC
  split
  · unfold MachD.toR
    cases hv : m.reg g c.ch with
    | num n => dsimp only; split <;> exact ⟨ok, .refl m⟩
    | bx n => exact ⟨ok, .refl m⟩
    | ch k =>
      rw [hv] at hr2
      obtain ⟨cd, hcd⟩ := some_lt (l := m.chans) (i := k) hr2
      exact ok.send hcd (ok.reg hg hc.reg.1 hc.reg.2).2
  · unfold MachD.fromR
    cases hv : m.reg g c.ch with
    | num n => dsimp only; split <;> exact ⟨ok, .refl m⟩
    | bx n => exact ⟨ok, .refl m⟩
    | ch k =>
      rw [hv] at hr2
      obtain ⟨cd, hcd⟩ := some_lt (l := m.chans) (i := k) hr2
      obtain ⟨o1, l1, v1⟩ := ok.take hcd
      dsimp only
      split
      · obtain ⟨g2, hg2⟩ := some_lt (l := (m.take k).1.gors) (i := g) (by rw [l1.gors]; exact lt_of_some hg)
        exact ⟨o1.setReg hg2 _ (l1.okV v1), l1.trans (like_setReg _ _ _)⟩
      · exact ⟨o1, l1⟩
def realC (l : List CaseD) : List CaseD := l.filter (·.kind != 3)
def otherC (l : List CaseD) : List CaseD := l.filter (·.kind == 3)
theorem realC_snoc (l : List CaseD) (c : CaseD) : realC (l ++ [c]) = realC l ++ (if c.kind = 3 then [] else [c]) := by
  unfold realC
  rw [List.filter_append]
  congr 1
  by_cases h : c.kind = 3 <;> simp [h]
theorem otherC_snoc (l : List CaseD) (c : CaseD) : otherC (l ++ [c]) = otherC l ++ (if c.kind = 3 then [c] else []) := by
  unfold otherC
  rw [List.filter_append]
  congr 1
  by_cases h : c.kind = 3 <;> simp [h]
theorem realC_le (l : List CaseD) : (realC l).length ≤ l.length := List.length_filter_le _ _
theorem otherC_le (l : List CaseD) : (otherC l).length ≤ l.length := List.length_filter_le _ _
def Two (w : World) (l : List CaseD) (v6 v7 : Value) (wr : World) : Prop :=
  wr.ownsRow w.heap.size 109 4 v6 (realC l).length ((realC l).flatMap caseC) ∧ wr.ownsRow w.heap.size 109 4 v7 (otherC l).length ((otherC l).flatMap caseC) ∧ (∀ b, v6.ownBlock = some b → v7.ownBlock ≠ some b) ∧ Below w.heap.size w wr
set_option maxRecDepth 100000 in
set_option maxHeartbeats 3200000 in
theorem choose_any {B : Nat} {P : Value} {σ : Lay} {ow : Owns} {m : MachD} {w : World} (h : Inv B P σ ow m w) {g : Nat} (ok : Ok m) (fit : Fit m) {gd : GorD} (hg : m.gors[g]? = some gd) {tb c4 : Nat} {x : InstrD} {A4 : Option Addr} {draw0 : Int} (ht : IsTurn σ ow w tb g x A4 c4 draw0)
    {A : Option Addr} {cp : Nat} (l : List CaseD) (hr : RowAt w A (l.flatMap caseC)) (hc : ∀ c ∈ l, OkCase c) (hfit : m.ws.length + l.length ≤ 1000000) (draw : Int) (hd0 : -9223372036854775808 ≤ draw) (hd1 : draw ≤ 9223372036854775807) :
    Calls Tryz.prog 56 #[.pointer (some ⟨tb, 0, none⟩), .slice A l.length cp, .int .i64 draw] w fun e w' => e = .returned (.tuple #[]) ∧ ResN B P σ ow m (m.choose g l draw) w w' := by
  obtain ⟨n, hn⟩ : ∃ n, l.length = n := ⟨_, rfl⟩
  rw [hn] at hfit ⊢
  have hnm : n ≤ 1000000 := by omega
  have HN := hidP hn
  have HR := hidP hr
  have HM := hidP (⟨h, ok, fit, hg, ht, hc⟩ : _ ∧ _ ∧ _ ∧ _ ∧ _ ∧ _)
  have hsB := h.size
  clear hn hr h ok fit hg ht hc
  go_enter Tryz.func56, Tryz.ntmps56
  go_upto_block 0 with fail
  go_cut [6, 7] from 9 to 31 (fun v6 v7 wx => ∃ a6 c6 a7 c7, v6 = .slice a6 (realC l).length c6 ∧ v7 = .slice a7 (otherC l).length c7 ∧ Hid (Two w l v6 v7 wx))
  case first =>
    go_wp2_with fail
    go_loopw [6, 7, 15] (fun v6 v7 v wr => ∃ i : Nat, v = .int .i64 i ∧ i ≤ n ∧ ∃ a6 c6 a7 c7, v6 = .slice a6 (realC (l.take i)).length c6 ∧ v7 = .slice a7 (otherC (l.take i)).length c7 ∧ Hid (Two w (l.take i) v6 v7 wr)) (fun _ _ v _ => n - (intOf v).toNat)
    case atStart => exact ⟨0, rfl, by omega, none, 0, none, 0, rfl, rfl, by rw [List.take_zero]; exact ⟨World.ownsRow_nil _ _ _ _, World.ownsRow_nil _ _ _ _, fun b hb => (by cases hb), brefl _⟩⟩
    case round =>
      obtain ⟨i, rfl, hi, a6, c6, a7, c7, rfl, rfl, HT⟩ := hrel
      by_cases hlt : i < n
      · obtain ⟨c, hci⟩ : ∃ c, l[i]? = some c := ⟨_, List.getElem?_eq_getElem (by rw [HN.out]; exact hlt)⟩
        have e1 : l.take (i + 1) = l.take i ++ [c] := by rw [List.take_add_one, hci]; rfl
        have hli : (l.take i).length = i := by rw [List.length_take, HN.out]; omega
        obtain ⟨o6, o7, hne, hb⟩ := HT.out
        obtain ⟨b, o, hAe, x0, x1, x2, x3⟩ := flatC_at (HR.out.below hb) hci
        have k6 : (realC (l.take i)).length ≤ 1000000 := Nat.le_trans (realC_le _) (by omega)
        have k7 : (otherC (l.take i)).length ≤ 1000000 := Nat.le_trans (otherC_le _) (by omega)
        rw [hAe]
        have hbs := hb.size
        have HX := hidP (⟨o6, o7, hne, hb, e1⟩ : _ ∧ _ ∧ _ ∧ _ ∧ _)
        have O6 := hidP o6
        have O7 := hidP o7
        obtain ⟨n6, h6⟩ : ∃ n6, (realC (l.take i)).length = n6 := ⟨_, rfl⟩
        obtain ⟨n7, h7⟩ : ∃ n7, (otherC (l.take i)).length = n7 := ⟨_, rfl⟩
        rw [h6] at O6 k6
        rw [h7] at O7 k7
        rw [h6, h7]
        have H6 := hidP h6
        have H7 := hidP h7
        obtain ⟨kd, ck, rk, dk⟩ := c
        clear o6 o7 hne hb e1 hci hli h6 h7
        by_cases hk : kd = 3
        · subst hk
          go_wp2_with (at_builtin; go_loud (refine (wpList_app _ rfl (.tmp 22) (.tmp 24) rfl Tryz.slCase w.heap.size (.slice a7 n7 c7) n7 _ rfl (owns_below O7.out (bnew (bnew (brefl wr) _) _)) (some ⟨wr.heap.size + 1, 0, none⟩) 1 1 (caseC ⟨3, ck, rk, dk⟩) rfl (n7 + 1) rfl (row_new _ (caseC ⟨3, ck, rk, dk⟩) _ _ (by simp)) rfl (by intro u hu; exact flatC_one [⟨3, ck, rk, dk⟩] u (by simpa using hu)) (by omega) (by unfold maxLen; omega) (by simp; omega) ?_)); intro a2 c2 w2 ho2 hg2 hw2; have HO2 := hidP ho2; have HG2 := hidP hg2; have HW2 := hidP hw2; clear ho2 hg2 hw2)
          go_roundw
          case measure => simp [intOf]; omega
          case rel =>
          obtain ⟨o6, o7, hne, hb, e1⟩ := HX.out
          have r6 : realC (l.take (i + 1)) = realC (l.take i) := by rw [e1, realC_snoc]; simp
          have r7 : otherC (l.take (i + 1)) = otherC (l.take i) ++ [⟨3, ck, rk, dk⟩] := by rw [e1, otherC_snoc]; simp
          refine ⟨i + 1, by go_num, by omega, a6, c6, a2, c2, by rw [r6, H6.out], by rw [r7, List.length_append, H7.out]; rfl, ?_⟩
          show Two _ _ _ _ _
          have hbb : Below w.heap.size w w2 := (bnew (bnew hb _) _).grown HG2.out (by simp; omega) (fun z hz => (O7.out.lt z hz).1)
          have hkk : Keep (fun z => (Value.slice a7 n7 c7).ownBlock = some z) wr w2 := keep_app HG2.out (((Keep.refl _ wr).alloc _).alloc _) (fun z hz => hz)
          refine ⟨?_, ?_, ?_, hbb⟩
          · rw [r6, H6.out]
            exact owns_keep O6.out hkk (fun z hz e => hne z (by rw [H6.out]; exact hz) (by rw [H7.out]; exact e))
          · rw [r7, List.length_append, List.flatMap_append, H7.out]
            exact HO2.out
          · intro z hz
            rcases HW2.out with hh | hh
            · show (Value.slice a2 (n7 + 1) c2).ownBlock ≠ some z
              rw [hh, ← H7.out]
              exact hne z (by rw [H6.out]; exact hz)
            · show (Value.slice a2 (n7 + 1) c2).ownBlock ≠ some z
              rw [hh]
              intro e
              cases e
              have := (O6.out.lt _ hz).2
              simp at this
              omega
        · go_wp2_with (at_builtin; go_loud (refine (wpList_app _ rfl (.tmp 26) (.tmp 28) rfl Tryz.slCase w.heap.size (.slice a6 n6 c6) n6 _ rfl (owns_below O6.out (bnew (bnew (brefl wr) _) _)) (some ⟨wr.heap.size + 1, 0, none⟩) 1 1 (caseC ⟨kd, ck, rk, dk⟩) rfl (n6 + 1) rfl (row_new _ (caseC ⟨kd, ck, rk, dk⟩) _ _ (by simp)) rfl (by intro u hu; exact flatC_one [⟨kd, ck, rk, dk⟩] u (by simpa using hu)) (by omega) (by unfold maxLen; omega) (by simp; omega) ?_)); intro a2 c2 w2 ho2 hg2 hw2; have HO2 := hidP ho2; have HG2 := hidP hg2; have HW2 := hidP hw2; clear ho2 hg2 hw2)
          go_roundw
          case measure => simp [intOf]; omega
          case rel =>
          obtain ⟨o6, o7, hne, hb, e1⟩ := HX.out
          have r6 : realC (l.take (i + 1)) = realC (l.take i) ++ [⟨kd, ck, rk, dk⟩] := by rw [e1, realC_snoc, if_neg hk]
          have r7 : otherC (l.take (i + 1)) = otherC (l.take i) := by rw [e1, otherC_snoc, if_neg hk, List.append_nil]
          refine ⟨i + 1, by go_num, by omega, a2, c2, a7, c7, by rw [r6, List.length_append, H6.out]; rfl, by rw [r7, H7.out], ?_⟩
          show Two _ _ _ _ _
          have hbb : Below w.heap.size w w2 := (bnew (bnew hb _) _).grown HG2.out (by simp; omega) (fun z hz => (O6.out.lt z hz).1)
          have hkk : Keep (fun z => (Value.slice a6 n6 c6).ownBlock = some z) wr w2 := keep_app HG2.out (((Keep.refl _ wr).alloc _).alloc _) (fun z hz => hz)
          refine ⟨?_, ?_, ?_, hbb⟩
          · rw [r6, List.length_append, List.flatMap_append, H6.out]
            exact HO2.out
          · rw [r7, H7.out]
            exact owns_keep O7.out hkk (fun z hz e => hne z (by rw [H6.out]; exact e) (by rw [H7.out]; exact hz))
          · intro z hz
            rcases HW2.out with hh | hh
            · rw [← H7.out]
              exact hne z (by rw [H6.out]; exact hh.symm.trans hz)
            · intro e
              have e2 := hh.symm.trans hz
              cases e2
              have := (O7.out.lt _ e).2
              simp at this
              omega
      · obtain rfl : i = n := by omega
        rw [List.take_of_length_le (by rw [HN.out]; omega)] at HT
        go_wp2_with fail
        go_meet
        exact ⟨a6, c6, a7, c7, by rw [List.take_of_length_le (by rw [HN.out]; omega)], by rw [List.take_of_length_le (by rw [HN.out]; omega)], by have := HT.out; rw [List.take_of_length_le (by rw [HN.out]; omega)]; exact this⟩
  case rest =>
  obtain ⟨a6, c6, a7, c7, rfl, rfl, HT⟩ := hcut
  obtain ⟨hI, ok, fit, hg, ht, hc⟩ := HM.out
  obtain ⟨o6, o7, hne, hb⟩ := HT.out
  obtain ⟨k, hk⟩ : ∃ k, (realC l).length = k := ⟨_, rfl⟩
  obtain ⟨k7, hk7⟩ : ∃ k7, (otherC l).length = k7 := ⟨_, rfl⟩
  have hkm : k ≤ n := by rw [← hk, ← HN.out]; exact realC_le l
  obtain ⟨D, hD⟩ := Int.eq_ofNat_of_zero_le (show 0 ≤ max draw 0 by omega)
  have hD1 : (D : Int) ≤ 9223372036854775807 := by omega
  have hI2 := hI.below hb
  have ht2 := ht.below hb
  have HRL := hidP (show ∀ c ∈ realC l, OkCase c from fun c hcm => hc c (List.mem_filter.1 hcm).1)
  have hch : m.choose g l draw = m.choose g l draw := rfl
  conv at hch => rhs; unfold MachD.choose
  dsimp only at hch
  have e6 : List.filter (fun x => x.kind != 3) l = realC l := rfl
  have e7 : List.filter (fun x => x.kind == 3) l = otherC l := rfl
  rw [e6, e7, hk, show (max draw 0).toNat = D by omega] at hch
  have HCH := hidP hch
  have HK := hidP hk
  have HK7 := hidP hk7
  rw [hk, hk7]
  have HB := hidP hb
  have HX := hidP (⟨hI2, ok, fit, hg, ht2⟩ : _ ∧ _ ∧ _ ∧ _ ∧ _)
  have R6 := hidP (owns_row (hk ▸ o6 : wc.ownsRow w.heap.size 109 4 (.slice a6 k c6) k ((realC l).flatMap caseC)))
  have R7 := hidP (owns_row (hk7 ▸ o7 : wc.ownsRow w.heap.size 109 4 (.slice a7 k7 c7) k7 ((otherC l).flatMap caseC)))
  have N6 : Hid (∀ b o, a6 = some ⟨b, o, none⟩ → w.heap.size ≤ b ∧ b < wc.heap.size) := fun b o e => by
    subst e
    rcases o6.2 with ⟨hv, _⟩ | ⟨g', cap, cur, hv, hbb, hgg, _⟩
    · cases hv
    · cases hv; exact ⟨hbb, blk_lt hgg⟩
  have N7 : Hid (∀ b o, a7 = some ⟨b, o, none⟩ → w.heap.size ≤ b ∧ b < wc.heap.size) := fun b o e => by
    subst e
    rcases o7.2 with ⟨hv, _⟩ | ⟨g', cap, cur, hv, hbb, hgg, _⟩
    · cases hv
    · cases hv; exact ⟨hbb, blk_lt hgg⟩
  clear hI ok fit hg ht hc o6 o7 hne hb hk hk7 hI2 ht2 hch e6 e7 HT
  go_upto_block 1 with fail
  have hA1 : Hid (∀ wr, Res B P σ (frm ow w.heap.size none) m wc wr → RowAt wr a6 ((realC l).flatMap caseC) ∧ RowAt wr a7 ((otherC l).flatMap caseC)) := by
    rintro wr ⟨ow1, h1, h2, h3⟩
    exact ⟨row_keep R6.out h2 (fun b o e hh => hh (frm_ge (N6.out b o e).1)), row_keep R7.out h2 (fun b o e hh => hh (frm_ge (N7.out b o e).1))⟩
  go_loopw [33] (fun v wr => ∃ j : Nat, v = .int .i64 j ∧ j ≤ k ∧ Hid (Res B P σ (frm ow w.heap.size none) m wc wr) ∧ Hid (MachD.tryF k m g (realC l) (D % k) = MachD.tryF (k - j) m g (realC l) (D % k + j))) (fun v _ => k - (intOf v).toNat)
  case atStart => exact ⟨0, rfl, by omega, HX.out.1.res_below (brefl _), rfl⟩
  case round =>
    obtain ⟨j, rfl, hj, HRS, HTR⟩ := hrel
    by_cases hlt : j < k
    · have hm : (D % k + j) % k < k := Nat.mod_lt _ (by omega)
      obtain ⟨c, hcj⟩ : ∃ c, (realC l)[(D % k + j) % k]? = some c := ⟨_, List.getElem?_eq_getElem (by rw [HK.out]; exact hm)⟩
      obtain ⟨b, o, hAe, x0, x1, x2, x3⟩ := flatC_at (hA1.out wr HRS.out).1 hcj
      rw [hAe]
      have hcc := HRL.out c (List.mem_of_getElem? hcj)
      have hDk : D % k < k := Nat.mod_lt _ (by omega)
      obtain ⟨r, hr⟩ : ∃ r, D % k = r := ⟨_, rfl⟩
      rw [hr] at hDk hm x0 x1 x2 x3 HTR hcj
      obtain ⟨s, hs⟩ : ∃ s, (r + j) % k = s := ⟨_, rfl⟩
      rw [hs] at hm x0 x1 x2 x3 hcj
      have f1' : (D : Int) % (k : Int) = (r : Int) := by exact_mod_cast hr
      have f1 : (D : Int).tmod (k : Int) = (r : Int) := by rw [Int.tmod_eq_emod_of_nonneg (by omega)]; exact f1'
      have f2 : IntKind.i64.wrap ((r : Int) + (j : Int)) = (r : Int) + (j : Int) := IntWalk.i64_in _ (by omega)
      have f3' : ((r : Int) + (j : Int)) % (k : Int) = (s : Int) := by exact_mod_cast hs
      have f3 : ((r : Int) + (j : Int)).tmod (k : Int) = (s : Int) := by rw [Int.tmod_eq_emod_of_nonneg (by omega)]; exact f3'
      have f4 : ¬ ((k : Int) = 0) := by omega
      have f5 : ((k : Int) == 0) = false := by simp; omega
      have f6 : (s : Int) < (k : Int) := by omega
      obtain ⟨ow1, h1, h2, h3⟩ := HRS.out
      obtain ⟨hI2, ok, fit, hg, ht2⟩ := HX.out
      have ht1 := ht2.keep h2 h3
      have hst : MachD.tryF (k - j) m g (realC l) (r + j) = if (m.doneC g c).2 ≠ 0 then ((m.doneC g c).1.settle g c (m.doneC g c).2, true) else MachD.tryF (k - (j + 1)) (m.doneC g c).1 g (realC l) (r + (j + 1)) := by
        obtain ⟨q, hq⟩ : ∃ q, k - j = q + 1 := ⟨k - j - 1, by omega⟩
        rw [hq, show k - (j + 1) = q by omega]
        conv => lhs; unfold MachD.tryF
        rw [HK.out, hs, getD_some hcj]
        rfl
      have hb4 := bnew (brefl wr) (.cells #[.int .i64 c.kind, .int .i64 c.ch, .int .i64 c.reg, .int .i64 c.dest] 109)
      have HDN := hidP (done_any (h1.below hb4) ok fit (ht1.below hb4) hg hcc)
      obtain ⟨okd, lkd⟩ := done_ok ok hg hcc
      obtain ⟨gd2, hg2⟩ := some_lt (l := (m.doneC g c).1.gors) (i := g) (by rw [lkd.gors]; exact lt_of_some hg)
      have hRd : Hid (∀ w1, Res B P σ (frm ow1 wr.heap.size none) (m.doneC g c).1 (wr.alloc (.cells #[.int .i64 c.kind, .int .i64 c.ch, .int .i64 c.reg, .int .i64 c.dest] 109)) w1 → Res B P σ (frm ow w.heap.size none) (m.doneC g c).1 wc w1) := fun w1 hr1 => Res.trans h2 h3 (Res.of_below hb4 none hr1)
      have hbox : Hid (∀ w1, Res B P σ (frm ow1 wr.heap.size none) (m.doneC g c).1 (wr.alloc (.cells #[.int .i64 c.kind, .int .i64 c.ch, .int .i64 c.reg, .int .i64 c.dest] 109)) w1 → w1.heap[wr.heap.size]? = some (.cells #[.int .i64 c.kind, .int .i64 c.ch, .int .i64 c.reg, .int .i64 c.dest] 109 (0, 0))) := fun w1 hr1 => hr1.stay (blk_new wr _) (frm_ge (Nat.le_refl _))
      have hset : Hid (∀ w1, Res B P σ (frm ow1 wr.heap.size none) (m.doneC g c).1 (wr.alloc (.cells #[.int .i64 c.kind, .int .i64 c.ch, .int .i64 c.reg, .int .i64 c.dest] 109)) w1 → Calls Tryz.prog 94 #[.pointer (some ⟨tb, 0, none⟩), caseV c, .int .i64 (m.doneC g c).2] w1 fun e w' => e = .returned (.tuple #[]) ∧ Res B P σ (frm ow w.heap.size none) ((m.doneC g c).1.settle g c (m.doneC g c).2) wc w') := by
        intro w1 hr1
        obtain ⟨ow2, q1, q2, q3⟩ := hr1
        refine (settle_any q1 (lkd.fit fit) ((ht1.below hb4).keep q2 q3) hg2 c (m.doneC g c).2).mono ?_
        rintro e w2 ⟨he, hr2⟩
        exact ⟨he, Res.trans h2 h3 (Res.of_below hb4 none (Res.trans q2 q3 hr2))⟩
      have HST := hidP hst
      have HDW := hidP (fun h0 : (m.doneC g c).2 = 0 => done_wait h0)
      have HGG := hidP (⟨HTR.out, hr⟩ : _ ∧ _)
      obtain ⟨R, hR⟩ : ∃ R, m.doneC g c = R := ⟨_, rfl⟩
      rw [hR] at HDN hRd hbox hset HST HDW
      unfold caseV at HDN hset
      obtain ⟨kd, ck, rk, dk⟩ := c
      dsimp only at x0 x1 x2 x3 HDN hRd hbox hset
      clear h1 h2 h3 hI2 ok fit hg ht2 ht1 hst hb4 okd lkd hg2 hcc hcj hs hR hAe hr HTR
      by_cases hz : R.2 = 0
      · rw [hz] at HDN
        go_wp2_with (go_at_call 93; with_reducible refine HDN.out.mono ?_; rintro e w1 ⟨rfl, h1⟩; have H1 := hidP (hRd.out w1 h1); clear h1)
        go_roundw
        case measure => simp [intOf]; omega
        case rel =>
        have hm1 := HDW.out hz
        refine ⟨j + 1, by go_num, by omega, by have := H1.out; rw [hm1] at this; exact this, ?_⟩
        show _ = _
        rw [HGG.out.2, HGG.out.1, HST.out, if_neg (by rw [hz]; simp), hm1]
      · have hz' : ¬ (R.2 = 0) := hz
        go_wp2_with (first
          | (go_at_call 93; with_reducible refine HDN.out.mono ?_; rintro e w1 ⟨rfl, h1⟩; have hbx := hbox.out w1 h1; have y0 := cell_of_row w1 wr.heap.size 0 _ _ (0, 0) hbx; have y1 := cell_of_row w1 wr.heap.size 1 _ _ (0, 0) hbx; have y2 := cell_of_row w1 wr.heap.size 2 _ _ (0, 0) hbx; have y3 := cell_of_row w1 wr.heap.size 3 _ _ (0, 0) hbx; simp at y0 y1 y2 y3; have HS1 := hidP (hset.out w1 h1); clear h1 hbx)
          | (go_at_call 94; with_reducible refine HS1.out.mono ?_; rintro e w2 ⟨rfl, h2⟩))
        first | go_end0 | ((try simp only [Exit.inBlock, Exit.then]); refine bodyPost_ret (results_none rfl _ _ _) rfl ?_)
        have hch : m.choose g l draw = R.1.settle g ⟨kd, ck, rk, dk⟩ R.2 := by
          rw [HCH.out, HGG.out.2, HGG.out.1, HST.out, if_pos hz]
          rfl
        obtain ⟨ow9, q1, q2, q3⟩ := Res.of_below HB.out none h2
        rw [hch]
        exact ⟨rfl, σ, ow9, q1, .refl _ _, q2, q3⟩
    · obtain rfl : j = k := by omega
      have hch : m.choose g l draw = (match otherC l with | o :: _ => m.setPc g o.dest | [] => m.waitAll g (realC l)) := by
        rw [HCH.out, HTR.out, Nat.sub_self]
        rfl
      obtain ⟨hr6, hr7⟩ := hA1.out wr HRS.out
      obtain ⟨ow1, h1, h2, h3⟩ := HRS.out
      obtain ⟨hI2, ok, fit, hg, ht2⟩ := HX.out
      have ht1 := ht2.keep h2 h3
      obtain ⟨t0, t1, _⟩ := ht1.cells
      have HKP := hidP (⟨h2, h3⟩ : _ ∧ _)
      cases hot : otherC l with
      | cons o rest =>
        rw [hot] at hch hr7
        dsimp only at hch
        obtain ⟨b, off, hAe, x0, x1, x2, x3⟩ := flatC_at hr7 (i := 0) rfl
        simp only [Nat.zero_mul, Nat.add_zero] at x3
        rw [hAe]
        obtain ⟨v, _, _, _, g0, g1, _, _, gf⟩ := h1.gorAt hg
        have gf1 := gf 1
        have hl7 : 0 < k7 := by rw [← HK7.out, hot]; simp
        have HP := hidP (h1.drew.pcPut hg o.dest)
        have lt7 : (0 : Int) < (k7 : Int) := by omega
        obtain ⟨od0, od1, od2, od3⟩ := o
        dsimp only at x3 HP hch
        have HC2 := hidP hch
        clear h1 h2 h3 hI2 ok fit hg ht2 ht1 hot hch hr6 hr7 x0 x1 x2 g0 gf hl7
        go_upto_region 17 with fail
        go_still_tail 10, (by kernel_rfl)
        go_wp2
        first | go_end0 | ((try simp only [Exit.inBlock, Exit.then]); refine bodyPost_ret (results_none rfl _ _ _) rfl ?_)
        rw [HC2.out]
        obtain ⟨h2, h3⟩ := HKP.out
        obtain ⟨ow9, q1, q2, q3⟩ := Res.of_below HB.out none (Res.trans h2 h3 HP.out.undrew)
        exact ⟨rfl, σ, ow9, q1, .refl _ _, q2, q3⟩
      | nil =>
        rw [hot] at hch
        dsimp only at hch
        have hl7 : k7 = 0 := by rw [← HK7.out, hot]; rfl
        subst hl7
        have hrl : (realC l).length ≤ n := by rw [← HN.out]; exact realC_le l
        have hW := wait_any h1 (g := g) (ok.leave g) (fun x hx => by obtain ⟨y, hy, _⟩ := ok.queue x hx; exact lt_of_some hy) (Nat.le_trans ok.queueLen fit.gors) (lt_of_some hg) ht1 (cp := c6) (realC l) hr6 (fun b o e => by rw [h3 b (N6.out b o e).2]; exact frm_ge (N6.out b o e).1) HRL.out (by omega)
        rw [HK.out] at hW
        have HW := hidP hW
        have HC2 := hidP hch
        clear h1 h2 h3 hI2 ok fit hg ht2 ht1 hot hch hr6 hr7 hrl hW t0 t1
        go_wp2_with (go_at_call 95; with_reducible refine HW.out.mono ?_; rintro e w2 ⟨rfl, h2⟩)
        first | go_end0 | ((try simp only [Exit.inBlock, Exit.then]); refine bodyPost_ret (results_none rfl _ _ _) rfl ?_)
        rw [HC2.out]
        obtain ⟨σ', ow9, q1, q2, q3, q4⟩ := h2
        obtain ⟨h2, h3⟩ := HKP.out
        refine ⟨rfl, σ', ow9, q1, q2, ?_, ?_⟩
        · exact (Keep.of_below HB.out).then (T := fun b => frm ow w.heap.size none b ≠ none) (h2.then q3 (fun i hi e => by rw [h3 i hi] at e; exact e)) (fun i hi e => by rw [frm_lt hi] at e; exact e)
        · exact (OwMore.frm none).trans HB.out.size (h3.trans h2.size q4)
end Go.Proofs.YtklfboidjnchoaaGreatDoor
