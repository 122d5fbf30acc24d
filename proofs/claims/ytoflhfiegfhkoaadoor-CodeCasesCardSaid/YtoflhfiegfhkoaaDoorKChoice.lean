/-
  The walk over package code's reader: choice.
-/
import Derived.Test.YtoflhfiegfhkoaaDoorKEnv
namespace Go.Proofs.YtoflhfiegfhkoaaDoor
open Go.RowKit Go.Proofs.YtoflhfiegfhkoaaDoorW.PrintWords
set_option linter.unusedVariables false

theorem R_keepS {α : Type} {d : Kd α} {e : TypeId} {w w1 : World} {base : Nat} {ok : Nat → Prop} {v : Value} {xs : List α} {S : Nat → Prop} (h : d.R e w base ok v xs) (hk : Keep S w w1) (hs : ∀ k, ok k → ¬ S k) : d.R e w1 base ok v xs :=
  Kd.R_step h (fun k ho hlt => hk.block k hlt (hs k ho))
theorem fstep_ge (l : List Nat) (i c : Nat) (s : FSt) : s.q ≤ (fstep l i c s).q := by
  unfold fstep
  have : s.q ≤ adv l s.q := by unfold adv; split <;> omega
  repeat' split
  all_goals simp
  all_goals omega
theorem ffold_ge (l : List Nat) : ∀ (F : List Nat) (i : Nat) (s : FSt), s.q ≤ (ffold l i F s).q
  | [], i, s => Nat.le_refl _
  | c :: r, i, s => Nat.le_trans (fstep_ge l i c s) (ffold_ge l r (i + 1) _)
theorem fieldsR_ge (l F : List Nat) (p : Nat) : p ≤ (fieldsR l F p).q := ffold_ge l F 0 ⟨0, 0, 0, true, p⟩

/-- The cases that stand from a place on, behind those that there are. -/
def choiceF (l : List Nat) : Nat → Nat → List CaseD → Option (List CaseD)
  | 0, _, _ => none
  | k + 1, q, acc =>
    if q < l.length then
      if (findF (chr l q) 0 casesL).2.2 = false then none
      else if (fieldsR l (findF (chr l q) 0 casesL).2.1 (q + 1)).ok = false then none
      else if (findF (chr l q) 0 casesL).1 = 3 ∧ (fieldsR l (findF (chr l q) 0 casesL).2.1 (q + 1)).q < l.length then none
      else choiceF l k (fieldsR l (findF (chr l q) 0 casesL).2.1 (q + 1)).q (acc ++ [⟨(findF (chr l q) 0 casesL).1, (fieldsR l (findF (chr l q) 0 casesL).2.1 (q + 1)).a, (fieldsR l (findF (chr l q) 0 casesL).2.1 (q + 1)).b, (fieldsR l (findF (chr l q) 0 casesL).2.1 (q + 1)).n⟩])
    else if acc.length = 0 then none else some acc
def choiceR (l : List Nat) (p : Nat) : Option (List CaseD) := choiceF l (l.length + 1) p []
def ChoicePost (w : World) (g : Nat) (A : Option Addr) (n c : Nat) (l : List Nat) (E : Option (List CaseD)) (e : Ending) (w' : World) : Prop :=
  ∃ v q, e = .returned (.tuple #[v, .bool E.isSome]) ∧ kC.R 39 w' w.heap.size (fun k => w.heap.size ≤ k) v (E.getD []) ∧ Rd w' g A n c l q ∧ Keep (· = g) w w'

set_option maxRecDepth 100000 in
set_option maxHeartbeats 3200000 in
theorem choice_any {w : World} {g : Nat} {A : Option Addr} {n c : Nat} {l : List Nat} {p : Nat} (h : Rd w g A n c l p) (hbl : Blanks w) (hg : g ≠ 0) :
    Calls Tryd.prog 58 #[.pointer (some ⟨g, 0, none⟩)] w (ChoicePost w g A n c l (choiceR l p)) := by
  have H := hidP h
  have hglt := blk_lt h.blk
  have hnm := h.nm
  have hlen := hidP h.len
  have hBL := hidP hbl
  obtain ⟨E, hE⟩ : ∃ E, choiceR l p = E := ⟨_, rfl⟩
  rw [hE]
  have HE := hidP hE
  clear h hE hbl
  go_enter Tryd.func58, Tryd.ntmps58
  go_wp2_with fail
  go_loopw [4] (fun v4 wr => ∃ (q k : Nat) (cs : List CaseD) (B : Option Addr) (d : Nat), v4 = .slice B cs.length d ∧ cs.length ≤ q ∧ Hid (n < q + k) ∧ Hid (choiceF l k q cs = E) ∧ Hid (kC.R 39 wr w.heap.size (fun k => w.heap.size ≤ k) (.slice B cs.length d) cs) ∧ Hid (Rd wr g A n c l q) ∧ Keep (· = g) w wr) (fun _ wr => n - rdPos wr g)
  case atStart => exact ⟨p, n + 1, [], none, 0, rfl, by simp, by show n < p + (n + 1); omega, by show choiceF l (n + 1) p [] = E; rw [← hlen.out]; exact HE.out, Kd.R_nil _ _ _ _ _, H.out, Keep.refl _ _⟩
  case round =>
    obtain ⟨q, k, cs, B, d, rfl, hcq, HK, HC, HR, HRd, hk⟩ := hrel
    obtain ⟨w1, e1⟩ : ∃ w1, w1 = wr := ⟨_, rfl⟩
    subst e1
    have hc0 : w1.cell? ⟨g, 0, none⟩ = some (.slice A n c) := blk_cell HRd.out.blk 0
    have hc1 : w1.cell? ⟨g, 1, none⟩ = some (.int .i64 q) := blk_cell HRd.out.blk 1
    by_cases hlt : q < n
    · have t1 : (q : Int) < (n : Int) := by omega
      obtain ⟨K, rfl⟩ : ∃ K, k = K + 1 := ⟨k - 1, by have := HK.out; omega⟩
      have hch : choiceF l (K + 1) q cs = _ := HC.out
      unfold choiceF at hch
      rw [if_pos (by rw [hlen.out]; exact hlt)] at hch
      have ha : adv l q = q + 1 := by unfold adv; rw [hlen.out, if_pos hlt]
      have hfa := findF_asc (c := (chr l q : Int)) cases_of 0
      obtain ⟨FF, hFF⟩ : ∃ FF, findF (chr l q) 0 casesL = FF := ⟨_, rfl⟩
      rw [hFF] at hch hfa
      have HFF := hidP hFF
      have hge := fieldsR_ge l FF.2.1 (q + 1)
      obtain ⟨⟨sa, sb, sn, sok, sq⟩, hS⟩ : ∃ S, fieldsR l FF.2.1 (q + 1) = S := ⟨_, rfl⟩
      rw [hS] at hch hge
      have HS := hidP hS
      have HCH := hidP hch
      have HFA := hidP hfa
      have HA := hidP ha
      clear hFF hS hch hfa ha
      go_wp2_with fail
      repeat (go_quiet (fail); try go_wp2_with fail)
      have hR1 := HRd.out.drewN nq
      have hO1 : kC.R 39 (w1.drewN nq) w.heap.size (fun k => w.heap.size ≤ k) (.slice B cs.length d) cs := R_keepS HR.out (S := fun _ => False) ((Keep.refl _ w1).drewN nq) (fun _ _ h => h)
      have hk1 := hk.drewN nq
      clear hc0 hc1
      generalize w1.drewN nq = w2 at *
      refine (next_any hR1).mono ?_
      rintro e w3 ⟨rfl, hR3, k3⟩
      rw [HA.out] at hR3
      have hb3 : Blanks w3 := (hBL.out.keepS hk1 (Ne.symm hg)).keepS k3 (Ne.symm hg)
      have hfd := find_any cases_of (chr l q) w3 hb3
      rw [HFF.out] at hfd
      obtain ⟨fi, ff, fb⟩ := FF
      have HFD := hidP hfd
      have HO3 := hidP (R_keepS hO1 k3 (fun k hk => by show ¬ k = g; omega))
      have hk3 := hk1.trans k3
      have HR3 := hidP hR3
      clear hfd hb3 hO1 hk1 hR1 hR3
      go_wp2_with fail
      refine HFD.out.mono ?_
      rintro e w4 ⟨rfl, hb4⟩
      have hk4 : Keep (· = g) w w4 := hk3.trans (.of_below hb4)
      have HR4 := hidP (HR3.out.keep hb4)
      have HO4 := hidP (Kd.R_below HO3.out hb4)
      cases fb
      · have hE : E = none := by
          have := HCH.out
          rw [if_pos rfl] at this
          exact this.symm
        have HEN := hidP hE
        clear hE
        go_wp2_with fail
        go_ret2
        rw [HEN.out]
        exact ⟨_, q + 1, rfl, Kd.R_nil _ _ _ _ _, HR4.out, hk4⟩
      · have hch := HCH.out
        rw [if_neg (by simp)] at hch
        have hfl := fields_any HR4.out ff HFA.out.1 HFA.out.2
        unfold FieldsPost at hfl
        rw [HS.out] at hfl
        have HFL := hidP hfl
        have hz4 := hk4.size
        clear hfl
        go_wp2_with fail
        refine HFL.out.mono ?_
        rintro e w5 ⟨rfl, hR5, k5⟩
        have hk5 := hk4.trans k5
        have HO5 := hidP (R_keepS HO4.out k5 (fun k hk => by show ¬ k = g; omega))
        have hpq := hR5.pn
        have hc0 : w5.cell? ⟨g, 0, none⟩ = some (.slice A n c) := blk_cell hR5.blk 0
        have hc1 : w5.cell? ⟨g, 1, none⟩ = some (.int .i64 sq) := blk_cell hR5.blk 1
        have hl5 := blk_lt hR5.blk
        have HR5 := hidP hR5
        have hz5 := k5.size
        have hnew : ∀ o k, Keep (· = g) w ((w5.alloc o).drewN k) ∧ Rd ((w5.alloc o).drewN k) g A n c l sq ∧ kC.R 39 ((w5.alloc o).drewN k) w.heap.size (fun k => w.heap.size ≤ k) (.slice B cs.length d) cs ∧ ((w5.alloc o).drewN k).heap[w5.heap.size]? = some o := fun o k => ⟨(hk5.alloc o).drewN k, (HR5.out.keep (bnew (brefl w5) o)).drewN k, R_keepS (Kd.R_below HO5.out (bnew (brefl w5) o)) (S := fun _ => False) ((Keep.refl _ _).drewN k) (fun _ _ h => h), blk_drewN (blk_new w5 o) k⟩
        clear hR5
        cases sok
        · have hE : E = none := by
            rw [if_pos rfl] at hch
            exact hch.symm
          have HEN := hidP hE
          clear hE hch
          go_wp2_with fail
          repeat (go_quiet (fail); try go_wp2_with fail)
          go_ret2
          rw [HEN.out]
          exact ⟨_, sq, rfl, Kd.R_nil _ _ _ _ _, (hnew _ _).2.1, (hnew _ _).1⟩
        · rw [if_neg (by simp)] at hch
          by_cases h3 : fi = 3 ∧ sq < n
          · obtain ⟨h3, hq⟩ := h3
            have hE : E = none := by
              rw [if_pos ⟨h3, by rw [hlen.out]; exact hq⟩] at hch
              exact hch.symm
            have HEN := hidP hE
            have t3 : ((fi : Int) == 3) = true := by simp; omega
            have t4 : (sq : Int) < (n : Int) := by omega
            clear hE hch h3
            go_wp2_with fail
            repeat (go_quiet (fail); try go_wp2_with fail)
            go_ret2
            rw [HEN.out]
            exact ⟨_, sq, rfl, Kd.R_nil _ _ _ _ _, (hnew _ _).2.1, (hnew _ _).1⟩
          · rw [if_neg (by rw [hlen.out]; exact h3)] at hch
            have HCH2 := hidP hch
            have hcl : (cs.length + 1) * 32 ≤ 140737488355328 := by omega
            have h3' : ¬ fi = 3 ∨ fi = 3 ∧ ¬ sq < n := by
              by_cases e : fi = 3
              · exact .inr ⟨e, fun h => h3 ⟨e, h⟩⟩
              · exact .inl e
            clear hch h3
            rcases h3' with h3 | ⟨h3, h4⟩
            · have t3 : ((fi : Int) == 3) = false := by simp; omega
              clear h3
              go_wp2_with fail
              go_quiet (fail)
              obtain ⟨hN1, hN2, hN3, hN4⟩ := hnew (.cells #[.int .i64 sa, .int .i64 sb, .int .i64 sn] 75) nq
              generalize (w5.alloc (.cells #[.int .i64 sa, .int .i64 sb, .int .i64 sn] 75)).drewN nq = w6 at *
              have pc0 : w6.cell? ⟨w5.heap.size, 0, none⟩ = some _ := (blk_cell hN4 0).trans rfl
              have pc1 : w6.cell? ⟨w5.heap.size, 1, none⟩ = some _ := (blk_cell hN4 1).trans rfl
              have pc2 : w6.cell? ⟨w5.heap.size, 2, none⟩ = some _ := (blk_cell hN4 2).trans rfl
              clear hc0 hc1 hnew
              go_wp2_with (at_builtin; go_loud (refine (Kd.R_append kC w.heap.size rfl (.tmp 59) (.tmp 68) 35 39 _ 32 rfl Tryd.underlying35 Tryd.infoC rfl (by decide) (by decide) (.slice B cs.length d) cs ⟨fi, sa, sb, sn⟩ (caseC ⟨fi, sa, sb, sn⟩) (fun k => w.heap.size ≤ k) (fun _ => False) rfl rfl (kC_mkM _ _ _ _) (fun k h => h.elim) (fun k hk => Nat.le_trans hN1.size hk) hN3 (Below.refl _ _) hN1.size hcl ?_)); intro v1 w7 hR7 hB7 hg7 hat7)
              obtain ⟨B7, d7, rfl⟩ := Kd.R_slice hR7
              have hK7 : Keep (fun k => w.heap.size ≤ k) w6 w7 := .of_grown hg7 (fun k e => hN3.1 k e)
              have hR8 : Rd w7 g A n c l sq := hN2.keepS hK7 (by show ¬ w.heap.size ≤ g; omega) (fun b o e => by
                subst e
                have := H.out.row.lt (by rw [List.length_map, hlen.out]; omega)
                show ¬ w.heap.size ≤ b
                omega)
              refine ⟨⟨sq, K, _, B7, d7, rfl, by simp; omega, by have := HK.out; show n < sq + K; omega, HCH2, hR7, hR8, hN1.then hK7 (fun i hi h => by omega)⟩, ?_⟩
              rw [rdPos_eq hR8.blk, rdPos_eq HRd.out.blk]
              omega
            · have t3 : ((fi : Int) == 3) = true := by simp; omega
              obtain rfl : n = sq := by omega
              clear h3 h4
              go_wp2_with fail
              go_quiet (fail)
              obtain ⟨hN1, hN2, hN3, hN4⟩ := hnew (.cells #[.int .i64 sa, .int .i64 sb, .int .i64 sn] 75) nq
              generalize (w5.alloc (.cells #[.int .i64 sa, .int .i64 sb, .int .i64 sn] 75)).drewN nq = w6 at *
              have pc0 : w6.cell? ⟨w5.heap.size, 0, none⟩ = some _ := (blk_cell hN4 0).trans rfl
              have pc1 : w6.cell? ⟨w5.heap.size, 1, none⟩ = some _ := (blk_cell hN4 1).trans rfl
              have pc2 : w6.cell? ⟨w5.heap.size, 2, none⟩ = some _ := (blk_cell hN4 2).trans rfl
              clear hc0 hc1 hnew
              go_wp2_with (at_builtin; go_loud (refine (Kd.R_append kC w.heap.size rfl (.tmp 59) (.tmp 68) 35 39 _ 32 rfl Tryd.underlying35 Tryd.infoC rfl (by decide) (by decide) (.slice B cs.length d) cs ⟨fi, sa, sb, sn⟩ (caseC ⟨fi, sa, sb, sn⟩) (fun k => w.heap.size ≤ k) (fun _ => False) rfl rfl (kC_mkM _ _ _ _) (fun k h => h.elim) (fun k hk => Nat.le_trans hN1.size hk) hN3 (Below.refl _ _) hN1.size hcl ?_)); intro v1 w7 hR7 hB7 hg7 hat7)
              obtain ⟨B7, d7, rfl⟩ := Kd.R_slice hR7
              have hK7 : Keep (fun k => w.heap.size ≤ k) w6 w7 := .of_grown hg7 (fun k e => hN3.1 k e)
              have hR8 : Rd w7 g A n c l n := hN2.keepS hK7 (by show ¬ w.heap.size ≤ g; omega) (fun b o e => by
                subst e
                have := H.out.row.lt (by rw [List.length_map, hlen.out]; omega)
                show ¬ w.heap.size ≤ b
                omega)
              refine ⟨⟨n, K, _, B7, d7, rfl, by simp; omega, by have := HK.out; show n < n + K; omega, HCH2, hR7, hR8, hN1.then hK7 (fun i hi h => by omega)⟩, ?_⟩
              rw [rdPos_eq hR8.blk, rdPos_eq HRd.out.blk]
              omega
    · have hch : choiceF l k q cs = _ := HC.out
      obtain ⟨K, rfl⟩ : ∃ K, k = K + 1 := ⟨k - 1, by have := HK.out; have := HRd.out.pn; omega⟩
      unfold choiceF at hch
      rw [if_neg (by rw [hlen.out]; exact hlt)] at hch
      obtain rfl : n = q := by have := HRd.out.pn; omega
      have hR1 : ∀ k, Rd (w1.drewN k) g A n c l n ∧ kC.R 39 (w1.drewN k) w.heap.size (fun k => w.heap.size ≤ k) (.slice B cs.length d) cs ∧ Keep (· = g) w (w1.drewN k) := fun k => ⟨HRd.out.drewN k, R_keepS HR.out (S := fun _ => False) ((Keep.refl _ w1).drewN k) (fun _ _ h => h), hk.drewN k⟩
      have HCH := hidP hch
      have htest : cs.length = 0 ∨ ¬ cs.length = 0 := by omega
      clear hch
      rcases htest with h0 | h0
      · have hE : E = none := by have := HCH.out; rw [if_pos h0] at this; exact this.symm
        have HEN := hidP hE
        have hcs : cs = [] := List.eq_nil_of_length_eq_zero h0
        subst hcs
        clear hE h0
        go_wp2_with fail
        go_quiet (fail)
        go_wp2
        go_ret2
        rw [HEN.out]
        exact ⟨_, n, rfl, (hR1 _).2.1, (hR1 _).1, (hR1 _).2.2⟩
      · have hE : E = some cs := by have := HCH.out; rw [if_neg h0] at this; exact this.symm
        have HEN := hidP hE
        obtain ⟨m, hm⟩ : ∃ m, cs.length = m := ⟨_, rfl⟩
        rw [hm] at h0 hR1 ⊢
        have HD : Hid (decide (0 < m) = true) := decide_eq_true (by omega)
        clear hE hm
        go_wp2_with fail
        go_quiet (fail)
        go_wp2
        go_ret2
        rw [HEN.out]
        exact ⟨.slice B m d, n, by show Ending.returned (.tuple #[.slice B m d, .bool (decide (0 < m))]) = _; rw [HD.out]; rfl, (hR1 _).2.1, (hR1 _).1, (hR1 _).2.2⟩
end Go.Proofs.YtoflhfiegfhkoaaDoor
