/-
  What dormouseplay makes may be, in plain words.
-/
import Derived.Test.YtoflhfiegfhkoaaDoorKPlayB
import Derived.Test.YtoflhfiegfhkoaaDoorKLoad
namespace Go.Proofs.YtoflhfiegfhkoaaDoor
open Go.RowKit Go.Proofs.YtoflhfiegfhkoaaDoorW.PrintWords
set_option linter.unusedVariables false

/-- A program that may be, near to one that is drawn. -/
def pcodeO (l : List InstrD) : List InstrD := if (l.take 40).length = 0 then [⟨22, 0, 0, 0, []⟩] else l.take 40
def pcodeR (l : List InstrD) : List InstrD := (pcodeO l).map fun x => pinstr x ((pcodeO l).length : Int)
theorem pcodeR_length (l : List InstrD) : (pcodeR l).length = (pcodeO l).length := by unfold pcodeR; rw [List.length_map]
theorem pcodeO_length (l : List InstrD) : 1 ≤ (pcodeO l).length ∧ (pcodeO l).length ≤ 40 := by
  unfold pcodeO
  split
  · simp
  · rw [List.length_take] at *
    omega

/-- What a cell group says while some instructions are made, and the others are read still. -/
def RM (w w1 : World) (base : Nat) (ok : Nat → Prop) : Bool × InstrD → List Value → Prop := fun p cs => if p.1 = true then kI.M w1 base ok p.2 cs else kI.K w p.2 cs
def mixL (n : Int) (o : List InstrD) (k : Nat) : List (Bool × InstrD) := (o.take k).map (fun x => (true, pinstr x n)) ++ (o.drop k).map (fun x => (false, x))
theorem mixL_length (n : Int) (o : List InstrD) (k : Nat) : (mixL n o k).length = o.length := by
  unfold mixL
  rw [List.length_append, List.length_map, List.length_map, ← List.length_append, List.take_append_drop]
theorem mixL_at {n : Int} {o : List InstrD} {k : Nat} {x : InstrD} (h : o[k]? = some x) : (mixL n o k)[k]? = some (false, x) := by
  have hk := (List.getElem?_eq_some_iff.1 h).1
  unfold mixL
  rw [List.getElem?_append_right (by rw [List.length_map, List.length_take]; omega), List.length_map, List.length_take, show k - min k o.length = 0 by omega, List.getElem?_map, List.getElem?_drop, Nat.add_zero, h]
  rfl
theorem mixL_next {n : Int} {o : List InstrD} {k : Nat} {x : InstrD} (h : o[k]? = some x) : mixL n o (k + 1) = (mixL n o k).set k (true, pinstr x n) := by
  obtain ⟨hk, hx⟩ := List.getElem?_eq_some_iff.1 h
  unfold mixL
  rw [List.take_add_one, h, List.drop_eq_getElem_cons hk, List.set_append_right _ _ (by rw [List.length_map, List.length_take]; omega), List.length_map, List.length_take, show k - min k o.length = 0 by omega, List.map_cons, List.set_cons_zero, List.map_append, List.append_assoc]
  rfl
theorem mixL_zero (n : Int) (o : List InstrD) : mixL n o 0 = o.map fun x => (false, x) := by simp [mixL]
theorem mixL_all (n : Int) (o : List InstrD) : mixL n o o.length = o.map fun x => (true, pinstr x n) := by simp [mixL]

theorem reps_1 {α : Type} {R : α → List Value → Prop} {size : Nat} {p : α} {c : List Value} (hp : R p c) (hc : c.length = size) : Reps R size [p] c := by
  have := (Reps.none R size).snoc hp hc
  simpa using this
theorem reps_imp {α : Type} {R R' : α → List Value → Prop} {size : Nat} {ps : List α} {cs : List Value} (h : Reps R size ps cs) (hR : ∀ p c, p ∈ ps → R p c → R' p c) : Reps R' size ps cs :=
  ⟨h.1, fun j p hj => hR p _ (List.mem_of_getElem? hj) (h.2 j p hj)⟩
theorem reps_set {α : Type} {R : α → List Value → Prop} {ps : List α} {cs : List Value} (h : Reps R 5 ps cs) (k : Nat) (q : α) (c0 c1 c2 c3 c4 : Value) (hk : k < ps.length) (hq : R q [c0, c1, c2, c3, c4]) :
    Reps R 5 (ps.set k q) (((((cs.set (k * 5) c0).set (k * 5 + 1) c1).set (k * 5 + 2) c2).set (k * 5 + 3) c3).set (k * 5 + 4) c4) := by
  have hl := h.1
  refine ⟨by simp [hl], fun j p hj => ?_⟩
  by_cases hjk : j = k
  · subst hjk
    rw [List.getElem?_set_self hk] at hj
    obtain rfl := Option.some.inj hj
    have e : ((((((cs.set (j * 5) c0).set (j * 5 + 1) c1).set (j * 5 + 2) c2).set (j * 5 + 3) c3).set (j * 5 + 4) c4).drop (j * 5)).take 5 = [c0, c1, c2, c3, c4] := by
      apply List.ext_getElem?
      intro i
      rw [List.getElem?_take, List.getElem?_drop]
      by_cases hi : i < 5
      · rw [if_pos hi]
        have : i = 0 ∨ i = 1 ∨ i = 2 ∨ i = 3 ∨ i = 4 := by omega
        rcases this with rfl | rfl | rfl | rfl | rfl <;> simp [List.getElem?_set] <;> omega
      · rw [if_neg hi, List.getElem?_eq_none (by simp; omega)]
    rw [e]
    exact hq
  · rw [List.getElem?_set_ne (fun e => hjk e.symm)] at hj
    have e : ((((((cs.set (k * 5) c0).set (k * 5 + 1) c1).set (k * 5 + 2) c2).set (k * 5 + 3) c3).set (k * 5 + 4) c4).drop (j * 5)).take 5 = (cs.drop (j * 5)).take 5 := by
      apply List.ext_getElem?
      intro i
      rw [List.getElem?_take, List.getElem?_drop, List.getElem?_take, List.getElem?_drop]
      by_cases hi : i < 5
      · rw [if_pos hi, if_pos hi, List.getElem?_set_ne (by omega), List.getElem?_set_ne (by omega), List.getElem?_set_ne (by omega), List.getElem?_set_ne (by omega), List.getElem?_set_ne (by omega)]
      · rw [if_neg hi, if_neg hi]
    rw [e]
    exact h.2 j p hj
theorem reps_chunk {α : Type} {R : α → List Value → Prop} {ps : List α} {cs : List Value} (h : Reps R 5 ps cs) (k : Nat) (p : α) (hp : ps[k]? = some p) (c : List Value) (hc : (cs.drop (k * 5)).take 5 = c) : R p c ∧ ∀ j u, c[j]? = some u → cs[k * 5 + j]? = some u := by
  refine ⟨hc ▸ h.2 k p hp, fun j u hj => ?_⟩
  rw [← hc, List.getElem?_take] at hj
  split at hj
  · rw [List.getElem?_drop] at hj; exact hj
  · cases hj

/-- Five cells of a row of one's own are written. -/
theorem own_five {w : World} {base g n cap : Nat} {xs : List Value} (h : w.ownsRow base 37 5 (.slice (some ⟨g, 0, none⟩) n cap) n xs) (k : Nat) (c0 c1 c2 c3 c4 : Value) :
    (((((w.setCell ⟨g, k * 5, none⟩ c0).setCell ⟨g, k * 5 + 1, none⟩ c1).setCell ⟨g, k * 5 + 2, none⟩ c2).setCell ⟨g, k * 5 + 3, none⟩ c3).setCell ⟨g, k * 5 + 4, none⟩ c4).ownsRow base 37 5 (.slice (some ⟨g, 0, none⟩) n cap) n (((((xs.set (k * 5) c0).set (k * 5 + 1) c1).set (k * 5 + 2) c2).set (k * 5 + 3) c3).set (k * 5 + 4) c4) :=
  (((((h.stored _ _).1.stored _ _).1.stored _ _).1.stored _ _).1.stored _ _).1
theorem keep_five (w : World) (g k : Nat) (c0 c1 c2 c3 c4 : Value) : Keep (· = g) w (((((w.setCell ⟨g, k * 5, none⟩ c0).setCell ⟨g, k * 5 + 1, none⟩ c1).setCell ⟨g, k * 5 + 2, none⟩ c2).setCell ⟨g, k * 5 + 3, none⟩ c3).setCell ⟨g, k * 5 + 4, none⟩ c4) :=
  (((((Keep.refl (· = g) w).setCell (p := ⟨g, k * 5, none⟩) rfl _).setCell (p := ⟨g, k * 5 + 1, none⟩) rfl _).setCell (p := ⟨g, k * 5 + 2, none⟩) rfl _).setCell (p := ⟨g, k * 5 + 3, none⟩) rfl _).setCell (p := ⟨g, k * 5 + 4, none⟩) rfl _

set_option maxRecDepth 100000 in
set_option maxHeartbeats 6400000 in
theorem pcode_any (A : Option Addr) (d : Nat) (l : List InstrD) (w : World) (h : kI.C w A l.length l) :
    Calls Tryd.prog 21 #[.slice A l.length d] w fun e w' => ∃ B c, e = .returned (.slice B (pcodeR l).length c) ∧ (pcodeR l).length ≤ c ∧ kI.C w' B (pcodeR l).length (pcodeR l) ∧ Below w.heap.size w w' := by
  have H := hidP h
  have hmx := h.2.1
  obtain ⟨n, hn⟩ : ∃ n, l.length = n := ⟨_, rfl⟩
  rw [hn] at hmx ⊢
  have HN := hidP hn
  obtain ⟨E, hE⟩ : ∃ E, pcodeR l = E := ⟨_, rfl⟩
  rw [hE]
  have HE := hidP hE
  clear h hn hE
  go_enter Tryd.func21, Tryd.ntmps21
  go_wp2_with fail
  go_loopw [3, 4] (fun v3 v4 wr => ∃ (k : Nat) (B : Option Addr) (c : Nat), v3 = .slice B k c ∧ v4 = .int .i64 k ∧ k ≤ n ∧ k ≤ 40 ∧ Hid (OwnRow (kI.K w) 37 5 wr w.heap.size (.slice B k c) (l.take k)) ∧ Below w.heap.size w wr) (fun _ v4 _ => 40 - (intOf v4).toNat)
  case atStart => exact ⟨0, none, 0, rfl, rfl, by omega, by omega, by show OwnRow _ _ _ _ _ _ (l.take 0); rw [List.take_zero]; exact OwnRow.none_ _ _ _ _ _, brefl _⟩
  case round =>
    obtain ⟨k, B, c, rfl, rfl, hk, hk40, HO, hb⟩ := hrel
    obtain ⟨w1, e1⟩ : ∃ w1, w1 = wr := ⟨_, rfl⟩
    subst e1
    by_cases hkn : k < n
    · have lt1 : (k : Int) < (n : Int) := by omega
      by_cases hk4 : k < 40
      · have lt2 : (k : Int) < 40 := by omega
        obtain ⟨⟨xo, xa, xb, xn, xc⟩, hx⟩ : ∃ x, l[k]? = some x := ⟨_, List.getElem?_eq_getElem (by rw [HN.out]; exact hkn)⟩
        obtain ⟨b, o, A4, c4, rfl, x0, x1, x2, x3, x4, hle, hxc⟩ := instr_at H.out k _ hx
        dsimp only at x0 x1 x2 x3 x4 hle hxc
        have y0 := pw_cell_below hb x0
        have y1 := pw_cell_below hb x1
        have y2 := pw_cell_below hb x2
        have y3 := pw_cell_below hb x3
        have y4 := pw_cell_below hb x4
        have hK : kI.K w ⟨xo, xa, xb, xn, xc⟩ (instrC ⟨xo, xa, xb, xn, xc⟩ (.slice A4 xc.length c4)) := kI_mk w ⟨xo, xa, xb, xn, xc⟩ hle hxc
        have HK := hidP hK
        have hlk : (l.take k).length = k := by rw [List.length_take, HN.out]; omega
        have hnx : l.take k ++ [⟨xo, xa, xb, xn, xc⟩] = l.take (k + 1) := by rw [List.take_add_one, hx]; rfl
        have HNX := hidP hnx
        have hcap : ((l.take k).length + 1) * 56 ≤ 140737488355328 := by rw [hlk]; omega
        have HLK := hidP hlk
        clear hx x0 x1 x2 x3 x4 hle hxc hK hlk hnx
        go_wp2_with (at_builtin; go_loud (refine (OwnRow.append w.heap.size rfl (.tmp 17) (.tmp 22) 22 37 _ 5 56 rfl Tryd.underlying22 Tryd.infoI rfl (by decide) (by decide) (.slice B k c) (l.take k) ⟨xo, xa, xb, xn, xc⟩ (instrC ⟨xo, xa, xb, xn, xc⟩ (.slice A4 xc.length c4)) rfl rfl HK.out rfl (kI.K_one HK.out) HO.out hb hb.size hcap ?_)); intro v1 w7 hO7 hB7 hg7 hat7)
        rw [HNX.out] at hO7
        obtain ⟨B7, d7, e7, _⟩ := OwnRow.slice_ hO7
        have hl7 : (l.take (k + 1)).length = k + 1 := by rw [List.length_take, HN.out]; omega
        rw [hl7] at e7
        subst e7
        refine ⟨⟨k + 1, B7, d7, rfl, by go_num, by omega, by omega, hO7, hB7⟩, by simp [intOf]; omega⟩
      · have lt2 : ¬ (k : Int) < 40 := by omega
        have h0 : ¬ k = 0 := by omega
        have ho : k = (l.take 40).length := by rw [List.length_take, HN.out]; omega
        have hlk : l.take k = l.take 40 := by
          by_cases h40 : k = 40
          · rw [h40]
          · rw [List.take_of_length_le (by rw [HN.out]; omega), List.take_of_length_le (by rw [HN.out]; omega)]
        have hO := HO.out
        rw [hlk] at hO
        clear HO hlk
        have hpo : pcodeO l = l.take 40 := by unfold pcodeO; rw [if_neg (by rw [← ho]; exact h0)]
        have t0 : ((k : Int) == 0) = false := by simp; omega
        rw [← hpo] at hO ho
        obtain ⟨inner, hown, hrep⟩ := hO
        obtain ⟨g, cap, hv, hgb, hgl⟩ := hown.form (by rw [← ho]; omega)
        rw [← ho] at hv
        simp only [Value.slice.injEq] at hv
        obtain ⟨rfl, _, rfl⟩ := hv
        have hgs : w.heap.size ≤ g ∧ g < w1.heap.size := ⟨hgb, hgl⟩
        have HLIT := hidP (show OwnRow (kI.K w) 37 5 w1 w.heap.size (.slice (some ⟨g, 0, none⟩) k c) (pcodeO l) from ⟨inner, hown, hrep⟩)
        have HPO := hidP ho.symm
        have hb2 := hb
        have hk1 : 1 ≤ k := by omega
        clear ho hpo hown hrep hgb hgl h0 hb
        go_upto_region 8 with fail
        obtain ⟨w2, e2⟩ : ∃ w2, w2 = w1 := ⟨_, rfl⟩
        subst e2
        obtain ⟨hgb, hgl⟩ := hgs
        have hE2 : E = (pcodeO l).map fun x => pinstr x (k : Int) := by rw [← HE.out]; unfold pcodeR; rw [HPO.out]; try rfl
        obtain ⟨o, ho⟩ : ∃ o, pcodeO l = o := ⟨_, rfl⟩
        rw [ho] at HLIT HPO hE2
        have HEE := hidP hE2
        have hlo : o.length = k := HPO.out
        have HLO := hidP hlo
        have HLB := hidP (show 1 ≤ o.length ∧ o.length ≤ 40 by rw [← ho]; exact pcodeO_length l)
        clear hE2 HPO HE ho hlo
        go_wp2_with fail
        go_loopw [6] (fun v6 wr => ∃ (i : Nat), v6 = .int .i64 i ∧ i ≤ k ∧ Hid (OwnRow (RM w wr w.heap.size (fun j => w.heap.size ≤ j ∧ j ≠ g)) 37 5 wr w.heap.size (.slice (some ⟨g, 0, none⟩) (k) (c)) (mixL (k : Int) o i)) ∧ Below w.heap.size w wr ∧ g < wr.heap.size) (fun v6 _ => k - (intOf v6).toNat)
        case atStart =>
          refine ⟨0, rfl, by omega, ?_, hb2, hgl⟩
          show OwnRow _ _ _ _ _ _ _
          obtain ⟨inner, hown, hrep⟩ := HLIT.out
          rw [HLO.out] at hown
          refine ⟨inner, by rw [mixL_length, HLO.out]; exact hown, ?_⟩
          rw [mixL_zero]
          refine ⟨by rw [List.length_map]; exact hrep.1, fun j p hj => ?_⟩
          rw [List.getElem?_map] at hj
          obtain ⟨x, hx, rfl⟩ := Option.map_eq_some_iff.1 hj
          exact hrep.2 j x hx
        case round =>
          clear hb2 hgl
          obtain ⟨i, rfl, hi, HM, hb3, hgl⟩ := hrel
          obtain ⟨w3, e3⟩ : ∃ w3, w3 = wr := ⟨_, rfl⟩
          subst e3
          by_cases hin : i < k
          · have lt3 : (i : Int) < (k : Int) := by omega
            obtain ⟨x, hx⟩ : ∃ x, o[i]? = some x := ⟨_, List.getElem?_eq_getElem (by rw [HLO.out]; exact hin)⟩
            obtain ⟨inner, hown, hrep⟩ := HM.out
            rw [mixL_length, HLO.out] at hown
            obtain ⟨hRx, hcx⟩ := reps_chunk hrep i _ (mixL_at hx) _ rfl
            have hKx : kI.K w x _ := hRx
            obtain ⟨A4, c4, ecs, hle, hxc⟩ := kI_open hKx
            rw [ecs] at hcx
            have hce : ∀ j u, (instrC x (.slice A4 x.cases.length c4))[j]? = some u → w3.cell? ⟨g, i * 5 + j, none⟩ = some u := fun j u hj => by
              have := hown.cells (g := g) rfl (i * 5 + j) u (hcx j u hj)
              rw [add_plain] at this
              exact this
            have hfz : ∀ j, w3.frozen? ⟨g, i * 5 + j, none⟩ = false := fun j => by
              rcases hown.2 with ⟨h, _⟩ | ⟨g', cap', cur, h, _, hg, _⟩
              · cases h
              · simp only [Value.slice.injEq, Option.some.injEq, Addr.mk.injEq] at h
                obtain ⟨⟨rfl, _⟩, _⟩ := h
                exact blk_frozen hg _
            have hcall := pinstr_any x A4 c4 (k : Int) w3 (by have := HLB.out; rw [HLO.out] at this; omega) (by have := HLB.out; rw [HLO.out] at this; omega) (Kd.C_below hxc hb3) hxc.2.1
            obtain ⟨Y, hY⟩ : ∃ Y, pinstr x (k : Int) = Y := ⟨_, rfl⟩
            rw [hY] at hcall
            have hnx := mixL_next (n := (k : Int)) hx
            rw [hY] at hnx
            have HNX := hidP hnx
            obtain ⟨xo, xa, xb, xn, xc⟩ := x
            have x0 := hce 0 _ rfl
            have x1 := hce 1 _ rfl
            have x2 := hce 2 _ rfl
            have x3 := hce 3 _ rfl
            have x4 := hce 4 _ rfl
            dsimp only at x0 x1 x2 x3 x4 hle hxc
            rw [Nat.add_zero] at x0
            simp only [instrV] at hcall
            obtain ⟨m, hm⟩ : ∃ m, xc.length = m := ⟨_, rfl⟩
            rw [hm] at x4 hcall
            have HCALL := hidP hcall
            have HOWN := hidP hown
            have HREP := hidP hrep
            have HFZ := hidP hfz
            clear hcall hown hrep hfz hx hRx hcx hKx ecs hle hxc hce hnx hY hm HM
            go_wp2_with fail
            with_reducible refine HCALL.out.mono ?_
            rintro e w4 ⟨v, rfl, hv, hb4⟩
            obtain ⟨vA, vc, rfl⟩ := Kd.R_slice hv
            obtain ⟨yo, ya, yb, yn, yc⟩ := Y
            have hO4 := owns_below HOWN.out hb4
            have hB4 := bstep hb3 hb4
            have hz4 := hb4.size
            have HV := hidP hv
            have z0 := pw_cell_below hb4 x0
            have z1 := pw_cell_below hb4 x1
            have z2 := pw_cell_below hb4 x2
            have z3 := pw_cell_below hb4 x3
            have z4 := pw_cell_below hb4 x4
            have f0 : w4.frozen? ⟨g, i * 5, none⟩ = false := (hb4.frozen (p := ⟨g, i * 5, none⟩) hgl).trans (HFZ.out 0)
            have f1 : w4.frozen? ⟨g, i * 5 + 1, none⟩ = false := (hb4.frozen (p := ⟨g, i * 5 + 1, none⟩) hgl).trans (HFZ.out 1)
            have f2 : w4.frozen? ⟨g, i * 5 + 2, none⟩ = false := (hb4.frozen (p := ⟨g, i * 5 + 2, none⟩) hgl).trans (HFZ.out 2)
            have f3 : w4.frozen? ⟨g, i * 5 + 3, none⟩ = false := (hb4.frozen (p := ⟨g, i * 5 + 3, none⟩) hgl).trans (HFZ.out 3)
            have f4 : w4.frozen? ⟨g, i * 5 + 4, none⟩ = false := (hb4.frozen (p := ⟨g, i * 5 + 4, none⟩) hgl).trans (HFZ.out 4)
            have HO4 := hidP hO4
            clear x0 x1 x2 x3 x4 hv hO4
            simp only [instrV]
            obtain ⟨ym, hym⟩ : ∃ ym, yc.length = ym := ⟨_, rfl⟩
            have HV2 := hidP (hym ▸ HV.out)
            rw [hym]
            have HYM := hidP hym
            clear hym
            go_wp2_with fail
            have hK5 := keep_five w4 g i (.int .i64 yo) (.int .i64 ya) (.int .i64 yb) (.int .i64 yn) (.slice vA ym vc)
            have hO5 := own_five HO4.out i (.int .i64 yo) (.int .i64 ya) (.int .i64 yb) (.int .i64 yn) (.slice vA ym vc)
            generalize ((((w4.setCell ⟨g, i * 5, none⟩ (.int .i64 yo)).setCell ⟨g, i * 5 + 1, none⟩ (.int .i64 ya)).setCell ⟨g, i * 5 + 2, none⟩ (.int .i64 yb)).setCell ⟨g, i * 5 + 3, none⟩ (.int .i64 yn)).setCell ⟨g, i * 5 + 4, none⟩ (.slice vA ym vc) = w5 at *
            have hB5 : Below w.heap.size w w5 := Keep.belowS hB4 hK5 hB4.size (fun j h => by omega)
            go_roundw
            case rel =>
              refine ⟨i + 1, by go_num, by omega, ?_, hB5, by have := hK5.size; omega⟩
              show OwnRow _ _ _ _ _ _ _
              rw [HNX.out]
              refine ⟨_, by rw [List.length_set, mixL_length, HLO.out]; exact hO5, ?_⟩
              refine reps_set (reps_imp HREP.out fun p cs _ hp => ?_) i _ _ _ _ _ _ (by rw [mixL_length, HLO.out]; exact hin) ?_
              · unfold RM at hp ⊢
                split
                · rename_i h1
                  rw [if_pos h1] at hp
                  refine Kd.M_step hp (fun j hj hjl => ?_)
                  rw [hK5.block j (by omega) hj.2]
                  exact hb4.block j hjl
                · rename_i h1
                  rw [if_neg h1] at hp
                  exact hp
              · show kI.M w5 w.heap.size _ ⟨yo, ya, yb, yn, yc⟩ (instrC ⟨yo, ya, yb, yn, yc⟩ (.slice vA ym vc))
                refine kI_mkM _ ?_
                have h5 := HV.out
                rw [HYM.out] at h5
                exact Kd.R_mono (Kd.R_lower (R_keepS h5 hK5 (fun j hj => by show ¬ j = g; omega)) (by have := hb3.size; omega)) (fun j hj => ⟨by have := hb3.size; omega, by omega⟩)
            case measure => simp [intOf]; omega
          · have hik : i = k := by omega
            have hM := HM.out
            rw [show i = o.length by rw [HLO.out]; exact hik, mixL_all] at hM
            have lt3 : ¬ (i : Int) < (k : Int) := by omega
            obtain ⟨B9, c9, e9, hle9, hR9⟩ := OwnRow.reads hM
            rw [List.length_map, HLO.out] at e9 hle9 hR9
            simp only [Value.slice.injEq, true_and] at e9
            obtain ⟨rfl, rfl⟩ := e9
            have hfin : kI.C w3 (some ⟨g, 0, none⟩) (k) E := by
              rw [HEE.out]
              refine ⟨by rw [List.length_map, HLO.out], hR9.2.1, fun h => ?_⟩
              obtain ⟨ad, ead, hat⟩ := hR9.2.2 h
              refine ⟨ad, ead, fun j p hj => ?_⟩
              obtain ⟨y, hy, rfl⟩ := Option.map_eq_some_iff.1 ((List.getElem?_map ..).symm.trans hj)
              obtain ⟨cc, hcl, hcr, hca⟩ := hat j (true, pinstr y (k : Int)) (by rw [List.getElem?_map, hy]; rfl)
              exact ⟨cc, hcl, kI.K_of_M hcr, hca⟩
            have HFIN := hidP hfin
            have hEl : E.length = k := by rw [HEE.out, List.length_map, HLO.out]
            have HEL := hidP hEl
            clear hM hR9 hfin hEl hik
            go_wp2
            go_ret
            rw [HEL.out]
            exact ⟨_, _, rfl, hle9, HFIN.out, hb3⟩
    · have lt1 : ¬ (k : Int) < (n : Int) := by omega
      have ho : k = (l.take 40).length := by rw [List.length_take, HN.out]; omega
      have hlk : l.take k = l.take 40 := by
        by_cases h40 : k = 40
        · rw [h40]
        · rw [List.take_of_length_le (by rw [HN.out]; omega), List.take_of_length_le (by rw [HN.out]; omega)]
      have hO := HO.out
      rw [hlk] at hO
      clear HO hlk
      by_cases h0 : k = 0
      ·
        subst h0
        have hpo : pcodeO l = [⟨22, 0, 0, 0, []⟩] := by unfold pcodeO; rw [if_pos ho.symm]
        have hlit : OwnRow (kI.K w) 37 5 (w1.alloc (.cells #[.int .i64 22, .int .i64 0, .int .i64 0, .int .i64 0, .slice none 0 0] 37)) w.heap.size (.slice (some ⟨w1.heap.size, 0, none⟩) 1 1) [⟨22, 0, 0, 0, []⟩] :=
          OwnRow.lit (ps := [(⟨22, 0, 0, 0, []⟩ : InstrD)]) w1 w.heap.size (reps_1 (kI_mk w ⟨22, 0, 0, 0, []⟩ (Nat.le_refl _) ⟨rfl, Nat.zero_le _, fun h => by simp at h⟩) rfl) hb.size (by simp)
        have hb2 := bnew hb (.cells #[.int .i64 22, .int .i64 0, .int .i64 0, .int .i64 0, .slice none 0 0] 37)
        have t0 : ((0 : Int) == 0) = true := rfl
        have hgs : w.heap.size ≤ w1.heap.size ∧ w1.heap.size < (w1.alloc (.cells #[.int .i64 22, .int .i64 0, .int .i64 0, .int .i64 0, .slice none 0 0] 37)).heap.size := ⟨hb.size, by simp⟩
        rw [← hpo] at hlit
        have HPO := hidP (show (pcodeO l).length = 1 by rw [hpo]; rfl)
        have HLIT := hidP hlit
        clear ho hO hpo hlit
        go_upto_region 8 with fail
        generalize w1.alloc (.cells #[.int .i64 22, .int .i64 0, .int .i64 0, .int .i64 0, .slice none 0 0] 37) = w2 at *
        generalize w1.heap.size = g at *
        clear hb
        obtain ⟨hgb, hgl⟩ := hgs
        have hE2 : E = (pcodeO l).map fun x => pinstr x (1 : Int) := by rw [← HE.out]; unfold pcodeR; rw [HPO.out]; try rfl
        obtain ⟨o, ho⟩ : ∃ o, pcodeO l = o := ⟨_, rfl⟩
        rw [ho] at HLIT HPO hE2
        have HEE := hidP hE2
        have hlo : o.length = 1 := HPO.out
        have HLO := hidP hlo
        have HLB := hidP (show 1 ≤ o.length ∧ o.length ≤ 40 by rw [← ho]; exact pcodeO_length l)
        clear hE2 HPO HE ho hlo
        go_wp2_with fail
        go_loopw [6] (fun v6 wr => ∃ (i : Nat), v6 = .int .i64 i ∧ i ≤ 1 ∧ Hid (OwnRow (RM w wr w.heap.size (fun j => w.heap.size ≤ j ∧ j ≠ g)) 37 5 wr w.heap.size (.slice (some ⟨g, 0, none⟩) (1) (1)) (mixL (1 : Int) o i)) ∧ Below w.heap.size w wr ∧ g < wr.heap.size) (fun v6 _ => 1 - (intOf v6).toNat)
        case atStart =>
          refine ⟨0, rfl, by omega, ?_, hb2, hgl⟩
          show OwnRow _ _ _ _ _ _ _
          obtain ⟨inner, hown, hrep⟩ := HLIT.out
          rw [HLO.out] at hown
          refine ⟨inner, by rw [mixL_length, HLO.out]; exact hown, ?_⟩
          rw [mixL_zero]
          refine ⟨by rw [List.length_map]; exact hrep.1, fun j p hj => ?_⟩
          rw [List.getElem?_map] at hj
          obtain ⟨x, hx, rfl⟩ := Option.map_eq_some_iff.1 hj
          exact hrep.2 j x hx
        case round =>
          clear hb2 hgl
          obtain ⟨i, rfl, hi, HM, hb3, hgl⟩ := hrel
          obtain ⟨w3, e3⟩ : ∃ w3, w3 = wr := ⟨_, rfl⟩
          subst e3
          by_cases hin : i < 1
          · have lt3 : (i : Int) < (1 : Int) := by omega
            obtain ⟨x, hx⟩ : ∃ x, o[i]? = some x := ⟨_, List.getElem?_eq_getElem (by rw [HLO.out]; exact hin)⟩
            obtain ⟨inner, hown, hrep⟩ := HM.out
            rw [mixL_length, HLO.out] at hown
            obtain ⟨hRx, hcx⟩ := reps_chunk hrep i _ (mixL_at hx) _ rfl
            have hKx : kI.K w x _ := hRx
            obtain ⟨A4, c4, ecs, hle, hxc⟩ := kI_open hKx
            rw [ecs] at hcx
            have hce : ∀ j u, (instrC x (.slice A4 x.cases.length c4))[j]? = some u → w3.cell? ⟨g, i * 5 + j, none⟩ = some u := fun j u hj => by
              have := hown.cells (g := g) rfl (i * 5 + j) u (hcx j u hj)
              rw [add_plain] at this
              exact this
            have hfz : ∀ j, w3.frozen? ⟨g, i * 5 + j, none⟩ = false := fun j => by
              rcases hown.2 with ⟨h, _⟩ | ⟨g', cap', cur, h, _, hg, _⟩
              · cases h
              · simp only [Value.slice.injEq, Option.some.injEq, Addr.mk.injEq] at h
                obtain ⟨⟨rfl, _⟩, _⟩ := h
                exact blk_frozen hg _
            have hcall := pinstr_any x A4 c4 (1 : Int) w3 (by have := HLB.out; rw [HLO.out] at this; omega) (by have := HLB.out; rw [HLO.out] at this; omega) (Kd.C_below hxc hb3) hxc.2.1
            obtain ⟨Y, hY⟩ : ∃ Y, pinstr x (1 : Int) = Y := ⟨_, rfl⟩
            rw [hY] at hcall
            have hnx := mixL_next (n := (1 : Int)) hx
            rw [hY] at hnx
            have HNX := hidP hnx
            obtain ⟨xo, xa, xb, xn, xc⟩ := x
            have x0 := hce 0 _ rfl
            have x1 := hce 1 _ rfl
            have x2 := hce 2 _ rfl
            have x3 := hce 3 _ rfl
            have x4 := hce 4 _ rfl
            dsimp only at x0 x1 x2 x3 x4 hle hxc
            rw [Nat.add_zero] at x0
            simp only [instrV] at hcall
            obtain ⟨m, hm⟩ : ∃ m, xc.length = m := ⟨_, rfl⟩
            rw [hm] at x4 hcall
            have HCALL := hidP hcall
            have HOWN := hidP hown
            have HREP := hidP hrep
            have HFZ := hidP hfz
            clear hcall hown hrep hfz hx hRx hcx hKx ecs hle hxc hce hnx hY hm HM
            go_wp2_with fail
            with_reducible refine HCALL.out.mono ?_
            rintro e w4 ⟨v, rfl, hv, hb4⟩
            obtain ⟨vA, vc, rfl⟩ := Kd.R_slice hv
            obtain ⟨yo, ya, yb, yn, yc⟩ := Y
            have hO4 := owns_below HOWN.out hb4
            have hB4 := bstep hb3 hb4
            have hz4 := hb4.size
            have HV := hidP hv
            have z0 := pw_cell_below hb4 x0
            have z1 := pw_cell_below hb4 x1
            have z2 := pw_cell_below hb4 x2
            have z3 := pw_cell_below hb4 x3
            have z4 := pw_cell_below hb4 x4
            have f0 : w4.frozen? ⟨g, i * 5, none⟩ = false := (hb4.frozen (p := ⟨g, i * 5, none⟩) hgl).trans (HFZ.out 0)
            have f1 : w4.frozen? ⟨g, i * 5 + 1, none⟩ = false := (hb4.frozen (p := ⟨g, i * 5 + 1, none⟩) hgl).trans (HFZ.out 1)
            have f2 : w4.frozen? ⟨g, i * 5 + 2, none⟩ = false := (hb4.frozen (p := ⟨g, i * 5 + 2, none⟩) hgl).trans (HFZ.out 2)
            have f3 : w4.frozen? ⟨g, i * 5 + 3, none⟩ = false := (hb4.frozen (p := ⟨g, i * 5 + 3, none⟩) hgl).trans (HFZ.out 3)
            have f4 : w4.frozen? ⟨g, i * 5 + 4, none⟩ = false := (hb4.frozen (p := ⟨g, i * 5 + 4, none⟩) hgl).trans (HFZ.out 4)
            have HO4 := hidP hO4
            clear x0 x1 x2 x3 x4 hv hO4
            simp only [instrV]
            obtain ⟨ym, hym⟩ : ∃ ym, yc.length = ym := ⟨_, rfl⟩
            have HV2 := hidP (hym ▸ HV.out)
            rw [hym]
            have HYM := hidP hym
            clear hym
            go_wp2_with fail
            have hK5 := keep_five w4 g i (.int .i64 yo) (.int .i64 ya) (.int .i64 yb) (.int .i64 yn) (.slice vA ym vc)
            have hO5 := own_five HO4.out i (.int .i64 yo) (.int .i64 ya) (.int .i64 yb) (.int .i64 yn) (.slice vA ym vc)
            generalize ((((w4.setCell ⟨g, i * 5, none⟩ (.int .i64 yo)).setCell ⟨g, i * 5 + 1, none⟩ (.int .i64 ya)).setCell ⟨g, i * 5 + 2, none⟩ (.int .i64 yb)).setCell ⟨g, i * 5 + 3, none⟩ (.int .i64 yn)).setCell ⟨g, i * 5 + 4, none⟩ (.slice vA ym vc) = w5 at *
            have hB5 : Below w.heap.size w w5 := Keep.belowS hB4 hK5 hB4.size (fun j h => by omega)
            go_roundw
            case rel =>
              refine ⟨i + 1, by go_num, by omega, ?_, hB5, by have := hK5.size; omega⟩
              show OwnRow _ _ _ _ _ _ _
              rw [HNX.out]
              refine ⟨_, by rw [List.length_set, mixL_length, HLO.out]; exact hO5, ?_⟩
              refine reps_set (reps_imp HREP.out fun p cs _ hp => ?_) i _ _ _ _ _ _ (by rw [mixL_length, HLO.out]; exact hin) ?_
              · unfold RM at hp ⊢
                split
                · rename_i h1
                  rw [if_pos h1] at hp
                  refine Kd.M_step hp (fun j hj hjl => ?_)
                  rw [hK5.block j (by omega) hj.2]
                  exact hb4.block j hjl
                · rename_i h1
                  rw [if_neg h1] at hp
                  exact hp
              · show kI.M w5 w.heap.size _ ⟨yo, ya, yb, yn, yc⟩ (instrC ⟨yo, ya, yb, yn, yc⟩ (.slice vA ym vc))
                refine kI_mkM _ ?_
                have h5 := HV.out
                rw [HYM.out] at h5
                exact Kd.R_mono (Kd.R_lower (R_keepS h5 hK5 (fun j hj => by show ¬ j = g; omega)) (by have := hb3.size; omega)) (fun j hj => ⟨by have := hb3.size; omega, by omega⟩)
            case measure => simp [intOf]; omega
          · have hik : i = 1 := by omega
            have hM := HM.out
            rw [show i = o.length by rw [HLO.out]; exact hik, mixL_all] at hM
            have lt3 : ¬ (i : Int) < (1 : Int) := by omega
            obtain ⟨B9, c9, e9, hle9, hR9⟩ := OwnRow.reads hM
            rw [List.length_map, HLO.out] at e9 hle9 hR9
            simp only [Value.slice.injEq, true_and] at e9
            obtain ⟨rfl, rfl⟩ := e9
            have hfin : kI.C w3 (some ⟨g, 0, none⟩) (1) E := by
              rw [HEE.out]
              refine ⟨by rw [List.length_map, HLO.out], hR9.2.1, fun h => ?_⟩
              obtain ⟨ad, ead, hat⟩ := hR9.2.2 h
              refine ⟨ad, ead, fun j p hj => ?_⟩
              obtain ⟨y, hy, rfl⟩ := Option.map_eq_some_iff.1 ((List.getElem?_map ..).symm.trans hj)
              obtain ⟨cc, hcl, hcr, hca⟩ := hat j (true, pinstr y (1 : Int)) (by rw [List.getElem?_map, hy]; rfl)
              exact ⟨cc, hcl, kI.K_of_M hcr, hca⟩
            have HFIN := hidP hfin
            have hEl : E.length = 1 := by rw [HEE.out, List.length_map, HLO.out]
            have HEL := hidP hEl
            clear hM hR9 hfin hEl hik
            go_wp2
            go_ret
            rw [HEL.out]
            exact ⟨_, _, rfl, hle9, HFIN.out, hb3⟩
      ·
        have hpo : pcodeO l = l.take 40 := by unfold pcodeO; rw [if_neg (by rw [← ho]; exact h0)]
        have t0 : ((k : Int) == 0) = false := by simp; omega
        rw [← hpo] at hO ho
        obtain ⟨inner, hown, hrep⟩ := hO
        obtain ⟨g, cap, hv, hgb, hgl⟩ := hown.form (by rw [← ho]; omega)
        rw [← ho] at hv
        simp only [Value.slice.injEq] at hv
        obtain ⟨rfl, _, rfl⟩ := hv
        have hgs : w.heap.size ≤ g ∧ g < w1.heap.size := ⟨hgb, hgl⟩
        have HLIT := hidP (show OwnRow (kI.K w) 37 5 w1 w.heap.size (.slice (some ⟨g, 0, none⟩) k c) (pcodeO l) from ⟨inner, hown, hrep⟩)
        have HPO := hidP ho.symm
        have hb2 := hb
        have hk1 : 1 ≤ k := by omega
        clear ho hpo hown hrep hgb hgl h0 hb
        go_upto_region 8 with fail
        obtain ⟨w2, e2⟩ : ∃ w2, w2 = w1 := ⟨_, rfl⟩
        subst e2
        obtain ⟨hgb, hgl⟩ := hgs
        have hE2 : E = (pcodeO l).map fun x => pinstr x (k : Int) := by rw [← HE.out]; unfold pcodeR; rw [HPO.out]; try rfl
        obtain ⟨o, ho⟩ : ∃ o, pcodeO l = o := ⟨_, rfl⟩
        rw [ho] at HLIT HPO hE2
        have HEE := hidP hE2
        have hlo : o.length = k := HPO.out
        have HLO := hidP hlo
        have HLB := hidP (show 1 ≤ o.length ∧ o.length ≤ 40 by rw [← ho]; exact pcodeO_length l)
        clear hE2 HPO HE ho hlo
        go_wp2_with fail
        go_loopw [6] (fun v6 wr => ∃ (i : Nat), v6 = .int .i64 i ∧ i ≤ k ∧ Hid (OwnRow (RM w wr w.heap.size (fun j => w.heap.size ≤ j ∧ j ≠ g)) 37 5 wr w.heap.size (.slice (some ⟨g, 0, none⟩) (k) (c)) (mixL (k : Int) o i)) ∧ Below w.heap.size w wr ∧ g < wr.heap.size) (fun v6 _ => k - (intOf v6).toNat)
        case atStart =>
          refine ⟨0, rfl, by omega, ?_, hb2, hgl⟩
          show OwnRow _ _ _ _ _ _ _
          obtain ⟨inner, hown, hrep⟩ := HLIT.out
          rw [HLO.out] at hown
          refine ⟨inner, by rw [mixL_length, HLO.out]; exact hown, ?_⟩
          rw [mixL_zero]
          refine ⟨by rw [List.length_map]; exact hrep.1, fun j p hj => ?_⟩
          rw [List.getElem?_map] at hj
          obtain ⟨x, hx, rfl⟩ := Option.map_eq_some_iff.1 hj
          exact hrep.2 j x hx
        case round =>
          clear hb2 hgl
          obtain ⟨i, rfl, hi, HM, hb3, hgl⟩ := hrel
          obtain ⟨w3, e3⟩ : ∃ w3, w3 = wr := ⟨_, rfl⟩
          subst e3
          by_cases hin : i < k
          · have lt3 : (i : Int) < (k : Int) := by omega
            obtain ⟨x, hx⟩ : ∃ x, o[i]? = some x := ⟨_, List.getElem?_eq_getElem (by rw [HLO.out]; exact hin)⟩
            obtain ⟨inner, hown, hrep⟩ := HM.out
            rw [mixL_length, HLO.out] at hown
            obtain ⟨hRx, hcx⟩ := reps_chunk hrep i _ (mixL_at hx) _ rfl
            have hKx : kI.K w x _ := hRx
            obtain ⟨A4, c4, ecs, hle, hxc⟩ := kI_open hKx
            rw [ecs] at hcx
            have hce : ∀ j u, (instrC x (.slice A4 x.cases.length c4))[j]? = some u → w3.cell? ⟨g, i * 5 + j, none⟩ = some u := fun j u hj => by
              have := hown.cells (g := g) rfl (i * 5 + j) u (hcx j u hj)
              rw [add_plain] at this
              exact this
            have hfz : ∀ j, w3.frozen? ⟨g, i * 5 + j, none⟩ = false := fun j => by
              rcases hown.2 with ⟨h, _⟩ | ⟨g', cap', cur, h, _, hg, _⟩
              · cases h
              · simp only [Value.slice.injEq, Option.some.injEq, Addr.mk.injEq] at h
                obtain ⟨⟨rfl, _⟩, _⟩ := h
                exact blk_frozen hg _
            have hcall := pinstr_any x A4 c4 (k : Int) w3 (by have := HLB.out; rw [HLO.out] at this; omega) (by have := HLB.out; rw [HLO.out] at this; omega) (Kd.C_below hxc hb3) hxc.2.1
            obtain ⟨Y, hY⟩ : ∃ Y, pinstr x (k : Int) = Y := ⟨_, rfl⟩
            rw [hY] at hcall
            have hnx := mixL_next (n := (k : Int)) hx
            rw [hY] at hnx
            have HNX := hidP hnx
            obtain ⟨xo, xa, xb, xn, xc⟩ := x
            have x0 := hce 0 _ rfl
            have x1 := hce 1 _ rfl
            have x2 := hce 2 _ rfl
            have x3 := hce 3 _ rfl
            have x4 := hce 4 _ rfl
            dsimp only at x0 x1 x2 x3 x4 hle hxc
            rw [Nat.add_zero] at x0
            simp only [instrV] at hcall
            obtain ⟨m, hm⟩ : ∃ m, xc.length = m := ⟨_, rfl⟩
            rw [hm] at x4 hcall
            have HCALL := hidP hcall
            have HOWN := hidP hown
            have HREP := hidP hrep
            have HFZ := hidP hfz
            clear hcall hown hrep hfz hx hRx hcx hKx ecs hle hxc hce hnx hY hm HM
            go_wp2_with fail
            with_reducible refine HCALL.out.mono ?_
            rintro e w4 ⟨v, rfl, hv, hb4⟩
            obtain ⟨vA, vc, rfl⟩ := Kd.R_slice hv
            obtain ⟨yo, ya, yb, yn, yc⟩ := Y
            have hO4 := owns_below HOWN.out hb4
            have hB4 := bstep hb3 hb4
            have hz4 := hb4.size
            have HV := hidP hv
            have z0 := pw_cell_below hb4 x0
            have z1 := pw_cell_below hb4 x1
            have z2 := pw_cell_below hb4 x2
            have z3 := pw_cell_below hb4 x3
            have z4 := pw_cell_below hb4 x4
            have f0 : w4.frozen? ⟨g, i * 5, none⟩ = false := (hb4.frozen (p := ⟨g, i * 5, none⟩) hgl).trans (HFZ.out 0)
            have f1 : w4.frozen? ⟨g, i * 5 + 1, none⟩ = false := (hb4.frozen (p := ⟨g, i * 5 + 1, none⟩) hgl).trans (HFZ.out 1)
            have f2 : w4.frozen? ⟨g, i * 5 + 2, none⟩ = false := (hb4.frozen (p := ⟨g, i * 5 + 2, none⟩) hgl).trans (HFZ.out 2)
            have f3 : w4.frozen? ⟨g, i * 5 + 3, none⟩ = false := (hb4.frozen (p := ⟨g, i * 5 + 3, none⟩) hgl).trans (HFZ.out 3)
            have f4 : w4.frozen? ⟨g, i * 5 + 4, none⟩ = false := (hb4.frozen (p := ⟨g, i * 5 + 4, none⟩) hgl).trans (HFZ.out 4)
            have HO4 := hidP hO4
            clear x0 x1 x2 x3 x4 hv hO4
            simp only [instrV]
            obtain ⟨ym, hym⟩ : ∃ ym, yc.length = ym := ⟨_, rfl⟩
            have HV2 := hidP (hym ▸ HV.out)
            rw [hym]
            have HYM := hidP hym
            clear hym
            go_wp2_with fail
            have hK5 := keep_five w4 g i (.int .i64 yo) (.int .i64 ya) (.int .i64 yb) (.int .i64 yn) (.slice vA ym vc)
            have hO5 := own_five HO4.out i (.int .i64 yo) (.int .i64 ya) (.int .i64 yb) (.int .i64 yn) (.slice vA ym vc)
            generalize ((((w4.setCell ⟨g, i * 5, none⟩ (.int .i64 yo)).setCell ⟨g, i * 5 + 1, none⟩ (.int .i64 ya)).setCell ⟨g, i * 5 + 2, none⟩ (.int .i64 yb)).setCell ⟨g, i * 5 + 3, none⟩ (.int .i64 yn)).setCell ⟨g, i * 5 + 4, none⟩ (.slice vA ym vc) = w5 at *
            have hB5 : Below w.heap.size w w5 := Keep.belowS hB4 hK5 hB4.size (fun j h => by omega)
            go_roundw
            case rel =>
              refine ⟨i + 1, by go_num, by omega, ?_, hB5, by have := hK5.size; omega⟩
              show OwnRow _ _ _ _ _ _ _
              rw [HNX.out]
              refine ⟨_, by rw [List.length_set, mixL_length, HLO.out]; exact hO5, ?_⟩
              refine reps_set (reps_imp HREP.out fun p cs _ hp => ?_) i _ _ _ _ _ _ (by rw [mixL_length, HLO.out]; exact hin) ?_
              · unfold RM at hp ⊢
                split
                · rename_i h1
                  rw [if_pos h1] at hp
                  refine Kd.M_step hp (fun j hj hjl => ?_)
                  rw [hK5.block j (by omega) hj.2]
                  exact hb4.block j hjl
                · rename_i h1
                  rw [if_neg h1] at hp
                  exact hp
              · show kI.M w5 w.heap.size _ ⟨yo, ya, yb, yn, yc⟩ (instrC ⟨yo, ya, yb, yn, yc⟩ (.slice vA ym vc))
                refine kI_mkM _ ?_
                have h5 := HV.out
                rw [HYM.out] at h5
                exact Kd.R_mono (Kd.R_lower (R_keepS h5 hK5 (fun j hj => by show ¬ j = g; omega)) (by have := hb3.size; omega)) (fun j hj => ⟨by have := hb3.size; omega, by omega⟩)
            case measure => simp [intOf]; omega
          · have hik : i = k := by omega
            have hM := HM.out
            rw [show i = o.length by rw [HLO.out]; exact hik, mixL_all] at hM
            have lt3 : ¬ (i : Int) < (k : Int) := by omega
            obtain ⟨B9, c9, e9, hle9, hR9⟩ := OwnRow.reads hM
            rw [List.length_map, HLO.out] at e9 hle9 hR9
            simp only [Value.slice.injEq, true_and] at e9
            obtain ⟨rfl, rfl⟩ := e9
            have hfin : kI.C w3 (some ⟨g, 0, none⟩) (k) E := by
              rw [HEE.out]
              refine ⟨by rw [List.length_map, HLO.out], hR9.2.1, fun h => ?_⟩
              obtain ⟨ad, ead, hat⟩ := hR9.2.2 h
              refine ⟨ad, ead, fun j p hj => ?_⟩
              obtain ⟨y, hy, rfl⟩ := Option.map_eq_some_iff.1 ((List.getElem?_map ..).symm.trans hj)
              obtain ⟨cc, hcl, hcr, hca⟩ := hat j (true, pinstr y (k : Int)) (by rw [List.getElem?_map, hy]; rfl)
              exact ⟨cc, hcl, kI.K_of_M hcr, hca⟩
            have HFIN := hidP hfin
            have hEl : E.length = k := by rw [HEE.out, List.length_map, HLO.out]
            have HEL := hidP hEl
            clear hM hR9 hfin hEl hik
            go_wp2
            go_ret
            rw [HEL.out]
            exact ⟨_, _, rfl, hle9, HFIN.out, hb3⟩
end Go.Proofs.YtoflhfiegfhkoaaDoor
namespace Go.Proofs.YtoflhfiegfhkoaaDoor
open Go.RowKit Go.Proofs.YtoflhfiegfhkoaaDoorW.PrintWords
set_option linter.unusedVariables false
set_option linter.unusedSimpArgs false

def caseGood (n : Int) (c : CaseD) : Prop := (c.kind = 1 ∨ c.kind = 2) ∧ (0 ≤ c.ch ∧ c.ch < 6) ∧ (0 ≤ c.reg ∧ c.reg < 6) ∧ (0 ≤ c.dest ∧ c.dest < n)
theorem regOk_in {v : Int} (h : 0 ≤ v ∧ v < 6) : regOk v true = true := by
  unfold regOk
  by_cases h0 : v = 0
  · simp [h0]
  · simp; omega
theorem withinOk_in {v m : Int} (h : 0 ≤ v ∧ v ≤ m) : withinOk v m = true := by unfold withinOk; simp; omega
theorem caseOk_good {n : Int} {c : CaseD} (h : caseGood n c) (hn : n ≤ 1000) (N i : Nat) : caseOk N i c = true := by
  obtain ⟨h1, h2, h3, h4⟩ := h
  have hk : (c.kind == 3) = false := by rcases h1 with h | h <;> simp [h]
  have e1 : decide (c.kind < 1) = false := decide_eq_false (by omega)
  have e2 : decide (3 < c.kind) = false := decide_eq_false (by omega)
  unfold caseOk
  rw [hk, e1, e2, Bool.not_false, regOk_in h2, regOk_in h3, withinOk_in (show 0 ≤ c.dest ∧ c.dest ≤ 9999 by omega)]
  rfl
theorem caseOk_else {t : Int} (h : 0 ≤ t ∧ t ≤ 9999) {N i : Nat} (hi : ¬ i + 1 < N) : caseOk N i ⟨3, 0, 0, t⟩ = true := by
  unfold caseOk
  dsimp only
  rw [withinOk_in h, decide_eq_false hi]
  rfl
theorem casF_good {n : Int} (hn : n ≤ 1000) (N : Nat) : ∀ (l : List CaseD) (i : Nat), (∀ c ∈ l, caseGood n c) → casF N i l = true
  | [], _, _ => rfl
  | c :: r, i, h => by
    unfold casF
    rw [caseOk_good (h c (List.mem_cons_self ..)) hn, casF_good hn N r (i + 1) (fun x hx => h x (List.mem_cons_of_mem _ hx))]
    rfl
theorem casF_append (N : Nat) : ∀ (l r : List CaseD) (i : Nat), casF N i (l ++ r) = (casF N i l && casF N (i + l.length) r)
  | [], r, i => by simp [casF]
  | c :: l, r, i => by
    simp only [List.cons_append, casF]
    rw [casF_append N l r (i + 1), Bool.and_assoc, List.length_cons, show i + 1 + l.length = i + (l.length + 1) by omega]
theorem casesOk_good {n : Int} (hn : n ≤ 1000) (l : List CaseD) (h : ∀ c ∈ l, caseGood n c) (h1 : 1 ≤ l.length) (h3 : l.length ≤ 3) : casesOk l = true := by
  unfold casesOk
  rw [casF_good hn _ _ _ h, decide_eq_true h1, decide_eq_true h3]
  rfl
theorem casesOk_else {n t : Int} (hn : n ≤ 1000) (l : List CaseD) (h : ∀ c ∈ l, caseGood n c) (h3 : l.length ≤ 2) (ht : 0 ≤ t ∧ t ≤ 9999) : casesOk (l ++ [⟨3, 0, 0, t⟩]) = true := by
  unfold casesOk
  rw [casF_append, casF_good hn _ _ _ h]
  have hl : (l ++ [(⟨3, 0, 0, t⟩ : CaseD)]).length = l.length + 1 := by simp
  rw [hl]
  have : casF (l.length + 1) (0 + l.length) [⟨3, 0, 0, t⟩] = true := by
    unfold casF
    rw [caseOk_else ht (by omega)]
    rfl
  rw [this, decide_eq_true (show 1 ≤ l.length + 1 by omega), decide_eq_true (show l.length + 1 ≤ 3 by omega)]
  rfl
theorem pcase_kind (c : CaseD) (n : Int) : 1 ≤ (pcase c n).kind ∧ (pcase c n).kind ≤ 3 := by
  have := pmod_bounds (c.kind - 1) 3 (by omega)
  unfold pcase
  dsimp only
  omega
theorem pcase_good {c : CaseD} {n : Int} (hn : 1 ≤ n) (h3 : (pcase c n).kind ≠ 3) : caseGood n (pcase c n) := by
  have hk := pcase_kind c n
  refine ⟨by omega, pmod_bounds c.ch 6 (by omega), pmod_bounds c.reg 6 (by omega), pmod_bounds c.dest n hn⟩
theorem pcF_ok {n : Int} (hn : 1 ≤ n) (hm : n ≤ 1000) : ∀ (k : Nat) (l acc : List CaseD), (∀ c ∈ acc, caseGood n c) → acc.length + k ≤ 3 → casesOk (pcF n k l acc) = true ∧ ∀ c ∈ pcF n k l acc, 0 ≤ c.dest ∧ c.dest < n := by
  have hend : ∀ acc : List CaseD, (∀ c ∈ acc, caseGood n c) → acc.length ≤ 3 → casesOk (pcEnd acc) = true ∧ ∀ c ∈ pcEnd acc, 0 ≤ c.dest ∧ c.dest < n := by
    intro acc ha hl
    unfold pcEnd
    split
    · refine ⟨by decide, fun c hc => ?_⟩
      rw [List.mem_singleton] at hc
      subst hc
      exact ⟨Int.le_refl _, by show (0 : Int) < n; omega⟩
    · exact ⟨casesOk_good hm acc ha (by omega) hl, fun c hc => (ha c hc).2.2.2⟩
  intro k
  induction k with
  | zero => intro l acc ha hl; exact hend acc ha (by omega)
  | succ k ih =>
    intro l acc ha hl
    cases l with
    | nil => exact hend acc ha (by omega)
    | cons c r =>
      unfold pcF
      have hd := pmod_bounds c.dest n hn
      split
      · refine ⟨casesOk_else hm acc ha (by omega) ⟨hd.1, by show pmod c.dest n ≤ 9999; omega⟩, fun x hx => ?_⟩
        rcases List.mem_append.1 hx with hx | hx
        · exact (ha x hx).2.2.2
        · rw [List.mem_singleton] at hx
          subst hx
          exact hd
      · rename_i h3
        refine ih r _ (fun x hx => ?_) (by rw [List.length_append, List.length_singleton]; omega)
        rcases List.mem_append.1 hx with hx | hx
        · exact ha x hx
        · rw [List.mem_singleton] at hx
          subst hx
          exact pcase_good hn h3

theorem shp_of {K a b n : Int} {cs : List CaseD} {A B N : Bool} (hK : 1 ≤ K ∧ K ≤ 22) (hA : ctn (hasF K) 97 = A) (hB : ctn (hasF K) 98 = B) (hN : Lib.containsAny (hasF K) [110, 108] = N)
    (ra : regOk a A = true) (rb : regOk b B = true) (rn : n = 0 ∨ N = true) (rw_ : 0 ≤ n ∧ n ≤ boundOf K) (rc : (if K = 21 then casesOk cs else cs.length == 0) = true) : shapedP ⟨K, a, b, n, cs⟩ = true := by
  unfold shapedP
  rw [if_neg (by show ¬ (K < 1 ∨ 22 < K); omega)]
  dsimp only
  rw [hA, hB, hN, ra, rb, withinOk_in rw_, rc]
  have : (!(!(n == 0) && !N)) = true := by
    rcases rn with rfl | rfl
    · rfl
    · cases n == 0 <;> rfl
  rw [this]
  rfl
theorem regOk_zero (b : Bool) : regOk 0 b = true := by unfold regOk; rfl

/-- What an instruction that may be leads to. -/
theorem pinstrO_ok {n : Int} (hn : 1 ≤ n) (hm : n ≤ 1000) (K : Int) (hK : 1 ≤ K ∧ K ≤ 22) (x : InstrD) : shapedP (pinstrO K x n) = true ∧ ∀ t ∈ tosP (pinstrO K x n), 0 ≤ t ∧ t < n := by
  have ha := pmod_bounds x.a 6 (by omega)
  have hb := pmod_bounds x.b 6 (by omega)
  have hnn := pmod_bounds x.n n hn
  have h1 := pmod_bounds x.n 10000 (by omega)
  have h2 := pmod_bounds x.n 4 (by omega)
  have h3 := pmod_bounds x.n 20 (by omega)
  have h4 := pmod_bounds x.n 10 (by omega)
  have hc := pcF_ok hn hm 3 x.cases [] (by simp) (by simp)
  have no : ∀ (K a b n : Int), jumps K = false → ∀ t ∈ tosP ⟨K, a, b, n, []⟩, 0 ≤ t ∧ t < 0 := by
    intro K a b n hj t ht
    unfold tosP at ht
    rw [hj] at ht
    simp at ht
  have hk : K = 1 ∨ K = 2 ∨ K = 3 ∨ K = 4 ∨ K = 5 ∨ K = 6 ∨ K = 7 ∨ K = 8 ∨ K = 9 ∨ K = 10 ∨ K = 11 ∨ K = 12 ∨ K = 13 ∨ K = 14 ∨ K = 15 ∨ K = 16 ∨ K = 17 ∨ K = 18 ∨ K = 19 ∨ K = 20 ∨ K = 21 ∨ K = 22 := by omega
  clear hK
  rcases hk with rfl | rfl | rfl | rfl | rfl | rfl | rfl | rfl | rfl | rfl | rfl | rfl | rfl | rfl | rfl | rfl | rfl | rfl | rfl | rfl | rfl | rfl
  · have e : pinstrO 1 x n = ⟨1, pmod x.a 6, 0, pmod x.n 10000, []⟩ := rfl
    rw [e]
    exact ⟨shp_of (by omega) (show ctn (hasF 1) 97 = true by decide +kernel) rfl (show Lib.containsAny (hasF 1) [110, 108] = true by decide +kernel) (regOk_in ha) (regOk_zero _) (.inr rfl) (by rw [show boundOf 1 = 9999 from rfl]; omega) rfl, fun t ht => by have := no _ _ _ _ rfl t ht; omega⟩
  · have e : pinstrO 2 x n = ⟨2, pmod x.a 6, pmod x.b 6, 0, []⟩ := rfl
    rw [e]
    exact ⟨shp_of (by omega) (show ctn (hasF 2) 97 = true by decide +kernel) (show ctn (hasF 2) 98 = true by decide +kernel) rfl (regOk_in ha) (regOk_in hb) (.inl rfl) (by rw [show boundOf 2 = 9999 from rfl]; omega) rfl, fun t ht => by have := no _ _ _ _ rfl t ht; omega⟩
  · have e : pinstrO 3 x n = ⟨3, pmod x.a 6, pmod x.b 6, 0, []⟩ := rfl
    rw [e]
    exact ⟨shp_of (by omega) (show ctn (hasF 3) 97 = true by decide +kernel) (show ctn (hasF 3) 98 = true by decide +kernel) rfl (regOk_in ha) (regOk_in hb) (.inl rfl) (by rw [show boundOf 3 = 9999 from rfl]; omega) rfl, fun t ht => by have := no _ _ _ _ rfl t ht; omega⟩
  · have e : pinstrO 4 x n = ⟨4, pmod x.a 6, 0, pmod x.n 4, []⟩ := rfl
    rw [e]
    exact ⟨shp_of (by omega) (show ctn (hasF 4) 97 = true by decide +kernel) rfl (show Lib.containsAny (hasF 4) [110, 108] = true by decide +kernel) (regOk_in ha) (regOk_zero _) (.inr rfl) (by rw [show boundOf 4 = 3 from rfl]; omega) rfl, fun t ht => by have := no _ _ _ _ rfl t ht; omega⟩
  · have e : pinstrO 5 x n = ⟨5, pmod x.a 6, pmod x.b 6, 0, []⟩ := rfl
    rw [e]
    exact ⟨shp_of (by omega) (show ctn (hasF 5) 97 = true by decide +kernel) (show ctn (hasF 5) 98 = true by decide +kernel) rfl (regOk_in ha) (regOk_in hb) (.inl rfl) (by rw [show boundOf 5 = 9999 from rfl]; omega) rfl, fun t ht => by have := no _ _ _ _ rfl t ht; omega⟩
  · have e : pinstrO 6 x n = ⟨6, pmod x.a 6, pmod x.b 6, 0, []⟩ := rfl
    rw [e]
    exact ⟨shp_of (by omega) (show ctn (hasF 6) 97 = true by decide +kernel) (show ctn (hasF 6) 98 = true by decide +kernel) rfl (regOk_in ha) (regOk_in hb) (.inl rfl) (by rw [show boundOf 6 = 9999 from rfl]; omega) rfl, fun t ht => by have := no _ _ _ _ rfl t ht; omega⟩
  · have e : pinstrO 7 x n = ⟨7, pmod x.a 6, 0, 0, []⟩ := rfl
    rw [e]
    exact ⟨shp_of (by omega) (show ctn (hasF 7) 97 = true by decide +kernel) rfl rfl (regOk_in ha) (regOk_zero _) (.inl rfl) (by rw [show boundOf 7 = 9999 from rfl]; omega) rfl, fun t ht => by have := no _ _ _ _ rfl t ht; omega⟩
  · have e : pinstrO 8 x n = ⟨8, pmod x.a 6, pmod x.b 6, 0, []⟩ := rfl
    rw [e]
    exact ⟨shp_of (by omega) (show ctn (hasF 8) 97 = true by decide +kernel) (show ctn (hasF 8) 98 = true by decide +kernel) rfl (regOk_in ha) (regOk_in hb) (.inl rfl) (by rw [show boundOf 8 = 9999 from rfl]; omega) rfl, fun t ht => by have := no _ _ _ _ rfl t ht; omega⟩
  · have e : pinstrO 9 x n = ⟨9, pmod x.a 6, pmod x.b 6, 0, []⟩ := rfl
    rw [e]
    exact ⟨shp_of (by omega) (show ctn (hasF 9) 97 = true by decide +kernel) (show ctn (hasF 9) 98 = true by decide +kernel) rfl (regOk_in ha) (regOk_in hb) (.inl rfl) (by rw [show boundOf 9 = 9999 from rfl]; omega) rfl, fun t ht => by have := no _ _ _ _ rfl t ht; omega⟩
  · have e : pinstrO 10 x n = ⟨10, 0, 0, pmod x.n n, []⟩ := rfl
    rw [e]
    refine ⟨shp_of (by omega) rfl rfl (show Lib.containsAny (hasF 10) [110, 108] = true by decide +kernel) (regOk_zero _) (regOk_zero _) (.inr rfl) (by rw [show boundOf 10 = 9999 from rfl]; omega) rfl, fun t ht => ?_⟩
    have ht2 : t ∈ [pmod x.n n] := ht
    rw [List.mem_singleton] at ht2
    subst ht2
    exact hnn
  · have e : pinstrO 11 x n = ⟨11, 0, 0, pmod x.n n, []⟩ := rfl
    rw [e]
    refine ⟨shp_of (by omega) rfl rfl (show Lib.containsAny (hasF 11) [110, 108] = true by decide +kernel) (regOk_zero _) (regOk_zero _) (.inr rfl) (by rw [show boundOf 11 = 9999 from rfl]; omega) rfl, fun t ht => ?_⟩
    have ht2 : t ∈ [pmod x.n n] := ht
    rw [List.mem_singleton] at ht2
    subst ht2
    exact hnn
  · have e : pinstrO 12 x n = ⟨12, pmod x.a 6, 0, pmod x.n n, []⟩ := rfl
    rw [e]
    refine ⟨shp_of (by omega) (show ctn (hasF 12) 97 = true by decide +kernel) rfl (show Lib.containsAny (hasF 12) [110, 108] = true by decide +kernel) (regOk_in ha) (regOk_zero _) (.inr rfl) (by rw [show boundOf 12 = 9999 from rfl]; omega) rfl, fun t ht => ?_⟩
    have ht2 : t ∈ [pmod x.n n] := ht
    rw [List.mem_singleton] at ht2
    subst ht2
    exact hnn
  · have e : pinstrO 13 x n = ⟨13, pmod x.a 6, 0, 0, []⟩ := rfl
    rw [e]
    exact ⟨shp_of (by omega) (show ctn (hasF 13) 97 = true by decide +kernel) rfl rfl (regOk_in ha) (regOk_zero _) (.inl rfl) (by rw [show boundOf 13 = 9999 from rfl]; omega) rfl, fun t ht => by have := no _ _ _ _ rfl t ht; omega⟩
  · have e : pinstrO 14 x n = ⟨14, pmod x.a 6, 0, pmod x.n 20, []⟩ := rfl
    rw [e]
    exact ⟨shp_of (by omega) (show ctn (hasF 14) 97 = true by decide +kernel) rfl (show Lib.containsAny (hasF 14) [110, 108] = true by decide +kernel) (regOk_in ha) (regOk_zero _) (.inr rfl) (by rw [show boundOf 14 = 1000 from rfl]; omega) rfl, fun t ht => by have := no _ _ _ _ rfl t ht; omega⟩
  · have e : pinstrO 15 x n = ⟨15, pmod x.a 6, pmod x.b 6, 0, []⟩ := rfl
    rw [e]
    exact ⟨shp_of (by omega) (show ctn (hasF 15) 97 = true by decide +kernel) (show ctn (hasF 15) 98 = true by decide +kernel) rfl (regOk_in ha) (regOk_in hb) (.inl rfl) (by rw [show boundOf 15 = 9999 from rfl]; omega) rfl, fun t ht => by have := no _ _ _ _ rfl t ht; omega⟩
  · have e : pinstrO 16 x n = ⟨16, pmod x.a 6, pmod x.b 6, 0, []⟩ := rfl
    rw [e]
    exact ⟨shp_of (by omega) (show ctn (hasF 16) 97 = true by decide +kernel) (show ctn (hasF 16) 98 = true by decide +kernel) rfl (regOk_in ha) (regOk_in hb) (.inl rfl) (by rw [show boundOf 16 = 9999 from rfl]; omega) rfl, fun t ht => by have := no _ _ _ _ rfl t ht; omega⟩
  · have e : pinstrO 17 x n = ⟨17, pmod x.a 6, pmod x.b 6, 0, []⟩ := rfl
    rw [e]
    exact ⟨shp_of (by omega) (show ctn (hasF 17) 97 = true by decide +kernel) (show ctn (hasF 17) 98 = true by decide +kernel) rfl (regOk_in ha) (regOk_in hb) (.inl rfl) (by rw [show boundOf 17 = 9999 from rfl]; omega) rfl, fun t ht => by have := no _ _ _ _ rfl t ht; omega⟩
  · have e : pinstrO 18 x n = ⟨18, pmod x.a 6, 0, pmod x.n 4, []⟩ := rfl
    rw [e]
    exact ⟨shp_of (by omega) (show ctn (hasF 18) 97 = true by decide +kernel) rfl (show Lib.containsAny (hasF 18) [110, 108] = true by decide +kernel) (regOk_in ha) (regOk_zero _) (.inr rfl) (by rw [show boundOf 18 = 3 from rfl]; omega) rfl, fun t ht => by have := no _ _ _ _ rfl t ht; omega⟩
  · have e : pinstrO 19 x n = ⟨19, pmod x.a 6, 0, pmod x.n 4, []⟩ := rfl
    rw [e]
    exact ⟨shp_of (by omega) (show ctn (hasF 19) 97 = true by decide +kernel) rfl (show Lib.containsAny (hasF 19) [110, 108] = true by decide +kernel) (regOk_in ha) (regOk_zero _) (.inr rfl) (by rw [show boundOf 19 = 3 from rfl]; omega) rfl, fun t ht => by have := no _ _ _ _ rfl t ht; omega⟩
  · have e : pinstrO 20 x n = ⟨20, pmod x.a 6, 0, pmod x.n 10, []⟩ := rfl
    rw [e]
    exact ⟨shp_of (by omega) (show ctn (hasF 20) 97 = true by decide +kernel) rfl (show Lib.containsAny (hasF 20) [110, 108] = true by decide +kernel) (regOk_in ha) (regOk_zero _) (.inr rfl) (by rw [show boundOf 20 = 9 from rfl]; omega) rfl, fun t ht => by have := no _ _ _ _ rfl t ht; omega⟩
  · have e : pinstrO 21 x n = ⟨21, 0, 0, 0, pcF n 3 x.cases []⟩ := rfl
    rw [e]
    refine ⟨shp_of (by omega) rfl rfl rfl (regOk_zero _) (regOk_zero _) (.inl rfl) (by rw [show boundOf 21 = 9999 from rfl]; omega) (by rw [if_pos rfl]; exact hc.1), fun t ht => ?_⟩
    have ht2 : t ∈ (pcF n 3 x.cases []).map (·.dest) := ht
    obtain ⟨c, hcm, rfl⟩ := List.mem_map.1 ht2
    exact hc.2 c hcm
  · have e : pinstrO 22 x n = ⟨22, 0, 0, 0, []⟩ := rfl
    rw [e]
    exact ⟨shp_of (by omega) rfl rfl rfl (regOk_zero _) (regOk_zero _) (.inl rfl) (by rw [show boundOf 22 = 9999 from rfl]; omega) rfl, fun t ht => by have := no _ _ _ _ rfl t ht; omega⟩

theorem look_ok {x : InstrD} {n : Int} {N : Nat} (hs : shapedP x = true) (ht : ∀ t ∈ tosP x, 0 ≤ t ∧ t < n) (hN : n ≤ (N : Int)) : lookR x N = 0 := by
  unfold lookR
  rw [hs, if_neg (by simp), if_neg]
  intro h
  rw [List.any_eq_true] at h
  obtain ⟨t, h1, h2⟩ := h
  have := ht t h1
  simp at h2
  omega
theorem valF_append (N : Nat) : ∀ (l r : List InstrD) (i : Nat), (∀ x ∈ l, lookR x N = 0) → valF N i (l ++ r) = valF N (i + l.length) r
  | [], r, i, _ => by simp
  | x :: l, r, i, h => by
    simp only [List.cons_append, valF]
    rw [if_pos (h x (List.mem_cons_self ..)), valF_append N l r (i + 1) (fun y hy => h y (List.mem_cons_of_mem _ hy)), List.length_cons, show i + 1 + l.length = i + (l.length + 1) by omega]
/-- Each instruction of what play.Code makes may be, in a program of at least so many. -/
theorem pcode_ok (l : List InstrD) : ∀ x ∈ pcodeR l, shapedP x = true ∧ (∀ t ∈ tosP x, 0 ≤ t ∧ t < ((pcodeR l).length : Int)) := by
  intro x hx
  have hl := pcodeO_length l
  rw [pcodeR_length]
  unfold pcodeR at hx
  obtain ⟨y, _, rfl⟩ := List.mem_map.1 hx
  have := pmod_bounds (y.op - 1) 22 (by omega)
  exact pinstrO_ok (by omega) (by omega) _ (by omega) y
theorem pcode_look (l : List InstrD) (N : Nat) (hN : (pcodeR l).length ≤ N) : ∀ x ∈ pcodeR l, lookR x N = 0 := fun x hx =>
  look_ok (pcode_ok l x hx).1 (pcode_ok l x hx).2 (by omega)
theorem pcode_len (l : List InstrD) : 1 ≤ (pcodeR l).length ∧ (pcodeR l).length ≤ 40 := by rw [pcodeR_length]; exact pcodeO_length l
theorem pcode_valid (l : List InstrD) : validR (pcodeR l) = (0, 0) := by
  have h := pcode_len l
  unfold validR
  rw [if_neg (by omega), if_neg (by omega)]
  have := valF_append (pcodeR l).length (pcodeR l) [] 0 (pcode_look l _ (Nat.le_refl _))
  rw [List.append_nil] at this
  rw [this]
  rfl
end Go.Proofs.YtoflhfiegfhkoaaDoor
