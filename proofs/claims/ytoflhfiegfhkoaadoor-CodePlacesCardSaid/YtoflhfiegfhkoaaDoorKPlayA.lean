/-
  The walks over dormouseplay's mod and cases.
-/
import Derived.Test.YtoflhfiegfhkoaaDoorKRefD
namespace Go.Proofs.YtoflhfiegfhkoaaDoor
open Go.RowKit Go.Proofs.YtoflhfiegfhkoaaDoorW.PrintWords
set_option linter.unusedVariables false

def pmod (v n : Int) : Int := (IntKind.u64.wrap v).tmod n
theorem pmod_bounds (v n : Int) (h : 1 ≤ n) : 0 ≤ pmod v n ∧ pmod v n < n := by
  unfold pmod
  have h0 : 0 ≤ IntKind.u64.wrap v := by rw [IntKind.wrap_u64]; omega
  rw [Int.tmod_eq_emod_of_nonneg h0]
  exact ⟨Int.emod_nonneg _ (by omega), Int.emod_lt_of_pos _ (by omega)⟩

set_option maxRecDepth 100000 in
set_option maxHeartbeats 400000 in
theorem pmod_any (v n : Int) (h1 : 1 ≤ n) (h2 : n ≤ 1000000) (w : World) : Calls Tryd.prog 51 #[.int .i64 v, .int .i64 n] w fun e w' => e = .returned (.int .i64 (pmod v n)) ∧ w' = w := by
  obtain ⟨b1, b2⟩ := pmod_bounds v n h1
  have hw : IntKind.u64.wrap n = n := by rw [IntKind.wrap_u64]; omega
  have hn : (n == 0) = false := by simp; omega
  have hn0 : n ≠ 0 := by omega
  obtain ⟨R, hR⟩ : ∃ R, pmod v n = R := ⟨_, rfl⟩
  rw [hR] at b1 b2 ⊢
  have hR1 : (IntKind.u64.wrap v).tmod n = R := hR
  have hw2 : wrap64 R = R := IntWalk.wrap64_in _ (by omega)
  clear hR
  go_enter Tryd.func51, Tryd.ntmps51
  go_wp2
  go_ret
  exact ⟨rfl, rfl⟩

/-- A case that may be, near to one that is drawn. -/
def pcase (c : CaseD) (n : Int) : CaseD := ⟨1 + pmod (c.kind - 1) 3, pmod c.ch 6, pmod c.reg 6, pmod c.dest n⟩
def pcEnd (acc : List CaseD) : List CaseD := if acc.length = 0 then [⟨3, 0, 0, 0⟩] else acc
def pcF (n : Int) : Nat → List CaseD → List CaseD → List CaseD
  | 0, _, acc => pcEnd acc
  | _ + 1, [], acc => pcEnd acc
  | k + 1, c :: r, acc => if (pcase c n).kind = 3 then acc ++ [⟨3, 0, 0, (pcase c n).dest⟩] else pcF n k r (acc ++ [pcase c n])
theorem wrap_mod (v : Int) : IntKind.u64.wrap (wrap64 v) = IntKind.u64.wrap v := by
  rw [IntKind.wrap_u64, IntKind.wrap_u64]
  unfold wrap64
  omega
theorem pmod_wrapI (v n : Int) : pmod (IntKind.i64.wrap v) n = pmod v n := by
  unfold pmod
  congr 1
  rw [IntKind.wrap_u64, IntKind.wrap_u64, IntKind.wrap_i64]
  omega
theorem pmod_wrap (v n : Int) : pmod (wrap64 v) n = pmod v n := by unfold pmod; rw [wrap_mod]

theorem kC_lit1 (w : World) (base : Nat) (x : CaseD) (hb : base ≤ w.heap.size) : kC.R 39 (w.alloc (.cells (caseC x).toArray 39)) base (fun k => base ≤ k) (.slice (some ⟨w.heap.size, 0, none⟩) 1 1) [x] := by
  refine ⟨fun k hk => ?_, ?_⟩
  · have : w.heap.size = k := by simpa [Value.ownBlock] using hk
    omega
  · have hr := (Reps.none (kC.M (w.alloc (.cells (caseC x).toArray 39)) base (fun k => base ≤ k ∧ some k ≠ (Value.slice (some ⟨w.heap.size, 0, none⟩) 1 1).ownBlock)) 4).snoc (kC_mkM _ _ _ x) rfl
    exact OwnRow.lit w base hr hb (by simp)

set_option maxRecDepth 100000 in
set_option maxHeartbeats 6400000 in
theorem pcases_any (A : Option Addr) (d : Nat) (cs : List CaseD) (n : Int) (w : World) (h1 : 1 ≤ n) (h2 : n ≤ 1000000) (h : kC.C w A cs.length cs) (hl : cs.length ≤ 9223372036854775807) :
    Calls Tryd.prog 52 #[.slice A cs.length d, .int .i64 n] w fun e w' => ∃ v, e = .returned v ∧ kC.R 39 w' w.heap.size (fun k => w.heap.size ≤ k) v (pcF n 3 cs []) ∧ Below w.heap.size w w' := by
  obtain ⟨E, hE⟩ : ∃ E, pcF n 3 cs [] = E := ⟨_, rfl⟩
  rw [hE]
  have HE := hidP hE
  have HA := hidP h
  obtain ⟨m, hm⟩ : ∃ m, cs.length = m := ⟨_, rfl⟩
  rw [hm] at hl ⊢
  have HM := hidP hm
  clear hE h hm
  go_enter Tryd.func52, Tryd.ntmps52
  go_wp2_with fail
  go_loopw [5, 6] (fun v5 v6 wr => ∃ (k : Nat) (acc : List CaseD) (B : Option Addr) (c : Nat), v5 = .slice B acc.length c ∧ v6 = .int .i64 k ∧ k ≤ m ∧ k ≤ 3 ∧ acc.length = k ∧ Hid (pcF n (3 - k) (cs.drop k) acc = E) ∧ Hid (kC.R 39 wr w.heap.size (fun k => w.heap.size ≤ k) (.slice B acc.length c) acc) ∧ Below w.heap.size w wr) (fun _ v6 _ => 3 - (intOf v6).toNat)
  case atStart => exact ⟨0, [], none, 0, rfl, rfl, by omega, by omega, rfl, HE.out, Kd.R_nil _ _ _ _ _, brefl _⟩
  case round =>
    obtain ⟨k, acc, B, c, rfl, rfl, hk, hk3, hacc, HF, HR, hb⟩ := hrel
    have HACC := hidP hacc
    have hal : (acc.length + 1) * 32 ≤ 140737488355328 := by omega
    clear hacc
    obtain ⟨w1, e1⟩ : ∃ w1, w1 = wr := ⟨_, rfl⟩
    subst e1
    by_cases hkm : k < m
    · have lt1 : (k : Int) < (m : Int) := by omega
      by_cases hk33 : k < 3
      · have lt2 : (k : Int) < 3 := by omega
        obtain ⟨⟨ck, cc, cr, ct⟩, hx⟩ : ∃ x, cs[k]? = some x := ⟨_, List.getElem?_eq_getElem (by rw [HM.out]; exact hkm)⟩
        obtain ⟨b, o, rfl, x0, x1, x2, x3⟩ := case_at (Kd.C_below HA.out hb) k _ hx
        dsimp only at x0 x1 x2 x3
        have hj3 : 3 - k = (2 - k) + 1 := by omega
        have hst : pcF n (3 - k) (cs.drop k) acc = if (pcase ⟨ck, cc, cr, ct⟩ n).kind = 3 then acc ++ [⟨3, 0, 0, (pcase ⟨ck, cc, cr, ct⟩ n).dest⟩] else pcF n (2 - k) (cs.drop (k + 1)) (acc ++ [pcase ⟨ck, cc, cr, ct⟩ n]) := by
          obtain ⟨hk', hc'⟩ := List.getElem?_eq_some_iff.1 hx
          rw [List.drop_eq_getElem_cons hk', hc', hj3]
          rfl
        have hF := HF.out
        rw [hst] at hF
        unfold pcase at hF
        dsimp only at hF
        have m1 := fun w => pmod_any (IntKind.i64.wrap (ck - 1)) 3 (by omega) (by omega) w
        have m2 := fun w => pmod_any cc 6 (by omega) (by omega) w
        have m3 := fun w => pmod_any cr 6 (by omega) (by omega) w
        have m4 := fun w => pmod_any ct n h1 h2 w
        have n1 := pmod_bounds (ck - 1) 3 (by omega)
        have n4 := pmod_bounds ct n h1
        rw [pmod_wrapI] at m1
        obtain ⟨CK, hCK⟩ : ∃ CK, IntKind.i64.wrap (ck - 1) = CK := ⟨_, rfl⟩
        rw [hCK] at m1
        obtain ⟨R1, hR1⟩ : ∃ R, pmod (ck - 1) 3 = R := ⟨_, rfl⟩
        obtain ⟨R2, hR2⟩ : ∃ R, pmod cc 6 = R := ⟨_, rfl⟩
        obtain ⟨R3, hR3⟩ : ∃ R, pmod cr 6 = R := ⟨_, rfl⟩
        obtain ⟨R4, hR4⟩ : ∃ R, pmod ct n = R := ⟨_, rfl⟩
        rw [hR1] at m1 n1 hF
        rw [hR2] at m2 hF
        rw [hR3] at m3 hF
        rw [hR4] at m4 n4 hF
        have hw1' : IntKind.i64.wrap (1 + R1) = 1 + R1 := IntWalk.i64_in _ (by omega)
        obtain ⟨K1, hK1⟩ : ∃ K, 1 + R1 = K := ⟨_, rfl⟩
        have hw1 : IntKind.i64.wrap (1 + R1) = K1 := by rw [hw1', hK1]
        rw [hK1] at hF
        clear hw1' n1 hK1
        have HFF := hidP hF
        have M1 := hidP m1
        have M2 := hidP m2
        have M3 := hidP m3
        have M4 := hidP m4
        clear hx hst hj3 hR1 hR2 hR3 hR4 m1 m2 m3 m4 HF hF
        go_upto_region 5 with fail
        have hbl := World.block_lt_of_cell? w1 _ x0
        have hbx : ∀ (O : Obj) j, (w1.alloc O).cell? ⟨b, j, none⟩ = w1.cell? ⟨b, j, none⟩ := fun O j => (bnew (brefl w1) O).cell (p := ⟨b, j, none⟩) hbl
        go_cut [7] from 18 to 45 (fun v7 wx => v7 = .pointer (some ⟨w1.heap.size, 0, none⟩) ∧ wx = (w1.alloc (.cells #[.int .i64 K1, .int .i64 R2, .int .i64 R3, .int .i64 R4] 39)).drew)
        case first =>
          go_region_held3 (fun w' => w'.cell? ⟨b, o + k * 4, none⟩ = some (.int .i64 ck) ∧ w'.cell? ⟨b, o + k * 4 + 1, none⟩ = some (.int .i64 cc) ∧ w'.cell? ⟨b, o + k * 4 + 2, none⟩ = some (.int .i64 cr) ∧ w'.cell? ⟨b, o + k * 4 + 3, none⟩ = some (.int .i64 ct))
            (first | exact ⟨x0, x1, x2, x3⟩ | exact ⟨(hbx _ _).trans x0, (hbx _ _).trans x1, (hbx _ _).trans x2, (hbx _ _).trans x3⟩ | fail)
            (first | (go_at_call 51; (first | with_reducible refine (M1.out _).mono ?_ | with_reducible refine (M2.out _).mono ?_ | with_reducible refine (M3.out _).mono ?_ | with_reducible refine (M4.out _).mono ?_ | fail); rintro e w' ⟨rfl, rfl⟩) | fail)
          all_goals
            go_wp2_with fail
            go_meet
            exact ⟨rfl, rfl⟩
        case rest =>
        obtain ⟨rfl, rfl⟩ := hcut
        have hb3 : Below w.heap.size w (w1.alloc (.cells #[.int .i64 K1, .int .i64 R2, .int .i64 R3, .int .i64 R4] 39)).drew := (bnew hb _).drew
        have hR3 : kC.R 39 (w1.alloc (.cells #[.int .i64 K1, .int .i64 R2, .int .i64 R3, .int .i64 R4] 39)).drew w.heap.size (fun k => w.heap.size ≤ k) (.slice B acc.length c) acc := R_keepS (Kd.R_below HR.out (bnew (brefl w1) _)) (S := fun _ => False) (Keep.refl _ _).drew (fun _ _ h => h)
        have hn3 : (w1.alloc (.cells #[.int .i64 K1, .int .i64 R2, .int .i64 R3, .int .i64 R4] 39)).drew.heap[w1.heap.size]? = some (.cells #[.int .i64 K1, .int .i64 R2, .int .i64 R3, .int .i64 R4] 39 (0, 0)) := blk_new w1 _
        generalize hw3 : (w1.alloc (.cells #[.int .i64 K1, .int .i64 R2, .int .i64 R3, .int .i64 R4] 39)).drew = w3 at *
        clear hw3
        obtain ⟨y0, y1, y2, y3⟩ := four_cells hn3
        have hl3 := blk_lt hn3
        clear x0 x1 x2 x3 hbx hCK
        by_cases h3 : K1 = 3
        · have t3 : (K1 == 3) = true := by simp [h3]
          have hE : E = acc ++ [⟨3, 0, 0, R4⟩] := by rw [← HFF.out, if_pos h3]
          have HEE := hidP hE
          clear h3 hE HFF
          go_wp2_with (at_builtin; go_loud (refine (Kd.R_append kC w.heap.size rfl (.tmp 49) (.tmp 53) 35 39 _ 32 rfl Tryd.underlying35 Tryd.infoC rfl (by decide) (by decide) (.slice B acc.length c) acc ⟨3, 0, 0, R4⟩ (caseC ⟨3, 0, 0, R4⟩) (fun k => w.heap.size ≤ k) (fun _ => False) rfl rfl (kC_mkM _ _ _ _) (fun k h => h.elim) (fun k hk => Nat.le_trans hb3.size hk) hR3 hb3 hb3.size hal ?_)); intro v1 w7 hR7 hB7 hg7 hat7)
          go_ret
          refine ⟨v1, rfl, ?_, hB7⟩
          rw [HEE.out]
          exact hR7
        · have t3 : (K1 == 3) = false := by simp [h3]
          have HF4 : Hid (pcF n (2 - k) (cs.drop (k + 1)) (acc ++ [⟨K1, R2, R3, R4⟩]) = E) := by
            have := HFF.out
            rw [if_neg h3] at this
            exact this
          clear h3 HFF
          go_wp2_with (at_builtin; go_loud (refine (Kd.R_append kC w.heap.size rfl (.tmp 55) (.tmp 57) 35 39 _ 32 rfl Tryd.underlying35 Tryd.infoC rfl (by decide) (by decide) (.slice B acc.length c) acc ⟨K1, R2, R3, R4⟩ (caseC ⟨K1, R2, R3, R4⟩) (fun k => w.heap.size ≤ k) (fun _ => False) rfl rfl (kC_mkM _ _ _ _) (fun k h => h.elim) (fun k hk => Nat.le_trans hb3.size hk) hR3 hb3 hb3.size hal ?_)); intro v1 w7 hR7 hB7 hg7 hat7)
          obtain ⟨B7, d7, rfl⟩ := Kd.R_slice hR7
          refine ⟨⟨k + 1, _, B7, d7, rfl, by go_num, by omega, by omega, by simp [HACC.out], ?_, hR7, hB7⟩, by simp [intOf]; omega⟩
          rw [show 3 - (k + 1) = 2 - k by omega]
          exact HF4.out
      · have lt2 : ¬ (k : Int) < 3 := by omega
        have hE : E = pcEnd acc := by rw [← HF.out, show 3 - k = 0 by omega]; rfl
        by_cases h0 : k = 0
        · have hz : acc = [] := List.eq_nil_of_length_eq_zero (by rw [HACC.out]; omega)
          subst hz
          have t0 : ((0 : Int) == 0) = true := rfl
          have hE2 : E = [⟨3, 0, 0, 0⟩] := by rw [hE]; rfl
          have HEE := hidP hE2
          clear hE hE2 h0
          go_wp2_with fail
          go_ret
          refine ⟨_, rfl, ?_, bnew hb _⟩
          rw [HEE.out]
          exact kC_lit1 _ _ _ hb.size
        · have hE2 : E = acc := by rw [hE]; unfold pcEnd; rw [if_neg (by rw [HACC.out]; omega)]
          have HEE := hidP hE2
          obtain ⟨al, hal2⟩ : ∃ al, acc.length = al := ⟨_, rfl⟩
          have hR2 := HR.out
          have hal0 : ¬ al = 0 := by rw [← hal2, HACC.out]; exact h0
          rw [hal2] at hR2 ⊢
          have HR2 := hidP hR2
          have t0 : ((al : Int) == 0) = false := by simp; omega
          clear hE hE2 h0 hal2 hR2 hal0
          go_wp2_with fail
          go_ret
          refine ⟨_, rfl, ?_, hb⟩
          rw [HEE.out]
          exact HR2.out
    · have lt1 : ¬ (k : Int) < (m : Int) := by omega
      have hE : E = pcEnd acc := by
        rw [← HF.out, List.drop_eq_nil_of_le (by rw [HM.out]; omega)]
        cases h : 3 - k with
        | zero => rfl
        | succ j => rfl
      by_cases h0 : k = 0
      · have hz : acc = [] := List.eq_nil_of_length_eq_zero (by rw [HACC.out]; omega)
        subst hz
        have t0 : ((0 : Int) == 0) = true := rfl
        have hE2 : E = [⟨3, 0, 0, 0⟩] := by rw [hE]; rfl
        have HEE := hidP hE2
        clear hE hE2 h0
        go_wp2_with fail
        go_ret
        refine ⟨_, rfl, ?_, bnew hb _⟩
        rw [HEE.out]
        exact kC_lit1 _ _ _ hb.size
      · have hE2 : E = acc := by rw [hE]; unfold pcEnd; rw [if_neg (by rw [HACC.out]; omega)]
        have HEE := hidP hE2
        obtain ⟨al, hal2⟩ : ∃ al, acc.length = al := ⟨_, rfl⟩
        have hR2 := HR.out
        have hal0 : ¬ al = 0 := by rw [← hal2, HACC.out]; exact h0
        rw [hal2] at hR2 ⊢
        have HR2 := hidP hR2
        have t0 : ((al : Int) == 0) = false := by simp; omega
        clear hE hE2 h0 hal2 hR2 hal0
        go_wp2_with fail
        go_ret
        refine ⟨_, rfl, ?_, hb⟩
        rw [HEE.out]
        exact HR2.out
end Go.Proofs.YtoflhfiegfhkoaaDoor
