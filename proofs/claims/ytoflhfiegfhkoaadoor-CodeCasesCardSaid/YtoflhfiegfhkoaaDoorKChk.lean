/-
  The walks over package check: reg, within, bound, cases.
-/
import Derived.Test.YtoflhfiegfhkoaaDoorKInstr
namespace Go.Proofs.YtoflhfiegfhkoaaDoor
open Go.RowKit Go.Proofs.YtoflhfiegfhkoaaDoorW.PrintWords
set_option linter.unusedVariables false

def regOk (v : Int) (is : Bool) : Bool := v == 0 || (is && decide (0 < v) && decide (v < 6))
def withinOk (v m : Int) : Bool := decide (0 ≤ v) && decide (v ≤ m)
def boundOf (op : Int) : Int := if op = 4 then 3 else if op = 14 then 1000 else if op = 20 then 9 else if op = 18 ∨ op = 19 then 3 else 9999

set_option maxRecDepth 100000 in
set_option maxHeartbeats 800000 in
theorem creg_any (v : Int) (is : Bool) (w : World) : Calls Tryd.prog 70 #[.int .i64 v, .bool is] w fun e w' => e = .returned (.bool (regOk v is)) ∧ w' = w := by
  by_cases h0 : v = 0
  · have hr : regOk v is = true := by simp [regOk, h0]
    have t : (v == 0) = true := by simp [h0]
    rw [hr]
    clear h0 hr
    go_enter Tryd.func70, Tryd.ntmps70
    go_wp2
    go_ret
    exact ⟨rfl, rfl⟩
  · have t : (v == 0) = false := by simp [h0]
    cases is
    · have hr : regOk v false = false := by simp [regOk, h0]
      rw [hr]
      clear h0 hr
      go_enter Tryd.func70, Tryd.ntmps70
      go_wp2
      go_ret
      exact ⟨rfl, rfl⟩
    · by_cases h1 : 0 < v
      · by_cases h6 : v < 6
        · have hr : regOk v true = true := by simp [regOk, h1, h6]
          rw [hr]
          clear h0 hr
          go_enter Tryd.func70, Tryd.ntmps70
          go_wp2
          go_ret
          first | exact ⟨rfl, rfl⟩ | exact ⟨by simp [h6], rfl⟩
        · have hr : regOk v true = false := by simp [regOk, h0, h6]
          rw [hr]
          clear h0 hr
          go_enter Tryd.func70, Tryd.ntmps70
          go_wp2
          go_ret
          first | exact ⟨rfl, rfl⟩ | exact ⟨by simp [h6], rfl⟩
      · have hr : regOk v true = false := by simp [regOk, h0, h1]
        rw [hr]
        clear h0 hr
        go_enter Tryd.func70, Tryd.ntmps70
        go_wp2
        go_ret
        first | exact ⟨rfl, rfl⟩ | exact ⟨by simp [h1], rfl⟩

set_option maxRecDepth 100000 in
set_option maxHeartbeats 800000 in
theorem cwithin_any (v m : Int) (w : World) : Calls Tryd.prog 72 #[.int .i64 v, .int .i64 m] w fun e w' => e = .returned (.bool (withinOk v m)) ∧ w' = w := by
  by_cases h0 : 0 ≤ v
  · have hr : withinOk v m = decide (v ≤ m) := by simp [withinOk, h0]
    rw [hr]
    clear hr
    go_enter Tryd.func72, Tryd.ntmps72
    go_wp2
    go_ret
    exact ⟨rfl, rfl⟩
  · have hr : withinOk v m = false := by simp [withinOk, h0]
    rw [hr]
    clear hr
    go_enter Tryd.func72, Tryd.ntmps72
    go_wp2
    go_ret
    exact ⟨rfl, rfl⟩

set_option maxRecDepth 100000 in
set_option maxHeartbeats 800000 in
theorem cbound_any (op : Int) (w : World) : Calls Tryd.prog 73 #[.int .i64 op] w fun e w' => e = .returned (.int .i64 (boundOf op)) ∧ w' = w := by
  by_cases h4 : op = 4
  · have hr : boundOf op = 3 := by unfold boundOf; rw [if_pos h4]
    have t4 : (op == 4) = true := by simp [h4]
    rw [hr]
    clear hr h4
    go_enter Tryd.func73, Tryd.ntmps73
    go_wp2
    go_ret
    exact ⟨rfl, rfl⟩
  · have t4 : (op == 4) = false := by simp [h4]
    by_cases h14 : op = 14
    · have hr : boundOf op = 1000 := by unfold boundOf; rw [if_neg h4, if_pos h14]
      have t14 : (op == 14) = true := by simp [h14]
      rw [hr]
      clear hr h4 h14
      go_enter Tryd.func73, Tryd.ntmps73
      go_wp2
      go_ret
      exact ⟨rfl, rfl⟩
    · have t14 : (op == 14) = false := by simp [h14]
      by_cases h20 : op = 20
      · have hr : boundOf op = 9 := by unfold boundOf; rw [if_neg h4, if_neg h14, if_pos h20]
        have t20 : (op == 20) = true := by simp [h20]
        rw [hr]
        clear hr h4 h14 h20
        go_enter Tryd.func73, Tryd.ntmps73
        go_wp2
        go_ret
        exact ⟨rfl, rfl⟩
      · have t20 : (op == 20) = false := by simp [h20]
        by_cases h18 : op = 18
        · have hr : boundOf op = 3 := by unfold boundOf; rw [if_neg h4, if_neg h14, if_neg h20, if_pos (.inl h18)]
          have t18 : (op == 18) = true := by simp [h18]
          rw [hr]
          clear hr h4 h14 h20 h18
          go_enter Tryd.func73, Tryd.ntmps73
          go_wp2
          go_ret
          exact ⟨rfl, rfl⟩
        · have t18 : (op == 18) = false := by simp [h18]
          by_cases h19 : op = 19
          · have hr : boundOf op = 3 := by unfold boundOf; rw [if_neg h4, if_neg h14, if_neg h20, if_pos (.inr h19)]
            have t19 : (op == 19) = true := by simp [h19]
            rw [hr]
            clear hr h4 h14 h20 h18 h19
            go_enter Tryd.func73, Tryd.ntmps73
            go_wp2
            go_ret
            exact ⟨rfl, rfl⟩
          · have hr : boundOf op = 9999 := by unfold boundOf; rw [if_neg h4, if_neg h14, if_neg h20, if_neg (by omega)]
            have t19 : (op == 19) = false := by simp [h19]
            rw [hr]
            clear hr h4 h14 h20 h18 h19
            go_enter Tryd.func73, Tryd.ntmps73
            go_wp2
            go_ret
            exact ⟨rfl, rfl⟩

/-- May a case stand there? -/
def caseOk (n i : Nat) (c : CaseD) : Bool :=
  !(decide (c.kind < 1) || decide (3 < c.kind) || !regOk c.ch (!(c.kind == 3)) || !regOk c.reg (!(c.kind == 3)) || !withinOk c.dest 9999 || ((c.kind == 3) && decide (i + 1 < n)))
def casF (n : Nat) : Nat → List CaseD → Bool
  | _, [] => true
  | i, c :: r => caseOk n i c && casF n (i + 1) r
def casesOk (cs : List CaseD) : Bool := casF cs.length 0 cs && decide (1 ≤ cs.length) && decide (cs.length ≤ 3)
theorem casF_at {n k : Nat} {cs : List CaseD} {c : CaseD} (h : cs[k]? = some c) : casF n k (cs.drop k) = (caseOk n k c && casF n (k + 1) (cs.drop (k + 1))) := by
  obtain ⟨hk, hc⟩ := List.getElem?_eq_some_iff.1 h
  rw [List.drop_eq_getElem_cons hk, hc]
  rfl

set_option maxRecDepth 100000 in
set_option maxHeartbeats 6400000 in
theorem ccases_any (A : Option Addr) (d : Nat) (cs : List CaseD) (w : World) (h : kC.C w A cs.length cs) (hn9 : cs.length ≤ 9223372036854775807) :
    Calls Tryd.prog 74 #[.slice A cs.length d] w fun e w' => e = .returned (.bool (casesOk cs)) ∧ Below w.heap.size w w' := by
  have HA := hidP h
  obtain ⟨E, hE⟩ : ∃ E, casF cs.length 0 cs = E := ⟨_, rfl⟩
  have hR : casesOk cs = (E && decide (1 ≤ cs.length) && decide (cs.length ≤ 3)) := by unfold casesOk; rw [hE]
  rw [hR]
  obtain ⟨n, hn⟩ : ∃ n, cs.length = n := ⟨_, rfl⟩
  rw [hn] at hn9 hE ⊢
  have HN := hidP hn
  have HE := hidP hE
  obtain ⟨Z, hZ⟩ : ∃ Z, (E && decide (1 ≤ n) && decide (n ≤ 3)) = Z := ⟨_, rfl⟩
  rw [hZ]
  have HZ := hidP hZ
  clear h hE hR hn hZ
  go_enter Tryd.func74, Tryd.ntmps74
  go_wp2_with fail
  go_loopw [8] (fun v8 wr => ∃ k : Nat, v8 = .int .i64 k ∧ k ≤ n ∧ Hid (casF n k (cs.drop k) = E) ∧ Below w.heap.size w wr) (fun v8 _ => n - (intOf v8).toNat)
  case atStart => exact ⟨0, rfl, by omega, by show casF n 0 (cs.drop 0) = E; rw [List.drop_zero]; exact HE.out, brefl _⟩
  case round =>
    obtain ⟨k, rfl, hk, HF, hb⟩ := hrel
    obtain ⟨w1, e1⟩ : ∃ w1, w1 = wr := ⟨_, rfl⟩
    subst e1
    by_cases hlt : k < n
    · obtain ⟨⟨ck, cc, cr, ct⟩, hx⟩ : ∃ x, cs[k]? = some x := ⟨_, List.getElem?_eq_getElem (by rw [HN.out]; exact hlt)⟩
      obtain ⟨b, o, rfl, x0, x1, x2, x3⟩ := case_at (Kd.C_below HA.out hb) k _ hx
      have hst : E = (caseOk n k ⟨ck, cc, cr, ct⟩ && casF n (k + 1) (cs.drop (k + 1))) := by rw [← casF_at hx]; exact HF.out.symm
      have HST := hidP hst
      dsimp only at x0 x1 x2 x3
      have hb2 : Below w.heap.size w (w1.alloc (.cells #[.int .i64 ck, .int .i64 cc, .int .i64 cr, .int .i64 ct] 39)) := bnew hb _
      clear hx hst
      have lt1 : (k : Int) < (n : Int) := by omega
      by_cases h1 : ck < 1
      · have hE : E = false := by rw [HST.out]; simp [caseOk, h1]
        subst hE
        have hz : Z = false := by rw [← HZ.out]; simp
        subst hz
        clear HST
        go_wp2_with (first | (go_at_call 70; refine (creg_any _ _ _).mono ?_; rintro e w' ⟨rfl, rfl⟩) | (go_at_call 72; refine (cwithin_any _ _ _).mono ?_; rintro e w' ⟨rfl, rfl⟩) | fail)
        go_ret
        exact ⟨rfl, hb2⟩
      · by_cases h3 : 3 < ck
        · have hE : E = false := by rw [HST.out]; simp [caseOk, h3]
          subst hE
          have hz : Z = false := by rw [← HZ.out]; simp
          subst hz
          clear HST
          go_wp2_with (first | (go_at_call 70; refine (creg_any _ _ _).mono ?_; rintro e w' ⟨rfl, rfl⟩) | (go_at_call 72; refine (cwithin_any _ _ _).mono ?_; rintro e w' ⟨rfl, rfl⟩) | fail)
          go_ret
          exact ⟨rfl, hb2⟩
        · have e1 : decide (ck < 1) = false := decide_eq_false h1
          have e2 : decide (3 < ck) = false := decide_eq_false h3
          by_cases h33 : ck = 3
          · have t3 : (ck == 3) = true := by simp [h33]
            clear h33
            obtain ⟨R1, hR1⟩ : ∃ R, regOk cc false = R := ⟨_, rfl⟩
            obtain ⟨R2, hR2⟩ : ∃ R, regOk cr false = R := ⟨_, rfl⟩
            obtain ⟨W, hW⟩ : ∃ R, withinOk ct 9999 = R := ⟨_, rfl⟩
            have hc : caseOk n k ⟨ck, cc, cr, ct⟩ = !(!R1 || !R2 || !W || (true && decide (k + 1 < n))) := by
              unfold caseOk
              dsimp only
              rw [t3, e1, e2]
              show (!(false || false || !regOk cc false || !regOk cr false || !withinOk ct 9999 || (true && decide (k + 1 < n)))) = _
              rw [hR1, hR2, hW]
              simp
            have g1 := fun w => creg_any cc false w
            have g2 := fun w => creg_any cr false w
            have g3 := fun w => cwithin_any ct 9999 w
            rw [hR1] at g1
            rw [hR2] at g2
            rw [hW] at g3
            have hst := HST.out
            rw [hc] at hst
            have HST2 := hidP hst
            have G1 := hidP g1
            have G2 := hidP g2
            have G3 := hidP g3
            clear hR1 hR2 hW hc hst HST g1 g2 g3 e1 e2
            cases R1
            · have hE : E = false := by rw [HST2.out]; simp
              subst hE
              have hz : Z = false := by rw [← HZ.out]; simp
              subst hz
              clear HST2
              go_wp2_with fail
              refine (G1.out _).mono ?_
              rintro e w2 ⟨rfl, rfl⟩
              go_wp2_with fail
              try (refine (G2.out _).mono ?_; rintro e w2 ⟨rfl, rfl⟩; go_wp2_with fail)
              try (refine (G3.out _).mono ?_; rintro e w2 ⟨rfl, rfl⟩; go_wp2_with fail)
              go_ret
              exact ⟨rfl, hb2⟩
            cases R2
            · have hE : E = false := by rw [HST2.out]; simp
              subst hE
              have hz : Z = false := by rw [← HZ.out]; simp
              subst hz
              clear HST2
              go_wp2_with fail
              refine (G1.out _).mono ?_
              rintro e w2 ⟨rfl, rfl⟩
              go_wp2_with fail
              try (refine (G2.out _).mono ?_; rintro e w2 ⟨rfl, rfl⟩; go_wp2_with fail)
              try (refine (G3.out _).mono ?_; rintro e w2 ⟨rfl, rfl⟩; go_wp2_with fail)
              go_ret
              exact ⟨rfl, hb2⟩
            cases W
            · have hE : E = false := by rw [HST2.out]; simp
              subst hE
              have hz : Z = false := by rw [← HZ.out]; simp
              subst hz
              clear HST2
              go_wp2_with fail
              refine (G1.out _).mono ?_
              rintro e w2 ⟨rfl, rfl⟩
              go_wp2_with fail
              try (refine (G2.out _).mono ?_; rintro e w2 ⟨rfl, rfl⟩; go_wp2_with fail)
              try (refine (G3.out _).mono ?_; rintro e w2 ⟨rfl, rfl⟩; go_wp2_with fail)
              go_ret
              exact ⟨rfl, hb2⟩
            by_cases hl : k + 1 < n
            · have hE : E = false := by rw [HST2.out]; simp [hl]
              subst hE
              have hz : Z = false := by rw [← HZ.out]; simp
              subst hz
              have t9 : (k : Int) < (n : Int) - 1 := by omega
              clear HST2
              go_wp2_with fail
              refine (G1.out _).mono ?_
              rintro e w2 ⟨rfl, rfl⟩
              go_wp2_with fail
              try (refine (G2.out _).mono ?_; rintro e w2 ⟨rfl, rfl⟩; go_wp2_with fail)
              try (refine (G3.out _).mono ?_; rintro e w2 ⟨rfl, rfl⟩; go_wp2_with fail)
              go_ret
              exact ⟨rfl, hb2⟩
            · have t9 : decide ((k : Int) < (n : Int) - 1) = false := decide_eq_false (by omega)
              have HST2 : Hid (E = casF n (k + 1) (cs.drop (k + 1))) := by
                have := HST2.out
                simp [hl] at this
                exact this
              clear hl
              have HEE := hidP HST2.out.symm
              clear HST2
              go_wp2_with fail
              refine (G1.out _).mono ?_
              rintro e w2 ⟨rfl, rfl⟩
              go_wp2_with fail
              refine (G2.out _).mono ?_
              rintro e w2 ⟨rfl, rfl⟩
              go_wp2_with fail
              refine (G3.out _).mono ?_
              rintro e w2 ⟨rfl, rfl⟩
              go_wp2_with fail
              go_roundw
              case rel => exact ⟨k + 1, by go_num, by omega, by have := HEE.out; first | exact this | (simp at this; exact this), hb2⟩
              case measure => simp [intOf]; omega
          · have t3 : (ck == 3) = false := by simp [h33]
            clear h33
            obtain ⟨R1, hR1⟩ : ∃ R, regOk cc true = R := ⟨_, rfl⟩
            obtain ⟨R2, hR2⟩ : ∃ R, regOk cr true = R := ⟨_, rfl⟩
            obtain ⟨W, hW⟩ : ∃ R, withinOk ct 9999 = R := ⟨_, rfl⟩
            have hc : caseOk n k ⟨ck, cc, cr, ct⟩ = !(!R1 || !R2 || !W || (false && decide (k + 1 < n))) := by
              unfold caseOk
              dsimp only
              rw [t3, e1, e2]
              show (!(false || false || !regOk cc true || !regOk cr true || !withinOk ct 9999 || (false && decide (k + 1 < n)))) = _
              rw [hR1, hR2, hW]
              simp
            have g1 := fun w => creg_any cc true w
            have g2 := fun w => creg_any cr true w
            have g3 := fun w => cwithin_any ct 9999 w
            rw [hR1] at g1
            rw [hR2] at g2
            rw [hW] at g3
            have hst := HST.out
            rw [hc] at hst
            have HST2 := hidP hst
            have G1 := hidP g1
            have G2 := hidP g2
            have G3 := hidP g3
            clear hR1 hR2 hW hc hst HST g1 g2 g3 e1 e2
            cases R1
            · have hE : E = false := by rw [HST2.out]; simp
              subst hE
              have hz : Z = false := by rw [← HZ.out]; simp
              subst hz
              clear HST2
              go_wp2_with fail
              refine (G1.out _).mono ?_
              rintro e w2 ⟨rfl, rfl⟩
              go_wp2_with fail
              try (refine (G2.out _).mono ?_; rintro e w2 ⟨rfl, rfl⟩; go_wp2_with fail)
              try (refine (G3.out _).mono ?_; rintro e w2 ⟨rfl, rfl⟩; go_wp2_with fail)
              go_ret
              exact ⟨rfl, hb2⟩
            cases R2
            · have hE : E = false := by rw [HST2.out]; simp
              subst hE
              have hz : Z = false := by rw [← HZ.out]; simp
              subst hz
              clear HST2
              go_wp2_with fail
              refine (G1.out _).mono ?_
              rintro e w2 ⟨rfl, rfl⟩
              go_wp2_with fail
              try (refine (G2.out _).mono ?_; rintro e w2 ⟨rfl, rfl⟩; go_wp2_with fail)
              try (refine (G3.out _).mono ?_; rintro e w2 ⟨rfl, rfl⟩; go_wp2_with fail)
              go_ret
              exact ⟨rfl, hb2⟩
            cases W
            · have hE : E = false := by rw [HST2.out]; simp
              subst hE
              have hz : Z = false := by rw [← HZ.out]; simp
              subst hz
              clear HST2
              go_wp2_with fail
              refine (G1.out _).mono ?_
              rintro e w2 ⟨rfl, rfl⟩
              go_wp2_with fail
              try (refine (G2.out _).mono ?_; rintro e w2 ⟨rfl, rfl⟩; go_wp2_with fail)
              try (refine (G3.out _).mono ?_; rintro e w2 ⟨rfl, rfl⟩; go_wp2_with fail)
              go_ret
              exact ⟨rfl, hb2⟩
            have HEE := hidP HST2.out.symm
            clear HST2
            go_wp2_with fail
            refine (G1.out _).mono ?_
            rintro e w2 ⟨rfl, rfl⟩
            go_wp2_with fail
            refine (G2.out _).mono ?_
            rintro e w2 ⟨rfl, rfl⟩
            go_wp2_with fail
            refine (G3.out _).mono ?_
            rintro e w2 ⟨rfl, rfl⟩
            go_wp2_with fail
            go_roundw
            case rel => exact ⟨k + 1, by go_num, by omega, by have := HEE.out; first | exact this | (simp at this; exact this), hb2⟩
            case measure => simp [intOf]; omega
    · have hE : E = true := by
        rw [← HF.out, List.drop_eq_nil_of_le (by rw [HN.out]; omega)]
        rfl
      have lt1 : ¬ (k : Int) < (n : Int) := by omega
      subst hE
      by_cases g1 : 1 ≤ n
      · have t1 : (1 : Int) ≤ (n : Int) := by omega
        by_cases g3 : n ≤ 3
        · have hz : Z = true := by rw [← HZ.out]; simp [g1, g3]
          subst hz
          have t3 : (n : Int) ≤ 3 := by omega
          clear g3
          go_wp2
          go_ret
          first | exact ⟨rfl, hb⟩ | exact ⟨by simp [t3], hb⟩ | (have HD : Hid (decide ((n : Int) ≤ 3) = true) := decide_eq_true t3; exact ⟨by show Ending.returned (.bool (decide ((n : Int) ≤ 3))) = _; rw [HD.out], hb⟩)
        · have hz : Z = false := by rw [← HZ.out]; simp [g3]
          subst hz
          have t3 : decide ((n : Int) ≤ 3) = false := decide_eq_false (by omega)
          have HD := hidP t3
          clear g3
          go_wp2
          go_ret
          first | exact ⟨rfl, hb⟩ | exact ⟨by show Ending.returned (.bool (decide ((n : Int) ≤ 3))) = _; rw [HD.out], hb⟩
      · have t1 : ¬ (1 : Int) ≤ (n : Int) := by omega
        have hz : Z = false := by rw [← HZ.out]; simp [g1]
        subst hz
        go_wp2
        go_ret
        exact ⟨rfl, hb⟩
end Go.Proofs.YtoflhfiegfhkoaaDoor
