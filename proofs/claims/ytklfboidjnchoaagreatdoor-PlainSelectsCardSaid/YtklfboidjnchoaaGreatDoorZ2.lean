/-
  Parts of the proof: XFrame, KChk, XText, XNum, KRead, KFields, KFind, KEnv, KShp, KChoice, KLine, XLines, XAcc.
-/
import Derived.Test.YtklfboidjnchoaaGreatDoorRows
import Derived.ProofKit
import Derived.Handed
import Derived.LaidMore
import Derived.Stop.Joined
import Derived.Laws.RangeAny
import Derived.Lib.RuneCount
import Derived.Lib.Strings
import Derived.IntWalk
import Derived.Lib.ItoaNum
import Derived.Lib.ItoaLen
import Derived.Laws.IdiomStrings
import Derived.Deep.DeepCutAuto
import Derived.Lib.OthersKept
import Derived.Laws.Cover4
import Derived.Lib.SplitLaws
import Derived.Lib.ReplaceLaws
import Derived.Test.YtklfboidjnchoaaGreatDoorZ0
import Derived.Test.YtklfboidjnchoaaGreatDoorZ1
namespace Go.Proofs.YtklfboidjnchoaaGreatDoor
open Go.ChangeShapes Go.WideShapes Go.ChangeAt Go.RowKit
set_option linter.unusedVariables false
set_option linter.unusedSimpArgs false
theorem handed_shape {H : Type} {enc : TypeId × Value → H} {a : Assume} {C : Checked} {os : Os} {f : FuncId} {fn : Func} {s : ChangeSpec} {conds : List PathCond} {apart fresh handsOn again : Bool} {X : World → Array Value → Prop}
    (hX : ∀ (w w' : World) (args : Array Value), w.heap = w'.heap → X w args → X w' args)
    (own : ownKnob C.prog.godebug = none) (started : os.Started) (noInit : C.prog.inits.idxOf? f = none) (hfn : C.prog.funcs[f]? = some fn)
    (witness : ∃ (w : World) (tape : Tape) (i : Input), w.os = os ∧ (w.forCall tape i).Shaped C.prog ∧ i.vars = [] ∧ Input.okWide C.prog (w.forCall tape i) .any w.heap.size f i ∧
      ((s.pre enc C.prog fn conds apart (w.forCall tape i).memory i.args ∧ X (w.forCall tape i).memory i.args) ∧ sizedMet enc C.prog fn (OpenSpec.ofChange s) apart (w.forCall tape i).memory i.args) ∧ a.holds C.prog (lone (Frame.enter C.prog f i.args .normal) [] (w.forCall tape i)))
    (contract : ∀ (W : World) (base : Nat) (args : Array Value) (ds gs : List (DataW H)) (before : List MemPlace),
      (∀ (j : Nat) t v, fn.params[j]? = some t → args[j]? = some v → Value.okWide C.prog W .any base t v) →
      DataW.Whole enc C.prog fn.params.toList s.vars apart W args.toList ds gs before → X W args → W.ShapedOpen C.prog →
      Calls C.prog f args W fun e W' => ∃ v, e = .returned v ∧ s.post enc C.prog fn apart fresh handsOn again W args v W') :
    ReturnsInHanded a C os f .any (fun w args => (s.pre enc C.prog fn conds apart w args ∧ X w args) ∧ sizedMet enc C.prog fn (OpenSpec.ofChange s) apart w args) (s.post enc C.prog fn apart fresh handsOn again) := by
  refine returnsInHanded_of_calls own started noInit witness ?_
  intro w tape i _ hsh _ hok hpre hholds
  obtain ⟨_, _, _, fn', hfn', _, _, _, _, hval⟩ := hok
  obtain rfl := Option.some.inj (hfn'.symm.trans hfn)
  obtain ⟨⟨⟨ds, gs, before, hw, hc⟩, hx⟩, hz⟩ := hpre
  have hw' := DataW.Whole.of_heap (w' := w.forCall tape i) (by rfl) hw
  refine (contract (w.forCall tape i) w.heap.size i.args ds gs before hval hw' (hX _ _ _ (by rfl) hx) hsh).mono fun e W' ⟨v, he, hp⟩ => ?_
  subst he
  exact ChangeSpec.post_blind hp
theorem maxLen_of {W : World} {l : List (String × DataW Unit)} (_ : laidMet Tryz.prog l W) (hsh : W.ShapedOpen Tryz.prog) : ∃ mx, W.cell? ⟨2, 0, none⟩ = some (.int .i64 mx) := Tryz.laysM143.s1_3 W hsh
end Go.Proofs.YtklfboidjnchoaaGreatDoor
namespace Go.Proofs.YtklfboidjnchoaaGreatDoor
open Go.RowKit Go.Proofs.YtklfboidjnchoaaGreatDoorW.PrintWords
set_option linter.unusedVariables false
set_option linter.unusedSimpArgs false
def regOk (v : Int) (is : Bool) : Bool := v == 0 || (is && decide (0 < v) && decide (v < 6))
def withinOk (v m : Int) : Bool := decide (0 ≤ v) && decide (v ≤ m)
def boundOf (op : Int) : Int := if op = 4 then 3 else if op = 14 then 1000 else if op = 20 then 9 else if op = 18 ∨ op = 19 then 3 else 9999
set_option maxRecDepth 100000 in
set_option maxHeartbeats 800000 in
theorem creg_any (v : Int) (is : Bool) (w : World) : Calls Tryz.prog 88 #[.int .i64 v, .bool is] w fun e w' => e = .returned (.bool (regOk v is)) ∧ w' = w := by
  by_cases h0 : v = 0
  · have hr : regOk v is = true := by simp [regOk, h0]
    have t : (v == 0) = true := by simp [h0]
    rw [hr]
    clear h0 hr
    go_enter Tryz.func88, Tryz.ntmps88
    go_wp2
    go_ret
    exact ⟨rfl, rfl⟩
  · have t : (v == 0) = false := by simp [h0]
    cases is
    · have hr : regOk v false = false := by simp [regOk, h0]
      rw [hr]
      clear h0 hr
      go_enter Tryz.func88, Tryz.ntmps88
      go_wp2
      go_ret
      exact ⟨rfl, rfl⟩
    · by_cases h1 : 0 < v
      · by_cases h6 : v < 6
        · have hr : regOk v true = true := by simp [regOk, h1, h6]
          rw [hr]
          clear h0 hr
          go_enter Tryz.func88, Tryz.ntmps88
          go_wp2
          go_ret
          first | exact ⟨rfl, rfl⟩ | exact ⟨by simp [h6], rfl⟩
        · have hr : regOk v true = false := by simp [regOk, h0, h6]
          rw [hr]
          clear h0 hr
          go_enter Tryz.func88, Tryz.ntmps88
          go_wp2
          go_ret
          first | exact ⟨rfl, rfl⟩ | exact ⟨by simp [h6], rfl⟩
      · have hr : regOk v true = false := by simp [regOk, h0, h1]
        rw [hr]
        clear h0 hr
        go_enter Tryz.func88, Tryz.ntmps88
        go_wp2
        go_ret
        first | exact ⟨rfl, rfl⟩ | exact ⟨by simp [h1], rfl⟩
set_option maxRecDepth 100000 in
set_option maxHeartbeats 800000 in
theorem cwithin_any (v m : Int) (w : World) : Calls Tryz.prog 90 #[.int .i64 v, .int .i64 m] w fun e w' => e = .returned (.bool (withinOk v m)) ∧ w' = w := by
  by_cases h0 : 0 ≤ v
  · have hr : withinOk v m = decide (v ≤ m) := by simp [withinOk, h0]
    rw [hr]
    clear hr
    go_enter Tryz.func90, Tryz.ntmps90
    go_wp2
    go_ret
    exact ⟨rfl, rfl⟩
  · have hr : withinOk v m = false := by simp [withinOk, h0]
    rw [hr]
    clear hr
    go_enter Tryz.func90, Tryz.ntmps90
    go_wp2
    go_ret
    exact ⟨rfl, rfl⟩
set_option maxRecDepth 100000 in
set_option maxHeartbeats 800000 in
theorem cbound_any (op : Int) (w : World) : Calls Tryz.prog 91 #[.int .i64 op] w fun e w' => e = .returned (.int .i64 (boundOf op)) ∧ w' = w := by
  by_cases h4 : op = 4
  · have hr : boundOf op = 3 := by unfold boundOf; rw [if_pos h4]
    have t4 : (op == 4) = true := by simp [h4]
    rw [hr]
    clear hr h4
    go_enter Tryz.func91, Tryz.ntmps91
    go_wp2
    go_ret
    exact ⟨rfl, rfl⟩
  · have t4 : (op == 4) = false := by simp [h4]
    by_cases h14 : op = 14
    · have hr : boundOf op = 1000 := by unfold boundOf; rw [if_neg h4, if_pos h14]
      have t14 : (op == 14) = true := by simp [h14]
      rw [hr]
      clear hr h4 h14
      go_enter Tryz.func91, Tryz.ntmps91
      go_wp2
      go_ret
      exact ⟨rfl, rfl⟩
    · have t14 : (op == 14) = false := by simp [h14]
      by_cases h20 : op = 20
      · have hr : boundOf op = 9 := by unfold boundOf; rw [if_neg h4, if_neg h14, if_pos h20]
        have t20 : (op == 20) = true := by simp [h20]
        rw [hr]
        clear hr h4 h14 h20
        go_enter Tryz.func91, Tryz.ntmps91
        go_wp2
        go_ret
        exact ⟨rfl, rfl⟩
      · have t20 : (op == 20) = false := by simp [h20]
        by_cases h18 : op = 18
        · have hr : boundOf op = 3 := by unfold boundOf; rw [if_neg h4, if_neg h14, if_neg h20, if_pos (.inl h18)]
          have t18 : (op == 18) = true := by simp [h18]
          rw [hr]
          clear hr h4 h14 h20 h18
          go_enter Tryz.func91, Tryz.ntmps91
          go_wp2
          go_ret
          exact ⟨rfl, rfl⟩
        · have t18 : (op == 18) = false := by simp [h18]
          by_cases h19 : op = 19
          · have hr : boundOf op = 3 := by unfold boundOf; rw [if_neg h4, if_neg h14, if_neg h20, if_pos (.inr h19)]
            have t19 : (op == 19) = true := by simp [h19]
            rw [hr]
            clear hr h4 h14 h20 h18 h19
            go_enter Tryz.func91, Tryz.ntmps91
            go_wp2
            go_ret
            exact ⟨rfl, rfl⟩
          · have hr : boundOf op = 9999 := by unfold boundOf; rw [if_neg h4, if_neg h14, if_neg h20, if_neg (by omega)]
            have t19 : (op == 19) = false := by simp [h19]
            rw [hr]
            clear hr h4 h14 h20 h18 h19
            go_enter Tryz.func91, Tryz.ntmps91
            go_wp2
            go_ret
            exact ⟨rfl, rfl⟩
def caseOk (n i : Nat) (c : CaseD) : Bool :=
  !(decide (c.kind < 1) || decide (3 < c.kind) || !regOk c.ch (!(c.kind == 3)) || !regOk c.reg (!(c.kind == 3)) || !withinOk c.dest 9999 || ((c.kind == 3) && decide (i + 1 < n)))
def casF (n : Nat) : Nat → List CaseD → Bool
  | _, [] => true
  | i, c :: r => caseOk n i c && casF n (i + 1) r
def casesOk (cs : List CaseD) : Bool := casF cs.length 0 cs && decide (1 ≤ cs.length) && decide (cs.length ≤ 3)
theorem casF_at {n k : Nat} {cs : List CaseD} {c : CaseD} (h : cs[k]? = some c) : casF n k (cs.drop k) = (caseOk n k c && casF n (k + 1) (cs.drop (k + 1))) := by
  obtain ⟨hk, hc⟩ := List.getElem?_eq_some_iff.1 h
  rw [List.drop_eq_getElem_cons hk, hc]
  rfl
set_option maxRecDepth 100000 in
set_option maxHeartbeats 6400000 in
theorem ccases_any (A : Option Addr) (d : Nat) (cs : List CaseD) (w : World) (h : kC.C w A cs.length cs) (hn9 : cs.length ≤ 9223372036854775807) :
    Calls Tryz.prog 92 #[.slice A cs.length d] w fun e w' => e = .returned (.bool (casesOk cs)) ∧ Below w.heap.size w w' := by
  have HA := hidP h
  obtain ⟨E, hE⟩ : ∃ E, casF cs.length 0 cs = E := ⟨_, rfl⟩
  have hR : casesOk cs = (E && decide (1 ≤ cs.length) && decide (cs.length ≤ 3)) := by unfold casesOk; rw [hE]
  rw [hR]
  obtain ⟨n, hn⟩ : ∃ n, cs.length = n := ⟨_, rfl⟩
  rw [hn] at hn9 hE ⊢
  have HN := hidP hn
  have HE := hidP hE
  obtain ⟨Z, hZ⟩ : ∃ Z, (E && decide (1 ≤ n) && decide (n ≤ 3)) = Z := ⟨_, rfl⟩
  rw [hZ]
  have HZ := hidP hZ
  clear h hE hR hn hZ
  go_enter Tryz.func92, Tryz.ntmps92
  go_wp2_with fail
  go_loopw [8] (fun v8 wr => ∃ k : Nat, v8 = .int .i64 k ∧ k ≤ n ∧ Hid (casF n k (cs.drop k) = E) ∧ Below w.heap.size w wr) (fun v8 _ => n - (intOf v8).toNat)
  case atStart => exact ⟨0, rfl, by omega, by show casF n 0 (cs.drop 0) = E; rw [List.drop_zero]; exact HE.out, brefl _⟩
  case round =>
    obtain ⟨k, rfl, hk, HF, hb⟩ := hrel
    obtain ⟨w1, e1⟩ : ∃ w1, w1 = wr := ⟨_, rfl⟩
    subst e1
    by_cases hlt : k < n
    · obtain ⟨⟨ck, cc, cr, ct⟩, hx⟩ : ∃ x, cs[k]? = some x := ⟨_, List.getElem?_eq_getElem (by rw [HN.out]; exact hlt)⟩
      obtain ⟨b, o, rfl, x0, x1, x2, x3⟩ := case_at (Kd.C_below HA.out hb) k _ hx
      have hst : E = (caseOk n k ⟨ck, cc, cr, ct⟩ && casF n (k + 1) (cs.drop (k + 1))) := by rw [← casF_at hx]; exact HF.out.symm
      have HST := hidP hst
      dsimp only at x0 x1 x2 x3
      have hb2 : Below w.heap.size w (w1.alloc (.cells #[.int .i64 ck, .int .i64 cc, .int .i64 cr, .int .i64 ct] 109)) := bnew hb _
      clear hx hst
      have lt1 : (k : Int) < (n : Int) := by omega
      by_cases h1 : ck < 1
      · have hE : E = false := by rw [HST.out]; simp [caseOk, h1]
        subst hE
        have hz : Z = false := by rw [← HZ.out]; simp
        subst hz
        clear HST
        go_wp2_with (first | (go_at_call 88; refine (creg_any _ _ _).mono ?_; rintro e w' ⟨rfl, rfl⟩) | (go_at_call 90; refine (cwithin_any _ _ _).mono ?_; rintro e w' ⟨rfl, rfl⟩) | fail)
        go_ret
        exact ⟨rfl, hb2⟩
      · by_cases h3 : 3 < ck
        · have hE : E = false := by rw [HST.out]; simp [caseOk, h3]
          subst hE
          have hz : Z = false := by rw [← HZ.out]; simp
          subst hz
          clear HST
          go_wp2_with (first | (go_at_call 88; refine (creg_any _ _ _).mono ?_; rintro e w' ⟨rfl, rfl⟩) | (go_at_call 90; refine (cwithin_any _ _ _).mono ?_; rintro e w' ⟨rfl, rfl⟩) | fail)
          go_ret
          exact ⟨rfl, hb2⟩
        · have e1 : decide (ck < 1) = false := decide_eq_false h1
          have e2 : decide (3 < ck) = false := decide_eq_false h3
          by_cases h33 : ck = 3
          · have t3 : (ck == 3) = true := by simp [h33]
            clear h33
            obtain ⟨R1, hR1⟩ : ∃ R, regOk cc false = R := ⟨_, rfl⟩
            obtain ⟨R2, hR2⟩ : ∃ R, regOk cr false = R := ⟨_, rfl⟩
            obtain ⟨W, hW⟩ : ∃ R, withinOk ct 9999 = R := ⟨_, rfl⟩
            have hc : caseOk n k ⟨ck, cc, cr, ct⟩ = !(!R1 || !R2 || !W || (true && decide (k + 1 < n))) := by
              unfold caseOk
              dsimp only
              rw [t3, e1, e2]
              show (!(false || false || !regOk cc false || !regOk cr false || !withinOk ct 9999 || (true && decide (k + 1 < n)))) = _
              rw [hR1, hR2, hW]
              simp
            have g1 := fun w => creg_any cc false w
            have g2 := fun w => creg_any cr false w
            have g3 := fun w => cwithin_any ct 9999 w
            rw [hR1] at g1
            rw [hR2] at g2
            rw [hW] at g3
            have hst := HST.out
            rw [hc] at hst
            have HST2 := hidP hst
            have G1 := hidP g1
            have G2 := hidP g2
            have G3 := hidP g3
            clear hR1 hR2 hW hc hst HST g1 g2 g3 e1 e2
            cases R1
            · have hE : E = false := by rw [HST2.out]; simp
              subst hE
              have hz : Z = false := by rw [← HZ.out]; simp
              subst hz
              clear HST2
              go_wp2_with fail
              refine (G1.out _).mono ?_
              rintro e w2 ⟨rfl, rfl⟩
              go_wp2_with fail
              try (refine (G2.out _).mono ?_; rintro e w2 ⟨rfl, rfl⟩; go_wp2_with fail)
              try (refine (G3.out _).mono ?_; rintro e w2 ⟨rfl, rfl⟩; go_wp2_with fail)
              go_ret
              exact ⟨rfl, hb2⟩
            cases R2
            · have hE : E = false := by rw [HST2.out]; simp
              subst hE
              have hz : Z = false := by rw [← HZ.out]; simp
              subst hz
              clear HST2
              go_wp2_with fail
              refine (G1.out _).mono ?_
              rintro e w2 ⟨rfl, rfl⟩
              go_wp2_with fail
              try (refine (G2.out _).mono ?_; rintro e w2 ⟨rfl, rfl⟩; go_wp2_with fail)
              try (refine (G3.out _).mono ?_; rintro e w2 ⟨rfl, rfl⟩; go_wp2_with fail)
              go_ret
              exact ⟨rfl, hb2⟩
            cases W
            · have hE : E = false := by rw [HST2.out]; simp
              subst hE
              have hz : Z = false := by rw [← HZ.out]; simp
              subst hz
              clear HST2
              go_wp2_with fail
              refine (G1.out _).mono ?_
              rintro e w2 ⟨rfl, rfl⟩
              go_wp2_with fail
              try (refine (G2.out _).mono ?_; rintro e w2 ⟨rfl, rfl⟩; go_wp2_with fail)
              try (refine (G3.out _).mono ?_; rintro e w2 ⟨rfl, rfl⟩; go_wp2_with fail)
              go_ret
              exact ⟨rfl, hb2⟩
            by_cases hl : k + 1 < n
            · have hE : E = false := by rw [HST2.out]; simp [hl]
              subst hE
              have hz : Z = false := by rw [← HZ.out]; simp
              subst hz
              have t9 : (k : Int) < (n : Int) - 1 := by omega
              clear HST2
              go_wp2_with fail
              refine (G1.out _).mono ?_
              rintro e w2 ⟨rfl, rfl⟩
              go_wp2_with fail
              try (refine (G2.out _).mono ?_; rintro e w2 ⟨rfl, rfl⟩; go_wp2_with fail)
              try (refine (G3.out _).mono ?_; rintro e w2 ⟨rfl, rfl⟩; go_wp2_with fail)
              go_ret
              exact ⟨rfl, hb2⟩
            · have t9 : decide ((k : Int) < (n : Int) - 1) = false := decide_eq_false (by omega)
              have HST2 : Hid (E = casF n (k + 1) (cs.drop (k + 1))) := by
                have := HST2.out
                simp [hl] at this
                exact this
              clear hl
              have HEE := hidP HST2.out.symm
              clear HST2
              go_wp2_with fail
              refine (G1.out _).mono ?_
              rintro e w2 ⟨rfl, rfl⟩
              go_wp2_with fail
              refine (G2.out _).mono ?_
              rintro e w2 ⟨rfl, rfl⟩
              go_wp2_with fail
              refine (G3.out _).mono ?_
              rintro e w2 ⟨rfl, rfl⟩
              go_wp2_with fail
              go_roundw
              case rel => exact ⟨k + 1, by go_num, by omega, by have := HEE.out; first | exact this | (simp at this; exact this), hb2⟩
              case measure => simp [intOf]; omega
          · have t3 : (ck == 3) = false := by simp [h33]
            clear h33
            obtain ⟨R1, hR1⟩ : ∃ R, regOk cc true = R := ⟨_, rfl⟩
            obtain ⟨R2, hR2⟩ : ∃ R, regOk cr true = R := ⟨_, rfl⟩
            obtain ⟨W, hW⟩ : ∃ R, withinOk ct 9999 = R := ⟨_, rfl⟩
            have hc : caseOk n k ⟨ck, cc, cr, ct⟩ = !(!R1 || !R2 || !W || (false && decide (k + 1 < n))) := by
              unfold caseOk
              dsimp only
              rw [t3, e1, e2]
              show (!(false || false || !regOk cc true || !regOk cr true || !withinOk ct 9999 || (false && decide (k + 1 < n)))) = _
              rw [hR1, hR2, hW]
              simp
            have g1 := fun w => creg_any cc true w
            have g2 := fun w => creg_any cr true w
            have g3 := fun w => cwithin_any ct 9999 w
            rw [hR1] at g1
            rw [hR2] at g2
            rw [hW] at g3
            have hst := HST.out
            rw [hc] at hst
            have HST2 := hidP hst
            have G1 := hidP g1
            have G2 := hidP g2
            have G3 := hidP g3
            clear hR1 hR2 hW hc hst HST g1 g2 g3 e1 e2
            cases R1
            · have hE : E = false := by rw [HST2.out]; simp
              subst hE
              have hz : Z = false := by rw [← HZ.out]; simp
              subst hz
              clear HST2
              go_wp2_with fail
              refine (G1.out _).mono ?_
              rintro e w2 ⟨rfl, rfl⟩
              go_wp2_with fail
              try (refine (G2.out _).mono ?_; rintro e w2 ⟨rfl, rfl⟩; go_wp2_with fail)
              try (refine (G3.out _).mono ?_; rintro e w2 ⟨rfl, rfl⟩; go_wp2_with fail)
              go_ret
              exact ⟨rfl, hb2⟩
            cases R2
            · have hE : E = false := by rw [HST2.out]; simp
              subst hE
              have hz : Z = false := by rw [← HZ.out]; simp
              subst hz
              clear HST2
              go_wp2_with fail
              refine (G1.out _).mono ?_
              rintro e w2 ⟨rfl, rfl⟩
              go_wp2_with fail
              try (refine (G2.out _).mono ?_; rintro e w2 ⟨rfl, rfl⟩; go_wp2_with fail)
              try (refine (G3.out _).mono ?_; rintro e w2 ⟨rfl, rfl⟩; go_wp2_with fail)
              go_ret
              exact ⟨rfl, hb2⟩
            cases W
            · have hE : E = false := by rw [HST2.out]; simp
              subst hE
              have hz : Z = false := by rw [← HZ.out]; simp
              subst hz
              clear HST2
              go_wp2_with fail
              refine (G1.out _).mono ?_
              rintro e w2 ⟨rfl, rfl⟩
              go_wp2_with fail
              try (refine (G2.out _).mono ?_; rintro e w2 ⟨rfl, rfl⟩; go_wp2_with fail)
              try (refine (G3.out _).mono ?_; rintro e w2 ⟨rfl, rfl⟩; go_wp2_with fail)
              go_ret
              exact ⟨rfl, hb2⟩
            have HEE := hidP HST2.out.symm
            clear HST2
            go_wp2_with fail
            refine (G1.out _).mono ?_
            rintro e w2 ⟨rfl, rfl⟩
            go_wp2_with fail
            refine (G2.out _).mono ?_
            rintro e w2 ⟨rfl, rfl⟩
            go_wp2_with fail
            refine (G3.out _).mono ?_
            rintro e w2 ⟨rfl, rfl⟩
            go_wp2_with fail
            go_roundw
            case rel => exact ⟨k + 1, by go_num, by omega, by have := HEE.out; first | exact this | (simp at this; exact this), hb2⟩
            case measure => simp [intOf]; omega
    · have hE : E = true := by
        rw [← HF.out, List.drop_eq_nil_of_le (by rw [HN.out]; omega)]
        rfl
      have lt1 : ¬ (k : Int) < (n : Int) := by omega
      subst hE
      by_cases g1 : 1 ≤ n
      · have t1 : (1 : Int) ≤ (n : Int) := by omega
        by_cases g3 : n ≤ 3
        · have hz : Z = true := by rw [← HZ.out]; simp [g1, g3]
          subst hz
          have t3 : (n : Int) ≤ 3 := by omega
          clear g3
          go_wp2
          go_ret
          first | exact ⟨rfl, hb⟩ | exact ⟨by simp [t3], hb⟩ | (have HD : Hid (decide ((n : Int) ≤ 3) = true) := decide_eq_true t3; exact ⟨by show Ending.returned (.bool (decide ((n : Int) ≤ 3))) = _; rw [HD.out], hb⟩)
        · have hz : Z = false := by rw [← HZ.out]; simp [g3]
          subst hz
          have t3 : decide ((n : Int) ≤ 3) = false := decide_eq_false (by omega)
          have HD := hidP t3
          clear g3
          go_wp2
          go_ret
          first | exact ⟨rfl, hb⟩ | exact ⟨by show Ending.returned (.bool (decide ((n : Int) ≤ 3))) = _; rw [HD.out], hb⟩
      · have t1 : ¬ (1 : Int) ≤ (n : Int) := by omega
        have hz : Z = false := by rw [← HZ.out]; simp [g1]
        subst hz
        go_wp2
        go_ret
        exact ⟨rfl, hb⟩
end Go.Proofs.YtklfboidjnchoaaGreatDoor
namespace Go.Proofs.YtklfboidjnchoaaGreatDoor
open Go.RowKit
set_option linter.unusedVariables false
set_option linter.unusedSimpArgs false
def runesF (s : ByteArray) (pos : Nat) : List Nat :=
  if h : pos < s.size then (Utf8.decode s pos).1 :: runesF s (pos + (Utf8.decode s pos).2) else []
termination_by s.size - pos
decreasing_by have := Lib.decode_width_pos s pos h; omega
theorem runesF_step (s : ByteArray) (pos : Nat) (h : pos < s.size) : runesF s pos = (Utf8.decode s pos).1 :: runesF s (pos + (Utf8.decode s pos).2) := by
  conv => lhs; unfold runesF
  rw [dif_pos h]
theorem runesF_end (s : ByteArray) (pos : Nat) (h : ¬ pos < s.size) : runesF s pos = [] := by
  unfold runesF
  rw [dif_neg h]
theorem runesF_len (s : ByteArray) (pos : Nat) : (runesF s pos).length ≤ s.size - pos := by
  induction pos using runesF.induct s with
  | case1 pos h ih =>
    rw [runesF_step s pos h, List.length_cons]
    have := Lib.decode_width_pos s pos h
    omega
  | case2 pos h => rw [runesF_end s pos h]; simp
def mayR (c : Int) : Bool := c == 10 || (decide (32 ≤ c) && decide (c ≤ 126))
def mayAll (s : ByteArray) : Bool := (runesF s 0).all fun c => mayR c
def isDig (c : Nat) : Bool := decide (48 ≤ c) && decide (c ≤ 57)
def dstep (v : Int) (c : Nat) : Int := if v < 10000 then 10 * v + ((c : Int) - 48) else v
def dval (l : List Nat) : Int := l.foldl dstep 0
def numR (s : ByteArray) : Int × Bool := if (runesF s 0).all isDig && decide (1 ≤ s.size) && decide (s.size ≤ 4) then (dval (runesF s 0), true) else (0, false)
def regR (c : Int) : Int × Bool := if 97 ≤ c ∧ c ≤ 102 then (c - 97, true) else (0, false)
end Go.Proofs.YtklfboidjnchoaaGreatDoor
namespace Go.Proofs.YtklfboidjnchoaaGreatDoor
open Go.RowKit
set_option linter.unusedVariables false
def digB (r : Nat) : ByteArray := ⟨#[UInt8.ofNat (48 + r)]⟩
theorem digB_size (r : Nat) : (digB r).size = 1 := rfl
def decB (n : Nat) : ByteArray := ⟨(Lib.decDigits n).toArray⟩
theorem conv_dig (r : Nat) (hr : r < 10) (b c : Nat) (w : World) (h : w.cell? ⟨b, 0, none⟩ = some (.int .u8 (48 + (r : Int)))) : (convert 51 9 (.slice (some ⟨b, 0, none⟩) 1 c)).run Tryz.prog w = .ok (.string (digB r)) w := by
  refine run_convert_bytes_back w _ _ 5 ⟨b, 0, none⟩ c [UInt8.ofNat (48 + r)] Tryz.underlying51 Tryz.underlying5 Tryz.underlying9 ?_
  intro j hj
  simp at hj
  subst hj
  have e : (⟨b, 0, none⟩ : Addr).add 0 = ⟨b, 0, none⟩ := by simp [Addr.add]
  have e2 : ((UInt8.ofNat (48 + r)).toNat : Int) = 48 + (r : Int) := by
    have : (UInt8.ofNat (48 + r)).toNat = 48 + r := by simp; omega
    rw [this]; omega
  rw [e, h]
  simp only [List.getElem_cons_zero]
  rw [e2]
theorem decB_le (n : Nat) (h : n < 1000000) : (decB n).size ≤ 21 := by
  have h1 := Lib.itoa_length_le (n : Int) (by omega) (by omega)
  have e : Lib.itoa (n : Int) = Lib.decDigits n := Lib.itoa_nonneg n
  rw [e] at h1
  simpa [decB, ByteArray.size] using h1
theorem decB_app (q r : Nat) : decB q ++ digB r = ⟨(Lib.decDigits q ++ [UInt8.ofNat (48 + r)]).toArray⟩ := by
  apply ByteArray.ext
  simp [decB, digB]
set_option maxRecDepth 100000 in
set_option maxHeartbeats 1600000 in
theorem digits_any : ∀ (n : Nat) (hn : n < 1000000) (w : World), Calls Tryz.prog 19 #[.int .i64 n] w fun e w' => e = .returned (.string (decB n)) ∧ Below w.heap.size w w' := by
  intro n
  induction n using Nat.strongRecOn with
  | _ n ih =>
    intro hn w
    have g0 : ¬ ((n : Int) < 0) := by omega
    by_cases h10 : n < 10
    · have g1 : (n : Int) < 10 := by omega
      have hu : IntKind.u8.wrap (48 + (n : Int)) = 48 + (n : Int) := by rw [IntKind.wrap_u8]; omega
      have hd : decB n = digB n := by unfold decB digB; rw [Lib.decDigits, dif_pos h10]
      have HD := hidP hd
      have hcv := conv_dig n h10 w.heap.size 1 (w.alloc (.cells #[.int .u8 (48 + (n : Int))] 5)) (by go_simp)
      clear ih hd
      go_enter Tryz.func19, Tryz.ntmps19
      go_wp2
      go_ret
      exact ⟨by rw [HD.out]; rfl, bnew (brefl w) _⟩
    · have g1 : ¬ ((n : Int) < 10) := by omega
      have ih' := fun w => ih (n / 10) (by omega) (by omega) w
      have hq : (n : Int).tdiv 10 = ((n / 10 : Nat) : Int) := by rw [Int.tdiv_eq_ediv_of_nonneg (by omega)]; omega
      have hr : (n : Int).tmod 10 = ((n % 10 : Nat) : Int) := by rw [Int.tmod_eq_emod_of_nonneg (by omega)]; omega
      have hd : decB n = ⟨(Lib.decDigits (n / 10) ++ [UInt8.ofNat (48 + n % 10)]).toArray⟩ := by unfold decB; conv => lhs; rw [Lib.decDigits]; rw [dif_neg h10]
      have hdn : decB (n / 10) = ⟨(Lib.decDigits (n / 10)).toArray⟩ := rfl
      have hq1 : n / 10 < 1000000 := by omega
      have hr1 : n % 10 < 10 := by omega
      have HD := hidP hd
      have HDN := hidP hdn
      generalize n / 10 = q at *
      generalize n % 10 = r at *
      have hu : IntKind.u8.wrap (48 + (r : Int)) = 48 + (r : Int) := by rw [IntKind.wrap_u8]; omega
      have hw1 : IntKind.i64.wrap (q : Int) = (q : Int) := IntWalk.i64_in _ (by omega)
      have hw2 : IntKind.i64.wrap (48 + (r : Int)) = 48 + (r : Int) := IntWalk.i64_in _ (by omega)
      have hw3 : IntKind.i64.wrap (r : Int) = (r : Int) := IntWalk.i64_in _ (by omega)
      have IH := hidP ih'
      clear ih ih' hd hdn
      go_enter Tryz.func19, Tryz.ntmps19
      go_upto_region 7 with fail
      have hcv := fun b c w => conv_dig r hr1 b c w
      have hsz := decB_le q hq1
      have hds := digB_size r
      have hcc : ¬ (9223372036854775807 < (decB q).size + 1) := by omega
      go_region_law (first | (go_simp; go_at_call 19; refine (IH.out _).mono ?_; rintro e w1 ⟨rfl, hb1⟩; obtain ⟨hcb, _⟩ := bcell hb1) | fail)
      all_goals
        go_wp2
        go_ret
        refine ⟨by rw [HD.out, ← decB_app]; rfl, ?_⟩
        first
          | exact bnew ((brefl w).drew.trans hb1) _
          | exact hb1.drew
          | exact (bnew (brefl w) _).trans (hb1.mono (by simp))
          | exact (bnew (brefl w) _).drew.trans (hb1.mono (by simp))
end Go.Proofs.YtklfboidjnchoaaGreatDoor
namespace Go.Proofs.YtklfboidjnchoaaGreatDoor
open Go
set_option linter.unusedVariables false
theorem runesF_ascii (s : ByteArray) (h : ∀ b ∈ s.data.toList, b.toNat < 128) : ∀ k pos, pos + k = s.size → runesF s pos = (s.data.toList.drop pos).map (·.toNat)
  | 0, pos, hk => by
    rw [runesF_end s pos (by omega), List.drop_eq_nil_of_le]
    · rfl
    · rw [Array.length_toList]
      show s.data.size ≤ pos
      have : s.data.size = s.size := rfl
      omega
  | k + 1, pos, hk => by
    have hp : pos < s.size := by omega
    have hl : pos < s.data.toList.length := by rw [Array.length_toList]; exact hp
    have hb : (s[pos]'hp) = s.data.toList[pos]'hl := by simp; rfl
    have ha : (s[pos]'hp).toNat < 128 := by rw [hb]; exact h _ (List.getElem_mem hl)
    have hde : Utf8.decode s pos = ((s[pos]'hp).toNat, 1) := by rw [decode_ascii s pos hp ha]
    rw [runesF_step s pos hp, hde]
    dsimp only
    rw [runesF_ascii s h k (pos + 1) (by omega), List.drop_eq_getElem_cons hl, List.map_cons, hb]
def strD (ds : List Nat) : ByteArray := ⟨(ds.map fun d => UInt8.ofNat (48 + d)).toArray⟩
def fold10 (ds : List Nat) : Nat := ds.foldl (fun v d => 10 * v + d) 0
def digs (u : Nat) : List Nat := if h : u < 10 then [u] else digs (u / 10) ++ [u % 10]
termination_by u
decreasing_by omega
theorem digs_small {u : Nat} (h : u < 10) : digs u = [u] := by rw [digs, dif_pos h]
theorem digs_big {u : Nat} (h : ¬ u < 10) : digs u = digs (u / 10) ++ [u % 10] := by conv => lhs; rw [digs]; rw [dif_neg h]
theorem digs_dec (u : Nat) : Lib.decDigits u = (digs u).map fun d => UInt8.ofNat (48 + d) := by
  induction u using Nat.strongRecOn with
  | _ u ih =>
    by_cases h : u < 10
    · rw [digs_small h, Lib.decDigits, dif_pos h]; rfl
    · rw [digs_big h, List.map_append, ← ih (u / 10) (by omega)]
      conv => lhs; rw [Lib.decDigits]; rw [dif_neg h]
      rfl
theorem digs_lt (u : Nat) : ∀ d ∈ digs u, d < 10 := by
  induction u using Nat.strongRecOn with
  | _ u ih =>
    intro d hd
    by_cases h : u < 10
    · rw [digs_small h] at hd; simp at hd; omega
    · rw [digs_big h] at hd
      rcases List.mem_append.1 hd with hd | hd
      · exact ih (u / 10) (by omega) d hd
      · simp at hd; omega
theorem fold10_digs (u : Nat) : fold10 (digs u) = u := by
  induction u using Nat.strongRecOn with
  | _ u ih =>
    by_cases h : u < 10
    · rw [digs_small h]; simp [fold10]
    · have := ih (u / 10) (by omega)
      rw [digs_big h]
      unfold fold10 at *
      rw [List.foldl_append, this]
      simp
      omega
theorem digs_len (u : Nat) : 1 ≤ (digs u).length ∧ ∀ k, u < 10 ^ (k + 1) → (digs u).length ≤ k + 1 := by
  induction u using Nat.strongRecOn with
  | _ u ih =>
    by_cases h : u < 10
    · rw [digs_small h]; simp
    · obtain ⟨h1, h2⟩ := ih (u / 10) (by omega)
      rw [digs_big h, List.length_append]
      refine ⟨by simp, fun k hk => ?_⟩
      cases k with
      | zero => simp at hk; omega
      | succ k =>
        have := h2 k (by rw [Nat.pow_succ] at hk; omega)
        simp
        exact this
theorem decB_digs (u : Nat) : decB u = strD (digs u) := by unfold decB strD; rw [digs_dec]
theorem strD_size (ds : List Nat) : (strD ds).size = ds.length := by
  show (strD ds).data.size = _
  simp [strD]
theorem strD_runes (ds : List Nat) (h : ∀ d ∈ ds, d < 10) : runesF (strD ds) 0 = ds.map (48 + ·) := by
  have e : ∀ d, d < 10 → (UInt8.ofNat (48 + d)).toNat = 48 + d := fun d hd => by simp; omega
  rw [runesF_ascii (strD ds) (fun b hb => by
    simp [strD] at hb
    obtain ⟨d, hd, rfl⟩ := hb
    have h1 := e d (h d hd)
    have h2 := h d hd
    simp at h1 ⊢
    omega) (strD ds).size 0 (by omega), List.drop_zero]
  have : (strD ds).data.toList = ds.map fun d => UInt8.ofNat (48 + d) := by simp [strD]
  rw [this, List.map_map]
  apply List.map_congr_left
  intro d hd
  exact e d (h d hd)
theorem strD_dig (ds : List Nat) (h : ∀ d ∈ ds, d < 10) : (ds.map (48 + ·)).all isDig = true := by
  rw [List.all_eq_true]
  intro c hc
  rw [List.mem_map] at hc
  obtain ⟨d, hd, rfl⟩ := hc
  have := h d hd
  simp [isDig]
  omega
theorem dval_four (ds : List Nat) (h : ∀ d ∈ ds, d < 10) (hl : ds.length ≤ 4) : dval (ds.map (48 + ·)) = (fold10 ds : Int) := by
  match ds, hl with
  | [], _ => rfl
  | [a], _ =>
    have ha := h a (by simp)
    simp [dval, dstep, fold10]
    omega
  | [a, b], _ =>
    have ha := h a (by simp)
    have hb := h b (by simp)
    simp only [dval, dstep, fold10, List.map_cons, List.map_nil, List.foldl_cons, List.foldl_nil]
    repeat' split
    all_goals omega
  | [a, b, c], _ =>
    have ha := h a (by simp)
    have hb := h b (by simp)
    have hc := h c (by simp)
    simp only [dval, dstep, fold10, List.map_cons, List.map_nil, List.foldl_cons, List.foldl_nil]
    repeat' split
    all_goals omega
  | [a, b, c, d], _ =>
    have ha := h a (by simp)
    have hb := h b (by simp)
    have hc := h c (by simp)
    have hd := h d (by simp)
    simp only [dval, dstep, fold10, List.map_cons, List.map_nil, List.foldl_cons, List.foldl_nil]
    repeat' split
    all_goals omega
theorem numR_digs (ds : List Nat) (h : ∀ d ∈ ds, d < 10) (h1 : 1 ≤ ds.length) (h4 : ds.length ≤ 4) : numR (strD ds) = ((fold10 ds : Int), true) := by
  unfold numR
  rw [strD_runes ds h, strD_dig ds h, strD_size, dval_four ds h h4, if_pos]
  simp
  omega
theorem numR_long (s : ByteArray) (h : 4 < s.size) : numR s = (0, false) := by
  have : ¬ s.size ≤ 4 := by omega
  simp [numR, this]
end Go.Proofs.YtklfboidjnchoaaGreatDoor
namespace Go.Proofs.YtklfboidjnchoaaGreatDoor
open Go.RowKit Go.Proofs.YtklfboidjnchoaaGreatDoorW.PrintWords
set_option linter.unusedVariables false
set_option linter.unusedSimpArgs false
def chr (l : List Nat) (p : Nat) : Nat := l.getD p 0
def adv (l : List Nat) (p : Nat) : Nat := if p < l.length then p + 1 else p
theorem adv_le {l : List Nat} {p : Nat} (h : p ≤ l.length) : adv l p ≤ l.length := by unfold adv; split <;> omega
def runL : List Nat → Nat → Nat
  | _, 0 => 0
  | [], _ + 1 => 0
  | c :: l, m + 1 => if isDig c then runL l m + 1 else 0
theorem runL_le : ∀ (l : List Nat) (m : Nat), runL l m ≤ l.length ∧ runL l m ≤ m
  | _, 0 => by simp [runL]
  | [], _ + 1 => by simp [runL]
  | c :: l, m + 1 => by
    have := runL_le l m
    unfold runL
    split <;> simp <;> omega
def strA (l : List Nat) : ByteArray := ⟨(l.map UInt8.ofNat).toArray⟩
theorem strA_size (l : List Nat) : (strA l).size = l.length := by show (strA l).data.size = _; simp [strA]
def numL (l : List Nat) (p m : Nat) : ByteArray := strA ((l.drop p).take (runL (l.drop p) m))
theorem strA_get (F : List Nat) (k : Nat) (h : k < (strA F).size) (ha : ∀ x ∈ F, x < 128) : ((strA F)[k]'h).toNat = chr F k := by
  have hl : k < F.length := by rw [← strA_size]; exact h
  have hd : (strA F).data.toList = F.map UInt8.ofNat := rfl
  have hl2 : k < (strA F).data.toList.length := by rw [hd, List.length_map]; exact hl
  have e : ((strA F)[k]'h) = UInt8.ofNat (F[k]'hl) := by
    have e1 : ((strA F)[k]'h) = (strA F).data.toList[k]'hl2 := by simp; rfl
    rw [e1]
    simp [hd]
  have hx := ha (F[k]'hl) (List.getElem_mem hl)
  rw [e]
  unfold chr
  rw [List.getD_eq_getElem?_getD, List.getElem?_eq_getElem hl]
  simp
  omega
theorem chr_lt {F : List Nat} (ha : ∀ x ∈ F, x < 128) (k : Nat) : chr F k < 128 := by
  unfold chr
  rw [List.getD_eq_getElem?_getD]
  cases h : F[k]? with
  | none => simp
  | some x => exact ha x (List.mem_of_getElem? h)
structure FSt where
  a : Int
  b : Int
  n : Int
  ok : Bool
  q : Nat
def fstep (l : List Nat) (i c : Nat) (s : FSt) : FSt :=
  if i = 0 then s
  else if c = 97 then { s with a := (regR (chr l s.q)).1, ok := s.ok && (regR (chr l s.q)).2, q := adv l s.q }
  else if c = 98 then { s with b := (regR (chr l s.q)).1, ok := s.ok && (regR (chr l s.q)).2, q := adv l s.q }
  else if c = 78 then { s with n := (numR (numL l s.q 4)).1, ok := s.ok && (numR (numL l s.q 4)).2, q := s.q + runL (l.drop s.q) 4 }
  else if c = 68 then { s with n := (numR (numL l s.q 1)).1, ok := s.ok && (numR (numL l s.q 1)).2, q := s.q + runL (l.drop s.q) 1 }
  else s
def ffold (l : List Nat) : Nat → List Nat → FSt → FSt
  | _, [], s => s
  | i, c :: r, s => ffold l (i + 1) r (fstep l i c s)
def fieldsR (l F : List Nat) (p : Nat) : FSt := ffold l 0 F ⟨0, 0, 0, true, p⟩
def findF (c : Int) : Nat → List (List Nat) → Nat × List Nat × Bool
  | _, [] => (0, [], false)
  | i, P :: r => if (chr P 0 : Int) = c then (i + 1, P, true) else findF c (i + 1) r
structure FieldsOf (all : ByteArray) (Ps : List (List Nat)) : Prop where
  eq : (Lib.fields all.data.toList).map (fun l => Value.string ⟨l.toArray⟩) = Ps.map fun P => Value.string (strA P)
  len : (Lib.fields all.data.toList).length = Ps.length
  asc : ∀ (j : Nat) b, all.data.toList[j]? = some b → b.toNat < 128
  size : all.size < 1000
  few : Ps.length ≤ 100
  each : ∀ P ∈ Ps, 0 < P.length ∧ (∀ x ∈ P, x < 128) ∧ P.length ≤ 100
def Blanks (w : World) : Prop := Lib.TabIs Tryz.prog w "strings.asciiSpace" .u8 Lib.asciiSpaceTab
theorem gBlanks : Tryz.prog.globalNamed "strings.asciiSpace" = some 0 := by kernel_rfl
theorem tab_keep {S : Nat → Prop} {w w' : World} {name : String} {k : IntKind} {zs : List Int} {g : Nat} (hg : Tryz.prog.globalNamed name = some g) (h : Lib.TabIs Tryz.prog w name k zs) (hk : Keep S w w') (hs : ¬ S g) : Lib.TabIs Tryz.prog w' name k zs := by
  unfold Lib.TabIs World.var? at h ⊢
  rw [hg] at h ⊢
  simp only [Option.bind_some] at h ⊢
  have hlt : g < w.heap.size := by
    rcases Nat.lt_or_ge g w.heap.size with h' | h'
    · exact h'
    · rw [Array.getElem?_eq_none h'] at h; cases h
  rw [hk.block g hlt hs]
  exact h
theorem tab_lt {w : World} {name : String} {k : IntKind} {zs : List Int} {g : Nat} (hg : Tryz.prog.globalNamed name = some g) (h : Lib.TabIs Tryz.prog w name k zs) : g < w.heap.size := by
  unfold Lib.TabIs World.var? at h
  rw [hg] at h
  simp only [Option.bind_some] at h
  rcases Nat.lt_or_ge g w.heap.size with h' | h'
  · exact h'
  · rw [Array.getElem?_eq_none h'] at h; cases h
theorem Blanks.keepS {S : Nat → Prop} {w w' : World} (h : Blanks w) (hk : Keep S w w') (hs : ¬ S 0) : Blanks w' := tab_keep gBlanks h hk hs
theorem Blanks.below {w w' : World} (h : Blanks w) (hb : Below w.heap.size w w') : Blanks w' := h.keepS (S := fun _ => False) (.of_below hb) (fun h => h)
theorem Blanks.lt {w : World} (h : Blanks w) : 0 < w.heap.size := tab_lt gBlanks h
structure Env (w : World) : Prop where
  bl : Blanks w
  mx : ∃ m, w.cell? ⟨2, 0, none⟩ = some (.int .i64 m)
theorem Env.below {w w' : World} (h : Env w) (hb : Below w.heap.size w w') : Env w' := by
  obtain ⟨m, hm⟩ := h.mx
  exact ⟨h.bl.below hb, m, (hb.cell (p := ⟨2, 0, none⟩) (World.block_lt_of_cell? w _ hm)).trans hm⟩
def formsL : List (List Nat) := [[61, 97, 78], [60, 97, 98], [43, 97, 98], [109, 97, 78], [115, 97, 98], [114, 97, 98], [99, 97], [108, 97, 98], [107, 97, 98], [103, 78], [106, 78], [122, 97, 78], [111, 97], [116, 97, 78], [98, 97, 98], [117, 97, 98], [119, 97, 98], [112, 68, 97], [113, 97, 78], [102, 97, 78], [83], [120]]
def casesL : List (List Nat) := [[115, 97, 98, 78], [114, 97, 98, 78], [101, 78]]
theorem toL_inj (l : List (List UInt8)) (Ps : List (List Nat)) (h : l = Ps.map (List.map UInt8.ofNat)) : l.map (fun l => Value.string ⟨l.toArray⟩) = Ps.map fun P => Value.string (strA P) := by
  subst h
  rw [List.map_map]
  rfl
def hasB : ByteArray := ⟨#[97, 110, 32, 97, 98, 32, 97, 98, 32, 97, 110, 32, 97, 98, 32, 97, 98, 32, 97, 32, 97, 98, 32, 97, 98, 32, 108, 32, 108, 32, 97, 108, 32, 97, 32, 97, 110, 32, 97, 98, 32, 97, 98, 32, 97, 98, 32, 97, 110, 32, 97, 110, 32, 97, 110, 32, 115, 32, 45]⟩
def hasL : List (List Nat) := [[97, 110], [97, 98], [97, 98], [97, 110], [97, 98], [97, 98], [97], [97, 98], [97, 98], [108], [108], [97, 108], [97], [97, 110], [97, 98], [97, 98], [97, 98], [97, 110], [97, 110], [97, 110], [115], [45]]
theorem has_of : FieldsOf hasB hasL where
  eq := toL_inj _ _ (by decide +kernel)
  len := by decide +kernel
  asc := fun j b h => by
    have : ∀ b ∈ hasB.data.toList, b.toNat < 128 := by decide +kernel
    exact this b (List.mem_of_getElem? h)
  size := by decide
  few := by decide
  each := by decide +kernel
def ctn (f : List UInt8) (c : UInt8) : Bool := decide (0 ≤ Lib.indexByte f c)
def hasF (op : Int) : List UInt8 := (strA (hasL.getD (op - 1).toNat [])).data.toList
def shapedP (x : InstrD) : Bool :=
  if x.op < 1 ∨ 22 < x.op then false
  else regOk x.a (ctn (hasF x.op) 97) && regOk x.b (ctn (hasF x.op) 98) && !(!(x.n == 0) && !Lib.containsAny (hasF x.op) [110, 108]) && withinOk x.n (boundOf x.op) && (if x.op = 21 then casesOk x.cases else x.cases.length == 0)
set_option maxRecDepth 100000 in
set_option maxHeartbeats 6400000 in
theorem shaped_any (x : InstrD) (A : Option Addr) (d : Nat) (w : World) (hbl : Blanks w) (hc : kC.C w A x.cases.length x.cases) (hcl : x.cases.length ≤ 9223372036854775807) :
    Calls Tryz.prog 55 #[instrV x (.slice A x.cases.length d)] w fun e w' => e = .returned (.bool (shapedP x)) ∧ Below w.heap.size w w' := by
  obtain ⟨op, xa, xb, xn, cs⟩ := x
  dsimp only at hc hcl
  simp only [instrV]
  obtain ⟨Z, hZ⟩ : ∃ Z, shapedP ⟨op, xa, xb, xn, cs⟩ = Z := ⟨_, rfl⟩
  rw [hZ]
  have hb1 := bnew (brefl w) (.cells #[.int .i64 op, .int .i64 xa, .int .i64 xb, .int .i64 xn, .slice A cs.length d] 56)
  have hn1 := blk_new w (.cells #[.int .i64 op, .int .i64 xa, .int .i64 xb, .int .i64 xn, .slice A cs.length d] 56)
  have hfl := fun w1 (hb : Blanks w1) => Tryz.strings_Fields_laid hasB w1 (by have := has_of.size; omega) has_of.asc hb
  rw [has_of.eq, has_of.len] at hfl
  have h22 : hasL.length = 22 := by decide
  rw [h22] at hfl
  have HFL := hidP (hfl _ (hbl.below hb1))
  have HC := hidP hc
  have hu := hZ.symm
  unfold shapedP at hu
  dsimp only at hu
  clear hfl h22 hc hZ hbl
  go_enter Tryz.func55, Tryz.ntmps55
  go_wp2_with fail
  generalize w.alloc (.cells #[.int .i64 op, .int .i64 xa, .int .i64 xb, .int .i64 xn, .slice A cs.length d] 56) = w1 at *
  refine HFL.out.mono ?_
  rintro e w2 ⟨rfl, rfl⟩
  have hrow := RowAt.new w1 (hasL.map fun P => Value.string (strA P)) 9
  have hb12 := bnew (brefl w1) (.cells (hasL.map fun P => Value.string (strA P)).toArray 9)
  generalize w1.alloc (.cells (hasL.map fun P => Value.string (strA P)).toArray 9) = w2 at *
  have hb2 := bstep hb1 hb12
  have hn2 := blk_below hn1 hb12
  have HC2 := hidP (Kd.C_below HC.out hb2)
  clear hn1 hb1 hb12 HFL
  have hcells : w2.cell? ⟨w.heap.size, 0, none⟩ = some _ ∧ w2.cell? ⟨w.heap.size, 1, none⟩ = some _ ∧ w2.cell? ⟨w.heap.size, 2, none⟩ = some _ ∧ w2.cell? ⟨w.heap.size, 3, none⟩ = some _ ∧ w2.cell? ⟨w.heap.size, 4, none⟩ = some _ := ⟨(blk_cell hn2 0).trans rfl, (blk_cell hn2 1).trans rfl, (blk_cell hn2 2).trans rfl, (blk_cell hn2 3).trans rfl, (blk_cell hn2 4).trans rfl⟩
  obtain ⟨x0, x1, x2, x3, x4⟩ := hcells
  by_cases hop : op < 1 ∨ 22 < op
  · rw [if_pos hop] at hu
    subst hu
    have h2 : op < 1 ∨ ¬ op < 1 ∧ (22 : Int) < op := by omega
    clear hop
    rcases h2 with t1 | ⟨t1, t2⟩
    · go_wp2_with fail
      go_ret
      exact ⟨rfl, hb2⟩
    · go_wp2_with fail
      go_ret
      exact ⟨rfl, hb2⟩
  · rw [if_neg hop] at hu
    obtain ⟨k, rfl⟩ : ∃ k : Nat, op = (k : Int) + 1 := ⟨(op - 1).toNat, by omega⟩
    have hk : k < 22 := by omega
    obtain ⟨P, hP⟩ : ∃ P, hasL[k]? = some P := ⟨_, List.getElem?_eq_getElem (show k < hasL.length from hk)⟩
    have cx : w2.cell? ⟨w1.heap.size, 0 + k, none⟩ = some (.string (strA P)) := hrow.some k _ (by rw [List.getElem?_map, hP]; rfl)
    rw [Nat.zero_add] at cx
    have hPa := (has_of.each P (List.mem_of_getElem? hP)).2
    have hF : hasF ((k : Int) + 1) = (strA P).data.toList := by
      unfold hasF
      rw [show ((k : Int) + 1 - 1).toNat = k by omega, List.getD_eq_getElem?_getD, hP]
      rfl
    rw [hF] at hu
    have hPs : (strA P).size ≤ 100 := by rw [strA_size]; exact hPa.2
    have hasc : ∀ (j : Nat) b, (strA P).data.toList[j]? = some b → b.toNat < 128 := by
      intro j b hj
      have : b ∈ P.map UInt8.ofNat := List.mem_of_getElem? hj
      obtain ⟨q, hq, rfl⟩ := List.mem_map.1 this
      have := hPa.1 q hq
      simp
      omega
    have hnl : ∀ (j : Nat) b, (⟨#[110, 108]⟩ : ByteArray).data.toList[j]? = some b → b.toNat < 128 := by
      intro j b hj
      have h2 : ∀ b ∈ (⟨#[110, 108]⟩ : ByteArray).data.toList, b.toNat < 128 := by decide
      exact h2 b (List.mem_of_getElem? hj)
    have hany := fun w => Tryz.strings_ContainsAny_laid (strA P) ⟨#[110, 108]⟩ w (by omega) (by decide) hasc hnl
    have hca := fun w => Tryz.strings_Contains_one (strA P) 97 w
    have hcb := fun w => Tryz.strings_Contains_one (strA P) 98 w
    obtain ⟨FA, hFA⟩ : ∃ b, ctn (strA P).data.toList 97 = b := ⟨_, rfl⟩
    obtain ⟨FB, hFB⟩ : ∃ b, ctn (strA P).data.toList 98 = b := ⟨_, rfl⟩
    obtain ⟨FN, hFN⟩ : ∃ b, Lib.containsAny (strA P).data.toList [110, 108] = b := ⟨_, rfl⟩
    have e97 : decide (0 ≤ Lib.indexByte (strA P).data.toList 97) = FA := hFA
    have e98 : decide (0 ≤ Lib.indexByte (strA P).data.toList 98) = FB := hFB
    have eN : Lib.containsAny (strA P).data.toList (⟨#[110, 108]⟩ : ByteArray).data.toList = FN := hFN
    rw [e97] at hca
    rw [e98] at hcb
    rw [eN] at hany
    rw [hFA, hFB, hFN] at hu
    have g1 := fun w => creg_any xa FA w
    have g2 := fun w => creg_any xb FB w
    have g4 := fun w => cbound_any ((k : Int) + 1) w
    obtain ⟨BD, hBD⟩ : ∃ b, boundOf ((k : Int) + 1) = b := ⟨_, rfl⟩
    rw [hBD] at hu g4
    have g3 := fun w => cwithin_any xn BD w
    obtain ⟨R1, hR1⟩ : ∃ b, regOk xa FA = b := ⟨_, rfl⟩
    obtain ⟨R2, hR2⟩ : ∃ b, regOk xb FB = b := ⟨_, rfl⟩
    obtain ⟨W, hW⟩ : ∃ b, withinOk xn BD = b := ⟨_, rfl⟩
    rw [hR1] at g1 hu
    rw [hR2] at g2 hu
    rw [hW] at g3 hu
    obtain ⟨S, hs⟩ : ∃ S, strA P = S := ⟨_, rfl⟩
    rw [hs] at cx hca hcb hany
    have HU := hidP hu
    have G1 := hidP g1
    have G2 := hidP g2
    have G3 := hidP g3
    have G4 := hidP g4
    have HCA := hidP hca
    have HCB := hidP hcb
    have HANY := hidP hany
    have t1 : ¬ (k : Int) + 1 < 1 := by omega
    have t2 : ¬ (22 : Int) < (k : Int) + 1 := by omega
    have t3 : (k : Int) < 22 := by omega
    have l1 := blk_lt hn2
    have HN2 := hidP hn2
    clear hu g1 g2 g3 g4 hca hcb hany hop hP hPa hF hPs hasc hFA hFB hFN e97 e98 eN hBD hR1 hR2 hW hs hn2 hrow x0 x1 x2 x3 x4 hnl
    have x0 : w2.cell? ⟨w.heap.size, 0, none⟩ = some _ := (blk_cell HN2.out 0).trans rfl
    go_wp2_with fail
    refine (HANY.out _).mono ?_
    rintro e w3 ⟨rfl, hb3⟩
    have hB3 := bstep hb2 hb3
    have HN3 := hidP (blk_below HN2.out hb3)
    have HC3 := hidP (Kd.C_below HC2.out hb3)
    obtain ⟨y0, y1, y2, y3, y4⟩ := (⟨(blk_cell HN3.out 0).trans rfl, (blk_cell HN3.out 1).trans rfl, (blk_cell HN3.out 2).trans rfl, (blk_cell HN3.out 3).trans rfl, (blk_cell HN3.out 4).trans rfl⟩ : w3.cell? ⟨w.heap.size, 0, none⟩ = some _ ∧ w3.cell? ⟨w.heap.size, 1, none⟩ = some _ ∧ w3.cell? ⟨w.heap.size, 2, none⟩ = some _ ∧ w3.cell? ⟨w.heap.size, 3, none⟩ = some _ ∧ w3.cell? ⟨w.heap.size, 4, none⟩ = some _)
    have hD : ∀ n, Below w.heap.size w (w3.drewN n) := fun n => ⟨hB3.os, hB3.tape, hB3.output, hB3.size, hB3.block⟩
    clear x0 cx
    cases R1
    ·
      have hz : Z = false := by rw [HU.out]; simp
      subst hz
      go_wp2_with fail
      go_quiet (first | (go_at_call 89; with_reducible exact Calls.quiet_of_same (HCA.out _)) | (go_at_call 89; with_reducible exact Calls.quiet_of_same (HCB.out _)) | (go_at_call 88; with_reducible exact Calls.quiet_of_same (G1.out _)) | (go_at_call 88; with_reducible exact Calls.quiet_of_same (G2.out _)) | (go_at_call 91; with_reducible exact Calls.quiet_of_same (G4.out _)) | (go_at_call 90; with_reducible exact Calls.quiet_of_same (G3.out _)))
      go_wp2
      go_ret
      exact ⟨rfl, hD _⟩
    cases R2
    ·
      have hz : Z = false := by rw [HU.out]; simp
      subst hz
      go_wp2_with fail
      go_quiet (first | (go_at_call 89; with_reducible exact Calls.quiet_of_same (HCA.out _)) | (go_at_call 89; with_reducible exact Calls.quiet_of_same (HCB.out _)) | (go_at_call 88; with_reducible exact Calls.quiet_of_same (G1.out _)) | (go_at_call 88; with_reducible exact Calls.quiet_of_same (G2.out _)) | (go_at_call 91; with_reducible exact Calls.quiet_of_same (G4.out _)) | (go_at_call 90; with_reducible exact Calls.quiet_of_same (G3.out _)))
      go_wp2
      go_ret
      exact ⟨rfl, hD _⟩
    have HZW : W = false → Z = false := fun h => by rw [HU.out, h]; simp
    by_cases hz0 : xn = 0
    · have t0 : (xn == 0) = true := by simp [hz0]
      have t0' : (xn != 0) = false := by simp [hz0]
      cases W
      · have hz : Z = false := HZW rfl
        subst hz
        clear hz0 HZW
        go_wp2_with fail
        go_quiet (first | (go_at_call 89; with_reducible exact Calls.quiet_of_same (HCA.out _)) | (go_at_call 89; with_reducible exact Calls.quiet_of_same (HCB.out _)) | (go_at_call 88; with_reducible exact Calls.quiet_of_same (G1.out _)) | (go_at_call 88; with_reducible exact Calls.quiet_of_same (G2.out _)) | (go_at_call 91; with_reducible exact Calls.quiet_of_same (G4.out _)) | (go_at_call 90; with_reducible exact Calls.quiet_of_same (G3.out _)))
        go_wp2
        go_ret
        exact ⟨rfl, hD _⟩
      · have hz : Z = (if (k : Int) + 1 = 21 then casesOk cs else cs.length == 0) := by rw [HU.out, t0]; simp
        clear HZW hz0
        by_cases h21 : (k : Int) + 1 = 21
        · rw [if_pos h21] at hz
          have t21 : ((k : Int) + 1 == 21) = true := by simp; omega
          subst hz
          clear h21
          go_wp2_with fail
          go_quiet (first | (go_at_call 89; with_reducible exact Calls.quiet_of_same (HCA.out _)) | (go_at_call 89; with_reducible exact Calls.quiet_of_same (HCB.out _)) | (go_at_call 88; with_reducible exact Calls.quiet_of_same (G1.out _)) | (go_at_call 88; with_reducible exact Calls.quiet_of_same (G2.out _)) | (go_at_call 91; with_reducible exact Calls.quiet_of_same (G4.out _)) | (go_at_call 90; with_reducible exact Calls.quiet_of_same (G3.out _)))
          have hC4 : kC.C (w3.drewN nq) A cs.length cs := HC3.out
          have HD := hidP (hD nq)
          have z0 : (w3.drewN nq).cell? ⟨w.heap.size, 0, none⟩ = _ := y0
          have z4 : (w3.drewN nq).cell? ⟨w.heap.size, 4, none⟩ = _ := y4
          generalize w3.drewN nq = w4 at *
          clear y0 y1 y2 y3 y4 hD
          go_wp2_with fail
          refine (ccases_any A d cs w4 hC4 hcl).mono ?_
          rintro e w5 ⟨rfl, hb5⟩
          go_wp2
          go_ret
          exact ⟨rfl, bstep HD.out hb5⟩
        · rw [if_neg h21] at hz
          have t21 : ((k : Int) + 1 == 21) = false := by simp; omega
          obtain ⟨m, hm⟩ : ∃ m, cs.length = m := ⟨_, rfl⟩
          rw [hm] at y4 hz
          by_cases hm0 : m = 0
          · have hzz : Z = true := by rw [hz]; simp [hm0]
            subst hzz
            have t10 : ((m : Int) == 0) = true := by simp; omega
            clear hm h21 hm0 hz
            go_wp2_with fail
            go_quiet (first | (go_at_call 89; with_reducible exact Calls.quiet_of_same (HCA.out _)) | (go_at_call 89; with_reducible exact Calls.quiet_of_same (HCB.out _)) | (go_at_call 88; with_reducible exact Calls.quiet_of_same (G1.out _)) | (go_at_call 88; with_reducible exact Calls.quiet_of_same (G2.out _)) | (go_at_call 91; with_reducible exact Calls.quiet_of_same (G4.out _)) | (go_at_call 90; with_reducible exact Calls.quiet_of_same (G3.out _)))
            go_wp2
            go_ret
            exact ⟨rfl, hD _⟩
          · have hzz : Z = false := by rw [hz]; simp [hm0]
            subst hzz
            have t10 : ((m : Int) == 0) = false := by simp; omega
            clear hm h21 hm0 hz
            go_wp2_with fail
            go_quiet (first | (go_at_call 89; with_reducible exact Calls.quiet_of_same (HCA.out _)) | (go_at_call 89; with_reducible exact Calls.quiet_of_same (HCB.out _)) | (go_at_call 88; with_reducible exact Calls.quiet_of_same (G1.out _)) | (go_at_call 88; with_reducible exact Calls.quiet_of_same (G2.out _)) | (go_at_call 91; with_reducible exact Calls.quiet_of_same (G4.out _)) | (go_at_call 90; with_reducible exact Calls.quiet_of_same (G3.out _)))
            go_wp2
            go_ret
            exact ⟨rfl, hD _⟩
    · have t0 : (xn == 0) = false := by simp [hz0]
      have t0' : (xn != 0) = true := by simp [hz0]
      cases FN
      · have hz : Z = false := by rw [HU.out, t0]; simp
        subst hz
        clear hz0 HZW
        go_wp2_with fail
        go_quiet (first | (go_at_call 89; with_reducible exact Calls.quiet_of_same (HCA.out _)) | (go_at_call 89; with_reducible exact Calls.quiet_of_same (HCB.out _)) | (go_at_call 88; with_reducible exact Calls.quiet_of_same (G1.out _)) | (go_at_call 88; with_reducible exact Calls.quiet_of_same (G2.out _)) | (go_at_call 91; with_reducible exact Calls.quiet_of_same (G4.out _)) | (go_at_call 90; with_reducible exact Calls.quiet_of_same (G3.out _)))
        go_wp2
        go_ret
        exact ⟨rfl, hD _⟩
      ·
        cases W
        · have hz : Z = false := HZW rfl
          subst hz
          clear hz0 HZW
          go_wp2_with fail
          go_quiet (first | (go_at_call 89; with_reducible exact Calls.quiet_of_same (HCA.out _)) | (go_at_call 89; with_reducible exact Calls.quiet_of_same (HCB.out _)) | (go_at_call 88; with_reducible exact Calls.quiet_of_same (G1.out _)) | (go_at_call 88; with_reducible exact Calls.quiet_of_same (G2.out _)) | (go_at_call 91; with_reducible exact Calls.quiet_of_same (G4.out _)) | (go_at_call 90; with_reducible exact Calls.quiet_of_same (G3.out _)))
          go_wp2
          go_ret
          exact ⟨rfl, hD _⟩
        · have hz : Z = (if (k : Int) + 1 = 21 then casesOk cs else cs.length == 0) := by rw [HU.out, t0]; simp
          clear HZW hz0
          by_cases h21 : (k : Int) + 1 = 21
          · rw [if_pos h21] at hz
            have t21 : ((k : Int) + 1 == 21) = true := by simp; omega
            subst hz
            clear h21
            go_wp2_with fail
            go_quiet (first | (go_at_call 89; with_reducible exact Calls.quiet_of_same (HCA.out _)) | (go_at_call 89; with_reducible exact Calls.quiet_of_same (HCB.out _)) | (go_at_call 88; with_reducible exact Calls.quiet_of_same (G1.out _)) | (go_at_call 88; with_reducible exact Calls.quiet_of_same (G2.out _)) | (go_at_call 91; with_reducible exact Calls.quiet_of_same (G4.out _)) | (go_at_call 90; with_reducible exact Calls.quiet_of_same (G3.out _)))
            have hC4 : kC.C (w3.drewN nq) A cs.length cs := HC3.out
            have HD := hidP (hD nq)
            have z0 : (w3.drewN nq).cell? ⟨w.heap.size, 0, none⟩ = _ := y0
            have z4 : (w3.drewN nq).cell? ⟨w.heap.size, 4, none⟩ = _ := y4
            generalize w3.drewN nq = w4 at *
            clear y0 y1 y2 y3 y4 hD
            go_wp2_with fail
            refine (ccases_any A d cs w4 hC4 hcl).mono ?_
            rintro e w5 ⟨rfl, hb5⟩
            go_wp2
            go_ret
            exact ⟨rfl, bstep HD.out hb5⟩
          · rw [if_neg h21] at hz
            have t21 : ((k : Int) + 1 == 21) = false := by simp; omega
            obtain ⟨m, hm⟩ : ∃ m, cs.length = m := ⟨_, rfl⟩
            rw [hm] at y4 hz
            by_cases hm0 : m = 0
            · have hzz : Z = true := by rw [hz]; simp [hm0]
              subst hzz
              have t10 : ((m : Int) == 0) = true := by simp; omega
              clear hm h21 hm0 hz
              go_wp2_with fail
              go_quiet (first | (go_at_call 89; with_reducible exact Calls.quiet_of_same (HCA.out _)) | (go_at_call 89; with_reducible exact Calls.quiet_of_same (HCB.out _)) | (go_at_call 88; with_reducible exact Calls.quiet_of_same (G1.out _)) | (go_at_call 88; with_reducible exact Calls.quiet_of_same (G2.out _)) | (go_at_call 91; with_reducible exact Calls.quiet_of_same (G4.out _)) | (go_at_call 90; with_reducible exact Calls.quiet_of_same (G3.out _)))
              go_wp2
              go_ret
              exact ⟨rfl, hD _⟩
            · have hzz : Z = false := by rw [hz]; simp [hm0]
              subst hzz
              have t10 : ((m : Int) == 0) = false := by simp; omega
              clear hm h21 hm0 hz
              go_wp2_with fail
              go_quiet (first | (go_at_call 89; with_reducible exact Calls.quiet_of_same (HCA.out _)) | (go_at_call 89; with_reducible exact Calls.quiet_of_same (HCB.out _)) | (go_at_call 88; with_reducible exact Calls.quiet_of_same (G1.out _)) | (go_at_call 88; with_reducible exact Calls.quiet_of_same (G2.out _)) | (go_at_call 91; with_reducible exact Calls.quiet_of_same (G4.out _)) | (go_at_call 90; with_reducible exact Calls.quiet_of_same (G3.out _)))
              go_wp2
              go_ret
              exact ⟨rfl, hD _⟩
theorem R_keepS {α : Type} {d : Kd α} {e : TypeId} {w w1 : World} {base : Nat} {ok : Nat → Prop} {v : Value} {xs : List α} {S : Nat → Prop} (h : d.R e w base ok v xs) (hk : Keep S w w1) (hs : ∀ k, ok k → ¬ S k) : d.R e w1 base ok v xs :=
  Kd.R_step h (fun k ho hlt => hk.block k hlt (hs k ho))
theorem fstep_ge (l : List Nat) (i c : Nat) (s : FSt) : s.q ≤ (fstep l i c s).q := by
  unfold fstep
  have : s.q ≤ adv l s.q := by unfold adv; split <;> omega
  repeat' split
  all_goals simp
  all_goals omega
theorem ffold_ge (l : List Nat) : ∀ (F : List Nat) (i : Nat) (s : FSt), s.q ≤ (ffold l i F s).q
  | [], i, s => Nat.le_refl _
  | c :: r, i, s => Nat.le_trans (fstep_ge l i c s) (ffold_ge l r (i + 1) _)
theorem fieldsR_ge (l F : List Nat) (p : Nat) : p ≤ (fieldsR l F p).q := ffold_ge l F 0 ⟨0, 0, 0, true, p⟩
def choiceF (l : List Nat) : Nat → Nat → List CaseD → Option (List CaseD)
  | 0, _, _ => none
  | k + 1, q, acc =>
    if q < l.length then
      if (findF (chr l q) 0 casesL).2.2 = false then none
      else if (fieldsR l (findF (chr l q) 0 casesL).2.1 (q + 1)).ok = false then none
      else if (findF (chr l q) 0 casesL).1 = 3 ∧ (fieldsR l (findF (chr l q) 0 casesL).2.1 (q + 1)).q < l.length then none
      else choiceF l k (fieldsR l (findF (chr l q) 0 casesL).2.1 (q + 1)).q (acc ++ [⟨(findF (chr l q) 0 casesL).1, (fieldsR l (findF (chr l q) 0 casesL).2.1 (q + 1)).a, (fieldsR l (findF (chr l q) 0 casesL).2.1 (q + 1)).b, (fieldsR l (findF (chr l q) 0 casesL).2.1 (q + 1)).n⟩])
    else if acc.length = 0 then none else some acc
def choiceR (l : List Nat) (p : Nat) : Option (List CaseD) := choiceF l (l.length + 1) p []
def lineR (L : List Nat) : InstrD × Bool :=
  if (findF (chr L 0) 0 formsL).2.2 = false then (instrZ, false)
  else if chr L 0 = 83 then (⟨(findF (chr L 0) 0 formsL).1, 0, 0, 0, (choiceR L (adv L 0)).getD []⟩, (choiceR L (adv L 0)).isSome)
  else (⟨(findF (chr L 0) 0 formsL).1, (fieldsR L (findF (chr L 0) 0 formsL).2.1 (adv L 0)).a, (fieldsR L (findF (chr L 0) 0 formsL).2.1 (adv L 0)).b, (fieldsR L (findF (chr L 0) 0 formsL).2.1 (adv L 0)).n, []⟩, (fieldsR L (findF (chr L 0) 0 formsL).2.1 (adv L 0)).ok && decide ((fieldsR L (findF (chr L 0) 0 formsL).2.1 (adv L 0)).q = L.length))
def LinePost (w : World) (X : InstrD × Bool) (e : Ending) (w' : World) : Prop :=
  ∃ v, e = .returned (.tuple #[instrV X.1 v, .bool X.2]) ∧ kC.R 109 w' w.heap.size (fun k => w.heap.size ≤ k) v X.1.cases ∧ Below w.heap.size w w'
end Go.Proofs.YtklfboidjnchoaaGreatDoor
namespace Go.Proofs.YtklfboidjnchoaaGreatDoor
open Go.RowKit
set_option linter.unusedVariables false
set_option linter.unusedSimpArgs false
def nlB : ByteArray := ⟨#[10]⟩
def blB : ByteArray := ⟨#[32]⟩
def stripB (x : ByteArray) : ByteArray := ⟨(Lib.replaceAll x.data.toList blB.data.toList (⟨#[]⟩ : ByteArray).data.toList).toArray⟩
def piecesB (s : ByteArray) : List ByteArray := Lib.splitB nlB 0 (Lib.countB s nlB) s
def full (x : ByteArray) : Bool := !x.toList.isEmpty
def keepB (l : List ByteArray) : List ByteArray := (l.map stripB).filter full
def linesR (s : ByteArray) : List ByteArray × Int :=
  if 2000 < (runesF s 0).length then ([], 3) else if mayAll s = false then ([], 4) else if (keepB (piecesB s)).length = 0 then ([], 7) else if 60 < (keepB (piecesB s)).length then ([], 3) else (keepB (piecesB s), 0)
theorem Tryz.slStr : SlT Tryz.prog 39 9 (.string ⟨#[]⟩) 1 16 := ⟨Tryz.underlying39, by kernel_rfl, rfl, by decide⟩
def LinesPost (w : World) (L : List ByteArray) (err : Int) (e : Ending) (w' : World) : Prop :=
  ∃ ao cap, e = .returned (.tuple #[.slice ao L.length cap, .int .i64 err]) ∧ w'.ownsRow w.heap.size 9 1 (.slice ao L.length cap) L.length (L.map Value.string) ∧ Below w.heap.size w w'
end Go.Proofs.YtklfboidjnchoaaGreatDoor
namespace Go.Proofs.YtklfboidjnchoaaGreatDoor
open Go Go.Lib
set_option linter.unusedVariables false
set_option linter.unusedSimpArgs false
def accB : List UInt8 → List UInt8 → List (List UInt8)
  | [], cur => if cur.isEmpty then [] else [cur]
  | c :: r, cur => if c = 10 then (if cur.isEmpty then accB r [] else cur :: accB r []) else if c = 32 then accB r cur else accB r (cur ++ [c])
def flt (l : List UInt8) : List UInt8 := l.filter (fun b => b != 32)
def keepL (l : List (List UInt8)) : List (List UInt8) := (l.map flt).filter (fun x => !x.isEmpty)
theorem index_cons (b c : UInt8) (l : List UInt8) (h : b ≠ c) : index (b :: l) [c] = if index l [c] == -1 then -1 else index l [c] + 1 := by
  have hp : ([c] : List UInt8).isPrefixOf (b :: l) = false := by simp [List.isPrefixOf, Ne.symm h]
  rw [index, hp]; simp
theorem index_eq (c : UInt8) (l : List UInt8) : index (c :: l) [c] = 0 := by rw [index]; simp [List.isPrefixOf]
theorem replaceAll_eq (s : List UInt8) (c : UInt8) : replaceAll s [c] [] = replaceK [c] [] (s.count c) s := by
  simp [replaceAll, replace, replaceNum, count_one]
theorem replaceK_filter (c : UInt8) : ∀ s : List UInt8, replaceK [c] [] (s.count c) s = s.filter (fun b => b != c)
  | [] => rfl
  | b :: l => by
    have ih := replaceK_filter c l
    by_cases h : b = c
    · subst h
      rw [List.count_cons_self, replaceK, if_neg (by rw [index_eq]; decide), index_eq]
      simpa using ih
    · rw [List.count_cons_of_ne (by simpa using h)]
      have hf : (b :: l).filter (fun b => b != c) = b :: l.filter (fun b => b != c) := by rw [List.filter_cons_of_pos (by simpa using h)]
      rw [hf, ← ih]
      cases hk : l.count c with
      | zero => rfl
      | succ k =>
        obtain ⟨j, hj⟩ := index_of_count (s := l) (old := [c]) (by rw [count_one]; omega)
        have hm : ¬ (index l [c] == -1) = true := by rw [hj]; simp
        have e := index_cons b c l h
        rw [if_neg hm, hj] at e
        have e' : index (b :: l) [c] = ((j + 1 : Nat) : Int) := by rw [e]; omega
        rw [replaceK_hit _ _ _ _ _ e', replaceK_hit _ _ _ _ _ hj]
        simp
theorem strip_eq (s : List UInt8) : replaceAll s [32] [] = flt s := by rw [replaceAll_eq, replaceK_filter]; rfl
def splitL (s : List UInt8) : List (List UInt8) := splitK [10] 0 (count s [10]) s
theorem split_nil : splitL [] = [[]] := rfl
theorem split_eq (l : List UInt8) : splitL (10 :: l) = [] :: splitL l := by
  unfold splitL
  rw [count_cons_eq, Nat.add_comm, splitK, if_neg (by rw [index_eq]; decide), index_eq]
  rfl
theorem split_ne (b : UInt8) (l : List UInt8) (h : b ≠ 10) {x : List UInt8} {t : List (List UInt8)} (e : splitL l = x :: t) : splitL (b :: l) = (b :: x) :: t := by
  unfold splitL at e ⊢
  rw [count_cons_ne b 10 l h]
  cases hk : count l [10] with
  | zero => rw [hk] at e; simp only [splitK] at e ⊢; cases e; rfl
  | succ k =>
    rw [hk] at e
    obtain ⟨j, hj⟩ := index_of_count (s := l) (old := [10]) (by omega)
    have hm : ¬ (index l [10] == -1) = true := by rw [hj]; simp
    have e2 := index_cons b 10 l h
    rw [if_neg hm, hj] at e2
    have e' : index (b :: l) [10] = ((j + 1 : Nat) : Int) := by rw [e2]; omega
    have hm' : ¬ (index (b :: l) [10] == -1) = true := by rw [e']; simp; omega
    rw [splitK, if_neg hm, hj] at e
    rw [splitK, if_neg hm', e']
    simp only [Int.toNat_natCast, Nat.add_zero] at e ⊢
    cases e
    simp
theorem split_some : ∀ s : List UInt8, ∃ x t, splitL s = x :: t
  | [] => ⟨[], [], rfl⟩
  | b :: l => by
    obtain ⟨x, t, e⟩ := split_some l
    by_cases h : b = 10
    · subst h; exact ⟨_, _, split_eq l⟩
    · exact ⟨_, _, split_ne b l h e⟩
theorem flt_cons32 (x : List UInt8) : flt (32 :: x) = flt x := rfl
theorem flt_cons (b : UInt8) (x : List UInt8) (h : b ≠ 32) : flt (b :: x) = b :: flt x := by unfold flt; rw [List.filter_cons_of_pos (by simpa using h)]
theorem acc_split : ∀ (s cur x : List UInt8) (t : List (List UInt8)), splitL s = x :: t → accB s cur = (if (cur ++ flt x).isEmpty then [] else [cur ++ flt x]) ++ keepL t
  | [], cur, x, t, e => by
    rw [split_nil] at e
    cases e
    simp [accB, flt, keepL]
  | b :: l, cur, x, t, e => by
    obtain ⟨y, u, e1⟩ := split_some l
    by_cases h : b = 10
    · subst h
      rw [split_eq] at e
      cases e
      have ih := acc_split l [] y u e1
      have hk : keepL (splitL l) = accB l [] := by
        rw [ih, e1]
        simp only [keepL, List.map_cons, List.nil_append]
        by_cases hx : (flt y).isEmpty = true
        · rw [List.filter_cons_of_neg (by simp [hx]), if_pos hx]; rfl
        · rw [List.filter_cons_of_pos (by simpa using hx), if_neg hx]; rfl
      have hn : flt [] = [] := rfl
      rw [hk, hn, List.append_nil]
      simp only [accB, if_true]
      split <;> rfl
    · rw [split_ne b l h e1] at e
      cases e
      by_cases h2 : b = 32
      · subst h2
        rw [flt_cons32, ← acc_split l cur y t e1]
        simp [accB]
      · rw [flt_cons b y h2, show cur ++ b :: flt y = (cur ++ [b]) ++ flt y by simp, ← acc_split l (cur ++ [b]) y t e1]
        simp [accB, h, h2]
theorem acc_eq (s : List UInt8) : keepL (splitL s) = accB s [] := by
  obtain ⟨y, u, e1⟩ := split_some s
  have ih := acc_split s [] y u e1
  rw [ih, e1]
  simp only [keepL, List.map_cons, List.nil_append]
  by_cases hx : (flt y).isEmpty = true
  · rw [List.filter_cons_of_neg (by simp [hx]), if_pos hx]; rfl
  · rw [List.filter_cons_of_pos (by simpa using hx), if_neg hx]; rfl
theorem piecesL (s : ByteArray) : (piecesB s).map (·.data.toList) = splitL s.data.toList := by
  unfold piecesB splitL
  rw [splitB_data]
  rfl
theorem strip_data (x : ByteArray) : (stripB x).data.toList = flt x.data.toList := by
  unfold stripB
  rw [← strip_eq]
  rfl
theorem full_data (x : ByteArray) : full x = !x.data.toList.isEmpty := by unfold full; rw [Lib.toList_data]
theorem keep_data : ∀ l : List ByteArray, (keepB l).map (·.data.toList) = keepL (l.map (·.data.toList))
  | [] => rfl
  | x :: l => by
    have ih := keep_data l
    unfold keepB keepL at *
    simp only [List.map_cons] at *
    by_cases h : full (stripB x) = true
    · have h2 : (!(flt x.data.toList).isEmpty) = true := by rw [← strip_data, ← full_data]; exact h
      rw [List.filter_cons_of_pos h, List.filter_cons_of_pos (p := fun x : List UInt8 => !x.isEmpty) h2, List.map_cons, strip_data, ih]
    · have h2 : ¬ (!(flt x.data.toList).isEmpty) = true := by rw [← strip_data, ← full_data]; exact h
      rw [List.filter_cons_of_neg h, List.filter_cons_of_neg (p := fun x : List UInt8 => !x.isEmpty) h2, ih]
theorem lines_acc (s : ByteArray) : (keepB (piecesB s)).map (·.data.toList) = accB s.data.toList [] := by
  rw [keep_data, piecesL, acc_eq]
def ascii (l : List UInt8) : Prop := ∀ b ∈ l, b.toNat < 128
def mayL (l : List UInt8) : Bool := l.all fun b => mayR (b.toNat : Int)
theorem runes_ascii (s : ByteArray) (h : ascii s.data.toList) : runesF s 0 = s.data.toList.map (·.toNat) := by
  rw [runesF_ascii s h s.size 0 (by omega)]; rfl
theorem may_ascii (s : ByteArray) (h : ascii s.data.toList) : mayAll s = mayL s.data.toList := by
  unfold mayAll mayL
  rw [runes_ascii s h, List.all_map]
  rfl
theorem runes_len_ascii (s : ByteArray) (h : ascii s.data.toList) : (runesF s 0).length = s.size := by
  rw [runes_ascii s h, List.length_map, Array.length_toList]; rfl
theorem mayR_128 (b : UInt8) (h : mayR (b.toNat : Int) = true) : b.toNat < 128 := by
  unfold mayR at h
  simp at h
  omega
theorem mayL_ascii {l : List UInt8} (h : mayL l = true) : ascii l := fun b hb => mayR_128 b (List.all_eq_true.1 h b hb)
end Go.Proofs.YtklfboidjnchoaaGreatDoor
