/-
  The walks over package code's equal, and slices.EqualFunc.
-/
import Derived.Test.YtoflhfiegfhkoaaDoorKCmp
import Derived.Deep.QuietTactic
import Derived.BigQuiet
namespace Go.Proofs.YtoflhfiegfhkoaaDoor
open Go.RowKit Go.Proofs.YtoflhfiegfhkoaaDoorW.PrintWords
set_option linter.unusedVariables false
set_option linter.unusedSimpArgs false

@[go_sem] theorem eqC (a b c d a' b' c' d' : Int) (w : World) : (Op.equalIn 10000 39 (.agg #[.int .i64 a, .int .i64 b, .int .i64 c, .int .i64 d]) (.agg #[.int .i64 a', .int .i64 b', .int .i64 c', .int .i64 d'])).run Tryd.prog w = .ok (a == a' && (b == b' && (c == c' && d == d'))) w := by
  have u3 := Tryd.underlying3
  have a3 := Tryd.isAgg3
  have z3 := Tryd.sizeOf3
  have hS : Tryd.prog.underlying 39 = some (.struct (Tryd.prog.fieldsOf 39)) := by kernel_rfl
  have hp : Tryd.prog.stoodInHeld 39 = false := by kernel_rfl
  rw [show (10000 : Nat) = 9999 + 1 from rfl, run_equalIn_agg w 9999 39 _ _ hS hp]
  simp only [Program.fieldsOf, Tryd.underlying39]
  go_simp
  by_cases h1 : a = a' <;> by_cases h2 : b = b' <;> by_cases h3 : c = c' <;> by_cases h4 : d = d' <;> simp [h1, h2, h3, h4]

@[go_sem] theorem guardC (x y : Operand) (xs ys : Array Value) (w : World) : (eqGuard .neq 39 x y (.agg xs) (.agg ys)).run Tryd.prog w = .ok () w := run_eqGuard_agg w .neq 39 x y xs ys (by kernel_rfl)
@[go_sem] theorem neqC (a b c d a' b' c' d' : Int) (w : World) : (binOp .neq 39 (.agg #[.int .i64 a, .int .i64 b, .int .i64 c, .int .i64 d]) (.agg #[.int .i64 a', .int .i64 b', .int .i64 c', .int .i64 d'])).run Tryd.prog w = .ok (.bool !(a == a' && (b == b' && (c == c' && d == d')))) w := by
  rw [run_neq_struct, eqC]
  rfl

set_option maxRecDepth 100000 in
set_option maxHeartbeats 800000 in
theorem slEq_any (ao bo : Option Addr) (c d : Nat) (es fs : List CaseD) (w : World) (hae : kC.C w ao es.length es) (hbf : kC.C w bo fs.length fs) :
    Calls Tryd.prog 67 #[.slice ao es.length c, .slice bo fs.length d] w fun e w' => e = .returned (.bool (decide (es = fs))) ∧ Below w.heap.size w w' := by
  have hmx := hae.2.1
  have HAE := hidP hae
  have HBF := hidP hbf
  obtain ⟨n, hn⟩ : ∃ n, es.length = n := ⟨_, rfl⟩
  obtain ⟨m, hm⟩ : ∃ m, fs.length = m := ⟨_, rfl⟩
  rw [hn] at hmx ⊢
  rw [hm]
  have Hn := hidP hn
  have Hm := hidP hm
  clear hae hbf hn hm
  go_enter Tryd.func67, Tryd.ntmps67
  by_cases hnm : n = m
  · subst hnm
    go_wp2_with fail
    go_loopw [13] (fun i wr => ∃ k : Nat, i = .int .i64 k ∧ k ≤ n ∧ Hid (es.take k = fs.take k) ∧ Below w.heap.size w wr) (fun i _ => n - (intOf i).toNat)
    case atStart => exact ⟨0, rfl, Nat.zero_le _, rfl, brefl _⟩
    case round =>
      obtain ⟨k, rfl, hk, HE, hb⟩ := hrel
      by_cases hlt : k < n
      · obtain ⟨x, hx⟩ : ∃ x, es[k]? = some x := ⟨_, List.getElem?_eq_getElem (by rw [Hn.out]; omega)⟩
        obtain ⟨y, hy⟩ : ∃ y, fs[k]? = some y := ⟨_, List.getElem?_eq_getElem (by rw [Hm.out]; omega)⟩
        obtain ⟨b, o, rfl, x0, x1, x2, x3⟩ := case_at (Kd.C_below HAE.out hb) k x hx
        obtain ⟨b', o', rfl, y0, y1, y2, y3⟩ := case_at (Kd.C_below HBF.out hb) k y hy
        have HX := hidP hx
        have HY := hidP hy
        clear hx hy
        obtain ⟨xk, xc, xr, xd⟩ := x
        obtain ⟨yk, yc, yr, yd⟩ := y
        dsimp only at x0 x1 x2 x3 y0 y1 y2 y3
        have l1 : (k : Int) < (n : Int) := by omega
        go_wp2_with fail
        refine wp_region_quiet_lit (by kernel_rfl) (by kernel_rfl) ?_
        repeat (go_big_quiet_step (fail))
        go_big_quiet_want
        obtain ⟨q, hq⟩ : ∃ q, (xk == yk && (xc == yc && (xr == yr && xd == yd))) = q := ⟨_, rfl⟩
        have HQ : Hid (q = decide ((⟨xk, xc, xr, xd⟩ : CaseD) = ⟨yk, yc, yr, yd⟩)) := by
          show q = _
          rw [← hq]
          by_cases h1 : xk = yk <;> by_cases h2 : xc = yc <;> by_cases h3 : xr = yr <;> by_cases h4 : xd = yd <;> simp [h1, h2, h3, h4]
        refine ⟨.bool !q, fun w2 hw2 => ?_, ?_⟩
        · obtain ⟨m, rfl⟩ := hw2
          unfold Oper.quietAt
          simp [go_sem, neqC, guardC, hq]
        go_big_quiet_on
        refine wpQuiet_nil ?_
        intro w2 hw2
        obtain ⟨m, rfl⟩ := hw2
        clear hq x0 x1 x2 x3 y0 y1 y2 y3
        have hB := bstep hb (below_drewN (brefl wr) m)
        cases q
        · go_wp2
          have hd := ne_stepK HX.out HY.out (of_decide_eq_false HQ.out.symm)
          go_ret
          exact ⟨by rw [hd]; rfl, hB⟩
        · go_wp2
          go_roundw
          case rel => exact ⟨k + 1, by go_num, by omega, take_stepK HE.out HX.out HY.out (of_decide_eq_true HQ.out.symm), hB⟩
          case measure => simp [intOf]; omega
      · have hd := eq_allK HE.out (by rw [Hn.out]; omega) (by rw [Hm.out]; omega)
        go_wp2
        go_ret
        exact ⟨by rw [hd]; rfl, hb⟩
  · have hd : decide (es = fs) = false := ne_lenK (by rw [Hn.out, Hm.out]; exact hnm)
    have HD := hidP hd
    clear hd
    have : ((n:Int) == (m:Int)) = false := by simp; omega
    go_wp2
    go_ret
    exact ⟨by rw [HD.out]; rfl, Below.refl _ _⟩
end Go.Proofs.YtoflhfiegfhkoaaDoor
namespace Go.Proofs.YtoflhfiegfhkoaaDoor
open Go.RowKit Go.Proofs.YtoflhfiegfhkoaaDoorW.PrintWords
set_option linter.unusedVariables false
set_option linter.unusedSimpArgs false

set_option maxRecDepth 100000 in
set_option maxHeartbeats 1600000 in
theorem equal_any (x y : InstrD) (ao bo : Option Addr) (c d : Nat) (w : World) (hae : kC.C w ao x.cases.length x.cases) (hbf : kC.C w bo y.cases.length y.cases) :
    Calls Tryd.prog 45 #[instrV x (.slice ao x.cases.length c), instrV y (.slice bo y.cases.length d)] w fun e w' => e = .returned (.bool (decide (x = y))) ∧ Below w.heap.size w w' := by
  obtain ⟨xo, xa, xb, xn, xc⟩ := x
  obtain ⟨yo, ya, yb, yn, yc⟩ := y
  dsimp only at hae hbf
  simp only [instrV]
  have hp := fun w2 (hb : Below w.heap.size w w2) => slEq_any ao bo c d xc yc w2 (Kd.C_below hae hb) (Kd.C_below hbf hb)
  have HP := hidP hp
  clear hp hae hbf
  by_cases h0 : xo = yo
  · subst h0
    by_cases h1 : xa = ya
    · subst h1
      by_cases h2 : xb = yb
      · subst h2
        by_cases h3 : xn = yn
        · subst h3
          have e : decide ((⟨xo, xa, xb, xn, xc⟩ : InstrD) = ⟨xo, xa, xb, xn, yc⟩) = decide (xc = yc) := by simp
          rw [e]
          clear e
          go_enter Tryd.func45, Tryd.ntmps45
          go_wp2_with fail
          refine (HP.out _ (two_boxes _ _ _)).mono ?_
          rintro e w1 ⟨rfl, hb1⟩
          go_wp2
          go_ret
          exact ⟨rfl, bstep (two_boxes _ _ _) hb1⟩
        · have e : decide ((⟨xo, xa, xb, xn, xc⟩ : InstrD) = ⟨xo, xa, xb, yn, yc⟩) = false := by simp [h3]
          rw [e]
          have t3 : (xn == yn) = false := by simp [h3]
          clear e h3
          go_enter Tryd.func45, Tryd.ntmps45
          go_wp2_with fail
          go_ret
          exact ⟨rfl, two_boxes _ _ _⟩
      · have e : decide ((⟨xo, xa, xb, xn, xc⟩ : InstrD) = ⟨xo, xa, yb, yn, yc⟩) = false := by simp [h2]
        rw [e]
        have t2 : (xb == yb) = false := by simp [h2]
        clear e h2
        go_enter Tryd.func45, Tryd.ntmps45
        go_wp2_with fail
        go_ret
        exact ⟨rfl, two_boxes _ _ _⟩
    · have e : decide ((⟨xo, xa, xb, xn, xc⟩ : InstrD) = ⟨xo, ya, yb, yn, yc⟩) = false := by simp [h1]
      rw [e]
      have t1 : (xa == ya) = false := by simp [h1]
      clear e h1
      go_enter Tryd.func45, Tryd.ntmps45
      go_wp2_with fail
      go_ret
      exact ⟨rfl, two_boxes _ _ _⟩
  · have e : decide ((⟨xo, xa, xb, xn, xc⟩ : InstrD) = ⟨yo, ya, yb, yn, yc⟩) = false := by simp [h0]
    rw [e]
    have t0 : (xo == yo) = false := by simp [h0]
    clear e h0
    go_enter Tryd.func45, Tryd.ntmps45
    go_wp2_with fail
    go_ret
    exact ⟨rfl, two_boxes _ _ _⟩

set_option maxRecDepth 100000 in
set_option maxHeartbeats 1600000 in
theorem eqFunc_any (ao bo : Option Addr) (c d : Nat) (es fs : List InstrD) (w : World) (hae : kI.C w ao es.length es) (hbf : kI.C w bo fs.length fs) :
    Calls Tryd.prog 44 #[.slice ao es.length c, .slice bo fs.length d, .func (.func 45) #[] #[]] w fun e w' => e = .returned (.bool (decide (es = fs))) ∧ Below w.heap.size w w' := by
  have hmx := hae.2.1
  have HAE := hidP hae
  have HBF := hidP hbf
  obtain ⟨n, hn⟩ : ∃ n, es.length = n := ⟨_, rfl⟩
  obtain ⟨m, hm⟩ : ∃ m, fs.length = m := ⟨_, rfl⟩
  rw [hn] at hmx ⊢
  rw [hm]
  have Hn := hidP hn
  have Hm := hidP hm
  clear hae hbf hn hm
  go_enter Tryd.func44, Tryd.ntmps44
  by_cases hnm : n = m
  · subst hnm
    go_wp2_with fail
    go_loopw [17] (fun i wr => ∃ k : Nat, i = .int .i64 k ∧ k ≤ n ∧ Hid (es.take k = fs.take k) ∧ Below w.heap.size w wr) (fun i _ => n - (intOf i).toNat)
    case atStart => exact ⟨0, rfl, Nat.zero_le _, rfl, Below.refl _ _⟩
    case round =>
      obtain ⟨k, rfl, hk, HE, hb⟩ := hrel
      by_cases hlt : k < n
      · obtain ⟨x, hx⟩ : ∃ x, es[k]? = some x := ⟨_, List.getElem?_eq_getElem (by rw [Hn.out]; omega)⟩
        obtain ⟨y, hy⟩ : ∃ y, fs[k]? = some y := ⟨_, List.getElem?_eq_getElem (by rw [Hm.out]; omega)⟩
        obtain ⟨b, o, A4, c4, rfl, x0, x1, x2, x3, x4, _, hxc⟩ := instr_at (Kd.C_below HAE.out hb) k x hx
        obtain ⟨b', o', B4, d4, rfl, y0, y1, y2, y3, y4, _, hyc⟩ := instr_at (Kd.C_below HBF.out hb) k y hy
        have HX := hidP hx
        have HY := hidP hy
        have HIN := hidP (fun w2 (hb2 : Below wr.heap.size wr w2) => equal_any x y A4 B4 c4 d4 w2 (Kd.C_below hxc hb2) (Kd.C_below hyc hb2))
        have lt1 : b < wr.heap.size := World.block_lt_of_cell? _ _ x0
        have lt2 : b' < wr.heap.size := World.block_lt_of_cell? _ _ y0
        clear hx hy hxc hyc
        obtain ⟨q, hq⟩ : ∃ q, decide (x = y) = q := ⟨_, rfl⟩
        have HQ := hidP hq
        have HIN2 := hidP (hq ▸ HIN.out)
        clear hq HIN
        go_wp2_with fail
        refine (HIN2.out _ (two_boxes _ _ _)).mono ?_
        rintro e w1 ⟨rfl, hb1⟩
        have hB := bstep hb (bstep (two_boxes _ _ _) hb1)
        cases q
        · have hd := ne_stepK HX.out HY.out (of_decide_eq_false HQ.out)
          go_wp2
          go_ret
          exact ⟨by rw [hd]; rfl, hB⟩
        · go_wp2
          go_roundw
          case rel => exact ⟨k + 1, by go_num, by omega, take_stepK HE.out HX.out HY.out (of_decide_eq_true HQ.out), hB⟩
          case measure => simp [intOf]; omega
      · have hd := eq_allK HE.out (by rw [Hn.out]; omega) (by rw [Hm.out]; omega)
        go_wp2
        go_ret
        exact ⟨by rw [hd]; rfl, hb⟩
  · have hd : decide (es = fs) = false := ne_lenK (by rw [Hn.out, Hm.out]; exact hnm)
    have HD := hidP hd
    clear hd
    have : ((n:Int) == (m:Int)) = false := by simp; omega
    go_wp2
    go_ret
    exact ⟨by rw [HD.out]; rfl, Below.refl _ _⟩
end Go.Proofs.YtoflhfiegfhkoaaDoor
