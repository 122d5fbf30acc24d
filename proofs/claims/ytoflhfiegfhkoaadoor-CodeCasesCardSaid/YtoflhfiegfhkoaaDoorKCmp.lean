/-
  Cases, instructions and programs held against each other.
-/
import Derived.Test.YtoflhfiegfhkoaaDoorKInstr
namespace Go.Proofs.YtoflhfiegfhkoaaDoor
open Go.RowKit Go.Proofs.YtoflhfiegfhkoaaDoorW.PrintWords
set_option linter.unusedVariables false

theorem take_stepK {α : Type} [DecidableEq α] {es fs : List α} {k : Nat} {x y : α} (h : es.take k = fs.take k) (hx : es[k]? = some x) (hy : fs[k]? = some y) (e : x = y) : es.take (k + 1) = fs.take (k + 1) := by
  rw [List.take_add_one, List.take_add_one, h, hx, hy, e]
theorem ne_stepK {α : Type} [DecidableEq α] {es fs : List α} {k : Nat} {x y : α} (hx : es[k]? = some x) (hy : fs[k]? = some y) (e : x ≠ y) : decide (es = fs) = false := by
  simp only [decide_eq_false_iff_not]
  intro h
  subst h
  rw [hx] at hy
  exact e (Option.some.inj hy)
theorem eq_allK {α : Type} [DecidableEq α] {es fs : List α} {k : Nat} (h : es.take k = fs.take k) (hn : es.length ≤ k) (hm : fs.length ≤ k) : decide (es = fs) = true := by
  rw [List.take_of_length_le hn, List.take_of_length_le hm] at h
  simp [h]
theorem ne_lenK {α : Type} [DecidableEq α] {es fs : List α} (h : es.length ≠ fs.length) : decide (es = fs) = false := by
  simp only [decide_eq_false_iff_not]
  intro e
  exact h (by rw [e])

set_option maxRecDepth 100000 in
set_option maxHeartbeats 800000 in
theorem eqCase_any (x y : CaseD) (w : World) :
    Calls Tryd.prog 76 #[caseV x, caseV y] w fun e w' => e = .returned (.bool (decide (x = y))) ∧ Below w.heap.size w w' := by
  unfold caseV
  go_enter Tryd.func76, Tryd.ntmps76
  go_wp2
  all_goals
    go_ret
    refine ⟨?_, (((Below.refl _ _).alloc (Nat.le_refl _) _).alloc (by simp) _)⟩
  · have e : decide (x = y) = true := by cases x; cases y; simp_all
    rw [e]; rfl
  all_goals
    have e : decide (x = y) = false := by cases x; cases y; simp_all
    rw [e]; rfl

set_option maxRecDepth 100000 in
set_option maxHeartbeats 800000 in
theorem sameCase_any (ao bo : Option Addr) (c d : Nat) (es fs : List CaseD) (w : World) (hae : kC.C w ao es.length es) (hbf : kC.C w bo fs.length fs) :
    Calls Tryd.prog 75 #[.slice ao es.length c, .slice bo fs.length d, .func (.func 76) #[] #[]] w fun e w' => e = .returned (.bool (decide (es = fs))) ∧ Below w.heap.size w w' := by
  have hmx := hae.2.1
  have HAE := hidP hae
  have HBF := hidP hbf
  obtain ⟨n, hn⟩ : ∃ n, es.length = n := ⟨_, rfl⟩
  obtain ⟨m, hm⟩ : ∃ m, fs.length = m := ⟨_, rfl⟩
  rw [hn] at hmx ⊢
  rw [hm]
  have Hn := hidP hn
  have Hm := hidP hm
  clear hae hbf hn hm
  go_enter Tryd.func75, Tryd.ntmps75
  by_cases hnm : n = m
  · subst hnm
    go_wp2_with fail
    go_loopw [7] (fun i wr => ∃ k : Nat, i = .int .i64 k ∧ k ≤ n ∧ Hid (es.take k = fs.take k) ∧ Below w.heap.size w wr) (fun i _ => n - (intOf i).toNat)
    case atStart => exact ⟨0, rfl, Nat.zero_le _, rfl, Below.refl _ _⟩
    case round =>
      obtain ⟨k, rfl, hk, HE, hb⟩ := hrel
      by_cases hlt : k < n
      · obtain ⟨x, hx⟩ : ∃ x, es[k]? = some x := ⟨_, List.getElem?_eq_getElem (by rw [Hn.out]; omega)⟩
        obtain ⟨y, hy⟩ : ∃ y, fs[k]? = some y := ⟨_, List.getElem?_eq_getElem (by rw [Hm.out]; omega)⟩
        obtain ⟨b, o, rfl, x0, x1, x2, x3⟩ := case_at (Kd.C_below HAE.out hb) k x hx
        obtain ⟨b', o', rfl, y0, y1, y2, y3⟩ := case_at (Kd.C_below HBF.out hb) k y hy
        have HX := hidP hx
        have HY := hidP hy
        clear hx hy
        go_wp2_with fail
        go_still_tail 9, (by kernel_rfl)
        go_wp2_with (go_at_call 76; refine (eqCase_any x y _).mono ?_; rintro e w1 ⟨rfl, hb1⟩)
        · have he : (!decide (x = y)) = true := by assumption
          have hd := ne_stepK HX.out HY.out (by simpa using he)
          go_ret
          exact ⟨by rw [hd]; rfl, hb.drew.trans (hb1.mono hb.size)⟩
        · have he : (!decide (x = y)) = false := by assumption
          go_roundw
          case rel => exact ⟨k + 1, by go_num, by omega, take_stepK HE.out HX.out HY.out (by simpa using he), hb.drew.trans (hb1.mono hb.size)⟩
          case measure => simp [intOf]; omega
      · have hd := eq_allK HE.out (by rw [Hn.out]; omega) (by rw [Hm.out]; omega)
        go_wp2
        go_ret
        exact ⟨by rw [hd]; rfl, hb⟩
  · have hd : decide (es = fs) = false := ne_lenK (by rw [Hn.out, Hm.out]; exact hnm)
    have HD := hidP hd
    clear hd
    have : ((n:Int) == (m:Int)) = false := by simp; omega
    go_wp2
    go_ret
    exact ⟨by rw [HD.out]; rfl, Below.refl _ _⟩

set_option maxRecDepth 100000 in
set_option maxHeartbeats 400000 in
theorem plainCase_any (ao bo : Option Addr) (c d : Nat) (es fs : List CaseD) (w : World) (hae : kC.C w ao es.length es) (hbf : kC.C w bo fs.length fs) :
    Calls Tryd.prog 50 #[.slice ao es.length c, .slice bo fs.length d] w fun e w' => e = .returned (.bool (decide (es = fs))) ∧ Below w.heap.size w w' := by
  have h := sameCase_any ao bo c d es fs w hae hbf
  have H := hidP h
  clear hae hbf h
  go_enter Tryd.func50, Tryd.ntmps50
  go_wp2_with (go_at_call 75; refine H.out.mono ?_; rintro e w1 ⟨rfl, hb1⟩)
  go_ret
  exact ⟨rfl, hb1⟩

theorem two_boxes (w : World) (o1 o2 : Obj) : Below w.heap.size w ((w.alloc o1).alloc o2) := ((Below.refl _ _).alloc (Nat.le_refl _) _).alloc (by simp) _

set_option maxRecDepth 100000 in
set_option maxHeartbeats 1600000 in
theorem instr_any (x y : InstrD) (ao bo : Option Addr) (c d : Nat) (w : World) (hae : kC.C w ao x.cases.length x.cases) (hbf : kC.C w bo y.cases.length y.cases) :
    Calls Tryd.prog 33 #[instrV x (.slice ao x.cases.length c), instrV y (.slice bo y.cases.length d)] w fun e w' => e = .returned (.bool (decide (x = y))) ∧ Below w.heap.size w w' := by
  obtain ⟨xo, xa, xb, xn, xc⟩ := x
  obtain ⟨yo, ya, yb, yn, yc⟩ := y
  dsimp only at hae hbf
  simp only [instrV]
  have hp := fun w2 (hb : Below w.heap.size w w2) => plainCase_any ao bo c d xc yc w2 (Kd.C_below hae hb) (Kd.C_below hbf hb)
  have HP := hidP hp
  clear hp hae hbf
  by_cases h0 : xo = yo
  · subst h0
    by_cases h1 : xa = ya
    · subst h1
      by_cases h2 : xb = yb
      · subst h2
        by_cases h3 : xn = yn
        · subst h3
          have e : decide ((⟨xo, xa, xb, xn, xc⟩ : InstrD) = ⟨xo, xa, xb, xn, yc⟩) = decide (xc = yc) := by simp
          rw [e]
          clear e
          go_enter Tryd.func33, Tryd.ntmps33
          go_wp2_with (go_at_call 50; refine (HP.out _ (two_boxes _ _ _)).mono ?_; rintro e w1 ⟨rfl, hb1⟩)
          go_ret
          exact ⟨rfl, bstep (two_boxes _ _ _) hb1⟩
        · --@x 3
          have e : decide ((⟨xo, xa, xb, xn, xc⟩ : InstrD) = ⟨xo, xa, xb, yn, yc⟩) = false := by simp [h3]
          rw [e]
          have t3 : (xn == yn) = false := by simp [h3]
          clear e h3
          go_enter Tryd.func33, Tryd.ntmps33
          go_wp2_with fail
          go_ret
          exact ⟨rfl, two_boxes _ _ _⟩
      · have e : decide ((⟨xo, xa, xb, xn, xc⟩ : InstrD) = ⟨xo, xa, yb, yn, yc⟩) = false := by simp [h2]
        rw [e]
        have t2 : (xb == yb) = false := by simp [h2]
        clear e h2
        go_enter Tryd.func33, Tryd.ntmps33
        go_wp2_with fail
        go_ret
        exact ⟨rfl, two_boxes _ _ _⟩
    · have e : decide ((⟨xo, xa, xb, xn, xc⟩ : InstrD) = ⟨xo, ya, yb, yn, yc⟩) = false := by simp [h1]
      rw [e]
      have t1 : (xa == ya) = false := by simp [h1]
      clear e h1
      go_enter Tryd.func33, Tryd.ntmps33
      go_wp2_with fail
      go_ret
      exact ⟨rfl, two_boxes _ _ _⟩
  · have e : decide ((⟨xo, xa, xb, xn, xc⟩ : InstrD) = ⟨yo, ya, yb, yn, yc⟩) = false := by simp [h0]
    rw [e]
    have t0 : (xo == yo) = false := by simp [h0]
    clear e h0
    go_enter Tryd.func33, Tryd.ntmps33
    go_wp2_with fail
    go_ret
    exact ⟨rfl, two_boxes _ _ _⟩

set_option maxRecDepth 100000 in
set_option maxHeartbeats 800000 in
theorem sameInstr_any (ao bo : Option Addr) (c d : Nat) (es fs : List InstrD) (w : World) (hae : kI.C w ao es.length es) (hbf : kI.C w bo fs.length fs) :
    Calls Tryd.prog 32 #[.slice ao es.length c, .slice bo fs.length d, .func (.func 33) #[] #[]] w fun e w' => e = .returned (.bool (decide (es = fs))) ∧ Below w.heap.size w w' := by
  have hmx := hae.2.1
  have HAE := hidP hae
  have HBF := hidP hbf
  obtain ⟨n, hn⟩ : ∃ n, es.length = n := ⟨_, rfl⟩
  obtain ⟨m, hm⟩ : ∃ m, fs.length = m := ⟨_, rfl⟩
  rw [hn] at hmx ⊢
  rw [hm]
  have Hn := hidP hn
  have Hm := hidP hm
  clear hae hbf hn hm
  go_enter Tryd.func32, Tryd.ntmps32
  by_cases hnm : n = m
  · subst hnm
    go_wp2_with fail
    go_loopw [7] (fun i wr => ∃ k : Nat, i = .int .i64 k ∧ k ≤ n ∧ Hid (es.take k = fs.take k) ∧ Below w.heap.size w wr) (fun i _ => n - (intOf i).toNat)
    case atStart => exact ⟨0, rfl, Nat.zero_le _, rfl, Below.refl _ _⟩
    case round =>
      obtain ⟨k, rfl, hk, HE, hb⟩ := hrel
      by_cases hlt : k < n
      · obtain ⟨x, hx⟩ : ∃ x, es[k]? = some x := ⟨_, List.getElem?_eq_getElem (by rw [Hn.out]; omega)⟩
        obtain ⟨y, hy⟩ : ∃ y, fs[k]? = some y := ⟨_, List.getElem?_eq_getElem (by rw [Hm.out]; omega)⟩
        obtain ⟨b, o, A4, c4, rfl, x0, x1, x2, x3, x4, _, hxc⟩ := instr_at (Kd.C_below HAE.out hb) k x hx
        obtain ⟨b', o', B4, d4, rfl, y0, y1, y2, y3, y4, _, hyc⟩ := instr_at (Kd.C_below HBF.out hb) k y hy
        have HX := hidP hx
        have HY := hidP hy
        have HIN := hidP (fun w2 (hb2 : Below wr.heap.size wr w2) => instr_any x y A4 B4 c4 d4 w2 (Kd.C_below hxc hb2) (Kd.C_below hyc hb2))
        clear hx hy hxc hyc
        go_wp2_with fail
        go_still_tail 9, (by kernel_rfl)
        go_wp2_with (go_at_call 33; refine (HIN.out _ (brefl wr).drew).mono ?_; rintro e w1 ⟨rfl, hb1⟩)
        · have he : (!decide (x = y)) = true := by assumption
          have hd := ne_stepK HX.out HY.out (by simpa using he)
          go_ret
          exact ⟨by rw [hd]; rfl, hb.drew.trans (hb1.mono hb.size)⟩
        · have he : (!decide (x = y)) = false := by assumption
          go_roundw
          case rel => exact ⟨k + 1, by go_num, by omega, take_stepK HE.out HX.out HY.out (by simpa using he), hb.drew.trans (hb1.mono hb.size)⟩
          case measure => simp [intOf]; omega
      · have hd := eq_allK HE.out (by rw [Hn.out]; omega) (by rw [Hm.out]; omega)
        go_wp2
        go_ret
        exact ⟨by rw [hd]; rfl, hb⟩
  · have hd : decide (es = fs) = false := ne_lenK (by rw [Hn.out, Hm.out]; exact hnm)
    have HD := hidP hd
    clear hd
    have : ((n:Int) == (m:Int)) = false := by simp; omega
    go_wp2
    go_ret
    exact ⟨by rw [HD.out]; rfl, Below.refl _ _⟩

set_option maxRecDepth 100000 in
set_option maxHeartbeats 400000 in
theorem instrs_any (ao bo : Option Addr) (c d : Nat) (es fs : List InstrD) (w : World) (hae : kI.C w ao es.length es) (hbf : kI.C w bo fs.length fs) :
    Calls Tryd.prog 20 #[.slice ao es.length c, .slice bo fs.length d] w fun e w' => e = .returned (.bool (decide (es = fs))) ∧ Below w.heap.size w w' := by
  have h := sameInstr_any ao bo c d es fs w hae hbf
  have H := hidP h
  clear hae hbf h
  go_enter Tryd.func20, Tryd.ntmps20
  go_wp2_with (go_at_call 32; refine H.out.mono ?_; rintro e w1 ⟨rfl, hb1⟩)
  go_ret
  exact ⟨rfl, hb1⟩
theorem instrs_yes (ao bo : Option Addr) (c d : Nat) (es fs : List InstrD) (w : World) (hae : kI.C w ao es.length es) (hbf : kI.C w bo fs.length fs) (he : es = fs) :
    Calls Tryd.prog 20 #[.slice ao es.length c, .slice bo fs.length d] w fun e w' => e = .returned (.bool true) ∧ Below w.heap.size w w' := by
  have h : decide (es = fs) = true := by simp [he]
  rw [← h]
  exact instrs_any ao bo c d es fs w hae hbf
end Go.Proofs.YtoflhfiegfhkoaaDoor
