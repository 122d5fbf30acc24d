/-
  The walks over package trace: an event's line.
-/
import Derived.Test.YtdelflahmlfnfaaDoorTDel
import Derived.Test.YtdelflahmlfnfaaDoorTBld
import Derived.Lib.AppendIntMem
import Derived.Lib.ItoaLen
namespace Go.Proofs.YtdelflahmlfnfaaDoor
open Go.RowKit
set_option linter.unusedVariables false

def numB (n : Int) : ByteArray := ⟨(Lib.itoa n).toArray⟩
def valB (x : Ev) : ByteArray := if x.ref then ⟨#[42]⟩ else numB x.val
/-- An event's line, if it has one. -/
def lineS (x : Ev) : Option ByteArray :=
  if x.kind = 1 then some (⟨#[111, 117, 116, 32]⟩ ++ numB x.gor ++ ⟨#[32]⟩ ++ valB x)
  else if x.kind = 2 then some (⟨#[101, 120, 105, 116, 32]⟩ ++ numB x.gor)
  else if x.kind = 3 then some (⟨#[114, 101, 99, 108, 97, 105, 109, 32]⟩ ++ numB x.gor)
  else if x.kind = 4 then some (⟨#[102, 105, 110, 97, 108, 32]⟩ ++ numB x.val)
  else if x.kind = 5 then some (⟨#[101, 110, 100, 32]⟩ ++ numB x.val ++ ⟨#[32]⟩ ++ numB x.gor)
  else none
def ofV (x : Ev) : Value := match lineS x with
  | some s => .iface 59 (.string s)
  | none => .nilIface
abbrev Pow (w : World) : Prop := Lib.TabIs Tryd.prog w "internal/strconv.uint64pow10" .u64 Lib.pow10Tab
def evOk (x : Ev) : Prop := (-9223372036854775808 ≤ x.gor ∧ x.gor ≤ 9223372036854775807) ∧ (-9223372036854775808 ≤ x.val ∧ x.val ≤ 9223372036854775807)

theorem numB_le (n : Int) (h : -9223372036854775808 ≤ n ∧ n ≤ 9223372036854775807) : (numB n).size ≤ 21 := by
  have := Lib.itoa_length_le n h.1 h.2
  simpa [numB, ByteArray.size] using this

theorem itoa_any (n : Int) (h : -9223372036854775808 ≤ n ∧ n ≤ 9223372036854775807) (w : World) (ht : Pow w) :
    Calls Tryd.prog 41 #[.int .i64 n] w fun e w' => e = .returned (.string (numB n)) ∧ Below w.heap.size w w' ∧ Pow w' := by
  refine (Tryd.strconv_Itoa n h.1 h.2 w ht).mono ?_
  rintro e w' ⟨rfl, k, os, rfl⟩
  have hb := Lib.below_grow w.heap.size w (Nat.le_refl _) k os
  exact ⟨rfl, hb, pow_below ht hb⟩

set_option maxRecDepth 100000 in
set_option maxHeartbeats 1600000 in
theorem of_any (x : Ev) (hx : evOk x) (w : World) (ht : Pow w) :
    Calls Tryd.prog 28 #[evV x] w fun e w' => e = .returned (ofV x) ∧ Below w.heap.size w w' := by
  obtain ⟨hg, hv⟩ := hx
  have HA := hidP (fun (w : World) (ht : Pow w) => itoa_any x.gor hg w ht)
  have HV := hidP (fun (w : World) (ht : Pow w) => itoa_any x.val hv w ht)
  have HT := hidP ht
  have hsg := numB_le x.gor hg
  have hsv := numB_le x.val hv
  obtain ⟨kd, g, v, r⟩ := x
  dsimp only at HA HV hsg hsv
  unfold evV
  dsimp only
  clear hg hv ht
  have hb0 : ∀ o, Below w.heap.size w (w.alloc o) := fun o => bnew (brefl w) o
  have HT1 : ∀ o, Hid (Pow (w.alloc o)) := fun o => pow_below HT.out (hb0 o)
  cases r
  case false =>
    by_cases h1 : kd = 1
    · subst h1
      have hs : ofV ⟨1, g, v, false⟩ = .iface 59 (.string (⟨#[111, 117, 116, 32]⟩ ++ numB g ++ ⟨#[32]⟩ ++ numB v)) := by simp [ofV, lineS, valB]
      rw [hs]
      go_enter Tryd.func28, Tryd.ntmps28
      go_wp2_with fail
      refine (HV.out _ (HT1 _).out).mono ?_
      rintro e w1 ⟨rfl, hb1, ht1⟩
      have HB1 := bstep (hb0 _) hb1
      have z0 := (hb1.cell (p := ⟨w.heap.size, 0, none⟩) (by simp)).trans (show _ = some (.int .i64 1) by go_simp)
      have z1 := (hb1.cell (p := ⟨w.heap.size, 1, none⟩) (by simp)).trans (show _ = some (.int .i64 g) by go_simp)
      have z2 := (hb1.cell (p := ⟨w.heap.size, 2, none⟩) (by simp)).trans (show _ = some (.int .i64 v) by go_simp)
      have z3 := (hb1.cell (p := ⟨w.heap.size, 3, none⟩) (by simp)).trans (show _ = some (.bool false) by go_simp)
      have hsz : w.heap.size < w1.heap.size := by have := hb1.size; simp at this; omega
      go_wp2_with fail
      refine (HA.out _ ht1).mono ?_
      rintro e w2 ⟨rfl, hb2, ht2⟩
      have HB2 := bstep HB1 hb2
      have y0 := (hb2.cell (p := ⟨w.heap.size, 0, none⟩) hsz).trans z0
      have y1 := (hb2.cell (p := ⟨w.heap.size, 1, none⟩) hsz).trans z1
      have y2 := (hb2.cell (p := ⟨w.heap.size, 2, none⟩) hsz).trans z2
      clear z0 z1 z2 z3
      go_wp2
      go_ret
      exact ⟨rfl, HB2⟩
    · have k1 : (kd == 1) = false := by simp [h1]
      by_cases h2 : kd = 2
      · subst h2
        have hs : ofV ⟨2, g, v, false⟩ = .iface 59 (.string (⟨#[101, 120, 105, 116, 32]⟩ ++ numB g)) := by simp [ofV, lineS]
        rw [hs]
        go_enter Tryd.func28, Tryd.ntmps28
        go_wp2_with fail
        refine (HV.out _ (HT1 _).out).mono ?_
        rintro e w1 ⟨rfl, hb1, ht1⟩
        have HB1 := bstep (hb0 _) hb1
        have z0 := (hb1.cell (p := ⟨w.heap.size, 0, none⟩) (by simp)).trans (show _ = some (.int .i64 2) by go_simp)
        have z1 := (hb1.cell (p := ⟨w.heap.size, 1, none⟩) (by simp)).trans (show _ = some (.int .i64 g) by go_simp)
        have z2 := (hb1.cell (p := ⟨w.heap.size, 2, none⟩) (by simp)).trans (show _ = some (.int .i64 v) by go_simp)
        have z3 := (hb1.cell (p := ⟨w.heap.size, 3, none⟩) (by simp)).trans (show _ = some (.bool false) by go_simp)
        have hsz : w.heap.size < w1.heap.size := by have := hb1.size; simp at this; omega
        go_wp2_with fail
        refine (HA.out _ ht1).mono ?_
        rintro e w2 ⟨rfl, hb2, ht2⟩
        have HB2 := bstep HB1 hb2
        have y0 := (hb2.cell (p := ⟨w.heap.size, 0, none⟩) hsz).trans z0
        have y1 := (hb2.cell (p := ⟨w.heap.size, 1, none⟩) hsz).trans z1
        have y2 := (hb2.cell (p := ⟨w.heap.size, 2, none⟩) hsz).trans z2
        clear z0 z1 z2 z3
        go_wp2
        go_ret
        exact ⟨rfl, HB2⟩
      · have k2 : (kd == 2) = false := by simp [h2]
        by_cases h3 : kd = 3
        · subst h3
          have hs : ofV ⟨3, g, v, false⟩ = .iface 59 (.string (⟨#[114, 101, 99, 108, 97, 105, 109, 32]⟩ ++ numB g)) := by simp [ofV, lineS]
          rw [hs]
          go_enter Tryd.func28, Tryd.ntmps28
          go_wp2_with fail
          refine (HV.out _ (HT1 _).out).mono ?_
          rintro e w1 ⟨rfl, hb1, ht1⟩
          have HB1 := bstep (hb0 _) hb1
          have z0 := (hb1.cell (p := ⟨w.heap.size, 0, none⟩) (by simp)).trans (show _ = some (.int .i64 3) by go_simp)
          have z1 := (hb1.cell (p := ⟨w.heap.size, 1, none⟩) (by simp)).trans (show _ = some (.int .i64 g) by go_simp)
          have z2 := (hb1.cell (p := ⟨w.heap.size, 2, none⟩) (by simp)).trans (show _ = some (.int .i64 v) by go_simp)
          have z3 := (hb1.cell (p := ⟨w.heap.size, 3, none⟩) (by simp)).trans (show _ = some (.bool false) by go_simp)
          have hsz : w.heap.size < w1.heap.size := by have := hb1.size; simp at this; omega
          go_wp2_with fail
          refine (HA.out _ ht1).mono ?_
          rintro e w2 ⟨rfl, hb2, ht2⟩
          have HB2 := bstep HB1 hb2
          have y0 := (hb2.cell (p := ⟨w.heap.size, 0, none⟩) hsz).trans z0
          have y1 := (hb2.cell (p := ⟨w.heap.size, 1, none⟩) hsz).trans z1
          have y2 := (hb2.cell (p := ⟨w.heap.size, 2, none⟩) hsz).trans z2
          clear z0 z1 z2 z3
          go_wp2
          go_ret
          exact ⟨rfl, HB2⟩
        · have k3 : (kd == 3) = false := by simp [h3]
          by_cases h4 : kd = 4
          · subst h4
            have hs : ofV ⟨4, g, v, false⟩ = .iface 59 (.string (⟨#[102, 105, 110, 97, 108, 32]⟩ ++ numB v)) := by simp [ofV, lineS]
            rw [hs]
            go_enter Tryd.func28, Tryd.ntmps28
            go_wp2_with fail
            refine (HV.out _ (HT1 _).out).mono ?_
            rintro e w1 ⟨rfl, hb1, ht1⟩
            have HB1 := bstep (hb0 _) hb1
            have z0 := (hb1.cell (p := ⟨w.heap.size, 0, none⟩) (by simp)).trans (show _ = some (.int .i64 4) by go_simp)
            have z1 := (hb1.cell (p := ⟨w.heap.size, 1, none⟩) (by simp)).trans (show _ = some (.int .i64 g) by go_simp)
            have z2 := (hb1.cell (p := ⟨w.heap.size, 2, none⟩) (by simp)).trans (show _ = some (.int .i64 v) by go_simp)
            have z3 := (hb1.cell (p := ⟨w.heap.size, 3, none⟩) (by simp)).trans (show _ = some (.bool false) by go_simp)
            have hsz : w.heap.size < w1.heap.size := by have := hb1.size; simp at this; omega
            go_wp2_with fail
            refine (HA.out _ ht1).mono ?_
            rintro e w2 ⟨rfl, hb2, ht2⟩
            have HB2 := bstep HB1 hb2
            have y0 := (hb2.cell (p := ⟨w.heap.size, 0, none⟩) hsz).trans z0
            have y1 := (hb2.cell (p := ⟨w.heap.size, 1, none⟩) hsz).trans z1
            have y2 := (hb2.cell (p := ⟨w.heap.size, 2, none⟩) hsz).trans z2
            clear z0 z1 z2 z3
            go_wp2_with fail
            refine (HV.out _ ht2).mono ?_
            rintro e w3 ⟨rfl, hb3, ht3⟩
            go_wp2
            go_ret
            exact ⟨rfl, bstep HB2 hb3⟩
          · have k4 : (kd == 4) = false := by simp [h4]
            by_cases h5 : kd = 5
            · subst h5
              have hs : ofV ⟨5, g, v, false⟩ = .iface 59 (.string (⟨#[101, 110, 100, 32]⟩ ++ numB v ++ ⟨#[32]⟩ ++ numB g)) := by simp [ofV, lineS]
              rw [hs]
              go_enter Tryd.func28, Tryd.ntmps28
              go_wp2_with fail
              refine (HV.out _ (HT1 _).out).mono ?_
              rintro e w1 ⟨rfl, hb1, ht1⟩
              have HB1 := bstep (hb0 _) hb1
              have z0 := (hb1.cell (p := ⟨w.heap.size, 0, none⟩) (by simp)).trans (show _ = some (.int .i64 5) by go_simp)
              have z1 := (hb1.cell (p := ⟨w.heap.size, 1, none⟩) (by simp)).trans (show _ = some (.int .i64 g) by go_simp)
              have z2 := (hb1.cell (p := ⟨w.heap.size, 2, none⟩) (by simp)).trans (show _ = some (.int .i64 v) by go_simp)
              have z3 := (hb1.cell (p := ⟨w.heap.size, 3, none⟩) (by simp)).trans (show _ = some (.bool false) by go_simp)
              have hsz : w.heap.size < w1.heap.size := by have := hb1.size; simp at this; omega
              go_wp2_with fail
              refine (HA.out _ ht1).mono ?_
              rintro e w2 ⟨rfl, hb2, ht2⟩
              have HB2 := bstep HB1 hb2
              have y0 := (hb2.cell (p := ⟨w.heap.size, 0, none⟩) hsz).trans z0
              have y1 := (hb2.cell (p := ⟨w.heap.size, 1, none⟩) hsz).trans z1
              have y2 := (hb2.cell (p := ⟨w.heap.size, 2, none⟩) hsz).trans z2
              clear z0 z1 z2 z3
              go_wp2_with fail
              refine (HV.out _ ht2).mono ?_
              rintro e w3 ⟨rfl, hb3, ht3⟩
              go_wp2
              go_ret
              exact ⟨rfl, bstep HB2 hb3⟩
            · have k5 : (kd == 5) = false := by simp [h5]
              have hs : ofV ⟨kd, g, v, false⟩ = .nilIface := by simp [ofV, lineS, h1, h2, h3, h4, h5]
              rw [hs]
              go_enter Tryd.func28, Tryd.ntmps28
              go_wp2_with fail
              refine (HV.out _ (HT1 _).out).mono ?_
              rintro e w1 ⟨rfl, hb1, ht1⟩
              have HB1 := bstep (hb0 _) hb1
              have z0 := (hb1.cell (p := ⟨w.heap.size, 0, none⟩) (by simp)).trans (show _ = some (.int .i64 kd) by go_simp)
              have z1 := (hb1.cell (p := ⟨w.heap.size, 1, none⟩) (by simp)).trans (show _ = some (.int .i64 g) by go_simp)
              have z2 := (hb1.cell (p := ⟨w.heap.size, 2, none⟩) (by simp)).trans (show _ = some (.int .i64 v) by go_simp)
              have z3 := (hb1.cell (p := ⟨w.heap.size, 3, none⟩) (by simp)).trans (show _ = some (.bool false) by go_simp)
              have hsz : w.heap.size < w1.heap.size := by have := hb1.size; simp at this; omega
              go_wp2_with fail
              refine (HA.out _ ht1).mono ?_
              rintro e w2 ⟨rfl, hb2, ht2⟩
              have HB2 := bstep HB1 hb2
              have y0 := (hb2.cell (p := ⟨w.heap.size, 0, none⟩) hsz).trans z0
              have y1 := (hb2.cell (p := ⟨w.heap.size, 1, none⟩) hsz).trans z1
              have y2 := (hb2.cell (p := ⟨w.heap.size, 2, none⟩) hsz).trans z2
              clear z0 z1 z2 z3
              go_wp2
              go_ret
              exact ⟨rfl, HB2⟩
  case true =>
    by_cases h1 : kd = 1
    · subst h1
      have hs : ofV ⟨1, g, v, true⟩ = .iface 59 (.string (⟨#[111, 117, 116, 32]⟩ ++ numB g ++ ⟨#[32]⟩ ++ ⟨#[42]⟩)) := by simp [ofV, lineS, valB]
      rw [hs]
      go_enter Tryd.func28, Tryd.ntmps28
      go_wp2_with fail
      refine (HV.out _ (HT1 _).out).mono ?_
      rintro e w1 ⟨rfl, hb1, ht1⟩
      have HB1 := bstep (hb0 _) hb1
      have z0 := (hb1.cell (p := ⟨w.heap.size, 0, none⟩) (by simp)).trans (show _ = some (.int .i64 1) by go_simp)
      have z1 := (hb1.cell (p := ⟨w.heap.size, 1, none⟩) (by simp)).trans (show _ = some (.int .i64 g) by go_simp)
      have z2 := (hb1.cell (p := ⟨w.heap.size, 2, none⟩) (by simp)).trans (show _ = some (.int .i64 v) by go_simp)
      have z3 := (hb1.cell (p := ⟨w.heap.size, 3, none⟩) (by simp)).trans (show _ = some (.bool true) by go_simp)
      have hsz : w.heap.size < w1.heap.size := by have := hb1.size; simp at this; omega
      go_wp2_with fail
      refine (HA.out _ ht1).mono ?_
      rintro e w2 ⟨rfl, hb2, ht2⟩
      have HB2 := bstep HB1 hb2
      have y0 := (hb2.cell (p := ⟨w.heap.size, 0, none⟩) hsz).trans z0
      have y1 := (hb2.cell (p := ⟨w.heap.size, 1, none⟩) hsz).trans z1
      have y2 := (hb2.cell (p := ⟨w.heap.size, 2, none⟩) hsz).trans z2
      clear z0 z1 z2 z3
      go_wp2
      go_ret
      exact ⟨rfl, HB2⟩
    · have k1 : (kd == 1) = false := by simp [h1]
      by_cases h2 : kd = 2
      · subst h2
        have hs : ofV ⟨2, g, v, true⟩ = .iface 59 (.string (⟨#[101, 120, 105, 116, 32]⟩ ++ numB g)) := by simp [ofV, lineS]
        rw [hs]
        go_enter Tryd.func28, Tryd.ntmps28
        go_wp2_with fail
        refine (HV.out _ (HT1 _).out).mono ?_
        rintro e w1 ⟨rfl, hb1, ht1⟩
        have HB1 := bstep (hb0 _) hb1
        have z0 := (hb1.cell (p := ⟨w.heap.size, 0, none⟩) (by simp)).trans (show _ = some (.int .i64 2) by go_simp)
        have z1 := (hb1.cell (p := ⟨w.heap.size, 1, none⟩) (by simp)).trans (show _ = some (.int .i64 g) by go_simp)
        have z2 := (hb1.cell (p := ⟨w.heap.size, 2, none⟩) (by simp)).trans (show _ = some (.int .i64 v) by go_simp)
        have z3 := (hb1.cell (p := ⟨w.heap.size, 3, none⟩) (by simp)).trans (show _ = some (.bool true) by go_simp)
        have hsz : w.heap.size < w1.heap.size := by have := hb1.size; simp at this; omega
        go_wp2_with fail
        refine (HA.out _ ht1).mono ?_
        rintro e w2 ⟨rfl, hb2, ht2⟩
        have HB2 := bstep HB1 hb2
        have y0 := (hb2.cell (p := ⟨w.heap.size, 0, none⟩) hsz).trans z0
        have y1 := (hb2.cell (p := ⟨w.heap.size, 1, none⟩) hsz).trans z1
        have y2 := (hb2.cell (p := ⟨w.heap.size, 2, none⟩) hsz).trans z2
        clear z0 z1 z2 z3
        go_wp2
        go_ret
        exact ⟨rfl, HB2⟩
      · have k2 : (kd == 2) = false := by simp [h2]
        by_cases h3 : kd = 3
        · subst h3
          have hs : ofV ⟨3, g, v, true⟩ = .iface 59 (.string (⟨#[114, 101, 99, 108, 97, 105, 109, 32]⟩ ++ numB g)) := by simp [ofV, lineS]
          rw [hs]
          go_enter Tryd.func28, Tryd.ntmps28
          go_wp2_with fail
          refine (HV.out _ (HT1 _).out).mono ?_
          rintro e w1 ⟨rfl, hb1, ht1⟩
          have HB1 := bstep (hb0 _) hb1
          have z0 := (hb1.cell (p := ⟨w.heap.size, 0, none⟩) (by simp)).trans (show _ = some (.int .i64 3) by go_simp)
          have z1 := (hb1.cell (p := ⟨w.heap.size, 1, none⟩) (by simp)).trans (show _ = some (.int .i64 g) by go_simp)
          have z2 := (hb1.cell (p := ⟨w.heap.size, 2, none⟩) (by simp)).trans (show _ = some (.int .i64 v) by go_simp)
          have z3 := (hb1.cell (p := ⟨w.heap.size, 3, none⟩) (by simp)).trans (show _ = some (.bool true) by go_simp)
          have hsz : w.heap.size < w1.heap.size := by have := hb1.size; simp at this; omega
          go_wp2_with fail
          refine (HA.out _ ht1).mono ?_
          rintro e w2 ⟨rfl, hb2, ht2⟩
          have HB2 := bstep HB1 hb2
          have y0 := (hb2.cell (p := ⟨w.heap.size, 0, none⟩) hsz).trans z0
          have y1 := (hb2.cell (p := ⟨w.heap.size, 1, none⟩) hsz).trans z1
          have y2 := (hb2.cell (p := ⟨w.heap.size, 2, none⟩) hsz).trans z2
          clear z0 z1 z2 z3
          go_wp2
          go_ret
          exact ⟨rfl, HB2⟩
        · have k3 : (kd == 3) = false := by simp [h3]
          by_cases h4 : kd = 4
          · subst h4
            have hs : ofV ⟨4, g, v, true⟩ = .iface 59 (.string (⟨#[102, 105, 110, 97, 108, 32]⟩ ++ numB v)) := by simp [ofV, lineS]
            rw [hs]
            go_enter Tryd.func28, Tryd.ntmps28
            go_wp2_with fail
            refine (HV.out _ (HT1 _).out).mono ?_
            rintro e w1 ⟨rfl, hb1, ht1⟩
            have HB1 := bstep (hb0 _) hb1
            have z0 := (hb1.cell (p := ⟨w.heap.size, 0, none⟩) (by simp)).trans (show _ = some (.int .i64 4) by go_simp)
            have z1 := (hb1.cell (p := ⟨w.heap.size, 1, none⟩) (by simp)).trans (show _ = some (.int .i64 g) by go_simp)
            have z2 := (hb1.cell (p := ⟨w.heap.size, 2, none⟩) (by simp)).trans (show _ = some (.int .i64 v) by go_simp)
            have z3 := (hb1.cell (p := ⟨w.heap.size, 3, none⟩) (by simp)).trans (show _ = some (.bool true) by go_simp)
            have hsz : w.heap.size < w1.heap.size := by have := hb1.size; simp at this; omega
            go_wp2_with fail
            refine (HA.out _ ht1).mono ?_
            rintro e w2 ⟨rfl, hb2, ht2⟩
            have HB2 := bstep HB1 hb2
            have y0 := (hb2.cell (p := ⟨w.heap.size, 0, none⟩) hsz).trans z0
            have y1 := (hb2.cell (p := ⟨w.heap.size, 1, none⟩) hsz).trans z1
            have y2 := (hb2.cell (p := ⟨w.heap.size, 2, none⟩) hsz).trans z2
            clear z0 z1 z2 z3
            go_wp2_with fail
            refine (HV.out _ ht2).mono ?_
            rintro e w3 ⟨rfl, hb3, ht3⟩
            go_wp2
            go_ret
            exact ⟨rfl, bstep HB2 hb3⟩
          · have k4 : (kd == 4) = false := by simp [h4]
            by_cases h5 : kd = 5
            · subst h5
              have hs : ofV ⟨5, g, v, true⟩ = .iface 59 (.string (⟨#[101, 110, 100, 32]⟩ ++ numB v ++ ⟨#[32]⟩ ++ numB g)) := by simp [ofV, lineS]
              rw [hs]
              go_enter Tryd.func28, Tryd.ntmps28
              go_wp2_with fail
              refine (HV.out _ (HT1 _).out).mono ?_
              rintro e w1 ⟨rfl, hb1, ht1⟩
              have HB1 := bstep (hb0 _) hb1
              have z0 := (hb1.cell (p := ⟨w.heap.size, 0, none⟩) (by simp)).trans (show _ = some (.int .i64 5) by go_simp)
              have z1 := (hb1.cell (p := ⟨w.heap.size, 1, none⟩) (by simp)).trans (show _ = some (.int .i64 g) by go_simp)
              have z2 := (hb1.cell (p := ⟨w.heap.size, 2, none⟩) (by simp)).trans (show _ = some (.int .i64 v) by go_simp)
              have z3 := (hb1.cell (p := ⟨w.heap.size, 3, none⟩) (by simp)).trans (show _ = some (.bool true) by go_simp)
              have hsz : w.heap.size < w1.heap.size := by have := hb1.size; simp at this; omega
              go_wp2_with fail
              refine (HA.out _ ht1).mono ?_
              rintro e w2 ⟨rfl, hb2, ht2⟩
              have HB2 := bstep HB1 hb2
              have y0 := (hb2.cell (p := ⟨w.heap.size, 0, none⟩) hsz).trans z0
              have y1 := (hb2.cell (p := ⟨w.heap.size, 1, none⟩) hsz).trans z1
              have y2 := (hb2.cell (p := ⟨w.heap.size, 2, none⟩) hsz).trans z2
              clear z0 z1 z2 z3
              go_wp2_with fail
              refine (HV.out _ ht2).mono ?_
              rintro e w3 ⟨rfl, hb3, ht3⟩
              go_wp2
              go_ret
              exact ⟨rfl, bstep HB2 hb3⟩
            · have k5 : (kd == 5) = false := by simp [h5]
              have hs : ofV ⟨kd, g, v, true⟩ = .nilIface := by simp [ofV, lineS, h1, h2, h3, h4, h5]
              rw [hs]
              go_enter Tryd.func28, Tryd.ntmps28
              go_wp2_with fail
              refine (HV.out _ (HT1 _).out).mono ?_
              rintro e w1 ⟨rfl, hb1, ht1⟩
              have HB1 := bstep (hb0 _) hb1
              have z0 := (hb1.cell (p := ⟨w.heap.size, 0, none⟩) (by simp)).trans (show _ = some (.int .i64 kd) by go_simp)
              have z1 := (hb1.cell (p := ⟨w.heap.size, 1, none⟩) (by simp)).trans (show _ = some (.int .i64 g) by go_simp)
              have z2 := (hb1.cell (p := ⟨w.heap.size, 2, none⟩) (by simp)).trans (show _ = some (.int .i64 v) by go_simp)
              have z3 := (hb1.cell (p := ⟨w.heap.size, 3, none⟩) (by simp)).trans (show _ = some (.bool true) by go_simp)
              have hsz : w.heap.size < w1.heap.size := by have := hb1.size; simp at this; omega
              go_wp2_with fail
              refine (HA.out _ ht1).mono ?_
              rintro e w2 ⟨rfl, hb2, ht2⟩
              have HB2 := bstep HB1 hb2
              have y0 := (hb2.cell (p := ⟨w.heap.size, 0, none⟩) hsz).trans z0
              have y1 := (hb2.cell (p := ⟨w.heap.size, 1, none⟩) hsz).trans z1
              have y2 := (hb2.cell (p := ⟨w.heap.size, 2, none⟩) hsz).trans z2
              clear z0 z1 z2 z3
              go_wp2
              go_ret
              exact ⟨rfl, HB2⟩
end Go.Proofs.YtdelflahmlfnfaaDoor
