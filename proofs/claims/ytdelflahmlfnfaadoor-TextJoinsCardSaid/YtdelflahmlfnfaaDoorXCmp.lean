/-
  Lists of texts held against each other.
-/
import Derived.Test.YtdelflahmlfnfaaDoorXText
namespace Go.Proofs.YtdelflahmlfnfaaDoor
open Go.RowKit
set_option linter.unusedVariables false

/-- One step of a comparison. -/
theorem take_step {α : Type} [DecidableEq α] {es fs : List α} {k : Nat} {x y : α} (h : es.take k = fs.take k) (hx : es[k]? = some x) (hy : fs[k]? = some y) (e : x = y) : es.take (k + 1) = fs.take (k + 1) := by
  rw [List.take_add_one, List.take_add_one, h, hx, hy, e]
theorem ne_step {α : Type} [DecidableEq α] {es fs : List α} {k : Nat} {x y : α} (hx : es[k]? = some x) (hy : fs[k]? = some y) (e : x ≠ y) : decide (es = fs) = false := by
  simp only [decide_eq_false_iff_not]
  intro h
  subst h
  rw [hx] at hy
  exact e (Option.some.inj hy)
theorem eq_all {α : Type} [DecidableEq α] {es fs : List α} {k : Nat} (h : es.take k = fs.take k) (hn : es.length ≤ k) (hm : fs.length ≤ k) : decide (es = fs) = true := by
  rw [List.take_of_length_le hn, List.take_of_length_le hm] at h
  simp [h]
theorem ne_len {α : Type} [DecidableEq α] {es fs : List α} (h : es.length ≠ fs.length) : decide (es = fs) = false := by
  simp only [decide_eq_false_iff_not]
  intro e
  exact h (by rw [e])

theorem str_eq (x y : ByteArray) : (x.toList == y.toList) = decide (x = y) := by
  rw [Bool.eq_iff_iff, Lib.toList_data, Lib.toList_data]
  simp
  constructor
  · intro h
    exact ByteArray.ext h
  · rintro rfl; rfl

set_option maxRecDepth 100000 in
set_option maxHeartbeats 400000 in
theorem eqStr_any (x y : ByteArray) (w : World) :
    Calls Tryd.prog 37 #[Value.string x, Value.string y] w fun e w' => e = .returned (.bool (decide (x = y))) ∧ Below w.heap.size w w' := by
  go_enter Tryd.func37, Tryd.ntmps37
  go_wp2
  go_ret
  exact ⟨by show Ending.returned (.bool (x.toList == y.toList)) = _; rw [str_eq], Below.refl _ _⟩

set_option maxRecDepth 100000 in
set_option maxHeartbeats 400000 in
theorem sameStr_any (ao bo : Option Addr) (n m c d : Nat) (es fs : List ByteArray) (w : World) (hae : RowAt w ao (es.map (Value.string))) (hbf : RowAt w bo (fs.map (Value.string))) (hn : es.length = n) (hm : fs.length = m) (_hmax : n ≤ 140737488355328) :
    Calls Tryd.prog 36 #[.slice ao n c, .slice bo m d, .func (.func 37) #[] #[]] w fun e w' => e = .returned (.bool (decide (es = fs))) ∧ Below w.heap.size w w' := by
  have Hn := hidP hn
  have Hm := hidP hm
  clear hn hm
  go_enter Tryd.func36, Tryd.ntmps36
  by_cases hnm : n = m
  · subst hnm
    go_wp2_with fail
    go_loopw [7] (fun i wr => ∃ k : Nat, i = .int .i64 k ∧ k ≤ n ∧ Hid (es.take k = fs.take k) ∧ Below w.heap.size w wr) (fun i _ => n - (intOf i).toNat)
    case atStart => exact ⟨0, rfl, Nat.zero_le _, rfl, Below.refl _ _⟩
    case round =>
      obtain ⟨k, rfl, hk, HE, hb⟩ := hrel
      by_cases hlt : k < n
      · obtain ⟨b, o, rfl, hca⟩ := (hae.below hb).addr (by rw [List.length_map, Hn.out]; omega)
        obtain ⟨b', o', rfl, hcb⟩ := (hbf.below hb).addr (by rw [List.length_map, Hm.out]; omega)
        obtain ⟨x, hx⟩ : ∃ x, es[k]? = some x := ⟨_, List.getElem?_eq_getElem (by rw [Hn.out]; omega)⟩
        obtain ⟨y, hy⟩ : ∃ y, fs[k]? = some y := ⟨_, List.getElem?_eq_getElem (by rw [Hm.out]; omega)⟩
        have x0 : wr.cell? ⟨b, o + k, none⟩ = some (Value.string x) := hca k _ (by rw [List.getElem?_map, hx]; rfl)
        have y0 : wr.cell? ⟨b', o' + k, none⟩ = some (Value.string y) := hcb k _ (by rw [List.getElem?_map, hy]; rfl)
        have HX := hidP hx
        have HY := hidP hy
        clear hx hy hca hcb hae hbf
        go_wp2_with fail
        go_still_tail 9, (by kernel_rfl)
        go_wp2_with (go_at_call 37; refine (eqStr_any x y _).mono ?_; rintro e w1 ⟨rfl, hb1⟩)
        · have he : (!decide (x = y)) = true := by assumption
          have hd := ne_step HX.out HY.out (by simpa using he)
          go_ret
          exact ⟨by rw [hd]; rfl, hb.drew.trans (hb1.mono hb.size)⟩
        · have he : (!decide (x = y)) = false := by assumption
          go_roundw
          case rel => exact ⟨k + 1, by go_num, by omega, take_step HE.out HX.out HY.out (by simpa using he), hb.drew.trans (hb1.mono hb.size)⟩
          case measure => simp [intOf]; omega
      · have hd := eq_all HE.out (by rw [Hn.out]; omega) (by rw [Hm.out]; omega)
        go_wp2
        go_ret
        exact ⟨by rw [hd]; rfl, hb⟩
  · have hd : decide (es = fs) = false := ne_len (by rw [Hn.out, Hm.out]; exact hnm)
    have HD := hidP hd
    clear hd
    have : ((n:Int) == (m:Int)) = false := by simp; omega
    go_wp2
    go_ret
    exact ⟨by rw [HD.out]; rfl, Below.refl _ _⟩

set_option maxRecDepth 100000 in
set_option maxHeartbeats 400000 in
theorem plainStr_any (ao bo : Option Addr) (n m c d : Nat) (es fs : List ByteArray) (w : World) (hae : RowAt w ao (es.map (Value.string))) (hbf : RowAt w bo (fs.map (Value.string))) (hn : es.length = n) (hm : fs.length = m) (hmax : n ≤ 140737488355328) :
    Calls Tryd.prog 19 #[.slice ao n c, .slice bo m d] w fun e w' => e = .returned (.bool (decide (es = fs))) ∧ Below w.heap.size w w' := by
  have Hn := hidP hn
  have Hm := hidP hm
  clear hn hm
  go_enter Tryd.func19, Tryd.ntmps19
  go_wp2_with (go_at_call 36; refine (sameStr_any _ _ _ _ _ _ es fs _ hae hbf Hn.out Hm.out hmax).mono ?_; rintro e w1 ⟨rfl, hb1⟩)
  go_ret
  exact ⟨rfl, hb1⟩
end Go.Proofs.YtdelflahmlfnfaaDoor
