/-
  Lists of numbers held against each other (the helper package's functions at numbers).
-/
import Derived.Test.YtjjfemhpdhkolaaEnts
namespace Go.Proofs.Ytjjfemhpdhkolaa
open Go.RowKit
set_option linter.unusedVariables false

set_option maxRecDepth 100000 in
set_option maxHeartbeats 400000 in
theorem eqInt_any (x y : Int) (w : World) :
    Calls Try.prog 50 #[Value.int .i64 x, Value.int .i64 y] w fun e w' => e = .returned (.bool (decide (x = y))) ∧ Below w.heap.size w w' := by
  go_enter Try.func50, Try.ntmps50
  go_wp2
  go_ret
  exact ⟨by first | rfl | (congr 2; rw [Bool.eq_iff_iff]; simp), Below.refl _ _⟩

set_option maxRecDepth 100000 in
set_option maxHeartbeats 400000 in
theorem sameInt_any (ao bo : Option Addr) (n m c d : Nat) (es fs : List Int) (w : World) (hae : RowAt w ao (es.map (Value.int .i64))) (hbf : RowAt w bo (fs.map (Value.int .i64))) (hn : es.length = n) (hm : fs.length = m) (_hmax : n ≤ 140737488355328) :
    Calls Try.prog 49 #[.slice ao n c, .slice bo m d, .func (.func 50) #[] #[]] w fun e w' => e = .returned (.bool (decide (es = fs))) ∧ Below w.heap.size w w' := by
  have Hn := hidP hn
  have Hm := hidP hm
  clear hn hm
  go_enter Try.func49, Try.ntmps49
  by_cases hnm : n = m
  · subst hnm
    go_wp2_with fail
    go_loopw [7] (fun i wr => ∃ k : Nat, i = .int .i64 k ∧ k ≤ n ∧ Hid (es.take k = fs.take k) ∧ Below w.heap.size w wr) (fun i _ => n - (intOf i).toNat)
    case atStart => exact ⟨0, rfl, Nat.zero_le _, rfl, Below.refl _ _⟩
    case round =>
      obtain ⟨k, rfl, hk, HE, hb⟩ := hrel
      by_cases hlt : k < n
      · obtain ⟨b, o, rfl, hca⟩ := (hae.below hb).addr (by rw [List.length_map, Hn.out]; omega)
        obtain ⟨b', o', rfl, hcb⟩ := (hbf.below hb).addr (by rw [List.length_map, Hm.out]; omega)
        obtain ⟨x, hx⟩ : ∃ x, es[k]? = some x := ⟨_, List.getElem?_eq_getElem (by rw [Hn.out]; omega)⟩
        obtain ⟨y, hy⟩ : ∃ y, fs[k]? = some y := ⟨_, List.getElem?_eq_getElem (by rw [Hm.out]; omega)⟩
        have x0 : wr.cell? ⟨b, o + k, none⟩ = some (Value.int .i64 x) := hca k _ (by rw [List.getElem?_map, hx]; rfl)
        have y0 : wr.cell? ⟨b', o' + k, none⟩ = some (Value.int .i64 y) := hcb k _ (by rw [List.getElem?_map, hy]; rfl)
        have HX := hidP hx
        have HY := hidP hy
        clear hx hy hca hcb hae hbf
        go_wp2_with fail
        go_still_tail 9, (by kernel_rfl)
        go_wp2_with (go_at_call 50; refine (eqInt_any x y _).mono ?_; rintro e w1 ⟨rfl, hb1⟩)
        · have he : (!decide (x = y)) = true := by assumption
          have hd := ne_step HX.out HY.out (by simpa using he)
          go_ret
          exact ⟨by rw [hd]; rfl, hb.drew.trans (hb1.mono hb.size)⟩
        · have he : (!decide (x = y)) = false := by assumption
          go_roundw
          case rel => exact ⟨k + 1, by go_num, by omega, take_step HE.out HX.out HY.out (by simpa using he), hb.drew.trans (hb1.mono hb.size)⟩
          case measure => simp [intOf]; omega
      · have hd := eq_all HE.out (by rw [Hn.out]; omega) (by rw [Hm.out]; omega)
        go_wp2
        go_ret
        exact ⟨by rw [hd]; rfl, hb⟩
  · have hd : decide (es = fs) = false := ne_len (by rw [Hn.out, Hm.out]; exact hnm)
    have HD := hidP hd
    clear hd
    have : ((n:Int) == (m:Int)) = false := by simp; omega
    go_wp2
    go_ret
    exact ⟨by rw [HD.out]; rfl, Below.refl _ _⟩

set_option maxRecDepth 100000 in
set_option maxHeartbeats 400000 in
theorem plainInt_any (ao bo : Option Addr) (n m c d : Nat) (es fs : List Int) (w : World) (hae : RowAt w ao (es.map (Value.int .i64))) (hbf : RowAt w bo (fs.map (Value.int .i64))) (hn : es.length = n) (hm : fs.length = m) (hmax : n ≤ 140737488355328) :
    Calls Try.prog 26 #[.slice ao n c, .slice bo m d] w fun e w' => e = .returned (.bool (decide (es = fs))) ∧ Below w.heap.size w w' := by
  have Hn := hidP hn
  have Hm := hidP hm
  clear hn hm
  go_enter Try.func26, Try.ntmps26
  go_wp2_with (go_at_call 49; refine (sameInt_any _ _ _ _ _ _ es fs _ hae hbf Hn.out Hm.out hmax).mono ?_; rintro e w1 ⟨rfl, hb1⟩)
  go_ret
  exact ⟨rfl, hb1⟩

set_option maxRecDepth 100000 in
set_option maxHeartbeats 400000 in
theorem eqU8_any (x y : Int) (w : World) :
    Calls Try.prog 55 #[Value.int .u8 x, Value.int .u8 y] w fun e w' => e = .returned (.bool (decide (x = y))) ∧ Below w.heap.size w w' := by
  go_enter Try.func55, Try.ntmps55
  go_wp2
  go_ret
  exact ⟨by first | rfl | (congr 2; rw [Bool.eq_iff_iff]; simp), Below.refl _ _⟩

set_option maxRecDepth 100000 in
set_option maxHeartbeats 400000 in
theorem sameU8_any (ao bo : Option Addr) (n m c d : Nat) (es fs : List Int) (w : World) (hae : RowAt w ao (es.map (Value.int .u8))) (hbf : RowAt w bo (fs.map (Value.int .u8))) (hn : es.length = n) (hm : fs.length = m) (_hmax : n ≤ 140737488355328) :
    Calls Try.prog 54 #[.slice ao n c, .slice bo m d, .func (.func 55) #[] #[]] w fun e w' => e = .returned (.bool (decide (es = fs))) ∧ Below w.heap.size w w' := by
  have Hn := hidP hn
  have Hm := hidP hm
  clear hn hm
  go_enter Try.func54, Try.ntmps54
  by_cases hnm : n = m
  · subst hnm
    go_wp2_with fail
    go_loopw [7] (fun i wr => ∃ k : Nat, i = .int .i64 k ∧ k ≤ n ∧ Hid (es.take k = fs.take k) ∧ Below w.heap.size w wr) (fun i _ => n - (intOf i).toNat)
    case atStart => exact ⟨0, rfl, Nat.zero_le _, rfl, Below.refl _ _⟩
    case round =>
      obtain ⟨k, rfl, hk, HE, hb⟩ := hrel
      by_cases hlt : k < n
      · obtain ⟨b, o, rfl, hca⟩ := (hae.below hb).addr (by rw [List.length_map, Hn.out]; omega)
        obtain ⟨b', o', rfl, hcb⟩ := (hbf.below hb).addr (by rw [List.length_map, Hm.out]; omega)
        obtain ⟨x, hx⟩ : ∃ x, es[k]? = some x := ⟨_, List.getElem?_eq_getElem (by rw [Hn.out]; omega)⟩
        obtain ⟨y, hy⟩ : ∃ y, fs[k]? = some y := ⟨_, List.getElem?_eq_getElem (by rw [Hm.out]; omega)⟩
        have x0 : wr.cell? ⟨b, o + k, none⟩ = some (Value.int .u8 x) := hca k _ (by rw [List.getElem?_map, hx]; rfl)
        have y0 : wr.cell? ⟨b', o' + k, none⟩ = some (Value.int .u8 y) := hcb k _ (by rw [List.getElem?_map, hy]; rfl)
        have HX := hidP hx
        have HY := hidP hy
        clear hx hy hca hcb hae hbf
        go_wp2_with fail
        go_still_tail 9, (by kernel_rfl)
        go_wp2_with (go_at_call 55; refine (eqU8_any x y _).mono ?_; rintro e w1 ⟨rfl, hb1⟩)
        · have he : (!decide (x = y)) = true := by assumption
          have hd := ne_step HX.out HY.out (by simpa using he)
          go_ret
          exact ⟨by rw [hd]; rfl, hb.drew.trans (hb1.mono hb.size)⟩
        · have he : (!decide (x = y)) = false := by assumption
          go_roundw
          case rel => exact ⟨k + 1, by go_num, by omega, take_step HE.out HX.out HY.out (by simpa using he), hb.drew.trans (hb1.mono hb.size)⟩
          case measure => simp [intOf]; omega
      · have hd := eq_all HE.out (by rw [Hn.out]; omega) (by rw [Hm.out]; omega)
        go_wp2
        go_ret
        exact ⟨by rw [hd]; rfl, hb⟩
  · have hd : decide (es = fs) = false := ne_len (by rw [Hn.out, Hm.out]; exact hnm)
    have HD := hidP hd
    clear hd
    have : ((n:Int) == (m:Int)) = false := by simp; omega
    go_wp2
    go_ret
    exact ⟨by rw [HD.out]; rfl, Below.refl _ _⟩

set_option maxRecDepth 100000 in
set_option maxHeartbeats 400000 in
theorem plainU8_any (ao bo : Option Addr) (n m c d : Nat) (es fs : List Int) (w : World) (hae : RowAt w ao (es.map (Value.int .u8))) (hbf : RowAt w bo (fs.map (Value.int .u8))) (hn : es.length = n) (hm : fs.length = m) (hmax : n ≤ 140737488355328) :
    Calls Try.prog 33 #[.slice ao n c, .slice bo m d] w fun e w' => e = .returned (.bool (decide (es = fs))) ∧ Below w.heap.size w w' := by
  have Hn := hidP hn
  have Hm := hidP hm
  clear hn hm
  go_enter Try.func33, Try.ntmps33
  go_wp2_with (go_at_call 54; refine (sameU8_any _ _ _ _ _ _ es fs _ hae hbf Hn.out Hm.out hmax).mono ?_; rintro e w1 ⟨rfl, hb1⟩)
  go_ret
  exact ⟨rfl, hb1⟩

end Go.Proofs.Ytjjfemhpdhkolaa
