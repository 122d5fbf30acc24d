/-
  Events as cells, and lists of events, and of numbers, held against each other.
-/
import Derived.Test.YtdelflahmlfnfaaDoorTTab
import Derived.Test.YtdelflahmlfnfaaDoorOwn
import Derived.Test.YtdelflahmlfnfaaDoorOpen
namespace Go.Proofs.YtdelflahmlfnfaaDoor
open Go.RowKit
set_option linter.unusedVariables false

structure Ev where
  kind : Int
  gor : Int
  val : Int
  ref : Bool
  deriving DecidableEq

def evCells (x : Ev) : List Value := [.int .i64 x.kind, .int .i64 x.gor, .int .i64 x.val, .bool x.ref]
def evsCells (l : List Ev) : List Value := l.flatMap evCells
def evV (x : Ev) : Value := .agg #[.int .i64 x.kind, .int .i64 x.gor, .int .i64 x.val, .bool x.ref]

theorem length_evsCells (l : List Ev) : (evsCells l).length = l.length * 4 := by
  induction l with
  | nil => rfl
  | cons a l ih => simp [evsCells, evCells] at *; omega
theorem evsCells_append (a b : List Ev) : evsCells (a ++ b) = evsCells a ++ evsCells b := by simp [evsCells]
theorem evsCells_one (a : Ev) : evsCells [a] = evCells a := by simp [evsCells]
theorem evs_one (l : List Ev) : ∀ u ∈ evsCells l, u.oneCell' = true := by
  intro u hu
  unfold evsCells at hu
  rw [List.mem_flatMap] at hu
  obtain ⟨x, _, hx⟩ := hu
  simp [evCells] at hx
  rcases hx with rfl | rfl | rfl | rfl <;> rfl
theorem evsCells_get (l : List Ev) : ∀ (i : Nat) (x : Ev), l[i]? = some x → (evsCells l)[i * 4]? = some (.int .i64 x.kind) ∧ (evsCells l)[i * 4 + 1]? = some (.int .i64 x.gor) ∧ (evsCells l)[i * 4 + 2]? = some (.int .i64 x.val) ∧ (evsCells l)[i * 4 + 3]? = some (.bool x.ref) := by
  induction l with
  | nil => intro i x h; simp at h
  | cons a l ih =>
    intro i x h
    cases i with
    | zero => simp at h; subst h; simp [evsCells, evCells]
    | succ i =>
      simp at h
      have e : ∀ j, (evsCells (a :: l))[(i + 1) * 4 + j]? = (evsCells l)[i * 4 + j]? := by
        intro j
        show (evCells a ++ evsCells l)[_]? = _
        rw [List.getElem?_append_right (by simp [evCells]; omega)]
        congr 1
        simp [evCells]; omega
      refine ⟨?_, ?_, ?_, ?_⟩
      · have := e 0; simp only [Nat.add_zero] at this; rw [this]; exact (ih i x h).1
      · rw [e 1]; exact (ih i x h).2.1
      · rw [e 2]; exact (ih i x h).2.2.1
      · rw [e 3]; exact (ih i x h).2.2.2

theorem evs_at {w : World} {b o : Nat} {l : List Ev} (h : ∀ j u, (evsCells l)[j]? = some u → w.cell? ⟨b, o + j, none⟩ = some u) (i : Nat) (x : Ev) (hx : l[i]? = some x) :
    w.cell? ⟨b, o + i * 4, none⟩ = some (.int .i64 x.kind) ∧ w.cell? ⟨b, o + i * 4 + 1, none⟩ = some (.int .i64 x.gor) ∧ w.cell? ⟨b, o + i * 4 + 2, none⟩ = some (.int .i64 x.val) ∧ w.cell? ⟨b, o + i * 4 + 3, none⟩ = some (.bool x.ref) := by
  obtain ⟨h0, h1, h2, h3⟩ := evsCells_get l i x hx
  exact ⟨h _ _ h0, by have := h _ _ h1; rwa [← Nat.add_assoc] at this, by have := h _ _ h2; rwa [← Nat.add_assoc] at this, by have := h _ _ h3; rwa [← Nat.add_assoc] at this⟩

theorem Tryd.slEv : SlT Tryd.prog 22 28 (.agg #[.int .i64 0, .int .i64 0, .int .i64 0, .bool false]) 4 32 := ⟨Tryd.underlying22, by kernel_rfl, rfl, by decide⟩
theorem Tryd.slInt : SlT Tryd.prog 29 3 (.int .i64 0) 1 8 := ⟨Tryd.underlying29, by kernel_rfl, rfl, by decide⟩

set_option maxRecDepth 100000 in
set_option maxHeartbeats 800000 in
theorem eqEv_any (x y : Ev) (w : World) :
    Calls Tryd.prog 32 #[evV x, evV y] w fun e w' => e = .returned (.bool (decide (x = y))) ∧ Below w.heap.size w w' := by
  unfold evV
  go_enter Tryd.func32, Tryd.ntmps32
  go_wp2
  all_goals
    go_ret
    refine ⟨?_, (((Below.refl _ _).alloc (Nat.le_refl _) _).alloc (by simp) _)⟩
  all_goals
    first
      | (have e : decide (x = y) = true := by cases x; cases y; simp_all
         rw [e]; rfl)
      | (have e : decide (x = y) = false := by cases x; cases y; simp_all
         rw [e]; rfl)

/-- One step of a comparison. -/
theorem take_step {α : Type} [DecidableEq α] {es fs : List α} {k : Nat} {x y : α} (h : es.take k = fs.take k) (hx : es[k]? = some x) (hy : fs[k]? = some y) (e : x = y) : es.take (k + 1) = fs.take (k + 1) := by
  rw [List.take_add_one, List.take_add_one, h, hx, hy, e]
theorem ne_step {α : Type} [DecidableEq α] {es fs : List α} {k : Nat} {x y : α} (hx : es[k]? = some x) (hy : fs[k]? = some y) (e : x ≠ y) : decide (es = fs) = false := by
  simp only [decide_eq_false_iff_not]
  intro h
  subst h
  rw [hx] at hy
  exact e (Option.some.inj hy)
theorem eq_all {α : Type} [DecidableEq α] {es fs : List α} {k : Nat} (h : es.take k = fs.take k) (hn : es.length ≤ k) (hm : fs.length ≤ k) : decide (es = fs) = true := by
  rw [List.take_of_length_le hn, List.take_of_length_le hm] at h
  simp [h]
theorem ne_len {α : Type} [DecidableEq α] {es fs : List α} (h : es.length ≠ fs.length) : decide (es = fs) = false := by
  simp only [decide_eq_false_iff_not]
  intro e
  exact h (by rw [e])

set_option maxRecDepth 100000 in
set_option maxHeartbeats 400000 in
theorem sameEv_any (ao bo : Option Addr) (n m c d : Nat) (es fs : List Ev) (w : World) (hae : RowAt w ao (evsCells es)) (hbf : RowAt w bo (evsCells fs)) (hn : es.length = n) (hm : fs.length = m) (_hmax : n ≤ 140737488355328) :
    Calls Tryd.prog 31 #[.slice ao n c, .slice bo m d, .func (.func 32) #[] #[]] w fun e w' => e = .returned (.bool (decide (es = fs))) ∧ Below w.heap.size w w' := by
  have Hn := hidP hn
  have Hm := hidP hm
  clear hn hm
  go_enter Tryd.func31, Tryd.ntmps31
  by_cases hnm : n = m
  · subst hnm
    go_wp2_with fail
    go_loopw [7] (fun i wr => ∃ k : Nat, i = .int .i64 k ∧ k ≤ n ∧ Hid (es.take k = fs.take k) ∧ Below w.heap.size w wr) (fun i _ => n - (intOf i).toNat)
    case atStart => exact ⟨0, rfl, Nat.zero_le _, rfl, Below.refl _ _⟩
    case round =>
      obtain ⟨k, rfl, hk, HE, hb⟩ := hrel
      by_cases hlt : k < n
      · obtain ⟨b, o, rfl, hca⟩ := (hae.below hb).addr (by rw [length_evsCells, Hn.out]; omega)
        obtain ⟨b', o', rfl, hcb⟩ := (hbf.below hb).addr (by rw [length_evsCells, Hm.out]; omega)
        obtain ⟨x, hx⟩ : ∃ x, es[k]? = some x := ⟨_, List.getElem?_eq_getElem (by rw [Hn.out]; omega)⟩
        obtain ⟨y, hy⟩ : ∃ y, fs[k]? = some y := ⟨_, List.getElem?_eq_getElem (by rw [Hm.out]; omega)⟩
        obtain ⟨x0, x1, x2, x3⟩ := evs_at hca k x hx
        obtain ⟨y0, y1, y2, y3⟩ := evs_at hcb k y hy
        have HX := hidP hx
        have HY := hidP hy
        clear hx hy hca hcb hae hbf
        go_wp2_with fail
        go_still_tail 9, (by kernel_rfl)
        go_wp2_with (go_at_call 32; refine (eqEv_any x y _).mono ?_; rintro e w1 ⟨rfl, hb1⟩)
        · have he : (!decide (x = y)) = true := by assumption
          have hd := ne_step HX.out HY.out (by simpa using he)
          go_ret
          exact ⟨by rw [hd]; rfl, hb.drew.trans (hb1.mono hb.size)⟩
        · have he : (!decide (x = y)) = false := by assumption
          go_roundw
          case rel => exact ⟨k + 1, by go_num, by omega, take_step HE.out HX.out HY.out (by simpa using he), hb.drew.trans (hb1.mono hb.size)⟩
          case measure => simp [intOf]; omega
      · have hd := eq_all HE.out (by rw [Hn.out]; omega) (by rw [Hm.out]; omega)
        go_wp2
        go_ret
        exact ⟨by rw [hd]; rfl, hb⟩
  · have hd : decide (es = fs) = false := ne_len (by rw [Hn.out, Hm.out]; exact hnm)
    have HD := hidP hd
    clear hd
    have : ((n:Int) == (m:Int)) = false := by simp; omega
    go_wp2
    go_ret
    exact ⟨by rw [HD.out]; rfl, Below.refl _ _⟩

set_option maxRecDepth 100000 in
set_option maxHeartbeats 400000 in
theorem plainEv_any (ao bo : Option Addr) (n m c d : Nat) (es fs : List Ev) (w : World) (hae : RowAt w ao (evsCells es)) (hbf : RowAt w bo (evsCells fs)) (hn : es.length = n) (hm : fs.length = m) (hmax : n ≤ 140737488355328) :
    Calls Tryd.prog 12 #[.slice ao n c, .slice bo m d] w fun e w' => e = .returned (.bool (decide (es = fs))) ∧ Below w.heap.size w w' := by
  have Hn := hidP hn
  have Hm := hidP hm
  clear hn hm
  go_enter Tryd.func12, Tryd.ntmps12
  go_wp2_with (go_at_call 31; refine (sameEv_any _ _ _ _ _ _ es fs _ hae hbf Hn.out Hm.out hmax).mono ?_; rintro e w1 ⟨rfl, hb1⟩)
  go_ret
  exact ⟨rfl, hb1⟩

set_option maxRecDepth 100000 in
set_option maxHeartbeats 400000 in
theorem eqInt_any (x y : Int) (w : World) :
    Calls Tryd.prog 39 #[Value.int .i64 x, Value.int .i64 y] w fun e w' => e = .returned (.bool (decide (x = y))) ∧ Below w.heap.size w w' := by
  go_enter Tryd.func39, Tryd.ntmps39
  go_wp2
  go_ret
  exact ⟨by first | rfl | (congr 2; rw [Bool.eq_iff_iff]; simp), Below.refl _ _⟩

set_option maxRecDepth 100000 in
set_option maxHeartbeats 400000 in
theorem sameInt_any (ao bo : Option Addr) (n m c d : Nat) (es fs : List Int) (w : World) (hae : RowAt w ao (es.map (Value.int .i64))) (hbf : RowAt w bo (fs.map (Value.int .i64))) (hn : es.length = n) (hm : fs.length = m) (_hmax : n ≤ 140737488355328) :
    Calls Tryd.prog 38 #[.slice ao n c, .slice bo m d, .func (.func 39) #[] #[]] w fun e w' => e = .returned (.bool (decide (es = fs))) ∧ Below w.heap.size w w' := by
  have Hn := hidP hn
  have Hm := hidP hm
  clear hn hm
  go_enter Tryd.func38, Tryd.ntmps38
  by_cases hnm : n = m
  · subst hnm
    go_wp2_with fail
    go_loopw [7] (fun i wr => ∃ k : Nat, i = .int .i64 k ∧ k ≤ n ∧ Hid (es.take k = fs.take k) ∧ Below w.heap.size w wr) (fun i _ => n - (intOf i).toNat)
    case atStart => exact ⟨0, rfl, Nat.zero_le _, rfl, Below.refl _ _⟩
    case round =>
      obtain ⟨k, rfl, hk, HE, hb⟩ := hrel
      by_cases hlt : k < n
      · obtain ⟨b, o, rfl, hca⟩ := (hae.below hb).addr (by rw [List.length_map, Hn.out]; omega)
        obtain ⟨b', o', rfl, hcb⟩ := (hbf.below hb).addr (by rw [List.length_map, Hm.out]; omega)
        obtain ⟨x, hx⟩ : ∃ x, es[k]? = some x := ⟨_, List.getElem?_eq_getElem (by rw [Hn.out]; omega)⟩
        obtain ⟨y, hy⟩ : ∃ y, fs[k]? = some y := ⟨_, List.getElem?_eq_getElem (by rw [Hm.out]; omega)⟩
        have x0 : wr.cell? ⟨b, o + k, none⟩ = some (Value.int .i64 x) := hca k _ (by rw [List.getElem?_map, hx]; rfl)
        have y0 : wr.cell? ⟨b', o' + k, none⟩ = some (Value.int .i64 y) := hcb k _ (by rw [List.getElem?_map, hy]; rfl)
        have HX := hidP hx
        have HY := hidP hy
        clear hx hy hca hcb hae hbf
        go_wp2_with fail
        go_still_tail 9, (by kernel_rfl)
        go_wp2_with (go_at_call 39; refine (eqInt_any x y _).mono ?_; rintro e w1 ⟨rfl, hb1⟩)
        · have he : (!decide (x = y)) = true := by assumption
          have hd := ne_step HX.out HY.out (by simpa using he)
          go_ret
          exact ⟨by rw [hd]; rfl, hb.drew.trans (hb1.mono hb.size)⟩
        · have he : (!decide (x = y)) = false := by assumption
          go_roundw
          case rel => exact ⟨k + 1, by go_num, by omega, take_step HE.out HX.out HY.out (by simpa using he), hb.drew.trans (hb1.mono hb.size)⟩
          case measure => simp [intOf]; omega
      · have hd := eq_all HE.out (by rw [Hn.out]; omega) (by rw [Hm.out]; omega)
        go_wp2
        go_ret
        exact ⟨by rw [hd]; rfl, hb⟩
  · have hd : decide (es = fs) = false := ne_len (by rw [Hn.out, Hm.out]; exact hnm)
    have HD := hidP hd
    clear hd
    have : ((n:Int) == (m:Int)) = false := by simp; omega
    go_wp2
    go_ret
    exact ⟨by rw [HD.out]; rfl, Below.refl _ _⟩

set_option maxRecDepth 100000 in
set_option maxHeartbeats 400000 in
theorem plainInt_any (ao bo : Option Addr) (n m c d : Nat) (es fs : List Int) (w : World) (hae : RowAt w ao (es.map (Value.int .i64))) (hbf : RowAt w bo (fs.map (Value.int .i64))) (hn : es.length = n) (hm : fs.length = m) (hmax : n ≤ 140737488355328) :
    Calls Tryd.prog 23 #[.slice ao n c, .slice bo m d] w fun e w' => e = .returned (.bool (decide (es = fs))) ∧ Below w.heap.size w w' := by
  have Hn := hidP hn
  have Hm := hidP hm
  clear hn hm
  go_enter Tryd.func23, Tryd.ntmps23
  go_wp2_with (go_at_call 38; refine (sameInt_any _ _ _ _ _ _ es fs _ hae hbf Hn.out Hm.out hmax).mono ?_; rintro e w1 ⟨rfl, hb1⟩)
  go_ret
  exact ⟨rfl, hb1⟩
end Go.Proofs.YtdelflahmlfnfaaDoor
