/-
  Entries as cells, and the functions that hold lists of entries against each other.
-/
import Derived.Test.YtjjfemhpdhkolaaRows
import Derived.Test.YtjjfemhpdhkolaaLib
import Derived.Test.YtjjfemhpdhkolaaSpec
namespace Go.Proofs.Ytjjfemhpdhkolaa
open Go.RowKit
set_option linter.unusedVariables false

def entCells (x : Ent) : List Value := [.int .i64 x.kind, .int .i64 x.n, .int .i64 x.draw]
def entsCells (l : List Ent) : List Value := l.flatMap entCells
def entV (x : Ent) : Value := .agg #[.int .i64 x.kind, .int .i64 x.n, .int .i64 x.draw]

theorem length_entsCells (l : List Ent) : (entsCells l).length = l.length * 3 := by
  induction l with
  | nil => rfl
  | cons a l ih => simp [entsCells, entCells] at *; omega
theorem entsCells_append (a b : List Ent) : entsCells (a ++ b) = entsCells a ++ entsCells b := by simp [entsCells]
theorem entsCells_one (a : Ent) : entsCells [a] = entCells a := by simp [entsCells]
theorem entsCells_get (l : List Ent) : ∀ (i : Nat) (x : Ent), l[i]? = some x → (entsCells l)[i * 3]? = some (.int .i64 x.kind) ∧ (entsCells l)[i * 3 + 1]? = some (.int .i64 x.n) ∧ (entsCells l)[i * 3 + 2]? = some (.int .i64 x.draw) := by
  induction l with
  | nil => intro i x h; simp at h
  | cons a l ih =>
    intro i x h
    cases i with
    | zero => simp at h; subst h; simp [entsCells, entCells]
    | succ i =>
      simp at h
      have := ih i x h
      have e : ∀ j, (entsCells (a :: l))[(i + 1) * 3 + j]? = (entsCells l)[i * 3 + j]? := by
        intro j
        show (entCells a ++ entsCells l)[_]? = _
        rw [List.getElem?_append_right (by simp [entCells]; omega)]
        congr 1
        simp [entCells]; omega
      refine ⟨?_, ?_, ?_⟩
      · have := e 0; simp only [Nat.add_zero] at this; rw [this]; exact (ih i x h).1
      · rw [e 1]; exact (ih i x h).2.1
      · rw [e 2]; exact (ih i x h).2.2

/-- The cells of the i-th entry of a row of entries. -/
theorem ents_at {w : World} {b o : Nat} {l : List Ent} (h : ∀ j u, (entsCells l)[j]? = some u → w.cell? ⟨b, o + j, none⟩ = some u) (i : Nat) (x : Ent) (hx : l[i]? = some x) :
    w.cell? ⟨b, o + i * 3, none⟩ = some (.int .i64 x.kind) ∧ w.cell? ⟨b, o + i * 3 + 1, none⟩ = some (.int .i64 x.n) ∧ w.cell? ⟨b, o + i * 3 + 2, none⟩ = some (.int .i64 x.draw) := by
  obtain ⟨h0, h1, h2⟩ := entsCells_get l i x hx
  exact ⟨h _ _ h0, by have := h _ _ h1; rwa [← Nat.add_assoc] at this, by have := h _ _ h2; rwa [← Nat.add_assoc] at this⟩

set_option maxRecDepth 100000 in
set_option maxHeartbeats 400000 in
theorem eqEnt_any (x y : Ent) (w : World) :
    Calls Try.prog 46 #[entV x, entV y] w fun e w' => e = .returned (.bool (decide (x = y))) ∧ Below w.heap.size w w' := by
  unfold entV
  go_enter Try.func46, Try.ntmps46
  go_wp2
  all_goals
    go_ret
    refine ⟨?_, (((Below.refl _ _).alloc (Nat.le_refl _) _).alloc (by simp) _)⟩
  · have e : decide (x = y) = true := by cases x; cases y; simp_all
    rw [e]; rfl
  all_goals
    have e : decide (x = y) = false := by cases x; cases y; simp_all
    rw [e]; rfl

/-- One step of a comparison. -/
theorem take_step {α : Type} [DecidableEq α] {es fs : List α} {k : Nat} {x y : α} (h : es.take k = fs.take k) (hx : es[k]? = some x) (hy : fs[k]? = some y) (e : x = y) : es.take (k + 1) = fs.take (k + 1) := by
  rw [List.take_add_one, List.take_add_one, h, hx, hy, e]
theorem ne_step {α : Type} [DecidableEq α] {es fs : List α} {k : Nat} {x y : α} (hx : es[k]? = some x) (hy : fs[k]? = some y) (e : x ≠ y) : decide (es = fs) = false := by
  simp only [decide_eq_false_iff_not]
  intro h
  subst h
  rw [hx] at hy
  exact e (Option.some.inj hy)
theorem eq_all {α : Type} [DecidableEq α] {es fs : List α} {k : Nat} (h : es.take k = fs.take k) (hn : es.length ≤ k) (hm : fs.length ≤ k) : decide (es = fs) = true := by
  rw [List.take_of_length_le hn, List.take_of_length_le hm] at h
  simp [h]
theorem ne_len {α : Type} [DecidableEq α] {es fs : List α} (h : es.length ≠ fs.length) : decide (es = fs) = false := by
  simp only [decide_eq_false_iff_not]
  intro e
  exact h (by rw [e])

set_option maxRecDepth 100000 in
set_option maxHeartbeats 400000 in
theorem sameEnt_any (ao bo : Option Addr) (n m c d : Nat) (es fs : List Ent) (w : World) (hae : RowAt w ao (entsCells es)) (hbf : RowAt w bo (entsCells fs)) (hn : es.length = n) (hm : fs.length = m) (_hmax : n ≤ 140737488355328) :
    Calls Try.prog 45 #[.slice ao n c, .slice bo m d, .func (.func 46) #[] #[]] w fun e w' => e = .returned (.bool (decide (es = fs))) ∧ Below w.heap.size w w' := by
  have Hn := hidP hn
  have Hm := hidP hm
  clear hn hm
  go_enter Try.func45, Try.ntmps45
  by_cases hnm : n = m
  · subst hnm
    go_wp2_with fail
    go_loopw [7] (fun i wr => ∃ k : Nat, i = .int .i64 k ∧ k ≤ n ∧ Hid (es.take k = fs.take k) ∧ Below w.heap.size w wr) (fun i _ => n - (intOf i).toNat)
    case atStart => exact ⟨0, rfl, Nat.zero_le _, rfl, Below.refl _ _⟩
    case round =>
      obtain ⟨k, rfl, hk, HE, hb⟩ := hrel
      by_cases hlt : k < n
      · obtain ⟨b, o, rfl, hca⟩ := (hae.below hb).addr (by rw [length_entsCells, Hn.out]; omega)
        obtain ⟨b', o', rfl, hcb⟩ := (hbf.below hb).addr (by rw [length_entsCells, Hm.out]; omega)
        obtain ⟨x, hx⟩ : ∃ x, es[k]? = some x := ⟨_, List.getElem?_eq_getElem (by rw [Hn.out]; omega)⟩
        obtain ⟨y, hy⟩ : ∃ y, fs[k]? = some y := ⟨_, List.getElem?_eq_getElem (by rw [Hm.out]; omega)⟩
        obtain ⟨x0, x1, x2⟩ := ents_at hca k x hx
        obtain ⟨y0, y1, y2⟩ := ents_at hcb k y hy
        have HX := hidP hx
        have HY := hidP hy
        clear hx hy hca hcb hae hbf
        go_wp2_with fail
        go_still_tail 9, (by kernel_rfl)
        go_wp2_with (go_at_call 46; refine (eqEnt_any x y _).mono ?_; rintro e w1 ⟨rfl, hb1⟩)
        · have he : (!decide (x = y)) = true := by assumption
          have hd := ne_step HX.out HY.out (by simpa using he)
          go_ret
          exact ⟨by rw [hd]; rfl, hb.drew.trans (hb1.mono hb.size)⟩
        · have he : (!decide (x = y)) = false := by assumption
          go_roundw
          case rel => exact ⟨k + 1, by go_num, by omega, take_step HE.out HX.out HY.out (by simpa using he), hb.drew.trans (hb1.mono hb.size)⟩
          case measure => simp [intOf]; omega
      · have hd := eq_all HE.out (by rw [Hn.out]; omega) (by rw [Hm.out]; omega)
        go_wp2
        go_ret
        exact ⟨by rw [hd]; rfl, hb⟩
  · have hd : decide (es = fs) = false := ne_len (by rw [Hn.out, Hm.out]; exact hnm)
    have HD := hidP hd
    clear hd
    have : ((n:Int) == (m:Int)) = false := by simp; omega
    go_wp2
    go_ret
    exact ⟨by rw [HD.out]; rfl, Below.refl _ _⟩

set_option maxRecDepth 100000 in
set_option maxHeartbeats 400000 in
theorem plainEnt_any (ao bo : Option Addr) (n m c d : Nat) (es fs : List Ent) (w : World) (hae : RowAt w ao (entsCells es)) (hbf : RowAt w bo (entsCells fs)) (hn : es.length = n) (hm : fs.length = m) (hmax : n ≤ 140737488355328) :
    Calls Try.prog 16 #[.slice ao n c, .slice bo m d] w fun e w' => e = .returned (.bool (decide (es = fs))) ∧ Below w.heap.size w w' := by
  have Hn := hidP hn
  have Hm := hidP hm
  clear hn hm
  go_enter Try.func16, Try.ntmps16
  go_wp2_with (go_at_call 45; refine (sameEnt_any _ _ _ _ _ _ es fs _ hae hbf Hn.out Hm.out hmax).mono ?_; rintro e w1 ⟨rfl, hb1⟩)
  go_ret
  exact ⟨rfl, hb1⟩
end Go.Proofs.Ytjjfemhpdhkolaa
