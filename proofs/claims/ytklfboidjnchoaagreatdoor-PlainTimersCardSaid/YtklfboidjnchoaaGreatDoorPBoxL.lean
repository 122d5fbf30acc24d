/-
  Parts of the proof: PBoxL.
-/
import Derived.KernelRfl
import Derived.Test.YtklfboidjnchoaaGreatDoorPPass
namespace Go.Proofs.YtklfboidjnchoaaGreatDoor
set_option linter.unusedVariables false
set_option linter.unusedSimpArgs false
def boxL (a b : Int) : List InstrD :=
  [⟨1, 0, 0, a, []⟩, ⟨15, 1, 0, 0, []⟩, ⟨2, 2, 1, 0, []⟩, ⟨1, 3, 0, b, []⟩, ⟨17, 2, 3, 0, []⟩, ⟨16, 1, 4, 0, []⟩, ⟨13, 4, 0, 0, []⟩, ⟨18, 1, 0, 3, []⟩, ⟨19, 5, 0, 3, []⟩, ⟨16, 5, 0, 0, []⟩, ⟨13, 0, 0, 0, []⟩, ⟨1, 0, 0, 1, []⟩, ⟨3, 4, 0, 0, []⟩, ⟨13, 4, 0, 0, []⟩, ⟨22, 0, 0, 0, []⟩]
def boxM (a b e : Int) (pc : Int) (ev : List EvP) (st : List Int) : MachD :=
  ⟨[⟨pc, [.num 1, .bx 0, .bx 0, .num b, .num e, .bx 0], []⟩], [], [.num b], [], [0], [.num 0, .num 0, .num 0, .bx 0], 0, [], ev, 0, st⟩
theorem box_run (a b : Int) (hb : 0 ≤ b ∧ b ≤ 100000) : (runR (boxL a b) (picksL 20 0)).outcome = 1 ∧ outsR (runR (boxL a b) (picksL 20 0)).events = [b, b, b + 1] := by
  have hop : ∀ x ∈ boxL a b, x.op ≠ 21 := by
    intro x hx
    simp [boxL] at hx
    rcases hx with rfl | rfl | rfl | rfl | rfl | rfl | rfl | rfl | rfl | rfl | rfl | rfl | rfl | rfl | rfl <;> simp
  have h1 : itn (boxL a b) 12 mach0 = boxM a b b 12 [⟨1, 0, b, false⟩, ⟨1, 0, b, false⟩] [0, 0, 0, 0, 0, 0, 0, 0, 0, 0, 0, 0] := by kernel_rfl
  have h2 : stp (boxL a b) (boxM a b b 12 [⟨1, 0, b, false⟩, ⟨1, 0, b, false⟩] [0, 0, 0, 0, 0, 0, 0, 0, 0, 0, 0, 0]) = boxM a b (b + 1) 13 [⟨1, 0, b, false⟩, ⟨1, 0, b, false⟩] [0, 0, 0, 0, 0, 0, 0, 0, 0, 0, 0, 0, 0] := by
    have h3 : stp (boxL a b) (boxM a b b 12 [⟨1, 0, b, false⟩, ⟨1, 0, b, false⟩] [0, 0, 0, 0, 0, 0, 0, 0, 0, 0, 0, 0]) = if b + 1 > 1099511627776 ∨ b + 1 < -1099511627776 then ({ boxM a b b 12 [⟨1, 0, b, false⟩, ⟨1, 0, b, false⟩] [0, 0, 0, 0, 0, 0, 0, 0, 0, 0, 0, 0, 0] with } : MachD).fin 7 0 else boxM a b (b + 1) 13 [⟨1, 0, b, false⟩, ⟨1, 0, b, false⟩] [0, 0, 0, 0, 0, 0, 0, 0, 0, 0, 0, 0, 0] := by kernel_rfl
    rw [h3, if_neg (by omega)]
  have h4 : itn (boxL a b) 20 mach0 = itn (boxL a b) 7 (boxM a b (b + 1) 13 [⟨1, 0, b, false⟩, ⟨1, 0, b, false⟩] [0, 0, 0, 0, 0, 0, 0, 0, 0, 0, 0, 0, 0]) := by
    rw [show (20 : Nat) = 12 + (1 + 7) from rfl, itn_add, h1, itn_add]
    show itn _ 7 (stp _ _) = _
    rw [h2]
  rw [itn_runR _ hop, h4]
  exact ⟨by kernel_rfl, by kernel_rfl⟩
def timL (a b : Int) : List InstrD :=
  [⟨14, 0, 0, a, []⟩, ⟨14, 1, 0, b, []⟩, ⟨21, 0, 0, 0, [⟨2, 0, 2, 3⟩, ⟨2, 1, 3, 5⟩]⟩, ⟨13, 2, 0, 0, []⟩, ⟨11, 0, 0, 6, []⟩, ⟨13, 3, 0, 0, []⟩, ⟨22, 0, 0, 0, []⟩]
def timM (tm : List (Int × Nat)) : MachD :=
  ⟨[⟨2, [.ch 0, .ch 1, .num 0, .num 0, .num 0, .num 0], [0, 1]⟩], [⟨1, false, [], [], [0]⟩, ⟨1, false, [], [], [1]⟩], [], [⟨0, 0, none, 2, 3⟩, ⟨0, 1, none, 3, 5⟩], [], List.replicate 4 (.num 0), 0, tm, [], 0, [0, 0, 0]⟩
def timN (tm : List (Int × Nat)) : MachD :=
  ⟨[⟨2, [.ch 0, .ch 1, .num 0, .num 0, .num 0, .num 0], []⟩], [⟨1, false, [], [], []⟩, ⟨1, false, [], [], []⟩], [], [], [0], List.replicate 4 (.num 0), 0, tm, [], 0, [0, 0]⟩
theorem tim_two (a b : Int) : runR (timL a b) (picksL 2 0) = timN (if a > b then [(b, 1), (a, 0)] else [(a, 0), (b, 1)]) := by
  have h1 : runR (timL a b) (picksL 2 0) = timN (List.take ([((0 : Int) + a, (0 : Nat))].findIdx (fun t => decide (t.1 > 0 + b))) [(0 + a, 0)] ++ [(0 + b, 1)] ++ List.drop ([((0 : Int) + a, (0 : Nat))].findIdx (fun t => decide (t.1 > 0 + b))) [(0 + a, 0)]) := by kernel_rfl
  rw [h1, Int.zero_add, Int.zero_add]
  by_cases h : a > b
  · simp [List.findIdx_cons, h]
  · simp [List.findIdx_cons, h]
theorem tim_pre (a b : Int) : runR (timL a b) (picksL 5 0) = timM (if a > b then [(b, 1), (a, 0)] else [(a, 0), (b, 1)]) := by
  have hp : picksL 5 0 = picksL 2 0 ++ [⟨1, 0, 2⟩, ⟨1, 0, 3⟩, ⟨1, 0, 4⟩] := by rfl
  have h : ∀ p q, [⟨1, 0, 2⟩, ⟨1, 0, 3⟩, ⟨1, 0, 4⟩].foldl (MachD.entry (timL a b)) (timN [p, q]) = timM [p, q] := by intro p q; kernel_rfl
  rw [hp, runR_app, tim_two]
  split <;> exact h _ _
def tim0 (t : Int) (tm : List (Int × Nat)) : MachD := { timM tm with now := t }
theorem tick_none {p q : Int × Nat} {t : Int} (ht : 0 ≤ t ∧ t ≤ 1000) (h : ¬ p.1 ≤ t) : (timM [p, q]).tick t = tim0 t [p, q] := by
  have : ¬ (t < 0 ∨ t > 1000) := by omega
  simp [MachD.tick, this, MachD.tickF, timM, tim0, h]
def timW (t : Int) (tm : List (Int × Nat)) (pc : Int) (x y : PV) (hx hy : List PV) : MachD :=
  ⟨[⟨pc, [.ch 0, .ch 1, x, y, .num 0, .num 0], []⟩], [⟨1, false, hx, [], []⟩, ⟨1, false, hy, [], []⟩], [], [⟨0, 0, none, 2, 3⟩, ⟨0, 1, none, 3, 5⟩], [0], List.replicate 4 (.num 0), t, tm, [], 0, [0, 0, 0]⟩
theorem tick_one0 {p q t : Int} (ht : 0 ≤ t ∧ t ≤ 1000) (h : p ≤ t) (h1 : ¬ q ≤ t) : (timM [(p, 0), (q, 1)]).tick t = timW t [(q, 1)] 3 (.num p) (.num 0) [] [] := by
  have : ¬ (t < 0 ∨ t > 1000) := by omega
  simp [MachD.tick, this, MachD.tickF, timM, timW, h, h1, MachD.send, MachD.chanAt, MachD.wake, MachD.waitAt, MachD.unlink, MachD.unlink1, MachD.setChan, MachD.setGor, MachD.gorAt]
theorem tick_two0 {p q t : Int} (ht : 0 ≤ t ∧ t ≤ 1000) (h : p ≤ t) (h1 : q ≤ t) : (timM [(p, 0), (q, 1)]).tick t = timW t [] 3 (.num p) (.num 0) [] [.num q] := by
  have : ¬ (t < 0 ∨ t > 1000) := by omega
  simp [MachD.tick, this, MachD.tickF, timM, timW, h, h1, MachD.send, MachD.chanAt, MachD.wake, MachD.waitAt, MachD.unlink, MachD.unlink1, MachD.setChan, MachD.setGor, MachD.gorAt]
theorem tick_one1 {p q t : Int} (ht : 0 ≤ t ∧ t ≤ 1000) (h : p ≤ t) (h1 : ¬ q ≤ t) : (timM [(p, 1), (q, 0)]).tick t = timW t [(q, 0)] 5 (.num 0) (.num p) [] [] := by
  have : ¬ (t < 0 ∨ t > 1000) := by omega
  simp [MachD.tick, this, MachD.tickF, timM, timW, h, h1, MachD.send, MachD.chanAt, MachD.wake, MachD.waitAt, MachD.unlink, MachD.unlink1, MachD.setChan, MachD.setGor, MachD.gorAt]
theorem tick_two1 {p q t : Int} (ht : 0 ≤ t ∧ t ≤ 1000) (h : p ≤ t) (h1 : q ≤ t) : (timM [(p, 1), (q, 0)]).tick t = timW t [] 5 (.num 0) (.num p) [.num q] [] := by
  have : ¬ (t < 0 ∨ t > 1000) := by omega
  simp [MachD.tick, this, MachD.tickF, timM, timW, h, h1, MachD.send, MachD.chanAt, MachD.wake, MachD.waitAt, MachD.unlink, MachD.unlink1, MachD.setChan, MachD.setGor, MachD.gorAt]
theorem tim_end0 (a b t : Int) (p q : Int × Nat) : (picksL 6 0).foldl (MachD.entry (timL a b)) (tim0 t [p, q]) = tim0 t [p, q] := by kernel_rfl
theorem tim_end3 (a b t p : Int) (tm : List (Int × Nat)) (y : PV) (hx hy : List PV) : ((picksL 6 0).foldl (MachD.entry (timL a b)) (timW t tm 3 (.num p) y hx hy)).outcome = 1 ∧ outsR ((picksL 6 0).foldl (MachD.entry (timL a b)) (timW t tm 3 (.num p) y hx hy)).events = [p] := ⟨by kernel_rfl, by kernel_rfl⟩
theorem tim_end5 (a b t p : Int) (tm : List (Int × Nat)) (y : PV) (hx hy : List PV) : ((picksL 6 0).foldl (MachD.entry (timL a b)) (timW t tm 5 y (.num p) hx hy)).outcome = 1 ∧ outsR ((picksL 6 0).foldl (MachD.entry (timL a b)) (timW t tm 5 y (.num p) hx hy)).events = [p] := ⟨by kernel_rfl, by kernel_rfl⟩
theorem tim_run (a b t : Int) (ha : 0 ≤ a) (hb : 0 ≤ b) (ht : 0 ≤ t ∧ t ≤ 1000) :
    if t < min a b then (runR (timL a b) (picksL 5 0 ++ [⟨2, t, 0⟩] ++ picksL 6 0)).outcome = 0 ∧ (runR (timL a b) (picksL 5 0 ++ [⟨2, t, 0⟩] ++ picksL 6 0)).events = []
    else (runR (timL a b) (picksL 5 0 ++ [⟨2, t, 0⟩] ++ picksL 6 0)).outcome = 1 ∧ outsR (runR (timL a b) (picksL 5 0 ++ [⟨2, t, 0⟩] ++ picksL 6 0)).events = [min a b] := by
  rw [runR_app, runR_app, tim_pre, List.foldl_cons, List.foldl_nil]
  have he : ∀ p q : Int × Nat, MachD.entry (timL a b) (timM [p, q]) ⟨2, t, 0⟩ = (timM [p, q]).tick t := fun p q => rfl
  by_cases hab : a > b
  · rw [if_pos hab, he]
    have hm : min a b = b := by omega
    rw [hm]
    by_cases h1 : b ≤ t
    · rw [if_neg (by omega)]
      by_cases h2 : a ≤ t
      · rw [tick_two1 ht h1 h2]; exact tim_end5 _ _ _ _ _ _ _ _
      · rw [tick_one1 ht h1 h2]; exact tim_end5 _ _ _ _ _ _ _ _
    · rw [if_pos (by omega), tick_none ht h1, tim_end0]
      exact ⟨rfl, rfl⟩
  · rw [if_neg hab, he]
    have hm : min a b = a := by omega
    rw [hm]
    by_cases h1 : a ≤ t
    · rw [if_neg (by omega)]
      by_cases h2 : b ≤ t
      · rw [tick_two0 ht h1 h2]; exact tim_end3 _ _ _ _ _ _ _ _
      · rw [tick_one0 ht h1 h2]; exact tim_end3 _ _ _ _ _ _ _ _
    · rw [if_pos (by omega), tick_none ht h1, tim_end0]
      exact ⟨rfl, rfl⟩
end Go.Proofs.YtklfboidjnchoaaGreatDoor
