/-
  Parts of the proof: PPass.
-/
import Derived.Test.YtklfboidjnchoaaGreatDoorZ11
namespace Go.Proofs.YtklfboidjnchoaaGreatDoor
set_option linter.unusedVariables false
set_option linter.unusedSimpArgs false
def passL (c : Nat) (f : Int) : List InstrD :=
  [⟨4, 0, 0, c, []⟩, ⟨1, 1, 0, f, []⟩, ⟨1, 2, 0, 1, []⟩, ⟨10, 0, 0, 7, []⟩, ⟨6, 0, 3, 0, []⟩, ⟨13, 3, 0, 0, []⟩, ⟨11, 0, 0, 4, []⟩, ⟨5, 0, 1, 0, []⟩, ⟨3, 1, 2, 0, []⟩, ⟨11, 0, 0, 7, []⟩]
def pst (c : Nat) (f pc0 : Int) (d : PV) (w0 : List Nat) (pc1 b : Int) (w1 : List Nat) (held : List PV) (sends takes : List Nat) (ws : List WaitD) (q : List Nat) (E : List EvP) (T : List Int) : MachD :=
  ⟨[⟨pc0, [.ch 0, .num f, .num 1, d, .num 0, .num 0], w0⟩, ⟨pc1, [.ch 0, .num b, .num 1, .num 0, .num 0, .num 0], w1⟩], [⟨c, false, held, sends, takes⟩], [], ws, q, List.replicate 4 (.num 0), 0, [], E, 0, T⟩
def stp (l : List InstrD) (m : MachD) : MachD := m.entry l ⟨1, 0, 0⟩
def itn (l : List InstrD) : Nat → MachD → MachD
  | 0, m => m
  | n + 1, m => itn l n (stp l m)
theorem itn_add (l : List InstrD) : ∀ (a b : Nat) (m : MachD), itn l (a + b) m = itn l b (itn l a m)
  | 0, b, m => by rw [Nat.zero_add]; rfl
  | a + 1, b, m => by rw [Nat.add_right_comm]; exact itn_add l a b (stp l m)
section
variable {c : Nat} {f b b' : Int} {d : PV} {held : List PV} {ws : List WaitD} {E : List EvP} {T : List Int} {w : Nat} {q : List Nat} {sends takes w0 w1 : List Nat} {pc0 pc1 : Int}
theorem pass_out : stp (passL c f) (pst c f 5 (.num b) w0 pc1 b' w1 held sends takes ws (0 :: q) E T) = pst c f 6 (.num b) w0 pc1 b' w1 held sends takes ws (0 :: q) (E ++ [⟨1, 0, b, false⟩]) (T ++ [0]) := rfl
theorem pass_j0 : stp (passL c f) (pst c f 6 d w0 pc1 b w1 held sends takes ws (0 :: q) E T) = pst c f 4 d w0 pc1 b w1 held sends takes ws (0 :: q) E (T ++ [0]) := rfl
theorem pass_j1 : stp (passL c f) (pst c f pc0 d w0 9 b w1 held sends takes ws (1 :: q) E T) = pst c f pc0 d w0 7 b w1 held sends takes ws (1 :: q) E (T ++ [1]) := rfl
theorem pass_add (h : -1000000 ≤ b ∧ b ≤ 1000000) : stp (passL c f) (pst c f pc0 d w0 8 b w1 held sends takes ws (1 :: q) E T) = pst c f pc0 d w0 9 (b + 1) w1 held sends takes ws (1 :: q) E (T ++ [1]) := by
  show (if b + 1 > 1099511627776 ∨ b + 1 < -1099511627776 then _ else _) = _
  rw [if_neg (by omega)]
  rfl
theorem pass_wakeT (h : ws.getD w waitZ = ⟨0, 0, none, 3, 5⟩) : stp (passL c f) (pst c f pc0 d [w] 7 b [] held [] [w] ws [1] E T) = pst c f 5 (.num b) [] 8 b [] held [] [] ws [1, 0] E (T ++ [1]) := by
  try rw [List.getD_eq_getElem?_getD] at h
  simp [stp, pst, MachD.entry, MachD.pick, MachD.doI, passL, MachD.choose, MachD.tryF, MachD.doneC, MachD.toR, MachD.reg, MachD.gorAt, MachD.send, MachD.chanAt, MachD.wake, MachD.waitAt, h, MachD.unlink, MachD.unlink1, MachD.setChan, MachD.setGor, MachD.settle, MachD.setPc]
theorem pass_put (h : held.length < c) : stp (passL c f) (pst c f pc0 d w0 7 b [] held [] [] ws (1 :: q) E T) = pst c f pc0 d w0 8 b [] (held ++ [.num b]) [] [] ws (1 :: q) E (T ++ [1]) := by
  try rw [List.getD_eq_getElem?_getD] at h
  simp [stp, pst, MachD.entry, MachD.pick, MachD.doI, passL, MachD.choose, MachD.tryF, MachD.doneC, MachD.toR, MachD.reg, MachD.gorAt, MachD.send, MachD.chanAt, h, MachD.setChan, MachD.setGor, MachD.settle, MachD.setPc]
theorem pass_full (h : held.length = c) : stp (passL c f) (pst c f pc0 d w0 7 b [] held [] [] ws [1, 0] E T) = pst c f pc0 d w0 7 b [ws.length] held [ws.length] [] (ws ++ [⟨1, 0, some (.num b), -1, 8⟩]) [0] E (T ++ [1]) := by
  try rw [List.getD_eq_getElem?_getD] at h
  simp [stp, pst, MachD.entry, MachD.pick, MachD.doI, passL, MachD.choose, MachD.tryF, MachD.doneC, MachD.toR, MachD.reg, MachD.gorAt, MachD.send, MachD.chanAt, h, MachD.setChan, MachD.setGor, MachD.settle, MachD.setPc, MachD.waitAll, MachD.wait1, MachD.leave]
theorem pass_take {x : PV} {r : List PV} : stp (passL c f) (pst c f 4 d [] pc1 b w1 (x :: r) [] [] ws (0 :: q) E T) = pst c f 5 x [] pc1 b w1 r [] [] ws (0 :: q) E (T ++ [0]) := by
  try rw [List.getD_eq_getElem?_getD] at h
  simp [stp, pst, MachD.entry, MachD.pick, MachD.doI, passL, MachD.choose, MachD.tryF, MachD.doneC, MachD.fromR, MachD.reg, MachD.gorAt, MachD.take, MachD.chanAt, MachD.setChan, MachD.setGor, MachD.settle, MachD.setPc, MachD.setReg]
theorem pass_takeS {x : PV} {r : List PV} {v : PV} (h : ws.getD w waitZ = ⟨1, 0, some v, -1, 8⟩) : stp (passL c f) (pst c f 4 d [] pc1 b [w] (x :: r) [w] [] ws [0] E T) = pst c f 5 x [] 8 b [] (r ++ [v]) [] [] ws [0, 1] E (T ++ [0]) := by
  try rw [List.getD_eq_getElem?_getD] at h
  simp [stp, pst, MachD.entry, MachD.pick, MachD.doI, passL, MachD.choose, MachD.tryF, MachD.doneC, MachD.fromR, MachD.reg, MachD.gorAt, MachD.take, MachD.sender, MachD.wake, MachD.waitAt, h, MachD.unlink, MachD.unlink1, MachD.chanAt, MachD.setChan, MachD.setGor, MachD.settle, MachD.setPc, MachD.setReg]
theorem pass_take0 {v : PV} (h : ws.getD w waitZ = ⟨1, 0, some v, -1, 8⟩) : stp (passL c f) (pst c f 4 d [] pc1 b [w] [] [w] [] ws [0] E T) = pst c f 5 v [] 8 b [] [] [] [] ws [0, 1] E (T ++ [0]) := by
  try rw [List.getD_eq_getElem?_getD] at h
  simp [stp, pst, MachD.entry, MachD.pick, MachD.doI, passL, MachD.choose, MachD.tryF, MachD.doneC, MachD.fromR, MachD.reg, MachD.gorAt, MachD.take, MachD.sender, MachD.wake, MachD.waitAt, h, MachD.unlink, MachD.unlink1, MachD.chanAt, MachD.setChan, MachD.setGor, MachD.settle, MachD.setPc, MachD.setReg]
theorem pass_wait : stp (passL c f) (pst c f 4 d [] pc1 b [] [] [] [] ws [0, 1] E T) = pst c f 4 d [ws.length] pc1 b [] [] [] [ws.length] (ws ++ [⟨0, 0, none, 3, 5⟩]) [1] E (T ++ [0]) := by
  try rw [List.getD_eq_getElem?_getD] at h
  simp [stp, pst, MachD.entry, MachD.pick, MachD.doI, passL, MachD.choose, MachD.tryF, MachD.doneC, MachD.fromR, MachD.reg, MachD.gorAt, MachD.take, MachD.chanAt, MachD.setChan, MachD.setGor, MachD.settle, MachD.setPc, MachD.waitAll, MachD.wait1, MachD.leave]
end
def rngV (a : Int) (n : Nat) : List PV := (List.range n).map fun (i : Nat) => PV.num (a + (i : Int))
def rngE (a : Int) (n : Nat) : List EvP := (List.range n).map fun (i : Nat) => (⟨1, 0, a + (i : Int), false⟩ : EvP)
theorem rngV_len (a : Int) (n : Nat) : (rngV a n).length = n := by simp [rngV]
theorem rngV_succ (a : Int) (n : Nat) : rngV a (n + 1) = rngV a n ++ [.num (a + n)] := by simp [rngV, List.range_succ]
theorem rngE_succ (a : Int) (n : Nat) : rngE a (n + 1) = rngE a n ++ [⟨1, 0, a + n, false⟩] := by simp [rngE, List.range_succ]
theorem rngV_cons (a : Int) (n : Nat) : rngV a (n + 1) = .num a :: rngV (a + 1) n := by
  unfold rngV
  rw [List.range_succ_eq_map, List.map_cons, List.map_map]
  congr 1
  · simp
  · apply List.map_congr_left; intro i _; simp [Function.comp]; omega
def passS (c : Nat) (f v : Int) (k : Nat) (m : MachD) : Prop :=
  ∃ pc d w ws T, ws.getD w waitZ = ⟨0, 0, none, 3, 5⟩ ∧ m = pst c f pc d [w] 7 v [] [] [] [w] ws [1] (rngE f k) T
theorem itn_three (l : List InstrD) (m : MachD) : itn l 3 m = stp l (stp l (stp l m)) := rfl
theorem getD_new (ws : List WaitD) (x : WaitD) : (ws ++ [x]).getD ws.length waitZ = x := by simp
section
variable {c : Nat} {f v : Int} {k : Nat} {m : MachD}
theorem pass_F (h : passS c f v k m) (hb : 0 ≤ v ∧ v + c ≤ 900000) : ∀ j : Nat, j ≤ c → ∃ ws T, itn (passL c f) (3 + 3 * j) m = pst c f 5 (.num v) [] 7 (v + 1 + j) [] (rngV (v + 1) j) [] [] ws [1, 0] (rngE f k) T := by
  intro j
  induction j with
  | zero =>
    intro _
    obtain ⟨pc, d, w, ws, T, hw, rfl⟩ := h
    rw [Nat.mul_zero, Nat.add_zero, itn_three, pass_wakeT hw, pass_add (by omega), pass_j1]
    exact ⟨_, _, by simp [rngV]; rfl⟩
  | succ j ih =>
    intro hj
    obtain ⟨ws, T, e⟩ := ih (by omega)
    rw [show 3 + 3 * (j + 1) = (3 + 3 * j) + 3 by omega, itn_add, e, itn_three, pass_put (by rw [rngV_len]; omega), pass_add (by omega), pass_j1]
    exact ⟨ws, _, by rw [rngV_succ, show v + 1 + (j : Int) + 1 = v + 1 + ((j + 1 : Nat) : Int) by omega]⟩
theorem pass_G (h : passS c f v k m) (hb : 0 ≤ v ∧ v + c ≤ 900000) : ∃ w ws T, ws.getD w waitZ = ⟨1, 0, some (.num (v + 1 + c)), -1, 8⟩ ∧ itn (passL c f) (3 + 3 * c + 1) m = pst c f 5 (.num v) [] 7 (v + 1 + c) [w] (rngV (v + 1) c) [w] [] ws [0] (rngE f k) T := by
  obtain ⟨ws, T, e⟩ := pass_F h hb c (Nat.le_refl _)
  rw [itn_add, e]
  exact ⟨ws.length, _, _, getD_new _ _, pass_full (rngV_len _ _)⟩
theorem pass_H0 (h : passS c f v k m) (hv : v = f + k) (hb : 0 ≤ v ∧ v + c ≤ 900000) : ∃ ws T, itn (passL c f) (3 + 3 * c + 1 + 3) m = pst c f 5 (.num (v + 1)) [] 8 (v + 1 + c) [] (rngV (v + 2) c) [] [] ws [0, 1] (rngE f (k + 1)) T := by
  obtain ⟨w, ws, T, hw, e⟩ := pass_G h hb
  rw [itn_add, e, itn_three, pass_out, pass_j0, rngE_succ, ← hv]
  cases c with
  | zero =>
    rw [show rngV (v + 1) 0 = [] from rfl, pass_take0 hw]
    exact ⟨_, _, by simp [rngV]; rfl⟩
  | succ c =>
    rw [rngV_cons, pass_takeS hw]
    exact ⟨_, _, by rw [rngV_succ (v + 2) c, show v + 1 + 1 = v + 2 by omega, show v + 1 + ((c + 1 : Nat) : Int) = v + 2 + c by omega]⟩
theorem pass_H (h : passS c f v k m) (hv : v = f + k) (hb : 0 ≤ v ∧ v + c ≤ 900000) : ∀ i : Nat, i ≤ c → ∃ ws T, itn (passL c f) (3 + 3 * c + 1 + 3 + 3 * i) m = pst c f 5 (.num (v + 1 + i)) [] 8 (v + 1 + c) [] (rngV (v + 2 + i) (c - i)) [] [] ws [0, 1] (rngE f (k + 1 + i)) T := by
  intro i
  induction i with
  | zero =>
    intro _
    obtain ⟨ws, T, e⟩ := pass_H0 h hv hb
    exact ⟨ws, T, by simpa using e⟩
  | succ i ih =>
    intro hi
    obtain ⟨ws, T, e⟩ := ih (by omega)
    obtain ⟨j, hj⟩ : ∃ j, c - i = j + 1 := ⟨c - i - 1, by omega⟩
    rw [show 3 + 3 * c + 1 + 3 + 3 * (i + 1) = (3 + 3 * c + 1 + 3 + 3 * i) + 3 by omega, itn_add, e, itn_three, pass_out, pass_j0, hj, rngV_cons, pass_take]
    exact ⟨ws, _, by rw [show c - (i + 1) = j by omega, show k + 1 + (i + 1) = (k + 1 + i) + 1 by omega, rngE_succ, show v + 2 + (i : Int) = v + 1 + ((i + 1 : Nat) : Int) by omega, show f + ((k + 1 + i : Nat) : Int) = v + 1 + (i : Int) by omega, show v + 1 + ((i + 1 : Nat) : Int) + 1 = v + 2 + ((i + 1 : Nat) : Int) by omega]⟩
theorem pass_cycle (h : passS c f v k m) (hv : v = f + k) (hb : 0 ≤ v ∧ v + c ≤ 900000) : passS c f (v + c + 2) (k + c + 2) (itn (passL c f) (6 * (c + 2)) m) := by
  obtain ⟨ws, T, e⟩ := pass_H h hv hb c (Nat.le_refl _)
  rw [show 6 * (c + 2) = (3 + 3 * c + 1 + 3 + 3 * c) + 5 by omega, itn_add, e, Nat.sub_self, show rngV (v + 2 + (c : Int)) 0 = [] from rfl, show (5 : Nat) = 3 + 2 from rfl, itn_add, itn_three, pass_out, pass_j0, pass_wait]
  show passS c f (v + c + 2) (k + c + 2) (stp _ (stp _ _))
  rw [pass_add (by omega), pass_j1]
  exact ⟨4, .num (v + 1 + c), ws.length, ws ++ [⟨0, 0, none, 3, 5⟩], _, getD_new _ _, by rw [show v + 1 + (c : Int) + 1 = v + c + 2 by omega, show k + c + 2 = (k + 1 + c) + 1 by omega, rngE_succ, show f + ((k + 1 + c : Nat) : Int) = v + 1 + c by omega]⟩
end
theorem pass_start (c : Nat) (f : Int) : passS c f f 0 (itn (passL c f) 5 mach0) := by
  refine ⟨4, .num 0, 0, [⟨0, 0, none, 3, 5⟩], [0, 0, 0, 0, 0], rfl, ?_⟩
  simp [itn, stp, pst, mach0, MachD.entry, MachD.pick, MachD.doI, passL, MachD.choose, MachD.tryF, MachD.doneC, MachD.fromR, MachD.reg, MachD.gorAt, MachD.take, MachD.chanAt, MachD.setChan, MachD.setGor, MachD.settle, MachD.setPc, MachD.waitAll, MachD.wait1, MachD.leave, MachD.words, MachD.incPc, MachD.setReg, MachD.add, rngE]
theorem pass_at (c : Nat) (f : Int) (hf : 0 ≤ f ∧ f ≤ 1000) (hc : c ≤ 3) : ∀ j : Nat, j ≤ 1000 → passS c f (f + ((c + 2) * j : Nat)) ((c + 2) * j) (itn (passL c f) (5 + 6 * (c + 2) * j) mach0) := by
  intro j
  induction j with
  | zero => intro _; simpa using pass_start c f
  | succ j ih =>
    intro hj
    have h1 : (c + 2) * j ≤ 5 * 1000 := Nat.mul_le_mul (by omega) (by omega)
    have h := pass_cycle (ih (by omega)) rfl (by omega)
    rw [show 5 + 6 * (c + 2) * (j + 1) = (5 + 6 * (c + 2) * j) + 6 * (c + 2) by rw [Nat.mul_add]; omega, itn_add]
    rw [show (c + 2) * j + c + 2 = (c + 2) * (j + 1) by rw [Nat.mul_add]; omega, show f + (((c + 2) * j : Nat) : Int) + c + 2 = f + (((c + 2) * (j + 1) : Nat) : Int) by rw [Nat.mul_add]; omega] at h
    exact h
theorem itn_runR (l : List InstrD) (h : ∀ x ∈ l, x.op ≠ 21) (n : Nat) : runR l (picksL n 0) = itn l n mach0 := by
  have hd : ∀ m (d : Int), m.entry l ⟨1, 0, d⟩ = stp l m := by
    intro m d
    unfold stp MachD.entry MachD.pick
    dsimp only
    split
    · rfl
    · split
      · split
        · rfl
        · generalize ({ m with steps := _ } : MachD) = m1
          have hx : ∀ x : InstrD, x.op ≠ 21 → ∀ g, m1.doI g x d = m1.doI g x 0 := by
            intro x hx g
            unfold MachD.doI
            rw [if_neg hx, if_neg hx]
          apply hx
          split
          · rename_i hlt
            generalize hg : (m.gorAt _).pc = pc at hlt
            rw [List.getD_eq_getElem?_getD]
            cases hq : l[pc.toNat]? with
            | none => decide
            | some y => exact h y (List.mem_of_getElem? hq)
          · decide
      · rfl
  unfold runR
  generalize mach0 = m
  induction n generalizing m with
  | zero => rfl
  | succ n ih =>
    rw [picksL_succ, List.foldl_append, ih, List.foldl_cons, List.foldl_nil, hd]
    have : ∀ (n : Nat) (m : MachD), stp l (itn l n m) = itn l (n + 1) m := by
      intro n
      induction n with
      | zero => intro m; rfl
      | succ n ih => intro m; exact ih (stp l m)
    exact this n m
theorem outs_rng (f : Int) (k : Nat) : outsR (rngE f k) = (List.range k).map fun (i : Nat) => f + (i : Int) := by
  unfold outsR rngE
  rw [List.filter_map, List.map_map]
  have : (List.range k).filter ((fun e : EvP => e.kind == 1) ∘ fun i : Nat => (⟨1, 0, f + (i : Int), false⟩ : EvP)) = List.range k := List.filter_eq_self.2 (by intro a _; rfl)
  rw [this]
  rfl
theorem passL_op (c : Nat) (f : Int) : ∀ x ∈ passL c f, x.op ≠ 21 := by
  intro x hx
  simp [passL] at hx
  rcases hx with rfl | rfl | rfl | rfl | rfl | rfl | rfl | rfl | rfl | rfl <;> simp
theorem pass_law (c : Nat) (f : Int) (n : Nat) (hf : 0 ≤ f ∧ f ≤ 1000) (hc : c ≤ 3) (hn : 1 ≤ n ∧ n ≤ 10) :
    (runR (passL c f) (picksL (12 * n + 40) 0)).outcome = 0 ∧ n ≤ (outsR (runR (passL c f) (picksL (12 * n + 40) 0)).events).length ∧ ∀ (i : Nat) (x : Int), (outsR (runR (passL c f) (picksL (12 * n + 40) 0)).events)[i]? = some x → x = f + i := by
  have hp := fun N => itn_runR (passL c f) (passL_op c f) N
  have key : ∀ a b : Nat, Ext (runR (passL c f) (picksL a 0)) (runR (passL c f) (picksL (a + b) 0)) ∧ ((runR (passL c f) (picksL a 0)).outcome = 0 ∨ runR (passL c f) (picksL (a + b) 0) = runR (passL c f) (picksL a 0)) := by
    intro a b
    have hs : ∃ t, picksL (a + b) 0 = picksL a 0 ++ t := by
      induction b with
      | zero => exact ⟨[], by simp⟩
      | succ b ih =>
        obtain ⟨t, ht⟩ := ih
        exact ⟨t ++ [⟨1, 0, ((a + b : Nat) : Int)⟩], by rw [← Nat.add_assoc, picksL_succ, ht, List.append_assoc]⟩
    obtain ⟨t, ht⟩ := hs
    rw [ht]
    exact runR_ext _ _ _
  have at' : ∀ j, j ≤ 1000 → (runR (passL c f) (picksL (5 + 6 * (c + 2) * j) 0)).outcome = 0 ∧ (runR (passL c f) (picksL (5 + 6 * (c + 2) * j) 0)).events = rngE f ((c + 2) * j) := by
    intro j hj
    rw [hp]
    obtain ⟨pc, d, w, ws, T, _, e⟩ := pass_at c f hf hc j hj
    rw [e]
    exact ⟨rfl, rfl⟩
  obtain ⟨hA, hB⟩ : (5 + 6 * (c + 2) * n ≥ 0) ∧ 5 + 6 * (c + 2) * 100 ≥ 12 * n + 40 := ⟨by omega, by
    have : 6 * (c + 2) * 100 ≥ 6 * 2 * 100 := Nat.mul_le_mul (Nat.mul_le_mul (Nat.le_refl _) (by omega)) (Nat.le_refl _)
    omega⟩
  obtain ⟨b, hb⟩ : ∃ b, 12 * n + 40 + b = 5 + 6 * (c + 2) * 100 := ⟨5 + 6 * (c + 2) * 100 - (12 * n + 40), by omega⟩
  obtain ⟨o2, e2⟩ := at' 100 (by omega)
  obtain ⟨⟨⟨t, ht⟩, _⟩, ho⟩ := key (12 * n + 40) b
  rw [hb] at ht ho
  obtain ⟨j, hj, hj1⟩ : ∃ j, n ≤ (c + 2) * j ∧ 5 + 6 * (c + 2) * j ≤ 12 * n + 40 ∧ j ≤ 1000 := by
    refine ⟨(n + c + 1) / (c + 2), ?_, ?_, ?_⟩
    · have := Nat.div_add_mod (n + c + 1) (c + 2)
      have := Nat.mod_lt (n + c + 1) (y := c + 2) (by omega)
      omega
    · have h1 : (c + 2) * ((n + c + 1) / (c + 2)) ≤ n + c + 1 := Nat.mul_div_le _ _
      rw [Nat.mul_assoc]
      omega
    · have := Nat.div_le_self (n + c + 1) (c + 2)
      omega
  obtain ⟨o1, e1⟩ := at' j hj1.2
  obtain ⟨b1, hb1⟩ : ∃ b1, 5 + 6 * (c + 2) * j + b1 = 12 * n + 40 := ⟨12 * n + 40 - (5 + 6 * (c + 2) * j), by omega⟩
  obtain ⟨⟨⟨t1, ht1⟩, _⟩, _⟩ := key (5 + 6 * (c + 2) * j) b1
  rw [hb1] at ht1
  refine ⟨?_, ?_, ?_⟩
  · rcases ho with ho | ho
    · exact ho
    · rw [← ho]; exact o2
  · rw [ht1, outs_app, List.length_append, e1, outs_rng, List.length_map, List.length_range]
    omega
  · intro i x hx
    rw [e2] at ht
    have h3 : outsR (rngE f ((c + 2) * 100)) = outsR (runR (passL c f) (picksL (12 * n + 40) 0)).events ++ outsR t := by rw [ht, outs_app]
    rw [outs_rng] at h3
    have h4 : ((List.range ((c + 2) * 100)).map fun (i : Nat) => f + (i : Int))[i]? = some x := by
      rw [h3, List.getElem?_append_left (List.getElem?_eq_some_iff.1 hx).1]
      exact hx
    simp [List.getElem?_range] at h4
    obtain ⟨a, ha, rfl⟩ := h4
    obtain ⟨_, rfl⟩ := List.getElem?_eq_some_iff.1 ha
    simp
end Go.Proofs.YtklfboidjnchoaaGreatDoor
