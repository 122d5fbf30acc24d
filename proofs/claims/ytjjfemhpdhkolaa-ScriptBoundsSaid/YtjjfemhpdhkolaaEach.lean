/-
  The walks of the law ScriptEach, and of the test that the program is awake.
-/
import Derived.Test.YtjjfemhpdhkolaaScript
import Derived.Test.YtjjfemhpdhkolaaCmp
namespace Go.Proofs.Ytjjfemhpdhkolaa
open Go.RowKit
set_option linter.unusedVariables false

theorem plainEnt_yes (ao bo : Option Addr) (n m c d : Nat) (es fs : List Ent) (w : World) (hae : RowAt w ao (entsCells es)) (hbf : RowAt w bo (entsCells fs)) (hn : es.length = n) (hm : fs.length = m) (hmax : n ≤ 140737488355328) (he : es = fs) :
    Calls Try.prog 16 #[.slice ao n c, .slice bo m d] w fun e w' => e = .returned (.bool true) ∧ Below w.heap.size w w' := by
  have h : decide (es = fs) = true := by simp [he]
  rw [← h]
  exact plainEnt_any ao bo n m c d es fs w hae hbf hn hm hmax

theorem entries_at (w : World) (ao : Option Addr) (n cap : Nat) (zs : List Int) (k : Nat) (es : List Ent) (hr : RowAt w ao (zs.map (Value.int .u8))) (hn : zs.length = n) (hz : ∀ j, 0 ≤ zs.getD j 0 ∧ zs.getD j 0 < 256) (hmax : n ≤ 140737488355328) (hk : es.length = k) (he : entries zs = es) :
    Calls Try.prog 14 #[.slice ao n cap] w (RetRow w 26 3 k (entsCells es)) := by
  have h := entries_any w ao n cap zs hr hn hz hmax
  rw [← length_entries, he, hk] at h
  exact h

theorem entries_awake : entries [18, 3, 200, 5] = [⟨1, 2, 3⟩, ⟨3, 5, 0⟩] := by decide

set_option maxRecDepth 100000 in
set_option maxHeartbeats 400000 in
theorem awake27_any (w : World) : Calls Try.prog 15 #[] w fun e w' => e = .returned (.bool true) ∧ Below w.heap.size w w' := by
  go_enter Try.func15, Try.ntmps15
  go_wp2_with fail
  refine (entries_at _ _ 4 4 [18, 3, 200, 5] 2 [⟨1, 2, 3⟩, ⟨3, 5, 0⟩] (RowAt.new w ([18, 3, 200, 5].map (Value.int .u8)) _) rfl (by intro j; match j with | 0 | 1 | 2 | 3 => decide | j + 4 => simp) (by omega) rfl entries_awake).mono ?_
  rintro e w1 ⟨ao, cap, rfl, hown, hb⟩
  go_wp2_with fail
  refine (plainEnt_yes _ _ _ _ _ _ [⟨1, 2, 3⟩, ⟨3, 5, 0⟩] [⟨1, 2, 3⟩, ⟨3, 5, 0⟩] _ ((owns_row hown).alloc _) (RowAt.new w1 (entsCells [⟨1, 2, 3⟩, ⟨3, 5, 0⟩]) _) rfl rfl (by decide) rfl).mono ?_
  rintro e w2 ⟨rfl, hb2⟩
  go_wp2
  go_ret
  exact ⟨rfl, bstep (bnew (bstep (bnew (brefl _) _) hb) _) hb2⟩

theorem getD_two (p q : Int) (hp : 0 ≤ p ∧ p < 256) (hq : 0 ≤ q ∧ q < 256) : ∀ j, 0 ≤ [p, q].getD j 0 ∧ [p, q].getD j 0 < 256 := by
  intro j
  match j with
  | 0 => exact hp
  | 1 => exact hq
  | j + 2 => simp
theorem getD_one (p : Int) (hp : 0 ≤ p ∧ p < 256) : ∀ j, 0 ≤ [p].getD j 0 ∧ [p].getD j 0 < 256 := by
  intro j
  match j with
  | 0 => exact hp
  | j + 1 => simp
theorem entries_two (p q : Int) : entries [p, q] = [entOf p q] := by simp [entries, entCount, List.range_succ, entAt]
theorem entries_one (p : Int) : entries [p] = [entOf p 0] := by simp [entries, entCount, List.range_succ, entAt]
theorem entries_nil : entries [] = [] := rfl

set_option maxRecDepth 100000 in
set_option maxHeartbeats 1000000 in
theorem scriptEach_any (p q : Int) (w : World) (hp : 0 ≤ p ∧ p < 256) (hq : 0 ≤ q ∧ q < 256) :
    Calls Try.prog 3 #[.int .u8 p, .int .u8 q] w fun e w' => e = .returned (.bool true) ∧ Below w.heap.size w w' := by
  obtain ⟨hp0, hp1⟩ := hp
  obtain ⟨hq0, hq1⟩ := hq
  go_enter Try.func3, Try.ntmps3
  go_wp2_with fail
  refine (entries_at _ _ 2 2 [p, q] 1 [entOf p q] (RowAt.new w ([p, q].map (Value.int .u8)) _) rfl (getD_two p q ⟨hp0, hp1⟩ ⟨hq0, hq1⟩) (by omega) rfl (entries_two p q)).mono ?_
  rintro e w1 ⟨a1, c1, rfl, hown1, hb1⟩
  have hB1 := bstep (bnew (brefl w) _) hb1
  clear hb1
  go_wp2_with fail
  refine (entries_at _ _ 1 1 [p] 1 [entOf p 0] (RowAt.new w1 ([p].map (Value.int .u8)) _) rfl (getD_one p ⟨hp0, hp1⟩) (by omega) rfl (entries_one p)).mono ?_
  rintro e w2 ⟨a2, c2, rfl, hown2, hb2⟩
  have r1 := ((owns_row hown1).alloc _).below hb2
  have hB2 := bstep (bnew hB1 _) hb2
  have r2 := owns_row hown2
  clear hb2 hown1 hown2
  go_wp2_with fail
  refine (entries_at _ _ 2 2 [p, 0] 1 [entOf p 0] (RowAt.new w2 ([p, 0].map (Value.int .u8)) _) rfl (getD_two p 0 ⟨hp0, hp1⟩ (by omega)) (by omega) rfl (entries_two p 0)).mono ?_
  rintro e w3 ⟨a3, c3, rfl, hown3, hb3⟩
  have r1 := (r1.alloc _).below hb3
  have r2 := (r2.alloc _).below hb3
  have hB3 := bstep (bnew hB2 _) hb3
  have r3 := owns_row hown3
  clear hb3 hown3
  by_cases h1 : p < 160
  · have HE : Hid (entOf p q = ⟨1, p % 16, q % 16⟩) := by show _ = _; unfold entOf; rw [if_pos h1]
    go_wp2_with fail
    refine (awake27_any _).mono ?_
    rintro e w4 ⟨rfl, hb4⟩
    have r1 := (r1.alloc _).below hb4
    have r2 := (r2.alloc _).below hb4
    have r3 := (r3.alloc _).below hb4
    have hB4 := bstep (bnew hB3 _) hb4
    obtain ⟨hc, hf⟩ := bcell hb4
    go_wp2_with fail
    refine (plainEnt_yes _ _ _ _ _ _ [entOf p q] [⟨1, p % 16, q % 16⟩] _ (r1.alloc _) (RowAt.new w4 (entsCells [⟨1, p % 16, q % 16⟩]) _) rfl rfl (by simp) (by rw [HE.out])).mono ?_
    rintro e w5 ⟨rfl, hb5⟩
    have hB5 := bstep (bnew hB4 _) hb5
    have r2 := (r2.alloc _).below hb5
    have r3 := (r3.alloc _).below hb5
    go_wp2_with fail
    refine (plainEnt_yes _ _ _ _ _ _ [entOf p 0] [entOf p 0] _ r2 r3 rfl rfl (by simp) rfl).mono ?_
    rintro e w6 ⟨rfl, hb6⟩
    have hB6 := bstep hB5 hb6
    go_wp2_with fail
    refine (entries_at _ none 0 0 [] 0 [] (RowAt.nil _ _) rfl (by simp) (by omega) rfl entries_nil).mono ?_
    rintro e w7 ⟨a7, c7, rfl, hown7, hb7⟩
    have hB7 := bstep hB6 hb7
    go_wp2
    go_ret
    exact ⟨rfl, hB7⟩
  · by_cases h2 : p < 192
    · have HE : Hid (entOf p q = ⟨2, q % 32, 0⟩) := by show _ = _; unfold entOf; rw [if_neg h1, if_pos h2]
      go_wp2_with fail
      refine (awake27_any _).mono ?_
      rintro e w4 ⟨rfl, hb4⟩
      have r1 := (r1.alloc _).below hb4
      have r2 := (r2.alloc _).below hb4
      have r3 := (r3.alloc _).below hb4
      have hB4 := bstep (bnew hB3 _) hb4
      obtain ⟨hc, hf⟩ := bcell hb4
      go_wp2_with fail
      refine (plainEnt_yes _ _ _ _ _ _ [entOf p q] [⟨2, q % 32, 0⟩] _ (r1.alloc _) (RowAt.new w4 (entsCells [⟨2, q % 32, 0⟩]) _) rfl rfl (by simp) (by rw [HE.out])).mono ?_
      rintro e w5 ⟨rfl, hb5⟩
      have hB5 := bstep (bnew hB4 _) hb5
      have r2 := (r2.alloc _).below hb5
      have r3 := (r3.alloc _).below hb5
      go_wp2_with fail
      refine (plainEnt_yes _ _ _ _ _ _ [entOf p 0] [entOf p 0] _ r2 r3 rfl rfl (by simp) rfl).mono ?_
      rintro e w6 ⟨rfl, hb6⟩
      have hB6 := bstep hB5 hb6
      go_wp2_with fail
      refine (entries_at _ none 0 0 [] 0 [] (RowAt.nil _ _) rfl (by simp) (by omega) rfl entries_nil).mono ?_
      rintro e w7 ⟨a7, c7, rfl, hown7, hb7⟩
      have hB7 := bstep hB6 hb7
      go_wp2
      go_ret
      exact ⟨rfl, hB7⟩
    · by_cases h3 : p < 240
      · have HE : Hid (entOf p q = ⟨3, q % 64, 0⟩) := by show _ = _; unfold entOf; rw [if_neg h1, if_neg h2, if_pos h3]
        go_wp2_with fail
        refine (awake27_any _).mono ?_
        rintro e w4 ⟨rfl, hb4⟩
        have r1 := (r1.alloc _).below hb4
        have r2 := (r2.alloc _).below hb4
        have r3 := (r3.alloc _).below hb4
        have hB4 := bstep (bnew hB3 _) hb4
        obtain ⟨hc, hf⟩ := bcell hb4
        go_wp2_with fail
        refine (plainEnt_yes _ _ _ _ _ _ [entOf p q] [⟨3, q % 64, 0⟩] _ (r1.alloc _) (RowAt.new w4 (entsCells [⟨3, q % 64, 0⟩]) _) rfl rfl (by simp) (by rw [HE.out])).mono ?_
        rintro e w5 ⟨rfl, hb5⟩
        have hB5 := bstep (bnew hB4 _) hb5
        have r2 := (r2.alloc _).below hb5
        have r3 := (r3.alloc _).below hb5
        go_wp2_with fail
        refine (plainEnt_yes _ _ _ _ _ _ [entOf p 0] [entOf p 0] _ r2 r3 rfl rfl (by simp) rfl).mono ?_
        rintro e w6 ⟨rfl, hb6⟩
        have hB6 := bstep hB5 hb6
        go_wp2_with fail
        refine (entries_at _ none 0 0 [] 0 [] (RowAt.nil _ _) rfl (by simp) (by omega) rfl entries_nil).mono ?_
        rintro e w7 ⟨a7, c7, rfl, hown7, hb7⟩
        have hB7 := bstep hB6 hb7
        go_wp2
        go_ret
        exact ⟨rfl, hB7⟩
      · have HE : Hid (entOf p q = ⟨4, 0, 0⟩) := by show _ = _; unfold entOf; rw [if_neg h1, if_neg h2, if_neg h3]
        go_wp2_with fail
        refine (awake27_any _).mono ?_
        rintro e w4 ⟨rfl, hb4⟩
        have r1 := (r1.alloc _).below hb4
        have r2 := (r2.alloc _).below hb4
        have r3 := (r3.alloc _).below hb4
        have hB4 := bstep (bnew hB3 _) hb4
        obtain ⟨hc, hf⟩ := bcell hb4
        go_wp2_with fail
        refine (plainEnt_yes _ _ _ _ _ _ [entOf p q] [⟨4, 0, 0⟩] _ (r1.alloc _) (RowAt.new w4 (entsCells [⟨4, 0, 0⟩]) _) rfl rfl (by simp) (by rw [HE.out])).mono ?_
        rintro e w5 ⟨rfl, hb5⟩
        have hB5 := bstep (bnew hB4 _) hb5
        have r2 := (r2.alloc _).below hb5
        have r3 := (r3.alloc _).below hb5
        go_wp2_with fail
        refine (plainEnt_yes _ _ _ _ _ _ [entOf p 0] [entOf p 0] _ r2 r3 rfl rfl (by simp) rfl).mono ?_
        rintro e w6 ⟨rfl, hb6⟩
        have hB6 := bstep hB5 hb6
        go_wp2_with fail
        refine (entries_at _ none 0 0 [] 0 [] (RowAt.nil _ _) rfl (by simp) (by omega) rfl entries_nil).mono ?_
        rintro e w7 ⟨a7, c7, rfl, hown7, hb7⟩
        have hB7 := bstep hB6 hb7
        go_wp2
        go_ret
        exact ⟨rfl, hB7⟩
theorem scriptEachW (w : World) (p : Int) (hp : 0 ≤ p ∧ p ≤ 255) (q : Int) (hq : 0 ≤ q ∧ q ≤ 255) :
    Calls Try.prog 3 #[.int .u8 p, .int .u8 q] w fun e w' => e = .returned (.bool true) ∧ Below w.heap.size w w' :=
  scriptEach_any p q w (by omega) (by omega)
end Go.Proofs.Ytjjfemhpdhkolaa
