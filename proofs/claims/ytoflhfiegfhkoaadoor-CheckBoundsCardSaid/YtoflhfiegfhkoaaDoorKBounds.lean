/-
  The walk of the law CheckBounds.
-/
import Derived.Test.YtoflhfiegfhkoaaDoorKRegs
import Derived.Test.YtoflhfiegfhkoaaDoorKCmp
import Derived.Test.YtoflhfiegfhkoaaDoorKFrameC
namespace Go.Proofs.YtoflhfiegfhkoaaDoor
open Go.RowKit Go.Proofs.YtoflhfiegfhkoaaDoorW.PrintWords
set_option linter.unusedVariables false

def bOps : List Int := [1, 4, 14, 18, 19, 20, 11, 10, 12]
def bMost : List Int := [9999, 3, 1000, 3, 3, 9, 2, 2, 2]
def bProg (op n : Int) : List InstrD := [⟨22, 0, 0, 0, []⟩, ⟨op, 0, 0, n, []⟩, ⟨22, 0, 0, 0, []⟩]
theorem bounds_all : ∀ K < 9, ∀ J : Nat, J < 5 → validR (bProg (bOps.getD K 0) (bMost.getD K 0 - 2 + (J : Int))) = if 0 ≤ bMost.getD K 0 - 2 + (J : Int) ∧ bMost.getD K 0 - 2 + (J : Int) ≤ bMost.getD K 0 then (0, 0) else (2, if 5 < K ∧ 0 ≤ bMost.getD K 0 - 2 + (J : Int) then 6 else 5) := by decide +kernel
theorem most_lt : ∀ K < 9, 2 ≤ bMost.getD K 0 ∧ bMost.getD K 0 ≤ 9999 := by decide

set_option maxRecDepth 100000 in
set_option maxHeartbeats 6400000 in
theorem checkBounds_any (a n : Int) (w : World) (he : Env w) : Calls Tryd.prog 6 #[.int .i64 a, .int .i64 n] w fun e w' => e = .returned (.bool true) ∧ Below w.heap.size w w' := by
  obtain ⟨K, hK1, hK2, hK3⟩ := modK a 9 (by omega) (by omega)
  obtain ⟨J, hJ1, hJ2, hJ3⟩ := modK n 5 (by omega) (by omega)
  have hK1' : (IntKind.u64.wrap a).tmod 9 = (K : Int) := hK1
  have hJ1' : (IntKind.u64.wrap n).tmod 5 = (J : Int) := hJ1
  have hall := bounds_all K hK2 J hJ2
  have hml := most_lt K hK2
  obtain ⟨op, hop⟩ : ∃ op, bOps.getD K 0 = op := ⟨_, rfl⟩
  obtain ⟨m, hm⟩ : ∃ m, bMost.getD K 0 = m := ⟨_, rfl⟩
  rw [hop, hm] at hall
  rw [hm] at hml
  obtain ⟨hm2, hm9⟩ := hml
  obtain ⟨N, hN⟩ : ∃ N, m - 2 + (J : Int) = N := ⟨_, rfl⟩
  rw [hN] at hall
  have hNb : -10 ≤ N ∧ N ≤ 10010 := by omega
  obtain ⟨hNb1, hNb2⟩ := hNb
  have hwN : IntKind.i64.wrap (m - 2 + (J : Int)) = N := by rw [hN]; exact IntWalk.i64_in _ (by omega)
  have HENV := hidP he
  have hb2 := two_boxes w (.cells (bOps.map (Value.int .i64)).toArray 3) (.cells (bMost.map (Value.int .i64)).toArray 3)
  have r1 := (RowAt.new w (bOps.map (Value.int .i64)) 3).alloc (.cells (bMost.map (Value.int .i64)).toArray 3)
  have r2 := RowAt.new (w.alloc (.cells (bOps.map (Value.int .i64)).toArray 3)) (bMost.map (Value.int .i64)) 3
  have q1 := r1.some K (.int .i64 op) (by rw [List.getElem?_map, ← hop, List.getD_eq_getElem?_getD, List.getElem?_eq_getElem (show K < bOps.length from hK2)]; rfl)
  have q2 := r2.some K (.int .i64 m) (by rw [List.getElem?_map, ← hm, List.getD_eq_getElem?_getD, List.getElem?_eq_getElem (show K < bMost.length from hK2)]; rfl)
  rw [Nat.zero_add] at q1 q2
  have hsz : (w.alloc (.cells (bOps.map (Value.int .i64)).toArray 3)).heap.size = w.heap.size + 1 := by simp
  rw [hsz] at q2
  have HALL := hidP hall
  have HN := hidP hN
  clear hall hK1 hJ1 he hop hm r1 r2 hsz hN
  go_enter Tryd.func6, Tryd.ntmps6
  go_upto_region 3 with fail
  change Code.wp _ _ _ _ ((w.alloc (.cells (bOps.map (Value.int .i64)).toArray 3)).alloc (.cells (bMost.map (Value.int .i64)).toArray 3))
  have hsz2 : ((w.alloc (.cells (bOps.map (Value.int .i64)).toArray 3)).alloc (.cells (bMost.map (Value.int .i64)).toArray 3)).heap.size = w.heap.size + 2 := by simp
  generalize (w.alloc (.cells (bOps.map (Value.int .i64)).toArray 3)).alloc (.cells (bMost.map (Value.int .i64)).toArray 3) = w2 at *
  have hval := valid_any (some ⟨w2.heap.size, 0, none⟩) 3 (bProg op N) (w2.alloc (.cells (plainI (bProg op N)).toArray 37)) ((HENV.out.below hb2).below (bnew (brefl w2) _)).bl (plain_reads w2 (bProg op N) (by simp [bProg]) (by simp [bProg])) (by simp [bProg])
  have hp : (plainI (bProg op N)).toArray = #[.int .i64 22, .int .i64 0, .int .i64 0, .int .i64 0, .slice none 0 0, .int .i64 op, .int .i64 0, .int .i64 0, .int .i64 N, .slice none 0 0, .int .i64 22, .int .i64 0, .int .i64 0, .int .i64 0, .slice none 0 0] := rfl
  rw [hp, show (bProg op N).length = 3 from rfl] at hval
  have HVAL := hidP hval
  have hz2 := hb2.size
  have HSZ := hidP hsz2
  clear hval hp hsz2
  go_upto_region 5 with fail
  clear hwN hJ1' hK1' hK3 hJ3
  go_wp2_with fail
  with_reducible refine HVAL.out.mono ?_
  rintro e w3 ⟨rfl, hb3⟩
  have hz3 := hb3.size
  simp only [World.size_alloc] at hz3
  have hB3 : Below w.heap.size w w3 := bstep (hb2.trans ((bnew (brefl w2) _).mono hz2)) hb3
  have HB3 := hidP hB3
  have q2' : w3.cell? ⟨w.heap.size + 1, K, none⟩ = some (.int .i64 m) := ((bcell (bstep (bnew (brefl w2) _) hb3)).1 _ _ (by have := HSZ.out; omega)).trans q2
  have HE3 := hidP (awake03_any w3 (HENV.out.below hB3))
  clear hB3 hb3 hb2 q1 q2 HENV HVAL HSZ hz2 hz3
  by_cases hg0 : (0 : Int) ≤ N <;> by_cases hc : (5 : Int) < (K : Int)
  by_cases hg1 : N ≤ m
  rotate_left 2
  by_cases hg1 : N ≤ m
  all_goals
    have hv := HALL.out
    first
      | rw [if_pos (show 0 ≤ N ∧ N ≤ m from ⟨hg0, hg1⟩)] at hv
      | rw [if_neg (show ¬ (0 ≤ N ∧ N ≤ m) from fun h => hg1 h.2), if_pos (show 5 < K ∧ 0 ≤ N from ⟨by omega, hg0⟩)] at hv
      | rw [if_neg (show ¬ (0 ≤ N ∧ N ≤ m) from fun h => hg0 h.1), if_neg (show ¬ (5 < K ∧ 0 ≤ N) from fun h => hg0 h.2)] at hv
      | rw [if_neg (show ¬ (0 ≤ N ∧ N ≤ m) from fun h => hg1 h.2), if_neg (show ¬ (5 < K ∧ 0 ≤ N) from fun h => hc (by omega))] at hv
    rw [hv]
    clear hv HALL
    go_wp2_with fail
    refine HE3.out.mono ?_
    rintro e w4 ⟨rfl, hb4⟩
    go_wp2
    go_ret
    exact ⟨rfl, bstep HB3.out hb4⟩
theorem checkBoundsW (w : World) (a : Int) (ha : -9223372036854775808 ≤ a ∧ a ≤ 9223372036854775807) (n : Int) (hn : -9223372036854775808 ≤ n ∧ n ≤ 9223372036854775807) (he : Env w) : Calls Tryd.prog 6 #[.int .i64 a, .int .i64 n] w fun e w' => e = .returned (.bool true) ∧ Below w.heap.size w w' := checkBounds_any a n w he
end Go.Proofs.YtoflhfiegfhkoaaDoor
