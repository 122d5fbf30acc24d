/-
  slices.Insert of one value into the middle of a row of interface values that has no room.
-/
import Derived.Test.YtjjfemhpdhkolaaCIns
import Derived.Shelf.Spec.SlicesInsertGrow
namespace Go.Proofs.Ytjjfemhpdhkolaa
open Go.RowKit
set_option linter.unusedVariables false

theorem takeGrow {α : Type} (R R2 cs : List α) (x : α) (n i : Nat) (hn : cs.length = n) (hi : i < n) (hR : R.take i = cs.take i) (h2 : R2 = R.take i ++ [x] ++ R.drop (i + [x].length)) :
   (R2.take (i + 1) ++ cs.drop i ++ R2.drop (i + 1 + (cs.drop i).length)).take (n + 1) = cs.take i ++ [x] ++ cs.drop i := by
  have htl : (cs.take i ++ [x]).length = i + 1 := by simp; omega
  have e1 : R2.take (i + 1) = cs.take i ++ [x] := by rw [h2, hR, ← htl, List.take_left]
  have hl : (cs.take i ++ [x] ++ cs.drop i).length = n + 1 := by simp; omega
  rw [e1, ← hl, List.take_left]
theorem takeRow {α : Type} (A B C : List α) (i : Nat) (h : A.length = i) : (A ++ B ++ C).take i = A := by
  rw [← h, List.append_assoc, List.take_left]

set_option maxRecDepth 100000 in
set_option maxHeartbeats 1600000 in
theorem ins_grow (g n i vb : Nat) (cs : List Value) (x : Value) (w : World) (hcell : ∀ j v, cs[j]? = some v → w.cell? ⟨g, j, none⟩ = some v) (hn : cs.length = n) (hi : i < n)
    (h1 : ∀ u ∈ cs, u.oneCell' = true) (hx : x.oneCell' = true) (hv : w.heap[vb]? = some (.cells #[x] 20 (0, 0))) (hmax : n ≤ 1000000) :
    Calls Try.prog 63 #[.slice (some ⟨g, 0, none⟩) n n, .int .i64 i, .slice (some ⟨vb, 0, none⟩) 1 1] w fun e w' =>
      ∃ G cur', e = .returned (.slice (some ⟨w.heap.size, 0, none⟩) (n + 1) G) ∧ w'.heap[w.heap.size]? = some (.cells cur' 20 (0, 0)) ∧ cur'.size = G ∧ cur'.toList.take (n + 1) = cs.take i ++ [x] ++ cs.drop i ∧ n + 1 ≤ G ∧ G ≤ maxLen ∧ Below w.heap.size w w' := by
  obtain ⟨i0, hi0, hz0, hzs, hzb⟩ := info_parts Try.slAny.hi
  have hgw : g < w.heap.size := World.block_lt_of_cell? w _ (hcell 0 _ (List.getElem?_eq_getElem (by omega)))
  have hvw : vb < w.heap.size := block_lt hv
  have hkk : (n : Int) + 1 - (i : Int) = ((n + 1 - i : Nat) : Int) := by omega
  have hik : i + (n + 1 - i) = n + 1 := by omega
  have hold : (Builtin.firstCells i0.size i (.slice (some ⟨g, 0, none⟩) i n)).run Try.prog w.drew = .ok (cs.take i).toArray w.drew := by
    rw [hzs]
    exact run_firstCells_some w.drew 1 i ⟨g, 0, none⟩ i n (cs.take i) (by rw [List.length_take]; omega) (fun j v hj => by
      rw [Addr.add_lit, Nat.zero_add]
      rw [List.getElem?_take] at hj
      split at hj
      · exact hcell j v hj
      · cases hj)
  obtain ⟨G, hG⟩ : ∃ G, G = grownCap w (n + 1) n 20 := ⟨_, rfl⟩
  obtain ⟨ROW, hROW⟩ : ∃ ROW : Array Value, ROW = (cs.take i).toArray ++ Builtin.zeroCells Value.nilIface.cells (n + 1 - i) ++ Builtin.zeroCells Value.nilIface.cells (G - (n + 1)) := ⟨_, rfl⟩
  have hGn : n + 1 ≤ G := by rw [hG]; exact grownCap_ge w _ _ _
  have hGm : G ≤ maxLen := by rw [hG]; exact grownCap_le_maxLen w (n + 1) n _ (by unfold maxLen; omega)
  have hrz : ∀ ty, (Builtin.append_ #[83, 3] ty #[.slice (some ⟨g, 0, none⟩) i n, .int .i64 ((n : Int) + 1 - (i : Int))]).run Try.prog w =
      .ok (.slice (some ⟨w.heap.size, 0, none⟩) (n + 1) G) (w.drew.alloc (.cells ROW 20)) := fun ty => by
    have h := Lib.run_append_grow_zeros w 83 3 ty 20 i0 _ .i64 .i64 Try.underlying83 Try.underlying3 hi0 hz0 (some ⟨g, 0, none⟩) i n (cs.take i) hold (n + 1 - i) (by omega) (by omega) (by omega) (by omega) (by rw [hzb]; omega) (by rw [hzb, hik]; exact growslice_fits (by omega) (by omega))
    rw [hik, ← hG, ← hROW] at h
    rw [hkk]
    exact h
  have hRs : ROW.size = G := by
    rw [hROW]
    simp [Builtin.zeroCells, Value.cells]
    omega
  have hdl : (cs.drop i).length = n - i := by rw [List.length_drop, hn]
  have htl : (cs.take i).length = i := by rw [List.length_take]; omega
  obtain ⟨W1, hW1⟩ : ∃ W1, W1 = w.drew.alloc (.cells ROW 20) := ⟨_, rfl⟩
  have hW1h : W1.heap[w.heap.size]? = some (.cells ROW 20 (0, 0)) := by rw [hW1]; exact heap_alloc_new w.drew _
  have hB1 : Below w.heap.size w W1 := by rw [hW1]; exact bnew (brefl w).drew _
  have hS1 : w.heap.size < W1.heap.size := block_lt hW1h
  rw [← hW1] at hrz
  have hcpA : ∀ ty dc, (Builtin.copy_ #[83, 83] ty #[.slice (some ⟨w.heap.size, i, none⟩) (n + 1 - i) dc, .slice (some ⟨vb, 0, none⟩) 1 1]).run Try.prog W1 = .ok (goInt 1) (W1.setCells w.heap.size i [x]) := fun ty dc =>
    run_copy_cells W1 _ _ ty 20 w.heap.size i (n + 1 - i) dc ⟨vb, 0, none⟩ 1 1 [x] Try.underlying83 Try.slotAny (by simp only [Nat.min_def, List.length_singleton]; split <;> omega)
      (fun j v hj => by
        rw [Addr.add_lit, Nat.zero_add, hB1.cell (p := ⟨vb, j, none⟩) hvw, block_cell hv j]; simpa using hj)
      (fun j hj => by rw [block_cell hW1h (i + j), Array.getElem?_eq_getElem (by simp at hj; omega)]; rfl) (fun j hj => frozen_of_row W1 _ (i + j) _ _ hW1h) (by simpa using hx)
  have hW2h := heap_setCells w.heap.size 20 [x] i ROW W1 hW1h (by simp; omega)
  obtain ⟨W2, hW2⟩ : ∃ W2, W2 = W1.setCells w.heap.size i [x] := ⟨_, rfl⟩
  obtain ⟨R2, hR2⟩ : ∃ R2, R2 = (ROW.toList.take i ++ [x] ++ ROW.toList.drop (i + [x].length)).toArray := ⟨_, rfl⟩
  rw [← hW2, ← hR2] at hW2h
  rw [← hW2] at hcpA
  have hR2s : R2.size = G := by rw [hR2]; simp; omega
  have hB2 : Below w.heap.size w W2 := by
    rw [hW2]
    exact hB1.setCell (Nat.le_refl _) _
  have hcpB : ∀ ty dc sc, (Builtin.copy_ #[83, 83] ty #[.slice (some ⟨w.heap.size, i + 1, none⟩) (n - i) dc, .slice (some ⟨g, i, none⟩) (n - i) sc]).run Try.prog W2.drew = .ok (goInt (cs.drop i).length) (W2.drew.setCells w.heap.size (i + 1) (cs.drop i)) := fun ty dc sc =>
    run_copy_cells W2.drew _ _ ty 20 w.heap.size (i + 1) (n - i) dc ⟨g, i, none⟩ (n - i) sc (cs.drop i) Try.underlying83 Try.slotAny (by rw [hdl]; simp only [Nat.min_def]; split <;> omega)
      (fun j v hj => by
        rw [Addr.add_lit]
        show W2.cell? ⟨g, i + j, none⟩ = some v
        rw [hB2.cell (p := ⟨g, i + j, none⟩) hgw]
        exact hcell (i + j) v (by rwa [List.getElem?_drop] at hj))
      (fun j hj => by
        show (W2.cell? ⟨w.heap.size, i + 1 + j, none⟩).isSome = true
        rw [block_cell hW2h (i + 1 + j), Array.getElem?_eq_getElem (by omega)]; rfl) (fun j hj => frozen_of_row W2 _ (i + 1 + j) _ _ hW2h) (fun v hv => h1 v (List.mem_of_mem_drop hv))
  have hW3h := heap_setCells w.heap.size 20 (cs.drop i) (i + 1) R2 W2.drew hW2h (by rw [hdl]; omega)
  have hW3s : (R2.toList.take (i + 1) ++ cs.drop i ++ R2.toList.drop (i + 1 + (cs.drop i).length)).toArray.size = G := by simp [hdl]; omega
  have hB3 : Below w.heap.size w (W2.drew.setCells w.heap.size (i + 1) (cs.drop i)) := by
    have : ∀ (vs : List Value) (o : Nat) (v : World), Below w.heap.size w v → Below w.heap.size w (v.setCells w.heap.size o vs) := by
      intro vs
      induction vs with
      | nil => intro o v h; exact h
      | cons a vs ih => intro o v h; exact ih (o + 1) _ (h.setCell (Nat.le_refl _) _)
    exact this _ _ _ hB2.drew
  have hRt : ROW.toList.take i = cs.take i := by
    rw [hROW]
    simp only [Array.toList_append]
    exact takeRow _ _ _ i (by rw [List.length_take]; omega)
  have hW3t : (R2.toList.take (i + 1) ++ cs.drop i ++ R2.toList.drop (i + 1 + (cs.drop i).length)).toArray.toList.take (n + 1) = cs.take i ++ [x] ++ cs.drop i := by
    rw [List.toList_toArray]
    exact takeGrow ROW.toList R2.toList cs x n i hn hi hRt (by rw [hR2])
  have HW3 := hidP hW3h
  have HT := hidP hW3t
  have HS := hidP hW3s
  have HB := hidP hB3
  have HGM := hidP hGm
  clear hW1 hW2 hR2 hROW hG hW1h hW2h hW3h hW3t hW3s hB3 hB2 hB1 hS1 hold hkk hik hR2s hRs hRt hdl htl hcell h1 hx hv hGm
  have hG63 : G ≤ 9223372036854775807 := by have := HGM.out; unfold maxLen at this; omega
  have hd1 : ¬ (G = i + 1) := by omega
  have hd2 : ¬ (G = i) := by omega
  have hd3 : ¬ (n = i) := by omega
  have hcA : cutA (some ⟨w.heap.size, 0, none⟩) (i + 1) G 1 = some ⟨w.heap.size, i + 1, none⟩ := by unfold cutA; rw [if_neg hd1]; simp [Addr.add_lit]
  have hcB : cutA (some ⟨w.heap.size, 0, none⟩) i G 1 = some ⟨w.heap.size, i, none⟩ := by unfold cutA; rw [if_neg hd2]; simp [Addr.add_lit]
  have hcC : cutA (some ⟨g, 0, none⟩) i n 1 = some ⟨g, i, none⟩ := by unfold cutA; rw [if_neg hd3]; simp [Addr.add_lit]
  have hz2 : ¬ ((i : Int) = (n : Int)) := by omega
  have hb1 : (0 : Int) ≤ (i : Int) + 1 := by omega
  have hin : i ≤ n := by omega
  have htn : ((i : Int) + 1).toNat = i + 1 := by omega
  have htn3 : n + 1 - (i + 1) = n - i := by omega
  have hb3 : (i : Int) ≤ (n : Int) := by omega
  have hb4 : (i : Int) ≤ (n : Int) + 1 := by omega
  have hw5 : IntKind.i64.wrap ((i : Int) + 1) = (i : Int) + 1 := IntWalk.i64_in _ (by omega)
  go_enter Try.func63, Try.ntmps63
  go_upto_region 11 with (first | (at_builtin; go_loud (refine Lib.wpList_append_run _ rfl _ _ _ _ rfl _ _ rfl rfl _ _ (hrz _) ?_)) | (at_builtin; go_loud (refine wpList_copy_runI _ rfl _ _ 83 83 rfl _ _ rfl rfl (hcpA _ _) ?_)))
  go_still_tail 8, (by kernel_rfl)
  go_wp2_with (at_builtin; go_loud (refine wpList_copy_runI _ rfl _ _ 83 83 rfl _ _ rfl rfl (hcpB _ _ _) ?_))
  go_ret
  exact ⟨G, rfl, _, HW3.out, HS.out, (HT.out.trans (by simp)), hGn, HGM.out, HB.out⟩
end Go.Proofs.Ytjjfemhpdhkolaa
