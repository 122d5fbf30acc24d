/-
  slices.Insert of one value into a row of interface values.
-/
import Derived.Test.YtjjfemhpdhkolaaClock2
import Derived.Shelf.Spec.SlicesInsert
import Derived.Deep.DeepCutAuto
import Derived.Deep.CutBlock
namespace Go.Proofs.Ytjjfemhpdhkolaa
open Go.RowKit
set_option linter.unusedVariables false

/-- What Insert leaves. -/
def InsPost (w : World) (ao : Option Addr) (n c : Nat) (ys : List Value) (e : Ending) (w' : World) : Prop :=
  ∃ a2 c2, e = .returned (.slice a2 (n + 1) c2) ∧ w'.ownsRow 0 20 1 (.slice a2 (n + 1) c2) (n + 1) ys ∧ Keep (fun k => (Value.slice ao n c).ownBlock = some k) w w' ∧
    ((Value.slice a2 (n + 1) c2).ownBlock = (Value.slice ao n c).ownBlock ∨ ∃ k, (Value.slice a2 (n + 1) c2).ownBlock = some k ∧ w.heap.size ≤ k)

set_option maxRecDepth 100000 in
set_option maxHeartbeats 1000000 in
theorem ins_end (ao : Option Addr) (n c vb : Nat) (cs : List Value) (x : Value) (w : World) (ho : w.ownsRow 0 20 1 (.slice ao n c) n cs) (hx : x.oneCell' = true) (hv : w.heap[vb]? = some (.cells #[x] 20 (0, 0))) (hmax : n ≤ 1000000) :
    Calls Try.prog 63 #[.slice ao n c, .int .i64 n, .slice (some ⟨vb, 0, none⟩) 1 1] w (InsPost w ao n c (cs ++ [x])) := by
  have hrv : RowAt w (some ⟨vb, 0, none⟩) [x] := .inr ⟨vb, 0, rfl, fun j u hj => by rw [Nat.zero_add, block_cell hv j]; simpa using hj⟩
  obtain ⟨ao', cap', he, hr, hnc, hcm, hnil, hl⟩ := owns_open ho
  cases he
  unfold maxLen at hcm
  have HR := hidP hr
  have HN := hidP hnil
  have HL := hidP hl
  clear hr hnil hl
  go_enter Try.func63, Try.ntmps63
  go_wp2_with (at_builtin; go_loud (refine (wpList_app _ rfl (.tmp 23) (.tmp 24) rfl Try.slAny 0 (.slice ao n c) n cs rfl ho (some ⟨vb, 0, none⟩) 1 1 [x] rfl (n + 1) rfl hrv rfl (by simpa using hx) (by omega) (by unfold maxLen; omega) (Nat.zero_le _) ?_)); intro a2 c2 w2 ho2 hg2 hw2)
  go_ret
  exact ⟨a2, c2, rfl, ho2, .of_grown hg2 (fun k hk => hk), hw2.imp id (fun h => ⟨_, h, Nat.le_refl _⟩)⟩

theorem Try.slotAny : (Try.prog.info? 20).map (·.size) = some 1 := by kernel_rfl
theorem Try.sizeAny (w : World) : (Go.sizeOf 20).run Try.prog w = .ok 1 w := by
  obtain ⟨i, hi, h0, h1, h2⟩ := info_parts Try.slAny.hi
  simp [sizeOf, typeInfo, hi, h1]

set_option maxRecDepth 100000 in
set_option maxHeartbeats 1600000 in
theorem ins_shift (g n c i vb : Nat) (cs : List Value) (x : Value) (cur : Array Value) (w : World) (hg : w.heap[g]? = some (.cells cur 20 (0, 0))) (hcz : cur.size = c) (htk : cur.toList.take n = cs) (hn : cs.length = n) (hi : i < n) (hroom : n + 1 ≤ c)
    (hc : c ≤ maxLen) (h1 : ∀ u ∈ cs, u.oneCell' = true) (hx : x.oneCell' = true) (hv : w.heap[vb]? = some (.cells #[x] 20 (0, 0))) (hvg : vb ≠ g) (hmax : n ≤ 1000000) :
    Calls Try.prog 63 #[.slice (some ⟨g, 0, none⟩) n c, .int .i64 i, .slice (some ⟨vb, 0, none⟩) 1 1] w fun e w' =>
      e = .returned (.slice (some ⟨g, 0, none⟩) (n + 1) c) ∧ w' = (w.drew.setCells g (i + 1) (cs.drop i)).setCells g i [x] := by
  unfold maxLen at hc
  have hcell : ∀ j v, cs[j]? = some v → w.cell? ⟨g, j, none⟩ = some v := fun j v hj => by
    rw [block_cell hg j, ← Array.getElem?_toList]
    rw [← htk, List.getElem?_take] at hj
    split at hj
    · exact hj
    · cases hj
  have hsp : ∀ j, j < n + 1 → (w.cell? ⟨g, j, none⟩).isSome = true := fun j hj => by rw [block_cell hg j, Array.getElem?_eq_getElem (by omega)]; rfl
  have hfz : ∀ j, w.frozen? ⟨g, j, none⟩ = false := fun j => frozen_of_row w g j cur _ hg
  have hdl : (cs.drop i).length = n - i := by rw [List.length_drop, hn]
  have hov : ∀ lb cb, (callFunc 66 #[.slice (some ⟨vb, 0, none⟩) 1 1, .slice (some ⟨g, i + 1, none⟩) lb cb]).run Try.prog w = .ok (.value (.bool false)) w := fun lb cb => by
    rw [run_callFunc_extern Try.func66 (by kernel_rfl) (by kernel_rfl) (by kernel_rfl) (e := Extern.SlicesOverlaps.overlaps #[83, 83] #[4]) (by kernel_rfl),
      Lib.run_overlaps_apart w 83 4 20 Try.underlying83 1 Try.sizeAny ⟨vb, 0, none⟩ ⟨g, i + 1, none⟩ 1 1 lb cb hvg 20 20 1 cur.size (by simp [World.shape?, hv]) (by simp [World.shape?, hg]) (by omega) (frozen_of_row w vb 0 _ _ hv) (frozen_of_row w vb 1 _ _ hv)]
    rfl
  have hw1 : IntKind.i64.wrap ((i : Int) + 1) = (i : Int) + 1 := by rw [IntKind.wrap_i64]; omega
  have hw2 : wrap64 ((i : Int) + 1) = (i : Int) + 1 := IntWalk.wrap64_in _ (by omega)
  have hw3 : wrap64 ((n : Int) + 1) = (n : Int) + 1 := IntWalk.wrap64_in _ (by omega)
  have hz2 : ¬ ((i : Int) = (n : Int)) := by omega
  have hb1 : (0 : Int) ≤ (i : Int) + 1 := by omega
  have hb0 : (0 : Int) ≤ (i : Int) := by omega
  have hin : i ≤ n := by omega
  have htn : ((i : Int) + 1).toNat = i + 1 := by omega
  have hb2 : ¬ (c = i + 1) := by omega
  have hb3 : (i : Int) ≤ (n : Int) + 1 := by omega
  have hb4 : ¬ (c = i) := by omega
  have hb5 : (n : Int) + 1 ≤ (c : Int) := by omega
  have hb6 : ¬ ((c : Int) < (n : Int) + 1) := by omega
  have htn2 : ((n : Int) + 1).toNat = n + 1 := by omega
  have hcA : cutA (some ⟨g, 0, none⟩) (i + 1) c 1 = some ⟨g, i + 1, none⟩ := by unfold cutA; rw [if_neg hb2]; simp [Addr.add]
  have hcB : cutA (some ⟨g, 0, none⟩) i c 1 = some ⟨g, i, none⟩ := by unfold cutA; rw [if_neg hb4]; simp [Addr.add_lit]
  have htn3 : n + 1 - (i + 1) = n - i := by omega
  have hcp1 : ∀ ty dc sc, (Builtin.copy_ #[83, 83] ty #[.slice (some ⟨g, i + 1, none⟩) (n - i) dc, .slice (some ⟨g, i, none⟩) (n + 1 - i) sc]).run Try.prog w.drew = .ok (goInt (cs.drop i).length) (w.drew.setCells g (i + 1) (cs.drop i)) := fun ty dc sc =>
    run_copy_cells w.drew _ _ ty 20 g (i + 1) (n - i) dc ⟨g, i, none⟩ (n + 1 - i) sc (cs.drop i) Try.underlying83 Try.slotAny (by rw [hdl]; simp only [Nat.min_def]; split <;> omega)
      (fun j v hj => by rw [Addr.add_lit]; exact hcell (i + j) v (by rwa [List.getElem?_drop] at hj))
      (fun j hj => hsp _ (by omega)) (fun j hj => hfz _) (fun v hv => h1 v (List.mem_of_mem_drop hv))
  obtain ⟨W1, hW1⟩ : ∃ W1, W1 = w.drew.setCells g (i + 1) (cs.drop i) := ⟨_, rfl⟩
  have hW1h := heap_setCells g 20 (cs.drop i) (i + 1) cur w.drew hg (by rw [hdl]; omega)
  rw [← hW1] at hW1h
  have hcp2 : ∀ ty dc, (Builtin.copy_ #[83, 83] ty #[.slice (some ⟨g, i, none⟩) (n + 1 - i) dc, .slice (some ⟨vb, 0, none⟩) 1 1]).run Try.prog W1 = .ok (goInt 1) (W1.setCells g i [x]) := fun ty dc =>
    run_copy_cells W1 _ _ ty 20 g i (n + 1 - i) dc ⟨vb, 0, none⟩ 1 1 [x] Try.underlying83 Try.slotAny (by simp only [Nat.min_def, List.length_singleton]; split <;> omega)
      (fun j v hj => by
        rw [Addr.add_lit, hW1, World.cell?_setCells_out g _ _ _ _ (fun h _ => absurd h hvg)]
        show w.cell? ⟨vb, 0 + j, none⟩ = some v
        rw [Nat.zero_add, block_cell hv j]; simpa using hj)
      (fun j hj => by rw [block_cell hW1h (i + j), Array.getElem?_eq_getElem (by simp at hj; simp [hdl]; omega)]; rfl) (fun j hj => frozen_of_row W1 g (i + j) _ _ hW1h) (by simpa using hx)
  rw [← hW1] at hcp1 ⊢
  clear hW1h hW1
  go_enter Try.func63, Try.ntmps63
  go_upto_region 15 with (simp only [hov])
  go_still_tail 8, (by kernel_rfl)
  go_wp2_with (first | (at_builtin; go_loud (refine wpList_copy_runI _ rfl _ _ 83 83 rfl _ _ rfl rfl (hcp1 _ _ _) ?_)) | (at_builtin; go_loud (refine wpList_copy_runI _ rfl _ _ 83 83 rfl _ _ rfl rfl (hcp2 _ _) ?_)))
  go_ret
  exact ⟨rfl, rfl⟩
end Go.Proofs.Ytjjfemhpdhkolaa
