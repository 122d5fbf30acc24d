/-
  The walk of the law ScriptBounds.
-/
import Derived.Test.YtjjfemhpdhkolaaPScript
namespace Go.Proofs.Ytjjfemhpdhkolaa
open Go.RowKit
set_option linter.unusedVariables false

/-- Entries that no bytes tell. -/
def bad : List Ent := [⟨0, 0, 0⟩, ⟨5, 0, 0⟩, ⟨1, 16, 0⟩, ⟨1, 0, 16⟩, ⟨1, -1, 0⟩, ⟨2, 32, 0⟩, ⟨2, 0, 1⟩, ⟨3, 64, 0⟩, ⟨3, -1, 0⟩, ⟨4, 1, 0⟩]
theorem bad_bytes (k : Nat) (hk : k < 10) : bytesOf ((bad.drop k).take 1) = ([], 1) := by
  have : k = 0 ∨ k = 1 ∨ k = 2 ∨ k = 3 ∨ k = 4 ∨ k = 5 ∨ k = 6 ∨ k = 7 ∨ k = 8 ∨ k = 9 := by omega
  rcases this with h | h | h | h | h | h | h | h | h | h <;> subst h <;> decide
theorem bad_len (k : Nat) (hk : k < 10) : ((bad.drop k).take 1).length = 1 := by simp [bad]; omega
theorem bytes_nil : bytesOf [] = ([], 0) := by decide

theorem entsCells_drop (l : List Ent) (k : Nat) : (entsCells l).drop (k * 3) = entsCells (l.drop k) := by
  induction l generalizing k with
  | nil => simp [entsCells]
  | cons a l ih =>
    cases k with
    | zero => simp [entsCells]
    | succ k =>
      have := ih k
      simp only [entsCells, List.flatMap_cons, List.drop_succ_cons] at *
      rw [List.drop_append, ← this]
      simp [entCells, Nat.add_mul]

theorem ents_rep (n : Nat) : entsCells (List.replicate n ⟨0, 0, 0⟩) = List.replicate (n * 3) (Value.int .i64 0) := by
  induction n with
  | zero => rfl
  | succ n ih =>
    have e : entsCells (List.replicate (n + 1) ⟨0, 0, 0⟩) = [.int .i64 0, .int .i64 0, .int .i64 0] ++ entsCells (List.replicate n ⟨0, 0, 0⟩) := rfl
    rw [e, ih, show (n + 1) * 3 = n * 3 + 1 + 1 + 1 by omega]
    rfl
theorem made_ents (n : Nat) : (madeCells (Value.agg #[.int .i64 0, .int .i64 0, .int .i64 0]).cells (n * 3)).toList = entsCells (List.replicate n ⟨0, 0, 0⟩) := by
  rw [ents_rep]
  apply List.ext_getElem
  · simp [size_madeCells]
  · intro j h1 h2
    simp only [madeCells, Array.toList_map, List.getElem_map, Array.toList_range, List.getElem_range, List.getElem_replicate]
    have h3 : j % 3 = 0 ∨ j % 3 = 1 ∨ j % 3 = 2 := by omega
    show (#[Value.int .i64 0, Value.int .i64 0, Value.int .i64 0] : Array Value)[j % 3]! = _
    rcases h3 with h | h | h <;> rw [h] <;> rfl
theorem ents_set (A B : List Ent) (x : Ent) (v : Int) : (entsCells (A ++ x :: B)).set (A.length * 3) (.int .i64 v) = entsCells (A ++ ⟨v, x.n, x.draw⟩ :: B) := by
  rw [entsCells_append, entsCells_append, List.set_append_right _ _ (by rw [length_entsCells]; exact Nat.le_refl _), length_entsCells, Nat.sub_self]
  rfl

theorem fin_good (n : Nat) : ∀ e ∈ List.replicate n (⟨4, 0, 0⟩ : Ent), Good e := by
  intro e he
  rw [List.mem_replicate] at he
  rw [he.2]
  exact .inr (.inr (.inr ⟨rfl, rfl, rfl⟩))
theorem fin_bytes (n : Nat) : (bytesOf (List.replicate n ⟨4, 0, 0⟩)).2 = if n ≤ 400 then 0 else 1 := by
  split
  · rename_i h
    rw [bytesOf_good (by simpa using h) (fin_good n)]
  · rename_i h
    unfold bytesOf
    rw [if_neg (by simp; omega)]

theorem modE (n : Int) (k : Nat) (hk : 0 < k) (hk1 : k < 4294967296) : ∃ r : Nat, (IntKind.u64.wrap n).tmod (k : Int) = (r : Int) ∧ r < k ∧ wrap64 (r : Int) = (r : Int) := by
  have h : 0 ≤ IntKind.u64.wrap n := by rw [IntKind.wrap_u64]; omega
  obtain ⟨m, hm⟩ := Int.eq_ofNat_of_zero_le h
  have hlt := Nat.mod_lt m hk
  refine ⟨m % k, ?_, hlt, IntWalk.wrap64_in _ (by omega)⟩
  rw [hm, Int.tmod_eq_emod_of_nonneg (by omega)]
  simp

set_option maxRecDepth 100000 in
set_option maxHeartbeats 1600000 in
theorem scriptBounds_any (what n : Int) (w : World) (hw0 : -9223372036854775808 ≤ what) (hw1 : what ≤ 9223372036854775807) (hn0 : -9223372036854775808 ≤ n) (hn1 : n ≤ 9223372036854775807) :
    Calls Try.prog 10 #[.int .i64 what, .int .i64 n] w fun e w' => e = .returned (.bool true) ∧ Below w.heap.size w w' := by
  obtain ⟨i0, hi, hz0, hz1, hz2⟩ := info_parts Try.infoEnt
  obtain ⟨r, hr1, hr10, hr3⟩ := modE what 10 (by omega) (by omega)
  obtain ⟨s, hs1, hs5, hs3⟩ := modE n 5 (by omega) (by omega)
  have HR1 := hidP hr1
  have HR3 := hidP hr3
  have HS1 := hidP hs1
  have HS3 := hidP hs3
  clear hr1 hr3 hs1 hs3
  go_enter Try.func10, Try.ntmps10
  go_upto_region 2 with fail
  have rb : RowAt (w.alloc (.cells (entsCells bad).toArray 26)) (some ⟨w.heap.size, 0, none⟩) (entsCells bad) := RowAt.new w (entsCells bad) _
  have i0' : (0 : Int) ≤ (r : Int) := by omega
  have i1' : (r : Int) ≤ 10 := by omega
  have i2' : (0 : Int) ≤ (r : Int) + 1 := by omega
  have i3' : (r : Int) + 1 ≤ 10 := by omega
  have i4' : ((r : Int) + 1).toNat = r + 1 := by omega
  have i5' : (r : Int) ≤ (r : Int) + 1 := by omega
  have i6' : wrap64 ((r : Int) + 1) = (r : Int) + 1 := IntWalk.wrap64_in _ (by omega)
  have i7' : (IntKind.u64.wrap what).tmod 10 = (r : Int) := HR1.out
  have i8' := HR3.out
  have i9' : (r : Int) + 1 - (r : Int) = 1 := by omega
  have i10' : r + 1 - r = 1 := by omega
  go_wp2_with fail
  have rb1 : RowAt (w.alloc (.cells (entsCells bad).toArray 26)) (cutA (some ⟨w.heap.size, 0, none⟩) r 10 3) (entsCells ((bad.drop r).take 1)) := by
    have := (rb.cut r 10 3 (by intro h; omega)).take (1 * 3)
    rw [entsCells_drop, entsCells_take] at this
    exact this
  refine (bytes_at _ 1 (10 - r) ((bad.drop r).take 1) _ _ rb1 (bad_len r hr10) (by omega) (bad_bytes r hr10)).mono ?_
  rintro e w1 ⟨a1, c1, rfl, ho1, hb1⟩
  dsimp only at ho1 ⊢
  have hB1 : Below w.heap.size w w1 := bstep (bnew (brefl w) _) hb1
  obtain ⟨N, hN⟩ : ∃ N : Nat, 398 + s = N := ⟨_, rfl⟩
  have hN1 : 398 + (s : Int) = (N : Int) := by omega
  have hN2 : N ≤ 402 := by omega
  have hN3 : wrap64 (398 + (s : Int)) = (N : Int) := by rw [IntWalk.wrap64_in _ (by omega)]; exact hN1
  have hN4 : (IntKind.u64.wrap n).tmod 5 = (s : Int) := HS1.out
  have hN5 := HS3.out
  clear rb rb1 hb1 ho1 i0' i1' i2' i3' i4' i5' i6' i7' i8' i9' i10' HR1 HR3 hr10 hN
  go_upto_region 4 with fail
  clear hN4 hN5 hN3 HS1 HS3
  go_upto_region 5 with (first | (at_make; refine wpList_make_own _ rfl _ _ 22 rfl w1.heap.size 26 i0 (.agg #[.int .i64 0, .int .i64 0, .int .i64 0]) 3 Try.underlying22 hi hz0 hz1 .i64 .i64 _ 0 rfl rfl rfl (by omega) (by unfold maxLen; omega) (Nat.le_refl _) ?_; intro w2 hown2 hg2) | (go_at_call 30; refine (bytes_at _ 0 0 [] _ _ (RowAt.nil _ _) rfl (by omega) bytes_nil).mono ?_; rintro e w3 ⟨a3, c3, rfl, ho3, hb3⟩))
  have hB3 : Below w.heap.size w w3 := bstep (bstep hB1 (below_grown hg2 (Nat.le_refl _) (by simp))) hb3
  have hs3 := hB3.size
  clear hown2 hg2 hb3 ho3
  go_upto_region 6 with (at_make; refine wpList_make_full _ rfl _ _ 22 rfl w3.heap.size 26 i0 (.agg #[.int .i64 0, .int .i64 0, .int .i64 0]) 3 Try.underlying22 hi hz0 hz1 .i64 .i64 _ _ N rfl rfl rfl rfl (by rw [hz2]; omega) (by unfold maxLen; omega) (Nat.le_refl _) ?_; intro w4 hown4 hg4)
  have hB4 : Below w.heap.size w w4 := hB3.trans (below_grown hg4 hs3 (by simp))
  obtain ⟨cur, hcur, htk⟩ : ∃ cur : Array Value, w4.heap[w3.heap.size]? = some (.cells cur 26 (0, 0)) ∧ cur.toList = entsCells (List.replicate N ⟨0, 0, 0⟩) := by
    rcases hown4.2 with ⟨hv, _⟩ | ⟨g', cap', cur, hv, _, hg, _, _, h3, h4⟩
    · cases hv
    · cases hv
      refine ⟨cur, hg, ?_⟩
      rw [← made_ents, ← h4, List.take_of_length_le (by simp [h3])]
  have HC := hidP hcur
  have HT := hidP htk
  clear hcur htk hown4 hg4
  go_wp2_with fail
  go_loopw [54] (fun v wr => ∃ k : Nat, v = .int .i64 k ∧ k ≤ N ∧ Hid (∃ cs : Array Value, wr.heap[w3.heap.size]? = some (.cells cs 26 (0, 0)) ∧ cs.toList = entsCells (List.replicate k ⟨4, 0, 0⟩ ++ List.replicate (N - k) ⟨0, 0, 0⟩)) ∧ Below w.heap.size w wr) (fun v _ => N - (intOf v).toNat)
  case atStart => exact ⟨0, rfl, by omega, ⟨cur, HC.out, by simpa using HT.out⟩, hB4⟩
  case round =>
    obtain ⟨k, rfl, hk, HK, hb⟩ := hrel
    obtain ⟨cs, hcs, hct⟩ := HK.out
    have hsz : cs.size = N * 3 := by
      have := congrArg List.length hct
      rw [length_entsCells] at this
      simp at this
      omega
    clear HC HT hB4
    by_cases hlt : k < N
    · obtain ⟨u, hold⟩ : ∃ u, wr.cell? ⟨w3.heap.size, k * 3, none⟩ = some u := ⟨cs[k * 3]'(by omega), by rw [cell_of_row wr _ _ cs _ _ hcs]; exact Array.getElem?_eq_getElem (by omega)⟩
      have hfz := frozen_of_row wr w3.heap.size (k * 3) cs 26 hcs
      have hcs' := heap_setCell_same wr w3.heap.size (k * 3) cs 26 (.int .i64 4) hcs
      have hset : (cs.setIfInBounds (k * 3) (.int .i64 4)).toList = entsCells (List.replicate (k + 1) ⟨4, 0, 0⟩ ++ List.replicate (N - (k + 1)) ⟨0, 0, 0⟩) := by
        rw [Array.toList_setIfInBounds, hct, show N - k = N - (k + 1) + 1 by omega, List.replicate_succ]
        have := ents_set (List.replicate k ⟨4, 0, 0⟩) (List.replicate (N - (k + 1)) ⟨0, 0, 0⟩) ⟨0, 0, 0⟩ 4
        rw [List.length_replicate] at this
        rw [this, List.replicate_succ', List.append_assoc]
        rfl
      have HCS := hidP hcs'
      have HSET := hidP hset
      clear hcs hcs' hct hset hsz
      have i0 : (0 : Int) ≤ (k : Int) := by omega
      have i1 : (k : Int) < (N : Int) := by omega
      go_wp2
      go_roundw
      case rel => exact ⟨k + 1, by go_num, by omega, ⟨_, HCS.out, HSET.out⟩, hb.setCell hs3 _⟩
      case measure => simp [intOf]; omega
    · obtain rfl : k = N := by omega
      have hall : RowAt wr (some ⟨w3.heap.size, 0, none⟩) (entsCells (List.replicate k ⟨4, 0, 0⟩)) := by
        refine .inr ⟨_, _, rfl, fun j u hj => ?_⟩
        rw [Nat.zero_add, cell_of_row wr _ _ cs _ _ hcs, ← Array.getElem?_toList, hct]
        simpa using hj
      have hfb := fin_bytes k
      obtain ⟨R, hR⟩ : ∃ R, bytesOf (List.replicate k ⟨4, 0, 0⟩) = R := ⟨_, rfl⟩
      obtain ⟨l, g⟩ := R
      rw [hR] at hfb
      dsimp only at hfb
      clear hcs hct hsz
      by_cases h4 : k ≤ 400
      · rw [if_pos h4] at hfb
        subst hfb
        have h4' : (k : Int) ≤ 400 := by omega
        have HR := hidP hR
        clear hR
        go_wp2_with (first | (go_at_call 30; refine (bytes_at _ k k (List.replicate k ⟨4, 0, 0⟩) _ _ hall (by simp) (by omega) HR.out).mono ?_; rintro e w5 ⟨a5, c5, rfl, ho5, hb5⟩; have hB5 := bstep hb hb5; clear ho5 hb5) | (go_at_call 15; refine (awake27_any _).mono ?_; rintro e w6 ⟨rfl, hb6⟩; have hB6 := bstep hB5 hb6))
        go_ret
        exact ⟨rfl, hB6⟩
      · rw [if_neg h4] at hfb
        subst hfb
        have h4' : ¬ (k : Int) ≤ 400 := by omega
        have h5 : (!decide ((k : Int) ≤ 400)) = true := by simp [h4']
        have HR := hidP hR
        clear hR
        go_wp2_with (first | (go_at_call 30; refine (bytes_at _ k k (List.replicate k ⟨4, 0, 0⟩) _ _ hall (by simp) (by omega) HR.out).mono ?_; rintro e w5 ⟨a5, c5, rfl, ho5, hb5⟩; have hB5 := bstep hb hb5; clear ho5 hb5) | (go_at_call 15; refine (awake27_any _).mono ?_; rintro e w6 ⟨rfl, hb6⟩; have hB6 := bstep hB5 hb6))
        go_ret
        exact ⟨rfl, hB6⟩

theorem scriptBoundsW (w : World) (what : Int) (hw : -9223372036854775808 ≤ what ∧ what ≤ 9223372036854775807) (n : Int) (hn : -9223372036854775808 ≤ n ∧ n ≤ 9223372036854775807) :
    Calls Try.prog 10 #[.int .i64 what, .int .i64 n] w fun e w' => e = .returned (.bool true) ∧ Below w.heap.size w w' :=
  scriptBounds_any what n w hw.1 hw.2 hn.1 hn.2
end Go.Proofs.Ytjjfemhpdhkolaa
