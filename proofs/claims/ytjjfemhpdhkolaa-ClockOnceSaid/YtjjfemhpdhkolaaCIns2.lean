/-
  slices.Insert of one value into a row of interface values, whatever room there is.
-/
import Derived.Test.YtjjfemhpdhkolaaCGrow
namespace Go.Proofs.Ytjjfemhpdhkolaa
open Go.RowKit
set_option linter.unusedVariables false

theorem Keep.setCells {S : Nat → Prop} {a b : World} (h : Keep S a b) {g : Nat} (hg : S g) (vs : List Value) : ∀ o, Keep S a (b.setCells g o vs) := by
  induction vs generalizing b with
  | nil => intro o; exact h
  | cons u vs ih => intro o; exact ih (h.setCell (p := ⟨g, o, none⟩) hg u) (o + 1)

theorem takeShift {α : Type} (cur cs : List α) (x : α) (n i : Nat) (hn : cs.length = n) (hi : i < n) (hc : n + 1 ≤ cur.length) (ht : cur.take n = cs) :
   ((cur.take (i+1) ++ cs.drop i ++ cur.drop (i + 1 + (cs.drop i).length)).take i ++ [x] ++ (cur.take (i+1) ++ cs.drop i ++ cur.drop (i + 1 + (cs.drop i).length)).drop (i + [x].length)).take (n+1) = cs.take i ++ [x] ++ cs.drop i := by
  have h1 : (cur.take (i+1) ++ cs.drop i ++ cur.drop (i + 1 + (cs.drop i).length)).take i = cs.take i := by
    rw [List.append_assoc, List.take_append_of_le_length (by simp; omega), List.take_take, ← ht, List.take_take]
    congr 1; omega
  have h2 : (cur.take (i+1) ++ cs.drop i ++ cur.drop (i + 1 + (cs.drop i).length)).drop (i + [x].length) = cs.drop i ++ cur.drop (i + 1 + (cs.drop i).length) := by
    have : (cur.take (i+1)).length = i + [x].length := by simp; omega
    rw [List.append_assoc, ← this, List.drop_left]
  rw [h1, h2, ← List.append_assoc]
  have hl : (cs.take i ++ [x] ++ cs.drop i).length = n + 1 := by simp; omega
  rw [List.take_append_of_le_length (by rw [hl]; omega), List.take_of_length_le (by rw [hl]; omega)]

theorem ins_any (ao : Option Addr) (n c i vb : Nat) (cs : List Value) (x : Value) (w : World) (ho : w.ownsRow 0 20 1 (.slice ao n c) n cs) (hi : i ≤ n) (h1 : ∀ u ∈ cs, u.oneCell' = true) (hx : x.oneCell' = true)
    (hv : w.heap[vb]? = some (.cells #[x] 20 (0, 0))) (hvg : (Value.slice ao n c).ownBlock ≠ some vb) (hmax : n ≤ 1000000) :
    Calls Try.prog 63 #[.slice ao n c, .int .i64 i, .slice (some ⟨vb, 0, none⟩) 1 1] w (InsPost w ao n c (cs.take i ++ [x] ++ cs.drop i)) := by
  have hn : cs.length = n := by have := ho.1; simpa using this
  by_cases hin : i = n
  · subst hin
    rw [List.take_of_length_le (by omega), List.drop_eq_nil_of_le (by omega), List.append_nil]
    exact ins_end ao i c vb cs x w ho hx hv hmax
  · have hlt : i < n := by omega
    rcases ho.2 with ⟨_, h0⟩ | ⟨g, cap', cur, hsl, hb, hg, hnc, hcm, hcz, htk⟩
    · omega
    · cases hsl
      rw [Nat.mul_one] at hcz htk
      have hgv : vb ≠ g := fun e => hvg (by simp [Value.ownBlock, e])
      have htl : (cs.take i).length = i := by rw [List.length_take]; omega
      have hdl : (cs.drop i).length = n - i := by rw [List.length_drop, hn]
      by_cases hroom : n + 1 ≤ c
      · refine (ins_shift g n c i vb cs x cur w hg hcz htk hn hlt hroom hcm h1 hx hv hgv hmax).mono ?_
        rintro e w' ⟨rfl, rfl⟩
        have hW1 := heap_setCells g 20 (cs.drop i) (i + 1) cur w.drew hg (by rw [hdl]; omega)
        have hW2 := heap_setCells g 20 [x] i _ _ hW1 (by simp [hdl]; omega)
        have hk : Keep (fun k => (Value.slice (some ⟨g, 0, none⟩) n c).ownBlock = some k) w ((w.drew.setCells g (i + 1) (cs.drop i)).setCells g i [x]) :=
          ((Keep.refl (fun k => (Value.slice (some ⟨g, 0, none⟩) n c).ownBlock = some k) w).drew.setCells (g := g) rfl _ _).setCells (g := g) rfl _ _
        refine ⟨_, _, rfl, ⟨by simp [htl, hdl]; omega, .inr ⟨g, c, _, rfl, hb, hW2, hroom, hcm, ?_, ?_⟩⟩, hk, .inl rfl⟩
        · simp [hdl]; omega
        · rw [Nat.mul_one, List.toList_toArray]
          exact takeShift cur.toList cs x n i hn hlt (by simp; omega) htk
      · obtain rfl : c = n := by omega
        have hcell : ∀ j v, cs[j]? = some v → w.cell? ⟨g, j, none⟩ = some v := fun j v hj => by
          rw [block_cell hg j, ← Array.getElem?_toList]
          rw [← htk, List.getElem?_take] at hj
          split at hj
          · exact hj
          · cases hj
        refine (ins_grow g c i vb cs x w hcell hn hlt h1 hx hv hmax).mono ?_
        rintro e w' ⟨G, cur', rfl, hW, hG, hT, hnG, hGm, hB⟩
        refine ⟨_, _, rfl, ⟨by simp [htl, hdl]; omega, .inr ⟨w.heap.size, G, cur', rfl, Nat.zero_le _, hW, hnG, hGm, by simpa using hG, by simpa using hT⟩⟩, .of_below hB, .inr ⟨w.heap.size, rfl, Nat.le_refl _⟩⟩
end Go.Proofs.Ytjjfemhpdhkolaa
