/-
  The walks over the clock's Add and Due.
-/
import Derived.Test.YtjjfemhpdhkolaaCIns2
import Derived.Test.YtjjfemhpdhkolaaCTwo
namespace Go.Proofs.Ytjjfemhpdhkolaa
open Go.RowKit
set_option linter.unusedVariables false

theorem ce_one (x : CE) : (ceV x).oneCell' = true := rfl

/-- The row that Insert left goes into the clock's cell. -/
theorem c_close {w w1 w2 : World} {q : Nat} {P : Nat → Prop} {ao : Option Addr} {n cap : Nat} {l2 : List CE} {u : Value} (hb1 : Below w.heap.size w w1) (hP : ∀ k, P k → k < w.heap.size) (hq : P q) (hqa : (Value.slice ao n cap).ownBlock ≠ some q)
    (hpa : ∀ k, (Value.slice ao n cap).ownBlock = some k → P k) (hq1 : w1.heap[q]? = some (.cells #[u] 85 (0, 0))) (a2 : Option Addr) (c2 : Nat) (ho2 : w2.ownsRow 0 20 1 (.slice a2 l2.length c2) l2.length (l2.map ceV))
    (hk2 : Keep (fun k => (Value.slice ao n cap).ownBlock = some k) w1 w2) (hw2 : ∀ k, (Value.slice a2 l2.length c2).ownBlock = some k → (Value.slice ao n cap).ownBlock = some k ∨ w1.heap.size ≤ k) :
    ∃ P', CIn (w2.setCell ⟨q, 0, none⟩ (.slice a2 l2.length c2)) q P' l2 ∧ Keep P w (w2.setCell ⟨q, 0, none⟩ (.slice a2 l2.length c2)) ∧ ∀ k, P' k → P k ∨ w.heap.size ≤ k := by
  have hs1 := hb1.size
  have hqw := hP q hq
  have hnq : (Value.slice a2 l2.length c2).ownBlock ≠ some q := by
    intro e
    rcases hw2 q e with h | h
    · exact hqa h
    · omega
  have hk3 : Keep (fun k => k = q) w2 (w2.setCell ⟨q, 0, none⟩ (.slice a2 l2.length c2)) := (Keep.refl (fun k => k = q) w2).setCell (p := ⟨q, 0, none⟩) rfl _
  have hq2 : w2.heap[q]? = some (.cells #[u] 85 (0, 0)) := (hk2.block q (by omega) (fun e => hqa e)).trans hq1
  have hka : Keep P w (w2.setCell ⟨q, 0, none⟩ (.slice a2 l2.length c2)) :=
    ((Keep.of_below hb1).then hk2 (fun i _ h => hpa i h)).then hk3 (fun i _ h => h ▸ hq)
  refine ⟨fun k => k = q ∨ (Value.slice a2 l2.length c2).ownBlock = some k, ⟨(Value.slice a2 l2.length c2).ownBlock, ⟨a2, c2, heap_setCell_same w2 q 0 _ _ _ hq2, owns_keep ho2 hk3 (fun k hk' e => hnq (by rw [hk', e])), rfl, hnq⟩, fun k h => h, ?_⟩, hka, ?_⟩
  · rintro k (rfl | h)
    · have := hka.size; omega
    · exact Nat.lt_of_lt_of_le (ho2.lt k h).2 hk3.size
  · rintro k (rfl | h)
    · exact .inl hq
    · rcases hw2 k h with e | e
      · exact .inl (hpa k e)
      · exact .inr (by omega)

set_option maxRecDepth 100000 in
set_option maxHeartbeats 1000000 in
theorem cadd_any (q : Nat) (P : Nat → Prop) (l : List CE) (t a : Int) (w : World) (h : CIn w q P l) (hl : l.length ≤ 900000) :
    Calls Try.prog 40 #[.pointer (some ⟨q, 0, none⟩), .int .i64 t, .int .i64 a] w (OPost (fun w P => CIn w q P (cAdd l t a)) w P fun _ v => v = .tuple #[]) := by
  obtain ⟨g, ⟨ao, cap, hq, ho, rfl, hne⟩, hP, hlt⟩ := h
  have hqP := hP q (.inl rfl)
  have hqs := hlt q hqP
  have hb1 := bnew (brefl w) (.cells #[.int .i64 t] 3)
  have hq1 := (hb1.block q hqs).trans hq
  have c0 := block_cell hq1 0
  have f0 := frozen_of_row _ q 0 _ _ hq1
  simp at c0
  have cb : (w.alloc (.cells #[.int .i64 t] 3)).cell? ⟨w.heap.size, 0, none⟩ = some (.int .i64 t) := by go_simp
  have ho1 : (w.alloc (.cells #[.int .i64 t] 3)).ownsRow 0 20 1 (.slice ao l.length cap) l.length (l.map ceV) := ho.alloc _
  obtain ⟨_, _, hv, _, hcap, _⟩ := owns_open ho
  cases hv
  have hix := ixA_any ao l.length cap w.heap.size l t _ (owns_row ho1) rfl (by omega) cb
  have hle := cutN_le l t
  have Hq1 := hidP hq1
  have HP := hidP hP
  have Hlt := hidP hlt
  have Hne := hidP hne
  have HL := hidP (length_cAdd l t a)
  have hins : Hid (∀ vb w', Below (w.heap.size + 1) (w.alloc (.cells #[.int .i64 t] 3)) w' → w.heap.size + 1 ≤ vb → w'.heap[vb]? = some (.cells #[ceV (t, a)] 20 (0, 0)) →
      Calls Try.prog 63 #[.slice ao l.length cap, .int .i64 (cutN l t : Nat), .slice (some ⟨vb, 0, none⟩) 1 1] w' (InsPost w' ao l.length cap ((cAdd l t a).map ceV))) := by
    intro vb w' hb hvb hvr
    have hb' : Below (w.alloc (.cells #[.int .i64 t] 3)).heap.size (w.alloc (.cells #[.int .i64 t] 3)) w' := by simpa using hb
    have := ins_any ao l.length cap (cutN l t) vb (l.map ceV) (ceV (t, a)) w' (owns_below ho1 hb') hle (ceV_one l) (ce_one _) hvr (fun e => by have := (ho.lt vb e).2; omega) (by omega)
    refine this.mono fun e w'' h => ?_
    have e1 : (cAdd l t a).map ceV = (l.map ceV).take (cutN l t) ++ [ceV (t, a)] ++ (l.map ceV).drop (cutN l t) := by simp [cAdd, List.map_take, List.map_drop]
    rw [e1]
    exact h
  clear ho ho1 hq hq1 hne hle hP hlt
  by_cases hk : cutN l t < l.length
  · rw [idxC_pos hk] at hix
    generalize cutN l t = k at *
    have hneg : ¬ ((k : Int) < 0) := by omega
    go_enter Try.func40, Try.ntmps40
    go_upto_region 5 with (
      (go_at_call 57; refine hix.mono ?_; rintro e w2 ⟨rfl, hb2⟩; have d0 := (hb2.cell (p := ⟨q, 0, none⟩) (by simp; omega)).trans c0; have db := (hb2.cell (p := ⟨w.heap.size, 0, none⟩) (by simp)).trans cb)
      )
    have hB2 : Below w.heap.size w w2 := bstep hb1 hb2
    have hs2 := hb2.size
    simp at hs2
    have hqW : (w2.drew.alloc (.cells #[ceV (t, a)] 20)).heap[q]? = some (.cells #[.slice ao l.length cap] 85 (0, 0)) :=
      (Below.heap_alloc w2.drew _ q (by show q < w2.heap.size; omega)).trans ((hb2.block q (by simp; omega)).trans Hq1.out)
    have hBW : Below w.heap.size w (w2.drew.alloc (.cells #[ceV (t, a)] 20)) := bnew hB2.drew _
    have hI := hins.out w2.heap.size (w2.drew.alloc (.cells #[ceV (t, a)] 20)) (by have := (hb2.drew).alloc hb2.size (.cells #[ceV (t, a)] 20); simpa using this) (by omega) (heap_alloc_new w2.drew _)
    have dA : (w2.alloc (.cells #[.iface 93 (.agg #[.int .i64 t, .int .i64 a])] 20)).cell? ⟨q, 0, none⟩ = some (.slice ao l.length cap) := ((bnew (brefl w2) _).cell (p := ⟨q, 0, none⟩) (by show q < w2.heap.size; omega)).trans d0
    have HI := hidP hI
    have HqW := hidP hqW
    clear hins hI hqW hix cb
    go_region_law (first | (go_simp; go_at_call 63; refine HI.out.mono ?_; rintro e w3 ⟨a2, c2, rfl, ho2, hk2, hw2⟩; have hq3 := (hk2.block q (by simp; omega) (fun e => Hne.out e)).trans HqW.out; have e0 := block_cell hq3 0; have k3 := frozen_of_row _ q 0 _ _ hq3; have Hq3 := hidP hq3; clear hq3; simp at e0) | fail)
    all_goals
      go_wp2
      first | go_end0 | ((try simp only [Exit.inBlock, Exit.then]); refine bodyPost_ret (results_none rfl _ _ _) rfl ?_)
      have ho3 : w3.ownsRow 0 20 1 (.slice a2 (cAdd l t a).length c2) (cAdd l t a).length ((cAdd l t a).map ceV) := by rw [HL.out]; exact ho2
      have hw3 := hw2
      rw [← HL.out] at hw3
      have := c_close (P := P) hBW Hlt.out hqP Hne.out (fun k e => HP.out k (.inr e)) HqW.out a2 c2 ho3 hk2 (fun k hk => hw3.elim (fun e => .inl (e ▸ hk)) (fun ⟨j, e, hj⟩ => .inr (by rw [e] at hk; cases hk; exact hj)))
      rw [HL.out] at this
      exact ⟨_, rfl, rfl, this⟩
  · rw [idxC_neg hk] at hix
    have hkl : cutN l t = l.length := by have := cutN_le l t; omega
    rw [hkl] at hins
    go_enter Try.func40, Try.ntmps40
    go_upto_region 5 with (
      (go_at_call 57; refine hix.mono ?_; rintro e w2 ⟨rfl, hb2⟩; have d0 := (hb2.cell (p := ⟨q, 0, none⟩) (by simp; omega)).trans c0; have db := (hb2.cell (p := ⟨w.heap.size, 0, none⟩) (by simp)).trans cb)
      )
    have hB2 : Below w.heap.size w w2 := bstep hb1 hb2
    have hs2 := hb2.size
    simp at hs2
    have hqW : (w2.drew.alloc (.cells #[ceV (t, a)] 20)).heap[q]? = some (.cells #[.slice ao l.length cap] 85 (0, 0)) :=
      (Below.heap_alloc w2.drew _ q (by show q < w2.heap.size; omega)).trans ((hb2.block q (by simp; omega)).trans Hq1.out)
    have hBW : Below w.heap.size w (w2.drew.alloc (.cells #[ceV (t, a)] 20)) := bnew hB2.drew _
    have hI := hins.out w2.heap.size (w2.drew.alloc (.cells #[ceV (t, a)] 20)) (by have := (hb2.drew).alloc hb2.size (.cells #[ceV (t, a)] 20); simpa using this) (by omega) (heap_alloc_new w2.drew _)
    have dA : (w2.alloc (.cells #[.iface 93 (.agg #[.int .i64 t, .int .i64 a])] 20)).cell? ⟨q, 0, none⟩ = some (.slice ao l.length cap) := ((bnew (brefl w2) _).cell (p := ⟨q, 0, none⟩) (by show q < w2.heap.size; omega)).trans d0
    have HI := hidP hI
    have HqW := hidP hqW
    clear hins hI hqW hix cb
    go_region_law (first | (go_simp; go_at_call 63; refine HI.out.mono ?_; rintro e w3 ⟨a2, c2, rfl, ho2, hk2, hw2⟩; have hq3 := (hk2.block q (by simp; omega) (fun e => Hne.out e)).trans HqW.out; have e0 := block_cell hq3 0; have k3 := frozen_of_row _ q 0 _ _ hq3; have Hq3 := hidP hq3; clear hq3; simp at e0) | fail)
    all_goals
      go_wp2
      first | go_end0 | ((try simp only [Exit.inBlock, Exit.then]); refine bodyPost_ret (results_none rfl _ _ _) rfl ?_)
      have ho3 : w3.ownsRow 0 20 1 (.slice a2 (cAdd l t a).length c2) (cAdd l t a).length ((cAdd l t a).map ceV) := by rw [HL.out]; exact ho2
      have hw3 := hw2
      rw [← HL.out] at hw3
      have := c_close (P := P) hBW Hlt.out hqP Hne.out (fun k e => HP.out k (.inr e)) HqW.out a2 c2 ho3 hk2 (fun k hk => hw3.elim (fun e => .inl (e ▸ hk)) (fun ⟨j, e, hj⟩ => .inr (by rw [e] at hk; cases hk; exact hj)))
      rw [HL.out] at this
      exact ⟨_, rfl, rfl, this⟩
end Go.Proofs.Ytjjfemhpdhkolaa
