/-
  The walks over the reference's queue, and over 'In'.
-/
import Derived.Test.YtjjfemhpdhkolaaQueue
namespace Go.Proofs.Ytjjfemhpdhkolaa
open Go.RowKit
set_option linter.unusedVariables false

set_option maxRecDepth 100000 in
set_option maxHeartbeats 400000 in
theorem in_any (ao : Option Addr) (n c : Nat) (l : List Int) (x : Int) (w : World) (hr : RowAt w ao (l.map (Value.int .i64))) (hn : l.length = n) (hmax : n ≤ 140737488355328) :
    Calls Try.prog 28 #[.slice ao n c, .int .i64 x] w fun e w' => e = .returned (.bool (decide (x ∈ l))) ∧ w = w' := by
  have Hn := hidP hn
  clear hn
  go_enter Try.func28, Try.ntmps28
  go_wp2
  go_loop [5] (fun i => ∃ k : Nat, i = .int .i64 k ∧ k ≤ n ∧ Hid (x ∉ l.take k)) (fun i => n - (intOf i).toNat)
  case atStart => exact ⟨0, rfl, Nat.zero_le _, by show x ∉ l.take 0; simp⟩
  case round =>
    obtain ⟨k, rfl, hk, HM⟩ := hrel
    by_cases hlt : k < n
    · obtain ⟨b, o, rfl, hca⟩ := hr.addr (by rw [List.length_map, Hn.out]; omega)
      obtain ⟨y, hy⟩ : ∃ y, l[k]? = some y := ⟨_, List.getElem?_eq_getElem (by rw [Hn.out]; omega)⟩
      have x0 : w.cell? ⟨b, o + k, none⟩ = some (.int .i64 y) := hca k _ (by rw [List.getElem?_map, hy]; rfl)
      have HY := hidP hy
      clear hy hca hr
      go_wp2
      · have he : (y == x) = true := by assumption
        obtain rfl : y = x := by simpa using he
        have hd : decide (y ∈ l) = true := by simp [List.mem_of_getElem? HY.out]
        go_ret
        exact ⟨by rw [hd]; rfl, rfl⟩
      · have he : (y == x) = false := by assumption
        go_round
        case rel => exact ⟨k + 1, by go_num, by omega, not_mem_take_succ HM.out HY.out (by simpa using he)⟩
        case measure => simp [intOf]; omega
    · have hd : decide (x ∈ l) = false := by simp [not_mem_all HM.out (by rw [Hn.out]; omega)]
      go_wp2
      go_ret
      exact ⟨by first | rfl | (rw [hd]; rfl), rfl⟩

/-- At block r lies the reference's queue, which holds l; its row lies in block g. -/
def RAt (w : World) (r : Nat) (g : Option Nat) (l : List Int) : Prop :=
  ∃ ao cap, w.heap[r]? = some (.cells #[.slice ao l.length cap] 43 (0, 0)) ∧ w.ownsRow 0 3 1 (.slice ao l.length cap) l.length (l.map (Value.int .i64)) ∧
    g = (Value.slice ao l.length cap).ownBlock ∧ g ≠ some r

theorem RAt.lt {w : World} {q : Nat} {g : Option Nat} {l : List Int} (h : RAt w q g l) : q < w.heap.size := by
  obtain ⟨ao, cap, hq, _⟩ := h
  exact block_lt hq
theorem RAt.glt {w : World} {q : Nat} {g : Option Nat} {l : List Int} (h : RAt w q g l) : ∀ k, g = some k → k < w.heap.size := by
  obtain ⟨ao, cap, hq, ho, rfl, _⟩ := h
  exact fun k hk => (ho.lt k hk).2
theorem RAt.keep {S : Nat → Prop} {w w' : World} {q : Nat} {g : Option Nat} {l : List Int} (h : RAt w q g l) (hk : Keep S w w') (hq : ¬ S q) (hg : ∀ k, g = some k → ¬ S k) : RAt w' q g l := by
  obtain ⟨ao, cap, h1, h4, rfl, h6⟩ := h
  exact ⟨ao, cap, (hk.block q (block_lt h1) hq).trans h1, owns_keep h4 hk hg, rfl, h6⟩
theorem RAt.below {w w' : World} {q : Nat} {g : Option Nat} {l : List Int} (h : RAt w q g l) (hb : Below w.heap.size w w') : RAt w' q g l :=
  h.keep (S := fun _ => False) (.of_below hb) (fun h => h) (fun _ _ h => h)

/-- What an operation on the reference's queue leaves. -/
def RPost (w : World) (q : Nat) (g : Option Nat) (v : Value) (l' : List Int) (e : Ending) (w' : World) : Prop :=
  e = .returned v ∧ ∃ g', RAt w' q g' l' ∧ Keep (fun k => k = q) w w' ∧ (∀ k, g' = some k → g = some k ∨ w.heap.size ≤ k)

set_option maxRecDepth 100000 in
set_option maxHeartbeats 400000 in
theorem refAdd_any (q : Nat) (g : Option Nat) (l : List Int) (a : Int) (w : World) (h : RAt w q g l) (hl : l.length ≤ 900000) :
    Calls Try.prog 25 #[.pointer (some ⟨q, 0, none⟩), .int .i64 a] w (RPost w q g (.bool (decide (a ∉ l))) (qAdd l a)) := by
  have h' := h
  obtain ⟨ao, cap, hq, ho, hg, hne⟩ := h
  have c0 := block_cell hq 0
  have f0 := frozen_of_row w q 0 _ _ hq
  have hqs := block_lt hq
  simp at c0
  have hr := owns_row ho
  have Hg := hidP hg
  have Hne := hidP hne
  have Hq := hidP hq
  clear hg hne hq
  by_cases hin : a ∈ l
  · have hd : decide (a ∉ l) = false := by simp [hin]
    have hd1 : decide (a ∈ l) = true := by simp [hin]
    have hq : qAdd l a = l := by unfold qAdd; rw [if_pos hin]
    rw [hd, hq]
    have HI := hidP (in_any ao l.length cap l a w hr rfl (by omega))
    rw [hd1] at HI
    clear hd hq hd1 hin
    go_enter Try.func25, Try.ntmps25
    go_wp2_with (go_at_call 28; refine HI.out.mono ?_; rintro e w1 ⟨rfl, rfl⟩)
    go_ret
    exact ⟨rfl, g, h', Keep.refl _ _, fun k hk => .inl hk⟩
  · have hd : decide (a ∉ l) = true := by simp [hin]
    have hd1 : decide (a ∈ l) = false := by simp [hin]
    have hq : qAdd l a = l ++ [a] := by unfold qAdd; rw [if_neg hin]
    rw [hd, hq]
    have HI := hidP (in_any ao l.length cap l a w hr rfl (by omega))
    rw [hd1] at HI
    clear hd hq hd1 hin
    go_enter Try.func25, Try.ntmps25
    go_wp2_with (first | (go_at_call 28; refine HI.out.mono ?_; rintro e w1 ⟨rfl, rfl⟩) | (at_builtin; refine (wpList_app _ rfl (.const (.slice none 0 0)) (.tmp 15) rfl Try.slInt w.heap.size (.slice none 0 0) 0 [] rfl (World.ownsRow_nil _ _ _ _) ao l.length cap (l.map (Value.int .i64)) rfl l.length (by omega) hr (by simp) (ints_one _ _) (by omega) (by unfold maxLen; omega) (Nat.le_refl _) ?_); intro a1 c1 w1 ho1 hg1 hw1; have hb1 : Below w.heap.size w w1 := below_grown hg1 (Nat.le_refl _) (by simp [Value.ownBlock]); have hs1 := hb1.size; have HG1 := hidP hg1; clear hg1 hw1) | (at_builtin; refine (wpList_app _ rfl (.tmp 16) (.tmp 18) rfl Try.slInt w.heap.size (.slice a1 l.length c1) l.length ([] ++ l.map (Value.int .i64)) rfl (ho1.alloc _) (some ⟨w1.heap.size, 0, none⟩) 1 1 [.int .i64 a] rfl (l.length + 1) rfl (RowAt.new w1 [.int .i64 a] _) rfl (by simp; rfl) (by omega) (by unfold maxLen; omega) (by simp; omega) ?_); intro a2 c2 w2 ho2 hg2 hw2; have hb2 : Below w.heap.size w w2 := (bnew hb1 _).trans (below_grown hg2 (by simp; omega) (fun k hk => (ho1.lt k hk).1)); have hq2 := (hb2.block q hqs).trans Hq.out; have d0 := block_cell hq2 0; have k0 := frozen_of_row w2 q 0 _ _ hq2; simp at d0; have HQ2 := hidP hq2; have HO2 := hidP ho2; clear hq2 ho2 hg2 hw2 ho1 c0 f0 ho hr))
    go_ret
    have hlen : (l ++ [a]).length = l.length + 1 := by simp
    have ho3 := HO2.out
    rw [List.nil_append, ← hlen] at ho3
    rw [← hlen]
    have hge : ∀ k, (Value.slice a2 (l ++ [a]).length c2).ownBlock = some k → w.heap.size ≤ k := fun k hk => (ho3.lt k hk).1
    have hnq : (Value.slice a2 (l ++ [a]).length c2).ownBlock ≠ some q := fun e => by have := hge q e; omega
    have hk : Keep (fun k => k = q) w2 (w2.setCell ⟨q, 0, none⟩ (.slice a2 (l ++ [a]).length c2)) := (Keep.refl (fun k => k = q) w2).setCell (p := ⟨q, 0, none⟩) rfl _
    refine ⟨rfl, _, ⟨a2, c2, heap_setCell_same w2 q 0 _ _ _ HQ2.out, ?_, rfl, hnq⟩, (Keep.of_below hb2).then hk (fun i _ h => h), ?_⟩
    · rw [List.map_append]
      exact owns_keep (owns_mono ho3 (Nat.zero_le _)) hk (fun k hk' e => hnq (by rw [hk', e]))
    · exact fun k hk => .inr (hge k hk)

set_option maxRecDepth 100000 in
set_option maxHeartbeats 400000 in
theorem refAt_any (q : Nat) (g : Option Nat) (l : List Int) (i : Int) (w : World) (h : RAt w q g l) (hl : l.length ≤ 1000000) (hi0 : -9223372036854775808 ≤ i) (hi1 : i ≤ 9223372036854775807) :
    Calls Try.prog 24 #[.pointer (some ⟨q, 0, none⟩), .int .i64 i] w fun e w' => e = .returned (.tuple #[.int .i64 (qAt l i), .bool (decide (l ≠ []))]) ∧ Below w.heap.size w w' := by
  obtain ⟨ao, cap, hq, ho, hg, hne⟩ := h
  have c0 := block_cell hq 0
  have hqs := block_lt hq
  simp at c0
  obtain ⟨n, hn⟩ : ∃ n, l.length = n := ⟨_, rfl⟩
  rw [hn] at c0 ho hl
  have Hn := hidP hn
  have hr := owns_row ho
  clear hn ho hg hne hq
  by_cases h0 : n = 0
  · subst h0
    have hl0 : l = [] := List.eq_nil_of_length_eq_zero Hn.out
    subst hl0
    go_enter Try.func24, Try.ntmps24
    go_wp2
    go_ret2
    exact ⟨rfl, Below.refl _ _⟩
  · obtain ⟨x, hx, hqa⟩ := qAt_pos (i := i) Hn.out h0
    have hd : decide (l ≠ []) = true := by
      rw [decide_eq_true_iff]
      intro e
      have := Hn.out
      subst e
      simp at this
      omega
    rw [hqa, hd]
    obtain ⟨b, o, rfl, hca⟩ := hr.addr (by rw [List.length_map, Hn.out]; omega)
    have cx : w.cell? ⟨b, o + (if i < 0 then 0 else i).toNat % n, none⟩ = some (.int .i64 x) := hca _ _ (by rw [List.getElem?_map, hx]; rfl)
    have hm : (if i < 0 then 0 else i).toNat % n < n := Nat.mod_lt _ (by omega)
    have h1 : ((n : Int) == 0) = false := by simp; omega
    clear hqa hd hr hca hx
    by_cases hneg : i < 0
    · rw [if_pos hneg] at cx hm
      have cx0 : w.cell? ⟨b, o, none⟩ = some (.int .i64 x) := by simpa using cx
      have hmx : max 0 i = 0 := by omega
      clear cx hm
      go_enter Try.func24, Try.ntmps24
      go_wp2
      go_quiet (fail)
      go_wp2
      go_ret2
      exact ⟨rfl, below_drewN (brefl w) _⟩
    · rw [if_neg hneg] at cx hm
      obtain ⟨j, rfl⟩ := Int.eq_ofNat_of_zero_le (by omega : 0 ≤ i)
      simp only [Int.toNat_natCast] at cx hm
      go_enter Try.func24, Try.ntmps24
      go_wp2
      go_quiet (fail)
      go_wp2
      go_ret2
      exact ⟨rfl, below_drewN (brefl w) _⟩

set_option maxRecDepth 100000 in
set_option maxHeartbeats 1000000 in
theorem refRemove_any (q : Nat) (g : Option Nat) (l : List Int) (a : Int) (w : World) (h : RAt w q g l) (hl : l.length ≤ 900000) :
    Calls Try.prog 23 #[.pointer (some ⟨q, 0, none⟩), .int .i64 a] w (RPost w q g (.bool (decide (a ∈ l))) (l.erase a)) := by
  have h' := h
  obtain ⟨ao, cap, hq, ho, hg, hne⟩ := h
  have c0 := block_cell hq 0
  have f0 := frozen_of_row w q 0 _ _ hq
  have hqs := block_lt hq
  simp at c0
  have hr := owns_row ho
  obtain ⟨_, _, hv, _, hcap, _⟩ := owns_open ho
  cases hv
  obtain ⟨n, hn⟩ : ∃ n, l.length = n := ⟨_, rfl⟩
  rw [hn] at c0 ho hl hcap hq
  have Hn := hidP hn
  have Hg := hidP hg
  have Hne := hidP hne
  have Hq := hidP hq
  clear hg hne hq hn
  go_enter Try.func23, Try.ntmps23
  go_wp2
  go_loop [5] (fun i => ∃ k : Nat, i = .int .i64 k ∧ k ≤ n ∧ Hid (a ∉ l.take k)) (fun i => n - (intOf i).toNat)
  case atStart => exact ⟨0, rfl, Nat.zero_le _, by show a ∉ l.take 0; simp⟩
  case round =>
    obtain ⟨k, rfl, hk, HM⟩ := hrel
    by_cases hlt : k < n
    · obtain ⟨b, o, rfl, hca⟩ := hr.addr (by rw [List.length_map, Hn.out]; omega)
      obtain ⟨y, hy⟩ : ∃ y, l[k]? = some y := ⟨_, List.getElem?_eq_getElem (by rw [Hn.out]; omega)⟩
      have x0 : w.cell? ⟨b, o + k, none⟩ = some (.int .i64 y) := hca k _ (by rw [List.getElem?_map, hy]; rfl)
      have HY := hidP hy
      have HC := hidP hca
      clear hy hca
      by_cases hya : y = a
      · have he : (y == a) = true := by simp [hya]
        obtain ⟨hmem, hidx⟩ := idx_found HM.out (HY.out.trans (by rw [hya]))
        have hd : decide (a ∈ l) = true := by simp [hmem]
        have hE : l.erase a = l.take k ++ l.drop (k + 1) := by rw [erase_at hmem, hidx]
        have HD := hidP hd
        have HE := hidP hE
        clear hd hE hmem hidx hya
        have hqb : q < w.heap.size := hqs
        have hrd : RowAt w (cutA (some ⟨b, o, none⟩) (k + 1) cap 1) ((l.drop (k + 1)).map (Value.int .i64)) := by
          have := hr.cut (k + 1) cap 1 (by rw [List.length_map, Hn.out]; omega)
          rwa [Nat.mul_one, ← List.map_drop] at this
        have i0 : (0 : Int) ≤ (k : Int) := by omega
        have i1 : (k : Int) ≤ (cap : Int) := by omega
        go_wp2_with fail
        have e1 : IntKind.i64.wrap ((k : Int) + 1) = (k : Int) + 1 := IntWalk.i64_in _ (by omega)
        have i2 : (0 : Int) ≤ (k : Int) + 1 := by omega
        have i3 : (k : Int) + 1 ≤ (n : Int) := by omega
        have i4 : ((k : Int) + 1).toNat = k + 1 := by omega
        go_region_law
          (first
            | (refine step_app _ (by rfl) (.const (.slice none 0 0)) (.tmp 30) (by rfl) Try.slInt w.heap.size (.slice none 0 0) 0 [] (by rfl) (World.ownsRow_nil _ _ _ _) (some ⟨b, o, none⟩) k cap ((l.take k).map (Value.int .i64)) (by rfl) k (by omega) (by rw [List.map_take]; exact hr.take _) (by rw [List.length_map, List.length_take, Hn.out]; omega) (ints_one _ _) (by omega) (by unfold maxLen; omega) (Nat.le_refl _) ?_; intro a1 c1 w1 ho1 hg1 hw1; have hb1 : Below w.heap.size w w1 := (brefl w).drew.trans (below_grown hg1 (Nat.le_refl _) (by simp [Value.ownBlock])); have hs1 := hb1.size; have d1 : w1.cell? ⟨q, 0, none⟩ = some (.slice (some ⟨b, o, none⟩) n cap) := (hb1.cell (p := ⟨q, 0, none⟩) hqb).trans c0)
            | (refine step_app _ (by rfl) (.tmp 31) (.tmp 38) (by rfl) Try.slInt w.heap.size (.slice a1 k c1) k ([] ++ (l.take k).map (Value.int .i64)) (by rfl) ho1 (cutA (some ⟨b, o, none⟩) (k + 1) cap 1) (n - (k + 1)) (cap - (k + 1)) ((l.drop (k + 1)).map (Value.int .i64)) (by rfl) (n - 1) (by omega) (hrd.below hb1) (by rw [List.length_map, List.length_drop, Hn.out]; omega) (ints_one _ _) (by omega) (by unfold maxLen; omega) hs1 ?_; intro a2 c2 w2 ho2 hg2 hw2; have hb2 : Below w.heap.size w w2 := hb1.trans (below_grown hg2 hs1 (fun k hk => (ho1.lt k hk).1)); have d2 : w2.cell? ⟨q, 0, none⟩ = some (.slice (some ⟨b, o, none⟩) n cap) := (hb2.cell (p := ⟨q, 0, none⟩) hqb).trans c0; have k2 : w2.frozen? ⟨q, 0, none⟩ = false := (hb2.frozen (p := ⟨q, 0, none⟩) hqb).trans f0) | fail)
        all_goals
          go_wp2
          go_ret
          rw [HD.out, HE.out]
          have hlen : (l.take k ++ l.drop (k + 1)).length = n - 1 := by rw [List.length_append, List.length_take, List.length_drop, Hn.out]; omega
          have ho3 := ho2
          rw [List.nil_append, ← hlen] at ho3
          rw [← hlen]
          have hge : ∀ k', (Value.slice a2 (l.take k ++ l.drop (k + 1)).length c2).ownBlock = some k' → w.heap.size ≤ k' := fun k' hk' => (ho3.lt k' hk').1
          have hnq : (Value.slice a2 (l.take k ++ l.drop (k + 1)).length c2).ownBlock ≠ some q := fun e => by have := hge q e; omega
          have hk' : Keep (fun k => k = q) w2 (w2.setCell ⟨q, 0, none⟩ (.slice a2 (l.take k ++ l.drop (k + 1)).length c2)) := (Keep.refl (fun k => k = q) w2).setCell (p := ⟨q, 0, none⟩) rfl _
          have hq2 := (hb2.block q hqs).trans Hq.out
          refine ⟨rfl, _, ⟨a2, c2, heap_setCell_same w2 q 0 _ _ _ hq2, ?_, rfl, hnq⟩, (Keep.of_below hb2).then hk' (fun i _ h => h), fun k hk => .inr (hge k hk)⟩
          rw [List.map_append]
          exact owns_keep (owns_mono ho3 (Nat.zero_le _)) hk' (fun k hk' e => hnq (by rw [hk', e]))
      · have he : (y == a) = false := by simp [hya]
        go_wp2
        go_round
        case rel => exact ⟨k + 1, by go_num, by omega, not_mem_take_succ HM.out HY.out hya⟩
        case measure => simp [intOf]; omega
    · have hnm := not_mem_all HM.out (by rw [Hn.out]; omega)
      have hd : decide (a ∈ l) = false := by simp [hnm]
      have HE := hidP (List.erase_of_not_mem hnm)
      have HD := hidP hd
      clear hd
      go_wp2
      go_ret
      rw [HE.out]
      exact ⟨by first | rfl | (rw [HD.out]; rfl), g, h', Keep.refl _ _, fun k hk => .inl hk⟩
end Go.Proofs.Ytjjfemhpdhkolaa
