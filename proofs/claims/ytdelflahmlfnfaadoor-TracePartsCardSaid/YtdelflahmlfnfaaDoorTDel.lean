/-
  The walk over slices.DeleteFunc at events: what is hidden goes.
-/
import Derived.Test.YtdelflahmlfnfaaDoorTSeen
import Derived.Lib.SliceRun
import Derived.Laws.IdiomCopy
namespace Go.Proofs.YtdelflahmlfnfaaDoor
open Go.RowKit
set_option linter.unusedVariables false

def vis (l : List Ev) : List Ev := l.filter fun x => !isHid x
theorem vis_append (a b : List Ev) : vis (a ++ b) = vis a ++ vis b := List.filter_append ..
theorem vis_le (l : List Ev) : (vis l).length ≤ l.length := List.length_filter_le _ _

theorem run_clear_row {P : Program} {n : Nat} (w : World) (t e ty : TypeId) (z : Value) (ht : P.underlying t = some (.slice e)) (hv : ∀ w, (zeroValue e).run P w = .ok z w) (h1 : ∀ v ∈ (Builtin.zeroCells z.cells n).toList, v.oneCell' = true) (b o c : Nat) (hn : 0 < n)
    (hc : ∀ j, j < (Builtin.zeroCells z.cells n).toList.length → (w.cell? ⟨b, o + j, none⟩).isSome = true) (hf : ∀ j, j < (Builtin.zeroCells z.cells n).toList.length → w.frozen? ⟨b, o + j, none⟩ = false) :
    (Builtin.clear_ #[t] ty #[.slice (some ⟨b, o, none⟩) n c]).run P w = .ok (.tuple #[]) (w.setCells b o (Builtin.zeroCells z.cells n).toList) := by
  have hst := run_storeCells_cells (P := P) b o (Builtin.zeroCells z.cells n).toList 0 w (by simpa using hc) (by simpa using hf) h1
  simp only [Nat.add_zero] at hst
  obtain ⟨m, rfl⟩ : ∃ m, n = m + 1 := ⟨n - 1, by omega⟩
  simp [Builtin.clear_, run_underlying ht, hv, hst]

theorem block_cell {w : World} {b : Nat} {cs : Array Value} {t : TypeId} {fr : Nat × Nat} (h : w.heap[b]? = some (.cells cs t fr)) (j : Nat) : w.cell? ⟨b, j, none⟩ = cs[j]? := cell_of_row w b j cs t fr h
theorem block_lt {w : World} {b : Nat} {o : Obj} (h : w.heap[b]? = some o) : b < w.heap.size := (Array.getElem?_eq_some_iff.1 h).1
theorem first_hid {l : List Ev} {k : Nat} (h : idxH l = k) : ∃ x, l[k]? = some x ∧ isHid x = true ∧ ∀ y ∈ l.take k, isHid y = false := by
  unfold idxH at h
  split at h
  · rename_i ha
    have hk : l.findIdx isHid = k := by omega
    have hl : k < l.length := by rw [← hk]; exact List.findIdx_lt_length.2 (by rw [List.any_eq_true] at ha; obtain ⟨x, h1, h2⟩ := ha; exact ⟨x, h1, h2⟩)
    refine ⟨_, List.getElem?_eq_getElem hl, ?_, fun y hy => ?_⟩
    · have := (List.findIdx_eq hl).1 hk
      exact this.1
    · obtain ⟨j, hj, rfl⟩ := List.mem_take_iff_getElem.1 hy
      have := (List.findIdx_eq hl).1 hk
      exact this.2 j (by omega)
  · omega
theorem vis_all {l : List Ev} (h : ∀ y ∈ l, isHid y = false) : vis l = l := by
  unfold vis
  rw [List.filter_eq_self]
  intro y hy
  rw [h y hy]
  rfl

theorem put_take (L x : List Value) (i : Nat) (hx : x.length = 4) (hi : i * 4 + 4 ≤ L.length) : (L.take (i * 4) ++ x ++ L.drop (i * 4 + x.length)).take ((i + 1) * 4) = L.take (i * 4) ++ x := by
  have h : (L.take (i * 4) ++ x).length = (i + 1) * 4 := by rw [List.length_append, List.length_take, hx]; omega
  rw [← h, List.take_left]
theorem put_get (L x : List Value) (i p : Nat) (hx : x.length = 4) (hi : i * 4 + 4 ≤ L.length) (hp : i * 4 + 4 ≤ p) : (L.take (i * 4) ++ x ++ L.drop (i * 4 + x.length))[p]? = L[p]? := by
  have h : (L.take (i * 4) ++ x).length = i * 4 + 4 := by rw [List.length_append, List.length_take, hx]; omega
  rw [List.getElem?_append_right (by omega), h, List.getElem?_drop, hx]
  congr 1
  omega
theorem Keep.setCells {S : Nat → Prop} {a b : World} (h : Keep S a b) {g : Nat} (hg : S g) (vs : List Value) : ∀ o, Keep S a (b.setCells g o vs) := by
  induction vs generalizing b with
  | nil => intro o; exact h
  | cons u vs ih => intro o; exact ih (h.setCell (p := ⟨g, o, none⟩) hg u) (o + 1)
theorem vis_step {l : List Ev} {j : Nat} {x : Ev} (hx : l[j]? = some x) : vis (l.take (j + 1)) = vis (l.take j) ++ vis [x] := by
  rw [List.take_add_one, hx, vis_append]
  rfl

set_option maxRecDepth 100000 in
set_option maxHeartbeats 1600000 in
theorem delEv_any (g n c : Nat) (l : List Ev) (cur : Array Value) (w : World) (hg : w.heap[g]? = some (.cells cur 28 (0, 0))) (hcz : cur.size = c * 4) (htk : cur.toList.take (n * 4) = evsCells l) (hn : l.length = n) (hnc : n ≤ c) (hc : c ≤ maxLen) (hmax : n ≤ 1000000) :
    Calls Tryd.prog 24 #[.slice (some ⟨g, 0, none⟩) n c, .func (.func 26) #[] #[]] w fun e w' =>
      e = .returned (.slice (some ⟨g, 0, none⟩) (vis l).length c) ∧ (∃ cur', w'.heap[g]? = some (.cells cur' 28 (0, 0)) ∧ cur'.size = c * 4 ∧ cur'.toList.take ((vis l).length * 4) = evsCells (vis l)) ∧ Keep (fun k => k = g) w w' := by
  have hgw := block_lt hg
  have hr : RowAt w (some ⟨g, 0, none⟩) (evsCells l) := by
    refine .inr ⟨g, 0, rfl, fun j u hj => ?_⟩
    rw [Nat.zero_add, block_cell hg j, ← Array.getElem?_toList]
    rw [← htk, List.getElem?_take] at hj
    split at hj
    · exact hj
    · cases hj
  have hix := ixH_any (some ⟨g, 0, none⟩) n c l w hr hn hmax
  by_cases hall : ∀ y ∈ l, isHid y = false
  · rw [idxH_none hall] at hix
    have hv := vis_all hall
    have Hg := hidP hg
    have Htk := hidP htk
    have Hcz := hidP hcz
    rw [hv, hn]
    clear hall hg htk hcz hr
    go_enter Tryd.func24, Tryd.ntmps24
    go_wp2_with (go_at_call 40; refine hix.mono ?_; rintro e w1 ⟨rfl, hb1⟩)
    go_ret
    exact ⟨rfl, ⟨cur, (hb1.block g hgw).trans Hg.out, Hcz.out, Htk.out⟩, .of_below hb1⟩
  · obtain ⟨k, hk⟩ : ∃ k : Nat, idxH l = k := by
      refine ⟨l.findIdx isHid, ?_⟩
      unfold idxH
      rw [if_pos]
      rw [List.any_eq_true]
      refine Classical.byContradiction fun hc => hall fun y hy => ?_
      cases hh : isHid y
      · rfl
      · exact absurd ⟨y, hy, hh⟩ hc
    rw [hk] at hix
    obtain ⟨x0, hx0, hh0, hpre⟩ := first_hid hk
    have hkn : k < n := by rw [← hn]; exact (List.getElem?_eq_some_iff.1 hx0).1
    have hne : ¬ ((k : Int) = -1) := by omega
    have hne2 : ((k : Int) == -1) = false := by simp
    have Hn := hidP hn
    have HA0 : Hid (evsCells (vis (l.take (k + 1))) = cur.toList.take (k * 4) ∧ (vis (l.take (k + 1))).length = k) := by
      have e1 : vis (l.take (k + 1)) = l.take k := by
        rw [List.take_add_one, hx0, vis_append, vis_all hpre]
        simp [vis, hh0]
      refine ⟨?_, by rw [e1, List.length_take]; first | done | omega⟩
      rw [e1]
      have : (evsCells l).take (k * 4) = evsCells (l.take k) := by
        conv => lhs; rw [← List.take_append_drop k l, evsCells_append]
        rw [List.take_append_of_le_length (by rw [length_evsCells, List.length_take]; omega), List.take_of_length_le (by rw [length_evsCells, List.length_take]; omega)]
      rw [← this, ← htk, List.take_take]
      congr 1
      omega
    have HB0 : Hid (∀ p, p < n * 4 → cur.toList[p]? = (evsCells l)[p]?) := fun p hp => by rw [← htk, List.getElem?_take, if_pos hp]
    have Hg := hidP hg
    have Hcz := hidP hcz
    clear hg htk hcz hall hk hx0 hh0 hpre hr hn hne
    unfold maxLen at hc
    go_enter Tryd.func24, Tryd.ntmps24
    go_wp2_with (go_at_call 40; refine hix.mono ?_; rintro e w1 ⟨rfl, hb1⟩)
    go_loopw [5, 6] (fun v5 v6 wr => ∃ (i j : Nat) (cur' : Array Value), v5 = .int .i64 i ∧ v6 = .int .i64 j ∧ i < j ∧ j ≤ n ∧ Hid (wr.heap[g]? = some (.cells cur' 28 (0, 0))) ∧ Hid (cur'.size = c * 4) ∧
        Hid (evsCells (vis (l.take j)) = cur'.toList.take (i * 4) ∧ (vis (l.take j)).length = i) ∧ Hid (∀ p, j * 4 ≤ p → p < n * 4 → cur'.toList[p]? = (evsCells l)[p]?) ∧ Keep (fun k => k = g) w wr) (fun _ v _ => n - (intOf v).toNat)
    case atStart => exact ⟨k, k + 1, cur, rfl, by go_num, by omega, by omega, (hb1.block g hgw).trans Hg.out, Hcz, HA0, fun p _ hp => HB0.out p hp, .of_below hb1⟩
    case round =>
      obtain ⟨i, j, cur', rfl, rfl, hij, hjn, HG, HZ, HA, HB, hk'⟩ := hrel
      by_cases hlt : j < n
      · obtain ⟨x, hx⟩ : ∃ x, l[j]? = some x := ⟨_, List.getElem?_eq_getElem (by rw [Hn.out]; omega)⟩
        obtain ⟨y0, y1, y2, y3⟩ := evsCells_get l j x hx
        have x0 : wr.cell? ⟨g, j * 4, none⟩ = some (.int .i64 x.kind) := by rw [block_cell HG.out, ← Array.getElem?_toList, HB.out _ (by omega) (by omega)]; exact y0
        have x1 : wr.cell? ⟨g, j * 4 + 1, none⟩ = some (.int .i64 x.gor) := by rw [block_cell HG.out, ← Array.getElem?_toList, HB.out _ (by omega) (by omega)]; exact y1
        have x2 : wr.cell? ⟨g, j * 4 + 2, none⟩ = some (.int .i64 x.val) := by rw [block_cell HG.out, ← Array.getElem?_toList, HB.out _ (by omega) (by omega)]; exact y2
        have x3 : wr.cell? ⟨g, j * 4 + 3, none⟩ = some (.bool x.ref) := by rw [block_cell HG.out, ← Array.getElem?_toList, HB.out _ (by omega) (by omega)]; exact y3
        have hh := fun w => hid_any x w
        unfold evV at hh
        have HH := hidP hh
        have HX := hidP hx
        clear hh hx y0 y1 y2 y3
        cases hd : isHid x
        · go_wp2_with fail
          refine (HH.out _).mono ?_
          rw [hd]
          rintro e w2 ⟨rfl, hb2⟩
          have hsz : wr.heap.size < (wr.alloc (.cells #[.int .i64 x.kind, .int .i64 x.gor, .int .i64 x.val, .bool x.ref] 28)).heap.size := by simp
          have z0 := (hb2.cell (p := ⟨wr.heap.size, 0, none⟩) hsz).trans (show _ = some (.int .i64 x.kind) by go_simp)
          have z1 := (hb2.cell (p := ⟨wr.heap.size, 1, none⟩) hsz).trans (show _ = some (.int .i64 x.gor) by go_simp)
          have z2 := (hb2.cell (p := ⟨wr.heap.size, 2, none⟩) hsz).trans (show _ = some (.int .i64 x.val) by go_simp)
          have z3 := (hb2.cell (p := ⟨wr.heap.size, 3, none⟩) hsz).trans (show _ = some (.bool x.ref) by go_simp)
          have hgr := block_lt HG.out
          have hg2 := (hb2.block g (by simp; omega)).trans ((Below.heap_alloc wr _ g hgr).trans HG.out)
          have f0 := frozen_of_row w2 g (i * 4) _ _ hg2
          have f1 := frozen_of_row w2 g (i * 4 + 1) _ _ hg2
          have f2 := frozen_of_row w2 g (i * 4 + 2) _ _ hg2
          have f3 := frozen_of_row w2 g (i * 4 + 3) _ _ hg2
          have hzz := HZ.out
          obtain ⟨d0, e0⟩ : ∃ u, w2.cell? ⟨g, i * 4, none⟩ = some u := ⟨_, (block_cell hg2 (i * 4)).trans (Array.getElem?_eq_getElem (by omega))⟩
          obtain ⟨d1, e1⟩ : ∃ u, w2.cell? ⟨g, i * 4 + 1, none⟩ = some u := ⟨_, (block_cell hg2 (i * 4 + 1)).trans (Array.getElem?_eq_getElem (by omega))⟩
          obtain ⟨d2, e2⟩ : ∃ u, w2.cell? ⟨g, i * 4 + 2, none⟩ = some u := ⟨_, (block_cell hg2 (i * 4 + 2)).trans (Array.getElem?_eq_getElem (by omega))⟩
          obtain ⟨d3, e3⟩ : ∃ u, w2.cell? ⟨g, i * 4 + 3, none⟩ = some u := ⟨_, (block_cell hg2 (i * 4 + 3)).trans (Array.getElem?_eq_getElem (by omega))⟩
          have Hg2 := hidP hg2
          clear hg2 hzz
          go_wp2
          have hsc := heap_setCells g 28 (evCells x) (i * 4) cur' w2 Hg2.out (by have := HZ.out; simp [evCells]; omega)
          have hl : i * 4 + 4 ≤ cur'.toList.length := by have := HZ.out; simp; omega
          have hx4 : (evCells x).length = 4 := rfl
          have hv1 : vis [x] = [x] := by simp [vis, hd]
          have hst := vis_step HX.out
          rw [hv1] at hst
          refine ⟨⟨i + 1, j + 1, _, by go_num, by go_num, by omega, by omega, hsc, ?_, ⟨?_, ?_⟩, ?_, ?_⟩, by simp [intOf]; omega⟩
          · show _ = _
            have := HZ.out
            simp [evCells]
            omega
          · rw [hst, evsCells_append, HA.out.1, evsCells_one, List.toList_toArray, put_take _ _ _ hx4 hl]
          · rw [hst, List.length_append, HA.out.2]
            rfl
          · intro p hp1 hp2
            rw [List.toList_toArray, put_get _ _ _ _ hx4 hl (by omega)]
            exact HB.out p (by omega) hp2
          · have hk2 : Keep (fun k => k = g) wr w2 := ((Keep.refl _ wr).alloc _).trans (.of_below hb2)
            exact (hk'.trans hk2).trans (((((Keep.refl (fun k => k = g) w2).setCell (p := ⟨g, i * 4, none⟩) rfl _).setCell (p := ⟨g, i * 4 + 1, none⟩) rfl _).setCell (p := ⟨g, i * 4 + 2, none⟩) rfl _).setCell (p := ⟨g, i * 4 + 3, none⟩) rfl _)
        · go_wp2_with (go_at_call 26; refine (HH.out _).mono ?_; rw [hd]; rintro e w2 ⟨rfl, hb2⟩)
          have hgr := block_lt HG.out
          have hg2 := (hb2.block g (by simp; omega)).trans ((Below.heap_alloc wr _ g hgr).trans HG.out)
          have hv1 : vis [x] = [] := by simp [vis, hd]
          have hst := vis_step HX.out
          rw [hv1, List.append_nil] at hst
          have hk2 : Keep (fun k => k = g) wr w2 := ((Keep.refl _ wr).alloc _).trans (.of_below hb2)
          exact ⟨⟨i, j + 1, cur', rfl, by go_num, by omega, by omega, hg2, HZ, ⟨by rw [hst]; exact HA.out.1, by rw [hst]; exact HA.out.2⟩, fun p hp1 hp2 => HB.out p (by omega) hp2, hk'.trans hk2⟩, by simp [intOf]; omega⟩
      · obtain rfl : j = n := by omega
        have hin : i < j := hij
        have hlt2 : (l.take j) = l := List.take_of_length_le (by rw [Hn.out]; omega)
        have hA := HA.out
        rw [hlt2] at hA
        obtain ⟨hA1, hA2⟩ := hA
        have hzl : (Builtin.zeroCells (Value.agg #[.int .i64 0, .int .i64 0, .int .i64 0, .bool false]).cells (j - i)).toList.length = (j - i) * 4 := by
          simp [Builtin.zeroCells, Value.cells]
        have hcl := fun ty => run_clear_row (P := Tryd.prog) (n := j - i) wr 22 28 ty (.agg #[.int .i64 0, .int .i64 0, .int .i64 0, .bool false]) Tryd.underlying22 (fun w => by simp [Tryd.zeroValue28]) (fun v hv => by
          have h4 : ∀ y ∈ (Value.agg #[.int .i64 0, .int .i64 0, .int .i64 0, .bool false]).cells.toList, y.oneCell' = true := by
            intro y hy
            simp [Value.cells] at hy
            rcases hy with rfl | rfl <;> rfl
          simp only [Builtin.zeroCells, Array.toList_map, List.mem_map] at hv
          obtain ⟨a, _, rfl⟩ := hv
          have hm := Nat.mod_lt a (show 0 < (Value.agg #[.int .i64 0, .int .i64 0, .int .i64 0, .bool false]).cells.size by decide)
          rw [getElem!_pos (Value.agg #[.int .i64 0, .int .i64 0, .int .i64 0, .bool false]).cells _ hm]
          exact h4 _ (Array.mem_toList_iff.2 (Array.getElem_mem hm))) g (i * 4) (c - i) (by omega) (fun q hq => by
            rw [hzl] at hq
            rw [block_cell HG.out, Array.getElem?_eq_getElem (by have := HZ.out; omega)]
            rfl) (fun q hq => frozen_of_row wr g _ _ _ HG.out)
        have hsc := heap_setCells g 28 (Builtin.zeroCells (Value.agg #[.int .i64 0, .int .i64 0, .int .i64 0, .bool false]).cells (j - i)).toList (i * 4) cur' wr HG.out (by rw [hzl]; have := HZ.out; omega)
        have hcA : cutA (some ⟨g, 0, none⟩) i c 4 = some ⟨g, i * 4, none⟩ := by unfold cutA; rw [if_neg (by omega)]; simp [Addr.add_lit]
        generalize (Builtin.zeroCells (Value.agg #[.int .i64 0, .int .i64 0, .int .i64 0, .bool false]).cells (j - i)).toList = Z at *
        have HSC := hidP hsc
        have HZL := hidP hzl
        have HA1 := hidP hA1
        have HA2 := hidP hA2
        clear hsc hzl hA1 hA2 hlt2
        go_wp2
        go_ret
        have hm : i = (vis l).length := HA2.out.symm
        have hz := HZ.out
        have hzl := HZL.out
        refine ⟨by rw [← hm]; rfl, ⟨_, HSC.out, by simp; omega, ?_⟩, hk'.trans ((Keep.refl (fun k => k = g) wr).setCells rfl _ _)⟩
        rw [List.toList_toArray, ← hm, HA1.out, List.append_assoc, List.take_append_of_le_length (by rw [List.length_take]; simp; omega), List.take_of_length_le (by rw [List.length_take]; omega)]

theorem delOwn_any (B : Nat) (ao : Option Addr) (n c : Nat) (l : List Ev) (w : World) (ho : w.ownsRow B 28 4 (.slice ao n c) n (evsCells l)) (hn : l.length = n) (hmax : n ≤ 1000000) :
    Calls Tryd.prog 24 #[.slice ao n c, .func (.func 26) #[] #[]] w fun e w' =>
      e = .returned (.slice ao (vis l).length c) ∧ w'.ownsRow B 28 4 (.slice ao (vis l).length c) (vis l).length (evsCells (vis l)) ∧ Keep (fun k => (Value.slice ao n c).ownBlock = some k) w w' := by
  rcases ho.2 with ⟨hv, h0⟩ | ⟨g, cap, cur, hv, hb, hg, h1, h2, h3, h4⟩
  · cases hv
    obtain rfl : l = [] := List.eq_nil_of_length_eq_zero hn
    have hix := ixH_any none 0 0 [] w (.nil w none) rfl (by omega)
    rw [idxH_none (by simp)] at hix
    go_enter Tryd.func24, Tryd.ntmps24
    go_wp2_with (go_at_call 40; refine hix.mono ?_; rintro e w1 ⟨rfl, hb1⟩)
    go_ret
    exact ⟨rfl, World.ownsRow_nil _ _ _ _, .of_below hb1⟩
  · cases hv
    refine (delEv_any g n c l cur w hg h3 h4 hn h1 h2 hmax).mono ?_
    rintro e w' ⟨rfl, ⟨cur', h5, h6, h7⟩, hk⟩
    refine ⟨rfl, ⟨length_evsCells _, .inr ⟨g, c, cur', rfl, hb, h5, by have := vis_le l; omega, h2, h6, h7⟩⟩, hk.mono (fun k _ e => by rw [e]; rfl)⟩

set_option maxRecDepth 100000 in
set_option maxHeartbeats 400000 in
theorem visible_any (ao : Option Addr) (n c : Nat) (l : List Ev) (w : World) (hr : RowAt w ao (evsCells l)) (hn : l.length = n) (hmax : n ≤ 1000000) :
    Calls Tryd.prog 10 #[.slice ao n c] w (RetRow w 28 4 (vis l).length (evsCells (vis l))) := by
  have hc := cloneEv_any ao n c l w hr hn hmax
  have Hn := hidP hn
  clear hn
  go_enter Tryd.func10, Tryd.ntmps10
  go_wp2_with fail
  refine hc.mono ?_
  rintro e w1 ⟨a1, c1, rfl, ho1, hb1⟩
  go_wp2_with fail
  refine (delOwn_any w.heap.size a1 n c1 l w1 ho1 Hn.out hmax).mono ?_
  rintro e w2 ⟨rfl, ho2, hk2⟩
  go_wp2
  go_ret
  exact ⟨a1, c1, rfl, ho2, hb1.trans (hk2.below hb1.size (fun k e => (ho1.lt k e).1))⟩
end Go.Proofs.YtdelflahmlfnfaaDoor
