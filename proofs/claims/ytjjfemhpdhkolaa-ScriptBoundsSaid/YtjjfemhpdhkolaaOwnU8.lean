/-
  Rows of bytes that are copied with something behind them (the helper package's functions Own and Kept).
-/
import Derived.Test.YtjjfemhpdhkolaaJoins
import Derived.Test.YtjjfemhpdhkolaaFits
import Derived.Deep.DeepCutAuto
import Derived.Deep.CutBlock
namespace Go.Proofs.Ytjjfemhpdhkolaa
open Go.RowKit
set_option linter.unusedVariables false

theorem Try.infoU8 : (Try.prog.info? 5).map (fun i => (i.zero, i.size, i.bytes)) = some (some (.int .u8 0), 1, 1) := by kernel_rfl

theorem block_lt' {w : World} {b : Nat} {o : Obj} (h : w.heap[b]? = some o) : b < w.heap.size := (Array.getElem?_eq_some_iff.1 h).1

/-- A row and the room behind it. -/
def Spared (w : World) (g : Nat) (cs : List Value) : Prop := ∃ cur : Array Value, w.heap[g]? = some (.cells cur 5 (0, 0)) ∧ cur.toList = cs

set_option maxRecDepth 100000 in
set_option maxHeartbeats 1600000 in
theorem ownU8_any (ao : Option Addr) (n c : Nat) (zs : List Int) (f : Int) (w : World) (hr : RowAt w ao (zs.map (Value.int .u8))) (hn : zs.length = n) (hmax : n ≤ 1000000) :
    Calls Try.prog 29 #[.slice ao n c, .int .u8 f] w fun e w' => e = .returned (.slice (some ⟨w.heap.size, 0, none⟩) n (n + 3)) ∧ Spared w' w.heap.size ((zs ++ [f, f, f]).map (Value.int .u8)) ∧ w.heap.size < w'.heap.size ∧ Below w.heap.size w w' := by
  obtain ⟨i0, hi, hz0, hz1, hz2⟩ := info_parts Try.infoU8
  have Hn := hidP hn
  clear hn
  obtain ⟨N, hN⟩ : ∃ N, n + 3 = N := ⟨_, rfl⟩
  have hN1 : (n : Int) + 3 = (N : Int) := by omega
  have hN2 : 0 ≤ (N : Int) := by omega
  have hw : wrap64 ((n : Int) + 3) = (N : Int) := by rw [IntWalk.wrap64_in _ (by omega)]; exact hN1
  have hw' : IntKind.i64.wrap ((n : Int) + 3) = (N : Int) := by rw [IntWalk.i64_in _ (by omega)]; exact hN1
  rw [hN]
  go_enter Try.func29, Try.ntmps29
  go_upto_region 2 with (at_make; refine wpList_make_own _ rfl _ _ 24 rfl w.heap.size 5 i0 (.int .u8 0) 1 Try.underlying24 hi hz0 hz1 .i64 .i64 _ N rfl rfl (by first | rfl | omega) (by rw [hz2]; omega) (by unfold maxLen; omega) (Nat.le_refl _) ?_; intro w1 hown1 hg1; have hs1 := hg1.size)
  go_upto_region 3 with (at_builtin; refine wpList_app_fits _ rfl (.tmp 12) (.tmp 13) rfl Try.slU8 w.heap.size w.heap.size 0 N [] rfl hown1 ao n c (zs.map (Value.int .u8)) rfl n (by omega) (hr.below (below_grown hg1 (Nat.le_refl _) (by simp))) (by rw [List.length_map, Hn.out]; omega) (ints_one _ _) (by omega) ?_; intro w2 hown2 hg2)
  have hb2 : Below w.heap.size w w2 := (below_grown hg1 (Nat.le_refl _) (by simp)).trans (below_grown hg2 hs1 (fun k hk => by cases hk; exact Nat.le_refl _))
  obtain ⟨cur, hcur, hsz, htk⟩ : ∃ cur : Array Value, w2.heap[w.heap.size]? = some (.cells cur 5 (0, 0)) ∧ cur.size = N ∧ cur.toList.take n = zs.map (Value.int .u8) := by
    rcases hown2.2 with ⟨hv, _⟩ | ⟨g', cap', cur, hv, _, hg, _, _, h3, h4⟩
    · cases hv
    · cases hv
      exact ⟨cur, hg, by rw [h3]; omega, by rw [Nat.mul_one, List.nil_append] at h4; exact h4⟩
  have HC := hidP hcur
  have HS := hidP hsz
  have HT := hidP htk
  clear hcur hsz htk hown1 hown2 hg1 hg2
  go_wp2_with fail
  go_loopw [7] (fun v wr => ∃ k : Nat, v = .int .i64 (n + k : Nat) ∧ k ≤ 3 ∧ Hid (∃ cs : Array Value, wr.heap[w.heap.size]? = some (.cells cs 5 (0, 0)) ∧ cs.size = N ∧ cs.toList.take (n + k) = (zs ++ List.replicate k f).map (Value.int .u8)) ∧ Below w.heap.size w wr) (fun v _ => N - (intOf v).toNat)
  case atStart => exact ⟨0, rfl, by omega, ⟨cur, HC.out, HS.out, by simpa using HT.out⟩, hb2⟩
  case round =>
    obtain ⟨k, rfl, hk, HK, hb⟩ := hrel
    obtain ⟨cs, hcs, hcz, hct⟩ := HK.out
    clear HC HS HT hb2
    by_cases hlt : n + k < N
    · obtain ⟨u, hold⟩ : ∃ u, wr.cell? ⟨w.heap.size, n + k, none⟩ = some u := ⟨cs[n + k]'(by omega), by rw [cell_of_row wr _ _ cs _ _ hcs]; exact Array.getElem?_eq_getElem (by omega)⟩
      have hfz := frozen_of_row wr w.heap.size (n + k) cs 5 hcs
      have i0 : (0 : Int) ≤ ((n + k : Nat) : Int) := by omega
      have i1 : ((n + k : Nat) : Int) < (N : Int) := by omega
      obtain ⟨j, hj⟩ : ∃ j, n + k = j := ⟨_, rfl⟩
      have hcs' := heap_setCell_same wr w.heap.size j cs 5 (.int .u8 f) hcs
      rw [hj] at hold hfz i0 i1 hct hlt ⊢
      have HCS := hidP hcs'
      have HCT := hidP hct
      have HCZ := hidP hcz
      clear hcs hcs' hct hcz
      go_wp2
      go_roundw
      case rel =>
        refine ⟨k + 1, ?_, by omega, ⟨_, HCS.out, by simp [HCZ.out], ?_⟩, hb.setCell (Nat.le_refl _) _⟩
        · rw [show n + (k + 1) = j + 1 by omega]; go_num
        · rw [show n + (k + 1) = j + 1 by omega, Array.toList_setIfInBounds, List.take_add_one, List.take_set_of_le (Nat.le_refl _), HCT.out, List.getElem?_set_self (by simp [HCZ.out]; omega)]
          simp [List.replicate_succ']
      case measure => simp [intOf]; omega
    · obtain rfl : k = 3 := by omega
      go_wp2
      go_ret
      refine ⟨rfl, ⟨cs, hcs, ?_⟩, ?_, hb⟩
      · have e : zs ++ [f, f, f] = zs ++ List.replicate 3 f := rfl
        rw [e, ← hct, List.take_of_length_le (by simp; omega)]
      · exact block_lt' hcs

theorem Spared.cell {w : World} {g : Nat} {cs : List Value} (h : Spared w g cs) (j : Nat) : w.cell? ⟨g, j, none⟩ = cs[j]? := by
  obtain ⟨cur, h1, rfl⟩ := h
  rw [cell_of_row w g j cur _ (0, 0) h1]
  simp
theorem Spared.row {w : World} {g : Nat} {zs ys : List Value} (h : Spared w g (zs ++ ys)) : RowAt w (some ⟨g, 0, none⟩) zs := by
  refine .inr ⟨g, 0, rfl, fun j u hj => ?_⟩
  rw [Nat.zero_add, h.cell, List.getElem?_append_left (List.getElem?_eq_some_iff.1 hj).1]
  exact hj
theorem Spared.lt {w : World} {g : Nat} {cs : List Value} (h : Spared w g cs) : g < w.heap.size := by
  obtain ⟨cur, h1, _⟩ := h
  exact block_lt' h1
theorem Spared.below {w w' : World} {g : Nat} {cs : List Value} (h : Spared w g cs) (hb : Below w.heap.size w w') : Spared w' g cs := by
  have := h.lt
  obtain ⟨cur, h1, h2⟩ := h
  exact ⟨cur, (hb.block g this).trans h1, h2⟩

theorem plainU8_yes (ao bo : Option Addr) (n m c d : Nat) (es fs : List Int) (w : World) (hae : RowAt w ao (es.map (Value.int .u8))) (hbf : RowAt w bo (fs.map (Value.int .u8))) (hn : es.length = n) (hm : fs.length = m) (hmax : n ≤ 140737488355328) (he : es = fs) :
    Calls Try.prog 33 #[.slice ao n c, .slice bo m d] w fun e w' => e = .returned (.bool true) ∧ Below w.heap.size w w' := by
  have h : decide (es = fs) = true := by simp [he]
  rw [← h]
  exact plainU8_any ao bo n m c d es fs w hae hbf hn hm hmax

set_option maxRecDepth 100000 in
set_option maxHeartbeats 1600000 in
theorem keptU8_any (g : Nat) (ao : Option Addr) (n c : Nat) (zs : List Int) (f : Int) (w : World) (hs : Spared w g ((zs ++ [f, f, f]).map (Value.int .u8))) (hr : RowAt w ao (zs.map (Value.int .u8))) (hn : zs.length = n) (hmax : n ≤ 1000000) :
    Calls Try.prog 34 #[.slice (some ⟨g, 0, none⟩) n (n + 3), .slice ao n c, .int .u8 f] w fun e w' => e = .returned (.bool true) ∧ Below w.heap.size w w' := by
  have Hn := hidP hn
  clear hn
  have hrs : RowAt w (some ⟨g, 0, none⟩) (zs.map (Value.int .u8)) := by rw [List.map_append] at hs; exact hs.row
  have hlt := hs.lt
  have hsp : ∀ j, n ≤ j → j < n + 3 → w.cell? ⟨g, j, none⟩ = some (.int .u8 f) := by
    intro j h1 h2
    rw [hs.cell, List.getElem?_map, List.getElem?_append_right (by rw [Hn.out]; exact h1), Hn.out]
    have : j - n = 0 ∨ j - n = 1 ∨ j - n = 2 := by omega
    rcases this with h | h | h <;> rw [h] <;> rfl
  have HSP := hidP hsp
  obtain ⟨N, hN⟩ : ∃ N, n + 3 = N := ⟨_, rfl⟩
  have hN1 : (n : Int) + 3 = (N : Int) := by omega
  have hN2 : 0 ≤ (N : Int) := by omega
  have hw : wrap64 ((n : Int) + 3) = (N : Int) := by rw [IntWalk.wrap64_in _ (by omega)]; exact hN1
  have hw' : IntKind.i64.wrap ((n : Int) + 3) = (N : Int) := by rw [IntWalk.i64_in _ (by omega)]; exact hN1
  rw [hN]
  clear hs hsp
  go_enter Try.func34, Try.ntmps34
  go_upto_region 4 with (go_at_call 33; refine (plainU8_yes _ _ _ _ _ _ zs zs _ hrs hr Hn.out Hn.out (by omega) rfl).mono ?_; rintro e w1 ⟨rfl, hb1⟩)
  have hc1 : ∀ j, w1.cell? ⟨g, j, none⟩ = w.cell? ⟨g, j, none⟩ := fun j => hb1.cell (p := ⟨g, j, none⟩) hlt
  have HC := hidP hc1
  clear hc1 hr hrs
  go_wp2_with fail
  go_loopw [8] (fun v wr => ∃ k : Nat, v = .int .i64 k ∧ n ≤ k ∧ k ≤ N ∧ ∃ q, wr = w1.drewN q) (fun v _ => N - (intOf v).toNat)
  case atStart => exact ⟨n, rfl, by omega, by omega, 0, rfl⟩
  case round =>
    obtain ⟨k, rfl, hnk, hkN, q, rfl⟩ := hrel
    by_cases h3 : k < N
    · have cx : (w1.drewN q).cell? ⟨g, k, none⟩ = some (.int .u8 f) := (HC.out k).trans (HSP.out k hnk (by omega))
      have i0 : (0 : Int) ≤ (k : Int) := by omega
      have i1 : (k : Int) < (N : Int) := by omega
      go_wp2
      go_roundw
      case rel => exact ⟨k + 1, by go_num, by omega, by omega, q, rfl⟩
      case measure => simp [intOf]; omega
    · go_wp2
      go_ret
      exact ⟨rfl, below_drewN hb1 _⟩
end Go.Proofs.Ytjjfemhpdhkolaa
