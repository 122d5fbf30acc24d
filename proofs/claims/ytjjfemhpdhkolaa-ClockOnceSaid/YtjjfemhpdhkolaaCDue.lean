/-
  The walk over the clock's Due.
-/
import Derived.Test.YtjjfemhpdhkolaaCAdd
namespace Go.Proofs.Ytjjfemhpdhkolaa
open Go.RowKit
set_option linter.unusedVariables false

def cDue (l : List CE) (t : Int) : List Int := (l.take (cutN l t)).map (·.2)

set_option maxRecDepth 100000 in
set_option maxHeartbeats 1000000 in
theorem cdue_any (q : Nat) (P : Nat → Prop) (l : List CE) (t : Int) (w : World) (h : CIn w q P l) (hl : l.length ≤ 900000) :
    Calls Try.prog 38 #[.pointer (some ⟨q, 0, none⟩), .int .i64 t] w (OPost (fun w P => CIn w q P (l.drop (cutN l t))) w P (RowAns w (cDue l t))) := by
  obtain ⟨g, ⟨ao, cap, hq, ho, rfl, hne⟩, hP, hlt⟩ := h
  have hqP := hP q (.inl rfl)
  have hqs := hlt q hqP
  have hb1 := bnew (brefl w) (.cells #[.int .i64 t] 3)
  have hq1 := (hb1.block q hqs).trans hq
  have c0 := block_cell hq1 0
  simp at c0
  have cb : (w.alloc (.cells #[.int .i64 t] 3)).cell? ⟨w.heap.size, 0, none⟩ = some (.int .i64 t) := by go_simp
  have ho1 : (w.alloc (.cells #[.int .i64 t] 3)).ownsRow 0 20 1 (.slice ao l.length cap) l.length (l.map ceV) := ho.alloc _
  obtain ⟨_, _, hv, _, hcap, hcm, _⟩ := owns_open ho
  cases hv
  have hix := ixD_any ao l.length cap w.heap.size l t _ (owns_row ho1) rfl (by omega) cb
  have hle := cutN_le l t
  have HA : Hid (cDue l t = (l.take (cutN l t)).map (·.2)) := rfl
  obtain ⟨n, hn⟩ : ∃ n, l.length = n := ⟨_, rfl⟩
  obtain ⟨k, hk⟩ : ∃ k, cutN l t = k := ⟨_, rfl⟩
  have hidx : idxC l t = if k < n then (k : Int) else -1 := by
    split
    · rename_i h; rw [← hk, ← hn] at h; rw [idxC_pos h, hk]
    · rename_i h; rw [← hk, ← hn] at h; exact idxC_neg h
  have hT : ∀ w', Below (w.alloc (.cells #[.int .i64 t] 3)).heap.size (w.alloc (.cells #[.int .i64 t] 3)) w' → Calls Try.prog 60 #[.slice ao k cap] w' (RetRow w' 3 1 k (((l.take k).map (·.2)).map (Value.int .i64))) := by
    intro w' hb
    refine places_any ao k cap (l.take k) w' ?_ (by rw [List.length_take]; omega) (by omega)
    rw [List.map_take]
    exact ((owns_row ho1).below hb).take k
  have hD : ∀ m, m = n - k → ∀ w', Below (w.alloc (.cells #[.int .i64 t] 3)).heap.size (w.alloc (.cells #[.int .i64 t] 3)) w' → Calls Try.prog 61 #[.slice (cutA ao k cap 1) m (cap - k)] w' (RetRow w' 20 1 m ((l.drop k).map ceV)) := by
    rintro m rfl w' hb
    refine cloneAny_any _ _ _ _ w' ?_ (by rw [List.length_map, List.length_drop]; omega) (ceV_one _) (by omega)
    have := ((owns_row ho1).below hb).cut k cap 1 (by rw [List.length_map]; omega)
    rwa [Nat.mul_one, ← List.map_drop] at this
  rw [hk] at hle HA ⊢
  rw [hn] at hix c0 hle hcap hq1 hl hP hne
  rw [hidx] at hix
  have Hn := hidP hn
  have HT := hidP hT
  have HD := hidP hD
  have Hq1 := hidP hq1
  have HP := hidP hP
  have Hlt := hidP hlt
  have Hne := hidP hne
  have hkn : k ≤ n := by omega
  have hkc : (k : Int) ≤ (cap : Int) := by omega
  have hk0 : (0 : Int) ≤ (k : Int) := by omega
  unfold maxLen at hcm
  clear hn hk hidx hT hD hq1 hP hlt hne ho ho1 hq cb
  by_cases hkl : k < n
  · rw [if_pos hkl] at hix
    go_enter Try.func38, Try.ntmps38
    go_wp2_with (first
      | (go_at_call 57; refine hix.mono ?_; rintro e w2 ⟨rfl, hb2⟩; have d0 := (hb2.cell (p := ⟨q, 0, none⟩) (by simp; omega)).trans c0; have h2 := HT.out w2 hb2)
      | (go_at_call 60; refine h2.mono ?_; rintro e w3 ⟨a3, c3, rfl, ho3, hb3⟩; have hB3 := bstep hb2 hb3; have e0 := (hB3.cell (p := ⟨q, 0, none⟩) (by simp; omega)).trans c0; have h3 := HD.out (n - k) (by omega) w3 hB3)
      | (go_at_call 61; refine h3.mono ?_; rintro e w4 ⟨a4, c4, rfl, ho4, hb4⟩; have hB4 := bstep hB3 hb4; have e4 := (hB4.cell (p := ⟨q, 0, none⟩) (by simp; omega)).trans c0; have hq4 := (hB4.block q (by simp; omega)).trans Hq1.out; have k4 := frozen_of_row _ q 0 _ _ hq4; have Hq4 := hidP hq4; clear hq4))
    go_ret
    have hB4' : Below w.heap.size w w4 := bstep hb1 hB4
    have hB3' : Below w.heap.size w w3 := bstep hb1 hB3
    have hl2 : (l.drop k).length = n - k := by rw [List.length_drop, Hn.out]; try omega
    have hl3 : ((l.take k).map (·.2)).length = k := by rw [List.length_map, List.length_take, Hn.out]; omega
    have hs3 := hB3'.size
    have ho5 := ho4
    rw [← hl2] at ho5
    have hc := c_close (P := P) (l2 := l.drop k) hB3' Hlt.out hqP Hne.out (fun k e => HP.out k (.inr e)) ((hB3.block q (by simp; omega)).trans Hq1.out) a4 c4 (owns_mono ho5 (Nat.zero_le _)) (.of_below hb4) (fun j hj => .inr (ho5.lt j hj).1)
    rw [hl2] at hc
    refine ⟨_, rfl, ⟨a3, c3, ?_, ?_⟩, hc⟩
    · show Value.slice a3 k c3 = _
      rw [HA.out, hl3]
    · rw [HA.out, hl3]
      have hs2 : w.heap.size ≤ w2.heap.size := (bstep hb1 hb2).size
      refine owns_keep (S := fun j => j = q) (owns_mono (owns_below ho3 hb4) hs2) ((Keep.refl (fun j => j = q) w4).setCell (p := ⟨q, 0, none⟩) rfl _) (fun j hj e => ?_)
      have := (ho3.lt j hj).1
      omega
  · rw [if_neg hkl] at hix
    obtain rfl : k = n := by omega
    go_enter Try.func38, Try.ntmps38
    go_wp2_with (first
      | (go_at_call 57; refine hix.mono ?_; rintro e w2 ⟨rfl, hb2⟩; have d0 := (hb2.cell (p := ⟨q, 0, none⟩) (by simp; omega)).trans c0; have h2 := HT.out w2 hb2)
      | (go_at_call 60; refine h2.mono ?_; rintro e w3 ⟨a3, c3, rfl, ho3, hb3⟩; have hB3 := bstep hb2 hb3; have e0 := (hB3.cell (p := ⟨q, 0, none⟩) (by simp; omega)).trans c0; have h3 := HD.out (0) (by omega) w3 hB3)
      | (go_at_call 61; refine h3.mono ?_; rintro e w4 ⟨a4, c4, rfl, ho4, hb4⟩; have hB4 := bstep hB3 hb4; have e4 := (hB4.cell (p := ⟨q, 0, none⟩) (by simp; omega)).trans c0; have hq4 := (hB4.block q (by simp; omega)).trans Hq1.out; have k4 := frozen_of_row _ q 0 _ _ hq4; have Hq4 := hidP hq4; clear hq4))
    go_ret
    have hB4' : Below w.heap.size w w4 := bstep hb1 hB4
    have hB3' : Below w.heap.size w w3 := bstep hb1 hB3
    have hl2 : (l.drop k).length = 0 := by rw [List.length_drop, Hn.out]; try omega
    have hl3 : ((l.take k).map (·.2)).length = k := by rw [List.length_map, List.length_take, Hn.out]; omega
    have hs3 := hB3'.size
    have ho5 := ho4
    rw [← hl2] at ho5
    have hc := c_close (P := P) (l2 := l.drop k) hB3' Hlt.out hqP Hne.out (fun k e => HP.out k (.inr e)) ((hB3.block q (by simp; omega)).trans Hq1.out) a4 c4 (owns_mono ho5 (Nat.zero_le _)) (.of_below hb4) (fun j hj => .inr (ho5.lt j hj).1)
    rw [hl2] at hc
    refine ⟨_, rfl, ⟨a3, c3, ?_, ?_⟩, hc⟩
    · show Value.slice a3 k c3 = _
      rw [HA.out, hl3]
    · rw [HA.out, hl3]
      have hs2 : w.heap.size ≤ w2.heap.size := (bstep hb1 hb2).size
      refine owns_keep (S := fun j => j = q) (owns_mono (owns_below ho3 hb4) hs2) ((Keep.refl (fun j => j = q) w4).setCell (p := ⟨q, 0, none⟩) rfl _) (fun j hj e => ?_)
      have := (ho3.lt j hj).1
      omega
end Go.Proofs.Ytjjfemhpdhkolaa
