/-
  The walk over the reference's clock's Due.
-/
import Derived.Test.YtjjfemhpdhkolaaCRef
import Derived.Test.YtjjfemhpdhkolaaCDue
namespace Go.Proofs.Ytjjfemhpdhkolaa
open Go.RowKit
set_option linter.unusedVariables false

theorem k_store2 {W wF : World} {r : Nat} {x0 x1 u0 u1 : Value} {T : TypeId} (hb : Below W.heap.size W wF) (hq : W.heap[r]? = some (.cells #[x0, x1] T (0, 0))) :
    ((wF.setCell ⟨r, 0, none⟩ u0).setCell ⟨r, 1, none⟩ u1).heap[r]? = some (.cells #[u0, u1] T (0, 0)) ∧ Keep (fun k => k = r) wF ((wF.setCell ⟨r, 0, none⟩ u0).setCell ⟨r, 1, none⟩ u1) := by
  have hr := block_lt hq
  have h1 := heap_setCell_same wF r 0 _ _ u0 ((hb.block r hr).trans hq)
  have h2 := heap_setCell_same _ r 1 _ _ u1 h1
  exact ⟨by simpa using h2, ((Keep.refl (fun k => k = r) wF).setCell (p := ⟨r, 0, none⟩) rfl _).setCell (p := ⟨r, 1, none⟩) rfl _⟩

set_option maxRecDepth 100000 in
set_option maxHeartbeats 3200000 in
theorem kdue_any (r : Nat) (P : Nat → Prop) (l : List CE) (t : Int) (w : World) (h : KIn w r P l) (hl : l.length ≤ 900000) :
    Calls Try.prog 39 #[.pointer (some ⟨r, 0, none⟩), .int .i64 t] w (OPost (fun w P => KIn w r P (l.drop (cutN l t))) w P (RowAns w (cDue l t))) := by
  obtain ⟨ao, c, bo, d, hq, hoa, hob, hP, hlt, hna, hnb⟩ := h
  have hrs := hlt r (hP r (.inl rfl))
  have c0 := block_cell hq 0
  have c1 := block_cell hq 1
  simp at c0 c1
  have hra := owns_row hoa
  have hrb := owns_row hob
  obtain ⟨_, _, hv, _, hca, hcm, _⟩ := owns_open hoa
  cases hv
  obtain ⟨_, _, hv, _, hcb, hdm, _⟩ := owns_open hob
  cases hv
  obtain ⟨n, hn⟩ : ∃ n, l.length = n := ⟨_, rfl⟩
  rw [hn] at c0 c1 hoa hob hl hca hcb hq hP hna hnb
  have Hn := hidP hn
  have Hq := hidP hq
  have HP := hidP hP
  have HrP := hidP (hP r (.inl rfl))
  clear hn hq hP hlt hoa hob hna hnb
  go_enter Try.func39, Try.ntmps39
  go_upto_block 0 with fail
  go_cut [5] from 7 to 26 (fun v wx => ∃ k : Nat, v = .int .i64 k ∧ k ≤ n ∧ Hid (cutN l t = k) ∧ wx = w)
  case first =>
    go_wp2_with fail
    go_loop [5] (fun v => ∃ k : Nat, v = .int .i64 k ∧ k ≤ n ∧ Hid (∀ x ∈ l.take k, x.1 ≤ t)) (fun v => n - (intOf v).toNat)
    case atStart => exact ⟨0, rfl, by omega, by show ∀ x ∈ l.take 0, _; simp⟩
    case round =>
      obtain ⟨k, rfl, hk, HK⟩ := hrel
      by_cases hkn : k < n
      · obtain ⟨b, o, rfl, hxa⟩ := hra.addr (by rw [List.length_map, List.length_map, Hn.out]; omega)
        obtain ⟨x, hx⟩ : ∃ x, l[k]? = some x := ⟨_, List.getElem?_eq_getElem (by rw [Hn.out]; omega)⟩
        have x0 : w.cell? ⟨b, o + k, none⟩ = some (.int .i64 x.1) := hxa k _ (by rw [List.getElem?_map, List.getElem?_map, hx]; rfl)
        have HX := hidP hx
        clear hx hxa
        by_cases hle : x.1 ≤ t
        · have HK2 : Hid (∀ y ∈ l.take (k + 1), y.1 ≤ t) := by
            intro y hy
            rw [List.take_add_one, HX.out] at hy
            rcases List.mem_append.1 hy with h | h
            · exact HK.out y h
            · simp at h; subst h; exact hle
          go_wp2
          go_round
          case rel => exact ⟨k + 1, by go_num, by omega, HK2⟩
          case measure => simp [intOf]; omega
        · have HC : Hid (cutN l t = k) := cutN_eq (by rw [Hn.out]; omega) HK.out (fun y hy => by rw [HX.out] at hy; cases hy; omega)
          go_wp2
          go_meet
          exact ⟨k, rfl, by omega, HC, rfl⟩
      · obtain rfl : k = n := by omega
        have HC : Hid (cutN l t = k) := cutN_eq (by rw [Hn.out]; omega) HK.out (fun y hy => by have := (List.getElem?_eq_some_iff.1 hy).1; rw [Hn.out] at this; omega)
        go_wp2
        go_meet
        exact ⟨k, rfl, by omega, HC, rfl⟩
  case rest =>
    obtain ⟨k, rfl, hk, HC, rfl⟩ := hcut
    obtain ⟨w0, hw0⟩ : ∃ w0, w0 = wc := ⟨_, rfl⟩
    subst hw0
    have i0 : (0 : Int) ≤ (k : Int) := by omega
    have i1 : (k : Int) ≤ (n : Int) := by omega
    have i2 : (k : Int) ≤ (c : Int) := by omega
    have i3 : (k : Int) ≤ (d : Int) := by omega
    unfold maxLen at hcm hdm
    have HT : Hid (RowAt w0 bo (((l.map (·.2)).take k).map (Value.int .i64))) := by show RowAt _ _ _; rw [List.map_take]; exact hrb.take k
    have HlT : Hid ((((l.map (·.2)).take k).map (Value.int .i64)).length = k * 1) := by show _ = _; simp [Hn.out]; omega
    go_upto_region 5 with (at_builtin; go_loud (refine (wpList_app _ rfl (.const (.slice none 0 0)) (.tmp 32) rfl Try.slInt w0.heap.size (.slice none 0 0) 0 [] rfl (World.ownsRow_nil _ _ _ _) bo k d (((l.map (·.2)).take k).map (Value.int .i64)) rfl k (by omega) HT.out HlT.out (ints_one _ _) (by omega) (by unfold maxLen; omega) (Nat.le_refl _) ?_)); intro a1 cc1 w1 ho1 hg1 hw1)
    have hb1 : Below w0.heap.size w0 w1 := below_grown hg1 (Nat.le_refl _) (by simp [Value.ownBlock])
    have hr1 : r < w1.heap.size := Nat.lt_of_lt_of_le hrs hb1.size
    have hq1 := (hb1.block r hrs).trans Hq.out
    have d0 := block_cell hq1 0
    have d1 := block_cell hq1 1
    simp at d0 d1
    have hDa : RowAt w1 (cutA ao k c 1) (((l.map (·.1)).drop k).map (Value.int .i64)) := by
      have := (hra.below hb1).cut k c 1 (by simp [Hn.out]; omega)
      rwa [Nat.mul_one, ← List.map_drop] at this
    have hDb : RowAt w1 (cutA bo k d 1) (((l.map (·.2)).drop k).map (Value.int .i64)) := by
      have := (hrb.below hb1).cut k d 1 (by simp [Hn.out]; omega)
      rwa [Nat.mul_one, ← List.map_drop] at this
    have HDa := hidP hDa
    have HDb := hidP hDb
    have Hq1 := hidP hq1
    have Ho1 := hidP ho1
    have HlDa : Hid ((((l.map (·.1)).drop k).map (Value.int .i64)).length = (n - k) * 1) := by show _ = _; simp [Hn.out]
    have HlDb : Hid ((((l.map (·.2)).drop k).map (Value.int .i64)).length = (n - k) * 1) := by show _ = _; simp [Hn.out]
    clear hDa hDb hq1 hg1 hw1 ho1 hra hrb c0 c1 Hq HT HlT
    go_region_law
      (first
        | (refine step_app _ (by rfl) (.const (.slice none 0 0)) (.tmp 41) (by rfl) Try.slInt w1.heap.size (.slice none 0 0) 0 [] (by rfl) (World.ownsRow_nil _ _ _ _) (cutA ao k c 1) (n - k) (c - k) (((l.map (·.1)).drop k).map (Value.int .i64)) (by simp [Act.eval, Act.put]) (n - k) (by omega) (by first | exact HDa.out | exact HDa.out.below hBQ) HlDa.out (ints_one _ _) (by omega) (by unfold maxLen; omega) (by first | exact Nat.le_refl _ | exact hBQ.size) ?_; intro aP cP wP hoP hgP hwP; have hbP := below_grown hgP (Nat.le_refl _) (by simp [Value.ownBlock]); have hBP : Below w1.heap.size w1 wP := (by first | exact (brefl w1).drew.trans hbP | exact hBQ.trans (hbP.mono hBQ.size)); have x0 : wP.cell? ⟨r, 0, none⟩ = some (.slice ao n c) := (hBP.cell (p := ⟨r, 0, none⟩) hr1).trans d0; have x1 : wP.cell? ⟨r, 1, none⟩ = some (.slice bo n d) := (hBP.cell (p := ⟨r, 1, none⟩) hr1).trans d1; have x2 : wP.frozen? ⟨r, 0, none⟩ = false := (hBP.frozen (p := ⟨r, 0, none⟩) hr1).trans (frozen_of_row _ r 0 _ _ Hq1.out); have x3 : wP.frozen? ⟨r, 1, none⟩ = false := (hBP.frozen (p := ⟨r, 1, none⟩) hr1).trans (frozen_of_row _ r 1 _ _ Hq1.out); have gP := hidP hoP; (try have gQ := hidP (owns_below hoQ hbP)); have HBF := hidP hBP)
        | (refine step_app _ (by rfl) (.const (.slice none 0 0)) (.tmp 48) (by rfl) Try.slInt w1.heap.size (.slice none 0 0) 0 [] (by rfl) (World.ownsRow_nil _ _ _ _) (cutA bo k d 1) (n - k) (d - k) (((l.map (·.2)).drop k).map (Value.int .i64)) (by simp [Act.eval, Act.put]) (n - k) (by omega) (by first | exact HDb.out | exact HDb.out.below hBP) HlDb.out (ints_one _ _) (by omega) (by unfold maxLen; omega) (by first | exact Nat.le_refl _ | exact hBP.size) ?_; intro aQ cQ wQ hoQ hgQ hwQ; have hbQ := below_grown hgQ (Nat.le_refl _) (by simp [Value.ownBlock]); have hBQ : Below w1.heap.size w1 wQ := (by first | exact (brefl w1).drew.trans hbQ | exact hBP.trans (hbQ.mono hBP.size)); have y0 : wQ.cell? ⟨r, 0, none⟩ = some (.slice ao n c) := (hBQ.cell (p := ⟨r, 0, none⟩) hr1).trans d0; have y1 : wQ.cell? ⟨r, 1, none⟩ = some (.slice bo n d) := (hBQ.cell (p := ⟨r, 1, none⟩) hr1).trans d1; have y2 : wQ.frozen? ⟨r, 0, none⟩ = false := (hBQ.frozen (p := ⟨r, 0, none⟩) hr1).trans (frozen_of_row _ r 0 _ _ Hq1.out); have y3 : wQ.frozen? ⟨r, 1, none⟩ = false := (hBQ.frozen (p := ⟨r, 1, none⟩) hr1).trans (frozen_of_row _ r 1 _ _ Hq1.out); have gQ := hidP hoQ; (try have gP := hidP (owns_below hoP hbQ)); have HBF := hidP hBQ)
        | fail)
    all_goals
      go_wp2
      go_ret
      have hst := k_store2 (u0 := .slice aP (n - k) cP) (u1 := .slice aQ (n - k) cQ) HBF.out Hq1.out
      have hke := hst.2
      have hlk : (l.drop (cutN l t)).length = n - k := by rw [HC.out, List.length_drop, Hn.out]
      have hs1 := hb1.size
      have e1 : ((l.map (·.1)).drop k).map (Value.int .i64) = ((l.drop (cutN l t)).map (·.1)).map (Value.int .i64) := by rw [HC.out]; simp only [List.map_drop]
      have e2 : ((l.map (·.2)).drop k).map (Value.int .i64) = ((l.drop (cutN l t)).map (·.2)).map (Value.int .i64) := by rw [HC.out]; simp only [List.map_drop]
      have e3 : ([] : List Value) ++ ((l.map (·.2)).take k).map (Value.int .i64) = (cDue l t).map (Value.int .i64) := by unfold cDue; rw [HC.out, List.nil_append]; simp only [List.map_take]
      have e4 : (cDue l t).length = k := by unfold cDue; rw [HC.out, List.length_map, List.length_take, Hn.out]; omega
      refine k_close (v := .slice a1 k cc1) hst.1 hlk ?_ ?_ hrs ?_ HrP.out ?_
      · exact owns_mono (owns_keep (e1 ▸ gP.out) hke (fun j hj e => by have := (gP.out.lt j hj).1; omega)) hs1
      · exact owns_mono (owns_keep (e2 ▸ gQ.out) hke (fun j hj e => by have := (gQ.out.lt j hj).1; omega)) hs1
      · exact ((Keep.of_below hb1).then (.of_below HBF.out) (fun _ _ h => h)).then hke (fun _ _ h => h)
      · refine ⟨a1, _, by rw [e4], ?_⟩
        rw [e4, ← e3]
        exact owns_keep (owns_below Ho1.out HBF.out) hke (fun j hj e => by have := (Ho1.out.lt j hj).1; omega)
end Go.Proofs.Ytjjfemhpdhkolaa
