/-
  The walk over the reference's clock's Add.
-/
import Derived.Test.YtjjfemhpdhkolaaCTwo
import Derived.Test.YtjjfemhpdhkolaaStepB
import Derived.Deep.DeepCutAuto
import Derived.Deep.CutBlock
namespace Go.Proofs.Ytjjfemhpdhkolaa
open Go.RowKit
set_option linter.unusedVariables false

theorem k_store {W w8 : World} {r : Nat} {cs : Array Value} {T e : TypeId} {v : Value} {m : Nat} {xs : List Value} (hb8 : Below W.heap.size W w8) (hq : W.heap[r]? = some (.cells cs T (0, 0))) (ho8 : w8.ownsRow W.heap.size e 1 v m xs) (j : Nat) (u : Value) :
    (w8.setCell ⟨r, j, none⟩ u).heap[r]? = some (.cells (cs.setIfInBounds j u) T (0, 0)) ∧ (w8.setCell ⟨r, j, none⟩ u).ownsRow W.heap.size e 1 v m xs ∧ Keep (fun k => k = r) W (w8.setCell ⟨r, j, none⟩ u) := by
  have hr := block_lt hq
  have hk : Keep (fun k => k = r) w8 (w8.setCell ⟨r, j, none⟩ u) := (Keep.refl (fun k => k = r) w8).setCell (p := ⟨r, j, none⟩) rfl _
  exact ⟨heap_setCell_same w8 r j cs T u ((hb8.block r hr).trans hq), owns_keep ho8 hk (fun k hk' e => by have := (ho8.lt k hk').1; omega), (Keep.of_below hb8).then hk (fun i _ h => h)⟩

theorem k_close {w0 w5 : World} {r : Nat} {P : Nat → Prop} {l2 : List CE} {a8 b9 : Option Addr} {m c8 d9 : Nat} {v : Value} {A : World → Value → Prop} (h8 : w5.heap[r]? = some (.cells #[.slice a8 m c8, .slice b9 m d9] 63 (0, 0))) (hm : l2.length = m)
    (o8 : w5.ownsRow w0.heap.size 3 1 (.slice a8 m c8) m ((l2.map (·.1)).map (Value.int .i64))) (o9 : w5.ownsRow w0.heap.size 3 1 (.slice b9 m d9) m ((l2.map (·.2)).map (Value.int .i64))) (hr : r < w0.heap.size) (hk : Keep (fun k => k = r) w0 w5) (hP : P r) (hA : A w5 v) :
    OPost (fun w P => KIn w r P l2) w0 P A (.returned v) w5 := by
  subst hm
  refine ⟨v, rfl, hA, fun k => k = r ∨ (Value.slice a8 l2.length c8).ownBlock = some k ∨ (Value.slice b9 l2.length d9).ownBlock = some k, ⟨a8, c8, b9, d9, h8, owns_mono o8 (Nat.zero_le _), owns_mono o9 (Nat.zero_le _), fun k h => h, ?_, ?_, ?_⟩, hk.mono (fun k _ e => e ▸ hP), ?_⟩
  · rintro k (rfl | h | h)
    · exact block_lt h8
    · exact (o8.lt k h).2
    · exact (o9.lt k h).2
  · intro e; have := (o8.lt r e).1; omega
  · intro e; have := (o9.lt r e).1; omega
  · rintro k (rfl | h | h)
    · exact .inl hP
    · exact .inr (o8.lt k h).1
    · exact .inr (o9.lt k h).1

set_option maxRecDepth 100000 in
set_option maxHeartbeats 3200000 in
theorem kadd_any (r : Nat) (P : Nat → Prop) (l : List CE) (t a : Int) (w : World) (h : KIn w r P l) (hl : l.length ≤ 900000) (hby : Byw l) :
    Calls Try.prog 41 #[.pointer (some ⟨r, 0, none⟩), .int .i64 t, .int .i64 a] w (OPost (fun w P => KIn w r P (cAdd l t a)) w P fun _ v => v = .tuple #[]) := by
  obtain ⟨ao, c, bo, d, hq, hoa, hob, hP, hlt, hna, hnb⟩ := h
  have hrs := hlt r (hP r (.inl rfl))
  have c0 := block_cell hq 0
  have c1 := block_cell hq 1
  simp at c0 c1
  have hra := owns_row hoa
  have hrb := owns_row hob
  obtain ⟨_, _, hv, _, hca, hcm, _⟩ := owns_open hoa
  cases hv
  obtain ⟨_, _, hv, _, hcb, hdm, _⟩ := owns_open hob
  cases hv
  obtain ⟨n, hn⟩ : ∃ n, l.length = n := ⟨_, rfl⟩
  rw [hn] at c0 c1 hoa hob hl hca hcb hq hP hna hnb
  have Hn := hidP hn
  have Hq := hidP hq
  have HP := hidP hP
  have Hlt := hidP hlt
  have HA := hidP hoa
  have HB := hidP hob
  have Hby := hidP hby
  have HL := hidP (length_cAdd l t a)
  have HNA := hidP hna
  have HNB := hidP hnb
  have HrP := hidP (hP r (.inl rfl))
  clear hn hq hP hlt hoa hob hna hnb hby
  go_enter Try.func41, Try.ntmps41
  go_upto_block 0 with fail
  go_cut [6] from 12 to 27 (fun v wx => ∃ k : Nat, v = .int .i64 k ∧ k ≤ n ∧ Hid (cutN l t = k) ∧ wx = w)
  case first =>
    go_wp2_with fail
    go_loop [6] (fun v => ∃ k : Nat, v = .int .i64 k ∧ k ≤ n ∧ Hid (∀ x ∈ l.drop k, t < x.1)) (fun v => (intOf v).toNat)
    case atStart => exact ⟨n, rfl, by omega, by show ∀ x ∈ l.drop n, _; rw [List.drop_eq_nil_of_le (by rw [Hn.out]; omega)]; simp⟩
    case round =>
      obtain ⟨k, rfl, hk, HK⟩ := hrel
      by_cases h0 : k = 0
      · subst h0
        have HC : Hid (cutN l t = 0) := cutN_back Hby.out (Nat.zero_le _) (.inl rfl) HK.out
        go_wp2
        go_meet
        exact ⟨0, rfl, by omega, HC, rfl⟩
      · obtain ⟨b, o, rfl, hxa⟩ := hra.addr (by rw [List.length_map, List.length_map, Hn.out]; omega)
        obtain ⟨x, hx⟩ : ∃ x, l[k - 1]? = some x := ⟨_, List.getElem?_eq_getElem (by rw [Hn.out]; omega)⟩
        have x0 : w.cell? ⟨b, o + (k - 1), none⟩ = some (.int .i64 x.1) := hxa (k - 1) _ (by rw [List.getElem?_map, List.getElem?_map, hx]; rfl)
        have hkp : (0 : Int) < (k : Int) := by omega
        have hk1 : (k : Int) - 1 = ((k - 1 : Nat) : Int) := by omega
        have hk2 : ((k : Int) - 1).toNat = k - 1 := by omega
        have hk3 : (0 : Int) ≤ (k : Int) - 1 := by omega
        have hk4 : (k : Int) - 1 < (n : Int) := by omega
        have HX := hidP hx
        clear hx hxa
        by_cases hgt : t < x.1
        · have HK2 : Hid (∀ y ∈ l.drop (k - 1), t < y.1) := by
            intro y hy
            have hkl : k - 1 < l.length := (List.getElem?_eq_some_iff.1 HX.out).1
            rw [List.drop_eq_getElem_cons hkl, show k - 1 + 1 = k by omega] at hy
            rcases List.mem_cons.1 hy with rfl | hy
            · rw [(List.getElem?_eq_some_iff.1 HX.out).2]; exact hgt
            · exact HK.out y hy
          go_wp2
          go_round
          case rel => exact ⟨k - 1, by go_num, by omega, HK2⟩
          case measure => simp [intOf]; omega
        · have HC : Hid (cutN l t = k) := cutN_back Hby.out (by rw [Hn.out]; omega) (.inr ⟨x, HX.out, by omega⟩) HK.out
          go_wp2
          go_meet
          exact ⟨k, rfl, by omega, HC, rfl⟩
  case rest =>
    obtain ⟨k, rfl, hk, HC, rfl⟩ := hcut
    obtain ⟨w0, hw0⟩ : ∃ w0, w0 = wc := ⟨_, rfl⟩
    subst hw0
    have i0 : (0 : Int) ≤ (k : Int) := by omega
    have i1 : (k : Int) ≤ (n : Int) := by omega
    have i2 : (k : Int) ≤ (c : Int) := by omega
    have i3 : (k : Int) ≤ (d : Int) := by omega
    unfold maxLen at hcm hdm
    have q0 := c0
    have Hq0 := Hq
    have hr1 := hra
    have HE1 : Hid ([] ++ ((l.map (·.1)).take k).map (Value.int .i64) ++ [.int .i64 t] ++ ((l.map (·.1)).drop k).map (Value.int .i64) = ((cAdd l t a).map (·.1)).map (Value.int .i64)) := by show _ = _; simp [cAdd, HC.out, List.map_take, List.map_drop]
    have HE2 : Hid ([] ++ ((l.map (·.2)).take k).map (Value.int .i64) ++ [.int .i64 a] ++ ((l.map (·.2)).drop k).map (Value.int .i64) = ((cAdd l t a).map (·.2)).map (Value.int .i64)) := by show _ = _; simp [cAdd, HC.out, List.map_take, List.map_drop]
    go_upto_region 3 with fail
    go_cut [6] from 28 to 47 (fun v wx => v = .int .i64 k ∧ ∃ a8 c8, wx.heap[r]? = some (.cells #[.slice a8 (n + 1) c8, .slice bo n d] 63 (0, 0)) ∧ wx.ownsRow w0.heap.size 3 1 (.slice a8 (n + 1) c8) (n + 1) (((cAdd l t a).map (·.1)).map (Value.int .i64)) ∧ Keep (fun k => k = r) w0 wx)
    case first =>
      have hT : RowAt w0 ao (((l.map (·.1)).take k).map (Value.int .i64)) := by rw [List.map_take]; exact hr1.take k
      have hD : RowAt w0 (cutA ao k c 1) (((l.map (·.1)).drop k).map (Value.int .i64)) := by
        have := hr1.cut k c 1 (by simp [Hn.out]; omega)
        rwa [Nat.mul_one, ← List.map_drop] at this
      have hlT : (((l.map (·.1)).take k).map (Value.int .i64)).length = k * 1 := by simp [Hn.out]; omega
      have hlD : (((l.map (·.1)).drop k).map (Value.int .i64)).length = (n - k) * 1 := by simp [Hn.out]
      have dB : (w0.alloc (.cells #[.int .i64 t] 3)).cell? ⟨r, 0, none⟩ = some (.slice ao n c) := ((bnew (brefl w0) _).cell (p := ⟨r, 0, none⟩) hrs).trans q0
      have HTT := hidP hT
      have HDD := hidP hD
      have HlT := hidP hlT
      have HlD := hidP hlD
      clear hT hD hlT hlD
      go_region_law
        (first
          | (refine step_appB _ (by rfl) (.const (.slice none 0 0)) (.tmp 34) (by rfl) Try.slInt w0 (by first | exact (brefl w0).drew | exact (bnew (brefl w0) _).drew) (.slice none 0 0) 0 [] (by rfl) (World.ownsRow_nil _ _ _ _) ao k c (((l.map (·.1)).take k).map (Value.int .i64)) (by simp [Act.eval, Act.put]) k (by omega) (by first | exact HTT.out | exact HTT.out.alloc _) HlT.out (ints_one _ _) (by omega) (by unfold maxLen; omega) ?_; intro a6 c6 w6 ho6 hb6 hs6 hw6 hp6; have d6 : w6.cell? ⟨r, 0, none⟩ = some (.slice ao n c) := (hb6.cell (p := ⟨r, 0, none⟩) hrs).trans q0; have e6 : (w6.alloc (.cells #[.int .i64 t] 3)).cell? ⟨r, 0, none⟩ = some (.slice ao n c) := ((bnew hb6 _).cell (p := ⟨r, 0, none⟩) hrs).trans q0)
          | (refine step_appB _ (by rfl) (.tmp 35) (.tmp 37) (by rfl) Try.slInt w0 (by first | exact hb6 | exact bnew hb6 _) (.slice a6 k c6) k ([] ++ ((l.map (·.1)).take k).map (Value.int .i64)) (by simp [Act.eval, Act.put]) (by first | exact ho6 | exact ho6.alloc _) _ 1 1 [.int .i64 t] (by simp [Act.eval, Act.put]; first | done | rfl) (k + 1) (by omega) (by first | exact RowAt.new w6 [.int .i64 t] _ | exact hp6 w0.heap.size _ (by simp) (by simp [Value.ownBlock]) (RowAt.new w0 [.int .i64 t] _)) (by rfl) (by simp; rfl) (by omega) (by unfold maxLen; omega) ?_; intro a7 c7 w7 ho7 hb7 hs7 hw7 hp7; have d7 : w7.cell? ⟨r, 0, none⟩ = some (.slice ao n c) := (hb7.cell (p := ⟨r, 0, none⟩) hrs).trans q0)
          | (refine step_appB _ (by rfl) (.tmp 38) (.tmp 44) (by rfl) Try.slInt w0 hb7 (.slice a7 (k + 1) c7) (k + 1) ([] ++ ((l.map (·.1)).take k).map (Value.int .i64) ++ [.int .i64 t]) (by simp [Act.eval, Act.put]) ho7 (cutA ao k c 1) (n - k) (c - k) (((l.map (·.1)).drop k).map (Value.int .i64)) (by simp [Act.eval, Act.put]) (n + 1) (by omega) (HDD.out.below hb7) HlD.out (ints_one _ _) (by omega) (by unfold maxLen; omega) ?_; intro a8 c8 w8 ho8 hb8 hs8 hw8 hp8; have d8 : w8.cell? ⟨r, 0, none⟩ = some (.slice ao n c) := (hb8.cell (p := ⟨r, 0, none⟩) hrs).trans q0; have k8 : w8.frozen? ⟨r, 0, none⟩ = false := (hb8.frozen (p := ⟨r, 0, none⟩) hrs).trans (frozen_of_row _ r 0 _ _ Hq0.out))
          | fail)
      all_goals
        go_wp2_with fail
        go_meet
        have hst := k_store hb8 Hq.out (HE1.out ▸ ho8) 0 (.slice a8 (n + 1) c8)
        exact ⟨rfl, a8, c8, by simpa using hst.1, hst.2.1, hst.2.2⟩
    case rest =>
      obtain ⟨rfl, a3, c3, hq3, ho3, hk3⟩ := hcut
      obtain ⟨w4, hw4⟩ : ∃ w4, w4 = wc := ⟨_, rfl⟩
      subst hw4
      have hr2 := owns_row (owns_keep HB.out hk3 (fun j hj e => HNB.out (by rw [hj, e])))
      have q1 := block_cell hq3 1
      simp at q1
      have Hq1 := hidP hq3
      have Ho3 := hidP ho3
      have Hk3 := hidP hk3
      have hr4 : r < w4.heap.size := block_lt hq3
      clear hq3 ho3 hk3 c0 c1 q0 Hq0 hra hrb hr1 Hq HA HB
      go_upto_region 4 with fail
      have hT : RowAt w4 bo (((l.map (·.2)).take k).map (Value.int .i64)) := by rw [List.map_take]; exact hr2.take k
      have hD : RowAt w4 (cutA bo k d 1) (((l.map (·.2)).drop k).map (Value.int .i64)) := by
        have := hr2.cut k d 1 (by simp [Hn.out]; omega)
        rwa [Nat.mul_one, ← List.map_drop] at this
      have hlT : (((l.map (·.2)).take k).map (Value.int .i64)).length = k * 1 := by simp [Hn.out]; omega
      have hlD : (((l.map (·.2)).drop k).map (Value.int .i64)).length = (n - k) * 1 := by simp [Hn.out]
      have dB : (w4.alloc (.cells #[.int .i64 a] 3)).cell? ⟨r, 1, none⟩ = some (.slice bo n d) := ((bnew (brefl w4) _).cell (p := ⟨r, 1, none⟩) hr4).trans q1
      have HTT := hidP hT
      have HDD := hidP hD
      have HlT := hidP hlT
      have HlD := hidP hlD
      clear hT hD hlT hlD
      go_region_law
        (first
          | (refine step_appB _ (by rfl) (.const (.slice none 0 0)) (.tmp 54) (by rfl) Try.slInt w4 (by first | exact (brefl w4).drew | exact (bnew (brefl w4) _).drew) (.slice none 0 0) 0 [] (by rfl) (World.ownsRow_nil _ _ _ _) bo k d (((l.map (·.2)).take k).map (Value.int .i64)) (by simp [Act.eval, Act.put]) k (by omega) (by first | exact HTT.out | exact HTT.out.alloc _) HlT.out (ints_one _ _) (by omega) (by unfold maxLen; omega) ?_; intro a6 c6 w6 ho6 hb6 hs6 hw6 hp6; have d6 : w6.cell? ⟨r, 1, none⟩ = some (.slice bo n d) := (hb6.cell (p := ⟨r, 1, none⟩) hr4).trans q1; have e6 : (w6.alloc (.cells #[.int .i64 a] 3)).cell? ⟨r, 1, none⟩ = some (.slice bo n d) := ((bnew hb6 _).cell (p := ⟨r, 1, none⟩) hr4).trans q1)
          | (refine step_appB _ (by rfl) (.tmp 55) (.tmp 57) (by rfl) Try.slInt w4 (by first | exact hb6 | exact bnew hb6 _) (.slice a6 k c6) k ([] ++ ((l.map (·.2)).take k).map (Value.int .i64)) (by simp [Act.eval, Act.put]) (by first | exact ho6 | exact ho6.alloc _) _ 1 1 [.int .i64 a] (by simp [Act.eval, Act.put]; first | done | rfl) (k + 1) (by omega) (by first | exact RowAt.new w6 [.int .i64 a] _ | exact hp6 w4.heap.size _ (by simp) (by simp [Value.ownBlock]) (RowAt.new w4 [.int .i64 a] _)) (by rfl) (by simp; rfl) (by omega) (by unfold maxLen; omega) ?_; intro a7 c7 w7 ho7 hb7 hs7 hw7 hp7; have d7 : w7.cell? ⟨r, 1, none⟩ = some (.slice bo n d) := (hb7.cell (p := ⟨r, 1, none⟩) hr4).trans q1)
          | (refine step_appB _ (by rfl) (.tmp 58) (.tmp 64) (by rfl) Try.slInt w4 hb7 (.slice a7 (k + 1) c7) (k + 1) ([] ++ ((l.map (·.2)).take k).map (Value.int .i64) ++ [.int .i64 a]) (by simp [Act.eval, Act.put]) ho7 (cutA bo k d 1) (n - k) (d - k) (((l.map (·.2)).drop k).map (Value.int .i64)) (by simp [Act.eval, Act.put]) (n + 1) (by omega) (HDD.out.below hb7) HlD.out (ints_one _ _) (by omega) (by unfold maxLen; omega) ?_; intro a8 c8 w8 ho8 hb8 hs8 hw8 hp8; have d8 : w8.cell? ⟨r, 1, none⟩ = some (.slice bo n d) := (hb8.cell (p := ⟨r, 1, none⟩) hr4).trans q1; have k8 : w8.frozen? ⟨r, 1, none⟩ = false := (hb8.frozen (p := ⟨r, 1, none⟩) hr4).trans (frozen_of_row _ r 1 _ _ Hq1.out))
          | fail)
      all_goals
        go_wp2
        first | go_end0 | ((try simp only [Exit.inBlock, Exit.then]); refine bodyPost_ret (results_none rfl _ _ _) rfl ?_)
        have hst := k_store hb8 Hq1.out (HE2.out ▸ ho8) 1 (.slice a8 (n + 1) c8)
        have hs4 := Hk3.out.size
        refine k_close (by simpa using hst.1) (by rw [HL.out, Hn.out]) (owns_keep Ho3.out hst.2.2 (fun j hj e => by have := (Ho3.out.lt j hj).1; omega)) (owns_mono hst.2.1 hs4) hrs (Hk3.out.then hst.2.2 (fun i _ h => h)) HrP.out rfl
end Go.Proofs.Ytjjfemhpdhkolaa
