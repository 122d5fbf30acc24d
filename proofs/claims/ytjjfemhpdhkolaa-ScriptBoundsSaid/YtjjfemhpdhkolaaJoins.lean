/-
  The walk of the law ScriptJoins.
-/
import Derived.Test.YtjjfemhpdhkolaaEach
import Derived.Test.YtjjfemhpdhkolaaOpen
namespace Go.Proofs.Ytjjfemhpdhkolaa
open Go.RowKit
set_option linter.unusedVariables false

theorem Try.slU8 : SlT Try.prog 24 5 (.int .u8 0) 1 1 := ⟨Try.underlying24, by kernel_rfl, rfl, by decide⟩
theorem Try.slEnt : SlT Try.prog 22 26 (.agg #[.int .i64 0, .int .i64 0, .int .i64 0]) 3 24 := ⟨Try.underlying22, by kernel_rfl, rfl, by decide⟩

theorem entsCells_take (l : List Ent) (k : Nat) : (entsCells l).take (k * 3) = entsCells (l.take k) := by
  induction l generalizing k with
  | nil => simp [entsCells]
  | cons a l ih =>
    cases k with
    | zero => simp [entsCells]
    | succ k =>
      have := ih k
      simp only [entsCells, List.flatMap_cons, List.take_succ_cons] at *
      rw [List.take_append, ← this]
      simp [entCells, Nat.add_mul]

theorem ents_one (l : List Ent) : ∀ u ∈ entsCells l, u.oneCell' = true := by
  intro u hu
  simp [entsCells, entCells] at hu
  obtain ⟨a, _, h⟩ := hu
  rcases h with rfl | rfl | rfl <;> rfl

theorem u8_wf {zs : List Int} (h : ∀ z ∈ zs, (Lit.int .u8 z).wf = true) (j : Nat) : 0 ≤ zs.getD j 0 ∧ zs.getD j 0 < 256 := by
  rw [List.getD_eq_getElem?_getD]
  by_cases hj : j < zs.length
  · rw [List.getElem?_eq_getElem hj]
    have := bounds_u8 (h _ (List.getElem_mem hj))
    simp; omega
  · rw [List.getElem?_eq_none (by omega)]; simp

set_option maxRecDepth 100000 in
set_option maxHeartbeats 1000000 in
theorem scriptJoins_any (ao bo : Option Addr) (n m c d : Nat) (zs ys : List Int) (w : World) (hra : RowAt w ao (zs.map (Value.int .u8))) (hrb : RowAt w bo (ys.map (Value.int .u8))) (hn : zs.length = n) (hm : ys.length = m)
    (hz : ∀ z ∈ zs, (Lit.int .u8 z).wf = true) (hy : ∀ z ∈ ys, (Lit.int .u8 z).wf = true) (hnc : n ≤ c) (hc : c ≤ maxLen) (hmd : m ≤ d) (hd : d ≤ maxLen) :
    Calls Try.prog 4 #[.slice ao n c, .slice bo m d] w fun e w' => e = .returned (.bool true) ∧ Below w.heap.size w w' := by
  have Hn := hidP hn
  have Hm := hidP hm
  unfold maxLen at hc hd
  clear hn hm
  have Hz := hidP (u8_wf hz)
  have Hy := hidP (u8_wf hy)
  clear hz hy
  go_enter Try.func4, Try.ntmps4
  by_cases h1 : 400 < n
  · go_wp2_with (go_at_call 15; refine (awake27_any _).mono ?_; rintro e w1 ⟨rfl, hb⟩)
    go_ret
    exact ⟨rfl, hb⟩
  · by_cases h2 : 400 < m
    · go_wp2_with (go_at_call 15; refine (awake27_any _).mono ?_; rintro e w1 ⟨rfl, hb⟩)
      go_ret
      exact ⟨rfl, hb⟩
    · have hlA : (zs.take (n / 2 * 2)).length = n / 2 * 2 := by rw [List.length_take, Hn.out]; omega
      have hlC : (zs.take (n / 2 * 2) ++ ys).length = n / 2 * 2 + m := by rw [List.length_append, hlA, Hm.out]
      have HA := hidP hlA
      have HC := hidP hlC
      have hza : ∀ j, 0 ≤ (zs.take (n / 2 * 2)).getD j 0 ∧ (zs.take (n / 2 * 2)).getD j 0 < 256 := by
        intro j
        have := Hz.out j
        rw [List.getD_eq_getElem?_getD] at *
        rw [List.getElem?_take]
        split
        · exact this
        · simp
      have hzc : ∀ j, 0 ≤ (zs.take (n / 2 * 2) ++ ys).getD j 0 ∧ (zs.take (n / 2 * 2) ++ ys).getD j 0 < 256 := by
        intro j
        have h1 := hza j
        have h2 := Hy.out (j - (zs.take (n / 2 * 2)).length)
        rw [List.getD_eq_getElem?_getD] at *
        by_cases hj : j < (zs.take (n / 2 * 2)).length
        · rw [List.getElem?_append_left hj]; exact h1
        · rw [List.getElem?_append_right (by omega)]; exact h2
      have HZA := hidP hza
      have HZC := hidP hzc
      have HEq : Hid (entries (zs.take (n / 2 * 2) ++ ys) = (entries (zs.take (n / 2 * 2)) ++ entries ys).take 400) := entries_append _ _ (n / 2) (by rw [hlA]; omega)
      have hrA : RowAt w ao ((zs.take (n / 2 * 2)).map (Value.int .u8)) := by rw [List.map_take]; exact hra.take _
      clear hlA hlC hza hzc hra
      go_wp2_with (first | (at_builtin; refine (wpList_app _ rfl (.const (.slice none 0 0)) (.tmp 23) rfl Try.slU8 w.heap.size (.slice none 0 0) 0 [] rfl (World.ownsRow_nil _ _ _ _) _ _ _ ((zs.take (n / 2 * 2)).map (Value.int .u8)) rfl (n / 2 * 2) (by omega) hrA (by rw [List.length_map, HA.out]; omega) (ints_one _ _) (by omega) (by unfold maxLen; omega) (Nat.le_refl _) ?_); intro a1 c1 w1 hown1 hg1 _; have hb1 : Below w.heap.size w w1 := below_grown hg1 (Nat.le_refl _) (by simp [Value.ownBlock]); have hs1 := hb1.size; clear hg1) | (at_builtin; go_loud (refine (wpList_app _ rfl (.tmp 24) (.tmp 25) rfl Try.slU8 w.heap.size (.slice a1 (n / 2 * 2) c1) (n / 2 * 2) ([] ++ (zs.take (n / 2 * 2)).map (Value.int .u8)) rfl hown1 _ _ _ (ys.map (Value.int .u8)) rfl (n / 2 * 2 + m) rfl (hrb.below hb1) (by rw [List.length_map, Hm.out]; omega) (ints_one _ _) (by omega) (by unfold maxLen; omega) hb1.size ?_)); intro a2 c2 w2 hown2 hg2 _))
      rw [List.nil_append, ← List.map_append] at hown2
      have hb2 : Below w.heap.size w w2 := hb1.trans (below_grown hg2 hs1 (fun k hk => (hown1.lt k hk).1))
      clear hg2 hown1 hb1 hs1
      have hr2 := owns_row hown2
      obtain ⟨E1, hE1⟩ : ∃ E, entries (zs.take (n / 2 * 2)) = E := ⟨_, rfl⟩
      obtain ⟨E2, hE2⟩ : ∃ E, entries ys = E := ⟨_, rfl⟩
      obtain ⟨X, hX⟩ : ∃ E, entries (zs.take (n / 2 * 2) ++ ys) = E := ⟨_, rfl⟩
      have HXE := HEq.out
      rw [hE1, hE2, hX] at HXE
      obtain ⟨l1, hl1⟩ : ∃ l, E1.length = l := ⟨_, rfl⟩
      obtain ⟨l2, hl2⟩ : ∃ l, E2.length = l := ⟨_, rfl⟩
      obtain ⟨lx, hlx⟩ : ∃ l, X.length = l := ⟨_, rfl⟩
      have hb1 : l1 ≤ 400 := by rw [← hl1, ← hE1, length_entries]; unfold entCount; omega
      have hb20 : l2 ≤ 400 := by rw [← hl2, ← hE2, length_entries]; unfold entCount; omega
      have hlm : (400 < l1 + l2 ∧ lx = 400) ∨ (l1 + l2 ≤ 400 ∧ lx = l1 + l2) := by rw [← hlx, HXE, List.length_take, List.length_append, hl1, hl2]; omega
      have H1 := hidP hl1
      have H2 := hidP hl2
      have HX := hidP hlx
      have HE1 := hidP hE1
      have HE2 := hidP hE2
      have HX0 := hidP hX
      have HXE := hidP HXE
      have HLM := hidP hlm
      clear hl1 hl2 hlx hE1 hE2 hX hlm HEq
      have hlx4 : lx ≤ 400 := by have := HLM.out; omega
      go_wp2_with fail
      refine (entries_at _ _ (n / 2 * 2 + m) c2 (zs.take (n / 2 * 2) ++ ys) lx X hr2 HC.out HZC.out (by omega) HX.out HX0.out).mono ?_
      rintro e w3 ⟨a3, c3, rfl, hown3, hb3⟩
      have hB3 := bstep hb2 hb3
      have r3 := owns_row hown3
      clear hown3 hb3 hown2 hr2
      go_wp2_with fail
      refine (entries_at _ _ (n / 2 * 2) c (zs.take (n / 2 * 2)) l1 E1 (hrA.below hB3) HA.out HZA.out (by omega) H1.out HE1.out).mono ?_
      rintro e w4 ⟨a4, c4, rfl, hown4, hb4⟩
      have hB4 := bstep hB3 hb4
      go_wp2_with fail
      refine (entries_at _ _ m d ys l2 E2 (hrb.below hB4) Hm.out Hy.out (by omega) H2.out HE2.out).mono ?_
      rintro e w5 ⟨a5, c5, rfl, hown5, hb5⟩
      have hB5 := bstep hB4 hb5
      have hown4 := owns_below hown4 hb5
      have r5 := owns_row hown5
      have hs5 := hb5.size
      have hs3 := hB3.size
      have hs4 := hb4.size
      go_wp2_with (first | (at_builtin; go_loud (refine (wpList_app _ rfl (.tmp 31) (.tmp 33) rfl Try.slEnt w3.heap.size (.slice a4 l1 c4) l1 (entsCells E1) rfl hown4 a5 l2 c5 (entsCells E2) rfl (l1 + l2) rfl r5 (by rw [length_entsCells, H2.out]) (ents_one _) (by omega) (by unfold maxLen; omega) (by omega) ?_)); intro a6 c6 w6 hown6 hg6 _))
      have hb36 : Below w3.heap.size w3 w6 := (bstep hb4 hb5).trans (below_grown hg6 (by omega) (fun k hk => (hown4.lt k hk).1))
      have r6 := owns_row hown6
      rw [← entsCells_append] at r6
      have r3 := r3.below hb36
      have hB6 := bstep hB3 hb36
      obtain ⟨_, _, hv6, _, hc6, _⟩ := owns_open hown6
      cases hv6
      clear hg6 hown6 hown5 hown4 r5
      have HL6 : Hid (min (l1 + l2) 400 = lx) := by show _ = _; have := HLM.out; omega
      have HY : Hid (X = (E1 ++ E2).take lx) := by
        show _ = _
        have := HXE.out
        rcases HLM.out with ⟨h, e⟩ | ⟨h, e⟩
        · rw [e]; exact this
        · rw [this, List.take_of_length_le (by rw [List.length_append, H1.out, H2.out]; omega), List.take_of_length_le (by rw [List.length_append, H1.out, H2.out]; omega)]
      have hl6 : (E1 ++ E2).length = l1 + l2 := by rw [List.length_append, H1.out, H2.out]
      have HL := hidP hl6
      clear hl6
      rcases HLM.out with ⟨hge, rfl⟩ | ⟨hlt, rfl⟩
      ·
        have r7 : RowAt w6 a6 (entsCells ((E1 ++ E2).take (400))) := by rw [← entsCells_take]; exact r6.take _
        have hX7 : X = (E1 ++ E2).take (400) := HY.out
        have hl7 : ((E1 ++ E2).take (400)).length = 400 := by rw [List.length_take, HL.out]; omega
        have HX7 := hidP hX7
        have HL7 := hidP hl7
        clear hX7 hl7 r6
        go_wp2_with (go_at_call 15; refine (awake27_any _).mono ?_; rintro e w7 ⟨rfl, hb7⟩)
        refine (plainEnt_yes _ _ _ _ _ _ X ((E1 ++ E2).take (400)) _ (r3.below hb7) (r7.below hb7) HX.out HL7.out (by omega) HX7.out).mono ?_
        rintro e w8 ⟨rfl, hb8⟩
        go_wp2
        go_ret
        exact ⟨rfl, bstep (bstep hB6 hb7) hb8⟩
      ·
        have r7 : RowAt w6 a6 (entsCells ((E1 ++ E2).take (l1 + l2))) := by rw [← entsCells_take]; exact r6.take _
        have hX7 : X = (E1 ++ E2).take (l1 + l2) := HY.out
        have hl7 : ((E1 ++ E2).take (l1 + l2)).length = l1 + l2 := by rw [List.length_take, HL.out]; omega
        have HX7 := hidP hX7
        have HL7 := hidP hl7
        clear hX7 hl7 r6
        go_wp2_with (go_at_call 15; refine (awake27_any _).mono ?_; rintro e w7 ⟨rfl, hb7⟩)
        refine (plainEnt_yes _ _ _ _ _ _ X ((E1 ++ E2).take (l1 + l2)) _ (r3.below hb7) (r7.below hb7) HX.out HL7.out (by omega) HX7.out).mono ?_
        rintro e w8 ⟨rfl, hb8⟩
        go_wp2
        go_ret
        exact ⟨rfl, bstep (bstep hB6 hb7) hb8⟩

theorem scriptJoinsW (w : World) (ao : Option Addr) (n c : Nat) (zs : List Int) (hra : RowAt w ao (zs.map (Value.int .u8))) (hn : zs.length = n) (hz : (∀ z ∈ zs, (Lit.int .u8 z).wf = true) ∧ n ≤ c ∧ c ≤ maxLen)
    (bo : Option Addr) (m d : Nat) (ys : List Int) (hrb : RowAt w bo (ys.map (Value.int .u8))) (hm : ys.length = m) (hy : (∀ z ∈ ys, (Lit.int .u8 z).wf = true) ∧ m ≤ d ∧ d ≤ maxLen) :
    Calls Try.prog 4 #[.slice ao n c, .slice bo m d] w fun e w' => e = .returned (.bool true) ∧ Below w.heap.size w w' :=
  scriptJoins_any ao bo n m c d zs ys w hra hrb hn hm hz.1 hy.1 hz.2.1 hz.2.2 hy.2.1 hy.2.2
end Go.Proofs.Ytjjfemhpdhkolaa
