/-
  The walk of the law ScriptBack.
-/
import Derived.Test.YtjjfemhpdhkolaaPScript
namespace Go.Proofs.Ytjjfemhpdhkolaa
open Go.RowKit
set_option linter.unusedVariables false

set_option maxRecDepth 100000 in
set_option maxHeartbeats 1600000 in
theorem scriptBack_any (ao bo : Option Addr) (n m c d : Nat) (zs : List Int) (es : List Ent) (w : World) (hra : RowAt w ao (zs.map (Value.int .u8))) (hrb : RowAt w bo (entsCells es)) (hn : zs.length = n) (hm : es.length = m)
    (hz : ∀ z ∈ zs, (Lit.int .u8 z).wf = true) (hnc : n ≤ c) (hc : c ≤ maxLen) (hmd : m ≤ d) (hd : d ≤ maxLen) :
    Calls Try.prog 9 #[.slice bo m d, .slice ao n c] w fun e w' => e = .returned (.bool true) ∧ Below w.heap.size w w' := by
  have Hn := hidP hn
  have Hm := hidP hm
  unfold maxLen at hc hd
  clear hn hm
  have Hz := hidP (u8_wf hz)
  clear hz
  go_enter Try.func9, Try.ntmps9
  by_cases h1 : 700 < n
  · go_wp2_with (go_at_call 15; refine (awake27_any _).mono ?_; rintro e w1 ⟨rfl, hb⟩)
    go_ret
    exact ⟨rfl, hb⟩
  · by_cases h2 : 300 < m
    · go_wp2_with (go_at_call 15; refine (awake27_any _).mono ?_; rintro e w1 ⟨rfl, hb⟩)
      go_ret
      exact ⟨rfl, hb⟩
    · obtain ⟨M, hM⟩ : ∃ M, es.map normE = M := ⟨_, rfl⟩
      obtain ⟨X, hX⟩ : ∃ X, entries zs = X := ⟨_, rfl⟩
      obtain ⟨lx, hlx⟩ : ∃ l, X.length = l := ⟨_, rfl⟩
      have hl4 : lx ≤ 400 := by rw [← hlx, ← hX, length_entries]; unfold entCount; omega
      have hlm : M.length = m := by rw [← hM, List.length_map, Hm.out]
      have hgM : ∀ e ∈ M, Good e := by
        intro e he
        rw [← hM, List.mem_map] at he
        obtain ⟨x, _, rfl⟩ := he
        exact normE_good x
      have hgX : ∀ e ∈ X, Good e := by rw [← hX]; exact entries_good zs
      have hbM : bytesOf M = (bs pq1 M, 0) := bytesOf_good (by omega) hgM
      have hbX : bytesOf X = (bs pq1 X, 0) := bytesOf_good (by omega) hgX
      have heM : entries (bs pq1 M) = M := good_back (by omega) hgM
      have heX : entries (bs pq1 X) = X := good_back (by omega) hgX
      have hsM : (bs pq1 M).length = 2 * m := by rw [length_bs, hlm]
      have hsX : (bs pq1 X).length = 2 * lx := by rw [length_bs, hlx]
      have hcnt : (lx : Int) = min 400 (((n : Int) + 1) / 2) := by rw [← hlx, ← hX, length_entries]; unfold entCount; rw [Hn.out]; omega
      have HM := hidP hM
      have HX := hidP hX
      have HLX := hidP hlx
      have HLM := hidP hlm
      have HBM := hidP hbM
      have HBX := hidP hbX
      have HEM := hidP heM
      have HEX := hidP heX
      have HSM := hidP hsM
      have HSX := hidP hsX
      have HCNT := hidP hcnt
      clear hM hX hlx hlm hgM hgX hbM hbX heM heX hsM hsX hcnt
      go_wp2_with fail
      refine (pscript_any _ m d es _ hrb Hm.out (by omega)).mono ?_
      rintro e w1 ⟨a1, c1, rfl, ho1, hb1⟩
      rw [HM.out] at ho1
      have r1 := owns_row ho1
      have hra := hra.below hb1
      clear ho1
      go_wp2_with fail
      refine (bytes_at _ m c1 M _ _ r1 HLM.out (by omega) HBM.out).mono ?_
      rintro e w2 ⟨a2, c2, rfl, ho2, hb2⟩
      dsimp only at ho2 ⊢
      rw [HSM.out] at ho2 ⊢
      have hra := hra.below hb2
      have hB2 := bstep hb1 hb2
      have r1 := r1.below hb2
      have r2 := owns_row ho2
      clear ho2 hb1 hb2
      go_wp2_with fail
      refine (entries_at _ _ n c zs lx X hra Hn.out Hz.out (by omega) HLX.out HX.out).mono ?_
      rintro e w3 ⟨a3, c3, rfl, ho3, hb3⟩
      have hB3 := bstep hB2 hb3
      have r1 := r1.below hb3
      have r2 := r2.below hb3
      have r3 := owns_row ho3
      clear ho3 hB2 hb3 hra
      go_wp2_with fail
      refine (bytes_at _ lx c3 X _ _ r3 HLX.out (by omega) HBX.out).mono ?_
      rintro e w4 ⟨a4, c4, rfl, ho4, hb4⟩
      dsimp only at ho4 ⊢
      rw [HSX.out] at ho4 ⊢
      have hB4 := bstep hB3 hb4
      have r1 := r1.below hb4
      have r2 := r2.below hb4
      have r3 := r3.below hb4
      have r4 := owns_row ho4
      clear ho4 hB3 hb4
      go_wp2_with fail
      refine (awake27_any _).mono ?_
      rintro e w5 ⟨rfl, hb5⟩
      have hB5 := bstep hB4 hb5
      have r1 := r1.below hb5
      have r2 := r2.below hb5
      have r3 := r3.below hb5
      have r4 := r4.below hb5
      clear hB4 hb5
      go_wp2_with fail
      refine (entries_at _ _ (2 * m) c2 (bs pq1 M) m M r2 HSM.out (bs_bounds _ pq1_bounds _) (by omega) HLM.out HEM.out).mono ?_
      rintro e w6 ⟨a6, c6, rfl, ho6, hb6⟩
      have hB6 := bstep hB5 hb6
      have r1 := r1.below hb6
      have r3 := r3.below hb6
      have r4 := r4.below hb6
      have r6 := owns_row ho6
      clear hB5 hb6 ho6 r2
      go_wp2_with fail
      refine (plainEnt_yes _ _ m m _ _ M M _ r6 r1 HLM.out HLM.out (by omega) rfl).mono ?_
      rintro e w7 ⟨rfl, hb7⟩
      have hB7 := bstep hB6 hb7
      have r3 := r3.below hb7
      have r4 := r4.below hb7
      clear hB6 hb7 r1 r6
      go_wp2_with fail
      refine (entries_at _ _ (2 * lx) c4 (bs pq1 X) lx X r4 HSX.out (bs_bounds _ pq1_bounds _) (by omega) HLX.out HEX.out).mono ?_
      rintro e w8 ⟨a8, c8, rfl, ho8, hb8⟩
      have hB8 := bstep hB7 hb8
      have r3 := r3.below hb8
      have r8 := owns_row ho8
      clear hB7 hb8 ho8 r4
      go_wp2_with fail
      refine (plainEnt_yes _ _ lx lx _ _ X X _ r8 r3 HLX.out HLX.out (by omega) rfl).mono ?_
      rintro e w9 ⟨rfl, hb9⟩
      have hB9 := bstep hB8 hb9
      clear hB8 hb9 r3 r8
      go_wp2
      go_ret
      have e : ((lx : Int) == ((n : Int) + 1) / 2) = true := by have := HCNT.out; simp; omega
      exact ⟨congrArg (fun x => Ending.returned (.bool x)) e, hB9⟩

theorem scriptBackW (w : World) (bo : Option Addr) (m d : Nat) (es : List Ent) (hrb : RowAt w bo (entsCells es)) (hm : es.length = m) (hb : m ≤ d ∧ d ≤ maxLen)
    (ao : Option Addr) (n c : Nat) (zs : List Int) (hra : RowAt w ao (zs.map (Value.int .u8))) (hn : zs.length = n) (hz : (∀ z ∈ zs, (Lit.int .u8 z).wf = true) ∧ n ≤ c ∧ c ≤ maxLen) :
    Calls Try.prog 9 #[.slice bo m d, .slice ao n c] w fun e w' => e = .returned (.bool true) ∧ Below w.heap.size w w' :=
  scriptBack_any ao bo n m c d zs es w hra hrb hn hm hz.1 hz.2.1 hz.2.2 hb.1 hb.2
end Go.Proofs.Ytjjfemhpdhkolaa
