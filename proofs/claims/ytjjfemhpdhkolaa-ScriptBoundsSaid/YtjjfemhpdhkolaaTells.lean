/-
  The walk of the law ScriptTells.
-/
import Derived.Test.YtjjfemhpdhkolaaSRefB
import Derived.Test.YtjjfemhpdhkolaaOwnU8
import Derived.Test.YtjjfemhpdhkolaaOpenS
namespace Go.Proofs.Ytjjfemhpdhkolaa
open Go.RowKit
set_option linter.unusedVariables false

theorem tab_ents (F : Nat → Nat → Int) (n : Nat) : tabCells F n 3 = entsCells ((List.range n).map fun i => ⟨F i 0, F i 1, F i 2⟩) := by
  induction n with
  | zero => rfl
  | succ n ih =>
    have e : tabCells F (n + 1) 3 = tabCells F n 3 ++ (List.range 3).map fun j => Value.int .i64 (F n j) := by simp [tabCells, List.range_succ]
    have e2 : List.range (n + 1) = List.range n ++ [n] := List.range_succ
    rw [e, ih, e2, List.map_append, entsCells_append]
    rfl

theorem opened_t26 {H : Type} {enc : TypeId × Value → H} {w : World} {base : Nat} {spare : Nat → Bool} {held : Bool} {a : Option Addr} {n cap : Nat} {d : DataW H} {p : List MemPlace}
    (h : DataW.Trod enc Try.prog w base spare held 22 (.slice a n cap) d p) :
    ∃ es : List Ent, RowAt w a (entsCells es) ∧ es.length = n ∧ n ≤ cap ∧ cap ≤ maxLen := by
  obtain ⟨F, h1, _, h3, h4⟩ := opened_recs Try.underlying22 Try.underlying26 (by kernel_rfl) (by kernel_rfl) (by decide) (by
    intro j f hj
    match j with
    | 0 => simp at hj; subst hj; exact Try.underlying3
    | 1 => simp at hj; subst hj; exact Try.underlying3
    | 2 => simp at hj; subst hj; exact Try.underlying3
    | j + 3 => simp at hj) h
  refine ⟨(List.range n).map fun i => ⟨F i 0, F i 1, F i 2⟩, ?_, by simp, h3, h4⟩
  rw [← tab_ents]
  exact h1

theorem bytes_at (ao : Option Addr) (n c : Nat) (es : List Ent) (r : List Int × Int) (w : World) (hr : RowAt w ao (entsCells es)) (hn : es.length = n) (hmax : n ≤ 140737488355328) (he : bytesOf es = r) :
    Calls Try.prog 30 #[.slice ao n c] w (RetBytes w r) := he ▸ bytes_any ao n c es w hr hn hmax
theorem refBytes_at (ao : Option Addr) (n c : Nat) (es : List Ent) (r : List Int × Int) (w : World) (hr : RowAt w ao (entsCells es)) (hn : es.length = n) (hmax : n ≤ 1000000) (he : refBytesOf es = r) :
    Calls Try.prog 31 #[.slice ao n c] w (RetBytes w r) := he ▸ refBytes_any ao n c es w hr hn hmax

set_option maxRecDepth 100000 in
set_option maxHeartbeats 1600000 in
theorem scriptTells_any (ao bo : Option Addr) (n m c d : Nat) (zs : List Int) (es : List Ent) (w : World) (hra : RowAt w ao (zs.map (Value.int .u8))) (hrb : RowAt w bo (entsCells es)) (hn : zs.length = n) (hm : es.length = m)
    (hz : ∀ z ∈ zs, (Lit.int .u8 z).wf = true) (hnc : n ≤ c) (hc : c ≤ maxLen) (hmd : m ≤ d) (hd : d ≤ maxLen) :
    Calls Try.prog 8 #[.slice ao n c, .slice bo m d] w fun e w' => e = .returned (.bool true) ∧ Below w.heap.size w w' := by
  have Hn := hidP hn
  have Hm := hidP hm
  unfold maxLen at hc hd
  clear hn hm
  have Hz := hidP (u8_wf hz)
  clear hz
  go_enter Try.func8, Try.ntmps8
  by_cases h1 : 1000 < n
  · go_wp2_with (go_at_call 15; refine (awake27_any _).mono ?_; rintro e w1 ⟨rfl, hb⟩)
    go_ret
    exact ⟨rfl, hb⟩
  · by_cases h2 : 500 < m
    · go_wp2_with (go_at_call 15; refine (awake27_any _).mono ?_; rintro e w1 ⟨rfl, hb⟩)
      go_ret
      exact ⟨rfl, hb⟩
    · obtain ⟨r, hr⟩ : ∃ r, bytesOf es = r := ⟨_, rfl⟩
      have hrr : refBytesOf es = r := (bytes_ref es).trans hr
      obtain ⟨X, hX⟩ : ∃ X, entries zs = X := ⟨_, rfl⟩
      obtain ⟨lx, hlx⟩ : ∃ l, X.length = l := ⟨_, rfl⟩
      obtain ⟨rl, hrl⟩ : ∃ l, r.1.length = l := ⟨_, rfl⟩
      have hl4 : lx ≤ 400 := by rw [← hlx, ← hX, length_entries]; unfold entCount; omega
      have hrl4 : rl ≤ 1000 := by
        rw [← hrl, ← hr]
        unfold bytesOf
        split
        · rename_i h
          rw [length_bs]; omega
        · simp
      have HR := hidP hr
      have HRR := hidP hrr
      have HX := hidP hX
      have HLX := hidP hlx
      have HRL := hidP hrl
      clear hr hrr hX hlx hrl
      go_wp2_with fail
      refine (ownU8_any ao n c zs 71 _ hra Hn.out (by omega)).mono ?_
      rintro e w1 ⟨rfl, hs1, hl1, hb1⟩
      have hi1 : RowAt w1 (some ⟨w.heap.size, 0, none⟩) (zs.map (Value.int .u8)) := by rw [List.map_append] at hs1; exact hs1.row
      have hra := hra.below hb1
      have hrb := hrb.below hb1
      go_wp2_with fail
      refine (bytes_at _ m d es r _ hrb Hm.out (by omega) HR.out).mono ?_
      rintro e w2 ⟨a2, c2, rfl, ho2, hb2⟩
      rw [HRL.out] at ho2 ⊢
      have hs2 := hs1.below hb2
      have hi2 := hi1.below hb2
      have hra := hra.below hb2
      have hrb := hrb.below hb2
      have hB2 := bstep hb1 hb2
      have r2 := owns_row ho2
      clear hs1 hi1 hb1 hb2 ho2 hl1
      go_wp2_with fail
      refine (refBytes_at _ m d es r _ hrb Hm.out (by omega) HRR.out).mono ?_
      rintro e w3 ⟨a3, c3, rfl, ho3, hb3⟩
      rw [HRL.out] at ho3 ⊢
      have hs3 := hs2.below hb3
      have hi3 := hi2.below hb3
      have hra := hra.below hb3
      have hB3 := bstep hB2 hb3
      have r2 := r2.below hb3
      have r3 := owns_row ho3
      clear hs2 hi2 hB2 hb3 ho3 hrb
      go_wp2_with fail
      refine (awake27_any _).mono ?_
      rintro e w4 ⟨rfl, hb4⟩
      have hs4 := hs3.below hb4
      have hi4 := hi3.below hb4
      have hra := hra.below hb4
      have hB4 := bstep hB3 hb4
      have r2 := r2.below hb4
      have r3 := r3.below hb4
      clear hs3 hi3 hB3 hb4
      go_wp2_with fail
      refine (entries_at _ _ n (n + 3) zs lx X hi4 Hn.out Hz.out (by omega) HLX.out HX.out).mono ?_
      rintro e w5 ⟨a5, c5, rfl, ho5, hb5⟩
      have hs5 := hs4.below hb5
      have hra := hra.below hb5
      have hB5 := bstep hB4 hb5
      have r2 := r2.below hb5
      have r3 := r3.below hb5
      have r5 := owns_row ho5
      clear hs4 hi4 hB4 hb5 ho5
      go_wp2_with fail
      refine (refEntries_at _ _ n c zs lx X hra Hn.out Hz.out (by omega) HLX.out HX.out).mono ?_
      rintro e w6 ⟨a6, c6, rfl, ho6, hb6⟩
      have hs6 := hs5.below hb6
      have hra := hra.below hb6
      have hB6 := bstep hB5 hb6
      have r2 := r2.below hb6
      have r3 := r3.below hb6
      have r5 := r5.below hb6
      have r6 := owns_row ho6
      clear hs5 hB5 hb6 ho6
      go_wp2_with fail
      refine (plainEnt_yes _ _ lx lx _ _ X X _ r5 r6 HLX.out HLX.out (by omega) rfl).mono ?_
      rintro e w7 ⟨rfl, hb7⟩
      have hs7 := hs6.below hb7
      have hra := hra.below hb7
      have hB7 := bstep hB6 hb7
      have r2 := r2.below hb7
      have r3 := r3.below hb7
      clear hs6 hB6 hb7 r5 r6
      go_wp2_with fail
      refine (plainU8_yes _ _ rl rl _ _ r.1 r.1 _ r2 r3 HRL.out HRL.out (by omega) rfl).mono ?_
      rintro e w8 ⟨rfl, hb8⟩
      have hs8 := hs7.below hb8
      have hra := hra.below hb8
      have hB8 := bstep hB7 hb8
      clear hs7 hB7 hb8 r2 r3
      go_wp2_with fail
      refine (keptU8_any _ _ n c zs 71 _ hs8 hra Hn.out (by omega)).mono ?_
      rintro e w9 ⟨rfl, hb9⟩
      go_wp2
      go_ret
      exact ⟨rfl, bstep hB8 hb9⟩

theorem scriptTellsW (w : World) (ao : Option Addr) (n c : Nat) (zs : List Int) (hra : RowAt w ao (zs.map (Value.int .u8))) (hn : zs.length = n) (hz : (∀ z ∈ zs, (Lit.int .u8 z).wf = true) ∧ n ≤ c ∧ c ≤ maxLen)
    (bo : Option Addr) (m d : Nat) (es : List Ent) (hrb : RowAt w bo (entsCells es)) (hm : es.length = m) (hb : m ≤ d ∧ d ≤ maxLen) :
    Calls Try.prog 8 #[.slice ao n c, .slice bo m d] w fun e w' => e = .returned (.bool true) ∧ Below w.heap.size w w' :=
  scriptTells_any ao bo n m c d zs es w hra hrb hn hm hz.1 hz.2.1 hz.2.2 hb.1 hb.2
end Go.Proofs.Ytjjfemhpdhkolaa
