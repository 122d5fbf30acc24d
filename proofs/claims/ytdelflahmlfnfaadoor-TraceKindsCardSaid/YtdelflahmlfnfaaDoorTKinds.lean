/-
  The walk of the law TraceKinds.
-/
import Derived.Test.YtdelflahmlfnfaaDoorTAwake
import Derived.IntWalk
namespace Go.Proofs.YtdelflahmlfnfaaDoor
open Go.RowKit
set_option linter.unusedVariables false

theorem modE (n : Int) (k : Nat) (hk : 0 < k) (hk1 : k < 4294967296) : ∃ r : Nat, (IntKind.u64.wrap n).tmod (k : Int) = (r : Int) ∧ r < k ∧ wrap64 (r : Int) = (r : Int) := by
  have h : 0 ≤ IntKind.u64.wrap n := by rw [IntKind.wrap_u64]; omega
  obtain ⟨m, hm⟩ := Int.eq_ofNat_of_zero_le h
  have hlt := Nat.mod_lt m hk
  refine ⟨m % k, ?_, hlt, IntWalk.wrap64_in _ (by omega)⟩
  rw [hm, Int.tmod_eq_emod_of_nonneg (by omega)]
  simp

/-- Two rows of events of the call's own. -/
def R2 (B : Nat) (w : World) (lo : Option Addr) (k lc : Nat) (es : List Ev) (wo : Option Addr) (m wc : Nat) (fs : List Ev) : Prop :=
  w.ownsRow B 28 4 (.slice lo k lc) k (evsCells es) ∧ w.ownsRow B 28 4 (.slice wo m wc) m (evsCells fs) ∧ ∀ b, (Value.slice lo k lc).ownBlock = some b → (Value.slice wo m wc).ownBlock ≠ some b

section
variable {B : Nat} {w w' : World} {lo : Option Addr} {k lc : Nat} {es : List Ev} {wo : Option Addr} {m wc : Nat} {fs : List Ev}
theorem R2.below (h : R2 B w lo k lc es wo m wc fs) (hb : Below w.heap.size w w') : R2 B w' lo k lc es wo m wc fs := ⟨owns_below h.1 hb, owns_below h.2.1 hb, h.2.2⟩
theorem R2.symm (h : R2 B w lo k lc es wo m wc fs) : R2 B w wo m wc fs lo k lc es := ⟨h.2.1, h.1, fun b h1 h2 => h.2.2 b h2 h1⟩
theorem R2.put {a5 : Option Addr} {k5 c5 : Nat} {es5 : List Ev} (h : R2 B w lo k lc es wo m wc fs) (ho : w'.ownsRow B 28 4 (.slice a5 k5 c5) k5 (evsCells es5)) (hg : w.grownBy w' (Value.slice lo k lc).ownBlock)
    (hw : (Value.slice a5 k5 c5).ownBlock = (Value.slice lo k lc).ownBlock ∨ (Value.slice a5 k5 c5).ownBlock = some w.heap.size) : R2 B w' a5 k5 c5 es5 wo m wc fs := by
  have hk : Keep (fun b => (Value.slice lo k lc).ownBlock = some b) w w' := .of_grown hg (fun _ h => h)
  refine ⟨ho, owns_keep h.2.1 hk (fun b h1 h2 => h.2.2 b h2 h1), fun b h1 h2 => ?_⟩
  rcases hw with e | e
  · exact h.2.2 b (e ▸ h1) h2
  · rw [e] at h1
    cases h1
    have := (h.2.1.lt _ h2).2
    omega
end

theorem keep_cell {S : Nat → Prop} {w w' : World} {b o : Nat} (h : Keep S w w') (hb : b < w.heap.size) (hs : ¬ S b) : w'.cell? ⟨b, o, none⟩ = w.cell? ⟨b, o, none⟩ :=
  World.cell?_of_block (w := w) (h.block b hb hs)
theorem evOne (x : Ev) : ∀ u ∈ evCells x, u.oneCell' = true := by
  intro u hu
  simp [evCells] at hu
  rcases hu with rfl | rfl | rfl | rfl <;> rfl

set_option maxRecDepth 100000 in
set_option maxHeartbeats 3200000 in
theorem traceKindsW (w : World) (ao : Option Addr) (n c : Nat) (zs : List Int) (hr : RowAt w ao (zs.map (Value.int .i64))) (hn : zs.length = n) (hb : (∀ z ∈ zs, (Lit.int .i64 z).wf = true) ∧ n ≤ c ∧ c ≤ maxLen) (g : Int) (hg : -9223372036854775808 ≤ g ∧ g ≤ 9223372036854775807) (htab : Pow w) :
    Calls Tryd.prog 4 #[.slice ao n c, .int .i64 g] w fun e w' => e = .returned (.bool true) ∧ Below w.heap.size w w' := by
  have hnx : n ≤ 9223372036854775807 := by have h1 := hb.2.1; have h2 := hb.2.2; unfold maxLen at h2; omega
  have Hn := hidP hn
  have HP := hidP htab
  clear hb hn htab
  go_enter Tryd.func4, Tryd.ntmps4
  go_wp2_with fail
  go_loopw [5, 6, 7, 8] (fun v5 v6 v7 v wr => ∃ (k m q : Nat) (es : List Ev) (lo : Option Addr) (lc : Nat) (wo : Option Addr) (wc : Nat), v5 = .slice lo k lc ∧ v6 = .slice wo m wc ∧ v7 = .int .i64 q ∧ v = .int .i64 k ∧ k ≤ n ∧ k ≤ 50 ∧ m ≤ k ∧ q ≤ k ∧
      Hid (es.length = k ∧ (vis es).length = m ∧ (recl es).length = q) ∧ R2 w.heap.size wr lo k lc es wo m wc (vis es) ∧ Below w.heap.size w wr) (fun _ _ _ v _ => n - (intOf v).toNat)
  case atStart => exact ⟨0, 0, 0, [], none, 0, none, 0, rfl, rfl, rfl, rfl, by omega, by omega, by omega, by omega, ⟨rfl, rfl, rfl⟩, ⟨World.ownsRow_nil _ _ _ _, World.ownsRow_nil _ _ _ _, by simp [Value.ownBlock]⟩, brefl _⟩
  case round =>
    obtain ⟨k, m, q, es, lo, lc, wo, wc, rfl, rfl, rfl, rfl, hkn, hk50, hmk, hqk, HE, h2, hb⟩ := hrel
    have hsr := hb.size
    by_cases hlt : k < n ∧ k < 50
    · obtain ⟨hlt, hlt1⟩ := hlt
      obtain ⟨b, o, rfl, hca⟩ := (hr.below hb).addr (by rw [List.length_map, Hn.out]; omega)
      obtain ⟨z, hz⟩ : ∃ z, zs[k]? = some z := ⟨_, List.getElem?_eq_getElem (by rw [Hn.out]; omega)⟩
      have cz : wr.cell? ⟨b, o + k, none⟩ = some (.int .i64 z) := hca k _ (by rw [List.getElem?_map, hz]; rfl)
      obtain ⟨r, hr1, hr5, hr3⟩ := modE z 5 (by omega) (by omega)
      have hr1' : (IntKind.u64.wrap z).tmod 5 = (r : Int) := hr1
      clear hz hca hr1
      obtain ⟨hE1, hE2, hE3⟩ := HE.out
      have HE1 := hidP hE1
      have HE2 := hidP hE2
      have HE3 := hidP hE3
      have hbA := bnew (brefl wr) (.cells #[.int .i64 (1 + (r : Int)), .int .i64 g, .int .i64 (k : Int), .bool false] 28)
      have h3 := h2.below hbA
      have hnl : ¬ (Value.slice lo k lc).ownBlock = some wr.heap.size := fun e => by have := (h2.1.lt _ e).2; omega
      have HNL := hidP hnl
      clear hE1 hE2 hE3 HE h2 hnl
      obtain ⟨A, hA⟩ : ∃ A, A = wr.alloc (.cells #[.int .i64 (1 + (r : Int)), .int .i64 g, .int .i64 (k : Int), .bool false] 28) := ⟨_, rfl⟩
      have hAs : A.heap.size = wr.heap.size + 1 := by rw [hA]; simp
      have a0 : A.cell? ⟨wr.heap.size, 0, none⟩ = some (.int .i64 (1 + (r : Int))) := by rw [hA]; go_simp
      have a1 : A.cell? ⟨wr.heap.size, 1, none⟩ = some (.int .i64 g) := by rw [hA]; go_simp
      have a2 : A.cell? ⟨wr.heap.size, 2, none⟩ = some (.int .i64 (k : Int)) := by rw [hA]; go_simp
      have a3 : A.cell? ⟨wr.heap.size, 3, none⟩ = some (.bool false) := by rw [hA]; go_simp
      rw [← hA] at h3 hbA
      have hAl : wr.heap.size < A.heap.size := by omega
      have HX : Hid (wr.heap.size + 1 = A.heap.size) := hAs.symm
      clear hAs
      obtain ⟨x, hx⟩ : ∃ x : Ev, x = ⟨1 + (r : Int), g, (k : Int), false⟩ := ⟨_, rfl⟩
      go_upto_region 7 with fail
      rw [← hA]
      clear hA
      go_upto_region 8 with (at_builtin; go_loud (refine (wpList_app _ rfl (.tmp 31) (.tmp 33) rfl Tryd.slEv w.heap.size (.slice lo k lc) k (evsCells es) rfl ((h3.1).alloc _) _ 1 1 (evCells ⟨1 + (r : Int), g, (k : Int), false⟩) rfl (k + 1) rfl (RowAt.new _ (evCells ⟨1 + (r : Int), g, (k : Int), false⟩) _) rfl (evOne _) (by omega) (by unfold maxLen; omega) (by have := h3.1; simp; omega) ?_)); intro a5 c5 w5 ho5 hg5 hw5)
      rw [← hx] at ho5
      have hk5 : Keep (fun j => (Value.slice lo k lc).ownBlock = some j) A w5 := (Keep.refl _ _ |>.alloc _).then (.of_grown hg5 (fun _ h => h)) (fun i _ h => h)
      have y0 := (keep_cell hk5 (by omega) HNL.out).trans a0
      have y1 := (keep_cell hk5 (by omega) HNL.out).trans a1
      have y2 := (keep_cell hk5 (by omega) HNL.out).trans a2
      have y3 := (keep_cell hk5 (by omega) HNL.out).trans a3
      have e5 : evsCells es ++ evCells x = evsCells (es ++ [x]) := by rw [evsCells_append, evsCells_one]
      rw [e5] at ho5
      have h5 := (h3.below (bnew (brefl A) _)).put ho5 hg5 hw5
      have hB5 : Below w.heap.size w w5 := (bstep hb hbA).trans (hk5.below (by omega) (fun j hj => (h3.1.lt j hj).1))
      have hs5 := hB5.size
      clear ho5 hg5 hw5 hk5 h3 a0 a1 a2 a3
      have hxk : x.kind = 1 + (r : Int) := by rw [hx]
      by_cases hr2 : r = 2
      · have t3 : ((1 + (r : Int)) == 3) = true := by simp; omega
        have hv : vis [x] = [] := by simp [vis, isHid, hxk, t3]
        have hq : recl [x] = [x.gor] := by simp [recl, hxk, t3]
        have HV := hidP hv
        have HQ := hidP hq
        clear hr2 hv hq hxk
        go_wp2
        refine ⟨⟨k + 1, m, q + 1, es ++ [x], a5, c5, wo, wc, rfl, rfl, by go_num, by go_num, by omega, by omega, by omega, by omega, ⟨?_, ?_, ?_⟩, ?_, hB5⟩, by simp [intOf]; omega⟩
        · rw [List.length_append, HE1.out]; rfl
        · rw [vis_append, HV.out, List.append_nil, HE2.out]
        · rw [recl_append, HQ.out, List.length_append, HE3.out]; rfl
        · rw [vis_append, HV.out, List.append_nil]; exact h5
      · have t3 : ((1 + (r : Int)) == 3) = false := by simp; omega
        by_cases hr3 : r = 3
        · have t4 : ((1 + (r : Int)) != 4) = false := by simp; omega
          have t4' : ((1 + (r : Int)) == 4) = true := by simp; omega
          have hv : vis [x] = [] := by simp [vis, isHid, hxk, t4']
          have hq : recl [x] = [] := by simp [recl, hxk, t3]
          have HV := hidP hv
          have HQ := hidP hq
          clear hr2 hr3 hv hq hxk
          go_wp2
          refine ⟨⟨k + 1, m, q, es ++ [x], a5, c5, wo, wc, rfl, rfl, rfl, by go_num, by omega, by omega, by omega, by omega, ⟨?_, ?_, ?_⟩, ?_, hB5⟩, by simp [intOf]; omega⟩
          · rw [List.length_append, HE1.out]; rfl
          · rw [vis_append, HV.out, List.append_nil, HE2.out]
          · rw [recl_append, HQ.out, List.append_nil, HE3.out]
          · rw [vis_append, HV.out, List.append_nil]; exact h5
        · have t4 : ((1 + (r : Int)) != 4) = true := by simp; omega
          have t4' : ((1 + (r : Int)) == 4) = false := by simp; omega
          have hv : vis [x] = [x] := by simp [vis, isHid, hxk, t3, t4']
          have hq : recl [x] = [] := by simp [recl, hxk, t3]
          have HV := hidP hv
          have HQ := hidP hq
          clear hr2 hr3 hv hq hxk
          go_wp2_with (at_builtin; go_loud (refine (wpList_app _ rfl (.tmp 43) (.tmp 45) rfl Tryd.slEv w.heap.size (.slice wo m wc) m (evsCells (vis es)) rfl ((h5.2.1).alloc _) _ 1 1 (evCells ⟨1 + (r : Int), g, (k : Int), false⟩) rfl (m + 1) rfl (RowAt.new _ (evCells ⟨1 + (r : Int), g, (k : Int), false⟩) _) rfl (evOne _) (by omega) (by unfold maxLen; omega) (by simp; omega) ?_)); intro a6 c6 w6 ho6 hg6 hw6)
          rw [← hx, ← evsCells_one, ← evsCells_append] at ho6
          have h6 := ((h5.symm.below (bnew (brefl w5) _)).put ho6 hg6 hw6).symm
          have hB6 : Below w.heap.size w w6 := (bnew hB5 _).grown hg6 (by simp; omega) (fun j hj => (h5.2.1.lt j hj).1)
          refine ⟨⟨k + 1, m + 1, q, es ++ [x], a5, c5, a6, c6, rfl, rfl, rfl, by go_num, by omega, by omega, by omega, by omega, ⟨?_, ?_, ?_⟩, ?_, hB6⟩, by simp [intOf]; omega⟩
          · rw [List.length_append, HE1.out]; rfl
          · rw [vis_append, HV.out, List.length_append, HE2.out]; rfl
          · rw [recl_append, HQ.out, List.append_nil, HE3.out]
          · rw [vis_append, HV.out]; exact h6
    · have hd : (k : Int) < n → ¬ (k : Int) < 50 := by omega
      obtain ⟨hE1, hE2, hE3⟩ := HE.out
      have HE1 := hidP hE1
      have HE2 := hidP hE2
      have HE3 := hidP hE3
      clear hE1 hE2 hE3 HE
      have HPr := hidP (pow_below HP.out hb)
      go_wp2_with (go_at_call 9; refine (awake26_any _ HPr.out).mono ?_; rintro e w2 ⟨rfl, hb2⟩)
      all_goals
        have h4 := h2.below hb2
        have hB2 := bstep hb hb2
        refine (visible_any lo k lc es w2 (owns_row h4.1) HE1.out (by omega)).mono ?_
        rintro e w3 ⟨a3, c3, rfl, ho3, hb3⟩
        rw [HE2.out] at ho3 ⊢
        have h5 := h4.below hb3
        have hB3 := bstep hB2 hb3
        go_wp2_with fail
        refine (plainEv_yes a3 wo m m c3 wc (vis es) (vis es) w3 (owns_row ho3) (owns_row h5.2.1) HE2.out HE2.out (by omega) rfl).mono ?_
        rintro e w4 ⟨rfl, hb4⟩
        have h6 := h5.below hb4
        have hB4 := bstep hB3 hb4
        go_wp2_with fail
        refine (recl_any lo k lc es w4 (owns_row h6.1) HE1.out (by omega)).mono ?_
        rintro e w5 ⟨a5, c5, rfl, ho5, hb5⟩
        rw [HE3.out]
        go_wp2
        go_ret
        exact ⟨rfl, bstep hB4 hb5⟩
end Go.Proofs.YtdelflahmlfnfaaDoor
