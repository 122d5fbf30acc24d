/-
  The walk over the reference's bytes of entries.
-/
import Derived.Test.YtjjfemhpdhkolaaSRef
namespace Go.Proofs.Ytjjfemhpdhkolaa
open Go.RowKit
set_option linter.unusedVariables false

theorem refEntries_at (w : World) (ao : Option Addr) (n cap : Nat) (zs : List Int) (k : Nat) (es : List Ent) (hr : RowAt w ao (zs.map (Value.int .u8))) (hn : zs.length = n) (hz : ∀ j, 0 ≤ zs.getD j 0 ∧ zs.getD j 0 < 256) (hmax : n ≤ 140737488355328) (hk : es.length = k) (he : entries zs = es) :
    Calls Try.prog 32 #[.slice ao n cap] w (RetRow w 26 3 k (entsCells es)) := by
  have h := refEntries_any w ao n cap zs hr hn hz hmax
  rw [← length_entries, he, hk] at h
  exact h

theorem plainEnt_at (ao bo : Option Addr) (n m c d : Nat) (es fs : List Ent) (b : Bool) (w : World) (hae : RowAt w ao (entsCells es)) (hbf : RowAt w bo (entsCells fs)) (hn : es.length = n) (hm : fs.length = m) (hmax : n ≤ 140737488355328) (hb : decide (es = fs) = b) :
    Calls Try.prog 16 #[.slice ao n c, .slice bo m d] w fun e w' => e = .returned (.bool b) ∧ Below w.heap.size w w' := by
  subst hb
  exact plainEnt_any ao bo n m c d es fs w hae hbf hn hm hmax

theorem row_new (w : World) (cs : List Value) (t : TypeId) (B : Nat) (hB : w.heap.size = B) : RowAt (w.alloc (.cells cs.toArray t)) (some ⟨B, 0, none⟩) cs := hB ▸ RowAt.new w cs t

theorem pq2_2 {k n d : Int} (h : k = 2) : pq2 ⟨k, n, d⟩ = (160, n % 256) := by unfold pq2; rw [if_pos h]
theorem pq2_3 {k n d : Int} (h : k = 3) : pq2 ⟨k, n, d⟩ = (192, n % 256) := by subst h; rfl
theorem pq2_4 {k n d : Int} (h : k = 4) : pq2 ⟨k, n, d⟩ = (240, 0) := by subst h; rfl
theorem pq2_1 {k n d : Int} (h : ¬ k = 2) (h3 : ¬ k = 3) (h4 : ¬ k = 4) : pq2 ⟨k, n, d⟩ = (n % 256, d % 256) := by unfold pq2; rw [if_neg h, if_neg h3, if_neg h4]

set_option maxRecDepth 100000 in
set_option maxHeartbeats 1600000 in
theorem refBytes_any (ao : Option Addr) (n c : Nat) (es : List Ent) (w : World) (hr : RowAt w ao (entsCells es)) (hn : es.length = n) (hmax : n ≤ 1000000) :
    Calls Try.prog 31 #[.slice ao n c] w (RetBytes w (refBytesOf es)) := by
  have Hn := hidP hn
  clear hn
  go_enter Try.func31, Try.ntmps31
  go_wp2_with fail
  go_loopw [4, 5] (fun v i wr => ∃ k : Nat, ∃ vo vc, v = .slice vo (2 * k) vc ∧ i = .int .i64 k ∧ k ≤ n ∧ wr.ownsRow w.heap.size 5 1 (.slice vo (2 * k) vc) (2 * k) ((bs pq2 (es.take k)).map (Value.int .u8)) ∧ Below w.heap.size w wr) (fun _ i _ => n - (intOf i).toNat)
  case atStart => exact ⟨0, none, 0, rfl, rfl, by omega, World.ownsRow_nil _ _ _ _, brefl _⟩
  case round =>
    obtain ⟨k, vo, vc, rfl, rfl, hk, hown, hb⟩ := hrel
    have hsr := hb.size
    by_cases hlt : k < n
    · obtain ⟨b, o, rfl, hca⟩ := (hr.below hb).addr (by rw [length_entsCells, Hn.out]; omega)
      obtain ⟨x, hx⟩ : ∃ x, es[k]? = some x := ⟨_, List.getElem?_eq_getElem (by rw [Hn.out]; omega)⟩
      obtain ⟨x0, x1, x2⟩ := ents_at hca k x hx
      obtain ⟨xk, xn, xd⟩ := x
      dsimp only at x0 x1 x2
      have HS := hidP (bs_take_succ pq2 es k ⟨xk, xn, xd⟩ hx)
      clear hx hca
      have HN : Hid ((bs pq2 es).length = 2 * es.length) := length_bs _ _
      have i0 : (0 : Int) ≤ (k : Int) := by omega
      have i1 : (k : Int) < (n : Int) := by omega
      by_cases h2 : xk = 2
      · have t2 : (xk == 2) = true := by simp [h2]
        go_wp2_with fail
        go_quiet (fail)
        go_wp2_with fail
        go_quiet (fail)
        go_wp2_with (at_builtin; go_loud (refine (wpList_app _ rfl (.tmp 36) (.tmp 41) rfl Try.slU8 w.heap.size (.slice vo (2 * k) vc) (2 * k) ((bs pq2 (es.take k)).map (Value.int .u8)) rfl (owns_below hown (by repeat' first | exact brefl _ | refine bnew ?_ _ | refine below_drewN ?_ _)) (some ⟨wr.heap.size + 1, 0, none⟩) 2 2 [.int .u8 (160), .int .u8 (xn % 256)] rfl (2 * (k + 1)) rfl (row_new _ [.int .u8 (160), .int .u8 (xn % 256)] _ _ (by first | rfl | simp)) (by rfl) (by simp; exact ⟨rfl, rfl⟩) (by omega) (by unfold maxLen; omega) (Nat.le_trans hsr (by first | exact Nat.le_trans (Nat.le_add_right _ 2) (Nat.le_of_eq (by simp)) | simp)) ?_)); intro a2 c2 w2 ho2 hg2 _)
        have ho3 : w2.ownsRow w.heap.size 5 1 (.slice a2 (2 * (k + 1)) c2) (2 * (k + 1)) ((bs pq2 (es.take (k + 1))).map (Value.int .u8)) := by
          rw [HS.out, List.map_append, pq2_2 h2]; exact ho2
        have hB2 : Below w.heap.size w w2 := Below.grown (by repeat' first | exact hb | refine bnew ?_ _ | refine below_drewN ?_ _) hg2 (Nat.le_trans hsr (by first | exact Nat.le_trans (Nat.le_add_right _ 2) (Nat.le_of_eq (by simp)) | simp)) (fun j hj => (hown.lt j hj).1)
        go_roundw
        case rel => exact ⟨k + 1, a2, c2, rfl, by go_num, by omega, ho3, hB2⟩
        case measure => simp [intOf]; omega
      · have t2 : (xk == 2) = false := by simp [h2]
        by_cases h3 : xk = 3
        · have t3 : (xk == 3) = true := by simp [h3]
          go_wp2_with fail
          go_quiet (fail)
          go_wp2_with fail
          go_quiet (fail)
          go_wp2_with (at_builtin; go_loud (refine (wpList_app _ rfl (.tmp 36) (.tmp 41) rfl Try.slU8 w.heap.size (.slice vo (2 * k) vc) (2 * k) ((bs pq2 (es.take k)).map (Value.int .u8)) rfl (owns_below hown (by repeat' first | exact brefl _ | refine bnew ?_ _ | refine below_drewN ?_ _)) (some ⟨wr.heap.size + 1, 0, none⟩) 2 2 [.int .u8 (192), .int .u8 (xn % 256)] rfl (2 * (k + 1)) rfl (row_new _ [.int .u8 (192), .int .u8 (xn % 256)] _ _ (by first | rfl | simp)) (by rfl) (by simp; exact ⟨rfl, rfl⟩) (by omega) (by unfold maxLen; omega) (Nat.le_trans hsr (by first | exact Nat.le_trans (Nat.le_add_right _ 2) (Nat.le_of_eq (by simp)) | simp)) ?_)); intro a2 c2 w2 ho2 hg2 _)
          have ho3 : w2.ownsRow w.heap.size 5 1 (.slice a2 (2 * (k + 1)) c2) (2 * (k + 1)) ((bs pq2 (es.take (k + 1))).map (Value.int .u8)) := by
            rw [HS.out, List.map_append, pq2_3 h3]; exact ho2
          have hB2 : Below w.heap.size w w2 := Below.grown (by repeat' first | exact hb | refine bnew ?_ _ | refine below_drewN ?_ _) hg2 (Nat.le_trans hsr (by first | exact Nat.le_trans (Nat.le_add_right _ 2) (Nat.le_of_eq (by simp)) | simp)) (fun j hj => (hown.lt j hj).1)
          go_roundw
          case rel => exact ⟨k + 1, a2, c2, rfl, by go_num, by omega, ho3, hB2⟩
          case measure => simp [intOf]; omega
        · have t3 : (xk == 3) = false := by simp [h3]
          go_wp2_with fail
          go_quiet (fail)
          by_cases h4 : xk = 4
          · have t4 : (xk == 4) = true := by simp [h4]
            go_wp2_with (at_builtin; go_loud (refine (wpList_app _ rfl (.tmp 36) (.tmp 41) rfl Try.slU8 w.heap.size (.slice vo (2 * k) vc) (2 * k) ((bs pq2 (es.take k)).map (Value.int .u8)) rfl (owns_below hown (by repeat' first | exact brefl _ | refine bnew ?_ _ | refine below_drewN ?_ _)) (some ⟨wr.heap.size + 1, 0, none⟩) 2 2 [.int .u8 (240), .int .u8 (0)] rfl (2 * (k + 1)) rfl (row_new _ [.int .u8 (240), .int .u8 (0)] _ _ (by first | rfl | simp)) (by rfl) (by simp; exact ⟨rfl, rfl⟩) (by omega) (by unfold maxLen; omega) (Nat.le_trans hsr (by first | exact Nat.le_trans (Nat.le_add_right _ 2) (Nat.le_of_eq (by simp)) | simp)) ?_)); intro a2 c2 w2 ho2 hg2 _)
            have ho3 : w2.ownsRow w.heap.size 5 1 (.slice a2 (2 * (k + 1)) c2) (2 * (k + 1)) ((bs pq2 (es.take (k + 1))).map (Value.int .u8)) := by
              rw [HS.out, List.map_append, pq2_4 h4]; exact ho2
            have hB2 : Below w.heap.size w w2 := Below.grown (by repeat' first | exact hb | refine bnew ?_ _ | refine below_drewN ?_ _) hg2 (Nat.le_trans hsr (by first | exact Nat.le_trans (Nat.le_add_right _ 2) (Nat.le_of_eq (by simp)) | simp)) (fun j hj => (hown.lt j hj).1)
            go_roundw
            case rel => exact ⟨k + 1, a2, c2, rfl, by go_num, by omega, ho3, hB2⟩
            case measure => simp [intOf]; omega
          · have t4 : (xk == 4) = false := by simp [h4]
            go_wp2_with (at_builtin; go_loud (refine (wpList_app _ rfl (.tmp 36) (.tmp 41) rfl Try.slU8 w.heap.size (.slice vo (2 * k) vc) (2 * k) ((bs pq2 (es.take k)).map (Value.int .u8)) rfl (owns_below hown (by repeat' first | exact brefl _ | refine bnew ?_ _ | refine below_drewN ?_ _)) (some ⟨wr.heap.size + 1, 0, none⟩) 2 2 [.int .u8 (xn % 256), .int .u8 (xd % 256)] rfl (2 * (k + 1)) rfl (row_new _ [.int .u8 (xn % 256), .int .u8 (xd % 256)] _ _ (by first | rfl | simp)) (by rfl) (by simp; exact ⟨rfl, rfl⟩) (by omega) (by unfold maxLen; omega) (Nat.le_trans hsr (by first | exact Nat.le_trans (Nat.le_add_right _ 2) (Nat.le_of_eq (by simp)) | simp)) ?_)); intro a2 c2 w2 ho2 hg2 _)
            have ho3 : w2.ownsRow w.heap.size 5 1 (.slice a2 (2 * (k + 1)) c2) (2 * (k + 1)) ((bs pq2 (es.take (k + 1))).map (Value.int .u8)) := by
              rw [HS.out, List.map_append, pq2_1 h2 h3 h4]; exact ho2
            have hB2 : Below w.heap.size w w2 := Below.grown (by repeat' first | exact hb | refine bnew ?_ _ | refine below_drewN ?_ _) hg2 (Nat.le_trans hsr (by first | exact Nat.le_trans (Nat.le_add_right _ 2) (Nat.le_of_eq (by simp)) | simp)) (fun j hj => (hown.lt j hj).1)
            go_roundw
            case rel => exact ⟨k + 1, a2, c2, rfl, by go_num, by omega, ho3, hB2⟩
            case measure => simp [intOf]; omega
    · obtain rfl : k = n := by omega
      have htk : es.take k = es := List.take_of_length_le (by rw [Hn.out]; omega)
      rw [htk] at hown
      have rb := owns_row hown
      obtain ⟨b, hb0⟩ : ∃ b, decide (entries (bs pq2 es) = es) = b := ⟨_, rfl⟩
      have hb0' : decide (es = entries (bs pq2 es)) = b := by rw [← hb0, decide_eq_decide]; exact eq_comm
      have HB := hidP hb0
      have HB' := hidP hb0'
      have HL2 : Hid ((bs pq2 es).length = 2 * k) := by show _ = _; rw [length_bs, Hn.out]
      have hcnt : (entries (bs pq2 es)).length ≤ 400 := by rw [length_entries]; unfold entCount; omega
      obtain ⟨m, hm⟩ : ∃ m, (entries (bs pq2 es)).length = m := ⟨_, rfl⟩
      rw [hm] at hcnt
      have HM := hidP hm
      clear hb0 htk hm hb0'
      go_wp2_with (first | (go_at_call 32; refine (refEntries_at _ _ (2 * k) vc (bs pq2 es) m (entries (bs pq2 es)) rb HL2.out (bs_bounds _ pq2_bounds _) (by omega) HM.out rfl).mono ?_; rintro e w1 ⟨a1, c1, rfl, hown1, hb1⟩; have r1 := owns_row hown1; have hB1 := bstep hb hb1; have hr1 := hr.below hB1) | (go_at_call 16; refine (plainEnt_at _ _ k m _ _ es (entries (bs pq2 es)) b _ hr1 r1 Hn.out HM.out (by omega) HB'.out).mono ?_; rintro e w2 ⟨rfl, hb2⟩))
      · have hbv : (!b) = true := by assumption
        have e : refBytesOf es = ([], 1) := by
          unfold refBytesOf
          rw [if_neg]
          have := HB.out
          intro h
          simp [h] at this
          simp [← this] at hbv
        rw [e]
        go_ret2
        exact ⟨none, 0, rfl, World.ownsRow_nil _ _ _ _, bstep hB1 hb2⟩
      · have hbv : (!b) = false := by assumption
        have e : refBytesOf es = (bs pq2 es, 0) := by
          unfold refBytesOf
          rw [if_pos]
          have := HB.out
          have hbt : b = true := by simpa using hbv
          rw [hbt] at this
          simpa using this
        have ho := owns_below hown (bstep hb1 hb2)
        rw [e]
        go_ret2
        refine ⟨vo, vc, ?_, ?_, bstep hB1 hb2⟩
        · rw [HL2.out]; rfl
        · rw [HL2.out]; exact ho
end Go.Proofs.Ytjjfemhpdhkolaa
