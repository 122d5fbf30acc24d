/-
  The walk over trace.Reclaimed.
-/
import Derived.Test.YtdelflahmlfnfaaDoorTDel
namespace Go.Proofs.YtdelflahmlfnfaaDoor
open Go.RowKit
set_option linter.unusedVariables false

theorem row_new (w : World) (cs : List Value) (t : TypeId) (B : Nat) (hB : w.heap.size = B) : RowAt (w.alloc (.cells cs.toArray t)) (some ⟨B, 0, none⟩) cs := hB ▸ RowAt.new w cs t

/-- Who was taken away. -/
def recl (l : List Ev) : List Int := (l.filter fun x => x.kind == 3).map (·.gor)
theorem recl_append (a b : List Ev) : recl (a ++ b) = recl a ++ recl b := by simp [recl]
theorem recl_le (l : List Ev) : (recl l).length ≤ l.length := by unfold recl; rw [List.length_map]; exact List.length_filter_le _ _
theorem recl_step {l : List Ev} {j : Nat} {x : Ev} (hx : l[j]? = some x) : recl (l.take (j + 1)) = recl (l.take j) ++ recl [x] := by
  rw [List.take_add_one, hx, recl_append]
  rfl

set_option maxRecDepth 100000 in
set_option maxHeartbeats 1600000 in
theorem recl_any (ao : Option Addr) (n c : Nat) (l : List Ev) (w : World) (hr : RowAt w ao (evsCells l)) (hn : l.length = n) (hmax : n ≤ 1000000) :
    Calls Tryd.prog 13 #[.slice ao n c] w (RetRow w 3 1 (recl l).length ((recl l).map (Value.int .i64))) := by
  have Hn := hidP hn
  clear hn
  have ha1 := assert_hid
  have ha0 := assert_nohid
  go_enter Tryd.func13, Tryd.ntmps13
  go_wp2_with fail
  go_loopw [3, 10] (fun v3 v wr => ∃ (k m : Nat) (vo : Option Addr) (vc : Nat), v3 = .slice vo m vc ∧ v = .int .i64 k ∧ k ≤ n ∧ m ≤ k ∧ Hid ((recl (l.take k)).length = m) ∧ wr.ownsRow w.heap.size 3 1 (.slice vo m vc) m ((recl (l.take k)).map (Value.int .i64)) ∧ Below w.heap.size w wr) (fun _ v _ => n - (intOf v).toNat)
  case atStart => exact ⟨0, 0, none, 0, rfl, rfl, by omega, by omega, rfl, World.ownsRow_nil _ _ _ _, brefl _⟩
  case round =>
    obtain ⟨k, m, vo, vc, rfl, rfl, hk, hmk, HM, hown, hb⟩ := hrel
    have hsr := hb.size
    by_cases hlt : k < n
    · obtain ⟨b, o, rfl, hca⟩ := (hr.below hb).addr (by rw [length_evsCells, Hn.out]; omega)
      obtain ⟨x, hx⟩ : ∃ x, l[k]? = some x := ⟨_, List.getElem?_eq_getElem (by rw [Hn.out]; omega)⟩
      obtain ⟨x0, x1, x2, x3⟩ := evs_at hca k x hx
      have hs := fun w => seen_any x w
      unfold evV at hs
      have hst := recl_step hx
      have HST := hidP hst
      clear hx hca hst
      have hb1 := bnew hb (.cells #[.int .i64 x.kind, .int .i64 x.gor, .int .i64 x.val, .bool x.ref] 28)
      have hown1 := hown.alloc (.cells #[.int .i64 x.kind, .int .i64 x.gor, .int .i64 x.val, .bool x.ref] 28)
      by_cases h3 : x.kind = 3
      · have k3 : (x.kind == 3) = true := by simp [h3]
        have he : seenV x = hidV x := by simp [seenV, isHid, k3]
        have hv : recl [x] = [x.gor] := by simp [recl, k3]
        rw [hv] at HST
        clear h3
        rw [he] at hs
        unfold hidV at hs
        go_wp2_with fail
        refine (hs _).mono ?_
        rintro e w2 ⟨rfl, hb2⟩
        have z0 := (hb2.cell (p := ⟨wr.heap.size, 0, none⟩) (by simp)).trans (show _ = some (.int .i64 x.kind) by go_simp)
        have hsz : wr.heap.size < w2.heap.size := by have := hb2.size; simp at this; omega
        have z0' := ((bnew (brefl w2) (.cells #[.int .i64 x.gor] 52)).cell (p := ⟨wr.heap.size, 0, none⟩) hsz).trans z0
        have hB2 := bstep hb1 hb2
        have hown2 := owns_below hown1 hb2
        go_wp2_with (at_builtin; go_loud (refine (wpList_app _ rfl (.tmp 26) (.tmp 29) rfl Tryd.slInt w.heap.size (.slice vo m vc) m ((recl (l.take k)).map (Value.int .i64)) rfl ((hown2.alloc _).alloc _) _ 1 1 [.int .i64 x.gor] rfl (m + 1) rfl (row_new _ [.int .i64 x.gor] _ _ (by simp)) rfl (by simp; rfl) (by omega) (by unfold maxLen; omega) (by have := hB2.size; simp; omega) ?_)); intro a3 c3 w3 ho3 hg3 _)
        have hB3 : Below w.heap.size w w3 := (bnew (bnew hB2 _) _).grown hg3 (by have := hB2.size; simp; omega) (fun j hj => (hown.lt j hj).1)
        go_roundw
        case rel => exact ⟨k + 1, m + 1, a3, c3, rfl, by go_num, by omega, by omega, by show _ = _; rw [HST.out, List.length_append, HM.out]; rfl, by rw [HST.out, List.map_append]; exact ho3, hB3⟩
        case measure => simp [intOf]; omega
      · have k3 : (x.kind == 3) = false := by simp [h3]
        have hv : recl [x] = [] := by simp [recl, k3]
        rw [hv, List.append_nil] at HST
        by_cases h4 : x.kind = 4
        · have he : seenV x = hidV x := by simp [seenV, isHid, h4]
          rw [he] at hs
          unfold hidV at hs
          clear h4 h3
          go_wp2_with fail
          refine (hs _).mono ?_
          rintro e w2 ⟨rfl, hb2⟩
          have z0 := (hb2.cell (p := ⟨wr.heap.size, 0, none⟩) (by simp)).trans (show _ = some (.int .i64 x.kind) by go_simp)
          have hsz : wr.heap.size < w2.heap.size := by have := hb2.size; simp at this; omega
          have z0' := ((bnew (brefl w2) (.cells #[.int .i64 x.gor] 52)).cell (p := ⟨wr.heap.size, 0, none⟩) hsz).trans z0
          have hB2 := bstep hb1 hb2
          have hown2 := owns_below hown1 hb2
          go_wp2
          go_roundw
          case rel => exact ⟨k + 1, m, vo, vc, rfl, by go_num, by omega, by omega, by show _ = _; rw [HST.out, HM.out], by rw [HST.out]; exact hown2.alloc _, bnew hB2 _⟩
          case measure => simp [intOf]; omega
        · have k4 : (x.kind == 4) = false := by simp [h4]
          have he : seenV x = .nilIface := by simp [seenV, isHid, k3, k4]
          rw [he] at hs
          go_wp2_with fail
          refine (hs _).mono ?_
          rintro e w2 ⟨rfl, hb2⟩
          have hB2 := bstep hb1 hb2
          have hown2 := owns_below hown1 hb2
          go_wp2
          go_roundw
          case rel => exact ⟨k + 1, m, vo, vc, rfl, by go_num, by omega, by omega, by show _ = _; rw [HST.out, HM.out], by rw [HST.out]; exact hown2.alloc _, bnew hB2 _⟩
          case measure => simp [intOf]; omega
    · have hl : l.take k = l := List.take_of_length_le (by rw [Hn.out]; omega)
      have HMo := HM.out
      rw [hl] at hown HMo
      have HL := hidP HMo
      clear hl HMo
      go_wp2
      go_ret
      exact ⟨vo, vc, by rw [HL.out]; rfl, by rw [HL.out]; exact hown, hb⟩
end Go.Proofs.YtdelflahmlfnfaaDoor
