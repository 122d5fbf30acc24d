/-
  The walks over the reference's entries and bytes.
-/
import Derived.Test.YtjjfemhpdhkolaaSBytes
namespace Go.Proofs.Ytjjfemhpdhkolaa
open Go.RowKit
set_option linter.unusedVariables false

theorem refEnt1 {p q : Int} (h : p < 160) : entOf p q = ⟨1, p % 16, q % 16⟩ := by unfold entOf; rw [if_pos h]
theorem refEnt2 {p q : Int} (h : ¬ p < 160) (h2 : p < 192) : entOf p q = ⟨2, q % 32, 0⟩ := by unfold entOf; rw [if_neg h, if_pos h2]
theorem refEnt3 {p q : Int} (h : ¬ p < 192) (h2 : p < 240) : entOf p q = ⟨3, q % 64, 0⟩ := by unfold entOf; rw [if_neg (by omega), if_neg h, if_pos h2]
theorem refEnt4 {p q : Int} (h : ¬ p < 240) : entOf p q = ⟨4, 0, 0⟩ := by unfold entOf; rw [if_neg (by omega), if_neg (by omega), if_neg h]

set_option maxRecDepth 100000 in
set_option maxHeartbeats 1600000 in
theorem refEntries_any (w : World) (ao : Option Addr) (n cap : Nat) (zs : List Int) (hr : RowAt w ao (zs.map (Value.int .u8))) (hn : zs.length = n) (hz : ∀ j, 0 ≤ zs.getD j 0 ∧ zs.getD j 0 < 256) (hmax : n ≤ 140737488355328) :
    Calls Try.prog 32 #[.slice ao n cap] w (RetRow w 26 3 (entCount zs) (entsCells (entries zs))) := by
  have Hn := hidP hn
  clear hn
  go_enter Try.func32, Try.ntmps32
  go_wp2_with fail
  go_loopw [3, 4] (fun v i wr => ∃ k m : Nat, i = .int .i64 m ∧ Hid (m = 2 * k) ∧ k ≤ 400 ∧ m ≤ n + 1 ∧ wr.ownsRow w.heap.size 26 3 v k (entsCells (entsTo zs k)) ∧ Below w.heap.size w wr) (fun _ i _ => n + 2 - (intOf i).toNat)
  case atStart => exact ⟨0, 0, rfl, rfl, by omega, by omega, World.ownsRow_nil _ _ _ _, Below.refl _ _⟩
  case round =>
    obtain ⟨k, m, rfl, HM, hk, hm, hown, hb⟩ := hrel
    obtain ⟨vo, vc, rfl, hvr, hvc, hvm, hvn, hvl⟩ := owns_open hown
    clear hvr hvm hvn hvl
    have hsr := hb.size
    by_cases h1 : m < n
    · by_cases h2 : k < 400
      · obtain ⟨b, o, rfl, hca⟩ := (hr.below hb).addr (by rw [List.length_map, Hn.out]; omega)
        obtain ⟨p, hp⟩ : ∃ p, zs[m]? = some p := ⟨_, List.getElem?_eq_getElem (by rw [Hn.out]; omega)⟩
        have cp : wr.cell? ⟨b, o + m, none⟩ = some (.int .u8 p) := hca m _ (by rw [List.getElem?_map, hp]; rfl)
        have bp : 0 ≤ p ∧ p < 256 := by have := hz m; rw [List.getD_eq_getElem?_getD, hp] at this; exact this
        obtain ⟨bp0, bp1⟩ := bp
        have HP := hidP hp
        clear hp
        obtain ⟨q, hq, bq0, bq1, HQ⟩ : ∃ q, (m + 1 < n → wr.cell? ⟨b, o + (m + 1), none⟩ = some (.int .u8 q)) ∧ 0 ≤ q ∧ q < 256 ∧ Hid (q = zs.getD (m + 1) 0 ∧ (¬ m + 1 < n → q = 0)) := by
          refine ⟨zs.getD (m + 1) 0, fun h3 => hca (m + 1) _ ?_, (hz _).1, (hz _).2, rfl, fun h3 => ?_⟩
          · rw [List.getElem?_map, List.getD_eq_getElem?_getD, List.getElem?_eq_getElem (by rw [Hn.out]; omega)]; rfl
          · rw [List.getD_eq_getElem?_getD, List.getElem?_eq_none (by rw [Hn.out]; omega)]; rfl
        clear hca
        have HE : Hid (entOf p q = entAt zs k) := by
          show _ = _
          unfold entAt
          rw [← HM.out, ← HQ.out.1, List.getD_eq_getElem?_getD, HP.out]; rfl
        have hstep : ∀ (w2 : World) (v' : Value) (x : Ent) (os : Obj), entOf p q = x → w2.ownsRow w.heap.size 26 3 v' (k + 1) (entsCells (entsTo zs k) ++ entCells x) → (wr.alloc os).grownBy w2 (Value.ownBlock (.slice vo k vc)) →
            w2.ownsRow w.heap.size 26 3 v' (k + 1) (entsCells (entsTo zs (k + 1))) ∧ Below w.heap.size w w2 := by
          intro w2 v' x os he ho hg
          refine ⟨by rw [entsTo_succ, entsCells_append, entsCells_one, ← HE.out, he]; exact ho, ?_⟩
          exact (hb.alloc hb.size os).grown hg (by simp; omega) (fun j hj => (hown.lt j hj).1)
        have HS := hidP hstep
        clear hstep
        by_cases h3 : m + 1 < n
        · have cq := hq h3
          clear hq
          by_cases g1 : p < 160
          ·
            go_wp2_with (at_builtin; go_loud (refine (wpList_app _ rfl (.tmp 41) (.tmp 47) rfl Try.slEnt w.heap.size (.slice vo k vc) k (entsCells (entsTo zs k)) rfl (hown.alloc _) (some ⟨wr.heap.size, 0, none⟩) 1 1 (entCells (⟨1, p % 16, q % 16⟩ : Ent)) rfl (k + 1) rfl (RowAt.new wr (entCells (⟨1, p % 16, q % 16⟩ : Ent)) _) rfl (by simp [entCells, Value.oneCell']) (by omega) (by unfold maxLen; omega) (by simp; omega) ?_)); intro a2 c2 w2 hown2 hg2 _)
            obtain ⟨hown3, hb3⟩ := HS.out w2 _ (⟨1, p % 16, q % 16⟩ : Ent) _ (refEnt1 g1) hown2 hg2
            go_roundw
            case rel => exact ⟨k + 1, m + 2, by go_num, by show _ = _; rw [HM.out]; omega, by omega, by omega, hown3, hb3⟩
            case measure => simp [intOf]; omega
          · by_cases g2 : p < 192
            ·
              go_wp2_with (at_builtin; go_loud (refine (wpList_app _ rfl (.tmp 52) (.tmp 56) rfl Try.slEnt w.heap.size (.slice vo k vc) k (entsCells (entsTo zs k)) rfl (hown.alloc _) (some ⟨wr.heap.size, 0, none⟩) 1 1 (entCells (⟨2, q % 32, 0⟩ : Ent)) rfl (k + 1) rfl (RowAt.new wr (entCells (⟨2, q % 32, 0⟩ : Ent)) _) rfl (by simp [entCells, Value.oneCell']) (by omega) (by unfold maxLen; omega) (by simp; omega) ?_)); intro a2 c2 w2 hown2 hg2 _)
              obtain ⟨hown3, hb3⟩ := HS.out w2 _ (⟨2, q % 32, 0⟩ : Ent) _ (refEnt2 g1 g2) hown2 hg2
              go_roundw
              case rel => exact ⟨k + 1, m + 2, by go_num, by show _ = _; rw [HM.out]; omega, by omega, by omega, hown3, hb3⟩
              case measure => simp [intOf]; omega
            · by_cases g3 : p < 240
              ·
                go_wp2_with (at_builtin; go_loud (refine (wpList_app _ rfl (.tmp 61) (.tmp 65) rfl Try.slEnt w.heap.size (.slice vo k vc) k (entsCells (entsTo zs k)) rfl (hown.alloc _) (some ⟨wr.heap.size, 0, none⟩) 1 1 (entCells (⟨3, q % 64, 0⟩ : Ent)) rfl (k + 1) rfl (RowAt.new wr (entCells (⟨3, q % 64, 0⟩ : Ent)) _) rfl (by simp [entCells, Value.oneCell']) (by omega) (by unfold maxLen; omega) (by simp; omega) ?_)); intro a2 c2 w2 hown2 hg2 _)
                obtain ⟨hown3, hb3⟩ := HS.out w2 _ (⟨3, q % 64, 0⟩ : Ent) _ (refEnt3 g2 g3) hown2 hg2
                go_roundw
                case rel => exact ⟨k + 1, m + 2, by go_num, by show _ = _; rw [HM.out]; omega, by omega, by omega, hown3, hb3⟩
                case measure => simp [intOf]; omega
              ·
                go_wp2_with (at_builtin; go_loud (refine (wpList_app _ rfl (.tmp 34) (.tmp 36) rfl Try.slEnt w.heap.size (.slice vo k vc) k (entsCells (entsTo zs k)) rfl (hown.alloc _) (some ⟨wr.heap.size, 0, none⟩) 1 1 (entCells (⟨4, 0, 0⟩ : Ent)) rfl (k + 1) rfl (RowAt.new wr (entCells (⟨4, 0, 0⟩ : Ent)) _) rfl (by simp [entCells, Value.oneCell']) (by omega) (by unfold maxLen; omega) (by simp; omega) ?_)); intro a2 c2 w2 hown2 hg2 _)
                obtain ⟨hown3, hb3⟩ := HS.out w2 _ (⟨4, 0, 0⟩ : Ent) _ (refEnt4 g3) hown2 hg2
                go_roundw
                case rel => exact ⟨k + 1, m + 2, by go_num, by show _ = _; rw [HM.out]; omega, by omega, by omega, hown3, hb3⟩
                case measure => simp [intOf]; omega
        · obtain rfl : q = 0 := HQ.out.2 h3
          clear hq
          by_cases g1 : p < 160
          ·
            go_wp2_with (at_builtin; go_loud (refine (wpList_app _ rfl (.tmp 41) (.tmp 47) rfl Try.slEnt w.heap.size (.slice vo k vc) k (entsCells (entsTo zs k)) rfl (hown.alloc _) (some ⟨wr.heap.size, 0, none⟩) 1 1 (entCells (⟨1, p % 16, 0 % 16⟩ : Ent)) rfl (k + 1) rfl (RowAt.new wr (entCells (⟨1, p % 16, 0 % 16⟩ : Ent)) _) rfl (by simp [entCells, Value.oneCell']) (by omega) (by unfold maxLen; omega) (by simp; omega) ?_)); intro a2 c2 w2 hown2 hg2 _)
            obtain ⟨hown3, hb3⟩ := HS.out w2 _ (⟨1, p % 16, 0 % 16⟩ : Ent) _ (refEnt1 g1) hown2 hg2
            go_roundw
            case rel => exact ⟨k + 1, m + 2, by go_num, by show _ = _; rw [HM.out]; omega, by omega, by omega, hown3, hb3⟩
            case measure => simp [intOf]; omega
          · by_cases g2 : p < 192
            ·
              go_wp2_with (at_builtin; go_loud (refine (wpList_app _ rfl (.tmp 52) (.tmp 56) rfl Try.slEnt w.heap.size (.slice vo k vc) k (entsCells (entsTo zs k)) rfl (hown.alloc _) (some ⟨wr.heap.size, 0, none⟩) 1 1 (entCells (⟨2, 0 % 32, 0⟩ : Ent)) rfl (k + 1) rfl (RowAt.new wr (entCells (⟨2, 0 % 32, 0⟩ : Ent)) _) rfl (by simp [entCells, Value.oneCell']) (by omega) (by unfold maxLen; omega) (by simp; omega) ?_)); intro a2 c2 w2 hown2 hg2 _)
              obtain ⟨hown3, hb3⟩ := HS.out w2 _ (⟨2, 0 % 32, 0⟩ : Ent) _ (refEnt2 g1 g2) hown2 hg2
              go_roundw
              case rel => exact ⟨k + 1, m + 2, by go_num, by show _ = _; rw [HM.out]; omega, by omega, by omega, hown3, hb3⟩
              case measure => simp [intOf]; omega
            · by_cases g3 : p < 240
              ·
                go_wp2_with (at_builtin; go_loud (refine (wpList_app _ rfl (.tmp 61) (.tmp 65) rfl Try.slEnt w.heap.size (.slice vo k vc) k (entsCells (entsTo zs k)) rfl (hown.alloc _) (some ⟨wr.heap.size, 0, none⟩) 1 1 (entCells (⟨3, 0 % 64, 0⟩ : Ent)) rfl (k + 1) rfl (RowAt.new wr (entCells (⟨3, 0 % 64, 0⟩ : Ent)) _) rfl (by simp [entCells, Value.oneCell']) (by omega) (by unfold maxLen; omega) (by simp; omega) ?_)); intro a2 c2 w2 hown2 hg2 _)
                obtain ⟨hown3, hb3⟩ := HS.out w2 _ (⟨3, 0 % 64, 0⟩ : Ent) _ (refEnt3 g2 g3) hown2 hg2
                go_roundw
                case rel => exact ⟨k + 1, m + 2, by go_num, by show _ = _; rw [HM.out]; omega, by omega, by omega, hown3, hb3⟩
                case measure => simp [intOf]; omega
              ·
                go_wp2_with (at_builtin; go_loud (refine (wpList_app _ rfl (.tmp 34) (.tmp 36) rfl Try.slEnt w.heap.size (.slice vo k vc) k (entsCells (entsTo zs k)) rfl (hown.alloc _) (some ⟨wr.heap.size, 0, none⟩) 1 1 (entCells (⟨4, 0, 0⟩ : Ent)) rfl (k + 1) rfl (RowAt.new wr (entCells (⟨4, 0, 0⟩ : Ent)) _) rfl (by simp [entCells, Value.oneCell']) (by omega) (by unfold maxLen; omega) (by simp; omega) ?_)); intro a2 c2 w2 hown2 hg2 _)
                obtain ⟨hown3, hb3⟩ := HS.out w2 _ (⟨4, 0, 0⟩ : Ent) _ (refEnt4 g3) hown2 hg2
                go_roundw
                case rel => exact ⟨k + 1, m + 2, by go_num, by show _ = _; rw [HM.out]; omega, by omega, by omega, hown3, hb3⟩
                case measure => simp [intOf]; omega
      · have hk4 : k = 400 := by omega
        have e : entCount zs = k := by unfold entCount; rw [Hn.out]; have := HM.out; omega
        have HK := hidP e
        clear e hk4
        go_wp2
        go_ret
        refine retRow_mk ?_ hb
        show wr.ownsRow _ _ _ (.slice vo k vc) _ _
        unfold entries
        rw [HK.out]
        exact hown
    · have e : entCount zs = k := by unfold entCount; rw [Hn.out]; have := HM.out; omega
      have HK := hidP e
      clear e
      go_wp2
      go_ret
      refine retRow_mk ?_ hb
      show wr.ownsRow _ _ _ (.slice vo k vc) _ _
      unfold entries
      rw [HK.out]
      exact hown
end Go.Proofs.Ytjjfemhpdhkolaa
