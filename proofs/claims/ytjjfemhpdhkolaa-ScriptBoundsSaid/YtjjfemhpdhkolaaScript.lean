/-
  The walks over package script: signs, entries of bytes.
-/
import Derived.Test.YtjjfemhpdhkolaaEnts
namespace Go.Proofs.Ytjjfemhpdhkolaa
open Go.RowKit
set_option linter.unusedVariables false

def kindsB : ByteArray := { data := #[112, 112, 112, 112, 112, 112, 112, 112, 112, 112, 116, 116, 99, 99, 99, 102] }
def signI (p : Int) : Int := (if p < 160 then 112 else if p < 192 then 116 else if p < 240 then 99 else 102)

theorem kind_at (p : Int) (k : Nat) (h0 : 0 ≤ p) (h1 : p < 256) (hk : (k:Int) = p / 16) (hlt : k < kindsB.size): ((kindsB[k]'hlt).toNat : Int) = signI p := by
  have h16 : k < 16 := hlt
  unfold signI
  have : k = 0 ∨ k = 1 ∨ k = 2 ∨ k = 3 ∨ k = 4 ∨ k = 5 ∨ k = 6 ∨ k = 7 ∨ k = 8 ∨ k = 9 ∨ k = 10 ∨ k = 11 ∨ k = 12 ∨ k = 13 ∨ k = 14 ∨ k = 15 := by omega
  rcases this with h | h | h | h | h | h | h | h | h | h | h | h | h | h | h | h <;> subst h <;> (repeat' split) <;> first | rfl | omega
theorem kind_ascii (k : Nat) (hlt : k < kindsB.size) : (kindsB[k]'hlt).toNat < 128 := by
  have h16 : k < 16 := hlt
  have : k = 0 ∨ k = 1 ∨ k = 2 ∨ k = 3 ∨ k = 4 ∨ k = 5 ∨ k = 6 ∨ k = 7 ∨ k = 8 ∨ k = 9 ∨ k = 10 ∨ k = 11 ∨ k = 12 ∨ k = 13 ∨ k = 14 ∨ k = 15 := by omega
  rcases this with h | h | h | h | h | h | h | h | h | h | h | h | h | h | h | h <;> subst h <;> decide +revert

set_option maxRecDepth 100000 in
set_option maxHeartbeats 400000 in
theorem sign_any (p : Int) (w : World) (h0 : 0 ≤ p) (h1 : p < 256) :
    Calls Try.prog 64 #[.int .i64 p] w fun e w' => e = .returned (.int .i32 (signI p)) ∧ Below w.heap.size w w' := by
  go_enter Try.func64, Try.ntmps64
  go_wp2
  go_loopw [3] (fun _ wr => ∃ k : Nat, (k : Int) ≤ p / 16 ∧ wr = w.iter kindsB k) (fun _ wr => 16 - wr.iterPos w.heap.size)
  case atStart => exact ⟨0, by omega, rfl⟩
  case round =>
    obtain ⟨k, hk, rfl⟩ := hrel
    have hlt : k < kindsB.size := by show k < 16; omega
    have h16 : k < 16 := by omega
    have hnx := fun ty => run_next_ascii (P := Try.prog) w kindsB k ty hlt (kind_ascii k hlt)
    go_wp2
    · have he : ((k : Int) == p / 16) = true := by assumption
      go_ret
      exact ⟨by rw [kind_at p k h0 h1 (by simpa using he) hlt]; rfl, below_iter _ _ _⟩
    · have he : ((k : Int) == p / 16) = false := by assumption
      go_roundw
      case rel => exact ⟨k + 1, by have := beq_eq_false_iff_ne.1 he; omega, rfl⟩
      case measure => simp; omega

theorem signI_cases (p : Int) : (signI p = 112 ∧ p < 160) ∨ (signI p = 116 ∧ 160 ≤ p ∧ p < 192) ∨ (signI p = 99 ∧ 192 ≤ p ∧ p < 240) ∨ (signI p = 102 ∧ 240 ≤ p) := by
  unfold signI
  repeat' split
  all_goals omega

set_option maxRecDepth 100000 in
set_option maxHeartbeats 400000 in
theorem entry_any (p q : Int) (w : World) (h0 : 0 ≤ p) (h1 : p < 256) (h2 : 0 ≤ q) (h3 : q < 256) :
    Calls Try.prog 44 #[.int .i64 p, .int .i64 q] w fun e w' => e = .returned (entV (entOf p q)) ∧ Below w.heap.size w w' := by
  have hs := signI_cases p
  have HS : Hid ((signI p = 112 ∧ p < 160) ∨ (signI p = 116 ∧ 160 ≤ p ∧ p < 192) ∨ (signI p = 99 ∧ 192 ≤ p ∧ p < 240) ∨ (signI p = 102 ∧ 240 ≤ p)) := hs
  clear hs
  go_enter Try.func44, Try.ntmps44
  go_wp2_with (go_at_call 64; refine (sign_any _ _ (by omega) (by omega)).mono ?_; rintro e w' ⟨rfl, hb⟩; obtain ⟨hc, hf⟩ := bcell hb)
  all_goals have hb0 : Below w.heap.size w w' := ((Below.refl _ _).alloc (Nat.le_refl _) _).trans (hb.mono (by simp))
  all_goals obtain ⟨hc, hf⟩ := bcell hb
  all_goals refine bodyPost_ret (v := entV (entOf p q)) ?_ rfl ⟨rfl, ((hb0.setCell (by simp) _).setCell (by simp) _).setCell (by simp) _⟩
  · have hg : (signI p == 112) = true := by assumption
    have e : entOf p q = ⟨1, p % 16, q % 16⟩ := by
      have := HS.out; simp at hg; unfold entOf; rw [if_pos (by omega)]
    simp [results, Try.results44, e, entV, go_sem, hc]
  · have hg : (signI p == 116) = true := by assumption
    have e : entOf p q = ⟨2, q % 32, 0⟩ := by
      have := HS.out; simp at hg; unfold entOf; rw [if_neg (by omega), if_pos (by omega)]
    simp [results, Try.results44, e, entV, go_sem, hc]
  · have hg : (signI p == 99) = true := by assumption
    have e : entOf p q = ⟨3, q % 64, 0⟩ := by
      have := HS.out; simp at hg; unfold entOf; rw [if_neg (by omega), if_neg (by omega), if_pos (by omega)]
    simp [results, Try.results44, e, entV, go_sem, hc]
  · have hg : (signI p == 112) = false := by assumption
    have hg1 : (signI p == 116) = false := by assumption
    have hg2 : (signI p == 99) = false := by assumption
    have e : entOf p q = ⟨4, 0, 0⟩ := by
      have := HS.out; simp at hg hg1 hg2; unfold entOf; rw [if_neg (by omega), if_neg (by omega), if_neg (by omega)]
    simp [results, Try.results44, e, entV, go_sem, hc]

theorem Try.infoEnt : (Try.prog.info? 26).map (fun i => (i.zero, i.size, i.bytes)) = some (some (.agg #[.int .i64 0, .int .i64 0, .int .i64 0]), 3, 24) := by kernel_rfl

set_option maxRecDepth 100000 in
set_option maxHeartbeats 800000 in
theorem entries_any (w : World) (ao : Option Addr) (n cap : Nat) (zs : List Int) (hr : RowAt w ao (zs.map (Value.int .u8))) (hn : zs.length = n) (hz : ∀ j, 0 ≤ zs.getD j 0 ∧ zs.getD j 0 < 256) (hmax : n ≤ 140737488355328) :
    Calls Try.prog 14 #[.slice ao n cap] w (RetRow w 26 3 (entCount zs) (entsCells (entries zs))) := by
  obtain ⟨i0, hi, hz0, hz1, hz2⟩ := info_parts Try.infoEnt
  have Hn := hidP hn
  clear hn
  go_enter Try.func14, Try.ntmps14
  go_wp2
  go_loopw [3, 4, 5] (fun v i _ wr => ∃ k m : Nat, i = .int .i64 m ∧ Hid (m = 2 * k) ∧ k ≤ 400 ∧ m ≤ n + 1 ∧ wr.ownsRow w.heap.size 26 3 v k (entsCells (entsTo zs k)) ∧ Below w.heap.size w wr) (fun _ i _ _ => n + 2 - (intOf i).toNat)
  case atStart => exact ⟨0, 0, rfl, rfl, by omega, by omega, World.ownsRow_nil _ _ _ _, Below.refl _ _⟩
  case round =>
    obtain ⟨k, m, rfl, HM, hk, hm, hown, hb⟩ := hrel
    obtain ⟨vo, vc, rfl, hvr, hvc, hvm, hvn, hvl⟩ := owns_open hown
    clear hvr hvm hvn hvl
    by_cases h1 : m < n
    · by_cases h2 : k < 400
      · obtain ⟨b, o, rfl, hca⟩ := (hr.below hb).addr (by rw [List.length_map, Hn.out]; omega)
        obtain ⟨p, hp⟩ : ∃ p, zs[m]? = some p := ⟨_, List.getElem?_eq_getElem (by rw [Hn.out]; omega)⟩
        have cp : wr.cell? ⟨b, o + m, none⟩ = some (.int .u8 p) := hca m _ (by rw [List.getElem?_map, hp]; rfl)
        have bp : 0 ≤ p ∧ p < 256 := by have := hz m; rw [List.getD_eq_getElem?_getD, hp] at this; exact this
        obtain ⟨bp0, bp1⟩ := bp
        have HP := hidP hp
        clear hp
        obtain ⟨q, hq, bq0, bq1, HQ⟩ : ∃ q, (m + 1 < n → wr.cell? ⟨b, o + (m + 1), none⟩ = some (.int .u8 q)) ∧ 0 ≤ q ∧ q < 256 ∧ Hid (q = zs.getD (m + 1) 0 ∧ (¬ m + 1 < n → q = 0)) := by
          refine ⟨zs.getD (m + 1) 0, fun h3 => hca (m + 1) _ ?_, (hz _).1, (hz _).2, rfl, fun h3 => ?_⟩
          · rw [List.getElem?_map, List.getD_eq_getElem?_getD, List.getElem?_eq_getElem (by rw [Hn.out]; omega)]; rfl
          · rw [List.getD_eq_getElem?_getD, List.getElem?_eq_none (by rw [Hn.out]; omega)]; rfl
        clear hca
        have HE : Hid (entOf p q = entAt zs k) := by
          show _ = _
          unfold entAt
          rw [← HM.out, ← HQ.out.1, List.getD_eq_getElem?_getD, HP.out]; rfl
        have hlen : (entCells (entOf p q)).length = 1 * 3 := rfl
        have h1c : ∀ u ∈ entCells (entOf p q), u.oneCell' = true := by
          intro u hu; simp [entCells] at hu; rcases hu with rfl | rfl | rfl <;> rfl
        have hstep : ∀ (w1 w2 : World) (v' : Value) (os : Obj), Below wr.heap.size wr w1 → w2.ownsRow w.heap.size 26 3 v' (k + 1) (entsCells (entsTo zs k) ++ entCells (entOf p q)) → (w1.alloc os).grownBy w2 (Value.ownBlock (.slice vo k vc)) →
            w2.ownsRow w.heap.size 26 3 v' (k + 1) (entsCells (entsTo zs (k + 1))) ∧ Below w.heap.size w w2 := by
          intro w1 w2 v' os hb1 ho hg
          refine ⟨by rw [entsTo_succ, entsCells_append, entsCells_one, ← HE.out]; exact ho, ?_⟩
          have hb2 := hb.trans (hb1.mono hb.size)
          exact (hb2.alloc hb2.size os).grown hg (by have := hb2.size; simp; omega) (fun j hj => (hown.lt j hj).1)
        have HS := hidP hstep
        clear hstep
        by_cases h3 : m + 1 < n
        · have cq := hq h3
          clear hq
          go_wp2_with (first | (go_at_call 44; refine (entry_any p q _ (by omega) (by omega) (by omega) (by omega)).mono ?_; rintro e w1 ⟨rfl, hb1⟩; have hown1 := owns_below hown hb1; have hb2 := hb.trans (hb1.mono hb.size); have hsz := hb2.size; unfold entV) | (at_builtin; refine wpList_append_own _ rfl _ _ 22 rfl w.heap.size 26 i0 (.agg #[.int .i64 0, .int .i64 0, .int .i64 0]) 3 24 Try.underlying22 hi hz0 hz1 hz2 rfl (by decide) _ _ _ rfl (hown1.alloc _) ⟨w1.heap.size, 0, none⟩ 1 1 (entCells (entOf p q)) rfl hlen (cells_new w1 (entCells (entOf p q)) _) h1c (by unfold maxLen; omega) (by omega) (by simp; omega) ?_))
          intro v' w2 hown2 hg2 _
          obtain ⟨hown3, hb3⟩ := HS.out w1 w2 v' _ hb1 hown2 hg2
          clear hown2 hg2 hown1 hown
          go_wp2
          go_roundw
          case rel => exact ⟨k + 1, m + 2, by go_num, by show _ = _; rw [HM.out]; omega, by omega, by omega, hown3, hb3⟩
          case measure => simp [intOf]; omega
        · obtain rfl : q = 0 := HQ.out.2 h3
          clear hq
          go_wp2_with (first | (go_at_call 44; refine (entry_any p 0 _ (by omega) (by omega) (by omega) (by omega)).mono ?_; rintro e w1 ⟨rfl, hb1⟩; have hown1 := owns_below hown hb1; have hb2 := hb.trans (hb1.mono hb.size); have hsz := hb2.size; unfold entV) | (at_builtin; refine wpList_append_own _ rfl _ _ 22 rfl w.heap.size 26 i0 (.agg #[.int .i64 0, .int .i64 0, .int .i64 0]) 3 24 Try.underlying22 hi hz0 hz1 hz2 rfl (by decide) _ _ _ rfl (hown1.alloc _) ⟨w1.heap.size, 0, none⟩ 1 1 (entCells (entOf p 0)) rfl hlen (cells_new w1 (entCells (entOf p 0)) _) h1c (by unfold maxLen; omega) (by omega) (by simp; omega) ?_))
          intro v' w2 hown2 hg2 _
          obtain ⟨hown3, hb3⟩ := HS.out w1 w2 v' _ hb1 hown2 hg2
          clear hown2 hg2 hown1 hown
          go_wp2
          go_roundw
          case rel => exact ⟨k + 1, m + 2, by go_num, by show _ = _; rw [HM.out]; omega, by omega, by omega, hown3, hb3⟩
          case measure => simp [intOf]; omega
      · have hk4 : k = 400 := by omega
        have e : entCount zs = k := by unfold entCount; rw [Hn.out]; have := HM.out; omega
        have HK := hidP e
        clear e hk4
        go_wp2
        go_ret
        refine retRow_mk ?_ hb
        show wr.ownsRow _ _ _ (.slice vo k vc) _ _
        unfold entries
        rw [HK.out]
        exact hown
    · have e : entCount zs = k := by unfold entCount; rw [Hn.out]; have := HM.out; omega
      have HK := hidP e
      clear e
      go_wp2
      go_ret
      refine retRow_mk ?_ hb
      show wr.ownsRow _ _ _ (.slice vo k vc) _ _
      unfold entries
      rw [HK.out]
      exact hown
end Go.Proofs.Ytjjfemhpdhkolaa
