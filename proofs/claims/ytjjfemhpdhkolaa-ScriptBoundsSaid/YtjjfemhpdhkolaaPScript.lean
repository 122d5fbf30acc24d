/-
  The walk over the play package's scripts of entries.
-/
import Derived.Test.YtjjfemhpdhkolaaTells
import Derived.Test.YtjjfemhpdhkolaaOwn
import Derived.Deep.DeepCutAuto
import Derived.Deep.CutBlock
namespace Go.Proofs.Ytjjfemhpdhkolaa
open Go.RowKit
set_option linter.unusedVariables false

/-- The rest of a number taken as one without a sign. -/
def modI (a : Int) (k : Nat) : Int := (((IntKind.u64.wrap a).toNat % k : Nat) : Int)
theorem modI_spec (a : Int) (k : Nat) (hk : 0 < k) (hk1 : k < 4294967296) : (IntKind.u64.wrap a).tmod (k : Int) = modI a k ∧ 0 ≤ modI a k ∧ modI a k < k ∧ wrap64 (modI a k) = modI a k := by
  have h : 0 ≤ IntKind.u64.wrap a := by rw [IntKind.wrap_u64]; omega
  obtain ⟨m, hm⟩ := Int.eq_ofNat_of_zero_le h
  have hlt := Nat.mod_lt m hk
  have e : modI a k = ((m % k : Nat) : Int) := by unfold modI; rw [hm]; rfl
  rw [e]
  refine ⟨?_, by omega, by omega, IntWalk.wrap64_in _ (by omega)⟩
  rw [hm, Int.tmod_eq_emod_of_nonneg (by omega)]
  simp

set_option maxRecDepth 100000 in
set_option maxHeartbeats 400000 in
theorem mod_any (a : Int) (k : Nat) (w : World) (hk : 0 < k) (hk1 : k < 4294967296) :
    Calls Try.prog 56 #[.int .i64 a, .int .i64 k] w fun e w' => e = .returned (.int .i64 (modI a k)) ∧ w' = w := by
  obtain ⟨h1, h2, h3, h4⟩ := modI_spec a k hk hk1
  have hu : IntKind.u64.wrap (k : Int) = (k : Int) := by rw [IntKind.wrap_u64]; omega
  have hne : (k : Int) ≠ 0 := by omega
  have H1 := hidP h1
  have H4 := hidP h4
  have HU := hidP hu
  go_enter Try.func56, Try.ntmps56
  go_wp2
  go_ret
  exact ⟨rfl, rfl⟩

theorem mod16 (a : Int) (w : World) : Calls Try.prog 56 #[.int .i64 a, .int .i64 16] w fun e w' => e = .returned (.int .i64 (modI a 16)) ∧ w' = w := mod_any a 16 w (by omega) (by omega)
theorem mod32 (a : Int) (w : World) : Calls Try.prog 56 #[.int .i64 a, .int .i64 32] w fun e w' => e = .returned (.int .i64 (modI a 32)) ∧ w' = w := mod_any a 32 w (by omega) (by omega)
theorem mod64 (a : Int) (w : World) : Calls Try.prog 56 #[.int .i64 a, .int .i64 64] w fun e w' => e = .returned (.int .i64 (modI a 64)) ∧ w' = w := mod_any a 64 w (by omega) (by omega)

def kindN (e : Ent) : Int := 1 + modI (wrap64 (e.kind - 1)) 4
/-- An entry that bytes tell, near to any. -/
def normE (e : Ent) : Ent :=
  if kindN e = 1 then ⟨1, modI e.n 16, modI e.draw 16⟩ else if kindN e = 2 then ⟨2, modI e.n 32, 0⟩ else if kindN e = 3 then ⟨3, modI e.n 64, 0⟩ else ⟨kindN e, 0, 0⟩
theorem modI_b (a : Int) (k : Nat) (hk : 0 < k) (hk1 : k < 4294967296) : 0 ≤ modI a k ∧ modI a k < k := ⟨(modI_spec a k hk hk1).2.1, (modI_spec a k hk hk1).2.2.1⟩
attribute [irreducible] modI
theorem kindN_b (e : Ent) : 1 ≤ kindN e ∧ kindN e ≤ 4 := by
  obtain ⟨h1, h2⟩ := modI_b (wrap64 (e.kind - 1)) 4 (by omega) (by omega)
  unfold kindN
  generalize modI (wrap64 (e.kind - 1)) 4 = q at *
  omega
theorem normE_good (e : Ent) : Good (normE e) := by
  have hk := kindN_b e
  have h1 := modI_b e.n 16 (by omega) (by omega)
  have h2 := modI_b e.n 32 (by omega) (by omega)
  have h3 := modI_b e.n 64 (by omega) (by omega)
  have h4 := modI_b e.draw 16 (by omega) (by omega)
  unfold normE Good
  generalize kindN e = k at *
  generalize modI e.n 16 = a at *
  generalize modI e.n 32 = b at *
  generalize modI e.n 64 = c at *
  generalize modI e.draw 16 = d at *
  repeat' split
  all_goals simp
  all_goals omega

def normL (es : List Ent) (k : Nat) : List Ent := (es.take k).map normE
theorem normL_succ (es : List Ent) (k : Nat) (x : Ent) (hx : es[k]? = some x) : normL es (k + 1) = normL es k ++ [normE x] := by
  unfold normL
  rw [List.take_add_one, hx, List.map_append]
  rfl

theorem keepSet {w : World} {b o : Nat} {p : Addr} {u v : Value} (h : w.cell? ⟨b, o, none⟩ = some v) (hne : b ≠ p.block) : (w.setCell p u).cell? ⟨b, o, none⟩ = some v := by
  rw [World.cell?_of_block (w := w) (Below.heap_setCell _ _ _ _ hne)]
  exact h

set_option maxRecDepth 100000 in
set_option maxHeartbeats 1600000 in
theorem pscript_any (ao : Option Addr) (n c : Nat) (es : List Ent) (w : World) (hr : RowAt w ao (entsCells es)) (hn : es.length = n) (hmax : n ≤ 300) :
    Calls Try.prog 35 #[.slice ao n c, .int .i64 300] w (RetRow w 26 3 n (entsCells (es.map normE))) := by
  have Hn := hidP hn
  clear hn
  go_enter Try.func35, Try.ntmps35
  go_wp2_with fail
  go_loopw [5, 6] (fun v i wr => ∃ k : Nat, ∃ vo vc, v = .slice vo k vc ∧ i = .int .i64 k ∧ k ≤ n ∧ wr.ownsRow w.heap.size 26 3 (.slice vo k vc) k (entsCells (normL es k)) ∧ Below w.heap.size w wr) (fun _ i _ => n - (intOf i).toNat)
  case atStart => exact ⟨0, none, 0, rfl, rfl, by omega, World.ownsRow_nil _ _ _ _, brefl _⟩
  case round =>
    obtain ⟨k, vo, vc, rfl, rfl, hk, hown, hb⟩ := hrel
    have hsr := hb.size
    by_cases hlt : k < n
    · obtain ⟨b, o, rfl, hca⟩ := (hr.below hb).addr (by rw [length_entsCells, Hn.out]; omega)
      obtain ⟨x, hx⟩ : ∃ x, es[k]? = some x := ⟨_, List.getElem?_eq_getElem (by rw [Hn.out]; omega)⟩
      obtain ⟨x0, x1, x2⟩ := ents_at hca k x hx
      have HS := hidP (normL_succ es k x hx)
      have i0 : (0 : Int) ≤ (k : Int) := by omega
      have i1 : (k : Int) < (n : Int) := by omega
      have i3 : (k : Int) < 300 := by omega
      clear hx hca
      obtain ⟨xk, xn, xd⟩ := x
      dsimp only at x0 x1 x2
      obtain ⟨q, hq⟩ : ∃ q, modI (wrap64 (xk - 1)) 4 = q := ⟨_, rfl⟩
      have hqb := modI_b (wrap64 (xk - 1)) 4 (by omega) (by omega)
      rw [hq] at hqb
      obtain ⟨hq0, hq4⟩ := hqb
      have hq' : ∀ w, Calls Try.prog 56 #[.int .i64 (wrap64 (xk - 1)), .int .i64 4] w fun e w' => e = .returned (.int .i64 q) ∧ w' = w := fun w => hq ▸ mod_any (wrap64 (xk - 1)) 4 w (by omega) (by omega)
      have HQ := hidP hq'
      have HQQ := hidP hq
      have hbl := World.block_lt_of_cell? wr _ x0
      clear hq' hq
      go_upto_region 6 with (go_at_call 56; refine (HQ.out _).mono ?_; rintro e w1 ⟨rfl, rfl⟩)
      have hst : ∀ (w2 : World) (v' : Value) (y : Ent), normE ⟨xk, xn, xd⟩ = y → w2.ownsRow w.heap.size 26 3 v' (k + 1) (entsCells (normL es k) ++ entCells y) → w2.ownsRow w.heap.size 26 3 v' (k + 1) (entsCells (normL es (k + 1))) := by
        intro w2 v' y he ho
        rw [HS.out, entsCells_append, entsCells_one, he]; exact ho
      have HST := hidP hst
      clear hst
      have hq : q = 0 ∨ q = 1 ∨ q = 2 ∨ q = 3 := by omega
      have hbx : ∀ (O : Obj) j, (w1.alloc O).cell? ⟨b, j, none⟩ = w1.cell? ⟨b, j, none⟩ := fun O j => (bnew (brefl w1) O).cell (p := ⟨b, j, none⟩) hbl
      rcases hq with rfl | rfl | rfl | rfl
      · have y1 := (hbx (.cells #[.int .i64 1, .int .i64 0, .int .i64 0] 26) (o + k * 3 + 1)).trans x1
        have y2 := (hbx (.cells #[.int .i64 1, .int .i64 0, .int .i64 0] 26) (o + k * 3 + 2)).trans x2
        have hn : normE ⟨xk, xn, xd⟩ = ⟨1, modI xn 16, modI xd 16⟩ := by
          have hk : kindN ⟨xk, xn, xd⟩ = 1 := by unfold kindN; rw [HQQ.out]; rfl
          unfold normE
          rw [hk]; rfl
        go_wp2_with fail
        go_region_held3 (fun w' => w'.cell? ⟨b, o + k * 3 + 1, none⟩ = some (.int .i64 xn) ∧ w'.cell? ⟨b, o + k * 3 + 2, none⟩ = some (.int .i64 xd))
          (first | exact ⟨(hbx _ _).trans x1, (hbx _ _).trans x2⟩ | fail)
          (first | (go_at_call 56; refine (mod16 _ _).mono ?_; rintro e w2 ⟨rfl, rfl⟩) | fail)
        go_upto_region 13 with fail
        go_wp2_with (at_builtin; go_loud (refine (wpList_app _ rfl (.tmp 64) (.tmp 66) rfl Try.slEnt w.heap.size (.slice vo k vc) k (entsCells (normL es k)) rfl (owns_below hown (bnew (bnew (brefl w1) _).drew _)) (some ⟨w1.heap.size + 1, 0, none⟩) 1 1 (entCells (⟨1, modI xn 16, modI xd 16⟩ : Ent)) rfl (k + 1) rfl (row_new _ (entCells (⟨1, modI xn 16, modI xd 16⟩ : Ent)) _ _ (by simp)) rfl (by simp [entCells, Value.oneCell']) (by omega) (by unfold maxLen; omega) (by simp; omega) ?_)); intro a2 c2 w2 hown2 hg2 _)
        have hown3 := HST.out w2 _ (⟨1, modI xn 16, modI xd 16⟩ : Ent) (hn) hown2
        have hB3 : Below w.heap.size w w2 := (bnew (bstep hb (bnew (brefl w1) _).drew) _).grown hg2 (by simp; omega) (fun j hj => (hown.lt j hj).1)
        go_roundw
        case rel => exact ⟨k + 1, a2, c2, rfl, by go_num, by omega, hown3, hB3⟩
        case measure => simp [intOf]; omega
      · have y1 := (hbx (.cells #[.int .i64 2, .int .i64 0, .int .i64 0] 26) (o + k * 3 + 1)).trans x1
        have hn : normE ⟨xk, xn, xd⟩ = ⟨2, modI xn 32, 0⟩ := by
          have hk : kindN ⟨xk, xn, xd⟩ = 2 := by unfold kindN; rw [HQQ.out]; rfl
          unfold normE
          rw [hk]; rfl
        go_upto_region 13 with (go_at_call 56; refine (mod32 _ _).mono ?_; rintro e w2 ⟨rfl, rfl⟩)
        go_wp2_with (at_builtin; go_loud (refine (wpList_app _ rfl (.tmp 64) (.tmp 66) rfl Try.slEnt w.heap.size (.slice vo k vc) k (entsCells (normL es k)) rfl (owns_below hown (bnew (bnew (brefl w1) _) _)) (some ⟨w1.heap.size + 1, 0, none⟩) 1 1 (entCells (⟨2, modI xn 32, 0⟩ : Ent)) rfl (k + 1) rfl (row_new _ (entCells (⟨2, modI xn 32, 0⟩ : Ent)) _ _ (by simp)) rfl (by simp [entCells, Value.oneCell']) (by omega) (by unfold maxLen; omega) (by simp; omega) ?_)); intro a2 c2 w2 hown2 hg2 _)
        have hown3 := HST.out w2 _ (⟨2, modI xn 32, 0⟩ : Ent) (hn) hown2
        have hB3 : Below w.heap.size w w2 := (bnew (bstep hb (bnew (brefl w1) _)) _).grown hg2 (by simp; omega) (fun j hj => (hown.lt j hj).1)
        go_roundw
        case rel => exact ⟨k + 1, a2, c2, rfl, by go_num, by omega, hown3, hB3⟩
        case measure => simp [intOf]; omega
      · have y1 := (hbx (.cells #[.int .i64 3, .int .i64 0, .int .i64 0] 26) (o + k * 3 + 1)).trans x1
        have hn : normE ⟨xk, xn, xd⟩ = ⟨3, modI xn 64, 0⟩ := by
          have hk : kindN ⟨xk, xn, xd⟩ = 3 := by unfold kindN; rw [HQQ.out]; rfl
          unfold normE
          rw [hk]; rfl
        go_upto_region 13 with (go_at_call 56; refine (mod64 _ _).mono ?_; rintro e w2 ⟨rfl, rfl⟩)
        go_wp2_with (at_builtin; go_loud (refine (wpList_app _ rfl (.tmp 64) (.tmp 66) rfl Try.slEnt w.heap.size (.slice vo k vc) k (entsCells (normL es k)) rfl (owns_below hown (bnew (bnew (brefl w1) _) _)) (some ⟨w1.heap.size + 1, 0, none⟩) 1 1 (entCells (⟨3, modI xn 64, 0⟩ : Ent)) rfl (k + 1) rfl (row_new _ (entCells (⟨3, modI xn 64, 0⟩ : Ent)) _ _ (by simp)) rfl (by simp [entCells, Value.oneCell']) (by omega) (by unfold maxLen; omega) (by simp; omega) ?_)); intro a2 c2 w2 hown2 hg2 _)
        have hown3 := HST.out w2 _ (⟨3, modI xn 64, 0⟩ : Ent) (hn) hown2
        have hB3 : Below w.heap.size w w2 := (bnew (bstep hb (bnew (brefl w1) _)) _).grown hg2 (by simp; omega) (fun j hj => (hown.lt j hj).1)
        go_roundw
        case rel => exact ⟨k + 1, a2, c2, rfl, by go_num, by omega, hown3, hB3⟩
        case measure => simp [intOf]; omega
      · 
        have hn : normE ⟨xk, xn, xd⟩ = ⟨4, 0, 0⟩ := by
          have hk : kindN ⟨xk, xn, xd⟩ = 4 := by unfold kindN; rw [HQQ.out]; rfl
          unfold normE
          rw [hk]; rfl
        go_wp2_with (at_builtin; go_loud (refine (wpList_app _ rfl (.tmp 64) (.tmp 66) rfl Try.slEnt w.heap.size (.slice vo k vc) k (entsCells (normL es k)) rfl (owns_below hown (bnew (bnew (brefl w1) _) _)) (some ⟨w1.heap.size + 1, 0, none⟩) 1 1 (entCells (⟨4, 0, 0⟩ : Ent)) rfl (k + 1) rfl (row_new _ (entCells (⟨4, 0, 0⟩ : Ent)) _ _ (by simp)) rfl (by simp [entCells, Value.oneCell']) (by omega) (by unfold maxLen; omega) (by simp; omega) ?_)); intro a2 c2 w2 hown2 hg2 _)
        have hown3 := HST.out w2 _ (⟨4, 0, 0⟩ : Ent) (hn) hown2
        have hB3 : Below w.heap.size w w2 := (bnew (bstep hb (bnew (brefl w1) _)) _).grown hg2 (by simp; omega) (fun j hj => (hown.lt j hj).1)
        go_roundw
        case rel => exact ⟨k + 1, a2, c2, rfl, by go_num, by omega, hown3, hB3⟩
        case measure => simp [intOf]; omega
    · obtain rfl : k = n := by omega
      have htk : normL es k = es.map normE := by unfold normL; rw [List.take_of_length_le (by rw [Hn.out]; omega)]
      rw [htk] at hown
      go_wp2
      go_ret
      exact ⟨vo, vc, rfl, hown, hb⟩
end Go.Proofs.Ytjjfemhpdhkolaa
