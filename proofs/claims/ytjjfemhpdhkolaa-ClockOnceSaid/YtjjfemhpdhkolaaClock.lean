/-
  The walks over package clock: what a place's entry is, and the functions that read.
-/
import Derived.Test.YtjjfemhpdhkolaaQueue
namespace Go.Proofs.Ytjjfemhpdhkolaa
open Go.RowKit
set_option linter.unusedVariables false

theorem row_new (w : World) (cs : List Value) (t : TypeId) (B : Nat) (hB : w.heap.size = B) : RowAt (w.alloc (.cells cs.toArray t)) (some ⟨B, 0, none⟩) cs := hB ▸ RowAt.new w cs t

/-- An entry: when, and the place. -/
abbrev CE := Int × Int
def ceV (x : CE) : Value := .iface 93 (.agg #[.int .i64 x.1, .int .i64 x.2])
theorem ceV_one (l : List CE) : ∀ u ∈ l.map ceV, u.oneCell' = true := by
  intro u hu
  rw [List.mem_map] at hu
  obtain ⟨x, _, rfl⟩ := hu
  rfl

theorem assert_ce (w : World) (v : Value) : (Instr.typeAssert (.iface 93 v) 20 93 true).run Try.prog w = .ok (.tuple #[v, .bool true]) w := by
  simp [Instr.typeAssert, run_underlying Try.underlying93]

set_option maxRecDepth 100000 in
set_option maxHeartbeats 400000 in
theorem later_any (x : CE) (t : Int) (w : World) :
    Calls Try.prog 59 #[ceV x, .int .i64 t] w fun e w' => e = .returned (.bool (decide (t < x.1))) ∧ Below w.heap.size w w' := by
  obtain ⟨a, b⟩ := x
  unfold ceV
  dsimp only
  go_enter Try.func59, Try.ntmps59
  have has := assert_ce
  go_wp2
  go_ret
  exact ⟨rfl, bnew (brefl w) _⟩

set_option maxRecDepth 100000 in
set_option maxHeartbeats 400000 in
theorem lateA_any (x : CE) (t : Int) (pb : Nat) (w : World) (hp : w.cell? ⟨pb, 0, none⟩ = some (.int .i64 t)) :
    Calls Try.prog 62 #[ceV x, .pointer (some ⟨pb, 0, none⟩)] w fun e w' => e = .returned (.bool (decide (t < x.1))) ∧ Below w.heap.size w w' := by
  go_enter Try.func62, Try.ntmps62
  go_wp2_with (go_at_call 59; refine (later_any x t _).mono ?_; rintro e w1 ⟨rfl, hb⟩)
  go_ret
  exact ⟨rfl, hb⟩
set_option maxRecDepth 100000 in
set_option maxHeartbeats 400000 in
theorem lateD_any (x : CE) (t : Int) (pb : Nat) (w : World) (hp : w.cell? ⟨pb, 0, none⟩ = some (.int .i64 t)) :
    Calls Try.prog 58 #[ceV x, .pointer (some ⟨pb, 0, none⟩)] w fun e w' => e = .returned (.bool (decide (t < x.1))) ∧ Below w.heap.size w w' := by
  go_enter Try.func58, Try.ntmps58
  go_wp2_with (go_at_call 59; refine (later_any x t _).mono ?_; rintro e w1 ⟨rfl, hb⟩)
  go_ret
  exact ⟨rfl, hb⟩

/-- The first that is due behind a time. -/
def idxC (l : List CE) (t : Int) : Int := if l.any (fun x => decide (t < x.1)) then (l.findIdx (fun x => decide (t < x.1)) : Int) else -1
theorem idxC_found {l : List CE} {t : Int} {k : Nat} {x : CE} (h : ∀ y ∈ l.take k, y.1 ≤ t) (hx : l[k]? = some x) (hl : t < x.1) : idxC l t = k := by
  have hm : x ∈ l := List.mem_of_getElem? hx
  have hk : k < l.length := (List.getElem?_eq_some_iff.1 hx).1
  unfold idxC
  rw [if_pos (by rw [List.any_eq_true]; exact ⟨x, hm, by simpa using hl⟩)]
  have : l.findIdx (fun x => decide (t < x.1)) = k := by
    rw [List.findIdx_eq hk]
    refine ⟨?_, fun j hj => ?_⟩
    · rw [List.getElem?_eq_getElem hk] at hx
      cases hx
      simpa using hl
    · have := h (l[j]'(by omega)) (by rw [List.mem_take_iff_getElem]; exact ⟨j, by omega, rfl⟩)
      simpa using this
  rw [this]
theorem idxC_none {l : List CE} {t : Int} (h : ∀ y ∈ l, y.1 ≤ t) : idxC l t = -1 := by
  unfold idxC
  rw [if_neg]
  intro hc
  rw [List.any_eq_true] at hc
  obtain ⟨x, hm, hl⟩ := hc
  have := h x hm
  simp at hl
  omega

set_option maxRecDepth 100000 in
set_option maxHeartbeats 800000 in
theorem ixA_any (ao : Option Addr) (n c pb : Nat) (l : List CE) (t : Int) (w : World) (hr : RowAt w ao (l.map ceV)) (hn : l.length = n) (hmax : n ≤ 1000000) (hp : w.cell? ⟨pb, 0, none⟩ = some (.int .i64 t)) :
    Calls Try.prog 57 #[.slice ao n c, .func (.func 62) #[] #[.pointer (some ⟨pb, 0, none⟩)]] w fun e w' => e = .returned (.int .i64 (idxC l t)) ∧ Below w.heap.size w w' := by
  have Hn := hidP hn
  clear hn
  have hpl := World.block_lt_of_cell? w _ hp
  go_enter Try.func57, Try.ntmps57
  go_wp2_with fail
  go_loopw [8] (fun v wr => ∃ k : Nat, v = .int .i64 k ∧ k ≤ n ∧ Hid (∀ y ∈ l.take k, y.1 ≤ t) ∧ Below w.heap.size w wr) (fun v _ => n - (intOf v).toNat)
  case atStart => exact ⟨0, rfl, by omega, by show ∀ y ∈ l.take 0, _; simp, brefl _⟩
  case round =>
    obtain ⟨k, rfl, hk, HK, hb⟩ := hrel
    by_cases hlt : k < n
    · obtain ⟨b, o, rfl, hca⟩ := (hr.below hb).addr (by rw [List.length_map, Hn.out]; omega)
      obtain ⟨x, hx⟩ : ∃ x, l[k]? = some x := ⟨_, List.getElem?_eq_getElem (by rw [Hn.out]; omega)⟩
      have cx : wr.cell? ⟨b, o + k, none⟩ = some (ceV x) := hca k _ (by rw [List.getElem?_map, hx]; rfl)
      have hpr : wr.cell? ⟨pb, 0, none⟩ = some (.int .i64 t) := (hb.cell (p := ⟨pb, 0, none⟩) hpl).trans hp
      have HX := hidP hx
      clear hx hca
      by_cases hd : t < x.1
      · have hd' : decide (t < x.1) = true := by simpa using hd
        have HD := hidP hd
        clear hd
        go_wp2_with (go_at_call 62; refine (lateA_any x t pb _ hpr).mono ?_; rintro e w1 ⟨rfl, hb1⟩)
        go_ret
        exact ⟨by rw [idxC_found HK.out HX.out HD.out]; rfl, bstep hb hb1⟩
      · have hd' : decide (t < x.1) = false := by simpa using hd
        have HD := hidP (Int.not_lt.1 hd)
        clear hd
        go_wp2_with (go_at_call 62; refine (lateA_any x t pb _ hpr).mono ?_; rintro e w1 ⟨rfl, hb1⟩)
        have hK2 : Hid (∀ y ∈ l.take (k + 1), y.1 ≤ t) := by
          intro y hy
          rw [List.take_add_one, HX.out] at hy
          rcases List.mem_append.1 hy with h | h
          · exact HK.out y h
          · simp at h
            subst h
            exact HD.out
        go_roundw
        case rel => exact ⟨k + 1, by go_num, by omega, hK2, bstep hb hb1⟩
        case measure => simp [intOf]; omega
    · have hall : ∀ y ∈ l, y.1 ≤ t := by
        intro y hy
        exact HK.out y (by rw [List.take_of_length_le (by rw [Hn.out]; omega)]; exact hy)
      have HA := hidP hall
      clear hall
      go_wp2
      go_ret
      exact ⟨by rw [idxC_none HA.out]; rfl, hb⟩
set_option maxRecDepth 100000 in
set_option maxHeartbeats 800000 in
theorem ixD_any (ao : Option Addr) (n c pb : Nat) (l : List CE) (t : Int) (w : World) (hr : RowAt w ao (l.map ceV)) (hn : l.length = n) (hmax : n ≤ 1000000) (hp : w.cell? ⟨pb, 0, none⟩ = some (.int .i64 t)) :
    Calls Try.prog 57 #[.slice ao n c, .func (.func 58) #[] #[.pointer (some ⟨pb, 0, none⟩)]] w fun e w' => e = .returned (.int .i64 (idxC l t)) ∧ Below w.heap.size w w' := by
  have Hn := hidP hn
  clear hn
  have hpl := World.block_lt_of_cell? w _ hp
  go_enter Try.func57, Try.ntmps57
  go_wp2_with fail
  go_loopw [8] (fun v wr => ∃ k : Nat, v = .int .i64 k ∧ k ≤ n ∧ Hid (∀ y ∈ l.take k, y.1 ≤ t) ∧ Below w.heap.size w wr) (fun v _ => n - (intOf v).toNat)
  case atStart => exact ⟨0, rfl, by omega, by show ∀ y ∈ l.take 0, _; simp, brefl _⟩
  case round =>
    obtain ⟨k, rfl, hk, HK, hb⟩ := hrel
    by_cases hlt : k < n
    · obtain ⟨b, o, rfl, hca⟩ := (hr.below hb).addr (by rw [List.length_map, Hn.out]; omega)
      obtain ⟨x, hx⟩ : ∃ x, l[k]? = some x := ⟨_, List.getElem?_eq_getElem (by rw [Hn.out]; omega)⟩
      have cx : wr.cell? ⟨b, o + k, none⟩ = some (ceV x) := hca k _ (by rw [List.getElem?_map, hx]; rfl)
      have hpr : wr.cell? ⟨pb, 0, none⟩ = some (.int .i64 t) := (hb.cell (p := ⟨pb, 0, none⟩) hpl).trans hp
      have HX := hidP hx
      clear hx hca
      by_cases hd : t < x.1
      · have hd' : decide (t < x.1) = true := by simpa using hd
        have HD := hidP hd
        clear hd
        go_wp2_with (go_at_call 58; refine (lateD_any x t pb _ hpr).mono ?_; rintro e w1 ⟨rfl, hb1⟩)
        go_ret
        exact ⟨by rw [idxC_found HK.out HX.out HD.out]; rfl, bstep hb hb1⟩
      · have hd' : decide (t < x.1) = false := by simpa using hd
        have HD := hidP (Int.not_lt.1 hd)
        clear hd
        go_wp2_with (go_at_call 58; refine (lateD_any x t pb _ hpr).mono ?_; rintro e w1 ⟨rfl, hb1⟩)
        have hK2 : Hid (∀ y ∈ l.take (k + 1), y.1 ≤ t) := by
          intro y hy
          rw [List.take_add_one, HX.out] at hy
          rcases List.mem_append.1 hy with h | h
          · exact HK.out y h
          · simp at h
            subst h
            exact HD.out
        go_roundw
        case rel => exact ⟨k + 1, by go_num, by omega, hK2, bstep hb hb1⟩
        case measure => simp [intOf]; omega
    · have hall : ∀ y ∈ l, y.1 ≤ t := by
        intro y hy
        exact HK.out y (by rw [List.take_of_length_le (by rw [Hn.out]; omega)]; exact hy)
      have HA := hidP hall
      clear hall
      go_wp2
      go_ret
      exact ⟨by rw [idxC_none HA.out]; rfl, hb⟩

set_option maxRecDepth 100000 in
set_option maxHeartbeats 800000 in
theorem places_any (ao : Option Addr) (n c : Nat) (l : List CE) (w : World) (hr : RowAt w ao (l.map ceV)) (hn : l.length = n) (hmax : n ≤ 1000000) :
    Calls Try.prog 60 #[.slice ao n c] w (RetRow w 3 1 n ((l.map (·.2)).map (Value.int .i64))) := by
  have Hn := hidP hn
  clear hn
  have has := assert_ce
  go_enter Try.func60, Try.ntmps60
  go_wp2_with fail
  go_loopw [3, 10] (fun v3 v wr => ∃ (k : Nat) (vo : Option Addr) (vc : Nat), v3 = .slice vo k vc ∧ v = .int .i64 k ∧ k ≤ n ∧ wr.ownsRow w.heap.size 3 1 (.slice vo k vc) k (((l.take k).map (·.2)).map (Value.int .i64)) ∧ Below w.heap.size w wr) (fun _ v _ => n - (intOf v).toNat)
  case atStart => exact ⟨0, none, 0, rfl, rfl, by omega, World.ownsRow_nil _ _ _ _, brefl _⟩
  case round =>
    obtain ⟨k, vo, vc, rfl, rfl, hk, hown, hb⟩ := hrel
    have hsr := hb.size
    by_cases hlt : k < n
    · obtain ⟨b, o, rfl, hca⟩ := (hr.below hb).addr (by rw [List.length_map, Hn.out]; omega)
      obtain ⟨x, hx⟩ : ∃ x, l[k]? = some x := ⟨_, List.getElem?_eq_getElem (by rw [Hn.out]; omega)⟩
      have cx : wr.cell? ⟨b, o + k, none⟩ = some (ceV x) := hca k _ (by rw [List.getElem?_map, hx]; rfl)
      obtain ⟨x1, x2⟩ := x
      unfold ceV at cx
      dsimp only at cx
      have hS : Hid ((l.take (k + 1)).map (·.2) = (l.take k).map (·.2) ++ [x2]) := by show _ = _; rw [List.take_add_one, hx, List.map_append]; rfl
      clear hx hca
      go_wp2_with (at_builtin; go_loud (refine (wpList_app _ rfl (.tmp 20) (.tmp 23) rfl Try.slInt w.heap.size (.slice vo k vc) k (((l.take k).map (·.2)).map (Value.int .i64)) rfl (owns_below hown (bnew (bnew (brefl wr) _) _)) (some ⟨wr.heap.size + 1, 0, none⟩) 1 1 [.int .i64 x2] rfl (k + 1) rfl (row_new _ [.int .i64 x2] _ _ (by simp)) rfl (by simp; rfl) (by omega) (by unfold maxLen; omega) (by simp; omega) ?_)); intro a2 c2 w2 ho2 hg2 _)
      have ho3 : w2.ownsRow w.heap.size 3 1 (.slice a2 (k + 1) c2) (k + 1) (((l.take (k + 1)).map (·.2)).map (Value.int .i64)) := by rw [hS.out, List.map_append]; exact ho2
      have hB2 : Below w.heap.size w w2 := (bnew (bnew hb _) _).grown hg2 (by simp; omega) (fun j hj => (hown.lt j hj).1)
      go_roundw
      case rel => exact ⟨k + 1, a2, c2, rfl, by go_num, by omega, ho3, hB2⟩
      case measure => simp [intOf]; omega
    · obtain rfl : k = n := by omega
      rw [List.take_of_length_le (by rw [Hn.out]; omega)] at hown
      go_wp2
      go_ret
      exact ⟨vo, vc, rfl, hown, hb⟩
end Go.Proofs.Ytjjfemhpdhkolaa
