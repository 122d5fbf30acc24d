/-
  The walks over package trace: which events are hidden.
-/
import Derived.Test.YtdelflahmlfnfaaDoorTEv
import Derived.Test.YtdelflahmlfnfaaDoorFits
import Derived.Deep.DeepCutAuto
import Derived.Deep.CutBlock
namespace Go.Proofs.YtdelflahmlfnfaaDoor
open Go.RowKit
set_option linter.unusedVariables false

def isHid (x : Ev) : Bool := x.kind == 3 || x.kind == 4
def hidV (x : Ev) : Value := .iface 52 (.agg #[.int .i64 x.gor])
def seenV (x : Ev) : Value := if isHid x then hidV x else .nilIface

set_option maxRecDepth 100000 in
set_option maxHeartbeats 400000 in
theorem seen_any (x : Ev) (w : World) :
    Calls Tryd.prog 27 #[evV x] w fun e w' => e = .returned (seenV x) ∧ Below w.heap.size w w' := by
  unfold evV
  by_cases h3 : x.kind = 3
  · have hk : (x.kind == 3) = true := by simp [h3]
    have hs : seenV x = hidV x := by simp [seenV, isHid, hk]
    rw [hs]
    unfold hidV
    go_enter Tryd.func27, Tryd.ntmps27
    go_wp2
    go_ret
    exact ⟨rfl, bnew (brefl w) _⟩
  · have hk : (x.kind == 3) = false := by simp [h3]
    by_cases h4 : x.kind = 4
    · have hk4 : (x.kind == 4) = true := by simp [h4]
      have hs : seenV x = hidV x := by simp [seenV, isHid, hk4]
      rw [hs]
      unfold hidV
      go_enter Tryd.func27, Tryd.ntmps27
      go_wp2
      go_ret
      exact ⟨rfl, bnew (brefl w) _⟩
    · have hk4 : (x.kind == 4) = false := by simp [h4]
      have hs : seenV x = .nilIface := by simp [seenV, isHid, hk, hk4]
      rw [hs]
      go_enter Tryd.func27, Tryd.ntmps27
      go_wp2
      go_ret
      exact ⟨rfl, bnew (brefl w) _⟩

theorem assert_hid (w : World) (v : Value) : (Instr.typeAssert (.iface 52 v) 20 52 true).run Tryd.prog w = .ok (.tuple #[v, .bool true]) w := by
  simp [Instr.typeAssert, run_underlying Tryd.underlying52]
theorem assert_nohid (w : World) : (Instr.typeAssert .nilIface 20 52 true).run Tryd.prog w = .ok (.tuple #[.agg #[.int .i64 0], .bool false]) w := by
  simp [Instr.typeAssert, run_underlying Tryd.underlying52, Tryd.zeroValue52]

set_option maxRecDepth 100000 in
set_option maxHeartbeats 400000 in
theorem hid_any (x : Ev) (w : World) :
    Calls Tryd.prog 26 #[evV x] w fun e w' => e = .returned (.bool (isHid x)) ∧ Below w.heap.size w w' := by
  have hs := fun w => seen_any x w
  unfold evV at hs ⊢
  have h1 := assert_hid
  have h0 := assert_nohid
  cases hh : isHid x
  · have he : seenV x = .nilIface := by simp [seenV, hh]
    rw [he] at hs
    go_enter Tryd.func26, Tryd.ntmps26
    go_wp2_with (go_at_call 27; refine (hs _).mono ?_; rintro e w1 ⟨rfl, hb1⟩)
    go_ret
    exact ⟨rfl, bnew (bstep (bnew (brefl w) _) hb1) _⟩
  · have he : seenV x = hidV x := by simp [seenV, hh]
    rw [he] at hs
    unfold hidV at hs
    go_enter Tryd.func26, Tryd.ntmps26
    go_wp2_with (go_at_call 27; refine (hs _).mono ?_; rintro e w1 ⟨rfl, hb1⟩)
    go_ret
    exact ⟨rfl, bnew (bstep (bnew (brefl w) _) hb1) _⟩

/-- The first that is hidden. -/
def idxH (l : List Ev) : Int := if l.any isHid then (l.findIdx isHid : Int) else -1
theorem idxH_found {l : List Ev} {k : Nat} {x : Ev} (h : ∀ y ∈ l.take k, isHid y = false) (hx : l[k]? = some x) (hl : isHid x = true) : idxH l = k := by
  have hm : x ∈ l := List.mem_of_getElem? hx
  have hk : k < l.length := (List.getElem?_eq_some_iff.1 hx).1
  unfold idxH
  rw [if_pos (by rw [List.any_eq_true]; exact ⟨x, hm, hl⟩)]
  have : l.findIdx isHid = k := by
    rw [List.findIdx_eq hk]
    refine ⟨?_, fun j hj => ?_⟩
    · rw [(List.getElem?_eq_some_iff.1 hx).2]; exact hl
    · exact h (l[j]'(by omega)) (by rw [List.mem_take_iff_getElem]; exact ⟨j, by omega, rfl⟩)
  rw [this]
theorem idxH_none {l : List Ev} (h : ∀ y ∈ l, isHid y = false) : idxH l = -1 := by
  unfold idxH
  rw [if_neg]
  intro hc
  rw [List.any_eq_true] at hc
  obtain ⟨x, hm, hl⟩ := hc
  rw [h x hm] at hl
  cases hl

set_option maxRecDepth 100000 in
set_option maxHeartbeats 800000 in
theorem ixH_any (ao : Option Addr) (n c : Nat) (l : List Ev) (w : World) (hr : RowAt w ao (evsCells l)) (hn : l.length = n) (hmax : n ≤ 1000000) :
    Calls Tryd.prog 40 #[.slice ao n c, .func (.func 26) #[] #[]] w fun e w' => e = .returned (.int .i64 (idxH l)) ∧ Below w.heap.size w w' := by
  have Hn := hidP hn
  clear hn
  go_enter Tryd.func40, Tryd.ntmps40
  go_wp2_with fail
  go_loopw [8] (fun v wr => ∃ k : Nat, v = .int .i64 k ∧ k ≤ n ∧ Hid (∀ y ∈ l.take k, isHid y = false) ∧ Below w.heap.size w wr) (fun v _ => n - (intOf v).toNat)
  case atStart => exact ⟨0, rfl, by omega, by show ∀ y ∈ l.take 0, _; simp, brefl _⟩
  case round =>
    obtain ⟨k, rfl, hk, HK, hb⟩ := hrel
    by_cases hlt : k < n
    · obtain ⟨b, o, rfl, hca⟩ := (hr.below hb).addr (by rw [length_evsCells, Hn.out]; omega)
      obtain ⟨x, hx⟩ : ∃ x, l[k]? = some x := ⟨_, List.getElem?_eq_getElem (by rw [Hn.out]; omega)⟩
      obtain ⟨x0, x1, x2, x3⟩ := evs_at hca k x hx
      have HX := hidP hx
      have hh := fun w => hid_any x w
      unfold evV at hh
      have HH := hidP hh
      clear hx hca hh
      cases hd : isHid x
      · go_wp2_with (go_at_call 26; refine (HH.out _).mono ?_; rw [hd]; rintro e w1 ⟨rfl, hb1⟩)
        have hK2 : Hid (∀ y ∈ l.take (k + 1), isHid y = false) := by
          intro y hy
          rw [List.take_add_one, HX.out] at hy
          rcases List.mem_append.1 hy with h | h
          · exact HK.out y h
          · simp at h
            subst h
            exact hd
        go_roundw
        case rel => exact ⟨k + 1, by go_num, by omega, hK2, bstep hb hb1⟩
        case measure => simp [intOf]; omega
      · go_wp2_with (go_at_call 26; refine (HH.out _).mono ?_; rw [hd]; rintro e w1 ⟨rfl, hb1⟩)
        go_ret
        exact ⟨by rw [idxH_found HK.out HX.out hd]; rfl, bstep hb hb1⟩
    · have hall : ∀ y ∈ l, isHid y = false := by
        intro y hy
        exact HK.out y (by rw [List.take_of_length_le (by rw [Hn.out]; omega)]; exact hy)
      have HA := hidP hall
      clear hall
      go_wp2
      go_ret
      exact ⟨by rw [idxH_none HA.out]; rfl, hb⟩

theorem owns_madeE (w : World) : (w.alloc (.cells #[] 28)).ownsRow w.heap.size 28 4 (.slice (some ⟨w.heap.size, 0, none⟩) 0 0) 0 [] :=
  ⟨rfl, .inr ⟨w.heap.size, 0, #[], rfl, Nat.le_refl _, heap_alloc_new w _, Nat.le_refl _, Nat.zero_le _, rfl, rfl⟩⟩

set_option maxRecDepth 100000 in
set_option maxHeartbeats 400000 in
theorem cloneEv_any (ao : Option Addr) (n c : Nat) (l : List Ev) (w : World) (hr : RowAt w ao (evsCells l)) (hn : l.length = n) (hmax : n ≤ 1000000) :
    Calls Tryd.prog 25 #[.slice ao n c] w (RetRow w 28 4 n (evsCells l)) := by
  have Hn := hidP hn
  clear hn
  cases ao with
  | none =>
    have hcs : evsCells l = [] := by
      rcases hr with h | ⟨b, o, h, _⟩
      · exact h
      · cases h
    have hl0 : l.length = 0 := by have := length_evsCells l; rw [hcs] at this; simp at this; omega
    have hn0 : n = 0 := by rw [← Hn.out, hl0]
    subst hn0
    rw [hcs]
    have heq := fun w => Lib.run_eql_slice_nil (P := Tryd.prog) w _ _ none 0 c 0 0 Tryd.underlying22
    go_enter Tryd.func25, Tryd.ntmps25
    go_wp2
    go_ret
    exact retRow_mk (World.ownsRow_nil _ _ _ _) (brefl _)
  | some a =>
    have heq := fun w => Lib.run_eql_slice_nil (P := Tryd.prog) w _ _ (some a) n c 0 0 Tryd.underlying22
    go_enter Tryd.func25, Tryd.ntmps25
    go_wp2_with (at_builtin; go_loud (refine (wpList_app _ rfl (.tmp 5) (.tmp 6) rfl Tryd.slEv w.heap.size (.slice (some ⟨w.heap.size, 0, none⟩) 0 0) 0 [] rfl (owns_madeE w) (some a) n c (evsCells l) rfl n (by omega) (hr.alloc _) (by rw [length_evsCells, Hn.out]) (evs_one _) (by omega) (by unfold maxLen; omega) (by simp) ?_)); intro a2 c2 w2 ho2 hg2 _)
    go_ret
    exact ⟨a2, c2, rfl, ho2, (bnew (brefl w) _).grown hg2 (by simp) (fun j hj => by simp [Value.ownBlock] at hj; omega)⟩
end Go.Proofs.YtdelflahmlfnfaaDoor
